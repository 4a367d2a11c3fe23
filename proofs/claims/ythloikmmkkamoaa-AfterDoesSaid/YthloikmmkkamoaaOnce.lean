/- The contract of AfterOnce: true. -/
import Derived.Test.YthloikmmkkamoaaOnceLaw
import Derived.Deep.CutRange
import Derived.Deep.CutBlock
namespace Go.Proofs.Ythloikmmkkamoaa
open Go.RowKit Go.Maps

/-! ### Whole arrays, without a look at their cells -/
section
variable {P : Program} {w : World} {ops : Array Oper} {rest : List Oper} {o : Oper} {a : Act} {Q : Exit → Act → World → Prop}
theorem wpList_build_zero (hgd : o.guard = none) (t e : TypeId) (n : Nat) (ho : o.op = .build t #[]) (ht : P.underlying t = some (.array n e)) (i : TypeInfo) (he : P.info? e = some i)
    (c : Array Value) (hz : ∀ w, (zeroValue t).run P w = .ok (.agg c) w) (h : wpList P ops Q rest (a.put o.dst (.agg c)) w) : wpList P ops Q (o :: rest) a w := by
  refine wpList_plain hgd fun K hK => ?_
  unfold Oper.wp execOp
  have hsz : ∀ w, (sizeOf e).run P w = .ok i.size w := fun w => by simp [sizeOf, typeInfo, he]
  simp [ho, Instr.build, hz, run_underlying ht, hsz, Value.cells, Instr.fill]
  exact hK _ _ h
theorem wpList_alloc_zero (hgd : o.guard = none) (t : TypeId) (ho : o.op = .alloc t)
    (c : Array Value) (hz : ∀ w, (zeroValue t).run P w = .ok (.agg c) w) (h : wpList P ops Q rest (a.put o.dst (.pointer (some ⟨w.heap.size, 0, none⟩))) (w.alloc (.cells c t))) : wpList P ops Q (o :: rest) a w := by
  refine wpList_plain hgd fun K hK => ?_
  unfold Oper.wp execOp
  simp [ho, Instr.alloc, hz, newVar, newRow, Value.cells]
  exact hK _ _ h
theorem guard_store (t : TypeId) (p v : Operand) (_ho : o.op = .store t p v) (h : wpList P ops Q (o :: rest) a w) : wpList P ops Q (o :: rest) a w := h
theorem setRow_same {b : Nat} {c : Array Value} {t : TypeId} (hb : w.heap[b]? = some (.cells c t (0, 0))) : w.setRow b c = w := by
  obtain ⟨hp, tp, dr, os, out⟩ := w
  simp only at hb
  simp only [World.setRow, World.mk.injEq, and_true]
  apply Array.ext_getElem?
  intro i
  rw [Array.getElem?_modify]
  by_cases h : b = i
  · subst h; simp [hb]
  · simp [h]
theorem wpList_store_same (hgd : o.guard = none) (t : TypeId) (p v : Operand) (ho : o.op = .store t p v) (hd : o.dst = none) (b : Nat) (c : Array Value)
    (hp : a.eval p = .pointer (some ⟨b, 0, none⟩)) (hv : a.eval v = .agg c) (hb : w.heap[b]? = some (.cells c t (0, 0))) (hi : (P.info? t).map (·.size) = some c.size) (h1 : c.all (·.oneCell') = true)
    (h : wpList P ops Q rest a w) : wpList P ops Q (o :: rest) a w := by
  refine wpList_plain hgd fun K hK => ?_
  have hst := run_storeVar_row (P := P) w b t t c c hb hi rfl h1
  rw [setRow_same hb] at hst
  unfold Oper.wp execOp
  simp [ho, hp, hv, Instr.storeAt, Instr.sureAddr, hst]
  exact hK _ _ (by rw [hd]; exact h)
end

theorem zero51 : ∃ c : Array Value, c.size = 40 ∧ (∀ i, i < 40 → c[i]? = some (.int .i64 0)) ∧ c.all (·.oneCell') = true ∧ (Try.prog.info? 51).map (·.size) = some c.size ∧ ∀ w, (zeroValue 51).run Try.prog w = .ok (.agg c) w :=
  ⟨Array.replicate 40 (.int .i64 0), by simp, fun i hi => by simp [hi], Array.all_eq_true_iff_forall_mem.2 (fun v hv => by simp at hv; subst hv; rfl), by kernel_rfl, Try.zeroValue51⟩
theorem zero52 : ∃ c : Array Value, c.size = 40 ∧ (∀ i, i < 40 → c[i]? = some (.bool false)) ∧ c.all (·.oneCell') = true ∧ (Try.prog.info? 52).map (·.size) = some c.size ∧ ∀ w, (zeroValue 52).run Try.prog w = .ok (.agg c) w :=
  ⟨Array.replicate 40 (.bool false), by simp, fun i hi => by simp [hi], Array.all_eq_true_iff_forall_mem.2 (fun v hv => by simp at hv; subst hv; rfl), by kernel_rfl, Try.zeroValue52⟩

/-- 'do' where it begins: what is told lies in new memory. -/
def FireDid (w : World) (F : Nat → Prop) (lb : Nat) (most : Int) (n : Nat) (r : List Reg × List Int) (e : Ending) (w' : World) : Prop :=
  ∃ A c, e = .returned (.tuple #[.int .i64 0, .int .i64 0, .bool false, .slice A r.2.length c]) ∧ Reads w' 1 A r.2.length (ints r.2) ∧ AList w' F lb r.1 most (n + 1) ∧ (∀ ad, A = some ad → w.heap.size < ad.block) ∧ Turn F w w'

set_option maxHeartbeats 800000 in
theorem do_fire_new {w : World} {F : Nat → Prop} {lb n : Nat} {rows : List Reg} {most : Int} (h : AList w F lb rows most n) (hlen : rows.length ≤ 200) (a b : Int) (A : Option Addr) (m c : Nat) (ons : List Int) (hm : m ≤ 100000)
    (hx : Reads w 1 A m (ints ons)) (hoff : 0 < m → Off F A) (hwf : ∀ k, k < m → wfi (ons.getD k 0)) :
    Calls Try.prog 10 #[.pointer (some ⟨lb, 0, none⟩), .agg #[.int .i64 2, .int .i64 a, .int .i64 b, .slice A m c]] w (FireDid w F lb most n (fireTo rows ons)) := by
  have t1 : Turn nowhere w (w.alloc (.cells #[.int .i64 2, .int .i64 a, .int .i64 b, .slice A m c] 34)) := (Turn.refl _ _).alloc _
  have H := Lib.hid (h.turn t1 (fun _ _ h => h))
  have HX := Lib.hid (hx.kept t1)
  have HOFF := Lib.hid hoff
  have HWF := Lib.hid hwf
  clear t1 h hx hoff hwf
  go_enter Try.func10, Try.ntmps10
  go_wp2_with fail
  refine (fire_any H.out hlen A m c ons hm HX.out HOFF.out HWF.out).mono ?_
  rintro e w' ⟨v, rfl, ho, hd, ht⟩
  have HO := Lib.hid ho
  have HD := Lib.hid hd
  have HT := Lib.hid ht
  clear ho hd ht
  go_wp2
  refine bodyPost_ret (four_slots rfl _ _ _) rfl ?_
  obtain ⟨A', c', hv, _, _⟩ := own_form HO.out
  have ho := HO.out
  subst hv
  refine ⟨A', c', rfl, Reads.of_own ho, HD.out.mono (Nat.le_succ _), ?_, ?_⟩
  · intro ad he
    subst he
    have h1 := (ho.lt ad.block rfl).1
    simp at h1
    omega
  · exact ((Turn.refl F w).alloc _).trans HT.out (fun _ _ h => h)

/-- 'do': what is told lies in new memory. -/
def DoNew (w : World) (F : Nat → Prop) (lb : Nat) (most : Int) (n : Nat) (r : List Reg × Ans) (e : Ending) (w' : World) : Prop :=
  ∃ A m c, e = .returned (.tuple #[.int .i64 r.2.k, .int .i64 r.2.e, .bool r.2.is, .slice A m c]) ∧ Reads w' 1 A m (ints r.2.out) ∧ m = r.2.out.length ∧
    ∃ G : Nat → Prop, AList w' G lb r.1 most (n + 1) ∧ (∀ k, G k → more F w w' k) ∧ (0 < m → ∀ ad, A = some ad → w.heap.size < ad.block) ∧ Turn F w w'

theorem do_else_out (most : Int) (rows : List Reg) (x : Act1) (h : x.dO ≠ 2) : (doTo most rows x).2.out = [] := by
  unfold doTo
  split
  · unfold addTo; split <;> rfl
  · split
    · unfold stopTo; split <;> rfl
    · first | rfl | (split <;> first | rfl | contradiction)

theorem do_new {w : World} {F : Nat → Prop} {lb n : Nat} {rows : List Reg} {most : Int} (h : AList w F lb rows most n) (hlen : rows.length ≤ 200) (hn : n ≤ 100000) (x : Act1) (A : Option Addr) (m c : Nat) (hm : m ≤ 100000)
    (hx : Reads w 1 A m (ints x.on)) (hoff : 0 < m → Off F A) (hwf : ∀ k, k < m → wfi (x.on.getD k 0)) (ha : wfi x.a) :
    Calls Try.prog 10 #[.pointer (some ⟨lb, 0, none⟩), .agg #[.int .i64 x.dO, .int .i64 x.a, .int .i64 x.b, .slice A m c]] w (DoNew w F lb most n (doTo most rows x)) := by
  by_cases h2 : x.dO = 2
  · obtain ⟨d, a, b, on⟩ := x
    simp only at h2
    subst h2
    have e : doTo most rows ⟨2, a, b, on⟩ = ((fireTo rows on).1, ⟨0, 0, false, (fireTo rows on).2⟩) := by simp [doTo]
    rw [e]
    refine (do_fire_new h hlen a b A m c on hm hx hoff hwf).mono ?_
    rintro e w' ⟨A', c', rfl, hr, ha', hnew, ht⟩
    exact ⟨A', _, c', rfl, hr, rfl, F, ha', more_of, fun _ => hnew, ht⟩
  · refine (do_calls h hlen hn x A m c hm hx hoff hwf ha).mono ?_
    rintro e w' ⟨A', m', c', rfl, hr, hm', G, ha', hg, _, ht⟩
    refine ⟨A', m', c', rfl, hr, hm', G, ha', hg, fun h0 => ?_, ht⟩
    rw [do_else_out most rows x h2] at hm'
    simp at hm'
    omega

theorem do_out_len (most : Int) (rows : List Reg) (x : Act1) : (doTo most rows x).2.out.length ≤ rows.length * x.on.length := by
  by_cases h : x.dO = 2
  · have e : (doTo most rows x).2.out = (fireTo rows x.on).2 := by simp [doTo, h]
    rw [e]
    exact fireTo_out _ _
  · rw [do_else_out most rows x h]; simp

/-- Behind the act, ahead of what is told. -/
def Mid (w w6 : World) (sb la xb k ml m5 : Nat) (A5 yA : Option Addr) (ym yc : Nat) (yo : List Int) (R : List Reg) : Prop :=
  ∃ (ro : List Reg) (out : List Int) (r1 : List Reg) (H : Nat → Prop) (zd : Int), AList w6 H la r1 40 (k + 1) ∧ (∀ q, H q → w.heap.size ≤ q) ∧ (∀ q, H q → q < sb ∨ sb + 2 < q) ∧ Turn nowhere w w6 ∧
    Arrs w6 sb ro ∧ Once ro out r1 ∧ ml = ro.length ∧ ml ≤ 40 ∧ r1 = R ∧ Sound r1 ∧ (zd = 2 → ∀ p, p < r1.length → ∀ d, d ∈ yo → (r1.getD p default).on = d → (r1.getD p default).state ≠ 1) ∧
    Reads w6 1 A5 m5 (ints out) ∧ m5 = out.length ∧ (0 < m5 → Off (fun x => x = sb) A5) ∧ w6.cell? ⟨xb, 0, none⟩ = some (.int .i64 zd) ∧ w6.cell? ⟨xb, 3, none⟩ = some (.slice yA ym yc)

theorem Mid.of {w w5 w6 : World} {sb la xb k ml m5 : Nat} {A5 yA : Option Addr} {ym yc : Nat} {yo : List Int} {R ro r1 : List Reg} {out : List Int} {H : Nat → Prop} {zd : Int}
    (ha : AList w5 H la r1 40 (k + 1)) (hl : ∀ q, H q → w.heap.size ≤ q) (hg : ∀ q, H q → q < sb ∨ sb + 2 < q) (ht : Turn nowhere w w5) (t6 : Turn (fun x => sb ≤ x ∧ x ≤ sb + 2) w5 w6) (hs : w.heap.size ≤ sb)
    (e0 : w5.cell? ⟨xb, 0, none⟩ = some (.int .i64 zd)) (e3 : w5.cell? ⟨xb, 3, none⟩ = some (.slice yA ym yc)) (hx : sb + 2 < xb)
    (hr : Arrs w6 sb ro) (ho : Once ro out r1) (hm : ml = ro.length) (hm40 : ml ≤ 40) (hR : r1 = R) (hsd : Sound r1)
    (hd : zd = 2 → ∀ p, p < r1.length → ∀ d, d ∈ yo → (r1.getD p default).on = d → (r1.getD p default).state ≠ 1)
    (hrd : Reads w5 1 A5 m5 (ints out)) (hm5 : m5 = out.length) (hoff : 0 < m5 → ∀ ad, A5 = some ad → sb + 2 < ad.block) : Mid w w6 sb la xb k ml m5 A5 yA ym yc yo R := by
  refine ⟨ro, out, r1, H, zd, ha.turn t6 (fun q h1 h2 => by have := hg q h1; omega), hl, hg, ht.trans t6 (fun q h1 h2 => by omega), hr, ho, hm, hm40, hR, hsd, hd, ?_, hm5, ?_, t6.cell e0 (fun h => by have := h.2; simp at this; omega), t6.cell e3 (fun h => by have := h.2; simp at this; omega)⟩
  · rcases Nat.eq_zero_or_pos m5 with h0 | h0
    · refine ⟨hrd.1, fun h => absurd h (by omega)⟩
    · exact hrd.turn t6 (fun ad he h => by have := hoff h0 ad he; omega)
  · intro h0 ad he h
    have := hoff h0 ad he
    omega

/-- Three new blocks. -/
theorem three_new (w : World) (a b c : Obj) : (((w.alloc a).alloc b).alloc c).heap[w.heap.size]? = some a ∧ (((w.alloc a).alloc b).alloc c).heap[(w.alloc a).heap.size]? = some b ∧ (((w.alloc a).alloc b).alloc c).heap[((w.alloc a).alloc b).heap.size]? = some c := by
  have s1 : (w.alloc a).heap.size = w.heap.size + 1 := by simp
  have s2 : ((w.alloc a).alloc b).heap.size = w.heap.size + 1 + 1 := by simp
  refine ⟨?_, ?_, ?_⟩
  · rw [Below.heap_alloc _ _ _ (by omega), Below.heap_alloc _ _ _ (by omega), heap_alloc_new]
  · rw [Below.heap_alloc _ _ _ (by omega), heap_alloc_new]
  · rw [heap_alloc_new]

set_option maxRecDepth 20000 in
set_option maxHeartbeats 1600000 in
theorem once_core (w : World) (A : Option Addr) (n c : Nat) (l : List ActC) (hl : l.length = n)
    (hok : ∀ k, k < n → ActOK w w.heap.size (l.getD k default)) (hr : Reads w 4 A n (acts l)) (hsm : largeB l = false) :
    Calls Try.prog 4 #[.slice A n c] w (OkTrue w) := by
  obtain ⟨hn, hms⟩ := small_of hsm
  rw [hl] at hn hms
  have HK := Lib.hid hok
  have HR := Lib.hid hr
  have HL := Lib.hid hl
  have HS := Lib.hid hsm
  have HMS := Lib.hid hms
  clear hok hr hl hsm hms
  obtain ⟨c51, hs51, hv51, h51, hi51, hz51⟩ := zero51
  obtain ⟨c52, hs52, hv52, h52, hi52, hz52⟩ := zero52
  obtain ⟨j3, hj3⟩ := Option.isSome_iff_exists.1 (show (Try.prog.info? 3).isSome = true by kernel_rfl)
  obtain ⟨j4, hj4⟩ := Option.isSome_iff_exists.1 (show (Try.prog.info? 4).isSome = true by kernel_rfl)
  have HS1 := Lib.hid hs51
  have HS2 := Lib.hid hs52
  clear hs51 hs52
  have HZ1 := Lib.hid hz51
  have HZ2 := Lib.hid hz52
  have HV1 := Lib.hid hv51
  have HV2 := Lib.hid hv52
  have HO1 := Lib.hid h51
  have HO2 := Lib.hid h52
  have HI1 := Lib.hid hi51
  have HI2 := Lib.hid hi52
  have HJ3 := Lib.hid hj3
  have HJ4 := Lib.hid hj4
  clear hz51 hz52 hv51 hv52 h51 h52 hi51 hi52 hj3 hj4
  go_enter Try.func4, Try.ntmps4
  go_wp2_with fail
  refine (awake_calls w).mono ?_
  rintro e w1 ⟨rfl, ht⟩
  have HT1 := Lib.hid ht
  clear ht
  go_wp2_with fail
  refine (large_calls _ n c l w1 (HR.out.kept HT1.out) (by omega) (fun k hk => (HK.out k hk).2.2.2.2)).mono ?_
  rintro e w2 ⟨he, ht⟩
  rw [HS.out] at he
  subst he
  have HT2 := Lib.hid (HT1.out.trans ht (fun _ _ h => h))
  clear ht
  go_wp2_with fail
  refine (new_ok 40 w2 (by omega) (by omega)).mono ?_
  rintro e w3 ⟨la, rfl, ha, ht⟩
  have HA3 := Lib.hid ha
  have HT3 := Lib.hid (HT2.out.trans ht (fun _ _ h => h))
  have HL3 := Lib.hid (show ∀ k, fresh w2 w3 k → w.heap.size ≤ k from fun k h => by have := HT2.out.size; have := h.1; omega)
  clear ha ht
  obtain ⟨hb5, hb6, hb7⟩ := three_new w3 (.cells c51 51) (.cells c52 52) (.cells c51 51)
  have HB5 := Lib.hid hb5
  have HB6 := Lib.hid hb6
  have HB7 := Lib.hid hb7
  clear hb5 hb6 hb7
  go_wp2_with (first
    | (with_reducible refine wpList_build_zero rfl 51 3 40 rfl Try.underlying51 j3 HJ3.out c51 HZ1.out ?_)
    | (with_reducible refine wpList_build_zero rfl 52 4 40 rfl Try.underlying52 j4 HJ4.out c52 HZ2.out ?_)
    | (with_reducible refine wpList_alloc_zero rfl 51 rfl c51 HZ1.out ?_)
    | (with_reducible refine wpList_alloc_zero rfl 52 rfl c52 HZ2.out ?_)
    | ((with_reducible refine guard_store 51 (.tmp 5) (.tmp 30) rfl ?_); refine wpList_store_same rfl 51 (.tmp 5) (.tmp 30) rfl rfl w3.heap.size c51 (by go_simp) (by go_simp) HB5.out HI1.out HO1.out ?_)
    | ((with_reducible refine guard_store 52 (.tmp 6) (.tmp 31) rfl ?_); refine wpList_store_same rfl 52 (.tmp 6) (.tmp 31) rfl rfl (w3.alloc (.cells c51 51)).heap.size c52 (by go_simp) (by go_simp) HB6.out HI2.out HO2.out ?_)
    | ((with_reducible refine guard_store 51 (.tmp 7) (.tmp 32) rfl ?_); refine wpList_store_same rfl 51 (.tmp 7) (.tmp 32) rfl rfl ((w3.alloc (.cells c51 51)).alloc (.cells c52 52)).heap.size c51 (by go_simp) (by go_simp) HB7.out HI1.out HO1.out ?_))
  have HR8 := Lib.hid (show Arrs (((w3.alloc (.cells c51 51)).alloc (.cells c52 52)).alloc (.cells c51 51)) w3.heap.size (run 40 (actsOf (l.take 0))) from
    ⟨⟨c51, HB5.out, HS1.out, fun i hi => by rw [HV1.out i hi]; simp [f5, actsOf, run]; decide⟩, ⟨c52, by have := HB6.out; simpa using this, HS2.out, fun i hi => by rw [HV2.out i hi]; simp [f6, actsOf, run]; decide⟩,
      ⟨c51, by have := HB7.out; simpa using this, HS1.out, fun i hi => by rw [HV1.out i hi]; simp [f7, actsOf, run]; rfl⟩⟩)
  have t8 : Turn nowhere w3 (((w3.alloc (.cells c51 51)).alloc (.cells c52 52)).alloc (.cells c51 51)) := (((Turn.refl _ _).alloc _).alloc _).alloc _
  have HA8 := Lib.hid (HA3.out.turn t8 (fun _ _ h => h))
  have HT8 := Lib.hid (HT3.out.trans t8 (fun _ _ h => h))
  have HG8 := Lib.hid (show ∀ q, fresh w2 w3 q → q < w3.heap.size ∨ w3.heap.size + 2 < q from fun q h => .inl h.2)
  have hsb3 : w.heap.size ≤ w3.heap.size := HT3.out.size
  obtain ⟨sb, hsb⟩ : ∃ sb, sb = w3.heap.size := ⟨_, rfl⟩
  clear t8 HB5 HB6 HB7 HA3 HT3 HT2 HT1 HZ1 HZ2 HV1 HV2 HO1 HO2 HI1 HI2 HS1 HS2 HJ3 HJ4
  generalize (((w3.alloc (.cells c51 51)).alloc (.cells c52 52)).alloc (.cells c51 51)) = w8 at HR8 HA8 HT8
  generalize fresh w2 w3 = G0 at HA8 HG8 HL3
  simp only [← hsb] at HR8 HG8 hsb3 ⊢
  clear hsb
  go_loopg [8, 35] n (fun g v i wr => ∃ k : Nat, g = n - k ∧ k ≤ n ∧ i = .int .i64 k ∧ v = .int .i64 ((run 40 (actsOf (l.take k))).length : Nat) ∧
    Hid (∃ G : Nat → Prop, AList wr G la (run 40 (actsOf (l.take k))) 40 k ∧ (∀ q, G q → w.heap.size ≤ q) ∧ (∀ q, G q → q < sb ∨ sb + 2 < q)) ∧ Hid (Arrs wr sb (run 40 (actsOf (l.take k)))) ∧ Hid (Turn nowhere w wr))
  case atStart => exact ⟨0, rfl, Nat.zero_le _, rfl, by simp [actsOf, run], ⟨_, HA8.out, HL3.out, HG8.out⟩, HR8, HT8⟩
  case round =>
    obtain ⟨k, rfl, hk, rfl, rfl, HP, HR1, HT⟩ := hrel
    have h0 : (0 : Int) ≤ (k : Int) := by omega
    clear HA8 HL3 HG8 HR8 HT8
    by_cases hlt : k < n
    · have h1 : (k : Int) < (n : Int) := by omega
      obtain ⟨b, off, rfl, hx⟩ := HR.out.act (by omega)
      have ha := (hx k hlt).turn HT.out (fun h => h)
      clear hx
      have HOK := Lib.hid (HK.out k hlt)
      have hm6 := HMS.out k hlt
      have HTK := Lib.hid (actsOf_snoc l k (by rw [HL.out]; exact hlt))
      generalize l.getD k default = y at ha HOK hm6 HTK
      obtain ⟨yd, ya, yb, yA, ym, yc, yo⟩ := y
      obtain ⟨a0, a1, a2, a3⟩ := ha
      simp only at a0 a1 a2 a3 hm6
      have hrl : (run 40 (actsOf (l.take k))).length ≤ 40 := run_len 40 (actsOf (l.take k))
      have HSO := Lib.hid (run_sound 40 (actsOf (l.take k)))
      obtain ⟨rows, hrows⟩ : ∃ r, r = run 40 (actsOf (l.take k)) := ⟨_, rfl⟩
      have HRW := Lib.hid hrows
      rw [← hrows] at HP HR1 hrl HSO ⊢
      clear hrows
      have hrl2 : rows.length ≤ 200 := by omega
      obtain ⟨G, hA, hL, hG⟩ := HP.out
      have t1 : Turn nowhere wr (wr.alloc (.cells #[.int .i64 yd, .int .i64 ya, .int .i64 yb, .slice yA ym yc] 34)) := (Turn.refl _ _).alloc _
      have HA := Lib.hid (hA.turn t1 (fun _ _ h => h))
      have HFB := Lib.hid hA.fb
      have HL1 := Lib.hid hL
      have HG1 := Lib.hid hG
      have HT1 := Lib.hid t1
      have hsb4 : sb + 2 < wr.heap.size := HR1.out.on.lt
      obtain ⟨rl, hrle⟩ : ∃ rl, rl = rows.length := ⟨_, rfl⟩
      have HRL := Lib.hid hrle
      rw [← hrle] at hrl ⊢
      clear hA hL hG t1 hrle HP
      have hdn := do_new HA.out hrl2 (by omega) ⟨yd, ya, yb, yo⟩ yA ym yc (by omega) ((HOK.out.1.kept HT.out).kept HT1.out) (HOK.out.off HL1.out) HOK.out.2.2.1 HOK.out.2.1
      have HSN := Lib.hid (HSO.out.doTo 40 ⟨yd, ya, yb, yo⟩)
      have HRN := Lib.hid (show (doTo 40 rows ⟨yd, ya, yb, yo⟩).1 = run 40 (actsOf (l.take (k + 1))) by rw [HTK.out, run_snoc, ← HRW.out]; rfl)
      have hob := do_out_len 40 rows ⟨yd, ya, yb, yo⟩
      have hob2 : rows.length * yo.length ≤ 200 * 60 := Nat.mul_le_mul hrl2 (by have := HOK.out.1.1; simp at this; omega)
      generalize hr : doTo 40 rows ⟨yd, ya, yb, yo⟩ = r at hdn HSN HRN hob
      obtain ⟨r1, rk, re, ris, rout⟩ := r
      have HDC := Lib.hid hdn
      have HDO := Lib.hid hr
      clear hdn hr
      simp only at HSN HRN hob
      have hob3 : rout.length ≤ 12000 := Nat.le_trans hob hob2
      clear hob hob2
      go_wp2_with fail
      refine HDC.out.mono ?_
      clear HDC
      rintro e w5 ⟨A5, m5, c5, rfl, hrd, hm5, H, hA5, hGm, hnew, ht5⟩
      simp only at hrd hm5 hA5 ⊢
      have hm5b : m5 ≤ 12000 := by omega
      have HRD := Lib.hid hrd
      have HM5 := Lib.hid hm5
      have HA5 := Lib.hid hA5
      have HL5 := Lib.hid (show ∀ q, H q → w.heap.size ≤ q from fun q h => least_step (HT.out.alloc _) HL1.out q (hGm q h))
      have HG5 := Lib.hid (show ∀ q, H q → q < sb ∨ sb + 2 < q from fun q h => by
        rcases hGm q h with h3 | h3
        · exact HG1.out q h3
        · have h4 := h3.1; simp at h4; omega)
      have HNW := Lib.hid (show 0 < m5 → ∀ ad, A5 = some ad → sb + 2 < ad.block from fun h0 ad he => by have := hnew h0 ad he; simp at this; omega)
      have HT5 := Lib.hid (below_step (HT.out.alloc (.cells #[.int .i64 yd, .int .i64 ya, .int .i64 yb, .slice yA ym yc] 34)) ht5 HL1.out)
      have HR5 := Lib.hid (((HR1.out.turn HT1.out (fun h => h) (fun h => h) (fun h => h)).turn ht5 (fun h => by have := HG1.out _ h; omega) (fun h => by have := HG1.out _ h; omega) (fun h => by have := HG1.out _ h; omega)))
      have hnb : ¬ G wr.heap.size := fun h => Nat.lt_irrefl _ (HFB.out _ h)
      have HE0 := Lib.hid (ht5.cell (p := ⟨wr.heap.size, 0, none⟩) (v := .int .i64 yd) (by simp) hnb)
      have HE1 := Lib.hid (ht5.cell (p := ⟨wr.heap.size, 1, none⟩) (v := .int .i64 ya) (by simp) hnb)
      have HE3 := Lib.hid (ht5.cell (p := ⟨wr.heap.size, 3, none⟩) (v := .slice yA ym yc) (by simp) hnb)
      clear hob3 hrd hm5 hA5 hGm hnew ht5 hnb HA HFB HL1 HG1 HR1 HT1
      go_upto_block 2 with fail
      go_cut [8] from 36 to 152 (fun s8 wx => ∃ ml : Nat, s8 = .int .i64 ml ∧ Hid (Mid w wx sb la wr.heap.size k ml m5 A5 yA ym yc yo (run 40 (actsOf (l.take (k + 1))))))
      case first =>
        have e0 := HE0.out
        have e1 := HE1.out
        have e3 := HE3.out
        by_cases hd0 : yd = 0
        case pos =>
          subst yd
          by_cases hfull : (rl : Int) = 40
          case pos =>
            have hdo : doTo 40 rows ⟨0, ya, yb, yo⟩ = (rows, ⟨-1, 2, false, []⟩) := by simp only [doTo, if_true, addTo]; rw [← HRL.out, if_pos hfull]
            have hj := HDO.out.symm.trans hdo
            simp only [Prod.mk.injEq, Ans.mk.injEq] at hj
            obtain ⟨hj1, hj2, hj3, hj4, hj5⟩ := hj
            rw [hj1] at HA5 HSN HRN
            clear hj1
            subst rk
            subst re
            subst ris
            subst rout
            clear hdo
            clear hfull
            go_wp2_with fail
            go_meet
            case rel =>
              exact ⟨rl, rfl, Mid.of HA5.out HL5.out HG5.out HT5.out (Turn.refl _ _) hsb3 HE0.out HE3.out hsb4 (HR5.out) (Once.none_ _) (HRL.out) (hrl) HRN.out HSN.out (fun h => absurd h (by omega)) HRD.out HM5.out HNW.out⟩
          case neg =>
            have hdo : doTo 40 rows ⟨0, ya, yb, yo⟩ = (rows ++ [⟨ya, yb, 1⟩], ⟨rl, 0, false, []⟩) := by simp only [doTo, if_true, addTo]; rw [← HRL.out, if_neg hfull]
            have hj := HDO.out.symm.trans hdo
            simp only [Prod.mk.injEq, Ans.mk.injEq] at hj
            obtain ⟨hj1, hj2, hj3, hj4, hj5⟩ := hj
            rw [hj1] at HA5 HSN HRN
            clear hj1
            subst rk
            subst re
            subst ris
            subst rout
            clear hdo
            have hr40 : (rl : Int) < 40 := by omega
            clear hfull
            have c7 := HR5.out.on.cell (i := rl) (by omega)
            have z7 := HR5.out.on.frozen rl
            have hr00 : (0 : Int) ≤ (rl : Int) := by omega
            go_wp2_with fail
            go_meet
            case rel =>
              exact ⟨rl + 1, by go_num, Mid.of HA5.out HL5.out HG5.out HT5.out ((Turn.refl _ _).setCell (.inl (by simp; omega)) _) hsb3 HE0.out HE3.out hsb4 (by have h := HR5.out.added ya yb; rw [← HRL.out] at h; exact h) (Once.none_ _) (by simp [HRL.out]) (by omega) HRN.out HSN.out (fun h => absurd h (by omega)) HRD.out HM5.out HNW.out⟩
        case neg =>
          by_cases hd1 : yd = 1
          case pos =>
            clear hd0
            subst yd
            by_cases hs : canStop rows ya = true
            case pos =>
              obtain ⟨q, hqq, hql, hst⟩ := canStop_yes hs
              have hdo : doTo 40 rows ⟨1, ya, yb, yo⟩ = (setSt rows q 3, ⟨0, 0, true, []⟩) := by
                show stopTo rows ya = _
                unfold stopTo
                rw [if_pos hs, hqq, Int.toNat_natCast]
              have hj := HDO.out.symm.trans hdo
              simp only [Prod.mk.injEq, Ans.mk.injEq] at hj
              obtain ⟨hj1, hj2, hj3, hj4, hj5⟩ := hj
              rw [hj1] at HA5 HSN HRN
              clear hj1
              subst rk
              subst re
              subst ris
              subst rout
              clear hdo
              rw [← HRL.out] at hql
              have HST := Lib.hid hst
              have hq0 : (0 : Int) ≤ (q : Int) := by omega
              have hq1 : (q : Int) < (rl : Int) := by omega
              have hq40 : (q : Int) < 40 := by omega
              have hqa : decide ((q : Int) < 0) = false := by simp
              have hqb : decide ((rl : Int) ≤ (q : Int)) = false := by simp; omega
              clear hs hst
              subst ya
              have c6 := HR5.out.stopped.cell (i := q) (by omega)
              have z6 := HR5.out.stopped.frozen q
              go_wp2_with fail
              go_meet
              case rel =>
                exact ⟨rl, rfl, Mid.of HA5.out HL5.out HG5.out HT5.out ((Turn.refl _ _).setCell (.inl (by simp)) _) hsb3 HE0.out HE3.out hsb4 (HR5.out.stop q (by rw [← HRL.out]; exact hql) HST.out) (Once.none_ _) (by rw [setSt_len]; exact HRL.out) (hrl) HRN.out HSN.out (fun h => absurd h (by omega)) HRD.out HM5.out HNW.out⟩
            case neg =>
              have hdo : doTo 40 rows ⟨1, ya, yb, yo⟩ = (rows, ⟨0, 0, false, []⟩) := by
                show stopTo rows ya = _
                unfold stopTo
                rw [if_neg hs]
              have hj := HDO.out.symm.trans hdo
              simp only [Prod.mk.injEq, Ans.mk.injEq] at hj
              obtain ⟨hj1, hj2, hj3, hj4, hj5⟩ := hj
              rw [hj1] at HA5 HSN HRN
              clear hj1
              subst rk
              subst re
              subst ris
              subst rout
              clear hdo
              clear hs
              go_wp2_with fail
              go_meet
              case rel =>
                exact ⟨rl, rfl, Mid.of HA5.out HL5.out HG5.out HT5.out (Turn.refl _ _) hsb3 HE0.out HE3.out hsb4 (HR5.out) (Once.none_ _) (HRL.out) (hrl) HRN.out HSN.out (fun h => absurd h (by omega)) HRD.out HM5.out HNW.out⟩
          case neg =>
            by_cases hd2 : yd = 2
            case pos =>
              clear hd0 hd1
              subst yd
              have hdo : doTo 40 rows ⟨2, ya, yb, yo⟩ = ((fireTo rows yo).1, ⟨0, 0, false, (fireTo rows yo).2⟩) := by simp [doTo]
              have hj := HDO.out.symm.trans hdo
              simp only [Prod.mk.injEq, Ans.mk.injEq] at hj
              obtain ⟨hj1, hj2, hj3, hj4, hj5⟩ := hj
              rw [hj1] at HA5 HSN HRN
              clear hj1
              subst rk
              subst re
              subst ris
              subst rout
              clear hdo
              go_wp2_with fail
              go_meet
              case rel =>
                exact ⟨rl, rfl, Mid.of HA5.out HL5.out HG5.out HT5.out (Turn.refl _ _) hsb3 HE0.out HE3.out hsb4 (HR5.out) (fire_once _ _) (HRL.out) (hrl) HRN.out HSN.out (fun _ p hp d hd ho => fire_all rows yo p (by rw [fireTo_len] at hp; exact hp) d hd ho) HRD.out HM5.out HNW.out⟩
            case neg =>
              have hdo : doTo 40 rows ⟨yd, ya, yb, yo⟩ = (rows, ⟨0, 0, false, []⟩) := by simp [doTo, hd0, hd1, hd2]
              have hj := HDO.out.symm.trans hdo
              simp only [Prod.mk.injEq, Ans.mk.injEq] at hj
              obtain ⟨hj1, hj2, hj3, hj4, hj5⟩ := hj
              rw [hj1] at HA5 HSN HRN
              clear hj1
              subst rk
              subst re
              subst ris
              subst rout
              clear hdo
              have hb0 : (yd == 0) = false := beq_eq_false_iff_ne.2 hd0
              have hb1 : (yd == 1) = false := beq_eq_false_iff_ne.2 hd1
              have HD2 := Lib.hid hd2
              clear hd0 hd1 hd2
              go_wp2_with fail
              go_meet
              case rel =>
                exact ⟨rl, rfl, Mid.of HA5.out HL5.out HG5.out HT5.out (Turn.refl _ _) hsb3 HE0.out HE3.out hsb4 (HR5.out) (Once.none_ _) (HRL.out) (hrl) HRN.out HSN.out (fun h => absurd h HD2.out) HRD.out HM5.out HNW.out⟩
      case rest =>
        clear HRD HM5 HA5 HL5 HG5 HNW HT5 HR5 HE0 HE1 HE3 HDO HSN HRN
        obtain ⟨ml, rfl, HMID⟩ := hcut
        obtain ⟨ro, out, r1, H, zd, h01, h02, h03, h04, h05, h06, h07, h08, h09, h10, h11, h12, h13, h14, h15, h16⟩ := HMID.out
        have HA6 := Lib.hid h01
        have HL6 := Lib.hid h02
        have HG6 := Lib.hid h03
        have HT6 := Lib.hid h04
        have HR6 := Lib.hid h05
        have HON := Lib.hid h06
        have HML := Lib.hid h07
        have hml40 := h08
        have HRN := Lib.hid h09
        have HSD := Lib.hid h10
        have HDU := Lib.hid h11
        have HRD := Lib.hid h12
        have HM5 := Lib.hid h13
        have HOF := Lib.hid h14
        have HE0 := Lib.hid h15
        have HE3 := Lib.hid h16
        clear h01 h02 h03 h04 h05 h06 h07 h08 h09 h10 h11 h12 h13 h14 h15 h16 HMID HSO HRW HRL
        generalize wc = w6 at HA6 HT6 HR6 HRD HE0 HE3
        go_wp2_with fail
        go_loopw [89] (fun i wq => ∃ j : Nat, j ≤ m5 ∧ i = .int .i64 j ∧ Hid (Arrs wq sb (setAll ro (out.take j))) ∧ Hid (Turn (fun x => x = sb) w6 wq)) (fun i _ => m5 - (intOf i).toNat)
        case atStart => exact ⟨0, Nat.zero_le _, rfl, HR6, Turn.refl _ _⟩
        case round =>
          obtain ⟨j, hj, rfl, HRq, HTq⟩ := hrel
          have hj0 : (0 : Int) ≤ (j : Int) := by omega
          by_cases hlj : j < m5
          case pos =>
            have hj1 : (j : Int) < (m5 : Int) := by omega
            obtain ⟨q, hqo, hql, hqs⟩ := HON.out.one j (by rw [← HM5.out]; exact hlj)
            obtain ⟨ob, oo, rfl, hoc⟩ := HRD.out.2 (by omega)
            have hc := hoc j _ (ints_at (by rw [← HM5.out]; exact hlj))
            rw [hqo] at hc
            have c0 := HTq.out.cell hc (show ¬ (fun x => x = sb) (⟨ob, oo + j, none⟩ : Addr).block from HOF.out (by omega) ⟨ob, oo, none⟩ rfl)
            rw [← HML.out] at hql
            have c5 : wr.cell? ⟨sb, q, none⟩ = some (.int .i64 0) := by rw [HRq.out.begun.cell (by omega)]; unfold f5; rw [hqs]; rfl
            have z5 := HRq.out.begun.frozen q
            have c6 : wr.cell? ⟨sb + 1, q, none⟩ = some (.bool false) := by rw [HRq.out.stopped.cell (by omega)]; unfold f6; rw [hqs]; rfl
            have HBG := Lib.hid (HRq.out.begin_ q (by rw [setAll_len, ← HML.out]; exact hql) hqs)
            have HTK2 := Lib.hid (show setAll ro (out.take (j + 1)) = setSt (setAll ro (out.take j)) q 2 from by
              have hjl : j < out.length := by rw [← HM5.out]; exact hlj
              rw [List.take_succ_eq_append_getElem hjl, setAll_snoc]
              simp only [List.getD, List.getElem?_eq_getElem hjl, Option.getD_some] at hqo
              rw [hqo, Int.toNat_natCast])
            have hq0 : (0 : Int) ≤ (q : Int) := by omega
            have hq1 : (q : Int) < (ml : Int) := by omega
            have hq40 : (q : Int) < 40 := by omega
            have hqa : decide ((q : Int) < 0) = false := by simp
            have hqb : decide ((ml : Int) ≤ (q : Int)) = false := by simp; omega
            have HT2 := Lib.hid (HTq.out.setCell (p := ⟨sb, q, none⟩) (.inl rfl) (.int .i64 1))
            clear hqo hqs hoc hc
            go_wp2
            go_roundw
            case rel => exact ⟨j + 1, by omega, by go_num, by rw [HTK2.out]; exact HBG, HT2⟩
            case measure => simp [intOf]; omega
          case neg =>
            obtain rfl : j = m5 := by omega
            obtain ⟨wq, hwq⟩ : ∃ x, x = wr := ⟨_, rfl⟩
            subst hwq
            have htk : out.take j = out := by rw [HM5.out]; exact List.take_length
            rw [htk, ← HON.out.all] at HRq
            have HT7 := Lib.hid (below_step HT6.out HTq.out (fun x hx => by omega))
            have HA7 := Lib.hid (HA6.out.turn HTq.out (fun x h1 h2 => by have := HG6.out x h1; omega))
            have HF0 := Lib.hid (HTq.out.cell HE0.out (by simp; omega))
            have HF3 := Lib.hid (HTq.out.cell HE3.out (by simp; omega))
            have hml : (0 : Int) ≤ (ml : Int) := by omega
            clear htk hlj HA6 HT6 HR6 HE0 HE3 HRD HOF
            go_wp2_with fail
            go_loopw [118] (fun i wz => ∃ p : Nat, p ≤ ml ∧ i = .int .i64 p ∧ Hid (Turn nowhere wq wz)) (fun i _ => ml - (intOf i).toNat)
            case atStart => exact ⟨0, Nat.zero_le _, rfl, Turn.refl _ _⟩
            case round =>
              obtain ⟨p, hp, rfl, HTz⟩ := hrel
              have hp0 : (0 : Int) ≤ (p : Int) := by omega
              by_cases hlp : p < ml
              case pos =>
                have hp1 : (p : Int) < (ml : Int) := by omega
                have f3 := HTz.out.cell HF3.out (fun h => h)
                have hpl : p < r1.length := by rw [HON.out.all, setAll_len, ← HML.out]; exact hlp
                have HSP := Lib.hid (HSD.out p hpl)
                have hp40 : (p : Int) < 40 := by omega
                go_wp2_with fail
                go_loopw [124] (fun i wy => ∃ d : Nat, d ≤ ym ∧ i = .int .i64 d ∧ Hid (Turn nowhere wq wy)) (fun i _ => ym - (intOf i).toNat)
                case atStart => exact ⟨0, Nat.zero_le _, rfl, HTz⟩
                case round =>
                  obtain ⟨d, hd, rfl, HTy⟩ := hrel
                  have hd0 : (0 : Int) ≤ (d : Int) := by omega
                  clear f3
                  by_cases hld : d < ym
                  case pos =>
                    have hd1 : (d : Int) < (ym : Int) := by omega
                    have hrr : Reads w 1 yA ym (ints yo) := HOK.out.1
                    have hyl : yo.length = ym := by have := hrr.1; simpa using this
                    obtain ⟨g, o, rfl, hyc⟩ := hrr.2 (by omega)
                    have c0 := (HT7.out.trans HTy.out (fun _ _ h => h)).cell (hyc d _ (ints_at (by omega))) (fun h => h)
                    have f0 := HTy.out.cell HF0.out (fun h => h)
                    have c5 : wr.cell? ⟨sb, p, none⟩ = some (f5 r1 p) := (HRq.out.turn HTy.out (fun h => h) (fun h => h) (fun h => h)).begun.cell (by omega)
                    have c6 : wr.cell? ⟨sb + 1, p, none⟩ = some (f6 r1 p) := (HRq.out.turn HTy.out (fun h => h) (fun h => h) (fun h => h)).stopped.cell (by omega)
                    have c7 : wr.cell? ⟨sb + 1 + 1, p, none⟩ = some (f7 r1 p) := (HRq.out.turn HTy.out (fun h => h) (fun h => h) (fun h => h)).on.cell (by omega)
                    have HDP := Lib.hid (fun h2 : zd = 2 => HDU.out h2 p hpl (yo.getD d 0) (by
                      simp only [List.getD, List.getElem?_eq_getElem (show d < yo.length by omega), Option.getD_some]
                      exact List.getElem_mem _))
                    have hsp := HSP.out
                    unfold f5 at c5
                    unfold f6 at c6
                    unfold f7 at c7
                    obtain ⟨v, hv⟩ : ∃ v, v = yo.getD d 0 := ⟨_, rfl⟩
                    obtain ⟨u, hu⟩ : ∃ u, u = r1.getD p default := ⟨_, rfl⟩
                    rw [← hv] at c0 HDP
                    rw [← hu] at c5 c6 c7 HDP hsp
                    obtain ⟨uo, ut, us⟩ := u
                    simp only at c5 c6 c7 HDP hsp
                    clear hv hu hyc hrr
                    have HY := Lib.hid hyl
                    clear hyl
                    by_cases hz2 : zd = 2
                    case neg =>
                      have hzb : (zd == 2) = false := beq_eq_false_iff_ne.2 hz2
                      clear hz2 hsp c5 c6 c7
                      go_wp2
                      go_roundw
                      case rel => exact ⟨d + 1, by omega, by go_num, HTy⟩
                      case measure => simp [intOf]; omega
                    case pos =>
                      subst zd
                      by_cases hon : v = uo
                      case neg =>
                        have hvb : (v == uo) = false := beq_eq_false_iff_ne.2 hon
                        clear hon hsp c5 c6
                        go_wp2
                        go_roundw
                        case rel => exact ⟨d + 1, by omega, by go_num, HTy⟩
                        case measure => simp [intOf]; omega
                      case pos =>
                        have hne := HDP.out rfl hon.symm
                        rcases hsp with hs | hs | hs
                        · exact absurd hs hne
                        · subst hs
                          subst hon
                          clear hne
                          have c5' : wr.cell? ⟨sb, p, none⟩ = some (.int .i64 1) := c5
                          have c6' : wr.cell? ⟨sb + 1, p, none⟩ = some (.bool false) := c6
                          clear c5 c6
                          go_wp2
                          go_roundw
                          case rel => exact ⟨d + 1, by omega, by go_num, HTy⟩
                          case measure => simp [intOf]; omega
                        · subst hs
                          subst hon
                          clear hne
                          have c5' : wr.cell? ⟨sb, p, none⟩ = some (.int .i64 0) := c5
                          have c6' : wr.cell? ⟨sb + 1, p, none⟩ = some (.bool true) := c6
                          clear c5 c6
                          go_wp2
                          go_roundw
                          case rel => exact ⟨d + 1, by omega, by go_num, HTy⟩
                          case measure => simp [intOf]; omega
                  case neg =>
                    obtain rfl : d = ym := by omega
                    go_wp2
                    go_roundw
                    case rel => exact ⟨p + 1, by omega, by go_num, HTy⟩
                    case measure => simp [intOf]; omega
              case neg =>
                obtain rfl : p = ml := by omega
                go_wp2
                go_roundg (n - (k + 1))
                case rel =>
                  refine ⟨k + 1, rfl, by omega, by go_num, ?_, ⟨H, ?_, HL6.out, HG6.out⟩, ?_, HT7.out.trans HTz.out (fun _ _ h => h)⟩
                  · rw [← HRN.out, HON.out.all, setAll_len, ← HML.out]
                  · rw [← HRN.out]; exact HA7.out.turn HTz.out (fun _ _ h => h)
                  · rw [← HRN.out]; exact HRq.out.turn HTz.out (fun h => h) (fun h => h) (fun h => h)
                case measure => omega
    · obtain rfl : k = n := by omega
      go_wp2
      go_ret
      exact ⟨rfl, HT.out⟩

set_option maxHeartbeats 400000 in
/-- 'AfterOnce'. -/
theorem once_calls (w : World) (A : Option Addr) (n c : Nat) (l : List ActC) (hl : l.length = n)
    (hok : ∀ k, k < n → ActOK w w.heap.size (l.getD k default)) (hr : Reads w 4 A n (acts l)) (hn : n ≤ maxLen) :
    Calls Try.prog 4 #[.slice A n c] w (OkTrue w) := by
  cases hsm : largeB l with
  | true =>
    have HK := Lib.hid hok
    have HR := Lib.hid hr
    have HS := Lib.hid hsm
    clear hok hr hsm
    go_enter Try.func4, Try.ntmps4
    go_wp2_with fail
    refine (awake_calls w).mono ?_
    rintro e w1 ⟨rfl, ht⟩
    have HT1 := Lib.hid ht
    clear ht
    go_wp2_with fail
    refine (large_calls _ n c l w1 (HR.out.kept HT1.out) (by unfold maxLen at hn; omega) (fun k hk => (HK.out k hk).2.2.2.2)).mono ?_
    rintro e w2 ⟨he, ht⟩
    rw [HS.out] at he
    subst he
    have HT2 := Lib.hid (HT1.out.trans ht (fun _ _ h => h))
    clear ht
    go_wp2
    go_ret
    exact ⟨rfl, HT2.out⟩
  | false => exact once_core w A n c l hl hok hr hsm

end Go.Proofs.Ythloikmmkkamoaa
