/- The contract of TraceTells: true. -/
import Derived.Test.YtbeapjndgkjpeaaDoorRRead
import Derived.Test.YtbeapjndgkjpeaaDoorRText
namespace Go.Proofs.YtbeapjndgkjpeaaDoor
open Go.RowKit Go.Maps

def txt (l : List Ev) : List UInt8 := if l.all okEv then l.flatMap lineOf else []
def err (l : List Ev) : Int := if l.all okEv then 0 else 1
theorem TextR.same {l : List Ev} {w w' : World} {e : Ending} (h : TextR l w e w') : e = .returned (.tuple #[str (txt l), .int .i64 (err l)]) ∧ Turn nowhere w w' := by
  obtain ⟨h, ht⟩ := h
  refine ⟨?_, ht⟩
  unfold txt err
  rcases h with ⟨h1, h2⟩ | ⟨h1, h2⟩
  · rw [h1]; exact h2
  · rw [h1]; exact h2
noncomputable def rdL (L : List UInt8) : List Ev := match readFrom [] [] L with
  | .ok l => l
  | .error _ => []
noncomputable def rdK (L : List UInt8) : Int := match readFrom [] [] L with
  | .ok _ => 0
  | .error k => (k : Int)
noncomputable def rdG (L : List UInt8) : Int := match readFrom [] [] L with
  | .ok _ => 0
  | .error _ => 7
def Told (L : List UInt8) (w : World) (e : Ending) (w' : World) : Prop :=
  ∃ A c, e = .returned (.tuple #[.slice A (rdL L).length c, .int .i64 (rdK L), .int .i64 (rdG L)]) ∧ Reads w' 4 A (rdL L).length (evs (rdL L)) ∧ (rdL L).length ≤ L.length ∧ Turn nowhere w w'
theorem ReadR.same {L : List UInt8} {w w' : World} {e : Ending} (h : ReadR L w e w') : Told L w e w' := by
  obtain ⟨h, ht⟩ := h
  unfold Told rdL rdK rdG
  rcases h with ⟨l, v, h1, h2, ho, hl⟩ | ⟨k, h1, h2⟩
  · rw [h1]
    obtain ⟨A, c, rfl, _, _⟩ := own_form ho
    exact ⟨A, c, h2, Reads.of_own ho, hl, ht⟩
  · rw [h1]
    exact ⟨none, 0, h2, Reads.none_ _ _ _, Nat.zero_le _, ht⟩
theorem RReadR.same {L : List UInt8} {w w' : World} {e : Ending} (h : RReadR L w e w') : Told L w e w' := by
  obtain ⟨h, ht⟩ := h
  unfold Told rdL rdK rdG
  rcases h with ⟨l, v, h1, h2, ho, hl⟩ | ⟨k, h1, h2⟩
  · rw [h1]
    obtain ⟨A, c, rfl, _, _⟩ := own_form ho
    exact ⟨A, c, h2, Reads.of_own ho, hl, ht⟩
  · rw [h1]
    exact ⟨none, 0, h2, Reads.none_ _ _ _, Nat.zero_le _, ht⟩

attribute [local go_sem ↓] Go.wp_at_zero Go.wp_at_succ

set_option maxRecDepth 20000 in
set_option maxHeartbeats 6400000 in
theorem tells_calls (x : Ev) (A : Option Addr) (n c : Nat) (l : List Ev) (L : List UInt8) (kind t : Int) (w : World) (hx : Reads w 4 A n (evs l)) (hi : ∀ x ∈ l, i64Ev x) (hxi : i64Ev x) (he : Env w) :
    Calls Tryd.prog 3 #[.agg #[.int .i64 x.kind, .int .i64 x.task, .int .i64 x.a, .int .i64 x.n], .slice A n c, str L, .int .i64 kind, .int .i64 t] w (OkTrue w) := by
  obtain ⟨i0, hti, hz0, hz1, hz2⟩ := info_parts Tryd.info36
  have hl : l.length = n := by have := hx.1; rw [evs_len] at this; omega
  have hsz : (bs L).size = L.length := by simp [ByteArray.size]
  have HSZ := Lib.hid hsz
  have HX := Lib.hid hx
  have HL := Lib.hid hl
  have HI := Lib.hid hi
  have HXI := Lib.hid hxi
  have HE := Lib.hid he
  obtain ⟨x0, x1, x2, x3⟩ := x
  have HW0 := Lib.hid (show Turn nowhere w (w.alloc (.cells #[.int .i64 x0, .int .i64 x1, .int .i64 x2, .int .i64 x3] 23)) from (Turn.refl _ _).alloc _)
  have HC0 := Lib.hid (show Holds4 (w.alloc (.cells #[.int .i64 x0, .int .i64 x1, .int .i64 x2, .int .i64 x3] 23)) w.heap.size ⟨x0, x1, x2, x3⟩ from ⟨by simp, by simp, by simp, by simp⟩)
  clear hx hl hi he hsz hxi
  go_enter Tryd.func3, Tryd.ntmps3
  go_wp2_with fail
  refine (awake_calls _ (HE.out.turn HW0.out)).mono ?_
  rintro e w1 ⟨rfl, ht⟩
  have HT1 := Lib.hid (HW0.out.trans ht (fun _ _ h => h))
  have HC1 := Lib.hid (HC0.out.turn ht (fun h => h))
  clear ht HW0 HC0
  by_cases h1 : n ≤ 200
  case neg =>
    have hb : (200 : Int) < (n : Int) := by omega
    go_wp2
    go_ret
    exact ⟨rfl, HT1.out⟩
  have hb1 : ¬ (200 : Int) < (n : Int) := by omega
  by_cases h3 : L.length ≤ 2000
  case neg =>
    have hb : (2000 : Int) < (L.length : Int) := by omega
    go_wp2
    go_ret
    exact ⟨rfl, HT1.out⟩
  have hb3 : ¬ (2000 : Int) < (L.length : Int) := by omega
  go_wp2_with fail
  refine (text_calls A n c l _ (HX.out.kept HT1.out) HI.out (by omega) (HE.out.turn HT1.out)).mono ?_
  intro e w2 hq
  obtain ⟨rfl, ht⟩ := hq.same
  have HT2 := Lib.hid (HT1.out.trans ht (fun _ _ h => h))
  have HC2 := Lib.hid (HC1.out.turn ht (fun h => h))
  clear hq ht HT1 HC1 hb1 hb3
  obtain ⟨T, hT⟩ : ∃ T, T = txt l := ⟨_, rfl⟩
  obtain ⟨E, hE⟩ : ∃ E, E = err l := ⟨_, rfl⟩
  rw [← hT, ← hE]
  have HTX := Lib.hid hT
  have HER := Lib.hid hE
  clear hT hE
  go_wp2_with fail
  refine (own_calls A n c l _ (HX.out.kept HT2.out) (by omega)).mono ?_
  rintro e w3 ⟨v, rfl, ho, ht⟩
  obtain ⟨A3, c3, rfl, _, _⟩ := own_form ho
  have HO3 := Lib.hid (Reads.of_own ho)
  have HT3 := Lib.hid (HT2.out.trans ht (fun _ _ h => h))
  have HC3 := Lib.hid (HC2.out.turn ht (fun h => h))
  clear ho ht HT2 HC2
  go_wp2_with fail
  refine (rtext_calls A3 n c3 l _ HO3.out HI.out (by omega)).mono ?_
  intro e w4 hq
  obtain ⟨rfl, ht⟩ := hq.same
  have HT4 := Lib.hid (HT3.out.trans ht (fun _ _ h => h))
  have HC4 := Lib.hid (HC3.out.turn ht (fun h => h))
  clear hq ht HT3 HC3 HO3
  rw [← HTX.out, ← HER.out]
  clear HTX HER
  go_wp2_with fail
  refine (read_calls L (by omega) _ (HE.out.turn HT4.out)).mono ?_
  intro e w5 hq
  obtain ⟨A5, c5, rfl, hr, hrl, ht⟩ := hq.same
  have HR5 := Lib.hid hr
  have HT5 := Lib.hid (HT4.out.trans ht (fun _ _ h => h))
  have HC5 := Lib.hid (HC4.out.turn ht (fun h => h))
  clear hq ht HT4 HC4 hr
  go_wp2_with fail
  refine (rread_calls L (by omega) _).mono ?_
  intro e w6 hq
  obtain ⟨A6, c6, rfl, hr, _, ht⟩ := hq.same
  have HR6 := Lib.hid hr
  have HM6 := Lib.hid (HR5.out.kept ht)
  have HT6 := Lib.hid (HT5.out.trans ht (fun _ _ h => h))
  have HC6 := Lib.hid (HC5.out.turn ht (fun h => h))
  clear hq ht HT5 HC5 HR5 hr
  generalize rdL L = M at HR6 HM6 hrl ⊢
  generalize rdK L = K
  generalize rdG L = G
  obtain ⟨m, hm⟩ : ∃ m, m = M.length := ⟨_, rfl⟩
  rw [← hm] at HR6 HM6 hrl ⊢
  clear hm
  go_wp2_with fail
  go_loopg [21, 22, 61] n (fun g many of idx wr => ∃ k : Nat, g = n - k ∧ k ≤ n ∧ idx = .int .i64 k ∧ many = .int .i64 ((cnt (l.take k) kind : Nat) : Int) ∧ Hid (wr.ownsRow w6.heap.size 36 4 of (ofT t (l.take k)).length (evs (ofT t (l.take k)))) ∧ Hid (Turn nowhere w6 wr))
  case atStart =>
    exact ⟨0, rfl, Nat.zero_le _, rfl, rfl, World.ownsRow_lit (base := w6.heap.size) (size := 4) (e := 36) w6 #[] 0 (Nat.le_refl _) (by simp [maxLen]) rfl, (Turn.refl _ _).alloc _⟩
  case round =>
    obtain ⟨k, rfl, hk, rfl, rfl, HO, HT⟩ := hrel
    have h0 : (0 : Int) ≤ (k : Int) := by omega
    by_cases hlt : k < n
    case pos =>
      have h1 : (k : Int) < (n : Int) := by omega
      obtain ⟨b, off, rfl, hx⟩ := HX.out.ev (by omega)
      have ha := ((hx k hlt).turn HT6.out (fun h => h)).turn HT.out (fun h => h)
      clear hx
      have HCS := Lib.hid (cnt_step (l := l) (kind := kind) (k := k) (by rw [HL.out]; exact hlt))
      have HOS := Lib.hid (ofT_snoc t l k (by rw [HL.out]; exact hlt))
      have hcl : cnt (l.take k) kind ≤ k := Nat.le_trans (cnt_le _ _) (by simp; omega)
      have hol : (ofT t (l.take k)).length ≤ k := Nat.le_trans (ofT_le _ _) (by simp; omega)
      generalize l.getD k default = y at ha HCS HOS
      obtain ⟨y0, y1, y2, y3⟩ := y
      obtain ⟨a0, a1, a2, a3⟩ := ha
      simp only at a0 a1 a2 a3 HCS HOS
      obtain ⟨B, cb, rfl, _, _⟩ := own_form HO.out
      generalize cnt (l.take k) kind = cn at HCS hcl ⊢
      generalize ofT t (l.take k) = O at HOS HO hol ⊢
      by_cases hkd : y0 = kind
      case pos =>
        rw [if_pos hkd] at HCS
        have hbk : (y0 == kind) = true := by simpa using hkd
        clear hkd
        by_cases htk : y1 = t
        case pos =>
          rw [if_pos htk] at HOS
          have hbt : (y1 == t) = true := by simpa using htk
          clear htk
          go_wp2_with (at_builtin; refine wpList_append_reads _ rfl (.tmp 75) (.tmp 77) 30 rfl w6.heap.size 36 i0 (.agg #[.int .i64 0, .int .i64 0, .int .i64 0, .int .i64 0]) 4 32 Tryd.underlying30 hti hz0 hz1 hz2 rfl (by decide) (.slice B O.length cb) O.length (evs O) rfl ?o1 (some ⟨wr.heap.size + 1, 0, none⟩) 1 1 (Ev.cells ⟨y0, y1, y2, y3⟩) rfl ?o2 ?o3 ?o4 ?o5 ?o6 ?_)
          case o1 => exact (HO.out.alloc _).alloc _
          case o2 => simpa [Ev.cells] using reads_lit (w := wr.alloc (.cells #[.int .i64 y0, .int .i64 y1, .int .i64 y2, .int .i64 y3] 23)) (t := 36) (size := 4) (n := 1) #[.int .i64 y0, .int .i64 y1, .int .i64 y2, .int .i64 y3] rfl (by simp [maxLen])
          case o3 => exact fun u hu => evs_one [⟨y0, y1, y2, y3⟩] u (by simpa [evs] using hu)
          case o4 => unfold maxLen; omega
          case o5 => omega
          case o6 => have := HT.out.size; simp; omega
          intro v9 w9 hown hgr _
          rw [← evs_snoc] at hown
          have HO9 := Lib.hid hown
          have HT9 := Lib.hid (((HT.out.alloc _).alloc _).grown hgr (fun g hg hlt => absurd (own_block_ge HO.out hg) (by omega)))
          clear hown hgr
          go_wp2
          go_roundg (n - (k + 1))
          case rel => exact ⟨k + 1, rfl, by omega, by go_num, by rw [HCS.out]; go_num, by rw [HOS.out, List.length_append, List.length_singleton]; exact HO9, HT9⟩
          case measure => omega
        case neg =>
          rw [if_neg htk, List.append_nil] at HOS
          have hbt : (y1 == t) = false := beq_eq_false_iff_ne.2 htk
          clear htk
          go_wp2
          go_roundg (n - (k + 1))
          case rel => exact ⟨k + 1, rfl, by omega, by go_num, by rw [HCS.out]; go_num, by rw [HOS.out]; exact HO.out.alloc _, HT.out.alloc _⟩
          case measure => omega
      case neg =>
        rw [if_neg hkd, Nat.add_zero] at HCS
        have hbk : (y0 == kind) = false := beq_eq_false_iff_ne.2 hkd
        clear hkd
        by_cases htk : y1 = t
        case pos =>
          rw [if_pos htk] at HOS
          have hbt : (y1 == t) = true := by simpa using htk
          clear htk
          go_wp2_with (at_builtin; refine wpList_append_reads _ rfl (.tmp 75) (.tmp 77) 30 rfl w6.heap.size 36 i0 (.agg #[.int .i64 0, .int .i64 0, .int .i64 0, .int .i64 0]) 4 32 Tryd.underlying30 hti hz0 hz1 hz2 rfl (by decide) (.slice B O.length cb) O.length (evs O) rfl ?o1 (some ⟨wr.heap.size + 1, 0, none⟩) 1 1 (Ev.cells ⟨y0, y1, y2, y3⟩) rfl ?o2 ?o3 ?o4 ?o5 ?o6 ?_)
          case o1 => exact (HO.out.alloc _).alloc _
          case o2 => simpa [Ev.cells] using reads_lit (w := wr.alloc (.cells #[.int .i64 y0, .int .i64 y1, .int .i64 y2, .int .i64 y3] 23)) (t := 36) (size := 4) (n := 1) #[.int .i64 y0, .int .i64 y1, .int .i64 y2, .int .i64 y3] rfl (by simp [maxLen])
          case o3 => exact fun u hu => evs_one [⟨y0, y1, y2, y3⟩] u (by simpa [evs] using hu)
          case o4 => unfold maxLen; omega
          case o5 => omega
          case o6 => have := HT.out.size; simp; omega
          intro v9 w9 hown hgr _
          rw [← evs_snoc] at hown
          have HO9 := Lib.hid hown
          have HT9 := Lib.hid (((HT.out.alloc _).alloc _).grown hgr (fun g hg hlt => absurd (own_block_ge HO.out hg) (by omega)))
          clear hown hgr
          go_wp2
          go_roundg (n - (k + 1))
          case rel => exact ⟨k + 1, rfl, by omega, by go_num, by rw [HCS.out]; rfl, by rw [HOS.out, List.length_append, List.length_singleton]; exact HO9, HT9⟩
          case measure => omega
        case neg =>
          rw [if_neg htk, List.append_nil] at HOS
          have hbt : (y1 == t) = false := beq_eq_false_iff_ne.2 htk
          clear htk
          go_wp2
          go_roundg (n - (k + 1))
          case rel => exact ⟨k + 1, rfl, by omega, by go_num, by rw [HCS.out]; rfl, by rw [HOS.out]; exact HO.out.alloc _, HT.out.alloc _⟩
          case measure => omega
    case neg =>
      obtain rfl : k = n := by omega
      have hkl : l.take k = l := by rw [← HL.out]; exact List.take_length
      rw [hkl] at HO ⊢
      obtain ⟨B, cb, rfl, _, _⟩ := own_form HO.out
      have HOF := Lib.hid (Reads.of_own HO.out)
      have HTW := Lib.hid (HT6.out.trans HT.out (fun _ _ h => h))
      have HMW := Lib.hid (HM6.out.kept HT.out)
      have HRW := Lib.hid (HR6.out.kept HT.out)
      have HXW := Lib.hid (HX.out.kept HTW.out)
      have hcx := HC6.out.turn HT.out (fun h => h)
      have c0 := hcx.c0
      have c1 := hcx.c1
      have c2 := hcx.c2
      have c3 := hcx.c3
      simp only at c0 c1 c2 c3
      have hol : (ofT t l).length ≤ k := by have := ofT_le t l; rw [HL.out] at this; exact this
      have HCT := Lib.hid (count_calls A k c l kind)
      have HOT := Lib.hid (of_calls A k c t l)
      have HSS := Lib.hid (show ∀ V, Turn nowhere wr V → (Turn nowhere wr V ∧ V.cell? ⟨w.heap.size, 0, none⟩ = some (.int .i64 x0) ∧ V.cell? ⟨w.heap.size, 1, none⟩ = some (.int .i64 x1) ∧ V.cell? ⟨w.heap.size, 2, none⟩ = some (.int .i64 x2) ∧ V.cell? ⟨w.heap.size, 3, none⟩ = some (.int .i64 x3)) from
        fun V h => ⟨h, h.cell c0 (fun h => h), h.cell c1 (fun h => h), h.cell c2 (fun h => h), h.cell c3 (fun h => h)⟩)
      clear hkl HO HT HT6 HM6 HR6 HC6 hcx c0 c1 c2 c3
      have HEW := Lib.hid (HE.out.turn HTW.out)
      generalize ofT t l = O at HOF HOT hol ⊢
      generalize cnt l kind = cn at HCT ⊢
      obtain ⟨o, hoo⟩ : ∃ o, o = O.length := ⟨_, rfl⟩
      rw [← hoo] at HOF HOT hol ⊢
      clear hoo
      obtain ⟨LN, hLN⟩ : ∃ s, s = lineOf ⟨x0, x1, x2, x3⟩ := ⟨_, rfl⟩
      have HLN := Lib.hid hLN
      clear hLN
      go_wp2_with fail
      go_region_held3 (fun w' => Turn nowhere wr w' ∧ w'.cell? ⟨w.heap.size, 0, none⟩ = some (.int .i64 x0) ∧ w'.cell? ⟨w.heap.size, 1, none⟩ = some (.int .i64 x1) ∧ w'.cell? ⟨w.heap.size, 2, none⟩ = some (.int .i64 x2) ∧ w'.cell? ⟨w.heap.size, 3, none⟩ = some (.int .i64 x3))
        (first | exact HSS.out _ HQ8.out | exact HSS.out _ HQ7.out | exact HSS.out _ HQ6.out | exact HSS.out _ HQ5.out | exact HSS.out _ HQ4.out | exact HSS.out _ HQ3.out | exact HSS.out _ HQ2.out | exact HSS.out _ HQ1.out | exact HSS.out _ (Turn.refl _ _).drew)
        ((first
          | (have hz := HQ7.out; clear hz; go_at_call 14; refine (same_calls F7 B o d7 cb O _ HF7.out (HOF.out.kept HQ7.out) (by omega)).mono ?_; rintro e wq8 ⟨rfl, ht⟩; have HQ8 := Lib.hid (HQ7.out.trans ht (fun _ _ h => h)); clear ht)
          | (have hz := HQ6.out; clear hz; go_at_call 9; refine (own_calls F6 o d6 O _ HF6.out (by omega)).mono ?_; rintro e wq7 ⟨v7, rfl, ho, ht⟩; obtain ⟨F7, d7, rfl, _, _⟩ := own_form ho; have HF7 := Lib.hid (Reads.of_own ho); have HQ7 := Lib.hid (HQ6.out.trans ht (fun _ _ h => h)); clear ht ho)
          | (have hz := HQ5.out; clear hz; go_at_call 16; refine (HOT.out _ (HXW.out.kept HQ5.out) (by omega)).mono ?_; rintro e wq6 ⟨v6, rfl, ho, ht⟩; obtain ⟨F6, d6, rfl, _, _⟩ := own_form ho; have HF6 := Lib.hid (Reads.of_own ho); have HQ6 := Lib.hid (HQ5.out.trans ht (fun _ _ h => h)); clear ht ho)
          | (have hz := HQ4.out; clear hz; go_at_call 15; refine (HCT.out _ (HXW.out.kept HQ4.out) (by omega)).mono ?_; rintro e wq5 ⟨rfl, ht⟩; have HQ5 := Lib.hid (HQ4.out.trans ht (fun _ _ h => h)); clear ht)
          | (have hz := HQ3.out; clear hz; go_at_call 14; refine (same_calls F3 A6 m d3 c6 M _ HF3.out (HRW.out.kept HQ3.out) (by omega)).mono ?_; rintro e wq4 ⟨rfl, ht⟩; have HQ4 := Lib.hid (HQ3.out.trans ht (fun _ _ h => h)); clear ht)
          | (have hz := HQ2.out; clear hz; go_at_call 9; refine (own_calls A5 m c5 M _ (HMW.out.kept HQ2.out) (by omega)).mono ?_; rintro e wq3 ⟨v3, rfl, ho, ht⟩; obtain ⟨F3, d3, rfl, _, _⟩ := own_form ho; have HF3 := Lib.hid (Reads.of_own ho); have HQ3 := Lib.hid (HQ2.out.trans ht (fun _ _ h => h)); clear ht ho)
          | (have hz := HQ1.out; clear hz; go_at_call 13; refine (rline_calls ⟨x0, x1, x2, x3⟩ HXI.out _).mono ?_; rintro e wq2 ⟨he2, ht⟩; rw [← HLN.out] at he2; subst he2; have HQ2 := Lib.hid (HQ1.out.trans ht (fun _ _ h => h)); clear ht)
          | (go_at_call 12; refine (line_calls ⟨x0, x1, x2, x3⟩ HXI.out _ (HEW.out.turn (Turn.refl _ _).drew)).mono ?_; rintro e wq1 ⟨he1, ht⟩; rw [← HLN.out] at he1; subst he1; have HQ1 := Lib.hid ((Turn.refl nowhere wr).drew.trans ht (fun _ _ h => h)); clear ht)))
      go_wp2
      go_ret
      exact ⟨rfl, HTW.out.trans HQ8.out (fun _ _ h => h)⟩

end Go.Proofs.YtbeapjndgkjpeaaDoor
