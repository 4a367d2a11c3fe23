/- Contracts of slices.IndexFunc, slices.DeleteFunc with Of's closure, and of Of. -/
import Derived.Test.YtbeapjndgkjpeaaDoorDel
namespace Go.Proofs.YtbeapjndgkjpeaaDoor
open Go.RowKit Go.Maps

def IndexR (t : Int) (xs : List Ev) (n : Nat) (w : World) (e : Ending) (w' : World) : Prop :=
  ∃ r : Int, e = .returned (.int .i64 r) ∧ ((r = -1 ∧ ∀ k, k < n → (xs.getD k default).task = t) ∨ (∃ p : Nat, p < n ∧ r = p ∧ (xs.getD p default).task ≠ t ∧ ∀ k, k < p → (xs.getD k default).task = t)) ∧ Turn nowhere w w'

set_option maxHeartbeats 800000 in
theorem index_calls (A : Option Addr) (n c cb : Nat) (t : Int) (xs : List Ev) (w : World) (hn : n ≤ 100000) (hx : Reads w 4 A n (evs xs)) (hc : w.cell? ⟨cb, 0, none⟩ = some (.int .i64 t)) :
    Calls Tryd.prog 35 #[.slice A n c, isT cb] w (IndexR t xs n w) := by
  have hl : xs.length = n := by have := hx.1; rw [evs_len] at this; omega
  have HX := Lib.hid hx
  have HL := Lib.hid hl
  have HC := Lib.hid hc
  clear hx hl hc
  go_enter Tryd.func35, Tryd.ntmps35
  go_wp2
  go_loopg [8] n (fun g i wr => ∃ k : Nat, g = n - k ∧ k ≤ n ∧ i = .int .i64 k ∧ Hid (∀ j, j < k → (xs.getD j default).task = t) ∧ Hid (Turn nowhere w wr))
  case atStart => exact ⟨0, rfl, Nat.zero_le _, rfl, fun j hj => absurd hj (by omega), Turn.refl _ _⟩
  case round =>
    obtain ⟨k, rfl, hk, rfl, HA, HT⟩ := hrel
    have h0 : (0 : Int) ≤ (k : Int) := by omega
    by_cases hlt : k < n
    case pos =>
      have h1 : (k : Int) < (n : Int) := by omega
      obtain ⟨b, off, rfl, hx⟩ := HX.out.ev (by omega)
      have ha := (hx k hlt).turn HT.out (fun h => h)
      clear hx
      have HS := Lib.hid (show (xs.getD k default).task = t → ∀ j, j < k + 1 → (xs.getD j default).task = t from fun h j hj => by
        rcases Nat.lt_or_ge j k with h2 | h2
        · exact HA.out j h2
        · have : j = k := by omega
          rw [this]; exact h)
      have HN := Lib.hid (show (xs.getD k default).task ≠ t → ∃ p : Nat, p < n ∧ (k : Int) = p ∧ (xs.getD p default).task ≠ t ∧ ∀ j, j < p → (xs.getD j default).task = t from fun h => ⟨k, hlt, rfl, h, HA.out⟩)
      generalize xs.getD k default = y at ha HS HN
      have HCW := Lib.hid (HT.out.cell HC.out (fun h => h))
      obtain ⟨y0, y1, y2, y3⟩ := y
      obtain ⟨a0, a1, a2, a3⟩ := ha
      simp only at a0 a1 a2 a3 HS HN
      by_cases hy : y1 = t
      case pos =>
        have HS2 := Lib.hid (HS.out hy)
        have b1 : (y1 != t) = false := by simp [hy]
        clear hy
        go_wp2_with fail
        refine (ne_calls ⟨y0, y1, y2, y3⟩ t cb _ HCW.out).mono ?_
        simp only [b1]
        rintro e w2 ⟨rfl, ht⟩
        have HT2 := Lib.hid (HT.out.trans ht (fun _ _ h => h))
        clear ht
        go_wp2
        go_roundg (n - (k + 1))
        case rel => exact ⟨k + 1, rfl, by omega, by go_num, HS2, HT2⟩
        case measure => omega
      case neg =>
        have HN2 := Lib.hid (HN.out hy)
        have b1 : (y1 != t) = true := by simpa using hy
        clear hy
        go_wp2_with fail
        refine (ne_calls ⟨y0, y1, y2, y3⟩ t cb _ HCW.out).mono ?_
        simp only [b1]
        rintro e w2 ⟨rfl, ht⟩
        have HT2 := Lib.hid (HT.out.trans ht (fun _ _ h => h))
        clear ht
        go_wp2
        go_ret
        exact ⟨k, rfl, .inr HN2.out, HT2.out⟩
    case neg =>
      obtain rfl : k = n := by omega
      go_wp2
      go_ret
      exact ⟨-1, rfl, .inl ⟨rfl, HA.out⟩, HT.out⟩

def Deleted (w : World) (base g cap : Nat) (ys : List Ev) (e : Ending) (w' : World) : Prop :=
  e = .returned (.slice (some ⟨g, 0, none⟩) ys.length cap) ∧ w'.ownsRow base 23 4 (.slice (some ⟨g, 0, none⟩) ys.length cap) ys.length (evs ys) ∧ Turn (fun q => q = g) w w'

set_option maxRecDepth 20000 in
set_option maxHeartbeats 1600000 in
theorem delete_calls (base g n cap cb : Nat) (t : Int) (xs : List Ev) (w : World) (hown : w.ownsRow base 23 4 (.slice (some ⟨g, 0, none⟩) n cap) n (evs xs)) (hc : w.cell? ⟨cb, 0, none⟩ = some (.int .i64 t)) (hne : cb ≠ g) (hn : n ≤ 100000) (hcap : n ≤ cap) :
    Calls Tryd.prog 25 #[.slice (some ⟨g, 0, none⟩) n cap, isT cb] w (Deleted w base g cap (ofT t xs)) := by
  have hl : xs.length = n := by have := hown.1; rw [evs_len] at this; omega
  have hz : ∀ w, (zeroValue 23).run Tryd.prog w = .ok (.agg #[.int .i64 0, .int .i64 0, .int .i64 0, .int .i64 0]) w := fun _ => by kernel_rfl
  have HZV := Lib.hid hz
  have HL := Lib.hid hl
  have HO := Lib.hid hown
  have HC := Lib.hid hc
  have HN := Lib.hid hne
  clear hl hown hc hne hz
  go_enter Tryd.func25, Tryd.ntmps25
  go_wp2_with fail
  refine (index_calls _ n cap cb t xs w hn (Reads.of_own HO.out) HC.out).mono ?_
  rintro e w1 ⟨r, rfl, hr, ht⟩
  have HT1 := Lib.hid ht
  have HO1 := Lib.hid (ht.own HO.out (fun _ _ h => h))
  have HC1 := Lib.hid (ht.cell HC.out (fun h => h))
  clear ht HO HC
  rcases hr with ⟨rfl, hall⟩ | ⟨p, hp, rfl, hpx, hfirst⟩
  · have e : ofT t xs = xs := by
      unfold ofT
      rw [List.filter_eq_self]
      intro x hx
      obtain ⟨k, hk, rfl⟩ := List.getElem_of_mem hx
      have := hall k (by have := HL.out; omega)
      simp only [List.getD, List.getElem?_eq_getElem hk, Option.getD_some] at this
      simpa using this
    have HE := Lib.hid e
    clear hall e
    go_wp2
    go_ret
    refine ⟨?_, ?_, HT1.out.mono (fun _ _ h => h.elim)⟩
    · rw [HE.out, HL.out]; rfl
    · rw [HE.out, HL.out]; exact HO1.out
  · have hpm : ((p : Int) == -1) = false := beq_eq_false_iff_ne.2 (by omega)
    have HS := Lib.hid (Kept.start (t := t) (xs := xs) (p := p) (by rw [HL.out]; exact hp) hpx hfirst)
    have h0 : (0 : Int) ≤ (p : Int) := by omega
    clear hpx hfirst
    go_wp2_with fail
    go_loopg [5, 6] (n - (p + 1)) (fun gg i j wr => ∃ (a b : Nat) (zs : List Ev), gg = n - b ∧ b ≤ n ∧ a < b ∧ i = .int .i64 a ∧ j = .int .i64 b ∧ Hid (Kept t xs zs a b) ∧ Hid (wr.ownsRow base 23 4 (.slice (some ⟨g, 0, none⟩) n cap) n (evs zs)) ∧ Hid (Turn (fun q => q = g) w1 wr))
    case atStart => exact ⟨p, p + 1, xs, by omega, by omega, by omega, rfl, by go_num, HS, HO1, Turn.refl _ _⟩
    case round =>
      obtain ⟨a, b, zs, rfl, hb, hab, rfl, rfl, HK, HZ, HG⟩ := hrel
      have h2 : (0 : Int) ≤ (a : Int) := by omega
      have h3 : (a : Int) < (n : Int) := by omega
      have h4 : (0 : Int) ≤ (b : Int) := by omega
      by_cases hlt : b < n
      case pos =>
        have h5 : (b : Int) < (n : Int) := by omega
        have hcb : EvAt wr g 0 b (xs.getD b default) := by rw [← HK.out.tail b (Nat.le_refl _)]; exact own_ev_at HZ.out hlt
        have hcc := HG.out.cell HC1.out HN.out
        have hca := own_ev_at HZ.out (show a < n from by omega)
        have HHX := Lib.hid (show (xs.getD b default).task = t → Kept t xs (zs.set a (xs.getD b default)) (a + 1) (b + 1) from fun hx => HK.out.keep (by rw [HL.out]; exact hlt) hx)
        have HSK := Lib.hid (show (xs.getD b default).task ≠ t → Kept t xs zs a (b + 1) from fun hx => HK.out.skip (by rw [HL.out]; exact hlt) hx)
        have hzl : zs.length = n := by rw [HK.out.len, HL.out]
        generalize xs.getD b default = y at hcb HHX HSK
        generalize zs.getD a default = z at hca
        obtain ⟨y0, y1, y2, y3⟩ := y
        obtain ⟨z0, z1, z2, z3⟩ := z
        obtain ⟨a0, a1, a2, a3⟩ := hcb
        simp only [Nat.zero_add] at a0 a1 a2 a3 HHX HSK
        have HNE := Lib.hid (show g < wr.heap.size from World.block_lt_of_cell? wr _ a0)
        by_cases hx : y1 = t
        case pos =>
          have HK' := Lib.hid (HHX.out hx)
          have b1 : (y1 != t) = false := by simp [hx]
          clear hx HHX HSK
          go_wp2_with fail
          refine (ne_calls ⟨y0, y1, y2, y3⟩ t cb _ (((Turn.refl nowhere wr).alloc _).cell hcc (fun h => h))).mono ?_
          simp only [b1]
          rintro e w2 ⟨rfl, ht⟩
          have x0 := ht.cell (p := ⟨wr.heap.size, 0, none⟩) (v := .int .i64 y0) (by simp) (fun h => h)
          have x1 := ht.cell (p := ⟨wr.heap.size, 1, none⟩) (v := .int .i64 y1) (by simp) (fun h => h)
          have x2 := ht.cell (p := ⟨wr.heap.size, 2, none⟩) (v := .int .i64 y2) (by simp) (fun h => h)
          have x3 := ht.cell (p := ⟨wr.heap.size, 3, none⟩) (v := .int .i64 y3) (by simp) (fun h => h)
          have ht2 : Turn nowhere wr w2 := ((Turn.refl nowhere wr).alloc _).trans ht (fun _ _ h => h)
          have HZ2 := Lib.hid (ht2.own HZ.out (fun _ _ h => h))
          obtain ⟨c0, c1, c2, c3⟩ := hca.turn ht2 (fun h => h)
          simp only [Nat.zero_add] at c0 c1 c2 c3
          have f0 := HZ2.out.frozenAt (a * 4)
          have f1 := HZ2.out.frozenAt (a * 4 + 1)
          have f2 := HZ2.out.frozenAt (a * 4 + 2)
          have f3 := HZ2.out.frozenAt (a * 4 + 3)
          obtain ⟨s1, t1⟩ := HZ2.out.stored (a * 4) (.int .i64 y0)
          obtain ⟨s2, t2⟩ := s1.stored (a * 4 + 1) (.int .i64 y1)
          obtain ⟨s3, t3⟩ := s2.stored (a * 4 + 2) (.int .i64 y2)
          obtain ⟨s4, t4⟩ := s3.stored (a * 4 + 3) (.int .i64 y3)
          rw [evs_set zs a ⟨y0, y1, y2, y3⟩ (by omega)] at s4
          have HS4 := Lib.hid s4
          have HG4 := Lib.hid (((t1.trans t2).trans t3).trans t4)
          have HTT := Lib.hid ht2
          clear s1 s2 s3 s4 t1 t2 t3 t4 ht ht2 hca
          go_wp2
          go_roundg (n - (b + 1))
          case rel => exact ⟨a + 1, b + 1, zs.set a ⟨y0, y1, y2, y3⟩, rfl, by omega, by omega, by go_num, by go_num, HK', HS4, Lib.hid ((HG.out.trans HTT.out (fun _ _ h => h.elim)).trans (Turn.of_grown (F := fun q => q = g) HG4.out (fun q hq _ => by injection hq with hq; exact hq.symm)) (fun _ _ h => h))⟩
          case measure => omega
        case neg =>
          have HK' := Lib.hid (HSK.out hx)
          have b1 : (y1 != t) = true := by simpa using hx
          clear hx HHX HSK
          go_wp2_with fail
          refine (ne_calls ⟨y0, y1, y2, y3⟩ t cb _ (((Turn.refl nowhere wr).alloc _).cell hcc (fun h => h))).mono ?_
          simp only [b1]
          rintro e w2 ⟨rfl, ht⟩
          have ht2 : Turn nowhere wr w2 := ((Turn.refl nowhere wr).alloc _).trans ht (fun _ _ h => h)
          have HZ2 := Lib.hid (ht2.own HZ.out (fun _ _ h => h))
          have HG2 := Lib.hid (HG.out.trans ht2 (fun _ _ h => h.elim))
          clear ht ht2
          go_wp2
          go_roundg (n - (b + 1))
          case rel => exact ⟨a, b + 1, zs, rfl, by omega, by omega, rfl, by go_num, HK', HZ2, HG2⟩
          case measure => omega
      case neg =>
        obtain rfl : b = n := by omega
        rw [← HL.out] at HK
        obtain ⟨q1, q2, q3⟩ := HK.out.done
        rw [HL.out] at q3
        have Q1 := Lib.hid q1
        have Q2 := Lib.hid q2
        clear q1 q2 HK
        have hcs : (Value.agg #[.int .i64 0, .int .i64 0, .int .i64 0, .int .i64 0]).cells.size = 4 := rfl
        have hone : ∀ v ∈ (Value.agg #[.int .i64 0, .int .i64 0, .int .i64 0, .int .i64 0]).cells.toList, v.oneCell' = true := by
          intro v hv
          simp [Value.cells] at hv
          subst hv
          rfl
        have h04 : 0 < 4 := by decide
        have hzv := HZV.out
        have hzo := HZ.out
        go_wp2_with (with_reducible refine wpList_clear_tail _ rfl (.tmp 38) 24 rfl base 4 23 _ Tryd.underlying24 hzv hcs h04 hone g b cap a (cap - a) (evs zs) hzo q3 ?clE ?clK)
        case clE => first | rfl | (go_simp; rfl)
        intro w' hown hg
        have HO' := Lib.hid hown
        have HG' := Lib.hid (show Turn (fun q => q = g) w w' from (HT1.out.mono (G := fun q => q = g) (fun _ _ h => h.elim)).trans (HG.out.trans (Turn.of_grown (F := fun q => q = g) hg (fun q hq _ => by injection hq with hq; exact hq.symm)) (fun _ _ h => h)) (fun _ _ h => h))
        clear hown hg
        go_wp2
        go_ret
        refine ⟨?_, ?_, HG'.out⟩
        · rw [Q2.out]; rfl
        · rw [Q2.out, ← Q1.out, ← evs_take]; exact HO'.out


set_option maxHeartbeats 800000 in
theorem delete_nil (cb : Nat) (t : Int) (w : World) (hc : w.cell? ⟨cb, 0, none⟩ = some (.int .i64 t)) :
    Calls Tryd.prog 25 #[.slice none 0 0, isT cb] w fun e w' => e = .returned (.slice none 0 0) ∧ Turn nowhere w w' := by
  go_enter Tryd.func25, Tryd.ntmps25
  go_wp2_with fail
  refine (index_calls none 0 0 cb t [] w (by omega) (Reads.none_ _ _ _) hc).mono ?_
  rintro e w1 ⟨r, rfl, hr, ht⟩
  rcases hr with ⟨rfl, _⟩ | ⟨p, hp, _⟩
  · have HT1 := Lib.hid ht
    clear ht
    go_wp2
    go_ret
    exact ⟨rfl, HT1.out⟩
  · exact absurd hp (by omega)

theorem ofT_nil (t : Int) : ofT t [] = [] := rfl

set_option maxHeartbeats 800000 in
/-- 'Of'. -/
theorem of_calls (A : Option Addr) (n c : Nat) (t : Int) (xs : List Ev) (w : World) (hx : Reads w 4 A n (evs xs)) (hn : n ≤ 100000) :
    Calls Tryd.prog 16 #[.slice A n c, .int .i64 t] w fun e w' => ∃ v, e = .returned v ∧ w'.ownsRow w.heap.size 23 4 v (ofT t xs).length (evs (ofT t xs)) ∧ Turn nowhere w w' := by
  have hl : xs.length = n := by have := hx.1; rw [evs_len] at this; omega
  have HX := Lib.hid hx
  have HL := Lib.hid hl
  clear hx hl
  go_enter Tryd.func16, Tryd.ntmps16
  go_wp2_with fail
  refine (clone_calls A n c xs _ (HX.out.kept ((Turn.refl _ _).alloc _)) hn).mono ?_
  rintro e w1 ⟨v, rfl, ho, ht⟩
  have hct := ht.cell (p := ⟨w.heap.size, 0, none⟩) (v := .int .i64 t) (by simp) (fun h => h)
  have HC := Lib.hid hct
  have HT1 := Lib.hid (show Turn nowhere w w1 from ((Turn.refl nowhere w).alloc _).trans ht (fun _ _ h => h))
  rcases ho.2 with ⟨rfl, hn0⟩ | ⟨g, cap, cur, rfl, hb, hg, r1, r2, r3⟩
  · have hx0 : xs = [] := List.eq_nil_of_length_eq_zero (by rw [HL.out]; exact hn0)
    have HX0 := Lib.hid hx0
    clear ho ht hct hx0 hn0
    go_wp2_with fail
    refine (delete_nil w.heap.size t _ HC.out).mono ?_
    rintro e w2 ⟨rfl, ht⟩
    have HT2 := Lib.hid (HT1.out.trans ht (fun _ _ h => h))
    clear ht
    go_wp2
    go_ret
    refine ⟨_, rfl, ?_, HT2.out⟩
    rw [HX0.out, ofT_nil]
    exact World.ownsRow_nil _ _ _ _
  · have HO := Lib.hid ho
    have hgb : w.heap.size < g := by simp at hb; omega
    have hcap : n ≤ cap := r1
    clear ho ht hct hb hg r1 r2 r3 cur
    go_wp2_with fail
    refine (delete_calls _ g n cap w.heap.size t xs _ HO.out HC.out (by omega) hn hcap).mono ?_
    rintro e w2 ⟨rfl, ho, ht⟩
    have HT2 := Lib.hid (HT1.out.trans ht (fun i hi h => absurd hi (by omega)))
    have HO2 := Lib.hid ho
    clear ho ht
    go_wp2
    go_ret
    refine ⟨_, rfl, ?_, HT2.out⟩
    rcases HO2.out.2 with ⟨h, _⟩ | ⟨g', cap', cur, hv, hb, r⟩
    · simp at h
    · exact ⟨HO2.out.1, .inr ⟨g', cap', cur, hv, by simp at hb; omega, r⟩⟩

end Go.Proofs.YtbeapjndgkjpeaaDoor
