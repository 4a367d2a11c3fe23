/- The contract of StatMean: true. -/
import Derived.Test.YtkphnmpildkdaaaMeanLaw
import Derived.Test.YtkphnmpildkdaaaStatEnds
import Derived.Test.YtkphnmpildkdaaaOpen
namespace Go.Proofs.Ytkphnmpildkdaaa
open Go.RowKit Go.Maps

attribute [local go_sem high] cmp_eql cmp_neq cmp_lss cmp_gtr run_neg
@[local go_sem high] theorem cmp_geq (t : TypeId) (a b : Nat) : binOp .geq t (.float .f64 a) (.float .f64 b) = pure (.bool (fGe a b)) := binOp_float_cmp_geq t .f64 a b
@[local go_sem high] theorem cmp_leq (t : TypeId) (a b : Nat) : binOp .leq t (.float .f64 a) (.float .f64 b) = pure (.bool (fLe a b)) := binOp_float_cmp_leq t .f64 a b

theorem ints_step {f : Int → Nat} {xs : List Int} {k : Nat} (h : k < xs.length) : (xs.take (k + 1)).map f = (xs.take k).map f ++ [f (xs.getD k 0)] := by
  rw [List.take_succ_eq_append_getElem h, List.map_append]
  simp [List.getD, List.getElem?_eq_getElem h]
theorem all_step {f : Int → Bool} {xs : List Int} {k : Nat} (h : k < xs.length) : (xs.take (k + 1)).all f = ((xs.take k).all f && f (xs.getD k 0)) := by
  rw [List.take_succ_eq_append_getElem h, List.all_append]
  simp [List.getD, List.getElem?_eq_getElem h]

/-- A fold of greatest always is. -/
theorem most_any : ∀ {xs : List Nat} {a : Nat}, w64 a → (∀ x ∈ xs, w64 x) → (∀ x ∈ xs, isNaN x = false) → isNaN a = false → ∃ r, FoldR MaxR a xs r ∧ w64 r
  | [], a, ha, _, _, _ => ⟨a, rfl, ha⟩
  | x :: xs, a, ha, hw, hn, na => by
    have hx := hw x (List.mem_cons_self ..)
    have nx := hn x (List.mem_cons_self ..)
    have hm : w64 (maxF a x) ∧ isNaN (maxF a x) = false := by unfold maxF; split <;> exact ⟨by assumption, by assumption⟩
    obtain ⟨r, hr, r64⟩ := most_any (xs := xs) hm.1 (fun y hy => hw y (List.mem_cons_of_mem _ hy)) (fun y hy => hn y (List.mem_cons_of_mem _ hy)) hm.2
    exact ⟨r, ⟨maxF a x, by unfold MaxR; rw [na, nx]; rfl, hr⟩, r64⟩
theorem most_exists {l : List Int} {n : Nat} (_hl : l.length = n) (hx : ∀ x ∈ l, x.natAbs ≤ 1099511627776) : ∃ r, MostR (l.map fl) r ∧ w64 r := by
  refine most_any (by decide) ?_ ?_ (by decide) <;>
  · intro y hy
    obtain ⟨x, hxl, rfl⟩ := List.mem_map.1 hy
    have h := fl_exact x (by have := hx x hxl; omega) 1074 rfl
    first | exact h.1 | exact h.2.1

set_option maxRecDepth 20000 in
set_option maxHeartbeats 6400000 in
theorem mean_core (w : World) (b off n c : Nat) (l : List Int) (hl : l.length = n) (hc : ∀ j u, (ints l)[j]? = some u → w.cell? ⟨b, off + j, none⟩ = some u) (hn : n ≤ 300) (hn0 : 0 < n) :
    Calls Try.prog 5 #[.slice (some ⟨b, off, none⟩) n c] w (OkTrue w) := by
  obtain ⟨i0, hi, hz0, hz1, hz2⟩ := info_parts Try.info24
  have HC := Lib.hid hc
  have HL := Lib.hid hl
  have hgz : ((n : Int) == 0) = false := by rw [beq_eq_false_iff_ne]; omega
  have hg3 : decide ((300 : Int) < (n : Int)) = false := by simp; omega
  have HC0 := Lib.hid (show w.cell? ⟨b, off, none⟩ = some (.int .i64 (l.getD 0 0)) from hc 0 _ (ints_at (by omega)))
  obtain ⟨x0, hx0⟩ : ∃ x, x = l.getD 0 0 := ⟨_, rfl⟩
  rw [← hx0] at HC0
  have HX0 := Lib.hid hx0
  clear hc hl hx0
  go_enter Try.func5, Try.ntmps5
  go_wp2_with fail
  refine (awake_calls w).mono ?_
  rintro e w1 ⟨rfl, ht⟩
  have HT1 := Lib.hid ht
  clear ht
  go_wp2
  go_loopg [3, 4, 21] n (fun g v s i wr => ∃ k : Nat, g = n - k ∧ k ≤ n ∧ i = .int .i64 k ∧ s = .bool ((l.take k).all (fun x => x == x0)) ∧ Hid (wr.ownsRow w1.heap.size 24 1 v k (flts ((l.take k).map fl))) ∧ Hid (Turn nowhere w1 wr) ∧ Hid (∀ j, j < k → (l.getD j 0).natAbs ≤ 1099511627776))
  case atStart => exact ⟨0, rfl, Nat.zero_le _, rfl, rfl, World.ownsRow_lit (base := w1.heap.size) (size := 1) (e := 24) w1 #[] 0 (Nat.le_refl _) (by simp [maxLen]) rfl, (Turn.refl _ _).alloc _, fun j hj => absurd hj (by omega)⟩
  case round =>
    obtain ⟨k, rfl, hk, rfl, rfl, HO, HTW, HIN⟩ := hrel
    have h0 : (0 : Int) ≤ (k : Int) := by omega
    by_cases hlt : k < n
    case pos =>
      have h1 : (k : Int) < (n : Int) := by omega
      have hcx := (HT1.out.trans HTW.out (fun _ _ h => h)).cell (HC.out k _ (ints_at (by rw [HL.out]; exact hlt))) (fun h => h)
      have HS := Lib.hid (ints_step (f := fl) (xs := l) (k := k) (by rw [HL.out]; exact hlt))
      have HA := Lib.hid (all_step (f := fun x => x == x0) (xs := l) (k := k) (by rw [HL.out]; exact hlt))
      have HG := Lib.hid (show ∀ y, y = l.getD k 0 → y.natAbs ≤ 1099511627776 → ∀ j, j < k + 1 → (l.getD j 0).natAbs ≤ 1099511627776 from by
        intro y hy hb j hj
        rcases Nat.lt_or_ge j k with h | h
        · exact HIN.out j h
        · have : j = k := by omega
          rw [this, ← hy]; exact hb)
      generalize hgy : l.getD k 0 = y at hcx HS HA
      have HGY := Lib.hid hgy
      clear hgy
      generalize (l.take k).all (fun x => x == x0) = p at HA ⊢
      by_cases hlow : y < -1099511627776
      case pos =>
        have hb1 : decide (y < -1099511627776) = true := by simpa using hlow
        clear hlow
        go_wp2
        go_ret
        exact ⟨rfl, HT1.out.trans HTW.out (fun _ _ h => h)⟩
      case neg =>
        have hb1 : decide (y < -1099511627776) = false := by simpa using hlow
        by_cases hhigh : 1099511627776 < y
        case pos =>
          have hb2 : decide (1099511627776 < y) = true := by simpa using hhigh
          clear hlow hhigh
          go_wp2
          go_ret
          exact ⟨rfl, HT1.out.trans HTW.out (fun _ _ h => h)⟩
        case neg =>
          have hb2 : decide (1099511627776 < y) = false := by simpa using hhigh
          have HG2 := Lib.hid (HG.out y HGY.out.symm (by omega))
          have c0 := HC0.out
          have hx0c := (HT1.out.trans HTW.out (fun _ _ h => h)).cell c0 (fun h => h)
          obtain ⟨t, ht⟩ : ∃ t, (y == x0) = t := ⟨_, rfl⟩
          rw [ht] at HA
          have wfl : ∃ z, z = fl y := ⟨_, rfl⟩
          obtain ⟨fy, hfy⟩ := wfl
          clear hlow hhigh c0
          cases p <;> cases t
          all_goals
            (go_wp2_with (at_builtin; refine wpList_append_own_at _ rfl (.tmp 31) (.tmp 34) 23 rfl w1.heap.size 24 i0 (.float .f64 0) 1 8 Try.underlying23 hi hz0 hz1 hz2 rfl (by decide) u3 k (flts ((l.take k).map fl)) rfl ?o1 ⟨wr.heap.size, 0, none⟩ 1 1 [.float .f64 (floatOfInt .f64 y)] rfl rfl ?o2 ?o3 ?o4 ?o5 ?o6 ?_)
             case o1 => exact HO.out.alloc _
             case o2 => exact World.news_of_block (cs := #[.float .f64 (floatOfInt .f64 y)]) (t := 24) (fr := (0, 0)) (by
                 have := heap_alloc_new wr (.cells #[.float .f64 (floatOfInt .f64 y)] 24)
                 simpa using this)
             case o3 => intro u hu; simp at hu; subst hu; rfl
             case o4 => unfold maxLen; omega
             case o5 => omega
             case o6 => have := HTW.out.size; simp; omega
             intro v' w5 hown hg _ _
             have HO5 := Lib.hid hown
             have HT5 := Lib.hid (show Turn nowhere w1 w5 from (HTW.out.alloc _).grown hg (fun q hq hlt => by have := (HO.out.lt q hq).1; omega))
             have hx5 := (HT1.out.trans HT5.out (fun _ _ h => h)).cell HC0.out (fun h => h)
             clear hown hg hx0c
             go_wp2
             go_roundg (n - (k + 1))
             case rel => exact ⟨k + 1, rfl, by omega, by go_num, by rw [HA.out]; rfl, by rw [HS.out, flts_append]; exact Lib.hid (by simpa [fl] using HO5.out), HT5, HG2⟩
             case measure => omega)
    case neg =>
      obtain rfl : k = n := by omega
      have htk : l.take k = l := by rw [← HL.out]; exact List.take_length
      rw [htk] at HO ⊢
      obtain ⟨A3, c3, rfl, _, _⟩ := own_form HO.out
      have HRT := Lib.hid (Reads.of_own HO.out)
      have HXS := Lib.hid (show ∀ x ∈ l, x.natAbs ≤ 1099511627776 from by
        intro x hx
        obtain ⟨i, hi, rfl⟩ := List.mem_iff_getElem.1 hx
        have := HIN.out i (by have := HL.out; omega)
        simpa [List.getD, List.getElem?_eq_getElem hi] using this)
      have HW := Lib.hid (show ∀ j, j < k → w64 ((l.map fl).getD j 0) from by
        intro j hj
        have hjl : j < l.length := by rw [HL.out]; exact hj
        simp only [List.getD, List.getElem?_map, List.getElem?_eq_getElem hjl, Option.map_some, Option.getD_some]
        exact (fl_exact _ (by have := HXS.out _ (List.getElem_mem hjl); omega) 1074 rfl).1)
      have HML := Lib.hid (show ∀ (r lo hi : Nat), MeanR (l.map fl) k r → LeastR (l.map fl) lo → MostR (l.map fl) hi → w64 lo → w64 hi →
          fGe r lo = true ∧ fLe r hi = true ∧ ∀ a : Int, a.natAbs ≤ 1099511627776 → (∀ x ∈ l, x = a) → fEq r (fl a) = true from
        fun r lo hi h1 h2 h3 h4 h5 => mean_law (l := l) (by rw [HL.out]; exact hn0) (by rw [HL.out]; exact hn) HXS.out (by rw [HL.out]; exact h1) h2 h3 h4 h5)
      have hx0b : x0.natAbs ≤ 1099511627776 := by rw [HX0.out]; exact HIN.out 0 hn0
      have HCX := Lib.hid (show ∀ W, Turn nowhere wr W → ∃ b3 o3, A3 = some ⟨b3, o3, none⟩ ∧ W.cell? ⟨b3, o3, none⟩ = some (.float .f64 (fl x0)) from by
        intro W hW
        obtain ⟨b3, o3, hA, hcc⟩ := (HRT.out.kept hW).2 hn0
        refine ⟨b3, o3, hA, ?_⟩
        have h3 := hcc 0 _ (flts_at (xs := l.map fl) (k := 0) (by rw [List.length_map, HL.out]; exact hn0))
        have hjl : 0 < l.length := by rw [HL.out]; exact hn0
        have e : (l.map fl).getD 0 0 = fl x0 := by
          rw [HX0.out]
          simp [List.getD, List.getElem?_eq_getElem hjl]
        rw [e] at h3
        exact h3)
      generalize hpa : l.all (fun x => x == x0) = p
      have HPA := Lib.hid hpa
      clear HO htk HIN hpa
      go_wp2_with fail
      refine (mean_calls A3 k c3 (l.map fl) _ HRT.out HW.out (by omega)).mono ?_
      rintro e w6 ⟨r, rfl, hr, r64, ht⟩
      have HR := Lib.hid hr
      have HT6 := Lib.hid ht
      clear hr ht
      go_wp2_with fail
      refine (least_calls A3 k c3 (l.map fl) _ (HRT.out.kept HT6.out) HW.out (by omega)).mono ?_
      rintro e w7 ⟨lo, rfl, hlo, lo64, ht⟩
      have HLO := Lib.hid hlo
      have HT7 := Lib.hid (HT6.out.trans ht (fun _ _ h => h))
      clear hlo ht
      obtain ⟨g1, hg1⟩ : ∃ g, fGe r lo = g := ⟨_, rfl⟩
      have HG1 := Lib.hid hg1
      have hg1t : fGe r lo = true := by
        obtain ⟨w8, hw8⟩ : ∃ hh, MostR (l.map fl) hh ∧ w64 hh := most_exists HL.out HXS.out
        exact (HML.out _ _ _ HR.out HLO.out hw8.1 lo64 hw8.2).1
      clear hg1
      go_wp2_with fail
      refine (most_calls A3 k c3 (l.map fl) _ (HRT.out.kept HT7.out) HW.out (by omega)).mono ?_
      rintro e w8 ⟨hh, rfl, hhh, hh64, ht⟩
      have hres := HML.out _ _ _ HR.out HLO.out hhh lo64 hh64
      have hg2 := hres.2.1
      have HT8 := Lib.hid (HT7.out.trans ht (fun _ _ h => h))
      obtain ⟨b3, o3, rfl, hc3⟩ := HCX.out w8 HT8.out
      have hg3 := hres.2.2 x0 hx0b
      clear hhh ht hres
      have HTE := Lib.hid (HT1.out.trans (HTW.out.trans HT8.out (fun _ _ h => h)) (fun _ _ h => h))
      cases p with
      | false =>
        go_wp2
        go_ret
        exact ⟨rfl, HTE.out⟩
      | true =>
        have hg4 := hg3 (fun x hx => by have := List.all_eq_true.1 HPA.out x hx; simpa using this)
        clear hg3
        go_wp2
        go_ret
        exact ⟨rfl, HTE.out⟩

end Go.Proofs.Ytkphnmpildkdaaa
