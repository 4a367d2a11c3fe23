/- The contract of StatEnds: true. -/
import Derived.Test.YtkphnmpildkdaaaAwake
import Derived.Test.YtkphnmpildkdaaaEndsLaw
namespace Go.Proofs.Ytkphnmpildkdaaa
open Go.RowKit Go.Maps

attribute [local go_sem high] cmp_eql cmp_neq cmp_lss cmp_gtr run_neg

theorem any_step {f : Nat → Bool} {xs : List Nat} {k : Nat} (h : k < xs.length) : (xs.take (k + 1)).any f = ((xs.take k).any f || f (xs.getD k 0)) := by
  rw [List.take_succ_eq_append_getElem h, List.any_append]
  simp [List.getD, List.getElem?_eq_getElem h]
theorem getD_mem {xs : List Nat} {k : Nat} (h : k < xs.length) : xs.getD k 0 ∈ xs := by
  simp only [List.getD, List.getElem?_eq_getElem h, Option.getD_some]
  exact List.getElem_mem _
theorem w64_all {xs : List Nat} {n : Nat} (hl : xs.length = n) (hw : ∀ k, k < n → w64 (xs.getD k 0)) : ∀ x ∈ xs, w64 x := by
  intro x hx
  obtain ⟨i, hi, rfl⟩ := List.mem_iff_getElem.1 hx
  have := hw i (by omega)
  simpa [List.getD, List.getElem?_eq_getElem hi] using this

set_option maxRecDepth 20000 in
set_option maxHeartbeats 6400000 in
theorem ends_core (w : World) (A : Option Addr) (n c : Nat) (xs : List Nat) (hx : Reads w 1 A n (flts xs)) (hw : ∀ k, k < n → w64 (xs.getD k 0)) (hn : n ≤ 300) :
    Calls Try.prog 4 #[.slice A n c] w (OkTrue w) := by
  obtain ⟨i0, hi, hz0, hz1, hz2⟩ := info_parts Try.info24
  have hl : xs.length = n := by simpa using hx.1
  have HALL := Lib.hid (w64_all hl hw)
  have HX := Lib.hid hx
  have HL := Lib.hid hl
  have HW := Lib.hid hw
  clear hx hl hw
  go_enter Try.func4, Try.ntmps4
  go_wp2_with fail
  refine (awake_calls w).mono ?_
  rintro e w1 ⟨rfl, ht⟩
  have HT1 := Lib.hid ht
  clear ht
  go_wp2_with fail
  refine (least_calls A n c xs _ (HX.out.kept (HT1.out.alloc _)) HW.out (by omega)).mono ?_
  rintro e w2 ⟨r, rfl, hr, r64, ht⟩
  have HR := Lib.hid hr
  have HT2 := Lib.hid (show Turn nowhere w1 w2 from ((Turn.refl nowhere w1).alloc _).trans ht (fun _ _ h => h))
  have HT := Lib.hid (HT1.out.trans HT2.out (fun _ _ h => h))
  have HO0 := Lib.hid ((World.ownsRow_lit (base := w1.heap.size) (size := 1) (e := 24) w1 #[] 0 (Nat.le_refl _) (by simp [maxLen]) rfl))
  have HO1 := Lib.hid (ht.own HO0.out (fun _ _ h => h))
  clear hr ht HO0
  go_wp2_with fail
  obtain ⟨z, hz⟩ : ∃ z, ((n : Int) == 0) = z := ⟨_, rfl⟩
  rw [hz]
  have HZ := Lib.hid hz
  clear hz
  go_loopg [3, 4, 5, 24] n (fun g v b4 b5 i wr => ∃ k : Nat, g = n - k ∧ k ≤ n ∧ i = .int .i64 k ∧ b4 = .bool ((xs.take k).any isNaN) ∧ b5 = .bool (z || (xs.take k).any (fun x => sameF x r)) ∧
    Hid (wr.ownsRow w1.heap.size 24 1 v k (flts ((xs.take k).map neg))) ∧ Hid (Turn nowhere w1 wr))
  case atStart => exact ⟨0, rfl, Nat.zero_le _, rfl, rfl, (by simp), HO1, HT2⟩
  case round =>
    obtain ⟨k, rfl, hk, rfl, rfl, rfl, HO, HTW⟩ := hrel
    have h0 : (0 : Int) ≤ (k : Int) := by omega
    by_cases hlt : k < n
    case pos =>
      have h1 : (k : Int) < (n : Int) := by omega
      obtain ⟨b, off, rfl, hc⟩ := HX.out.2 (by omega)
      have hcx := (HT1.out.trans HTW.out (fun _ _ h => h)).cell (hc k _ (flts_at (by rw [HL.out]; exact hlt))) (fun h => h)
      have hwx := HW.out k hlt
      have HS := Lib.hid (map_take_snoc (f := neg) (xs := xs) (k := k) (by rw [HL.out]; exact hlt))
      have HN := Lib.hid (any_step (f := isNaN) (xs := xs) (k := k) (by rw [HL.out]; exact hlt))
      have HM := Lib.hid (show (z || (xs.take (k + 1)).any (fun x => sameF x r)) = ((z || (xs.take k).any (fun x => sameF x r)) || sameF (xs.getD k 0) r) from by rw [any_step (by rw [HL.out]; exact hlt), Bool.or_assoc])
      clear hc
      generalize xs.getD k 0 = y at hcx hwx HS HN HM
      generalize (xs.take k).any isNaN = p1 at HN ⊢
      generalize (z || (xs.take k).any (fun x => sameF x r)) = p2 at HM ⊢
      obtain ⟨t1, ht1⟩ : ∃ t, isNaN y = t := ⟨_, rfl⟩
      obtain ⟨t2, ht2⟩ : ∃ t, sameF y r = t := ⟨_, rfl⟩
      rw [ht1] at HN
      rw [ht2] at HM
      have hself := fEq_self hwx
      rw [ht1] at hself
      have HT2b := Lib.hid ht2
      clear ht1 ht2
      cases p1 <;> cases p2 <;> cases t1 <;> cases t2
      all_goals
        (simp only [Bool.not_true, Bool.not_false] at hself
         go_wp2_with (first
           | (go_at_call 20; refine (turn_calls y _).mono ?_; rintro e w' ⟨rfl, rfl⟩)
           | (go_at_call 12; refine (same_calls y r _ hwx r64).mono ?_; rw [HT2b.out]; rintro e w' ⟨rfl, rfl⟩)
           | (at_builtin; refine wpList_append_own_at _ rfl (.tmp 28) (.tmp 31) 23 rfl w1.heap.size 24 i0 (.float .f64 0) 1 8 Try.underlying23 hi hz0 hz1 hz2 rfl (by decide) u3 k (flts ((xs.take k).map neg)) rfl ?o1 ⟨wr.heap.size, 0, none⟩ 1 1 [.float .f64 (neg y)] rfl rfl ?o2 ?o3 ?o4 ?o5 ?o6 ?_))
         case o1 => exact HO.out.alloc _
         case o2 => exact World.news_of_block (cs := #[.float .f64 (neg y)]) (t := 24) (fr := (0, 0)) (by
             have := heap_alloc_new wr (.cells #[.float .f64 (neg y)] 24)
             simpa using this)
         case o3 => intro u hu; simp at hu; subst hu; rfl
         case o4 => unfold maxLen; omega
         case o5 => omega
         case o6 => have := HTW.out.size; simp; omega
         intro v' w5 hown hg _ hsame
         have HO5 := Lib.hid hown
         have HT5 := Lib.hid (show Turn nowhere w1 w5 from (HTW.out.alloc _).grown hg (fun q hq hlt => by have := (HO.out.lt q hq).1; omega))
         clear hown hg hsame
         go_wp2_with (first
           | (go_at_call 12; refine (same_calls y r _ hwx r64).mono ?_; rw [HT2b.out]; rintro e w' ⟨rfl, rfl⟩))
         go_roundg (n - (k + 1))
         case rel => exact ⟨k + 1, rfl, by omega, by go_num, by rw [HN.out]; rfl, by rw [HM.out]; rfl, by rw [HS.out, flts_append]; exact Lib.hid (by simpa using HO5.out), HT5⟩
         case measure => omega)
    case neg =>
      obtain rfl : k = n := by omega
      have htk : xs.take k = xs := by rw [← HL.out]; exact List.take_length
      rw [htk] at HO ⊢
      obtain ⟨A3, c3, rfl, _, _⟩ := own_form HO.out
      have hth : (z || xs.any (fun x => sameF x r)) = true := by
        rw [← HZ.out]
        rcases Nat.eq_zero_or_pos k with h | h
        · rw [h]; rfl
        · rw [least_there HR.out HALL.out r64 (by intro h2; have := HL.out; rw [h2] at this; simp at this; omega)]; simp
      rw [hth]
      have hkz : (kindOf r == 0) = xs.any isNaN := by rw [kind_zero, (HR.out.char HALL.out r64).1]
      have HB := Lib.hid (least_below HR.out HALL.out r64)
      have hw2 : ∀ j, j < k → w64 ((xs.map neg).getD j 0) := by
        intro j hj
        have h := HW.out j hj
        have hjl : j < xs.length := by rw [HL.out]; exact hj
        simp only [List.getD, List.getElem?_eq_getElem hjl, Option.getD_some, List.getElem?_map, Option.map_some] at h ⊢
        exact (neg_parts h).1
      have HW2 := Lib.hid hw2
      have HRT := Lib.hid (Reads.of_own HO.out)
      obtain ⟨kr, hkr⟩ : ∃ kr, kr = kindOf r := ⟨_, rfl⟩
      rw [← hkr] at hkz
      have HKR := Lib.hid hkr
      clear hth hw2 HO hkr
      generalize hnn : xs.any isNaN = nn at hkz ⊢
      have HNN := Lib.hid hnn
      clear hnn
      cases nn with
      | false =>
        go_wp2_with (first
         | (go_at_call 17; refine (most_calls A k c xs _ (HX.out.kept (HT1.out.trans HTW.out (fun _ _ h => h))) HW.out (by omega)).mono ?_; rintro e w6 ⟨m, rfl, hm, m64, ht⟩; have HMM := Lib.hid hm; have HT6 := Lib.hid ht; clear hm ht)
         | (go_at_call 15; refine (least_calls A3 k c3 (xs.map neg) _ (HRT.out.kept HT6.out) HW2.out (by omega)).mono ?_; rintro e w7 ⟨q, rfl, hq, q64, ht⟩; have HQ := Lib.hid hq; have HT7 := Lib.hid (HTW.out.trans (HT6.out.trans ht (fun _ _ h => h)) (fun _ _ h => h)); clear hq ht)
         | (go_at_call 20; refine (turn_calls q _).mono ?_; rintro e w' ⟨rfl, rfl⟩)
         | (go_at_call 12; refine (same_calls m (neg q) _ m64 (neg_parts q64).1).mono ?_; rw [most_same HMM.out HQ.out HALL.out m64 q64]; rintro e w' ⟨rfl, rfl⟩)
         | (go_at_call 21; refine (kind_calls r _ r64).mono ?_; rw [← HKR.out]; rintro e w' ⟨rfl, rfl⟩))
        go_loopg [66] k (fun g i wy => ∃ p : Nat, g = k - p ∧ p ≤ k ∧ i = .int .i64 p ∧ Hid (Turn nowhere w1 wy))
        case atStart => exact ⟨0, rfl, Nat.zero_le _, rfl, HT7⟩
        case round =>
          obtain ⟨p, rfl, hp, rfl, HTY⟩ := hrel
          have p0 : (0 : Int) ≤ (p : Int) := by omega
          by_cases hpl : p < k
          case pos =>
            have p1 : (p : Int) < (k : Int) := by omega
            obtain ⟨b, off, rfl, hc⟩ := HX.out.2 (by omega)
            have hcx := (HT1.out.trans HTY.out (fun _ _ h => h)).cell (hc p _ (flts_at (by rw [HL.out]; exact hpl))) (fun h => h)
            have hym : xs.getD p 0 ∈ xs := getD_mem (by rw [HL.out]; exact hpl)
            have HYM := Lib.hid hym
            clear hc hym
            generalize xs.getD p 0 = y at hcx HYM
            have hb1 := HB.out HNN.out y HYM.out
            go_wp2_with (go_at_call 17; refine (most_calls _ k c xs _ (HX.out.kept (HT1.out.trans HTY.out (fun _ _ h => h))) HW.out (by omega)).mono ?_; rintro e w8 ⟨m2, rfl, hm, m264, ht⟩; have hb2 := most_above hm HALL.out m264 HNN.out y HYM.out; have HT8 := Lib.hid (HTY.out.trans ht (fun _ _ h => h)); clear hm ht)
            go_roundg (k - (p + 1))
            case rel => exact ⟨p + 1, rfl, by omega, by go_num, HT8⟩
            case measure => omega
          case neg =>
            obtain rfl : p = k := by omega
            go_wp2
            go_ret
            exact ⟨rfl, HT1.out.trans HTY.out (fun _ _ h => h)⟩
      | true =>
        go_wp2_with (first
         | (go_at_call 17; refine (most_calls A k c xs _ (HX.out.kept (HT1.out.trans HTW.out (fun _ _ h => h))) HW.out (by omega)).mono ?_; rintro e w6 ⟨m, rfl, hm, m64, ht⟩; have HMM := Lib.hid hm; have HT6 := Lib.hid ht; clear hm ht)
         | (go_at_call 15; refine (least_calls A3 k c3 (xs.map neg) _ (HRT.out.kept HT6.out) HW2.out (by omega)).mono ?_; rintro e w7 ⟨q, rfl, hq, q64, ht⟩; have HQ := Lib.hid hq; have HT7 := Lib.hid (HTW.out.trans (HT6.out.trans ht (fun _ _ h => h)) (fun _ _ h => h)); clear hq ht)
         | (go_at_call 20; refine (turn_calls q _).mono ?_; rintro e w' ⟨rfl, rfl⟩)
         | (go_at_call 12; refine (same_calls m (neg q) _ m64 (neg_parts q64).1).mono ?_; rw [most_same HMM.out HQ.out HALL.out m64 q64]; rintro e w' ⟨rfl, rfl⟩)
         | (go_at_call 21; refine (kind_calls r _ r64).mono ?_; rw [← HKR.out]; rintro e w' ⟨rfl, rfl⟩))
        go_loopg [66] k (fun g i wy => ∃ p : Nat, g = k - p ∧ p ≤ k ∧ i = .int .i64 p ∧ Hid (Turn nowhere w1 wy))
        case atStart => exact ⟨0, rfl, Nat.zero_le _, rfl, HT7⟩
        case round =>
          obtain ⟨p, rfl, hp, rfl, HTY⟩ := hrel
          have p0 : (0 : Int) ≤ (p : Int) := by omega
          by_cases hpl : p < k
          case pos =>
            have p1 : (p : Int) < (k : Int) := by omega
            obtain ⟨b, off, rfl, hc⟩ := HX.out.2 (by omega)
            have hcx := (HT1.out.trans HTY.out (fun _ _ h => h)).cell (hc p _ (flts_at (by rw [HL.out]; exact hpl))) (fun h => h)
            have hym : xs.getD p 0 ∈ xs := getD_mem (by rw [HL.out]; exact hpl)
            have HYM := Lib.hid hym
            clear hc hym
            generalize xs.getD p 0 = y at hcx HYM
            go_wp2
            go_roundg (k - (p + 1))
            case rel => exact ⟨p + 1, rfl, by omega, by go_num, HTY⟩
            case measure => omega
          case neg =>
            obtain rfl : p = k := by omega
            go_wp2
            go_ret
            exact ⟨rfl, HT1.out.trans HTY.out (fun _ _ h => h)⟩

end Go.Proofs.Ytkphnmpildkdaaa
