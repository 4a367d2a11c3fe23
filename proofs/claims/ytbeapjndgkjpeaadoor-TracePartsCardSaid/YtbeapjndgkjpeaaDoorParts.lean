/- The contract of TraceParts: true. -/
import Derived.Test.YtbeapjndgkjpeaaDoorAwake
namespace Go.Proofs.YtbeapjndgkjpeaaDoor
open Go.RowKit Go.Maps

/-- How many are of a kind from 1 to below j. -/
def sumTo (l : List Ev) (j : Nat) : Nat := (l.filter (fun x => decide (1 ≤ x.kind) && decide (x.kind < (j : Int)))).length
theorem sum_one (l : List Ev) : sumTo l 1 = 0 := by
  unfold sumTo
  rw [List.length_eq_zero_iff, List.filter_eq_nil_iff]
  intro x _
  simp only [Bool.and_eq_true, decide_eq_true_eq]
  omega
theorem sum_step (l : List Ev) (j : Nat) (h : 1 ≤ j) : sumTo l (j + 1) = sumTo l j + cnt l (j : Int) := by
  unfold sumTo cnt
  induction l with
  | nil => rfl
  | cons x l ih =>
    simp only [List.filter_cons]
    by_cases h1 : x.kind = (j : Int)
    · have b1 : (decide (1 ≤ x.kind) && decide (x.kind < ((j + 1 : Nat) : Int))) = true := by simp; omega
      have b2 : (decide (1 ≤ x.kind) && decide (x.kind < ((j : Nat) : Int))) = false := by simp; omega
      have b3 : (x.kind == (j : Int)) = true := by simpa using h1
      rw [b1, b2, b3]
      simp only [if_true, List.length_cons, Bool.false_eq_true, if_false]
      omega
    · have b3 : (x.kind == (j : Int)) = false := beq_eq_false_iff_ne.2 h1
      have b4 : (decide (1 ≤ x.kind) && decide (x.kind < ((j + 1 : Nat) : Int))) = (decide (1 ≤ x.kind) && decide (x.kind < ((j : Nat) : Int))) := by
        congr 1
        simp only [decide_eq_decide]
        omega
      rw [b4, b3]
      cases (decide (1 ≤ x.kind) && decide (x.kind < ((j : Nat) : Int))) <;> simp only [if_true, List.length_cons, Bool.false_eq_true, if_false] <;> omega
theorem sum_le (l : List Ev) (j : Nat) : sumTo l j ≤ l.length := List.length_filter_le _ _
theorem sum_all (l : List Ev) : l.all okEv = decide (sumTo l 9 = l.length) := by
  rw [Bool.eq_iff_iff, decide_eq_true_eq]
  unfold sumTo
  rw [List.length_filter_eq_length_iff, List.all_eq_true]
  constructor
  · intro h x hx
    have := h x hx
    unfold okEv at this
    simp at this ⊢
    omega
  · intro h x hx
    have := h x hx
    unfold okEv
    simp at this ⊢
    omega
theorem of_twice (t : Int) (l : List Ev) : ofT t (ofT t l) = ofT t l := by
  unfold ofT
  rw [List.filter_filter]
  congr 1
  funext x
  simp
theorem of_other {t u : Int} (h : u ≠ t) (l : List Ev) : ofT u (ofT t l) = [] := by
  unfold ofT
  rw [List.filter_filter, List.filter_eq_nil_iff]
  intro x _
  simp only [Bool.and_eq_true, beq_iff_eq, not_and]
  omega
theorem of_task {t : Int} {l : List Ev} {k : Nat} (h : k < (ofT t l).length) : ((ofT t l).getD k default).task = t := by
  simp only [List.getD, List.getElem?_eq_getElem h, Option.getD_some]
  have := (List.mem_filter.1 (List.getElem_mem h)).2
  simpa using this
theorem of_len (t : Int) (l : List Ev) : (ofT t l).length ≤ l.length := List.length_filter_le _ _
theorem wrap_next (t : Int) : wrap64 (t + 1) ≠ t := by unfold wrap64; omega

set_option maxRecDepth 20000 in
set_option maxHeartbeats 3200000 in
theorem parts_calls (A : Option Addr) (n c : Nat) (l : List Ev) (t : Int) (w : World) (hx : Reads w 4 A n (evs l)) (hi : ∀ x ∈ l, i64Ev x) (he : Env w) :
    Calls Tryd.prog 5 #[.slice A n c, .int .i64 t] w (OkTrue w) := by
  have hl : l.length = n := by have := hx.1; rw [evs_len] at this; omega
  have HX := Lib.hid hx
  have HL := Lib.hid hl
  have HI := Lib.hid hi
  have HE := Lib.hid he
  clear hx hl hi he
  go_enter Tryd.func5, Tryd.ntmps5
  go_wp2_with fail
  refine (awake_calls _ HE.out).mono ?_
  rintro e w1 ⟨rfl, ht⟩
  have HT1 := Lib.hid ht
  clear ht
  by_cases h200 : n ≤ 200
  case neg =>
    have hb : (200 : Int) < (n : Int) := by omega
    go_wp2
    go_ret
    exact ⟨rfl, HT1.out⟩
  case pos =>
    have hb : ¬ (200 : Int) < (n : Int) := by omega
    go_wp2_with fail
    go_loopg [5, 6] 9 (fun g s i wr => ∃ k : Nat, g = 10 - k ∧ 1 ≤ k ∧ k ≤ 9 ∧ i = .int .i64 k ∧ s = .int .i64 ((sumTo l k : Nat) : Int) ∧ Hid (Turn nowhere w wr))
    case atStart => exact ⟨1, rfl, by omega, by omega, rfl, by rw [sum_one]; rfl, HT1⟩
    case round =>
      obtain ⟨k, rfl, hk1, hk9, rfl, rfl, HT⟩ := hrel
      have h0 : (0 : Int) ≤ (k : Int) := by omega
      have HRd := Lib.hid (HX.out.kept HT.out)
      have hsl := sum_le l k
      rw [HL.out] at hsl
      by_cases hlt : k ≤ 8
      case pos =>
        have h1 : (k : Int) ≤ 8 := by omega
        have HS := Lib.hid (sum_step l k hk1)
        have hcl := cnt_le l (k : Int)
        rw [HL.out] at hcl
        go_wp2_with fail
        refine (count_calls A n c l k _ HRd.out (by omega)).mono ?_
        rintro e w2 ⟨rfl, ht⟩
        have HT2 := Lib.hid (HT.out.trans ht (fun _ _ h => h))
        clear ht
        generalize cnt l (k : Int) = cn at HS hcl ⊢
        go_wp2_with fail
        go_roundg (10 - (k + 1))
        case rel => exact ⟨k + 1, rfl, by omega, by omega, by go_num, by rw [HS.out]; go_num, HT2⟩
        case measure => omega
      case neg =>
        obtain rfl : k = 9 := by omega
        have HSA := Lib.hid (sum_all l)
        generalize sumTo l 9 = S at HSA hsl ⊢
        clear hlt
        go_wp2_with fail
        refine (text_calls A n c l _ HRd.out HI.out (by omega) (HE.out.turn HT.out)).mono ?_
        rintro e w2 ⟨hr, ht⟩
        have hr2 : ∃ T E b, e = .returned (.tuple #[str T, .int .i64 E]) ∧ (E == 0) = b ∧ ((S : Int) == (n : Int)) = b := by
          rw [HSA.out, HL.out] at hr
          rcases hr with ⟨h, h2⟩ | ⟨h, h2⟩
          · refine ⟨_, _, _, h2, rfl, ?_⟩
            simp at h
            simp [h]
          · refine ⟨_, _, _, h2, rfl, ?_⟩
            simp at h
            have : ((S : Int) == (n : Int)) = false := by rw [beq_eq_false_iff_ne]; omega
            rw [this]; rfl
        obtain ⟨T, E, b, rfl, hb1, hb2⟩ := hr2
        have hb3 : ¬ (n : Int) < (S : Int) := by omega
        have HT2 := Lib.hid (HT.out.trans ht (fun _ _ h => h))
        clear ht hr
        have HR3 := Lib.hid (HX.out.kept HT2.out)
        go_wp2_with fail
        refine (of_calls A n c t l _ HR3.out (by omega)).mono ?_
        rintro e w3 ⟨v, rfl, ho, ht⟩
        have hml : (ofT t l).length ≤ n := by have := of_len t l; rw [HL.out] at this; exact this
        have HTK := Lib.hid (fun k h => of_task (t := t) (l := l) (k := k) h)
        have HTW := Lib.hid (of_twice t l)
        have HOT := Lib.hid (of_other (wrap_next t) l)
        obtain ⟨B, d, rfl, _, _⟩ := own_form ho
        have HO := Lib.hid (Reads.of_own ho)
        have HT3 := Lib.hid (HT2.out.trans ht (fun _ _ h => h))
        clear ho ht HT2 HR3 HRd HT hb1 hb2 hb3 hsl
        generalize ofT t l = O at hml HTK HTW HOT HO ⊢
        obtain ⟨m, hm⟩ : ∃ m, m = O.length := ⟨_, rfl⟩
        have HM := Lib.hid hm
        rw [← hm] at hml HTK HO ⊢
        clear hm
        go_wp2_with fail
        go_loopg [49] m (fun g i wr => ∃ k : Nat, g = m - k ∧ k ≤ m ∧ i = .int .i64 k ∧ Hid (Turn nowhere w3 wr))
        case atStart => exact ⟨0, rfl, Nat.zero_le _, rfl, Turn.refl _ _⟩
        case round =>
          obtain ⟨k, rfl, hk, rfl, HT⟩ := hrel
          have h0 : (0 : Int) ≤ (k : Int) := by omega
          by_cases hlt : k < m
          case pos =>
            have h1 : (k : Int) < (m : Int) := by omega
            obtain ⟨b, off, rfl, hx⟩ := HO.out.ev (by omega)
            have ha := (hx k hlt).turn HT.out (fun h => h)
            have hq := HTK.out k hlt
            clear hx
            generalize O.getD k default = y at ha hq
            obtain ⟨y0, y1, y2, y3⟩ := y
            obtain ⟨a0, a1, a2, a3⟩ := ha
            simp only at a0 a1 a2 a3 hq
            subst hq
            go_wp2
            go_roundg (m - (k + 1))
            case rel => exact ⟨k + 1, rfl, by omega, by go_num, HT.out.alloc _⟩
            case measure => omega
          case neg =>
            obtain rfl : k = m := by omega
            clear h0 hk
            have hle : (k : Int) ≤ (n : Int) := by omega
            have HT4 := Lib.hid (HT3.out.trans HT.out (fun _ _ h => h))
            have HO4 := Lib.hid (HO.out.kept HT.out)
            clear HT
            go_wp2_with fail
            refine (of_calls B k d t O _ HO4.out (by omega)).mono ?_
            rw [HTW.out, ← HM.out]
            rintro e w5 ⟨v, rfl, ho, ht⟩
            obtain ⟨C, d5, rfl, _, _⟩ := own_form ho
            have HC5 := Lib.hid (Reads.of_own ho)
            have HT5 := Lib.hid (HT4.out.trans ht (fun _ _ h => h))
            have HO5 := Lib.hid (HO4.out.kept ht)
            clear ho ht HT4 HO4
            go_wp2_with fail
            refine (own_calls C k d5 O _ HC5.out (by omega)).mono ?_
            rintro e w6 ⟨v, rfl, ho, ht⟩
            obtain ⟨D, d6, rfl, _, _⟩ := own_form ho
            have HD6 := Lib.hid (Reads.of_own ho)
            have HT6 := Lib.hid (HT5.out.trans ht (fun _ _ h => h))
            have HO6 := Lib.hid (HO5.out.kept ht)
            clear ho ht HT5 HO5 HC5
            go_wp2_with fail
            refine (own_calls B k d O _ HO6.out (by omega)).mono ?_
            rintro e w7 ⟨v, rfl, ho, ht⟩
            obtain ⟨G, d7, rfl, _, _⟩ := own_form ho
            have HG7 := Lib.hid (Reads.of_own ho)
            have HT7 := Lib.hid (HT6.out.trans ht (fun _ _ h => h))
            have HO7 := Lib.hid (HO6.out.kept ht)
            have HD7 := Lib.hid (HD6.out.kept ht)
            clear ho ht HT6 HO6 HD6
            go_wp2_with fail
            refine (same_calls D G k d6 d7 O _ HD7.out HG7.out (by omega)).mono ?_
            rintro e w8 ⟨rfl, ht⟩
            have HT8 := Lib.hid (HT7.out.trans ht (fun _ _ h => h))
            have HO8 := Lib.hid (HO7.out.kept ht)
            clear ht HT7 HO7 HD7 HG7
            go_wp2_with fail
            refine (of_calls B k d (wrap64 (t + 1)) O _ HO8.out (by omega)).mono ?_
            rw [HOT.out]
            rintro e w9 ⟨v, rfl, ho, ht⟩
            obtain ⟨E9, d9, rfl, _, _⟩ := own_form ho
            have HT9 := Lib.hid (HT8.out.trans ht (fun _ _ h => h))
            clear ho ht HT8 HO8
            go_wp2
            go_ret
            exact ⟨rfl, HT9.out⟩

end Go.Proofs.YtbeapjndgkjpeaaDoor
