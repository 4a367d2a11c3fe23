/- Contracts: what a float is (Kind on both sides), whether two are the same, a float's sign, infinities. -/
import Derived.Test.YtkphnmpildkdaaaRows
import Derived.Test.YtkphnmpildkdaaaWords
import Derived.Test.YtkphnmpildkdaaaFlo2
import Derived.Laws.Externs
import Derived.Laws.BitsAllLaws
namespace Go.Proofs.Ytkphnmpildkdaaa
open Go.RowKit Go.Maps

def fEq (x y : Nat) : Bool := Ieee.double.order x y == some .eq
def fLt (x y : Nat) : Bool := Ieee.double.order x y == some .lt
def fGt (x y : Nat) : Bool := Ieee.double.order x y == some .gt

abbrev w64 (x : Nat) : Prop := x < 18446744073709551616

theorem cmp_lt_iff (a b : Int) : (compare a b = .lt) ↔ a < b := by
  rw [cmp_form]
  split
  · simp; omega
  · split
    · simp; omega
    · simp; omega
theorem cmp_eq_iff (a b : Int) : (compare a b = .eq) ↔ a = b := by rw [cmp_form]; split <;> simp_all; omega
theorem cmp_gt_iff (a b : Int) : (compare a b = .gt) ↔ b < a := by
  rw [cmp_form]
  split
  · simp; omega
  · split
    · simp; omega
    · simp; omega

theorem fEq_nan {x y : Nat} (hx : w64 x) (hy : w64 y) (h : isNaN x = true ∨ isNaN y = true) : fEq x y = false := by unfold fEq; rw [order_nan hx hy h]; rfl
theorem fLt_nan {x y : Nat} (hx : w64 x) (hy : w64 y) (h : isNaN x = true ∨ isNaN y = true) : fLt x y = false := by unfold fLt; rw [order_nan hx hy h]; rfl
theorem fGt_nan {x y : Nat} (hx : w64 x) (hy : w64 y) (h : isNaN x = true ∨ isNaN y = true) : fGt x y = false := by unfold fGt; rw [order_nan hx hy h]; rfl
theorem fEq_key {x y : Nat} (hx : w64 x) (hy : w64 y) (nx : isNaN x = false) (ny : isNaN y = false) : fEq x y = decide (key x = key y) := by
  unfold fEq; rw [order_key hx hy nx ny, Bool.eq_iff_iff]; simp
theorem fLt_key {x y : Nat} (hx : w64 x) (hy : w64 y) (nx : isNaN x = false) (ny : isNaN y = false) : fLt x y = decide (key x < key y) := by
  unfold fLt; rw [order_key hx hy nx ny, Bool.eq_iff_iff]; simp [cmp_lt_iff]
theorem fGt_key {x y : Nat} (hx : w64 x) (hy : w64 y) (nx : isNaN x = false) (ny : isNaN y = false) : fGt x y = decide (key y < key x) := by
  unfold fGt; rw [order_key hx hy nx ny, Bool.eq_iff_iff]; simp [cmp_gt_iff]
theorem fEq_self {x : Nat} (hx : w64 x) : fEq x x = !isNaN x := by
  cases h : isNaN x with
  | true => rw [fEq_nan hx hx (.inl h)]; rfl
  | false => rw [fEq_key hx hx h h]; simp

@[local go_sem high] theorem cmp_eql (t : TypeId) (a b : Nat) : binOp .eql t (.float .f64 a) (.float .f64 b) = pure (.bool (fEq a b)) := binOp_float_cmp_eql t .f64 a b
@[local go_sem high] theorem cmp_neq (t : TypeId) (a b : Nat) : binOp .neq t (.float .f64 a) (.float .f64 b) = pure (.bool (!fEq a b)) := by rw [binOp_float_cmp_neq]; rfl
@[local go_sem high] theorem cmp_lss (t : TypeId) (a b : Nat) : binOp .lss t (.float .f64 a) (.float .f64 b) = pure (.bool (fLt a b)) := binOp_float_cmp_lss t .f64 a b
@[local go_sem high] theorem cmp_gtr (t : TypeId) (a b : Nat) : binOp .gtr t (.float .f64 a) (.float .f64 b) = pure (.bool (fGt a b)) := binOp_float_cmp_gtr t .f64 a b

/-- A turned sign. -/
def neg (x : Nat) : Nat := Op.negFloat .f64 x
theorem neg_form (x : Nat) : neg x = x ^^^ 9223372036854775808 := rfl
theorem neg_parts {x : Nat} (hx : w64 x) : w64 (neg x) ∧ mg (neg x) = mg x ∧ isNeg (neg x) = !isNeg x := by
  have low : ∀ c, c < 9223372036854775808 → c ^^^ 9223372036854775808 = 9223372036854775808 + c := by
    intro c hc
    have := Nat.two_pow_add_eq_or_of_lt (i := 63) (b := c) (by simpa using hc) 1
    simp only [Nat.mul_one] at this
    rw [show (9223372036854775808 : Nat) = 2 ^ 63 from by decide, this]
    apply Nat.eq_of_testBit_eq
    intro i
    rw [Nat.testBit_xor, Nat.testBit_or, Nat.testBit_two_pow]
    by_cases hi : 63 = i
    · subst hi
      rw [Nat.testBit_lt_two_pow (by simpa using hc)]
      rfl
    · simp [hi]
  rw [neg_form]
  unfold mg isNeg w64 at *
  by_cases h : x < 9223372036854775808
  · rw [low x h]
    refine ⟨by omega, by omega, ?_⟩
    simp; omega
  · obtain ⟨c, rfl⟩ : ∃ c, x = 9223372036854775808 + c := ⟨x - 9223372036854775808, by omega⟩
    have hc : c < 9223372036854775808 := by omega
    rw [← low c hc, Nat.xor_assoc, Nat.xor_self, Nat.xor_zero, low c hc]
    refine ⟨by omega, by omega, ?_⟩
    simp; omega

/-- What a float is. -/
def kindOf (x : Nat) : Int := if isNaN x then 0 else (if key x = 0 then 3 else if mg x = 9218868437227405312 then 1 else 5) + (if isNeg x then 0 else 1)

theorem nan_calls (x : Nat) (w : World) (hx : w64 x) : Calls Try.prog 24 #[.float .f64 x] w fun e w' => e = .returned (.bool (isNaN x)) ∧ w = w' := by
  have h := fEq_self hx
  go_enter Try.func24, Try.ntmps24
  go_wp2
  go_ret
  simp

theorem isNaN_calls (x : Nat) (w : World) (hx : w64 x) : Calls Try.prog 31 #[.float .f64 x] w fun e w' => e = .returned (.bool (isNaN x)) ∧ w = w' := by
  have h := fEq_self hx
  go_enter Try.func31, Try.ntmps31
  go_wp2
  go_ret
  simp

theorem run36 (x : Nat) (w : World) : (callFunc 36 #[.float .f64 x]).run Try.prog w = .ok (.value (.int .u64 x)) w :=
  run_callFunc_extern Try.func36 (by kernel_rfl) (by kernel_rfl) (by kernel_rfl) (e := Extern.MathFloatBits.float64bits) (by kernel_rfl) _ w
theorem run34 (x : Int) (w : World) : (callFunc 34 #[.int .u64 x]).run Try.prog w = .ok (.value (.float .f64 x.toNat)) w :=
  run_callFunc_extern Try.func34 (by kernel_rfl) (by kernel_rfl) (by kernel_rfl) (e := Extern.MathFloatBits.float64frombits) (by kernel_rfl) _ w

theorem abs_calls (x : Nat) (w : World) (hx : w64 x) : Calls Try.prog 35 #[.float .f64 x] w fun e w' => e = .returned (.float .f64 (mg x)) ∧ w = w' := by
  have h1 := run36 x
  have h2 : bits .andNot .u64 (x : Int) 9223372036854775808 = ((mg x : Nat) : Int) := by
    have := u64_andNot_nat x 9223372036854775808 hx (by decide)
    rw [show (((9223372036854775808 : Nat) : Int)) = 9223372036854775808 from rfl] at this
    rw [this]
    congr 1
    exact Nat.and_two_pow_sub_one_eq_mod x 63
  have h3 := run34 (mg x : Int)
  go_enter Try.func35, Try.ntmps35
  go_wp2
  go_ret
  simp


theorem inf_calls (x : Nat) (w : World) (hx : w64 x) : Calls Try.prog 32 #[.float .f64 x, .int .i64 0] w fun e w' => e = .returned (.bool (decide (9218868437227405311 < mg x) && !isNaN x)) ∧ w = w' := by
  have hm : w64 (mg x) := by unfold mg w64; omega
  have hn : isNaN (mg x) = isNaN x := by unfold isNaN mg; rw [Nat.mod_mod]
  have hk : key (mg x) = mg x := by unfold key isNeg mg; rw [Nat.mod_mod]; simp; omega
  have h : fGt (mg x) 9218868437227405311 = (decide (9218868437227405311 < mg x) && !isNaN x) := by
    cases hc : isNaN x with
    | true => rw [fGt_nan hm (by decide) (.inl (by rw [hn, hc]))]; simp
    | false => rw [fGt_key hm (by decide) (by rw [hn, hc]) (by decide), hk]; simp [show key 9218868437227405311 = 9218868437227405311 from by decide]; omega
  clear hn hk hm
  generalize (decide (9218868437227405311 < mg x) && !isNaN x) = b at h
  go_enter Try.func32, Try.ntmps32
  go_wp2_with (go_at_call 35; refine (abs_calls x _ hx).mono ?_; rintro e w' ⟨rfl, rfl⟩)
  go_ret
  simp

theorem signbit_calls (x : Nat) (w : World) (hx : w64 x) : Calls Try.prog 33 #[.float .f64 x] w fun e w' => e = .returned (.bool (isNeg x)) ∧ w = w' := by
  have h1 := run36 x
  have h2 : decide (wrap64 (x : Int) < 0) = isNeg x := by
    unfold isNeg
    rw [decide_eq_decide]
    unfold wrap64
    unfold w64 at hx
    omega
  go_enter Try.func33, Try.ntmps33
  go_wp2
  go_ret
  simp

theorem negative_calls (x : Nat) (w : World) (hx : w64 x) : Calls Try.prog 29 #[.float .f64 x] w fun e w' => e = .returned (.bool (isNeg x && !isNaN x)) ∧ w = w' := by
  cases hn : isNaN x with
  | true =>
    have h1 : fLt x 0 = false := fLt_nan hx (by decide) (.inl hn)
    have h2 : fEq x 0 = false := fEq_nan hx (by decide) (.inl hn)
    go_enter Try.func29, Try.ntmps29
    go_wp2
    go_ret
    simp
  | false =>
    have h1 : fLt x 0 = decide (key x < key 0) := fLt_key hx (by decide) hn (by decide)
    have h2 : fEq x 0 = decide (key x = key 0) := fEq_key hx (by decide) hn (by decide)
    have hk0 : key 0 = 0 := by decide
    rw [hk0] at h1 h2
    by_cases h0 : key x = 0
    · have hm : mg x = 0 := by unfold key at h0; split at h0 <;> omega
      have h1' : fLt x 0 = false := by rw [h1]; simp; omega
      have h2' : fEq x 0 = true := by rw [h2]; simp [h0]
      obtain ⟨hw, hq1, hq2, hq3⟩ := word_parts (isNeg x) 9218868437227405312 (by omega)
      have hd : floatBits .quo .f64 4607182418800017408 x = some (Ieee.double.word (isNeg x) 9218868437227405312) := by
        show Ieee.double.div 4607182418800017408 x = _
        have px := sees x hx
        unfold Ieee.Format.div
        rw [show Ieee.double.read 4607182418800017408 = .number false 4503599627370496 (-52) from rfl]
        generalize Ieee.double.read x = dx at px
        cases px with
        | nan t h => omega
        | inf h => omega
        | num m a hf hm2 =>
          rw [hm] at hm2
          have : m = 0 := by
            rcases Nat.eq_zero_or_pos m with h | h
            · exact h
            · have : 0 < m * 2 ^ a := Nat.mul_pos h (Nat.two_pow_pos _)
              simp [amag] at hm2
              omega
          subst this
          simp [Ieee.Datum.quotient, Ieee.Format.write]
          rfl
      have h3 : fLt (Ieee.double.word (isNeg x) 9218868437227405312) 0 = isNeg x := by
        rw [fLt_key hw (by decide) hq3 (by decide), hk0]
        unfold key
        rw [hq1, hq2]
        cases isNeg x <;> simp
      have hrun := fun w => run_float_arith (P := Try.prog) w .quo 24 .f64 4607182418800017408 x _ hd
      clear h1 h2 hd
      generalize Ieee.double.word (isNeg x) 9218868437227405312 = z at hrun h3
      go_enter Try.func29, Try.ntmps29
      go_wp2
      go_ret
      simp
    · have h2' : fEq x 0 = false := by rw [h2]; simp [h0]
      have h1' : fLt x 0 = isNeg x := by
        rw [h1]
        unfold key at h0 ⊢
        cases isNeg x <;> simp at h0 ⊢ <;> omega
      clear h1 h2 h0
      generalize isNeg x = b at h1'
      cases b <;>
       (go_enter Try.func29, Try.ntmps29
        go_wp2
        go_ret
        simp)


theorem rkind_calls (x : Nat) (w : World) (hx : w64 x) : Calls Try.prog 22 #[.float .f64 x] w fun e w' => e = .returned (.int .i64 (kindOf x)) ∧ w = w' := by
  cases hn : isNaN x with
  | true =>
    have hk : kindOf x = 0 := by simp [kindOf, hn]
    go_enter Try.func22, Try.ntmps22
    go_wp2_with (go_at_call 24; refine (nan_calls x _ hx).mono ?_; rw [hn]; rintro e w' ⟨rfl, rfl⟩)
    go_ret
    simp [hk]
  | false =>
    have h2 : fEq x 0 = decide (key x = key 0) := fEq_key hx (by decide) hn (by decide)
    have hk0 : key 0 = 0 := by decide
    rw [hk0] at h2
    by_cases h0 : key x = 0
    · have h2' : fEq x 0 = true := by rw [h2]; simp [h0]
      have hk : kindOf x = 3 + (if isNeg x then 0 else 1) := by simp [kindOf, hn, h0]
      clear h2
      cases hb : isNeg x <;> rw [hb] at hk <;>
       (go_enter Try.func22, Try.ntmps22
        go_wp2_with (first
          | (go_at_call 24; refine (nan_calls x _ hx).mono ?_; rw [hn]; rintro e w' ⟨rfl, rfl⟩)
          | (go_at_call 29; refine (negative_calls x _ hx).mono ?_; rw [hn, hb]; rintro e w' ⟨rfl, rfl⟩))
        go_ret
        simp [hk])
    · have h2' : fEq x 0 = false := by rw [h2]; simp [h0]
      obtain ⟨r, hr, hrw, hrn, hrk⟩ := twice hx hn h0
      have hrun := fun w => run_float_arith (P := Try.prog) w .mul 24 .f64 4611686018427387904 x r hr
      have h3 : fEq x r = decide (mg x = 9218868437227405312) := by
        rw [fEq_key hx hrw hn hrn, decide_eq_decide]; exact hrk
      have hk : kindOf x = (if mg x = 9218868437227405312 then 1 else 5) + (if isNeg x then 0 else 1) := by simp [kindOf, hn, h0]
      clear h2 hr hrk h0
      by_cases hi : mg x = 9218868437227405312
      · have h4 : fEq x r = true := by rw [h3]; simp [hi]
        rw [if_pos hi] at hk
        clear h3 hi
        cases hb : isNeg x <;> rw [hb] at hk <;>
         (go_enter Try.func22, Try.ntmps22
          go_wp2_with (first
            | (go_at_call 24; refine (nan_calls x _ hx).mono ?_; rw [hn]; rintro e w' ⟨rfl, rfl⟩)
            | (go_at_call 29; refine (negative_calls x _ hx).mono ?_; rw [hn, hb]; rintro e w' ⟨rfl, rfl⟩))
          go_ret
          simp [hk])
      · have h4 : fEq x r = false := by rw [h3]; simp [hi]
        rw [if_neg hi] at hk
        clear h3 hi
        cases hb : isNeg x <;> rw [hb] at hk <;>
         (go_enter Try.func22, Try.ntmps22
          go_wp2_with (first
            | (go_at_call 24; refine (nan_calls x _ hx).mono ?_; rw [hn]; rintro e w' ⟨rfl, rfl⟩)
            | (go_at_call 29; refine (negative_calls x _ hx).mono ?_; rw [hn, hb]; rintro e w' ⟨rfl, rfl⟩))
          go_ret
          simp [hk])

theorem kind_calls (x : Nat) (w : World) (hx : w64 x) : Calls Try.prog 21 #[.float .f64 x] w fun e w' => e = .returned (.int .i64 (kindOf x)) ∧ w = w' := by
  cases hn : isNaN x with
  | true =>
    have hk : kindOf x = 0 := by simp [kindOf, hn]
    go_enter Try.func21, Try.ntmps21
    go_wp2_with (go_at_call 31; refine (isNaN_calls x _ hx).mono ?_; rw [hn]; rintro e w' ⟨rfl, rfl⟩)
    go_ret
    simp [hk]
  | false =>
    have h2 : fEq x 0 = decide (key x = key 0) := fEq_key hx (by decide) hn (by decide)
    have hk0 : key 0 = 0 := by decide
    rw [hk0] at h2
    have nx' : ¬ 9218868437227405312 < mg x := by simpa [isNaN] using hn
    by_cases hi : mg x = 9218868437227405312
    · have h0 : key x ≠ 0 := by unfold key; rw [hi]; split <;> omega
      have hk : kindOf x = 1 + (if isNeg x then 0 else 1) := by simp [kindOf, hn, h0, hi]
      have hin : (decide (9218868437227405311 < mg x) && !isNaN x) = true := by rw [hn]; simp; omega
      clear h2 nx' hi h0
      cases hb : isNeg x <;> rw [hb] at hk <;>
       (go_enter Try.func21, Try.ntmps21
        go_wp2_with (first
          | (go_at_call 31; refine (isNaN_calls x _ hx).mono ?_; rw [hn]; rintro e w' ⟨rfl, rfl⟩)
          | (go_at_call 32; refine (inf_calls x _ hx).mono ?_; rw [hin]; rintro e w' ⟨rfl, rfl⟩)
          | (go_at_call 33; refine (signbit_calls x _ hx).mono ?_; rw [hb]; rintro e w' ⟨rfl, rfl⟩))
        go_ret
        simp [hk])
    · have hin : (decide (9218868437227405311 < mg x) && !isNaN x) = false := by rw [hn]; simp; omega
      have hk : kindOf x = (if key x = 0 then 3 else 5) + (if isNeg x then 0 else 1) := by simp [kindOf, hn, hi]
      clear nx' hi
      by_cases h0 : key x = 0
      · have h2' : fEq x 0 = true := by rw [h2]; simp [h0]
        rw [if_pos h0] at hk
        clear h2 h0
        cases hb : isNeg x <;> rw [hb] at hk <;>
         (go_enter Try.func21, Try.ntmps21
          go_wp2_with (first
            | (go_at_call 31; refine (isNaN_calls x _ hx).mono ?_; rw [hn]; rintro e w' ⟨rfl, rfl⟩)
            | (go_at_call 32; refine (inf_calls x _ hx).mono ?_; rw [hin]; rintro e w' ⟨rfl, rfl⟩)
            | (go_at_call 33; refine (signbit_calls x _ hx).mono ?_; rw [hb]; rintro e w' ⟨rfl, rfl⟩))
          go_ret
          simp [hk])
      · have h2' : fEq x 0 = false := by rw [h2]; simp [h0]
        rw [if_neg h0] at hk
        clear h2 h0
        cases hb : isNeg x <;> rw [hb] at hk <;>
         (go_enter Try.func21, Try.ntmps21
          go_wp2_with (first
            | (go_at_call 31; refine (isNaN_calls x _ hx).mono ?_; rw [hn]; rintro e w' ⟨rfl, rfl⟩)
            | (go_at_call 32; refine (inf_calls x _ hx).mono ?_; rw [hin]; rintro e w' ⟨rfl, rfl⟩)
            | (go_at_call 33; refine (signbit_calls x _ hx).mono ?_; rw [hb]; rintro e w' ⟨rfl, rfl⟩))
          go_ret
          simp [hk])

/-- Are floats the same? -/
def sameF (x y : Nat) : Bool := (kindOf x == kindOf y) && (isNaN x || fEq x y)

set_option maxHeartbeats 800000 in
theorem same_calls (x y : Nat) (w : World) (hx : w64 x) (hy : w64 y) : Calls Try.prog 12 #[.float .f64 x, .float .f64 y] w fun e w' => e = .returned (.bool (sameF x y)) ∧ w = w' := by
  obtain ⟨s, hs⟩ : ∃ s, s = sameF x y := ⟨_, rfl⟩
  rw [← hs]
  unfold sameF at hs
  obtain ⟨k1, hk1⟩ : ∃ k, k = kindOf x := ⟨_, rfl⟩
  obtain ⟨k2, hk2⟩ : ∃ k, k = kindOf y := ⟨_, rfl⟩
  obtain ⟨b, hb⟩ : ∃ b, b = isNaN x := ⟨_, rfl⟩
  obtain ⟨c, hc⟩ : ∃ c, fEq x y = c := ⟨_, rfl⟩
  rw [← hk1, ← hk2, ← hb, hc] at hs
  have HK1 := Lib.hid hk1
  have HK2 := Lib.hid hk2
  have HB := Lib.hid hb
  clear hk1 hk2 hb
  cases hq : (k1 == k2) <;> rw [hq] at hs <;> cases b <;> cases c <;> simp at hs <;>
   (go_enter Try.func12, Try.ntmps12
    go_wp2_with (first
      | (go_at_call 22; refine (rkind_calls _ _ (by assumption)).mono ?_; (first | rw [← HK1.out] | rw [← HK2.out]); rintro e w' ⟨rfl, rfl⟩)
      | (go_at_call 24; refine (nan_calls x _ hx).mono ?_; rw [← HB.out]; rintro e w' ⟨rfl, rfl⟩))
    go_ret
    simp [hs])

end Go.Proofs.Ytkphnmpildkdaaa
