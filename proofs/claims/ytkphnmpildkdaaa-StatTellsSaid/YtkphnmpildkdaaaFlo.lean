/- Floats of 64 bits as places on a line: how comparisons stand, what a turned sign, a product by two and a quotient of one by a zero give. -/
import Derived.WalkLawsBesides
namespace Go.Proofs.Ytkphnmpildkdaaa
open Ieee

def mg (x : Nat) : Nat := x % 9223372036854775808
def isNaN (x : Nat) : Bool := decide (9218868437227405312 < mg x)
def isNeg (x : Nat) : Bool := decide (9223372036854775808 ≤ x)
/-- The place on the line; both zeros lie at 0. -/
def key (x : Nat) : Int := if isNeg x then -(mg x : Int) else (mg x : Int)
/-- A finite magnitude, counted in least places. -/
def amag (r : Nat) : Nat := if r < 4503599627370496 then r else (4503599627370496 + r % 4503599627370496) * 2 ^ (r / 4503599627370496 - 1)

theorem amag_mono {r s : Nat} (h : r < s) : amag r < amag s := by
  unfold amag
  by_cases hr : r < 4503599627370496
  · rw [if_pos hr]
    by_cases hs : s < 4503599627370496
    · rw [if_pos hs]; exact h
    · rw [if_neg hs]
      have : 0 < 2 ^ (s / 4503599627370496 - 1) := Nat.two_pow_pos _
      calc r < 4503599627370496 := hr
        _ ≤ 4503599627370496 + s % 4503599627370496 := Nat.le_add_right _ _
        _ ≤ _ := Nat.le_mul_of_pos_right _ this
  · have hs : ¬ s < 4503599627370496 := by omega
    rw [if_neg hr, if_neg hs]
    rcases Nat.lt_or_ge (r / 4503599627370496) (s / 4503599627370496) with hq | hq
    · have h2 : r / 4503599627370496 - 1 + 1 ≤ s / 4503599627370496 - 1 := by omega
      have h3 : 2 ^ (r / 4503599627370496 - 1) * 2 ≤ 2 ^ (s / 4503599627370496 - 1) := by
        rw [← Nat.pow_succ]; exact Nat.pow_le_pow_right (by decide) h2
      have hp : 0 < 2 ^ (r / 4503599627370496 - 1) := Nat.two_pow_pos _
      have hm : r % 4503599627370496 < 4503599627370496 := Nat.mod_lt _ (by decide)
      calc (4503599627370496 + r % 4503599627370496) * 2 ^ (r / 4503599627370496 - 1)
          < (4503599627370496 * 2) * 2 ^ (r / 4503599627370496 - 1) := Nat.mul_lt_mul_of_pos_right (by omega) hp
        _ = 4503599627370496 * (2 ^ (r / 4503599627370496 - 1) * 2) := by rw [Nat.mul_assoc, Nat.mul_comm 2]
        _ ≤ 4503599627370496 * 2 ^ (s / 4503599627370496 - 1) := Nat.mul_le_mul_left _ h3
        _ ≤ _ := Nat.mul_le_mul_right _ (Nat.le_add_right _ _)
    · have hq' : r / 4503599627370496 = s / 4503599627370496 := by
        have : r / 4503599627370496 ≤ s / 4503599627370496 := Nat.div_le_div_right (Nat.le_of_lt h)
        omega
      rw [hq']
      exact Nat.mul_lt_mul_of_pos_right (by omega) (Nat.two_pow_pos _)

theorem amag_lt {r s : Nat} : amag r < amag s ↔ r < s := by
  constructor
  · intro h
    rcases Nat.lt_trichotomy r s with h1 | h1 | h1
    · exact h1
    · subst h1; omega
    · have := amag_mono h1; omega
  · exact amag_mono
theorem amag_inj {r s : Nat} : amag r = amag s ↔ r = s := by
  constructor
  · intro h
    rcases Nat.lt_trichotomy r s with h1 | h1 | h1
    · have := amag_mono h1; omega
    · exact h1
    · have := amag_mono h1; omega
  · rintro rfl; rfl

theorem cmp_form (a b : Int) : compare a b = if a < b then .lt else if a = b then .eq else .gt := rfl
theorem cmp_of {a b c d : Int} (h1 : a < b ↔ c < d) (h2 : a = b ↔ c = d) : compare a b = compare c d := by
  rw [cmp_form, cmp_form]; simp only [h1, h2]

/-- What a word stands for. -/
inductive Sees (x : Nat) : Datum → Prop where
  | num (m a : Nat) (hf : mg x < 9218868437227405312) (hm : m * 2 ^ a = amag (mg x)) : Sees x (.number (isNeg x) m (-1074 + (a : Int)))
  | inf (h : mg x = 9218868437227405312) : Sees x (.infinity (isNeg x))
  | nan (t : Nat) (h : 9218868437227405312 < mg x) : Sees x (.nan (isNeg x) t)

theorem sees (x : Nat) (hx : x < 18446744073709551616) : Sees x (double.read x) := by
  have hs : double.signWeight = 9223372036854775808 := rfl
  have hb : double.binade = 4503599627370496 := rfl
  have hi : double.infRung = 9218868437227405312 := rfl
  have hl : double.leastPlace = -1074 := rfl
  unfold Format.read
  simp only [hs, hb, hi, hl]
  have hn : (x / 9223372036854775808 % 2 == 1) = isNeg x := by
    unfold isNeg
    by_cases h : 9223372036854775808 ≤ x
    · have : x / 9223372036854775808 = 1 := by omega
      simp [this, h]
    · have : x / 9223372036854775808 = 0 := by omega
      simp [this, h]
  rw [hn]
  have hmg : x % 9223372036854775808 = mg x := rfl
  rw [hmg]
  split
  · rename_i h
    have := Sees.num (x := x) (mg x) 0 (by omega) (by simp [amag, h])
    simpa using this
  · split
    · rename_i h1 h2
      exact Sees.num (x := x) _ (mg x / 4503599627370496 - 1) h2 (by simp [amag, h1])
    · split
      · rename_i h; exact Sees.inf h
      · exact Sees.nan _ (by omega)

theorem signed_scale (s : Bool) (m a c : Nat) (h : c ≤ a) : signed s m (a - c) * 2 ^ c = (if s then -((m * 2 ^ a : Nat) : Int) else ((m * 2 ^ a : Nat) : Int)) := by
  have e : 2 ^ (a - c) * 2 ^ c = 2 ^ a := by rw [← Nat.pow_add]; congr 1; omega
  unfold signed
  split
  · rw [Nat.shiftLeft_eq, Int.neg_mul, ← e, ← Nat.mul_assoc]; simp
  · rw [Nat.shiftLeft_eq, ← e, ← Nat.mul_assoc]; simp

/-- A signed magnitude. -/
def sg (s : Bool) (n : Nat) : Int := if s then -(n : Int) else n
theorem key_sg (x : Nat) : key x = sg (isNeg x) (mg x) := rfl

theorem sg_cmp (s t : Bool) (r q : Nat) : compare (sg s (amag r)) (sg t (amag q)) = compare (sg s r) (sg t q) := by
  have h1 := @amag_lt r q
  have h2 := @amag_lt q r
  have h3 := @amag_inj r q
  have h4 : amag r = 0 ↔ r = 0 := by have := @amag_inj r 0; simpa [amag] using this
  have h5 : amag q = 0 ↔ q = 0 := by have := @amag_inj q 0; simpa [amag] using this
  cases s <;> cases t <;> simp only [sg, if_true, Bool.false_eq_true, if_false] <;> apply cmp_of <;> omega

theorem cmp_scale (a b : Int) (c : Nat) : compare a b = compare (a * 2 ^ c) (b * 2 ^ c) := by
  have hp : (0 : Int) < 2 ^ c := Int.pow_pos (by decide)
  apply cmp_of
  · exact ⟨fun h => Int.mul_lt_mul_of_pos_right h hp, fun h => Int.lt_of_mul_lt_mul_right h (Int.le_of_lt hp)⟩
  · exact ⟨fun h => by rw [h], fun h => Int.eq_of_mul_eq_mul_right (Int.ne_of_gt hp) h⟩

/-- HOW COMPARISONS STAND. -/
theorem order_key {x y : Nat} (hx : x < 18446744073709551616) (hy : y < 18446744073709551616) (nx : isNaN x = false) (ny : isNaN y = false) :
    double.order x y = some (compare (key x) (key y)) := by
  have nx' : ¬ 9218868437227405312 < mg x := by simpa [isNaN] using nx
  have ny' : ¬ 9218868437227405312 < mg y := by simpa [isNaN] using ny
  have px := sees x hx
  have py := sees y hy
  unfold Format.order
  rw [key_sg, key_sg]
  generalize double.read x = dx at px
  generalize double.read y = dy at py
  cases px with
  | nan t h => exact absurd h nx'
  | inf h =>
    cases py with
    | nan t h2 => exact absurd h2 ny'
    | inf h2 =>
      simp only [Datum.order, h, h2]
      cases isNeg x <;> cases isNeg y <;> simp [sg] <;> decide
    | num m a hf hm =>
      simp only [Datum.order, h]
      congr 1
      cases isNeg x <;> cases isNeg y <;> simp only [sg, if_true, Bool.false_eq_true, if_false] <;> rw [cmp_form] <;> split <;> first | rfl | omega | (split <;> first | rfl | omega)
  | num m a hf hm =>
    cases py with
    | nan t h2 => exact absurd h2 ny'
    | inf h2 =>
      simp only [Datum.order, h2]
      congr 1
      cases isNeg x <;> cases isNeg y <;> simp only [sg, if_true, Bool.false_eq_true, if_false] <;> rw [cmp_form] <;> split <;> first | rfl | omega | (split <;> first | rfl | omega)
    | num n b hf2 hm2 =>
      simp only [Datum.order]
      congr 1
      have e1 : (-1074 + (a : Int) - min (-1074 + (a : Int)) (-1074 + (b : Int))).toNat = a - min a b := by omega
      have e2 : (-1074 + (b : Int) - min (-1074 + (a : Int)) (-1074 + (b : Int))).toNat = b - min a b := by omega
      rw [e1, e2, cmp_scale _ _ (min a b), signed_scale _ _ _ _ (Nat.min_le_left _ _), signed_scale _ _ _ _ (Nat.min_le_right _ _), hm, hm2]
      exact sg_cmp _ _ _ _

theorem order_nan {x y : Nat} (hx : x < 18446744073709551616) (hy : y < 18446744073709551616) (h : isNaN x = true ∨ isNaN y = true) : double.order x y = none := by
  have px := sees x hx
  have py := sees y hy
  unfold Format.order
  generalize double.read x = dx at px
  generalize double.read y = dy at py
  simp only [isNaN, decide_eq_true_eq] at h
  cases px <;> cases py <;> first | rfl | omega

end Go.Proofs.Ytkphnmpildkdaaa
