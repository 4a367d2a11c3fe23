/- Rounding to nearest lies between whatever representable magnitudes the exact value lies between; a product by two moves every finite float but the zeros. -/
import Derived.Test.YtkphnmpildkdaaaFlo
namespace Go.Proofs.Ytkphnmpildkdaaa
open Ieee

theorem cut_low (neg : Bool) (n d k : Nat) (h : k * 2 ^ d ≤ n) : k ≤ Toward.even.cut neg n d := by
  unfold Toward.cut
  simp only [Nat.one_shiftLeft]
  refine Nat.le_trans ?_ (Nat.le_add_right _ _)
  rcases Nat.le_total d (n.log2 + 2) with hd | hd
  · rw [Nat.min_eq_left hd]
    exact (Nat.le_div_iff_mul_le (Nat.two_pow_pos _)).2 h
  · have h1 : n < 2 ^ (n.log2 + 1) := Nat.lt_log2_self
    have h2 : 2 ^ (n.log2 + 1) ≤ 2 ^ d := Nat.pow_le_pow_right (by decide) (by omega)
    have : k = 0 := by
      rcases Nat.eq_zero_or_pos k with h0 | h0
      · exact h0
      · have : 2 ^ d ≤ k * 2 ^ d := Nat.le_mul_of_pos_left _ h0
        omega
    rw [this]; exact Nat.zero_le _

theorem cut_high (neg : Bool) (n d k : Nat) (h : n ≤ k * 2 ^ d) : Toward.even.cut neg n d ≤ k := by
  unfold Toward.cut
  simp only [Nat.one_shiftLeft]
  rcases Nat.le_total d (n.log2 + 2) with hd | hd
  · rw [Nat.min_eq_left hd]
    have hp : 0 < 2 ^ d := Nat.two_pow_pos _
    have h1 : n / 2 ^ d ≤ k := by
      rw [← Nat.mul_div_cancel k hp]; exact Nat.div_le_div_right h
    rcases Nat.lt_or_ge (n / 2 ^ d) k with h2 | h2
    · have : (decide (2 ^ d < 2 * (n % 2 ^ d)) || 2 ^ d == 2 * (n % 2 ^ d) && n / 2 ^ d % 2 == 1).toNat ≤ 1 := Bool.toNat_le _
      omega
    · have h3 : n / 2 ^ d = k := by omega
      have h4 : n % 2 ^ d = 0 := by
        have := Nat.div_add_mod n (2 ^ d)
        rw [h3, Nat.mul_comm] at this
        omega
      have h5 : (2 ^ d == 2 * 0) = false := by simp
      rw [h3, h4, h5]
      simp
  · rw [Nat.min_eq_right hd]
    have h1 : n < 2 ^ (n.log2 + 1) := Nat.lt_log2_self
    have h2 : 2 ^ (n.log2 + 2) = 2 * 2 ^ (n.log2 + 1) := by rw [Nat.pow_succ 2 (n.log2 + 1), Nat.mul_comm]
    have h3 : n / 2 ^ (n.log2 + 2) = 0 := Nat.div_eq_of_lt (by omega)
    have h4 : n % 2 ^ (n.log2 + 2) = n := Nat.mod_eq_of_lt (by omega)
    have h5 : ¬ 2 ^ (n.log2 + 2) < 2 * n := by omega
    have h6 : (2 ^ (n.log2 + 2) == 2 * n) = false := by rw [beq_eq_false_iff_ne]; omega
    rw [h3, h4, h6]
    simp [h5]

/-- The magnitude of a rung that rounding has found. -/
theorem amag_at (L k : Nat) (hk : k ≤ 9007199254740992) (h : L = 0 ∨ 4503599627370496 ≤ k) : amag (L * 4503599627370496 + k) = k * 2 ^ L := by
  unfold amag
  rcases Nat.lt_or_ge k 4503599627370496 with h1 | h1
  · obtain rfl : L = 0 := by omega
    simp [h1]
  · rw [if_neg (by omega)]
    rcases Nat.lt_or_ge k 9007199254740992 with h2 | h2
    · have e1 : (L * 4503599627370496 + k) / 4503599627370496 - 1 = L := by omega
      have e2 : 4503599627370496 + (L * 4503599627370496 + k) % 4503599627370496 = k := by omega
      rw [e1, e2]
    · obtain rfl : k = 9007199254740992 := by omega
      have e1 : (L * 4503599627370496 + 9007199254740992) / 4503599627370496 - 1 = L + 1 := by omega
      have e2 : 4503599627370496 + (L * 4503599627370496 + 9007199254740992) % 4503599627370496 = 4503599627370496 := by omega
      rw [e1, e2, Nat.pow_succ, Nat.mul_comm (2 ^ L), ← Nat.mul_assoc]

set_option maxHeartbeats 1000000 in
/-- ROUNDING: a rung ρ, at most infinity's; between whatever magnitudes the value lies. -/
theorem nearest_spec (neg : Bool) (mag : Nat) (place : Int) (h0 : mag ≠ 0) : ∃ q, double.nearest neg mag place = double.word neg q ∧ q ≤ 9218868437227405312 ∧
    (∀ r A B : Nat, r ≤ 9218868437227405312 → (B : Int) = A + (place + 1074) → amag r * 2 ^ A ≤ mag * 2 ^ B → r ≤ q) ∧
    (∀ r A B : Nat, (B : Int) = A + (place + 1074) → mag * 2 ^ B ≤ amag r * 2 ^ A → q ≤ r) := by
  have hb : double.binade = 4503599627370496 := rfl
  have hi : double.infRung = 9218868437227405312 := rfl
  have hl : double.leastPlace = -1074 := rfl
  have hf : double.fractionBits = 52 := rfl
  unfold Format.nearest
  rw [if_neg h0]
  simp only [hb, hi, hl, hf]
  have hlog1 : 2 ^ mag.log2 ≤ mag := Nat.log2_self_le h0
  have hlog2 : mag < 2 ^ (mag.log2 + 1) := Nat.lt_log2_self
  generalize mag.log2 = g at hlog1 hlog2
  generalize hlast : max (place + (g : Int) - ((52 : Nat) : Int)) (-1074) = last
  obtain ⟨L, hL⟩ : ∃ L : Nat, last = (L : Int) - 1074 := ⟨(last + 1074).toNat, by omega⟩
  have eL : (last - -1074).toNat = L := by omega
  rw [eL]
  generalize hs : (place - last).toNat = s
  generalize hd : (last - place).toNat = d
  have hN : mag <<< s = mag * 2 ^ s := Nat.shiftLeft_eq _ _
  rw [hN]
  have hup : mag * 2 ^ s < 9007199254740992 * 2 ^ d := by
    have h1 : mag * 2 ^ s < 2 ^ (g + 1) * 2 ^ s := Nat.mul_lt_mul_of_pos_right hlog2 (Nat.two_pow_pos _)
    have h2 : 2 ^ (g + 1) * 2 ^ s ≤ 2 ^ 53 * 2 ^ d := by
      rw [← Nat.pow_add, ← Nat.pow_add]; exact Nat.pow_le_pow_right (by decide) (by omega)
    have e53 : (2 : Nat) ^ 53 = 9007199254740992 := by decide
    rw [e53] at h2
    exact Nat.lt_of_lt_of_le h1 h2
  have hlo : L = 0 ∨ 4503599627370496 * 2 ^ d ≤ mag * 2 ^ s := by
    rcases Nat.eq_zero_or_pos L with h | h
    · exact .inl h
    · right
      have h1 : 2 ^ 52 * 2 ^ d ≤ 2 ^ g * 2 ^ s := by
        rw [← Nat.pow_add, ← Nat.pow_add]; exact Nat.pow_le_pow_right (by decide) (by omega)
      have e52 : (2 : Nat) ^ 52 = 4503599627370496 := by decide
      rw [e52] at h1
      exact Nat.le_trans h1 (Nat.mul_le_mul_right _ hlog1)
  have kup : Toward.even.cut neg (mag * 2 ^ s) d ≤ 9007199254740992 := cut_high _ _ _ _ (Nat.le_of_lt hup)
  have klo : L = 0 ∨ 4503599627370496 ≤ Toward.even.cut neg (mag * 2 ^ s) d := hlo.imp id (cut_low _ _ _ _)
  have cl := cut_low neg (mag * 2 ^ s) d
  have ch := cut_high neg (mag * 2 ^ s) d
  generalize Toward.even.cut neg (mag * 2 ^ s) d = k at kup klo cl ch
  refine ⟨min (L * 4503599627370496 + k) 9218868437227405312, rfl, Nat.min_le_right _ _, ?_, ?_⟩
  · intro r A B hr hAB h
    rcases Nat.lt_or_ge (L * 4503599627370496 + k) r with hlt | hge
    · exfalso
      have hsc : amag r * 2 ^ d ≤ mag * 2 ^ s * 2 ^ L := by
        have e : B + d = s + (L + A) := by omega
        have h2 : amag r * 2 ^ A * 2 ^ d ≤ mag * 2 ^ B * 2 ^ d := Nat.mul_le_mul_right _ h
        rw [Nat.mul_assoc mag, ← Nat.pow_add, e, Nat.pow_add, Nat.pow_add, ← Nat.mul_assoc, ← Nat.mul_assoc, Nat.mul_right_comm] at h2
        exact Nat.le_of_mul_le_mul_right h2 (Nat.two_pow_pos _)
      rcases Nat.lt_or_ge k 9007199254740992 with hk | hk
      · have h3 : amag (L * 4503599627370496 + (k + 1)) ≤ amag r := by
          rcases Nat.lt_or_ge (L * 4503599627370496 + (k + 1)) r with h4 | h4
          · exact Nat.le_of_lt (amag_mono h4)
          · have : r = L * 4503599627370496 + (k + 1) := by omega
            rw [this]; exact Nat.le_refl _
        rw [amag_at L (k + 1) (by omega) (klo.imp id (by omega))] at h3
        have h5 : (k + 1) * 2 ^ d * 2 ^ L ≤ mag * 2 ^ s * 2 ^ L := by
          rw [Nat.mul_right_comm]; exact Nat.le_trans (Nat.mul_le_mul_right _ h3) hsc
        have := cl (k + 1) (Nat.le_of_mul_le_mul_right h5 (Nat.two_pow_pos _))
        omega
      · have h3 := amag_mono hlt
        rw [amag_at L k kup klo] at h3
        have hk' : k = 9007199254740992 := by omega
        rw [hk'] at h3
        have h5 : 9007199254740992 * 2 ^ d * 2 ^ L ≤ mag * 2 ^ s * 2 ^ L := by
          rw [Nat.mul_right_comm]; exact Nat.le_trans (Nat.mul_le_mul_right _ (Nat.le_of_lt h3)) hsc
        have := Nat.le_of_mul_le_mul_right h5 (Nat.two_pow_pos _)
        omega
    · exact Nat.le_min.2 ⟨hge, hr⟩
  · intro r A B hAB h
    refine Nat.le_trans (Nat.min_le_left _ _) ?_
    rcases Nat.lt_or_ge r (L * 4503599627370496 + k) with hlt | hge
    · exfalso
      have hsc : mag * 2 ^ s * 2 ^ L ≤ amag r * 2 ^ d := by
        have e : B + d = s + (L + A) := by omega
        have h2 : mag * 2 ^ B * 2 ^ d ≤ amag r * 2 ^ A * 2 ^ d := Nat.mul_le_mul_right _ h
        rw [Nat.mul_assoc mag, ← Nat.pow_add, e, Nat.pow_add, Nat.pow_add, ← Nat.mul_assoc, ← Nat.mul_assoc, Nat.mul_right_comm (amag r)] at h2
        exact Nat.le_of_mul_le_mul_right h2 (Nat.two_pow_pos _)
      have hkpos : (L = 0 ∧ 0 < k) ∨ (0 < L ∧ 4503599627370496 ≤ k) := by omega
      rcases Nat.lt_or_ge 4503599627370496 k with hk | hk
      · have h3 : amag r ≤ amag (L * 4503599627370496 + (k - 1)) := by
          rcases Nat.lt_or_ge r (L * 4503599627370496 + (k - 1)) with h4 | h4
          · exact Nat.le_of_lt (amag_mono h4)
          · have : r = L * 4503599627370496 + (k - 1) := by omega
            rw [this]; exact Nat.le_refl _
        rw [amag_at L (k - 1) (by omega) (.inr (by omega))] at h3
        have h5 : mag * 2 ^ s * 2 ^ L ≤ (k - 1) * 2 ^ d * 2 ^ L := by
          rw [Nat.mul_right_comm (k - 1)]; exact Nat.le_trans hsc (Nat.mul_le_mul_right _ h3)
        have := ch (k - 1) (Nat.le_of_mul_le_mul_right h5 (Nat.two_pow_pos _))
        omega
      · rcases hkpos with ⟨hL0, hk0⟩ | ⟨hL0, hk0⟩
        · have h3 : amag r ≤ amag (L * 4503599627370496 + (k - 1)) := by
            rcases Nat.lt_or_ge r (L * 4503599627370496 + (k - 1)) with h4 | h4
            · exact Nat.le_of_lt (amag_mono h4)
            · have : r = L * 4503599627370496 + (k - 1) := by omega
              rw [this]; exact Nat.le_refl _
          rw [amag_at L (k - 1) (by omega) (.inl hL0)] at h3
          have h5 : mag * 2 ^ s * 2 ^ L ≤ (k - 1) * 2 ^ d * 2 ^ L := by
            rw [Nat.mul_right_comm (k - 1)]; exact Nat.le_trans hsc (Nat.mul_le_mul_right _ h3)
          have := ch (k - 1) (Nat.le_of_mul_le_mul_right h5 (Nat.two_pow_pos _))
          omega
        · have hk' : k = 4503599627370496 := by omega
          have h3 := amag_mono hlt
          rw [amag_at L k kup klo, hk'] at h3
          have h4 : 4503599627370496 * 2 ^ d * 2 ^ L ≤ mag * 2 ^ s * 2 ^ L := Nat.mul_le_mul_right _ (by omega)
          rw [Nat.mul_right_comm] at h4
          have h6 : amag r * 2 ^ d < 4503599627370496 * 2 ^ L * 2 ^ d := Nat.mul_lt_mul_of_pos_right h3 (Nat.two_pow_pos _)
          omega
    · exact hge

theorem word_parts (neg : Bool) (q : Nat) (h : q ≤ 9218868437227405312) : double.word neg q < 18446744073709551616 ∧ mg (double.word neg q) = q ∧ isNeg (double.word neg q) = neg ∧ isNaN (double.word neg q) = false := by
  have hs : double.signWeight = 9223372036854775808 := rfl
  unfold Format.word isNaN isNeg mg
  rw [hs]
  cases neg <;> simp <;> omega

theorem amag_double {r : Nat} (h : 0 < r) : amag (r + 1) ≤ 2 * amag r := by
  unfold amag
  by_cases h1 : r + 1 < 4503599627370496
  · rw [if_pos h1, if_pos (by omega)]; omega
  · rw [if_neg h1]
    by_cases h2 : r < 4503599627370496
    · rw [if_pos h2]
      have : r = 4503599627370495 := by omega
      subst this
      decide
    · rw [if_neg h2]
      by_cases h3 : r % 4503599627370496 = 4503599627370495
      · have e1 : (r + 1) / 4503599627370496 - 1 = (r / 4503599627370496 - 1) + 1 := by omega
        have e2 : (r + 1) % 4503599627370496 = 0 := by omega
        rw [e1, e2, Nat.pow_succ]
        have : 4503599627370496 * (2 ^ (r / 4503599627370496 - 1) * 2) = 2 * (4503599627370496 * 2 ^ (r / 4503599627370496 - 1)) := by omega
        have h4 : 4503599627370496 * 2 ^ (r / 4503599627370496 - 1) ≤ (4503599627370496 + r % 4503599627370496) * 2 ^ (r / 4503599627370496 - 1) := Nat.mul_le_mul_right _ (by omega)
        omega
      · have e1 : (r + 1) / 4503599627370496 - 1 = r / 4503599627370496 - 1 := by omega
        rw [e1, ← Nat.mul_assoc]
        exact Nat.mul_le_mul_right _ (by omega)

/-- A PRODUCT BY TWO. -/
theorem twice {x : Nat} (hx : x < 18446744073709551616) (nx : isNaN x = false) (h0 : key x ≠ 0) :
    ∃ r, double.mul 4611686018427387904 x = some r ∧ r < 18446744073709551616 ∧ isNaN r = false ∧ (key x = key r ↔ mg x = 9218868437227405312) := by
  have nx' : ¬ 9218868437227405312 < mg x := by simpa [isNaN] using nx
  have h2 : double.read 4611686018427387904 = .number false 4503599627370496 (-51) := rfl
  have hm0 : mg x ≠ 0 := by intro h; apply h0; unfold key; rw [h]; split <;> rfl
  have px := sees x hx
  unfold Format.mul
  rw [h2]
  generalize double.read x = dx at px
  cases px with
  | nan t h => exact absurd h nx'
  | inf h =>
    have := word_parts (isNeg x) 9218868437227405312 (by omega)
    refine ⟨double.word (isNeg x) 9218868437227405312, ?_, this.1, this.2.2.2, ?_⟩
    · simp [Datum.product, Format.write]; rfl
    · simp only [key, this.2.1, this.2.2.1, h]
  | num m a hf hm =>
    have hm1 : m ≠ 0 := by
      rintro rfl
      have : amag 0 = amag (mg x) := by rw [← hm]; simp [amag]
      exact hm0 (amag_inj.1 this).symm
    obtain ⟨q, hq, hq1, hq2, _⟩ := nearest_spec (isNeg x) (4503599627370496 * m) (-51 + (-1074 + (a : Int))) (by omega)
    have w := word_parts (isNeg x) q hq1
    refine ⟨double.word (isNeg x) q, ?_, w.1, w.2.2.2, ?_⟩
    · simp [Datum.product, Format.write, hq]
    · have hlt : mg x + 1 ≤ q := by
        refine hq2 (mg x + 1) 51 a (by omega) (by omega) ?_
        have h3 := amag_double (r := mg x) (by omega)
        rw [← hm] at h3
        have : 4503599627370496 * m * 2 ^ a = (2 * (m * 2 ^ a)) * 2 ^ 51 := by
          rw [show (2 : Nat) ^ 51 = 2251799813685248 from rfl, Nat.mul_assoc 4503599627370496]
          generalize m * 2 ^ a = y
          omega
        rw [this]
        exact Nat.mul_le_mul_right _ h3
      constructor
      · intro hk
        simp only [key, w.2.1, w.2.2.1] at hk
        split at hk <;> omega
      · intro h; omega

end Go.Proofs.Ytkphnmpildkdaaa
