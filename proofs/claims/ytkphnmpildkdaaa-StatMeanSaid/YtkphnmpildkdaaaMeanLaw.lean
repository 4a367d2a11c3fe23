/- The plain law of means of whole numbers: sums are exact, the quotient lies where the exact one lies. -/
import Derived.Test.YtkphnmpildkdaaaAwake
import Derived.Test.YtkphnmpildkdaaaEndsLaw
namespace Go.Proofs.Ytkphnmpildkdaaa
open Ieee

def fl (n : Int) : Nat := floatOfInt .f64 n
theorem fl_form (n : Int) : fl n = double.nearest (decide (n < 0)) n.natAbs 0 := rfl
theorem fl_zero : fl 0 = 0 := by decide

/-- What is representable is rounded to itself. -/
theorem near_rep (neg : Bool) (mag : Nat) (place : Int) (r A B : Nat) (h0 : mag ≠ 0) (hr : r ≤ 9218868437227405312) (hAB : (B : Int) = A + (place + 1074)) (h : mag * 2 ^ B = amag r * 2 ^ A) :
    double.nearest neg mag place = double.word neg r := by
  obtain ⟨q, hq, _, h1, h2⟩ := nearest_spec neg mag place h0
  have a := h1 r A B hr hAB (Nat.le_of_eq h.symm)
  have b := h2 r A B hAB (Nat.le_of_eq h)
  rw [hq, Nat.le_antisymm a b |>.symm]

/-- Every whole number below 2^53 is representable. -/
theorem rep_nat (b : Nat) (hb : b < 9007199254740992) (D : Nat) (hD : D = 1074) : ∃ r, r < 9218868437227405312 ∧ amag r = b * 2 ^ D := by
  rcases Nat.eq_zero_or_pos b with h0 | h0
  · subst h0; exact ⟨0, by omega, by simp [amag]⟩
  · have h1 : 2 ^ b.log2 ≤ b := Nat.log2_self_le (by omega)
    have h2 : b < 2 ^ (b.log2 + 1) := Nat.lt_log2_self
    have hL : b.log2 ≤ 52 := by
      rcases Nat.lt_or_ge 52 b.log2 with h | h
      · have : 2 ^ 53 ≤ 2 ^ b.log2 := Nat.pow_le_pow_right (by decide) h
        have e : (2 : Nat) ^ 53 = 9007199254740992 := by decide
        omega
      · exact h
    generalize b.log2 = L at h1 h2 hL
    have e52 : (2 : Nat) ^ 52 = 4503599627370496 := by decide
    have e53 : (2 : Nat) ^ 53 = 9007199254740992 := by decide
    have k1 : 4503599627370496 ≤ b * 2 ^ (52 - L) := by
      rw [← e52]
      calc 2 ^ 52 = 2 ^ L * 2 ^ (52 - L) := by rw [← Nat.pow_add]; congr 1; omega
        _ ≤ _ := Nat.mul_le_mul_right _ h1
    have k2 : b * 2 ^ (52 - L) < 9007199254740992 := by
      rw [← e53]
      calc b * 2 ^ (52 - L) < 2 ^ (L + 1) * 2 ^ (52 - L) := Nat.mul_lt_mul_of_pos_right h2 (Nat.two_pow_pos _)
        _ = 2 ^ 53 := by rw [← Nat.pow_add]; congr 1; omega
    refine ⟨(D - 52 + L) * 4503599627370496 + b * 2 ^ (52 - L), by omega, ?_⟩
    rw [amag_at _ _ (by omega) (.inr k1), Nat.mul_assoc, ← Nat.pow_add]
    congr 2
    omega

/-- A whole number below 2^53 as a float: exact. -/
theorem fl_exact (n : Int) (hn : n.natAbs < 9007199254740992) (D : Nat) (hD : D = 1074) : w64 (fl n) ∧ isNaN (fl n) = false ∧ isNeg (fl n) = decide (n < 0) ∧ mg (fl n) < 9218868437227405312 ∧ amag (mg (fl n)) = n.natAbs * 2 ^ D := by
  obtain ⟨r, hr, ha⟩ := rep_nat n.natAbs hn D hD
  have h : fl n = double.word (decide (n < 0)) r := by
    rw [fl_form]
    by_cases h0 : n.natAbs = 0
    · have hr0 : r = 0 := by
        rw [h0, Nat.zero_mul] at ha
        exact amag_inj.1 (by rw [ha]; simp [amag])
      rw [h0, hr0]
      simp [Format.nearest]
    · exact near_rep _ _ _ r 0 D h0 (by omega) (by omega) (by rw [ha, Nat.pow_zero, Nat.mul_one])
  obtain ⟨p1, p2, p3, p4⟩ := word_parts (decide (n < 0)) r (by omega)
  rw [h]
  exact ⟨p1, p4, p3, by rw [p2]; exact hr, by rw [p2]; exact ha⟩

theorem natAbs_sg (s : Bool) (k : Nat) : (if s then -((k : Nat) : Int) else ((k : Nat) : Int)) = sg s k := rfl

theorem sg_natAbs (n : Int) (D : Nat) : sg (decide (n < 0)) (n.natAbs * 2 ^ D) = n * 2 ^ D := by
  unfold sg
  have e : ((n.natAbs * 2 ^ D : Nat) : Int) = (n.natAbs : Int) * 2 ^ D := by simp
  rw [e]
  by_cases h : n < 0
  · rw [if_pos (by simpa using h), show (n.natAbs : Int) = -n from by omega, Int.neg_mul, Int.neg_neg]
  · rw [if_neg (by simpa using h), show (n.natAbs : Int) = n from by omega]

/-- SUMS ARE EXACT. -/
theorem add_exact (S a : Int) (hS : S.natAbs < 9007199254740992) (ha : a.natAbs < 9007199254740992) (hs : (S + a).natAbs < 9007199254740992) : double.add (fl S) (fl a) = some (fl (S + a)) := by
  obtain ⟨D, hD⟩ : ∃ D : Nat, D = 1074 := ⟨_, rfl⟩
  obtain ⟨w1, n1, g1, f1, a1⟩ := fl_exact S hS D hD
  obtain ⟨w2, n2, g2, f2, a2⟩ := fl_exact a ha D hD
  obtain ⟨r, hr, har⟩ := rep_nat _ hs D hD
  have s1 := sees _ w1
  have s2 := sees _ w2
  unfold Format.add
  generalize double.read (fl S) = d1 at s1
  generalize double.read (fl a) = d2 at s2
  cases s1 with
  | nan t h => omega
  | inf h => omega
  | num m e h1 hm =>
    cases s2 with
    | nan t h => omega
    | inf h => omega
    | num m2 e2 h2 hm2 =>
      simp only [Datum.sum, Option.map_some, Option.some.injEq, g1, g2]
      rw [a1] at hm
      rw [a2] at hm2
      have e1 : (-1074 + (e : Int) - min (-1074 + (e : Int)) (-1074 + (e2 : Int))).toNat = e - min e e2 := by omega
      have e3 : (-1074 + (e2 : Int) - min (-1074 + (e : Int)) (-1074 + (e2 : Int))).toNat = e2 - min e e2 := by omega
      rw [e1, e3]
      have t1 := signed_scale (decide (S < 0)) m e (min e e2) (Nat.min_le_left _ _)
      have t2 := signed_scale (decide (a < 0)) m2 e2 (min e e2) (Nat.min_le_right _ _)
      rw [hm, natAbs_sg, sg_natAbs] at t1
      rw [hm2, natAbs_sg, sg_natAbs] at t2
      have ht : (signed (decide (S < 0)) m (e - min e e2) + signed (decide (a < 0)) m2 (e2 - min e e2)) * 2 ^ (min e e2) = (S + a) * 2 ^ D := by
        rw [Int.add_mul, t1, t2, Int.add_mul]
      generalize signed (decide (S < 0)) m (e - min e e2) + signed (decide (a < 0)) m2 (e2 - min e e2) = T at ht
      have hp : (0 : Int) < 2 ^ (min e e2) := Int.pow_pos (by decide)
      have hpD : (0 : Int) < 2 ^ D := Int.pow_pos (by decide)
      have hplace : min (-1074 + (e : Int)) (-1074 + (e2 : Int)) = -1074 + ((min e e2 : Nat) : Int) := by omega
      rw [hplace]
      unfold Format.write
      by_cases h0 : T = 0
      · subst h0
        rw [Int.zero_mul] at ht
        have hz : S + a = 0 := by
          rcases Int.mul_eq_zero.1 ht.symm with h | h
          · exact h
          · omega
        rw [hz, fl_zero]
        simp only [if_true, Int.natAbs_zero, Format.nearest]
        have : (decide (S < 0) && decide (a < 0)) = false := by simp; omega
        rw [this]; rfl
      · rw [if_neg h0]
        have hlt : decide (T < 0) = decide (S + a < 0) := by
          rw [decide_eq_decide]
          constructor
          · intro h
            have h2 := Int.mul_neg_of_neg_of_pos h hp
            rw [ht] at h2
            by_cases h3 : S + a < 0
            · exact h3
            · have := Int.mul_nonneg (show 0 ≤ S + a from by omega) (Int.le_of_lt hpD); omega
          · intro h
            have h2 := Int.mul_neg_of_neg_of_pos h hpD
            rw [← ht] at h2
            by_cases h3 : T < 0
            · exact h3
            · have := Int.mul_nonneg (show 0 ≤ T from by omega) (Int.le_of_lt hp); omega
        have habs : T.natAbs * 2 ^ (min e e2) = (S + a).natAbs * 2 ^ D := by
          have := congrArg Int.natAbs ht
          rw [Int.natAbs_mul, Int.natAbs_mul, Int.natAbs_pow, Int.natAbs_pow] at this
          exact this
        rw [hlt, fl_form]
        have hTn : T.natAbs ≠ 0 := by omega
        have hSn : (S + a).natAbs ≠ 0 := by
          intro h
          rw [h, Nat.zero_mul] at habs
          rcases Nat.mul_eq_zero.1 habs with h3 | h3
          · omega
          · have := Nat.two_pow_pos (min e e2); omega
        show double.nearest (decide (S + a < 0)) T.natAbs (-1074 + ((min e e2 : Nat) : Int)) = _
        rw [near_rep _ T.natAbs _ r 0 (min e e2) hTn (by omega) (by omega) (by rw [habs, har, Nat.pow_zero, Nat.mul_one]),
          near_rep _ (S + a).natAbs 0 r 0 D hSn (by omega) (by omega) (by rw [har, Nat.pow_zero, Nat.mul_one])]


/-- A fold of sums of whole numbers is exact. -/
theorem sum_exact : ∀ (l : List Int) (S : Int) (s : Nat), FoldR AddR (fl S) (l.map fl) s → (∀ x ∈ l, x.natAbs ≤ 1099511627776) → S.natAbs + l.length * 1099511627776 < 9007199254740992 → s = fl (S + l.sum)
  | [], S, s, h, _, _ => by rw [← show fl S = s from h]; simp
  | x :: l, S, s, ⟨c, hc, hr⟩, hx, hb => by
    have h1 := hx x (List.mem_cons_self ..)
    simp only [List.length_cons] at hb
    have hc' : c = fl (S + x) := Res.val hc (add_exact S x (by omega) (by omega) (by omega))
    rw [hc'] at hr
    have := sum_exact l (S + x) s hr (fun y hy => hx y (List.mem_cons_of_mem _ hy)) (by omega)
    rw [this, List.sum_cons, Int.add_assoc]

theorem quo_lower {m n' e e' more f b : Nat} (hn : 0 < n') (hf : e' + more = e + f) (h : b * n' * 2 ^ e' ≤ m * 2 ^ e) : b * 2 ^ f ≤ (m <<< more) / n' := by
  rw [Nat.shiftLeft_eq, Nat.le_div_iff_mul_le hn]
  have h2 : b * n' * 2 ^ e' * 2 ^ more ≤ m * 2 ^ e * 2 ^ more := Nat.mul_le_mul_right _ h
  rw [Nat.mul_assoc (b * n'), ← Nat.pow_add, hf, Nat.pow_add, Nat.mul_right_comm m] at h2
  have h3 : b * 2 ^ f * n' * 2 ^ e ≤ m * 2 ^ more * 2 ^ e := by
    have e1 : b * 2 ^ f * n' * 2 ^ e = b * n' * (2 ^ e * 2 ^ f) := by
      rw [Nat.mul_comm (2 ^ e), ← Nat.mul_assoc, Nat.mul_right_comm b]
    rw [e1]; exact h2
  exact Nat.le_of_mul_le_mul_right h3 (Nat.two_pow_pos _)
theorem quo_upper {m n' e e' more f b : Nat} (hn : 0 < n') (hf : e' + more = e + f) (h : m * 2 ^ e ≤ b * n' * 2 ^ e') :
    2 * ((m <<< more) / n') + ((m <<< more) % n' != 0).toNat ≤ 2 * (b * 2 ^ f) := by
  rw [Nat.shiftLeft_eq]
  have h2 : m * 2 ^ e * 2 ^ more ≤ b * n' * 2 ^ e' * 2 ^ more := Nat.mul_le_mul_right _ h
  rw [Nat.mul_assoc (b * n'), ← Nat.pow_add, hf, Nat.pow_add, Nat.mul_right_comm m] at h2
  have h3 : m * 2 ^ more * 2 ^ e ≤ b * 2 ^ f * n' * 2 ^ e := by
    have e1 : b * 2 ^ f * n' * 2 ^ e = b * n' * (2 ^ e * 2 ^ f) := by
      rw [Nat.mul_comm (2 ^ e), ← Nat.mul_assoc, Nat.mul_right_comm b]
    rw [e1]; exact h2
  have h4 := Nat.le_of_mul_le_mul_right h3 (Nat.two_pow_pos _)
  generalize m * 2 ^ more = D at h4 ⊢
  generalize b * 2 ^ f = c at h4 ⊢
  have hd := Nat.div_add_mod D n'
  by_cases h0 : D % n' = 0
  · rw [h0]
    have : D / n' ≤ c := by
      have := Nat.div_le_div_right (c := n') h4
      rwa [Nat.mul_div_cancel _ hn] at this
    simp; omega
  · have : D / n' < c := by
      rcases Nat.lt_or_ge (D / n') c with h | h
      · exact h
      · have : c * n' ≤ D / n' * n' := Nat.mul_le_mul_right _ h
        rw [Nat.mul_comm (D / n')] at this
        omega
    have h1 : (D % n' != 0) = true := by simpa using h0
    rw [h1]
    simp; omega

/-- THE QUOTIENT lies where the exact one lies. -/
theorem quo_spec (S : Int) (n : Nat) (hS : S.natAbs < 1125899906842624) (hn0 : 0 < n) (hn : n ≤ 1000000) :
    ∃ r, double.div (fl S) (fl n) = some r ∧ w64 r ∧ isNaN r = false ∧ ∀ a : Int, a.natAbs ≤ 1099511627776 → (a * n ≤ S → key (fl a) ≤ key r) ∧ (S ≤ a * n → key r ≤ key (fl a)) := by
  obtain ⟨D, hD⟩ : ∃ D : Nat, D = 1074 := ⟨_, rfl⟩
  obtain ⟨w1, n1, g1, f1, a1⟩ := fl_exact S (by omega) D hD
  obtain ⟨w2, n2, g2, f2, a2⟩ := fl_exact n (by omega) D hD
  have s1 := sees _ w1
  have s2 := sees _ w2
  unfold Format.div
  have hfb : double.fractionBits + 2 = 54 := rfl
  rw [hfb]
  generalize double.read (fl S) = d1 at s1
  generalize double.read (fl n) = d2 at s2
  have g2' : isNeg (fl n) = false := by rw [g2]; simp
  cases s1 with
  | nan t h => omega
  | inf h => omega
  | num m e h1 hm =>
    cases s2 with
    | nan t h => omega
    | inf h => omega
    | num n' e' h2 hm2 =>
      rw [a1] at hm
      rw [a2, Int.natAbs_natCast] at hm2
      have hpD : 0 < 2 ^ D := Nat.two_pow_pos _
      have hn' : 0 < n' := by
        rcases Nat.eq_zero_or_pos n' with h | h
        · rw [h, Nat.zero_mul] at hm2
          have : 0 < n * 2 ^ D := Nat.mul_pos hn0 hpD
          omega
        · exact h
      simp only [Datum.quotient, if_neg (show ¬ n' = 0 from by omega), Option.map_some, g1, g2', Bool.xor_false]
      generalize hmore : 54 + n'.log2 - m.log2 = more
      have hmul : ∀ b : Nat, b * n' * 2 ^ e' = b * n * 2 ^ D := fun b => by rw [Nat.mul_assoc, hm2, ← Nat.mul_assoc]
      by_cases hS0 : S = 0
      · subst hS0
        have hm0 : m = 0 := by
          simp only [Int.natAbs_zero, Nat.zero_mul] at hm
          rcases Nat.mul_eq_zero.1 hm with h | h
          · exact h
          · have := Nat.two_pow_pos e; omega
        subst hm0
        refine ⟨0, ?_, by decide, by decide, fun a ha => ⟨fun h => ?_, fun h => ?_⟩⟩
        · simp [Format.write, Format.nearest, Nat.zero_shiftLeft]; rfl
        · have : a ≤ 0 := by
            by_cases h3 : a ≤ 0
            · exact h3
            · have := Int.mul_pos (show 0 < a from by omega) (show (0 : Int) < n from by omega); omega
          obtain ⟨_, _, g3, _, _⟩ := fl_exact a (by omega) D hD
          rw [show key 0 = 0 from by decide]
          unfold key
          rw [g3]
          by_cases h4 : a < 0
          · simp [h4]
          · have : a = 0 := by omega
            subst this
            rw [fl_zero]; decide
        · have : 0 ≤ a := by
            by_cases h3 : 0 ≤ a
            · exact h3
            · have := Int.mul_neg_of_neg_of_pos (show a < 0 from by omega) (show (0 : Int) < n from by omega); omega
          obtain ⟨_, _, g3, _, _⟩ := fl_exact a (by omega) D hD
          rw [show key 0 = 0 from by decide]
          unfold key
          rw [g3]
          simp [show ¬ a < 0 from by omega]
      · have hm0 : m ≠ 0 := by
          rintro rfl
          rw [Nat.zero_mul] at hm
          have : 0 < S.natAbs * 2 ^ D := Nat.mul_pos (by omega) hpD
          omega
        have b1 : 2 ^ m.log2 ≤ m := Nat.log2_self_le hm0
        have b2 : n' < 2 ^ (n'.log2 + 1) := Nat.lt_log2_self
        have c1 : m.log2 + e < 50 + D := by
          have h3 : 2 ^ m.log2 * 2 ^ e ≤ m * 2 ^ e := Nat.mul_le_mul_right _ b1
          have h4 : m * 2 ^ e < 2 ^ 50 * 2 ^ D := by
            rw [hm]; exact Nat.mul_lt_mul_of_pos_right (by rw [show (2 : Nat) ^ 50 = 1125899906842624 from by decide]; exact hS) hpD
          rw [← Nat.pow_add] at h3 h4
          exact (Nat.pow_lt_pow_iff_right (by decide)).1 (Nat.lt_of_le_of_lt h3 h4)
        have c2 : D < n'.log2 + 1 + e' := by
          have h3 : n' * 2 ^ e' < 2 ^ (n'.log2 + 1) * 2 ^ e' := Nat.mul_lt_mul_of_pos_right b2 (Nat.two_pow_pos _)
          have h4 : 2 ^ D ≤ n * 2 ^ D := Nat.le_mul_of_pos_left _ hn0
          rw [← Nat.pow_add] at h3
          exact (Nat.pow_lt_pow_iff_right (by decide)).1 (Nat.lt_of_le_of_lt h4 (hm2 ▸ h3))
        obtain ⟨f, hf⟩ : ∃ f, e' + more = e + f := ⟨e' + more - e, by omega⟩
        have hQ0 : 2 * (m <<< more / n') + (m <<< more % n' != 0).toNat ≠ 0 := by
          intro h
          have q0 : m <<< more / n' = 0 := by omega
          have r0 : m <<< more % n' = 0 := by
            by_cases h3 : m <<< more % n' = 0
            · exact h3
            · have : (m <<< more % n' != 0) = true := by simpa using h3
              rw [this] at h; simp at h
          have hz := Nat.div_add_mod (m <<< more) n'
          rw [q0, r0, Nat.shiftLeft_eq, Nat.mul_zero] at hz
          have h6 : 0 < m * 2 ^ more := Nat.mul_pos (by omega) (Nat.two_pow_pos _)
          omega
        generalize hQ : 2 * (m <<< more / n') + (m <<< more % n' != 0).toNat = Q at hQ0
        obtain ⟨q, hq, hq1, hlo, hhi⟩ := nearest_spec (decide (S < 0)) Q (-1074 + (e : Int) - (-1074 + (e' : Int)) - (more : Int) - 1) hQ0
        obtain ⟨p1, p2, p3, p4⟩ := word_parts (decide (S < 0)) q hq1
        refine ⟨double.word (decide (S < 0)) q, ?_, p1, p4, fun a ha => ?_⟩
        · show some (double.nearest (decide (S < 0)) Q _) = _
          rw [hq]
        · obtain ⟨w3, n3, g3, f3, a3⟩ := fl_exact a (by omega) D hD
          have low : a.natAbs * n ≤ S.natAbs → mg (fl a) ≤ q := by
            intro h
            refine hlo (mg (fl a)) (e' + more + 1) (e + D) (by omega) (by omega) ?_
            have h3 := quo_lower hn' hf (b := a.natAbs) (by rw [hmul, hm]; exact Nat.mul_le_mul_right _ h)
            have h4 : 2 * (a.natAbs * 2 ^ f) ≤ Q := by omega
            have h5 : amag (mg (fl a)) * 2 ^ (e' + more + 1) = 2 * (a.natAbs * 2 ^ f) * 2 ^ (e + D) := by
              rw [a3, hf, Nat.mul_assoc, ← Nat.pow_add, Nat.mul_comm 2, Nat.mul_assoc a.natAbs, ← Nat.pow_succ, Nat.mul_assoc, ← Nat.pow_add]
              congr 2; omega
            rw [h5]
            exact Nat.mul_le_mul_right _ h4
          have high : S.natAbs ≤ a.natAbs * n → q ≤ mg (fl a) := by
            intro h
            refine hhi (mg (fl a)) (e' + more + 1) (e + D) (by omega) ?_
            have h3 := quo_upper hn' hf (b := a.natAbs) (by rw [hmul, hm]; exact Nat.mul_le_mul_right _ h)
            rw [hQ] at h3
            have h5 : amag (mg (fl a)) * 2 ^ (e' + more + 1) = 2 * (a.natAbs * 2 ^ f) * 2 ^ (e + D) := by
              rw [a3, hf, Nat.mul_assoc, ← Nat.pow_add, Nat.mul_comm 2, Nat.mul_assoc a.natAbs, ← Nat.pow_succ, Nat.mul_assoc, ← Nat.pow_add]
              congr 2; omega
            rw [h5]
            exact Nat.mul_le_mul_right _ h3
          have hna : (a * n).natAbs = a.natAbs * n := by rw [Int.natAbs_mul, Int.natAbs_natCast]
          have hsn : (a < 0 → a * n < 0) ∧ (0 ≤ a → 0 ≤ a * n) := ⟨fun h => Int.mul_neg_of_neg_of_pos h (by omega), fun h => Int.mul_nonneg h (by omega)⟩
          generalize a * n = P at hna hsn ⊢
          unfold key
          rw [g3, p3, p2]
          constructor
          · intro h
            by_cases hs : S < 0 <;> by_cases h6 : a < 0 <;> simp only [hs, h6, decide_true, decide_false, if_true, Bool.false_eq_true, if_false]
            · have := high (by omega); omega
            · have := hsn.2 (by omega); omega
            · omega
            · have := low (by have := hsn.2 (by omega); omega); omega
          · intro h
            by_cases hs : S < 0 <;> by_cases h6 : a < 0 <;> simp only [hs, h6, decide_true, decide_false, if_true, Bool.false_eq_true, if_false]
            · have := low (by have := hsn.1 h6; omega); omega
            · omega
            · have := hsn.1 h6; omega
            · have := high (by omega); omega


theorem fl_lt {a b : Int} (ha : a.natAbs ≤ 1099511627776) (hb : b.natAbs ≤ 1099511627776) (h : b < a) : key (fl b) < key (fl a) := by
  obtain ⟨D, hD⟩ : ∃ D : Nat, D = 1074 := ⟨_, rfl⟩
  obtain ⟨_, _, g1, _, a1⟩ := fl_exact a (by omega) D hD
  obtain ⟨_, _, g2, _, a2⟩ := fl_exact b (by omega) D hD
  have hpD : 0 < 2 ^ D := Nat.two_pow_pos _
  have lt : ∀ u v : Int, amag (mg (fl u)) = u.natAbs * 2 ^ D → amag (mg (fl v)) = v.natAbs * 2 ^ D → u.natAbs < v.natAbs → mg (fl u) < mg (fl v) := by
    intro u v hu hv h
    refine amag_lt.1 ?_
    rw [hu, hv]
    exact Nat.mul_lt_mul_of_pos_right h hpD
  have pos : b < 0 → 0 < mg (fl b) := by
    intro h
    rcases Nat.eq_zero_or_pos (mg (fl b)) with h0 | h0
    · rw [h0] at a2
      have : 0 < b.natAbs * 2 ^ D := Nat.mul_pos (by omega) hpD
      simp [amag] at a2
      omega
    · exact h0
  unfold key
  rw [g1, g2]
  by_cases h1 : a < 0 <;> by_cases h2 : b < 0 <;> simp only [h1, h2, decide_true, decide_false, if_true, Bool.false_eq_true, if_false]
  · have := lt a b a1 a2 (by omega); omega
  · omega
  · have := pos h2; omega
  · have := lt b a a2 a1 (by omega); omega
theorem fl_le {a b : Int} (ha : a.natAbs ≤ 1099511627776) (hb : b.natAbs ≤ 1099511627776) (h : key (fl a) ≤ key (fl b)) : a ≤ b := by
  by_cases h1 : a ≤ b
  · exact h1
  · have := fl_lt ha hb (by omega); omega

theorem sum_ge {a : Int} : ∀ {l : List Int}, (∀ x ∈ l, a ≤ x) → a * (l.length : Nat) ≤ l.sum
  | [], _ => by simp
  | x :: l, h => by
    have h1 := h x (List.mem_cons_self ..)
    have h2 := sum_ge (l := l) (fun y hy => h y (List.mem_cons_of_mem _ hy))
    simp only [List.length_cons, List.sum_cons, Int.natCast_add, Int.mul_add, Int.natCast_one, Int.mul_one]
    omega
theorem sum_le {a : Int} : ∀ {l : List Int}, (∀ x ∈ l, x ≤ a) → l.sum ≤ a * (l.length : Nat)
  | [], _ => by simp
  | x :: l, h => by
    have h1 := h x (List.mem_cons_self ..)
    have h2 := sum_le (l := l) (fun y hy => h y (List.mem_cons_of_mem _ hy))
    simp only [List.length_cons, List.sum_cons, Int.natCast_add, Int.mul_add, Int.natCast_one, Int.mul_one]
    omega
theorem sum_abs : ∀ {l : List Int}, (∀ x ∈ l, x.natAbs ≤ 1099511627776) → l.sum.natAbs ≤ l.length * 1099511627776
  | [], _ => by simp
  | x :: l, h => by
    have h1 := h x (List.mem_cons_self ..)
    have h2 := sum_abs (l := l) (fun y hy => h y (List.mem_cons_of_mem _ hy))
    simp only [List.length_cons, List.sum_cons]
    omega

def fGe (x y : Nat) : Bool := fGt x y || fEq x y
def fLe (x y : Nat) : Bool := fLt x y || fEq x y

/-- MEANS OF WHOLE NUMBERS. -/
theorem mean_law {l : List Int} (hl0 : 0 < l.length) (hl : l.length ≤ 300) (hx : ∀ x ∈ l, x.natAbs ≤ 1099511627776) {r lo hi : Nat} (hr : MeanR (l.map fl) l.length r) (hlo : LeastR (l.map fl) lo) (hhi : MostR (l.map fl) hi) (wlo : w64 lo) (whi : w64 hi) :
    fGe r lo = true ∧ fLe r hi = true ∧ ∀ a : Int, a.natAbs ≤ 1099511627776 → (∀ x ∈ l, x = a) → fEq r (fl a) = true := by
  obtain ⟨s, hs, hq⟩ := hr
  have hs' := sum_exact l 0 s (by rw [fl_zero]; exact hs) hx (by simp; omega)
  rw [Int.zero_add] at hs'
  subst hs'
  have hab := sum_abs hx
  obtain ⟨v, hv, v64, vn, hspec⟩ := quo_spec l.sum l.length (by omega) hl0 (by omega)
  have hrv : r = v := Res.val hq hv
  subst hrv
  have hw : ∀ x ∈ l.map fl, w64 x ∧ isNaN x = false := by
    intro y hy
    obtain ⟨x, hxl, rfl⟩ := List.mem_map.1 hy
    obtain ⟨p1, p2, _⟩ := fl_exact x (by have := hx x hxl; omega) 1074 rfl
    exact ⟨p1, p2⟩
  have hany : (l.map fl).any isNaN = false := by
    rw [List.any_eq_false]
    intro y hy
    rw [(hw y hy).2]; simp
  have hne : l.map fl ≠ [] := by
    intro h
    have := congrArg List.length h
    simp at this
    subst this
    simp at hl0
  obtain ⟨nlo, clo⟩ := hlo.char (fun x h => (hw x h).1) wlo
  obtain ⟨nhi, chi⟩ := hhi.char (fun x h => (hw x h).1) whi
  rw [hany] at nlo nhi
  obtain ⟨mlo, llo⟩ := clo hany
  obtain ⟨mhi, lhi⟩ := chi hany
  obtain ⟨a, hal, rfl⟩ := List.mem_map.1 (mlo hne)
  obtain ⟨b, hbl, rfl⟩ := List.mem_map.1 (mhi hne)
  have ha := hx a hal
  have hb := hx b hbl
  have h1 : ∀ x ∈ l, a ≤ x := fun x hxl => fl_le ha (hx x hxl) ((@key_key2 (fl a) (fl x)).2.1 (llo _ (List.mem_map.2 ⟨x, hxl, rfl⟩)))
  have h2 : ∀ x ∈ l, x ≤ b := fun x hxl => fl_le (hx x hxl) hb ((@key_key2 (fl x) (fl b)).2.1 (lhi _ (List.mem_map.2 ⟨x, hxl, rfl⟩)))
  have k1 := (hspec a ha).1 (sum_ge h1)
  have k2 := (hspec b hb).2 (sum_le h2)
  refine ⟨?_, ?_, fun c hc hall => ?_⟩
  · unfold fGe
    rw [fGt_key v64 wlo vn nlo, fEq_key v64 wlo vn nlo, Bool.or_eq_true, decide_eq_true_eq, decide_eq_true_eq]
    omega
  · unfold fLe
    rw [fLt_key v64 whi vn nhi, fEq_key v64 whi vn nhi, Bool.or_eq_true, decide_eq_true_eq, decide_eq_true_eq]
    omega
  · obtain ⟨p1, p2, _⟩ := fl_exact c (by omega) 1074 rfl
    have q1 := (hspec c hc).1 (sum_ge (fun x hxl => by rw [hall x hxl]; exact Int.le_refl _))
    have q2 := (hspec c hc).2 (sum_le (fun x hxl => by rw [hall x hxl]; exact Int.le_refl _))
    rw [fEq_key v64 p1 vn p2, decide_eq_true_eq]
    omega

end Go.Proofs.Ytkphnmpildkdaaa
