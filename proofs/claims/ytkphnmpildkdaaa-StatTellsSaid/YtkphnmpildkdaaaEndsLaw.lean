/- The plain law of least and greatest: what the folds answer, and that each is the other's, turned. -/
import Derived.Test.YtkphnmpildkdaaaSame
namespace Go.Proofs.Ytkphnmpildkdaaa

theorem isNaN_neg {x : Nat} (hx : w64 x) : isNaN (neg x) = isNaN x := by unfold isNaN; rw [(neg_parts hx).2.1]
theorem key2_neg {x : Nat} (hx : w64 x) : key2 (neg x) = -1 - key2 x := by
  obtain ⟨_, h1, h2⟩ := neg_parts hx
  unfold key2
  rw [h1, h2]
  cases isNeg x <;> simp <;> omega
theorem neg_neg {x : Nat} (hx : w64 x) : neg (neg x) = x := by
  obtain ⟨h0, h1, h2⟩ := neg_parts hx
  obtain ⟨k0, k1, k2⟩ := neg_parts h0
  refine key2_inj k0 hx ?_
  rw [key2_neg h0, key2_neg hx]; omega

theorem kind_zero (x : Nat) : (kindOf x == 0) = isNaN x := by
  unfold kindOf
  cases isNaN x with
  | true => rfl
  | false =>
    rw [beq_eq_false_iff_ne]
    simp only [Bool.false_eq_true, if_false]
    by_cases h1 : key x = 0 <;> by_cases h2 : mg x = 9218868437227405312 <;> cases isNeg x <;> simp [h1, h2]

/-- What the least is. -/
theorem least_char : ∀ {xs : List Nat} {a r : Nat}, FoldR MinR a xs r → isNaN a = false →
    (xs.any isNaN = true → isNaN r = true) ∧ (xs.any isNaN = false → isNaN r = false ∧ (r = a ∨ r ∈ xs) ∧ key2 r ≤ key2 a ∧ ∀ x ∈ xs, key2 r ≤ key2 x)
  | [], a, r, h, ha => by
    obtain rfl : a = r := h
    exact ⟨fun h => by simp at h, fun _ => ⟨ha, .inl rfl, Int.le_refl _, fun x hx => by cases hx⟩⟩
  | x :: xs, a, r, ⟨c, hc, hr⟩, ha => by
    have hall : ∀ {xs : List Nat} {q r : Nat}, isNaN q = true → FoldR MinR q xs r → isNaN r = true := by
      intro xs
      induction xs with
      | nil => intro q r hq h; rw [← show q = r from h]; exact hq
      | cons y ys ih =>
        intro q r hq ⟨c, hc, hr⟩
        refine ih (q := c) ?_ hr
        unfold MinR at hc
        rw [hq] at hc
        exact hc
    unfold MinR at hc
    rw [ha] at hc
    cases nx : isNaN x with
    | true =>
      rw [nx] at hc
      have hcn : isNaN c = true := hc
      exact ⟨fun _ => hall hcn hr, fun h => by simp [nx] at h⟩
    | false =>
      rw [nx] at hc
      have hc' : c = minF a x := hc
      have hcn : isNaN c = false := by rw [hc']; unfold minF; split <;> assumption
      obtain ⟨h1, h2⟩ := least_char hr hcn
      refine ⟨fun h => h1 (by simpa [nx] using h), fun h => ?_⟩
      obtain ⟨k1, k2, k3, k4⟩ := h2 (by simpa [nx] using h)
      have hca : key2 c ≤ key2 a ∧ key2 c ≤ key2 x ∧ (c = a ∨ c = x) := by
        rw [hc']; unfold minF; split
        · exact ⟨Int.le_refl _, by assumption, .inl rfl⟩
        · exact ⟨by omega, Int.le_refl _, .inr rfl⟩
      refine ⟨k1, ?_, by omega, fun y hy => ?_⟩
      · rcases k2 with h | h
        · rcases hca.2.2 with h3 | h3
          · left; rw [h, h3]
          · right; rw [h, h3]; exact List.mem_cons_self ..
        · right; exact List.mem_cons_of_mem _ h
      · rcases List.mem_cons.1 hy with rfl | hy
        · omega
        · exact k4 y hy

theorem least_inf : isNaN 9218868437227405312 = false := by decide
theorem key2_le_inf {x : Nat} (nx : isNaN x = false) : key2 x ≤ key2 9218868437227405312 := by
  have h1 : key2 9218868437227405312 = 9218868437227405312 := by decide
  rw [h1]
  simp only [isNaN, decide_eq_false_iff_not] at nx
  unfold key2
  split <;> omega

/-- What Least tells, of floats. -/
theorem LeastR.char {xs : List Nat} {r : Nat} (h : LeastR xs r) (hw : ∀ x ∈ xs, w64 x) (h64 : w64 r) :
    isNaN r = xs.any isNaN ∧ (xs.any isNaN = false → (xs ≠ [] → r ∈ xs) ∧ ∀ x ∈ xs, key2 r ≤ key2 x) := by
  obtain ⟨h1, h2⟩ := least_char h least_inf
  cases hn : xs.any isNaN with
  | true => exact ⟨h1 hn, fun h => by cases h⟩
  | false =>
    obtain ⟨k1, k2, k3, k4⟩ := h2 hn
    refine ⟨k1, fun _ => ⟨fun hne => ?_, k4⟩⟩
    rcases k2 with h | h
    · obtain ⟨x, hx⟩ := List.exists_mem_of_ne_nil xs hne
      have nx : isNaN x = false := by simpa using (List.any_eq_false.1 hn) x hx
      have := k4 x hx
      have h3 := key2_le_inf nx
      have : x = r := key2_inj (hw x hx) h64 (by rw [h] at this ⊢; omega)
      rw [← this]; exact hx
    · exact h

theorem LeastR.same {xs : List Nat} {r q : Nat} (h : LeastR xs r) (k : LeastR xs q) (hw : ∀ x ∈ xs, w64 x) (h64 : w64 r) (k64 : w64 q) : r = q ∨ (isNaN r = true ∧ isNaN q = true) := by
  obtain ⟨h1, h2⟩ := h.char hw h64
  obtain ⟨k1, k2⟩ := k.char hw k64
  cases hn : xs.any isNaN with
  | true => right; exact ⟨by rw [h1, hn], by rw [k1, hn]⟩
  | false =>
    left
    rcases Decidable.em (xs = []) with he | he
    · subst he
      exact (show _ = _ from h).symm.trans k
    · have a := (h2 hn).1 he
      have b := (k2 hn).1 he
      exact key2_inj h64 k64 (by have := (h2 hn).2 q b; have := (k2 hn).2 r a; omega)

/-- What the greatest is. -/
theorem most_char : ∀ {xs : List Nat} {a r : Nat}, FoldR MaxR a xs r → isNaN a = false →
    (xs.any isNaN = true → isNaN r = true) ∧ (xs.any isNaN = false → isNaN r = false ∧ (r = a ∨ r ∈ xs) ∧ key2 a ≤ key2 r ∧ ∀ x ∈ xs, key2 x ≤ key2 r)
  | [], a, r, h, ha => by
    obtain rfl : a = r := h
    exact ⟨fun h => by simp at h, fun _ => ⟨ha, .inl rfl, Int.le_refl _, fun x hx => by cases hx⟩⟩
  | x :: xs, a, r, ⟨c, hc, hr⟩, ha => by
    have hall : ∀ {xs : List Nat} {q r : Nat}, isNaN q = true → FoldR MaxR q xs r → isNaN r = true := by
      intro xs
      induction xs with
      | nil => intro q r hq h; rw [← show q = r from h]; exact hq
      | cons y ys ih =>
        intro q r hq ⟨c, hc, hr⟩
        refine ih (q := c) ?_ hr
        unfold MaxR at hc
        rw [hq] at hc
        exact hc
    unfold MaxR at hc
    rw [ha] at hc
    cases nx : isNaN x with
    | true =>
      rw [nx] at hc
      have hcn : isNaN c = true := hc
      exact ⟨fun _ => hall hcn hr, fun h => by simp [nx] at h⟩
    | false =>
      rw [nx] at hc
      have hc' : c = maxF a x := hc
      have hcn : isNaN c = false := by rw [hc']; unfold maxF; split <;> assumption
      obtain ⟨h1, h2⟩ := most_char hr hcn
      refine ⟨fun h => h1 (by simpa [nx] using h), fun h => ?_⟩
      obtain ⟨k1, k2, k3, k4⟩ := h2 (by simpa [nx] using h)
      have hca : key2 a ≤ key2 c ∧ key2 x ≤ key2 c ∧ (c = a ∨ c = x) := by
        rw [hc']; unfold maxF; split
        · exact ⟨Int.le_refl _, by assumption, .inl rfl⟩
        · exact ⟨by omega, Int.le_refl _, .inr rfl⟩
      refine ⟨k1, ?_, by omega, fun y hy => ?_⟩
      · rcases k2 with h | h
        · rcases hca.2.2 with h3 | h3
          · left; rw [h, h3]
          · right; rw [h, h3]; exact List.mem_cons_self ..
        · right; exact List.mem_cons_of_mem _ h
      · rcases List.mem_cons.1 hy with rfl | hy
        · omega
        · exact k4 y hy

theorem most_inf : isNaN 18442240474082181120 = false := by decide
theorem key2_ge_inf {x : Nat} (nx : isNaN x = false) : key2 18442240474082181120 ≤ key2 x := by
  have h1 : key2 18442240474082181120 = -9218868437227405313 := by decide
  rw [h1]
  simp only [isNaN, decide_eq_false_iff_not] at nx
  unfold key2
  split <;> omega

/-- What Most tells, of floats. -/
theorem MostR.char {xs : List Nat} {r : Nat} (h : MostR xs r) (hw : ∀ x ∈ xs, w64 x) (h64 : w64 r) :
    isNaN r = xs.any isNaN ∧ (xs.any isNaN = false → (xs ≠ [] → r ∈ xs) ∧ ∀ x ∈ xs, key2 x ≤ key2 r) := by
  obtain ⟨h1, h2⟩ := most_char h most_inf
  cases hn : xs.any isNaN with
  | true => exact ⟨h1 hn, fun h => by cases h⟩
  | false =>
    obtain ⟨k1, k2, k3, k4⟩ := h2 hn
    refine ⟨k1, fun _ => ⟨fun hne => ?_, k4⟩⟩
    rcases k2 with h | h
    · obtain ⟨x, hx⟩ := List.exists_mem_of_ne_nil xs hne
      have nx : isNaN x = false := by simpa using (List.any_eq_false.1 hn) x hx
      have := k4 x hx
      have h3 := key2_ge_inf nx
      have : x = r := key2_inj (hw x hx) h64 (by rw [h] at this ⊢; omega)
      rw [← this]; exact hx
    · exact h


theorem any_neg {xs : List Nat} (hw : ∀ x ∈ xs, w64 x) : (xs.map neg).any isNaN = xs.any isNaN := by
  induction xs with
  | nil => rfl
  | cons x xs ih =>
    simp only [List.map_cons, List.any_cons]
    rw [isNaN_neg (hw x (List.mem_cons_self ..)), ih (fun y hy => hw y (List.mem_cons_of_mem _ hy))]

/-- The greatest is the least of what is turned, turned. -/
theorem most_least {xs : List Nat} {m q : Nat} (h : MostR xs m) (k : LeastR (xs.map neg) q) (hw : ∀ x ∈ xs, w64 x) (h64 : w64 m) (k64 : w64 q) : m = neg q ∨ (isNaN m = true ∧ isNaN (neg q) = true) := by
  have hw2 : ∀ y ∈ xs.map neg, w64 y := by
    intro y hy
    obtain ⟨x, hx, rfl⟩ := List.mem_map.1 hy
    exact (neg_parts (hw x hx)).1
  obtain ⟨h1, h2⟩ := h.char hw h64
  obtain ⟨k1, k2⟩ := k.char hw2 k64
  rw [any_neg hw] at k1 k2
  cases hn : xs.any isNaN with
  | true => right; exact ⟨by rw [h1, hn], by rw [isNaN_neg k64, k1, hn]⟩
  | false =>
    left
    rcases Decidable.em (xs = []) with he | he
    · subst he
      obtain rfl : 18442240474082181120 = m := h
      obtain rfl : 9218868437227405312 = q := k
      decide
    · have a := (h2 hn).1 he
      have b := (k2 hn).1 (by simpa using he)
      obtain ⟨x, hx, rfl⟩ := List.mem_map.1 b
      have hx64 := hw x hx
      rw [neg_neg hx64]
      have e1 := (h2 hn).2 x hx
      have e2 := (k2 hn).2 (neg m) (List.mem_map.2 ⟨m, a, rfl⟩)
      rw [key2_neg hx64, key2_neg h64] at e2
      exact key2_inj h64 hx64 (by omega)

theorem most_same {xs : List Nat} {m q : Nat} (h : MostR xs m) (k : LeastR (xs.map neg) q) (hw : ∀ x ∈ xs, w64 x) (h64 : w64 m) (k64 : w64 q) : sameF m (neg q) = true := by
  rcases most_least h k hw h64 k64 with h | ⟨h1, h2⟩
  · rw [← h]; exact sameF_self h64
  · exact sameF_nan h1 h2
theorem least_same {xs : List Nat} {r q : Nat} (h : LeastR xs r) (k : LeastR xs q) (hw : ∀ x ∈ xs, w64 x) (h64 : w64 r) (k64 : w64 q) : sameF r q = true := by
  rcases h.same k hw h64 k64 with h | ⟨h1, h2⟩
  · rw [← h]; exact sameF_self h64
  · exact sameF_nan h1 h2
/-- The least is one of them. -/
theorem least_there {xs : List Nat} {r : Nat} (h : LeastR xs r) (hw : ∀ x ∈ xs, w64 x) (h64 : w64 r) (hne : xs ≠ []) : xs.any (fun x => sameF x r) = true := by
  obtain ⟨h1, h2⟩ := h.char hw h64
  cases hn : xs.any isNaN with
  | true =>
    obtain ⟨x, hx, nx⟩ := List.any_eq_true.1 hn
    exact List.any_eq_true.2 ⟨x, hx, sameF_nan nx (by rw [h1, hn])⟩
  | false => exact List.any_eq_true.2 ⟨r, (h2 hn).1 hne, sameF_self h64⟩
theorem least_below {xs : List Nat} {r : Nat} (h : LeastR xs r) (hw : ∀ x ∈ xs, w64 x) (h64 : w64 r) (hn : xs.any isNaN = false) (x : Nat) (hx : x ∈ xs) : fLt x r = false := by
  obtain ⟨h1, h2⟩ := h.char hw h64
  have nx : isNaN x = false := by simpa using (List.any_eq_false.1 hn) x hx
  rw [fLt_key (hw x hx) h64 nx (by rw [h1, hn])]
  have := (@key_key2 r x).2.1 ((h2 hn).2 x hx)
  simp; omega
theorem most_above {xs : List Nat} {r : Nat} (h : MostR xs r) (hw : ∀ x ∈ xs, w64 x) (h64 : w64 r) (hn : xs.any isNaN = false) (x : Nat) (hx : x ∈ xs) : fGt x r = false := by
  obtain ⟨h1, h2⟩ := h.char hw h64
  have nx : isNaN x = false := by simpa using (List.any_eq_false.1 hn) x hx
  rw [fGt_key (hw x hx) h64 nx (by rw [h1, hn])]
  have := (@key_key2 x r).2.1 ((h2 hn).2 x hx)
  simp; omega

end Go.Proofs.Ytkphnmpildkdaaa
