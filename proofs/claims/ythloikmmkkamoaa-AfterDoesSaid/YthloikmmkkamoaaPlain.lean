/- The law of stopping, over plain lists. -/
import Derived.Test.YthloikmmkkamoaaDo
namespace Go.Proofs.Ythloikmmkkamoaa
open Go.RowKit Go.Maps

theorem doTo_len {most : Nat} {rows : List Reg} (h : rows.length ≤ most) (x : Act1) : (doTo most rows x).1.length ≤ most := by
  unfold doTo
  split
  · unfold addTo
    split
    · exact h
    · rename_i hne
      simp only [List.length_append, List.length_singleton]
      omega
  · split
    · unfold stopTo
      split
      · simp only [setSt_len]; exact h
      · exact h
    · split
      · simp only [fireTo_len]; exact h
      · exact h

/-- The registrations behind acts. -/
def run (most : Int) (l : List Act1) : List Reg := l.foldl (fun rows x => (doTo most rows x).1) []

theorem run_snoc (most : Int) (l : List Act1) (x : Act1) : run most (l ++ [x]) = (doTo most (run most l) x).1 := by simp [run]

theorem run_len (most : Nat) (l : List Act1) : (run most l).length ≤ most := by
  unfold run
  have h : ∀ (l : List Act1) (rows : List Reg), rows.length ≤ most → (l.foldl (fun rows x => (doTo most rows x).1) rows).length ≤ most := by
    intro l
    induction l with
    | nil => intro rows h; exact h
    | cons x l ih => intro rows h; exact ih _ (doTo_len h x)
  exact h l [] (Nat.zero_le _)

theorem but_append (n0 : Int) (a b : List Int) : but n0 (a ++ b) = but n0 a ++ but n0 b := by simp [but]

theorem but_self {n0 : Int} {l : List Int} (h : n0 ∉ l) : but n0 l = l := by
  unfold but
  rw [List.filter_eq_self]
  intro x hx
  have : x ≠ n0 := fun e => h (e ▸ hx)
  simpa using this

theorem getD_ext {a b : List Reg} (hl : a.length = b.length) (h : ∀ j, j < a.length → a.getD j default = b.getD j default) : a = b := by
  apply List.ext_getElem hl
  intro j h1 h2
  have := h j h1
  simpa [List.getD, List.getElem?_eq_getElem h1, List.getElem?_eq_getElem h2] using this

theorem getD_eq {a b : List Reg} (h : a = b) (j : Nat) : a.getD j default = b.getD j default := by rw [h]

theorem waiting_in {rows : List Reg} {i : Int} {x : Int} (h : x ∈ waiting rows i) : ∃ k : Nat, x = k ∧ k < rows.length ∧ (rows.getD k default).on = i ∧ (rows.getD k default).state = 1 := by
  rw [waiting_places, List.mem_map] at h
  obtain ⟨k, hk, rfl⟩ := h
  obtain ⟨h1, h2, h3⟩ := mem_places.1 hk
  exact ⟨k, rfl, h1, h2, h3⟩

/-- Who waits, when k is stopped (whatever it was, so long as it isn't begun anew). -/
theorem waiting_stop (rows : List Reg) (k : Nat) (hk : k < rows.length) (i : Int) : waiting (setSt rows k 3) i = but (k : Int) (waiting rows i) := by
  rw [waiting_setSt rows k 3 hk (by decide)]
  split
  · rfl
  · rename_i hne
    rw [but_self]
    intro hm
    obtain ⟨k', h1, _, h3, _⟩ := waiting_in hm
    have : k' = k := by omega
    subst this
    exact hne h3.symm

theorem but_places (k : Nat) (rows : List Reg) (i : Int) : but (k : Int) (waiting rows i) = ((places rows i).filter fun j => !(j == k)).map fun j : Nat => (j : Int) := by
  rw [waiting_places, but_map]

theorem setAll_stop (rows : List Reg) (k : Nat) (hk : k < rows.length) (i : Int) : setAll (setSt rows k 3) (but (k : Int) (waiting rows i)) = setSt (setAll rows (waiting rows i)) k 3 := by
  rw [but_places, waiting_places]
  apply getD_ext
  · rw [setAll_len, setSt_len, setSt_len, setAll_len]
  · intro j hj
    have hj' : j < rows.length := by rw [setAll_len, setSt_len] at hj; exact hj
    rw [setAll_getD _ _ _ (by rw [setSt_len]; exact hj'), setSt_getD _ _ _ _ hj', setSt_getD _ _ _ _ (by rw [setAll_len]; exact hj'), setAll_getD _ _ _ hj', setAll_getD _ _ _ hk]
    by_cases e : j = k
    · subst e
      have : ¬ j ∈ (places rows i).filter fun q => !(q == j) := by simp [List.mem_filter]
      rw [if_neg this]
      simp only [if_true]
      split <;> rfl
    · simp only [e, if_false]
      have : (j ∈ (places rows i).filter fun q => !(q == k)) ↔ j ∈ places rows i := by simp [List.mem_filter, e]
      by_cases h : j ∈ places rows i
      · rw [if_pos (this.2 h), if_pos h]
      · rw [if_neg (fun h' => h (this.1 h')), if_neg h]

/-- What is begun of all, but for the one that was stopped. -/
theorem fire_stop (rows : List Reg) (k : Nat) (hk : k < rows.length) (ons : List Int) : fireTo (setSt rows k 3) ons = (setSt (fireTo rows ons).1 k 3, but (k : Int) (fireTo rows ons).2) := by
  have h : ∀ (l : List Int) (s : List Reg × List Int), s.1.length = rows.length →
      l.foldl (fun s x => (setAll s.1 (waiting s.1 x), s.2 ++ waiting s.1 x)) (setSt s.1 k 3, but (k : Int) s.2) =
      (setSt (l.foldl (fun s x => (setAll s.1 (waiting s.1 x), s.2 ++ waiting s.1 x)) s).1 k 3, but (k : Int) (l.foldl (fun s x => (setAll s.1 (waiting s.1 x), s.2 ++ waiting s.1 x)) s).2) := by
    intro l
    induction l with
    | nil => intro s _; rfl
    | cons x l ih =>
      intro s hs
      have hk' : k < s.1.length := by omega
      simp only [List.foldl_cons]
      rw [waiting_stop _ _ hk', setAll_stop _ _ hk', ← but_append]
      exact ih (setAll s.1 (waiting s.1 x), s.2 ++ waiting s.1 x) (by rw [setAll_len]; exact hs)
  exact h ons (rows, []) rfl

theorem setAll_state (rows : List Reg) (x : Int) (k : Nat) (hk : k < rows.length) (h : (rows.getD k default).state ≠ 1) : ((setAll rows (waiting rows x)).getD k default).state ≠ 1 := by
  rw [waiting_places, setAll_getD _ _ _ hk]
  split
  · simp
  · exact h

/-- What does not wait is not begun. -/
theorem fire_not (rows : List Reg) (k : Int) (h : canStop rows k = false) (ons : List Int) : k ∉ (fireTo rows ons).2 := by
  have key : ∀ (l : List Int) (s : List Reg × List Int), s.1.length = rows.length → (∀ q : Nat, k = q → q < rows.length → (s.1.getD q default).state ≠ 1) → k ∉ s.2 →
      k ∉ (l.foldl (fun s x => (setAll s.1 (waiting s.1 x), s.2 ++ waiting s.1 x)) s).2 := by
    intro l
    induction l with
    | nil => intro s _ _ h; exact h
    | cons x l ih =>
      intro s hs hst hno
      rw [List.foldl_cons]
      refine ih _ (by rw [setAll_len]; exact hs) (fun q hq hql => setAll_state _ _ _ (by omega) (hst q hq hql)) ?_
      intro hm
      rcases List.mem_append.1 hm with hm | hm
      · exact hno hm
      · obtain ⟨q, h1, h2, _, h4⟩ := waiting_in hm
        exact hst q h1 (by omega) h4
  refine key ons (rows, []) rfl (fun q hq hql hs => ?_) (by simp)
  have : canStop rows k = true := by
    unfold canStop
    rw [hq, Int.toNat_natCast, hs]
    simp [hql]
  rw [this] at h
  cases h

/-- The law's own: begun of all, but for x, is what is begun when x is stopped if it waits. -/
theorem stops_law (rows : List Reg) (x : Int) (ons : List Int) : (fireTo (stopTo rows x).1 ons).2 = but x (fireTo rows ons).2 := by
  unfold stopTo
  by_cases h : canStop rows x = true
  · rw [if_pos h]
    obtain ⟨k, rfl, hk, _⟩ := canStop_yes h
    rw [Int.toNat_natCast, fire_stop rows k hk]
  · rw [if_neg h, but_self (fire_not rows x (Bool.eq_false_iff.2 h) ons)]

end Go.Proofs.Ythloikmmkkamoaa
