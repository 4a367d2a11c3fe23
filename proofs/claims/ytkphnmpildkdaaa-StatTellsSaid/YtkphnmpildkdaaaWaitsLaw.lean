/- The plain law of waits: what is not woken waits no more; each wait is of one Woken; of one kind there are no more than of all. -/
import Derived.Test.YtkphnmpildkdaaaWaits
namespace Go.Proofs.Ytkphnmpildkdaaa

def quietOf (m : List Ev) : List Ev := m.filter (fun x => x.kind != 5)
def wokenOf (l : List Ev) : Nat := (l.filter (fun x => x.kind == 5)).length

theorem stepW_quiet (kind : Int) (s : St) (x : Ev) (h : x.kind ≠ 5) : (stepW kind s x).out = s.out := by
  unfold stepW
  split
  · rfl
  · split
    · rfl
    · simp
theorem foldl_quiet (kind : Int) : ∀ (m : List Ev) (s : St), (∀ x ∈ m, x.kind ≠ 5) → (m.foldl (stepW kind) s).out = s.out
  | [], _, _ => rfl
  | x :: m, s, h => by
    rw [List.foldl_cons, foldl_quiet kind m _ (fun y hy => h y (List.mem_cons_of_mem _ hy)), stepW_quiet kind s x (h x (List.mem_cons_self ..))]
theorem waits_quiet (kind : Int) (l m : List Ev) : (runW kind (l ++ quietOf m)).out = (runW kind l).out := by
  unfold runW
  rw [List.foldl_append]
  exact foldl_quiet kind _ _ (fun x hx => by simpa using (List.mem_filter.1 hx).2)

theorem stepW_woken (kind : Int) (s : St) (x : Ev) : (stepW kind s x).out.length ≤ s.out.length + (if x.kind == 5 then 1 else 0) := by
  by_cases h : x.kind = 5
  · rw [h]; exact stepW_len kind s x
  · rw [stepW_quiet kind s x h]; simp
theorem foldl_woken (kind : Int) : ∀ (l : List Ev) (s : St), (l.foldl (stepW kind) s).out.length ≤ s.out.length + wokenOf l
  | [], s => by simp [wokenOf]
  | x :: l, s => by
    rw [List.foldl_cons]
    have h1 := foldl_woken kind l (stepW kind s x)
    have h2 := stepW_woken kind s x
    have h3 : wokenOf (x :: l) = (if x.kind == 5 then 1 else 0) + wokenOf l := by
      unfold wokenOf
      rw [List.filter_cons]
      split <;> simp <;> omega
    omega
theorem waits_woken (kind : Int) (l : List Ev) : (runW kind l).out.length ≤ wokenOf l := by
  have := foldl_woken kind l st0
  simpa [st0, runW] using this

theorem foldl_kinds (kind : Int) : ∀ (l : List Ev) (s t : St), s.now = t.now → s.since = t.since → s.out.length ≤ t.out.length →
    (l.foldl (stepW kind) s).out.length ≤ (l.foldl (stepW 0) t).out.length
  | [], _, _, _, _, h => h
  | x :: l, s, t, h1, h2, h3 => by
    rw [List.foldl_cons, List.foldl_cons]
    refine foldl_kinds kind l _ _ ?_ ?_ ?_
    · unfold stepW; split
      · rfl
      · split
        · exact h1
        · split <;> exact h1
    · unfold stepW; split
      · exact h2
      · split
        · simp only [h1, h2]
        · split
          · simp only [h2]
          · exact h2
    · unfold stepW; split
      · exact h3
      · split
        · exact h3
        · split
          · simp only [h2]
            cases t.since x.task with
            | none => exact h3
            | some f =>
              simp only [true_or, if_true]
              split
              · simp only [List.length_append, List.length_singleton]; omega
              · simp only [List.length_append, List.length_singleton]; omega
          · exact h3
theorem waits_kinds (kind : Int) (l : List Ev) : (runW kind l).out.length ≤ (runW 0 l).out.length := foldl_kinds kind l st0 st0 rfl rfl (Nat.le_refl _)

theorem quiet_step {m : List Ev} {k : Nat} (h : k < m.length) : quietOf (m.take (k + 1)) = quietOf (m.take k) ++ (if (m.getD k default).kind = 5 then [] else [m.getD k default]) := by
  unfold quietOf
  rw [List.take_succ_eq_append_getElem h, List.filter_append]
  simp only [List.getD, List.getElem?_eq_getElem h, Option.getD_some]
  congr 1
  by_cases h5 : m[k].kind = 5 <;> simp [h5]
theorem woken_step {m : List Ev} {k : Nat} (h : k < m.length) : wokenOf (m.take (k + 1)) = wokenOf (m.take k) + (if (m.getD k default).kind = 5 then 1 else 0) := by
  unfold wokenOf
  rw [List.take_succ_eq_append_getElem h, List.filter_append, List.length_append]
  simp only [List.getD, List.getElem?_eq_getElem h, Option.getD_some]
  congr 1
  by_cases h5 : m[k].kind = 5 <;> simp [h5]
theorem quiet_len (m : List Ev) : (quietOf m).length ≤ m.length := List.length_filter_le _ _
theorem woken_len (m : List Ev) : wokenOf m ≤ m.length := List.length_filter_le _ _

theorem evOK_append {l m : List Ev} {n k : Nat} (hl : l.length = n) (hm : m.length = k) (h1 : ∀ i, i < n → EvOK (l.getD i default)) (h2 : ∀ i, i < k → EvOK (m.getD i default)) :
    ∀ i, i < n + (quietOf m).length → EvOK ((l ++ quietOf m).getD i default) := by
  intro i hi
  have hall : ∀ x ∈ l ++ quietOf m, EvOK x := by
    intro x hx
    rcases List.mem_append.1 hx with h | h
    · obtain ⟨j, hj, rfl⟩ := List.mem_iff_getElem.1 h
      have := h1 j (by omega)
      simpa [List.getD, List.getElem?_eq_getElem hj] using this
    · obtain ⟨j, hj, rfl⟩ := List.mem_iff_getElem.1 (List.mem_filter.1 h).1
      have := h2 j (by omega)
      simpa [List.getD, List.getElem?_eq_getElem hj] using this
  have hil : i < (l ++ quietOf m).length := by rw [List.length_append]; omega
  simp only [List.getD, List.getElem?_eq_getElem hil, Option.getD_some]
  exact hall _ (List.getElem_mem _)

end Go.Proofs.Ytkphnmpildkdaaa
