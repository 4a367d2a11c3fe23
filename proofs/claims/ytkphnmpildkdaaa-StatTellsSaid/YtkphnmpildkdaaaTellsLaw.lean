/- The plain law of the reference's Waits: the first Parked behind the Woken ahead is what the map holds. -/
import Derived.Test.YtkphnmpildkdaaaWaits
namespace Go.Proofs.Ytkphnmpildkdaaa

def clockStep (n : Int) (x : Ev) : Int := if x.kind = 8 then x.n else n
def clockOf (l : List Ev) (k : Nat) : Int := (l.take k).foldl clockStep 0
theorem clock_step {l : List Ev} {k : Nat} (h : k < l.length) : clockOf l (k + 1) = clockStep (clockOf l k) (l.getD k default) := by
  unfold clockOf
  rw [List.take_succ_eq_append_getElem h, List.foldl_append]
  simp [List.getD, List.getElem?_eq_getElem h]

/-- The first Parked of task t behind its last Woken, among the first i events. -/
def fp (l : List Ev) (t : Int) : Nat → Option Nat
  | 0 => none
  | i + 1 => if (l.getD i default).kind = 5 ∧ (l.getD i default).task = t then none else
      (fp l t i).or (if (l.getD i default).kind = 4 ∧ (l.getD i default).task = t then some i else none)
theorem fp_lt {l : List Ev} {t : Int} : ∀ {i j : Nat}, fp l t i = some j → j < i
  | 0, _, h => by cases h
  | i + 1, j, h => by
    unfold fp at h
    split at h
    · cases h
    · cases hf : fp l t i with
      | some q =>
        rw [hf] at h
        simp at h
        have := fp_lt hf
        omega
      | none =>
        rw [hf] at h
        split at h
        · simp at h; omega
        · simp at h

theorem run_fp (kind : Int) (l : List Ev) : ∀ (i : Nat), i ≤ l.length → (runW kind (l.take i)).now = clockOf l i ∧ ∀ t, (runW kind (l.take i)).since t = (fp l t i).map (clockOf l)
  | 0, _ => by simp [runW, st0, clockOf, fp]
  | i + 1, h => by
    obtain ⟨h1, h2⟩ := run_fp kind l i (by omega)
    rw [runW_step kind (by omega), clock_step (by omega)]
    generalize hy : l.getD i default = y
    generalize hs : runW kind (l.take i) = s at h1 h2
    by_cases h8 : y.kind = 8
    · refine ⟨by simp [stepW, clockStep, h8], fun t => ?_⟩
      simp only [stepW, fp, hy, h8, if_true, h2]
      simp
    · by_cases h4 : y.kind = 4
      · refine ⟨by simp [stepW, clockStep, h4, h1], fun t => ?_⟩
        simp only [stepW, fp, h4, hy, h1]
        simp only [show ¬ (4 : Int) = 8 from by decide, show ¬ (4 : Int) = 5 from by decide, if_false, if_true, false_and, true_and, h2]
        by_cases ht : t = y.task
        · subst ht
          cases hf : fp l y.task i <;> simp
        · have ht' : ¬ y.task = t := fun e => ht e.symm
          simp [ht, ht']
      · by_cases h5 : y.kind = 5
        · refine ⟨by simp [stepW, clockStep, h5, h1], fun t => ?_⟩
          simp only [stepW, fp, h5, hy]
          simp only [show ¬ (5 : Int) = 8 from by decide, show ¬ (5 : Int) = 4 from by decide, if_false, if_true, true_and, false_and, h2]
          by_cases ht : t = y.task
          · subst ht; simp
          · have ht' : ¬ y.task = t := fun e => ht e.symm
            simp [ht, ht']
        · refine ⟨by simp [stepW, clockStep, h8, h4, h5, h1], fun t => ?_⟩
          simp only [stepW, fp, hy, h8, h4, h5, if_false, false_and, h2]
          simp

/-- What a step of the reference adds. -/
theorem out_step (kind : Int) (l : List Ev) {i : Nat} (h : i < l.length) : (runW kind (l.take (i + 1))).out = (runW kind (l.take i)).out ++
    (if (l.getD i default).kind = 5 ∧ (kind = 0 ∨ (l.getD i default).a = kind) then match fp l (l.getD i default).task i with
      | some j => [subF (clockOf l i) (clockOf l j)]
      | none => [] else []) := by
  obtain ⟨h1, h2⟩ := run_fp kind l i (by omega)
  rw [runW_step kind h]
  generalize l.getD i default = y
  generalize runW kind (l.take i) = s at h1 h2
  unfold stepW
  split
  · rename_i h8; simp [h8]
  · split
    · rename_i h4; simp [h4]
    · split
      · rename_i h5
        simp only [h5, true_and, h2, h1]
        cases fp l y.task i with
        | none => simp
        | some j => simp only [Option.map_some]; split <;> simp
      · rename_i h5; simp [h5]

theorem clockOf_wf {l : List Ev} (hl : ∀ x ∈ l, wfi x.n) (k : Nat) : wfi (clockOf l k) := by
  have : ∀ (m : List Ev) (n : Int), (∀ x ∈ m, wfi x.n) → wfi n → wfi (m.foldl clockStep n) := by
    intro m
    induction m with
    | nil => intro n _ h; exact h
    | cons x m ih =>
      intro n hm h
      refine ih _ (fun y hy => hm y (List.mem_cons_of_mem _ hy)) ?_
      unfold clockStep
      split
      · exact hm x (List.mem_cons_self ..)
      · exact h
  exact this _ 0 (fun x hx => hl x (List.mem_of_mem_take hx)) wfi0

end Go.Proofs.Ytkphnmpildkdaaa
