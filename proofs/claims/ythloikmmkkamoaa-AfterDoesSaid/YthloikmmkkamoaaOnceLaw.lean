/- AfterOnce's own law, in plain lists: what is begun, is begun once, and was not stopped; all that are due are begun. -/
import Derived.Test.YthloikmmkkamoaaStops
import Derived.Deep.OwnRows
namespace Go.Proofs.Ythloikmmkkamoaa
open Go.RowKit Go.Maps

theorem setAll_append (rows : List Reg) (a b : List Int) : setAll rows (a ++ b) = setAll (setAll rows a) b := by simp [setAll]

theorem places_nodup (rows : List Reg) (x : Int) : (places rows x).Nodup := List.nodup_range.filter _

/-- What was begun. -/
structure Once (rows : List Reg) (out : List Int) (rows' : List Reg) : Prop where
  all : rows' = setAll rows out
  one : ∀ j, j < out.length → ∃ q : Nat, out.getD j 0 = q ∧ q < rows.length ∧ ((setAll rows (out.take j)).getD q default).state = 1

theorem Once.none_ (rows : List Reg) : Once rows [] rows := ⟨rfl, fun j hj => by simp at hj⟩

theorem Once.step {rows rows' : List Reg} {out : List Int} (h : Once rows out rows') (x : Int) : Once rows (out ++ waiting rows' x) (setAll rows' (waiting rows' x)) := by
  refine ⟨by rw [setAll_append, h.all], fun j hj => ?_⟩
  by_cases hjo : j < out.length
  · obtain ⟨q, h1, h2, h3⟩ := h.one j hjo
    refine ⟨q, ?_, h2, ?_⟩
    · simpa [List.getD, List.getElem?_append_left hjo] using h1
    · rw [List.take_append_of_le_length (by omega)]
      exact h3
  · obtain ⟨i, rfl⟩ : ∃ i, j = out.length + i := ⟨j - out.length, by omega⟩
    have hi : i < (waiting rows' x).length := by simp at hj; omega
    have hl : rows'.length = rows.length := by rw [h.all, setAll_len]
    rw [List.take_length_add_append, setAll_append, ← h.all]
    rw [waiting_places] at hi ⊢
    have hi' : i < (places rows' x).length := by simpa using hi
    obtain ⟨h1, h2, h3⟩ := mem_places.1 (List.getElem_mem hi')
    refine ⟨(places rows' x)[i], ?_, by omega, ?_⟩
    · simp [List.getD, hi']
    · rw [← List.map_take, setAll_getD _ _ _ h1, if_neg ?_]
      · exact h3
      · intro hm
        obtain ⟨k, hk, he⟩ := List.getElem_of_mem hm
        rw [List.getElem_take] at he
        have hk' : k < i := by simp at hk; omega
        exact absurd he (List.pairwise_iff_getElem.1 (places_nodup rows' x) k i (by omega) hi' hk')

theorem fire_once (rows : List Reg) (ons : List Int) : Once rows (fireTo rows ons).2 (fireTo rows ons).1 := by
  have key : ∀ (l : List Int) (s : List Reg × List Int), Once rows s.2 s.1 →
      Once rows (l.foldl (fun s x => (setAll s.1 (waiting s.1 x), s.2 ++ waiting s.1 x)) s).2 (l.foldl (fun s x => (setAll s.1 (waiting s.1 x), s.2 ++ waiting s.1 x)) s).1 := by
    intro l
    induction l with
    | nil => intro s h; exact h
    | cons x l ih =>
      intro s h
      rw [List.foldl_cons]
      exact ih _ (h.step x)
  exact key ons (rows, []) (Once.none_ rows)

/-- None is left that waits for what is done. -/
theorem fire_all (rows : List Reg) (ons : List Int) (q : Nat) (hq : q < rows.length) (d : Int) (hd : d ∈ ons) (hon : ((fireTo rows ons).1.getD q default).on = d) : ((fireTo rows ons).1.getD q default).state ≠ 1 := by
  have len : ∀ (r : List Reg) (x : Int), (setAll r (waiting r x)).length = r.length := fun r x => setAll_len _ _
  have key1 : ∀ (l : List Int) (s : List Reg × List Int), q < s.1.length → (s.1.getD q default).state ≠ 1 →
      ((l.foldl (fun s x => (setAll s.1 (waiting s.1 x), s.2 ++ waiting s.1 x)) s).1.getD q default).state ≠ 1 := by
    intro l
    induction l with
    | nil => intro s _ h; exact h
    | cons x l ih =>
      intro s hs h
      rw [List.foldl_cons]
      exact ih _ (by rw [len]; exact hs) (setAll_state _ _ _ hs h)
  have keyo : ∀ (l : List Int) (s : List Reg × List Int), q < s.1.length →
      ((l.foldl (fun s x => (setAll s.1 (waiting s.1 x), s.2 ++ waiting s.1 x)) s).1.getD q default).on = (s.1.getD q default).on := by
    intro l
    induction l with
    | nil => intro s _; rfl
    | cons x l ih =>
      intro s hs
      rw [List.foldl_cons, ih _ (by rw [len]; exact hs)]
      show ((setAll s.1 (waiting s.1 x)).getD q default).on = _
      rw [waiting_places, setAll_on _ _ _ hs]
  have key2 : ∀ (l : List Int) (s : List Reg × List Int), q < s.1.length → d ∈ l → (s.1.getD q default).on = d →
      ((l.foldl (fun s x => (setAll s.1 (waiting s.1 x), s.2 ++ waiting s.1 x)) s).1.getD q default).state ≠ 1 := by
    intro l
    induction l with
    | nil => intro s _ h; cases h
    | cons x l ih =>
      intro s hs hm ho
      rw [List.foldl_cons]
      rcases List.mem_cons.1 hm with rfl | hm
      · refine key1 l _ (by rw [len]; exact hs) ?_
        show ((setAll s.1 (waiting s.1 d)).getD q default).state ≠ 1
        rw [waiting_places, setAll_getD _ _ _ hs]
        split
        · simp
        · rename_i hno
          intro h1
          exact hno (mem_places.2 ⟨hs, ho, h1⟩)
      · refine ih _ (by rw [len]; exact hs) hm ?_
        show ((setAll s.1 (waiting s.1 x)).getD q default).on = d
        rw [waiting_places, setAll_on _ _ _ hs, ho]
  refine key2 ons (rows, []) hq hd ?_
  rw [← hon]
  exact (keyo ons (rows, []) hq).symm

/-- Each waits, is begun or is stopped. -/
def Sound (rows : List Reg) : Prop := ∀ q, q < rows.length → (rows.getD q default).state = 1 ∨ (rows.getD q default).state = 2 ∨ (rows.getD q default).state = 3

theorem Sound.set {rows : List Reg} (h : Sound rows) (k : Nat) (s : Int) (hs : s = 1 ∨ s = 2 ∨ s = 3) : Sound (setSt rows k s) := by
  intro q hq
  rw [setSt_len] at hq
  rw [setSt_getD _ _ _ _ hq]
  split
  · exact hs
  · exact h q hq

theorem Sound.setAll {rows : List Reg} (h : Sound rows) (l : List Int) : Sound (setAll rows l) := by
  unfold Ythloikmmkkamoaa.setAll
  induction l generalizing rows with
  | nil => exact h
  | cons x l ih => rw [List.foldl_cons]; exact ih (h.set _ _ (.inr (.inl rfl)))

theorem Sound.doTo {rows : List Reg} (h : Sound rows) (most : Int) (x : Act1) : Sound (doTo most rows x).1 := by
  unfold Ythloikmmkkamoaa.doTo
  split
  · unfold addTo
    split
    · exact h
    · intro q hq
      simp at hq
      by_cases hql : q < rows.length
      · have := h q hql
        simpa [List.getD, List.getElem?_append_left hql] using this
      · obtain rfl : q = rows.length := by omega
        simp [List.getD]
  · split
    · unfold stopTo
      split
      · exact h.set _ _ (.inr (.inr rfl))
      · exact h
    · split
      · show Sound (fireTo rows x.on).1
        rw [(fire_once rows x.on).all]
        exact h.setAll _
      · exact h

theorem run_sound (most : Int) (l : List Act1) : Sound (run most l) := by
  have key : ∀ (l : List Act1) (r : List Reg), Sound r → Sound (l.foldl (fun r x => (doTo most r x).1) r) := by
    intro l
    induction l with
    | nil => intro r h; exact h
    | cons x l ih => intro r h; rw [List.foldl_cons]; exact ih _ (h.doTo most x)
  exact key l [] (fun q hq => by simp at hq)

/-! ### The law's three arrays -/
def f5 (rows : List Reg) (i : Nat) : Value := .int .i64 (if (rows.getD i default).state = 2 then 1 else 0)
def f6 (rows : List Reg) (i : Nat) : Value := .bool ((rows.getD i default).state == 3)
def f7 (rows : List Reg) (i : Nat) : Value := .int .i64 (rows.getD i default).on

structure Arrs (w : World) (b : Nat) (rows : List Reg) : Prop where
  begun : w.rowIs b 51 40 (f5 rows)
  stopped : w.rowIs (b + 1) 52 40 (f6 rows)
  on : w.rowIs (b + 2) 51 40 (f7 rows)

theorem rowIs_turn {F : Nat → Prop} {w w' : World} {b n : Nat} {t : TypeId} {f : Nat → Value} (h : w.rowIs b t n f) (ht : Turn F w w') (hF : ¬ F b) : w'.rowIs b t n f := h.of_block (ht.block b h.lt hF)
theorem Arrs.turn {F : Nat → Prop} {w w' : World} {b : Nat} {rows : List Reg} (h : Arrs w b rows) (ht : Turn F w w') (h0 : ¬ F b) (h1 : ¬ F (b + 1)) (h2 : ¬ F (b + 2)) : Arrs w' b rows :=
  ⟨rowIs_turn h.begun ht h0, rowIs_turn h.stopped ht h1, rowIs_turn h.on ht h2⟩

theorem setSt_getD' (rows : List Reg) (k : Nat) (s : Int) (hk : k < rows.length) (j : Nat) : (setSt rows k s).getD j default = if j = k then { rows.getD k default with state := s } else rows.getD j default := by
  by_cases hj : j < rows.length
  · exact setSt_getD _ _ _ _ hj
  · have e : ∀ r : List Reg, r.length = rows.length → r.getD j default = default := fun r hr => by simp [List.getD, List.getElem?_eq_none (show r.length ≤ j by omega)]
    rw [e _ (setSt_len _ _ _), e _ rfl, if_neg (by omega)]

theorem snoc_getD (rows : List Reg) (r : Reg) (j : Nat) : (rows ++ [r]).getD j default = if j = rows.length then r else rows.getD j default := by
  by_cases hj : j < rows.length
  · simp [List.getD, List.getElem?_append_left hj]; omega
  · by_cases e : j = rows.length
    · subst e; simp [List.getD]
    · simp [List.getD, List.getElem?_eq_none (show (rows ++ [r]).length ≤ j by simp; omega), List.getElem?_eq_none (show rows.length ≤ j by omega), e]

theorem Arrs.added {w : World} {b : Nat} {rows : List Reg} (h : Arrs w b rows) (a c : Int) : Arrs (w.setCell ⟨b + 2, rows.length, none⟩ (.int .i64 a)) b (rows ++ [⟨a, c, 1⟩]) := by
  have hd : (rows.getD rows.length default) = default := by simp [List.getD]
  refine ⟨((h.begun.setOther (by simp) _).congr fun i _ => ?_), ((h.stopped.setOther (by simp) _).congr fun i _ => ?_), ((h.on.set _ _).congr fun i _ => ?_)⟩
  · unfold f5
    rw [snoc_getD]
    by_cases e : i = rows.length
    · subst e; rw [hd]; simp; decide
    · simp [e]
  · unfold f6
    rw [snoc_getD]
    by_cases e : i = rows.length
    · subst e; rw [hd]; simp; decide
    · simp [e]
  · unfold f7
    rw [snoc_getD]
    split <;> rfl

theorem Arrs.stop {w : World} {b : Nat} {rows : List Reg} (h : Arrs w b rows) (k : Nat) (hk : k < rows.length) (hs : (rows.getD k default).state = 1) : Arrs (w.setCell ⟨b + 1, k, none⟩ (.bool true)) b (setSt rows k 3) := by
  refine ⟨((h.begun.setOther (by simp) _).congr fun i _ => ?_), ((h.stopped.set _ _).congr fun i _ => ?_), ((h.on.setOther (by simp) _).congr fun i _ => ?_)⟩
  · unfold f5
    rw [setSt_getD' _ _ _ hk]
    by_cases e : i = k
    · subst e; rw [hs]; simp
    · simp [e]
  · unfold f6
    rw [setSt_getD' _ _ _ hk]
    by_cases e : i = k
    · subst e; simp
    · simp [e]
  · unfold f7
    rw [setSt_getD' _ _ _ hk]
    split
    · rename_i e; subst e; rfl
    · rfl

theorem Arrs.begin_ {w : World} {b : Nat} {rows : List Reg} (h : Arrs w b rows) (k : Nat) (hk : k < rows.length) (hs : (rows.getD k default).state = 1) : Arrs (w.setCell ⟨b, k, none⟩ (.int .i64 1)) b (setSt rows k 2) := by
  refine ⟨((h.begun.set _ _).congr fun i _ => ?_), ((h.stopped.setOther (by simp) _).congr fun i _ => ?_), ((h.on.setOther (by simp) _).congr fun i _ => ?_)⟩
  · unfold f5
    rw [setSt_getD' _ _ _ hk]
    by_cases e : i = k
    · subst e; simp
    · simp [e]
  · unfold f6
    rw [setSt_getD' _ _ _ hk]
    by_cases e : i = k
    · subst e; rw [hs]; simp
    · simp [e]
  · unfold f7
    rw [setSt_getD' _ _ _ hk]
    split
    · rename_i e; subst e; rfl
    · rfl

end Go.Proofs.Ythloikmmkkamoaa
