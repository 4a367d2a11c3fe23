/- What Fire does, in plain lists; what may be done to the list in memory by it. -/
import Derived.Test.YthloikmmkkamoaaStopYes
namespace Go.Proofs.Ythloikmmkkamoaa
open Go.RowKit Go.Maps

/-- All these are begun. -/
def setAll (rows : List Reg) (l : List Int) : List Reg := l.foldl (fun r i => setSt r i.toNat 2) rows

theorem setAll_snoc (rows : List Reg) (l : List Int) (x : Int) : setAll rows (l ++ [x]) = setSt (setAll rows l) x.toNat 2 := by simp [setAll]

theorem setAll_len (rows : List Reg) (l : List Int) : (setAll rows l).length = rows.length := by
  unfold setAll
  induction l generalizing rows with
  | nil => rfl
  | cons x l ih => rw [List.foldl_cons, ih, setSt_len]

theorem setAll_getD : ∀ (l : List Nat) (rows : List Reg) (j : Nat), j < rows.length → (setAll rows (l.map fun i : Nat => (i : Int))).getD j default = if j ∈ l then { rows.getD j default with state := 2 } else rows.getD j default
  | [], rows, j, _ => by simp [setAll]
  | x :: l, rows, j, hj => by
    have e : setAll rows ((x :: l).map fun i : Nat => (i : Int)) = setAll (setSt rows x 2) (l.map fun i : Nat => (i : Int)) := by
      simp [setAll]
    rw [e, setAll_getD l _ j (by rw [setSt_len]; exact hj), setSt_getD _ _ _ _ hj]
    by_cases h1 : j = x
    · subst h1
      by_cases h2 : j ∈ l <;> simp [h2]
    · by_cases h2 : j ∈ l <;> simp [h1, h2]

theorem setAll_on (rows : List Reg) (l : List Nat) (j : Nat) (hj : j < rows.length) : ((setAll rows (l.map fun i : Nat => (i : Int))).getD j default).on = (rows.getD j default).on := by
  rw [setAll_getD _ _ _ hj]
  split <;> rfl

/-- The waiting ones' places. -/
def places (rows : List Reg) (on : Int) : List Nat := (List.range rows.length).filter fun i => (rows.getD i default).on == on && (rows.getD i default).state == 1
theorem waiting_places (rows : List Reg) (on : Int) : waiting rows on = (places rows on).map fun i : Nat => (i : Int) := rfl
theorem mem_places {rows : List Reg} {on : Int} {j : Nat} : j ∈ places rows on ↔ j < rows.length ∧ (rows.getD j default).on = on ∧ (rows.getD j default).state = 1 := by
  unfold places
  rw [List.mem_filter]
  simp

theorem waiting_setAll (rows : List Reg) (x i : Int) : waiting (setAll rows (waiting rows x)) i = if i = x then [] else waiting rows i := by
  have e : ∀ j ∈ List.range rows.length, (((setAll rows (waiting rows x)).getD j default).on == i && ((setAll rows (waiting rows x)).getD j default).state == 1) = ((rows.getD j default).on == i && (rows.getD j default).state == 1 && !decide (i = x)) := by
    intro j hj
    have hj : j < rows.length := by simpa using hj
    rw [waiting_places, setAll_on _ _ _ hj, setAll_getD _ _ _ hj]
    by_cases hm : j ∈ places rows x
    · rw [if_pos hm]
      obtain ⟨_, h1, h2⟩ := mem_places.1 hm
      rw [h1, h2]
      by_cases hi : i = x
      · subst hi; simp
      · have : (x == i) = false := beq_eq_false_iff_ne.2 (Ne.symm hi)
        simp [this]
    · rw [if_neg hm]
      by_cases hi : i = x
      · subst hi
        have : ¬ ((rows.getD j default).on = i ∧ (rows.getD j default).state = 1) := fun h => hm (mem_places.2 ⟨hj, h.1, h.2⟩)
        rw [Bool.eq_iff_iff]
        simp only [Bool.and_eq_true, beq_iff_eq, decide_true, Bool.not_true, Bool.false_eq_true, and_false, iff_false]
        exact this
      · simp [hi]
  unfold waiting
  have hl := setAll_len rows (waiting rows x)
  unfold waiting at hl e
  rw [hl]
  by_cases hi : i = x
  · rw [if_pos hi]
    rw [List.map_eq_nil_iff, List.filter_eq_nil_iff]
    intro j hj
    rw [e j hj]
    simp [hi]
  · rw [if_neg hi]
    congr 1
    apply List.filter_congr
    intro j hj
    rw [e j hj]
    simp [hi]

/-- What Fire does: the registrations, and what is begun. -/
def fireTo (rows : List Reg) (ons : List Int) : List Reg × List Int := ons.foldl (fun s x => (setAll s.1 (waiting s.1 x), s.2 ++ waiting s.1 x)) (rows, [])

theorem fireTo_snoc (rows : List Reg) (ons : List Int) (x : Int) : fireTo rows (ons ++ [x]) = (setAll (fireTo rows ons).1 (waiting (fireTo rows ons).1 x), (fireTo rows ons).2 ++ waiting (fireTo rows ons).1 x) := by
  simp [fireTo]

theorem fireTo_len (rows : List Reg) (ons : List Int) : (fireTo rows ons).1.length = rows.length := by
  have h : ∀ (l : List Int) (s : List Reg × List Int), (l.foldl (fun s x => (setAll s.1 (waiting s.1 x), s.2 ++ waiting s.1 x)) s).1.length = s.1.length := by
    intro l
    induction l with
    | nil => intro s; rfl
    | cons x l ih => intro s; rw [List.foldl_cons, ih]; exact setAll_len _ _
  exact h ons (rows, [])

theorem fireTo_out (rows : List Reg) (ons : List Int) : (fireTo rows ons).2.length ≤ rows.length * ons.length := by
  have h : ∀ (l : List Int) (s : List Reg × List Int), s.1.length = rows.length → (l.foldl (fun s x => (setAll s.1 (waiting s.1 x), s.2 ++ waiting s.1 x)) s).2.length ≤ s.2.length + rows.length * l.length := by
    intro l
    induction l with
    | nil => intro s _; simp
    | cons x l ih =>
      intro s hs
      rw [List.foldl_cons]
      have h1 := ih (setAll s.1 (waiting s.1 x), s.2 ++ waiting s.1 x) (by rw [setAll_len]; exact hs)
      have h2 := waiting_len s.1 x
      simp only [List.length_append, List.length_cons, Nat.mul_add] at h1 ⊢
      omega
  have := h ons (rows, []) rfl
  simpa [fireTo] using this

section
variable {w w2 : World} {F : Nat → Prop} {lb mb n m : Nat} {rv : Value} {V V' : Int → Option Value} {rows : List Reg} {wt : Int → List Int} {most on : Int}

/-- The entry at 'on' has been struck. -/
theorem AL.drop (h : AL w F lb mb rv V rows wt most n) (hon : wfi on) (hV : ∀ i, i ≠ on → V' i = V i) (hVon : V' on = none) (m2 : MapIs Try.prog 3 w2 mb m V') (t2 : Turn (fun k => mb = k) w w2) :
    AL w2 F lb mb rv V' rows (fun i => if i = on then [] else wt i) most m ∧ Turn F w w2 := by
  obtain ⟨hp, ht⟩ := h.put (w2 := w2) (V' := V') (xs' := []) hon (Turn.refl _ w) (World.ownsRow_nil _ _ _ _) (by intro q hq; simp [Value.ownBlock] at hq) hV (by simp [at_, hVon]) m2 t2
  refine ⟨⟨hp.blk, hp.rws, hp.mp, hp.each, hp.apart, hp.wfo, fun k hk => Nat.lt_of_lt_of_le (h.fb k hk) ht.size, h.fl, h.fm, h.fr, fun i hi g hg => ?_⟩, ht⟩
  by_cases e : i = on
  · subst e
    simp [at_, hVon, Value.ownBlock] at hg
  · have : at_ V' i = at_ V i := by unfold at_; rw [hV i e]
    rw [this] at hg
    exact h.fe i hi g hg

/-- Registration k is begun: its state is written in the row. -/
theorem AL.begin_ {g c k len : Nat} (h : AL w F lb mb (.slice (some ⟨g, 0, none⟩) len c) V rows wt most n) (hlen : rows.length = len) (hk : k < rows.length) :
    AL (w.setCell ⟨g, k * 3 + 2, none⟩ (.int .i64 2)) F lb mb (.slice (some ⟨g, 0, none⟩) len c) V (setSt rows k 2) wt most n ∧ Turn F w (w.setCell ⟨g, k * 3 + 2, none⟩ (.int .i64 2)) := by
  subst hlen
  obtain ⟨o2, g2⟩ := h.rws.stored (k * 3 + 2) (.int .i64 2)
  rw [regs_set rows k 2 hk] at o2
  exact h.rowset (rows' := setSt rows k 2) (Turn.of_grown g2 (fun j hj _ => by simpa [Value.ownBlock] using hj)) (by rw [setSt_len]; exact o2)
    (fun j hj => by rw [setSt_len] at hj; rw [setSt_on _ _ _ _ hj]; exact h.wfo j hj)
end


end Go.Proofs.Ythloikmmkkamoaa
