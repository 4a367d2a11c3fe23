/- What Stop does to the registrations, in plain lists; the contract of Stop at none that waits. -/
import Derived.Test.YthloikmmkkamoaaRead
import Derived.Deep.RegionHeld3
import Derived.Deep.RegionLaw
import Derived.Deep.DrawnRows
namespace Go.Proofs.Ythloikmmkkamoaa
open Go.RowKit Go.Maps

/-- Registration k, in another state. -/
def setSt (rows : List Reg) (k : Nat) (s : Int) : List Reg := rows.set k { rows.getD k default with state := s }

theorem setSt_len (rows : List Reg) (k : Nat) (s : Int) : (setSt rows k s).length = rows.length := by simp [setSt]

theorem setSt_getD (rows : List Reg) (k : Nat) (s : Int) (j : Nat) (hj : j < rows.length) : (setSt rows k s).getD j default = if j = k then { rows.getD k default with state := s } else rows.getD j default := by
  unfold setSt
  simp only [List.getD]
  by_cases e : j = k
  · subst e
    simp [hj]
  · rw [List.getElem?_set_ne (fun h => e h.symm)]
    simp [e]

theorem setSt_on (rows : List Reg) (k : Nat) (s : Int) (j : Nat) (hj : j < rows.length) : ((setSt rows k s).getD j default).on = (rows.getD j default).on := by
  rw [setSt_getD _ _ _ _ hj]
  split
  · rename_i e; subst e; rfl
  · rfl

theorem but_map (k : Nat) (l : List Nat) : but (k : Int) (l.map fun i : Nat => (i : Int)) = (l.filter fun i => !(i == k)).map fun i : Nat => (i : Int) := by
  unfold but
  rw [List.filter_map]
  congr 1
  apply List.filter_congr
  intro i _
  simp only [Function.comp]
  congr 1
  rw [Bool.eq_iff_iff]
  simp
  omega

/-- Who waits, when one no longer does. -/
theorem waiting_setSt (rows : List Reg) (k : Nat) (s : Int) (hk : k < rows.length) (hs : s ≠ 1) (i : Int) :
    waiting (setSt rows k s) i = if i = (rows.getD k default).on then but (k : Int) (waiting rows i) else waiting rows i := by
  have e : ∀ j ∈ List.range rows.length, (((setSt rows k s).getD j default).on == i && ((setSt rows k s).getD j default).state == 1) = ((rows.getD j default).on == i && (rows.getD j default).state == 1 && !(j == k)) := by
    intro j hj
    have hj : j < rows.length := by simpa using hj
    rw [setSt_on _ _ _ _ hj, setSt_getD _ _ _ _ hj]
    by_cases e : j = k
    · subst e
      simp [hs]
    · have : (j == k) = false := beq_eq_false_iff_ne.2 e
      simp [e]
  unfold waiting
  rw [setSt_len]
  by_cases hi : i = (rows.getD k default).on
  · rw [if_pos hi, but_map, List.filter_filter]
    congr 1
    apply List.filter_congr
    intro j hj
    rw [e j hj, Bool.and_comm]
  · rw [if_neg hi]
    congr 1
    apply List.filter_congr
    intro j hj
    rw [e j hj]
    by_cases ej : j = k
    · subst ej
      have : ((rows.getD j default).on == i) = false := beq_eq_false_iff_ne.2 (Ne.symm hi)
      rw [this]
      rfl
    · have : (j == k) = false := beq_eq_false_iff_ne.2 ej
      simp [this]

theorem mem_waiting {rows : List Reg} {k : Nat} (hk : k < rows.length) (hs : (rows.getD k default).state = 1) : (k : Int) ∈ waiting rows (rows.getD k default).on := by
  unfold waiting
  rw [List.mem_map]
  refine ⟨k, ?_, rfl⟩
  rw [List.mem_filter]
  refine ⟨by simpa using hk, ?_⟩
  rw [hs]
  simp

theorem first_of {l : List Int} {x : Int} (h : x ∈ l) : ∃ p, p < l.length ∧ l.getD p 0 = x ∧ ∀ k, k < p → l.getD k 0 ≠ x := by
  induction l with
  | nil => cases h
  | cons y l ih =>
    by_cases e : y = x
    · exact ⟨0, by simp, by simpa using e, fun k hk => absurd hk (by omega)⟩
    · have h' : x ∈ l := by
        rcases List.mem_cons.1 h with h | h
        · exact absurd h.symm e
        · exact h
      obtain ⟨p, hp, hx, hf⟩ := ih h'
      refine ⟨p + 1, by simp; omega, by simpa using hx, fun k hk => ?_⟩
      cases k with
      | zero => simpa using e
      | succ k => simpa using hf k (by omega)

theorem regs_set (rows : List Reg) (k : Nat) (s : Int) (hk : k < rows.length) : (regs rows).set (k * 3 + 2) (.int .i64 s) = regs (setSt rows k s) := by
  unfold setSt
  induction rows generalizing k with
  | nil => simp at hk
  | cons r l ih =>
    cases k with
    | zero => simp [regs, Reg.cells]
    | succ k =>
      have h := ih k (by simpa using hk)
      show (r.cells ++ regs l).set ((k + 1) * 3 + 2) (.int .i64 s) = _
      rw [List.set_append_right _ _ (by simp [Reg.cells]; omega)]
      have e : (k + 1) * 3 + 2 - r.cells.length = k * 3 + 2 := by simp [Reg.cells]; omega
      rw [e, h]
      simp [regs]

set_option maxHeartbeats 800000 in
/-- 'Stop' of none that waits. -/
theorem stop_no {w : World} {F : Nat → Prop} {lb n : Nat} {rows : List Reg} {most x : Int} (h : AList w F lb rows most n) (hlen : rows.length ≤ 200) (hx : x < 0 ∨ (rows.length : Int) ≤ x ∨ ∃ k : Nat, x = k ∧ k < rows.length ∧ (rows.getD k default).state ≠ 1) :
    Calls Try.prog 20 #[.pointer (some ⟨lb, 0, none⟩), .int .i64 x] w fun e w' => e = .returned (.bool false) ∧ Turn nowhere w w' := by
  obtain ⟨mb, rv, V, h⟩ := h
  obtain ⟨A, c, rfl, _, _⟩ := own_form h.rws
  have c0 := h.c0
  have hlb := h.lt
  have HR := Lib.hid h.rws
  clear h
  obtain ⟨len, hk⟩ : ∃ k, k = rows.length := ⟨_, rfl⟩
  rcases hx with hx | hx | ⟨k, rfl, hkl, hst⟩
  · clear HR
    rw [← hk] at c0 hlen
    clear hk
    go_enter Try.func20, Try.ntmps20
    go_wp2_with fail
    go_quiet (fail)
    go_wp2
    go_ret
    exact ⟨rfl, ((Turn.refl _ _).alloc _).drewN _⟩
  · clear HR
    rw [← hk] at c0 hlen hx
    clear hk
    have h0 : ¬ x < 0 := by omega
    have hd : decide (x < 0) = false := by simpa using h0
    have he : decide ((len : Int) ≤ x) = true := by simpa using hx
    go_enter Try.func20, Try.ntmps20
    go_wp2_with fail
    go_quiet (fail)
    go_wp2
    go_ret
    exact ⟨rfl, ((Turn.refl _ _).alloc _).drewN _⟩
  · obtain ⟨g, cap, hv, _, hg⟩ := HR.out.form (by omega)
    obtain ⟨rfl, rfl⟩ : A = some ⟨g, 0, none⟩ ∧ c = cap := by simpa using hv
    obtain ⟨_, _, r2⟩ := regs_at rows k hkl
    have c5 := HR.out.cellAt (k * 3 + 2) (by omega)
    rw [r2] at c5
    clear HR hv r2
    generalize (rows.getD k default).state = st at c5 hst
    have hb : (st != 1) = true := by rw [bne_iff_ne]; exact hst
    rw [← hk] at c0 hlen hkl
    clear hk hst
    have h0 : ¬ (k : Int) < 0 := by omega
    have hd : decide ((k : Int) < 0) = false := by simp
    have h1 : (0 : Int) ≤ (k : Int) := by omega
    have h2 : (k : Int) < (len : Int) := by omega
    have he : decide ((len : Int) ≤ (k : Int)) = false := by simpa using h2
    go_enter Try.func20, Try.ntmps20
    go_wp2_with fail
    go_quiet (fail)
    go_wp2
    go_ret
    exact ⟨rfl, ((Turn.refl _ _).alloc _).drewN _⟩


end Go.Proofs.Ythloikmmkkamoaa
