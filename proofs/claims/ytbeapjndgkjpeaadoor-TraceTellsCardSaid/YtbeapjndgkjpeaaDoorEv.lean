/- Events as they lie in memory; what a call must find in the package's variables. -/
import Derived.Test.YtbeapjndgkjpeaaDoorRows
import Derived.Test.YtbeapjndgkjpeaaDoorWords
import Derived.Test.YtbeapjndgkjpeaaDoorLaw
import Derived.WalkLawsBesides
import Derived.Lib.LaidTab
import Derived.Lib.ItoaMem
namespace Go.Proofs.YtbeapjndgkjpeaaDoor
open Go.RowKit Go.Maps

def Ev.cells (x : Ev) : List Value := [.int .i64 x.kind, .int .i64 x.task, .int .i64 x.a, .int .i64 x.n]
def evs (l : List Ev) : List Value := l.flatMap Ev.cells
theorem evs_len (l : List Ev) : (evs l).length = l.length * 4 := by
  induction l with
  | nil => rfl
  | cons r l ih => simp [evs, Ev.cells] at ih ⊢; omega
theorem evs_one (l : List Ev) : ∀ u ∈ evs l, u.oneCell' = true := by
  intro u hu
  obtain ⟨r, _, h⟩ := List.mem_flatMap.1 hu
  simp [Ev.cells] at h
  rcases h with rfl | rfl | rfl | rfl <;> rfl
theorem evs_snoc (l : List Ev) (r : Ev) : evs (l ++ [r]) = evs l ++ r.cells := by simp [evs]
theorem evs_append (l m : List Ev) : evs (l ++ m) = evs l ++ evs m := by simp [evs]
def EvAt (w : World) (b o k : Nat) (x : Ev) : Prop :=
  w.cell? ⟨b, o + k * 4, none⟩ = some (.int .i64 x.kind) ∧ w.cell? ⟨b, o + k * 4 + 1, none⟩ = some (.int .i64 x.task) ∧ w.cell? ⟨b, o + k * 4 + 2, none⟩ = some (.int .i64 x.a) ∧ w.cell? ⟨b, o + k * 4 + 3, none⟩ = some (.int .i64 x.n)
theorem evs_at : ∀ (l : List Ev) (k : Nat), k < l.length → (evs l)[k * 4]? = some (.int .i64 (l.getD k default).kind) ∧ (evs l)[k * 4 + 1]? = some (.int .i64 (l.getD k default).task) ∧ (evs l)[k * 4 + 2]? = some (.int .i64 (l.getD k default).a) ∧ (evs l)[k * 4 + 3]? = some (.int .i64 (l.getD k default).n)
  | r :: l, 0, _ => by simp [evs, Ev.cells]
  | r :: l, k + 1, h => by
    have ih := evs_at l k (by simpa using h)
    have e : ∀ j, (evs (r :: l))[(k + 1) * 4 + j]? = (evs l)[k * 4 + j]? := fun j => by
      show (r.cells ++ evs l)[(k + 1) * 4 + j]? = _
      rw [List.getElem?_append_right (by simp [Ev.cells]; omega)]
      congr 1
      simp [Ev.cells]; omega
    have e0 := e 0
    simp only [Nat.add_zero] at e0
    rw [e0, e 1, e 2, e 3]
    simpa using ih
theorem Reads.ev {w : World} {A : Option Addr} {n : Nat} {l : List Ev} (h : Reads w 4 A n (evs l)) (hn : 0 < n) : ∃ b off, A = some ⟨b, off, none⟩ ∧ ∀ k, k < n → EvAt w b off k (l.getD k default) := by
  have hl : l.length = n := by have := h.1; rw [evs_len] at this; omega
  obtain ⟨b, off, rfl, hc⟩ := h.2 hn
  refine ⟨b, off, rfl, fun k hk => ?_⟩
  obtain ⟨h0, h1, h2, h3⟩ := evs_at l k (by omega)
  exact ⟨hc _ _ h0, hc _ _ h1, hc _ _ h2, hc _ _ h3⟩
theorem EvAt.turn {w w' : World} {F : Nat → Prop} {b o k : Nat} {x : Ev} (h : EvAt w b o k x) (ht : Turn F w w') (hf : ¬ F b) : EvAt w' b o k x :=
  ⟨ht.cell h.1 hf, ht.cell h.2.1 hf, ht.cell h.2.2.1 hf, ht.cell h.2.2.2 hf⟩


/-- A string of the model. -/
abbrev bs (l : List UInt8) : ByteArray := ⟨l.toArray⟩
abbrev str (l : List UInt8) : Value := .string (bs l)

end Go.Proofs.YtbeapjndgkjpeaaDoor
