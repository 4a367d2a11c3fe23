/- Acts as they lie in memory; the contract of large. -/
import Derived.Test.YthloikmmkkamoaaDo
namespace Go.Proofs.Ythloikmmkkamoaa
open Go.RowKit Go.Maps

/-- An act as it lies in memory: its numbers, and the slice of the numbers that are done. -/
structure ActC where
  dO : Int
  a : Int
  b : Int
  A : Option Addr
  m : Nat
  c : Nat
  on : List Int
deriving Inhabited

def ActC.act (x : ActC) : Act1 := ⟨x.dO, x.a, x.b, x.on⟩
def ActC.cells (x : ActC) : List Value := [.int .i64 x.dO, .int .i64 x.a, .int .i64 x.b, .slice x.A x.m x.c]
def acts (l : List ActC) : List Value := l.flatMap ActC.cells

theorem acts_len (l : List ActC) : (acts l).length = l.length * 4 := by
  induction l with
  | nil => rfl
  | cons r l ih => simp [acts, ActC.cells] at ih ⊢; omega

/-- The four cells of act k lie from o + k * 4 on. -/
def ActAt (w : World) (b o k : Nat) (x : ActC) : Prop :=
  w.cell? ⟨b, o + k * 4, none⟩ = some (.int .i64 x.dO) ∧ w.cell? ⟨b, o + k * 4 + 1, none⟩ = some (.int .i64 x.a) ∧ w.cell? ⟨b, o + k * 4 + 2, none⟩ = some (.int .i64 x.b) ∧ w.cell? ⟨b, o + k * 4 + 3, none⟩ = some (.slice x.A x.m x.c)

theorem acts_at : ∀ (l : List ActC) (k : Nat), k < l.length → (acts l)[k * 4]? = some (.int .i64 (l.getD k default).dO) ∧ (acts l)[k * 4 + 1]? = some (.int .i64 (l.getD k default).a) ∧ (acts l)[k * 4 + 2]? = some (.int .i64 (l.getD k default).b) ∧ (acts l)[k * 4 + 3]? = some (.slice (l.getD k default).A (l.getD k default).m (l.getD k default).c)
  | r :: l, 0, _ => by simp [acts, ActC.cells]
  | r :: l, k + 1, h => by
    have ih := acts_at l k (by simpa using h)
    have e : ∀ j, (acts (r :: l))[(k + 1) * 4 + j]? = (acts l)[k * 4 + j]? := fun j => by
      show (r.cells ++ acts l)[(k + 1) * 4 + j]? = _
      rw [List.getElem?_append_right (by simp [ActC.cells]; omega)]
      congr 1
      simp [ActC.cells]; omega
    have e0 := e 0
    simp only [Nat.add_zero] at e0
    rw [e0, e 1, e 2, e 3]
    simpa using ih

theorem Reads.act {w : World} {A : Option Addr} {n : Nat} {l : List ActC} (h : Reads w 4 A n (acts l)) (hn : 0 < n) : ∃ b off, A = some ⟨b, off, none⟩ ∧ ∀ k, k < n → ActAt w b off k (l.getD k default) := by
  have hl : l.length = n := by have := h.1; rw [acts_len] at this; omega
  obtain ⟨b, off, rfl, hc⟩ := h.2 hn
  refine ⟨b, off, rfl, fun k hk => ?_⟩
  obtain ⟨h0, h1, h2, h3⟩ := acts_at l k (by omega)
  exact ⟨hc _ _ h0, hc _ _ h1, hc _ _ h2, hc _ _ h3⟩

theorem ActAt.turn {w w' : World} {F : Nat → Prop} {b o k : Nat} {x : ActC} (h : ActAt w b o k x) (ht : Turn F w w') (hf : ¬ F b) : ActAt w' b o k x :=
  ⟨ht.cell h.1 hf, ht.cell h.2.1 hf, ht.cell h.2.2.1 hf, ht.cell h.2.2.2 hf⟩

/-- Are acts more than are looked at? -/
def largeB (l : List ActC) : Bool := decide (60 < l.length) || l.any fun x => decide (60 < x.m)

def LargeDone (w : World) (l : List ActC) (e : Ending) (w' : World) : Prop := e = .returned (.bool (largeB l)) ∧ Turn nowhere w w'

set_option maxHeartbeats 800000 in
theorem large_core (b off n c : Nat) (l : List ActC) (w : World) (hn : n ≤ 60) (hl : l.length = n) (hx : ∀ k, k < n → ActAt w b off k (l.getD k default)) (hm : ∀ k, k < n → (l.getD k default).m ≤ 9223372036854775807) :
    Calls Try.prog 7 #[.slice (some ⟨b, off, none⟩) n c] w (LargeDone w l) := by
  have HX := Lib.hid hx
  have HL := Lib.hid hl
  have HM := Lib.hid hm
  clear hx hl hm
  have hgt : ¬ (60 : Int) < (n : Int) := by omega
  go_enter Try.func7, Try.ntmps7
  go_wp2
  go_loopw [10] (fun i wr => ∃ k : Nat, k ≤ n ∧ i = .int .i64 k ∧ Hid ((l.take k).any (fun x => decide (60 < x.m)) = false) ∧ Hid (Turn nowhere w wr)) (fun i _ => n - (intOf i).toNat)
  case atStart => exact ⟨0, Nat.zero_le _, rfl, rfl, Turn.refl _ _⟩
  case round =>
    obtain ⟨k, hk, rfl, HA, HT⟩ := hrel
    have h0 : (0 : Int) ≤ (k : Int) := by omega
    by_cases hlt : k < n
    · have h1 : (k : Int) < (n : Int) := by omega
      have ha := (HX.out k hlt).turn HT.out (fun h => h)
      have hm := HM.out k hlt
      have htk : l.take (k + 1) = l.take k ++ [l.getD k default] := by
        rw [List.take_succ_eq_append_getElem (by rw [HL.out]; exact hlt)]
        simp only [List.getD, List.getElem?_eq_getElem (show k < l.length by rw [HL.out]; exact hlt), Option.getD_some]
      have HTK := Lib.hid htk
      clear htk
      have hmem : l.getD k default ∈ l := by
        simp only [List.getD, List.getElem?_eq_getElem (show k < l.length by rw [HL.out]; exact hlt), Option.getD_some]
        exact List.getElem_mem _
      have HMEM := Lib.hid hmem
      clear hmem
      generalize l.getD k default = y at ha hm HTK HMEM
      obtain ⟨y0, y1, y2, yA, ym, yc, yo⟩ := y
      obtain ⟨a0, a1, a2, a3⟩ := ha
      simp only at a0 a1 a2 a3 hm
      by_cases hb : ym ≤ 60
      · have hg : ¬ (60 : Int) < (ym : Int) := by omega
        go_wp2
        go_roundw
        case rel => exact ⟨k + 1, by omega, by go_num, show (l.take (k + 1)).any (fun x => decide (60 < x.m)) = false from by rw [HTK.out, List.any_append, HA.out]; simp [hb], HT.out.alloc _⟩
        case measure => simp [intOf]; omega
      · have hg : (60 : Int) < (ym : Int) := by omega
        go_wp2
        go_ret
        refine ⟨?_, HT.out.alloc _⟩
        have : largeB l = true := by
          unfold largeB
          rw [Bool.or_eq_true]
          right
          exact List.any_eq_true.2 ⟨_, HMEM.out, by simp; omega⟩
        rw [this]; rfl
    · obtain rfl : k = n := by omega
      go_wp2
      go_ret
      refine ⟨?_, HT.out⟩
      have hf : largeB l = false := by
        unfold largeB
        have h1 : l.take k = l := by rw [← HL.out]; exact List.take_length
        have h2 := HA.out
        rw [h1] at h2
        rw [h2, HL.out]
        simp; omega
      rw [hf]; rfl

set_option maxHeartbeats 400000 in
/-- 'large'. -/
theorem large_calls (A : Option Addr) (n c : Nat) (l : List ActC) (w : World) (hx : Reads w 4 A n (acts l)) (hn : n ≤ 9223372036854775807) (hm : ∀ k, k < n → (l.getD k default).m ≤ 9223372036854775807) :
    Calls Try.prog 7 #[.slice A n c] w (LargeDone w l) := by
  have hl : l.length = n := by have := hx.1; rw [acts_len] at this; omega
  by_cases h60 : n ≤ 60
  · rcases Nat.eq_zero_or_pos n with h0 | h0
    · subst h0
      obtain rfl := List.eq_nil_of_length_eq_zero hl
      clear hx hl hm
      go_enter Try.func7, Try.ntmps7
      go_wp2
      refine wp_loop_rounds 1 ?_
      rw [rounds_succ]
      go_wp2
      go_ret
      exact ⟨rfl, Turn.refl _ _⟩
    · obtain ⟨b, off, rfl, hc⟩ := hx.act h0
      exact large_core b off n c l w h60 hl hc hm
  · have hg : (60 : Int) < (n : Int) := by omega
    have HL := Lib.hid (show largeB l = true by unfold largeB; rw [hl]; simp; omega)
    clear hx hl hm
    go_enter Try.func7, Try.ntmps7
    go_wp2
    go_ret
    exact ⟨by rw [HL.out]; rfl, Turn.refl _ _⟩

end Go.Proofs.Ythloikmmkkamoaa
