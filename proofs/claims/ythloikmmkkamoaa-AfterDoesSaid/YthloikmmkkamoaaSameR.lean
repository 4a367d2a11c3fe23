/- Registrations as cells; the contract of Same on lists of registrations. -/
import Derived.Test.YthloikmmkkamoaaSame
namespace Go.Proofs.Ythloikmmkkamoaa
open Go.RowKit Go.Maps

/-- a registration -/
structure Reg where
  on : Int
  thing : Int
  state : Int
deriving DecidableEq, Inhabited

def Reg.cells (r : Reg) : List Value := [.int .i64 r.on, .int .i64 r.thing, .int .i64 r.state]
def regs (l : List Reg) : List Value := l.flatMap Reg.cells

theorem regs_len (l : List Reg) : (regs l).length = l.length * 3 := by
  induction l with
  | nil => rfl
  | cons r l ih => simp [regs, Reg.cells] at ih ⊢; omega

theorem regs_at : ∀ (l : List Reg) (k : Nat), k < l.length → (regs l)[k * 3]? = some (.int .i64 (l.getD k default).on) ∧ (regs l)[k * 3 + 1]? = some (.int .i64 (l.getD k default).thing) ∧ (regs l)[k * 3 + 2]? = some (.int .i64 (l.getD k default).state)
  | r :: l, 0, _ => by simp [regs, Reg.cells]
  | r :: l, k + 1, h => by
    have ih := regs_at l k (by simpa using h)
    have e : ∀ j, (regs (r :: l))[(k + 1) * 3 + j]? = (regs l)[k * 3 + j]? := fun j => by
      show (r.cells ++ regs l)[(k + 1) * 3 + j]? = _
      rw [List.getElem?_append_right (by simp [Reg.cells]; omega)]
      congr 1
      simp [Reg.cells]; omega
    have e0 := e 0
    simp only [Nat.add_zero] at e0
    rw [e0, e 1, e 2]
    simpa using ih

/-- The three cells of registration k lie from o + k * 3 on. -/
def RegAt (w : World) (b o k : Nat) (r : Reg) : Prop :=
  w.cell? ⟨b, o + k * 3, none⟩ = some (.int .i64 r.on) ∧ w.cell? ⟨b, o + k * 3 + 1, none⟩ = some (.int .i64 r.thing) ∧ w.cell? ⟨b, o + k * 3 + 2, none⟩ = some (.int .i64 r.state)

theorem take_eq_stepR {xs ys : List Reg} {k : Nat} (hx : k < xs.length) (hy : k < ys.length) (h : xs.take k = ys.take k) (he : xs.getD k default = ys.getD k default) : xs.take (k + 1) = ys.take (k + 1) := by
  rw [List.take_succ_eq_append_getElem hx, List.take_succ_eq_append_getElem hy, h]
  simp only [List.getD, List.getElem?_eq_getElem hx, List.getElem?_eq_getElem hy, Option.getD_some] at he
  rw [he]

set_option maxHeartbeats 400000 in
theorem sameR_core (b off c oc n ca cb : Nat) (xs ys : List Reg) (w : World) (hn : n ≤ 1000000) (hxl : xs.length = n) (hyl : ys.length = n)
    (hx : ∀ k, k < n → RegAt w b off k (xs.getD k default)) (hy : ∀ k, k < n → RegAt w c oc k (ys.getD k default)) :
    Calls Try.prog 15 #[.slice (some ⟨b, off, none⟩) n ca, .slice (some ⟨c, oc, none⟩) n cb] w fun e w' => e = .returned (.bool (decide (xs = ys))) ∧ ∃ j, w' = w.drewN j := by
  have HX := Lib.hid hx
  have HY := Lib.hid hy
  have HXL := Lib.hid hxl
  have HYL := Lib.hid hyl
  clear hx hy hxl hyl
  go_enter Try.func15, Try.ntmps15
  go_wp2
  go_loopw [5] (fun i wr => ∃ k j : Nat, k ≤ n ∧ i = .int .i64 k ∧ Hid (xs.take k = ys.take k) ∧ wr = w.drewN j) (fun i _ => n - (intOf i).toNat)
  case atStart => exact ⟨0, 0, Nat.zero_le _, rfl, rfl, rfl⟩
  case round =>
    obtain ⟨k, j, hk, rfl, ht, rfl⟩ := hrel
    by_cases hlt : k < n
    · have h0 : (0 : Int) ≤ (k : Int) := by omega
      have h1 : (k : Int) < (n : Int) := by omega
      have hcx := HX.out k hlt
      have hcy := HY.out k hlt
      by_cases he : xs.getD k default = ys.getD k default
      · have HT := Lib.hid (take_eq_stepR (by rw [HXL.out]; exact hlt) (by rw [HYL.out]; exact hlt) ht.out he)
        rw [← he] at hcy
        clear he ht
        generalize xs.getD k default = p at hcx hcy
        obtain ⟨p0, p1, p2⟩ := p
        obtain ⟨x0, x1, x2⟩ := hcx
        obtain ⟨y0, y1, y2⟩ := hcy
        go_wp2_with fail
        go_quiet (fail)
        go_wp2
        go_roundw
        case rel => exact ⟨k + 1, _, by omega, by go_num, HT, rfl⟩
        case measure => simp [intOf]; omega
      · have HN := Lib.hid (show xs ≠ ys from fun e => he (by rw [e]))
        clear ht
        generalize xs.getD k default = p at hcx he
        generalize ys.getD k default = q at hcy he
        obtain ⟨p0, p1, p2⟩ := p
        obtain ⟨q0, q1, q2⟩ := q
        obtain ⟨x0, x1, x2⟩ := hcx
        obtain ⟨y0, y1, y2⟩ := hcy
        simp only at x0 x1 x2 y0 y1 y2
        have hd : p0 ≠ q0 ∨ (p0 = q0 ∧ p1 ≠ q1) ∨ (p0 = q0 ∧ p1 = q1 ∧ p2 ≠ q2) := by
          simp only [Reg.mk.injEq, not_and] at he
          by_cases e0 : p0 = q0
          · by_cases e1 : p1 = q1
            · exact .inr (.inr ⟨e0, e1, he e0 e1⟩)
            · exact .inr (.inl ⟨e0, e1⟩)
          · exact .inl e0
        clear he
        rcases hd with e0 | ⟨rfl, e1⟩ | ⟨rfl, rfl, e2⟩
        · have hb : (p0 == q0) = false := beq_eq_false_iff_ne.2 e0
          clear e0
          go_wp2_with fail
          go_quiet (fail)
          go_wp2
          go_ret
          exact ⟨by simp [HN.out], drewN_twice _ _ _⟩
        · have hb : (p1 == q1) = false := beq_eq_false_iff_ne.2 e1
          clear e1
          go_wp2_with fail
          go_quiet (fail)
          go_wp2
          go_ret
          exact ⟨by simp [HN.out], drewN_twice _ _ _⟩
        · have hb : (p2 == q2) = false := beq_eq_false_iff_ne.2 e2
          clear e2
          go_wp2_with fail
          go_quiet (fail)
          go_wp2
          go_ret
          exact ⟨by simp [HN.out], drewN_twice _ _ _⟩
    · have hkn : k = n := by omega
      have HE := Lib.hid (show xs = ys from by
        have h := ht.out
        rwa [List.take_of_length_le (by rw [HXL.out]; omega), List.take_of_length_le (by rw [HYL.out]; omega)] at h)
      clear ht
      subst hkn
      go_wp2
      go_ret
      exact ⟨by simp [HE.out], _, rfl⟩

theorem Reads.reg {w : World} {A : Option Addr} {n : Nat} {l : List Reg} (h : Reads w 3 A n (regs l)) (hn : 0 < n) : ∃ b off, A = some ⟨b, off, none⟩ ∧ ∀ k, k < n → RegAt w b off k (l.getD k default) := by
  have hl : l.length = n := by have := h.1; rw [regs_len] at this; omega
  obtain ⟨b, off, rfl, hc⟩ := h.2 hn
  refine ⟨b, off, rfl, fun k hk => ?_⟩
  obtain ⟨h0, h1, h2⟩ := regs_at l k (by omega)
  exact ⟨hc _ _ h0, hc _ _ h1, hc _ _ h2⟩

/-- 'Same(a, b)' of two lists of registrations. -/
theorem sameR_calls (A B : Option Addr) (n m ca cb : Nat) (xs ys : List Reg) (w : World) (hx : Reads w 3 A n (regs xs)) (hy : Reads w 3 B m (regs ys)) (hn : n ≤ 1000000) :
    Calls Try.prog 15 #[.slice A n ca, .slice B m cb] w fun e w' => e = .returned (.bool (decide (xs = ys))) ∧ ∃ j, w' = w.drewN j := by
  have hxl : xs.length = n := by have := hx.1; rw [regs_len] at this; omega
  have hyl : ys.length = m := by have := hy.1; rw [regs_len] at this; omega
  by_cases hnm : n = m
  · subst hnm
    rcases Nat.eq_zero_or_pos n with h0 | h0
    · subst h0
      obtain rfl := List.eq_nil_of_length_eq_zero hxl
      obtain rfl := List.eq_nil_of_length_eq_zero hyl
      clear hx hy hxl hyl
      go_enter Try.func15, Try.ntmps15
      go_wp2
      refine wp_loop_rounds 1 ?_
      rw [rounds_succ]
      go_wp2
      go_ret
      exact ⟨rfl, 0, rfl⟩
    · obtain ⟨b, off, rfl, hc⟩ := hx.reg h0
      obtain ⟨c, oc, rfl, hd⟩ := hy.reg h0
      exact sameR_core b off c oc n ca cb xs ys w hn hxl hyl hc hd
  · have hb : ((n : Int) != (m : Int)) = true := by rw [bne_iff_ne]; omega
    have HN := Lib.hid (show xs ≠ ys from fun e => hnm (by rw [← hxl, ← hyl, e]))
    clear hx hy hxl hyl
    go_enter Try.func15, Try.ntmps15
    go_wp2
    go_ret
    exact ⟨by simp [HN.out], 0, rfl⟩

end Go.Proofs.Ythloikmmkkamoaa
