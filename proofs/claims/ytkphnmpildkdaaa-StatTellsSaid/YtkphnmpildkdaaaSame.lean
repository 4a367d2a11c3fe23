/- The contract of SameAll, where the lists are the same; events as they lie in memory. -/
import Derived.Test.YtkphnmpildkdaaaEnds
import Derived.Deep.QuietTactic
import Derived.BigQuiet
import Derived.WalkSpells
namespace Go.Proofs.Ytkphnmpildkdaaa
open Go.RowKit Go.Maps

theorem sameF_self {x : Nat} (hx : w64 x) : sameF x x = true := by
  unfold sameF; rw [fEq_self hx]; cases isNaN x <;> simp
theorem sameF_nan {x y : Nat} (nx : isNaN x = true) (ny : isNaN y = true) : sameF x y = true := by
  simp [sameF, kindOf, nx, ny]

set_option maxHeartbeats 400000 in
theorem sameAll_calls (A B : Option Addr) (n ca cb : Nat) (xs ys : List Nat) (w : World) (hx : Reads w 1 A n (flts xs)) (hy : Reads w 1 B n (flts ys)) (hn : n ≤ 1000000)
    (hwx : ∀ k, k < n → w64 (xs.getD k 0)) (hwy : ∀ k, k < n → w64 (ys.getD k 0)) (hs : ∀ k, k < n → sameF (xs.getD k 0) (ys.getD k 0) = true) :
    Calls Try.prog 8 #[.slice A n ca, .slice B n cb] w fun e w' => e = .returned (.bool true) ∧ Turn nowhere w w' := by
  have hxl : xs.length = n := by simpa using hx.1
  have hyl : ys.length = n := by simpa using hy.1
  rcases Nat.eq_zero_or_pos n with h0 | h0
  · subst h0
    clear hx hy hxl hyl
    go_enter Try.func8, Try.ntmps8
    go_wp2
    refine wp_loop_rounds 1 ?_
    rw [rounds_succ]
    go_wp2
    go_ret
    exact ⟨rfl, Turn.refl _ _⟩
  · obtain ⟨b, off, rfl, hc⟩ := hx.2 h0
    obtain ⟨d, of2, rfl, hd⟩ := hy.2 h0
    have HC := Lib.hid hc
    have HD := Lib.hid hd
    have HXL := Lib.hid hxl
    have HYL := Lib.hid hyl
    have HWX := Lib.hid hwx
    have HWY := Lib.hid hwy
    have HS := Lib.hid hs
    clear hx hy hc hd hxl hyl h0 hwx hwy hs
    go_enter Try.func8, Try.ntmps8
    go_wp2
    go_loopw [5] (fun i wr => ∃ k : Nat, k ≤ n ∧ i = .int .i64 k ∧ Hid (Turn nowhere w wr)) (fun i _ => n - (intOf i).toNat)
    case atStart => exact ⟨0, Nat.zero_le _, rfl, Turn.refl _ _⟩
    case round =>
      obtain ⟨k, hk, rfl, HT⟩ := hrel
      by_cases hlt : k < n
      · have h0 : (0 : Int) ≤ (k : Int) := by omega
        have h1 : (k : Int) < (n : Int) := by omega
        have hcx := HT.out.cell (HC.out k _ (flts_at (by rw [HXL.out]; exact hlt))) (fun h => h)
        have hcy := HT.out.cell (HD.out k _ (flts_at (by rw [HYL.out]; exact hlt))) (fun h => h)
        have hw1 := HWX.out k hlt
        have hw2 := HWY.out k hlt
        have hsm := HS.out k hlt
        generalize xs.getD k 0 = p at hcx hw1 hsm
        generalize ys.getD k 0 = q at hcy hw2 hsm
        have HSM := Lib.hid hsm
        clear hsm
        go_wp2_with fail
        go_quiet ((go_at_call 12; exact Calls.quiet_of_same ((same_calls p q _ hw1 hw2).mono (fun e w' h => ⟨by rw [h.1, HSM.out], h.2.symm⟩))))
        go_wp2
        go_roundw
        case rel => exact ⟨k + 1, by omega, by go_num, HT.out.drewN _⟩
        case measure => simp [intOf]; omega
      · obtain rfl : k = n := by omega
        go_wp2
        go_ret
        exact ⟨rfl, HT.out⟩

/-- An event. -/
structure Ev where
  kind : Int
  task : Int
  a : Int
  n : Int
deriving Inhabited
def Ev.cells (x : Ev) : List Value := [.int .i64 x.kind, .int .i64 x.task, .int .i64 x.a, .int .i64 x.n]
def evs (l : List Ev) : List Value := l.flatMap Ev.cells
theorem evs_len (l : List Ev) : (evs l).length = l.length * 4 := by
  induction l with
  | nil => rfl
  | cons r l ih => simp [evs, Ev.cells] at ih ⊢; omega
theorem evs_one (l : List Ev) : ∀ u ∈ evs l, u.oneCell' = true := by
  intro u hu
  obtain ⟨r, _, h⟩ := List.mem_flatMap.1 hu
  simp [Ev.cells] at h
  rcases h with rfl | rfl | rfl | rfl <;> rfl
theorem evs_snoc (l : List Ev) (r : Ev) : evs (l ++ [r]) = evs l ++ r.cells := by simp [evs]
theorem evs_append (l m : List Ev) : evs (l ++ m) = evs l ++ evs m := by simp [evs]
def EvAt (w : World) (b o k : Nat) (x : Ev) : Prop :=
  w.cell? ⟨b, o + k * 4, none⟩ = some (.int .i64 x.kind) ∧ w.cell? ⟨b, o + k * 4 + 1, none⟩ = some (.int .i64 x.task) ∧ w.cell? ⟨b, o + k * 4 + 2, none⟩ = some (.int .i64 x.a) ∧ w.cell? ⟨b, o + k * 4 + 3, none⟩ = some (.int .i64 x.n)
theorem evs_at : ∀ (l : List Ev) (k : Nat), k < l.length → (evs l)[k * 4]? = some (.int .i64 (l.getD k default).kind) ∧ (evs l)[k * 4 + 1]? = some (.int .i64 (l.getD k default).task) ∧ (evs l)[k * 4 + 2]? = some (.int .i64 (l.getD k default).a) ∧ (evs l)[k * 4 + 3]? = some (.int .i64 (l.getD k default).n)
  | r :: l, 0, _ => by simp [evs, Ev.cells]
  | r :: l, k + 1, h => by
    have ih := evs_at l k (by simpa using h)
    have e : ∀ j, (evs (r :: l))[(k + 1) * 4 + j]? = (evs l)[k * 4 + j]? := fun j => by
      show (r.cells ++ evs l)[(k + 1) * 4 + j]? = _
      rw [List.getElem?_append_right (by simp [Ev.cells]; omega)]
      congr 1
      simp [Ev.cells]; omega
    have e0 := e 0
    simp only [Nat.add_zero] at e0
    rw [e0, e 1, e 2, e 3]
    simpa using ih
theorem Reads.ev {w : World} {A : Option Addr} {n : Nat} {l : List Ev} (h : Reads w 4 A n (evs l)) (hn : 0 < n) : ∃ b off, A = some ⟨b, off, none⟩ ∧ ∀ k, k < n → EvAt w b off k (l.getD k default) := by
  have hl : l.length = n := by have := h.1; rw [evs_len] at this; omega
  obtain ⟨b, off, rfl, hc⟩ := h.2 hn
  refine ⟨b, off, rfl, fun k hk => ?_⟩
  obtain ⟨h0, h1, h2, h3⟩ := evs_at l k (by omega)
  exact ⟨hc _ _ h0, hc _ _ h1, hc _ _ h2, hc _ _ h3⟩
theorem EvAt.turn {w w' : World} {F : Nat → Prop} {b o k : Nat} {x : Ev} (h : EvAt w b o k x) (ht : Turn F w w') (hf : ¬ F b) : EvAt w' b o k x :=
  ⟨ht.cell h.1 hf, ht.cell h.2.1 hf, ht.cell h.2.2.1 hf, ht.cell h.2.2.2 hf⟩

/-- A difference of two whole numbers as floats. -/
def subF (a b : Int) : Nat := (Ieee.double.sub (floatOfInt .f64 a) (floatOfInt .f64 b)).getD 0

abbrev wfi (i : Int) : Prop := (Lit.int .i64 i).wf = true
theorem wfi_bounds {i : Int} (h : wfi i) : -9223372036854775808 ≤ i ∧ i ≤ 9223372036854775807 := by
  simp [wfi, Lit.wf, IntKind.min, IntKind.max, IntKind.signed, IntKind.bits] at h; omega

theorem fl_finite {i : Int} (h : wfi i) : mg (floatOfInt .f64 i) < 9218868437227405312 ∧ w64 (floatOfInt .f64 i) := by
  obtain ⟨h1, h2⟩ := wfi_bounds h
  have e : floatOfInt .f64 i = Ieee.double.nearest (i < 0) i.natAbs 0 := rfl
  rw [e]
  by_cases h0 : i.natAbs = 0
  · rw [h0]
    have : Ieee.double.nearest (decide (i < 0)) 0 0 = Ieee.double.word (decide (i < 0)) 0 := by simp [Ieee.Format.nearest]
    rw [this]
    obtain ⟨p1, p2, _, _⟩ := word_parts (decide (i < 0)) 0 (by omega)
    exact ⟨by omega, p1⟩
  · obtain ⟨q, hq, hq1, _, hq3⟩ := nearest_spec (decide (i < 0)) i.natAbs 0 h0
    rw [hq]
    obtain ⟨p1, p2, _, _⟩ := word_parts (decide (i < 0)) q hq1
    obtain ⟨D, hD⟩ : ∃ D : Nat, D = 1074 := ⟨_, rfl⟩
    have : q ≤ (12 + D) * 4503599627370496 + 4503599627370496 := by
      refine hq3 _ 0 D (by omega) ?_
      rw [amag_at (12 + D) 4503599627370496 (by omega) (.inr (by omega)), Nat.pow_zero, Nat.mul_one, Nat.pow_add, ← Nat.mul_assoc]
      exact Nat.mul_le_mul_right _ (by omega)
    exact ⟨by rw [p2]; omega, p1⟩

theorem sub_some {a b : Int} (ha : wfi a) (hb : wfi b) : Ieee.double.sub (floatOfInt .f64 a) (floatOfInt .f64 b) = some (subF a b) := by
  obtain ⟨fa, wa⟩ := fl_finite ha
  obtain ⟨fb, wb⟩ := fl_finite hb
  have sa := sees _ wa
  have sb := sees _ wb
  unfold subF
  unfold Ieee.Format.sub
  generalize Ieee.double.read (floatOfInt .f64 a) = da at sa
  generalize Ieee.double.read (floatOfInt .f64 b) = db at sb
  cases sa with
  | nan t h => omega
  | inf h => omega
  | num m e h1 h2 =>
    cases sb with
    | nan t h => omega
    | inf h => omega
    | num m2 e2 h3 h4 => rfl
theorem subF_w64 {a b : Int} (ha : wfi a) (hb : wfi b) : w64 (subF a b) := Ieee.Format.sub_lt _ (sub_some ha hb)

end Go.Proofs.Ytkphnmpildkdaaa
