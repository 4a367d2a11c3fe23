/- Contracts of the sums, the least, the greatest: the folds of stat, and the loops of the reference's Mean. -/
import Derived.Test.YtkphnmpildkdaaaKind
namespace Go.Proofs.Ytkphnmpildkdaaa
open Go.RowKit Go.Maps

attribute [local go_sem high] cmp_eql cmp_neq cmp_lss cmp_gtr

/-- float cells -/
abbrev flts (xs : List Nat) : List Value := xs.map (Value.float .f64)
theorem flts_at {xs : List Nat} {k : Nat} (h : k < xs.length) : (flts xs)[k]? = some (.float .f64 (xs.getD k 0)) := by
  simp [List.getElem?_map, List.getElem?_eq_getElem h, List.getD]
theorem flts_one (l : List Nat) : ∀ u ∈ flts l, u.oneCell' = true := by
  intro u hu
  obtain ⟨r, _, rfl⟩ := List.mem_map.1 hu
  rfl

/-- What an operation on floats may answer. -/
def Res (o : Option Nat) (r : Nat) : Prop := o = some r ∨ (o = none ∧ isNaN r = true)

theorem nan_cut {q : Question} (t : Nat) (hq : (∃ x y, q = .nanBits .f64 x y) ∨ (∃ b x y, q = .nanMinMax .f64 b x y)) : w64 (q.cut t) ∧ isNaN (q.cut t) = true := by
  have h : q.cut t = (t % 2) * 2 ^ 63 + 0x7ff0000000000000 + 1 + (t / 2) % (2 ^ 52 - 1) := by
    rcases hq with ⟨x, y, rfl⟩ | ⟨b, x, y, rfl⟩ <;> rfl
  have h1 : (t / 2) % (2 ^ 52 - 1) < 4503599627370495 := Nat.mod_lt _ (by decide)
  have h2 : t % 2 < 2 := Nat.mod_lt _ (by decide)
  rw [h]
  generalize (t / 2) % (2 ^ 52 - 1) = u at h1
  generalize t % 2 = v at h2
  unfold isNaN mg w64
  simp only [decide_eq_true_eq, show (2 : Nat) ^ 63 = 9223372036854775808 from rfl]
  have : v = 0 ∨ v = 1 := by omega
  rcases this with rfl | rfl <;> omega

section
variable {P : Program} (w : World)
theorem run_add (t : TypeId) (x y : Nat) (h : ∀ r, Ieee.double.add x y = some r → w64 r) : ∃ r w', (binOp .add t (.float .f64 x) (.float .f64 y)).run P w = .ok (.float .f64 r) w' ∧ Res (Ieee.double.add x y) r ∧ w64 r ∧ Turn nowhere w w' := by
  cases ho : Ieee.double.add x y with
  | some r => exact ⟨r, w, run_float_arith w .add t .f64 x y r ho, .inl rfl, h r ho, Turn.refl _ _⟩
  | none =>
    have hn := nan_cut (q := .nanBits .f64 x y) (w.tape w.drawn (.nanBits .f64 x y)) (.inl ⟨_, _, rfl⟩)
    refine ⟨_, w.drew, ?_, .inr ⟨rfl, hn.2⟩, hn.1, (Turn.refl _ _).drew⟩
    have ho' : FloatKind.f64.format.add x y = none := ho
    simp [binOp, Op.floatArith, ho', Question.forced]
theorem run_quo (t : TypeId) (x y : Nat) : ∃ r w', (binOp .quo t (.float .f64 x) (.float .f64 y)).run P w = .ok (.float .f64 r) w' ∧ Res (Ieee.double.div x y) r ∧ w64 r ∧ Turn nowhere w w' := by
  cases ho : Ieee.double.div x y with
  | some r => exact ⟨r, w, run_float_arith w .quo t .f64 x y r ho, .inl rfl, Ieee.Format.div_lt _ ho, Turn.refl _ _⟩
  | none =>
    have hn := nan_cut (q := .nanBits .f64 x y) (w.tape w.drawn (.nanBits .f64 x y)) (.inl ⟨_, _, rfl⟩)
    refine ⟨_, w.drew, ?_, .inr ⟨rfl, hn.2⟩, hn.1, (Turn.refl _ _).drew⟩
    have ho' : FloatKind.f64.format.div x y = none := ho
    simp [binOp, Op.floatArith, ho', Question.forced]
end

/-- The place on the line, the negative zero ahead of the other. -/
def key2 (x : Nat) : Int := if isNeg x then -(mg x : Int) - 1 else mg x
theorem key2_inj {x y : Nat} (hx : w64 x) (hy : w64 y) (h : key2 x = key2 y) : x = y := by
  unfold key2 isNeg mg w64 at *
  simp only [decide_eq_true_eq] at h
  split at h <;> split at h <;> omega
def minF (x y : Nat) : Nat := if key2 x ≤ key2 y then x else y
def maxF (x y : Nat) : Nat := if key2 y ≤ key2 x then x else y
def MinR (x y r : Nat) : Prop := if isNaN x || isNaN y then isNaN r = true else r = minF x y
def MaxR (x y r : Nat) : Prop := if isNaN x || isNaN y then isNaN r = true else r = maxF x y
def AddR (x y r : Nat) : Prop := Res (Ieee.double.add x y) r

theorem key_key2 {x y : Nat} : (key x < key y → key2 x < key2 y) ∧ (key2 x ≤ key2 y → key x ≤ key y) ∧ (key x = key y → isNeg x = true → key2 x ≤ key2 y) ∧ (key x = key y → isNeg x = false → key2 y ≤ key2 x) := by
  unfold key key2
  cases isNeg x <;> cases isNeg y <;> simp <;> omega

theorem run_min (P : Program) (w : World) (ts : Array TypeId) (t : TypeId) (x y : Nat) (hx : w64 x) (hy : w64 y) : ∃ r w', (Builtin.min_ ts t #[.float .f64 x, .float .f64 y]).run P w = .ok (.float .f64 r) w' ∧ MinR x y r ∧ w64 r ∧ Turn nowhere w w' := by
  obtain ⟨h1, h2, h3, h4⟩ := @key_key2 x y
  obtain ⟨k1, _, _, _⟩ := @key_key2 y x
  cases nx : isNaN x with
  | true =>
    have ho : FloatKind.f64.format.order x y = none := order_nan hx hy (.inl nx)
    have hn := nan_cut (q := .nanMinMax .f64 false x y) (w.tape w.drawn (.nanMinMax .f64 false x y)) (.inr ⟨_, _, _, rfl⟩)
    exact ⟨_, w.drew, by simp [Builtin.min_, Builtin.min2, ho, Question.forced], by unfold MinR; rw [nx]; exact hn.2, hn.1, (Turn.refl _ _).drew⟩
  | false =>
    cases ny : isNaN y with
    | true =>
      have ho : FloatKind.f64.format.order x y = none := order_nan hx hy (.inr ny)
      have hn := nan_cut (q := .nanMinMax .f64 false x y) (w.tape w.drawn (.nanMinMax .f64 false x y)) (.inr ⟨_, _, _, rfl⟩)
      exact ⟨_, w.drew, by simp [Builtin.min_, Builtin.min2, ho, Question.forced], by unfold MinR; rw [nx, ny]; exact hn.2, hn.1, (Turn.refl _ _).drew⟩
    | false =>
      have ho : FloatKind.f64.format.order x y = some (compare (key x) (key y)) := order_key hx hy nx ny
      have hmin : MinR x y = fun r => r = minF x y := by unfold MinR; rw [nx, ny]; rfl
      rw [hmin]
      unfold minF
      rcases Int.lt_trichotomy (key x) (key y) with hlt | heq | hgt
      · rw [(cmp_lt_iff _ _).2 hlt] at ho
        rw [if_pos (Int.le_of_lt (h1 hlt))]
        exact ⟨x, w, by simp [Builtin.min_, Builtin.min2, ho], rfl, hx, Turn.refl _ _⟩
      · rw [(cmp_eq_iff _ _).2 heq] at ho
        have hneg : (FloatKind.f64.decode x).neg = isNeg x := by
          have := sees x hx
          show (Ieee.double.read x).neg = _
          generalize Ieee.double.read x = d at this
          cases this <;> rfl
        cases hb : isNeg x with
        | true =>
          rw [if_pos (h3 heq hb)]
          exact ⟨x, w, by simp [Builtin.min_, Builtin.min2, ho, hneg, hb], rfl, hx, Turn.refl _ _⟩
        | false =>
          refine ⟨y, w, by simp [Builtin.min_, Builtin.min2, ho, hneg, hb], ?_, hy, Turn.refl _ _⟩
          split
          · rename_i hle
            exact (key2_inj hx hy (by have := h4 heq hb; omega)).symm
          · rfl
      · rw [(cmp_gt_iff _ _).2 hgt] at ho
        rw [if_neg (by have := k1 hgt; omega)]
        exact ⟨y, w, by simp [Builtin.min_, Builtin.min2, ho], rfl, hy, Turn.refl _ _⟩

theorem run_max (P : Program) (w : World) (ts : Array TypeId) (t : TypeId) (x y : Nat) (hx : w64 x) (hy : w64 y) : ∃ r w', (Builtin.max_ ts t #[.float .f64 x, .float .f64 y]).run P w = .ok (.float .f64 r) w' ∧ MaxR x y r ∧ w64 r ∧ Turn nowhere w w' := by
  obtain ⟨h1, h2, h3, h4⟩ := @key_key2 x y
  obtain ⟨k1, _, _, _⟩ := @key_key2 y x
  cases nx : isNaN x with
  | true =>
    have ho : FloatKind.f64.format.order x y = none := order_nan hx hy (.inl nx)
    have hn := nan_cut (q := .nanMinMax .f64 true x y) (w.tape w.drawn (.nanMinMax .f64 true x y)) (.inr ⟨_, _, _, rfl⟩)
    exact ⟨_, w.drew, by simp [Builtin.max_, Builtin.max2, ho, Question.forced], by unfold MaxR; rw [nx]; exact hn.2, hn.1, (Turn.refl _ _).drew⟩
  | false =>
    cases ny : isNaN y with
    | true =>
      have ho : FloatKind.f64.format.order x y = none := order_nan hx hy (.inr ny)
      have hn := nan_cut (q := .nanMinMax .f64 true x y) (w.tape w.drawn (.nanMinMax .f64 true x y)) (.inr ⟨_, _, _, rfl⟩)
      exact ⟨_, w.drew, by simp [Builtin.max_, Builtin.max2, ho, Question.forced], by unfold MaxR; rw [nx, ny]; exact hn.2, hn.1, (Turn.refl _ _).drew⟩
    | false =>
      have ho : FloatKind.f64.format.order x y = some (compare (key x) (key y)) := order_key hx hy nx ny
      have hmax : MaxR x y = fun r => r = maxF x y := by unfold MaxR; rw [nx, ny]; rfl
      rw [hmax]
      unfold maxF
      rcases Int.lt_trichotomy (key x) (key y) with hlt | heq | hgt
      · rw [(cmp_lt_iff _ _).2 hlt] at ho
        rw [if_neg (by have := h1 hlt; omega)]
        exact ⟨y, w, by simp [Builtin.max_, Builtin.max2, ho], rfl, hy, Turn.refl _ _⟩
      · rw [(cmp_eq_iff _ _).2 heq] at ho
        have hneg : (FloatKind.f64.decode x).neg = isNeg x := by
          have := sees x hx
          show (Ieee.double.read x).neg = _
          generalize Ieee.double.read x = d at this
          cases this <;> rfl
        cases hb : isNeg x with
        | true =>
          refine ⟨y, w, by simp [Builtin.max_, Builtin.max2, ho, hneg, hb], ?_, hy, Turn.refl _ _⟩
          split
          · rename_i hle
            exact (key2_inj hx hy (by have := h3 heq hb; omega)).symm
          · rfl
        | false =>
          rw [if_pos (h4 heq hb)]
          exact ⟨x, w, by simp [Builtin.max_, Builtin.max2, ho, hneg, hb], rfl, hx, Turn.refl _ _⟩
      · rw [(cmp_gt_iff _ _).2 hgt] at ho
        rw [if_pos (Int.le_of_lt (k1 hgt))]
        exact ⟨x, w, by simp [Builtin.max_, Builtin.max2, ho], rfl, hx, Turn.refl _ _⟩

/-- What a call that answers a float may do. -/
def RetF (R : Nat → Prop) (w : World) (e : Ending) (w' : World) : Prop := ∃ r, e = .returned (.float .f64 r) ∧ R r ∧ w64 r ∧ Turn nowhere w w'

theorem add_calls (x y : Nat) (w : World) : Calls Try.prog 26 #[.float .f64 x, .float .f64 y] w (RetF (AddR x y) w) := by
  obtain ⟨r, w', hrun, hr, hw, ht⟩ := run_add (P := Try.prog) w 24 x y (fun r h => Ieee.Format.add_lt _ h)
  have HR := Lib.hid hr
  have HT := Lib.hid ht
  clear hr ht
  go_enter Try.func26, Try.ntmps26
  go_wp2
  go_ret
  exact ⟨r, rfl, HR.out, hw, HT.out⟩
theorem min_calls (x y : Nat) (w : World) (hx : w64 x) (hy : w64 y) : Calls Try.prog 28 #[.float .f64 x, .float .f64 y] w (RetF (MinR x y) w) := by
  obtain ⟨r, w', hrun, hr, hw, ht⟩ := run_min Try.prog w #[24, 24] 24 x y hx hy
  have HR := Lib.hid hr
  have HT := Lib.hid ht
  clear hr ht
  go_enter Try.func28, Try.ntmps28
  go_wp2
  go_ret
  exact ⟨r, rfl, HR.out, hw, HT.out⟩
theorem max_calls (x y : Nat) (w : World) (hx : w64 x) (hy : w64 y) : Calls Try.prog 30 #[.float .f64 x, .float .f64 y] w (RetF (MaxR x y) w) := by
  obtain ⟨r, w', hrun, hr, hw, ht⟩ := run_max Try.prog w #[24, 24] 24 x y hx hy
  have HR := Lib.hid hr
  have HT := Lib.hid ht
  clear hr ht
  go_enter Try.func30, Try.ntmps30
  go_wp2
  go_ret
  exact ⟨r, rfl, HR.out, hw, HT.out⟩

/-- A fold from the left. -/
def FoldR (R : Nat → Nat → Nat → Prop) : Nat → List Nat → Nat → Prop
  | a, [], b => a = b
  | a, x :: xs, b => ∃ c, R a x c ∧ FoldR R c xs b
theorem FoldR.snoc {R : Nat → Nat → Nat → Prop} {x c : Nat} : ∀ {xs : List Nat} {a b : Nat}, FoldR R a xs b → R b x c → FoldR R a (xs ++ [x]) c
  | [], _, _, h, hr => ⟨c, by rw [show _ = _ from h]; exact hr, rfl⟩
  | _ :: _, _, _, ⟨d, h1, h2⟩, hr => ⟨d, h1, FoldR.snoc h2 hr⟩
theorem FoldR.step {R : Nat → Nat → Nat → Prop} {xs : List Nat} {a b c k : Nat} (h : FoldR R a (xs.take k) b) (hk : k < xs.length) (hr : R b (xs.getD k 0) c) : FoldR R a (xs.take (k + 1)) c := by
  rw [List.take_succ_eq_append_getElem hk]
  refine h.snoc ?_
  simpa [List.getD, List.getElem?_eq_getElem hk] using hr

theorem inf_at (w : World) : Calls Try.prog 27 #[.int .i64 1] w fun e w' => e = .returned (.float .f64 9218868437227405312) ∧ w = w' := by
  have h := run34 9218868437227405312
  go_enter Try.func27, Try.ntmps27
  go_wp2
  go_ret
  simp
theorem ninf_at (w : World) : Calls Try.prog 27 #[.int .i64 (-1)] w fun e w' => e = .returned (.float .f64 18442240474082181120) ∧ w = w' := by
  have h := run34 18442240474082181120
  go_enter Try.func27, Try.ntmps27
  go_wp2
  go_ret
  simp

set_option maxHeartbeats 400000 in
theorem fold26 (A : Option Addr) (n c : Nat) (xs : List Nat) (a : Nat) (w : World) (ha : w64 a) (hx : Reads w 1 A n (flts xs)) (hw : ∀ k, k < n → w64 (xs.getD k 0)) (hn : n ≤ 1000000) :
    Calls Try.prog 25 #[.slice A n c, .float .f64 a, .func (.func 26) #[] #[]] w (RetF (FoldR AddR a xs) w) := by
  have hl : xs.length = n := by simpa using hx.1
  rcases Nat.eq_zero_or_pos n with h0 | h0
  · subst h0
    obtain rfl := List.eq_nil_of_length_eq_zero hl
    clear hx hl
    go_enter Try.func25, Try.ntmps25
    go_wp2
    refine wp_loop_rounds 1 ?_
    rw [rounds_succ]
    go_wp2
    go_ret
    exact ⟨a, rfl, rfl, ha, Turn.refl _ _⟩
  · obtain ⟨b, off, rfl, hc⟩ := hx.2 h0
    have HC := Lib.hid hc
    have HW := Lib.hid hw
    have HL := Lib.hid hl
    have HA := Lib.hid ha
    clear hx hc hw hl ha h0
    go_enter Try.func25, Try.ntmps25
    go_wp2
    go_loopw [1, 11] (fun s i wr => ∃ k q : Nat, k ≤ n ∧ i = .int .i64 k ∧ s = .float .f64 q ∧ w64 q ∧ Hid (FoldR AddR a (xs.take k) q) ∧ Hid (Turn nowhere w wr)) (fun _ i _ => n - (intOf i).toNat)
    case atStart => exact ⟨0, a, Nat.zero_le _, rfl, rfl, HA.out, (show FoldR AddR a [] a from rfl), Turn.refl _ _⟩
    case round =>
      obtain ⟨k, q, hk, rfl, rfl, hq, HF, HT⟩ := hrel
      have h0 : (0 : Int) ≤ (k : Int) := by omega
      by_cases hlt : k < n
      case pos =>
        have h1 : (k : Int) < (n : Int) := by omega
        have hcx := HT.out.cell (HC.out k _ (flts_at (by rw [HL.out]; exact hlt))) (fun h => h)
        have hwx := HW.out k hlt
        have HS := Lib.hid (fun c => FoldR.step (R := AddR) (c := c) HF.out (by rw [HL.out]; exact hlt))
        generalize xs.getD k 0 = y at hcx hwx HS
        go_wp2_with fail
        refine (add_calls q y _).mono ?_
        rintro e w2 ⟨r, rfl, hr, hr64, ht⟩
        have HF2 := Lib.hid (HS.out r hr)
        have HT2 := Lib.hid (HT.out.trans ht (fun _ _ h => h))
        clear hr ht HS HF HT
        go_wp2
        go_roundw
        case rel => exact ⟨k + 1, r, by omega, by go_num, rfl, hr64, HF2, HT2⟩
        case measure => simp [intOf]; omega
      case neg =>
        obtain rfl : k = n := by omega
        have htk : xs.take k = xs := by rw [← HL.out]; exact List.take_length
        rw [htk] at HF
        go_wp2
        go_ret
        exact ⟨q, rfl, HF.out, hq, HT.out⟩

set_option maxHeartbeats 400000 in
theorem fold28 (A : Option Addr) (n c : Nat) (xs : List Nat) (a : Nat) (w : World) (ha : w64 a) (hx : Reads w 1 A n (flts xs)) (hw : ∀ k, k < n → w64 (xs.getD k 0)) (hn : n ≤ 1000000) :
    Calls Try.prog 25 #[.slice A n c, .float .f64 a, .func (.func 28) #[] #[]] w (RetF (FoldR MinR a xs) w) := by
  have hl : xs.length = n := by simpa using hx.1
  rcases Nat.eq_zero_or_pos n with h0 | h0
  · subst h0
    obtain rfl := List.eq_nil_of_length_eq_zero hl
    clear hx hl
    go_enter Try.func25, Try.ntmps25
    go_wp2
    refine wp_loop_rounds 1 ?_
    rw [rounds_succ]
    go_wp2
    go_ret
    exact ⟨a, rfl, rfl, ha, Turn.refl _ _⟩
  · obtain ⟨b, off, rfl, hc⟩ := hx.2 h0
    have HC := Lib.hid hc
    have HW := Lib.hid hw
    have HL := Lib.hid hl
    have HA := Lib.hid ha
    clear hx hc hw hl ha h0
    go_enter Try.func25, Try.ntmps25
    go_wp2
    go_loopw [1, 11] (fun s i wr => ∃ k q : Nat, k ≤ n ∧ i = .int .i64 k ∧ s = .float .f64 q ∧ w64 q ∧ Hid (FoldR MinR a (xs.take k) q) ∧ Hid (Turn nowhere w wr)) (fun _ i _ => n - (intOf i).toNat)
    case atStart => exact ⟨0, a, Nat.zero_le _, rfl, rfl, HA.out, (show FoldR MinR a [] a from rfl), Turn.refl _ _⟩
    case round =>
      obtain ⟨k, q, hk, rfl, rfl, hq, HF, HT⟩ := hrel
      have h0 : (0 : Int) ≤ (k : Int) := by omega
      by_cases hlt : k < n
      case pos =>
        have h1 : (k : Int) < (n : Int) := by omega
        have hcx := HT.out.cell (HC.out k _ (flts_at (by rw [HL.out]; exact hlt))) (fun h => h)
        have hwx := HW.out k hlt
        have HS := Lib.hid (fun c => FoldR.step (R := MinR) (c := c) HF.out (by rw [HL.out]; exact hlt))
        generalize xs.getD k 0 = y at hcx hwx HS
        go_wp2_with fail
        refine (min_calls q y _ hq hwx).mono ?_
        rintro e w2 ⟨r, rfl, hr, hr64, ht⟩
        have HF2 := Lib.hid (HS.out r hr)
        have HT2 := Lib.hid (HT.out.trans ht (fun _ _ h => h))
        clear hr ht HS HF HT
        go_wp2
        go_roundw
        case rel => exact ⟨k + 1, r, by omega, by go_num, rfl, hr64, HF2, HT2⟩
        case measure => simp [intOf]; omega
      case neg =>
        obtain rfl : k = n := by omega
        have htk : xs.take k = xs := by rw [← HL.out]; exact List.take_length
        rw [htk] at HF
        go_wp2
        go_ret
        exact ⟨q, rfl, HF.out, hq, HT.out⟩

set_option maxHeartbeats 400000 in
theorem fold30 (A : Option Addr) (n c : Nat) (xs : List Nat) (a : Nat) (w : World) (ha : w64 a) (hx : Reads w 1 A n (flts xs)) (hw : ∀ k, k < n → w64 (xs.getD k 0)) (hn : n ≤ 1000000) :
    Calls Try.prog 25 #[.slice A n c, .float .f64 a, .func (.func 30) #[] #[]] w (RetF (FoldR MaxR a xs) w) := by
  have hl : xs.length = n := by simpa using hx.1
  rcases Nat.eq_zero_or_pos n with h0 | h0
  · subst h0
    obtain rfl := List.eq_nil_of_length_eq_zero hl
    clear hx hl
    go_enter Try.func25, Try.ntmps25
    go_wp2
    refine wp_loop_rounds 1 ?_
    rw [rounds_succ]
    go_wp2
    go_ret
    exact ⟨a, rfl, rfl, ha, Turn.refl _ _⟩
  · obtain ⟨b, off, rfl, hc⟩ := hx.2 h0
    have HC := Lib.hid hc
    have HW := Lib.hid hw
    have HL := Lib.hid hl
    have HA := Lib.hid ha
    clear hx hc hw hl ha h0
    go_enter Try.func25, Try.ntmps25
    go_wp2
    go_loopw [1, 11] (fun s i wr => ∃ k q : Nat, k ≤ n ∧ i = .int .i64 k ∧ s = .float .f64 q ∧ w64 q ∧ Hid (FoldR MaxR a (xs.take k) q) ∧ Hid (Turn nowhere w wr)) (fun _ i _ => n - (intOf i).toNat)
    case atStart => exact ⟨0, a, Nat.zero_le _, rfl, rfl, HA.out, (show FoldR MaxR a [] a from rfl), Turn.refl _ _⟩
    case round =>
      obtain ⟨k, q, hk, rfl, rfl, hq, HF, HT⟩ := hrel
      have h0 : (0 : Int) ≤ (k : Int) := by omega
      by_cases hlt : k < n
      case pos =>
        have h1 : (k : Int) < (n : Int) := by omega
        have hcx := HT.out.cell (HC.out k _ (flts_at (by rw [HL.out]; exact hlt))) (fun h => h)
        have hwx := HW.out k hlt
        have HS := Lib.hid (fun c => FoldR.step (R := MaxR) (c := c) HF.out (by rw [HL.out]; exact hlt))
        generalize xs.getD k 0 = y at hcx hwx HS
        go_wp2_with fail
        refine (max_calls q y _ hq hwx).mono ?_
        rintro e w2 ⟨r, rfl, hr, hr64, ht⟩
        have HF2 := Lib.hid (HS.out r hr)
        have HT2 := Lib.hid (HT.out.trans ht (fun _ _ h => h))
        clear hr ht HS HF HT
        go_wp2
        go_roundw
        case rel => exact ⟨k + 1, r, by omega, by go_num, rfl, hr64, HF2, HT2⟩
        case measure => simp [intOf]; omega
      case neg =>
        obtain rfl : k = n := by omega
        have htk : xs.take k = xs := by rw [← HL.out]; exact List.take_length
        rw [htk] at HF
        go_wp2
        go_ret
        exact ⟨q, rfl, HF.out, hq, HT.out⟩

end Go.Proofs.Ytkphnmpildkdaaa
