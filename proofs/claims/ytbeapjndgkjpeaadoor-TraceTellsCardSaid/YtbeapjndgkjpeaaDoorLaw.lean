/- Events, their lines and texts, as lists of bytes: plain Lean. -/
import Derived.Lib.ItoaNum
import Derived.Lib.AtoiAll
import Derived.Lib.Split
namespace Go.Proofs.YtbeapjndgkjpeaaDoor

structure Ev where
  kind : Int
  task : Int
  a : Int
  n : Int
deriving Inhabited, DecidableEq

def wordB : Nat → List UInt8
  | 1 => [98, 101, 103, 97, 110]
  | 2 => [101, 110, 100, 101, 100]
  | 3 => [102, 97, 105, 108, 101, 100]
  | 4 => [112, 97, 114, 107, 101, 100]
  | 5 => [119, 111, 107, 101, 110]
  | 6 => [100, 111, 110, 101]
  | 7 => [114, 97, 110, 103]
  | 8 => [99, 108, 111, 99, 107]
  | _ => []
def wordOf (k : Int) : List UInt8 := if k < 1 ∨ 9 ≤ k then [] else wordB k.toNat
def lineOf (x : Ev) : List UInt8 := if wordOf x.kind = [] then [] else wordOf x.kind ++ [32] ++ Lib.itoa x.task ++ [32] ++ Lib.itoa x.a ++ [32] ++ Lib.itoa x.n ++ [10]
def okEv (x : Ev) : Bool := decide (1 ≤ x.kind) && decide (x.kind ≤ 8)

theorem wordB_ne {k : Nat} (h1 : 1 ≤ k) (h2 : k ≤ 8) : wordB k ≠ [] := by
  have : k = 1 ∨ k = 2 ∨ k = 3 ∨ k = 4 ∨ k = 5 ∨ k = 6 ∨ k = 7 ∨ k = 8 := by omega
  rcases this with rfl | rfl | rfl | rfl | rfl | rfl | rfl | rfl <;> simp [wordB]
theorem wordOf_nil (k : Int) : wordOf k = [] ↔ (k < 1 ∨ 9 ≤ k) := by
  unfold wordOf
  by_cases h : k < 1 ∨ 9 ≤ k
  · simp [h]
  · rw [if_neg h]
    exact ⟨fun e => absurd e (wordB_ne (by omega) (by omega)), fun e => absurd e h⟩
theorem lineOf_nil (x : Ev) : lineOf x = [] ↔ okEv x = false := by
  unfold lineOf okEv
  by_cases h : wordOf x.kind = []
  · rw [if_pos h]
    have := (wordOf_nil _).1 h
    simp; omega
  · rw [if_neg h]
    have h2 : ¬ (x.kind < 1 ∨ 9 ≤ x.kind) := fun e => h ((wordOf_nil _).2 e)
    have h3 : (decide (1 ≤ x.kind) && decide (x.kind ≤ 8)) = true := by simp; omega
    rw [h3]
    constructor
    · intro e
      have := congrArg List.length e
      simp at this
    · intro e; cases e

/-- The text of a trace; none, where an event may not be. -/
def textOf (l : List Ev) : Option (List UInt8) := if l.all okEv then some (l.flatMap lineOf) else none

theorem flatMap_snoc (l : List Ev) (x : Ev) : (l ++ [x]).flatMap lineOf = l.flatMap lineOf ++ lineOf x := by simp

/-! ### Numerals -/
theorem digits_mem {u : Nat} : ∀ b ∈ Lib.decDigits u, 48 ≤ b.toNat ∧ b.toNat ≤ 57 := by
  induction u using Nat.strongRecOn with
  | ind u ih =>
    intro b hb
    unfold Lib.decDigits at hb
    split at hb
    · rename_i h
      simp only [List.mem_singleton] at hb
      subst hb
      rw [UInt8.toNat_ofNat']
      omega
    · rename_i h
      rcases List.mem_append.1 hb with hb | hb
      · exact ih (u / 10) (by omega) b hb
      · simp only [List.mem_singleton] at hb
        subst hb
        rw [UInt8.toNat_ofNat']
        omega
theorem digits_ne (u : Nat) : Lib.decDigits u ≠ [] := by
  unfold Lib.decDigits
  split <;> simp
theorem digits_parse (u : Nat) : ∀ r, u < 18446744073709551616 → Lib.parseUint10 0 (Lib.decDigits u ++ r) = Lib.parseUint10 u r := by
  induction u using Nat.strongRecOn with
  | ind u ih =>
    intro r hu
    unfold Lib.decDigits
    split
    · rename_i h
      have e : (UInt8.ofNat (48 + u)).toNat = 48 + u := by rw [UInt8.toNat_ofNat']; omega
      simp only [List.cons_append, List.nil_append, Lib.parseUint10, e]
      rw [if_pos (by omega), if_neg (by omega), if_neg (by omega)]
      congr 1
      omega
    · rename_i h
      rw [List.append_assoc, ih (u / 10) (by omega) _ (by omega)]
      have e : (UInt8.ofNat (48 + u % 10)).toNat = 48 + u % 10 := by rw [UInt8.toNat_ofNat']; omega
      simp only [List.cons_append, List.nil_append, Lib.parseUint10, e]
      rw [if_pos (by omega), if_neg (by omega), if_neg (by omega)]
      congr 1
      omega

abbrev i64 (n : Int) : Prop := -9223372036854775808 ≤ n ∧ n ≤ 9223372036854775807

theorem atoi_itoa {n : Int} (h : i64 n) : Lib.atoiAll (Lib.itoa n) = .ok n := by
  have mag : ∀ u : Nat, u < 18446744073709551616 → Lib.parseMag (Lib.decDigits u) = .ok u := by
    intro u hu
    unfold Lib.parseMag
    rw [if_neg (digits_ne u)]
    have := digits_parse u [] hu
    rw [List.append_nil] at this
    rw [this]; rfl
  unfold Lib.itoa
  by_cases hn : n < 0
  · rw [if_pos hn]
    have h45 : (45 : UInt8).toNat = 45 := rfl
    simp only [Lib.atoiAll, h45, if_true, or_true, mag n.natAbs (by omega), not_true, false_and, if_false, true_and]
    rw [if_neg (by omega)]
    congr 1
    omega
  · rw [if_neg hn]
    obtain ⟨c, r, hc⟩ := List.exists_cons_of_ne_nil (digits_ne n.toNat)
    have hm := digits_mem (u := n.toNat) c (by rw [hc]; exact List.mem_cons_self ..)
    have hp := mag n.toNat (by omega)
    rw [hc] at hp ⊢
    simp only [Lib.atoiAll]
    rw [if_neg (by omega), hp]
    simp only [show ¬ c.toNat = 45 from by omega, not_false_eq_true, true_and, false_and, if_false]
    rw [if_neg (by omega)]
    congr 1
    omega

theorem itoa_mem {n : Int} : ∀ b ∈ Lib.itoa n, b.toNat = 45 ∨ (48 ≤ b.toNat ∧ b.toNat ≤ 57) := by
  intro b hb
  unfold Lib.itoa at hb
  split at hb
  · rcases List.mem_cons.1 hb with rfl | hb
    · exact .inl rfl
    · exact .inr (digits_mem b hb)
  · exact .inr (digits_mem b hb)
theorem itoa_no {n : Int} {c : UInt8} (hc : c.toNat = 32 ∨ c.toNat = 10) : c ∉ Lib.itoa n := by
  intro h
  have := itoa_mem c h
  omega
theorem itoa_ne (n : Int) : Lib.itoa n ≠ [] := by
  unfold Lib.itoa
  split
  · simp
  · exact digits_ne _

/-! ### Splitting at a byte -/
theorem index_no {c : UInt8} : ∀ {u : List UInt8}, c ∉ u → Lib.index u [c] = -1
  | [], _ => rfl
  | b :: u, h => by
    have h1 : ¬ c = b := fun e => h (by rw [e]; exact List.mem_cons_self ..)
    have h2 := index_no (c := c) (u := u) (fun e => h (List.mem_cons_of_mem _ e))
    unfold Lib.index
    simp [List.isPrefixOf, h1, h2]
theorem index_at {c : UInt8} {v : List UInt8} : ∀ {u : List UInt8}, c ∉ u → Lib.index (u ++ c :: v) [c] = u.length
  | [], _ => by
    show Lib.index (c :: v) [c] = _
    unfold Lib.index
    simp [List.isPrefixOf]
  | b :: u, h => by
    have h1 : ¬ c = b := fun e => h (by rw [e]; exact List.mem_cons_self ..)
    have h2 := index_at (c := c) (v := v) (u := u) (fun e => h (List.mem_cons_of_mem _ e))
    show Lib.index (b :: (u ++ c :: v)) [c] = _
    unfold Lib.index
    have h3 : ((u.length : Int) == -1) = false := by rw [beq_eq_false_iff_ne]; omega
    simp [List.isPrefixOf, h1, h2, h3]

theorem count_no {c : UInt8} {u : List UInt8} (h : c ∉ u) (f : Nat) : Lib.countFrom [c] f u = 0 := by
  cases f with
  | zero => rfl
  | succ f => unfold Lib.countFrom; rw [index_no h]; rfl
theorem count_at {c : UInt8} {u v : List UInt8} (h : c ∉ u) (f : Nat) : Lib.countFrom [c] (f + 1) (u ++ c :: v) = 1 + Lib.countFrom [c] f v := by
  conv => lhs; unfold Lib.countFrom
  have h3 : ((u.length : Int) == -1) = false := by rw [beq_eq_false_iff_ne]; omega
  rw [index_at h, h3]
  simp only [Bool.false_eq_true, if_false, Int.toNat_natCast, List.length_singleton]
  congr 2
  rw [List.drop_append]
  simp
theorem split_no {c : UInt8} {u : List UInt8} (h : c ∉ u) (k : Nat) : Lib.splitK [c] 0 k u = [u] := by
  cases k with
  | zero => rfl
  | succ k => unfold Lib.splitK; rw [index_no h]; rfl
theorem split_at {c : UInt8} {u v : List UInt8} (h : c ∉ u) (k : Nat) : Lib.splitK [c] 0 (k + 1) (u ++ c :: v) = u :: Lib.splitK [c] 0 k v := by
  conv => lhs; unfold Lib.splitK
  have h3 : ((u.length : Int) == -1) = false := by rw [beq_eq_false_iff_ne]; omega
  rw [index_at h, h3]
  simp only [Bool.false_eq_true, if_false, Int.toNat_natCast, List.length_singleton, Nat.add_zero]
  congr 1
  · simp
  · congr 1
    rw [List.drop_append]
    simp

theorem first_mem {c : UInt8} : ∀ {s : List UInt8}, c ∈ s → ∃ u v, s = u ++ c :: v ∧ c ∉ u
  | b :: s, h => by
    by_cases e : c = b
    · exact ⟨[], s, by rw [e]; rfl, by simp⟩
    · rcases List.mem_cons.1 h with h | h
      · exact absurd h e
      · obtain ⟨u, v, hs, hu⟩ := first_mem h
        exact ⟨b :: u, v, by rw [hs]; rfl, by simp [e, hu]⟩
theorem split_len (c : UInt8) : ∀ (f : Nat) (s : List UInt8), s.length < f → (Lib.splitK [c] 0 (Lib.countFrom [c] f s) s).length = Lib.countFrom [c] f s + 1
  | 0, s, h => absurd h (by omega)
  | f + 1, s, h => by
    by_cases hm : c ∈ s
    · obtain ⟨u, v, rfl, hu⟩ := first_mem hm
      have hv : v.length < f := by simp at h; omega
      have ih := split_len c f v hv
      rw [count_at hu, Nat.add_comm 1, split_at hu, List.length_cons, ih]
    · rw [count_no hm, split_no hm]; rfl

/-! ### Lines, there and back -/
def body (x : Ev) : List UInt8 := wordOf x.kind ++ 32 :: (Lib.itoa x.task ++ 32 :: (Lib.itoa x.a ++ 32 :: Lib.itoa x.n))
theorem lineOf_ok {x : Ev} (h : okEv x = true) : lineOf x = body x ++ [10] := by
  unfold lineOf body
  rw [if_neg (fun e => by have := (lineOf_nil x).1 (by unfold lineOf; rw [if_pos e]); rw [h] at this; cases this)]
  simp

def kindTo (p : List UInt8) : Nat → Int
  | 0 => 0
  | k + 1 => if wordOf k = p then k else kindTo p k
def numV (l : List UInt8) : Int := match Lib.atoiAll l with
  | .ok v => v
  | .range => Lib.atoiSat l
  | _ => 0
def zeroEv : Ev := ⟨0, 0, 0, 0⟩
def parseL : List (List UInt8) → Ev
  | [p0, p1, p2, p3] => ⟨kindTo p0 9, numV p1, numV p2, numV p3⟩
  | _ => zeroEv
def parseEv (s : List UInt8) : Ev := parseL (Lib.split s [32])

def i64Ev (x : Ev) : Prop := i64 x.kind ∧ i64 x.task ∧ i64 x.a ∧ i64 x.n

theorem word_no {k : Int} {c : UInt8} (hc : c.toNat = 32 ∨ c.toNat = 10) : c ∉ wordOf k := by
  intro h
  unfold wordOf at h
  split at h
  · cases h
  · rename_i hk
    have : k.toNat = 1 ∨ k.toNat = 2 ∨ k.toNat = 3 ∨ k.toNat = 4 ∨ k.toNat = 5 ∨ k.toNat = 6 ∨ k.toNat = 7 ∨ k.toNat = 8 := by omega
    have all : ∀ b ∈ wordB k.toNat, 97 ≤ b.toNat := by
      rcases this with e | e | e | e | e | e | e | e <;> rw [e] <;> decide
    have := all c h
    omega
theorem kind_back {k : Int} (h1 : 1 ≤ k) (h2 : k ≤ 8) : kindTo (wordOf k) 9 = k := by
  have : k = 1 ∨ k = 2 ∨ k = 3 ∨ k = 4 ∨ k = 5 ∨ k = 6 ∨ k = 7 ∨ k = 8 := by omega
  rcases this with rfl | rfl | rfl | rfl | rfl | rfl | rfl | rfl <;> decide

theorem parse_body {x : Ev} (h : okEv x = true) (hi : i64Ev x) : parseEv (body x) = x := by
  obtain ⟨k, t, a, n⟩ := x
  obtain ⟨_, h2, h3, h4⟩ := hi
  simp only [okEv, Bool.and_eq_true, decide_eq_true_eq] at h
  have w := word_no (k := k) (c := 32) (.inl rfl)
  have n1 := itoa_no (n := t) (c := 32) (.inl rfl)
  have n2 := itoa_no (n := a) (c := 32) (.inl rfl)
  have n3 := itoa_no (n := n) (c := 32) (.inl rfl)
  unfold parseEv body Lib.split Lib.count
  generalize hL : (wordOf k ++ 32 :: (Lib.itoa t ++ 32 :: (Lib.itoa a ++ 32 :: Lib.itoa n))).length + 1 = f
  have hf : ∃ g, f = g + 1 + 1 + 1 + 1 := by
    refine ⟨f - 4, ?_⟩
    simp at hL
    omega
  obtain ⟨g, rfl⟩ := hf
  rw [count_at w, count_at n1, count_at n2, count_no n3]
  rw [show 1 + (1 + (1 + 0)) = 0 + 1 + 1 + 1 from rfl, split_at w, split_at n1, split_at n2, split_no n3]
  simp only [parseL, kind_back h.1 h.2, numV, atoi_itoa h2, atoi_itoa h3, atoi_itoa h4]

theorem line_inj {x y : Ev} (hx : okEv x = true) (hy : okEv y = true) (ix : i64Ev x) (iy : i64Ev y) (h : lineOf x = lineOf y) : x = y := by
  rw [lineOf_ok hx, lineOf_ok hy] at h
  have := List.append_cancel_right h
  rw [← parse_body hx ix, this, parse_body hy iy]

theorem body_no (x : Ev) : (10 : UInt8) ∉ body x := by
  unfold body
  simp only [List.mem_append, List.mem_cons, not_or]
  exact ⟨word_no (.inr rfl), by decide, itoa_no (.inr rfl), by decide, itoa_no (.inr rfl), by decide, itoa_no (.inr rfl)⟩

/-- What 'event' answers. -/
def EvR (s : List UInt8) (x : Ev) : Prop := (okEv x = true ∧ i64Ev x ∧ lineOf x = s ++ [10]) ∨ (x = zeroEv ∧ ∀ y, okEv y = true → i64Ev y → lineOf y ≠ s ++ [10])

theorem numV_i64 (l : List UInt8) : i64 (numV l) := by
  unfold numV
  cases h : Lib.atoiAll l with
  | ok v =>
    simp only
    unfold Lib.atoiAll at h
    cases l with
    | nil => cases h
    | cons c r =>
      simp only at h
      split at h
      · cases h
      · cases h
      · rename_i u hu
        have := Lib.parseMag_lt hu
        split at h
        · cases h
        · split at h
          · cases h
          · injection h with h
            subst h
            unfold i64
            split <;> omega
  | range => simp only [Lib.atoiSat]; split <;> decide
  | _ => exact (show i64 0 from by decide)

theorem kindTo_i64 (p : List UInt8) : i64 (kindTo p 9) := by
  have : ∀ k : Nat, k ≤ 9 → 0 ≤ kindTo p k ∧ kindTo p k ≤ 9 := by
    intro k
    induction k with
    | zero => intro _; simp [kindTo]
    | succ k ih =>
      intro hk
      unfold kindTo
      split
      · omega
      · exact ih (by omega)
  have := this 9 (by omega)
  unfold i64
  omega
theorem parse_i64 (s : List UInt8) : i64Ev (parseEv s) := by
  unfold parseEv
  unfold parseL
  split
  · exact ⟨kindTo_i64 _, numV_i64 _, numV_i64 _, numV_i64 _⟩
  · exact ⟨by decide, by decide, by decide, by decide⟩

/-- The law of 'event'. -/
theorem ev_law (s : List UInt8) : (lineOf (parseEv s) = s ++ [10] → EvR s (parseEv s)) ∧ (lineOf (parseEv s) ≠ s ++ [10] → EvR s zeroEv) := by
  constructor
  · intro h
    left
    refine ⟨?_, parse_i64 s, h⟩
    cases ho : okEv (parseEv s) with
    | true => rfl
    | false =>
      rw [(lineOf_nil _).2 ho] at h
      simp at h
  · intro h
    right
    refine ⟨rfl, fun y hy iy e => h ?_⟩
    have e2 := e
    rw [lineOf_ok hy] at e2
    have := List.append_cancel_right e2
    rw [← this, parse_body hy iy, this]
    exact e

noncomputable def evOf (s : List UInt8) : Option Ev := by
  classical
  exact if h : ∃ y, okEv y = true ∧ i64Ev y ∧ lineOf y = s ++ [10] then some (Classical.choose h) else none
theorem EvR.of {s : List UInt8} {x : Ev} (h : EvR s x) : (evOf s = some x ∧ okEv x = true ∧ i64Ev x ∧ lineOf x = s ++ [10]) ∨ (evOf s = none ∧ x = zeroEv) := by
  unfold evOf
  rcases h with ⟨h1, h2, h3⟩ | ⟨h1, h2⟩
  · left
    have hex : ∃ y, okEv y = true ∧ i64Ev y ∧ lineOf y = s ++ [10] := ⟨x, h1, h2, h3⟩
    rw [dif_pos hex]
    have hc := Classical.choose_spec hex
    refine ⟨?_, h1, h2, h3⟩
    congr 1
    exact line_inj hc.1 h1 hc.2.1 h2 (hc.2.2.trans h3.symm)
  · right
    rw [dif_neg (fun ⟨y, a, b, c⟩ => h2 y a b c)]
    exact ⟨rfl, h1⟩
theorem evOf_line {x : Ev} {s : List UInt8} (h1 : okEv x = true) (h2 : i64Ev x) (h3 : lineOf x = s ++ [10]) : evOf s = some x := by
  rcases EvR.of (.inl ⟨h1, h2, h3⟩) with h | h
  · exact h.1
  · rw [h.2] at h1; cases h1
theorem evOf_some {x : Ev} {s : List UInt8} (h : evOf s = some x) : okEv x = true ∧ i64Ev x ∧ lineOf x = s ++ [10] := by
  unfold evOf at h
  split at h
  · rename_i hex
    injection h with h
    rw [← h]
    exact Classical.choose_spec hex
  · cases h

/-! ### Reading -/
noncomputable def readFrom (acc : List Ev) (cur : List UInt8) : List UInt8 → Except Nat (List Ev)
  | [] => if cur = [] then .ok acc else .error (acc.length + 1)
  | b :: r => if b = 10 then match evOf cur with
      | some x => readFrom (acc ++ [x]) [] r
      | none => .error (acc.length + 1)
    else readFrom acc (cur ++ [b]) r
theorem read_chunk {acc : List Ev} : ∀ {c cur r : List UInt8}, (10 : UInt8) ∉ c → readFrom acc cur (c ++ r) = readFrom acc (cur ++ c) r
  | [], cur, r, _ => by simp
  | b :: c, cur, r, h => by
    have h1 : ¬ b = 10 := fun e => h (by rw [e]; exact List.mem_cons_self ..)
    have h2 := read_chunk (acc := acc) (c := c) (cur := cur ++ [b]) (r := r) (fun e => h (List.mem_cons_of_mem _ e))
    show readFrom acc cur (b :: (c ++ r)) = _
    conv => lhs; unfold readFrom
    rw [if_neg h1, h2]
    simp
theorem read_text : ∀ {l acc : List Ev}, (∀ x ∈ l, okEv x = true ∧ i64Ev x) → readFrom acc [] (l.flatMap lineOf) = .ok (acc ++ l)
  | [], acc, _ => by simp [readFrom]
  | x :: l, acc, h => by
    obtain ⟨h1, h2⟩ := h x (List.mem_cons_self ..)
    have ih := read_text (l := l) (acc := acc ++ [x]) (fun y hy => h y (List.mem_cons_of_mem _ hy))
    have e : (x :: l).flatMap lineOf = body x ++ (10 :: l.flatMap lineOf) := by
      rw [List.flatMap_cons, lineOf_ok h1]; simp
    rw [e, read_chunk (body_no x), List.nil_append]
    unfold readFrom
    rw [if_pos rfl, evOf_line h1 h2 (lineOf_ok h1)]
    simp only
    rw [ih]
    simp
theorem read_back : ∀ {s cur : List UInt8} {acc l : List Ev}, readFrom acc cur s = .ok l → acc.flatMap lineOf ++ cur ++ s = l.flatMap lineOf ∧ ((∀ x ∈ acc, okEv x = true ∧ i64Ev x) → ∀ x ∈ l, okEv x = true ∧ i64Ev x)
  | [], cur, acc, l, h => by
    unfold readFrom at h
    split at h
    · rename_i hc
      injection h with h
      subst h
      subst hc
      exact ⟨by simp, fun h => h⟩
    · cases h
  | b :: s, cur, acc, l, h => by
    unfold readFrom at h
    split at h
    · rename_i hb
      subst hb
      split at h
      · rename_i x hx
        obtain ⟨e1, e2, e3⟩ := evOf_some hx
        obtain ⟨h1, h2⟩ := read_back h
        refine ⟨?_, fun ha => h2 (fun y hy => ?_)⟩
        · rw [← h1, flatMap_snoc, e3]; simp
        · rcases List.mem_append.1 hy with hy | hy
          · exact ha y hy
          · rw [List.mem_singleton.1 hy]; exact ⟨e1, e2⟩
      · cases h
    · obtain ⟨h1, h2⟩ := read_back h
      exact ⟨by rw [← h1]; simp, h2⟩

end Go.Proofs.YtbeapjndgkjpeaaDoor
