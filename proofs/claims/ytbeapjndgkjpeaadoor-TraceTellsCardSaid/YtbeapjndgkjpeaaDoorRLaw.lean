/- The reference's 'number' and 'Read', as lists of bytes: plain Lean. -/
import Derived.Test.YtbeapjndgkjpeaaDoorLaw
import Derived.Test.YtbeapjndgkjpeaaDoorWords
namespace Go.Proofs.YtbeapjndgkjpeaaDoor
open Go.RowKit

/-- The loop of 'number', from the place i with the value n. -/
def numGo : Nat → Int → List UInt8 → Option Int
  | _, n, [] => some n
  | i, n, b :: r => if b.toNat = 45 ∧ i = 0 then numGo (i + 1) n r
    else if b.toNat < 48 ∨ 57 < b.toNat ∨ n < -922337203685477580 then none
    else numGo (i + 1) (wrap64 (10 * n - ((b.toNat : Int) - 48))) r

theorem numGo_digits (u : Nat) : ∀ (i : Nat) (r : List UInt8), u ≤ 9223372036854775808 → numGo i 0 (Lib.decDigits u ++ r) = numGo (i + (Lib.decDigits u).length) (-(u : Int)) r := by
  induction u using Nat.strongRecOn with
  | ind u ih =>
    intro i r hu
    unfold Lib.decDigits
    split
    · rename_i h
      have e : (UInt8.ofNat (48 + u)).toNat = 48 + u := by rw [UInt8.toNat_ofNat']; omega
      simp only [List.cons_append, List.nil_append, numGo, e, List.length_singleton]
      rw [if_neg (by omega), if_neg (by omega)]
      congr 1
      unfold wrap64
      omega
    · rename_i h
      rw [List.append_assoc, ih (u / 10) (by omega) _ _ (by omega)]
      have e : (UInt8.ofNat (48 + u % 10)).toNat = 48 + u % 10 := by rw [UInt8.toNat_ofNat']; omega
      simp only [List.cons_append, List.nil_append, numGo, e, List.length_append, List.length_singleton]
      rw [if_neg (by omega), if_neg (by omega)]
      congr 1
      unfold wrap64
      omega

theorem numGo_itoa {m : Int} (h : i64 m) : numGo 0 0 (Lib.itoa m) = some (-(m.natAbs : Int)) := by
  have hd : ∀ (i u : Nat), u ≤ 9223372036854775808 → numGo i 0 (Lib.decDigits u) = some (-(u : Int)) := by
    intro i u hu
    have := numGo_digits u i [] hu
    rw [List.append_nil] at this
    rw [this]; rfl
  unfold Lib.itoa
  unfold i64 at h
  by_cases hm : m < 0
  · rw [if_pos hm]
    have h45 : (45 : UInt8).toNat = 45 := rfl
    simp only [numGo, h45]
    simp only [and_self, if_true]
    exact hd _ _ (by omega)
  · rw [if_neg hm, hd _ _ (by omega)]
    congr 1
    omega

/-- What 'number' answers. -/
def NumberR (s : List UInt8) (v : Int) (ok : Bool) : Prop := i64 v ∧ (ok = true → Lib.itoa v = s) ∧ (∀ m, i64 m → Lib.itoa m = s → ok = true ∧ v = m)

theorem number_none {s : List UInt8} (h : numGo 0 0 s = none) : NumberR s 0 false :=
  ⟨by decide, fun h => (by cases h), fun m hm e => (by rw [← e, numGo_itoa hm] at h; cases h)⟩

/-- Whether a text begins with something else than a minus. -/
def plain (s : List UInt8) : Bool := match s with
  | [] => false
  | b :: _ => decide (b.toNat ≠ 45)
theorem itoa_plain (m : Int) : plain (Lib.itoa m) = decide (0 ≤ m) := by
  unfold Lib.itoa
  by_cases hm : m < 0
  · rw [if_pos hm]
    have : ¬ 0 ≤ m := by omega
    simp [plain, this]
  · rw [if_neg hm]
    obtain ⟨c, r, hc⟩ := List.exists_cons_of_ne_nil (digits_ne m.toNat)
    have hcm := digits_mem (u := m.toNat) c (by rw [hc]; exact List.mem_cons_self ..)
    rw [hc]
    have h0 : 0 ≤ m := by omega
    have h1 : c.toNat ≠ 45 := by omega
    simp only [plain, h0, h1, ne_eq, not_false_eq_true]

theorem wrap_i64 (n : Int) : i64 (wrap64 n) := by unfold i64 wrap64; omega
theorem number_some {s : List UInt8} {n : Int} (hi : i64 n) (h : numGo 0 0 s = some n) (ok : Bool)
    (hok : ok = true ↔ Lib.itoa (if plain s then wrap64 (-n) else n) = s) : NumberR s (if plain s then wrap64 (-n) else n) ok := by
  refine ⟨?_, hok.1, fun m hm e => ?_⟩
  · split
    · exact wrap_i64 _
    · exact hi
  · have hv : (if plain s then wrap64 (-n) else n) = m := by
      rw [← e, numGo_itoa hm] at h
      injection h with h
      rw [← e, itoa_plain, ← h]
      unfold i64 at hm
      by_cases h0 : 0 ≤ m
      · simp only [h0, decide_true, if_true]
        unfold wrap64
        omega
      · simp only [h0, decide_false, Bool.false_eq_true, if_false]
        omega
    rw [hv] at hok ⊢
    exact ⟨hok.2 e, rfl⟩

/-! ### A line -/
theorem cut_same {c : UInt8} : ∀ {u u' v v' : List UInt8}, c ∉ u → c ∉ u' → u ++ c :: v = u' ++ c :: v' → u = u' ∧ v = v'
  | [], [], _, _, _, _, h => by simpa using h
  | [], b :: u', _, _, _, h2, h => by
    simp only [List.nil_append, List.cons_append, List.cons.injEq] at h
    exact absurd (by rw [h.1]; exact List.mem_cons_self ..) h2
  | b :: u, [], _, _, h1, _, h => by
    simp only [List.nil_append, List.cons_append, List.cons.injEq] at h
    exact absurd (by rw [h.1]; exact List.mem_cons_self ..) h1
  | b :: u, b' :: u', v, v', h1, h2, h => by
    simp only [List.cons_append, List.cons.injEq] at h
    obtain ⟨e1, e2⟩ := cut_same (fun hm => h1 (List.mem_cons_of_mem _ hm)) (fun hm => h2 (List.mem_cons_of_mem _ hm)) h.2
    exact ⟨by rw [h.1, e1], e2⟩

theorem kindTo_spec (p : List UInt8) : ∀ k : Nat, kindTo p k ≠ 0 → 1 ≤ kindTo p k ∧ kindTo p k < k ∧ wordOf (kindTo p k) = p
  | 0, h => absurd rfl h
  | k + 1, h => by
    unfold kindTo at h ⊢
    by_cases e : wordOf k = p
    · rw [if_pos e] at h ⊢
      exact ⟨by omega, by omega, e⟩
    · rw [if_neg e] at h ⊢
      obtain ⟨h1, h2, h3⟩ := kindTo_spec p k h
      exact ⟨h1, by omega, h3⟩
theorem kindTo_one (p : List UInt8) : kindTo p 1 = 0 := by
  show (if wordOf ((0 : Nat) : Int) = p then ((0 : Nat) : Int) else kindTo p 0) = 0
  split <;> rfl
theorem kindTo_step (p : List UInt8) (k : Nat) : kindTo p (k + 1) = if wordOf k = p then (k : Int) else kindTo p k := rfl

theorem line_some {p0 p1 p2 p3 : List UInt8} {t a n : Int} {b1 b2 b3 : Bool} (h1 : NumberR p1 t b1) (h2 : NumberR p2 a b2) (h3 : NumberR p3 n b3)
    (hk : kindTo p0 9 ≠ 0) (e1 : b1 = true) (e2 : b2 = true) (e3 : b3 = true) : evOf (p0 ++ 32 :: (p1 ++ 32 :: (p2 ++ 32 :: p3))) = some ⟨kindTo p0 9, t, a, n⟩ := by
  obtain ⟨k1, k2, k3⟩ := kindTo_spec p0 9 hk
  have hok : okEv ⟨kindTo p0 9, t, a, n⟩ = true := by
    unfold okEv
    simp only [Bool.and_eq_true, decide_eq_true_eq]
    omega
  refine evOf_line hok ⟨by unfold i64; simp only; omega, h1.1, h2.1, h3.1⟩ ?_
  rw [lineOf_ok hok]
  unfold body
  simp only [k3, h1.2.1 e1, h2.2.1 e2, h3.2.1 e3]
theorem line_none {p0 p1 p2 p3 : List UInt8} {t a n : Int} {b1 b2 b3 : Bool} (h1 : NumberR p1 t b1) (h2 : NumberR p2 a b2) (h3 : NumberR p3 n b3)
    (n0 : (32 : UInt8) ∉ p0) (n1 : (32 : UInt8) ∉ p1) (n2 : (32 : UInt8) ∉ p2)
    (hk : kindTo p0 9 = 0 ∨ b1 = false ∨ b2 = false ∨ b3 = false) : evOf (p0 ++ 32 :: (p1 ++ 32 :: (p2 ++ 32 :: p3))) = none := by
  cases h : evOf (p0 ++ 32 :: (p1 ++ 32 :: (p2 ++ 32 :: p3))) with
  | none => rfl
  | some y =>
    exfalso
    obtain ⟨hok, ⟨_, i1, i2, i3⟩, hl⟩ := evOf_some h
    rw [lineOf_ok hok] at hl
    have hb := List.append_cancel_right hl
    unfold body at hb
    obtain ⟨e0, hb⟩ := cut_same (word_no (.inl rfl)) n0 hb
    obtain ⟨e1, hb⟩ := cut_same (itoa_no (.inl rfl)) n1 hb
    obtain ⟨e2, e3⟩ := cut_same (itoa_no (.inl rfl)) n2 hb
    have q1 := (h1.2.2 _ i1 e1).1
    have q2 := (h2.2.2 _ i2 e2).1
    have q3 := (h3.2.2 _ i3 e3).1
    rw [q1, q2, q3] at hk
    simp only [okEv, Bool.and_eq_true, decide_eq_true_eq] at hok
    have := kind_back hok.1 hok.2
    rw [e0] at this
    rw [this] at hk
    simp at hk
    omega

/-! ### Reading, by parts -/
def joinP (parts : List (List UInt8)) (part : List UInt8) : List UInt8 := parts.flatMap (· ++ [32]) ++ part
theorem join_count {parts : List (List UInt8)} {part : List UInt8} (h1 : ∀ p ∈ parts, (32 : UInt8) ∉ p) (h2 : (32 : UInt8) ∉ part) : (joinP parts part).count 32 = parts.length := by
  unfold joinP
  rw [List.count_append, List.count_eq_zero_of_not_mem h2, Nat.add_zero]
  induction parts with
  | nil => rfl
  | cons p r ih =>
    rw [List.flatMap_cons, List.count_append, ih (fun q hq => h1 q (List.mem_cons_of_mem _ hq)), List.count_append, List.count_eq_zero_of_not_mem (h1 p (List.mem_cons_self ..))]
    simp
    omega
theorem body_count (x : Ev) : (body x).count 32 = 3 := by
  unfold body
  simp only [List.count_append, List.count_cons_self, List.count_eq_zero_of_not_mem (word_no (k := x.kind) (c := 32) (.inl rfl)), List.count_eq_zero_of_not_mem (itoa_no (n := x.task) (c := 32) (.inl rfl)),
    List.count_eq_zero_of_not_mem (itoa_no (n := x.a) (c := 32) (.inl rfl)), List.count_eq_zero_of_not_mem (itoa_no (n := x.n) (c := 32) (.inl rfl))]
theorem join_none {parts : List (List UInt8)} {part : List UInt8} (h1 : ∀ p ∈ parts, (32 : UInt8) ∉ p) (h2 : (32 : UInt8) ∉ part) (h : parts.length ≠ 3) : evOf (joinP parts part) = none := by
  cases e : evOf (joinP parts part) with
  | none => rfl
  | some y =>
    exfalso
    obtain ⟨hok, _, hl⟩ := evOf_some e
    rw [lineOf_ok hok] at hl
    have hb := List.append_cancel_right hl
    have := body_count y
    rw [hb, join_count h1 h2] at this
    exact h this

/-- The state of the reference's 'Read' before the place pos. -/
structure RSt (L : List UInt8) (pos : Nat) (part : List UInt8) (parts : List (List UInt8)) (acc : List Ev) : Prop where
  len : pos ≤ L.length
  eq : readFrom [] [] L = readFrom acc (joinP parts part) (L.drop pos)
  no : ∀ p ∈ parts, (32 : UInt8) ∉ p ∧ p.length ≤ pos
  non : (32 : UInt8) ∉ part
  few : acc.length ≤ pos
  short : part.length ≤ pos
  some_ : parts.length ≤ pos

theorem RSt.start (L : List UInt8) : RSt L 0 [] [] [] := ⟨Nat.zero_le _, by simp [joinP], fun p hp => (by cases hp), by simp, Nat.le_refl _, Nat.le_refl _, Nat.le_refl _⟩
theorem RSt.more {L : List UInt8} {pos : Nat} {part : List UInt8} {parts : List (List UInt8)} {acc : List Ev} (h : RSt L pos part parts acc) {b : UInt8} (hp : pos < L.length) (hb : L.getD pos 0 = b) (h1 : b ≠ 32) (h2 : b ≠ 10) :
    RSt L (pos + 1) (part ++ [b]) parts acc := by
  have hx : L.drop pos = b :: L.drop (pos + 1) := by
    rw [List.drop_eq_getElem_cons hp, ← hb]; simp [List.getD, hp]
  refine ⟨by omega, ?_, fun p hp => ⟨(h.no p hp).1, by have := (h.no p hp).2; omega⟩, ?_, by have := h.few; omega, by have := h.short; simp; omega, by have := h.some_; omega⟩
  · rw [h.eq, hx]
    conv => lhs; unfold readFrom
    rw [if_neg h2]
    congr 1
    simp [joinP]
  · intro hm
    rcases List.mem_append.1 hm with hm | hm
    · exact h.non hm
    · exact h1 (List.mem_singleton.1 hm).symm
theorem RSt.blank {L : List UInt8} {pos : Nat} {part : List UInt8} {parts : List (List UInt8)} {acc : List Ev} (h : RSt L pos part parts acc) (hp : pos < L.length) (hb : L.getD pos 0 = 32) :
    RSt L (pos + 1) [] (parts ++ [part]) acc := by
  have hx : L.drop pos = 32 :: L.drop (pos + 1) := by
    rw [List.drop_eq_getElem_cons hp, ← hb]; simp [List.getD, hp]
  refine ⟨by omega, ?_, fun p hp => ?_, by simp, by have := h.few; omega, by simp, by have := h.some_; simp; omega⟩
  · rw [h.eq, hx]
    conv => lhs; unfold readFrom
    rw [if_neg (by decide)]
    congr 1
    simp [joinP]
  · rcases List.mem_append.1 hp with hp | hp
    · exact ⟨(h.no p hp).1, by have := (h.no p hp).2; omega⟩
    · rw [List.mem_singleton.1 hp]
      exact ⟨h.non, by have := h.short; omega⟩
theorem RSt.line {L : List UInt8} {pos : Nat} {part : List UInt8} {parts : List (List UInt8)} {acc : List Ev} (h : RSt L pos part parts acc) (hp : pos < L.length) (hb : L.getD pos 0 = 10) :
    readFrom [] [] L = match evOf (joinP parts part) with
      | some x => readFrom (acc ++ [x]) [] (L.drop (pos + 1))
      | none => .error (acc.length + 1) := by
  have hx : L.drop pos = 10 :: L.drop (pos + 1) := by
    rw [List.drop_eq_getElem_cons hp, ← hb]; simp [List.getD, hp]
  rw [h.eq, hx]
  conv => lhs; unfold readFrom
  rw [if_pos rfl]
  cases evOf (joinP parts part) <;> rfl
theorem RSt.many {L : List UInt8} {pos : Nat} {part : List UInt8} {parts : List (List UInt8)} {acc : List Ev} (h : RSt L pos part parts acc) (hp : pos < L.length) (hb : L.getD pos 0 = 10) (hn : (parts ++ [part]).length ≠ 4) :
    readFrom [] [] L = .error (acc.length + 1) := by
  rw [h.line hp hb, join_none (fun p hp => (h.no p hp).1) h.non (by simpa using hn)]
theorem RSt.four {L : List UInt8} {pos : Nat} {part : List UInt8} {parts : List (List UInt8)} {acc : List Ev} (h : RSt L pos part parts acc) (hp : pos < L.length) (hb : L.getD pos 0 = 10) (hn : (parts ++ [part]).length = 4) :
    ∃ p0 p1 p2 p3, parts ++ [part] = [p0, p1, p2, p3] ∧ p0.length ≤ pos ∧ p1.length ≤ pos ∧ p2.length ≤ pos ∧ p3.length ≤ pos ∧
      ∀ {t a n : Int} {b1 b2 b3 : Bool}, NumberR p1 t b1 → NumberR p2 a b2 → NumberR p3 n b3 →
        (kindTo p0 9 ≠ 0 ∧ b1 = true ∧ b2 = true ∧ b3 = true → RSt L (pos + 1) [] [] (acc ++ [⟨kindTo p0 9, t, a, n⟩])) ∧
        (kindTo p0 9 = 0 ∨ b1 = false ∨ b2 = false ∨ b3 = false → readFrom [] [] L = .error (acc.length + 1)) := by
  have hl : parts.length = 3 := by simpa using hn
  match parts, hl with
  | [p0, p1, p2], _ =>
    have a0 := h.no p0 (by simp)
    have a1 := h.no p1 (by simp)
    have a2 := h.no p2 (by simp)
    refine ⟨p0, p1, p2, part, rfl, a0.2, a1.2, a2.2, h.short, fun {t a n b1 b2 b3} h1 h2 h3 => ?_⟩
    have hj : joinP [p0, p1, p2] part = p0 ++ 32 :: (p1 ++ 32 :: (p2 ++ 32 :: part)) := by simp [joinP]
    have hline := h.line hp hb
    rw [hj] at hline
    constructor
    · rintro ⟨hk, e1, e2, e3⟩
      rw [line_some h1 h2 h3 hk e1 e2 e3] at hline
      exact ⟨by omega, by rw [hline]; simp [joinP], fun p hp => (by cases hp), by simp, by have := h.few; simp; omega, by simp, by simp⟩
    · intro hk
      rw [line_none h1 h2 h3 a0.1 a1.1 a2.1 hk] at hline
      exact hline
theorem RSt.fin {L : List UInt8} {part : List UInt8} {parts : List (List UInt8)} {acc : List Ev} (h : RSt L L.length part parts acc) :
    readFrom [] [] L = if parts = [] ∧ part = [] then .ok acc else .error (acc.length + 1) := by
  rw [h.eq, List.drop_length]
  unfold readFrom
  have : joinP parts part = [] ↔ parts = [] ∧ part = [] := by
    unfold joinP
    cases parts with
    | nil => simp
    | cons p r => simp
  by_cases hj : joinP parts part = []
  · rw [if_pos hj, if_pos (this.1 hj)]
  · rw [if_neg hj, if_neg (fun e => hj (this.2 e))]

end Go.Proofs.YtbeapjndgkjpeaaDoor
