/- What a step of 'range' over a string goes over: the byte 10, or bytes of which none is 10. -/
import Derived.Test.YtbeapjndgkjpeaaDoorEvt
import Derived.Lib.TrimUEq
import Derived.Lib.SpaceUEq
import Derived.Lib.QuoteLoop
import Derived.WalkSmall
namespace Go.Proofs.YtbeapjndgkjpeaaDoor
open Go.RowKit Go.Maps

theorem drop_two (L : List UInt8) (pos j : Nat) : L.drop pos = (L.drop pos).take j ++ L.drop (pos + j) := by
  rw [← List.drop_drop]
  exact (List.take_append_drop j _).symm

theorem rune_chunk (L : List UInt8) (pos : Nat) (h : pos < L.length) (r k : Nat) (hd : Utf8.decode (bs L) pos = (r, k)) :
    1 ≤ k ∧ pos + k ≤ L.length ∧ r ≤ 2147483647 ∧ ((r = 10 ∧ k = 1 ∧ L.drop pos = 10 :: L.drop (pos + 1)) ∨ (r ≠ 10 ∧ (10 : UInt8) ∉ (L.drop pos).take k)) := by
  have hr := decode_le (bs L) pos
  rw [hd] at hr
  rw [Lib.decode_N] at hd
  have e : (bs L).data.toList = L := rfl
  rw [e] at hd
  have h1 := Lib.decodeN_ge1 (L.length - pos) (L.getD pos 0).toNat (L.getD (pos + 1) 0).toNat (L.getD (pos + 2) 0).toNat (L.getD (pos + 3) 0).toNat
  have h2 := Lib.decodeN_width_le (L.length - pos) (L.getD pos 0).toNat (L.getD (pos + 1) 0).toNat (L.getD (pos + 2) 0).toNat (L.getD (pos + 3) 0).toNat (by omega)
  obtain ⟨c2, c3, c4, c5⟩ := Lib.decodeN_conts (L.length - pos) (L.getD pos 0).toNat (L.getD (pos + 1) 0).toNat (L.getD (pos + 2) 0).toNat (L.getD (pos + 3) 0).toNat
  have hx : L.drop pos = L[pos] :: L.drop (pos + 1) := List.drop_eq_getElem_cons h
  have hg : L.getD pos 0 = L[pos] := by simp [List.getD, h]
  rw [hd] at h1 h2 c2 c3 c4 c5
  simp only at hr h1 h2 c2 c3 c4 c5
  refine ⟨h1, by omega, hr, ?_⟩
  by_cases ha : (L.getD pos 0).toNat < 128
  · rw [Lib.decodeN_ascii _ _ _ _ _ ha] at hd
    injection hd with hr1 hk1
    subst hk1
    by_cases h10 : L[pos] = 10
    · left
      rw [hg, h10] at hr1
      exact ⟨hr1.symm, rfl, by rw [hx, h10]⟩
    · right
      rw [hg] at hr1
      refine ⟨fun e => h10 ?_, ?_⟩
      · apply UInt8.toNat_inj.1
        rw [hr1, e]; rfl
      · rw [hx, List.take_succ_cons, List.take_zero, List.mem_singleton]
        exact fun e => h10 e.symm
  · right
    have h128 : 128 ≤ r := by
      have hh := Lib.decodeN_cases (L.length - pos) (L.getD pos 0).toNat (L.getD (pos + 1) 0).toNat (L.getD (pos + 2) 0).toNat (L.getD (pos + 3) 0).toNat
      rw [hd] at hh
      simp only at hh
      unfold Lib.decodeN at hd
      rw [if_neg ha] at hd
      repeat' split at hd
      all_goals (injection hd with q1 q2; omega)
    refine ⟨by omega, fun hm => ?_⟩
    obtain ⟨j, hj, hje⟩ := List.getElem_of_mem hm
    rw [List.length_take, List.length_drop] at hj
    have hjk : j < k := by omega
    have hje2 : L.getD (pos + j) 0 = 10 := by
      rw [List.getElem_take, List.getElem_drop] at hje
      simp only [List.getD]
      rw [List.getElem?_eq_getElem (by omega)]
      exact hje
    have h10 : (L.getD (pos + j) 0).toNat = 10 := by rw [hje2]; rfl
    have : j = 0 ∨ j = 1 ∨ j = 2 ∨ j = 3 := by omega
    rcases this with rfl | rfl | rfl | rfl
    · rw [Nat.add_zero] at h10; omega
    · have := (c2 (by omega)).1; omega
    · have := (c3 (by omega)).1; omega
    · have := (c4 (by omega)).1; omega

theorem Turn.iterAt {F : Nat → Prop} {a w : World} (h : Turn F a w) {k : Nat} (hk : a.heap.size ≤ k) (s : ByteArray) (p : Nat) : Turn F a (w.iterAt k s p) :=
  ⟨h.os, h.tape, h.output, by rw [Lib.iterAt_size]; exact h.size, fun i hi hf => (Lib.iterAt_other w k i s p (by omega)).trans (h.block i hi hf)⟩

/-- The state of Read before the place pos. -/
structure RdAt (L : List UInt8) (pos frm : Nat) (acc : List Ev) : Prop where
  le : frm ≤ pos
  len : pos ≤ L.length
  eq : readFrom [] [] L = readFrom acc ((L.drop frm).take (pos - frm)) (L.drop pos)
  few : acc.length ≤ frm

theorem RdAt.start (L : List UInt8) : RdAt L 0 0 [] := ⟨Nat.le_refl _, Nat.zero_le _, by simp, by simp⟩
theorem RdAt.step {L : List UInt8} {pos frm k : Nat} {acc : List Ev} (h : RdAt L pos frm acc) (hk : pos + k ≤ L.length) (hn : (10 : UInt8) ∉ (L.drop pos).take k) : RdAt L (pos + k) frm acc := by
  refine ⟨Nat.le_trans h.le (by omega), hk, ?_, h.few⟩
  have hle := h.le
  rw [h.eq, drop_two L pos k, read_chunk hn]
  congr 1
  rw [show pos + k - frm = (pos - frm) + k by omega, List.take_add, List.drop_drop, show frm + (pos - frm) = pos by omega]
theorem RdAt.line {L : List UInt8} {pos frm : Nat} {acc : List Ev} (h : RdAt L pos frm acc) (hd : L.drop pos = 10 :: L.drop (pos + 1)) (hp : pos < L.length) {x : Ev} (hx : EvR ((L.drop frm).take (pos - frm)) x) :
    (x.kind ≠ 0 ∧ RdAt L (pos + 1) (pos + 1) (acc ++ [x])) ∨ (x.kind = 0 ∧ readFrom [] [] L = .error (acc.length + 1)) := by
  have hle := h.le
  have hfew := h.few
  have he := h.eq
  rw [hd] at he
  unfold readFrom at he
  rw [if_pos rfl] at he
  rcases hx.of with ⟨e1, e2, e3, e4⟩ | ⟨e1, e2⟩
  · left
    rw [e1] at he
    refine ⟨fun e => ?_, Nat.le_refl _, by omega, ?_, by simp; omega⟩
    · rw [okEv, e] at e2; simp at e2
    · conv => lhs; unfold readFrom
      simpa [readFrom] using he
  · right
    rw [e1] at he
    refine ⟨by rw [e2]; rfl, ?_⟩
    conv => lhs; unfold readFrom
    exact he
theorem RdAt.fin {L : List UInt8} {frm : Nat} {acc : List Ev} (h : RdAt L L.length frm acc) : readFrom [] [] L = if frm < L.length then .error (acc.length + 1) else .ok acc := by
  rw [h.eq, List.drop_length]
  unfold readFrom
  by_cases hf : frm < L.length
  · rw [if_pos hf, if_neg]
    intro e
    have := congrArg List.length e
    simp at this
    omega
  · rw [if_neg hf, if_pos]
    have := h.le
    rw [show L.length - frm = 0 by omega]; simp

end Go.Proofs.YtbeapjndgkjpeaaDoor
