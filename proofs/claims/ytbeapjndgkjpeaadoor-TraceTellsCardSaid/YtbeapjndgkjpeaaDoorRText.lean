/- The reference's side: the contract of Text. -/
import Derived.Test.YtbeapjndgkjpeaaDoorRLine
import Derived.Test.YtbeapjndgkjpeaaDoorText
namespace Go.Proofs.YtbeapjndgkjpeaaDoor
open Go.RowKit Go.Maps

set_option maxRecDepth 20000 in
set_option maxHeartbeats 1600000 in
theorem rtext_calls (A : Option Addr) (n c : Nat) (l : List Ev) (w : World) (hx : Reads w 4 A n (evs l)) (hi : ∀ x ∈ l, i64Ev x) (hn : n ≤ 10000) :
    Calls Tryd.prog 8 #[.slice A n c] w (TextR l w) := by
  have hl : l.length = n := by have := hx.1; rw [evs_len] at this; omega
  have HX := Lib.hid hx
  have HL := Lib.hid hl
  have HI := Lib.hid hi
  clear hx hl hi
  go_enter Tryd.func8, Tryd.ntmps8
  go_wp2
  go_loopg [4, 5] n (fun g s i wr => ∃ k : Nat, g = n - k ∧ k ≤ n ∧ i = .int .i64 k ∧ s = str ((l.take k).flatMap lineOf) ∧ Hid ((l.take k).all okEv = true) ∧ Hid (Turn nowhere w wr))
  case atStart => exact ⟨0, rfl, Nat.zero_le _, rfl, rfl, rfl, Turn.refl _ _⟩
  case round =>
    obtain ⟨k, rfl, hk, rfl, rfl, HA, HT⟩ := hrel
    have h0 : (0 : Int) ≤ (k : Int) := by omega
    by_cases hlt : k < n
    case pos =>
      have h1 : (k : Int) < (n : Int) := by omega
      obtain ⟨b, off, rfl, hx⟩ := HX.out.ev (by omega)
      have ha := (hx k hlt).turn HT.out (fun h => h)
      clear hx
      have HS := Lib.hid (flat_take (l := l) (k := k) (by rw [HL.out]; exact hlt))
      have HO := Lib.hid (all_take (l := l) (k := k) (by rw [HL.out]; exact hlt))
      have hyi : i64Ev (l.getD k default) := by
        have hkl : k < l.length := by rw [HL.out]; exact hlt
        simp only [List.getD, List.getElem?_eq_getElem hkl, Option.getD_some]
        exact HI.out _ (List.getElem_mem hkl)
      have hsum : ((l.take k).flatMap lineOf).length ≤ 1000000 := by
        have := text_len (l := l.take k) (fun x hx => HI.out x (List.mem_of_mem_take hx))
        have : (l.take k).length ≤ k := by simp; omega
        omega
      have HNOT := Lib.hid (show okEv (l.getD k default) = false → l.all okEv = false from fun h => by
        have hkl : k < l.length := by rw [HL.out]; exact hlt
        rw [List.all_eq_false]
        refine ⟨l[k], List.getElem_mem hkl, ?_⟩
        simp only [List.getD, List.getElem?_eq_getElem hkl, Option.getD_some] at h
        rw [h]; simp)
      generalize l.getD k default = y at ha HS HO hyi HNOT
      have HYI := Lib.hid hyi
      have hll := line_len hyi
      have hadd := fun w => add_run ((l.take k).flatMap lineOf) (lineOf y) (by omega) (by omega) w
      rw [← HS.out] at hadd
      generalize (l.take k).flatMap lineOf = S at hadd hsum ⊢
      obtain ⟨S2, hS2⟩ : ∃ s, s = (l.take (k + 1)).flatMap lineOf := ⟨_, rfl⟩
      rw [← hS2] at hadd
      have HS2 := Lib.hid hS2
      clear hS2
      obtain ⟨y0, y1, y2, y3⟩ := y
      obtain ⟨a0, a1, a2, a3⟩ := ha
      simp only at a0 a1 a2 a3
      clear hyi HS
      go_wp2_with fail
      refine (rline_calls ⟨y0, y1, y2, y3⟩ HYI.out _).mono ?_
      rintro e w2 ⟨rfl, ht⟩
      have HT2 := Lib.hid ht
      have HTT := Lib.hid (HT.out.trans HT2.out (fun _ _ h => h))
      clear ht
      cases hok : okEv ⟨y0, y1, y2, y3⟩ with
      | false =>
        have hl0 := (lineOf_nil ⟨y0, y1, y2, y3⟩).2 hok
        have HNO := Lib.hid (HNOT.out hok)
        rw [hl0]
        clear hok hl0 hadd
        go_wp2
        go_ret2
        exact ⟨.inr ⟨HNO.out, rfl⟩, HTT.out⟩
      | true =>
        have hne : (lineOf ⟨y0, y1, y2, y3⟩ == []) = false := by
          rw [beq_eq_false_iff_ne]
          intro h
          rw [(lineOf_nil _).1 h] at hok
          cases hok
        have HO2 := Lib.hid (show (l.take (k + 1)).all okEv = true from by rw [HO.out, HA.out, hok]; rfl)
        obtain ⟨a0, a1, a2, a3⟩ := (show EvAt w2 b off k ⟨y0, y1, y2, y3⟩ from EvAt.turn ⟨a0, a1, a2, a3⟩ HT2.out (fun h => h))
        simp only at a0 a1 a2 a3
        clear hok
        obtain ⟨ln, hln⟩ : ∃ ln, ln = lineOf ⟨y0, y1, y2, y3⟩ := ⟨_, rfl⟩
        rw [← hln] at hne hll hadd ⊢
        have HLN := Lib.hid hln
        clear hln
        go_wp2_with fail
        refine (rline_calls ⟨y0, y1, y2, y3⟩ HYI.out _).mono ?_
        rintro e w3 ⟨he, ht⟩
        rw [← HLN.out] at he
        subst he
        have HT3 := Lib.hid (HTT.out.trans ht (fun _ _ h => h))
        clear ht
        go_wp2
        go_roundg (n - (k + 1))
        case rel => exact ⟨k + 1, rfl, by omega, by go_num, by rw [← HS2.out], HO2, HT3⟩
        case measure => omega
    case neg =>
      obtain rfl : k = n := by omega
      have htk : l.take k = l := by rw [← HL.out]; exact List.take_length
      rw [htk] at HA ⊢
      obtain ⟨S, hS⟩ : ∃ s, s = l.flatMap lineOf := ⟨_, rfl⟩
      rw [← hS]
      have HS := Lib.hid hS
      clear hS
      go_wp2
      go_ret2
      exact ⟨.inl ⟨HA.out, by rw [← HS.out]; rfl⟩, HT.out⟩

end Go.Proofs.YtbeapjndgkjpeaaDoor
