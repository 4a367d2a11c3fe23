/- The contract of Text. -/
import Derived.Test.YtbeapjndgkjpeaaDoorLine
import Derived.Test.YtbeapjndgkjpeaaDoorBuild
namespace Go.Proofs.YtbeapjndgkjpeaaDoor
open Go.RowKit Go.Maps

theorem builder_turn {T e : TypeId} {B b : Nat} {bs : List Value} {w w' : World} (h : Lib.IsBuilder T e B b bs w) (ht : Turn nowhere w w') : Lib.IsBuilder T e B b bs w' := by
  rcases h with ⟨hB, v, hb, ho, hne⟩ | ⟨hB, v, hb, ho, hne⟩
  · exact .inl ⟨hB, v, ht.obj hb (fun h => h), ht.own ho (fun _ _ h => h), hne⟩
  · exact .inr ⟨hB, v, ht.obj hb (fun h => h), ht.own ho (fun _ _ h => h), hne⟩

def TextR (l : List Ev) (w : World) (e : Ending) (w' : World) : Prop :=
  ((l.all okEv = true ∧ e = .returned (.tuple #[str (l.flatMap lineOf), .int .i64 0])) ∨ (l.all okEv = false ∧ e = .returned (.tuple #[str [], .int .i64 1]))) ∧ Turn nowhere w w'

theorem text_len {l : List Ev} (h : ∀ x ∈ l, i64Ev x) : (l.flatMap lineOf).length ≤ l.length * 100 := by
  induction l with
  | nil => simp
  | cons x l ih =>
    have h1 := line_len (h x (List.mem_cons_self ..))
    have h2 := ih (fun y hy => h y (List.mem_cons_of_mem _ hy))
    simp only [List.flatMap_cons, List.length_append, List.length_cons]
    omega
theorem all_take {l : List Ev} {k : Nat} (h : k < l.length) : (l.take (k + 1)).all okEv = ((l.take k).all okEv && okEv (l.getD k default)) := by
  rw [List.take_succ_eq_append_getElem h, List.all_append]
  simp [List.getD, List.getElem?_eq_getElem h]
theorem flat_take {l : List Ev} {k : Nat} (h : k < l.length) : (l.take (k + 1)).flatMap lineOf = (l.take k).flatMap lineOf ++ lineOf (l.getD k default) := by
  rw [List.take_succ_eq_append_getElem h, flatMap_snoc]
  simp [List.getD, List.getElem?_eq_getElem h]

set_option maxRecDepth 20000 in
set_option maxHeartbeats 1600000 in
theorem text_calls (A : Option Addr) (n c : Nat) (l : List Ev) (w : World) (hx : Reads w 4 A n (evs l)) (hi : ∀ x ∈ l, i64Ev x) (hn : n ≤ 100000) (he : Env w) :
    Calls Tryd.prog 7 #[.slice A n c] w (TextR l w) := by
  have hl : l.length = n := by have := hx.1; rw [evs_len] at this; omega
  have HX := Lib.hid hx
  have HL := Lib.hid hl
  have HI := Lib.hid hi
  have HE := Lib.hid he
  clear hx hl hi he
  go_enter Tryd.func7, Tryd.ntmps7
  go_wp2
  go_loopg [10] n (fun g i wr => ∃ k : Nat, g = n - k ∧ k ≤ n ∧ i = .int .i64 k ∧ Hid ((l.take k).all okEv = true) ∧ Hid (Lib.IsBuilder 48 5 w.heap.size w.heap.size (Lib.byteCells ((l.take k).flatMap lineOf)) wr) ∧ Hid (Below w.heap.size w wr))
  case atStart => exact ⟨0, rfl, Nat.zero_le _, rfl, rfl, Lib.fresh_isBuilder 48 5 w, (Below.refl _ w).alloc (Nat.le_refl _) _⟩
  case round =>
    obtain ⟨k, rfl, hk, rfl, HA, HB, HW⟩ := hrel
    have h0 : (0 : Int) ≤ (k : Int) := by omega
    have HT := Lib.hid (Turn.of_below (F := nowhere) HW.out)
    by_cases hlt : k < n
    case pos =>
      have h1 : (k : Int) < (n : Int) := by omega
      obtain ⟨b, off, rfl, hx⟩ := HX.out.ev (by omega)
      have ha := (hx k hlt).turn HT.out (fun h => h)
      clear hx
      have HS := Lib.hid (flat_take (l := l) (k := k) (by rw [HL.out]; exact hlt))
      have HO := Lib.hid (all_take (l := l) (k := k) (by rw [HL.out]; exact hlt))
      have hyi : i64Ev (l.getD k default) := by
        have hkl : k < l.length := by rw [HL.out]; exact hlt
        simp only [List.getD, List.getElem?_eq_getElem hkl, Option.getD_some]
        exact HI.out _ (List.getElem_mem hkl)
      have hsum : ((l.take k).flatMap lineOf).length ≤ 10000000 := by
        have := text_len (l := l.take k) (fun x hx => HI.out x (List.mem_of_mem_take hx))
        have : (l.take k).length ≤ k := by simp; omega
        omega
      have HNOT := Lib.hid (show okEv (l.getD k default) = false → l.all okEv = false from fun h => by
        have hkl : k < l.length := by rw [HL.out]; exact hlt
        rw [List.all_eq_false]
        refine ⟨l[k], List.getElem_mem hkl, ?_⟩
        simp only [List.getD, List.getElem?_eq_getElem hkl, Option.getD_some] at h
        rw [h]; simp)
      generalize l.getD k default = y at ha HS HO hyi HNOT
      have HYI := Lib.hid hyi
      have hll := line_len hyi
      obtain ⟨y0, y1, y2, y3⟩ := y
      obtain ⟨a0, a1, a2, a3⟩ := ha
      simp only at a0 a1 a2 a3
      clear hyi
      go_wp2_with fail
      refine (line_calls ⟨y0, y1, y2, y3⟩ HYI.out _ (HE.out.turn (HT.out.alloc _))).mono ?_
      rintro e w2 ⟨rfl, ht⟩
      have HT2 := Lib.hid (show Turn nowhere wr w2 from ((Turn.refl nowhere wr).alloc _).trans ht (fun _ _ h => h))
      have HTT := Lib.hid (HT.out.trans HT2.out (fun _ _ h => h))
      clear ht
      cases hok : okEv ⟨y0, y1, y2, y3⟩ with
      | false =>
        have hl0 := (lineOf_nil ⟨y0, y1, y2, y3⟩).2 hok
        have HNO := Lib.hid (HNOT.out hok)
        rw [hl0]
        clear hok hl0
        go_wp2
        go_ret2
        exact ⟨.inr ⟨HNO.out, rfl⟩, HTT.out⟩
      | true =>
        have hne : (lineOf ⟨y0, y1, y2, y3⟩ == []) = false := by
          rw [beq_eq_false_iff_ne]
          intro h
          rw [(lineOf_nil _).1 h] at hok
          cases hok
        have HO2 := Lib.hid (show (l.take (k + 1)).all okEv = true from by rw [HO.out, HA.out, hok]; rfl)
        have HB2 := Lib.hid (builder_turn HB.out HT2.out)
        have HS2 := Lib.hid (show Lib.byteCells ((l.take (k + 1)).flatMap lineOf) = Lib.byteCells ((l.take k).flatMap lineOf) ++ Lib.strCells (bs (lineOf ⟨y0, y1, y2, y3⟩)) from by
          rw [HS.out, Lib.byteCells_append, Lib.strCells_eq])
        have hsz : (bs (lineOf ⟨y0, y1, y2, y3⟩)).size = (lineOf ⟨y0, y1, y2, y3⟩).length := by simp [ByteArray.size]
        have HSZ := Lib.hid hsz
        clear hok hsz
        generalize hln : lineOf ⟨y0, y1, y2, y3⟩ = ln at hne hll HS2 HSZ
        clear hln
        go_wp2_with fail
        refine (write_calls w.heap.size w.heap.size _ (bs ln) _ HB2.out (by rw [Lib.byteCells_length, HSZ.out]; omega) (by have := HTT.out.size; exact this)).mono ?_
        rintro e w3 ⟨rfl, hb3, hbel⟩
        have HB3 := Lib.hid (show Lib.IsBuilder 48 5 w.heap.size w.heap.size _ w3 from .inr hb3)
        have HW3 := Lib.hid (HTT.out.to_below.trans hbel)
        clear hb3 hbel
        go_wp2
        go_roundg (n - (k + 1))
        case rel => exact ⟨k + 1, rfl, by omega, by go_num, HO2, by rw [HS2.out]; exact HB3, HW3⟩
        case measure => omega
    case neg =>
      obtain rfl : k = n := by omega
      have htk : l.take k = l := by rw [← HL.out]; exact List.take_length
      rw [htk] at HA HB
      go_wp2_with fail
      refine (Tryd.Builder_String_any w.heap.size w.heap.size (l.flatMap lineOf) _ HB.out HW.out.size).mono ?_
      rintro e w2 ⟨rfl, hb⟩
      have HT2 := Lib.hid (Turn.of_below (F := nowhere) (HW.out.trans hb))
      clear hb
      go_wp2
      go_ret2
      exact ⟨.inl ⟨HA.out, rfl⟩, HT2.out⟩

end Go.Proofs.YtbeapjndgkjpeaaDoor
