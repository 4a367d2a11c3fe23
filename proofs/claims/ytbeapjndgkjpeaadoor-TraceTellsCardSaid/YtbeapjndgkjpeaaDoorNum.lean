/- The library's numbers and pieces, as this program's texts meet them: Itoa, FormatInt, Atoi, ParseInt, Split. -/
import Derived.Test.YtbeapjndgkjpeaaDoorEnv
import Derived.Test.YtbeapjndgkjpeaaDoorShelf
namespace Go.Proofs.YtbeapjndgkjpeaaDoor
open Go.RowKit Go.Maps

/-- What a call that answers a string may do. -/
def RetS (l : List UInt8) (w : World) (e : Ending) (w' : World) : Prop := e = .returned (str l) ∧ Turn nowhere w w'

theorem grow_turn (w : World) (os : Array Obj) : Turn nowhere w (Go.Sort.grow w os) := by
  refine ⟨rfl, rfl, rfl, by simp [Go.Sort.grow], fun k hk _ => ?_⟩
  simp [Go.Sort.grow, Array.getElem?_append_left hk]

theorem itoa_calls (n : Int) (hn : i64 n) (w : World) (he : Env w) : Calls Tryd.prog 22 #[.int .i64 n] w (RetS (Lib.itoa n) w) := by
  refine (Tryd.strconv_Itoa n hn.1 hn.2 w he.tab).mono ?_
  rintro e w' ⟨rfl, k, os, rfl⟩
  exact ⟨rfl, ((Turn.refl nowhere w).drewN k).trans (grow_turn _ _) (fun _ _ h => h)⟩
theorem format_calls (n : Int) (hn : i64 n) (w : World) (he : Env w) : Calls Tryd.prog 23 #[.int .i64 n, .int .i64 10] w (RetS (Lib.itoa n) w) := by
  refine (Tryd.strconv_FormatInt_10 n hn.1 hn.2 w he.tab).mono ?_
  rintro e w' ⟨rfl, k, os, rfl⟩
  exact ⟨rfl, ((Turn.refl nowhere w).drewN k).trans (grow_turn _ _) (fun _ _ h => h)⟩

def NumR (l : List UInt8) (w : World) (e : Ending) (w' : World) : Prop := ∃ ev, e = .returned (.tuple #[.int .i64 (numV l), ev]) ∧ Turn nowhere w w'

theorem atoi_calls (l : List UInt8) (hl : l.length ≤ 1000000) (w : World) (he : Env w) : Calls Tryd.prog 30 #[str l] w (NumR l w) := by
  have hs : (bs l).size = l.length := by simp [ByteArray.size]
  have hd : (bs l).data.toList = l := by simp
  cases h : Lib.atoiAll l with
  | ok v =>
    refine (Tryd.strconv_Atoi_ok (bs l) (by omega) v (by rw [hd]; exact h) w).mono ?_
    rintro e w' ⟨rfl, hw⟩
    refine ⟨_, by rw [show numV l = v from by simp [numV, h]], ?_⟩
    rcases hw with rfl | ⟨t, rfl⟩
    · exact Turn.refl _ _
    · exact Turn.of_below (Lib.bytesWorld_below _ _ _)
  | range =>
    obtain ⟨tp, p, hv⟩ := he.rng
    refine (Tryd.strconv_Atoi_range_var (bs l) (by omega) (by rw [hd]; exact h) tp p w hv).mono ?_
    rintro e w' ⟨N, rfl, _, _, hb⟩
    exact ⟨_, by rw [show numV l = Lib.atoiSat l from by simp [numV, h]], Turn.of_below hb⟩
  | _ =>
    obtain ⟨tp, p, hv⟩ := he.syn
    refine (show Calls Tryd.prog 30 #[str l] w fun e w' => ∃ N, e = .returned (.tuple #[.int .i64 0, .iface 83 (.pointer (some ⟨N, 0, none⟩))]) ∧ w.heap.size ≤ N ∧ w'.heap[N]? = some (.cells #[.string ⟨#[65, 116, 111, 105]⟩, str l, .iface tp p] 102 (0, 0)) ∧ Below w.heap.size w w' from Any.strconv_Atoi_syntax_var Tryd.laysC172 (bs l) (by omega) (by rw [hd]; exact h) tp p w hv).mono ?_
    rintro e w' ⟨N, rfl, _, _, hb⟩
    exact ⟨_, by rw [show numV l = 0 from by simp [numV, h]], Turn.of_below hb⟩

theorem parse_calls (l : List UInt8) (hl : l.length ≤ 1000000) (w : World) (he : Env w) : Calls Tryd.prog 31 #[str l, .int .i64 10, .int .i64 64] w (NumR l w) := by
  have hs : (bs l).size = l.length := by simp [ByteArray.size]
  have hd : (bs l).data.toList = l := by simp
  cases h : Lib.atoiAll l with
  | ok v =>
    refine (Tryd.strconv_ParseInt_10_at64_ok (bs l) (by omega) v (by rw [hd, Lib.parseIntB_64]; exact h) w).mono ?_
    rintro e w' ⟨rfl, hw⟩
    refine ⟨_, by rw [show numV l = v from by simp [numV, h]], ?_⟩
    rcases hw with rfl | ⟨t, rfl⟩
    · exact Turn.refl _ _
    · exact Turn.of_below (Lib.bytesWorld_below _ _ _)
  | range =>
    obtain ⟨tp, p, hv⟩ := he.rng
    refine (Tryd.strconv_ParseInt_10_at64_range_var (bs l) (by omega) (by rw [hd, Lib.parseIntB_64]; exact h) tp p w hv).mono ?_
    rintro e w' ⟨N, rfl, _, _, hb⟩
    exact ⟨_, by rw [show numV l = Lib.atoiSat l from by simp [numV, h], hd, Lib.intSat_64], Turn.of_below hb⟩
  | _ =>
    obtain ⟨tp, p, hv⟩ := he.syn
    refine (show Calls Tryd.prog 31 #[str l, .int .i64 10, .int .i64 64] w fun e w' => ∃ N, e = .returned (.tuple #[.int .i64 (0), .iface 83 (.pointer (some ⟨N, 0, none⟩))]) ∧ w.heap.size ≤ N ∧ w'.heap[N]? = some (.cells #[.string ⟨#[80, 97, 114, 115, 101, 73, 110, 116]⟩, str l, .iface tp p] 102 (0, 0)) ∧ Below w.heap.size w w' from Any.strconv_ParseInt_10_at64_syntax_var Tryd.laysC174 (bs l) (by omega) (by rw [hd, Lib.parseIntB_64]; exact h) tp p w hv).mono ?_
    rintro e w' ⟨N, rfl, _, _, hb⟩
    exact ⟨_, by rw [show numV l = 0 from by simp [numV, h]], Turn.of_below hb⟩

/-- The pieces between blanks. -/
def piecesV (l : List UInt8) : Array Value := ((Lib.splitB (bs [32]) 0 (Lib.countB (bs l) (bs [32])) (bs l)).map Value.string).toArray
theorem pieces_eq (l : List UInt8) : piecesV l = ((Lib.split l [32]).map str).toArray := by
  have h := Lib.splitB_data (bs [32]) 0 (Lib.countB (bs l) (bs [32])) (bs l)
  have hd : (bs l).data.toList = l := by simp
  have hd2 : (bs [32]).data.toList = [32] := by simp
  have hc : Lib.countB (bs l) (bs [32]) = Lib.count l [32] := by unfold Lib.countB; rw [hd, hd2]
  rw [hd, hd2, hc] at h
  unfold piecesV Lib.split
  rw [hc, ← h, List.map_map]
  congr 1

theorem split_calls (l : List UInt8) (hl : l.length ≤ 1000000) (w : World) (he : Env w) :
    Calls Tryd.prog 29 #[str l, .string (bs [32])] w fun e w' => e = .returned (.slice (some ⟨w.heap.size, 0, none⟩) (Lib.split l [32]).length (Lib.split l [32]).length) ∧ w' = w.alloc (.cells ((Lib.split l [32]).map str).toArray 9) := by
  obtain ⟨m, hm⟩ := he.max
  have hs : (bs l).size = l.length := by simp [ByteArray.size]
  have hd : (bs l).data.toList = l := by simp
  have hd2 : (bs [32]).data.toList = [32] := by simp
  have hc : Lib.countB (bs l) (bs [32]) = Lib.count l [32] := by unfold Lib.countB; rw [hd, hd2]
  have hlen : (Lib.split l [32]).length = Lib.countB (bs l) (bs [32]) + 1 := by
    rw [hc]; exact split_len 32 _ l (Nat.lt_succ_self _)
  have hp := pieces_eq l
  unfold piecesV at hp
  refine (Tryd.strings_Split (bs l) (bs [32]) m w (by omega) hm (by decide)).mono ?_
  rintro e w' ⟨rfl, rfl⟩
  rw [hlen, hp]
  exact ⟨rfl, rfl⟩

end Go.Proofs.YtbeapjndgkjpeaaDoor
