/- The contract of Read. -/
import Derived.Test.YtbeapjndgkjpeaaDoorUtf
import Derived.Test.YtbeapjndgkjpeaaDoorOf
import Derived.OwnWalk
namespace Go.Proofs.YtbeapjndgkjpeaaDoor
open Go.RowKit Go.Maps

def ReadR (L : List UInt8) (w : World) (e : Ending) (w' : World) : Prop :=
  ((∃ l v, readFrom [] [] L = .ok l ∧ e = .returned (.tuple #[v, .int .i64 0, .int .i64 0]) ∧ w'.ownsRow w.heap.size 23 4 v l.length (evs l) ∧ l.length ≤ L.length) ∨
    (∃ k : Nat, readFrom [] [] L = .error k ∧ e = .returned (.tuple #[.slice none 0 0, .int .i64 k, .int .i64 7]))) ∧ Turn nowhere w w'

theorem own_down {w : World} {base base' : Nat} {e : TypeId} {size n : Nat} {v : Value} {xs : List Value} (h : w.ownsRow base e size v n xs) (hb : base' ≤ base) : w.ownsRow base' e size v n xs := by
  obtain ⟨h1, h2⟩ := h
  rcases h2 with h2 | ⟨g, cap, cur, a, b, r⟩
  · exact ⟨h1, .inl h2⟩
  · exact ⟨h1, .inr ⟨g, cap, cur, a, by omega, r⟩⟩

theorem wrap_small {n : Int} (h : -9223372036854775808 ≤ n ∧ n ≤ 9223372036854775807) : wrap64 n = n := by unfold wrap64; omega
theorem own_block_ge {w : World} {base : Nat} {e : TypeId} {size n : Nat} {v : Value} {xs : List Value} (h : w.ownsRow base e size v n xs) {g : Nat} (hg : v.ownBlock = some g) : base ≤ g := by
  rcases h.2 with ⟨rfl, _⟩ | ⟨g', cap, cur, rfl, hb, _⟩
  · cases hg
  · injection hg with hg
    simp at hg
    omega
theorem reads_new (w : World) (x : Ev) : Reads (w.alloc (.cells #[.int .i64 x.kind, .int .i64 x.task, .int .i64 x.a, .int .i64 x.n] 23)) 4 (some ⟨w.heap.size, 0, none⟩) 1 x.cells :=
  ⟨rfl, fun _ => ⟨w.heap.size, 0, rfl, fun j u hu => by
    have := World.news_of_block (heap_alloc_new w (.cells #[.int .i64 x.kind, .int .i64 x.task, .int .i64 x.a, .int .i64 x.n] 23)) j u hu
    rw [add_plain] at this
    exact this⟩⟩

attribute [local go_sem ↓] Go.wp_at_zero Go.wp_at_succ

set_option maxRecDepth 20000 in
set_option maxHeartbeats 1600000 in
theorem read_calls (L : List UInt8) (hL : L.length ≤ 1000000) (w : World) (he : Env w) : Calls Tryd.prog 10 #[str L] w (ReadR L w) := by
  obtain ⟨i0, hi, hz0, hz1, hz2⟩ := info_parts Tryd.info23
  have HE := Lib.hid he
  have hsz : (bs L).size = L.length := by simp [ByteArray.size]
  have HSZ := Lib.hid hsz
  clear he hsz
  go_enter Tryd.func10, Tryd.ntmps10
  go_wp2
  go_loopg [5, 6] L.length (fun g v f wr => ∃ (pos frm : Nat) (acc : List Ev), g = L.length - pos ∧ f = .int .i64 frm ∧ Hid (RdAt L pos frm acc) ∧ Hid (wr.heap[w.heap.size]? = some (.stringIter (bs L) pos)) ∧ Hid (Turn nowhere w wr) ∧ Hid (wr.ownsRow (w.heap.size + 1) 23 4 v acc.length (evs acc)))
  case atStart => exact ⟨0, 0, [], rfl, rfl, RdAt.start L, World.iter_heap w (bs L) 0, (Turn.refl _ _).alloc _, World.ownsRow_nil _ _ _ _⟩
  case round =>
    obtain ⟨pos, frm, acc, rfl, rfl, HR, HI, HT, HO⟩ := hrel
    have hf0 := HR.out.le
    have hf1 := HR.out.len
    obtain ⟨A, c, rfl, hc1, hc2⟩ := own_form HO.out
    by_cases hp : pos < L.length
    case pos =>
      obtain ⟨r, k, hrk⟩ : ∃ r k, Utf8.decode (bs L) pos = (r, k) := ⟨_, _, rfl⟩
      obtain ⟨k1, k2, r1, hcs⟩ := rune_chunk L pos hp r k hrk
      have hnx : ∀ ty, (Instr.next (.pointer (some ⟨w.heap.size, 0, none⟩)) true ty).run Tryd.prog wr = _ := fun ty => Lib.run_next_any_at wr w.heap.size (bs L) pos ty HI.out (by rw [HSZ.out]; exact hp)
      rw [hrk] at hnx
      simp only at hnx
      have HI2 := Lib.hid (Lib.iterAt_heap wr w.heap.size (bs L) pos (pos + k) HI.out)
      have HT2 := Lib.hid (HT.out.iterAt (k := w.heap.size) (Nat.le_refl _) (bs L) (pos + k))
      have HO2 := Lib.hid (ownsRow_iterAt HO.out (k := w.heap.size) (by omega) (bs L) (pos + k))
      generalize wr.iterAt w.heap.size (bs L) (pos + k) = w2 at hnx HI2 HT2 HO2
      rcases hcs with ⟨rfl, rfl, hd⟩ | ⟨hr, hn⟩
      · have HL := Lib.hid (fun x => HR.out.line hd hp (x := x))
        have hq1 : (frm : Int) ≤ (pos : Int) := by omega
        have hq2 : (0 : Int) ≤ (frm : Int) := by omega
        have hq3 : (pos : Int) ≤ ((bs L).size : Int) := by rw [HSZ.out]; omega
        have hex : (bs L).extract frm pos = bs ((L.drop frm).take (pos - frm)) := ByteArray.extract_mk L frm pos
        have hsl : ∀ wx, (Instr.slice 9 (.string (bs L)) (some (.int .i64 frm)) (some (.int .i64 pos)) none).run Tryd.prog wx = .ok (str ((L.drop frm).take (pos - frm))) wx := by
          intro wx
          have := run_slice_string (P := Tryd.prog) wx 9 (bs L) .i64 .i64 frm pos Tryd.underlying9 hq2 hq1 hq3
          simpa [hex] using this
        have HEV := Lib.hid (HE.out.turn HT2.out)
        have hll : ((L.drop frm).take (pos - frm)).length ≤ 1000000 := by simp; omega
        clear hd hrk hc1 hc2
        go_wp2_with fail
        refine (event_calls _ hll _ HEV.out).mono ?_
        rintro e w3 ⟨x, rfl, hx, hxi, ht⟩
        have HO3 := Lib.hid (ht.own HO2.out (fun _ _ h => h))
        have HT3 := Lib.hid (HT2.out.trans ht (fun _ _ h => h))
        have HI3 := Lib.hid (ht.obj HI2.out (fun h => h))
        rcases HL.out x hx with ⟨hk, hr⟩ | ⟨hk, hr⟩
        · have hb : (x.kind == 0) = false := beq_eq_false_iff_ne.2 hk
          have HR2 := Lib.hid hr
          clear hk hr hx hnx
          have hfew := HR.out.few
          go_wp2_with (at_builtin; refine wpList_append_reads _ rfl (.tmp 29) (.tmp 31) 24 rfl (w.heap.size + 1) 23 i0 (.agg #[.int .i64 0, .int .i64 0, .int .i64 0, .int .i64 0]) 4 32 Tryd.underlying24 hi hz0 hz1 hz2 rfl (by decide) (.slice A acc.length c) acc.length (evs acc) rfl ?o1 (some ⟨w3.heap.size + 1, 0, none⟩) 1 1 x.cells rfl ?o2 ?o3 ?o4 ?o5 ?o6 ?_)
          case o1 => exact (HO3.out.alloc _).alloc _
          case o2 => simpa using reads_new (w3.alloc (.cells #[.int .i64 x.kind, .int .i64 x.task, .int .i64 x.a, .int .i64 x.n] 23)) x
          case o3 => exact fun u hu => evs_one [x] u (by simpa [evs] using hu)
          case o4 => unfold maxLen; omega
          case o5 => omega
          case o6 => have := HT3.out.size; simp; omega
          intro v w5 hown hgr _
          rw [← evs_snoc] at hown
          have HO5 := Lib.hid hown
          have HT5 := Lib.hid (((HT3.out.alloc _).alloc _).grown hgr (fun g hg hlt => absurd (own_block_ge HO3.out hg) (by omega)))
          have HI5 := Lib.hid (show w5.heap[w.heap.size]? = some (.stringIter (bs L) (pos + 1)) from by
            have hlt := lt_of_block HI3.out
            rw [hgr.block w.heap.size (by simp; omega) (fun e => absurd (own_block_ge HO3.out e.symm) (by omega)), Below.heap_alloc _ _ _ (by simp; omega), Below.heap_alloc _ _ _ hlt]
            exact HI3.out)
          clear hown hgr
          go_wp2
          go_roundg (L.length - (pos + 1))
          case rel => exact ⟨pos + 1, pos + 1, acc ++ [x], rfl, by go_num, HR2, HI5, HT5, by rw [List.length_append, List.length_singleton]; exact HO5⟩
          case measure => omega
        · have hb : (x.kind == 0) = true := by simpa using hk
          have HR2 := Lib.hid hr
          clear hk hr hx hnx
          go_wp2
          go_ret3
          have hfew := HR.out.few
          exact ⟨.inr ⟨_, HR2.out, by simp [wrap_small (n := (acc.length : Int) + 1) (by omega)]⟩, HT3.out.alloc _⟩
      · have hb : ((r : Int) != 10) = true := by rw [bne_iff_ne]; omega
        have HN := Lib.hid (HR.out.step k2 hn)
        clear hn hrk hc1 hc2 hr
        go_wp2_with fail
        go_roundg (L.length - (pos + k))
        case rel => exact ⟨pos + k, frm, acc, rfl, rfl, HN, HI2, HT2, HO2⟩
        case measure => omega
    case neg =>
      obtain rfl : pos = L.length := by omega
      have hnx : ∀ ty, (Instr.next (.pointer (some ⟨w.heap.size, 0, none⟩)) true ty).run Tryd.prog wr = _ := fun ty => Lib.run_next_end_at wr w.heap.size (bs L) L.length ty HI.out (by rw [HSZ.out]; exact hp)
      have hfin := HR.out.fin
      have hq3 : ((bs L).size : Int) = (L.length : Int) := by rw [HSZ.out]
      have hfew := HR.out.few
      by_cases hf : frm < L.length
      case pos =>
        rw [if_pos hf] at hfin
        have HF := Lib.hid hfin
        have hfi : (frm : Int) < (L.length : Int) := by omega
        clear hfin hp
        go_wp2
        go_ret3
        exact ⟨.inr ⟨_, HF.out, by simp⟩, HT.out⟩
      case neg =>
        rw [if_neg hf] at hfin
        have HF := Lib.hid hfin
        have hfi : ¬ (frm : Int) < (L.length : Int) := by omega
        clear hfin hp
        go_wp2
        go_ret3
        exact ⟨.inl ⟨_, _, HF.out, rfl, own_down HO.out (by omega), by omega⟩, HT.out⟩

end Go.Proofs.YtbeapjndgkjpeaaDoor
