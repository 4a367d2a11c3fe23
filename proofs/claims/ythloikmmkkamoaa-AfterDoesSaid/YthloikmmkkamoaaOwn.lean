/- The contract of own: registrations of the program as the document's. -/
import Derived.Test.YthloikmmkkamoaaLarge
namespace Go.Proofs.Ythloikmmkkamoaa
open Go.RowKit Go.Maps

theorem regs_take_snoc (xs : List Reg) (k : Nat) (h : k < xs.length) : regs (xs.take (k + 1)) = regs (xs.take k) ++ (xs.getD k default).cells := by
  rw [List.take_succ_eq_append_getElem h, regs_snoc]
  simp only [List.getD, List.getElem?_eq_getElem h, Option.getD_some]

set_option maxHeartbeats 800000 in
theorem own_core (b off n c : Nat) (xs : List Reg) (w : World) (hn : n ≤ 1000000) (hl : xs.length = n) (hx : ∀ k, k < n → RegAt w b off k (xs.getD k default)) :
    Calls Try.prog 16 #[.slice (some ⟨b, off, none⟩) n c] w (RetFresh 57 3 n (regs xs) w) := by
  obtain ⟨i0, hi, hz0, hz1, hz2⟩ := info_parts Try.info57
  have HX := Lib.hid hx
  have HL := Lib.hid hl
  clear hx hl
  go_enter Try.func16, Try.ntmps16
  go_wp2
  go_loopw [3, 9] (fun v i wr => ∃ k : Nat, k ≤ n ∧ i = .int .i64 k ∧ Hid (wr.ownsRow w.heap.size 57 3 v k (regs (xs.take k))) ∧ Hid (Turn nowhere w wr)) (fun _ i _ => n - (intOf i).toNat)
  case atStart => exact ⟨0, Nat.zero_le _, rfl, World.ownsRow_lit (base := w.heap.size) (size := 3) (e := 57) w #[] 0 (Nat.le_refl _) (by simp [maxLen]) rfl, (Turn.refl _ _).alloc _⟩
  case round =>
    obtain ⟨k, hk, rfl, HO, HT⟩ := hrel
    have h0 : (0 : Int) ≤ (k : Int) := by omega
    by_cases hlt : k < n
    · have h1 : (k : Int) < (n : Int) := by omega
      have hr := HX.out k hlt
      have a0 := HT.out.cell hr.1 (fun h => h)
      have a1 := HT.out.cell hr.2.1 (fun h => h)
      have a2 := HT.out.cell hr.2.2 (fun h => h)
      have HS := Lib.hid (regs_take_snoc xs k (by rw [HL.out]; exact hlt))
      clear hr
      generalize xs.getD k default = y at a0 a1 a2 HS
      obtain ⟨y0, y1, y2⟩ := y
      simp only at a0 a1 a2
      go_wp2_with (at_builtin; refine wpList_append_own_at _ rfl (.tmp 13) (.tmp 15) 43 rfl w.heap.size 57 i0 (.agg #[.int .i64 0, .int .i64 0, .int .i64 0]) 3 24 Try.underlying43 hi hz0 hz1 hz2 rfl (by decide) u3 k (regs (xs.take k)) rfl ?o1 ⟨wr.heap.size + 1, 0, none⟩ 1 1 [.int .i64 y0, .int .i64 y1, .int .i64 y2] rfl rfl ?o2 ?o3 ?o4 ?o5 ?o6 ?_)
      case o1 => exact (HO.out.alloc _).alloc _
      case o2 => exact World.news_of_block (cs := #[.int .i64 y0, .int .i64 y1, .int .i64 y2]) (t := 57) (fr := (0, 0)) (by
        have := heap_alloc_new (wr.alloc (.cells #[.int .i64 y0, .int .i64 y1, .int .i64 y2] 54)) (.cells #[.int .i64 y0, .int .i64 y1, .int .i64 y2] 57)
        simpa using this)
      case o3 => intro u hu; simp at hu; rcases hu with rfl | rfl | rfl <;> rfl
      case o4 => unfold maxLen; omega
      case o5 => omega
      case o6 => have := HT.out.size; simp; omega
      intro v' w2 hown hg _ _
      have HO2 := Lib.hid hown
      have HT2 := Lib.hid (show Turn nowhere w w2 from ((HT.out.alloc _).alloc _).grown hg (fun q hq hlt => by have := (HO.out.lt q hq).1; omega))
      clear hown hg
      go_wp2
      go_roundw
      case rel => exact ⟨k + 1, by omega, by go_num, by rw [HS.out]; exact HO2, HT2⟩
      case measure => simp [intOf]; omega
    · obtain rfl : k = n := by omega
      have htk : xs.take k = xs := by rw [← HL.out]; exact List.take_length
      rw [htk] at HO
      go_wp2
      go_ret
      exact ⟨_, rfl, HO.out, HT.out⟩

set_option maxHeartbeats 400000 in
/-- 'own'. -/
theorem own_calls (A : Option Addr) (n c : Nat) (xs : List Reg) (w : World) (hx : Reads w 3 A n (regs xs)) (hn : n ≤ 1000000) :
    Calls Try.prog 16 #[.slice A n c] w (RetFresh 57 3 n (regs xs) w) := by
  have hl : xs.length = n := by have := hx.1; rw [regs_len] at this; omega
  rcases Nat.eq_zero_or_pos n with h0 | h0
  · subst h0
    obtain rfl := List.eq_nil_of_length_eq_zero hl
    clear hx hl
    go_enter Try.func16, Try.ntmps16
    go_wp2
    refine wp_loop_rounds 1 ?_
    rw [rounds_succ]
    go_wp2
    go_ret
    exact ⟨_, rfl, World.ownsRow_lit (base := w.heap.size) (size := 3) (e := 57) w #[] 0 (Nat.le_refl _) (by simp [maxLen]) rfl, (Turn.refl _ _).alloc _⟩
  · obtain ⟨b, off, rfl, hc⟩ := hx.reg h0
    exact own_core b off n c xs w hn hl hc

end Go.Proofs.Ythloikmmkkamoaa
