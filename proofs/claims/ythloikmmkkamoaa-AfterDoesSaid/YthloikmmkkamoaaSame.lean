/- Contracts of the two functions Same: lists of numbers, and of registrations, are compared element by element. -/
import Derived.Test.YthloikmmkkamoaaRows
import Derived.Test.YthloikmmkkamoaaWords
import Derived.WalkKit
import Derived.Deep.QuietTactic
import Derived.BigQuiet
import Derived.WalkSpells
namespace Go.Proofs.Ythloikmmkkamoaa
open Go.RowKit Go.Maps

/-- int cells -/
abbrev ints (xs : List Int) : List Value := xs.map (Value.int .i64)

theorem ints_at {xs : List Int} {k : Nat} (h : k < xs.length) : (ints xs)[k]? = some (.int .i64 (xs.getD k 0)) := by
  simp [List.getElem?_map, List.getElem?_eq_getElem h, List.getD]

theorem take_eq_step {xs ys : List Int} {k : Nat} (hx : k < xs.length) (hy : k < ys.length) (h : xs.take k = ys.take k) (he : xs.getD k 0 = ys.getD k 0) : xs.take (k + 1) = ys.take (k + 1) := by
  rw [List.take_succ_eq_append_getElem hx, List.take_succ_eq_append_getElem hy, h]
  simp only [List.getD, List.getElem?_eq_getElem hx, List.getElem?_eq_getElem hy, Option.getD_some] at he
  rw [he]

theorem drewN_twice (w : World) (a b : Nat) : ∃ j, (w.drewN a).drewN b = w.drewN j := ⟨a + b, by simp⟩

set_option maxHeartbeats 400000 in
theorem same_core (b off c oc n ca cb : Nat) (xs ys : List Int) (w : World) (hn : n ≤ 1000000) (hxl : xs.length = n) (hyl : ys.length = n)
    (hx : ∀ k, k < n → w.cell? ⟨b, off + k, none⟩ = some (.int .i64 (xs.getD k 0))) (hy : ∀ k, k < n → w.cell? ⟨c, oc + k, none⟩ = some (.int .i64 (ys.getD k 0))) :
    Calls Try.prog 14 #[.slice (some ⟨b, off, none⟩) n ca, .slice (some ⟨c, oc, none⟩) n cb] w fun e w' => e = .returned (.bool (decide (xs = ys))) ∧ ∃ j, w' = w.drewN j := by
  have HX := Lib.hid hx
  have HY := Lib.hid hy
  have HXL := Lib.hid hxl
  have HYL := Lib.hid hyl
  clear hx hy hxl hyl
  go_enter Try.func14, Try.ntmps14
  go_wp2
  go_loopw [5] (fun i wr => ∃ k j : Nat, k ≤ n ∧ i = .int .i64 k ∧ Hid (xs.take k = ys.take k) ∧ wr = w.drewN j) (fun i _ => n - (intOf i).toNat)
  case atStart => exact ⟨0, 0, Nat.zero_le _, rfl, rfl, rfl⟩
  case round =>
    obtain ⟨k, j, hk, rfl, ht, rfl⟩ := hrel
    by_cases hlt : k < n
    · have h0 : (0 : Int) ≤ (k : Int) := by omega
      have h1 : (k : Int) < (n : Int) := by omega
      have hcx := HX.out k hlt
      have hcy := HY.out k hlt
      by_cases he : xs.getD k 0 = ys.getD k 0
      · have HT := Lib.hid (take_eq_step (by rw [HXL.out]; exact hlt) (by rw [HYL.out]; exact hlt) ht.out he)
        rw [← he] at hcy
        clear he ht
        generalize xs.getD k 0 = p at hcx hcy
        go_wp2_with fail
        go_quiet (fail)
        go_wp2
        go_roundw
        case rel => exact ⟨k + 1, _, by omega, by go_num, HT, rfl⟩
        case measure => simp [intOf]; omega
      · have hb : (xs.getD k 0 != ys.getD k 0) = true := by simpa using he
        have HN := Lib.hid (show xs ≠ ys from fun e => he (by rw [e]))
        clear he ht
        generalize xs.getD k 0 = p at hcx hb
        generalize ys.getD k 0 = q at hcy hb
        go_wp2_with fail
        go_quiet (fail)
        go_wp2
        go_ret
        exact ⟨by simp [HN.out], drewN_twice _ _ _⟩
    · have hkn : k = n := by omega
      have HE := Lib.hid (show xs = ys from by
        have h := ht.out
        rwa [List.take_of_length_le (by rw [HXL.out]; omega), List.take_of_length_le (by rw [HYL.out]; omega)] at h)
      clear ht
      subst hkn
      go_wp2
      go_ret
      exact ⟨by simp [HE.out], _, rfl⟩

/-- 'Same(a, b)' of two lists of numbers. -/
theorem same_calls (A B : Option Addr) (n m ca cb : Nat) (xs ys : List Int) (w : World) (hx : Reads w 1 A n (ints xs)) (hy : Reads w 1 B m (ints ys)) (hn : n ≤ 1000000) :
    Calls Try.prog 14 #[.slice A n ca, .slice B m cb] w fun e w' => e = .returned (.bool (decide (xs = ys))) ∧ ∃ j, w' = w.drewN j := by
  have hxl : xs.length = n := by simpa using hx.1
  have hyl : ys.length = m := by simpa using hy.1
  by_cases hnm : n = m
  · subst hnm
    rcases Nat.eq_zero_or_pos n with h0 | h0
    · subst h0
      obtain rfl := List.eq_nil_of_length_eq_zero hxl
      obtain rfl := List.eq_nil_of_length_eq_zero hyl
      clear hx hy hxl hyl
      go_enter Try.func14, Try.ntmps14
      go_wp2
      refine wp_loop_rounds 1 ?_
      rw [rounds_succ]
      go_wp2
      go_ret
      exact ⟨rfl, 0, rfl⟩
    · obtain ⟨b, off, rfl, hc⟩ := hx.2 h0
      obtain ⟨c, oc, rfl, hd⟩ := hy.2 h0
      exact same_core b off c oc n ca cb xs ys w hn hxl hyl (fun k hk => hc k _ (ints_at (by omega))) (fun k hk => hd k _ (ints_at (by omega)))
  · have hb : ((n : Int) != (m : Int)) = true := by rw [bne_iff_ne]; omega
    have HN := Lib.hid (show xs ≠ ys from fun e => hnm (by rw [← hxl, ← hyl, e]))
    clear hx hy hxl hyl
    go_enter Try.func14, Try.ntmps14
    go_wp2
    go_ret
    exact ⟨by simp [HN.out], 0, rfl⟩

end Go.Proofs.Ythloikmmkkamoaa
