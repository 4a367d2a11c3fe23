/- The contract of awake: true. -/
import Derived.Test.YthloikmmkkamoaaOwn
namespace Go.Proofs.Ythloikmmkkamoaa
open Go.RowKit Go.Maps

theorem wfi_of {i : Int} (h : -9223372036854775808 ≤ i ∧ i ≤ 9223372036854775807) : wfi i := WalkArith.wf_i64 (by omega)

theorem wf_all {l : List Int} (h : l.all (fun i => decide (-9223372036854775808 ≤ i ∧ i ≤ 9223372036854775807)) = true) : ∀ k, k < l.length → wfi (l.getD k 0) := by
  intro k hk
  have := List.all_eq_true.1 h l[k] (List.getElem_mem hk)
  simp only [List.getD, List.getElem?_eq_getElem hk, Option.getD_some]
  exact wfi_of (by simpa using this)
theorem below_step {w a b : World} {F : Nat → Prop} (hb : Turn nowhere w a) (ht : Turn F a b) (hl : ∀ k, F k → w.heap.size ≤ k) : Turn nowhere w b :=
  hb.trans ht (fun k hk h => by have := hl k h; omega)
theorem least_step {w a b : World} {F : Nat → Prop} (hb : Turn nowhere w a) (hl : ∀ k, F k → w.heap.size ≤ k) : ∀ k, more F a b k → w.heap.size ≤ k := by
  rintro k (h | h)
  · exact hl k h
  · have := hb.size; omega
theorem reads_new {w : World} {t : TypeId} {size n : Nat} (cs : Array Value) (hs : cs.size = n * size) (hn : n ≤ maxLen) : Reads (w.alloc (.cells cs t)) size (some ⟨w.heap.size, 0, none⟩) n cs.toList :=
  Reads.of_own (World.ownsRow_lit (base := 0) (e := t) w cs n (Nat.zero_le _) hn hs)
theorem off_new {F : Nat → Prop} {b off : Nat} (h : ∀ k, F k → k < b) : Off F (some ⟨b, off, none⟩) := by
  intro ad he hF
  obtain rfl : (⟨b, off, none⟩ : Addr) = ad := by simpa using he
  exact absurd (h _ hF) (Nat.lt_irrefl _)

def TrueBelow (w : World) (e : Ending) (w' : World) : Prop := e = .returned (.bool true) ∧ Turn nowhere w w'

set_option maxHeartbeats 1600000 in
theorem awake_calls (w : World) : Calls Try.prog 6 #[] w (TrueBelow w) := by
  go_enter Try.func6, Try.ntmps6
  go_wp2_with fail
  refine (new_ok 3 w (by omega) (by omega)).mono ?_
  rintro e w1 ⟨lb, rfl, ha, ht⟩
  have HA1 := Lib.hid ha
  have HB1 := Lib.hid ht
  have HL1 := Lib.hid (show ∀ k, fresh w w1 k → w.heap.size ≤ k from fun k h => h.1)
  clear ha ht
  go_wp2_with fail
  refine (new_bad 0 w1 (by omega)).mono ?_
  rintro e w2 ⟨rfl, rfl⟩
  go_wp2_with fail
  refine (add_room (on := 7) (thing := 1) HA1.out (by decide) (by decide) (wfi_of (by omega)) (by omega)).mono ?_
  rintro e w2 ⟨rfl, ha, ht⟩
  have HA2 := Lib.hid ha
  have HB2 := Lib.hid (below_step HB1.out ht HL1.out)
  have HL2 := Lib.hid (least_step (b := w2) HB1.out HL1.out)
  clear ha ht
  go_wp2_with fail
  refine (add_room (on := 8) (thing := 2) HA2.out (by decide) (by decide) (wfi_of (by omega)) (by omega)).mono ?_
  rintro e w3 ⟨rfl, ha, ht⟩
  have HA3 := Lib.hid ha
  have HB3 := Lib.hid (below_step HB2.out ht HL2.out)
  have HL3 := Lib.hid (least_step (b := w3) HB2.out HL2.out)
  clear ha ht
  go_wp2_with fail
  refine (add_room (on := 7) (thing := 3) HA3.out (by decide) (by decide) (wfi_of (by omega)) (by omega)).mono ?_
  rintro e w4 ⟨rfl, ha, ht⟩
  have HA4 := Lib.hid ha
  have HB4 := Lib.hid (below_step HB3.out ht HL3.out)
  have HL4 := Lib.hid (least_step (b := w4) HB3.out HL3.out)
  clear ha ht
  go_wp2_with fail
  refine (add_full (on := 7) (thing := 4) HA4.out (by decide)).mono ?_
  rintro e w5 ⟨rfl, rfl⟩
  go_wp2_with fail
  refine (stop_yes (k := 0) HA4.out (by decide) (by omega) (by decide) (by decide)).mono ?_
  rintro e w5 ⟨rfl, ha, ht⟩
  have HA5 := Lib.hid ha
  have HB5 := Lib.hid (below_step HB4.out ht HL4.out)
  have HL5 := Lib.hid (least_step (b := w5) HB4.out HL4.out)
  clear ha ht
  go_wp2_with fail
  refine (stop_no (x := 0) HA5.out (by decide) (.inr (.inr ⟨0, by omega, by decide, by decide⟩))).mono ?_
  rintro e w6 ⟨rfl, ht⟩
  have HA6 := Lib.hid (HA5.out.turn ht (fun _ _ h => h))
  have HB6 := Lib.hid (HB5.out.trans ht (fun _ _ h => h))
  clear ht HA5 HB1 HB2 HB3 HB4 HB5 HA1 HA2 HA3 HA4 HL1 HL2 HL3 HL4
  generalize more (more (more (more (fresh w w1) w1 w2) w2 w3) w3 w4) w4 w5 = F at HA6 HL5
  go_wp2_with fail
  refine (waiting_calls (on := 7) HA6.out (by decide) (wfi_of (by omega))).mono ?_
  rintro e w7 ⟨v7, rfl, ho, ht⟩
  have e7 : waiting (setSt ([] ++ [⟨7, 1, 1⟩] ++ [⟨8, 2, 1⟩] ++ [⟨7, 3, 1⟩]) 0 3) 7 = [2] := by decide
  rw [e7] at ho
  obtain ⟨A7, c7, rfl, _, _⟩ := own_form ho
  have HO7 := Lib.hid ho
  have HA7 := Lib.hid (HA6.out.turn ht (fun _ _ h => h))
  have HB7 := Lib.hid (HB6.out.trans ht (fun _ _ h => h))
  have HF7 := Lib.hid (show ∀ g, (Value.slice A7 [(2 : Int)].length c7).ownBlock = some g → ¬ F g from fun g hg hF => by have := HA6.out.fb g hF; have := (ho.lt g hg).1; omega)
  clear ho ht e7
  go_wp2_with fail
  have HA8 := Lib.hid (HA7.out.turn ((Turn.refl nowhere w7).alloc (.cells #[.int .i64 7] 3)) (fun _ _ h => h))
  refine (fire_any HA8.out (by decide) (some ⟨w7.heap.size, 0, none⟩) 1 1 [7] (by omega) (reads_new #[.int .i64 7] rfl (by simp [maxLen])) (fun _ => off_new HA7.out.fb) (wf_all (l := [7]) (by decide))).mono ?_
  rintro e w9 ⟨v9, rfl, ho, ha, ht⟩
  have e9 : fireTo (setSt ([] ++ [⟨7, 1, 1⟩] ++ [⟨8, 2, 1⟩] ++ [⟨7, 3, 1⟩]) 0 3) [7] = ([⟨7, 1, 3⟩, ⟨8, 2, 1⟩, ⟨7, 3, 2⟩], [2]) := by decide
  rw [e9] at ho ha
  obtain ⟨A9, c9, rfl, _, _⟩ := own_form ho
  have HO9 := Lib.hid ho
  have HA9 := Lib.hid ha
  have HB9 := Lib.hid (below_step (HB7.out.alloc (.cells #[.int .i64 7] 3)) ht HL5.out)
  have HO7b := Lib.hid (ht.own (HO7.out.alloc (.cells #[.int .i64 7] 3)) HF7.out)
  have HF9 := Lib.hid (show ∀ g, (Value.slice A9 [(2 : Int)].length c9).ownBlock = some g → ¬ F g from fun g hg hF => by have := HA8.out.fb g hF; have := (ho.lt g hg).1; omega)
  clear ho ha ht e9
  go_wp2_with fail
  have HA10 := Lib.hid (HA9.out.turn ((Turn.refl nowhere w9).alloc (.cells #[.int .i64 9, .int .i64 7, .int .i64 8] 3)) (fun _ _ h => h))
  refine (fire_any HA10.out (by decide) (some ⟨w9.heap.size, 0, none⟩) 3 3 [9, 7, 8] (by omega) (reads_new #[.int .i64 9, .int .i64 7, .int .i64 8] rfl (by simp [maxLen])) (fun _ => off_new HA9.out.fb) (wf_all (l := [9, 7, 8]) (by decide))).mono ?_
  rintro e w11 ⟨v11, rfl, ho, ha, ht⟩
  have e11 : fireTo [⟨7, 1, 3⟩, ⟨8, 2, 1⟩, ⟨7, 3, 2⟩] [9, 7, 8] = ([⟨7, 1, 3⟩, ⟨8, 2, 2⟩, ⟨7, 3, 2⟩], [1]) := by decide
  rw [e11] at ho ha
  obtain ⟨A11, c11, rfl, _, _⟩ := own_form ho
  have HO11 := Lib.hid ho
  have HA11 := Lib.hid ha
  have HB11 := Lib.hid (below_step (HB9.out.alloc (.cells #[.int .i64 9, .int .i64 7, .int .i64 8] 3)) ht HL5.out)
  have HO7c := Lib.hid (ht.own (HO7b.out.alloc (.cells #[.int .i64 9, .int .i64 7, .int .i64 8] 3)) HF7.out)
  have HO9c := Lib.hid (ht.own (HO9.out.alloc (.cells #[.int .i64 9, .int .i64 7, .int .i64 8] 3)) HF9.out)
  clear ho ha ht e11 HA6 HA7 HA8 HA9 HA10 HO7 HO7b HO9 HB6 HB7 HB9 HF7 HF9
  go_wp2_with fail
  refine (same_calls A7 _ 1 1 c7 1 [2] [2] _ (Reads.of_own (HO7c.out.alloc _)) (reads_new #[.int .i64 2] rfl (by simp [maxLen])) (by omega)).mono ?_
  rintro e w12 ⟨rfl, j12, hw⟩
  have HT12 := Lib.hid (show Turn nowhere w11 w12 from by rw [hw]; exact ((Turn.refl _ _).alloc _).drewN _)
  clear hw
  go_wp2_with fail
  refine (same_calls A9 _ 1 1 c9 1 [2] [2] _ (Reads.of_own ((HT12.out.own HO9c.out (fun _ _ h => h)).alloc _)) (reads_new #[.int .i64 2] rfl (by simp [maxLen])) (by omega)).mono ?_
  rintro e w13 ⟨rfl, j13, hw⟩
  have HT13 := Lib.hid (show Turn nowhere w11 w13 from by rw [hw]; exact (HT12.out.alloc _).drewN _)
  clear hw
  go_wp2_with fail
  refine (same_calls A11 _ 1 1 c11 1 [1] [1] _ (Reads.of_own ((HT13.out.own HO11.out (fun _ _ h => h)).alloc _)) (reads_new #[.int .i64 1] rfl (by simp [maxLen])) (by omega)).mono ?_
  rintro e w14 ⟨rfl, j14, hw⟩
  have HT14 := Lib.hid (show Turn nowhere w11 w14 from by rw [hw]; exact (HT13.out.alloc _).drewN _)
  clear hw
  go_wp2_with fail
  refine (rows_calls (HA11.out.turn HT14.out (fun _ _ h => h)) (by decide)).mono ?_
  rintro e w15 ⟨v15, rfl, ho, ht⟩
  obtain ⟨A15, c15, rfl, _, _⟩ := own_form ho
  have HO15 := Lib.hid ho
  have HT15 := Lib.hid (HT14.out.trans ht (fun _ _ h => h))
  clear ho ht
  go_wp2_with fail
  refine (own_calls A15 3 c15 _ _ (Reads.of_own HO15.out) (by omega)).mono ?_
  rintro e w16 ⟨v16, rfl, ho, ht⟩
  obtain ⟨A16, c16, rfl, _, _⟩ := own_form ho
  have HO16 := Lib.hid ho
  have HT16 := Lib.hid (HT15.out.trans ht (fun _ _ h => h))
  clear ho ht
  go_wp2_with fail
  refine (sameR_calls A16 _ 3 3 c16 3 [⟨7, 1, 3⟩, ⟨8, 2, 2⟩, ⟨7, 3, 2⟩] [⟨7, 1, 3⟩, ⟨8, 2, 2⟩, ⟨7, 3, 2⟩] _ (Reads.of_own (HO16.out.alloc _)) (reads_new #[.int .i64 7, .int .i64 1, .int .i64 3, .int .i64 8, .int .i64 2, .int .i64 2, .int .i64 7, .int .i64 3, .int .i64 2] rfl (by simp [maxLen])) (by omega)).mono ?_
  rintro e w17 ⟨rfl, j17, hw⟩
  have HT17 := Lib.hid (show Turn nowhere w11 w17 from by rw [hw]; exact (HT16.out.alloc _).drewN _)
  clear hw
  go_wp2
  go_ret
  exact ⟨rfl, HB11.out.trans HT17.out (fun _ _ h => h)⟩

end Go.Proofs.Ythloikmmkkamoaa
