/- The contract of awake: true. -/
import Derived.Test.YtbeapjndgkjpeaaDoorRead
import Derived.Test.YtbeapjndgkjpeaaDoorText
namespace Go.Proofs.YtbeapjndgkjpeaaDoor
open Go.RowKit Go.Maps

theorem reads_lit {w : World} {t : TypeId} {size n : Nat} (cs : Array Value) (hs : cs.size = n * size) (hn : n ≤ maxLen) : Reads (w.alloc (.cells cs t)) size (some ⟨w.heap.size, 0, none⟩) n cs.toList :=
  Reads.of_own (World.ownsRow_lit (base := 0) (e := t) w cs n (Nat.zero_le _) hn hs)

theorem read_more : ∀ {l acc : List Ev} {r : List UInt8}, (∀ x ∈ l, okEv x = true ∧ i64Ev x) → readFrom acc [] (l.flatMap lineOf ++ r) = readFrom (acc ++ l) [] r
  | [], acc, r, _ => by simp
  | x :: l, acc, r, h => by
    obtain ⟨h1, h2⟩ := h x (List.mem_cons_self ..)
    have ih := read_more (l := l) (acc := acc ++ [x]) (r := r) (fun y hy => h y (List.mem_cons_of_mem _ hy))
    have e : (x :: l).flatMap lineOf ++ r = body x ++ (10 :: (l.flatMap lineOf ++ r)) := by
      rw [List.flatMap_cons, lineOf_ok h1]; simp
    rw [e, read_chunk (body_no x), List.nil_append]
    conv => lhs; unfold readFrom
    rw [if_pos rfl, evOf_line h1 h2 (lineOf_ok h1)]
    simp only
    rw [ih]
    simp

def awL : List Ev := [⟨8, -1, 0, 5⟩, ⟨5, 2, 3, -9223372036854775808⟩]
def awT : List UInt8 := [99, 108, 111, 99, 107, 32, 45, 49, 32, 48, 32, 53, 10, 119, 111, 107, 101, 110, 32, 50, 32, 51, 32, 45, 57, 50, 50, 51, 51, 55, 50, 48, 51, 54, 56, 53, 52, 55, 55, 53, 56, 48, 56, 10]
def awB : List UInt8 := [99, 108, 111, 99, 107, 32, 49, 32, 50, 32, 48, 51, 10]
theorem awText : awL.flatMap lineOf = awT := by
  simp [awL, lineOf, wordOf, wordB, Lib.itoa, Lib.decDigits, awT]
theorem awOk : ∀ x ∈ awL, okEv x = true ∧ i64Ev x := by
  intro x hx
  simp only [awL, List.mem_cons, List.not_mem_nil, or_false] at hx
  rcases hx with rfl | rfl <;> exact ⟨by decide, by unfold i64Ev; decide⟩
theorem awRead : readFrom [] [] awT = .ok awL := by
  rw [← awText]
  exact read_text awOk
theorem awBad : readFrom [] [] (awT ++ awB) = .error 3 := by
  rw [← awText, read_more awOk]
  have hp : parseEv [99, 108, 111, 99, 107, 32, 49, 32, 50, 32, 48, 51] = ⟨8, 1, 2, 3⟩ := by decide
  have hn : evOf [99, 108, 111, 99, 107, 32, 49, 32, 50, 32, 48, 51] = none := by
    have h := (ev_law [99, 108, 111, 99, 107, 32, 49, 32, 50, 32, 48, 51]).2 (by
      rw [hp]
      simp [lineOf, wordOf, wordB, Lib.itoa, Lib.decDigits])
    rcases h.of with h | h
    · exact absurd h.2.1 (by decide)
    · exact h.1
  show readFrom awL [] ([99, 108, 111, 99, 107, 32, 49, 32, 50, 32, 48, 51] ++ [10]) = _
  rw [read_chunk (by decide)]
  unfold readFrom
  rw [if_pos rfl, List.nil_append, hn]
  rfl

def OkTrue (w : World) (e : Ending) (w' : World) : Prop := e = .returned (.bool true) ∧ Turn nowhere w w'
def awCells : Array Value := #[.int .i64 8, .int .i64 (-1), .int .i64 0, .int .i64 5, .int .i64 5, .int .i64 2, .int .i64 3, .int .i64 (-9223372036854775808)]

set_option maxRecDepth 20000 in
set_option maxHeartbeats 3200000 in
theorem awake_calls (w : World) (he : Env w) : Calls Tryd.prog 6 #[] w (OkTrue w) := by
  have HE := Lib.hid he
  have HT0 := Lib.hid ((Turn.refl nowhere w).alloc (.cells awCells 23))
  have HX0 := Lib.hid (reads_lit (w := w) (t := 23) (size := 4) (n := 2) awCells rfl (by simp [maxLen]))
  clear he
  go_enter Tryd.func6, Tryd.ntmps6
  go_wp2_with fail
  refine (text_calls _ 2 2 awL _ HX0.out (fun x hx => (awOk x hx).2) (by omega) (HE.out.turn HT0.out)).mono ?_
  rintro e w1 ⟨hr, ht⟩
  rcases hr with ⟨_, rfl⟩ | ⟨h, _⟩
  case inr => exact absurd h (by decide)
  rw [awText]
  have HT1 := Lib.hid (HT0.out.trans ht (fun _ _ h => h))
  have HX1 := Lib.hid (HX0.out.kept ht)
  have hT : (awT == [99, 108, 111, 99, 107, 32, 45, 49, 32, 48, 32, 53, 10, 119, 111, 107, 101, 110, 32, 50, 32, 51, 32, 45, 57, 50, 50, 51, 51, 55, 50, 48, 51, 54, 56, 53, 52, 55, 55, 53, 56, 48, 56, 10]) = true := by decide
  have hR := awRead
  have hB := awBad
  have hl : awT.length = 44 := rfl
  have hr := fun w => add_run awT [99, 108, 111, 99, 107, 32, 49, 32, 50, 32, 48, 51, 10] (by omega) (by simp) w
  obtain ⟨m, hm⟩ : ∃ m, m = awT ++ [99, 108, 111, 99, 107, 32, 49, 32, 50, 32, 48, 51, 10] := ⟨_, rfl⟩
  rw [← hm] at hr
  have hml : m.length = 57 := by rw [hm]; rfl
  have HB := Lib.hid (show readFrom [] [] m = .error 3 from by rw [hm]; exact hB)
  have HR := Lib.hid hR
  clear hR hB hm ht HT0 HX0
  generalize awT = T at hT hl hr HR ⊢
  go_wp2_with fail
  refine (read_calls T (by omega) _ (HE.out.turn HT1.out)).mono ?_
  rintro e w2 ⟨hq, ht⟩
  rw [HR.out] at hq
  rcases hq with ⟨l, v, hl, rfl, ho, _⟩ | ⟨k, h, _⟩
  case inr => cases h
  injection hl with hl
  subst hl
  obtain ⟨A2, c2, rfl, _, _⟩ := own_form ho
  have HO2 := Lib.hid (own_down ho (Nat.zero_le _))
  have HT2 := Lib.hid (HT1.out.trans ht (fun _ _ h => h))
  have HX2 := Lib.hid (HX1.out.kept ht)
  clear ho ht HT1 HX1 HR
  go_wp2_with fail
  refine (read_calls m (by omega) _ (HE.out.turn HT2.out)).mono ?_
  rintro e w3 ⟨hq, ht⟩
  rw [HB.out] at hq
  rcases hq with ⟨l, v, hl, _⟩ | ⟨k, h, rfl⟩
  case inl => cases hl
  injection h with h
  subst h
  have HO3 := Lib.hid (ht.own HO2.out (fun _ _ h => h))
  have HT3 := Lib.hid (HT2.out.trans ht (fun _ _ h => h))
  have HX3 := Lib.hid (HX2.out.kept ht)
  clear ht HT2 HX2 HO2 HB
  go_wp2_with fail
  refine (text_calls _ 1 1 [zeroEv] _ (reads_lit #[.int .i64 0, .int .i64 0, .int .i64 0, .int .i64 0] rfl (by simp [maxLen])) (fun x hx => by rw [List.mem_singleton.1 hx]; exact zero_i64) (by omega) (HE.out.turn (HT3.out.alloc _))).mono ?_
  rintro e w4 ⟨hq, ht⟩
  rcases hq with ⟨h, _⟩ | ⟨_, rfl⟩
  case inl => exact absurd h (by decide)
  have HO4 := Lib.hid (ht.own (HO3.out.alloc _) (fun _ _ h => h))
  have HT4 := Lib.hid ((HT3.out.alloc _).trans ht (fun _ _ h => h))
  have HX4 := Lib.hid (HX3.out.kept (((Turn.refl nowhere w3).alloc _).trans ht (fun _ _ h => h)))
  clear ht HT3 HX3 HO3
  go_wp2_with fail
  refine (own_calls A2 2 c2 awL _ (Reads.of_own HO4.out) (by omega)).mono ?_
  rintro e w5 ⟨v5, rfl, ho, ht⟩
  obtain ⟨A5, c5, rfl, _, _⟩ := own_form ho
  have HO5 := Lib.hid (Reads.of_own ho)
  have HT5 := Lib.hid (HT4.out.trans ht (fun _ _ h => h))
  have HX5 := Lib.hid (HX4.out.kept ht)
  clear ho ht HT4 HX4 HO4
  go_wp2_with fail
  refine (own_calls _ 2 _ awL _ HX5.out (by omega)).mono ?_
  rintro e w6 ⟨v6, rfl, ho, ht⟩
  obtain ⟨A6, c6, rfl, _, _⟩ := own_form ho
  have HO6 := Lib.hid (Reads.of_own ho)
  have HT6 := Lib.hid (HT5.out.trans ht (fun _ _ h => h))
  have HX6 := Lib.hid (HX5.out.kept ht)
  have HP6 := Lib.hid (HO5.out.kept ht)
  clear ho ht HT5 HX5 HO5
  go_wp2_with fail
  refine (same_calls A5 A6 2 c5 c6 awL _ HP6.out HO6.out (by omega)).mono ?_
  rintro e w7 ⟨rfl, ht⟩
  have HT7 := Lib.hid (HT6.out.trans ht (fun _ _ h => h))
  have HX7 := Lib.hid (HX6.out.kept ht)
  clear ht HT6 HX6 HO6 HP6
  go_wp2_with fail
  refine (line_calls ⟨9, 0, 0, 0⟩ ⟨by decide, by decide, by decide, by decide⟩ _ (HE.out.turn HT7.out)).mono ?_
  rintro e w8 ⟨rfl, ht⟩
  rw [(lineOf_nil _).2 (by decide)]
  have HT8 := Lib.hid (HT7.out.trans ht (fun _ _ h => h))
  have HX8 := Lib.hid (HX7.out.kept ht)
  clear ht HT7 HX7
  go_wp2_with fail
  refine (count_calls _ 2 _ awL 5 _ HX8.out (by omega)).mono ?_
  rw [show cnt awL 5 = 1 from by decide]
  rintro e w9 ⟨rfl, ht⟩
  have HT9 := Lib.hid (HT8.out.trans ht (fun _ _ h => h))
  have HX9 := Lib.hid (HX8.out.kept ht)
  clear ht HT8 HX8
  go_wp2_with fail
  refine (of_calls _ 2 _ 2 awL _ HX9.out (by omega)).mono ?_
  rw [show (ofT 2 awL).length = 1 from by decide]
  rintro e w10 ⟨v, rfl, ho, ht⟩
  obtain ⟨A10, c10, rfl, _, _⟩ := own_form ho
  have HT10 := Lib.hid (HT9.out.trans ht (fun _ _ h => h))
  clear ho ht HT9 HX9
  go_wp2
  go_ret
  exact ⟨rfl, HT10.out⟩

end Go.Proofs.YtbeapjndgkjpeaaDoor
