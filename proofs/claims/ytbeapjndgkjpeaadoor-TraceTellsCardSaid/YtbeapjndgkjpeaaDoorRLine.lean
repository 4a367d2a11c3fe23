/- The reference's side: the contract of Line. -/
import Derived.Test.YtbeapjndgkjpeaaDoorDig
namespace Go.Proofs.YtbeapjndgkjpeaaDoor
open Go.RowKit Go.Maps

abbrev wordCells : Array Value := #[str [], str [98, 101, 103, 97, 110], str [101, 110, 100, 101, 100], str [102, 97, 105, 108, 101, 100], str [112, 97, 114, 107, 101, 100], str [119, 111, 107, 101, 110], str [100, 111, 110, 101], str [114, 97, 110, 103], str [99, 108, 111, 99, 107]]
theorem wordCells_at (k : Nat) (h : k < 9) : wordCells[k]? = some (str (wordB k)) := by
  have : k = 0 ∨ k = 1 ∨ k = 2 ∨ k = 3 ∨ k = 4 ∨ k = 5 ∨ k = 6 ∨ k = 7 ∨ k = 8 := by omega
  rcases this with rfl | rfl | rfl | rfl | rfl | rfl | rfl | rfl | rfl <;> rfl

set_option maxRecDepth 20000 in
set_option maxHeartbeats 3200000 in
theorem rline_none (x : Ev) (hok : okEv x = false) (w : World) : Calls Tryd.prog 13 #[.agg #[.int .i64 x.kind, .int .i64 x.task, .int .i64 x.a, .int .i64 x.n]] w (LineR x w) := by
  have hl := (lineOf_nil x).2 hok
  have HL := Lib.hid hl
  obtain ⟨k, t, a, n⟩ := x
  simp only [okEv] at hok
  by_cases h1 : k < 1
  · clear hok hl
    go_enter Tryd.func13, Tryd.ntmps13
    go_wp2
    go_ret
    exact ⟨by rw [HL.out]; rfl, (Turn.refl _ _).alloc _⟩
  · have h2 : (8 : Int) < k := by
      simp at hok
      omega
    clear hok hl
    go_enter Tryd.func13, Tryd.ntmps13
    go_wp2
    go_ret
    exact ⟨by rw [HL.out]; rfl, (Turn.refl _ _).alloc _⟩

set_option maxRecDepth 20000 in
set_option maxHeartbeats 3200000 in
theorem rline_calls (x : Ev) (hi : i64Ev x) (w : World) : Calls Tryd.prog 13 #[.agg #[.int .i64 x.kind, .int .i64 x.task, .int .i64 x.a, .int .i64 x.n]] w (LineR x w) := by
  cases hok : okEv x with
  | false => exact rline_none x hok w
  | true =>
    obtain ⟨k, t, a, n⟩ := x
    obtain ⟨_, it, ia, in_⟩ := hi
    simp only at it ia in_ ⊢
    simp only [okEv, Bool.and_eq_true, decide_eq_true_eq] at hok
    obtain ⟨j, rfl⟩ : ∃ j : Nat, k = (j : Int) := ⟨k.toNat, by omega⟩
    have hl : lineOf ⟨(j : Int), t, a, n⟩ = wordB j ++ [32] ++ Lib.itoa t ++ [32] ++ Lib.itoa a ++ [32] ++ Lib.itoa n ++ [10] := by
      have hw : wordOf (j : Int) = wordB j := by unfold wordOf; rw [if_neg (by omega)]; simp
      have hne : wordB j ≠ [] := wordB_ne (by omega) (by omega)
      unfold lineOf
      simp only [hw]
      rw [if_neg hne]
    have HL := Lib.hid hl
    have lw : (wordB j).length ≤ 6 := by have := word_len (j : Int); unfold wordOf at this; rw [if_neg (by omega)] at this; simpa using this
    have h1 : ¬ (j : Int) < 1 := by omega
    have h2 : ¬ (8 : Int) < (j : Int) := by omega
    have h3 : (0 : Int) ≤ (j : Int) := by omega
    have h4 : (j : Int) < 9 := by omega
    have hc := wordCells_at j (by omega)
    have lt := itoa_len it
    have la := itoa_len ia
    have ln := itoa_len in_
    obtain ⟨W, hW⟩ : ∃ W, W = wordB j := ⟨_, rfl⟩
    rw [← hW] at lw HL hc
    obtain ⟨T, hT⟩ : ∃ T, T = Lib.itoa t := ⟨_, rfl⟩
    obtain ⟨A, hA⟩ : ∃ A, A = Lib.itoa a := ⟨_, rfl⟩
    obtain ⟨N, hN⟩ : ∃ N, N = Lib.itoa n := ⟨_, rfl⟩
    rw [← hT] at lt HL
    rw [← hA] at la HL
    rw [← hN] at ln HL
    have HTE := Lib.hid hT
    have HAE := Lib.hid hA
    have HNE := Lib.hid hN
    obtain ⟨s1, hs1⟩ : ∃ s, s = bs (W ++ [32]) := ⟨_, rfl⟩
    obtain ⟨s2, hs2⟩ : ∃ s, s = bs (W ++ [32] ++ T) := ⟨_, rfl⟩
    obtain ⟨s3, hs3⟩ : ∃ s, s = bs (W ++ [32] ++ T ++ [32]) := ⟨_, rfl⟩
    obtain ⟨s4, hs4⟩ : ∃ s, s = bs (W ++ [32] ++ T ++ [32] ++ A) := ⟨_, rfl⟩
    obtain ⟨s5, hs5⟩ : ∃ s, s = bs (W ++ [32] ++ T ++ [32] ++ A ++ [32]) := ⟨_, rfl⟩
    obtain ⟨s6, hs6⟩ : ∃ s, s = bs (W ++ [32] ++ T ++ [32] ++ A ++ [32] ++ N) := ⟨_, rfl⟩
    obtain ⟨s7, hs7⟩ : ∃ s, s = bs (W ++ [32] ++ T ++ [32] ++ A ++ [32] ++ N ++ [10]) := ⟨_, rfl⟩
    have r1 : ∀ w, (Op.stringOp .add (bs W) (bs [32])).run Tryd.prog w = .ok (.string s1) w := fun w => by rw [hs1]; exact add_run (W) [32] (by first | omega | (simp; omega)) (by first | omega | simp) w
    have r2 : ∀ w, (Op.stringOp .add (s1) (bs T)).run Tryd.prog w = .ok (.string s2) w := fun w => by rw [hs2, hs1]; exact add_run (W ++ [32]) T (by first | omega | (simp; omega)) (by first | omega | simp) w
    have r3 : ∀ w, (Op.stringOp .add (s2) (bs [32])).run Tryd.prog w = .ok (.string s3) w := fun w => by rw [hs3, hs2]; exact add_run (W ++ [32] ++ T) [32] (by first | omega | (simp; omega)) (by first | omega | simp) w
    have r4 : ∀ w, (Op.stringOp .add (s3) (bs A)).run Tryd.prog w = .ok (.string s4) w := fun w => by rw [hs4, hs3]; exact add_run (W ++ [32] ++ T ++ [32]) A (by first | omega | (simp; omega)) (by first | omega | simp) w
    have r5 : ∀ w, (Op.stringOp .add (s4) (bs [32])).run Tryd.prog w = .ok (.string s5) w := fun w => by rw [hs5, hs4]; exact add_run (W ++ [32] ++ T ++ [32] ++ A) [32] (by first | omega | (simp; omega)) (by first | omega | simp) w
    have r6 : ∀ w, (Op.stringOp .add (s5) (bs N)).run Tryd.prog w = .ok (.string s6) w := fun w => by rw [hs6, hs5]; exact add_run (W ++ [32] ++ T ++ [32] ++ A ++ [32]) N (by first | omega | (simp; omega)) (by first | omega | simp) w
    have r7 : ∀ w, (Op.stringOp .add (s6) (bs [10])).run Tryd.prog w = .ok (.string s7) w := fun w => by rw [hs7, hs6]; exact add_run (W ++ [32] ++ T ++ [32] ++ A ++ [32] ++ N) [10] (by first | omega | (simp; omega)) (by first | omega | simp) w
    have HS7 := Lib.hid hs7
    clear hs1 hs2 hs3 hs4 hs5 hs6 hs7
    have IT := Lib.hid it
    have IA := Lib.hid ia
    have IN := Lib.hid in_
    clear hok hl hW hT hA hN lw lt la ln it ia in_
    go_enter Tryd.func13, Tryd.ntmps13
    go_wp2_with fail
    obtain ⟨wb, hwb⟩ : ∃ x, x = ((w.alloc (.cells #[.int .i64 j, .int .i64 t, .int .i64 a, .int .i64 n] 36)).alloc (.cells wordCells 9)) := ⟨_, rfl⟩
    have c1 : wb.cell? ⟨w.heap.size, 1, none⟩ = some (.int .i64 t) := by rw [hwb]; simp
    have c2 : wb.cell? ⟨w.heap.size, 2, none⟩ = some (.int .i64 a) := by rw [hwb]; simp
    have c3 : wb.cell? ⟨w.heap.size, 3, none⟩ = some (.int .i64 n) := by rw [hwb]; simp
    have HT1 := Lib.hid (show Turn nowhere w wb from by rw [hwb]; exact ((Turn.refl _ _).alloc _).alloc _)
    rw [← hwb]
    clear hwb h1 h2 h3 h4
    have HSS := Lib.hid (show ∀ V, Turn nowhere wb V → (Turn nowhere wb V ∧ V.cell? ⟨w.heap.size, 1, none⟩ = some (.int .i64 t) ∧ V.cell? ⟨w.heap.size, 2, none⟩ = some (.int .i64 a) ∧ V.cell? ⟨w.heap.size, 3, none⟩ = some (.int .i64 n)) from
      fun V h => ⟨h, h.cell c1 (fun h => h), h.cell c2 (fun h => h), h.cell c3 (fun h => h)⟩)
    go_region_held3 (fun w' => Turn nowhere wb w' ∧ w'.cell? ⟨w.heap.size, 1, none⟩ = some (.int .i64 t) ∧ w'.cell? ⟨w.heap.size, 2, none⟩ = some (.int .i64 a) ∧ w'.cell? ⟨w.heap.size, 3, none⟩ = some (.int .i64 n))
      (first | exact HSS.out _ HTC.out | exact HSS.out _ HTB.out | exact HSS.out _ HTA.out | exact HSS.out _ (Turn.refl _ _).drew)
      ((first
        | (have hz := HTB.out; clear hz; go_at_call 24; refine (number_of n IN.out _).mono ?_; rw [← HNE.out]; rintro e wC ⟨rfl, ht⟩; have HTC := Lib.hid (HTB.out.trans ht (fun _ _ h => h)); clear ht)
        | (have hz := HTA.out; clear hz; go_at_call 24; refine (number_of a IA.out _).mono ?_; rw [← HAE.out]; rintro e wB ⟨rfl, ht⟩; have HTB := Lib.hid (HTA.out.trans ht (fun _ _ h => h)); clear ht)
        | (go_at_call 24; refine (number_of t IT.out _).mono ?_; rw [← HTE.out]; rintro e wA ⟨rfl, ht⟩; have HTA := Lib.hid ((Turn.refl nowhere wb).drew.trans ht (fun _ _ h => h)); clear ht)))
    go_wp2
    go_ret
    exact ⟨by rw [HL.out]; show _ = Ending.returned (Value.string (bs (W ++ [32] ++ T ++ [32] ++ A ++ [32] ++ N ++ [10]))); rw [← HS7.out]; rfl, HT1.out.trans HTC.out (fun _ _ h => h)⟩

end Go.Proofs.YtbeapjndgkjpeaaDoor
