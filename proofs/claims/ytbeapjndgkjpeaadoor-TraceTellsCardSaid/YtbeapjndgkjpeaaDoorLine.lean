/- The contract of Line. -/
import Derived.Test.YtbeapjndgkjpeaaDoorNum
import Derived.Test.YtbeapjndgkjpeaaDoorList
import Derived.Lib.ItoaLen
namespace Go.Proofs.YtbeapjndgkjpeaaDoor
open Go.RowKit Go.Maps

theorem word_len (k : Int) : (wordOf k).length ≤ 6 := by
  unfold wordOf
  split
  · simp
  · rename_i h
    have : k.toNat = 1 ∨ k.toNat = 2 ∨ k.toNat = 3 ∨ k.toNat = 4 ∨ k.toNat = 5 ∨ k.toNat = 6 ∨ k.toNat = 7 ∨ k.toNat = 8 := by omega
    rcases this with e | e | e | e | e | e | e | e <;> rw [e] <;> decide
theorem itoa_len {n : Int} (h : i64 n) : (Lib.itoa n).length ≤ 21 := Lib.itoa_length_le n h.1 h.2
theorem line_len {x : Ev} (h : i64Ev x) : (lineOf x).length ≤ 100 := by
  unfold lineOf
  split
  · simp
  · have := word_len x.kind; have := itoa_len h.2.1; have := itoa_len h.2.2.1; have := itoa_len h.2.2.2
    simp only [List.length_append, List.length_singleton]
    omega

theorem add_run (x y : List UInt8) (hx : x.length ≤ 8388608) (hy : y.length ≤ 8388608) (w : World) : (Op.stringOp .add (bs x) (bs y)).run Tryd.prog w = .ok (.string (bs (x ++ y))) w :=
  run_string_add_lists w x y (by omega) (by omega)

def LineR (x : Ev) (w : World) (e : Ending) (w' : World) : Prop := e = .returned (str (lineOf x)) ∧ Turn nowhere w w'

set_option maxRecDepth 20000 in
set_option maxHeartbeats 3200000 in
theorem line_calls (x : Ev) (hi : i64Ev x) (w : World) (he : Env w) : Calls Tryd.prog 12 #[.agg #[.int .i64 x.kind, .int .i64 x.task, .int .i64 x.a, .int .i64 x.n]] w (LineR x w) := by
  obtain ⟨k, t, a, n⟩ := x
  obtain ⟨_, it, ia, in_⟩ := hi
  simp only at it ia in_ ⊢
  have t1 : Turn nowhere w (w.alloc (.cells #[.int .i64 k, .int .i64 t, .int .i64 a, .int .i64 n] 23)) := (Turn.refl _ _).alloc _
  have HE := Lib.hid (he.turn t1)
  have HT1 := Lib.hid t1
  clear t1 he
  by_cases hw : wordOf k = []
  · have hl : lineOf ⟨k, t, a, n⟩ = [] := by unfold lineOf; rw [if_pos hw]
    have HL := Lib.hid hl
    have HW := Lib.hid hw
    clear hl hw
    go_enter Tryd.func12, Tryd.ntmps12
    go_wp2_with fail
    refine (word_calls k _ HE.out).mono ?_
    rw [HW.out]
    rintro e w' ⟨rfl, rfl⟩
    go_wp2
    go_ret
    exact ⟨by rw [HL.out]; rfl, HT1.out⟩
  · have hl : lineOf ⟨k, t, a, n⟩ = wordOf k ++ [32] ++ Lib.itoa t ++ [32] ++ Lib.itoa a ++ [32] ++ Lib.itoa n ++ [10] := by unfold lineOf; rw [if_neg hw]
    have HL := Lib.hid hl
    have lw := word_len k
    have lt := itoa_len it
    have la := itoa_len ia
    have ln := itoa_len in_
    obtain ⟨W, hW⟩ : ∃ W, W = wordOf k := ⟨_, rfl⟩
    rw [← hW] at hw lw HL
    have HW := Lib.hid hW
    obtain ⟨T, hT⟩ : ∃ T, T = Lib.itoa t := ⟨_, rfl⟩
    obtain ⟨A, hA⟩ : ∃ A, A = Lib.itoa a := ⟨_, rfl⟩
    obtain ⟨N, hN⟩ : ∃ N, N = Lib.itoa n := ⟨_, rfl⟩
    rw [← hT] at lt HL
    rw [← hA] at la HL
    rw [← hN] at ln HL
    have HTE := Lib.hid hT
    have HAE := Lib.hid hA
    have HNE := Lib.hid hN
    obtain ⟨s1, hs1⟩ : ∃ s, s = bs (W ++ [32]) := ⟨_, rfl⟩
    obtain ⟨s2, hs2⟩ : ∃ s, s = bs (W ++ [32] ++ T) := ⟨_, rfl⟩
    obtain ⟨s3, hs3⟩ : ∃ s, s = bs (W ++ [32] ++ T ++ [32]) := ⟨_, rfl⟩
    obtain ⟨s4, hs4⟩ : ∃ s, s = bs (W ++ [32] ++ T ++ [32] ++ A) := ⟨_, rfl⟩
    obtain ⟨s5, hs5⟩ : ∃ s, s = bs (W ++ [32] ++ T ++ [32] ++ A ++ [32]) := ⟨_, rfl⟩
    obtain ⟨s6, hs6⟩ : ∃ s, s = bs (W ++ [32] ++ T ++ [32] ++ A ++ [32] ++ N) := ⟨_, rfl⟩
    obtain ⟨s7, hs7⟩ : ∃ s, s = bs (W ++ [32] ++ T ++ [32] ++ A ++ [32] ++ N ++ [10]) := ⟨_, rfl⟩
    have r1 : ∀ w, (Op.stringOp .add (bs W) (bs [32])).run Tryd.prog w = .ok (.string s1) w := fun w => by rw [hs1]; exact add_run (W) [32] (by first | omega | (simp; omega)) (by first | omega | simp) w
    have r2 : ∀ w, (Op.stringOp .add (s1) (bs T)).run Tryd.prog w = .ok (.string s2) w := fun w => by rw [hs2, hs1]; exact add_run (W ++ [32]) T (by first | omega | (simp; omega)) (by first | omega | simp) w
    have r3 : ∀ w, (Op.stringOp .add (s2) (bs [32])).run Tryd.prog w = .ok (.string s3) w := fun w => by rw [hs3, hs2]; exact add_run (W ++ [32] ++ T) [32] (by first | omega | (simp; omega)) (by first | omega | simp) w
    have r4 : ∀ w, (Op.stringOp .add (s3) (bs A)).run Tryd.prog w = .ok (.string s4) w := fun w => by rw [hs4, hs3]; exact add_run (W ++ [32] ++ T ++ [32]) A (by first | omega | (simp; omega)) (by first | omega | simp) w
    have r5 : ∀ w, (Op.stringOp .add (s4) (bs [32])).run Tryd.prog w = .ok (.string s5) w := fun w => by rw [hs5, hs4]; exact add_run (W ++ [32] ++ T ++ [32] ++ A) [32] (by first | omega | (simp; omega)) (by first | omega | simp) w
    have r6 : ∀ w, (Op.stringOp .add (s5) (bs N)).run Tryd.prog w = .ok (.string s6) w := fun w => by rw [hs6, hs5]; exact add_run (W ++ [32] ++ T ++ [32] ++ A ++ [32]) N (by first | omega | (simp; omega)) (by first | omega | simp) w
    have r7 : ∀ w, (Op.stringOp .add (s6) (bs [10])).run Tryd.prog w = .ok (.string s7) w := fun w => by rw [hs7, hs6]; exact add_run (W ++ [32] ++ T ++ [32] ++ A ++ [32] ++ N) [10] (by first | omega | (simp; omega)) (by first | omega | simp) w
    have HS7 := Lib.hid hs7
    clear hs1 hs2 hs3 hs4 hs5 hs6 hs7
    have hbw : (W == []) = false := beq_eq_false_iff_ne.2 hw
    have IT := Lib.hid it
    have IA := Lib.hid ia
    have IN := Lib.hid in_
    clear hW hT hA hN hw lw lt la ln it ia in_ hl
    go_enter Tryd.func12, Tryd.ntmps12
    go_wp2_with fail
    refine (word_calls k _ HE.out).mono ?_
    rw [← HW.out]
    rintro e w' ⟨rfl, rfl⟩
    obtain ⟨wb, hwb⟩ : ∃ x, x = (w.alloc (.cells #[.int .i64 k, .int .i64 t, .int .i64 a, .int .i64 n] 23)) := ⟨_, rfl⟩
    have c1 : wb.cell? ⟨w.heap.size, 1, none⟩ = some (.int .i64 t) := by rw [hwb]; simp
    have c2 : wb.cell? ⟨w.heap.size, 2, none⟩ = some (.int .i64 a) := by rw [hwb]; simp
    have c3 : wb.cell? ⟨w.heap.size, 3, none⟩ = some (.int .i64 n) := by rw [hwb]; simp
    rw [← hwb] at HE HT1 ⊢
    clear hwb
    have HSS := Lib.hid (show ∀ V, Turn nowhere wb V → (Turn nowhere wb V ∧ V.cell? ⟨w.heap.size, 1, none⟩ = some (.int .i64 t) ∧ V.cell? ⟨w.heap.size, 2, none⟩ = some (.int .i64 a) ∧ V.cell? ⟨w.heap.size, 3, none⟩ = some (.int .i64 n)) from
      fun V h => ⟨h, h.cell c1 (fun h => h), h.cell c2 (fun h => h), h.cell c3 (fun h => h)⟩)
    go_upto_region 4 with fail
    go_region_held3 (fun w' => Turn nowhere wb w' ∧ w'.cell? ⟨w.heap.size, 1, none⟩ = some (.int .i64 t) ∧ w'.cell? ⟨w.heap.size, 2, none⟩ = some (.int .i64 a) ∧ w'.cell? ⟨w.heap.size, 3, none⟩ = some (.int .i64 n))
      (first | exact HSS.out _ HTC.out | exact HSS.out _ HTB.out | exact HSS.out _ HTA.out | exact HSS.out _ (Turn.refl _ _).drew)
      ((first
        | (go_at_call 23; refine (format_calls n IN.out _ (HE.out.turn HTB.out)).mono ?_; rw [← HNE.out]; rintro e wC ⟨rfl, ht⟩; have HTC := Lib.hid (HTB.out.trans ht (fun _ _ h => h)); clear ht)
        | (go_at_call 22; refine (itoa_calls a IA.out _ (HE.out.turn HTA.out)).mono ?_; rw [← HAE.out]; rintro e wB ⟨rfl, ht⟩; have HTB := Lib.hid (HTA.out.trans ht (fun _ _ h => h)); clear ht)
        | (go_at_call 22; refine (itoa_calls t IT.out _ (HE.out.turn (Turn.refl _ _).drew)).mono ?_; rw [← HTE.out]; rintro e wA ⟨rfl, ht⟩; have HTA := Lib.hid ((Turn.refl nowhere wb).drew.trans ht (fun _ _ h => h)); clear ht)))
    go_wp2
    go_ret
    exact ⟨by rw [HL.out]; show _ = Ending.returned (Value.string (bs (W ++ [32] ++ T ++ [32] ++ A ++ [32] ++ N ++ [10]))); rw [← HS7.out]; rfl, HT1.out.trans HTC.out (fun _ _ h => h)⟩

end Go.Proofs.YtbeapjndgkjpeaaDoor
