/- The contract of awake: true. -/
import Derived.Test.YtkphnmpildkdaaaWaits
namespace Go.Proofs.Ytkphnmpildkdaaa
open Go.RowKit Go.Maps

attribute [local go_sem high] cmp_eql cmp_neq cmp_lss cmp_gtr run_neg

theorem reads_new {w : World} {t : TypeId} {size n : Nat} (cs : Array Value) (hs : cs.size = n * size) (hn : n ≤ maxLen) : Reads (w.alloc (.cells cs t)) size (some ⟨w.heap.size, 0, none⟩) n cs.toList :=
  Reads.of_own (World.ownsRow_lit (base := 0) (e := t) w cs n (Nat.zero_le _) hn hs)

def OkTrue (w : World) (e : Ending) (w' : World) : Prop := e = .returned (.bool true) ∧ Turn nowhere w w'

theorem Res.val {o : Option Nat} {r v : Nat} (h : Res o r) (ho : o = some v) : r = v := by
  rcases h with h | h
  · rw [ho] at h; injection h with h; exact h.symm
  · rw [ho] at h; cases h.1
theorem MinR.val {a x r : Nat} (h : MinR a x r) (ha : isNaN a = false) (hx : isNaN x = false) : r = minF a x := by
  unfold MinR at h; rw [ha, hx] at h; exact h
theorem MaxR.val {a x r : Nat} (h : MaxR a x r) (ha : isNaN a = false) (hx : isNaN x = false) : r = maxF a x := by
  unfold MaxR at h; rw [ha, hx] at h; exact h

theorem aw_mean0 {r : Nat} (h : MeanR [] 0 r) : kindOf r = 0 := by
  obtain ⟨s, hs, hr⟩ := h
  obtain rfl : 0 = s := hs
  rcases hr with hr | hr
  · rw [show Ieee.double.div 0 (floatOfInt .f64 (0 : Nat)) = none from by decide +kernel] at hr; cases hr
  · simp [kindOf, hr.2]
theorem aw_least0 {r : Nat} (h : LeastR [] r) : kindOf r = 2 := by
  obtain rfl : 9218868437227405312 = r := h
  decide
theorem aw_most0 {r : Nat} (h : MostR [] r) : kindOf r = 1 := by
  obtain rfl : 18442240474082181120 = r := h
  decide
theorem aw_mean2 {r : Nat} (h : MeanR [4607182418800017408, 4611686018427387904] 2 r) : r = 4609434218613702656 := by
  obtain ⟨s, ⟨c, hc, d, hd, hs⟩, hr⟩ := h
  obtain rfl : d = s := hs
  obtain rfl : c = 4607182418800017408 := hc.val (by decide +kernel)
  obtain rfl : d = 4613937818241073152 := hd.val (by decide +kernel)
  exact hr.val (by decide +kernel)
theorem aw_least3 {r : Nat} (h : LeastR [0, 9223372036854775808, 9223372036854775808] r) : kindOf r = 3 := by
  obtain ⟨c, hc, d, hd, f, hf, hs⟩ := h
  obtain rfl : f = r := hs
  have h1 := hc.val (by decide) (by decide)
  rw [show minF 9218868437227405312 0 = 0 from by decide] at h1
  subst h1
  have h2 := hd.val (by decide) (by decide)
  rw [show minF 0 9223372036854775808 = 9223372036854775808 from by decide] at h2
  subst h2
  have h3 := hf.val (by decide) (by decide)
  rw [h3]
  decide
theorem aw_most2 {r : Nat} (h : MostR [9223372036854775808, 0] r) : kindOf r = 4 := by
  obtain ⟨c, hc, d, hd, hs⟩ := h
  obtain rfl : d = r := hs
  have h1 := hc.val (by decide) (by decide)
  rw [show maxF 18442240474082181120 9223372036854775808 = 9223372036854775808 from by decide] at h1
  subst h1
  have h2 := hd.val (by decide) (by decide)
  rw [h2]
  decide
theorem aw_rate30 {r : Nat} (h : RateR 3 0 r) : kindOf r = 2 := by
  obtain rfl : r = 9218868437227405312 := Res.val h (by decide)
  decide
theorem aw_rate00 {r : Nat} (h : RateR 0 0 r) : kindOf r = 0 := by
  rcases h with hr | hr
  · rw [show Ieee.double.div (floatOfInt .f64 0) 0 = none from by decide +kernel] at hr; cases hr
  · simp [kindOf, hr.2]

def awEvs : List Ev := [⟨4, 2, 0, 0⟩, ⟨8, 0, 0, 5⟩, ⟨4, 2, 0, 0⟩, ⟨5, 2, 3, 0⟩, ⟨5, 2, 3, 0⟩]
theorem aw_waits3 : (runW 3 awEvs).out = [4617315517961601024] := by
  have : subF 5 0 = 4617315517961601024 := by decide +kernel
  simp [runW, awEvs, stepW, st0, this]
theorem aw_waits4 : (runW 4 awEvs).out = [] := by
  simp [runW, awEvs, stepW, st0]


def awCells : Array Value := #[.int .i64 4, .int .i64 2, .int .i64 0, .int .i64 0, .int .i64 8, .int .i64 0, .int .i64 0, .int .i64 5, .int .i64 4, .int .i64 2, .int .i64 0, .int .i64 0, .int .i64 5, .int .i64 2, .int .i64 3, .int .i64 0, .int .i64 5, .int .i64 2, .int .i64 3, .int .i64 0]
theorem awOK : ∀ k, k < 5 → EvOK (awEvs.getD k default) := by
  intro k hk
  rcases k with _ | _ | _ | _ | _ | k
  all_goals first | (unfold EvOK; decide) | omega

theorem one64 : ∀ k, k < 1 → w64 (([4617315517961601024] : List Nat).getD k 0) := by intro k hk; rcases k with _ | k <;> first | decide | omega
theorem oneSame : ∀ k, k < 1 → sameF (([4617315517961601024] : List Nat).getD k 0) (([4617315517961601024] : List Nat).getD k 0) = true := fun k hk => sameF_self (one64 k hk)
theorem two64 : ∀ k, k < 2 → w64 (([4607182418800017408, 4611686018427387904] : List Nat).getD k 0) := by intro k hk; rcases k with _ | _ | k <;> first | decide | omega
theorem twoB64 : ∀ k, k < 2 → w64 (([9223372036854775808, 0] : List Nat).getD k 0) := by intro k hk; rcases k with _ | _ | k <;> first | decide | omega
theorem three64 : ∀ k, k < 3 → w64 (([0, 9223372036854775808, 9223372036854775808] : List Nat).getD k 0) := by intro k hk; rcases k with _ | _ | _ | k <;> first | decide | omega

set_option maxRecDepth 20000 in
set_option maxHeartbeats 3200000 in
theorem awake_calls (w : World) : Calls Try.prog 7 #[] w (OkTrue w) := by
  have hm : kindOf 13835058055282163712 = 5 := by decide
  have hp : kindOf 4611686018427387904 = 6 := by decide
  have hn0 : neg 0 = 9223372036854775808 := by decide
  go_enter Try.func7, Try.ntmps7
  go_wp2_with fail
  refine (waits_calls _ 5 5 awEvs 3 _ (reads_new awCells rfl (by simp [maxLen])) awOK (by omega)).mono ?_
  rintro e w1 ⟨v, rfl, ho, _, _, ht⟩
  rw [aw_waits3] at ho
  obtain ⟨A1, c1, rfl, _, _⟩ := own_form ho
  have HO := Lib.hid ho
  have HT := Lib.hid (((Turn.refl nowhere w).alloc _).trans ht (fun _ _ h => h))
  have HX := Lib.hid ((reads_new (w := w) (t := 41) (n := 5) (size := 4) awCells rfl (by simp [maxLen])).kept ht)
  clear ho ht
  go_wp2_with fail
  refine (sameAll_calls A1 _ 1 c1 1 [4617315517961601024] [4617315517961601024] _ (Reads.of_own (HO.out.alloc _)) (reads_new #[.float .f64 4617315517961601024] rfl (by simp [maxLen])) (by omega) one64 one64 oneSame).mono ?_
  rintro e w2 ⟨rfl, ht⟩
  have HT2 := Lib.hid ((HT.out.alloc _).trans ht (fun _ _ h => h))
  have HX2 := Lib.hid (HX.out.kept (((Turn.refl nowhere w1).alloc _).trans ht (fun _ _ h => h)))
  clear ht HX HT HO
  go_wp2_with fail
  refine (waits_calls _ 5 5 awEvs 4 _ HX2.out awOK (by omega)).mono ?_
  rintro e w3 ⟨v, rfl, ho, _, _, ht⟩
  rw [aw_waits4] at ho
  obtain ⟨A3, c3, rfl, _, _⟩ := own_form ho
  have HT3 := Lib.hid (HT2.out.trans ht (fun _ _ h => h))
  clear ho ht HX2 HT2
  go_wp2_with fail
  refine (mean_calls none 0 0 [] _ (Reads.none_ _ _ _) (fun k hk => absurd hk (by omega)) (by omega)).mono ?_
  rintro e w4 ⟨r4, rfl, hr, h64, ht⟩
  have hk4 := aw_mean0 hr
  have HT4 := Lib.hid (HT3.out.trans ht (fun _ _ h => h))
  clear hr ht
  go_wp2_with fail
  refine (kind_calls _ _ h64).mono ?_
  rw [hk4]
  rintro e w' ⟨rfl, rfl⟩
  clear hk4
  clear h64
  go_wp2_with fail
  refine (least_calls none 0 0 [] _ (Reads.none_ _ _ _) (fun k hk => absurd hk (by omega)) (by omega)).mono ?_
  rintro e w5 ⟨r5, rfl, hr, h64, ht⟩
  have hk5 := aw_least0 hr
  have HT5 := Lib.hid (HT4.out.trans ht (fun _ _ h => h))
  clear hr ht
  go_wp2_with fail
  refine (kind_calls _ _ h64).mono ?_
  rw [hk5]
  rintro e w' ⟨rfl, rfl⟩
  clear hk5
  clear h64
  go_wp2_with fail
  refine (most_calls none 0 0 [] _ (Reads.none_ _ _ _) (fun k hk => absurd hk (by omega)) (by omega)).mono ?_
  rintro e w6 ⟨r6, rfl, hr, h64, ht⟩
  have hk6 := aw_most0 hr
  have HT6 := Lib.hid (HT5.out.trans ht (fun _ _ h => h))
  clear hr ht
  go_wp2_with fail
  refine (kind_calls _ _ h64).mono ?_
  rw [hk6]
  rintro e w' ⟨rfl, rfl⟩
  clear hk6
  clear h64
  go_wp2_with fail
  refine (mean_calls _ 2 2 [4607182418800017408, 4611686018427387904] _ (reads_new #[.float .f64 4607182418800017408, .float .f64 4611686018427387904] rfl (by simp [maxLen])) two64 (by omega)).mono ?_
  rintro e w7 ⟨r7, rfl, hr, h64, ht⟩
  have hk7 := aw_mean2 hr
  have HT7 := Lib.hid ((HT6.out.alloc _).trans ht (fun _ _ h => h))
  clear hr ht
  subst r7
  clear h64
  go_wp2_with fail
  refine (turn_calls 0 _).mono ?_
  rw [hn0]
  rintro e w' ⟨rfl, rfl⟩
  go_wp2_with fail
  refine (least_calls _ 3 3 [0, 9223372036854775808, 9223372036854775808] _ (reads_new #[.float .f64 0, .float .f64 9223372036854775808, .float .f64 9223372036854775808] rfl (by simp [maxLen])) three64 (by omega)).mono ?_
  rintro e w8 ⟨r8, rfl, hr, h64, ht⟩
  have hk8 := aw_least3 hr
  have HT8 := Lib.hid ((HT7.out.alloc _).trans ht (fun _ _ h => h))
  clear hr ht
  go_wp2_with fail
  refine (kind_calls _ _ h64).mono ?_
  rw [hk8]
  rintro e w' ⟨rfl, rfl⟩
  clear hk8
  clear h64
  go_wp2_with fail
  refine (turn_calls 0 _).mono ?_
  rw [hn0]
  rintro e w' ⟨rfl, rfl⟩
  go_wp2_with fail
  refine (most_calls _ 2 2 [9223372036854775808, 0] _ (reads_new #[.float .f64 9223372036854775808, .float .f64 0] rfl (by simp [maxLen])) twoB64 (by omega)).mono ?_
  rintro e w9 ⟨r9, rfl, hr, h64, ht⟩
  have hk9 := aw_most2 hr
  have HT9 := Lib.hid ((HT8.out.alloc _).trans ht (fun _ _ h => h))
  clear hr ht
  go_wp2_with fail
  refine (kind_calls _ _ h64).mono ?_
  rw [hk9]
  rintro e w' ⟨rfl, rfl⟩
  clear hk9
  clear h64
  go_wp2_with fail
  refine (rate_calls 3 0 _).mono ?_
  rintro e w10 ⟨r10, rfl, hr, h64, ht⟩
  have hk10 := aw_rate30 hr
  have HT10 := Lib.hid (HT9.out.trans ht (fun _ _ h => h))
  clear hr ht
  go_wp2_with fail
  refine (kind_calls _ _ h64).mono ?_
  rw [hk10]
  rintro e w' ⟨rfl, rfl⟩
  clear hk10
  clear h64
  go_wp2_with fail
  refine (rate_calls 0 0 _).mono ?_
  rintro e w11 ⟨r11, rfl, hr, h64, ht⟩
  have hk11 := aw_rate00 hr
  have HT11 := Lib.hid (HT10.out.trans ht (fun _ _ h => h))
  clear hr ht
  go_wp2_with fail
  refine (kind_calls _ _ h64).mono ?_
  rw [hk11]
  rintro e w' ⟨rfl, rfl⟩
  clear hk11
  clear h64
  go_wp2_with fail
  refine (kind_calls _ _ (by decide)).mono ?_
  rw [hm]
  rintro e w' ⟨rfl, rfl⟩
  go_wp2_with fail
  refine (kind_calls _ _ (by decide)).mono ?_
  rw [hp]
  rintro e w' ⟨rfl, rfl⟩
  go_wp2
  go_ret
  exact ⟨rfl, HT11.out⟩

end Go.Proofs.Ytkphnmpildkdaaa
