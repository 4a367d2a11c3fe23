/- Contracts of Mean, Least, Most, Rate, Turn on both sides. -/
import Derived.Test.YtkphnmpildkdaaaFold
namespace Go.Proofs.Ytkphnmpildkdaaa
open Go.RowKit Go.Maps

attribute [local go_sem high] cmp_eql cmp_neq cmp_lss cmp_gtr

theorem Try.info24 : (Try.prog.info? 24).map (fun i => (i.zero, i.size, i.bytes)) = some (some (.float .f64 0), 1, 8) := by kernel_rfl
theorem info_parts {k : TypeId} {z : Value} {s b : Nat} (h : (Try.prog.info? k).map (fun i => (i.zero, i.size, i.bytes)) = some (some z, s, b)) : ∃ i, Try.prog.info? k = some i ∧ i.zero = some z ∧ i.size = s ∧ i.bytes = b := by
  cases hi : Try.prog.info? k with
  | none => rw [hi] at h; simp at h
  | some i =>
    rw [hi] at h
    simp only [Option.map_some, Option.some.injEq, Prod.mk.injEq] at h
    exact ⟨i, rfl, h.1, h.2.1, h.2.2⟩

def MeanR (xs : List Nat) (n : Nat) (r : Nat) : Prop := ∃ s, FoldR AddR 0 xs s ∧ Res (Ieee.double.div s (floatOfInt .f64 n)) r
def LeastR (xs : List Nat) (r : Nat) : Prop := FoldR MinR 9218868437227405312 xs r
def MostR (xs : List Nat) (r : Nat) : Prop := FoldR MaxR 18442240474082181120 xs r

section
variable (A : Option Addr) (n c : Nat) (xs : List Nat) (w : World)

theorem mean_calls (hx : Reads w 1 A n (flts xs)) (hw : ∀ k, k < n → w64 (xs.getD k 0)) (hn : n ≤ 1000000) : Calls Try.prog 13 #[.slice A n c] w (RetF (MeanR xs n) w) := by
  have HX := Lib.hid hx
  have HW := Lib.hid hw
  clear hx hw
  go_enter Try.func13, Try.ntmps13
  go_wp2_with fail
  refine (fold26 A n c xs 0 _ (by decide) HX.out HW.out hn).mono ?_
  rintro e w2 ⟨s, rfl, hs, _, ht⟩
  obtain ⟨r, w3, hrun, hr, hr64, ht3⟩ := run_quo (P := Try.prog) w2 24 s (floatOfInt .f64 n)
  have HS := Lib.hid hs
  have HR := Lib.hid hr
  have HT := Lib.hid (ht.trans ht3 (fun _ _ h => h))
  clear hs hr ht ht3
  go_wp2
  go_ret
  exact ⟨r, rfl, ⟨s, HS.out, HR.out⟩, hr64, HT.out⟩

theorem least_calls (hx : Reads w 1 A n (flts xs)) (hw : ∀ k, k < n → w64 (xs.getD k 0)) (hn : n ≤ 1000000) : Calls Try.prog 15 #[.slice A n c] w (RetF (LeastR xs) w) := by
  have HX := Lib.hid hx
  have HW := Lib.hid hw
  clear hx hw
  go_enter Try.func15, Try.ntmps15
  go_wp2_with fail
  refine (inf_at _).mono ?_
  rintro e w2 ⟨rfl, rfl⟩
  go_wp2_with fail
  refine (fold28 A n c xs _ _ (by decide) HX.out HW.out hn).mono ?_
  rintro e w2 ⟨s, rfl, hs, h64, ht⟩
  have HS := Lib.hid hs
  have HT := Lib.hid ht
  clear hs ht
  go_wp2
  go_ret
  exact ⟨s, rfl, HS.out, h64, HT.out⟩

theorem most_calls (hx : Reads w 1 A n (flts xs)) (hw : ∀ k, k < n → w64 (xs.getD k 0)) (hn : n ≤ 1000000) : Calls Try.prog 17 #[.slice A n c] w (RetF (MostR xs) w) := by
  have HX := Lib.hid hx
  have HW := Lib.hid hw
  clear hx hw
  go_enter Try.func17, Try.ntmps17
  go_wp2_with fail
  refine (ninf_at _).mono ?_
  rintro e w2 ⟨rfl, rfl⟩
  go_wp2_with fail
  refine (fold30 A n c xs _ _ (by decide) HX.out HW.out hn).mono ?_
  rintro e w2 ⟨s, rfl, hs, h64, ht⟩
  have HS := Lib.hid hs
  have HT := Lib.hid ht
  clear hs ht
  go_wp2
  go_ret
  exact ⟨s, rfl, HS.out, h64, HT.out⟩
end

def RateR (m : Int) (x r : Nat) : Prop := Res (Ieee.double.div (floatOfInt .f64 m) x) r
theorem rate_calls (m : Int) (x : Nat) (w : World) : Calls Try.prog 19 #[.int .i64 m, .float .f64 x] w (RetF (RateR m x) w) := by
  obtain ⟨r, w3, hrun, hr, hr64, ht3⟩ := run_quo (P := Try.prog) w 24 (floatOfInt .f64 m) x
  have HR := Lib.hid hr
  have HT := Lib.hid ht3
  clear hr ht3
  go_enter Try.func19, Try.ntmps19
  go_wp2
  go_ret
  exact ⟨r, rfl, HR.out, hr64, HT.out⟩

@[local go_sem high] theorem run_neg (P : Program) (w : World) (x : Nat) : (Op.unary .neg (.float .f64 x)).run P w = .ok (.float .f64 (neg x)) w := rfl
theorem turn_calls (x : Nat) (w : World) : Calls Try.prog 20 #[.float .f64 x] w fun e w' => e = .returned (.float .f64 (neg x)) ∧ w = w' := by
  go_enter Try.func20, Try.ntmps20
  go_wp2
  go_ret
  exact ⟨rfl, rfl⟩

theorem rmean_calls (A : Option Addr) (n c : Nat) (xs : List Nat) (w : World) (hx : Reads w 1 A n (flts xs)) (hn : n ≤ 1000000) : Calls Try.prog 14 #[.slice A n c] w (RetF (MeanR xs n) w) := by
  have hl : xs.length = n := by simpa using hx.1
  rcases Nat.eq_zero_or_pos n with h0 | h0
  · subst h0
    obtain rfl := List.eq_nil_of_length_eq_zero hl
    clear hx hl
    obtain ⟨r, w3, hrun, hr, hr64, ht3⟩ := run_quo (P := Try.prog) w 24 0 (floatOfInt .f64 0)
    have HR := Lib.hid hr
    have HT := Lib.hid ht3
    clear hr ht3
    go_enter Try.func14, Try.ntmps14
    go_wp2
    refine wp_loop_rounds 1 ?_
    rw [rounds_succ]
    go_wp2
    go_ret
    exact ⟨r, rfl, ⟨0, rfl, HR.out⟩, hr64, HT.out⟩
  · obtain ⟨b, off, rfl, hc⟩ := hx.2 h0
    have HC := Lib.hid hc
    have HL := Lib.hid hl
    clear hx hc hl h0
    go_enter Try.func14, Try.ntmps14
    go_wp2
    go_loopw [3, 4] (fun s i wr => ∃ k q : Nat, k ≤ n ∧ i = .int .i64 k ∧ s = .float .f64 q ∧ Hid (FoldR AddR 0 (xs.take k) q) ∧ Hid (Turn nowhere w wr)) (fun _ i _ => n - (intOf i).toNat)
    case atStart => exact ⟨0, 0, Nat.zero_le _, rfl, rfl, (show FoldR AddR 0 [] 0 from rfl), Turn.refl _ _⟩
    case round =>
      obtain ⟨k, q, hk, rfl, rfl, HF, HT⟩ := hrel
      have h0 : (0 : Int) ≤ (k : Int) := by omega
      by_cases hlt : k < n
      case pos =>
        have h1 : (k : Int) < (n : Int) := by omega
        have hcx := HT.out.cell (HC.out k _ (flts_at (by rw [HL.out]; exact hlt))) (fun h => h)
        have HS := Lib.hid (fun c => FoldR.step (R := AddR) (c := c) HF.out (by rw [HL.out]; exact hlt))
        generalize xs.getD k 0 = y at hcx HS
        obtain ⟨r, w2, hrun, hr, hr64, ht⟩ := run_add (P := Try.prog) wr 24 q y (fun r h => Ieee.Format.add_lt _ h)
        have HF2 := Lib.hid (HS.out r hr)
        have HT2 := Lib.hid (HT.out.trans ht (fun _ _ h => h))
        clear hr ht HS HF HT
        go_wp2
        go_roundw
        case rel => exact ⟨k + 1, r, by omega, by go_num, rfl, HF2, HT2⟩
        case measure => simp [intOf]; omega
      case neg =>
        obtain rfl : k = n := by omega
        have htk : xs.take k = xs := by rw [← HL.out]; exact List.take_length
        rw [htk] at HF
        obtain ⟨r, w3, hrun, hr, hr64, ht3⟩ := run_quo (P := Try.prog) wr 24 q (floatOfInt .f64 k)
        have HR := Lib.hid hr
        have HT2 := Lib.hid (HT.out.trans ht3 (fun _ _ h => h))
        clear hr ht3
        go_wp2
        go_ret
        exact ⟨r, rfl, ⟨q, HF.out, HR.out⟩, hr64, HT2.out⟩

/-- The reference's step. -/
theorem least_step {q y : Nat} (hq : w64 q) (hy : w64 y) (nq : isNaN q = false) (t : Bool) (ht : t = (isNaN y || (fLt y q || (fEq y q && (isNeg y && !isNaN y))))) : MinR q y (if t then y else q) := by
  unfold MinR
  rw [nq]
  cases ny : isNaN y with
  | true => rw [ht, ny]; simp [ny]
  | false =>
    obtain ⟨h1, h2, h3, h4⟩ := @key_key2 y q
    obtain ⟨k1, _, _, _⟩ := @key_key2 q y
    rw [ht, ny, fLt_key hy hq ny nq, fEq_key hy hq ny nq]
    simp only [Bool.false_or, Bool.not_false, Bool.and_true, Bool.or_false, Bool.false_eq_true, if_false]
    unfold minF
    rcases Int.lt_trichotomy (key y) (key q) with hlt | heq | hgt
    · have := h1 hlt
      rw [if_neg (show ¬ key2 q ≤ key2 y from by omega)]
      simp [hlt]
    · cases hb : isNeg y with
      | true =>
        have := h3 heq hb
        simp only [heq, decide_true, Bool.and_true, Bool.or_true, if_true]
        split
        · exact key2_inj hy hq (by omega)
        · rfl
      | false =>
        have := h4 heq hb
        rw [if_pos this]
        simp [heq]
    · have := k1 hgt
      rw [if_pos (show key2 q ≤ key2 y from by omega)]
      have a1 : ¬ key y < key q := by omega
      have a2 : ¬ key y = key q := by omega
      simp [a1, a2]

theorem FoldR.nan_more {q : Nat} (nq : isNaN q = true) : ∀ (xs : List Nat), FoldR MinR q xs q
  | [] => rfl
  | x :: xs => ⟨q, by simp [MinR, nq], FoldR.nan_more nq xs⟩
theorem FoldR.append {R : Nat → Nat → Nat → Prop} {ys : List Nat} {c : Nat} : ∀ {xs : List Nat} {a b : Nat}, FoldR R a xs b → FoldR R b ys c → FoldR R a (xs ++ ys) c
  | [], _, _, h, hr => by rw [show _ = _ from h]; exact hr
  | _ :: _, _, _, ⟨d, h1, h2⟩, hr => ⟨d, h1, FoldR.append h2 hr⟩

set_option maxRecDepth 20000 in
set_option maxHeartbeats 1600000 in
theorem rleast_calls (A : Option Addr) (n c : Nat) (xs : List Nat) (w : World) (hx : Reads w 1 A n (flts xs)) (hw : ∀ k, k < n → w64 (xs.getD k 0)) (hn : n ≤ 1000000) : Calls Try.prog 16 #[.slice A n c] w (RetF (LeastR xs) w) := by
  have hl : xs.length = n := by simpa using hx.1
  have hinf := fun w => run_float_arith (P := Try.prog) w .quo 24 .f64 4607182418800017408 0 9218868437227405312 (by decide)
  rcases Nat.eq_zero_or_pos n with h0 | h0
  · subst h0
    obtain rfl := List.eq_nil_of_length_eq_zero hl
    clear hx hl
    go_enter Try.func16, Try.ntmps16
    go_wp2
    refine wp_loop_rounds 1 ?_
    rw [rounds_succ]
    go_wp2
    go_ret
    exact ⟨_, rfl, rfl, by decide, Turn.refl _ _⟩
  · obtain ⟨b, off, rfl, hc⟩ := hx.2 h0
    have HC := Lib.hid hc
    have HL := Lib.hid hl
    have HW := Lib.hid hw
    clear hx hc hl h0 hw
    go_enter Try.func16, Try.ntmps16
    go_wp2
    go_loopw [4, 5] (fun s i wr => ∃ k q : Nat, k ≤ n ∧ i = .int .i64 k ∧ s = .float .f64 q ∧ w64 q ∧ Hid (LeastR (xs.take k) q) ∧ wr = w) (fun _ i _ => n - (intOf i).toNat)
    case atStart => exact ⟨0, _, Nat.zero_le _, rfl, rfl, by decide, (show LeastR [] _ from rfl), rfl⟩
    case round =>
      obtain ⟨k, q, hk, rfl, rfl, hq, HF, rfl⟩ := hrel
      have h0 : (0 : Int) ≤ (k : Int) := by omega
      by_cases hlt : k < n
      case pos =>
        have h1 : (k : Int) < (n : Int) := by omega
        cases nq : isNaN q with
        | true =>
          have HD := Lib.hid (show LeastR xs q from by
            have h := FoldR.append HF.out (FoldR.nan_more nq (xs.drop k))
            rwa [List.take_append_drop] at h)
          go_wp2_with (go_at_call 24; refine (nan_calls q _ hq).mono ?_; rw [nq]; rintro e w' ⟨rfl, rfl⟩)
          go_ret
          exact ⟨q, rfl, HD.out, hq, Turn.refl _ _⟩
        | false =>
          have hcx := HC.out k _ (flts_at (by rw [HL.out]; exact hlt))
          have hwx := HW.out k hlt
          have HS := Lib.hid (fun c => FoldR.step (R := MinR) (c := c) HF.out (by rw [HL.out]; exact hlt))
          generalize xs.getD k 0 = y at hcx hwx HS
          have HM := Lib.hid (fun t => least_step hq hwx nq t)
          have NQ := Lib.hid nq
          clear nq
          obtain ⟨t1, ht1⟩ : ∃ t, isNaN y = t := ⟨_, rfl⟩
          obtain ⟨t2, ht2⟩ : ∃ t, fLt y q = t := ⟨_, rfl⟩
          obtain ⟨t3, ht3⟩ : ∃ t, fEq y q = t := ⟨_, rfl⟩
          obtain ⟨t4, ht4⟩ : ∃ t, (isNeg y && !isNaN y) = t := ⟨_, rfl⟩
          rw [ht1, ht2, ht3] at HM
          rw [ht1] at ht4
          rw [ht4] at HM
          have HT1 := Lib.hid ht1
          have HT4 := Lib.hid ht4
          clear ht1 ht4
          cases t1 with
          | true =>
            go_wp2_with (first
              | (go_at_call 24; refine (nan_calls _ _ (by assumption)).mono ?_; (first | rw [NQ.out] | rw [HT1.out]); rintro e w' ⟨rfl, rfl⟩)
              | (go_at_call 29; refine (negative_calls y _ hwx).mono ?_; rw [HT1.out, HT4.out]; rintro e w' ⟨rfl, rfl⟩))
            go_roundw
            case rel => exact ⟨k + 1, _, by omega, by go_num, rfl, hwx, HS.out _ (HM.out true rfl), trivial⟩
            case measure => simp [intOf]; omega
          | false =>
            cases t2 with
            | true =>
              go_wp2_with (first
                | (go_at_call 24; refine (nan_calls _ _ (by assumption)).mono ?_; (first | rw [NQ.out] | rw [HT1.out]); rintro e w' ⟨rfl, rfl⟩)
                | (go_at_call 29; refine (negative_calls y _ hwx).mono ?_; rw [HT1.out, HT4.out]; rintro e w' ⟨rfl, rfl⟩))
              go_roundw
              case rel => exact ⟨k + 1, _, by omega, by go_num, rfl, hwx, HS.out _ (HM.out true rfl), trivial⟩
              case measure => simp [intOf]; omega
            | false =>
              cases t3 with
              | false =>
                go_wp2_with (first
                  | (go_at_call 24; refine (nan_calls _ _ (by assumption)).mono ?_; (first | rw [NQ.out] | rw [HT1.out]); rintro e w' ⟨rfl, rfl⟩)
                  | (go_at_call 29; refine (negative_calls y _ hwx).mono ?_; rw [HT1.out, HT4.out]; rintro e w' ⟨rfl, rfl⟩))
                go_roundw
                case rel => exact ⟨k + 1, _, by omega, by go_num, rfl, hq, HS.out _ (HM.out false rfl), trivial⟩
                case measure => simp [intOf]; omega
              | true =>
                cases t4 with
                | true =>
                  go_wp2_with (first
                    | (go_at_call 24; refine (nan_calls _ _ (by assumption)).mono ?_; (first | rw [NQ.out] | rw [HT1.out]); rintro e w' ⟨rfl, rfl⟩)
                    | (go_at_call 29; refine (negative_calls y _ hwx).mono ?_; rw [HT1.out, HT4.out]; rintro e w' ⟨rfl, rfl⟩))
                  go_roundw
                  case rel => exact ⟨k + 1, _, by omega, by go_num, rfl, hwx, HS.out _ (HM.out true rfl), trivial⟩
                  case measure => simp [intOf]; omega
                | false =>
                  go_wp2_with (first
                    | (go_at_call 24; refine (nan_calls _ _ (by assumption)).mono ?_; (first | rw [NQ.out] | rw [HT1.out]); rintro e w' ⟨rfl, rfl⟩)
                    | (go_at_call 29; refine (negative_calls y _ hwx).mono ?_; rw [HT1.out, HT4.out]; rintro e w' ⟨rfl, rfl⟩))
                  go_roundw
                  case rel => exact ⟨k + 1, _, by omega, by go_num, rfl, hq, HS.out _ (HM.out false rfl), trivial⟩
                  case measure => simp [intOf]; omega
      case neg =>
        obtain rfl : k = n := by omega
        have htk : xs.take k = xs := by rw [← HL.out]; exact List.take_length
        rw [htk] at HF
        go_wp2
        go_ret
        exact ⟨q, rfl, HF.out, hq, Turn.refl _ _⟩

theorem flts_append (a b : List Nat) : flts (a ++ b) = flts a ++ flts b := List.map_append
theorem map_take_snoc {f : Nat → Nat} {xs : List Nat} {k : Nat} (h : k < xs.length) : (xs.take (k + 1)).map f = (xs.take k).map f ++ [f (xs.getD k 0)] := by
  rw [List.take_succ_eq_append_getElem h, List.map_append]
  simp [List.getD, List.getElem?_eq_getElem h]

def RMostR (xs : List Nat) (r : Nat) : Prop := ∃ q, LeastR (xs.map neg) q ∧ r = neg q

set_option maxHeartbeats 800000 in
theorem rmost_calls (A : Option Addr) (n c : Nat) (xs : List Nat) (w : World) (hx : Reads w 1 A n (flts xs)) (hw : ∀ k, k < n → w64 (xs.getD k 0)) (hn : n ≤ 1000000) : Calls Try.prog 18 #[.slice A n c] w (RetF (RMostR xs) w) := by
  obtain ⟨i0, hi, hz0, hz1, hz2⟩ := info_parts Try.info24
  have hl : xs.length = n := by simpa using hx.1
  rcases Nat.eq_zero_or_pos n with h0 | h0
  · subst h0
    obtain rfl := List.eq_nil_of_length_eq_zero hl
    clear hx hl
    go_enter Try.func18, Try.ntmps18
    go_wp2_with fail
    refine wp_loop_rounds 1 ?_
    rw [rounds_succ]
    go_wp2_with fail
    refine (rleast_calls _ 0 0 [] _ (Reads.none_ _ _ _) (fun k hk => absurd hk (by omega)) (by omega)).mono ?_
    rintro e w2 ⟨q, rfl, hq, hq64, ht⟩
    have HQ := Lib.hid hq
    have HT := Lib.hid (((Turn.refl nowhere w).alloc _).trans ht (fun _ _ h => h))
    clear hq ht
    go_wp2
    go_ret
    exact ⟨_, rfl, ⟨q, HQ.out, rfl⟩, (neg_parts hq64).1, HT.out⟩
  · obtain ⟨b, off, rfl, hc⟩ := hx.2 h0
    have HC := Lib.hid hc
    have HL := Lib.hid hl
    have HW := Lib.hid hw
    clear hx hc hl h0 hw
    go_enter Try.func18, Try.ntmps18
    go_wp2
    go_loopw [3, 4] (fun v i wr => ∃ k : Nat, k ≤ n ∧ i = .int .i64 k ∧ Hid (wr.ownsRow w.heap.size 24 1 v k (flts ((xs.take k).map neg))) ∧ Hid (Turn nowhere w wr)) (fun _ i _ => n - (intOf i).toNat)
    case atStart => exact ⟨0, Nat.zero_le _, rfl, World.ownsRow_lit (base := w.heap.size) (size := 1) (e := 24) w #[] 0 (Nat.le_refl _) (by simp [maxLen]) rfl, (Turn.refl _ _).alloc _⟩
    case round =>
      obtain ⟨k, hk, rfl, HO, HT⟩ := hrel
      have h0 : (0 : Int) ≤ (k : Int) := by omega
      by_cases hlt : k < n
      case pos =>
        have h1 : (k : Int) < (n : Int) := by omega
        have hcx := HT.out.cell (HC.out k _ (flts_at (by rw [HL.out]; exact hlt))) (fun h => h)
        have HS := Lib.hid (map_take_snoc (f := neg) (xs := xs) (k := k) (by rw [HL.out]; exact hlt))
        generalize xs.getD k 0 = y at hcx HS
        go_wp2_with (at_builtin; refine wpList_append_own_at _ rfl (.tmp 12) (.tmp 18) 23 rfl w.heap.size 24 i0 (.float .f64 0) 1 8 Try.underlying23 hi hz0 hz1 hz2 rfl (by decide) u3 k (flts ((xs.take k).map neg)) rfl ?o1 ⟨wr.heap.size, 0, none⟩ 1 1 [.float .f64 (neg y)] rfl rfl ?o2 ?o3 ?o4 ?o5 ?o6 ?_)
        case o1 => exact HO.out.alloc _
        case o2 => exact World.news_of_block (cs := #[.float .f64 (neg y)]) (t := 24) (fr := (0, 0)) (by
          have := heap_alloc_new wr (.cells #[.float .f64 (neg y)] 24)
          simpa using this)
        case o3 => intro u hu; simp at hu; subst hu; rfl
        case o4 => unfold maxLen; omega
        case o5 => omega
        case o6 => have := HT.out.size; simp; omega
        intro v' w2 hown hg _ _
        have HO2 := Lib.hid hown
        have HT2 := Lib.hid (show Turn nowhere w w2 from (HT.out.alloc _).grown hg (fun q hq hlt => by have := (HO.out.lt q hq).1; omega))
        clear hown hg
        go_wp2
        go_roundw
        case rel => exact ⟨k + 1, by omega, by go_num, by rw [HS.out, flts_append]; exact Lib.hid (by simpa using HO2.out), HT2⟩
        case measure => simp [intOf]; omega
      case neg =>
        obtain rfl : k = n := by omega
        have htk : xs.take k = xs := by rw [← HL.out]; exact List.take_length
        rw [htk] at HO
        have HR := Lib.hid HO.out
        obtain ⟨A2, c2, rfl, _, _⟩ := own_form HR.out
        clear HO
        go_wp2_with fail
        refine (rleast_calls A2 k c2 (xs.map neg) _ (Reads.of_own HR.out) (fun j hj => ?w1) hn).mono ?_
        case w1 =>
          have h := HW.out j hj
          have hjl : j < xs.length := by rw [HL.out]; exact hj
          simp only [List.getD, List.getElem?_eq_getElem hjl, Option.getD_some, List.getElem?_map, Option.map_some] at h ⊢
          exact (neg_parts h).1
        rintro e w2 ⟨q, rfl, hq, hq64, ht⟩
        have HQ := Lib.hid hq
        have HT2 := Lib.hid (HT.out.trans ht (fun _ _ h => h))
        clear hq ht
        go_wp2
        go_ret
        exact ⟨_, rfl, ⟨q, HQ.out, rfl⟩, (neg_parts hq64).1, HT2.out⟩

end Go.Proofs.Ytkphnmpildkdaaa
