/- Contracts of the reference's side of Waits: Own, clock, Waits. -/
import Derived.Test.YtkphnmpildkdaaaTellsLaw
import Derived.Deep.QuietTactic
import Derived.BigQuiet
import Derived.WalkSpells
namespace Go.Proofs.Ytkphnmpildkdaaa
open Go.RowKit Go.Maps

theorem Try.info45 : (Try.prog.info? 45).map (fun i => (i.zero, i.size, i.bytes)) = some (some (.agg #[.int .i64 0, .int .i64 0, .int .i64 0, .int .i64 0]), 4, 32) := by kernel_rfl

theorem evs_take_snoc (xs : List Ev) (k : Nat) (h : k < xs.length) : evs (xs.take (k + 1)) = evs (xs.take k) ++ (xs.getD k default).cells := by
  rw [List.take_succ_eq_append_getElem h, evs_snoc]
  simp only [List.getD, List.getElem?_eq_getElem h, Option.getD_some]

/-- What is made anew: the value owns xs from block B on; nothing that was there has turned. -/
def RetFresh (e : TypeId) (size n : Nat) (xs : List Value) (w : World) (en : Ending) (w' : World) : Prop :=
  ∃ v, en = .returned v ∧ w'.ownsRow w.heap.size e size v n xs ∧ Turn nowhere w w'

set_option maxHeartbeats 800000 in
theorem own_calls (A : Option Addr) (n c : Nat) (xs : List Ev) (w : World) (hx : Reads w 4 A n (evs xs)) (hn : n ≤ 100000) :
    Calls Try.prog 11 #[.slice A n c] w (RetFresh 45 4 n (evs xs) w) := by
  obtain ⟨i0, hi, hz0, hz1, hz2⟩ := info_parts Try.info45
  have hl : xs.length = n := by have := hx.1; rw [evs_len] at this; omega
  have HX := Lib.hid hx
  have HL := Lib.hid hl
  clear hx hl
  go_enter Try.func11, Try.ntmps11
  go_wp2
  go_loopg [3, 9] n (fun g v i wr => ∃ k : Nat, g = n - k ∧ k ≤ n ∧ i = .int .i64 k ∧ Hid (wr.ownsRow w.heap.size 45 4 v k (evs (xs.take k))) ∧ Hid (Turn nowhere w wr))
  case atStart => exact ⟨0, rfl, Nat.zero_le _, rfl, World.ownsRow_lit (base := w.heap.size) (size := 4) (e := 45) w #[] 0 (Nat.le_refl _) (by simp [maxLen]) rfl, (Turn.refl _ _).alloc _⟩
  case round =>
    obtain ⟨k, rfl, hk, rfl, HO, HT⟩ := hrel
    have h0 : (0 : Int) ≤ (k : Int) := by omega
    by_cases hlt : k < n
    · have h1 : (k : Int) < (n : Int) := by omega
      obtain ⟨b, off, rfl, hx⟩ := HX.out.ev (by omega)
      have ha := (hx k hlt).turn HT.out (fun h => h)
      clear hx
      have HS := Lib.hid (evs_take_snoc xs k (by rw [HL.out]; exact hlt))
      generalize xs.getD k default = y at ha HS
      obtain ⟨y0, y1, y2, y3⟩ := y
      obtain ⟨a0, a1, a2, a3⟩ := ha
      simp only at a0 a1 a2 a3
      go_wp2_with (at_builtin; refine wpList_append_own_at _ rfl (.tmp 13) (.tmp 15) 29 rfl w.heap.size 45 i0 (.agg #[.int .i64 0, .int .i64 0, .int .i64 0, .int .i64 0]) 4 32 Try.underlying29 hi hz0 hz1 hz2 rfl (by decide) u3 k (evs (xs.take k)) rfl ?o1 ⟨wr.heap.size + 1, 0, none⟩ 1 1 [.int .i64 y0, .int .i64 y1, .int .i64 y2, .int .i64 y3] rfl rfl ?o2 ?o3 ?o4 ?o5 ?o6 ?_)
      case o1 => exact (HO.out.alloc _).alloc _
      case o2 => exact World.news_of_block (cs := #[.int .i64 y0, .int .i64 y1, .int .i64 y2, .int .i64 y3]) (t := 45) (fr := (0, 0)) (by
        have := heap_alloc_new (wr.alloc (.cells #[.int .i64 y0, .int .i64 y1, .int .i64 y2, .int .i64 y3] 41)) (.cells #[.int .i64 y0, .int .i64 y1, .int .i64 y2, .int .i64 y3] 45)
        simpa using this)
      case o3 => intro u hu; simp at hu; rcases hu with rfl | rfl | rfl | rfl <;> rfl
      case o4 => unfold maxLen; omega
      case o5 => omega
      case o6 => have := HT.out.size; simp; omega
      intro v' w2 hown hg _ _
      have HO2 := Lib.hid hown
      have HT2 := Lib.hid (show Turn nowhere w w2 from ((HT.out.alloc _).alloc _).grown hg (fun q hq hlt => by have := (HO.out.lt q hq).1; omega))
      clear hown hg
      go_wp2
      go_roundg (n - (k + 1))
      case rel => exact ⟨k + 1, rfl, by omega, by go_num, by rw [HS.out]; exact HO2, HT2⟩
      case measure => omega
    · obtain rfl : k = n := by omega
      have htk : xs.take k = xs := by rw [← HL.out]; exact List.take_length
      rw [htk] at HO
      go_wp2
      go_ret
      exact ⟨_, rfl, HO.out, HT.out⟩

set_option maxHeartbeats 800000 in
theorem clock_calls (b off n c k : Nat) (l : List Ev) (w : World) (hx : ∀ j, j < n → EvAt w b off j (l.getD j default)) (hl : l.length = n) (hk : k ≤ n) (hn : n ≤ 100000) :
    Calls Try.prog 23 #[.slice (some ⟨b, off, none⟩) n c, .int .i64 k] w fun e w' => e = .returned (.int .i64 (clockOf l k)) ∧ w = w' := by
  have HX := Lib.hid hx
  have HL := Lib.hid hl
  clear hx hl
  go_enter Try.func23, Try.ntmps23
  go_wp2
  go_loopw [5, 6] (fun s i wr => ∃ p : Nat, p ≤ k ∧ i = .int .i64 p ∧ s = .int .i64 (clockOf l p) ∧ wr = w) (fun _ i _ => k - (intOf i).toNat)
  case atStart => exact ⟨0, Nat.zero_le _, rfl, rfl, rfl⟩
  case round =>
    obtain ⟨p, hp, rfl, rfl, rfl⟩ := hrel
    have h0 : (0 : Int) ≤ (p : Int) := by omega
    by_cases hlt : p < k
    · have h1 : (p : Int) < (k : Int) := by omega
      have h2 : (p : Int) < (n : Int) := by omega
      obtain ⟨a0, a1, a2, a3⟩ := HX.out p (by omega)
      have HS := Lib.hid (clock_step (l := l) (k := p) (by rw [HL.out]; omega))
      generalize l.getD p default = y at a0 a1 a2 a3 HS
      generalize clockOf l p = s at HS
      by_cases h8 : y.kind = 8
      · have b8 : (y.kind == 8) = true := by simpa using h8
        have HS2 := Lib.hid (show clockOf l (p + 1) = y.n from by rw [HS.out]; simp [clockStep, h8])
        clear h8
        go_wp2
        go_roundw
        case rel => exact ⟨p + 1, by omega, by go_num, by rw [HS2.out], trivial⟩
        case measure => simp [intOf]; omega
      · have b8 : (y.kind == 8) = false := beq_eq_false_iff_ne.2 h8
        have HS2 := Lib.hid (show clockOf l (p + 1) = s from by rw [HS.out]; simp [clockStep, h8])
        clear h8
        go_wp2
        go_roundw
        case rel => exact ⟨p + 1, by omega, by go_num, by rw [HS2.out], trivial⟩
        case measure => simp [intOf]; omega
    · obtain rfl : p = k := by omega
      go_wp2
      go_ret
      exact ⟨rfl, rfl⟩

/-- The place of a Parked, or -1. -/
def place : Option Nat → Int
  | some j => j
  | none => -1

theorem fp_step (l : List Ev) (t : Int) (q : Nat) : fp l t (q + 1) = if (l.getD q default).kind = 5 ∧ (l.getD q default).task = t then none else
      (fp l t q).or (if (l.getD q default).kind = 4 ∧ (l.getD q default).task = t then some q else none) := rfl

set_option maxRecDepth 20000 in
set_option maxHeartbeats 6400000 in
theorem rwaits_core (b off n c : Nat) (l : List Ev) (kind : Int) (w : World) (hx : ∀ j, j < n → EvAt w b off j (l.getD j default)) (hl : l.length = n) (hok : ∀ k, k < n → EvOK (l.getD k default)) (hn : n ≤ 100000) :
    Calls Try.prog 10 #[.slice (some ⟨b, off, none⟩) n c, .int .i64 kind] w (RetFresh 24 1 (runW kind l).out.length (flts (runW kind l).out) w) := by
  obtain ⟨i0, hi, hz0, hz1, hz2⟩ := info_parts Try.info24
  have HX := Lib.hid hx
  have HL := Lib.hid hl
  have HWF := Lib.hid (clockOf_wf (l := l) (fun x hx => by
    obtain ⟨i, hi, rfl⟩ := List.mem_iff_getElem.1 hx
    have := (hok i (by omega)).2.2.2
    simpa [List.getD, List.getElem?_eq_getElem hi] using this))
  have HLEN := Lib.hid (show ∀ k, k ≤ n → (runW kind (l.take k)).out.length ≤ k from fun k hk => by
    have : ∀ (m : List Ev) (s : St), (m.foldl (stepW kind) s).out.length ≤ s.out.length + m.length := by
      intro m
      induction m with
      | nil => intro s; simp
      | cons x m ih => intro s; have h1 := ih (stepW kind s x); have h2 := stepW_len kind s x; simp only [List.foldl_cons, List.length_cons]; omega
    have h := this (l.take k) st0
    unfold runW
    simp [st0] at h ⊢
    omega)
  clear hx hl hok
  go_enter Try.func10, Try.ntmps10
  go_wp2
  go_loopg [5, 6] n (fun g v i wr => ∃ k : Nat, g = n - k ∧ k ≤ n ∧ i = .int .i64 k ∧ Hid (wr.ownsRow w.heap.size 24 1 v (runW kind (l.take k)).out.length (flts (runW kind (l.take k)).out)) ∧ Hid (Turn nowhere w wr))
  case atStart => exact ⟨0, rfl, Nat.zero_le _, rfl, World.ownsRow_lit (base := w.heap.size) (size := 1) (e := 24) w #[] 0 (Nat.le_refl _) (by simp [maxLen]) rfl, (Turn.refl _ _).alloc _⟩
  case round =>
    obtain ⟨k, rfl, hk, rfl, HO, HT⟩ := hrel
    have h0 : (0 : Int) ≤ (k : Int) := by omega
    by_cases hlt : k < n
    case pos =>
      have h1 : (k : Int) < (n : Int) := by omega
      obtain ⟨a0, a1, a2, a3⟩ := (HX.out k hlt).turn HT.out (fun h => h)
      have HS := Lib.hid (out_step kind l (i := k) (by rw [HL.out]; exact hlt))
      have hlen := HLEN.out k hk
      generalize hlk : l.getD k default = y at a0 a1 a2 a3 HS
      have HLK := Lib.hid hlk
      clear hlk
      obtain ⟨y0, y1, y2, y3⟩ := y
      simp only at a0 a1 a2 a3 HS
      generalize (runW kind (l.take k)).out = ot at HO HS hlen
      by_cases hcond : y0 = 5 ∧ (kind = 0 ∨ y2 = kind)
      case neg =>
        have HS2 := Lib.hid (show (runW kind (l.take (k + 1))).out = ot from by rw [HS.out]; simp [hcond])
        clear HS
        by_cases h5 : y0 = 5
        case pos =>
          subst y0
          have hk0 : kind ≠ 0 := fun h => hcond ⟨rfl, .inl h⟩
          have hk1 : y2 ≠ kind := fun h => hcond ⟨rfl, .inr h⟩
          have b1 : (kind != 0) = true := by simpa using hk0
          have b2 : (y2 != kind) = true := by simpa using hk1
          clear hk0 hk1 hcond
          go_wp2
          go_roundg (n - (k + 1))
          case rel => exact ⟨k + 1, rfl, by omega, by go_num, by rw [HS2.out]; exact HO, HT⟩
          case measure => omega
        case neg =>
          have b1 : (y0 != 5) = true := by simpa using h5
          clear h5 hcond
          go_wp2
          go_roundg (n - (k + 1))
          case rel => exact ⟨k + 1, rfl, by omega, by go_num, by rw [HS2.out]; exact HO, HT⟩
          case measure => omega
      case pos =>
        obtain ⟨rfl, hk0⟩ := hcond
        rw [if_pos ⟨rfl, hk0⟩] at HS
        by_cases hkz : kind = 0
        case pos =>
          subst kind
          clear hk0
          go_wp2
          go_loopg [7, 8] k (fun g s q wy => ∃ (p : Nat) (from_ : Option Nat) (kk : Int), p = g ∧ p ≤ k ∧ kk = (p : Int) - 1 ∧ q = .int .i64 kk ∧ s = .int .i64 (place from_) ∧ Hid (fp l y1 k = (fp l y1 p).or from_) ∧ Hid (∀ j, from_ = some j → j < k) ∧ Hid (Turn nowhere wr wy))
          case atStart => exact ⟨k, none, (k : Int) - 1, rfl, Nat.le_refl _, rfl, by go_num, rfl, Lib.hid (by simp), fun j h => (by cases h), Turn.refl _ _⟩
          case round =>
            obtain ⟨p, from_, kk, rfl, hp, hkk, rfl, rfl, HF, HLT, HTY⟩ := hrel
            have HTW := Lib.hid (HT.out.trans HTY.out (fun _ _ h => h))
            rcases Nat.eq_zero_or_pos p with hp0 | hp0
            case inl =>
              subst hp0
              have hge : decide (0 ≤ kk) = false := by simp; omega
              have HFF := Lib.hid (show fp l y1 k = from_ from by rw [HF.out]; simp [fp])
              clear hkk
              go_wp2_with fail
              go_quiet (fail)
              have hz := HTY.out.drewN nq
              generalize hwz : World.drewN _ nq = wz at hz ⊢
              have HZ := Lib.hid hz
              clear hz
              have HTZ := Lib.hid (HT.out.trans HZ.out (fun _ _ h => h))
              have HOZ := Lib.hid (HZ.out.own HO.out (fun _ _ h => h))
              clear hwz HTY HTW
              rw [HFF.out] at HS
              cases from_ with
              | none =>
                have HS2 := Lib.hid (HS.out.trans (List.append_nil ot))
                go_wp2
                go_roundg (n - (k + 1))
                case rel => exact ⟨k + 1, rfl, by omega, by go_num, by rw [HS2.out]; exact HOZ, HTZ⟩
                case measure => omega
              | some j =>
                have hjk := HLT.out j rfl
                have hj0 : decide ((0 : Int) ≤ (j : Int)) = true := by simp
                have hsub := fun w => run_float_arith (P := Try.prog) w .sub 24 .f64 (floatOfInt .f64 (clockOf l k)) (floatOfInt .f64 (clockOf l j)) (subF (clockOf l k) (clockOf l j)) (sub_some (HWF.out k) (HWF.out j))
                have HS2 := Lib.hid (HS.out.trans (show _ = ot ++ [subF (clockOf l k) (clockOf l j)] from rfl))
                simp only [place]
                go_wp2_with (first
                  | (go_at_call 23; refine (clock_calls b off n c _ l _ (fun j hj => (HX.out j hj).turn HTZ.out (fun h => h)) HL.out (by omega) hn).mono ?_; rintro e w' ⟨rfl, rfl⟩)
                  | (at_builtin; refine wpList_append_own_at _ rfl (.tmp 84) (.tmp 94) 23 rfl w.heap.size 24 i0 (.float .f64 0) 1 8 Try.underlying23 hi hz0 hz1 hz2 rfl (by decide) u5 ot.length (flts ot) rfl ?o1 ⟨wz.heap.size, 0, none⟩ 1 1 [.float .f64 (subF (clockOf l k) (clockOf l j))] rfl rfl ?o2 ?o3 ?o4 ?o5 ?o6 ?_))
                case o1 => exact HOZ.out.alloc _
                case o2 => exact World.news_of_block (cs := #[.float .f64 (subF (clockOf l k) (clockOf l j))]) (t := 24) (fr := (0, 0)) (by
                    have := heap_alloc_new wz (.cells #[.float .f64 (subF (clockOf l k) (clockOf l j))] 24)
                    simpa using this)
                case o3 => intro u hu; simp at hu; subst hu; rfl
                case o4 => unfold maxLen; omega
                case o5 => omega
                case o6 => have := HTZ.out.size; simp; omega
                intro v' w8 hown hg _ _
                have HO8 := Lib.hid hown
                have HT8 := Lib.hid (show Turn nowhere w w8 from (HTZ.out.alloc _).grown hg (fun q hq hlt => by have := (HOZ.out.lt q hq).1; omega))
                clear hown hg
                go_wp2
                go_roundg (n - (k + 1))
                case rel => exact ⟨k + 1, rfl, by omega, by go_num, by rw [HS2.out, flts_append, List.length_append, List.length_singleton]; exact HO8, HT8⟩
                case measure => omega
            case inr =>
              obtain ⟨q, rfl⟩ : ∃ q, p = q + 1 := ⟨p - 1, by omega⟩
              obtain rfl : kk = (q : Int) := by omega
              clear hkk hp0
              have hge : decide ((0 : Int) ≤ (q : Int)) = true := by simp
              have hq0 : (0 : Int) ≤ (q : Int) := by omega
              have hqn : (q : Int) < (n : Int) := by omega
              obtain ⟨c0, c1, c2, c3⟩ := (HX.out q (by omega)).turn HTW.out (fun h => h)
              obtain ⟨d0, d1, d2, d3⟩ := (HX.out k hlt).turn HTW.out (fun h => h)
              have HFS := Lib.hid (fp_step l y1 q)
              rw [HLK.out] at d0 d1 d2 d3
              simp only at d0 d1 d2 d3
              generalize l.getD q default = x at c0 c1 c2 c3 HFS
              obtain ⟨x0, x1, x2, x3⟩ := x
              simp only at c0 c1 c2 c3 HFS
              clear c2 c3 d2 d3
              by_cases hw : x0 = 5 ∧ x1 = y1
              case pos =>
                have e1 : (x0 != 5) = false := by simp [hw.1]
                have e2 : (x1 != y1) = false := by simp [hw.2]
                have HFF := Lib.hid (show fp l y1 k = from_ from by rw [HF.out, HFS.out, if_pos hw]; simp)
                clear hw
                go_wp2_with fail
                go_quiet (fail)
                have hz := HTY.out.drewN nq
                generalize hwz : World.drewN _ nq = wz at hz ⊢
                have HZ := Lib.hid hz
                clear hz
                have HTZ := Lib.hid (HT.out.trans HZ.out (fun _ _ h => h))
                have HOZ := Lib.hid (HZ.out.own HO.out (fun _ _ h => h))
                clear hwz HTY HTW
                rw [HFF.out] at HS
                cases from_ with
                | none =>
                  have HS2 := Lib.hid (HS.out.trans (List.append_nil ot))
                  go_wp2
                  go_roundg (n - (k + 1))
                  case rel => exact ⟨k + 1, rfl, by omega, by go_num, by rw [HS2.out]; exact HOZ, HTZ⟩
                  case measure => omega
                | some j =>
                  have hjk := HLT.out j rfl
                  have hj0 : decide ((0 : Int) ≤ (j : Int)) = true := by simp
                  have hsub := fun w => run_float_arith (P := Try.prog) w .sub 24 .f64 (floatOfInt .f64 (clockOf l k)) (floatOfInt .f64 (clockOf l j)) (subF (clockOf l k) (clockOf l j)) (sub_some (HWF.out k) (HWF.out j))
                  have HS2 := Lib.hid (HS.out.trans (show _ = ot ++ [subF (clockOf l k) (clockOf l j)] from rfl))
                  simp only [place]
                  go_wp2_with (first
                    | (go_at_call 23; refine (clock_calls b off n c _ l _ (fun j hj => (HX.out j hj).turn HTZ.out (fun h => h)) HL.out (by omega) hn).mono ?_; rintro e w' ⟨rfl, rfl⟩)
                    | (at_builtin; refine wpList_append_own_at _ rfl (.tmp 84) (.tmp 94) 23 rfl w.heap.size 24 i0 (.float .f64 0) 1 8 Try.underlying23 hi hz0 hz1 hz2 rfl (by decide) u5 ot.length (flts ot) rfl ?o1 ⟨wz.heap.size, 0, none⟩ 1 1 [.float .f64 (subF (clockOf l k) (clockOf l j))] rfl rfl ?o2 ?o3 ?o4 ?o5 ?o6 ?_))
                  case o1 => exact HOZ.out.alloc _
                  case o2 => exact World.news_of_block (cs := #[.float .f64 (subF (clockOf l k) (clockOf l j))]) (t := 24) (fr := (0, 0)) (by
                      have := heap_alloc_new wz (.cells #[.float .f64 (subF (clockOf l k) (clockOf l j))] 24)
                      simpa using this)
                  case o3 => intro u hu; simp at hu; subst hu; rfl
                  case o4 => unfold maxLen; omega
                  case o5 => omega
                  case o6 => have := HTZ.out.size; simp; omega
                  intro v' w8 hown hg _ _
                  have HO8 := Lib.hid hown
                  have HT8 := Lib.hid (show Turn nowhere w w8 from (HTZ.out.alloc _).grown hg (fun q hq hlt => by have := (HOZ.out.lt q hq).1; omega))
                  clear hown hg
                  go_wp2
                  go_roundg (n - (k + 1))
                  case rel => exact ⟨k + 1, rfl, by omega, by go_num, by rw [HS2.out, flts_append, List.length_append, List.length_singleton]; exact HO8, HT8⟩
                  case measure => omega
              case neg =>
                have HFS2 := Lib.hid (show fp l y1 (q + 1) = (fp l y1 q).or (if x0 = 4 ∧ x1 = y1 then some q else none) from by rw [HFS.out, if_neg hw])
                by_cases h4 : x0 = 4
                case pos =>
                  have e1 : (x0 != 5) = true := by rw [h4]; rfl
                  have e3 : (x0 == 4) = true := by rw [h4]; rfl
                  by_cases ht : x1 = y1
                  case pos =>
                    have e4 : (x1 == y1) = true := by simpa using ht
                    have HNF := Lib.hid (show fp l y1 k = (fp l y1 q).or (some q) from by rw [HF.out, HFS2.out, if_pos ⟨h4, ht⟩]; cases fp l y1 q <;> simp)
                    clear hw h4 ht
                    go_wp2_with fail
                    go_quiet (fail)
                    go_wp2_with fail
                    go_quiet (fail)
                    go_wp2
                    go_roundg q
                    case rel => exact ⟨q, some q, (q : Int) - 1, rfl, by omega, rfl, by go_num, rfl, HNF, fun j h => (by injection h with h; omega), Lib.hid (by have := HTY.out; exact (this.drewN _))⟩
                    case measure => omega
                  case neg =>
                    have e4 : (x1 == y1) = false := beq_eq_false_iff_ne.2 ht
                    have HNF := Lib.hid (show fp l y1 k = (fp l y1 q).or from_ from by rw [HF.out, HFS2.out, if_neg (fun h => ht h.2)]; simp)
                    clear hw h4 ht
                    go_wp2_with fail
                    go_quiet (fail)
                    go_wp2_with fail
                    go_quiet (fail)
                    go_wp2
                    go_roundg q
                    case rel => exact ⟨q, from_, (q : Int) - 1, rfl, by omega, rfl, by go_num, rfl, HNF, HLT, Lib.hid (by have := HTY.out; exact (this.drewN _))⟩
                    case measure => omega
                case neg =>
                  have e3 : (x0 == 4) = false := beq_eq_false_iff_ne.2 h4
                  have HNF := Lib.hid (show fp l y1 k = (fp l y1 q).or from_ from by rw [HF.out, HFS2.out, if_neg (fun h => h4 h.1)]; simp)
                  by_cases h5 : x0 = 5
                  case pos =>
                    have e1 : (x0 != 5) = false := by simp [h5]
                    have e2 : (x1 != y1) = true := by simpa using fun h => hw ⟨h5, h⟩
                    clear hw h4 h5
                    go_wp2_with fail
                    go_quiet (fail)
                    go_wp2_with fail
                    go_quiet (fail)
                    go_wp2
                    go_roundg q
                    case rel => exact ⟨q, from_, (q : Int) - 1, rfl, by omega, rfl, by go_num, rfl, HNF, HLT, Lib.hid (by have := HTY.out; exact (this.drewN _))⟩
                    case measure => omega
                  case neg =>
                    have e1 : (x0 != 5) = true := by simpa using h5
                    clear hw h4 h5
                    go_wp2_with fail
                    go_quiet (fail)
                    go_wp2_with fail
                    go_quiet (fail)
                    go_wp2
                    go_roundg q
                    case rel => exact ⟨q, from_, (q : Int) - 1, rfl, by omega, rfl, by go_num, rfl, HNF, HLT, Lib.hid (by have := HTY.out; exact (this.drewN _))⟩
                    case measure => omega
        case neg =>
          obtain rfl : y2 = kind := hk0.resolve_left hkz
          have b1 : (y2 != 0) = true := by simpa using hkz
          clear hk0 hkz
          go_wp2
          go_loopg [7, 8] k (fun g s q wy => ∃ (p : Nat) (from_ : Option Nat) (kk : Int), p = g ∧ p ≤ k ∧ kk = (p : Int) - 1 ∧ q = .int .i64 kk ∧ s = .int .i64 (place from_) ∧ Hid (fp l y1 k = (fp l y1 p).or from_) ∧ Hid (∀ j, from_ = some j → j < k) ∧ Hid (Turn nowhere wr wy))
          case atStart => exact ⟨k, none, (k : Int) - 1, rfl, Nat.le_refl _, rfl, by go_num, rfl, Lib.hid (by simp), fun j h => (by cases h), Turn.refl _ _⟩
          case round =>
            obtain ⟨p, from_, kk, rfl, hp, hkk, rfl, rfl, HF, HLT, HTY⟩ := hrel
            have HTW := Lib.hid (HT.out.trans HTY.out (fun _ _ h => h))
            rcases Nat.eq_zero_or_pos p with hp0 | hp0
            case inl =>
              subst hp0
              have hge : decide (0 ≤ kk) = false := by simp; omega
              have HFF := Lib.hid (show fp l y1 k = from_ from by rw [HF.out]; simp [fp])
              clear hkk
              go_wp2_with fail
              go_quiet (fail)
              have hz := HTY.out.drewN nq
              generalize hwz : World.drewN _ nq = wz at hz ⊢
              have HZ := Lib.hid hz
              clear hz
              have HTZ := Lib.hid (HT.out.trans HZ.out (fun _ _ h => h))
              have HOZ := Lib.hid (HZ.out.own HO.out (fun _ _ h => h))
              clear hwz HTY HTW
              rw [HFF.out] at HS
              cases from_ with
              | none =>
                have HS2 := Lib.hid (HS.out.trans (List.append_nil ot))
                go_wp2
                go_roundg (n - (k + 1))
                case rel => exact ⟨k + 1, rfl, by omega, by go_num, by rw [HS2.out]; exact HOZ, HTZ⟩
                case measure => omega
              | some j =>
                have hjk := HLT.out j rfl
                have hj0 : decide ((0 : Int) ≤ (j : Int)) = true := by simp
                have hsub := fun w => run_float_arith (P := Try.prog) w .sub 24 .f64 (floatOfInt .f64 (clockOf l k)) (floatOfInt .f64 (clockOf l j)) (subF (clockOf l k) (clockOf l j)) (sub_some (HWF.out k) (HWF.out j))
                have HS2 := Lib.hid (HS.out.trans (show _ = ot ++ [subF (clockOf l k) (clockOf l j)] from rfl))
                simp only [place]
                go_wp2_with (first
                  | (go_at_call 23; refine (clock_calls b off n c _ l _ (fun j hj => (HX.out j hj).turn HTZ.out (fun h => h)) HL.out (by omega) hn).mono ?_; rintro e w' ⟨rfl, rfl⟩)
                  | (at_builtin; refine wpList_append_own_at _ rfl (.tmp 84) (.tmp 94) 23 rfl w.heap.size 24 i0 (.float .f64 0) 1 8 Try.underlying23 hi hz0 hz1 hz2 rfl (by decide) u5 ot.length (flts ot) rfl ?o1 ⟨wz.heap.size, 0, none⟩ 1 1 [.float .f64 (subF (clockOf l k) (clockOf l j))] rfl rfl ?o2 ?o3 ?o4 ?o5 ?o6 ?_))
                case o1 => exact HOZ.out.alloc _
                case o2 => exact World.news_of_block (cs := #[.float .f64 (subF (clockOf l k) (clockOf l j))]) (t := 24) (fr := (0, 0)) (by
                    have := heap_alloc_new wz (.cells #[.float .f64 (subF (clockOf l k) (clockOf l j))] 24)
                    simpa using this)
                case o3 => intro u hu; simp at hu; subst hu; rfl
                case o4 => unfold maxLen; omega
                case o5 => omega
                case o6 => have := HTZ.out.size; simp; omega
                intro v' w8 hown hg _ _
                have HO8 := Lib.hid hown
                have HT8 := Lib.hid (show Turn nowhere w w8 from (HTZ.out.alloc _).grown hg (fun q hq hlt => by have := (HOZ.out.lt q hq).1; omega))
                clear hown hg
                go_wp2
                go_roundg (n - (k + 1))
                case rel => exact ⟨k + 1, rfl, by omega, by go_num, by rw [HS2.out, flts_append, List.length_append, List.length_singleton]; exact HO8, HT8⟩
                case measure => omega
            case inr =>
              obtain ⟨q, rfl⟩ : ∃ q, p = q + 1 := ⟨p - 1, by omega⟩
              obtain rfl : kk = (q : Int) := by omega
              clear hkk hp0
              have hge : decide ((0 : Int) ≤ (q : Int)) = true := by simp
              have hq0 : (0 : Int) ≤ (q : Int) := by omega
              have hqn : (q : Int) < (n : Int) := by omega
              obtain ⟨c0, c1, c2, c3⟩ := (HX.out q (by omega)).turn HTW.out (fun h => h)
              obtain ⟨d0, d1, d2, d3⟩ := (HX.out k hlt).turn HTW.out (fun h => h)
              have HFS := Lib.hid (fp_step l y1 q)
              rw [HLK.out] at d0 d1 d2 d3
              simp only at d0 d1 d2 d3
              generalize l.getD q default = x at c0 c1 c2 c3 HFS
              obtain ⟨x0, x1, x2, x3⟩ := x
              simp only at c0 c1 c2 c3 HFS
              clear c2 c3 d2 d3
              by_cases hw : x0 = 5 ∧ x1 = y1
              case pos =>
                have e1 : (x0 != 5) = false := by simp [hw.1]
                have e2 : (x1 != y1) = false := by simp [hw.2]
                have HFF := Lib.hid (show fp l y1 k = from_ from by rw [HF.out, HFS.out, if_pos hw]; simp)
                clear hw
                go_wp2_with fail
                go_quiet (fail)
                have hz := HTY.out.drewN nq
                generalize hwz : World.drewN _ nq = wz at hz ⊢
                have HZ := Lib.hid hz
                clear hz
                have HTZ := Lib.hid (HT.out.trans HZ.out (fun _ _ h => h))
                have HOZ := Lib.hid (HZ.out.own HO.out (fun _ _ h => h))
                clear hwz HTY HTW
                rw [HFF.out] at HS
                cases from_ with
                | none =>
                  have HS2 := Lib.hid (HS.out.trans (List.append_nil ot))
                  go_wp2
                  go_roundg (n - (k + 1))
                  case rel => exact ⟨k + 1, rfl, by omega, by go_num, by rw [HS2.out]; exact HOZ, HTZ⟩
                  case measure => omega
                | some j =>
                  have hjk := HLT.out j rfl
                  have hj0 : decide ((0 : Int) ≤ (j : Int)) = true := by simp
                  have hsub := fun w => run_float_arith (P := Try.prog) w .sub 24 .f64 (floatOfInt .f64 (clockOf l k)) (floatOfInt .f64 (clockOf l j)) (subF (clockOf l k) (clockOf l j)) (sub_some (HWF.out k) (HWF.out j))
                  have HS2 := Lib.hid (HS.out.trans (show _ = ot ++ [subF (clockOf l k) (clockOf l j)] from rfl))
                  simp only [place]
                  go_wp2_with (first
                    | (go_at_call 23; refine (clock_calls b off n c _ l _ (fun j hj => (HX.out j hj).turn HTZ.out (fun h => h)) HL.out (by omega) hn).mono ?_; rintro e w' ⟨rfl, rfl⟩)
                    | (at_builtin; refine wpList_append_own_at _ rfl (.tmp 84) (.tmp 94) 23 rfl w.heap.size 24 i0 (.float .f64 0) 1 8 Try.underlying23 hi hz0 hz1 hz2 rfl (by decide) u5 ot.length (flts ot) rfl ?o1 ⟨wz.heap.size, 0, none⟩ 1 1 [.float .f64 (subF (clockOf l k) (clockOf l j))] rfl rfl ?o2 ?o3 ?o4 ?o5 ?o6 ?_))
                  case o1 => exact HOZ.out.alloc _
                  case o2 => exact World.news_of_block (cs := #[.float .f64 (subF (clockOf l k) (clockOf l j))]) (t := 24) (fr := (0, 0)) (by
                      have := heap_alloc_new wz (.cells #[.float .f64 (subF (clockOf l k) (clockOf l j))] 24)
                      simpa using this)
                  case o3 => intro u hu; simp at hu; subst hu; rfl
                  case o4 => unfold maxLen; omega
                  case o5 => omega
                  case o6 => have := HTZ.out.size; simp; omega
                  intro v' w8 hown hg _ _
                  have HO8 := Lib.hid hown
                  have HT8 := Lib.hid (show Turn nowhere w w8 from (HTZ.out.alloc _).grown hg (fun q hq hlt => by have := (HOZ.out.lt q hq).1; omega))
                  clear hown hg
                  go_wp2
                  go_roundg (n - (k + 1))
                  case rel => exact ⟨k + 1, rfl, by omega, by go_num, by rw [HS2.out, flts_append, List.length_append, List.length_singleton]; exact HO8, HT8⟩
                  case measure => omega
              case neg =>
                have HFS2 := Lib.hid (show fp l y1 (q + 1) = (fp l y1 q).or (if x0 = 4 ∧ x1 = y1 then some q else none) from by rw [HFS.out, if_neg hw])
                by_cases h4 : x0 = 4
                case pos =>
                  have e1 : (x0 != 5) = true := by rw [h4]; rfl
                  have e3 : (x0 == 4) = true := by rw [h4]; rfl
                  by_cases ht : x1 = y1
                  case pos =>
                    have e4 : (x1 == y1) = true := by simpa using ht
                    have HNF := Lib.hid (show fp l y1 k = (fp l y1 q).or (some q) from by rw [HF.out, HFS2.out, if_pos ⟨h4, ht⟩]; cases fp l y1 q <;> simp)
                    clear hw h4 ht
                    go_wp2_with fail
                    go_quiet (fail)
                    go_wp2_with fail
                    go_quiet (fail)
                    go_wp2
                    go_roundg q
                    case rel => exact ⟨q, some q, (q : Int) - 1, rfl, by omega, rfl, by go_num, rfl, HNF, fun j h => (by injection h with h; omega), Lib.hid (by have := HTY.out; exact (this.drewN _))⟩
                    case measure => omega
                  case neg =>
                    have e4 : (x1 == y1) = false := beq_eq_false_iff_ne.2 ht
                    have HNF := Lib.hid (show fp l y1 k = (fp l y1 q).or from_ from by rw [HF.out, HFS2.out, if_neg (fun h => ht h.2)]; simp)
                    clear hw h4 ht
                    go_wp2_with fail
                    go_quiet (fail)
                    go_wp2_with fail
                    go_quiet (fail)
                    go_wp2
                    go_roundg q
                    case rel => exact ⟨q, from_, (q : Int) - 1, rfl, by omega, rfl, by go_num, rfl, HNF, HLT, Lib.hid (by have := HTY.out; exact (this.drewN _))⟩
                    case measure => omega
                case neg =>
                  have e3 : (x0 == 4) = false := beq_eq_false_iff_ne.2 h4
                  have HNF := Lib.hid (show fp l y1 k = (fp l y1 q).or from_ from by rw [HF.out, HFS2.out, if_neg (fun h => h4 h.1)]; simp)
                  by_cases h5 : x0 = 5
                  case pos =>
                    have e1 : (x0 != 5) = false := by simp [h5]
                    have e2 : (x1 != y1) = true := by simpa using fun h => hw ⟨h5, h⟩
                    clear hw h4 h5
                    go_wp2_with fail
                    go_quiet (fail)
                    go_wp2_with fail
                    go_quiet (fail)
                    go_wp2
                    go_roundg q
                    case rel => exact ⟨q, from_, (q : Int) - 1, rfl, by omega, rfl, by go_num, rfl, HNF, HLT, Lib.hid (by have := HTY.out; exact (this.drewN _))⟩
                    case measure => omega
                  case neg =>
                    have e1 : (x0 != 5) = true := by simpa using h5
                    clear hw h4 h5
                    go_wp2_with fail
                    go_quiet (fail)
                    go_wp2_with fail
                    go_quiet (fail)
                    go_wp2
                    go_roundg q
                    case rel => exact ⟨q, from_, (q : Int) - 1, rfl, by omega, rfl, by go_num, rfl, HNF, HLT, Lib.hid (by have := HTY.out; exact (this.drewN _))⟩
                    case measure => omega
    case neg =>
      obtain rfl : k = n := by omega
      have htk : l.take k = l := by rw [← HL.out]; exact List.take_length
      rw [htk] at HO
      go_wp2
      go_ret
      exact ⟨_, rfl, HO.out, HT.out⟩

set_option maxHeartbeats 400000 in
theorem rwaits_calls (A : Option Addr) (n c : Nat) (l : List Ev) (kind : Int) (w : World) (hx : Reads w 4 A n (evs l)) (hok : ∀ k, k < n → EvOK (l.getD k default)) (hn : n ≤ 100000) :
    Calls Try.prog 10 #[.slice A n c, .int .i64 kind] w (RetFresh 24 1 (runW kind l).out.length (flts (runW kind l).out) w) := by
  have hl : l.length = n := by have := hx.1; rw [evs_len] at this; omega
  rcases Nat.eq_zero_or_pos n with h0 | h0
  · subst h0
    obtain rfl := List.eq_nil_of_length_eq_zero hl
    clear hx hl hok
    go_enter Try.func10, Try.ntmps10
    go_wp2
    refine wp_loop_rounds 1 ?_
    rw [rounds_succ]
    go_wp2
    go_ret
    exact ⟨_, rfl, World.ownsRow_lit (base := w.heap.size) (size := 1) (e := 24) w #[] 0 (Nat.le_refl _) (by simp [maxLen]) rfl, (Turn.refl _ _).alloc _⟩
  · obtain ⟨b, off, rfl, hc⟩ := hx.ev h0
    exact rwaits_core b off n c l kind w hc hl hok hn

end Go.Proofs.Ytkphnmpildkdaaa
