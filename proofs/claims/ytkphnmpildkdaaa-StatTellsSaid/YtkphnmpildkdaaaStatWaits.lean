/- The contract of StatWaits: true. -/
import Derived.Test.YtkphnmpildkdaaaAwake
import Derived.Test.YtkphnmpildkdaaaWaitsLaw
namespace Go.Proofs.Ytkphnmpildkdaaa
open Go.RowKit Go.Maps

theorem Try.info41 : (Try.prog.info? 41).map (fun i => (i.zero, i.size, i.bytes)) = some (some (.agg #[.int .i64 0, .int .i64 0, .int .i64 0, .int .i64 0]), 4, 32) := by kernel_rfl

theorem w64_mem {xs : List Nat} (h : ∀ x ∈ xs, w64 x) (k : Nat) (hk : k < xs.length) : w64 (xs.getD k 0) := by
  simp only [List.getD, List.getElem?_eq_getElem hk, Option.getD_some]
  exact h _ (List.getElem_mem _)

set_option maxRecDepth 20000 in
set_option maxHeartbeats 6400000 in
theorem waits_core (w : World) (A : Option Addr) (n c : Nat) (l : List Ev) (B : Option Addr) (m c2 : Nat) (l2 : List Ev) (kind : Int) (hx : Reads w 4 A n (evs l)) (hl : l.length = n) (hok : ∀ k, k < n → EvOK (l.getD k default)) (hn : n ≤ 200)
    (hx2 : Reads w 4 B m (evs l2)) (hl2 : l2.length = m) (hok2 : ∀ k, k < m → EvOK (l2.getD k default)) (hm : m ≤ 200) :
    Calls Try.prog 6 #[.slice A n c, .slice B m c2, .int .i64 kind] w (OkTrue w) := by
  obtain ⟨i0, hi, hz0, hz1, hz2⟩ := info_parts Try.info41
  have HX := Lib.hid hx
  have HX2 := Lib.hid hx2
  have HL := Lib.hid hl
  have HL2 := Lib.hid hl2
  have HOK := Lib.hid hok
  have HOK2 := Lib.hid hok2
  clear hx hx2 hl hl2 hok hok2
  go_enter Try.func6, Try.ntmps6
  go_wp2_with fail
  refine (awake_calls w).mono ?_
  rintro e w1 ⟨rfl, ht⟩
  have HT1 := Lib.hid ht
  clear ht
  go_wp2_with (at_builtin; refine wpList_append_reads _ rfl (.tmp 24) (.tmp 25) 22 rfl w1.heap.size 41 i0 (.agg #[.int .i64 0, .int .i64 0, .int .i64 0, .int .i64 0]) 4 32 Try.underlying22 hi hz0 hz1 hz2 rfl (by decide) _ 0 [] rfl ?o1 _ n c (evs l) rfl ?o2 (evs_one l) ?o3 ?o4 ?o5 ?_)
  case o1 => exact World.ownsRow_lit w1 #[] 0 (Nat.le_refl _) (by simp [maxLen]) rfl
  case o2 => exact HX.out.kept (HT1.out.alloc _)
  case o3 => unfold maxLen; omega
  case o4 => omega
  case o5 => simp
  intro v2 w2 hown hg _
  have HO2 := Lib.hid (show w2.ownsRow w1.heap.size 41 4 v2 (n + (quietOf []).length) (evs (l ++ quietOf [])) from by simpa [quietOf] using hown)
  have HT2 := Lib.hid (show Turn nowhere w1 w2 from ((Turn.refl nowhere w1).alloc _).grown hg (by intro g h; simp [Value.ownBlock] at h; omega))
  clear hown hg
  go_wp2_with fail
  go_loopg [7, 29] m (fun g v i wr => ∃ k : Nat, g = m - k ∧ k ≤ m ∧ i = .int .i64 k ∧ Hid (wr.ownsRow w1.heap.size 41 4 v (n + (quietOf (l2.take k)).length) (evs (l ++ quietOf (l2.take k)))) ∧ Hid (Turn nowhere w1 wr))
  case atStart => exact ⟨0, rfl, Nat.zero_le _, rfl, HO2, HT2⟩
  case round =>
    obtain ⟨k, rfl, hk, rfl, HO, HTW⟩ := hrel
    have h0 : (0 : Int) ≤ (k : Int) := by omega
    clear HO2 HT2
    by_cases hlt : k < m
    case pos =>
      have h1 : (k : Int) < (m : Int) := by omega
      obtain ⟨b, off, rfl, hx⟩ := HX2.out.ev (by omega)
      have ha := (hx k hlt).turn (HT1.out.trans HTW.out (fun _ _ h => h)) (fun h => h)
      clear hx
      have HS := Lib.hid (quiet_step (m := l2) (k := k) (by rw [HL2.out]; exact hlt))
      have HQL := Lib.hid (quiet_len (l2.take k))
      have hql : (quietOf (l2.take k)).length ≤ k := Nat.le_trans HQL.out (by simp; omega)
      generalize l2.getD k default = y at ha HS
      obtain ⟨y0, y1, y2, y3⟩ := y
      obtain ⟨a0, a1, a2, a3⟩ := ha
      simp only at a0 a1 a2 a3
      by_cases h5 : y0 = 5
      case pos =>
        subst y0
        have HS2 := Lib.hid (show quietOf (l2.take (k + 1)) = quietOf (l2.take k) from by rw [HS.out]; simp)
        go_wp2
        go_roundg (m - (k + 1))
        case rel => exact ⟨k + 1, rfl, by omega, by go_num, by rw [HS2.out]; exact Lib.hid (HO.out.alloc _), HTW.out.alloc _⟩
        case measure => omega
      case neg =>
        have HS2 := Lib.hid (show quietOf (l2.take (k + 1)) = quietOf (l2.take k) ++ [⟨y0, y1, y2, y3⟩] from by rw [HS.out]; simp [h5])
        have b5 : (y0 != 5) = true := by simpa using h5
        clear h5
        generalize hqq : quietOf (l2.take k) = qs at HO hql HS2
        obtain ⟨z, hz⟩ : ∃ z, z = n + qs.length := ⟨_, rfl⟩
        have hz4 : z ≤ 400 := by omega
        rw [← hz] at HO
        have HZ := Lib.hid hz
        clear hz hqq
        go_wp2_with (at_builtin; refine wpList_append_own_at _ rfl (.tmp 36) (.tmp 38) 22 rfl w1.heap.size 41 i0 (.agg #[.int .i64 0, .int .i64 0, .int .i64 0, .int .i64 0]) 4 32 Try.underlying22 hi hz0 hz1 hz2 rfl (by decide) u7 z (evs (l ++ qs)) rfl ?o1 ⟨wr.heap.size + 1, 0, none⟩ 1 1 [.int .i64 y0, .int .i64 y1, .int .i64 y2, .int .i64 y3] rfl rfl ?o2 ?o3 ?o4 ?o5 ?o6 ?_)
        case o1 => exact (HO.out.alloc _).alloc _
        case o3 => exact ⟨rfl, rfl, rfl, rfl⟩
        case o4 => unfold maxLen; omega
        case o5 => omega
        case o6 => have := HTW.out.size; simp; omega
        intro v' w5 hown hg _ _
        have HO5 := Lib.hid hown
        have HT5 := Lib.hid (show Turn nowhere w1 w5 from ((HTW.out.alloc _).alloc _).grown hg (fun q hq hlt => by have := (HO.out.lt q hq).1; omega))
        clear hown hg
        go_wp2
        go_roundg (m - (k + 1))
        case rel =>
          refine ⟨k + 1, rfl, by omega, by go_num, ?_, HT5⟩
          rw [HS2.out, ← List.append_assoc, evs_snoc, List.length_append, List.length_singleton, ← Nat.add_assoc, ← HZ.out]
          exact HO5
        case measure => omega
    case neg =>
      obtain rfl : k = m := by omega
      have htk : l2.take k = l2 := by rw [← HL2.out]; exact List.take_length
      rw [htk] at HO
      obtain ⟨A3, c3, rfl, _, _⟩ := own_form HO.out
      have hql : (quietOf l2).length ≤ 200 := by have := quiet_len l2; have := HL2.out; omega
      obtain ⟨z, hz⟩ : ∃ z, z = n + (quietOf l2).length := ⟨_, rfl⟩
      have hz4 : z ≤ 400 := by omega
      have HOK3 := Lib.hid (evOK_append HL.out HL2.out HOK.out HOK2.out)
      rw [← hz] at HO HOK3 ⊢
      have HRQ := Lib.hid (Reads.of_own HO.out)
      clear HO hz htk
      go_wp2_with fail
      go_loopg [8, 43] n (fun g s i wy => ∃ p : Nat, g = n - p ∧ p ≤ n ∧ i = .int .i64 p ∧ s = .int .i64 ((wokenOf (l.take p) : Nat) : Int) ∧ Hid (Turn nowhere wr wy))
      case atStart => exact ⟨0, rfl, Nat.zero_le _, rfl, by simp [wokenOf], Turn.refl _ _⟩
      case round =>
        obtain ⟨p, rfl, hp, rfl, rfl, HTY⟩ := hrel
        have p0 : (0 : Int) ≤ (p : Int) := by omega
        by_cases hpl : p < n
        case pos =>
          have p1 : (p : Int) < (n : Int) := by omega
          obtain ⟨b, off, rfl, hx⟩ := HX.out.ev (by omega)
          have ha := (hx p hpl).turn (HT1.out.trans (HTW.out.trans HTY.out (fun _ _ h => h)) (fun _ _ h => h)) (fun h => h)
          clear hx
          have HS := Lib.hid (woken_step (m := l) (k := p) (by rw [HL.out]; exact hpl))
          have hwl : wokenOf (l.take p) ≤ 200 := by have := woken_len (l.take p); simp at this; omega
          generalize l.getD p default = y at ha HS
          generalize wokenOf (l.take p) = s at hwl HS ⊢
          obtain ⟨y0, y1, y2, y3⟩ := y
          obtain ⟨a0, a1, a2, a3⟩ := ha
          simp only at a0 a1 a2 a3
          by_cases h5 : y0 = 5
          case pos =>
            subst y0
            have HS2 := Lib.hid (show wokenOf (l.take (p + 1)) = s + 1 from by rw [HS.out]; simp)
            go_wp2
            go_roundg (n - (p + 1))
            case rel => exact ⟨p + 1, rfl, by omega, by go_num, by rw [HS2.out]; go_num, HTY.out.alloc _⟩
            case measure => omega
          case neg =>
            have HS2 := Lib.hid (show wokenOf (l.take (p + 1)) = s from by rw [HS.out]; simp [h5])
            have b5 : (y0 == 5) = false := beq_eq_false_iff_ne.2 h5
            clear h5
            go_wp2
            go_roundg (n - (p + 1))
            case rel => exact ⟨p + 1, rfl, by omega, by go_num, by rw [HS2.out], HTY.out.alloc _⟩
            case measure => omega
        case neg =>
          obtain rfl : p = n := by omega
          have htk : l.take p = l := by rw [← HL.out]; exact List.take_length
          rw [htk]
          have HTZ := Lib.hid (HTW.out.trans HTY.out (fun _ _ h => h))
          have HWW := Lib.hid (waits_woken 0 l)
          have HWK := Lib.hid (waits_kinds kind l)
          have HWQ := Lib.hid (waits_quiet 0 l l2)
          go_wp2_with fail
          refine (waits_calls A p c l 0 _ (HX.out.kept (HT1.out.trans HTZ.out (fun _ _ h => h))) HOK.out (by omega)).mono ?_
          rintro e w6 ⟨v6, rfl, ho, h64, hlen, ht⟩
          obtain ⟨A6, c6, rfl, _, _⟩ := own_form ho
          have HO6 := Lib.hid (Reads.of_own ho)
          have H64 := Lib.hid h64
          have HT6 := Lib.hid (HTZ.out.trans ht (fun _ _ h => h))
          have HR6 := Lib.hid (HRQ.out.kept (HTY.out.trans ht (fun _ _ h => h)))
          clear ho h64 ht
          generalize hall : (runW 0 l).out = all at HO6 H64 hlen HWW HWK HWQ ⊢
          have hal : all.length ≤ 200 := by have := HL.out; omega
          clear hall hlen
          go_wp2_with fail
          refine (waits_calls A3 z c3 (l ++ quietOf l2) 0 _ HR6.out HOK3.out (by omega)).mono ?_
          rintro e w7 ⟨v7, rfl, ho, _, _, ht⟩
          rw [HWQ.out] at ho
          obtain ⟨A7, c7, rfl, _, _⟩ := own_form ho
          have HO7 := Lib.hid (Reads.of_own ho)
          have HO67 := Lib.hid (HO6.out.kept ht)
          have HT7 := Lib.hid (HT6.out.trans ht (fun _ _ h => h))
          clear ho ht
          go_wp2_with fail
          refine (sameAll_calls A7 A6 all.length c7 c6 all all _ HO7.out HO67.out (by omega) (w64_mem H64.out) (w64_mem H64.out) (fun k hk => sameF_self (w64_mem H64.out k hk))).mono ?_
          rintro e w8 ⟨rfl, ht⟩
          have HT8 := Lib.hid (HT7.out.trans ht (fun _ _ h => h))
          clear ht
          have hb1 : decide ((all.length : Int) ≤ ((wokenOf l : Nat) : Int)) = true := by have := HWW.out; simp; omega
          go_wp2_with fail
          refine (waits_calls A p c l kind _ (HX.out.kept (HT1.out.trans HT8.out (fun _ _ h => h))) HOK.out (by omega)).mono ?_
          rintro e w9 ⟨v9, rfl, ho, _, _, ht⟩
          obtain ⟨A9, c9, rfl, _, _⟩ := own_form ho
          have HT9 := Lib.hid (HT1.out.trans (HT8.out.trans ht (fun _ _ h => h)) (fun _ _ h => h))
          have hb2 : decide (((runW kind l).out.length : Int) ≤ (all.length : Int)) = true := by have := HWK.out; simp; omega
          clear ho ht
          go_wp2
          go_ret
          exact ⟨by simpa using HWK.out, HT9.out⟩

end Go.Proofs.Ytkphnmpildkdaaa
