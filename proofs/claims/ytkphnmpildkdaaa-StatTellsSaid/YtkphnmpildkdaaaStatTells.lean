/- The contract of StatTells and its row: whatever the input, it answers true, and the input reads as it did. No condition. -/
import Derived.Test.YtkphnmpildkdaaaRWaits
import Derived.Test.YtkphnmpildkdaaaStatWaits
import Derived.Test.YtkphnmpildkdaaaStatEnds
import Derived.Test.YtkphnmpildkdaaaOpen
namespace Go.Proofs.Ytkphnmpildkdaaa
open Go.RowKit Go.Maps

attribute [local go_sem high] cmp_eql cmp_neq cmp_lss cmp_gtr run_neg

theorem read_nan {x : Nat} (h : isNaN x = true) : ∃ s t, Ieee.double.read x = .nan s t := by
  have hs : Ieee.double.signWeight = 9223372036854775808 := rfl
  have hb : Ieee.double.binade = 4503599627370496 := rfl
  have hi : Ieee.double.infRung = 9218868437227405312 := rfl
  have h : 9218868437227405312 < x % 9223372036854775808 := of_decide_eq_true h
  unfold Ieee.Format.read
  simp only [hs, hb, hi]
  rw [if_neg (by omega), if_neg (by omega), if_neg (by omega)]
  exact ⟨_, _, rfl⟩
theorem add_nan {x : Nat} (h : isNaN x = true) (y : Nat) : Ieee.double.add x y = none := by
  obtain ⟨s, t, e⟩ := read_nan h
  unfold Ieee.Format.add
  rw [e]; rfl
theorem div_nan {x : Nat} (h : isNaN x = true) (y : Nat) : Ieee.double.div x y = none := by
  obtain ⟨s, t, e⟩ := read_nan h
  unfold Ieee.Format.div
  rw [e]; rfl

def Alike (x y : Nat) : Prop := x = y ∨ (isNaN x = true ∧ isNaN y = true)
theorem res_alike {o : Option Nat} {r q : Nat} (h : Res o r) (k : Res o q) : Alike r q := by
  rcases h with h | ⟨h, h1⟩
  · rcases k with k | ⟨k, k1⟩
    · left; rw [h] at k; injection k
    · rw [h] at k; cases k
  · rcases k with k | ⟨k, k1⟩
    · rw [h] at k; cases k
    · exact .inr ⟨h1, k1⟩
theorem add_alike {a b x c d : Nat} (h : Alike a b) (h1 : AddR a x c) (h2 : AddR b x d) : Alike c d := by
  rcases h with rfl | ⟨na, nb⟩
  · exact res_alike h1 h2
  · unfold AddR at h1 h2
    rw [add_nan na] at h1
    rw [add_nan nb] at h2
    exact res_alike h1 h2
theorem fold_alike : ∀ {xs : List Nat} {a b s t : Nat}, Alike a b → FoldR AddR a xs s → FoldR AddR b xs t → Alike s t
  | [], _, _, _, _, h, h1, h2 => by rw [← show _ = _ from h1, ← show _ = _ from h2]; exact h
  | _ :: _, _, _, _, _, h, ⟨_, h1, h3⟩, ⟨_, h2, h4⟩ => fold_alike (add_alike h h1 h2) h3 h4
theorem mean_alike {xs : List Nat} {n r q : Nat} (h : MeanR xs n r) (k : MeanR xs n q) : Alike r q := by
  obtain ⟨s, hs, hr⟩ := h
  obtain ⟨t, ht, hq⟩ := k
  rcases fold_alike (.inl rfl) hs ht with rfl | ⟨ns, nt⟩
  · exact res_alike hr hq
  · rw [div_nan ns] at hr
    rw [div_nan nt] at hq
    exact res_alike hr hq
theorem alike_same {r q : Nat} (h : Alike r q) (h64 : w64 r) : sameF r q = true := by
  rcases h with rfl | ⟨h1, h2⟩
  · exact sameF_self h64
  · exact sameF_nan h1 h2

theorem neg_twice (q : Nat) : neg (neg q) = q := by
  rw [neg_form, neg_form, Nat.xor_assoc, Nat.xor_self, Nat.xor_zero]

set_option maxRecDepth 20000 in
set_option maxHeartbeats 6400000 in
theorem tells_core (w : World) (A : Option Addr) (n c : Nat) (l : List Ev) (kind : Int) (B : Option Addr) (m c2 : Nat) (xs : List Nat) (many : Int) (v : Nat)
    (hx : Reads w 4 A n (evs l)) (hl : l.length = n) (hok : ∀ k, k < n → EvOK (l.getD k default)) (hn : n ≤ 200)
    (hf : Reads w 1 B m (flts xs)) (hw : ∀ k, k < m → w64 (xs.getD k 0)) (hm : m ≤ 300) (hv : w64 v) :
    Calls Try.prog 3 #[.slice A n c, .int .i64 kind, .slice B m c2, .int .i64 many, .float .f64 v] w (OkTrue w) := by
  have hxl : xs.length = m := by simpa using hf.1
  have HALL := Lib.hid (w64_all hxl hw)
  have HX := Lib.hid hx
  have HF := Lib.hid hf
  have HW := Lib.hid hw
  have HL := Lib.hid hl
  have HOK := Lib.hid hok
  have hg1 : decide ((200 : Int) < (n : Int)) = false := by simp; omega
  have hg2 : decide ((300 : Int) < (m : Int)) = false := by simp; omega
  clear hx hf hw hl hok hxl
  go_enter Try.func3, Try.ntmps3
  go_wp2_with fail
  refine (awake_calls w).mono ?_
  rintro e w1 ⟨rfl, ht⟩
  have HT1 := Lib.hid ht
  clear ht
  go_wp2_with fail
  refine (waits_calls A n c l kind _ (HX.out.kept HT1.out) HOK.out (by omega)).mono ?_
  rintro e w2 ⟨v2, rfl, ho, h64, hlen, ht⟩
  obtain ⟨A2, c3, rfl, _, _⟩ := own_form ho
  have HO2 := Lib.hid (Reads.of_own ho)
  have H64 := Lib.hid h64
  have HT2 := Lib.hid (HT1.out.trans ht (fun _ _ h => h))
  have hol : (runW kind l).out.length ≤ 200 := by have := HL.out; omega
  clear ho ht h64 hlen
  go_wp2_with fail
  refine (own_calls A n c l _ (HX.out.kept HT2.out) (by omega)).mono ?_
  rintro e w3 ⟨v3, rfl, ho, ht⟩
  obtain ⟨A3, c4, rfl, _, _⟩ := own_form ho
  have HO3 := Lib.hid (Reads.of_own ho)
  have HO23 := Lib.hid (HO2.out.kept ht)
  have HT3 := Lib.hid (HT2.out.trans ht (fun _ _ h => h))
  clear ho ht
  go_wp2_with fail
  refine (rwaits_calls A3 n c4 l kind _ HO3.out HOK.out (by omega)).mono ?_
  rintro e w4 ⟨v4, rfl, ho, ht⟩
  obtain ⟨A4, c5, rfl, _, _⟩ := own_form ho
  have HO4 := Lib.hid (Reads.of_own ho)
  have HO24 := Lib.hid (HO23.out.kept ht)
  have HT4 := Lib.hid (HT3.out.trans ht (fun _ _ h => h))
  clear ho ht
  generalize hall : (runW kind l).out = all at HO4 HO24 H64 hol ⊢
  clear hall
  go_wp2_with fail
  refine (sameAll_calls A2 A4 all.length c3 c5 all all _ HO24.out HO4.out (by omega) (w64_mem H64.out) (w64_mem H64.out) (fun k hk => sameF_self (w64_mem H64.out k hk))).mono ?_
  rintro e w5 ⟨rfl, ht⟩
  have HT5 := Lib.hid (HT4.out.trans ht (fun _ _ h => h))
  clear ht HO4 HO24 H64 HO23 HO3 HO2 HT2 HT3 HT4
  go_wp2_with fail
  refine (mean_calls B m c2 xs _ (HF.out.kept HT5.out) HW.out (by omega)).mono ?_
  rintro e w6 ⟨r6, rfl, hr, r64, ht⟩
  have HR := Lib.hid hr
  have HT6 := Lib.hid (HT5.out.trans ht (fun _ _ h => h))
  clear hr ht
  go_wp2_with fail
  refine (rmean_calls B m c2 xs _ (HF.out.kept HT6.out) (by omega)).mono ?_
  rintro e w7 ⟨q6, rfl, hq, q64, ht⟩
  have HS := Lib.hid (alike_same (mean_alike HR.out hq) r64)
  have HT7 := Lib.hid (HT6.out.trans ht (fun _ _ h => h))
  clear hq ht HR
  go_wp2_with fail
  refine (same_calls r6 q6 _ r64 q64).mono ?_
  rw [HS.out]
  rintro e w' ⟨rfl, rfl⟩
  clear HS r64 q64
  go_wp2_with fail
  refine (least_calls B m c2 xs _ (HF.out.kept HT7.out) HW.out (by omega)).mono ?_
  rintro e w8 ⟨r8, rfl, hr, r64, ht⟩
  have HR := Lib.hid hr
  have HT8 := Lib.hid (HT7.out.trans ht (fun _ _ h => h))
  clear hr ht
  go_wp2_with fail
  refine (rleast_calls B m c2 xs _ (HF.out.kept HT8.out) HW.out (by omega)).mono ?_
  rintro e w9 ⟨q8, rfl, hq, q64, ht⟩
  have HS := Lib.hid (least_same HR.out hq HALL.out r64 q64)
  have HT9 := Lib.hid (HT8.out.trans ht (fun _ _ h => h))
  clear hq ht HR
  go_wp2_with fail
  refine (same_calls r8 q8 _ r64 q64).mono ?_
  rw [HS.out]
  rintro e w' ⟨rfl, rfl⟩
  clear HS r64 q64
  go_wp2_with fail
  refine (most_calls B m c2 xs _ (HF.out.kept HT9.out) HW.out (by omega)).mono ?_
  rintro e w10 ⟨r10, rfl, hr, r64, ht⟩
  have HR := Lib.hid hr
  have HT10 := Lib.hid (HT9.out.trans ht (fun _ _ h => h))
  clear hr ht
  go_wp2_with fail
  refine (rmost_calls B m c2 xs _ (HF.out.kept HT10.out) HW.out (by omega)).mono ?_
  rintro e w11 ⟨q10, rfl, ⟨z, hz, hqz⟩, q64, ht⟩
  have z64 : w64 z := by rw [← neg_twice z, ← hqz]; exact (neg_parts q64).1
  have HS := Lib.hid (show sameF r10 q10 = true from by rw [hqz]; exact most_same HR.out hz HALL.out r64 z64)
  have HT11 := Lib.hid (HT10.out.trans ht (fun _ _ h => h))
  clear hz ht HR z64 hqz
  go_wp2_with fail
  refine (same_calls r10 q10 _ r64 q64).mono ?_
  rw [HS.out]
  rintro e w' ⟨rfl, rfl⟩
  clear HS r64 q64
  go_wp2_with fail
  refine (rate_calls many v _).mono ?_
  rintro e w12 ⟨r12, rfl, hr, r64, ht⟩
  have HT12 := Lib.hid (HT11.out.trans ht (fun _ _ h => h))
  obtain ⟨q12, w13, hrun, hq, q64, ht2⟩ := run_quo (P := Try.prog) w12 24 (floatOfInt .f64 many) v
  have HS := Lib.hid (alike_same (res_alike hr hq) r64)
  have HT13 := Lib.hid (HT12.out.trans ht2 (fun _ _ h => h))
  clear hr ht hq ht2
  go_wp2_with fail
  refine (same_calls r12 q12 _ r64 q64).mono ?_
  rw [HS.out]
  rintro e w' ⟨rfl, rfl⟩
  clear HS r64 q64 hrun
  go_wp2_with fail
  refine (turn_calls v _).mono ?_
  rintro e w' ⟨rfl, rfl⟩
  have n64 := (neg_parts hv).1
  go_wp2_with fail
  refine (same_calls (neg v) (neg v) _ n64 n64).mono ?_
  rw [sameF_self n64]
  rintro e w' ⟨rfl, rfl⟩
  go_wp2_with fail
  refine (kind_calls v _ hv).mono ?_
  rintro e w' ⟨rfl, rfl⟩
  go_wp2_with fail
  refine (rkind_calls v _ hv).mono ?_
  rintro e w' ⟨rfl, rfl⟩
  go_wp2
  go_ret
  exact ⟨by simp, HT13.out⟩

theorem tells_large (w : World) (A : Option Addr) (n c : Nat) (kind : Int) (B : Option Addr) (m c2 : Nat) (many : Int) (v : Nat) (h : 200 < n ∨ 300 < m) :
    Calls Try.prog 3 #[.slice A n c, .int .i64 kind, .slice B m c2, .int .i64 many, .float .f64 v] w (OkTrue w) := by
  by_cases hn : 200 < n
  · have hg : decide ((200 : Int) < (n : Int)) = true := by simp; omega
    clear h
    go_enter Try.func3, Try.ntmps3
    go_wp2_with fail
    refine (awake_calls w).mono ?_
    rintro e w1 ⟨rfl, ht⟩
    have HT1 := Lib.hid ht
    clear ht
    go_wp2
    go_ret
    exact ⟨rfl, HT1.out⟩
  · have hg : decide ((200 : Int) < (n : Int)) = false := by simp; omega
    have hg2 : decide ((300 : Int) < (m : Int)) = true := by simp; omega
    clear h
    go_enter Try.func3, Try.ntmps3
    go_wp2_with fail
    refine (awake_calls w).mono ?_
    rintro e w1 ⟨rfl, ht⟩
    have HT1 := Lib.hid ht
    clear ht
    go_wp2
    go_ret
    exact ⟨rfl, HT1.out⟩

open Go.ChangeShapes Go.WideShapes Go.ChangeAt

section
variable {H : Type} {enc : TypeId × Value → H} {P : Program} {w : World} {base : Nat} {spare : Nat → Bool} {held : Bool}
theorem trodAll_cons_mk {t : TypeId} {ts : List TypeId} {v : Value} {vs : List Value} {d : DataW H} {ds : List (DataW H)} {p q : List MemPlace}
    (h : DataW.Trod enc P w base spare held t v d p) (hs : DataW.TrodAll enc P w base spare held ts vs ds q) : DataW.TrodAll enc P w base spare held (t :: ts) (v :: vs) (d :: ds) (p ++ q) := ⟨p, q, h, hs, rfl⟩
theorem trodAll_five {t0 t1 t2 t3 t4 : TypeId} {args : Array Value} {ds : List (DataW H)} {ps : List MemPlace} (h : DataW.TrodAll enc P w base spare held [t0, t1, t2, t3, t4] args.toList ds ps) :
    ∃ v0 v1 v2 v3 v4 d0 d1 d2 d3 d4 p0 p1 p2 p3 p4, args = #[v0, v1, v2, v3, v4] ∧ ds = [d0, d1, d2, d3, d4] ∧ ps = p0 ++ (p1 ++ (p2 ++ (p3 ++ p4))) ∧ DataW.Trod enc P w base spare held t0 v0 d0 p0 ∧
      DataW.Trod enc P w base spare held t1 v1 d1 p1 ∧ DataW.Trod enc P w base spare held t2 v2 d2 p2 ∧ DataW.Trod enc P w base spare held t3 v3 d3 p3 ∧ DataW.Trod enc P w base spare held t4 v4 d4 p4 := by
  obtain ⟨v0, vs, d0, ds', p0, q, hargs, rfl, rfl, h0, hrest⟩ := trodAll_cons h
  obtain ⟨v1, vs', d1, ds'', p1, q', rfl, rfl, rfl, h1, hrest'⟩ := trodAll_cons hrest
  obtain ⟨v2, vs'', d2, dsx, p2, q'', rfl, rfl, rfl, h2, hrest''⟩ := trodAll_cons hrest'
  obtain ⟨v3, vs3, d3, ds3, p3, q3, rfl, rfl, rfl, h3, hrest3⟩ := trodAll_cons hrest''
  obtain ⟨v4, vs4, d4, ds4, p4, q4, rfl, rfl, rfl, h4, hrest4⟩ := trodAll_cons hrest3
  obtain ⟨rfl, rfl, rfl⟩ := trodAll_nil hrest4
  exact ⟨v0, v1, v2, v3, v4, d0, d1, d2, d3, d4, p0, p1, p2, p3, p4, by cases args; simp_all, rfl, by simp, h0, h1, h2, h3, h4⟩
end

set_option maxRecDepth 100000 in
theorem tells_lifted (os : Os) (started : os.Started) (H : Type) (enc : TypeId × Value → H) :
    ReturnsInHanded {} Try.checked os 3 .any (Rows.statTellsSpec.pre6 enc Try.prog Try.f3 Rows.statTellsRow.domain false) (Rows.statTellsSpec.post enc Try.prog Try.f3 false true false false) := by
  refine returnsInHanded_of_change (C := Try.checked) Try.own started (by kernel_rfl) Try.func3
    (ChangeSpec.witness6 (enc := enc) (C := Try.checked) false ⟨#[], #[.slice none 0 0, .int .i64 0, .slice none 0 0, .int .i64 0, .float .f64 0], []⟩ 8 (by kernel_rfl) (by kernel_rfl) (by kernel_rfl) (by kernel_rfl)) ?_
  intro W base args ds gs before hval0 hW hcnd _
  have hval : ∀ (j : Nat) t v, Try.f3.params[j]? = some t → args[j]? = some v → Value.okWide Try.prog W .any base t v := hval0
  have hW' := hW
  obtain ⟨p, q, hA0, hV, rfl, hfz, hnd⟩ := hW
  have hA : DataW.TrodAll enc Try.prog W 0 (fun _ => true) true Try.f3.params.toList args.toList ds p := hA0
  rw [Try.params3] at hA hval
  obtain ⟨v0, v1, v2, v3, v4, d0, d1, d2, d3, d4, p0, p1, p2, p3, p4, rfl, rfl, rfl, h0, h1, h2, h3, h4⟩ := trodAll_five hA
  obtain ⟨rfl, rfl⟩ := trodVars_none hV
  obtain ⟨x, rfl, rfl, rfl, wx⟩ := open_int Try.underlying3 (hval 1 3 v1 rfl rfl) h1
  obtain ⟨y, rfl, rfl, rfl, wy⟩ := open_int Try.underlying3 (hval 3 3 v3 rfl rfl) h3
  obtain ⟨z, rfl, rfl, rfl, wz⟩ := open_float Try.underlying24 (hval 4 24 v4 rfl rfl) h4
  have k0 := h0
  have k2 := h2
  obtain ⟨a0, l0, z0, rfl⟩ := okWide_slice Try.underlying22 (hval 0 22 v0 rfl rfl)
  obtain ⟨a2, l2, z2, rfl⟩ := okWide_slice Try.underlying23 (hval 2 23 v2 rfl rfl)
  obtain ⟨f0, h0⟩ := h0
  obtain ⟨f2, h2⟩ := h2
  obtain ⟨A, n, c, l, e0, hn, hl, hr, hok⟩ := evs_in h0
  obtain ⟨B, m, c2, xs, e2, hm, hr2, hw2⟩ := flts_in Try.underlying23 Try.underlying24 (by kernel_rfl) h2
  rw [e0] at hW' k0 ⊢
  rw [e2] at hW' k2 ⊢
  clear hA0 hval0 hval hA h1 h0 h2 h3 h4 e0 e2
  have hlt : ∀ y ∈ (p0 ++ p2) ++ [], y.block < W.heap.size := fun y hy => hW'.lt y (by simpa using hy)
  simp only [List.append_nil, List.nil_append] at hW' hlt
  have hz : w64 z := by simpa [Lit.wf] using wz
  have hc : Calls Try.prog 3 #[.slice A n c, .int .i64 x, .slice B m c2, .int .i64 y, .float .f64 z] W (OkTrue W) := by
    by_cases h : n ≤ 200 ∧ m ≤ 300
    · exact tells_core W A n c l x B m c2 xs y z hr hl hok h.1 hr2 hw2 h.2 hz
    · exact tells_large W A n c x B m c2 y z (by omega)
  refine hc.mono fun e W' hh => ?_
  obtain ⟨rfl, hT⟩ := hh
  have hb := hT.to_below
  exact ⟨_, rfl, post_of_below (pa := p0 ++ ([] ++ (p2 ++ ([] ++ [])))) (pv := []) hW' (fun _ _ _ => trodAll_mk1 (shut_bool Try.underlying4 true))
    (fun sp hsp => trodAll_cons_mk (trod_kept Try.laidOut (by kernel_rfl) (of_decide_eq_true (by kernel_rfl)) k0 hb (fun y hy => hlt y (by simp [hy])) sp (fun y hy => hsp y (by simp [hy])))
      (trodAll_cons_mk (shut_int Try.underlying3 wx)
        (trodAll_mk3 (trod_kept Try.laidOut (by kernel_rfl) (of_decide_eq_true (by kernel_rfl)) k2 hb (fun y hy => hlt y (by simp [hy])) sp (fun y hy => hsp y (by simp [hy])))
          (shut_int Try.underlying3 wy) (shut_float Try.underlying24 wz))))
    (fun _ _ => rfl) (by simp) hb (ok_one (by kernel_rfl) rfl (okWide_bool_mk Try.underlying4 true))⟩

theorem tells_holds : Rows.StatTellsSaid :=
  OpenClaim.holds_of_wide 3 Try.f3 rfl rfl rfl rfl rfl rfl rfl ⟨rfl, rfl, rfl, rfl, rfl⟩ rfl rfl rfl rfl rfl (by kernel_rfl) Try.func3 (by kernel_rfl)
    (of_decide_eq_true (by kernel_rfl)) (by unfold Func.isWrapper; first | (rw [if_pos (by decide +kernel)]; kernel_rfl) | (rw [if_neg (by decide +kernel)]; exact ⟨rfl, rfl⟩))
    (fun os started H enc _ => tells_lifted os started H enc)

end Go.Proofs.Ytkphnmpildkdaaa
