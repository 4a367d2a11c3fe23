/- The row of AfterDoes, proved: whatever the input, it answers true, and the input reads as it did. No condition. -/
import Derived.Test.YthloikmmkkamoaaOpen
import Derived.Test.YthloikmmkkamoaaDoes
namespace Go.Proofs.Ythloikmmkkamoaa
open Go.RowKit Go.Maps

/-- What stands ahead of the lists: the program is awake, and the acts are looked at. -/
theorem does_most (w : World) (x : Int) (h1 : 40 < x) (h2 : x ≤ 200) (A : Option Addr) (n c : Nat) :
    Calls Try.prog 3 #[.int .i64 x, .slice A n c] w (OkTrue w) := by
  have hm4 : decide ((40 : Int) < x) = true := by simp; omega
  have hm5 : decide (x ≤ 200) = true := by simp; omega
  clear h1 h2
  go_enter Try.func3, Try.ntmps3
  go_wp2_with fail
  refine (awake_calls w).mono ?_
  rintro e w1 ⟨rfl, ht⟩
  have HT1 := Lib.hid ht
  clear ht
  go_wp2
  go_ret
  exact ⟨rfl, HT1.out⟩

theorem does_large (w : World) (x : Int) (hx : x ≤ 40 ∨ 200 < x) (A : Option Addr) (n c : Nat) (l : List ActC) (_hl : l.length = n)
    (hok : ∀ k, k < n → ActOK w w.heap.size (l.getD k default)) (hr : Reads w 4 A n (acts l)) (hn : n ≤ maxLen) (hsm : largeB l = true) :
    Calls Try.prog 3 #[.int .i64 x, .slice A n c] w (OkTrue w) := by
  have HK := Lib.hid hok
  have HR := Lib.hid hr
  have HS := Lib.hid hsm
  clear hok hr hsm
  rcases hx with hx | hx
  · have hm4 : decide ((40 : Int) < x) = false := by simp; omega
    clear hx
    go_enter Try.func3, Try.ntmps3
    go_wp2_with fail
    refine (awake_calls w).mono ?_
    rintro e w1 ⟨rfl, ht⟩
    have HT1 := Lib.hid ht
    clear ht
    go_wp2_with fail
    refine (large_calls _ n c l w1 (HR.out.kept HT1.out) (by unfold maxLen at hn; omega) (fun k hk => (HK.out k hk).2.2.2.2)).mono ?_
    rintro e w2 ⟨he, ht⟩
    rw [HS.out] at he
    subst he
    have HT2 := Lib.hid (HT1.out.trans ht (fun _ _ h => h))
    clear ht
    go_wp2
    go_ret
    exact ⟨rfl, HT2.out⟩
  · have hm4 : decide ((40 : Int) < x) = true := by simp; omega
    have hm5 : decide (x ≤ 200) = false := by simp; omega
    clear hx
    go_enter Try.func3, Try.ntmps3
    go_wp2_with fail
    refine (awake_calls w).mono ?_
    rintro e w1 ⟨rfl, ht⟩
    have HT1 := Lib.hid ht
    clear ht
    go_wp2_with fail
    refine (large_calls _ n c l w1 (HR.out.kept HT1.out) (by unfold maxLen at hn; omega) (fun k hk => (HK.out k hk).2.2.2.2)).mono ?_
    rintro e w2 ⟨he, ht⟩
    rw [HS.out] at he
    subst he
    have HT2 := Lib.hid (HT1.out.trans ht (fun _ _ h => h))
    clear ht
    go_wp2
    go_ret
    exact ⟨rfl, HT2.out⟩

theorem does_bad (w : World) (x : Int) (hx : x < 1 ∨ 200 < x) (A : Option Addr) (n c : Nat) (l : List ActC) (_hl : l.length = n)
    (hok : ∀ k, k < n → ActOK w w.heap.size (l.getD k default)) (hr : Reads w 4 A n (acts l)) (hn : n ≤ maxLen) (hsm : largeB l = false) :
    Calls Try.prog 3 #[.int .i64 x, .slice A n c] w (OkTrue w) := by
  have HK := Lib.hid hok
  have HR := Lib.hid hr
  have HS := Lib.hid hsm
  clear hok hr hsm
  have HX := Lib.hid hx
  rcases hx with hx | hx
  · have hm4 : decide ((40 : Int) < x) = false := by simp; omega
    clear hx
    go_enter Try.func3, Try.ntmps3
    go_wp2_with fail
    refine (awake_calls w).mono ?_
    rintro e w1 ⟨rfl, ht⟩
    have HT1 := Lib.hid ht
    clear ht
    go_wp2_with fail
    refine (large_calls _ n c l w1 (HR.out.kept HT1.out) (by unfold maxLen at hn; omega) (fun k hk => (HK.out k hk).2.2.2.2)).mono ?_
    rintro e w2 ⟨he, ht⟩
    rw [HS.out] at he
    subst he
    have HT2 := Lib.hid (HT1.out.trans ht (fun _ _ h => h))
    clear ht
    go_wp2_with fail
    refine (new_bad x w2 HX.out).mono ?_
    rintro e w3 ⟨rfl, rfl⟩
    go_wp2_with fail
    refine (rnew_bad x _ HX.out).mono ?_
    rintro e w4 ⟨rfl, rfl⟩
    go_wp2
    go_ret
    exact ⟨rfl, HT2.out⟩
  · have hm4 : decide ((40 : Int) < x) = true := by simp; omega
    have hm5 : decide (x ≤ 200) = false := by simp; omega
    clear hx
    go_enter Try.func3, Try.ntmps3
    go_wp2_with fail
    refine (awake_calls w).mono ?_
    rintro e w1 ⟨rfl, ht⟩
    have HT1 := Lib.hid ht
    clear ht
    go_wp2_with fail
    refine (large_calls _ n c l w1 (HR.out.kept HT1.out) (by unfold maxLen at hn; omega) (fun k hk => (HK.out k hk).2.2.2.2)).mono ?_
    rintro e w2 ⟨he, ht⟩
    rw [HS.out] at he
    subst he
    have HT2 := Lib.hid (HT1.out.trans ht (fun _ _ h => h))
    clear ht
    go_wp2_with fail
    refine (new_bad x w2 HX.out).mono ?_
    rintro e w3 ⟨rfl, rfl⟩
    go_wp2_with fail
    refine (rnew_bad x _ HX.out).mono ?_
    rintro e w4 ⟨rfl, rfl⟩
    go_wp2
    go_ret
    exact ⟨rfl, HT2.out⟩

/-- 'AfterDoes'. -/
theorem does_calls (w : World) (x : Int) (A : Option Addr) (n c : Nat) (l : List ActC) (hl : l.length = n)
    (hok : ∀ k, k < n → ActOK w w.heap.size (l.getD k default)) (hr : Reads w 4 A n (acts l)) (hn : n ≤ maxLen) :
    Calls Try.prog 3 #[.int .i64 x, .slice A n c] w (OkTrue w) := by
  by_cases h1 : 40 < x ∧ x ≤ 200
  · exact does_most w x h1.1 h1.2 A n c
  · cases hsm : largeB l with
    | true => exact does_large w x (by omega) A n c l hl hok hr hn hsm
    | false =>
      by_cases h2 : 1 ≤ x ∧ x ≤ 40
      · obtain ⟨m, rfl⟩ : ∃ m : Nat, x = (m : Int) := ⟨x.toNat, by omega⟩
        exact does_core w m (by omega) (by omega) A n c l hl hok hr hsm
      · exact does_bad w x (by omega) A n c l hl hok hr hn hsm

open Go.ChangeShapes Go.WideShapes Go.ChangeAt

set_option maxRecDepth 100000 in
theorem does_lifted (os : Os) (started : os.Started) (H : Type) (enc : TypeId × Value → H) :
    ReturnsInHanded {} Try.checked os 3 .any (Rows.afterDoesSpec.pre6 enc Try.prog Try.f3 Rows.afterDoesRow.domain false) (Rows.afterDoesSpec.post enc Try.prog Try.f3 false true false false) := by
  refine returnsInHanded_of_change (C := Try.checked) Try.own started (by kernel_rfl) Try.func3
    (ChangeSpec.witness6 (enc := enc) (C := Try.checked) false ⟨#[], #[.int .i64 0, .slice none 0 0], []⟩ 8 (by kernel_rfl) (by kernel_rfl) (by kernel_rfl) (by kernel_rfl)) ?_
  intro W base args ds gs before hval0 hW hcnd _
  have hval : ∀ (j : Nat) t v, Try.f3.params[j]? = some t → args[j]? = some v → Value.okWide Try.prog W .any base t v := hval0
  have hW' := hW
  obtain ⟨p, q, hA0, hV, rfl, hfz, hnd⟩ := hW
  have hA : DataW.TrodAll enc Try.prog W 0 (fun _ => true) true Try.f3.params.toList args.toList ds p := hA0
  rw [Try.params3] at hA hval
  obtain ⟨v0, v1, d0, d1, p0, p1, rfl, rfl, rfl, h0, h1⟩ := trodAll_two hA
  obtain ⟨rfl, rfl⟩ := trodVars_none hV
  obtain ⟨x, rfl, rfl, rfl, wx⟩ := open_int Try.underlying3 (hval 0 3 v0 rfl rfl) h0
  have k1 := h1
  obtain ⟨a1, l1, z1, rfl⟩ := okWide_slice Try.underlying22 (hval 1 22 v1 rfl rfl)
  obtain ⟨f1, h1⟩ := h1
  obtain ⟨A, n, c, l, e1, hn, hl, hr, hok⟩ := acts_in h1
  rw [e1] at hW' k1 ⊢
  clear hA0 hval0 hval hA h0 h1 e1
  have hlt : ∀ y ∈ ([] ++ p1) ++ [], y.block < W.heap.size := fun y hy => hW'.lt y hy
  simp only [List.append_nil, List.nil_append] at hW' hlt
  refine (does_calls W x A n c l hl hok hr hn).mono fun e W' hh => ?_
  obtain ⟨rfl, hT⟩ := hh
  have hb := hT.to_below
  exact ⟨_, rfl, post_of_below (pa := p1) (pv := []) hW' (fun _ _ _ => trodAll_mk1 (shut_bool Try.underlying4 true))
    (fun sp hsp => trodAll_mk2 (shut_int Try.underlying3 wx)
      (trod_kept Try.laidOut (by kernel_rfl) (of_decide_eq_true (by kernel_rfl)) k1 hb (fun y hy => hlt y hy) sp (fun y hy => hsp y (by simp [hy]))))
    (fun _ _ => rfl) (by simp) hb (ok_one (by kernel_rfl) rfl (okWide_bool_mk Try.underlying4 true))⟩

theorem does_holds : Rows.AfterDoesSaid :=
  OpenClaim.holds_of_wide 3 Try.f3 rfl rfl rfl rfl rfl rfl rfl ⟨rfl, rfl, rfl, rfl, rfl⟩ rfl rfl rfl rfl rfl (by kernel_rfl) Try.func3 (by kernel_rfl)
    (of_decide_eq_true (by kernel_rfl)) (by unfold Func.isWrapper; first | (rw [if_pos (by decide +kernel)]; kernel_rfl) | (rw [if_neg (by decide +kernel)]; exact ⟨rfl, rfl⟩))
    (fun os started H enc _ => does_lifted os started H enc)

end Go.Proofs.Ythloikmmkkamoaa
