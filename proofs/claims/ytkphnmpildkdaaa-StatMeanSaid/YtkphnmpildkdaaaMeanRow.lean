/- The row of StatMean, proved: whatever the input, it answers true, and the input reads as it did. No condition. -/
import Derived.Test.YtkphnmpildkdaaaStatMean
namespace Go.Proofs.Ytkphnmpildkdaaa
open Go.ChangeShapes Go.WideShapes Go.ChangeAt Go.RowKit

theorem mean_large (w : World) (A : Option Addr) (n c : Nat) (h : n = 0 ∨ 300 < n) : Calls Try.prog 5 #[.slice A n c] w (OkTrue w) := by
  by_cases hn : n = 0
  · subst hn
    go_enter Try.func5, Try.ntmps5
    go_wp2_with fail
    refine (awake_calls w).mono ?_
    rintro e w1 ⟨rfl, ht⟩
    have HT1 := Lib.hid ht
    clear ht
    go_wp2
    go_ret
    exact ⟨rfl, HT1.out⟩
  · have hg : ((n : Int) == 0) = false := by rw [beq_eq_false_iff_ne]; omega
    have hg2 : decide ((300 : Int) < (n : Int)) = true := by simp; omega
    clear h
    go_enter Try.func5, Try.ntmps5
    go_wp2_with fail
    refine (awake_calls w).mono ?_
    rintro e w1 ⟨rfl, ht⟩
    have HT1 := Lib.hid ht
    clear ht
    go_wp2
    go_ret
    exact ⟨rfl, HT1.out⟩

set_option maxRecDepth 100000 in
theorem mean_lifted (os : Os) (started : os.Started) (H : Type) (enc : TypeId × Value → H) :
    ReturnsInHanded {} Try.checked os 5 .any (Rows.statMeanSpec.pre6 enc Try.prog Try.f5 Rows.statMeanRow.domain false) (Rows.statMeanSpec.post enc Try.prog Try.f5 false true false false) := by
  refine returnsInHanded_of_change (C := Try.checked) Try.own started (by kernel_rfl) Try.func5
    (ChangeSpec.witness6 (enc := enc) (C := Try.checked) false ⟨#[], #[.slice none 0 0], []⟩ 8 (by kernel_rfl) (by kernel_rfl) (by kernel_rfl) (by kernel_rfl)) ?_
  intro W base args ds gs before hval0 hW hcnd _
  have hval : ∀ (j : Nat) t v, Try.f5.params[j]? = some t → args[j]? = some v → Value.okWide Try.prog W .any base t v := hval0
  have hW' := hW
  obtain ⟨p, q, hA0, hV, rfl, hfz, hnd⟩ := hW
  have hA : DataW.TrodAll enc Try.prog W 0 (fun _ => true) true Try.f5.params.toList args.toList ds p := hA0
  rw [Try.params5] at hA hval
  obtain ⟨v0, d0, rfl, rfl, h0⟩ := trodAll_one hA
  obtain ⟨rfl, rfl⟩ := trodVars_none hV
  have k0 := h0
  obtain ⟨a0, l0, z0, rfl⟩ := okWide_slice Try.underlying38 (hval 0 38 v0 rfl rfl)
  obtain ⟨f0, h0⟩ := h0
  obtain ⟨A, n, c, xs, e0, hn, hr, _, _⟩ := ints_in Try.underlying38 Try.underlying2 (by kernel_rfl) h0
  rw [e0] at hW' k0 ⊢
  clear hA0 hval0 hval hA h0 e0
  have hlt : ∀ y ∈ p ++ [], y.block < W.heap.size := fun y hy => hW'.lt y hy
  simp only [List.append_nil] at hW' hlt
  have hc : Calls Try.prog 5 #[.slice A n c] W (OkTrue W) := by
    by_cases h : 0 < n ∧ n ≤ 300
    · have hl : xs.length = n := by simpa using hr.1
      obtain ⟨b, off, rfl, hc⟩ := hr.2 h.1
      exact mean_core W b off n c xs hl hc h.2 h.1
    · exact mean_large W A n c (by omega)
  refine hc.mono fun e W' hh => ?_
  obtain ⟨rfl, hT⟩ := hh
  have hb := hT.to_below
  exact ⟨_, rfl, post_of_below (pa := p) (pv := []) hW' (fun _ _ _ => trodAll_mk1 (shut_bool Try.underlying4 true))
    (fun sp hsp => trodAll_mk1 (trod_kept Try.laidOut (by kernel_rfl) (of_decide_eq_true (by kernel_rfl)) k0 hb (fun y hy => hlt y hy) sp (fun y hy => hsp y hy)))
    (fun _ _ => rfl) (by simp) hb (ok_one (by kernel_rfl) rfl (okWide_bool_mk Try.underlying4 true))⟩

theorem mean_holds : Rows.StatMeanSaid :=
  OpenClaim.holds_of_wide 5 Try.f5 rfl rfl rfl rfl rfl rfl rfl ⟨rfl, rfl, rfl, rfl, rfl⟩ rfl rfl rfl rfl rfl (by kernel_rfl) Try.func5 (by kernel_rfl)
    (of_decide_eq_true (by kernel_rfl)) (by unfold Func.isWrapper; first | (rw [if_pos (by decide +kernel)]; kernel_rfl) | (rw [if_neg (by decide +kernel)]; exact ⟨rfl, rfl⟩))
    (fun os started H enc _ => mean_lifted os started H enc)

end Go.Proofs.Ytkphnmpildkdaaa
