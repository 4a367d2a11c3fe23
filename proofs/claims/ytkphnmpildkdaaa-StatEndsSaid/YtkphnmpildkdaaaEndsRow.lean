/- The row of StatEnds, proved: whatever the input, it answers true, and the input reads as it did. No condition. -/
import Derived.Test.YtkphnmpildkdaaaOpen
import Derived.Test.YtkphnmpildkdaaaStatEnds
namespace Go.Proofs.Ytkphnmpildkdaaa
open Go.ChangeShapes Go.WideShapes Go.ChangeAt Go.RowKit

theorem ends_large (w : World) (A : Option Addr) (n c : Nat) (hn : 300 < n) : Calls Try.prog 4 #[.slice A n c] w (OkTrue w) := by
  have hg : decide ((300 : Int) < (n : Int)) = true := by simp; omega
  go_enter Try.func4, Try.ntmps4
  go_wp2_with fail
  refine (awake_calls w).mono ?_
  rintro e w1 ⟨rfl, ht⟩
  have HT1 := Lib.hid ht
  clear ht
  go_wp2
  go_ret
  exact ⟨rfl, HT1.out⟩

theorem ends_calls (w : World) (A : Option Addr) (n c : Nat) (xs : List Nat) (hx : Reads w 1 A n (flts xs)) (hw : ∀ k, k < n → w64 (xs.getD k 0)) :
    Calls Try.prog 4 #[.slice A n c] w (OkTrue w) := by
  by_cases hn : n ≤ 300
  · exact ends_core w A n c xs hx hw hn
  · exact ends_large w A n c (by omega)

set_option maxRecDepth 100000 in
theorem ends_lifted (os : Os) (started : os.Started) (H : Type) (enc : TypeId × Value → H) :
    ReturnsInHanded {} Try.checked os 4 .any (Rows.statEndsSpec.pre6 enc Try.prog Try.f4 Rows.statEndsRow.domain false) (Rows.statEndsSpec.post enc Try.prog Try.f4 false true false false) := by
  refine returnsInHanded_of_change (C := Try.checked) Try.own started (by kernel_rfl) Try.func4
    (ChangeSpec.witness6 (enc := enc) (C := Try.checked) false ⟨#[], #[.slice none 0 0], []⟩ 8 (by kernel_rfl) (by kernel_rfl) (by kernel_rfl) (by kernel_rfl)) ?_
  intro W base args ds gs before hval0 hW hcnd _
  have hval : ∀ (j : Nat) t v, Try.f4.params[j]? = some t → args[j]? = some v → Value.okWide Try.prog W .any base t v := hval0
  have hW' := hW
  obtain ⟨p, q, hA0, hV, rfl, hfz, hnd⟩ := hW
  have hA : DataW.TrodAll enc Try.prog W 0 (fun _ => true) true Try.f4.params.toList args.toList ds p := hA0
  rw [Try.params4] at hA hval
  obtain ⟨v0, d0, rfl, rfl, h0⟩ := trodAll_one hA
  obtain ⟨rfl, rfl⟩ := trodVars_none hV
  have k0 := h0
  obtain ⟨a0, l0, z0, rfl⟩ := okWide_slice Try.underlying23 (hval 0 23 v0 rfl rfl)
  obtain ⟨f0, h0⟩ := h0
  obtain ⟨A, n, c, xs, e0, hn, hr, hw⟩ := flts_in Try.underlying23 Try.underlying24 (by kernel_rfl) h0
  rw [e0] at hW' k0 ⊢
  clear hA0 hval0 hval hA h0 e0
  have hlt : ∀ y ∈ p ++ [], y.block < W.heap.size := fun y hy => hW'.lt y hy
  simp only [List.append_nil] at hW' hlt
  refine (ends_calls W A n c xs hr hw).mono fun e W' hh => ?_
  obtain ⟨rfl, hT⟩ := hh
  have hb := hT.to_below
  exact ⟨_, rfl, post_of_below (pa := p) (pv := []) hW' (fun _ _ _ => trodAll_mk1 (shut_bool Try.underlying4 true))
    (fun sp hsp => trodAll_mk1 (trod_kept Try.laidOut (by kernel_rfl) (of_decide_eq_true (by kernel_rfl)) k0 hb (fun y hy => hlt y hy) sp (fun y hy => hsp y hy)))
    (fun _ _ => rfl) (by simp) hb (ok_one (by kernel_rfl) rfl (okWide_bool_mk Try.underlying4 true))⟩

theorem ends_holds : Rows.StatEndsSaid :=
  OpenClaim.holds_of_wide 4 Try.f4 rfl rfl rfl rfl rfl rfl rfl ⟨rfl, rfl, rfl, rfl, rfl⟩ rfl rfl rfl rfl rfl (by kernel_rfl) Try.func4 (by kernel_rfl)
    (of_decide_eq_true (by kernel_rfl)) (by unfold Func.isWrapper; first | (rw [if_pos (by decide +kernel)]; kernel_rfl) | (rw [if_neg (by decide +kernel)]; exact ⟨rfl, rfl⟩))
    (fun os started H enc _ => ends_lifted os started H enc)

end Go.Proofs.Ytkphnmpildkdaaa
