/- The row of AfterStops, proved. -/
import Derived.Test.YthloikmmkkamoaaOpen
namespace Go.Proofs.Ythloikmmkkamoaa
open Go.ChangeShapes Go.WideShapes Go.ChangeAt Go.RowKit

set_option maxRecDepth 100000 in
theorem stops_lifted (os : Os) (started : os.Started) (H : Type) (enc : TypeId × Value → H) :
    ReturnsInHanded {} Try.checked os 5 .any (Rows.afterStopsSpec.pre6 enc Try.prog Try.f5 Rows.afterStopsRow.domain false) (Rows.afterStopsSpec.post enc Try.prog Try.f5 false true false false) := by
  refine returnsInHanded_of_change (C := Try.checked) Try.own started (by kernel_rfl) Try.func5
    (ChangeSpec.witness6 (enc := enc) (C := Try.checked) false ⟨#[], #[.slice none 0 0, .int .u8 0, .slice none 0 0], []⟩ 8 (by kernel_rfl) (by kernel_rfl) (by kernel_rfl) (by kernel_rfl)) ?_
  intro W base args ds gs before hval0 hW hcnd _
  have hval : ∀ (j : Nat) t v, Try.f5.params[j]? = some t → args[j]? = some v → Value.okWide Try.prog W .any base t v := hval0
  have hW' := hW
  obtain ⟨p, q, hA0, hV, rfl, hfz, hnd⟩ := hW
  have hA : DataW.TrodAll enc Try.prog W 0 (fun _ => true) true Try.f5.params.toList args.toList ds p := hA0
  rw [Try.params5] at hA hval
  obtain ⟨v0, v1, v2, d0, d1, d2, p0, p1, p2, rfl, rfl, rfl, h0, h1, h2⟩ := trodAll_three hA
  obtain ⟨rfl, rfl⟩ := trodVars_none hV
  obtain ⟨x, rfl, rfl, rfl, wx⟩ := open_int Try.underlying5 (hval 1 5 v1 rfl rfl) h1
  have k0 := h0
  have k2 := h2
  obtain ⟨a0, l0, z0, rfl⟩ := okWide_slice Try.underlying22 (hval 0 22 v0 rfl rfl)
  obtain ⟨a2, l2, z2, rfl⟩ := okWide_slice Try.underlying32 (hval 2 32 v2 rfl rfl)
  obtain ⟨f0, h0⟩ := h0
  obtain ⟨f2, h2⟩ := h2
  obtain ⟨A, n, c, l, e0, hn, hl, hr, hok⟩ := acts_in h0
  obtain ⟨B, m, c2, zs, e2, hm, hz, hzw, hzb⟩ := ints_in Try.underlying32 Try.underlying3 (by kernel_rfl) h2
  rw [e0] at hW' k0 ⊢
  rw [e2] at hW' k2 ⊢
  clear hA0 hval0 hval hA h1 h0 h2 e0 e2
  have hlt : ∀ y ∈ (p0 ++ [] ++ p2) ++ [], y.block < W.heap.size := fun y hy => hW'.lt y hy
  simp only [List.append_nil] at hW' hlt
  obtain ⟨b0, b1⟩ : 0 ≤ x ∧ x ≤ 255 := by have h := wx; simp [Lit.wf, IntKind.min, IntKind.max, IntKind.signed, IntKind.bits] at h; omega
  obtain ⟨q, rfl⟩ : ∃ q : Nat, x = (q : Int) := ⟨x.toNat, by omega⟩
  refine (stops_calls W A n c l q (by omega) B m c2 zs hl hok hr hn hz hzw hzb).mono fun e W' hh => ?_
  obtain ⟨rfl, hT⟩ := hh
  have hb := hT.to_below
  exact ⟨_, rfl, post_of_below (pa := p0 ++ ([] ++ p2)) (pv := []) hW' (fun _ _ _ => trodAll_mk1 (shut_bool Try.underlying4 true))
    (fun sp hsp => trodAll_mk3 (trod_kept Try.laidOut (by kernel_rfl) (of_decide_eq_true (by kernel_rfl)) k0 hb (fun y hy => hlt y (by simp [hy])) sp (fun y hy => hsp y (by simp [hy])))
      (shut_int Try.underlying5 wx)
      (trod_kept Try.laidOut (by kernel_rfl) (of_decide_eq_true (by kernel_rfl)) k2 hb (fun y hy => hlt y (by simp [hy])) sp (fun y hy => hsp y (by simp [hy]))))
    (fun _ _ => rfl) (by simp) hb (ok_one (by kernel_rfl) rfl (okWide_bool_mk Try.underlying4 true))⟩

theorem stops_holds : Rows.AfterStopsSaid :=
  OpenClaim.holds_of_wide 5 Try.f5 rfl rfl rfl rfl rfl rfl rfl ⟨rfl, rfl, rfl, rfl, rfl⟩ rfl rfl rfl rfl rfl (by kernel_rfl) Try.func5 (by kernel_rfl)
    (of_decide_eq_true (by kernel_rfl)) (by unfold Func.isWrapper; first | (rw [if_pos (by decide +kernel)]; kernel_rfl) | (rw [if_neg (by decide +kernel)]; exact ⟨rfl, rfl⟩))
    (fun os started H enc _ => stops_lifted os started H enc)

end Go.Proofs.Ythloikmmkkamoaa
