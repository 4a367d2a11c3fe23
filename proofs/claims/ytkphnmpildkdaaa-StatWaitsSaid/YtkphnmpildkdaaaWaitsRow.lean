/- The row of StatWaits, proved: whatever the input, it answers true, and the input reads as it did. No condition. -/
import Derived.Test.YtkphnmpildkdaaaOpen
import Derived.Test.YtkphnmpildkdaaaStatWaits
namespace Go.Proofs.Ytkphnmpildkdaaa
open Go.ChangeShapes Go.WideShapes Go.ChangeAt Go.RowKit

theorem waits_large (w : World) (A : Option Addr) (n c : Nat) (B : Option Addr) (m c2 : Nat) (kind : Int) (h : 200 < n ∨ 200 < m) : Calls Try.prog 6 #[.slice A n c, .slice B m c2, .int .i64 kind] w (OkTrue w) := by
  by_cases hn : 200 < n
  · have hg : decide ((200 : Int) < (n : Int)) = true := by simp; omega
    clear h
    go_enter Try.func6, Try.ntmps6
    go_wp2_with fail
    refine (awake_calls w).mono ?_
    rintro e w1 ⟨rfl, ht⟩
    have HT1 := Lib.hid ht
    clear ht
    go_wp2
    go_ret
    exact ⟨rfl, HT1.out⟩
  · have hg : decide ((200 : Int) < (n : Int)) = false := by simp; omega
    have hg2 : decide ((200 : Int) < (m : Int)) = true := by simp; omega
    clear h
    go_enter Try.func6, Try.ntmps6
    go_wp2_with fail
    refine (awake_calls w).mono ?_
    rintro e w1 ⟨rfl, ht⟩
    have HT1 := Lib.hid ht
    clear ht
    go_wp2
    go_ret
    exact ⟨rfl, HT1.out⟩

set_option maxRecDepth 100000 in
theorem waits_lifted (os : Os) (started : os.Started) (H : Type) (enc : TypeId × Value → H) :
    ReturnsInHanded {} Try.checked os 6 .any (Rows.statWaitsSpec.pre6 enc Try.prog Try.f6 Rows.statWaitsRow.domain false) (Rows.statWaitsSpec.post enc Try.prog Try.f6 false true false false) := by
  refine returnsInHanded_of_change (C := Try.checked) Try.own started (by kernel_rfl) Try.func6
    (ChangeSpec.witness6 (enc := enc) (C := Try.checked) false ⟨#[], #[.slice none 0 0, .slice none 0 0, .int .i64 0], []⟩ 8 (by kernel_rfl) (by kernel_rfl) (by kernel_rfl) (by kernel_rfl)) ?_
  intro W base args ds gs before hval0 hW hcnd _
  have hval : ∀ (j : Nat) t v, Try.f6.params[j]? = some t → args[j]? = some v → Value.okWide Try.prog W .any base t v := hval0
  have hW' := hW
  obtain ⟨p, q, hA0, hV, rfl, hfz, hnd⟩ := hW
  have hA : DataW.TrodAll enc Try.prog W 0 (fun _ => true) true Try.f6.params.toList args.toList ds p := hA0
  rw [Try.params6] at hA hval
  obtain ⟨v0, v1, v2, d0, d1, d2, p0, p1, p2, rfl, rfl, rfl, h0, h1, h2⟩ := trodAll_three hA
  obtain ⟨rfl, rfl⟩ := trodVars_none hV
  obtain ⟨x, rfl, rfl, rfl, wx⟩ := open_int Try.underlying3 (hval 2 3 v2 rfl rfl) h2
  have k0 := h0
  have k1 := h1
  obtain ⟨a0, l0, z0, rfl⟩ := okWide_slice Try.underlying22 (hval 0 22 v0 rfl rfl)
  obtain ⟨a1, l1, z1, rfl⟩ := okWide_slice Try.underlying22 (hval 1 22 v1 rfl rfl)
  obtain ⟨f0, h0⟩ := h0
  obtain ⟨f1, h1⟩ := h1
  obtain ⟨A, n, c, l, e0, hn, hl, hr, hok⟩ := evs_in h0
  obtain ⟨B, m, c2, l2, e1, hm, hl2, hr2, hok2⟩ := evs_in h1
  rw [e0] at hW' k0 ⊢
  rw [e1] at hW' k1 ⊢
  clear hA0 hval0 hval hA h1 h0 h2 e0 e1
  have hlt : ∀ y ∈ (p0 ++ p1 ++ []) ++ [], y.block < W.heap.size := fun y hy => hW'.lt y (by simpa using hy)
  simp only [List.append_nil] at hW' hlt
  have hc : Calls Try.prog 6 #[.slice A n c, .slice B m c2, .int .i64 x] W (OkTrue W) := by
    by_cases h : n ≤ 200 ∧ m ≤ 200
    · exact waits_core W A n c l B m c2 l2 x hr hl hok h.1 hr2 hl2 hok2 h.2
    · exact waits_large W A n c B m c2 x (by omega)
  refine hc.mono fun e W' hh => ?_
  obtain ⟨rfl, hT⟩ := hh
  have hb := hT.to_below
  exact ⟨_, rfl, post_of_below (pa := p0 ++ (p1 ++ [])) (pv := []) hW' (fun _ _ _ => trodAll_mk1 (shut_bool Try.underlying4 true))
    (fun sp hsp => trodAll_mk3 (trod_kept Try.laidOut (by kernel_rfl) (of_decide_eq_true (by kernel_rfl)) k0 hb (fun y hy => hlt y (by simp [hy])) sp (fun y hy => hsp y (by simp [hy])))
      (trod_kept Try.laidOut (by kernel_rfl) (of_decide_eq_true (by kernel_rfl)) k1 hb (fun y hy => hlt y (by simp [hy])) sp (fun y hy => hsp y (by simp [hy])))
      (shut_int Try.underlying3 wx))
    (fun _ _ => rfl) (by simp) hb (ok_one (by kernel_rfl) rfl (okWide_bool_mk Try.underlying4 true))⟩

theorem waits_holds : Rows.StatWaitsSaid :=
  OpenClaim.holds_of_wide 6 Try.f6 rfl rfl rfl rfl rfl rfl rfl ⟨rfl, rfl, rfl, rfl, rfl⟩ rfl rfl rfl rfl rfl (by kernel_rfl) Try.func6 (by kernel_rfl)
    (of_decide_eq_true (by kernel_rfl)) (by unfold Func.isWrapper; first | (rw [if_pos (by decide +kernel)]; kernel_rfl) | (rw [if_neg (by decide +kernel)]; exact ⟨rfl, rfl⟩))
    (fun os started H enc _ => waits_lifted os started H enc)

end Go.Proofs.Ytkphnmpildkdaaa
