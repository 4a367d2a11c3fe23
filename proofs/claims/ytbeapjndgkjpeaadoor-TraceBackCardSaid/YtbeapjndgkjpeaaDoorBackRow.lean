/- The row of TraceBack and its tied card, proved: whatever the input, it answers true, and the input reads as it did; where the listed package-level variables hold what the program's text lays. -/
import Derived.Test.YtbeapjndgkjpeaaDoorBack
import Derived.Test.YtbeapjndgkjpeaaDoorOpen
import Derived.Test.YtbeapjndgkjpeaaDoorCards
import Derived.Test.YtbeapjndgkjpeaaDoorTie
import Derived.SevenTiedAt
namespace Go.Proofs.YtbeapjndgkjpeaaDoor
open Go.ChangeShapes Go.WideShapes Go.ChangeAt Go.RowKit
open Go.ChangeMaps (open_string shut_string)

set_option maxRecDepth 100000 in
theorem back_lifted (os : Os) (started : os.Started) (H : Type) (enc : TypeId × Value → H) :
    ReturnsInHanded {} Tryd.checked os 4 .any (fun w args => (Rows.traceBackSpec.pre enc Tryd.prog Tryd.f4 [] false w args ∧ laidMetH Tryd.prog laidL w) ∧ sizedMet enc Tryd.prog Tryd.f4 (OpenSpec.ofChange Rows.traceBackSpec) false w args)
      (Rows.traceBackSpec.post enc Tryd.prog Tryd.f4 false true false false) := by
  refine handed_laid_shaped (C := Tryd.checked) (X := fun w _ => laidMetH Tryd.prog laidL w) (fun _ _ _ hh h => h.of_heap hh) Tryd.own started (by kernel_rfl) Tryd.func4
    (ChangeSpec.witness_shaped (enc := enc) (C := Tryd.checked) (os := os) (X := fun w _ => laidMetH Tryd.prog laidL w) false (World.laidAll Tryd.prog os laidL) #[.slice none 0 0, .slice none 0 0, .string ⟨#[]⟩] 8 (World.laidAll_os _ _ _)
      (World.shaped_of_ZipB (by kernel_rfl) (by kernel_rfl)) (by kernel_rfl) (by kernel_rfl) (by kernel_rfl) (laid_met os _)) ?_
  intro W base args ds gs before hval0 hW hL hsh
  have hval : ∀ (j : Nat) t v, Tryd.f4.params[j]? = some t → args[j]? = some v → Value.okWide Tryd.prog W .any base t v := hval0
  have hW' := hW
  obtain ⟨p, q, hA0, hV, rfl, hfz, hnd⟩ := hW
  have hA : DataW.TrodAll enc Tryd.prog W 0 (fun _ => true) true Tryd.f4.params.toList args.toList ds p := hA0
  rw [Tryd.params4] at hA hval
  obtain ⟨v0, v1, v2, d0, d1, d2, p0, p1, p2, rfl, rfl, rfl, h0, h1, h2⟩ := trodAll_three hA
  obtain ⟨rfl, rfl⟩ := trodVars_none hV
  obtain ⟨s, rfl, rfl, rfl, hs⟩ := open_string Tryd.underlying9 (hval 2 9 v2 rfl rfl) h2
  have k0 := h0
  have k1 := h1
  obtain ⟨a0, l0, z0, rfl⟩ := okWide_slice Tryd.underlying24 (hval 0 24 v0 rfl rfl)
  obtain ⟨a1, l1, z1, rfl⟩ := okWide_slice Tryd.underlying24 (hval 1 24 v1 rfl rfl)
  obtain ⟨f0, h0⟩ := h0
  obtain ⟨f1, h1⟩ := h1
  obtain ⟨A, n, c, l, e0, hn, hl, hr, hok⟩ := evs_in h0
  obtain ⟨B, m, d, r, e1, hm, hrl, hr2, hok2⟩ := evs_in h1
  rw [e0] at hW' k0 ⊢
  rw [e1] at hW' k1 ⊢
  clear hA0 hval0 hval hA h0 h1 h2 e0 e1
  have hlt : ∀ y ∈ (p0 ++ p1) ++ [], y.block < W.heap.size := fun y hy => hW'.lt y (by simpa using hy)
  simp only [List.append_nil] at hW' hlt
  rw [laid_plain] at hL
  refine (back_calls A B n c m d l r s.data.toList W hr hr2 hok hok2 (env_of_laid hL hsh)).mono fun e W' hh => ?_
  obtain ⟨rfl, hT⟩ := hh
  have hb := hT.to_below
  exact ⟨_, rfl, post_of_below (pa := p0 ++ (p1 ++ [])) (pv := []) hW' (fun _ _ _ => trodAll_mk1 (shut_bool Tryd.underlying4 true))
    (fun sp hsp => trodAll_mk3 (trod_kept Tryd.laidOut (by kernel_rfl) (of_decide_eq_true (by kernel_rfl)) k0 hb (fun y hy => hlt y (by simp [hy])) sp (fun y hy => hsp y (by simp [hy])))
      (trod_kept Tryd.laidOut (by kernel_rfl) (of_decide_eq_true (by kernel_rfl)) k1 hb (fun y hy => hlt y (by simp [hy])) sp (fun y hy => hsp y (by simp [hy]))) (shut_string Tryd.underlying9 hs))
    (fun _ _ => rfl) (by simp) hb (ok_one (by kernel_rfl) rfl (okWide_bool_mk Tryd.underlying4 true))⟩

theorem back_said : Rows.TraceBackSaid :=
  OpenClaim.holds_of_wide 4 Tryd.f4 rfl rfl rfl rfl rfl rfl rfl ⟨rfl, rfl, rfl, rfl, rfl⟩ rfl rfl rfl rfl rfl (by kernel_rfl) Tryd.func4 (by kernel_rfl)
    (of_decide_eq_true (by kernel_rfl)) (by unfold Func.isWrapper; first | (rw [if_pos (by decide +kernel)]; kernel_rfl) | (rw [if_neg (by decide +kernel)]; exact ⟨rfl, rfl⟩))
    (fun os started H enc _ => back_lifted os started H enc)

theorem back_holds : Rows.TraceBackCardSaid :=
  Claim7.holds_tied_plain_at .later [] [.data, .data, .data, .data, .sentinel, .sentinel, .data, .pinned] true (true, "bc674f1123743f68896fee6df66f3383b1531d7b81965222c5a0903e8f4da1ed") true
    back_said (fun _ h => by cases h) (by kernel_rfl) (fun _ h => by cases h) traceBack_row_tie rfl ⟨rfl, rfl⟩ (by kernel_rfl) rfl
    (fun f fn hf hfn => by
      obtain rfl : f = 4 := Option.some.inj ((show Tryd.prog.funcNamed "countermand/countermandlaw20.TraceBack" = some 4 by kernel_rfl).symm.trans hf) |>.symm
      obtain rfl : fn = Tryd.f4 := (Option.some.inj (Tryd.func4.symm.trans hfn)).symm
      exact ⟨by kernel_rfl, fun j t ht => by
        rw [Tryd.params4] at ht
        have hm : t ∈ [24, 24, 9] := by simpa using Array.mem_of_getElem? ht
        have hall : ([24, 24, 9].all fun u => !Tryd.prog.wantsStandIn u) = true := by kernel_rfl
        exact (show Tryd.prog.wantsStandIn t = false by simpa using List.all_eq_true.1 hall t hm)⟩)
    (by kernel_rfl)

end Go.Proofs.YtbeapjndgkjpeaaDoor
