/- The contract of event. -/
import Derived.Test.YtbeapjndgkjpeaaDoorLine
import Derived.Laws.ResultCell
namespace Go.Proofs.YtbeapjndgkjpeaaDoor
open Go.RowKit Go.Maps

theorem results_cell1 {fn : Func} {p : Tmp} {ty : TypeId} (h : fn.results = #[.cell p ty]) (tmps : Array Value) (P : Program) (w : World) :
    (results fn tmps).run P w = ((asAddr (tmps.getD p undef)).run P w).andThen fun a w₁ => (loadVar ty a).run P w₁ := by
  simp only [results, h]
  simp [Sem.run_bind, Result.andThen]
theorem load_ev (w : World) (b o : Nat) (x : Ev) (h0 : w.cell? ⟨b, o, none⟩ = some (.int .i64 x.kind)) (h1 : w.cell? ⟨b, o + 1, none⟩ = some (.int .i64 x.task)) (h2 : w.cell? ⟨b, o + 2, none⟩ = some (.int .i64 x.a)) (h3 : w.cell? ⟨b, o + 3, none⟩ = some (.int .i64 x.n)) :
    (loadVar 23 ⟨b, o, none⟩).run Tryd.prog w = .ok (.agg #[.int .i64 x.kind, .int .i64 x.task, .int .i64 x.a, .int .i64 x.n]) w := by
  have a1 := Tryd.isAgg23
  have a2 := Tryd.sizeOf23
  go_simp

/-- Block b holds the event x. -/
structure Holds4 (w : World) (b : Nat) (x : Ev) : Prop where
  c0 : w.cell? ⟨b, 0, none⟩ = some (.int .i64 x.kind)
  c1 : w.cell? ⟨b, 1, none⟩ = some (.int .i64 x.task)
  c2 : w.cell? ⟨b, 2, none⟩ = some (.int .i64 x.a)
  c3 : w.cell? ⟨b, 3, none⟩ = some (.int .i64 x.n)
theorem Holds4.turn {F : Nat → Prop} {w w' : World} {b : Nat} {x : Ev} (h : Holds4 w b x) (ht : Turn F w w') (hf : ¬ F b) : Holds4 w' b x :=
  ⟨ht.cell h.c0 hf, ht.cell h.c1 hf, ht.cell h.c2 hf, ht.cell h.c3 hf⟩

theorem event_ret {tmps : Array Value} {w : World} {b : Nat} {x : Ev} (h2 : tmps.getD 2 undef = .pointer (some ⟨b, 0, none⟩)) (h : Holds4 w b x) :
    (results Tryd.f19 tmps).run Tryd.prog w = .ok (.agg #[.int .i64 x.kind, .int .i64 x.task, .int .i64 x.a, .int .i64 x.n]) w := by
  rw [results_cell1 rfl, h2]
  have := load_ev w b 0 x h.c0 h.c1 h.c2 h.c3
  simp [asAddr, this, Result.andThen]

def EventR (l : List UInt8) (w : World) (e : Ending) (w' : World) : Prop :=
  ∃ x, e = .returned (.agg #[.int .i64 x.kind, .int .i64 x.task, .int .i64 x.a, .int .i64 x.n]) ∧ EvR l x ∧ i64Ev x ∧ Turn nowhere w w'

theorem frozen_turn {F : Nat → Prop} {w w' : World} (ht : Turn F w w') {p : Addr} (hl : p.block < w.heap.size) (hf : ¬ F p.block) : w'.frozen? p = w.frozen? p := by
  unfold World.frozen?
  rw [ht.block _ hl hf]
theorem put4 {w : World} {b : Nat} {x : Ev} (h : Holds4 w b x) : (∀ v, Holds4 (w.setCell ⟨b, 0, none⟩ (.int .i64 v)) b { x with kind := v }) ∧ (∀ v, Holds4 (w.setCell ⟨b, 1, none⟩ (.int .i64 v)) b { x with task := v }) ∧
    (∀ v, Holds4 (w.setCell ⟨b, 2, none⟩ (.int .i64 v)) b { x with a := v }) ∧ (∀ v, Holds4 (w.setCell ⟨b, 3, none⟩ (.int .i64 v)) b { x with n := v }) := by
  have same : ∀ (i : Nat) (u v : Value), w.cell? ⟨b, i, none⟩ = some u → (w.setCell ⟨b, i, none⟩ v).cell? ⟨b, i, none⟩ = some v := fun i u v hc => World.cell?_setCell_same' _ _ _ (by rw [hc]; rfl)
  have other : ∀ (i j : Nat) (u v : Value), i ≠ j → w.cell? ⟨b, i, none⟩ = some u → (w.setCell ⟨b, j, none⟩ v).cell? ⟨b, i, none⟩ = some u := fun i j u v hij hc => by
    rw [World.cell?_setCell_other _ _ _ _ (by intro e; injection e with _ e; exact hij e.symm)]; exact hc
  exact ⟨fun v => ⟨same 0 _ _ h.c0, other 1 0 _ _ (by decide) h.c1, other 2 0 _ _ (by decide) h.c2, other 3 0 _ _ (by decide) h.c3⟩,
    fun v => ⟨other 0 1 _ _ (by decide) h.c0, same 1 _ _ h.c1, other 2 1 _ _ (by decide) h.c2, other 3 1 _ _ (by decide) h.c3⟩,
    fun v => ⟨other 0 2 _ _ (by decide) h.c0, other 1 2 _ _ (by decide) h.c1, same 2 _ _ h.c2, other 3 2 _ _ (by decide) h.c3⟩,
    fun v => ⟨other 0 3 _ _ (by decide) h.c0, other 1 3 _ _ (by decide) h.c1, other 2 3 _ _ (by decide) h.c2, same 3 _ _ h.c3⟩⟩
theorem zero_i64 : i64Ev zeroEv := ⟨by decide, by decide, by decide, by decide⟩

theorem split4 {P : List (List UInt8)} (h : P.length = 4) : ∃ p0 p1 p2 p3, P = [p0, p1, p2, p3] := by
  match P, h with
  | [p0, p1, p2, p3], _ => exact ⟨p0, p1, p2, p3, rfl⟩
theorem split_short (l : List UInt8) : ∀ p ∈ Lib.split l [32], p.length ≤ l.length := by
  have : ∀ (k : Nat) (s : List UInt8), ∀ p ∈ Lib.splitK [32] 0 k s, p.length ≤ s.length := by
    intro k
    induction k with
    | zero => intro s p hp; simp [Lib.splitK] at hp; subst hp; exact Nat.le_refl _
    | succ k ih =>
      intro s p hp
      unfold Lib.splitK at hp
      split at hp
      · simp at hp; subst hp; exact Nat.le_refl _
      · rcases List.mem_cons.1 hp with rfl | hp
        · rw [List.length_take]; exact Nat.min_le_right _ _
        · exact Nat.le_trans (ih _ p hp) (by simp)
  exact this _ l

set_option maxRecDepth 20000 in
set_option maxHeartbeats 3200000 in
theorem event_calls (l : List UInt8) (hl : l.length ≤ 1000000) (w : World) (he : Env w) : Calls Tryd.prog 19 #[str l] w (EventR l w) := by
  have HE := Lib.hid he
  have t1 : Turn nowhere w (w.alloc (.cells #[.int .i64 0, .int .i64 0, .int .i64 0, .int .i64 0] 23)) := (Turn.refl _ _).alloc _
  have HT1 := Lib.hid t1
  have HLAW := Lib.hid (ev_law l)
  have HSH := Lib.hid (split_short l)
  have hpe : parseEv l = parseL (Lib.split l [32]) := rfl
  obtain ⟨P, hP⟩ : ∃ P, P = Lib.split l [32] := ⟨_, rfl⟩
  rw [← hP] at HSH hpe
  have HPE := Lib.hid hpe
  clear t1 he hpe
  go_enter Tryd.func19, Tryd.ntmps19
  go_wp2_with fail
  refine (split_calls l hl _ (HE.out.turn HT1.out)).mono ?_
  rw [← hP]
  clear hP
  rintro e w' ⟨rfl, rfl⟩
  by_cases h4 : P.length = 4
  case neg =>
    have hb4 : (((P.length : Nat) : Int) != 4) = true := by
      rw [bne_iff_ne]; omega
    have HZ := Lib.hid (show EvR l zeroEv from by
      refine HLAW.out.2 ?_
      rw [HPE.out]
      have : parseL P = zeroEv := by
        unfold parseL
        split
        · exact absurd rfl h4
        · rfl
      rw [this]
      intro h
      have := congrArg List.length h
      simp [lineOf, zeroEv, wordOf] at this)
    clear h4
    go_wp2
    refine bodyPost_ret (event_ret (b := w.heap.size) (x := zeroEv) rfl ?hld) rfl ⟨zeroEv, rfl, HZ.out, zero_i64, HT1.out.alloc _⟩
    case hld => exact ⟨by simp [zeroEv], by simp [zeroEv], by simp [zeroEv], by simp [zeroEv]⟩
  case pos =>
    obtain ⟨p0, p1, p2, p3, rfl⟩ := split4 h4
    have HPE2 := Lib.hid (show parseEv l = ⟨kindTo p0 9, numV p1, numV p2, numV p3⟩ from HPE.out)
    have l1 : p1.length ≤ 1000000 := Nat.le_trans (HSH.out p1 (by simp)) hl
    have l2 : p2.length ≤ 1000000 := Nat.le_trans (HSH.out p2 (by simp)) hl
    have l3 : p3.length ≤ 1000000 := Nat.le_trans (HSH.out p3 (by simp)) hl
    clear HPE HSH h4
    obtain ⟨wb, hwb⟩ : ∃ x, x = ((w.alloc (.cells #[.int .i64 0, .int .i64 0, .int .i64 0, .int .i64 0] 23)).alloc (.cells (List.map str [p0, p1, p2, p3]).toArray 9)) := ⟨_, rfl⟩
    have hsz : wb.heap.size = w.heap.size + 2 := by rw [hwb]; show ((w.heap.push _).push _).size = _; rw [Array.size_push, Array.size_push]
    have HTB := Lib.hid (show Turn nowhere w wb from by rw [hwb]; exact HT1.out.alloc _)
    have HZB := Lib.hid (show Holds4 wb w.heap.size zeroEv from by rw [hwb]; exact ⟨by simp [zeroEv], by simp [zeroEv], by simp [zeroEv], by simp [zeroEv]⟩)
    have q0 : wb.cell? ⟨w.heap.size + 1, 0, none⟩ = some (str p0) := by rw [hwb]; simp
    have q1 : wb.cell? ⟨w.heap.size + 1, 1, none⟩ = some (str p1) := by rw [hwb]; simp
    have q2 : wb.cell? ⟨w.heap.size + 1, 2, none⟩ = some (str p2) := by rw [hwb]; simp
    have q3 : wb.cell? ⟨w.heap.size + 1, 3, none⟩ = some (str p3) := by rw [hwb]; simp
    have hfr : ∀ j, wb.frozen? ⟨w.heap.size, j, none⟩ = false := by
      intro j
      rw [hwb, frozen_turn ((Turn.refl nowhere _).alloc _) (by simp) (fun h => h)]
      unfold World.frozen?
      rw [heap_alloc_new]
      simp
    rw [← hwb]
    clear hwb
    have t3 : Turn nowhere wb (wb.alloc (.cells #[.int .i64 0, .int .i64 0, .int .i64 0, .int .i64 0] 23)) := (Turn.refl _ _).alloc _
    have HT3 := Lib.hid t3
    have HX3 := Lib.hid (show Holds4 (wb.alloc (.cells #[.int .i64 0, .int .i64 0, .int .i64 0, .int .i64 0] 23)) (w.heap.size + 2) zeroEv from by rw [← hsz]; exact ⟨by simp [zeroEv], by simp [zeroEv], by simp [zeroEv], by simp [zeroEv]⟩)
    have hfz : ∀ j, (wb.alloc (.cells #[.int .i64 0, .int .i64 0, .int .i64 0, .int .i64 0] 23)).frozen? ⟨w.heap.size + 2, j, none⟩ = false := by intro j; rw [← hsz]; unfold World.frozen?; rw [heap_alloc_new]; simp
    clear t3
    have HFZ := Lib.hid hfz
    have HFR := Lib.hid hfr
    have HQ0 := Lib.hid q0
    have HQ1 := Lib.hid q1
    have HQ2 := Lib.hid q2
    have HQ3 := Lib.hid q3
    clear q0 q1 q2 q3 hfz hfr
    go_wp2_with fail
    obtain ⟨w3, hw3⟩ : ∃ x, x = (wb.alloc (.cells #[.int .i64 0, .int .i64 0, .int .i64 0, .int .i64 0] 23)) := ⟨_, rfl⟩
    rw [← hw3] at HT3 HX3 HFZ ⊢
    have HZ3 := Lib.hid (HZB.out.turn HT3.out (fun h => h))
    have HFR3 := Lib.hid (show ∀ j, w3.frozen? ⟨w.heap.size, j, none⟩ = false from fun j => by rw [frozen_turn HT3.out (by show w.heap.size < _; omega) (fun h => h)]; exact HFR.out j)
    have HB1 := Lib.hid (HT3.out.cell HQ0.out (fun h => h))
    have HB2 := Lib.hid (HT3.out.cell HQ1.out (fun h => h))
    have HB3 := Lib.hid (HT3.out.cell HQ2.out (fun h => h))
    have HB4 := Lib.hid (HT3.out.cell HQ3.out (fun h => h))
    have HTW := Lib.hid (HTB.out.trans HT3.out (fun _ _ h => h))
    have hs3 : w.heap.size + 2 < w3.heap.size := by rw [hw3]; simp; omega
    clear hw3 HT3 HQ0 HQ1 HQ2 HQ3 HTB HZB HFR hsz
    go_loopg [5, 12] 9 (fun g s i wr => ∃ k : Nat, g = 9 - k ∧ k ≤ 9 ∧ i = .int .i64 k ∧ Hid (Holds4 wr (w.heap.size + 2) ⟨kindTo p0 k, 0, 0, 0⟩) ∧ Hid (Turn (fun q => q = w.heap.size + 2) w3 wr) ∧ Hid (∀ j, wr.frozen? ⟨w.heap.size + 2, j, none⟩ = false))
    case atStart => exact ⟨0, rfl, by omega, rfl, HX3, Turn.refl _ _, HFZ⟩
    case round =>
      obtain ⟨k, rfl, hk, rfl, HX, HT, HF⟩ := hrel
      have h0 : (0 : Int) ≤ (k : Int) := by omega
      have HEW := Lib.hid (HE.out.turn (HTW.out.trans HT.out (fun i hi h => absurd hi (by omega))))
      have hq0 := HT.out.cell HB1.out (fun h => by simp at h)
      by_cases hlt : k < 9
      case pos =>
        have h1 : (k : Int) < 9 := by omega
        by_cases hkp : wordOf k = p0
        case pos =>
          have hb : (wordOf (k : Int) == p0) = true := by simpa using hkp
          have HK := Lib.hid (show kindTo p0 (k + 1) = k from by unfold kindTo; rw [if_pos hkp])
          have c0 := HX.out.c0
          have f0 := HF.out 0
          clear hkp
          go_wp2_with fail
          go_quiet ((go_at_call 21; exact Calls.quiet_of_same ((word_calls k _ (HEW.out.turn ((Turn.refl nowhere _).drewN _))).mono (fun e w' h => ⟨h.1, h.2.symm⟩))))
          go_wp2
          go_roundg (9 - (k + 1))
          case rel =>
            refine ⟨k + 1, rfl, by omega, by go_num, Lib.hid ?_, Lib.hid ((HT.out.drewN _).setCell (.inl rfl) _), Lib.hid (fun j => by simpa using HF.out j)⟩
            rw [HK.out]
            exact (put4 (HX.out.turn ((Turn.refl nowhere _).drewN nq) (fun h => h))).1 k
          case measure => omega
        case neg =>
          have hb : (wordOf (k : Int) == p0) = false := beq_eq_false_iff_ne.2 hkp
          have HK := Lib.hid (show kindTo p0 (k + 1) = kindTo p0 k from by conv => lhs; unfold kindTo; rw [if_neg hkp])
          clear hkp
          go_wp2_with fail
          go_quiet ((go_at_call 21; exact Calls.quiet_of_same ((word_calls k _ (HEW.out.turn ((Turn.refl nowhere _).drewN _))).mono (fun e w' h => ⟨h.1, h.2.symm⟩))))
          go_wp2
          go_roundg (9 - (k + 1))
          case rel => exact ⟨k + 1, rfl, by omega, by go_num, by rw [HK.out]; exact HX.out.turn ((Turn.refl nowhere _).drewN _) (fun h => h), HT.out.drewN _, fun j => by simpa using HF.out j⟩
          case measure => omega
      case neg =>
        obtain rfl : k = 9 := by omega
        have HX0 := Lib.hid HX.out
        have HT0 := Lib.hid HT.out
        have HF0 := Lib.hid HF.out
        have HE0 := Lib.hid HEW.out
        clear HX HT HF HEW hq0
        have q1 := HT0.out.cell HB2.out (fun h => by simp at h)
        go_wp2_with fail
        refine (atoi_calls p1 l1 _ HE0.out).mono ?_
        rintro e wc1 ⟨ev1, rfl, ht⟩
        have hx1 := HX0.out.turn ht (fun h => h)
        have hf1 : ∀ j, wc1.frozen? ⟨w.heap.size + 2, j, none⟩ = false := fun j => by rw [frozen_turn ht (by have := HT0.out.size; show w.heap.size + 2 < _; omega) (fun h => h)]; exact HF0.out j
        have c1 := hx1.c1
        have f1 := hf1 1
        have HX1 := Lib.hid ((put4 hx1).2.1 (numV p1))
        have HT1 := Lib.hid ((HT0.out.trans ht (fun _ _ h => h.elim)).setCell (p := ⟨w.heap.size + 2, 1, none⟩) (.inl rfl) (.int .i64 (numV p1)))
        have HF1 := Lib.hid (show ∀ j, (wc1.setCell ⟨w.heap.size + 2, 1, none⟩ (.int .i64 (numV p1))).frozen? ⟨w.heap.size + 2, j, none⟩ = false from fun j => by rw [World.frozen?_setCell]; exact hf1 j)
        have HE1 := Lib.hid (HE.out.turn (HTW.out.trans HT1.out (fun i hi h => absurd hi (by omega))))
        clear ht hx1 hf1 q1
        have q2 := HT1.out.cell HB3.out (fun h => by simp at h)
        go_wp2_with fail
        refine (atoi_calls p2 l2 _ HE1.out).mono ?_
        rintro e wc2 ⟨ev2, rfl, ht⟩
        have hx2 := HX1.out.turn ht (fun h => h)
        have hf2 : ∀ j, wc2.frozen? ⟨w.heap.size + 2, j, none⟩ = false := fun j => by rw [frozen_turn ht (by have := HT1.out.size; show w.heap.size + 2 < _; omega) (fun h => h)]; exact HF1.out j
        have c2 := hx2.c2
        have f2 := hf2 2
        have HX2 := Lib.hid ((put4 hx2).2.2.1 (numV p2))
        have HT2 := Lib.hid ((HT1.out.trans ht (fun _ _ h => h.elim)).setCell (p := ⟨w.heap.size + 2, 2, none⟩) (.inl rfl) (.int .i64 (numV p2)))
        have HF2 := Lib.hid (show ∀ j, (wc2.setCell ⟨w.heap.size + 2, 2, none⟩ (.int .i64 (numV p2))).frozen? ⟨w.heap.size + 2, j, none⟩ = false from fun j => by rw [World.frozen?_setCell]; exact hf2 j)
        have HE2 := Lib.hid (HE.out.turn (HTW.out.trans HT2.out (fun i hi h => absurd hi (by omega))))
        clear ht hx2 hf2 q2
        have q3 := HT2.out.cell HB4.out (fun h => by simp at h)
        go_wp2_with fail
        refine (parse_calls p3 l3 _ HE2.out).mono ?_
        rintro e wc3 ⟨ev3, rfl, ht⟩
        have hx3 := HX2.out.turn ht (fun h => h)
        have hf3 : ∀ j, wc3.frozen? ⟨w.heap.size + 2, j, none⟩ = false := fun j => by rw [frozen_turn ht (by have := HT2.out.size; show w.heap.size + 2 < _; omega) (fun h => h)]; exact HF2.out j
        have c3 := hx3.c3
        have f3 := hf3 3
        have HX3 := Lib.hid ((put4 hx3).2.2.2 (numV p3))
        have HT3 := Lib.hid ((HT2.out.trans ht (fun _ _ h => h.elim)).setCell (p := ⟨w.heap.size + 2, 3, none⟩) (.inl rfl) (.int .i64 (numV p3)))
        have HF3 := Lib.hid (show ∀ j, (wc3.setCell ⟨w.heap.size + 2, 3, none⟩ (.int .i64 (numV p3))).frozen? ⟨w.heap.size + 2, j, none⟩ = false from fun j => by rw [World.frozen?_setCell]; exact hf3 j)
        have HE3 := Lib.hid (HE.out.turn (HTW.out.trans HT3.out (fun i hi h => absurd hi (by omega))))
        clear ht hx3 hf3 q3
        go_upto_region 14 with fail
        obtain ⟨X, hX⟩ : ∃ X, X = parseEv l := ⟨_, rfl⟩
        have hXe : X = ⟨kindTo p0 9, numV p1, numV p2, numV p3⟩ := hX.trans HPE2.out
        have hxx : Holds4 (wc3.setCell ⟨w.heap.size + 2, 3, none⟩ (.int .i64 (numV p3))) (w.heap.size + 2) X := by rw [hXe]; exact HX3.out
        have htd := HT3.out
        have hed := HE3.out
        rw [← hX] at HLAW
        have hxi : i64Ev X := by rw [hX]; exact parse_i64 l
        have HXI := Lib.hid hxi
        generalize hwd : wc3.setCell ⟨w.heap.size + 2, 3, none⟩ (.int .i64 (numV p3)) = wd at hxx htd hed ⊢
        have HXX := Lib.hid hxx
        have HTD := Lib.hid htd
        have HED := Lib.hid hed
        have d0 := hxx.c0
        have d1 := hxx.c1
        have d2 := hxx.c2
        have d3 := hxx.c3
        clear hX hXe hxx htd hed hwd HX0 HX1 HX2 HX3 HT0 HT1 HT2 HT3 HF0 HF1 HF2 HF3 HE0 HE1 HE2 HE3 HPE2 c1 c2 c3 f1 f2 f3 HB1 HB2 HB3 HB4
        go_wp2_with fail
        refine (line_calls X HXI.out _ HED.out).mono ?_
        rintro e w5 ⟨rfl, ht⟩
        have hz5 := (HZ3.out.turn HTD.out (fun h => by simp at h)).turn ht (fun h => h)
        have hf5 : ∀ j, w5.frozen? ⟨w.heap.size, j, none⟩ = false := fun j => by
          rw [frozen_turn ht (by have := HTD.out.size; show w.heap.size < _; omega) (fun h => h), frozen_turn HTD.out (by show w.heap.size < _; omega) (fun h => by simp at h)]
          exact HFR3.out j
        have HZ5 := Lib.hid hz5
        have z0 := hz5.c0
        have z1 := hz5.c1
        have z2 := hz5.c2
        have z3 := hz5.c3
        have f0 := hf5 0
        have f1 := hf5 1
        have f2 := hf5 2
        have f3 := hf5 3
        have x5 := HXX.out.turn ht (fun h => h)
        have x0 := x5.c0
        have x1 := x5.c1
        have x2 := x5.c2
        have x3 := x5.c3
        have HT5 := Lib.hid (show Turn nowhere w w5 from (HTW.out.trans HTD.out (fun i hi h => absurd hi (by omega))).trans ht (fun _ _ h => h))
        clear ht hz5 hf5 x5 d0 d1 d2 d3
        have hr := fun w => add_run l [10] (by omega) (by simp) w
        obtain ⟨m, hm⟩ : ∃ m, m = l ++ [10] := ⟨_, rfl⟩
        rw [← hm] at hr HLAW
        have HM := Lib.hid hm
        clear hm
        by_cases heq : lineOf X = m
        case pos =>
          have HEV := Lib.hid (HLAW.out.1 heq)
          have hb : (lineOf X == m) = true := by simpa using heq
          clear heq hxi
          generalize lineOf X = y at hb ⊢
          go_wp2
          refine bodyPost_ret (event_ret (b := w.heap.size) (x := X) rfl ?hld) rfl ⟨X, rfl, HEV.out, HXI.out, ?htn⟩
          case hld => exact (put4 ((put4 ((put4 ((put4 HZ5.out).1 (X).kind)).2.1 (X).task)).2.2.1 (X).a)).2.2.2 (X).n
          case htn => exact (((HT5.out.setCell (p := ⟨w.heap.size, 0, none⟩) (.inr (Nat.le_refl _)) _).setCell (p := ⟨w.heap.size, 1, none⟩) (.inr (Nat.le_refl _)) _).setCell (p := ⟨w.heap.size, 2, none⟩) (.inr (Nat.le_refl _)) _).setCell (p := ⟨w.heap.size, 3, none⟩) (.inr (Nat.le_refl _)) _
        case neg =>
          have HEV := Lib.hid (HLAW.out.2 heq)
          have hb : (lineOf X == m) = false := beq_eq_false_iff_ne.2 heq
          clear heq hxi HXI
          have HXI := Lib.hid zero_i64
          generalize lineOf X = y at hb ⊢
          go_wp2
          refine bodyPost_ret (event_ret (b := w.heap.size) (x := zeroEv) rfl ?hld) rfl ⟨zeroEv, rfl, HEV.out, HXI.out, ?htn⟩
          case hld => exact (put4 ((put4 ((put4 ((put4 HZ5.out).1 (zeroEv).kind)).2.1 (zeroEv).task)).2.2.1 (zeroEv).a)).2.2.2 (zeroEv).n
          case htn => exact (((HT5.out.setCell (p := ⟨w.heap.size, 0, none⟩) (.inr (Nat.le_refl _)) _).setCell (p := ⟨w.heap.size, 1, none⟩) (.inr (Nat.le_refl _)) _).setCell (p := ⟨w.heap.size, 2, none⟩) (.inr (Nat.le_refl _)) _).setCell (p := ⟨w.heap.size, 3, none⟩) (.inr (Nat.le_refl _)) _

end Go.Proofs.YtbeapjndgkjpeaaDoor
