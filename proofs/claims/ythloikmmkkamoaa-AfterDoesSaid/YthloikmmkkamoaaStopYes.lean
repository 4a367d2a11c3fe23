/- The contract of Stop at one that waits. -/
import Derived.Test.YthloikmmkkamoaaStop
import Derived.Test.YthloikmmkkamoaaMapOp
import Derived.Deep.RegionHeld3
import Derived.Deep.DrawnRows
namespace Go.Proofs.Ythloikmmkkamoaa
open Go.RowKit Go.Maps

theorem stop_mid {w : World} {F : Nat → Prop} {lb mb g c n k : Nat} {V : Int → Option Value} {rows : List Reg} {wt : Int → List Int} {most : Int} (h : AL w F lb mb (.slice (some ⟨g, 0, none⟩) rows.length c) V rows wt most n) (hk : k < rows.length) (q : Nat) :
    AL (((w.alloc (.cells #[.int .i64 k] 3)).drewN q).setCell ⟨g, k * 3 + 2, none⟩ (.int .i64 3)) F lb mb (.slice (some ⟨g, 0, none⟩) rows.length c) V (setSt rows k 3) wt most n ∧
    Turn F w (((w.alloc (.cells #[.int .i64 k] 3)).drewN q).setCell ⟨g, k * 3 + 2, none⟩ (.int .i64 3)) ∧
    (((w.alloc (.cells #[.int .i64 k] 3)).drewN q).setCell ⟨g, k * 3 + 2, none⟩ (.int .i64 3)).cell? ⟨w.heap.size, 0, none⟩ = some (.int .i64 k) ∧ (∀ j, F j → j < w.heap.size) ∧
    (((w.alloc (.cells #[.int .i64 k] 3)).drewN q).setCell ⟨g, k * 3 + 2, none⟩ (.int .i64 3)).ownsRow 0 54 3 (.slice (some ⟨g, 0, none⟩) rows.length c) rows.length (regs (setSt rows k 3)) := by
  have t1 : Turn nowhere w ((w.alloc (.cells #[.int .i64 k] 3)).drewN q) := ((Turn.refl _ _).alloc _).drewN _
  have h1 := h.turn t1 (fun _ _ h => h)
  obtain ⟨o2, g2⟩ := h1.rws.stored (k * 3 + 2) (.int .i64 3)
  rw [regs_set rows k 3 hk] at o2
  obtain ⟨h2, t2⟩ := h1.rowset (rows' := setSt rows k 3) (Turn.of_grown g2 (fun j hj _ => by simpa [Value.ownBlock] using hj)) (by rw [setSt_len]; exact o2)
    (fun j hj => by rw [setSt_len] at hj; rw [setSt_on _ _ _ _ hj]; exact h.wfo j hj)
  have hg : g < w.heap.size := own_lt h.rws rfl
  refine ⟨h2, (t1.mono (fun _ _ h => h.elim)).trans t2 (fun _ _ h => h), ?_, h.fb, o2⟩
  rw [World.cell?_setCell_other _ _ _ _ (by intro e; injection e with e; omega)]
  simp

theorem AL.wider {w : World} {F G : Nat → Prop} {lb mb n : Nat} {rv : Value} {V : Int → Option Value} {rows : List Reg} {wt : Int → List Int} {most : Int} (h : AL w F lb mb rv V rows wt most n) (h1 : ∀ k, F k → G k) (h2 : ∀ k, G k → k < w.heap.size) : AL w G lb mb rv V rows wt most n :=
  ⟨h.blk, h.rws, h.mp, h.each, h.apart, h.wfo, h2, h1 _ h.fl, h1 _ h.fm, fun g hg => h1 _ (h.fr g hg), fun i hi g hg => h1 _ (h.fe i hi g hg)⟩

theorem more_wider {F : Nat → Prop} {a b c : World} (h1 : a.heap.size ≤ b.heap.size) (k : Nat) (h : more F b c k) : more F a c k := by
  rcases h with h | h
  · exact .inl h
  · exact .inr (by omega)

/-- Of the numbers that wait, without k. -/
theorem stop_waits {rows : List Reg} {k : Nat} {on : Int} (hk : k < rows.length) (hon : on = (rows.getD k default).on) : (fun i => if i = on then but (k : Int) (waiting rows on) else waiting rows i) = waiting (setSt rows k 3) := by
  funext i
  rw [waiting_setSt rows k 3 hk (by decide), ← hon]
  by_cases hi : i = on
  · subst hi; simp
  · simp [hi]

theorem stop_end {w w4 w6 : World} {F : Nat → Prop} {lb mb m k : Nat} {rv : Value} {V : Int → Option Value} {rows : List Reg} {wt : Int → List Int} {most : Int} (h : AL w6 (more F w4 w6) lb mb rv V (setSt rows k 3) wt most m) (hw : wt = waiting (setSt rows k 3)) (hF : ∀ j, F j → j < w.heap.size) (h1 : w.heap.size ≤ w4.heap.size) (h2 : w4.heap.size ≤ w6.heap.size) :
    AList w6 (more F w w6) lb (setSt rows k 3) most m := by
  subst hw
  refine ⟨mb, rv, V, h.wider (more_wider h1) (fun j hj => ?_)⟩
  rcases hj with hj | hj
  · have := hF j hj; omega
  · exact hj.2

theorem Turn.drews {F : Nat → Prop} {a w : World} (h : Turn F a w) (n : Nat) : Turn F a (w.drewN n) := h.drewN n

def StopDone (w : World) (F : Nat → Prop) (lb : Nat) (rows : List Reg) (most : Int) (n k : Nat) (e : Ending) (w' : World) : Prop :=
  e = .returned (.bool true) ∧ AList w' (more F w w') lb (setSt rows k 3) most (n + 1) ∧ Turn F w w'

set_option maxHeartbeats 1600000 in
/-- 'Stop' of one that waits. -/
theorem stop_yes {w : World} {F : Nat → Prop} {lb n : Nat} {rows : List Reg} {most : Int} {k : Nat} (h : AList w F lb rows most n) (hlen : rows.length ≤ 200) (hn : n ≤ 100000) (hkl : k < rows.length) (hst : (rows.getD k default).state = 1) :
    Calls Try.prog 20 #[.pointer (some ⟨lb, 0, none⟩), .int .i64 k] w (StopDone w F lb rows most n k) := by
  obtain ⟨mb, rv, V, h⟩ := h
  obtain ⟨A, c, rfl, _, _⟩ := own_form h.rws
  have c0 := h.c0
  have hlb := h.lt
  have HR := Lib.hid h.rws
  have H := Lib.hid h
  have HST := Lib.hid hst
  clear h
  obtain ⟨len, hk⟩ : ∃ k, k = rows.length := ⟨_, rfl⟩
  obtain ⟨g, cap, hv, _, hg⟩ := HR.out.form (by omega)
  obtain ⟨rfl, rfl⟩ : A = some ⟨g, 0, none⟩ ∧ c = cap := by simpa using hv
  obtain ⟨r0, _, r2⟩ := regs_at rows k hkl
  have c5 := HR.out.cellAt (k * 3 + 2) (by omega)
  have c3 := HR.out.cellAt (k * 3) (by omega)
  have f5 := HR.out.frozenAt (k * 3 + 2)
  rw [r2, hst] at c5
  rw [r0] at c3
  clear hv r0 r2 hst
  have hng : g ≠ lb := fun e => own_ne_obj HR.out H.out.blk (by decide) (by simp [Value.ownBlock, e])
  have HNG := Lib.hid hng
  have HON := Lib.hid (H.out.wfo k hkl)
  obtain ⟨on, hon⟩ : ∃ on, on = (rows.getD k default).on := ⟨_, rfl⟩
  have HO := Lib.hid hon
  have HK := Lib.hid hk
  rw [← hon] at c3 HON
  rw [← hk] at c0 hlen hkl
  clear hk hon hng
  have h0 : ¬ (k : Int) < 0 := by omega
  have hd : decide ((k : Int) < 0) = false := by simp
  have h1 : (0 : Int) ≤ (k : Int) := by omega
  have h2 : (k : Int) < (len : Int) := by omega
  have he : decide ((len : Int) ≤ (k : Int)) = false := by simpa using h2
  go_enter Try.func20, Try.ntmps20
  go_wp2_with fail
  go_quiet (fail)
  go_wp2_with fail
  go_region
  go_wp2_with fail
  obtain ⟨hA, hT, hbx, hF, hO⟩ := stop_mid H.out (by rw [← HK.out]; exact hkl) (nq + 1)
  have HA := Lib.hid hA
  have HT := Lib.hid hT
  have HF := Lib.hid hF
  have HB := Lib.hid hbx
  have HW := Lib.hid hO
  clear c0 c5 c3 f5 hA hT hbx hF hlb he hd hO
  generalize hw3 : ((w.alloc (Obj.cells #[Value.int IntKind.i64 ↑k] 3)).drewN (nq + 1)).setCell { block := g, off := k * 3 + 2 } (Value.int IntKind.i64 3) = w3 at HA HT HB HW ⊢
  clear hw3
  have d0 := HA.out.c0
  rw [← HK.out] at d0
  have d3 := HW.out.cellAt (k * 3) (by rw [← HK.out]; omega)
  rw [(regs_at (setSt rows k 3) k (by rw [setSt_len, ← HK.out]; exact hkl)).1, setSt_on _ _ _ _ (by rw [← HK.out]; exact hkl), ← HO.out] at d3
  have db := HB.out
  go_quiet (fail)
  go_wp2_with fail
  have tq : Turn nowhere w3 (w3.drewN nq) := (Turn.refl _ _).drewN nq
  have HA4 := Lib.hid (HA.out.turn tq (fun _ _ h => h))
  have HT4 := Lib.hid (HT.out.drewN nq)
  have HB4 := Lib.hid (tq.cell HB.out (fun h => h))
  clear d0 d3 db HA HT HB HW tq
  generalize w3.drewN nq = w4 at HA4 HT4 HB4 ⊢
  obtain ⟨es, cl, hmo⟩ := HA4.out.mp.obj
  have hk' : k < rows.length := by rw [← HK.out]; exact hkl
  have hmem := mem_waiting hk' HST.out
  rw [← HO.out] at hmem
  have hwl : (waiting rows on).length ≤ 200 := Nat.le_trans (waiting_len rows on) (by rw [← HK.out]; exact hlen)
  have HKP := Lib.hid (show ∀ w', Turn (fun q => (at_ V on).ownBlock = some q) w4 w' → w'.cell? ⟨lb, 1, none⟩ = some (.map (some mb)) ∧ (Instr.lookup 58 (.map (some mb)) (.int .i64 on) false).run Try.prog w' = .ok (at_ V on) w' from
    fun w' ht => ⟨ht.cell HA4.out.c1 (own_ne_obj (HA4.out.each on HON.out) HA4.out.blk (by decide)), (HA4.out.mp.turn ht (own_ne_map (HA4.out.each on HON.out) hmo)).look keyed3 Try.underlying58 (zero32 w') (key3 HON.out) HON.out⟩)
  have HSR := Lib.hid (show ∀ w' v, Turn (fun q => (at_ V on).ownBlock = some q) w4 w' → ∃ w6, (Instr.mapUpdate 58 (.map (some mb)) (.int .i64 on) v).run Try.prog w' = .ok () w6 ∧ MapIs Try.prog 3 w6 mb (n + 1) (fun j => if j = on then some v else V j) ∧ w'.grownBy w6 (some mb) from
    fun w' v ht => (HA4.out.mp.turn ht (own_ne_map (HA4.out.each on HON.out) hmo)).store keyed3 Try.underlying58 (by unfold maxLen; omega) (key3 HON.out) v)
  have HV := Lib.hid (HA4.out.each on HON.out)
  obtain ⟨ys, hys⟩ : ∃ ys, ys = waiting rows on := ⟨_, rfl⟩
  have HY := Lib.hid hys
  rw [← hys] at HV hwl hmem
  obtain ⟨p, hp, hpx, hpf⟩ := first_of hmem
  have HPX := Lib.hid hpx
  have HPF := Lib.hid hpf
  obtain ⟨g2, cap2, hu, _, hg2⟩ := HV.out.form (by omega)
  have hcm : ys.length ≤ cap2 := by
    obtain ⟨_, _, h1, h2, _⟩ := own_form HV.out
    rw [hu] at h1
    injection h1 with _ _ h3
    omega
  have HU := Lib.hid hu
  have HG2 := Lib.hid (show w.heap.size ≠ g2 from fun e => by
    have := HF.out g2 (HA4.out.fe on HON.out g2 (by rw [hu]; rfl))
    omega)
  have HM := Lib.hid HA4.out.ne_lm
  rw [hu] at HKP HV HSR
  clear hu hys hmem hpx hpf hmo hk'
  have e1 := (HKP.out w4 (Turn.refl _ _)).1
  have l1 := (HKP.out w4.drew (Turn.refl _ _).drew).2
  go_region_held3 (fun w' => w'.cell? ⟨lb, 1, none⟩ = some (.map (some mb)))
    (first | exact (HKP.out _ (Turn.refl _ _)).1 | exact (HKP.out _ (Turn.refl _ _).drew).1 | exact (HKP.out _ HT5.out).1 | exact (HKP.out _ HT5.out.drew).1 | exact HG6.out.cell (HKP.out _ HT5.out).1 (by simpa using HM.out))
    ((go_at_call 25; refine (delete_calls 0 g2 ys.length cap2 w.heap.size k ys w4.drew HV.out.drew HB4.out HG2.out (by omega) p hp HPX.out HPF.out hcm).mono ?_; rintro e w5 ⟨rfl, hdo, hdg⟩; have HD := Lib.hid hdo; have HT5 := Lib.hid (show Turn (fun q => (Value.slice (some ⟨g2, 0, none⟩) ys.length cap2).ownBlock = some q) w4 w5 from (Turn.refl _ _).drew.grown hdg (fun q h _ => by simpa [Value.ownBlock] using h)); obtain ⟨w6, hrun6, hm6, hg6⟩ := HSR.out w5 (.slice (some ⟨g2, 0, none⟩) (but k ys).length cap2) HT5.out; have HM6 := Lib.hid hm6; have HG6 := Lib.hid hg6; clear hm6 hg6 hdo hdg))
  all_goals
    have HP := Lib.hid (HA4.out.put (V' := fun j => if j = on then some (.slice (some ⟨g2, 0, none⟩) (but k ys).length cap2) else V j) (xs' := but k ys) HON.out (by rw [HU.out]; exact HT5.out) HD.out
      (by
        intro q hq
        rw [HU.out]
        exact .inl hq) (fun i hi => by simp [hi]) (by simp [at_]) HM6.out (Turn.of_grown HG6.out (fun g h _ => by injection h)))
    have d1 := HP.out.1.c1
    have l6 := HP.out.1.mp.look keyed3 Try.underlying58 (zero32 w6) (key3 HON.out) HON.out
    simp only [if_true, Option.getD_some] at l6
    have HT6 := Lib.hid (HT4.out.trans HP.out.2 (fun _ _ h => h))
    clear hrun6 e1 l1
    obtain ⟨z, hz⟩ : ∃ z, z = (but k ys).length := ⟨_, rfl⟩
    have HZ := Lib.hid hz
    rw [← hz] at l6
    have hzl : z ≤ 200 := by
      have : (but k ys).length ≤ ys.length := List.length_filter_le _ _
      omega
    by_cases hz0 : z = 0
  all_goals
    first
      | subst hz0
      | have hzb : ((z : Int) == 0) = false := beq_eq_false_iff_ne.2 (by omega)
    clear hz
  all_goals
    go_wp2_with (at_delete; refine wpList_delete_is _ rfl (.tmp 67) (.tmp 68) 58 3 rfl 32 keyed3 Try.underlying58 mb (n + 1) _ rfl HP.out.1.mp on rfl (key3 HON.out) ?_; intro w7 hm7 hg7; have HM7 := Lib.hid hm7; have HG7 := Lib.hid hg7; clear hm7 hg7)
    go_ret
    have hk' : k < rows.length := by rw [← HK.out]; exact hkl
    have hw := stop_waits hk' HO.out
    rw [← HY.out] at hw
  · obtain ⟨hQ, hT⟩ := HP.out.1.put (w2 := w7) (V' := fun j => if j = on then none else (if j = on then some (.slice (some ⟨g2, 0, none⟩) (but k ys).length cap2) else V j)) (xs' := []) HON.out (Turn.refl _ w6) (World.ownsRow_nil _ _ _ _) (by intro q hq; simp [Value.ownBlock] at hq) (fun i hi => by simp [hi]) (by simp [at_]) HM7.out (Turn.of_grown HG7.out (fun g h _ => by injection h))
    rw [more_more' HP.out.2.size hT.size] at hQ
    refine ⟨rfl, stop_end hQ ?_ HF.out HT4.out.size (Nat.le_trans HP.out.2.size hT.size), HT6.out.trans hT ?_⟩
    · rw [← hw]
      have e : but (k : Int) ys = [] := List.eq_nil_of_length_eq_zero HZ.out.symm
      funext i
      by_cases hi : i = on
      · simp [hi, e]
      · simp [hi]
    · intro i hi hg
      rcases hg with hg | hg
      · exact hg
      · have := HT4.out.size; omega
  · exact ⟨rfl, stop_end HP.out.1 hw HF.out HT4.out.size HP.out.2.size, HT6.out⟩
  · obtain ⟨hQ, hT⟩ := HP.out.1.put (w2 := w7) (V' := fun j => if j = on then none else (if j = on then some (.slice (some ⟨g2, 0, none⟩) (but k ys).length cap2) else V j)) (xs' := []) HON.out (Turn.refl _ w6) (World.ownsRow_nil _ _ _ _) (by intro q hq; simp [Value.ownBlock] at hq) (fun i hi => by simp [hi]) (by simp [at_]) HM7.out (Turn.of_grown HG7.out (fun g h _ => by injection h))
    rw [more_more' HP.out.2.size hT.size] at hQ
    refine ⟨rfl, stop_end hQ ?_ HF.out HT4.out.size (Nat.le_trans HP.out.2.size hT.size), HT6.out.trans hT ?_⟩
    · rw [← hw]
      have e : but (k : Int) ys = [] := List.eq_nil_of_length_eq_zero HZ.out.symm
      funext i
      by_cases hi : i = on
      · simp [hi, e]
      · simp [hi]
    · intro i hi hg
      rcases hg with hg | hg
      · exact hg
      · have := HT4.out.size; omega
  · exact ⟨rfl, stop_end HP.out.1 hw HF.out HT4.out.size HP.out.2.size, HT6.out⟩

end Go.Proofs.Ythloikmmkkamoaa
