/- The contract of Add: full, or one registration more. -/
import Derived.Test.YthloikmmkkamoaaList
import Derived.Deep.RegionHeld3
import Derived.Deep.RegionLaw
import Derived.Deep.DrawnRows
namespace Go.Proofs.Ythloikmmkkamoaa
open Go.RowKit Go.Maps

set_option maxHeartbeats 400000 in
/-- 'Add' where there is no room. -/
theorem add_full {w : World} {F : Nat → Prop} {lb n : Nat} {rows : List Reg} {most on thing : Int} (h : AList w F lb rows most n) (hm : (rows.length : Int) = most) :
    Calls Try.prog 22 #[.pointer (some ⟨lb, 0, none⟩), .int .i64 on, .int .i64 thing] w fun e w' => e = .returned (.tuple #[.int .i64 (-1), .int .i64 2]) ∧ w = w' := by
  obtain ⟨mb, rv, V, h⟩ := h
  obtain ⟨A, c, rfl, _, _⟩ := own_form h.rws
  have c0 := h.c0
  have c2 := h.c2
  have H := Lib.hid h
  clear h
  rw [← hm] at c2
  clear hm
  generalize rows.length = k at c0 c2
  go_enter Try.func22, Try.ntmps22
  go_wp2
  go_ret2
  exact ⟨rfl, rfl⟩

theorem regs_snoc (l : List Reg) (r : Reg) : regs (l ++ [r]) = regs l ++ r.cells := by simp [regs]

theorem waiting_snoc (rows : List Reg) (r : Reg) (i : Int) : waiting (rows ++ [r]) i = waiting rows i ++ (if r.on == i && r.state == 1 then [(rows.length : Int)] else []) := by
  unfold waiting
  have e : (List.range rows.length).filter (fun k => ((rows ++ [r]).getD k default).on == i && ((rows ++ [r]).getD k default).state == 1) = (List.range rows.length).filter (fun k => (rows.getD k default).on == i && (rows.getD k default).state == 1) := by
    apply List.filter_congr
    intro k hk
    have hk : k < rows.length := by simpa using hk
    simp [List.getD, List.getElem?_append_left hk]
  rw [List.length_append, List.length_singleton, List.range_succ, List.filter_append, e, List.map_append]
  congr 1
  simp only [List.filter_cons, List.filter_nil]
  have e2 : (rows ++ [r]).getD rows.length default = r := by simp [List.getD]
  rw [e2]
  split <;> simp

theorem waiting_len (rows : List Reg) (i : Int) : (waiting rows i).length ≤ rows.length := by
  unfold waiting
  rw [List.length_map]
  exact Nat.le_trans (List.length_filter_le _ _) (by simp)

def AddDone (w : World) (F : Nat → Prop) (lb : Nat) (rows : List Reg) (most on thing : Int) (n : Nat) (e : Ending) (w' : World) : Prop :=
  e = .returned (.tuple #[.int .i64 rows.length, .int .i64 0]) ∧ AList w' (more F w w') lb (rows ++ [⟨on, thing, 1⟩]) most (n + 1) ∧ Turn F w w'

attribute [local go_sem ↓] Go.wp_at_zero Go.wp_at_succ

set_option maxHeartbeats 800000 in
theorem add_room {w : World} {F : Nat → Prop} {lb n : Nat} {rows : List Reg} {most on thing : Int} (h : AList w F lb rows most n) (hm : (rows.length : Int) ≠ most) (hlen : rows.length ≤ 200) (hon : wfi on) (hn : n ≤ 100000) :
    Calls Try.prog 22 #[.pointer (some ⟨lb, 0, none⟩), .int .i64 on, .int .i64 thing] w (AddDone w F lb rows most on thing n) := by
  obtain ⟨i0, hi, hz0, hz1, hz2⟩ := info_parts Try.info54
  obtain ⟨j0, hj, hy0, hy1, hy2⟩ := info_parts Try.info3
  obtain ⟨mb, rv, V, h⟩ := h
  obtain ⟨A, c, rfl, _, _⟩ := own_form h.rws
  have c0 := h.c0
  have c2 := h.c2
  have hlb := h.lt
  have H := Lib.hid h
  have hb : ((rows.length : Int) == most) = false := beq_eq_false_iff_ne.2 hm
  obtain ⟨k, hk⟩ : ∃ k, k = rows.length := ⟨_, rfl⟩
  have HK := Lib.hid hk
  have HON := Lib.hid hon
  rw [← hk] at c0 hb hlen
  clear h hm hon hk
  have HR := Lib.hid H.out.rws
  rw [← HK.out] at HR
  go_enter Try.func22, Try.ntmps22
  go_wp2_with (at_builtin; refine wpList_append_lies _ rfl (.tmp 24) (.tmp 28) 45 rfl 0 54 i0 (.agg #[.int .i64 0, .int .i64 0, .int .i64 0]) 3 24 Try.underlying45 hi hz0 hz1 hz2 rfl (by decide) (.slice A k c) k (regs rows) rfl ?o1 ⟨w.heap.size, 0, none⟩ 1 1 [.int .i64 on, .int .i64 thing, .int .i64 1] rfl rfl ?o2 ?o3 (by decide) ?o4 ?o5 (Nat.zero_le _) (w.heap.size + 1) (by simp) ?_)
  case o1 => exact HR.out.alloc _
  case o2 => exact World.news_of_block (heap_alloc_new w _)
  case o3 => intro u hu; simp at hu; rcases hu with rfl | rfl | rfl <;> rfl
  case o4 => unfold maxLen; omega
  case o5 => omega
  intro g cap w1 hown hgr hat hlt
  have t1 : Turn (fun q => (Value.slice A k c).ownBlock = some q) w w1 := ((Turn.refl _ _).alloc _).grown hgr (fun g h _ => h)
  have d0 := t1.cell H.out.c0 (own_ne_obj HR.out H.out.blk (by decide))
  rw [← HK.out] at d0
  have f0 : w1.frozen? ⟨lb, 0, none⟩ = false := by
    have := t1.obj H.out.blk (own_ne_obj HR.out H.out.blk (by decide))
    simp [World.frozen?, this]
  have HA := Lib.hid (H.out.rowput (v' := .slice (some ⟨g, 0, none⟩) (k + 1) cap) (rows' := rows ++ [⟨on, thing, 1⟩]) (by rw [← HK.out]; exact t1)
    (by rw [regs_snoc, List.length_append, List.length_singleton, ← HK.out]; exact hown)
    (by
      intro q hq
      have : g = q := by simpa [Value.ownBlock] using hq
      subst this
      rw [← HK.out]
      rcases hat with h | h
      · exact .inl h
      · exact .inr (by omega))
    (by
      intro j hj
      by_cases hjk : j < rows.length
      · rw [List.getD, List.getElem?_append_left hjk]; exact H.out.wfo j hjk
      · have : j = rows.length := by simp at hj; omega
        subst this
        simpa using HON.out))
  clear hown hgr hat hlt t1
  go_wp2
  generalize w1.setCell ⟨lb, 0, none⟩ (.slice (some ⟨g, 0, none⟩) (k + 1) cap) = w2 at HA ⊢
  obtain ⟨es, cl, hmo⟩ := HA.out.1.mp.obj
  have HKP := Lib.hid (show ∀ w', Turn (fun q => (at_ V on).ownBlock = some q) w2 w' → w'.cell? ⟨lb, 1, none⟩ = some (.map (some mb)) ∧ (Instr.lookup 58 (.map (some mb)) (.int .i64 on) false).run Try.prog w' = .ok (at_ V on) w' from
    fun w' ht => ⟨ht.cell HA.out.1.c1 (own_ne_obj (HA.out.1.each on HON.out) HA.out.1.blk (by decide)), (HA.out.1.mp.turn ht (own_ne_map (HA.out.1.each on HON.out) hmo)).look keyed3 Try.underlying58 (zero32 w') (key3 HON.out) HON.out⟩)
  have HST := Lib.hid (show ∀ w' v, Turn (fun q => (at_ V on).ownBlock = some q) w2 w' → ∃ w4, (Instr.mapUpdate 58 (.map (some mb)) (.int .i64 on) v).run Try.prog w' = .ok () w4 ∧ MapIs Try.prog 3 w4 mb (n + 1) (fun j => if j = on then some v else V j) ∧ w'.grownBy w4 (some mb) from
    fun w' v ht => (HA.out.1.mp.turn ht (own_ne_map (HA.out.1.each on HON.out) hmo)).store keyed3 Try.underlying58 (by unfold maxLen; omega) (key3 HON.out) v)
  clear hmo
  have HV := Lib.hid (HA.out.1.each on HON.out)
  have hwl : (waiting rows on).length ≤ 200 := Nat.le_trans (waiting_len rows on) (by rw [← HK.out]; exact hlen)
  obtain ⟨u, hu⟩ : ∃ u, u = at_ V on := ⟨_, rfl⟩
  have HU := Lib.hid hu
  rw [← hu] at HKP HV HST
  clear hu
  obtain ⟨ys, hys⟩ : ∃ ys, ys = waiting rows on := ⟨_, rfl⟩
  have HY := Lib.hid hys
  rw [← hys] at HV hwl
  clear hys
  have HM := Lib.hid HA.out.1.ne_lm
  have e1 := (HKP.out w2 (Turn.refl _ _)).1
  have l1 := (HKP.out w2.drew (Turn.refl _ _).drew).2
  have l2 := (HKP.out (w2.alloc (.cells #[.int .i64 k] 3)).drew ((Turn.refl _ _).alloc _).drew).2
  clear d0 f0 c0 c2 hlb
  go_region_held3 (fun w' => w'.cell? ⟨lb, 1, none⟩ = some (.map (some mb)))
    (first | exact (HKP.out _ (Turn.refl _ _)).1 | exact (HKP.out _ (Turn.refl _ _).drew).1 | exact (HKP.out _ ((Turn.refl _ _).alloc _).drew).1 | exact (HKP.out _ ((Turn.refl _ _).alloc _)).1 | exact (HKP.out _ HT3.out).1 | exact (HKP.out _ HT3.out.drew).1 | exact HG4.out.cell (HKP.out _ HT3.out).1 (by simpa using HM.out))
    ((refine step_append_lies _ (by rfl) _ _ _ (by rfl) 0 3 j0 _ 1 8 Try.underlying32 hj hy0 hy1 hy2 rfl (by omega) u ys.length (ints ys) (by rfl) ((HV.out.alloc _).drew)
        ⟨w2.heap.size, 0, none⟩ 1 1 [.int .i64 k] (by rfl) (by rfl) (World.news_of_block (cs := #[.int .i64 k]) (t := 3) (fr := (0, 0)) (heap_alloc_new w2 _)) (by simp [Value.oneCell'])
        (by omega) (by unfold maxLen; omega) (by omega) (by omega) (w2.heap.size + 1) (by simp) ?_; intro g2 cap2 w3 hown2 hgr2 hat2 hlt2; have HT3 := Lib.hid (((Turn.refl (fun q => u.ownBlock = some q) w2).alloc (.cells #[.int .i64 k] 3)).drew.grown hgr2 (fun g h _ => h)); obtain ⟨w4, hrun4, hm4, hg4⟩ := HST.out w3 (.slice (some ⟨g2, 0, none⟩) (ys.length + 1) cap2) HT3.out; have HM4 := Lib.hid hm4; have HG4 := Lib.hid hg4; clear hm4 hg4))
  all_goals
    have HF := Lib.hid (HA.out.1.put (V' := fun j => if j = on then some (.slice (some ⟨g2, 0, none⟩) (ys.length + 1) cap2) else V j) (xs' := ys ++ [(k : Int)]) HON.out (by rw [← HU.out]; exact HT3.out)
      (by simpa using hown2) (by
        intro q hq
        have : g2 = q := by simpa [Value.ownBlock] using hq
        subst this
        rw [← HU.out]
        rcases hat2 with h | h
        · exact .inl h
        · exact .inr (by omega)) (fun i hi => by simp [hi]) (by simp [at_]) HM4.out (Turn.of_grown HG4.out (fun g h _ => by injection h)))
    clear hrun4 hown2 hgr2 hat2 hlt2 e1 l1 l2
    go_wp2
    go_ret2
  all_goals
    have h1 := HF.out.1
    rw [more_more' HA.out.2.size HF.out.2.size] at h1
    have e : (fun i => if i = on then ys ++ [(k : Int)] else waiting rows i) = waiting (rows ++ [⟨on, thing, 1⟩]) := by
      funext i
      rw [waiting_snoc]
      by_cases hi : i = on
      · subst hi
        simp [HY.out, HK.out]
      · have : (on == i) = false := beq_eq_false_iff_ne.2 (Ne.symm hi)
        simp [hi, this]
    rw [e] at h1
    exact ⟨by rw [HK.out]; rfl, ⟨mb, _, _, h1⟩, HA.out.2.more HF.out.2⟩

end Go.Proofs.Ythloikmmkkamoaa
