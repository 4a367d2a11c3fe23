/- The contract of TraceBack: true. -/
import Derived.Test.YtbeapjndgkjpeaaDoorAwake
namespace Go.Proofs.YtbeapjndgkjpeaaDoor
open Go.RowKit Go.Maps

theorem TextR.form {l : List Ev} {w w' : World} {e : Ending} (h : TextR l w e w') : ∃ T E, e = .returned (.tuple #[str T, .int .i64 E]) ∧
    ((l.all okEv = true ∧ E = 0 ∧ T = l.flatMap lineOf) ∨ (l.all okEv = false ∧ E = 1 ∧ T = [])) ∧ Turn nowhere w w' := by
  obtain ⟨h, ht⟩ := h
  rcases h with ⟨h1, h2⟩ | ⟨h1, h2⟩
  · exact ⟨_, _, h2, .inl ⟨h1, rfl, rfl⟩, ht⟩
  · exact ⟨_, _, h2, .inr ⟨h1, rfl, rfl⟩, ht⟩

theorem three_texts {l m : List Ev} {E1 E2 E3 : Int} {T1 T2 T3 : List UInt8}
    (h1 : (l.all okEv = true ∧ E1 = 0 ∧ T1 = l.flatMap lineOf) ∨ (l.all okEv = false ∧ E1 = 1 ∧ T1 = []))
    (h2 : (m.all okEv = true ∧ E2 = 0 ∧ T2 = m.flatMap lineOf) ∨ (m.all okEv = false ∧ E2 = 1 ∧ T2 = []))
    (h3 : ((l ++ m).all okEv = true ∧ E3 = 0 ∧ T3 = (l ++ m).flatMap lineOf) ∨ ((l ++ m).all okEv = false ∧ E3 = 1 ∧ T3 = [])) :
    (E1 = 0 ∧ E2 = 0 ∧ E3 = 0 ∧ T3 = T1 ++ T2 ∧ T1 = l.flatMap lineOf ∧ T2 = m.flatMap lineOf ∧ l.all okEv = true) ∨ (E1 = 1 ∧ E3 = 1 ∧ T3 = []) ∨ (E1 = 0 ∧ E2 = 1 ∧ E3 = 1 ∧ T3 = []) := by
  rw [List.all_append] at h3
  rcases h1 with ⟨a1, rfl, rfl⟩ | ⟨a1, rfl, rfl⟩ <;> rcases h2 with ⟨a2, rfl, rfl⟩ | ⟨a2, rfl, rfl⟩ <;> rw [a1, a2] at h3 <;> simp at h3 <;> obtain ⟨rfl, rfl⟩ := h3
  · exact .inl ⟨rfl, rfl, rfl, by simp, rfl, rfl, a1⟩
  · exact .inr (.inr ⟨rfl, rfl, rfl, rfl⟩)
  · exact .inr (.inl ⟨rfl, rfl, rfl⟩)
  · exact .inr (.inl ⟨rfl, rfl, rfl⟩)

attribute [local go_sem ↓] Go.wp_at_zero Go.wp_at_succ

set_option maxRecDepth 20000 in
set_option maxHeartbeats 6400000 in
theorem back_calls (A B : Option Addr) (n c m d : Nat) (l r : List Ev) (L : List UInt8) (w : World) (hx : Reads w 4 A n (evs l)) (hy : Reads w 4 B m (evs r)) (hi : ∀ x ∈ l, i64Ev x) (hj : ∀ x ∈ r, i64Ev x) (he : Env w) :
    Calls Tryd.prog 4 #[.slice A n c, .slice B m d, str L] w (OkTrue w) := by
  obtain ⟨i0, hti, hz0, hz1, hz2⟩ := info_parts Tryd.info23
  have hl : l.length = n := by have := hx.1; rw [evs_len] at this; omega
  have hr : r.length = m := by have := hy.1; rw [evs_len] at this; omega
  have hsz : (bs L).size = L.length := by simp [ByteArray.size]
  have HSZ := Lib.hid hsz
  have HX := Lib.hid hx
  have HY := Lib.hid hy
  have HL := Lib.hid hl
  have HRL := Lib.hid hr
  have HI := Lib.hid hi
  have HJ := Lib.hid hj
  have HE := Lib.hid he
  clear hx hy hl hr hi hj he hsz
  go_enter Tryd.func4, Tryd.ntmps4
  go_wp2_with fail
  refine (awake_calls _ HE.out).mono ?_
  rintro e w1 ⟨rfl, ht⟩
  have HT1 := Lib.hid ht
  clear ht
  by_cases h1 : n ≤ 200
  case neg =>
    have hb : (200 : Int) < (n : Int) := by omega
    go_wp2
    go_ret
    exact ⟨rfl, HT1.out⟩
  have hb1 : ¬ (200 : Int) < (n : Int) := by omega
  by_cases h2 : m ≤ 200
  case neg =>
    have hb : (200 : Int) < (m : Int) := by omega
    go_wp2
    go_ret
    exact ⟨rfl, HT1.out⟩
  have hb2 : ¬ (200 : Int) < (m : Int) := by omega
  by_cases h3 : L.length ≤ 2000
  case neg =>
    have hb : (2000 : Int) < (L.length : Int) := by omega
    go_wp2
    go_ret
    exact ⟨rfl, HT1.out⟩
  have hb3 : ¬ (2000 : Int) < (L.length : Int) := by omega
  go_wp2_with fail
  refine (read_calls L (by omega) _ (HE.out.turn HT1.out)).mono ?_
  clear hb1 hb2 hb3
  rintro e w2 ⟨hq, ht⟩
  have HT2 := Lib.hid (HT1.out.trans ht (fun _ _ h => h))
  clear ht HT1
  rcases hq with ⟨x, v, hrd, rfl, ho, hxl⟩ | ⟨k, hrd, rfl⟩
  case inl =>
    obtain ⟨hbk, hok⟩ := read_back hrd
    have hok := hok (by simp)
    simp only [List.flatMap_nil, List.nil_append] at hbk
    obtain ⟨C, c2, rfl, _, _⟩ := own_form ho
    have HO := Lib.hid (Reads.of_own ho)
    have HOK := Lib.hid hok
    have HBK := Lib.hid hbk
    clear ho hok hbk hrd
    go_wp2_with fail
    refine (text_calls C _ c2 x _ HO.out (fun y hy => (HOK.out y hy).2) (by omega) (HE.out.turn HT2.out)).mono ?_
    rintro e w3 ⟨hq, ht⟩
    have HT3 := Lib.hid (HT2.out.trans ht (fun _ _ h => h))
    clear ht HT2 HO
    rcases hq with ⟨_, rfl⟩ | ⟨h, _⟩
    case inr =>
      rw [List.all_eq_false] at h
      obtain ⟨y, hy, h⟩ := h
      exact absurd (HOK.out y hy).1 h
    rw [← HBK.out]
    clear HOK HBK
    go_wp2_with fail
    refine (text_calls A n c l _ (HX.out.kept HT3.out) HI.out (by omega) (HE.out.turn HT3.out)).mono ?_
    intro e w4 hq
    obtain ⟨T1, E1, rfl, D1, ht⟩ := hq.form
    have HD1 := Lib.hid D1
    have HT4 := Lib.hid (HT3.out.trans ht (fun _ _ h => h))
    clear ht HT3 hq D1
    go_wp2_with fail
    refine (text_calls B m d r _ (HY.out.kept HT4.out) HJ.out (by omega) (HE.out.turn HT4.out)).mono ?_
    intro e w5 hq
    obtain ⟨T2, E2, rfl, D2, ht⟩ := hq.form
    have HD2 := Lib.hid D2
    have HT5 := Lib.hid (HT4.out.trans ht (fun _ _ h => h))
    clear ht HT4 hq D2
    have hsz5 := HT5.out.size
    have HX5 := Lib.hid (HX.out.kept HT5.out)
    go_wp2_with (at_builtin; refine wpList_append_reads _ rfl (.tmp 71) (.tmp 72) 24 rfl w.heap.size 23 i0 (.agg #[.int .i64 0, .int .i64 0, .int .i64 0, .int .i64 0]) 4 32 Tryd.underlying24 hti hz0 hz1 hz2 rfl (by decide) _ 0 [] rfl ?o1 A n c (evs l) rfl ?o2 (evs_one l) ?o3 ?o4 ?o5 ?_)
    case o1 => exact World.ownsRow_lit (base := w.heap.size) (size := 4) (e := 23) w5 #[] 0 hsz5 (by simp [maxLen]) rfl
    case o2 => exact HX5.out.kept ((Turn.refl _ _).alloc _)
    case o3 => unfold maxLen; omega
    case o4 => omega
    case o5 => simp; omega
    intro v6 w6 hown hg _
    have HO6 := Lib.hid (show w6.ownsRow w.heap.size 23 4 v6 n (evs l) from by simpa using hown)
    have HT6 := Lib.hid (show Turn nowhere w w6 from (HT5.out.alloc _).grown hg (fun q hq hlt => by
      have : w5.heap.size = q := by simpa [Value.ownBlock] using hq
      omega))
    clear hown hg HT5 HX5 hsz5
    have HY6 := Lib.hid (HY.out.kept HT6.out)
    have hsz6 := HT6.out.size
    go_wp2_with (at_builtin; refine wpList_append_reads _ rfl (.tmp 73) (.tmp 74) 24 rfl w.heap.size 23 i0 (.agg #[.int .i64 0, .int .i64 0, .int .i64 0, .int .i64 0]) 4 32 Tryd.underlying24 hti hz0 hz1 hz2 rfl (by decide) v6 n (evs l) rfl ?p1 B m d (evs r) rfl ?p2 (evs_one r) ?p3 ?p4 ?p5 ?_)
    case p1 => exact HO6.out
    case p2 => exact HY6.out
    case p3 => unfold maxLen; omega
    case p4 => omega
    case p5 => exact hsz6
    intro v7 w7 hown hg _
    rw [← evs_append] at hown
    have HT7 := Lib.hid (show Turn nowhere w w7 from HT6.out.grown hg (fun q hq hlt => by have := (HO6.out.lt q hq).1; omega))
    obtain ⟨C7, c7, rfl, _, _⟩ := own_form hown
    have HO7 := Lib.hid (Reads.of_own hown)
    clear hown hg HT6 HO6 HY6 hsz6
    go_wp2_with fail
    refine (text_calls C7 (n + m) c7 (l ++ r) _ HO7.out (fun y hy => (List.mem_append.1 hy).elim (HI.out y) (HJ.out y)) (by omega) (HE.out.turn HT7.out)).mono ?_
    intro e w8 hq
    obtain ⟨T3, E3, rfl, D3, ht⟩ := hq.form
    have HT8 := Lib.hid (HT7.out.trans ht (fun _ _ h => h))
    have D := three_texts HD1.out HD2.out D3
    clear ht hq D3 HD1 HD2 HT7 HO7
    rcases D with ⟨rfl, rfl, rfl, h4, h5, h6, h7⟩ | ⟨rfl, rfl, rfl⟩ | ⟨rfl, rfl, rfl, rfl⟩
    case inr.inl =>
      go_wp2
      go_ret
      exact ⟨rfl, HT8.out⟩
    case inr.inr =>
      go_wp2
      go_ret
      exact ⟨rfl, HT8.out⟩
    have hlen1 : T1.length ≤ 20000 := by have := text_len HI.out; rw [HL.out, ← h5] at this; omega
    have hlen2 : T2.length ≤ 20000 := by have := text_len HJ.out; rw [HRL.out, ← h6] at this; omega
    have hadd := fun w => add_run T1 T2 (by omega) (by omega) w
    rw [← h4] at hadd
    have HR := Lib.hid (show readFrom [] [] T1 = .ok l from by
      rw [h5]
      exact read_text (fun x hx => ⟨List.all_eq_true.1 h7 x hx, HI.out x hx⟩))
    clear h4 h5 h6 h7
    go_wp2_with fail
    refine (read_calls T1 (by omega) _ (HE.out.turn HT8.out)).mono ?_
    rintro e w9 ⟨hq, ht⟩
    rw [HR.out] at hq
    rcases hq with ⟨y, v, hy, rfl, ho, _⟩ | ⟨k, h, _⟩
    case inr => cases h
    injection hy with hy
    subst hy
    rw [HL.out] at ho
    obtain ⟨D, d9, rfl, _, _⟩ := own_form ho
    have HO9 := Lib.hid (Reads.of_own ho)
    have HT9 := Lib.hid (HT8.out.trans ht (fun _ _ h => h))
    clear ht ho HT8 HR
    go_wp2_with fail
    refine (own_calls D n d9 l _ HO9.out (by omega)).mono ?_
    rintro e w10 ⟨v, rfl, ho, ht⟩
    obtain ⟨F, d10, rfl, _, _⟩ := own_form ho
    have HF := Lib.hid (Reads.of_own ho)
    have HT10 := Lib.hid (HT9.out.trans ht (fun _ _ h => h))
    have HX10 := Lib.hid (HX.out.kept HT10.out)
    clear ht ho HT9 HO9
    go_wp2_with fail
    refine (own_calls A n c l _ HX10.out (by omega)).mono ?_
    rintro e w11 ⟨v, rfl, ho, ht⟩
    obtain ⟨G, d11, rfl, _, _⟩ := own_form ho
    have HG := Lib.hid (Reads.of_own ho)
    have HF11 := Lib.hid (HF.out.kept ht)
    have HT11 := Lib.hid (HT10.out.trans ht (fun _ _ h => h))
    clear ht ho HT10 HX10 HF
    go_wp2_with fail
    refine (same_calls F G n d10 d11 l _ HF11.out HG.out (by omega)).mono ?_
    rintro e w12 ⟨rfl, ht⟩
    have HT12 := Lib.hid (HT11.out.trans ht (fun _ _ h => h))
    clear ht HT11 HF11 HG
    go_wp2
    go_ret
    exact ⟨rfl, HT12.out⟩
  case inr =>
    have HT3 := HT2
    clear HT2
    obtain ⟨w3, hw3⟩ : ∃ w3, w3 = w2 := ⟨_, rfl⟩
    rw [← hw3] at HT3 ⊢
    clear hw3
    go_wp2_with fail
    refine (text_calls A n c l _ (HX.out.kept HT3.out) HI.out (by omega) (HE.out.turn HT3.out)).mono ?_
    intro e w4 hq
    obtain ⟨T1, E1, rfl, D1, ht⟩ := hq.form
    have HD1 := Lib.hid D1
    have HT4 := Lib.hid (HT3.out.trans ht (fun _ _ h => h))
    clear ht HT3 hq D1
    go_wp2_with fail
    refine (text_calls B m d r _ (HY.out.kept HT4.out) HJ.out (by omega) (HE.out.turn HT4.out)).mono ?_
    intro e w5 hq
    obtain ⟨T2, E2, rfl, D2, ht⟩ := hq.form
    have HD2 := Lib.hid D2
    have HT5 := Lib.hid (HT4.out.trans ht (fun _ _ h => h))
    clear ht HT4 hq D2
    have hsz5 := HT5.out.size
    have HX5 := Lib.hid (HX.out.kept HT5.out)
    go_wp2_with (at_builtin; refine wpList_append_reads _ rfl (.tmp 71) (.tmp 72) 24 rfl w.heap.size 23 i0 (.agg #[.int .i64 0, .int .i64 0, .int .i64 0, .int .i64 0]) 4 32 Tryd.underlying24 hti hz0 hz1 hz2 rfl (by decide) _ 0 [] rfl ?o1 A n c (evs l) rfl ?o2 (evs_one l) ?o3 ?o4 ?o5 ?_)
    case o1 => exact World.ownsRow_lit (base := w.heap.size) (size := 4) (e := 23) w5 #[] 0 hsz5 (by simp [maxLen]) rfl
    case o2 => exact HX5.out.kept ((Turn.refl _ _).alloc _)
    case o3 => unfold maxLen; omega
    case o4 => omega
    case o5 => simp; omega
    intro v6 w6 hown hg _
    have HO6 := Lib.hid (show w6.ownsRow w.heap.size 23 4 v6 n (evs l) from by simpa using hown)
    have HT6 := Lib.hid (show Turn nowhere w w6 from (HT5.out.alloc _).grown hg (fun q hq hlt => by
      have : w5.heap.size = q := by simpa [Value.ownBlock] using hq
      omega))
    clear hown hg HT5 HX5 hsz5
    have HY6 := Lib.hid (HY.out.kept HT6.out)
    have hsz6 := HT6.out.size
    go_wp2_with (at_builtin; refine wpList_append_reads _ rfl (.tmp 73) (.tmp 74) 24 rfl w.heap.size 23 i0 (.agg #[.int .i64 0, .int .i64 0, .int .i64 0, .int .i64 0]) 4 32 Tryd.underlying24 hti hz0 hz1 hz2 rfl (by decide) v6 n (evs l) rfl ?p1 B m d (evs r) rfl ?p2 (evs_one r) ?p3 ?p4 ?p5 ?_)
    case p1 => exact HO6.out
    case p2 => exact HY6.out
    case p3 => unfold maxLen; omega
    case p4 => omega
    case p5 => exact hsz6
    intro v7 w7 hown hg _
    rw [← evs_append] at hown
    have HT7 := Lib.hid (show Turn nowhere w w7 from HT6.out.grown hg (fun q hq hlt => by have := (HO6.out.lt q hq).1; omega))
    obtain ⟨C7, c7, rfl, _, _⟩ := own_form hown
    have HO7 := Lib.hid (Reads.of_own hown)
    clear hown hg HT6 HO6 HY6 hsz6
    go_wp2_with fail
    refine (text_calls C7 (n + m) c7 (l ++ r) _ HO7.out (fun y hy => (List.mem_append.1 hy).elim (HI.out y) (HJ.out y)) (by omega) (HE.out.turn HT7.out)).mono ?_
    intro e w8 hq
    obtain ⟨T3, E3, rfl, D3, ht⟩ := hq.form
    have HT8 := Lib.hid (HT7.out.trans ht (fun _ _ h => h))
    have D := three_texts HD1.out HD2.out D3
    clear ht hq D3 HD1 HD2 HT7 HO7
    rcases D with ⟨rfl, rfl, rfl, h4, h5, h6, h7⟩ | ⟨rfl, rfl, rfl⟩ | ⟨rfl, rfl, rfl, rfl⟩
    case inr.inl =>
      go_wp2
      go_ret
      exact ⟨rfl, HT8.out⟩
    case inr.inr =>
      go_wp2
      go_ret
      exact ⟨rfl, HT8.out⟩
    have hlen1 : T1.length ≤ 20000 := by have := text_len HI.out; rw [HL.out, ← h5] at this; omega
    have hlen2 : T2.length ≤ 20000 := by have := text_len HJ.out; rw [HRL.out, ← h6] at this; omega
    have hadd := fun w => add_run T1 T2 (by omega) (by omega) w
    rw [← h4] at hadd
    have HR := Lib.hid (show readFrom [] [] T1 = .ok l from by
      rw [h5]
      exact read_text (fun x hx => ⟨List.all_eq_true.1 h7 x hx, HI.out x hx⟩))
    clear h4 h5 h6 h7
    go_wp2_with fail
    refine (read_calls T1 (by omega) _ (HE.out.turn HT8.out)).mono ?_
    rintro e w9 ⟨hq, ht⟩
    rw [HR.out] at hq
    rcases hq with ⟨y, v, hy, rfl, ho, _⟩ | ⟨k, h, _⟩
    case inr => cases h
    injection hy with hy
    subst hy
    rw [HL.out] at ho
    obtain ⟨D, d9, rfl, _, _⟩ := own_form ho
    have HO9 := Lib.hid (Reads.of_own ho)
    have HT9 := Lib.hid (HT8.out.trans ht (fun _ _ h => h))
    clear ht ho HT8 HR
    go_wp2_with fail
    refine (own_calls D n d9 l _ HO9.out (by omega)).mono ?_
    rintro e w10 ⟨v, rfl, ho, ht⟩
    obtain ⟨F, d10, rfl, _, _⟩ := own_form ho
    have HF := Lib.hid (Reads.of_own ho)
    have HT10 := Lib.hid (HT9.out.trans ht (fun _ _ h => h))
    have HX10 := Lib.hid (HX.out.kept HT10.out)
    clear ht ho HT9 HO9
    go_wp2_with fail
    refine (own_calls A n c l _ HX10.out (by omega)).mono ?_
    rintro e w11 ⟨v, rfl, ho, ht⟩
    obtain ⟨G, d11, rfl, _, _⟩ := own_form ho
    have HG := Lib.hid (Reads.of_own ho)
    have HF11 := Lib.hid (HF.out.kept ht)
    have HT11 := Lib.hid (HT10.out.trans ht (fun _ _ h => h))
    clear ht ho HT10 HX10 HF
    go_wp2_with fail
    refine (same_calls F G n d10 d11 l _ HF11.out HG.out (by omega)).mono ?_
    rintro e w12 ⟨rfl, ht⟩
    have HT12 := Lib.hid (HT11.out.trans ht (fun _ _ h => h))
    clear ht HT11 HF11 HG
    go_wp2
    go_ret
    exact ⟨rfl, HT12.out⟩

end Go.Proofs.YtbeapjndgkjpeaaDoor
