/- The contract of Fire. -/
import Derived.Test.YthloikmmkkamoaaFireLaw
namespace Go.Proofs.Ythloikmmkkamoaa
open Go.RowKit Go.Maps

def FireDone (w : World) (F : Nat → Prop) (lb : Nat) (rows : List Reg) (most : Int) (n : Nat) (ons : List Int) (e : Ending) (w' : World) : Prop :=
  ∃ v, e = .returned v ∧ w'.ownsRow w.heap.size 3 1 v (fireTo rows ons).2.length (ints (fireTo rows ons).2) ∧ AList w' F lb (fireTo rows ons).1 most n ∧ Turn F w w'

/-- One more begun: the places that wait, the state, what is told. -/
theorem wait_at {rows : List Reg} {x : Int} {j : Nat} (hj : j < (waiting rows x).length) : ∃ k : Nat, (waiting rows x).getD j 0 = k ∧ k < rows.length := by
  rw [waiting_places] at hj ⊢
  have hj' : j < (places rows x).length := by simpa using hj
  refine ⟨(places rows x)[j], ?_, ?_⟩
  · simp [List.getD, List.getElem?_eq_getElem hj']
  · exact (mem_places.1 (List.getElem_mem hj')).1

set_option maxHeartbeats 1600000 in
theorem fire_calls {w : World} {F : Nat → Prop} {lb n : Nat} {rows : List Reg} {most : Int} (h : AList w F lb rows most n) (hlen : rows.length ≤ 200) (b off m c : Nat) (ons : List Int) (hm : m ≤ 100000) (hl : ons.length = m)
    (hx : ∀ k, k < m → w.cell? ⟨b, off + k, none⟩ = some (.int .i64 (ons.getD k 0))) (hoff : ¬ F b) (hwf : ∀ k, k < m → wfi (ons.getD k 0)) :
    Calls Try.prog 21 #[.pointer (some ⟨lb, 0, none⟩), .slice (some ⟨b, off, none⟩) m c] w (FireDone w F lb rows most n ons) := by
  obtain ⟨j0, hy, hy0, hy1, hy2⟩ := info_parts Try.info3
  have HFB := Lib.hid (show ∀ k, F k → k < w.heap.size from by obtain ⟨_, _, _, h⟩ := h; exact h.fb)
  have H := Lib.hid h
  have HX := Lib.hid hx
  have HOFF := Lib.hid hoff
  have HWF := Lib.hid hwf
  have HL := Lib.hid hl
  clear h hx hoff hwf hl
  go_enter Try.func21, Try.ntmps21
  go_wp2
  go_loopw [5, 12] (fun v i wr => ∃ (k : Nat), k ≤ m ∧ i = .int .i64 k ∧ Hid (wr.ownsRow w.heap.size 3 1 v (fireTo rows (ons.take k)).2.length (ints (fireTo rows (ons.take k)).2)) ∧ Hid (AList wr F lb (fireTo rows (ons.take k)).1 most n) ∧ Hid (Turn F w wr)) (fun _ i _ => m - (intOf i).toNat)
  case atStart => exact ⟨0, Nat.zero_le _, rfl, World.ownsRow_nil _ _ _ _, H, Turn.refl _ _⟩
  case round =>
    obtain ⟨k, hk, rfl, HO, HA, HT⟩ := hrel
    have h0 : (0 : Int) ≤ (k : Int) := by omega
    by_cases hlt : k < m
    · have h1 : (k : Int) < (m : Int) := by omega
      have hcx := HT.out.cell (HX.out k hlt) HOFF.out
      obtain ⟨x, hx⟩ : ∃ x, x = ons.getD k 0 := ⟨_, rfl⟩
      have HX1 := Lib.hid hx
      have HWX := Lib.hid (HWF.out k hlt)
      rw [← hx] at hcx HWX
      clear hx
      obtain ⟨rs, hrs⟩ : ∃ rs, rs = (fireTo rows (ons.take k)).1 := ⟨_, rfl⟩
      obtain ⟨o, ho⟩ : ∃ o, o = (fireTo rows (ons.take k)).2 := ⟨_, rfl⟩
      have HRS := Lib.hid hrs
      have HOS := Lib.hid ho
      rw [← hrs] at HA
      rw [← ho] at HO
      have hrl : rs.length ≤ 200 := by rw [hrs, fireTo_len]; exact hlen
      have hol : o.length ≤ 200 * m := by
        have := fireTo_out rows (ons.take k)
        rw [← ho] at this
        have h2 : rows.length * (ons.take k).length ≤ 200 * m := Nat.mul_le_mul hlen (by rw [List.length_take]; omega)
        omega
      clear hrs ho
      obtain ⟨mb, rv, V, hA⟩ := HA.out
      have HAL := Lib.hid hA
      have c1 := hA.c1
      have l1 := hA.mp.look keyed3 Try.underlying58 (zero32 wr) (key3 HWX.out) HWX.out
      obtain ⟨A2, c2, hu, _, _⟩ := own_form (hA.each x HWX.out)
      have HRD := Lib.hid (Reads.of_own (hu ▸ hA.each x HWX.out))
      have HU := Lib.hid hu
      unfold at_ at hu
      rw [hu] at l1
      clear hu hA
      obtain ⟨ys, hys⟩ : ∃ ys, ys = waiting rs x := ⟨_, rfl⟩
      have HY := Lib.hid hys
      rw [← hys] at HRD l1 HU
      obtain ⟨z, hz⟩ : ∃ z, z = ys.length := ⟨_, rfl⟩
      have hzl : z ≤ 200 := by rw [hz, hys]; exact Nat.le_trans (waiting_len rs x) hrl
      have HZ := Lib.hid hz
      rw [← hz] at HRD l1 HU
      clear hys hz
      rcases Nat.eq_zero_or_pos z with hz0 | hz0
      · subst hz0
        have hye : ys = [] := List.eq_nil_of_length_eq_zero HZ.out.symm
        have HYE := Lib.hid hye
        clear hye HRD
        go_wp2_with fail
        refine wp_loop_rounds 1 ?_
        rw [rounds_succ]
        go_wp2_with (at_delete; refine wpList_delete_is _ rfl (.tmp 42) (.tmp 43) 58 3 rfl 32 keyed3 Try.underlying58 mb n _ rfl HAL.out.mp x rfl (key3 HWX.out) ?_; intro w7 hm7 hg7; have HM7 := Lib.hid hm7; have HG7 := Lib.hid hg7; clear hm7 hg7)
        obtain ⟨hD, hDT⟩ := HAL.out.drop HWX.out (V' := fun j => if j = x then none else V j) (fun i hi => by simp [hi]) (by simp) HM7.out (Turn.of_grown HG7.out (fun g h _ => by injection h))
        have HD := Lib.hid hD
        have HDT := Lib.hid hDT
        clear hD hDT
        go_roundw
        case rel =>
          have htk : ons.take (k + 1) = ons.take k ++ [x] := by
            rw [List.take_succ_eq_append_getElem (by rw [HL.out]; exact hlt)]
            have := HX1.out
            simp only [List.getD, List.getElem?_eq_getElem (show k < ons.length by rw [HL.out]; exact hlt), Option.getD_some] at this
            rw [this]
          have hf : fireTo rows (ons.take (k + 1)) = (rs, o) := by
            rw [htk, fireTo_snoc, ← HRS.out, ← HOS.out, ← HY.out, HYE.out]
            simp [setAll]
          refine ⟨k + 1, by omega, by go_num, ?_, ?_, ?_⟩
          · rw [hf]
            exact HDT.out.own HO.out (fun q hq hF => by have := HFB.out q hF; have := (HO.out.lt q hq).1; omega)
          · rw [hf]
            have hwt : (fun i => if i = x then [] else waiting rs i) = waiting rs := by
              funext i
              by_cases hi : i = x
              · rw [if_pos hi, hi, ← HY.out, HYE.out]
              · rw [if_neg hi]
            exact ⟨_, _, _, hwt ▸ HD.out⟩
          · exact HT.out.trans HDT.out (fun _ _ h => h)
        case measure => simp [intOf]; omega
      · have hEX := HAL.out.each x HWX.out
        rw [HU.out, ← HY.out, ← HZ.out] at hEX
        obtain ⟨g2, cap2, hv2, _, _⟩ := hEX.form hz0
        obtain ⟨rfl, rfl⟩ : A2 = some ⟨g2, 0, none⟩ ∧ c2 = cap2 := by simpa using hv2
        obtain ⟨_, hw1, hw2⟩ := wait_at (rows := rs) (x := x) (j := 0) (by rw [← HY.out, ← HZ.out]; exact hz0)
        obtain ⟨g, cap, hrv, _, _⟩ := HAL.out.rws.form (by omega)
        subst hrv
        obtain ⟨rl, hrl2⟩ : ∃ rl, rl = rs.length := ⟨_, rfl⟩
        have HRL := Lib.hid hrl2
        rw [← hrl2] at HAL hrl
        clear hEX hv2 hw1 hw2 HRD hrl2
        go_wp2_with fail
        go_loopw [5, 23] (fun v i wq => ∃ (j : Nat), j ≤ z ∧ i = .int .i64 j ∧ Hid (wq.ownsRow w.heap.size 3 1 v (o ++ ys.take j).length (ints (o ++ ys.take j))) ∧ Hid (AL wq F lb mb (.slice (some ⟨g, 0, none⟩) rl cap) V (setAll rs (ys.take j)) (waiting rs) most n) ∧ Hid (Turn F w wq)) (fun _ i _ => z - (intOf i).toNat)
        case atStart => exact ⟨0, Nat.zero_le _, rfl, by simpa using HO, HAL, HT⟩
        case round =>
          obtain ⟨j, hj, rfl, HO2, HA2, HT2⟩ := hrel
          have h2 : (0 : Int) ≤ (j : Int) := by omega
          by_cases hlt2 : j < z
          · have h3 : (j : Int) < (z : Int) := by omega
            obtain ⟨kk, hkk, hkl⟩ := wait_at (rows := rs) (x := x) (j := j) (by rw [← HY.out, ← HZ.out]; exact hlt2)
            rw [← HY.out] at hkk
            rw [← HRL.out] at hkl
            have hEX := HA2.out.each x HWX.out
            rw [HU.out, ← HY.out, ← HZ.out] at hEX
            have e0 := own_int_at hEX hlt2
            rw [hkk] at e0
            have hsl : (setAll rs (ys.take j)).length = rl := by rw [setAll_len]; exact HRL.out.symm
            have hrw := HA2.out.rws
            rw [hsl] at hrw
            have e1 := hrw.cellAt (kk * 3 + 2) (by omega)
            rw [(regs_at (setAll rs (ys.take j)) kk (by rw [hsl]; exact hkl)).2.2] at e1
            have e2 := hrw.frozenAt (kk * 3 + 2)
            have e3 := HA2.out.c0
            obtain ⟨hB, hBT⟩ := AL.begin_ (len := rl) HA2.out hsl (by rw [hsl]; exact hkl)
            have HB := Lib.hid hB
            have HBT := Lib.hid hBT
            have HKK := Lib.hid hkk
            have h4 : (0 : Int) ≤ (kk : Int) := by omega
            have h5 : (kk : Int) < (rl : Int) := by omega
            have hob : (o ++ ys.take j).length ≤ 200 * m + 200 := by simp; omega
            clear hEX hsl hrw hB hBT hkk
            generalize ((setAll rs (ys.take j)).getD kk default).state = st at e1
            have HO3 := Lib.hid (HBT.out.own HO2.out (fun q hq hF => by have := HFB.out q hF; have := (HO2.out.lt q hq).1; omega))
            go_wp2_with (at_builtin; refine wpList_append_own_at _ rfl (.tmp 34) (.tmp 36) 32 rfl w.heap.size 3 j0 (.int .i64 0) 1 8 Try.underlying32 hy hy0 hy1 hy2 rfl (by decide) u5 (o ++ ys.take j).length (ints (o ++ ys.take j)) rfl ?o1 ⟨wr.heap.size, 0, none⟩ 1 1 [.int .i64 kk] rfl rfl ?o2 (by simp [Value.oneCell']) ?o3 ?o4 ?o5 ?_)
            case o1 => exact HO3.out.alloc _
            case o2 => exact World.news_of_block (cs := #[.int .i64 kk]) (t := 3) (fr := (0, 0)) (by
              have := heap_alloc_new (wr.setCell ⟨g, kk * 3 + 2, none⟩ (.int .i64 2)) (.cells #[.int .i64 kk] 3)
              simpa using this)
            case o3 => unfold maxLen; omega
            case o4 => omega
            case o5 => have := HT2.out.size; simp; omega
            intro v' w2 hown hg _ _
            have HO4 := Lib.hid hown
            have HT3 := Lib.hid (show Turn F w w2 from by
              have t1 := HT2.out.trans HBT.out (fun _ _ h => h)
              exact (t1.alloc _).grown hg (fun q hq hlt => by have := (HO2.out.lt q hq).1; omega))
            have HA3 := Lib.hid (show AL w2 F lb mb (.slice (some ⟨g, 0, none⟩) rl cap) V (setSt (setAll rs (ys.take j)) kk 2) (waiting rs) most n from by
              have t2 : Turn (fun q => u5.ownBlock = some q) (wr.setCell ⟨g, kk * 3 + 2, none⟩ (.int .i64 2)) w2 := ((Turn.refl _ _).alloc _).grown hg (fun q hq _ => hq)
              exact HB.out.turn t2 (fun q hF hq => by have := HFB.out q hF; have := (HO2.out.lt q hq).1; omega))
            clear hown hg
            go_wp2
            go_roundw
            case rel =>
              have htk : ys.take (j + 1) = ys.take j ++ [(kk : Int)] := by
                rw [List.take_succ_eq_append_getElem (by rw [← HZ.out]; exact hlt2)]
                have := HKK.out
                simp only [List.getD, List.getElem?_eq_getElem (show j < ys.length by rw [← HZ.out]; exact hlt2), Option.getD_some] at this
                rw [this]
              refine ⟨j + 1, by omega, by go_num, ?_, ?_, HT3⟩
              · rw [htk]
                have e1 : (o ++ (ys.take j ++ [(kk : Int)])).length = (o ++ ys.take j).length + 1 := by simp; omega
                have e2 : ints (o ++ (ys.take j ++ [(kk : Int)])) = ints (o ++ ys.take j) ++ [.int .i64 kk] := by simp
                rw [e1, e2]
                simpa [Hid] using HO4
              · rw [htk, setAll_snoc]
                exact HA3
            case measure => simp [intOf]; omega
          · obtain rfl : j = z := by omega
            have hw := HA2.out.mp
            have e3 := HA2.out.c1
            have htk : ys.take j = ys := by rw [HZ.out]; exact List.take_length
            rw [htk] at HA2 HO2
            clear hlt2 hw htk
            go_wp2_with (at_delete; refine wpList_delete_is _ rfl (.tmp 42) (.tmp 43) 58 3 rfl 32 keyed3 Try.underlying58 mb n _ rfl HA2.out.mp x rfl (key3 HWX.out) ?_; intro w7 hm7 hg7; have HM7 := Lib.hid hm7; have HG7 := Lib.hid hg7; clear hm7 hg7)
            obtain ⟨hD, hDT⟩ := HA2.out.drop HWX.out (V' := fun j => if j = x then none else V j) (fun i hi => by simp [hi]) (by simp) HM7.out (Turn.of_grown HG7.out (fun g h _ => by injection h))
            have HD := Lib.hid hD
            have HDT := Lib.hid hDT
            clear hD hDT
            go_roundw
            case rel =>
              have htk : ons.take (k + 1) = ons.take k ++ [x] := by
                rw [List.take_succ_eq_append_getElem (by rw [HL.out]; exact hlt)]
                have := HX1.out
                simp only [List.getD, List.getElem?_eq_getElem (show k < ons.length by rw [HL.out]; exact hlt), Option.getD_some] at this
                rw [this]
              have hf : fireTo rows (ons.take (k + 1)) = (setAll rs ys, o ++ ys) := by
                rw [htk, fireTo_snoc, ← HRS.out, ← HOS.out, ← HY.out]
              refine ⟨k + 1, by omega, by go_num, ?_, ?_, ?_⟩
              · rw [hf]
                exact HDT.out.own HO2.out (fun q hq hF => by have := HFB.out q hF; have := (HO2.out.lt q hq).1; omega)
              · rw [hf]
                have hwt : (fun i => if i = x then [] else waiting rs i) = waiting (setAll rs ys) := by
                  funext i
                  rw [HY.out, waiting_setAll]
                exact ⟨_, _, _, hwt ▸ HD.out⟩
              · exact HT2.out.trans HDT.out (fun _ _ h => h)
            case measure => simp [intOf]; omega
    · obtain rfl : k = m := by omega
      have htk : ons.take k = ons := by rw [← HL.out]; exact List.take_length
      rw [htk] at HA HO
      clear hlt
      go_wp2
      go_ret
      exact ⟨_, rfl, HO.out, HA.out, HT.out⟩

set_option maxHeartbeats 400000 in
/-- 'Fire'. -/
theorem fire_any {w : World} {F : Nat → Prop} {lb n : Nat} {rows : List Reg} {most : Int} (h : AList w F lb rows most n) (hlen : rows.length ≤ 200) (A : Option Addr) (m c : Nat) (ons : List Int) (hm : m ≤ 100000)
    (hx : Reads w 1 A m (ints ons)) (hoff : 0 < m → Off F A) (hwf : ∀ k, k < m → wfi (ons.getD k 0)) :
    Calls Try.prog 21 #[.pointer (some ⟨lb, 0, none⟩), .slice A m c] w (FireDone w F lb rows most n ons) := by
  have hl : ons.length = m := by simpa using hx.1
  rcases Nat.eq_zero_or_pos m with h0 | h0
  · subst h0
    obtain rfl := List.eq_nil_of_length_eq_zero hl
    have H := Lib.hid h
    clear h hx hoff hwf hl
    go_enter Try.func21, Try.ntmps21
    go_wp2
    refine wp_loop_rounds 1 ?_
    rw [rounds_succ]
    go_wp2
    go_ret
    exact ⟨_, rfl, World.ownsRow_nil _ _ _ _, H.out, Turn.refl _ _⟩
  · obtain ⟨b, off, rfl, hc⟩ := hx.2 h0
    exact fire_calls h hlen b off m c ons hm hl (fun k hk => hc k _ (ints_at (by omega))) (hoff h0 _ rfl) hwf

end Go.Proofs.Ythloikmmkkamoaa
