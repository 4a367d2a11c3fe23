/- The document's own list: the contract of Fire. -/
import Derived.Test.YthloikmmkkamoaaRefWait
namespace Go.Proofs.Ythloikmmkkamoaa
open Go.RowKit Go.Maps

def RFired (w : World) (F : Nat → Prop) (rb : Nat) (rows : List Reg) (most : Int) (ons : List Int) (e : Ending) (w' : World) : Prop :=
  ∃ v, e = .returned v ∧ w'.ownsRow w.heap.size 3 1 v (fireTo rows ons).2.length (ints (fireTo rows ons).2) ∧ RList w' F rb (fireTo rows ons).1 most ∧ Turn F w w'

set_option maxRecDepth 20000 in
set_option maxHeartbeats 1600000 in
theorem rfire {w : World} {F : Nat → Prop} {rb : Nat} {rows : List Reg} {most : Int} (h : RList w F rb rows most) (hlen : rows.length ≤ 200) (A : Option Addr) (m c : Nat) (ons : List Int) (hm : m ≤ 100000)
    (hx : Reads w 1 A m (ints ons)) (hoff : 0 < m → Off F A) :
    Calls Try.prog 13 #[.pointer (some ⟨rb, 0, none⟩), .slice A m c] w (RFired w F rb rows most ons) := by
  obtain ⟨j0, hy, hy0, hy1, hy2⟩ := info_parts Try.info3
  have hl : ons.length = m := by simpa using hx.1
  have HFB := Lib.hid h.fb
  have H := Lib.hid h
  have HX := Lib.hid hx
  have HOFF := Lib.hid hoff
  have HL := Lib.hid hl
  clear h hx hoff hl
  go_enter Try.func13, Try.ntmps13
  go_wp2_with fail
  go_loopw [5, 6] (fun v i wr => ∃ k : Nat, k ≤ m ∧ i = .int .i64 k ∧ Hid (wr.ownsRow w.heap.size 3 1 v (fireTo rows (ons.take k)).2.length (ints (fireTo rows (ons.take k)).2)) ∧ Hid (RList wr F rb (fireTo rows (ons.take k)).1 most) ∧ Hid (Turn F w wr)) (fun _ i _ => m - (intOf i).toNat)
  case atStart => exact ⟨0, Nat.zero_le _, rfl, World.ownsRow_lit (base := w.heap.size) (size := 1) (e := 3) w #[] 0 (Nat.le_refl _) (by simp [maxLen]) rfl, H.out.turn ((Turn.refl nowhere w).alloc _) (fun _ _ h => h), (Turn.refl _ _).alloc _⟩
  case round =>
    obtain ⟨k, hk, rfl, HO, HA, HT⟩ := hrel
    have h0 : (0 : Int) ≤ (k : Int) := by omega
    by_cases hlt : k < m
    case pos =>
      have h1 : (k : Int) < (m : Int) := by omega
      obtain ⟨b, off, rfl, hc⟩ := HX.out.2 (by omega)
      have hcx := HT.out.cell (hc k _ (ints_at (by rw [HL.out]; exact hlt))) (show ¬ F (⟨b, off + k, none⟩ : Addr).block from HOFF.out (by omega) ⟨b, off, none⟩ rfl)
      obtain ⟨x, hx⟩ : ∃ x, x = ons.getD k 0 := ⟨_, rfl⟩
      have HX1 := Lib.hid hx
      rw [← hx] at hcx
      clear hx hc
      obtain ⟨rs, hrs⟩ : ∃ rs, rs = (fireTo rows (ons.take k)).1 := ⟨_, rfl⟩
      obtain ⟨o, ho⟩ : ∃ o, o = (fireTo rows (ons.take k)).2 := ⟨_, rfl⟩
      have HRS := Lib.hid hrs
      have HOS := Lib.hid ho
      rw [← hrs] at HA
      rw [← ho] at HO
      have hrl : rs.length ≤ 200 := by rw [hrs, fireTo_len]; exact hlen
      have hol : o.length ≤ 200 * m := by
        have := fireTo_out rows (ons.take k)
        rw [← ho] at this
        have h2 : rows.length * (ons.take k).length ≤ 200 * m := Nat.mul_le_mul hlen (by rw [List.length_take]; omega)
        omega
      clear hrs ho
      obtain ⟨W0, hW0⟩ : ∃ W0, W0 = wr.heap.size := ⟨_, rfl⟩
      have HU0 := Lib.hid (show ∀ g, u5.ownBlock = some g → g < W0 from fun g hg => by have := (HO.out.lt g hg).2; omega)
      have hw0 : w.heap.size ≤ W0 := by have := HT.out.size; omega
      go_wp2_with fail
      refine (rwaiting (x := x) HA.out hrl).mono ?_
      rintro e w3 ⟨v3, rfl, ho3, ht3⟩
      obtain ⟨A3, c3, rfl, _, _⟩ := own_form ho3
      have HO3 := Lib.hid ho3
      have HA3 := Lib.hid (HA.out.turn ht3 (fun _ _ h => h))
      have HOa := Lib.hid (ht3.own HO.out (fun _ _ h => h))
      have HT3 := Lib.hid (HT.out.trans ht3 (fun _ _ h => h.elim))
      have HN3 := Lib.hid (show ∀ g, (Value.slice A3 (waiting rs x).length c3).ownBlock = some g → ¬ (F g ∨ (w.heap.size ≤ g ∧ g < W0)) from fun g hg hF => by
        have h3 := (ho3.lt g hg).1
        rcases hF with hF | hF
        · have := HFB.out g hF; omega
        · omega)
      have HW1 := Lib.hid (fun j (hj : j < (waiting rs x).length) => wait_at hj)
      have hwl : (waiting rs x).length ≤ 200 := Nat.le_trans (waiting_len rs x) hrl
      obtain ⟨ys, hys⟩ : ∃ ys, ys = waiting rs x := ⟨_, rfl⟩
      have HY := Lib.hid hys
      rw [← hys] at HO3 HN3 HW1 hwl ⊢
      obtain ⟨z, hz⟩ : ∃ z, z = ys.length := ⟨_, rfl⟩
      have HZ := Lib.hid hz
      rw [← hz] at HO3 HN3 HW1 hwl ⊢
      clear hys hz ho3 ht3 HA HO HT hcx
      obtain ⟨rv, hA⟩ := HA3.out
      obtain ⟨A4, c4, rfl, _, _⟩ := own_form hA.rws
      have HAL := Lib.hid hA
      clear hA HA3
      obtain ⟨rl, hrle⟩ : ∃ rl, rl = rs.length := ⟨_, rfl⟩
      have HRL := Lib.hid hrle
      rw [← hrle] at HAL
      clear hrle
      go_wp2_with fail
      go_loopw [5, 8] (fun v i wq => ∃ j : Nat, j ≤ z ∧ i = .int .i64 j ∧ Hid (wq.ownsRow w.heap.size 3 1 v (o ++ ys.take j).length (ints (o ++ ys.take j))) ∧ Hid (RL wq F rb (.slice A4 rl c4) (setAll rs (ys.take j)) most) ∧ Hid (∀ g, v.ownBlock = some g → g < W0 ∨ w3.heap.size ≤ g) ∧ Hid (Turn (fun q => F q ∨ (w.heap.size ≤ q ∧ q < W0)) w3 wq)) (fun _ i _ => z - (intOf i).toNat)
      case atStart => exact ⟨0, Nat.zero_le _, rfl, by simpa using HOa, HAL, fun g hg => .inl (HU0.out g hg), Turn.refl _ _⟩
      case round =>
        obtain ⟨j, hj, rfl, HO2, HA2, HV2, HT2⟩ := hrel
        have h2 : (0 : Int) ≤ (j : Int) := by omega
        by_cases hlt2 : j < z
        case pos =>
          have h3 : (j : Int) < (z : Int) := by omega
          obtain ⟨kk, hkk, hkl⟩ := HW1.out j hlt2
          rw [← HRL.out] at hkl
          have hsl : (setAll rs (ys.take j)).length = rl := by rw [setAll_len]; exact HRL.out.symm
          obtain ⟨g3, cap3, hv3, _, _⟩ := HO3.out.form (by omega)
          obtain ⟨rfl, rfl⟩ : A3 = some ⟨g3, 0, none⟩ ∧ c3 = cap3 := by simpa using hv3
          have e0 := own_int_at (HT2.out.own HO3.out HN3.out) hlt2
          rw [hkk] at e0
          have hrw := HA2.out.rws
          rw [hsl] at hrw
          obtain ⟨g, cap, hv4, _, _⟩ := hrw.form (by omega)
          obtain ⟨rfl, rfl⟩ : A4 = some ⟨g, 0, none⟩ ∧ c4 = cap := by simpa using hv4
          have e1 := hrw.cellAt (kk * 3 + 2) (by omega)
          rw [(regs_at (setAll rs (ys.take j)) kk (by rw [hsl]; exact hkl)).2.2] at e1
          have e2 := hrw.frozenAt (kk * 3 + 2)
          have e3 := HA2.out.c0
          obtain ⟨hB, hBT⟩ := HA2.out.set (g := g) (cap := c4) (by rw [hsl]) kk (by rw [hsl]; exact hkl) 2
          have HB := Lib.hid hB
          have HBT := Lib.hid hBT
          have HKK := Lib.hid hkk
          have h4 : (0 : Int) ≤ (kk : Int) := by omega
          have h5 : (kk : Int) < (rl : Int) := by omega
          have hob : (o ++ ys.take j).length ≤ 200 * m + 200 := by simp; omega
          have hgg : ¬ g3 = g := fun e => own_ne_own HO3.out HAL.out.rws (by decide) g3 rfl (by simp [Value.ownBlock, e])
          have hgg2 : ¬ g = g3 := fun e => hgg e.symm
          clear hsl hrw hB hBT hkk hv3 hv4
          obtain ⟨oj, hoj⟩ : ∃ oj, oj = o ++ ys.take j := ⟨_, rfl⟩
          have HOJ := Lib.hid hoj
          rw [← hoj] at HO2 hob
          clear hoj
          generalize ((setAll rs (ys.take j)).getD kk default).state = st at e1
          go_wp2_with fail
          go_region
          have HO3b := Lib.hid (HBT.out.own HO2.out (fun q hq hF => by have := HFB.out q hF; have := (HO2.out.lt q hq).1; omega))
          have HTs := Lib.hid (HT2.out.trans HBT.out (fun _ _ h => .inl h))
          clear e0 e1 e2 e3
          have e0 := (HTs.out.own HO3.out HN3.out)
          have e1 := own_int_at e0 hlt2
          rw [HKK.out] at e1
          clear e0
          generalize (wr.setCell { block := g, off := kk * 3 + 2 } (Value.int IntKind.i64 2)) = w5 at HO3b HTs HB e1 ⊢
          go_wp2_with (at_builtin; refine wpList_append_own_at _ rfl (.tmp 38) (.tmp 43) 32 rfl w.heap.size 3 j0 (.int .i64 0) 1 8 Try.underlying32 hy hy0 hy1 hy2 rfl (by decide) u5 oj.length (ints oj) rfl ?o1 ⟨w5.heap.size, 0, none⟩ 1 1 [.int .i64 kk] rfl rfl ?o2 (by simp [Value.oneCell']) ?o3 ?o4 ?o5 ?_)
          case o1 => exact HO3b.out.alloc _
          case o2 => exact World.news_of_block (w := (w5.alloc (.cells #[.int .i64 kk] 3)).drew) (cs := #[.int .i64 kk]) (t := 3) (fr := (0, 0)) (heap_alloc_new w5 _)
          case o3 => unfold maxLen; omega
          case o4 => omega
          case o5 => have := HT3.out.size; have := HTs.out.size; simp; omega
          intro v' w6 hown hg _ hvv
          have HO6 := Lib.hid hown
          have ht6 : Turn (fun q => u5.ownBlock = some q) w5 w6 := (((Turn.refl _ _).alloc _).drew).grown hg (fun q hq _ => hq)
          have hno : ∀ q, F q → ¬ u5.ownBlock = some q := fun q hF hq => by have := HFB.out q hF; have := (HO3b.out.lt q hq).1; omega
          have HB6 := Lib.hid (HB.out.turn ht6 hno)
          have HT6 := Lib.hid (show Turn (fun q => F q ∨ (w.heap.size ≤ q ∧ q < W0)) w3 w6 from ((HTs.out.alloc _).drew).grown hg (fun q hq hlt => .inr (by
            have h6 := (HO2.out.lt q hq).1
            rcases HV2.out q hq with h7 | h7 <;> omega)))
          have HV6 := Lib.hid (show ∀ g, v'.ownBlock = some g → g < W0 ∨ w3.heap.size ≤ g from fun g hg6 => by
            rcases hvv with h6 | h6
            · exact HV2.out g (h6 ▸ hg6)
            · have h7 := HTs.out.size
              rw [h6] at hg6
              simp at hg6
              omega)
          clear hown hg ht6 hno hvv
          go_wp2
          go_roundw
          case rel =>
            have htk : ys.take (j + 1) = ys.take j ++ [(kk : Int)] := by
              rw [List.take_succ_eq_append_getElem (by rw [← HZ.out]; exact hlt2)]
              have := HKK.out
              simp only [List.getD, List.getElem?_eq_getElem (show j < ys.length by rw [← HZ.out]; exact hlt2), Option.getD_some] at this
              rw [this]
            refine ⟨j + 1, by omega, by go_num, ?_, ?_, HV6, HT6⟩
            · rw [htk, ← List.append_assoc, ← HOJ.out]
              have e1 : (oj ++ [(kk : Int)]).length = oj.length + 1 := by simp
              have e2 : ints (oj ++ [(kk : Int)]) = ints oj ++ [.int .i64 kk] := by simp
              rw [e1, e2]
              exact HO6
            · rw [htk, setAll_snoc]
              exact HB6
          case measure => simp [intOf]; omega
        case neg =>
          obtain rfl : j = z := by omega
          have htk : ys.take j = ys := by rw [HZ.out]; exact List.take_length
          rw [htk] at HA2 HO2
          clear hlt2 htk
          go_wp2
          go_roundw
          case rel =>
            have htk : ons.take (k + 1) = ons.take k ++ [x] := by
              rw [List.take_succ_eq_append_getElem (by rw [HL.out]; exact hlt)]
              have := HX1.out
              simp only [List.getD, List.getElem?_eq_getElem (show k < ons.length by rw [HL.out]; exact hlt), Option.getD_some] at this
              rw [this]
            have hf : fireTo rows (ons.take (k + 1)) = (setAll rs ys, o ++ ys) := by
              rw [htk, fireTo_snoc, ← HRS.out, ← HOS.out, ← HY.out]
            refine ⟨k + 1, by omega, by go_num, ?_, ?_, ?_⟩
            · rw [hf]; exact HO2.out
            · rw [hf]; exact ⟨_, HA2.out⟩
            · exact HT3.out.trans HT2.out (fun i hi h => by rcases h with h | h; exact h; omega)
          case measure => simp [intOf]; omega
    case neg =>
      obtain rfl : k = m := by omega
      have htk : ons.take k = ons := by rw [← HL.out]; exact List.take_length
      rw [htk] at HA HO
      clear hlt
      go_wp2
      go_ret
      exact ⟨_, rfl, HO.out, HA.out, HT.out⟩

end Go.Proofs.Ythloikmmkkamoaa
