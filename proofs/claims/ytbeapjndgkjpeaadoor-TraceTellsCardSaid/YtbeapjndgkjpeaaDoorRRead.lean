/- The reference's side: the contract of Read. -/
import Derived.Test.YtbeapjndgkjpeaaDoorRNum
import Derived.Test.YtbeapjndgkjpeaaDoorAwake
namespace Go.Proofs.YtbeapjndgkjpeaaDoor
open Go.RowKit Go.Maps

def RReadR (L : List UInt8) (w : World) (e : Ending) (w' : World) : Prop :=
  ((∃ l v, readFrom [] [] L = .ok l ∧ e = .returned (.tuple #[v, .int .i64 0, .int .i64 0]) ∧ w'.ownsRow w.heap.size 36 4 v l.length (evs l) ∧ l.length ≤ L.length) ∨
    (∃ k : Nat, readFrom [] [] L = .error k ∧ e = .returned (.tuple #[.slice none 0 0, .int .i64 k, .int .i64 7]))) ∧ Turn nowhere w w'

theorem Tryd.info9 : (Tryd.prog.info? 9).map (fun i => (i.zero, i.size, i.bytes)) = some (some (str []), 1, 16) := by kernel_rfl

theorem reads_str (w : World) (t : TypeId) (p : List UInt8) : Reads (w.alloc (.cells #[str p] t)) 1 (some ⟨w.heap.size, 0, none⟩) 1 [str p] :=
  reads_lit (w := w) (t := t) (size := 1) (n := 1) #[str p] rfl (by simp [maxLen])
theorem strs_one (ps : List (List UInt8)) : ∀ u ∈ ps.map str, u.oneCell' = true := by
  intro u hu
  obtain ⟨p, _, rfl⟩ := List.mem_map.1 hu
  rfl
theorem strs_snoc (ps : List (List UInt8)) (p : List UInt8) : ps.map str ++ [str p] = (ps ++ [p]).map str := by simp

theorem own_apart {w w' : World} {base : Nat} {e : TypeId} {size n : Nat} {v : Value} {xs : List Value} {row : Option Nat} (h : w.ownsRow base e size v n xs) (hg : w.grownBy w' row) (hr : ∀ g, v.ownBlock = some g → row ≠ some g) : w'.ownsRow base e size v n xs :=
  (Turn.of_grown (F := fun q => row = some q) hg (fun _ h _ => h)).own h hr

def zeros : List UInt8 := [32, 48, 32, 48, 32, 48, 10]
theorem line_zeros {j : Nat} (h1 : 1 ≤ j) (h2 : j ≤ 8) : lineOf ⟨(j : Int), 0, 0, 0⟩ = wordOf (j : Int) ++ zeros := by
  have h : j = 1 ∨ j = 2 ∨ j = 3 ∨ j = 4 ∨ j = 5 ∨ j = 6 ∨ j = 7 ∨ j = 8 := by omega
  rcases h with rfl | rfl | rfl | rfl | rfl | rfl | rfl | rfl <;> simp [lineOf, wordOf, wordB, Lib.itoa, Lib.decDigits, zeros]
theorem kind_i64 {j : Nat} (h2 : j ≤ 9) : i64Ev ⟨(j : Int), 0, 0, 0⟩ := ⟨by unfold i64; simp only; omega, show i64 0 from by decide, show i64 0 from by decide, show i64 0 from by decide⟩

attribute [local go_sem ↓] Go.wp_at_zero Go.wp_at_succ

set_option maxRecDepth 20000 in
set_option maxHeartbeats 6400000 in
theorem rread_calls (L : List UInt8) (hL : L.length ≤ 100000) (w : World) : Calls Tryd.prog 11 #[str L] w (RReadR L w) := by
  obtain ⟨i0, hi, hz0, hz1, hz2⟩ := info_parts Tryd.info36
  obtain ⟨i1, hi1, hy0, hy1, hy2⟩ := info_parts Tryd.info9
  have hsz : (bs L).size = L.length := by simp [ByteArray.size]
  have HSZ := Lib.hid hsz
  clear hsz
  go_enter Tryd.func11, Tryd.ntmps11
  go_wp2
  go_loopg [5, 6, 7, 8] L.length (fun g vo sp vp i wr => ∃ (pos : Nat) (part : List UInt8) (parts : List (List UInt8)) (acc : List Ev), g = L.length - pos ∧ i = .int .i64 pos ∧ sp = str part ∧ Hid (RSt L pos part parts acc) ∧
    Hid (wr.ownsRow w.heap.size 36 4 vo acc.length (evs acc)) ∧ Hid (wr.ownsRow w.heap.size 9 1 vp parts.length (parts.map str)) ∧ Hid (∀ g, vo.ownBlock = some g → vp.ownBlock ≠ some g) ∧ Hid (Turn nowhere w wr))
  case atStart =>
    refine ⟨0, [], [], [], rfl, rfl, rfl, RSt.start L, ?_, ?_, ?_, Lib.hid (((Turn.refl _ _).alloc _).alloc _)⟩
    · exact ((Turn.refl nowhere _).alloc _).own (World.ownsRow_lit (base := w.heap.size) (size := 4) (e := 36) w #[] 0 (Nat.le_refl _) (by simp [maxLen]) rfl) (fun _ _ h => h)
    · have h := World.ownsRow_lit (base := w.heap.size) (size := 1) (e := 9) (w.alloc (.cells #[] 36)) #[] 0 (by simp) (by simp [maxLen]) rfl
      exact Lib.hid (by simpa using h)
    · intro g hg h
      simp [Value.ownBlock] at hg h
      omega
  case round =>
    obtain ⟨pos, part, parts, acc, rfl, rfl, rfl, HR, HO, HP, HN, HT⟩ := hrel
    have hp0 := HR.out.len
    have hfew := HR.out.few
    have hsh := HR.out.short
    have hso := HR.out.some_
    have h0 : (0 : Int) ≤ (pos : Int) := by omega
    obtain ⟨A, ca, rfl, hca1, hca2⟩ := own_form HO.out
    obtain ⟨B, cb, rfl, hcb1, hcb2⟩ := own_form HP.out
    by_cases hlt : pos < L.length
    case pos =>
      have h1 : (pos : Int) < (L.length : Int) := by omega
      have hb := byte_at L pos hlt
      have HMORE := Lib.hid (fun b h1 h2 h3 => HR.out.more (b := b) hlt h1 h2 h3)
      have HBLANK := Lib.hid (HR.out.blank hlt)
      have HMANY := Lib.hid (HR.out.many hlt)
      have HFOUR := Lib.hid (HR.out.four hlt)
      generalize L.getD pos 0 = b at hb HMORE HBLANK HMANY HFOUR
      by_cases hb32 : b = 32
      case pos =>
        subst hb32
        rw [show (32 : UInt8).toNat = 32 from rfl] at hb
        have HBL := Lib.hid (HBLANK.out rfl)
        clear HMORE HBLANK HMANY HFOUR
        go_wp2_with (at_builtin; refine wpList_append_reads _ rfl (.tmp 43) (.tmp 45) 55 rfl w.heap.size 9 i1 (str []) 1 16 Tryd.underlying55 hi1 hy0 hy1 hy2 rfl (by decide) (.slice B parts.length cb) parts.length (parts.map str) rfl ?o1 (some ⟨wr.heap.size, 0, none⟩) 1 1 [str part] rfl ?o2 ?o3 ?o4 ?o5 ?o6 ?_)
        case o1 => exact HP.out.alloc _
        case o2 => exact reads_str wr 9 part
        case o3 => exact strs_one [part]
        case o4 => unfold maxLen; omega
        case o5 => omega
        case o6 => have := HT.out.size; simp; omega
        intro v5 w5 hown hgr hob
        rw [strs_snoc] at hown
        have HO5 := Lib.hid (own_apart (HO.out.alloc _) hgr HN.out)
        have HT5 := Lib.hid ((HT.out.alloc _).grown hgr (fun g hg hlt => absurd (own_block_ge HP.out hg) (by omega)))
        have HN5 := Lib.hid (show ∀ g, (Value.slice A acc.length ca).ownBlock = some g → v5.ownBlock ≠ some g from fun g hg h => by
          rcases hob with hob | hob
          · exact HN.out g hg (hob.symm.trans h)
          · have h2 := (HO.out.lt g hg).2
            rw [h] at hob
            have h3 := Option.some.inj hob
            have h4 : (wr.alloc (.cells #[str part] 9)).heap.size = wr.heap.size + 1 := by simp
            omega)
        have HP5 := Lib.hid hown
        clear hown hgr hob HO HP HN HT
        go_wp2
        go_roundg (L.length - (pos + 1))
        case rel => exact ⟨pos + 1, [], parts ++ [part], acc, rfl, by go_num, rfl, HBL, HO5, by rw [List.length_append, List.length_singleton]; exact HP5, HN5, HT5⟩
        case measure => omega
      case neg =>
        by_cases hb10 : b = 10
        case pos =>
          subst hb10
          rw [show (10 : UInt8).toNat = 10 from rfl] at hb
          have HMY := Lib.hid (HMANY.out rfl)
          have HFR := Lib.hid (HFOUR.out rfl)
          clear HMORE HBLANK HMANY HFOUR hb32
          go_wp2_with (at_builtin; refine wpList_append_reads _ rfl (.tmp 43) (.tmp 45) 55 rfl w.heap.size 9 i1 (str []) 1 16 Tryd.underlying55 hi1 hy0 hy1 hy2 rfl (by decide) (.slice B parts.length cb) parts.length (parts.map str) rfl ?o1 (some ⟨wr.heap.size, 0, none⟩) 1 1 [str part] rfl ?o2 ?o3 ?o4 ?o5 ?o6 ?_)
          case o1 => exact HP.out.alloc _
          case o2 => exact reads_str wr 9 part
          case o3 => exact strs_one [part]
          case o4 => unfold maxLen; omega
          case o5 => omega
          case o6 => have := HT.out.size; simp; omega
          intro v5 w5 hown hgr hob
          rw [strs_snoc] at hown
          have HO5 := Lib.hid (own_apart (HO.out.alloc _) hgr HN.out)
          have HT5 := Lib.hid ((HT.out.alloc _).grown hgr (fun g hg hlt => absurd (own_block_ge HP.out hg) (by omega)))
          have HN5 := Lib.hid (show ∀ g, (Value.slice A acc.length ca).ownBlock = some g → v5.ownBlock ≠ some g from fun g hg h => by
            rcases hob with hob | hob
            · exact HN.out g hg (hob.symm.trans h)
            · have h2 := (HO.out.lt g hg).2
              rw [h] at hob
              have h3 := Option.some.inj hob
              have h4 : (wr.alloc (.cells #[str part] 9)).heap.size = wr.heap.size + 1 := by simp
              omega)
          have HP5 := Lib.hid hown
          clear hown hgr hob HO HP HN HT
          obtain ⟨C, c5, rfl, hcc1, hcc2⟩ := own_form HP5.out
          by_cases h4 : parts.length + 1 = 4
          case neg =>
            have HMY2 := Lib.hid (HMY.out (by simpa using h4))
            have hb4 : (((parts.length + 1 : Nat) : Int) != 4) = true := by rw [bne_iff_ne]; omega
            obtain ⟨m, hm⟩ : ∃ m, m = parts.length + 1 := ⟨_, rfl⟩
            rw [← hm] at HP5 hb4 ⊢
            clear hm h4 hcc1
            go_wp2
            go_ret3
            exact ⟨.inr ⟨_, HMY2.out, by simp⟩, HT5.out⟩
          case pos =>
            obtain ⟨p0, p1, p2, p3, hpp, l0, l1, l2, l3, hfour⟩ := HFR.out (by simpa using h4)
            rw [h4, hpp] at HP5
            rw [h4]
            have HL4 := Lib.hid (fun t a n b1 b2 b3 h1 h2 h3 => hfour (t := t) (a := a) (n := n) (b1 := b1) (b2 := b2) (b3 := b3) h1 h2 h3)
            obtain ⟨q, off, rfl, hc⟩ := (Reads.of_own HP5.out).2 (by omega)
            have d0 : w5.cell? ⟨q, off, none⟩ = some (str p0) := hc 0 _ rfl
            have d1 := hc 1 _ rfl
            have d2 := hc 2 _ rfl
            have d3 := hc 3 _ rfl
            have HD0 := Lib.hid d0
            have HD2 := Lib.hid d2
            have HD3 := Lib.hid d3
            clear hc hfour hpp HFR HMY h4 d0 d2 d3 hcc1 hcc2 hca1 hca2 hcb1 hcb2
            go_wp2_with fail
            clear hb
            refine (num_calls p1 (by omega) _).mono ?_
            rintro e w6 ⟨t, b1, rfl, hn, ht⟩
            have HN1 := Lib.hid hn
            have HT6 := Lib.hid ht
            have d2 := ht.cell HD2.out (fun h => h)
            clear hn ht d1
            go_wp2_with fail
            refine (num_calls p2 (by omega) _).mono ?_
            rintro e w7 ⟨a, b2, rfl, hn, ht⟩
            have HN2 := Lib.hid hn
            have HT7 := Lib.hid (HT6.out.trans ht (fun _ _ h => h))
            have d3 := HT7.out.cell HD3.out (fun h => h)
            clear hn ht d2
            go_wp2_with fail
            refine (num_calls p3 (by omega) _).mono ?_
            rintro e w8 ⟨n, b3, rfl, hn, ht⟩
            have HN3 := Lib.hid hn
            have HT8 := Lib.hid (HT7.out.trans ht (fun _ _ h => h))
            have HLN := Lib.hid (HL4.out t a n b1 b2 b3 HN1.out HN2.out HN3.out)
            have HD8 := Lib.hid (HT8.out.cell HD0.out (fun h => h))
            clear hn ht d3 HN1 HN2 HN3 HL4 HD0 HD2 HD3 HT6 HT7
            go_wp2_with fail
            obtain ⟨wq, hwq⟩ : ∃ x, x = (w8.alloc (.cells #[.int .i64 0, .int .i64 t, .int .i64 a, .int .i64 n] 36)) := ⟨_, rfl⟩
            have HX0 := Lib.hid (show Holds4 wq w8.heap.size ⟨kindTo p0 1, t, a, n⟩ from by rw [hwq, kindTo_one]; exact ⟨by simp, by simp, by simp, by simp⟩)
            have HF0 := Lib.hid (show ∀ j, wq.frozen? ⟨w8.heap.size, j, none⟩ = false from by intro j; rw [hwq]; unfold World.frozen?; rw [heap_alloc_new]; simp)
            have HT0 := Lib.hid (show Turn nowhere w8 wq from by rw [hwq]; exact (Turn.refl _ _).alloc _)
            have HS0 := Lib.hid (show w8.heap.size < wq.heap.size from by rw [hwq]; simp)
            rw [← hwq]
            clear hwq
            go_loopg [16] 9 (fun g kd wr => ∃ j : Nat, g = 10 - j ∧ 1 ≤ j ∧ j ≤ 9 ∧ kd = .int .i64 j ∧ Hid (Holds4 wr w8.heap.size ⟨kindTo p0 j, t, a, n⟩) ∧ Hid (Turn nowhere w8 wr) ∧ Hid (∀ j, wr.frozen? ⟨w8.heap.size, j, none⟩ = false) ∧ Hid (w8.heap.size < wr.heap.size))
            case atStart => exact ⟨1, rfl, by omega, by omega, rfl, HX0, HT0, HF0, HS0⟩
            case round =>
              obtain ⟨j, rfl, hj1, hj9, rfl, HX, HT, HF, HS⟩ := hrel
              clear HX0 HT0 HF0 HS0
              have h0 : (0 : Int) ≤ (j : Int) := by omega
              by_cases hlt : j < 9
              case pos =>
                have h9 : (j : Int) < 9 := by omega
                have HLZ := Lib.hid (line_zeros hj1 (show j ≤ 8 by omega))
                have HKS := Lib.hid (kindTo_step p0 j)
                obtain ⟨wb, hwb⟩ : ∃ x, x = (wr.alloc (.cells #[.int .i64 j, .int .i64 0, .int .i64 0, .int .i64 0] 36)) := ⟨_, rfl⟩
                have y0 : wb.cell? ⟨wr.heap.size, 0, none⟩ = some (.int .i64 j) := by rw [hwb]; simp
                have y1 : wb.cell? ⟨wr.heap.size, 1, none⟩ = some (.int .i64 0) := by rw [hwb]; simp
                have y2 : wb.cell? ⟨wr.heap.size, 2, none⟩ = some (.int .i64 0) := by rw [hwb]; simp
                have y3 : wb.cell? ⟨wr.heap.size, 3, none⟩ = some (.int .i64 0) := by rw [hwb]; simp
                have HTB := Lib.hid (show Turn nowhere wr wb from by rw [hwb]; exact (Turn.refl _ _).alloc _)
                have z0 := HTB.out.cell (HT.out.cell HD8.out (fun h => h)) (fun h => h)
                have HSS := Lib.hid (show ∀ V, Turn nowhere wb V → (Turn nowhere wb V ∧ V.cell? ⟨wr.heap.size, 0, none⟩ = some (.int .i64 j) ∧ V.cell? ⟨wr.heap.size, 1, none⟩ = some (.int .i64 0) ∧ V.cell? ⟨wr.heap.size, 2, none⟩ = some (.int .i64 0) ∧ V.cell? ⟨wr.heap.size, 3, none⟩ = some (.int .i64 0) ∧ V.cell? ⟨q, off, none⟩ = some (str p0)) from
                  fun V h => ⟨h, h.cell y0 (fun h => h), h.cell y1 (fun h => h), h.cell y2 (fun h => h), h.cell y3 (fun h => h), h.cell z0 (fun h => h)⟩)
                have hadd := fun w => add_run p0 zeros (by omega) (by simp [zeros]) w
                unfold zeros at hadd
                obtain ⟨qq, hqq⟩ : ∃ x, x = p0 ++ zeros := ⟨_, rfl⟩
                unfold zeros at hqq
                rw [← hqq] at hadd
                have HQQ := Lib.hid hqq
                clear hqq
                go_upto_region 22 with fail
                rw [← hwb]
                clear hwb y0 y1 y2 y3 z0
                go_region_held3 (fun w' => Turn nowhere wb w' ∧ w'.cell? ⟨wr.heap.size, 0, none⟩ = some (.int .i64 j) ∧ w'.cell? ⟨wr.heap.size, 1, none⟩ = some (.int .i64 0) ∧ w'.cell? ⟨wr.heap.size, 2, none⟩ = some (.int .i64 0) ∧ w'.cell? ⟨wr.heap.size, 3, none⟩ = some (.int .i64 0) ∧ w'.cell? ⟨q, off, none⟩ = some (str p0))
                  (first | exact HSS.out _ HTA.out | exact HSS.out _ (Turn.refl _ _).drew)
                  ((go_at_call 13; refine (rline_calls ⟨(j : Int), 0, 0, 0⟩ (kind_i64 (by omega)) _).mono ?_; rintro e wA ⟨rfl, ht⟩; have HTA := Lib.hid ((Turn.refl nowhere wb).drew.trans ht (fun _ _ h => h)); clear ht))
                have HTW := Lib.hid (HTB.out.trans HTA.out (fun _ _ h => h))
                have HXA := Lib.hid (HX.out.turn HTW.out (fun h => h))
                have HFA := Lib.hid (show ∀ i, wA.frozen? ⟨w8.heap.size, i, none⟩ = false from fun i => by rw [frozen_turn HTW.out HS.out (fun h => h)]; exact HF.out i)
                have HTD := Lib.hid (HT.out.trans HTW.out (fun _ _ h => h))
                have HSA := Lib.hid (Nat.lt_of_lt_of_le HS.out HTW.out.size)
                clear HX HF HT HS HTB HTA
                by_cases hkp : wordOf (j : Int) = p0
                case pos =>
                  have hb : (lineOf ⟨(j : Int), 0, 0, 0⟩ == qq) = true := by rw [HLZ.out, HQQ.out, hkp]; exact beq_self_eq_true _
                  have HK := Lib.hid (show kindTo p0 (j + 1) = j from by rw [HKS.out, if_pos hkp])
                  have c0 := HXA.out.c0
                  have f0 := HFA.out 0
                  clear hkp HLZ HQQ
                  generalize lineOf ⟨(j : Int), 0, 0, 0⟩ = ln at hb ⊢
                  rw [hb]
                  go_wp2
                  go_roundg (10 - (j + 1))
                  case rel => exact ⟨j + 1, rfl, by omega, by omega, by go_num, by rw [HK.out]; exact (put4 HXA.out).1 j, HTD.out.setCell (.inr (Nat.le_refl _)) _, fun i => by rw [World.frozen?_setCell]; exact HFA.out i, Lib.hid (by simpa using HSA.out)⟩
                  case measure => omega
                case neg =>
                  have hb : (lineOf ⟨(j : Int), 0, 0, 0⟩ == qq) = false := by
                    rw [beq_eq_false_iff_ne, HLZ.out, HQQ.out]
                    exact fun h => hkp (List.append_cancel_right h)
                  have HK := Lib.hid (show kindTo p0 (j + 1) = kindTo p0 j from by rw [HKS.out, if_neg hkp])
                  clear hkp HLZ HQQ
                  generalize lineOf ⟨(j : Int), 0, 0, 0⟩ = ln at hb ⊢
                  rw [hb]
                  go_wp2
                  go_roundg (10 - (j + 1))
                  case rel => exact ⟨j + 1, rfl, by omega, by omega, by go_num, by rw [HK.out]; exact HXA, HTD, HFA, HSA⟩
                  case measure => omega
              case neg =>
                obtain rfl : j = 9 := by omega
                have c0 := HX.out.c0
                have HX9 := Lib.hid HX.out
                have HT9 := Lib.hid ((HT5.out.trans HT8.out (fun _ _ h => h)).trans HT.out (fun _ _ h => h))
                have HO9 := Lib.hid ((HT8.out.trans HT.out (fun _ _ h => h)).own HO5.out (fun _ _ h => h))
                clear HT HF HS HX HT5 HT8 HO5 HP5 HN5 HD8 h0
                by_cases hK : kindTo p0 9 = 0
                case pos =>
                  have HE := Lib.hid (HLN.out.2 (.inl hK))
                  clear HLN HX9
                  rw [hK] at c0
                  clear hK
                  go_wp2
                  go_ret3
                  exact ⟨.inr ⟨_, HE.out, by simp⟩, HT9.out⟩
                case neg =>
                  generalize kindTo p0 9 = K at c0 hK HLN HX9
                  have hb : (K == 0) = false := beq_eq_false_iff_ne.2 hK
                  cases b1 with
                  | false =>
                    have HE := Lib.hid (HLN.out.2 (.inr (.inl rfl)))
                    clear HLN HX9 hK
                    go_wp2
                    go_ret3
                    exact ⟨.inr ⟨_, HE.out, by simp⟩, HT9.out⟩
                  | true =>
                    cases b2 with
                    | false =>
                      have HE := Lib.hid (HLN.out.2 (.inr (.inr (.inl rfl))))
                      clear HLN HX9 hK
                      go_wp2
                      go_ret3
                      exact ⟨.inr ⟨_, HE.out, by simp⟩, HT9.out⟩
                    | true =>
                      cases b3 with
                      | false =>
                        have HE := Lib.hid (HLN.out.2 (.inr (.inr (.inr rfl))))
                        clear HLN HX9 hK
                        go_wp2
                        go_ret3
                        exact ⟨.inr ⟨_, HE.out, by simp⟩, HT9.out⟩
                      | true =>
                        have HNX := Lib.hid (HLN.out.1 ⟨hK, rfl, rfl, rfl⟩)
                        have c1 := HX9.out.c1
                        have c2 := HX9.out.c2
                        have c3 := HX9.out.c3
                        simp only at c0 c1 c2 c3
                        clear HLN HX9 hK
                        go_wp2_with (at_builtin; refine wpList_append_reads _ rfl (.tmp 115) (.tmp 117) 30 rfl w.heap.size 36 i0 (.agg #[.int .i64 0, .int .i64 0, .int .i64 0, .int .i64 0]) 4 32 Tryd.underlying30 hi hz0 hz1 hz2 rfl (by decide) (.slice A acc.length ca) acc.length (evs acc) rfl ?q1 (some ⟨wr.heap.size, 0, none⟩) 1 1 (Ev.cells ⟨K, t, a, n⟩) rfl ?q2 ?q3 ?q4 ?q5 ?q6 ?_)
                        case q1 => exact HO9.out.alloc _
                        case q2 => exact reads_lit (w := wr) (t := 36) (size := 4) (n := 1) #[.int .i64 K, .int .i64 t, .int .i64 a, .int .i64 n] rfl (by simp [maxLen])
                        case q3 => exact fun u hu => evs_one [⟨K, t, a, n⟩] u (by simpa [evs] using hu)
                        case q4 => unfold maxLen; omega
                        case q5 => omega
                        case q6 => have := HT9.out.size; simp; omega
                        intro v9 w9 hown hgr _
                        rw [← evs_snoc] at hown
                        have HO10 := Lib.hid hown
                        have HT10 := Lib.hid ((HT9.out.alloc _).grown hgr (fun g hg hlt => absurd (own_block_ge HO9.out hg) (by omega)))
                        clear hown hgr HO9 HT9
                        go_wp2
                        go_roundg (L.length - (pos + 1))
                        case rel => exact ⟨pos + 1, [], [], acc ++ [⟨K, t, a, n⟩], rfl, by go_num, rfl, HNX, by rw [List.length_append, List.length_singleton]; exact HO10, World.ownsRow_nil _ _ _ _, fun g _ h => (by cases h), HT10⟩
                        case measure => omega
        case neg =>
          have HM := Lib.hid (HMORE.out b rfl hb32 hb10)
          have n1 : ((b.toNat : Int) != 32) = true := by
            rw [bne_iff_ne]
            intro h
            exact hb32 (UInt8.toNat_inj.1 (by show b.toNat = 32; omega))
          have n2 : ((b.toNat : Int) != 10) = true := by
            rw [bne_iff_ne]
            intro h
            exact hb10 (UInt8.toNat_inj.1 (by show b.toNat = 10; omega))
          have hcv := byte_str wr b
          have hadd := fun w => add_run part [b] (by omega) (by simp) w
          clear HMORE HBLANK HMANY HFOUR hb32 hb10
          go_wp2
          go_roundg (L.length - (pos + 1))
          case rel => exact ⟨pos + 1, part ++ [b], parts, acc, rfl, by go_num, rfl, HM, HO.out.alloc _, HP.out.alloc _, HN, HT.out.alloc _⟩
          case measure => omega
    case neg =>
      obtain rfl : pos = L.length := by omega
      have hfin := HR.out.fin
      clear hlt
      by_cases hq : 0 < parts.length
      case pos =>
        rw [if_neg (fun h => by rw [h.1] at hq; simp at hq)] at hfin
        have HF := Lib.hid hfin
        have hq1 : (0 : Int) < (parts.length : Int) := by omega
        clear hfin
        go_wp2
        go_ret3
        exact ⟨.inr ⟨_, HF.out, by simp⟩, HT.out⟩
      case neg =>
        have hq1 : ¬ (0 : Int) < (parts.length : Int) := by omega
        have hp1 : parts = [] := List.eq_nil_of_length_eq_zero (by omega)
        by_cases hpt : part = []
        case neg =>
          rw [if_neg (fun h => hpt h.2)] at hfin
          have HF := Lib.hid hfin
          have hb : part.isEmpty = false := by cases part with
            | nil => exact absurd rfl hpt
            | cons _ _ => rfl
          clear hfin hp1 hpt
          go_wp2
          go_ret3
          exact ⟨.inr ⟨_, HF.out, by simp⟩, HT.out⟩
        case pos =>
          rw [if_pos ⟨hp1, hpt⟩] at hfin
          have HF := Lib.hid hfin
          subst hpt
          clear hfin hp1
          go_wp2
          go_ret3
          exact ⟨.inl ⟨_, _, HF.out, rfl, HO.out, by omega⟩, HT.out⟩

end Go.Proofs.YtbeapjndgkjpeaaDoor
