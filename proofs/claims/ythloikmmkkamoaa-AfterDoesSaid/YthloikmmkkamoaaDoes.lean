/- The contract of AfterDoes: true. -/
import Derived.Test.YthloikmmkkamoaaOnce
import Derived.Test.YthloikmmkkamoaaRefFire
namespace Go.Proofs.Ythloikmmkkamoaa
open Go.RowKit Go.Maps

/-- Both lists hold the same, apart from each other. -/
def Both (w wr : World) (la rb : Nat) (rows : List Reg) (most : Int) (k : Nat) : Prop :=
  ∃ G1 G2 : Nat → Prop, AList wr G1 la rows most k ∧ RList wr G2 rb rows most ∧ (∀ q, G1 q → w.heap.size ≤ q) ∧ (∀ q, G2 q → w.heap.size ≤ q) ∧ ∀ q, G1 q → ¬ G2 q

/-- Behind the switch: both have answered alike. -/
def DoesMid (w wx : World) (la rb xb k : Nat) (mn : Int) (r1 : List Reg) (rout : List Int) (A5 A6 : Option Addr) (m5 m6 : Nat) (ya : Int) : Prop :=
  ∃ H H2 : Nat → Prop, AList wx H la r1 mn (k + 1) ∧ RList wx H2 rb r1 mn ∧ (∀ q, H q → w.heap.size ≤ q) ∧ (∀ q, H2 q → w.heap.size ≤ q) ∧ (∀ q, H q → ¬ H2 q) ∧
    Reads wx 1 A5 m5 (ints rout) ∧ Reads wx 1 A6 m6 (ints rout) ∧ Turn nowhere w wx ∧ wx.cell? ⟨xb, 1, none⟩ = some (.int .i64 ya)

theorem DoesMid.of {w w5 w6 wx : World} {la rb xb k : Nat} {mn : Int} {r1 : List Reg} {rout : List Int} {A5 A6 : Option Addr} {m5 m6 : Nat} {ya : Int} {H H2 G2 : Nat → Prop}
    (ha : AList w5 H la r1 mn (k + 1)) (hl : ∀ q, H q → w.heap.size ≤ q) (hd : ∀ q, H q → ¬ G2 q) (hl2 : ∀ q, G2 q → w.heap.size ≤ q) (hb2 : ∀ q, G2 q → q < xb) (ht : Turn nowhere w w5) (t6 : Turn nowhere w5 w6)
    (hb : RList wx H2 rb r1 mn) (hm : ∀ q, H2 q → more G2 w6 wx q) (t7 : Turn G2 w6 wx) (hrd : Reads w5 1 A5 m5 (ints rout)) (hnew : 0 < m5 → ∀ ad, A5 = some ad → xb < ad.block)
    (h6 : Reads wx 1 A6 m6 (ints rout)) (hx : w5.cell? ⟨xb, 1, none⟩ = some (.int .i64 ya)) : DoesMid w wx la rb xb k mn r1 rout A5 A6 m5 m6 ya := by
  have t8 : Turn G2 w5 wx := (t6.mono (G := G2) (fun _ _ h => h.elim)).trans t7 (fun _ _ h => h)
  refine ⟨H, H2, ha.turn t8 hd, hb, hl, ?_, ?_, ?_, h6, ht.trans t8 (fun i hi h => absurd (hl2 i h) (by omega)), t8.cell hx (fun h => Nat.lt_irrefl _ (hb2 _ h))⟩
  · intro q hq
    rcases hm q hq with h | h
    · exact hl2 q h
    · have := h.1; have := t6.size; have := ht.size; omega
  · intro q hq h2
    rcases hm q h2 with h | h
    · exact hd q hq h
    · have := ha.fb q hq; have := h.1; have := t6.size; omega
  · rcases Nat.eq_zero_or_pos m5 with h0 | h0
    · exact ⟨hrd.1, fun h => absurd h (by omega)⟩
    · exact hrd.turn t8 (fun ad he h => by have := hnew h0 ad he; have := hb2 _ h; omega)

set_option maxRecDepth 20000 in
set_option maxHeartbeats 6400000 in
theorem does_core (w : World) (mn : Nat) (h1 : 1 ≤ mn) (h40 : mn ≤ 40) (A : Option Addr) (n c : Nat) (l : List ActC) (hl : l.length = n)
    (hok : ∀ k, k < n → ActOK w w.heap.size (l.getD k default)) (hr : Reads w 4 A n (acts l)) (hsm : largeB l = false) :
    Calls Try.prog 3 #[.int .i64 mn, .slice A n c] w (OkTrue w) := by
  obtain ⟨hn, hms⟩ := small_of hsm
  rw [hl] at hn hms
  have HK := Lib.hid hok
  have HR := Lib.hid hr
  have HL := Lib.hid hl
  have HS := Lib.hid hsm
  have HMS := Lib.hid hms
  clear hok hr hl hsm hms
  have hm4 : decide ((40 : Int) < (mn : Int)) = false := by simp; omega
  go_enter Try.func3, Try.ntmps3
  go_wp2_with fail
  refine (awake_calls w).mono ?_
  rintro e w1 ⟨rfl, ht⟩
  have HT1 := Lib.hid ht
  clear ht
  go_wp2_with fail
  refine (large_calls _ n c l w1 (HR.out.kept HT1.out) (by omega) (fun k hk => (HK.out k hk).2.2.2.2)).mono ?_
  rintro e w2 ⟨he, ht⟩
  rw [HS.out] at he
  subst he
  have HT2 := Lib.hid (HT1.out.trans ht (fun _ _ h => h))
  clear ht
  go_wp2_with fail
  refine (new_ok mn w2 (by omega) (by omega)).mono ?_
  rintro e w3 ⟨la, rfl, ha, ht⟩
  have HA3 := Lib.hid ha
  have HT3 := Lib.hid (HT2.out.trans ht (fun _ _ h => h))
  have HL3 := Lib.hid (show ∀ k, fresh w2 w3 k → w.heap.size ≤ k from fun k h => by have := HT2.out.size; have := h.1; omega)
  clear ha ht
  go_wp2_with fail
  refine (rnew_ok mn w3 (by omega) (by omega)).mono ?_
  rintro e w4 ⟨rb, rfl, hb, ht⟩
  have HA4 := Lib.hid (HA3.out.turn ht (fun _ _ h => h))
  have HB4 := Lib.hid hb
  have HT4 := Lib.hid (HT3.out.trans ht (fun _ _ h => h))
  have HM4 := Lib.hid (show ∀ k, fresh w3 w4 k → w.heap.size ≤ k from fun k h => by have := HT3.out.size; have := h.1; omega)
  have HD4 := Lib.hid (show ∀ k, fresh w2 w3 k → ¬ fresh w3 w4 k from fun k h h' => by have := h.2; have := h'.1; omega)
  clear hb ht HA3
  go_wp2_with fail
  go_loopg [55] n (fun g i wr => ∃ k : Nat, g = n - k ∧ k ≤ n ∧ i = .int .i64 k ∧ Hid (Both w wr la rb (run mn (actsOf (l.take k))) mn k) ∧ Hid (Turn nowhere w wr))
  case atStart => exact ⟨0, rfl, Nat.zero_le _, rfl, ⟨_, _, HA4.out, HB4.out, HL3.out, HM4.out, HD4.out⟩, HT4⟩
  case round =>
    obtain ⟨k, rfl, hk, rfl, HP, HT⟩ := hrel
    have h0 : (0 : Int) ≤ (k : Int) := by omega
    clear HA4 HB4 HL3 HM4 HD4 HT1 HT2 HT3 HT4
    by_cases hlt : k < n
    case pos =>
      have hkn : (k : Int) < (n : Int) := by omega
      obtain ⟨b, off, rfl, hx⟩ := HR.out.act (by omega)
      have ha := (hx k hlt).turn HT.out (fun h => h)
      clear hx
      have HOK := Lib.hid (HK.out k hlt)
      have hm6 := HMS.out k hlt
      have HTK := Lib.hid (actsOf_snoc l k (by rw [HL.out]; exact hlt))
      generalize l.getD k default = y at ha HOK hm6 HTK
      obtain ⟨yd, ya, yb, yA, ym, yc, yo⟩ := y
      obtain ⟨a0, a1, a2, a3⟩ := ha
      simp only at a0 a1 a2 a3 hm6
      have hrl : (run mn (actsOf (l.take k))).length ≤ mn := run_len mn (actsOf (l.take k))
      obtain ⟨rows, hrows⟩ : ∃ r, r = run mn (actsOf (l.take k)) := ⟨_, rfl⟩
      have HRW := Lib.hid hrows
      rw [← hrows] at HP hrl
      clear hrows
      have hrl2 : rows.length ≤ 200 := by omega
      obtain ⟨G1, G2, hA, hB, hL1, hL2, hD⟩ := HP.out
      have t1 : Turn nowhere wr (wr.alloc (.cells #[.int .i64 yd, .int .i64 ya, .int .i64 yb, .slice yA ym yc] 34)) := (Turn.refl _ _).alloc _
      have HA := Lib.hid (hA.turn t1 (fun _ _ h => h))
      have HB := Lib.hid (hB.turn t1 (fun _ _ h => h))
      have HFB := Lib.hid hA.fb
      have HGB := Lib.hid hB.fb
      have HL1 := Lib.hid hL1
      have HL2 := Lib.hid hL2
      have HD := Lib.hid hD
      have HT1 := Lib.hid t1
      have hdn := do_new HA.out hrl2 (by omega) ⟨yd, ya, yb, yo⟩ yA ym yc (by omega) ((HOK.out.1.kept HT.out).kept HT1.out) (HOK.out.off HL1.out) HOK.out.2.2.1 HOK.out.2.1
      have HRN := Lib.hid (show (doTo mn rows ⟨yd, ya, yb, yo⟩).1 = run mn (actsOf (l.take (k + 1))) by rw [HTK.out, run_snoc, ← HRW.out]; rfl)
      have hob := do_out_len mn rows ⟨yd, ya, yb, yo⟩
      have hob2 : rows.length * yo.length ≤ 200 * 60 := Nat.mul_le_mul hrl2 (by have := HOK.out.1.1; simp at this; omega)
      generalize hr : doTo mn rows ⟨yd, ya, yb, yo⟩ = r at hdn HRN hob
      obtain ⟨r1, rk, re, ris, rout⟩ := r
      have HDC := Lib.hid hdn
      have HDO := Lib.hid hr
      clear hA hB hL1 hL2 hD t1 HP hdn hr
      simp only at HRN hob
      have hob3 : rout.length ≤ 12000 := Nat.le_trans hob hob2
      clear hob hob2
      go_wp2_with fail
      refine HDC.out.mono ?_
      clear HDC
      rintro e w5 ⟨A5, m5, c5, rfl, hrd, hm5, H, hA5, hGm, hnew, ht5⟩
      simp only at hrd hm5 hA5 ⊢
      have hm5b : m5 ≤ 12000 := by omega
      have HRD := Lib.hid hrd
      have HM5 := Lib.hid hm5
      have HA5 := Lib.hid hA5
      have HB5 := Lib.hid (HB.out.turn ht5 (fun q h2 h1 => HD.out q h1 h2))
      have HD5 := Lib.hid (more_apart HD.out HB.out.fb hGm)
      have HNW := Lib.hid (show 0 < m5 → ∀ ad, A5 = some ad → wr.heap.size < ad.block from fun h0 ad he => by have := hnew h0 ad he; simp at this; omega)
      have HL5 := Lib.hid (show ∀ q, H q → w.heap.size ≤ q from fun q h => least_step (HT.out.alloc _) HL1.out q (hGm q h))
      have HT5 := Lib.hid (below_step (HT.out.alloc (.cells #[.int .i64 yd, .int .i64 ya, .int .i64 yb, .slice yA ym yc] 34)) ht5 HL1.out)
      have hnb : ¬ G1 wr.heap.size := fun h => Nat.lt_irrefl _ (HFB.out _ h)
      have HE0 := Lib.hid (ht5.cell (p := ⟨wr.heap.size, 0, none⟩) (v := .int .i64 yd) (by simp) hnb)
      have HE1 := Lib.hid (ht5.cell (p := ⟨wr.heap.size, 1, none⟩) (v := .int .i64 ya) (by simp) hnb)
      have HE2 := Lib.hid (ht5.cell (p := ⟨wr.heap.size, 2, none⟩) (v := .int .i64 yb) (by simp) hnb)
      have HE3 := Lib.hid (ht5.cell (p := ⟨wr.heap.size, 3, none⟩) (v := .slice yA ym yc) (by simp) hnb)
      have hx5 : wr.heap.size < w5.heap.size := Nat.lt_of_lt_of_le (by simp) ht5.size
      have e0 := HE0.out
      have HXO := Lib.hid (show 0 < ym → Off G2 yA from HOK.out.off HL2.out)
      clear hob3 hrd hm5 hA5 hGm hnew ht5 hnb HA HB HFB HL1 HD HT1
      go_upto_block 2 with fail
      go_cut [15, 16, 17, 18] from 70 to 135 (fun s15 s16 s17 s18 wx => s15 = .int .i64 rk ∧ s16 = .int .i64 re ∧ s17 = .bool ris ∧ ∃ A6 m6 c6, s18 = .slice A6 m6 c6 ∧ Hid (DoesMid w wx la rb wr.heap.size k mn r1 rout A5 A6 m5 m6 ya))
      case first =>
        have HE6 := Lib.hid ((Turn.refl nowhere w5).alloc (.cells #[] 3))
        have HXR := Lib.hid (HOK.out.1.kept (HT5.out.trans HE6.out (fun _ _ h => h)))
        have HB6 := Lib.hid (HB5.out.turn HE6.out (fun _ _ h => h))
        have e1 := HE1.out
        have e2 := HE2.out
        have e3 := HE3.out
        by_cases hd0 : yd = 0
        case pos =>
          subst yd
          by_cases hfull : (rows.length : Int) = mn
          case pos =>
            have hdo : doTo mn rows ⟨0, ya, yb, yo⟩ = (rows, ⟨-1, 2, false, []⟩) := by simp only [doTo, if_true, addTo]; rw [if_pos hfull]
            have hj := HDO.out.symm.trans hdo
            simp only [Prod.mk.injEq, Ans.mk.injEq] at hj
            obtain ⟨hj1, hj2, hj3, hj4, hj5⟩ := hj
            have HJ1 := Lib.hid hj1
            clear hj1
            subst rk
            subst re
            subst ris
            subst rout
            clear hdo
            go_wp2_with fail
            refine (radd_full HB6.out hfull).mono ?_
            rintro e w7 ⟨rfl, ht7⟩
            have HT7 := Lib.hid ht7
            clear ht7
            go_wp2_with fail
            go_meet
            case rel =>
              exact ⟨rfl, rfl, rfl, _, _, _, rfl, DoesMid.of HA5.out HL5.out HD5.out HL2.out HGB.out HT5.out HE6.out (by rw [HJ1.out]; exact (HB6.out.turn HT7.out (fun _ _ h => h))) (fun _ h => .inl h) (HT7.out.mono (fun _ _ h => h.elim)) HRD.out HNW.out (Reads.none_ _ _ _) HE1.out⟩
          case neg =>
            have hdo : doTo mn rows ⟨0, ya, yb, yo⟩ = (rows ++ [⟨ya, yb, 1⟩], ⟨rows.length, 0, false, []⟩) := by simp only [doTo, if_true, addTo]; rw [if_neg hfull]
            have hj := HDO.out.symm.trans hdo
            simp only [Prod.mk.injEq, Ans.mk.injEq] at hj
            obtain ⟨hj1, hj2, hj3, hj4, hj5⟩ := hj
            have HJ1 := Lib.hid hj1
            clear hj1
            subst rk
            subst re
            subst ris
            subst rout
            clear hdo
            go_wp2_with fail
            refine (radd_room HB6.out (by omega) hrl2).mono ?_
            rintro e w7 ⟨rfl, hb7, ht7⟩
            have HT7 := Lib.hid ht7
            have HB7 := Lib.hid hb7
            clear ht7 hb7
            go_wp2_with fail
            go_meet
            case rel =>
              exact ⟨rfl, rfl, rfl, _, _, _, rfl, DoesMid.of HA5.out HL5.out HD5.out HL2.out HGB.out HT5.out HE6.out (by rw [HJ1.out]; exact HB7.out) (fun _ h => h) HT7.out HRD.out HNW.out (Reads.none_ _ _ _) HE1.out⟩
        case neg =>
          by_cases hd1 : yd = 1
          case pos =>
            clear hd0
            subst yd
            by_cases hs : canStop rows ya = true
            case pos =>
              obtain ⟨q, hqq, hql, hst⟩ := canStop_yes hs
              have hdo : doTo mn rows ⟨1, ya, yb, yo⟩ = (setSt rows q 3, ⟨0, 0, true, []⟩) := by
                show stopTo rows ya = _
                unfold stopTo
                rw [if_pos hs, hqq, Int.toNat_natCast]
              have hj := HDO.out.symm.trans hdo
              simp only [Prod.mk.injEq, Ans.mk.injEq] at hj
              obtain ⟨hj1, hj2, hj3, hj4, hj5⟩ := hj
              have HJ1 := Lib.hid hj1
              clear hj1
              subst rk
              subst re
              subst ris
              subst rout
              clear hdo
              clear hs
              subst ya
              go_wp2_with fail
              refine (rstop_yes HB6.out hrl2 hql hst).mono ?_
              rintro e w7 ⟨rfl, hb7, ht7⟩
              have HT7 := Lib.hid ht7
              have HB7 := Lib.hid hb7
              clear ht7 hb7
              go_wp2_with fail
              go_meet
              case rel =>
                exact ⟨rfl, rfl, rfl, _, _, _, rfl, DoesMid.of HA5.out HL5.out HD5.out HL2.out HGB.out HT5.out HE6.out (by rw [HJ1.out]; exact HB7.out) (fun _ h => .inl h) HT7.out HRD.out HNW.out (Reads.none_ _ _ _) HE1.out⟩
            case neg =>
              have hdo : doTo mn rows ⟨1, ya, yb, yo⟩ = (rows, ⟨0, 0, false, []⟩) := by
                show stopTo rows ya = _
                unfold stopTo
                rw [if_neg hs]
              have hj := HDO.out.symm.trans hdo
              simp only [Prod.mk.injEq, Ans.mk.injEq] at hj
              obtain ⟨hj1, hj2, hj3, hj4, hj5⟩ := hj
              have HJ1 := Lib.hid hj1
              clear hj1
              subst rk
              subst re
              subst ris
              subst rout
              clear hdo
              go_wp2_with fail
              refine (rstop_no HB6.out hrl2 (canStop_no (by simpa using hs))).mono ?_
              rintro e w7 ⟨rfl, ht7⟩
              have HT7 := Lib.hid ht7
              clear ht7
              go_wp2_with fail
              go_meet
              case rel =>
                exact ⟨rfl, rfl, rfl, _, _, _, rfl, DoesMid.of HA5.out HL5.out HD5.out HL2.out HGB.out HT5.out HE6.out (by rw [HJ1.out]; exact (HB6.out.turn HT7.out (fun _ _ h => h))) (fun _ h => .inl h) (HT7.out.mono (fun _ _ h => h.elim)) HRD.out HNW.out (Reads.none_ _ _ _) HE1.out⟩
          case neg =>
            by_cases hd2 : yd = 2
            case pos =>
              clear hd0 hd1
              subst yd
              have hdo : doTo mn rows ⟨2, ya, yb, yo⟩ = ((fireTo rows yo).1, ⟨0, 0, false, (fireTo rows yo).2⟩) := by simp [doTo]
              have hj := HDO.out.symm.trans hdo
              simp only [Prod.mk.injEq, Ans.mk.injEq] at hj
              obtain ⟨hj1, hj2, hj3, hj4, hj5⟩ := hj
              have HJ1 := Lib.hid hj1
              clear hj1
              subst rk
              subst re
              subst ris
              subst rout
              clear hdo
              go_wp2_with fail
              refine (rfire HB6.out hrl2 yA ym yc yo (by omega) HXR.out HXO.out).mono ?_
              rintro e w7 ⟨v, rfl, ho, hb7, ht7⟩
              obtain ⟨A6, c6, rfl, _, _⟩ := own_form ho
              have HT7 := Lib.hid ht7
              have HB7 := Lib.hid hb7
              have HO7 := Lib.hid ho
              clear ht7 hb7 ho
              go_wp2_with fail
              go_meet
              case rel =>
                exact ⟨rfl, rfl, rfl, _, _, _, rfl, DoesMid.of HA5.out HL5.out HD5.out HL2.out HGB.out HT5.out HE6.out (by rw [HJ1.out]; exact HB7.out) (fun _ h => .inl h) HT7.out HRD.out HNW.out (Reads.of_own HO7.out) HE1.out⟩
            case neg =>
              have hdo : doTo mn rows ⟨yd, ya, yb, yo⟩ = (rows, ⟨0, 0, false, []⟩) := by simp [doTo, hd0, hd1, hd2]
              have hj := HDO.out.symm.trans hdo
              simp only [Prod.mk.injEq, Ans.mk.injEq] at hj
              obtain ⟨hj1, hj2, hj3, hj4, hj5⟩ := hj
              have HJ1 := Lib.hid hj1
              clear hj1
              subst rk
              subst re
              subst ris
              subst rout
              clear hdo
              have hb0 : (yd == 0) = false := beq_eq_false_iff_ne.2 hd0
              have hb1 : (yd == 1) = false := beq_eq_false_iff_ne.2 hd1
              have hb2 : (yd == 2) = false := beq_eq_false_iff_ne.2 hd2
              clear hd0 hd1 hd2
              go_wp2_with fail
              go_meet
              case rel =>
                exact ⟨rfl, rfl, rfl, _, _, _, rfl, DoesMid.of HA5.out HL5.out HD5.out HL2.out HGB.out HT5.out HE6.out (by rw [HJ1.out]; exact HB6.out) (fun _ h => .inl h) (Turn.refl _ _) HRD.out HNW.out (Reads.none_ _ _ _) HE1.out⟩
      case rest =>
        obtain ⟨rfl, rfl, rfl, A6, m6, c6, rfl, HMID⟩ := hcut
        obtain ⟨J, J2, h01, h02, h03, h04, h05, h06, h07, h08, h09⟩ := HMID.out
        have HA7 := Lib.hid h01
        have HB7 := Lib.hid h02
        have HL7 := Lib.hid h03
        have HM7 := Lib.hid h04
        have HD7 := Lib.hid h05
        have HX7 := Lib.hid h06
        have HY7 := Lib.hid h07
        have HT7 := Lib.hid h08
        obtain ⟨rv, hB⟩ := h02
        obtain ⟨A8, c8, rfl, _, _⟩ := own_form hB.rws
        have HRW8 := Lib.hid (Reads.of_own hB.rws)
        have HSS := Lib.hid (show ∀ W, Turn nowhere wc W → (Turn nowhere wc W ∧ W.cell? ⟨rb, 0, none⟩ = some (.slice A8 r1.length c8) ∧ W.cell? ⟨wr.heap.size, 1, none⟩ = some (.int .i64 ya)) from fun W h => ⟨h, h.cell hB.c0 (fun h => h), h.cell h09 (fun h => h)⟩)
        have HYA := Lib.hid HOK.out.2.1
        have hr1 : r1.length ≤ 200 := by rw [HRN.out]; have := run_len mn (actsOf (l.take (k + 1))); omega
        have hwl : (waiting r1 ya).length ≤ 200 := Nat.le_trans (waiting_len _ _) hr1
        have c0 := hB.c0
        clear HMID h01 h03 h04 h05 h06 h07 h08 hB
        go_upto_region 23 with fail
        go_region_held3 (fun w' => Turn nowhere wc w' ∧ w'.cell? ⟨rb, 0, none⟩ = some (.slice A8 r1.length c8) ∧ w'.cell? ⟨wr.heap.size, 1, none⟩ = some (.int .i64 ya))
          (first | exact HSS.out _ (Turn.refl _ _).drew | exact HSS.out _ HTG.out | exact HSS.out _ HTF.out | exact HSS.out _ HTE.out | exact HSS.out _ HTD.out | exact HSS.out _ HTC.out | exact HSS.out _ HTB.out | exact HSS.out _ HTA.out)
          ((first
            | (go_at_call 14; refine (same_calls AE AF _ _ cE cF _ _ _ (HOE.out.kept HTEF.out) HOF.out (by omega)).mono ?_; rintro e wG ⟨rfl, j, hw⟩; have HTG := Lib.hid (show Turn nowhere wc wG from by rw [hw]; exact (HTF.out).drewN _); clear hw)
            | (go_at_call 14; refine (same_calls A5 A6 m5 m6 c5 c6 rout rout _ (HX7.out.kept (Turn.refl _ _).drew) (HY7.out.kept (Turn.refl _ _).drew) (by omega)).mono ?_; rintro e wA ⟨rfl, j, hw⟩; have HTA := Lib.hid (show Turn nowhere wc wA from by rw [hw]; exact ((Turn.refl _ _).drew).drewN _); clear hw)
            | (go_at_call 17; refine (rows_calls (HA7.out.turn HTA.out (fun _ _ h => h)) hr1).mono ?_; rintro e wB ⟨vB, rfl, ho, ht⟩; obtain ⟨AB, cB, rfl, _, _⟩ := own_form ho; have HOB := Lib.hid (Reads.of_own ho); have HTAB := Lib.hid ht; have HTB := Lib.hid (HTA.out.trans ht (fun _ _ h => h)); clear ho ht)
            | (go_at_call 16; refine (own_calls AB _ cB _ _ HOB.out (by omega)).mono ?_; rintro e wC ⟨vC, rfl, ho, ht⟩; obtain ⟨AC, cC, rfl, _, _⟩ := own_form ho; have HOC := Lib.hid (Reads.of_own ho); have HTBC := Lib.hid ht; have HTC := Lib.hid (HTB.out.trans ht (fun _ _ h => h)); clear ho ht)
            | (go_at_call 15; refine (sameR_calls AC A8 _ _ cC c8 r1 r1 _ HOC.out (HRW8.out.kept HTC.out) (by omega)).mono ?_; rintro e wD ⟨rfl, j, hw⟩; have HTD := Lib.hid (show Turn nowhere wc wD from by rw [hw]; exact (HTC.out).drewN _); clear hw)
            | (go_at_call 18; refine (waiting_calls (HA7.out.turn HTD.out (fun _ _ h => h)) hr1 HYA.out).mono ?_; rintro e wE ⟨vE, rfl, ho, ht⟩; obtain ⟨AE, cE, rfl, _, _⟩ := own_form ho; have HOE := Lib.hid (Reads.of_own ho); have HTDE := Lib.hid ht; have HTE := Lib.hid (HTD.out.trans ht (fun _ _ h => h)); clear ho ht)
            | (go_at_call 19; refine (rwaiting (HB7.out.turn HTE.out (fun _ _ h => h)) hr1).mono ?_; rintro e wF ⟨vF, rfl, ho, ht⟩; obtain ⟨AF, cF, rfl, _, _⟩ := own_form ho; have HOF := Lib.hid (Reads.of_own ho); have HTEF := Lib.hid ht; have HTF := Lib.hid (HTE.out.trans ht (fun _ _ h => h)); clear ho ht)))
        go_wp2
        go_roundg (n - (k + 1))
        case rel =>
          refine ⟨k + 1, rfl, by omega, by go_num, ⟨J, J2, ?_, ?_, HL7.out, HM7.out, HD7.out⟩, HT7.out.trans HTG.out (fun _ _ h => h)⟩
          · rw [← HRN.out]; exact HA7.out.turn HTG.out (fun _ _ h => h)
          · rw [← HRN.out]; exact HB7.out.turn HTG.out (fun _ _ h => h)
        case measure => omega
    case neg =>
      obtain rfl : k = n := by omega
      go_wp2
      go_ret
      exact ⟨rfl, HT.out⟩
end Go.Proofs.Ythloikmmkkamoaa
