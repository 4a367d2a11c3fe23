/- The contract of AfterStops: true. -/
import Derived.Test.YthloikmmkkamoaaAwake
import Derived.Test.YthloikmmkkamoaaPlain
namespace Go.Proofs.Ythloikmmkkamoaa
open Go.RowKit Go.Maps

/-- Each act as the arguments have it: its slice reads as its numbers, and lies below B. -/
def ActOK (w : World) (B : Nat) (x : ActC) : Prop :=
  Reads w 1 x.A x.m (ints x.on) ∧ wfi x.a ∧ (∀ k, k < x.m → wfi (x.on.getD k 0)) ∧ (0 < x.m → ∀ ad, x.A = some ad → ad.block < B) ∧ x.m ≤ 9223372036854775807

theorem small_of {l : List ActC} (h : largeB l = false) : l.length ≤ 60 ∧ ∀ k, k < l.length → (l.getD k default).m ≤ 60 := by
  unfold largeB at h
  rw [Bool.or_eq_false_iff] at h
  refine ⟨by have := h.1; simp at this; omega, fun k hk => ?_⟩
  have := (List.any_eq_false.1 h.2) (l[k]) (List.getElem_mem hk)
  simp only [List.getD, List.getElem?_eq_getElem hk, Option.getD_some]
  simp at this
  omega

theorem stopTo_len (rows : List Reg) (x : Int) : (stopTo rows x).1.length = rows.length := by
  unfold stopTo
  split
  · exact setSt_len _ _ _
  · rfl

/-- the acts themselves -/
def actsOf (l : List ActC) : List Act1 := l.map ActC.act
theorem actsOf_snoc (l : List ActC) (k : Nat) (h : k < l.length) : actsOf (l.take (k + 1)) = actsOf (l.take k) ++ [(l.getD k default).act] := by
  unfold actsOf
  rw [List.take_succ_eq_append_getElem h, List.map_append]
  simp only [List.getD, List.getElem?_eq_getElem h, Option.getD_some, List.map_cons, List.map_nil]

def OkTrue (w : World) (e : Ending) (w' : World) : Prop := e = .returned (.bool true) ∧ Turn nowhere w w'

theorem ActOK.off {w : World} {F : Nat → Prop} {x : ActC} (h : ActOK w w.heap.size x) (hl : ∀ k, F k → w.heap.size ≤ k) : 0 < x.m → Off F x.A := by
  intro hm ad he hF
  have := h.2.2.2.1 hm ad he
  have := hl _ hF
  omega

/-- Two lists of the same registrations, apart from each other. -/
def Pair (w wr : World) (la lb : Nat) (rows : List Reg) (k : Nat) : Prop :=
  ∃ G1 G2 : Nat → Prop, AList wr G1 la rows 40 k ∧ AList wr G2 lb rows 40 k ∧ (∀ q, G1 q → w.heap.size ≤ q) ∧ (∀ q, G2 q → w.heap.size ≤ q) ∧ ∀ q, G1 q → ¬ G2 q

theorem more_apart {G1 G2 G : Nat → Prop} {a b : World} (hd : ∀ q, G1 q → ¬ G2 q) (h2 : ∀ q, G2 q → q < a.heap.size) (hg : ∀ q, G q → more G1 a b q) : ∀ q, G q → ¬ G2 q := by
  intro q h hG2
  rcases hg q h with h | h
  · exact hd q h hG2
  · have := h2 q hG2; omega

set_option maxHeartbeats 1600000 in
theorem stops_core (w : World) (A : Option Addr) (n c : Nat) (l : List ActC) (q : Nat) (hq : q ≤ 255) (B : Option Addr) (m c2 : Nat) (ons : List Int) (hl : l.length = n)
    (hok : ∀ k, k < n → ActOK w w.heap.size (l.getD k default)) (hr : Reads w 4 A n (acts l)) (hm : m ≤ 60) (hsm : largeB l = false)
    (hon : Reads w 1 B m (ints ons)) (hwf : ∀ k, k < m → wfi (ons.getD k 0)) (hoff : 0 < m → ∀ ad, B = some ad → ad.block < w.heap.size) :
    Calls Try.prog 5 #[.slice A n c, .int .u8 (q : Int), .slice B m c2] w (OkTrue w) := by
  obtain ⟨j0, hy, hy0, hy1, hy2⟩ := info_parts Try.info3
  obtain ⟨hn, hms⟩ := small_of hsm
  rw [hl] at hn hms
  have HK := Lib.hid hok
  have HR := Lib.hid hr
  have HL := Lib.hid hl
  have HS := Lib.hid hsm
  have HON := Lib.hid hon
  have HWF := Lib.hid hwf
  have HOFF := Lib.hid hoff
  have HMS := Lib.hid hms
  clear hok hr hl hsm hon hwf hoff hms
  have hgm : decide ((60 : Int) < (m : Int)) = false := by simp; omega
  go_enter Try.func5, Try.ntmps5
  go_wp2_with fail
  refine (awake_calls w).mono ?_
  rintro e w1 ⟨rfl, ht⟩
  have HT1 := Lib.hid ht
  clear ht
  go_wp2_with fail
  refine (large_calls _ n c l w1 (HR.out.kept HT1.out) (by omega) (fun k hk => (HK.out k hk).2.2.2.2)).mono ?_
  rintro e w2 ⟨he, ht⟩
  rw [HS.out] at he
  subst he
  have HT2 := Lib.hid (HT1.out.trans ht (fun _ _ h => h))
  clear ht
  go_wp2_with fail
  refine (new_ok 40 w2 (by omega) (by omega)).mono ?_
  rintro e w3 ⟨la, rfl, ha, ht⟩
  have HA3 := Lib.hid ha
  have HT3 := Lib.hid (HT2.out.trans ht (fun _ _ h => h))
  have HL3 := Lib.hid (show ∀ k, fresh w2 w3 k → w.heap.size ≤ k from fun k h => by have := HT2.out.size; have := h.1; omega)
  clear ha ht
  go_wp2_with fail
  refine (new_ok 40 w3 (by omega) (by omega)).mono ?_
  rintro e w4 ⟨lb, rfl, hb, ht⟩
  have HA4 := Lib.hid (HA3.out.turn ht (fun _ _ h => h))
  have HB4 := Lib.hid hb
  have HT4 := Lib.hid (HT3.out.trans ht (fun _ _ h => h))
  have HM4 := Lib.hid (show ∀ k, fresh w3 w4 k → w.heap.size ≤ k from fun k h => by have := HT3.out.size; have := h.1; omega)
  have HD4 := Lib.hid (show ∀ k, fresh w2 w3 k → ¬ fresh w3 w4 k from fun k h h' => by have := h.2; have := h'.1; omega)
  clear hb ht HA3
  go_wp2_with fail
  go_loopw [43] (fun i wr => ∃ k : Nat, k ≤ n ∧ i = .int .i64 k ∧ Hid (Pair w wr la lb (run 40 (actsOf (l.take k))) k) ∧ Hid (Turn nowhere w wr)) (fun i _ => n - (intOf i).toNat)
  case atStart => exact ⟨0, Nat.zero_le _, rfl, ⟨_, _, HA4.out, HB4.out, HL3.out, HM4.out, HD4.out⟩, HT4⟩
  case round =>
    obtain ⟨k, hk, rfl, HP, HT⟩ := hrel
    have h0 : (0 : Int) ≤ (k : Int) := by omega
    clear HA4 HB4 HL3 HM4 HD4 HT1 HT2 HT3 HT4
    by_cases hlt : k < n
    · have h1 : (k : Int) < (n : Int) := by omega
      obtain ⟨b, off, rfl, hx⟩ := HR.out.act (by omega)
      have ha := (hx k hlt).turn HT.out (fun h => h)
      clear hx
      have HOK := Lib.hid (HK.out k hlt)
      have hm6 := HMS.out k hlt
      have HTK := Lib.hid (actsOf_snoc l k (by rw [HL.out]; exact hlt))
      generalize l.getD k default = y at ha HOK hm6 HTK
      have HY := Lib.hid (show y.act = y.act from rfl)
      obtain ⟨yd, ya, yb, yA, ym, yc, yo⟩ := y
      obtain ⟨a0, a1, a2, a3⟩ := ha
      simp only at a0 a1 a2 a3 hm6
      have hrl : (run 40 (actsOf (l.take k))).length ≤ 40 := run_len 40 (actsOf (l.take k))
      obtain ⟨rows, hrows⟩ : ∃ r, r = run 40 (actsOf (l.take k)) := ⟨_, rfl⟩
      have HRW := Lib.hid hrows
      have hrl2 : rows.length ≤ 200 := by rw [hrows]; exact Nat.le_trans hrl (by omega)
      rw [← hrows] at HP
      clear hrl hrows
      obtain ⟨G1, G2, hA, hB, hL1, hL2, hD⟩ := HP.out
      have t1 : Turn nowhere wr (wr.alloc (.cells #[.int .i64 yd, .int .i64 ya, .int .i64 yb, .slice yA ym yc] 34)) := (Turn.refl _ _).alloc _
      have HA := Lib.hid (hA.turn t1 (fun _ _ h => h))
      have HB := Lib.hid (hB.turn t1 (fun _ _ h => h))
      have HFB := Lib.hid hA.fb
      have HGB := Lib.hid hB.fb
      have HL1 := Lib.hid hL1
      have HL2 := Lib.hid hL2
      have HD := Lib.hid hD
      have HT1 := Lib.hid t1
      clear hA hB hL1 hL2 hD t1
      go_wp2_with fail
      refine (do_calls HA.out hrl2 (by omega) ⟨yd, ya, yb, yo⟩ yA ym yc (by omega) ((HOK.out.1.kept HT.out).kept HT1.out) (HOK.out.off HL1.out) HOK.out.2.2.1 HOK.out.2.1).mono ?_
      rintro e w5 ⟨A5, m5, c5, rfl, _, _, G, hA5, hGm, _, ht5⟩
      have HA5 := Lib.hid hA5
      have HB5 := Lib.hid (HB.out.turn ht5 (fun q h2 h1 => HD.out q h1 h2))
      have HD5 := Lib.hid (more_apart HD.out HB.out.fb hGm)
      have HL5 := Lib.hid (show ∀ q, G q → w.heap.size ≤ q from fun q h => least_step (HT.out.alloc _) HL1.out q (hGm q h))
      have HT5 := Lib.hid (below_step (HT.out.alloc (.cells #[.int .i64 yd, .int .i64 ya, .int .i64 yb, .slice yA ym yc] 34)) ht5 HL1.out)
      have hnb : ¬ G1 wr.heap.size := fun h => Nat.lt_irrefl _ (HFB.out _ h)
      have e0 := ht5.cell (p := ⟨wr.heap.size, 0, none⟩) (v := .int .i64 yd) (by simp) hnb
      have e1 := ht5.cell (p := ⟨wr.heap.size, 1, none⟩) (v := .int .i64 ya) (by simp) hnb
      have e2 := ht5.cell (p := ⟨wr.heap.size, 2, none⟩) (v := .int .i64 yb) (by simp) hnb
      have e3 := ht5.cell (p := ⟨wr.heap.size, 3, none⟩) (v := .slice yA ym yc) (by simp) hnb
      clear hA5 hGm ht5 hnb
      go_wp2_with fail
      refine (do_calls HB5.out hrl2 (by omega) ⟨yd, ya, yb, yo⟩ yA ym yc (by omega) (HOK.out.1.kept HT5.out) (HOK.out.off HL2.out) HOK.out.2.2.1 HOK.out.2.1).mono ?_
      rintro e w6 ⟨A6, m6, c6, rfl, _, _, G', hB6, hGm, _, ht6⟩
      have HP6 := Lib.hid (show Pair w w6 la lb (doTo 40 rows ⟨yd, ya, yb, yo⟩).1 (k + 1) from ⟨G, G', HA5.out.turn ht6 (fun q h1 h2 => HD5.out q h1 h2), hB6, HL5.out, fun q h => least_step HT5.out HL2.out q (hGm q h), fun q h1 h2 => by
        rcases hGm q h2 with h3 | h3
        · exact HD5.out q h1 h3
        · have := HA5.out.fb q h1; omega⟩)
      have HT6 := Lib.hid (below_step HT5.out ht6 HL2.out)
      clear hB6 hGm ht6 e0 e1 e2 e3
      go_wp2
      go_roundw
      case rel => exact ⟨k + 1, by omega, by go_num, by rw [HTK.out, run_snoc, ← HRW.out]; exact HP6, HT6⟩
      case measure => simp [intOf]; omega
    · obtain rfl : k = n := by omega
      have htk : l.take k = l := by rw [← HL.out]; exact List.take_length
      rw [htk] at HP
      clear htk hlt
      have hrl : (run 40 (actsOf l)).length ≤ 40 := run_len 40 (actsOf l)
      obtain ⟨rows, hrows⟩ : ∃ r, r = run 40 (actsOf l) := ⟨_, rfl⟩
      rw [← hrows] at HP hrl
      clear hrows
      have hrl2 : rows.length ≤ 200 := by omega
      obtain ⟨G1, G2, hA, hB, hL1, hL2, hD⟩ := HP.out
      have HA := Lib.hid hA
      have HB := Lib.hid hB
      have HL1 := Lib.hid hL1
      have HL2 := Lib.hid hL2
      have HD := Lib.hid hD
      clear hA hB hL1 hL2 hD HP
      have hq0 : (0 : Int) ≤ (q : Int) := by omega
      have hq1 : (q : Int) ≤ 255 := by omega
      go_wp2_with fail
      refine (rows_calls HA.out hrl2).mono ?_
      rintro e w5 ⟨v5, rfl, ho, ht⟩
      obtain ⟨A5, c5, rfl, _, _⟩ := own_form ho
      have HO5 := Lib.hid ho
      have HA5 := Lib.hid (HA.out.turn ht (fun _ _ h => h))
      have HB5 := Lib.hid (HB.out.turn ht (fun _ _ h => h))
      have HT5 := Lib.hid (HT.out.trans ht (fun _ _ h => h))
      clear ho ht HA HB
      obtain ⟨rl, hrl3⟩ : ∃ rl, rl = rows.length := ⟨_, rfl⟩
      have HRL := Lib.hid hrl3
      rw [← hrl3] at HO5 hrl
      rw [← hrl3]
      clear hrl3
      by_cases hs : canStop rows q = true
      case' pos =>
        have HCS := Lib.hid hs
        obtain ⟨q', hqq, hql, hst⟩ := canStop_yes hs
        obtain rfl : q = q' := by omega
        have HST := Lib.hid hst
        rw [← HRL.out] at hql
        obtain ⟨g5, cap5, hv5, _, hg5⟩ := HO5.out.form (by omega)
        obtain ⟨rfl, rfl⟩ : A5 = some ⟨g5, 0, none⟩ ∧ c5 = cap5 := by simpa using hv5
        have e5 := HO5.out.cellAt (q * 3 + 2) (by omega)
        rw [(regs_at rows q (by rw [← HRL.out]; exact hql)).2.2, hst] at e5
        have hq2 : (q : Int) < (rl : Int) := by omega
        have hqd : decide ((q : Int) < (rl : Int)) = true := by simpa using hq2
        clear hs hqq hst hv5
        go_wp2_with fail
        refine (stop_yes (k := q) HA5.out hrl2 (by omega) (by rw [← HRL.out]; exact hql) HST.out).mono ?_
        rintro e w6 ⟨rfl, ha, ht⟩
        have HA6 := Lib.hid (show AList w6 (more G1 w5 w6) la (stopTo rows q).1 40 (k + 1) from by unfold stopTo; rw [if_pos HCS.out]; exact ha)
        have HB6 := Lib.hid (HB5.out.turn ht (fun q h2 h1 => HD.out q h1 h2))
        have HD6 := Lib.hid (more_apart (a := w5) (b := w6) HD.out HB5.out.fb (fun q h => h))
        have HL6 := Lib.hid (least_step (b := w6) HT5.out HL1.out)
        have HT6 := Lib.hid (below_step HT5.out ht HL1.out)
        generalize more G1 w5 w6 = H1 at HA6 HD6 HL6
        clear ha ht HA5 HB5 e5 hqd hq2
        go_wp2_with fail
      case' neg =>
        have HCS := Lib.hid hs
        have hno := canStop_no (Bool.eq_false_iff.2 hs)
        have HNO := Lib.hid hno
        by_cases hql : q < rl
        case' pos =>
          have hst : (rows.getD q default).state ≠ 1 := by
            rcases hno with h | h | ⟨q', h1, _, h3⟩
            · omega
            · have := HRL.out; omega
            · obtain rfl : q = q' := by omega
              exact h3
          obtain ⟨g5, cap5, hv5, _, hg5⟩ := HO5.out.form (by omega)
          obtain ⟨rfl, rfl⟩ : A5 = some ⟨g5, 0, none⟩ ∧ c5 = cap5 := by simpa using hv5
          have e5 := HO5.out.cellAt (q * 3 + 2) (by omega)
          rw [(regs_at rows q (by rw [← HRL.out]; exact hql)).2.2] at e5
          generalize (rows.getD q default).state = st at e5 hst
          have hsb : (st == 1) = false := beq_eq_false_iff_ne.2 hst
          have hq2 : (q : Int) < (rl : Int) := by omega
          have hqd : decide ((q : Int) < (rl : Int)) = true := by simpa using hq2
          clear hs hno hst hv5
          go_wp2_with fail
          refine (stop_no HA5.out hrl2 HNO.out).mono ?_
          rintro e w6 ⟨rfl, ht⟩
          have HA6 := Lib.hid (show AList w6 G1 la (stopTo rows q).1 40 (k + 1) from by unfold stopTo; rw [if_neg HCS.out]; exact (HA5.out.turn ht (fun _ _ h => h)).mono (Nat.le_succ _))
          have HB6 := Lib.hid (HB5.out.turn ht (fun _ _ h => h))
          have HD6 := Lib.hid HD.out
          have HL6 := Lib.hid HL1.out
          have HT6 := Lib.hid (HT5.out.trans ht (fun _ _ h => h))
          generalize G1 = H1 at HA6 HD6 HL6
          clear ht HA5 HB5 e5 hqd hq2 hsb
          go_wp2_with fail
        case' neg =>
          have hqd : decide ((q : Int) < (rl : Int)) = false := by simp; omega
          clear hs hno
          go_wp2_with fail
          refine (stop_no HA5.out hrl2 HNO.out).mono ?_
          rintro e w6 ⟨rfl, ht⟩
          have HA6 := Lib.hid (show AList w6 G1 la (stopTo rows q).1 40 (k + 1) from by unfold stopTo; rw [if_neg HCS.out]; exact (HA5.out.turn ht (fun _ _ h => h)).mono (Nat.le_succ _))
          have HB6 := Lib.hid (HB5.out.turn ht (fun _ _ h => h))
          have HD6 := Lib.hid HD.out
          have HL6 := Lib.hid HL1.out
          have HT6 := Lib.hid (HT5.out.trans ht (fun _ _ h => h))
          generalize G1 = H1 at HA6 HD6 HL6
          clear ht HA5 HB5 hqd
          go_wp2_with fail
      all_goals
        clear HO5 HT5 HL1 HCS HT
        have HA7 := Lib.hid (HA6.out.turn ((Turn.refl nowhere w6).alloc (.cells #[] 3)) (fun _ _ h => h))
        have HB7 := Lib.hid (HB6.out.turn ((Turn.refl nowhere w6).alloc (.cells #[] 3)) (fun _ _ h => h))
        have HT7 := Lib.hid (HT6.out.alloc (.cells #[] 3))
        have HW7 := Lib.hid (World.ownsRow_lit (base := w6.heap.size) (size := 1) (e := 3) w6 #[] 0 (Nat.le_refl _) (by simp [maxLen]) rfl)
        have hsz7 : w.heap.size ≤ w6.heap.size := HT6.out.size
        have hx7 : w6.heap.size < (w6.alloc (.cells #[] 3)).heap.size := by simp
        have HF6 := Lib.hid HB6.out.fb
        have HG6 := Lib.hid HA6.out.fb
        obtain ⟨nb, hnb⟩ : ∃ nb, nb = w6.heap.size := ⟨_, rfl⟩
        simp only [← hnb] at HW7 hx7 hsz7 HF6 HG6 ⊢
        have HNB := Lib.hid hnb
        clear HA6 HB6 HT6 hnb
        generalize w6.alloc (.cells #[] 3) = w7 at HA7 HB7 HT7 HW7 hx7
        refine (fire_any HB7.out hrl2 B m c2 ons (by omega) (HON.out.kept HT7.out) (fun hm0 ad he hF => by have := HOFF.out hm0 ad he; have := HL2.out _ hF; omega) HWF.out).mono ?_
        rintro e w8 ⟨v8, rfl, ho, _, ht⟩
        obtain ⟨A8, c8, rfl, _, _⟩ := own_form ho
        have hol := fireTo_out rows ons
        have hol2 : (fireTo rows ons).2.length ≤ 100000 := by
          refine Nat.le_trans hol (Nat.le_trans (Nat.mul_le_mul hrl2 (show ons.length ≤ 60 by have := HON.out.1; simp at this; omega)) (by omega))
        have HO8 := Lib.hid ho
        have HA8 := Lib.hid (HA7.out.turn ht (fun q h1 h2 => HD6.out q h1 h2))
        have HT8 := Lib.hid (below_step HT7.out ht HL2.out)
        have HW8 := Lib.hid (ht.own HW7.out (fun g hg hF => by
          obtain rfl : nb = g := by simpa [Value.ownBlock] using hg
          exact Nat.lt_irrefl _ (HF6.out _ hF)))
        have hs8 : w7.heap.size ≤ w8.heap.size := ht.size
        have HN8 := Lib.hid (show ∀ g, (Value.slice A8 (fireTo rows ons).2.length c8).ownBlock = some g → ¬ g = nb from fun g hg he => by have := (ho.lt g hg).1; omega)
        obtain ⟨out, hout⟩ : ∃ out, out = (fireTo rows ons).2 := ⟨_, rfl⟩
        have HOUT := Lib.hid hout
        rw [← hout] at HO8 HN8 hol2
        rw [← hout]
        obtain ⟨ol, hole⟩ : ∃ ol, ol = out.length := ⟨_, rfl⟩
        have HOL := Lib.hid hole
        rw [← hole] at HO8 HN8 hol2
        rw [← hole]
        clear ho ht hol hout hole HA7 HB7 HT7 HW7 HL2
        go_wp2_with fail
        go_loopw [15, 80] (fun v i wr => ∃ j : Nat, j ≤ ol ∧ i = .int .i64 j ∧ Hid (wr.ownsRow nb 3 1 v (but (q : Int) (out.take j)).length (ints (but (q : Int) (out.take j)))) ∧ Hid (∀ g, v.ownBlock = some g → g = nb ∨ w8.heap.size ≤ g) ∧ Hid (Turn (fun x => x = nb) w8 wr)) (fun _ i _ => ol - (intOf i).toNat)
        case atStart => first | exact ⟨0, Nat.zero_le _, rfl, HW8, fun g hg => .inl (by simpa [Value.ownBlock] using hg.symm), Turn.refl _ _⟩ | (rw [← HNB.out]; exact ⟨0, Nat.zero_le _, rfl, HW8, fun g hg => .inl (by simpa [Value.ownBlock] using hg.symm), Turn.refl _ _⟩)
        case round =>
          obtain ⟨j, hj, rfl, HO, HV, HT⟩ := hrel
          have h0 : (0 : Int) ≤ (j : Int) := by omega
          by_cases hlt2 : j < ol
          · have h1 : (j : Int) < (ol : Int) := by omega
            obtain ⟨g8, cap8, hv8, _, _⟩ := HO8.out.form (by omega)
            obtain ⟨rfl, rfl⟩ : A8 = some ⟨g8, 0, none⟩ ∧ c8 = cap8 := by simpa using hv8
            have HO9 := HT.out.own HO8.out HN8.out
            have e0 := own_int_at HO9 hlt2
            have HBS := Lib.hid (but_snoc (q : Int) out j (by rw [← HOL.out]; exact hlt2))
            have hbl := but_le (q : Int) out j
            obtain ⟨y, hy9⟩ : ∃ y, y = out.getD j 0 := ⟨_, rfl⟩
            rw [← hy9] at e0 HBS
            clear HO9 hv8 hy9
            obtain ⟨bs, hbs⟩ : ∃ bs, bs = but (q : Int) (out.take j) := ⟨_, rfl⟩
            rw [← hbs] at HO HBS hbl
            clear hbs
            by_cases hyq : y = (q : Int)
            · have HYQ := Lib.hid hyq
              have hyb : (y == (q : Int)) = true := by simpa using hyq
              clear hyq
              go_wp2
              go_roundw
              case rel => exact ⟨j + 1, by omega, by go_num, by rw [HBS.out, HYQ.out]; simpa [Hid] using HO, HV, HT⟩
              case measure => simp [intOf]; omega
            · have HYQ := Lib.hid hyq
              have hyb : (y == (q : Int)) = false := by simpa using hyq
              clear hyq
              go_wp2_with (at_builtin; refine wpList_append_own_at _ rfl (.tmp 88) (.tmp 90) 32 rfl nb 3 j0 (.int .i64 0) 1 8 Try.underlying32 hy hy0 hy1 hy2 rfl (by decide) u15 bs.length (ints bs) rfl ?o1 ⟨wr.heap.size, 0, none⟩ 1 1 [.int .i64 y] rfl rfl ?o2 (by simp [Value.oneCell']) ?o3 ?o4 ?o5 ?_)
              case o1 => exact HO.out.alloc _
              case o2 => exact World.news_of_block (cs := #[.int .i64 y]) (t := 3) (fr := (0, 0)) (by
                have := heap_alloc_new wr (.cells #[.int .i64 y] 3)
                simpa using this)
              case o3 => unfold maxLen; omega
              case o4 => omega
              case o5 => have := HT.out.size; simp; omega
              intro v' w2 hown hg _ hvv
              have HO2 := Lib.hid hown
              have HV2 := Lib.hid (show ∀ g, v'.ownBlock = some g → g = nb ∨ w8.heap.size ≤ g from fun g hgg => by
                rcases hvv with h | h
                · exact HV.out g (h ▸ hgg)
                · have h2 := HT.out.size
                  rw [h] at hgg
                  simp at hgg
                  omega)
              have HT2 := Lib.hid (show Turn (fun x => x = nb) w8 w2 from (HT.out.alloc _).grown hg (fun g hgg hlt => by rcases HV.out g hgg with h | h <;> omega))
              clear hown hg hvv
              go_wp2
              go_roundw
              case rel =>
                refine ⟨j + 1, by omega, by go_num, ?_, HV2, HT2⟩
                rw [HBS.out, if_neg (by simpa using HYQ.out)]
                have h3 : ints (bs ++ [y]) = ints bs ++ [.int .i64 y] := by simp
                rw [h3]
                simpa [Hid] using HO2
              case measure => simp [intOf]; omega
          · obtain rfl : j = ol := by omega
            have htk : out.take j = out := by rw [HOL.out]; exact List.take_length
            rw [htk] at HO
            have HA9 := Lib.hid (HA8.out.turn HT.out (fun x h1 h2 => by have := HG6.out x h1; omega))
            have HT9 := Lib.hid (below_step HT8.out HT.out (fun x hx => by omega))
            obtain ⟨A9, c9, rfl, _, _⟩ := own_form HO.out
            have HN9 := Lib.hid (show ∀ g, (Value.slice A9 (but (q : Int) out).length c9).ownBlock = some g → ¬ H1 g from fun g hg hF => by have := HG6.out g hF; have := (HO.out.lt g hg).1; omega)
            clear hlt2 htk
            go_wp2_with fail
            refine (fire_any HA9.out (rows := (stopTo rows q).1) (by rw [stopTo_len]; exact hrl2) B m c2 ons (by omega) (HON.out.kept HT9.out) (fun hm0 ad he hF => by have := HOFF.out hm0 ad he; have := HL6.out _ hF; omega) HWF.out).mono ?_
            rintro e w10 ⟨v10, rfl, ho, _, ht⟩
            rw [stops_law, ← HOUT.out] at ho
            obtain ⟨A10, c10, rfl, _, _⟩ := own_form ho
            have hbl : (but (q : Int) out).length ≤ 1000000 := by
              have := but_le (q : Int) out j
              have h2 : out.take j = out := by rw [HOL.out]; exact List.take_length
              rw [h2] at this
              omega
            have HX := Lib.hid (Reads.of_own ho)
            have HY := Lib.hid (Reads.of_own (ht.own HO.out HN9.out))
            have HT10 := Lib.hid (below_step HT9.out ht HL6.out)
            clear ho ht
            go_wp2_with fail
            refine (same_calls A10 A9 _ _ c10 c9 _ _ w10 HX.out HY.out hbl).mono ?_
            rintro e w11 ⟨rfl, j11, hw⟩
            have HT11 := Lib.hid (show Turn nowhere w w11 from by rw [hw]; exact HT10.out.drewN _)
            clear hw
            go_wp2
            go_ret
            exact ⟨by simp, HT11.out⟩

set_option maxHeartbeats 400000 in
/-- 'AfterStops'. -/
theorem stops_calls (w : World) (A : Option Addr) (n c : Nat) (l : List ActC) (q : Nat) (hq : q ≤ 255) (B : Option Addr) (m c2 : Nat) (ons : List Int) (hl : l.length = n)
    (hok : ∀ k, k < n → ActOK w w.heap.size (l.getD k default)) (hr : Reads w 4 A n (acts l)) (hn : n ≤ maxLen)
    (hon : Reads w 1 B m (ints ons)) (hwf : ∀ k, k < m → wfi (ons.getD k 0)) (hoff : 0 < m → ∀ ad, B = some ad → ad.block < w.heap.size) :
    Calls Try.prog 5 #[.slice A n c, .int .u8 (q : Int), .slice B m c2] w (OkTrue w) := by
  cases hsm : largeB l with
  | true =>
    have HK := Lib.hid hok
    have HR := Lib.hid hr
    have HS := Lib.hid hsm
    clear hok hr hon hwf hoff hsm
    go_enter Try.func5, Try.ntmps5
    go_wp2_with fail
    refine (awake_calls w).mono ?_
    rintro e w1 ⟨rfl, ht⟩
    have HT1 := Lib.hid ht
    clear ht
    go_wp2_with fail
    refine (large_calls _ n c l w1 (HR.out.kept HT1.out) (by unfold maxLen at hn; omega) (fun k hk => (HK.out k hk).2.2.2.2)).mono ?_
    rintro e w2 ⟨he, ht⟩
    rw [HS.out] at he
    subst he
    have HT2 := Lib.hid (HT1.out.trans ht (fun _ _ h => h))
    clear ht
    go_wp2
    go_ret
    exact ⟨rfl, HT2.out⟩
  | false =>
    by_cases hm6 : m ≤ 60
    · exact stops_core w A n c l q hq B m c2 ons hl hok hr hm6 hsm hon hwf hoff
    · have HK := Lib.hid hok
      have HR := Lib.hid hr
      have HS := Lib.hid hsm
      have hgm : decide ((60 : Int) < (m : Int)) = true := by simp; omega
      clear hok hr hon hwf hoff hsm hm6
      go_enter Try.func5, Try.ntmps5
      go_wp2_with fail
      refine (awake_calls w).mono ?_
      rintro e w1 ⟨rfl, ht⟩
      have HT1 := Lib.hid ht
      clear ht
      go_wp2_with fail
      refine (large_calls _ n c l w1 (HR.out.kept HT1.out) (by unfold maxLen at hn; omega) (fun k hk => (HK.out k hk).2.2.2.2)).mono ?_
      rintro e w2 ⟨he, ht⟩
      rw [HS.out] at he
      subst he
      have HT2 := Lib.hid (HT1.out.trans ht (fun _ _ h => h))
      clear ht
      go_wp2
      go_ret
      exact ⟨rfl, HT2.out⟩

end Go.Proofs.Ythloikmmkkamoaa
