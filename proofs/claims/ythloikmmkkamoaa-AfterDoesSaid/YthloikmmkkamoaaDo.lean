/- The contract of the law's own do: whatever the act. -/
import Derived.Test.YthloikmmkkamoaaFire
namespace Go.Proofs.Ythloikmmkkamoaa
open Go.RowKit Go.Maps

/-- Four results, each in a slot. -/
theorem four_slots {fn : Func} {t u v x : Tmp} (h : fn.results = #[.tmp t, .tmp u, .tmp v, .tmp x]) (tmps : Array Value) (P : Program) (w : World) :
    (results fn tmps).run P w = .ok (.tuple #[tmps.getD t undef, tmps.getD u undef, tmps.getD v undef, tmps.getD x undef]) w := by simp [results, h]

/-- an act -/
structure Act1 where
  dO : Int
  a : Int
  b : Int
  on : List Int

/-- what an act answers -/
structure Ans where
  k : Int
  e : Int
  is : Bool
  out : List Int

def addTo (most : Int) (rows : List Reg) (a b : Int) : List Reg × Ans :=
  if (rows.length : Int) = most then (rows, ⟨-1, 2, false, []⟩) else (rows ++ [⟨a, b, 1⟩], ⟨rows.length, 0, false, []⟩)
/-- is there one that waits, of that number? -/
def canStop (rows : List Reg) (x : Int) : Bool := decide (0 ≤ x) && (decide (x < rows.length) && (rows.getD x.toNat default).state == 1)
def stopTo (rows : List Reg) (x : Int) : List Reg × Ans :=
  if canStop rows x then (setSt rows x.toNat 3, ⟨0, 0, true, []⟩) else (rows, ⟨0, 0, false, []⟩)
def doTo (most : Int) (rows : List Reg) (x : Act1) : List Reg × Ans :=
  if x.dO = 0 then addTo most rows x.a x.b
  else if x.dO = 1 then stopTo rows x.a
  else if x.dO = 2 then ((fireTo rows x.on).1, ⟨0, 0, false, (fireTo rows x.on).2⟩)
  else (rows, ⟨0, 0, false, []⟩)

def DoDone (w : World) (F : Nat → Prop) (lb : Nat) (most : Int) (n : Nat) (r : List Reg × Ans) (e : Ending) (w' : World) : Prop :=
  ∃ A m c, e = .returned (.tuple #[.int .i64 r.2.k, .int .i64 r.2.e, .bool r.2.is, .slice A m c]) ∧ Reads w' 1 A m (ints r.2.out) ∧ m = r.2.out.length ∧
    ∃ G : Nat → Prop, AList w' G lb r.1 most (n + 1) ∧ (∀ k, G k → more F w w' k) ∧ Off G A ∧ Turn F w w'

theorem AList.turn {w w' : World} {F G : Nat → Prop} {lb n : Nat} {rows : List Reg} {most : Int} (h : AList w F lb rows most n) (ht : Turn G w w') (hd : ∀ k, F k → ¬ G k) : AList w' F lb rows most n := by
  obtain ⟨mb, rv, V, h⟩ := h
  exact ⟨mb, rv, V, h.turn ht hd⟩
theorem AList.mono {w : World} {F : Nat → Prop} {lb n m : Nat} {rows : List Reg} {most : Int} (h : AList w F lb rows most n) (hm : n ≤ m) : AList w F lb rows most m := by
  obtain ⟨mb, rv, V, h⟩ := h
  exact ⟨mb, rv, V, h.mono hm⟩
theorem AList.fb {w : World} {F : Nat → Prop} {lb n : Nat} {rows : List Reg} {most : Int} (h : AList w F lb rows most n) : ∀ k, F k → k < w.heap.size := by
  obtain ⟨mb, rv, V, h⟩ := h
  exact h.fb
theorem off_none (F : Nat → Prop) : Off F none := fun _ h => by cases h

theorem more_old {F : Nat → Prop} {a b c : World} (h1 : a.heap.size ≤ b.heap.size) (k : Nat) (h : more F b c k) : more F a c k := more_wider h1 k h
theorem more_of {F : Nat → Prop} {a b : World} (k : Nat) (h : F k) : more F a b k := .inl h

set_option maxHeartbeats 800000 in
theorem do_add {w : World} {F : Nat → Prop} {lb n : Nat} {rows : List Reg} {most : Int} (h : AList w F lb rows most n) (hlen : rows.length ≤ 200) (hn : n ≤ 100000) (a b : Int) (v : Value) (ha : wfi a) :
    Calls Try.prog 10 #[.pointer (some ⟨lb, 0, none⟩), .agg #[.int .i64 0, .int .i64 a, .int .i64 b, v]] w (DoDone w F lb most n (addTo most rows a b)) := by
  have t1 : Turn nowhere w (w.alloc (.cells #[.int .i64 0, .int .i64 a, .int .i64 b, v] 34)) := (Turn.refl _ _).alloc _
  have H := Lib.hid (h.turn t1 (fun _ _ h => h))
  have H0 := Lib.hid h
  have HA := Lib.hid ha
  clear t1 h ha
  by_cases hm : (rows.length : Int) = most
  · have HM := Lib.hid hm
    clear hm
    go_enter Try.func10, Try.ntmps10
    go_wp2_with fail
    refine (add_full H.out HM.out).mono ?_
    rintro e w' ⟨rfl, rfl⟩
    go_wp2
    refine bodyPost_ret (four_slots rfl _ _ _) rfl ?_
    refine ⟨none, 0, 0, ?_, ?_, ?_, F, ?_, more_of, off_none _, (Turn.refl _ _).alloc _⟩
    · rw [addTo, if_pos HM.out]; rfl
    · rw [addTo, if_pos HM.out]; exact Reads.none_ _ _ _
    · rw [addTo, if_pos HM.out]; rfl
    · rw [addTo, if_pos HM.out]; exact H.out.mono (Nat.le_succ _)
  · have HM := Lib.hid hm
    clear hm
    go_enter Try.func10, Try.ntmps10
    go_wp2_with fail
    refine (add_room H.out HM.out hlen HA.out hn).mono ?_
    rintro e w' ⟨rfl, hd, ht⟩
    have HD := Lib.hid hd
    have HT := Lib.hid ht
    clear hd ht
    go_wp2
    refine bodyPost_ret (four_slots rfl _ _ _) rfl ?_
    refine ⟨none, 0, 0, ?_, ?_, ?_, more F (w.alloc (.cells #[.int .i64 0, .int .i64 a, .int .i64 b, v] 34)) w', ?_, ?_, off_none _, ?_⟩
    · rw [addTo, if_neg HM.out]; rfl
    · rw [addTo, if_neg HM.out]; exact Reads.none_ _ _ _
    · rw [addTo, if_neg HM.out]; rfl
    · rw [addTo, if_neg HM.out]; exact HD.out
    · exact fun k h => more_old (by simp) k h
    · exact ((Turn.refl F w).alloc _).trans HT.out (fun _ _ h => h)

theorem canStop_no {rows : List Reg} {x : Int} (h : canStop rows x = false) : x < 0 ∨ (rows.length : Int) ≤ x ∨ ∃ k : Nat, x = k ∧ k < rows.length ∧ (rows.getD k default).state ≠ 1 := by
  unfold canStop at h
  by_cases h0 : 0 ≤ x
  · by_cases h1 : x < rows.length
    · right; right
      refine ⟨x.toNat, by omega, by omega, ?_⟩
      rw [decide_eq_true h0, decide_eq_true h1, Bool.true_and, Bool.true_and] at h
      exact beq_eq_false_iff_ne.1 h
    · right; left; omega
  · left; omega
theorem canStop_yes {rows : List Reg} {x : Int} (h : canStop rows x = true) : ∃ k : Nat, x = k ∧ k < rows.length ∧ (rows.getD k default).state = 1 := by
  unfold canStop at h
  simp only [Bool.and_eq_true, decide_eq_true_eq, beq_iff_eq] at h
  exact ⟨x.toNat, by omega, by omega, h.2.2⟩

set_option maxHeartbeats 800000 in
theorem do_stop {w : World} {F : Nat → Prop} {lb n : Nat} {rows : List Reg} {most : Int} (h : AList w F lb rows most n) (hlen : rows.length ≤ 200) (hn : n ≤ 100000) (a b : Int) (v : Value) :
    Calls Try.prog 10 #[.pointer (some ⟨lb, 0, none⟩), .agg #[.int .i64 1, .int .i64 a, .int .i64 b, v]] w (DoDone w F lb most n (stopTo rows a)) := by
  have t1 : Turn nowhere w (w.alloc (.cells #[.int .i64 1, .int .i64 a, .int .i64 b, v] 34)) := (Turn.refl _ _).alloc _
  have H := Lib.hid (h.turn t1 (fun _ _ h => h))
  clear t1 h
  by_cases hm : canStop rows a = true
  · have HM := Lib.hid hm
    obtain ⟨k, rfl, hk, hs⟩ := canStop_yes hm
    have HS := Lib.hid hs
    clear hm hs
    go_enter Try.func10, Try.ntmps10
    go_wp2_with fail
    refine (stop_yes H.out hlen hn hk HS.out).mono ?_
    rintro e w' ⟨rfl, hd, ht⟩
    have HD := Lib.hid hd
    have HT := Lib.hid ht
    clear hd ht
    go_wp2
    refine bodyPost_ret (four_slots rfl _ _ _) rfl ?_
    refine ⟨none, 0, 0, ?_, ?_, ?_, more F (w.alloc (.cells #[.int .i64 1, .int .i64 k, .int .i64 b, v] 34)) w', ?_, ?_, off_none _, ?_⟩
    · rw [stopTo, if_pos HM.out]; rfl
    · rw [stopTo, if_pos HM.out]; exact Reads.none_ _ _ _
    · rw [stopTo, if_pos HM.out]; rfl
    · rw [stopTo, if_pos HM.out, Int.toNat_natCast]; exact HD.out
    · exact fun k h => more_old (by simp) k h
    · exact ((Turn.refl F w).alloc _).trans HT.out (fun _ _ h => h)
  · have HM := Lib.hid hm
    have hno := canStop_no (Bool.eq_false_iff.2 hm)
    clear hm
    go_enter Try.func10, Try.ntmps10
    go_wp2_with fail
    refine (stop_no H.out hlen hno).mono ?_
    rintro e w' ⟨rfl, ht⟩
    have HT := Lib.hid ht
    clear ht hno
    go_wp2
    refine bodyPost_ret (four_slots rfl _ _ _) rfl ?_
    refine ⟨none, 0, 0, ?_, ?_, ?_, F, ?_, more_of, off_none _, ?_⟩
    · rw [stopTo, if_neg HM.out]; rfl
    · rw [stopTo, if_neg HM.out]; exact Reads.none_ _ _ _
    · rw [stopTo, if_neg HM.out]; rfl
    · rw [stopTo, if_neg HM.out]; exact (H.out.turn HT.out (fun _ _ h => h)).mono (Nat.le_succ _)
    · exact ((Turn.refl F w).alloc _).trans HT.out (fun _ _ h => h.elim)

set_option maxHeartbeats 800000 in
theorem do_fire {w : World} {F : Nat → Prop} {lb n : Nat} {rows : List Reg} {most : Int} (h : AList w F lb rows most n) (hlen : rows.length ≤ 200) (a b : Int) (A : Option Addr) (m c : Nat) (ons : List Int) (hm : m ≤ 100000)
    (hx : Reads w 1 A m (ints ons)) (hoff : 0 < m → Off F A) (hwf : ∀ k, k < m → wfi (ons.getD k 0)) :
    Calls Try.prog 10 #[.pointer (some ⟨lb, 0, none⟩), .agg #[.int .i64 2, .int .i64 a, .int .i64 b, .slice A m c]] w (DoDone w F lb most n ((fireTo rows ons).1, ⟨0, 0, false, (fireTo rows ons).2⟩)) := by
  have t1 : Turn nowhere w (w.alloc (.cells #[.int .i64 2, .int .i64 a, .int .i64 b, .slice A m c] 34)) := (Turn.refl _ _).alloc _
  have H := Lib.hid (h.turn t1 (fun _ _ h => h))
  have HFB := Lib.hid h.fb
  have HX := Lib.hid (hx.kept t1)
  have HOFF := Lib.hid hoff
  have HWF := Lib.hid hwf
  clear t1 h hx hoff hwf
  go_enter Try.func10, Try.ntmps10
  go_wp2_with fail
  refine (fire_any H.out hlen A m c ons hm HX.out HOFF.out HWF.out).mono ?_
  rintro e w' ⟨v, rfl, ho, hd, ht⟩
  have HO := Lib.hid ho
  have HD := Lib.hid hd
  have HT := Lib.hid ht
  clear ho hd ht
  go_wp2
  refine bodyPost_ret (four_slots rfl _ _ _) rfl ?_
  obtain ⟨A', c', hv, _, _⟩ := own_form HO.out
  have ho := HO.out
  subst hv
  refine ⟨A', _, c', rfl, Reads.of_own ho, rfl, F, HD.out.mono (Nat.le_succ _), more_of, ?_, ?_⟩
  · intro ad he hF
    subst he
    have h1 := (ho.lt ad.block rfl).1
    have h2 := HFB.out _ hF
    simp at h1
    omega
  · exact ((Turn.refl F w).alloc _).trans HT.out (fun _ _ h => h)

set_option maxHeartbeats 800000 in
theorem do_else {w : World} {F : Nat → Prop} {lb n : Nat} {rows : List Reg} {most : Int} (h : AList w F lb rows most n) (d a b : Int) (v : Value) (h0 : d ≠ 0) (h1 : d ≠ 1) (h2 : d ≠ 2) :
    Calls Try.prog 10 #[.pointer (some ⟨lb, 0, none⟩), .agg #[.int .i64 d, .int .i64 a, .int .i64 b, v]] w (DoDone w F lb most n (rows, ⟨0, 0, false, []⟩)) := by
  have t1 : Turn nowhere w (w.alloc (.cells #[.int .i64 d, .int .i64 a, .int .i64 b, v] 34)) := (Turn.refl _ _).alloc _
  have H := Lib.hid (h.turn t1 (fun _ _ h => h))
  have b0 : (d == 0) = false := beq_eq_false_iff_ne.2 h0
  have b1 : (d == 1) = false := beq_eq_false_iff_ne.2 h1
  have b2 : (d == 2) = false := beq_eq_false_iff_ne.2 h2
  clear t1 h h0 h1 h2
  go_enter Try.func10, Try.ntmps10
  go_wp2_with fail
  refine bodyPost_ret (four_slots rfl _ _ _) rfl ?_
  exact ⟨none, 0, 0, rfl, Reads.none_ _ _ _, rfl, F, H.out.mono (Nat.le_succ _), more_of, off_none _, (Turn.refl _ _).alloc _⟩

/-- 'do', whatever the act. -/
theorem do_calls {w : World} {F : Nat → Prop} {lb n : Nat} {rows : List Reg} {most : Int} (h : AList w F lb rows most n) (hlen : rows.length ≤ 200) (hn : n ≤ 100000) (x : Act1) (A : Option Addr) (m c : Nat) (hm : m ≤ 100000)
    (hx : Reads w 1 A m (ints x.on)) (hoff : 0 < m → Off F A) (hwf : ∀ k, k < m → wfi (x.on.getD k 0)) (ha : wfi x.a) :
    Calls Try.prog 10 #[.pointer (some ⟨lb, 0, none⟩), .agg #[.int .i64 x.dO, .int .i64 x.a, .int .i64 x.b, .slice A m c]] w (DoDone w F lb most n (doTo most rows x)) := by
  obtain ⟨d, a, b, on⟩ := x
  simp only at hx hwf ha ⊢
  by_cases h0 : d = 0
  · subst h0
    have e : doTo most rows ⟨0, a, b, on⟩ = addTo most rows a b := by simp [doTo]
    rw [e]
    exact do_add h hlen hn a b _ ha
  · by_cases h1 : d = 1
    · subst h1
      have e : doTo most rows ⟨1, a, b, on⟩ = stopTo rows a := by simp [doTo]
      rw [e]
      exact do_stop h hlen hn a b _
    · by_cases h2 : d = 2
      · subst h2
        have e : doTo most rows ⟨2, a, b, on⟩ = ((fireTo rows on).1, ⟨0, 0, false, (fireTo rows on).2⟩) := by simp [doTo]
        rw [e]
        exact do_fire h hlen a b A m c on hm hx hoff hwf
      · have e : doTo most rows ⟨d, a, b, on⟩ = (rows, ⟨0, 0, false, []⟩) := by simp [doTo, h0, h1, h2]
        rw [e]
        exact do_else h d a b _ h0 h1 h2

end Go.Proofs.Ythloikmmkkamoaa
