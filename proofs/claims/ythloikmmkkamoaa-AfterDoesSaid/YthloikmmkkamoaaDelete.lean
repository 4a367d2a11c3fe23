/- The contract of slices.DeleteFunc with Stop's closure: those that are not n stay, in the same row. -/
import Derived.Test.YthloikmmkkamoaaClone
namespace Go.Proofs.Ythloikmmkkamoaa
open Go.RowKit Go.Maps

section
variable {w : World} {base : Nat} {e : TypeId} {g n cap : Nat} {xs : List Value}

/-- A shorter piece of an owned row, from its begin. -/
theorem own_cut (h : w.ownsRow base e 1 (.slice (some ⟨g, 0, none⟩) n cap) n xs) {i : Nat} (hi : i ≤ n) : w.ownsRow base e 1 (.slice (some ⟨g, 0, none⟩) i cap) i (xs.take i) := by
  rcases h.2 with ⟨h', _⟩ | ⟨g', cap', cur, h', hb, hg, hnc, hcm, hcs, htake⟩
  · simp at h'
  · simp only [Value.slice.injEq, Option.some.injEq, Addr.mk.injEq, and_true, true_and] at h'
    obtain ⟨rfl, rfl⟩ := h'
    have hl := h.1
    refine ⟨by simp; omega, .inr ⟨g, cap, cur, rfl, hb, hg, by omega, hcm, hcs, ?_⟩⟩
    rw [← htake, List.take_take]
    congr 1
    omega

theorem own_setCells : ∀ (vs : List Value) (o : Nat) (w : World) (xs : List Value), w.ownsRow base e 1 (.slice (some ⟨g, 0, none⟩) n cap) n xs →
    ∃ xs', (w.setCells g o vs).ownsRow base e 1 (.slice (some ⟨g, 0, none⟩) n cap) n xs' ∧ xs'.take o = xs.take o ∧ w.grownBy (w.setCells g o vs) (some g)
  | [], o, w, xs, h => ⟨xs, h, rfl, World.grownBy.refl _ _⟩
  | v :: r, o, w, xs, h => by
    obtain ⟨h1, hg1⟩ := h.stored o v
    obtain ⟨xs', h2, ht, hg2⟩ := own_setCells r (o + 1) _ _ h1
    refine ⟨xs', h2, ?_, hg1.trans hg2⟩
    have := congrArg (List.take o) ht
    rw [List.take_take, List.take_take] at this
    have e1 : min o (o + 1) = o := by omega
    rw [e1] at this
    rw [this, List.take_set_of_le (Nat.le_refl _)]
end

theorem wpList_clear_tail {P : Program} (w : World) {ops : Array Oper} {rest : List Oper} {o : Oper} {a : Act} {Q : Exit → Act → World → Prop} (hgd : o.guard = none) (x : Operand) (t : TypeId)
    (ho : o.op = .call { callee := .builtin .clear, args := #[x], argTypes := #[t] })
    (base : Nat) (e : TypeId) (z : Value) (ht : P.underlying t = some (.slice e)) (hv : ∀ w, (zeroValue e).run P w = .ok z w) (hz : z.cells = #[z]) (h1 : z.oneCell' = true)
    (g n cap i c : Nat) (xs : List Value) (hown : w.ownsRow base e 1 (.slice (some ⟨g, 0, none⟩) n cap) n xs) (hi : i < n)
    (hx : a.eval x = .slice (some ⟨g, i, none⟩) (n - i) c)
    (h : ∀ w', w'.ownsRow base e 1 (.slice (some ⟨g, 0, none⟩) i cap) i (xs.take i) → w.grownBy w' (some g) → wpList P ops Q rest (a.put o.dst (.tuple #[])) w') : wpList P ops Q (o :: rest) a w := by
  refine wpList_plain hgd fun K hK => ?_
  have hl : xs.length = n := by have := hown.1; omega
  have hrun := Lib.run_clear_slice (P := P) w t e o.type z ht hv hz h1 g i (n - i) c (by omega)
    (fun j hj => by rw [hown.cellAt _ (by omega), List.getElem?_eq_getElem (by omega)]; rfl) (fun j _ => hown.frozenAt _)
  obtain ⟨xs', h2, h3, h4⟩ := own_setCells (List.replicate (n - i) z) i w xs hown
  unfold Oper.wp execOp
  simp only [ho, resolve, invoke, builtin, Sem.run_bind, Sem.run_pure, Result.andThen_ok, List.map_toArray, List.map_cons, List.map_nil, hx, hrun]
  refine hK _ _ (h _ ?_ h4)
  rw [← h3]
  exact own_cut h2 (Nat.le_of_lt hi)

/-- Those that are not n0. -/
def but (n0 : Int) (xs : List Int) : List Int := xs.filter (fun x => !(x == n0))

theorem but_snoc (n0 : Int) (xs : List Int) (k : Nat) (h : k < xs.length) : but n0 (xs.take (k + 1)) = but n0 (xs.take k) ++ (if xs.getD k 0 == n0 then [] else [xs.getD k 0]) := by
  unfold but
  rw [List.take_succ_eq_append_getElem h, List.filter_append]
  simp only [List.getD, List.getElem?_eq_getElem h, Option.getD_some]
  congr 1
  cases hq : (xs[k] == n0) <;> simp [hq]

theorem but_le (n0 : Int) (xs : List Int) (k : Nat) : (but n0 (xs.take k)).length ≤ k :=
  Nat.le_trans (List.length_filter_le _ _) (List.length_take_le _ _)

theorem but_first (n0 : Int) (xs : List Int) (p : Nat) (hp : p < xs.length) (hpx : xs.getD p 0 = n0) (hfirst : ∀ k, k < p → xs.getD k 0 ≠ n0) : but n0 (xs.take (p + 1)) = xs.take p ∧ p < xs.length := by
  refine ⟨?_, hp⟩
  rw [but_snoc n0 xs p hp, hpx]
  simp only [beq_self_eq_true, if_true, List.append_nil]
  unfold but
  rw [List.filter_eq_self]
  intro x hx
  obtain ⟨k, hk, rfl⟩ := List.getElem_of_mem hx
  have hk' : k < p := by simp at hk; omega
  have := hfirst k hk'
  simp only [List.getD, List.getElem?_eq_getElem (show k < xs.length by omega), Option.getD_some] at this
  simpa [List.getElem_take] using this

/-- After b places have been looked at: the row holds zs: those kept at its begin, the rest as it was. -/
structure Kept (n0 : Int) (xs zs : List Int) (a b : Nat) : Prop where
  len : zs.length = xs.length
  head : zs.take a = but n0 (xs.take b)
  num : (but n0 (xs.take b)).length = a
  lt : a < b
  tail : ∀ k, b ≤ k → zs.getD k 0 = xs.getD k 0

theorem Kept.skip {n0 : Int} {xs zs : List Int} {a b : Nat} (h : Kept n0 xs zs a b) (hb : b < xs.length) (hx : xs.getD b 0 = n0) : Kept n0 xs zs a (b + 1) := by
  have e := but_snoc n0 xs b hb
  rw [hx] at e
  simp only [beq_self_eq_true, if_true, List.append_nil] at e
  exact ⟨h.len, by rw [e]; exact h.head, by rw [e]; exact h.num, by have := h.lt; omega, fun k hk => h.tail k (by omega)⟩

theorem Kept.keep {n0 : Int} {xs zs : List Int} {a b : Nat} (h : Kept n0 xs zs a b) (hb : b < xs.length) (hx : xs.getD b 0 ≠ n0) : Kept n0 xs (zs.set a (xs.getD b 0)) (a + 1) (b + 1) := by
  have e := but_snoc n0 xs b hb
  rw [if_neg (by simpa using hx)] at e
  have hal : a < zs.length := by have := h.len; have := h.lt; omega
  refine ⟨by simpa using h.len, ?_, by rw [e]; simp [h.num], by have := h.lt; omega, fun k hk => ?_⟩
  · rw [e, ← h.head, List.take_succ_eq_append_getElem (by simpa using hal), List.take_set_of_le (Nat.le_refl _)]
    simp
  · have := h.tail k (by omega)
    simp only [List.getD] at this ⊢
    rw [List.getElem?_set_ne (by have := h.lt; omega)]
    exact this

theorem Kept.start {n0 : Int} {xs : List Int} {p : Nat} (hp : p < xs.length) (hpx : xs.getD p 0 = n0) (hfirst : ∀ k, k < p → xs.getD k 0 ≠ n0) : Kept n0 xs xs p (p + 1) := by
  obtain ⟨h, _⟩ := but_first n0 xs p hp hpx hfirst
  exact ⟨rfl, h.symm, by rw [h]; simp; omega, by omega, fun _ _ => rfl⟩

theorem Kept.done {n0 : Int} {xs zs : List Int} {a : Nat} (h : Kept n0 xs zs a xs.length) : zs.take a = but n0 xs ∧ (but n0 xs).length = a ∧ a < xs.length := by
  have h1 := h.head
  have h2 := h.num
  rw [List.take_length] at h1 h2
  exact ⟨h1, h2, h.lt⟩

theorem ints_take (zs : List Int) (a : Nat) : (ints zs).take a = ints (zs.take a) := by simp
theorem ints_set (zs : List Int) (a : Nat) (x : Int) : (ints zs).set a (.int .i64 x) = ints (zs.set a x) := by simp
theorem own_int_at {w : World} {base g n cap : Nat} {zs : List Int} (h : w.ownsRow base 3 1 (.slice (some ⟨g, 0, none⟩) n cap) n (ints zs)) {k : Nat} (hk : k < n) : w.cell? ⟨g, k, none⟩ = some (.int .i64 (zs.getD k 0)) := by
  have hl := h.1
  simp at hl
  rw [h.cellAt k (by omega)]
  exact ints_at (by omega)

def Deleted (w : World) (base g cap : Nat) (ys : List Int) (e : Ending) (w' : World) : Prop :=
  e = .returned (.slice (some ⟨g, 0, none⟩) ys.length cap) ∧ w'.ownsRow base 3 1 (.slice (some ⟨g, 0, none⟩) ys.length cap) ys.length (ints ys) ∧ w.grownBy w' (some g)

set_option maxHeartbeats 400000 in
theorem delete_calls (base g n cap cb : Nat) (n0 : Int) (xs : List Int) (w : World) (hown : w.ownsRow base 3 1 (.slice (some ⟨g, 0, none⟩) n cap) n (ints xs)) (hc : w.cell? ⟨cb, 0, none⟩ = some (.int .i64 n0)) (hne : cb ≠ g) (hn : n ≤ 1000000)
    (p : Nat) (hp : p < n) (hpx : xs.getD p 0 = n0) (hfirst : ∀ k, k < p → xs.getD k 0 ≠ n0) (hcap : n ≤ cap) :
    Calls Try.prog 25 #[.slice (some ⟨g, 0, none⟩) n cap, isN cb] w (Deleted w base g cap (but n0 xs)) := by
  have hl : xs.length = n := by have := hown.1; simpa using this
  have HL := Lib.hid hl
  have HO := Lib.hid hown
  have HC := Lib.hid hc
  have HP := Lib.hid hpx
  have HF := Lib.hid hfirst
  have HN := Lib.hid hne
  have HS := Lib.hid (Kept.start (n0 := n0) (by omega) hpx hfirst)
  have hpm : ((p : Int) == -1) = false := beq_eq_false_iff_ne.2 (by omega)
  clear hl hown hc hpx hfirst hne
  go_enter Try.func25, Try.ntmps25
  go_wp2_with fail
  refine (index_calls g 0 n cap cb n0 xs w hn (fun k hk => by rw [Nat.zero_add]; exact own_int_at HO.out hk) HC.out p hp HP.out HF.out).mono ?_
  rintro e w' ⟨rfl, rfl⟩
  have h0 : (0 : Int) ≤ (p : Int) := by omega
  go_wp2_with fail
  go_loopw [5, 6] (fun i j wr => ∃ (a b : Nat) (zs : List Int), b ≤ n ∧ a < b ∧ i = .int .i64 a ∧ j = .int .i64 b ∧ Hid (Kept n0 xs zs a b) ∧ Hid (wr.ownsRow base 3 1 (.slice (some ⟨g, 0, none⟩) n cap) n (ints zs)) ∧ Hid (w.grownBy wr (some g))) (fun _ j _ => n - (intOf j).toNat)
  case atStart => exact ⟨p, p + 1, xs, by omega, by omega, rfl, by go_num, HS, HO, World.grownBy.refl _ _⟩
  case round =>
    obtain ⟨a, b, zs, hb, hab, rfl, rfl, HK, HZ, HG⟩ := hrel
    have h2 : (0 : Int) ≤ (a : Int) := by omega
    have h3 : (a : Int) < (n : Int) := by omega
    have h4 : (0 : Int) ≤ (b : Int) := by omega
    by_cases hlt : b < n
    · have h5 : (b : Int) < (n : Int) := by omega
      have hcb : wr.cell? ⟨g, b, none⟩ = some (.int .i64 (xs.getD b 0)) := by rw [← HK.out.tail b (Nat.le_refl _)]; exact own_int_at HZ.out hlt
      have hcc : wr.cell? ⟨cb, 0, none⟩ = some (.int .i64 n0) := HG.out.cell HC.out (by simpa using HN.out)
      by_cases hx : xs.getD b 0 = n0
      · have HK' := Lib.hid (HK.out.skip (by rw [HL.out]; exact hlt) hx)
        rw [hx] at hcb
        clear hx
        go_wp2_with (go_at_call 26; refine (eq_calls _ _ _ _ hcc).mono ?_; rintro e w' ⟨rfl, rfl⟩)
        go_roundw
        case rel => exact ⟨a, b + 1, zs, by omega, by omega, rfl, by go_num, HK', HZ, HG⟩
        case measure => simp [intOf]; omega
      · have HK' := Lib.hid (HK.out.keep (by rw [HL.out]; exact hlt) hx)
        have hbq : (xs.getD b 0 == n0) = false := beq_eq_false_iff_ne.2 hx
        have hca : wr.cell? ⟨g, a, none⟩ = some (.int .i64 (zs.getD a 0)) := own_int_at HZ.out (by omega)
        have hfa : wr.frozen? ⟨g, a, none⟩ = false := HZ.out.frozenAt a
        have HZ' := Lib.hid (HZ.out.stored a (.int .i64 (xs.getD b 0)))
        rw [ints_set] at HZ'
        clear hx
        generalize xs.getD b 0 = q at hcb hbq HK' HZ'
        generalize zs.getD a 0 = q' at hca
        go_wp2_with (go_at_call 26; refine (eq_calls _ _ _ _ hcc).mono ?_; rintro e w' ⟨rfl, rfl⟩)
        go_roundw
        case rel => exact ⟨a + 1, b + 1, zs.set a q, by omega, by omega, by go_num, by go_num, HK', HZ'.out.1, HG.out.trans HZ'.out.2⟩
        case measure => simp [intOf]; omega
    · obtain rfl : b = n := by omega
      rw [← HL.out] at HK
      obtain ⟨q1, q2, q3⟩ := HK.out.done
      rw [HL.out] at q3
      have Q1 := Lib.hid q1
      have Q2 := Lib.hid q2
      clear q1 q2 HK
      have hz : ∀ w, (zeroValue 3).run Try.prog w = .ok (.int .i64 0) w := fun _ => by kernel_rfl
      go_wp2_with (with_reducible refine wpList_clear_tail _ rfl (.tmp 38) 32 rfl base 3 (.int .i64 0) Try.underlying32 hz rfl rfl g b cap a (cap - a) (ints zs) HZ.out q3 ?ev ?k)
      case ev => first | rfl | (go_simp; rfl)
      case k =>
        intro w' hown hg
        have HO' := Lib.hid hown
        have HG' := Lib.hid (HG.out.trans hg)
        clear hown hg
        go_wp2
        go_ret
        refine ⟨?_, ?_, HG'.out⟩
        · rw [Q2.out]; rfl
        · rw [Q2.out, ← Q1.out, ← ints_take]; exact HO'.out

end Go.Proofs.Ythloikmmkkamoaa
