/- Contracts of Of's closure, of slices.IndexFunc and slices.DeleteFunc with it, of Of: the events of a task. -/
import Derived.Test.YtbeapjndgkjpeaaDoorList
namespace Go.Proofs.YtbeapjndgkjpeaaDoor
open Go.RowKit Go.Maps

section
variable {w : World} {base size : Nat} {e : TypeId} {g n cap : Nat} {xs : List Value}

/-- A shorter piece of an owned row, from its begin. -/
theorem own_cut (h : w.ownsRow base e size (.slice (some ⟨g, 0, none⟩) n cap) n xs) {i : Nat} (hi : i ≤ n) : w.ownsRow base e size (.slice (some ⟨g, 0, none⟩) i cap) i (xs.take (i * size)) := by
  rcases h.2 with ⟨h', _⟩ | ⟨g', cap', cur, h', hb, hg, hnc, hcm, hcs, htake⟩
  · simp at h'
  · simp only [Value.slice.injEq, Option.some.injEq, Addr.mk.injEq, and_true, true_and] at h'
    obtain ⟨rfl, rfl⟩ := h'
    have hl := h.1
    have hle : i * size ≤ n * size := Nat.mul_le_mul_right _ hi
    refine ⟨by simp; omega, .inr ⟨g, cap, cur, rfl, hb, hg, by omega, hcm, hcs, ?_⟩⟩
    rw [← htake, List.take_take]
    congr 1
    omega

theorem own_setCells : ∀ (vs : List Value) (o : Nat) (w : World) (xs : List Value), w.ownsRow base e size (.slice (some ⟨g, 0, none⟩) n cap) n xs →
    ∃ xs', (w.setCells g o vs).ownsRow base e size (.slice (some ⟨g, 0, none⟩) n cap) n xs' ∧ xs'.take o = xs.take o ∧ w.grownBy (w.setCells g o vs) (some g)
  | [], o, w, xs, h => ⟨xs, h, rfl, World.grownBy.refl _ _⟩
  | v :: r, o, w, xs, h => by
    obtain ⟨h1, hg1⟩ := h.stored o v
    obtain ⟨xs', h2, ht, hg2⟩ := own_setCells r (o + 1) _ _ h1
    refine ⟨xs', h2, ?_, hg1.trans hg2⟩
    have := congrArg (List.take o) ht
    rw [List.take_take, List.take_take] at this
    have e1 : min o (o + 1) = o := by omega
    rw [e1] at this
    rw [this, List.take_set_of_le (Nat.le_refl _)]
end

theorem wpList_clear_tail {P : Program} (w : World) {ops : Array Oper} {rest : List Oper} {o : Oper} {a : Act} {Q : Exit → Act → World → Prop} (hgd : o.guard = none) (x : Operand) (t : TypeId)
    (ho : o.op = .call { callee := .builtin .clear, args := #[x], argTypes := #[t] })
    (base size : Nat) (e : TypeId) (z : Value) (ht : P.underlying t = some (.slice e)) (hv : ∀ w, (zeroValue e).run P w = .ok z w) (hz : z.cells.size = size) (hs : 0 < size) (h1 : ∀ v ∈ z.cells.toList, v.oneCell' = true)
    (g n cap i c : Nat) (xs : List Value) (hown : w.ownsRow base e size (.slice (some ⟨g, 0, none⟩) n cap) n xs) (hi : i < n)
    (hx : a.eval x = .slice (some ⟨g, i * size, none⟩) (n - i) c)
    (h : ∀ w', w'.ownsRow base e size (.slice (some ⟨g, 0, none⟩) i cap) i (xs.take (i * size)) → w.grownBy w' (some g) → wpList P ops Q rest (a.put o.dst (.tuple #[])) w') : wpList P ops Q (o :: rest) a w := by
  refine wpList_plain hgd fun K hK => ?_
  have hl : xs.length = n * size := hown.1
  have hlen : (Builtin.zeroCells z.cells (n - i)).toList.length = (n - i) * size := by simp [Builtin.zeroCells, hz]
  have hin : ∀ j, j < (n - i) * size → i * size + j < n * size := by
    intro j hj
    have : i * size + (n - i) * size = n * size := by rw [← Nat.add_mul]; congr 1; omega
    omega
  have hst := run_storeCells_cells (P := P) g (i * size) (Builtin.zeroCells z.cells (n - i)).toList 0 w
    (fun j hj => by
      rw [hlen] at hj
      have := hin j hj
      rw [Nat.add_zero, hown.cellAt _ (by omega), List.getElem?_eq_getElem (by omega)]; rfl)
    (fun j _ => hown.frozenAt _)
    (fun v hv' => by
      simp only [Builtin.zeroCells, Array.toList_map, List.mem_map] at hv'
      obtain ⟨k, _, rfl⟩ := hv'
      have hk : k % z.cells.size < z.cells.size := Nat.mod_lt _ (by omega)
      rw [getElem!_pos z.cells _ hk]
      exact h1 _ (Array.getElem_mem_toList hk))
  rw [Nat.add_zero] at hst
  have hrun : (Builtin.clear_ #[t] o.type #[.slice (some ⟨g, i * size, none⟩) (n - i) c]).run P w = .ok (.tuple #[]) (w.setCells g (i * size) (Builtin.zeroCells z.cells (n - i)).toList) := by
    obtain ⟨m, hm⟩ : ∃ m, n - i = m + 1 := ⟨n - i - 1, by omega⟩
    rw [hm] at hst ⊢
    simp [Builtin.clear_, run_underlying ht, hv, hst]
  obtain ⟨xs', h2, h3, h4⟩ := own_setCells (Builtin.zeroCells z.cells (n - i)).toList (i * size) w xs hown
  unfold Oper.wp execOp
  simp only [ho, resolve, invoke, builtin, Sem.run_bind, Sem.run_pure, Result.andThen_ok, List.map_toArray, List.map_cons, List.map_nil, hx, hrun]
  refine hK _ _ (h _ ?_ h4)
  rw [← h3]
  exact own_cut h2 (Nat.le_of_lt hi)

/-- The events of a task. -/
def ofT (t : Int) (xs : List Ev) : List Ev := xs.filter (fun x => x.task == t)
theorem ofT_snoc (t : Int) (xs : List Ev) (k : Nat) (h : k < xs.length) : ofT t (xs.take (k + 1)) = ofT t (xs.take k) ++ (if (xs.getD k default).task = t then [xs.getD k default] else []) := by
  unfold ofT
  rw [List.take_succ_eq_append_getElem h, List.filter_append]
  simp only [List.getD, List.getElem?_eq_getElem h, Option.getD_some]
  congr 1
  by_cases hq : xs[k].task = t <;> simp [hq]
theorem ofT_le (t : Int) (xs : List Ev) : (ofT t xs).length ≤ xs.length := List.length_filter_le _ _

/-- The loop of DeleteFunc: zs is the row now, a places are kept, b are looked at. -/
structure Kept (t : Int) (xs zs : List Ev) (a b : Nat) : Prop where
  len : zs.length = xs.length
  head : zs.take a = ofT t (xs.take b)
  num : (ofT t (xs.take b)).length = a
  lt : a < b
  tail : ∀ k, b ≤ k → zs.getD k default = xs.getD k default
theorem Kept.skip {t : Int} {xs zs : List Ev} {a b : Nat} (h : Kept t xs zs a b) (hb : b < xs.length) (hx : (xs.getD b default).task ≠ t) : Kept t xs zs a (b + 1) := by
  have e : ofT t (xs.take (b + 1)) = ofT t (xs.take b) := by rw [ofT_snoc t xs b hb, if_neg hx, List.append_nil]
  exact ⟨h.len, by rw [e]; exact h.head, by rw [e]; exact h.num, by have := h.lt; omega, fun k hk => h.tail k (by omega)⟩
theorem Kept.keep {t : Int} {xs zs : List Ev} {a b : Nat} (h : Kept t xs zs a b) (hb : b < xs.length) (hx : (xs.getD b default).task = t) : Kept t xs (zs.set a (xs.getD b default)) (a + 1) (b + 1) := by
  have e : ofT t (xs.take (b + 1)) = ofT t (xs.take b) ++ [xs.getD b default] := by rw [ofT_snoc t xs b hb, if_pos hx]
  have hl := h.len
  have ha := h.lt
  refine ⟨by simp [hl], ?_, by rw [e]; simp [h.num], by omega, fun k hk => ?_⟩
  · rw [e, ← h.head, List.take_succ_eq_append_getElem (by simp; omega), List.take_set_of_le (Nat.le_refl _)]
    simp
  · have := h.tail k (by omega)
    simp only [List.getD] at this ⊢
    rw [List.getElem?_set_ne (by omega)]
    exact this
theorem Kept.start {t : Int} {xs : List Ev} {p : Nat} (hp : p < xs.length) (hpx : (xs.getD p default).task ≠ t) (hfirst : ∀ k, k < p → (xs.getD k default).task = t) : Kept t xs xs p (p + 1) := by
  have e : ofT t (xs.take p) = xs.take p := by
    unfold ofT
    rw [List.filter_eq_self]
    intro x hx
    obtain ⟨k, hk, rfl⟩ := List.getElem_of_mem hx
    have hk' : k < p := by simp at hk; omega
    have := hfirst k hk'
    simp only [List.getD, List.getElem?_eq_getElem (show k < xs.length by omega), Option.getD_some] at this
    simpa using this
  have e2 : ofT t (xs.take (p + 1)) = xs.take p := by rw [ofT_snoc t xs p hp, if_neg hpx, List.append_nil, e]
  exact ⟨rfl, e2.symm, by rw [e2]; simp; omega, by omega, fun _ _ => rfl⟩
theorem Kept.done {t : Int} {xs zs : List Ev} {a : Nat} (h : Kept t xs zs a xs.length) : zs.take a = ofT t xs ∧ (ofT t xs).length = a ∧ a < xs.length := by
  have h1 := h.head
  have h2 := h.num
  rw [List.take_length] at h1 h2
  exact ⟨h1, h2, h.lt⟩

theorem evs_take (zs : List Ev) (a : Nat) : (evs zs).take (a * 4) = evs (zs.take a) := by
  induction zs generalizing a with
  | nil => simp [evs]
  | cons z zs ih =>
    cases a with
    | zero => simp [evs]
    | succ a =>
      show (z.cells ++ evs zs).take ((a + 1) * 4) = z.cells ++ evs (zs.take a)
      rw [List.take_append, ← ih a]
      have e1 : z.cells.length = 4 := rfl
      have e2 : (a + 1) * 4 - z.cells.length = a * 4 := by rw [e1]; omega
      rw [e2, List.take_of_length_le (by rw [e1]; omega)]
theorem evs_set (zs : List Ev) (a : Nat) (x : Ev) (h : a < zs.length) : ((((evs zs).set (a * 4) (.int .i64 x.kind)).set (a * 4 + 1) (.int .i64 x.task)).set (a * 4 + 2) (.int .i64 x.a)).set (a * 4 + 3) (.int .i64 x.n) = evs (zs.set a x) := by
  induction zs generalizing a with
  | nil => simp at h
  | cons z zs ih =>
    cases a with
    | zero => simp [evs, Ev.cells]
    | succ a =>
      have := ih a (by simpa using h)
      show ((((z.cells ++ evs zs).set _ _).set _ _).set _ _).set _ _ = z.cells ++ evs (zs.set a x)
      rw [← this]
      have e : ∀ j (l : List Value) (v : Value), (z.cells ++ l).set ((a + 1) * 4 + j) v = z.cells ++ l.set (a * 4 + j) v := by
        intro j l v
        rw [List.set_append_right _ _ (by simp [Ev.cells]; omega)]
        congr 2
        simp [Ev.cells]; omega
      have e0 := e 0
      simp only [Nat.add_zero] at e0
      rw [e0, e 1, e 2, e 3]

theorem own_ev_at {w : World} {base g n cap : Nat} {zs : List Ev} (h : w.ownsRow base 23 4 (.slice (some ⟨g, 0, none⟩) n cap) n (evs zs)) {k : Nat} (hk : k < n) : EvAt w g 0 k (zs.getD k default) := by
  obtain ⟨b, off, e, hc⟩ := (Reads.of_own h).ev (by omega)
  obtain ⟨rfl, rfl⟩ : g = b ∧ 0 = off := by simpa using e
  exact hc k hk

/-- the closure of Of -/
abbrev isT (cb : Nat) : Value := .func (.func 27) #[] #[.pointer (some ⟨cb, 0, none⟩)]
theorem ne_calls (x : Ev) (t : Int) (cb : Nat) (w : World) (hc : w.cell? ⟨cb, 0, none⟩ = some (.int .i64 t)) :
    Calls Tryd.prog 27 #[.agg #[.int .i64 x.kind, .int .i64 x.task, .int .i64 x.a, .int .i64 x.n], .pointer (some ⟨cb, 0, none⟩)] w fun e w' => e = .returned (.bool (x.task != t)) ∧ Turn nowhere w w' := by
  have hc2 := ((Turn.refl nowhere w).alloc (.cells #[.int .i64 x.kind, .int .i64 x.task, .int .i64 x.a, .int .i64 x.n] 23)).cell hc (fun h => h)
  go_enter Tryd.func27, Tryd.ntmps27
  go_wp2
  go_ret
  exact ⟨rfl, (Turn.refl _ _).alloc _⟩

end Go.Proofs.YtbeapjndgkjpeaaDoor
