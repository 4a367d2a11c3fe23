/- Arguments that come in as data: a slice of events, an event; the step from 'below nothing has turned' to what the row asks. -/
import Derived.Test.YtbeapjndgkjpeaaDoorLaid
import Derived.Deep.Slices
import Derived.Deep.Fields
import Derived.ChangeSame
import Derived.ChangeMaps5
namespace Go.Proofs.YtbeapjndgkjpeaaDoor
open Go.ChangeShapes Go.WideShapes Go.Deep Go.ChangeAt Go.RowKit Go.Maps

theorem wf_i64 {n : Int} (h : (Lit.int .i64 n).wf = true) : i64 n := by
  simpa [Lit.wf, IntKind.min, IntKind.max, IntKind.signed, IntKind.bits] using h

section
variable {H : Type} {enc : TypeId × Value → H} {P : Program} {w : World} {base : Nat} {spare : Nat → Bool} {held : Bool}
theorem open_slice_fields {t e : TypeId} {fs : Array Field} {fuel : Nat} {cs : List Value} {x : DataW H × List MemPlace} (ht : P.underlying t = some (.slice e)) (he : P.underlying e = some (.struct fs))
    (hone : oneCellFields P fs = true) (hC : P.cellsOf e = fs.size) (h : DataW.trod enc P w base spare held fuel t cs = some x) :
    (cs = [.slice none 0 0] ∧ x = (.nil, [])) ∨
    ∃ (a : Addr) (len cap m : Nat) (D : Nat → DataW H) (Pl : Nat → List MemPlace), cs = [.slice (some a) len cap] ∧ base ≤ a.block ∧ len ≤ cap ∧ cap ≤ maxLen ∧ m = (if spare a.block then cap else len) ∧
      x = (.slice ((List.range len).map D) ((List.range (m - len)).map fun j => D (len + j)), MemPlace.row a (m * fs.size) ++ (List.range m).flatMap Pl) ∧
      ∀ i, i < m → ∃ (ys : List (DataW H × List MemPlace)) (n : Nat), D i = .agg (ys.map (·.1)) ∧ Pl i = ys.flatMap (·.2) ∧ ys.length = fs.size ∧
        ∀ (j : Nat) (f : Field), fs[j]? = some f → ∃ (v : Value) (y : DataW H × List MemPlace), w.cell? (a.add (i * fs.size + j)) = some v ∧ ys[j]? = some y ∧ DataW.trod enc P w base spare held n f.type [v] = some y := by
  rcases open_slice ht h with h0 | ⟨a, len, cap, m, n, D, Pl, hcs, hb, hl, hm, hmm, hx, hi⟩
  · exact .inl h0
  · refine .inr ⟨a, len, cap, m, D, Pl, hcs, hb, hl, hm, hmm, by rw [hC] at hx; exact hx, fun i him => ?_⟩
    obtain ⟨cs', hc, ht'⟩ := hi i him
    rw [hC] at hc
    obtain ⟨ys, n', hn', hy, hlen, hyl, hf⟩ := DataW.trod_struct he ht'
    obtain ⟨_, hcl, hat⟩ := World.cells?_some hc
    simp only [Prod.mk.injEq] at hy
    refine ⟨ys, n', hy.1, hy.2, hyl, fun j f hj => ?_⟩
    obtain ⟨ho, hk⟩ := hone_of hone j f hj
    have hjl : j < fs.size := (Array.getElem?_eq_some_iff.1 hj).1
    have hcell := hat j hjl
    have hv : cs'[j]? = some (cs'[j]'(by omega)) := List.getElem?_eq_getElem (by omega)
    have h1 := hf j f hj
    rw [ho, hk] at h1
    have hone' : (cs'.drop j).take 1 = [cs'[j]'(by omega)] := by
      rw [List.drop_eq_getElem_cons (by omega)]
      rfl
    rw [hone'] at h1
    have hys : ys[j]? = some (ys[j]'(by omega)) := List.getElem?_eq_getElem (by omega)
    refine ⟨_, _, ?_, hys, h1.trans hys⟩
    rw [← Go.Deep.add_add, hcell, hv]

/-- What was read is read again, where below nothing has turned. -/
theorem trod_kept {t : TypeId} (hl : laidOutB P = true) (hr : P.readableRec t = true) (hrow : t < P.types.size) {W W' : World} {v : Value} {d : DataW H} {ps : List MemPlace}
    (h : DataW.Trod enc P W 0 (fun _ => true) true t v d ps) (hb : Below W.heap.size W W') (hlt : ∀ x ∈ ps, x.block < W.heap.size) (sp : Nat → Bool) (hsp : ∀ x ∈ ps, sp x.block = true) :
    DataW.Trod enc P W' 0 sp true t v d ps := WideElems.Trod_stays hl hr hrow h (fun x hx => hb.same (hlt x hx)) hsp

/-- A place that is a cell has no spot. -/
theorem spot_none {a : Addr} {j : Nat} {v : Value} (h : w.cell? (a.add j) = some v) (hj : j = 0) : a = ⟨a.block, a.off, none⟩ := by
  subst hj
  obtain ⟨b, o, s⟩ := a
  cases s with
  | none => rfl
  | some s =>
    simp [Addr.add, World.cell?] at h
    split at h <;> simp at h

end

section
variable {H : Type} {enc : TypeId × Value → H} {w : World} {base : Nat} {spare : Nat → Bool} {held : Bool}
/-- A slice of events that came in. -/
theorem evs_in {fuel : Nat} {v : Value} {x : DataW H × List MemPlace} (h : DataW.trod enc Tryd.prog w base spare held fuel 24 [v] = some x) :
    ∃ A n c l, v = .slice A n c ∧ n ≤ maxLen ∧ l.length = n ∧ Reads w 4 A n (evs l) ∧ (∀ x ∈ l, i64Ev x) := by
  rcases open_slice_fields Tryd.underlying24 Tryd.underlying23 (by kernel_rfl) (by kernel_rfl) h with ⟨h1, _⟩ | ⟨a, len, cap, m, D, Pl, h1, _, hl, hm, hmm, _, hi⟩
  · injection h1 with h1 _
    exact ⟨none, 0, 0, [], h1, by simp [maxLen], rfl, Reads.none_ _ _ _, fun x hx => by cases hx⟩
  · injection h1 with h1 _
    have hle : len ≤ m := by rw [hmm]; split <;> omega
    have each : ∀ i, ∃ y : Ev, i < len → w.cell? (a.add (i * 4)) = some (.int .i64 y.kind) ∧ w.cell? (a.add (i * 4 + 1)) = some (.int .i64 y.task) ∧ w.cell? (a.add (i * 4 + 2)) = some (.int .i64 y.a) ∧ w.cell? (a.add (i * 4 + 3)) = some (.int .i64 y.n) ∧ i64Ev y := by
      intro i
      by_cases hil : i < len
      · obtain ⟨ys, n, _, _, _, hf⟩ := hi i (by omega)
        obtain ⟨v0, y0, c0, _, t0⟩ := hf 0 _ rfl
        obtain ⟨v1, y1, c1, _, t1⟩ := hf 1 _ rfl
        obtain ⟨v2, y2, c2, _, t2⟩ := hf 2 _ rfl
        obtain ⟨v3, y3, c3, _, t3⟩ := hf 3 _ rfl
        obtain ⟨n0, e0, _, w0⟩ := DataW.trod_int Tryd.underlying3 t0
        obtain ⟨n1, e1, _, w1⟩ := DataW.trod_int Tryd.underlying3 t1
        obtain ⟨n2, e2, _, w2⟩ := DataW.trod_int Tryd.underlying3 t2
        obtain ⟨n3, e3, _, w3⟩ := DataW.trod_int Tryd.underlying2 t3
        injection e0 with e0 _
        injection e1 with e1 _
        injection e2 with e2 _
        injection e3 with e3 _
        subst e0; subst e1; subst e2; subst e3
        exact ⟨⟨n0, n1, n2, n3⟩, fun _ => ⟨c0, c1, c2, c3, wf_i64 w0, wf_i64 w1, wf_i64 w2, wf_i64 w3⟩⟩
      · exact ⟨default, fun h => absurd h hil⟩
    obtain ⟨Y, hY⟩ := Classical.axiomOfChoice each
    have hget : ∀ k, k < len → (((List.range len).map Y).getD k default) = Y k := fun k hk => by
      simp [List.getD, hk]
    refine ⟨some a, len, cap, (List.range len).map Y, h1, by omega, by simp, ⟨by rw [evs_len]; simp, fun hn => ?_⟩, fun x hx => by
      obtain ⟨k, hk, rfl⟩ := List.mem_map.1 hx
      exact (hY k (List.mem_range.1 hk)).2.2.2.2⟩
    have e := spot_none (hY 0 hn).1 (by omega)
    refine ⟨a.block, a.off, by rw [← e], fun j u hu => ?_⟩
    have hj : j < len * 4 := by
      have := (List.getElem?_eq_some_iff.1 hu).1
      rw [evs_len] at this
      simpa using this
    have hq : j / 4 < len := by omega
    have hat := evs_at ((List.range len).map Y) (j / 4) (by simpa using hq)
    rw [hget _ hq] at hat
    obtain ⟨c0, c1, c2, c3, _⟩ := hY _ hq
    rw [e] at c0 c1 c2 c3
    rw [add_plain] at c0 c1 c2 c3
    have h4 : j % 4 = 0 ∨ j % 4 = 1 ∨ j % 4 = 2 ∨ j % 4 = 3 := by omega
    rcases h4 with h4 | h4 | h4 | h4
    · have : j = j / 4 * 4 := by omega
      rw [this, hat.1] at hu
      rw [this, c0]; exact hu
    · have : j = j / 4 * 4 + 1 := by omega
      rw [this, hat.2.1] at hu
      rw [this, c1]; exact hu
    · have : j = j / 4 * 4 + 2 := by omega
      rw [this, hat.2.2.1] at hu
      rw [this, c2]; exact hu
    · have : j = j / 4 * 4 + 3 := by omega
      rw [this, hat.2.2.2] at hu
      rw [this, c3]; exact hu
end

section
variable {H : Type} {enc : TypeId × Value → H} {P : Program}
theorem post_of_below {f : Func} {s : ChangeSpec} {apart fresh handsOn again : Bool} {W W' : World} {args : Array Value} {v : Value} {ds gs : List (DataW H)} {before pa pv : List MemPlace}
    (hW : DataW.Whole enc P f.params.toList s.vars apart W args.toList ds gs before)
    (hres : ∀ (b : Nat) (sp : Nat → Bool) (hd : Bool), DataW.TrodAll enc P W' b sp hd f.resultTypes.toList (v.resultList f.resultTypes.size) (s.fn H (ds ++ gs)).results [])
    (hargs : ∀ sp : Nat → Bool, (∀ p ∈ before, sp p.block = true) → DataW.TrodAll enc P W' 0 sp true f.params.toList args.toList (s.fn H (ds ++ gs)).args pa)
    (hvars : ∀ sp : Nat → Bool, (∀ p ∈ before, sp p.block = true) → DataW.TrodVars enc P W' sp s.vars (s.fn H (ds ++ gs)).vars pv)
    (hps : before = pa ++ pv) (hb : Below W.heap.size W W')
    (hok : ∀ (j : Nat) (t : TypeId) (r : Value), f.resultTypes[j]? = some t → (v.resultList f.resultTypes.size)[j]? = some r → Value.okWide P W' .any 0 t r) :
    s.post enc P f apart fresh handsOn again W args v W' := by
  have hlt : ∀ p ∈ before, p.block < W.heap.size := fun p hp => hW.lt p hp
  have hold : ∀ p ∈ before, (fun b => decide (b < W.heap.size)) p.block = true := fun p hp => by simpa using hlt p hp
  refine ⟨ds, gs, before, [], pa, pv, hW, hres _ _ _, hargs _ hold, hvars _ hold, World.keptBut_mono (fun p hp => ⟨hp, ?_⟩) (hb.frame (· ∈ before)), fun _ => ?_⟩
  · rw [hps, List.mem_append] at hp
    exact Or.inr hp
  · obtain ⟨_, _, _, _, _, hz, hn⟩ := hW
    refine ⟨hok, _, _, ([] ++ pa) ++ pv, ⟨[] ++ pa, pv, trodAll_append (hargs _ (fun _ _ => rfl)) (hres _ _ _), hvars _ (fun _ _ => rfl), rfl, ?_, ?_⟩, ?_⟩
    · intro b off hp
      have hin : MemPlace.cell b off ∈ before := by rw [hps]; simpa using hp
      rw [hb.frozen (hlt _ hin)]
      exact hz b off hin
    · intro ha
      have := hn ha
      rw [hps] at this
      simpa using this
    · intro p hp _
      rw [hps]
      simpa using hp
end

end Go.Proofs.YtbeapjndgkjpeaaDoor
