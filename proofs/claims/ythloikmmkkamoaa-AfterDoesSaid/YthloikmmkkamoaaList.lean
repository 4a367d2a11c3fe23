/- The list of what comes after, as it lies in memory: its registrations, and the map of who waits; what may be done to it. -/
import Derived.Test.YthloikmmkkamoaaDelete
import Derived.Deep.RegionHeld3
import Derived.Deep.RegionLaw
import Derived.Deep.DrawnRows
import Derived.StillTailTactics
namespace Go.Proofs.Ythloikmmkkamoaa
open Go.RowKit Go.Maps

def wfi (i : Int) : Prop := (Lit.int .i64 i).wf = true

/-- The numbers of those of 'on' that wait. -/
def waiting (rows : List Reg) (on : Int) : List Int :=
  ((List.range rows.length).filter fun i => (rows.getD i default).on == on && (rows.getD i default).state == 1).map fun i : Nat => (i : Int)

abbrev nilS : Value := .slice none 0 0
/-- What the map holds at a key, nil where nothing. -/
def at_ (V : Int → Option Value) (i : Int) : Value := (V i).getD nilS

/-- The list of what comes after, behind the pointer to block lb: 'rows', and the map of who waits for what ('wt'). F: its blocks. -/
structure AL (w : World) (F : Nat → Prop) (lb mb : Nat) (rv : Value) (V : Int → Option Value) (rows : List Reg) (wt : Int → List Int) (most : Int) (n : Nat) : Prop where
  blk : w.heap[lb]? = some (.cells #[rv, .map (some mb), .int .i64 most] 60 (0, 0))
  rws : w.ownsRow 0 54 3 rv rows.length (regs rows)
  mp : MapIs Try.prog 3 w mb n V
  each : ∀ i, wfi i → w.ownsRow 0 3 1 (at_ V i) (wt i).length (ints (wt i))
  apart : ∀ i j, wfi i → wfi j → i ≠ j → ∀ g, (at_ V i).ownBlock = some g → (at_ V j).ownBlock ≠ some g
  wfo : ∀ k, k < rows.length → wfi (rows.getD k default).on
  fb : ∀ k, F k → k < w.heap.size
  fl : F lb
  fm : F mb
  fr : ∀ g, rv.ownBlock = some g → F g
  fe : ∀ i, wfi i → ∀ g, (at_ V i).ownBlock = some g → F g

def AList (w : World) (F : Nat → Prop) (lb : Nat) (rows : List Reg) (most : Int) (n : Nat) : Prop :=
  ∃ mb rv V, AL w F lb mb rv V rows (waiting rows) most n

/-- F, and what is new. -/
def more (F : Nat → Prop) (w w' : World) : Nat → Prop := fun k => F k ∨ (w.heap.size ≤ k ∧ k < w'.heap.size)

section
variable {w w' : World} {F G : Nat → Prop} {lb mb n : Nat} {rv : Value} {V : Int → Option Value} {rows : List Reg} {wt : Int → List Int} {most : Int}

theorem AL.turn (h : AL w F lb mb rv V rows wt most n) (ht : Turn G w w') (hd : ∀ k, F k → ¬ G k) : AL w' F lb mb rv V rows wt most n :=
  ⟨ht.obj h.blk (hd _ h.fl), ht.own h.rws (fun g hg => hd g (h.fr g hg)), h.mp.turn ht (hd _ h.fm), fun i hi => ht.own (h.each i hi) (fun g hg => hd g (h.fe i hi g hg)), h.apart, h.wfo, fun k hk => Nat.lt_of_lt_of_le (h.fb k hk) ht.size, h.fl, h.fm, h.fr, h.fe⟩

theorem AL.mono (h : AL w F lb mb rv V rows wt most n) {m : Nat} (hm : n ≤ m) : AL w F lb mb rv V rows wt most m := ⟨h.blk, h.rws, h.mp.mono hm, h.each, h.apart, h.wfo, h.fb, h.fl, h.fm, h.fr, h.fe⟩

theorem AL.c0 (h : AL w F lb mb rv V rows wt most n) : w.cell? ⟨lb, 0, none⟩ = some rv := by simp [World.cell?, h.blk]
theorem AL.c1 (h : AL w F lb mb rv V rows wt most n) : w.cell? ⟨lb, 1, none⟩ = some (.map (some mb)) := by simp [World.cell?, h.blk]
theorem AL.c2 (h : AL w F lb mb rv V rows wt most n) : w.cell? ⟨lb, 2, none⟩ = some (.int .i64 most) := by simp [World.cell?, h.blk]
theorem AL.f (h : AL w F lb mb rv V rows wt most n) (i : Nat) : w.frozen? ⟨lb, i, none⟩ = false := by simp [World.frozen?, h.blk]
theorem AL.lt (h : AL w F lb mb rv V rows wt most n) : lb < w.heap.size := lt_of_block h.blk

/-- Blocks of different makes differ. -/
theorem AL.ne_lm (h : AL w F lb mb rv V rows wt most n) : lb ≠ mb := by
  rintro rfl
  obtain ⟨es, c, hb⟩ := h.mp.obj
  rw [h.blk] at hb
  cases hb

theorem own_obj {base : Nat} {e : TypeId} {size m : Nat} {v : Value} {xs : List Value} (h : w.ownsRow base e size v m xs) {g : Nat} (hg : v.ownBlock = some g) : ∃ cur, w.heap[g]? = some (.cells cur e (0, 0)) := by
  rcases h.2 with ⟨rfl, _⟩ | ⟨g', cap, cur, rfl, _, hh, _⟩
  · simp [Value.ownBlock] at hg
  · have : g' = g := by simpa [Value.ownBlock] using hg
    subst this
    exact ⟨cur, hh⟩

theorem own_ne_obj {base : Nat} {e e' : TypeId} {size m : Nat} {v : Value} {xs : List Value} {cur : Array Value} (h : w.ownsRow base e size v m xs) {b : Nat} (hb : w.heap[b]? = some (.cells cur e' (0, 0))) (hne : e ≠ e') : v.ownBlock ≠ some b := by
  intro hg
  obtain ⟨cur', hh⟩ := own_obj h hg
  rw [hb] at hh
  injection hh with hh
  injection hh with _ ht
  exact hne ht.symm
theorem own_ne_map {base : Nat} {e : TypeId} {size m : Nat} {v : Value} {xs : List Value} {es : Array MapEntry} {c : Nat} (h : w.ownsRow base e size v m xs) {b : Nat} (hb : w.heap[b]? = some (.map es c)) : v.ownBlock ≠ some b := by
  intro hg
  obtain ⟨cur', hh⟩ := own_obj h hg
  rw [hb] at hh
  cases hh
theorem own_ne_own {base base' : Nat} {e e' : TypeId} {size size' m m' : Nat} {v v' : Value} {xs xs' : List Value} (h : w.ownsRow base e size v m xs) (h' : w.ownsRow base' e' size' v' m' xs') (hne : e ≠ e') (g : Nat) (hg : v.ownBlock = some g) : v'.ownBlock ≠ some g := by
  obtain ⟨cur, hh⟩ := own_obj h hg
  exact own_ne_obj h' hh (fun e1 => hne e1.symm)
end

theorem more_more {F : Nat → Prop} {a b c : World} (h1 : a.heap.size ≤ b.heap.size) (h2 : b.heap.size ≤ c.heap.size) (k : Nat) : more (more F a b) b c k ↔ more F a c k := by
  unfold more
  constructor
  · rintro ((h | h) | h)
    · exact .inl h
    · exact .inr (by omega)
    · exact .inr (by omega)
  · rintro (h | h)
    · exact .inl (.inl h)
    · by_cases hk : k < b.heap.size
      · exact .inl (.inr (by omega))
      · exact .inr (by omega)
theorem more_more' {F : Nat → Prop} {a b c : World} (h1 : a.heap.size ≤ b.heap.size) (h2 : b.heap.size ≤ c.heap.size) : more (more F a b) b c = more F a c := funext fun k => propext (more_more h1 h2 k)

theorem Turn.more {F : Nat → Prop} {a b c : World} (h : Turn F a b) (k : Turn (more F a b) b c) : Turn F a c :=
  h.trans k fun i hi hg => by
    rcases hg with hg | hg
    · exact hg
    · omega

section
variable {w w1 w2 : World} {F : Nat → Prop} {lb mb n m : Nat} {rv v' : Value} {V V' : Int → Option Value} {rows rows' : List Reg} {wt : Int → List Int} {most on : Int}

theorem own_lt {base : Nat} {e : TypeId} {size m : Nat} {v : Value} {xs : List Value} (h : w.ownsRow base e size v m xs) {g : Nat} (hg : v.ownBlock = some g) : g < w.heap.size := (h.lt g hg).2

theorem AL.more_fb (h : AL w F lb mb rv V rows wt most n) (hs : w.heap.size ≤ w2.heap.size) : ∀ k, more F w w2 k → k < w2.heap.size := by
  rintro k (hk | hk)
  · exact Nat.lt_of_lt_of_le (h.fb k hk) hs
  · exact hk.2

/-- The slice at 'on' has been changed in its own row, or moved to a new one, and stored. -/
theorem AL.put {xs' : List Int} (h : AL w F lb mb rv V rows wt most n) (hon : wfi on) (t1 : Turn (fun k => (at_ V on).ownBlock = some k) w w1) (o1 : w1.ownsRow 0 3 1 v' xs'.length (ints xs'))
    (hat : ∀ g, v'.ownBlock = some g → (at_ V on).ownBlock = some g ∨ w.heap.size ≤ g) (hV : ∀ i, i ≠ on → V' i = V i) (hVon : at_ V' on = v') (m2 : MapIs Try.prog 3 w2 mb m V') (t2 : Turn (fun k => mb = k) w1 w2) :
    AL w2 (more F w w2) lb mb rv V' rows (fun i => if i = on then xs' else wt i) most m ∧ Turn F w w2 := by
  have hs : w.heap.size ≤ w2.heap.size := Nat.le_trans t1.size t2.size
  obtain ⟨es, cl, hmb⟩ := h.mp.obj
  have hmb1 := t1.obj hmb (own_ne_map (h.each on hon) hmb)
  have hother : ∀ i, i ≠ on → at_ V' i = at_ V i := fun i hi => by unfold at_; rw [hV i hi]
  have hold : ∀ i, wfi i → ∀ g, (at_ V i).ownBlock = some g → g < w.heap.size := fun i hi g hg => own_lt (h.each i hi) hg
  refine ⟨⟨?_, ?_, m2, ?_, ?_, h.wfo, h.more_fb hs, .inl h.fl, .inl h.fm, fun g hg => .inl (h.fr g hg), ?_⟩, ?_⟩
  · exact t2.obj (t1.obj h.blk (own_ne_obj (h.each on hon) h.blk (by decide))) (fun e => h.ne_lm e.symm)
  · refine t2.own (t1.own h.rws (fun g hg => own_ne_own h.rws (h.each on hon) (by decide) g hg)) (fun g hg e => ?_)
    subst e
    exact own_ne_map h.rws hmb hg
  · intro i hi
    by_cases e : i = on
    · subst e
      simp only [if_true, hVon]
      refine t2.own o1 (fun g hg e => ?_)
      subst e
      exact own_ne_map o1 hmb1 hg
    · simp only [e, if_false]
      rw [hother i e]
      refine t2.own (t1.own (h.each i hi) (fun g hg => h.apart i on hi hon e g hg)) (fun g hg e => ?_)
      subst e
      exact own_ne_map (h.each i hi) hmb hg
  · intro i j hi hj hij g hg
    by_cases ei : i = on
    · subst ei
      rw [hVon] at hg
      rw [hother j (Ne.symm hij)]
      intro hgj
      rcases hat g hg with h1 | h1
      · exact h.apart i j hi hj hij g h1 hgj
      · have := hold j hj g hgj; omega
    · rw [hother i ei] at hg
      by_cases ej : j = on
      · subst ej
        rw [hVon]
        intro hgj
        rcases hat g hgj with h1 | h1
        · exact h.apart i j hi hj hij g hg h1
        · have := hold i hi g hg; omega
      · rw [hother j ej]
        exact h.apart i j hi hj hij g hg
  · intro i hi g hg
    by_cases e : i = on
    · subst e
      rw [hVon] at hg
      rcases hat g hg with h1 | h1
      · exact .inl (h.fe i hi g h1)
      · exact .inr ⟨h1, Nat.lt_of_lt_of_le (own_lt o1 hg) t2.size⟩
    · rw [hother i e] at hg
      exact .inl (h.fe i hi g hg)
  · refine (t1.mono fun k _ hk => h.fe on hon k hk).trans t2 (fun k _ hk => ?_)
    subst hk
    exact h.fm

/-- The registrations have been written in their own row. -/
theorem AL.rowset (h : AL w F lb mb rv V rows wt most n) (t1 : Turn (fun k => rv.ownBlock = some k) w w1) (o1 : w1.ownsRow 0 54 3 rv rows'.length (regs rows')) (hwfo : ∀ k, k < rows'.length → wfi (rows'.getD k default).on) :
    AL w1 F lb mb rv V rows' wt most n ∧ Turn F w w1 := by
  obtain ⟨es, cl, hmb⟩ := h.mp.obj
  exact ⟨⟨t1.obj h.blk (own_ne_obj h.rws h.blk (by decide)), o1, h.mp.turn t1 (own_ne_map h.rws hmb),
    fun i hi => t1.own (h.each i hi) (fun g hg => own_ne_own (h.each i hi) h.rws (by decide) g hg), h.apart, hwfo, fun k hk => Nat.lt_of_lt_of_le (h.fb k hk) t1.size, h.fl, h.fm, h.fr, h.fe⟩, t1.mono fun k _ hk => h.fr k hk⟩

/-- The registrations have been appended to, in their own row or in a new one, and stored. -/
theorem AL.rowput (h : AL w F lb mb rv V rows wt most n) (t1 : Turn (fun k => rv.ownBlock = some k) w w1) (o1 : w1.ownsRow 0 54 3 v' rows'.length (regs rows')) (hat : ∀ g, v'.ownBlock = some g → rv.ownBlock = some g ∨ w.heap.size ≤ g)
    (hwfo : ∀ k, k < rows'.length → wfi (rows'.getD k default).on) :
    AL (w1.setCell ⟨lb, 0, none⟩ v') (more F w (w1.setCell ⟨lb, 0, none⟩ v')) lb mb v' V rows' wt most n ∧ Turn F w (w1.setCell ⟨lb, 0, none⟩ v') := by
  obtain ⟨es, cl, hmb⟩ := h.mp.obj
  have b1 := t1.obj h.blk (own_ne_obj h.rws h.blk (by decide))
  have t2 : Turn (fun k => lb = k) w1 (w1.setCell ⟨lb, 0, none⟩ v') := (Turn.refl (fun k => lb = k) w1).setCell (p := ⟨lb, 0, none⟩) (.inl rfl) v'
  have hs : w.heap.size ≤ (w1.setCell ⟨lb, 0, none⟩ v').heap.size := by simpa using t1.size
  refine ⟨⟨?_, ?_, ?_, ?_, h.apart, hwfo, h.more_fb hs, .inl h.fl, .inl h.fm, ?_, fun i hi g hg => .inl (h.fe i hi g hg)⟩, ?_⟩
  · have := heap_setCell_same w1 lb 0 #[rv, .map (some mb), .int .i64 most] 60 v' b1
    simpa using this
  · exact t2.own o1 (fun g hg e => by subst e; exact own_ne_obj o1 b1 (by decide) hg)
  · exact (h.mp.turn t1 (own_ne_map h.rws hmb)).turn t2 h.ne_lm
  · intro i hi
    refine t2.own (t1.own (h.each i hi) (fun g hg => own_ne_own (h.each i hi) h.rws (by decide) g hg)) (fun g hg e => ?_)
    subst e
    exact own_ne_obj (h.each i hi) h.blk (by decide) hg
  · intro g hg
    rcases hat g hg with h1 | h1
    · exact .inl (h.fr g h1)
    · exact .inr ⟨h1, by simpa using own_lt o1 hg⟩
  · refine (t1.mono fun k _ hk => h.fr k hk).trans t2 (fun k _ hk => ?_)
    subst hk
    exact h.fl
end

theorem keyed3 : Keyed Try.prog 3 := int_keyed Try.underlying3
theorem key3 {i : Int} (h : wfi i) : keyOf Try.prog 3 (.int .i64 i) = some (.int .i64 i) := keyOf_int_mk Try.underlying3 h
theorem zero32 (w : World) : (zeroValue 32).run Try.prog w = .ok nilS w := by kernel_rfl


end Go.Proofs.Ythloikmmkkamoaa
