/- Words for memory, over whatever program: what a call may have turned ('Turn'), a slice that reads as a list ('Reads'), a map of numbers as a function ('MapIs'). -/
import Derived.WalkKit
import Derived.Maps.OwnSet
import Derived.Maps.AppendAt
import Derived.Deep.AppendLies
import Derived.Deep.Draws
import Derived.Lib.Hide
namespace Go.Proofs.YtbeapjndgkjpeaaDoor
open Go.RowKit Go.Maps

/-- w' is w but for blocks of F and new ones. -/
structure Turn (F : Nat → Prop) (w w' : World) : Prop where
  os : w'.os = w.os
  tape : w'.tape = w.tape
  output : w'.output = w.output
  size : w.heap.size ≤ w'.heap.size
  block : ∀ k, k < w.heap.size → ¬ F k → w'.heap[k]? = w.heap[k]?

theorem Turn.refl (F : Nat → Prop) (w : World) : Turn F w w := ⟨rfl, rfl, rfl, Nat.le_refl _, fun _ _ _ => rfl⟩

theorem Turn.trans {F G : Nat → Prop} {a b c : World} (h : Turn F a b) (k : Turn G b c) (hg : ∀ i, i < a.heap.size → G i → F i) : Turn F a c :=
  ⟨k.os.trans h.os, k.tape.trans h.tape, k.output.trans h.output, Nat.le_trans h.size k.size, fun i hi hf =>
    (k.block i (Nat.lt_of_lt_of_le hi h.size) (fun e => hf (hg i hi e))).trans (h.block i hi hf)⟩

theorem Turn.mono {F G : Nat → Prop} {a b : World} (h : Turn F a b) (hg : ∀ i, i < a.heap.size → F i → G i) : Turn G a b :=
  ⟨h.os, h.tape, h.output, h.size, fun i hi hf => h.block i hi (fun e => hf (hg i hi e))⟩

def nowhere : Nat → Prop := fun _ => False

theorem Turn.drewN {F : Nat → Prop} {a w : World} (h : Turn F a w) (n : Nat) : Turn F a (w.drewN n) := ⟨h.os, h.tape, h.output, h.size, h.block⟩
theorem Turn.drew {F : Nat → Prop} {a w : World} (h : Turn F a w) : Turn F a w.drew := ⟨h.os, h.tape, h.output, h.size, h.block⟩
theorem Turn.alloc {F : Nat → Prop} {a w : World} (h : Turn F a w) (o : Obj) : Turn F a (w.alloc o) :=
  ⟨h.os, h.tape, h.output, Nat.le_trans h.size (by simp), fun i hi hf => (Below.heap_alloc w o i (Nat.lt_of_lt_of_le hi h.size)).trans (h.block i hi hf)⟩
theorem Turn.setCell {F : Nat → Prop} {a w : World} (h : Turn F a w) {p : Addr} (hp : F p.block ∨ a.heap.size ≤ p.block) (u : Value) : Turn F a (w.setCell p u) :=
  ⟨h.os, h.tape, h.output, by simpa using h.size, fun i hi hf => (Below.heap_setCell w p u i (by
    rintro rfl
    rcases hp with hp | hp
    · exact hf hp
    · omega)).trans (h.block i hi hf)⟩
theorem Turn.of_grown {F : Nat → Prop} {a w : World} {row : Option Nat} (h : a.grownBy w row) (hr : ∀ g, row = some g → g < a.heap.size → F g) : Turn F a w :=
  ⟨h.os, h.tape, h.output, h.size, fun i hi hf => h.block i hi (fun e => hf (hr i e.symm hi))⟩
theorem Turn.grown {F : Nat → Prop} {a w w' : World} {row : Option Nat} (h : Turn F a w) (hg : w.grownBy w' row) (hr : ∀ g, row = some g → g < a.heap.size → F g) : Turn F a w' :=
  ⟨hg.os.trans h.os, hg.tape.trans h.tape, hg.output.trans h.output, Nat.le_trans h.size hg.size, fun i hi hf =>
    (hg.block i (Nat.lt_of_lt_of_le hi h.size) (fun e => hf (hr i e.symm hi))).trans (h.block i hi hf)⟩
theorem Turn.of_below {F : Nat → Prop} {a w : World} (h : Below a.heap.size a w) : Turn F a w := ⟨h.os, h.tape, h.output, h.size, fun i hi _ => h.block i hi⟩
theorem Turn.below {F : Nat → Prop} {a w : World} {B : Nat} (h : Turn F a w) (hB : B ≤ a.heap.size) (hF : ∀ k, k < B → ¬ F k) : Below B a w :=
  ⟨h.os, h.tape, h.output, h.size, fun i hi => h.block i (by omega) (hF i hi)⟩
theorem Turn.to_below {a w : World} (h : Turn nowhere a w) : Below a.heap.size a w := h.below (Nat.le_refl _) (fun _ _ h => h)
theorem Turn.cell {F : Nat → Prop} {w w' : World} (h : Turn F w w') {p : Addr} {v : Value} (hc : w.cell? p = some v) (hf : ¬ F p.block) : w'.cell? p = some v :=
  (World.cell?_of_block (h.block p.block (World.block_lt_of_cell? w p hc) hf)).trans hc
theorem Turn.obj {F : Nat → Prop} {w w' : World} (h : Turn F w w') {b : Nat} {o : Obj} (hc : w.heap[b]? = some o) (hf : ¬ F b) : w'.heap[b]? = some o :=
  (h.block b (lt_of_block hc) hf).trans hc
theorem Turn.own {F : Nat → Prop} {w w' : World} (h : Turn F w w') {base : Nat} {e : TypeId} {size n : Nat} {v : Value} {xs : List Value} (ho : w.ownsRow base e size v n xs) (hf : ∀ g, v.ownBlock = some g → ¬ F g) : w'.ownsRow base e size v n xs := by
  refine ⟨ho.1, ?_⟩
  rcases ho.2 with h0 | ⟨g, cap, cur, rfl, hb, hg, r⟩
  · exact .inl h0
  · exact .inr ⟨g, cap, cur, rfl, hb, h.obj hg (hf g rfl), r⟩

theorem block_of_add (a : Addr) (n : Nat) : (a.add n).block = a.block := by unfold Addr.add; split <;> rfl
theorem add_of_add (a : Addr) (i j : Nat) : (a.add i).add j = a.add (i + j) := by
  unfold Addr.add
  by_cases hi : i = 0 <;> by_cases hj : j = 0 <;> simp [hi, hj, Nat.add_assoc]

theorem add_plain (b off j : Nat) : (⟨b, off, none⟩ : Addr).add j = ⟨b, off + j, none⟩ := by
  unfold Addr.add
  by_cases hj : j = 0 <;> simp [hj]

/-- The slice value '.slice A n _' holds the cells xs ('size' to an element). -/
def Reads (w : World) (size : Nat) (A : Option Addr) (n : Nat) (xs : List Value) : Prop :=
  xs.length = n * size ∧ (0 < n → ∃ b off, A = some ⟨b, off, none⟩ ∧ ∀ j u, xs[j]? = some u → w.cell? ⟨b, off + j, none⟩ = some u)

/-- Its block is none of F. -/
def Off (F : Nat → Prop) (A : Option Addr) : Prop := ∀ ad, A = some ad → ¬ F ad.block

section
variable {w w' : World} {size n : Nat} {A : Option Addr} {xs : List Value}
theorem Reads.none_ (w : World) (size : Nat) (A : Option Addr) : Reads w size A 0 [] := ⟨by simp, fun h => absurd h (by omega)⟩
theorem Reads.turn {F : Nat → Prop} (h : Reads w size A n xs) (ht : Turn F w w') (hf : Off F A) : Reads w' size A n xs :=
  ⟨h.1, fun hn => by
    obtain ⟨b, off, e, hc⟩ := h.2 hn
    exact ⟨b, off, e, fun j u hu => ht.cell (hc j u hu) (show ¬ F (⟨b, off, none⟩ : Addr).block from hf _ e)⟩⟩
theorem off_nowhere (A : Option Addr) : Off nowhere A := fun _ _ h => h
theorem Reads.kept (h : Reads w size A n xs) (ht : Turn nowhere w w') : Reads w' size A n xs := h.turn ht (off_nowhere A)
theorem Reads.of_own {base : Nat} {e : TypeId} {c : Nat} (h : w.ownsRow base e size (.slice A n c) n xs) : Reads w size A n xs := by
  refine ⟨h.1, fun hn => ?_⟩
  obtain ⟨g, cap, hv, _, _⟩ := h.form hn
  have hA : A = some ⟨g, 0, none⟩ := by injection hv
  subst hA
  exact ⟨g, 0, rfl, fun j u hu => by rw [← add_plain]; exact h.cells (g := g) rfl j u hu⟩
theorem Reads.lt (h : Reads w size A n xs) (hn : 0 < n) (hs : 0 < size) : ∀ ad, A = some ad → ad.block < w.heap.size := by
  obtain ⟨b, off, rfl, hc⟩ := h.2 hn
  intro ad he
  obtain rfl : (⟨b, off, none⟩ : Addr) = ad := by simpa using he
  have hl : 0 < xs.length := by rw [h.1]; exact Nat.mul_pos hn hs
  exact World.block_lt_of_cell? w _ (hc 0 _ (List.getElem?_eq_getElem hl))
end

/-- What an owned value looks like. -/
theorem own_form {w : World} {base : Nat} {e : TypeId} {size n : Nat} {v : Value} {xs : List Value} (h : w.ownsRow base e size v n xs) : ∃ A c, v = .slice A n c ∧ n ≤ c ∧ c ≤ maxLen := by
  rcases h.2 with ⟨rfl, rfl⟩ | ⟨g, cap, cur, rfl, _, _, h1, h2, _⟩
  · exact ⟨none, 0, rfl, Nat.le_refl _, by simp [maxLen]⟩
  · exact ⟨_, cap, rfl, h1, h2⟩

/-- 'append(v, xs...)', the source nil or not. -/
theorem run_append_reads {P : Program} (w : World) (base : Nat) (t ty e : TypeId) (i : TypeInfo) (z : Value) (size bytes : Nat) (ht : P.underlying t = some (.slice e)) (hi : P.info? e = some i) (hz : i.zero = some z)
    (hsize : i.size = size) (hby : i.bytes = bytes) (hzs : z.cells.size = size) (hsz : 0 < size)
    (v : Value) (n : Nat) (xs : List Value) (hown : w.ownsRow base e size v n xs)
    (A : Option Addr) (m c : Nat) (news : List Value) (hr : Reads w size A m news) (h1 : ∀ u ∈ news, u.oneCell' = true)
    (h63 : n + m ≤ maxLen) (hbytes : (n + m) * bytes ≤ 140737488355328) (hbase : base ≤ w.heap.size) :
    ∃ v' w', (Builtin.append_ #[t, t] ty #[v, .slice A m c]).run P w = .ok v' w' ∧ w'.ownsRow base e size v' (n + m) (xs ++ news) ∧ w.grownBy w' v.ownBlock ∧
      (v'.ownBlock = v.ownBlock ∨ v'.ownBlock = some w.heap.size) := by
  rcases A with _ | ad
  · have hm : m = 0 := by
      rcases Nat.eq_zero_or_pos m with h0 | h0
      · exact h0
      · obtain ⟨_, _, h, _⟩ := hr.2 h0
        cases h
    subst hm
    have hn : news = [] := List.eq_nil_of_length_eq_zero (by simpa using hr.1)
    subst hn
    refine ⟨v, w, ?_, by simpa using hown, World.grownBy.refl w _, .inl rfl⟩
    rcases hown.2 with ⟨rfl, rfl⟩ | ⟨g, cap, cur, rfl, _, _, hnc, _⟩
    · simp [Builtin.append_, run_underlying ht, sizeOf, typeInfo, hi, Builtin.lenOf, Builtin.firstCells]
    · simp [Builtin.append_, run_underlying ht, sizeOf, typeInfo, hi, Builtin.lenOf, Builtin.firstCells, hnc, storeCells]
  · have hcells : ∀ j u, news[j]? = some u → w.cell? (ad.add j) = some u := by
      intro j u hu
      rcases Nat.eq_zero_or_pos m with h0 | h0
      · subst h0
        have hn : news = [] := List.eq_nil_of_length_eq_zero (by simpa using hr.1)
        subst hn
        simp at hu
      · obtain ⟨b, off, h, hc⟩ := hr.2 h0
        injection h with h
        subst h
        rw [add_plain]
        exact hc j u hu
    obtain ⟨v', w', hrun, h2, h3, _, h5⟩ := run_append_own_at (P := P) w base t ty e i z size bytes ht hi hz hsize hby hzs hsz v n xs hown ad m c news hr.1 hcells h1 h63 hbytes hbase
    exact ⟨v', w', hrun, h2, h3, h5⟩

theorem wpList_append_reads {P : Program} (w : World) {ops : Array Oper} {rest : List Oper} {o : Oper} {a : Act} {Q : Exit → Act → World → Prop} (hgd : o.guard = none) (s x : Operand) (t : TypeId)
    (ho : o.op = .call { callee := .builtin .append, args := #[s, x], argTypes := #[t, t] })
    (base : Nat) (e : TypeId) (i : TypeInfo) (z : Value) (size bytes : Nat) (ht : P.underlying t = some (.slice e)) (hi : P.info? e = some i) (hz : i.zero = some z)
    (hsize : i.size = size) (hby : i.bytes = bytes) (hzs : z.cells.size = size) (hsz : 0 < size)
    (v : Value) (n : Nat) (xs : List Value) (hs : a.eval s = v) (hown : w.ownsRow base e size v n xs)
    (A : Option Addr) (m c : Nat) (news : List Value) (hx : a.eval x = .slice A m c) (hr : Reads w size A m news) (h1 : ∀ u ∈ news, u.oneCell' = true)
    (h63 : n + m ≤ maxLen) (hbytes : (n + m) * bytes ≤ 140737488355328) (hbase : base ≤ w.heap.size)
    (h : ∀ v' w', w'.ownsRow base e size v' (n + m) (xs ++ news) → w.grownBy w' v.ownBlock → (v'.ownBlock = v.ownBlock ∨ v'.ownBlock = some w.heap.size) → wpList P ops Q rest (a.put o.dst v') w') : wpList P ops Q (o :: rest) a w := by
  refine wpList_plain hgd fun K hK => ?_
  obtain ⟨v', w', hrun, h2, h3, h4⟩ := run_append_reads (P := P) w base t o.type e i z size bytes ht hi hz hsize hby hzs hsz v n xs hown A m c news hr h1 h63 hbytes hbase
  unfold Oper.wp execOp
  simp only [ho, resolve, invoke, builtin, Sem.run_bind, Sem.run_pure, Result.andThen_ok, List.map_toArray, List.map_cons, List.map_nil, hs, hx, hrun]
  exact hK _ _ (h v' w' h2 h3 h4)

/-- How any value reads: as itself. -/
def raw (v : Value) : Option (DataW Value × List MemPlace) := some (.held v, [])

/-- Block b is a map whose keys of the kind int hold what V says (at most n entries). -/
def MapIs (P : Program) (k : TypeId) (w : World) (b n : Nat) (V : Int → Option Value) : Prop :=
  ∃ D, w.ownsMap P k raw b n D ∧ ∀ i : Int, (Lit.int .i64 i).wf = true → Maps.has D (.int .i64 i) = (V i).isSome ∧ ∀ z, D.atKey (.int .i64 i) (.held z) = .held ((V i).getD z)

section
variable {P : Program} {k : TypeId} {w w' : World} {b n : Nat} {V : Int → Option Value}

theorem isKeyLit_int (i : Int) : WideAt.IsKeyLit (.int .i64 i) := by
  simp [WideAt.IsKeyLit]

theorem MapIs.made (P : Program) (k : TypeId) (w : World) : MapIs P k (w.alloc (.map #[] 0)) w.heap.size 0 (fun _ => none) :=
  ⟨_, World.ownsMap_made w P k raw, fun _ _ => ⟨rfl, fun _ => rfl⟩⟩
theorem MapIs.lt (h : MapIs P k w b n V) : b < w.heap.size := by obtain ⟨D, h, _⟩ := h; exact h.lt
theorem MapIs.obj (h : MapIs P k w b n V) : ∃ es c, w.heap[b]? = some (.map es c) := by obtain ⟨D, ⟨es, c, hb, _⟩, _⟩ := h; exact ⟨es, c, hb⟩
theorem MapIs.mono (h : MapIs P k w b n V) {m : Nat} (hm : n ≤ m) : MapIs P k w b m V := by obtain ⟨D, h, r⟩ := h; exact ⟨D, h.mono hm, r⟩
theorem MapIs.turn {F : Nat → Prop} (h : MapIs P k w b n V) (ht : Turn F w w') (hf : ¬ F b) : MapIs P k w' b n V := by
  obtain ⟨D, ⟨es, c, hb, r⟩, q⟩ := h
  exact ⟨D, ⟨es, c, ht.obj hb hf, r⟩, q⟩
theorem MapIs.congr (h : MapIs P k w b n V) {V' : Int → Option Value} (hv : ∀ i, V i = V' i) : MapIs P k w b n V' := by
  have : V = V' := funext hv
  rwa [← this]

theorem MapIs.look (h : MapIs P k w b n V) (K : Keyed P k) {t e : TypeId} (ht : P.underlying t = some (.map k e)) {z : Value} (hz : (zeroValue e).run P w = .ok z w) {i : Int} (hkey : keyOf P k (.int .i64 i) = some (.int .i64 i)) (hi : (Lit.int .i64 i).wf = true) :
    (Instr.lookup t (.map (some b)) (.int .i64 i) false).run P w = .ok ((V i).getD z) w := by
  obtain ⟨D, ho, hV⟩ := h
  obtain ⟨v, ps, hrun, hv⟩ := ho.lookup K ht hz (zd := .held z) (zp := []) rfl hkey
  rw [(hV i hi).2 z] at hv
  have : v = (V i).getD z ∧ ps = [] := by simpa [raw] using hv
  rw [← this.1]
  exact hrun

theorem MapIs.look_ok (h : MapIs P k w b n V) (K : Keyed P k) {t e : TypeId} (ht : P.underlying t = some (.map k e)) {z : Value} (hz : (zeroValue e).run P w = .ok z w) {i : Int} (hkey : keyOf P k (.int .i64 i) = some (.int .i64 i)) (hi : (Lit.int .i64 i).wf = true) :
    (Instr.lookup t (.map (some b)) (.int .i64 i) true).run P w = .ok (.tuple #[(V i).getD z, .bool (V i).isSome]) w := by
  obtain ⟨D, ho, hV⟩ := h
  obtain ⟨v, ps, hrun, hv⟩ := ho.look_ok K ht hz (zd := .held z) (zp := []) rfl hkey
  rw [(hV i hi).2 z] at hv
  have : v = (V i).getD z ∧ ps = [] := by simpa [raw] using hv
  rw [← this.1, ← (hV i hi).1]
  exact hrun

theorem MapIs.store (h : MapIs P k w b n V) (K : Keyed P k) {t e : TypeId} (ht : P.underlying t = some (.map k e)) (hn : n < maxLen) {i : Int} (hkey : keyOf P k (.int .i64 i) = some (.int .i64 i)) (v : Value) :
    ∃ w', (Instr.mapUpdate t (.map (some b)) (.int .i64 i) v).run P w = .ok () w' ∧ MapIs P k w' b (n + 1) (fun j => if j = i then some v else V j) ∧ w.grownBy w' (some b) := by
  obtain ⟨D, ho, hV⟩ := h
  obtain ⟨w', hrun, ho', hg⟩ := ho.update K ht hn hkey (d := .held v) (ps := []) rfl
  refine ⟨w', hrun, ⟨_, ho', fun j hj => ?_⟩, hg⟩
  by_cases hji : j = i
  · subst hji
    exact ⟨by rw [has_put_same ho.isMap (isKeyLit_int j)]; simp, fun z => by rw [atKey_put_same ho.isMap (isKeyLit_int j)]; simp⟩
  · have hne : (Lit.int .i64 j) ≠ .int .i64 i := fun e => hji (by injection e)
    rw [has_put_other hne]
    simp only [hji, if_false]
    exact ⟨(hV j hj).1, fun z => by rw [atKey_put_other hne]; exact (hV j hj).2 z⟩

theorem MapIs.drop (h : MapIs P k w b n V) (K : Keyed P k) {t e : TypeId} (ht : P.underlying t = some (.map k e)) {i : Int} (hkey : keyOf P k (.int .i64 i) = some (.int .i64 i)) (ty : TypeId) :
    ∃ w', (Builtin.delete_ #[t, k] ty #[.map (some b), .int .i64 i]).run P w = .ok (.tuple #[]) w' ∧ MapIs P k w' b n (fun j => if j = i then none else V j) ∧ w.grownBy w' (some b) := by
  obtain ⟨D, ho, hV⟩ := h
  obtain ⟨w', hrun, ho', hg⟩ := ho.drop K ht hkey ty
  refine ⟨w', hrun, ⟨_, ho', fun j hj => ?_⟩, hg.grown⟩
  by_cases hji : j = i
  · subst hji
    exact ⟨by rw [has_del_same]; simp, fun z => by rw [atKey_del_same]; simp⟩
  · have hne : (Lit.int .i64 j) ≠ .int .i64 i := fun e => hji (by injection e)
    rw [has_del_other hne]
    simp only [hji, if_false]
    exact ⟨(hV j hj).1, fun z => by rw [atKey_del_other hne]; exact (hV j hj).2 z⟩
end

theorem wpList_delete_is {P : Program} (w : World) {ops : Array Oper} {rest : List Oper} {o : Oper} {a : Act} {Q : Exit → Act → World → Prop} (hg : o.guard = none) (m x : Operand) (t k : TypeId) (hop : o.op = Op.call { callee := Callee.builtin Builtin.delete, args := #[m, x], argTypes := #[t, k] })
    (e : TypeId) (K : Keyed P k) (ht : P.underlying t = some (.map k e)) (b n : Nat) (V : Int → Option Value)
    (hm : a.eval m = .map (some b)) (hown : MapIs P k w b n V) (i : Int) (hx : a.eval x = .int .i64 i) (hkey : keyOf P k (.int .i64 i) = some (.int .i64 i))
    (hK : ∀ w', MapIs P k w' b n (fun j => if j = i then none else V j) → w.grownBy w' (some b) → wpList P ops Q rest (a.put o.dst (.tuple #[])) w') :
    wpList P ops Q (o :: rest) a w := by
  refine wpList_plain hg fun K' hK' => ?_
  obtain ⟨w', hrun, r1, r2⟩ := hown.drop K ht hkey o.type
  unfold Oper.wp
  simp [execOp, hop, resolve, invoke, builtin, hm, hx, hrun, Result.andThen]
  exact hK' _ _ (hK w' r1 r2)

end Go.Proofs.YtbeapjndgkjpeaaDoor
