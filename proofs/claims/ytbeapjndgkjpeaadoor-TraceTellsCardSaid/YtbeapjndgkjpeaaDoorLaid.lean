/- From what the row lists ('laid') and the world's shape to Env; a world that fits. -/
import Derived.Test.YtbeapjndgkjpeaaDoorEnv
import Derived.ProofKit
import Derived.Lay
import Derived.HandedShaped
import Derived.Lib.LaidU8
import Derived.Stop.LaidErr
import Derived.Shelf.Vars
import Derived.MakeChecks
namespace Go.Proofs.YtbeapjndgkjpeaaDoor
open Go.ChangeShapes Go.WideShapes Go.ChangeAt Go.RowKit Go.Maps Go.Lib

theorem Tryd.own : ownKnob Tryd.prog.godebug = none := by kernel_rfl
theorem Tryd.laidOut : laidOutB Tryd.prog = true := by kernel_rfl

theorem lg0 : (Tryd.prog.globals[0]?).map (·.type) = some 66 := by kernel_rfl
theorem lg1 : (Tryd.prog.globals[1]?).map (·.type) = some 91 := by kernel_rfl
theorem lg2 : (Tryd.prog.globals[2]?).map (·.type) = some 50 := by kernel_rfl
theorem lg3 : (Tryd.prog.globals[3]?).map (·.type) = some 50 := by kernel_rfl
theorem lu66 : Tryd.prog.underlying 66 = some (.array 9 9) := by kernel_rfl
theorem lu91 : Tryd.prog.underlying 91 = some (.array 20 75) := by kernel_rfl
theorem lu75 : Tryd.prog.underlying 75 = some (.int .u64) := by kernel_rfl
theorem lc75 : Tryd.prog.cellsOf 75 = 1 := by kernel_rfl
theorem lc91 : Tryd.prog.cellsOf 91 = 20 := by kernel_rfl
theorem lc66 : Tryd.prog.cellsOf 66 = 9 := by kernel_rfl
theorem lc9 : Tryd.prog.cellsOf 9 = 1 := by kernel_rfl
theorem lc109 : Tryd.prog.cellsOf 109 = 1 := by kernel_rfl
theorem lu107 : Tryd.prog.underlying 107 = some (.pointer 109) := by kernel_rfl
theorem lstar : "*" ++ "errors.errorString" = "*errors.errorString" := by decide
theorem lrow (u : TypeId) (h : Tryd.prog.typeName? 3 u = some "*errors.errorString") : u = 107 :=
  typeName_ptr_named (nm := "errors.errorString") (by rw [lstar]; kernel_rfl) (by kernel_rfl) (by decide) u (by rw [lstar]; exact h)

/-- An array of strings that reads as these holds them. -/
theorem cells_of_strs {H : Type} {enc : TypeId × Value → H} {P : Program} {w : World} {base : Nat} {sp : Nat → Bool} {held : Bool} {fuel : Nat} {t e : TypeId} {n : Nat} {cs : List Value} {zs : List (List UInt8)} {p : List MemPlace}
    (ht : P.underlying t = some (.array n e)) (he : P.underlying e = some .string) (hce : P.cellsOf e = 1) (hct : P.cellsOf t = n)
    (h : DataW.trod enc P w base sp held fuel t cs = some (.agg (zs.map fun z => .lit (.string z)), p)) : ∀ (i : Nat) z, zs[i]? = some z → cs[i]? = some (str z) := by
  cases fuel with
  | zero => simp [DataW.trod] at h
  | succ fuel =>
    simp only [DataW.trod, ht, hce, hct, Nat.mul_one] at h
    split at h
    · rename_i hl
      obtain ⟨xs, hm, hx⟩ := Option.map_eq_some_iff.1 h
      have hxs : xs.map (·.1) = zs.map fun z => (DataW.lit (.string z) : DataW H) := by
        have := congrArg Prod.fst hx
        simpa using this
      have hxl : xs.length = n := by simpa using mapM_length hm
      have hzl : zs.length = n := by
        have := congrArg List.length hxs
        simp at this
        omega
      intro i z hz
      have hi : i < n := by have := (List.getElem?_eq_some_iff.1 hz).1; omega
      obtain ⟨b, hb, hf⟩ := mapM_at hm i i (by simp [hi])
      have h2 : (xs.map (·.1))[i]? = some (DataW.lit (.string z) : DataW H) := by rw [hxs]; simp [hz]
      rw [List.getElem?_map, hb] at h2
      simp only [Option.map_some, Option.some.injEq] at h2
      obtain ⟨y, hc, rfl, _⟩ := DataW.trod_string he hf
      have h1 : cs[i]? = some (.string y) := by
        have := congrArg (·[0]?) hc
        simpa [List.getElem?_take, List.getElem?_drop] using this
      simp only [DataW.lit.injEq, Lit.string.injEq] at h2
      rw [h1, ← h2]
    · cases h

abbrev laidL : List (String × DataW Unit) := Rows.tracePartsRow.laid

theorem env_of_laid {W : World} (h : laidMet Tryd.prog laidL W) (hsh : W.ShapedOpen Tryd.prog) : Env W := by
  obtain ⟨m, hm⟩ := cell_of_shapedOpen_int (P := Tryd.prog) (g := 4) (t := 3) (zero := #[.int .i64 0]) hsh (of_decide_eq_true (by kernel_rfl)) (by kernel_rfl) rfl (by kernel_rfl) (by kernel_rfl) Tryd.underlying3
  have t0 : laidMet Tryd.prog (("internal/strconv.uint64pow10", Rows.laid_internal_strconv_uint64pow10) :: ("unicode/utf8.acceptRanges", Rows.laid_unicode_utf8_acceptRanges) :: ("strconv.ErrRange", Rows.laid_strconv_ErrRange) :: ("strconv.ErrSyntax", Rows.laid_strconv_ErrSyntax) :: ("countermand/trace.words", Rows.laid_countermand_trace_words) :: [("unicode/utf8.first", Rows.laid_unicode_utf8_first)]) W := laidMet.tail (laidMet.tail h)
  obtain ⟨a1, s1, hv1, -, -, -⟩ := laid_sentinel (laidMet.tail (laidMet.tail t0)) g3 lg3 Tryd.underlying50 lrow lu107 Tryd.underlying109 rfl rfl Tryd.underlying9 lc109 lc9
  obtain ⟨a2, s2, hv2, -, -, -⟩ := laid_sentinel (laidMet.tail (laidMet.tail (laidMet.tail t0))) g2 lg2 Tryd.underlying50 lrow lu107 Tryd.underlying109 rfl rfl Tryd.underlying9 lc109 lc9
  refine ⟨?_, ?_, ?_, ⟨_, _, hv2⟩, ⟨_, _, hv1⟩, ⟨m, hm⟩⟩
  · have := World.block_lt_of_cell? W _ hm
    exact this
  · exact tabIs_of_head g1 lg1 lu91 lu75 lc75 lc91 t0
  · intro k hk
    obtain ⟨g, t, cs, fuel, p, hg, ht, hv, hd⟩ := laidMet.reads t0 (n := "countermand/trace.words") (d := Rows.laid_countermand_trace_words) (by simp)
    obtain rfl := Option.some.inj (g0.symm.trans hg)
    obtain rfl := Option.some.inj (lg0.symm.trans ht)
    have hc := cells_of_strs (zs := [wordB 0, wordB 1, wordB 2, wordB 3, wordB 4, wordB 5, wordB 6, wordB 7, wordB 8]) lu66 Tryd.underlying9 lc9 lc66 hd k (wordB k) (by
      have : k = 0 ∨ k = 1 ∨ k = 2 ∨ k = 3 ∨ k = 4 ∨ k = 5 ∨ k = 6 ∨ k = 7 ∨ k = 8 := by omega
      rcases this with rfl | rfl | rfl | rfl | rfl | rfl | rfl | rfl | rfl <;> rfl)
    rw [World.var?_cell g0 hv k]
    simpa using hc

/-- The builder for a row that lists variables and needs the world's shape. -/
theorem handed_laid_shaped {H : Type} {enc : TypeId × Value → H} {C : Checked} {os : Os} {f : FuncId} {fn : Func} {s : ChangeSpec} {conds : List PathCond} {X : World → Array Value → Prop}
    (hX : ∀ (w w' : World) (args : Array Value), w.heap = w'.heap → X w args → X w' args)
    (own : ownKnob C.prog.godebug = none) (started : os.Started) (noInit : C.prog.inits.idxOf? f = none) (hfn : C.prog.funcs[f]? = some fn)
    (witness : ∃ (w : World) (tape : Tape) (i : Input), w.os = os ∧ (w.forCall tape i).Shaped C.prog ∧ i.vars = [] ∧ Input.okWide C.prog (w.forCall tape i) .any w.heap.size f i ∧
      ((s.pre enc C.prog fn conds false (w.forCall tape i).memory i.args ∧ X (w.forCall tape i).memory i.args) ∧ sizedMet enc C.prog fn (OpenSpec.ofChange s) false (w.forCall tape i).memory i.args) ∧ ({} : Assume).holds C.prog (lone (Frame.enter C.prog f i.args .normal) [] (w.forCall tape i)))
    (contract : ∀ (W : World) (base : Nat) (args : Array Value) (ds gs : List (DataW H)) (before : List MemPlace),
      (∀ (j : Nat) t v, fn.params[j]? = some t → args[j]? = some v → Value.okWide C.prog W .any base t v) →
      DataW.Whole enc C.prog fn.params.toList s.vars false W args.toList ds gs before → X W args → W.ShapedOpen C.prog →
      Calls C.prog f args W fun e W' => ∃ v, e = .returned v ∧ s.post enc C.prog fn false true false false W args v W') :
    ReturnsInHanded {} C os f .any (fun w args => (s.pre enc C.prog fn conds false w args ∧ X w args) ∧ sizedMet enc C.prog fn (OpenSpec.ofChange s) false w args) (s.post enc C.prog fn false true false false) := by
  refine returnsInHanded_of_calls own started noInit witness ?_
  intro w tape i _ hsh _ hok hpre _
  obtain ⟨_, _, _, fn', hfn', _, _, _, _, hval⟩ := hok
  obtain rfl : fn' = fn := Option.some.inj (hfn'.symm.trans hfn)
  obtain ⟨⟨⟨ds, gs, before, hw, hc⟩, hx⟩, hz⟩ := hpre
  refine (contract (w.forCall tape i) w.heap.size i.args ds gs before hval (DataW.Whole.of_heap (w' := w.forCall tape i) (by rfl) hw) (hX _ _ _ (by rfl) hx) hsh).mono fun e W' ⟨v, he, hp⟩ => ?_
  subst he
  exact ChangeSpec.post_blind hp

theorem laid_plain (w : World) : laidMetH Tryd.prog laidL w = laidMet Tryd.prog laidL w := MakeChecks.laidMetH_plain _ _ _ (by kernel_rfl)
theorem laid_fits (os : Os) : (World.holding Tryd.prog os ⟨#[], #[], []⟩).layFits Tryd.prog laidL [] = true := by kernel_rfl
theorem laid_ifaces (os : Os) : (World.holding Tryd.prog os ⟨#[], #[], []⟩).layIfaces Tryd.prog laidL (World.laidAll Tryd.prog os laidL) = true := by kernel_rfl
theorem laid_met (os : Os) (args : Array Value) : laidMetH Tryd.prog laidL ((World.laidAll Tryd.prog os laidL).forCall (fun _ _ => 0) ⟨#[], args, []⟩).memory := by
  rw [laid_plain]
  exact laidMet_laidAll args (laid_fits os) (laid_ifaces os)

end Go.Proofs.YtbeapjndgkjpeaaDoor
