/-
  No cell of these rows narrows 'for every input' (looked for: loops, veiled, ifaces, maps, wideKeys, modest, calm, conditions, laid).
  DERIVED. THE GIVEN ROWS OF THIS SEAT. 4 by the template 'for every input the law returns true; each argument reads behind the call as it read before'; 0 by the template 'total and deterministic' (their statements: YtkphnmpildkdaaaTotals.lean).
  GIVEN WITH THE SEED: the statements are not yours to turn. If you find one false, say at which input.
  Laid BY PROGRAM, IN A SANDBOX (cutbox-rows.mjs): the forced cells as the released guide's own fill.sh prints them over the translation f09783d56b267898… (all of the seat's roots in one cut). By AI agents, Wed Nov 11 2026. No macro, syntax, notation, axiom, sorry.
-/
import Derived.Test.YtkphnmpildkdaaaChecked
import GoSem.Claim
import GoSem.ClaimJoined
import GoSem.ClaimMapViews
import Derived.JoinedTies
import Derived.KernelRfl
namespace Go.Proofs.Ytkphnmpildkdaaa
/- THE CELL 'sum', in the pinned program and in every row, IS THE sha256 OF THE DUMP (.gsa) THAT YtkphnmpildkdaaaProg.lean LOADS. Nothing in Lean hashes anything: it is a label: what it is worth is what the hold of that sum in a sandbox is worth. -/
noncomputable def Try.pinned : Pinned := { name := "ytkphnmpildkdaaa", sum := "f09783d56b267898dbae80c36b2943399a1196a71e36cb284119065258bf9a32", checked := Try.checked }
namespace Rows
def none {H : Type} : Left H := { results := [], args := [] }

/-- 'countermandlaw21.StatTells': WHATEVER THE INPUT: true; the input reads as it did. -/
def statTellsSpec : ChangeSpec := { name := "statTells", fn := fun _ => fun
  | [d1, d2, d3, d4, d5] => { results := [.lit (.bool true)], args := [d1, d2, d3, d4, d5] }
  | _ => none }
def statTellsRow : OpenClaim := { program := "ytkphnmpildkdaaa", sum := "f09783d56b267898dbae80c36b2943399a1196a71e36cb284119065258bf9a32", func := "countermand/countermandlaw21.StatTells", spec := "statTells", inPlace := ["math.Float64bits", "math.Float64frombits"], unfollowed := true, recurses := true, apart := false }
def StatTellsSaid : Prop := statTellsRow.holds Try.pinned (OpenSpec.ofChange statTellsSpec)

/-- ITS FALSE NEIGHBOUR: 'it returns false'. Refute it at one input. -/
def statTellsWrong : ChangeSpec := { name := "statTells", fn := fun _ => fun
  | [d1, d2, d3, d4, d5] => { results := [.lit (.bool false)], args := [d1, d2, d3, d4, d5] }
  | _ => none }
def StatTellsWrongFalsely : Prop := statTellsRow.holds Try.pinned (OpenSpec.ofChange statTellsWrong)

/-- 'countermandlaw21.StatEnds': WHATEVER THE INPUT: true; the input reads as it did. -/
def statEndsSpec : ChangeSpec := { name := "statEnds", fn := fun _ => fun
  | [d] => { results := [.lit (.bool true)], args := [d] }
  | _ => none }
def statEndsRow : OpenClaim := { program := "ytkphnmpildkdaaa", sum := "f09783d56b267898dbae80c36b2943399a1196a71e36cb284119065258bf9a32", func := "countermand/countermandlaw21.StatEnds", spec := "statEnds", inPlace := ["math.Float64bits", "math.Float64frombits"], unfollowed := true, recurses := true, apart := false }
def StatEndsSaid : Prop := statEndsRow.holds Try.pinned (OpenSpec.ofChange statEndsSpec)

/-- ITS FALSE NEIGHBOUR: 'it returns false'. Refute it at one input. -/
def statEndsWrong : ChangeSpec := { name := "statEnds", fn := fun _ => fun
  | [d] => { results := [.lit (.bool false)], args := [d] }
  | _ => none }
def StatEndsWrongFalsely : Prop := statEndsRow.holds Try.pinned (OpenSpec.ofChange statEndsWrong)

/-- 'countermandlaw21.StatMean': WHATEVER THE INPUT: true; the input reads as it did. -/
def statMeanSpec : ChangeSpec := { name := "statMean", fn := fun _ => fun
  | [d] => { results := [.lit (.bool true)], args := [d] }
  | _ => none }
def statMeanRow : OpenClaim := { program := "ytkphnmpildkdaaa", sum := "f09783d56b267898dbae80c36b2943399a1196a71e36cb284119065258bf9a32", func := "countermand/countermandlaw21.StatMean", spec := "statMean", inPlace := ["math.Float64bits", "math.Float64frombits"], unfollowed := true, recurses := true, apart := false }
def StatMeanSaid : Prop := statMeanRow.holds Try.pinned (OpenSpec.ofChange statMeanSpec)

/-- ITS FALSE NEIGHBOUR: 'it returns false'. Refute it at one input. -/
def statMeanWrong : ChangeSpec := { name := "statMean", fn := fun _ => fun
  | [d] => { results := [.lit (.bool false)], args := [d] }
  | _ => none }
def StatMeanWrongFalsely : Prop := statMeanRow.holds Try.pinned (OpenSpec.ofChange statMeanWrong)

/-- 'countermandlaw21.StatWaits': WHATEVER THE INPUT: true; the input reads as it did. -/
def statWaitsSpec : ChangeSpec := { name := "statWaits", fn := fun _ => fun
  | [d1, d2, d3] => { results := [.lit (.bool true)], args := [d1, d2, d3] }
  | _ => none }
def statWaitsRow : OpenClaim := { program := "ytkphnmpildkdaaa", sum := "f09783d56b267898dbae80c36b2943399a1196a71e36cb284119065258bf9a32", func := "countermand/countermandlaw21.StatWaits", spec := "statWaits", inPlace := ["math.Float64bits", "math.Float64frombits"], unfollowed := true, recurses := true, apart := false }
def StatWaitsSaid : Prop := statWaitsRow.holds Try.pinned (OpenSpec.ofChange statWaitsSpec)

/-- ITS FALSE NEIGHBOUR: 'it returns false'. Refute it at one input. -/
def statWaitsWrong : ChangeSpec := { name := "statWaits", fn := fun _ => fun
  | [d1, d2, d3] => { results := [.lit (.bool false)], args := [d1, d2, d3] }
  | _ => none }
def StatWaitsWrongFalsely : Prop := statWaitsRow.holds Try.pinned (OpenSpec.ofChange statWaitsWrong)

/- THE SECOND FORM. 'bulk': how many values and letters a reading holds, each counted each time it is reached (what is shared counts as often as it is met; a slice's spare places count too). A statement '..UptoSaid' is the law's where the arguments, and the package variables that the reading takes, are together of bulk at most 1048576: NARROWER than '..Said'. Prove '..Said' where nothing that the law and all that it calls make is longer than what came in: it says more and counts as full. Else prove '..UptoSaid'. A law counts once. -/
mutual
def uptoBulk {H : Type} : DataW H → Nat
  | .lit (.string bytes) => bytes.length + 1
  | .lit _ => 1
  | .nil => 1
  | .ptr d => uptoBulk d + 1
  | .slice elems spare => uptoBulkAll elems + uptoBulkAll spare + 1
  | .agg parts => uptoBulkAll parts + 1
  | .iface _ d => uptoBulk d + 1
  | .map entries => uptoBulkEntries entries + 1
  | .held _ => 1
def uptoBulkAll {H : Type} : List (DataW H) → Nat
  | [] => 0
  | d :: r => uptoBulk d + uptoBulkAll r
def uptoBulkEntries {H : Type} : List (Lit × DataW H) → Nat
  | [] => 0
  | x :: r => uptoBulkEntry x + uptoBulkEntries r
def uptoBulkEntry {H : Type} : Lit × DataW H → Nat
  | (.string bytes, d) => bytes.length + uptoBulk d + 1
  | (_, d) => uptoBulk d + 1
 end
def uptoSmall : (H : Type) → List (DataW H) → Bool := fun _ ds => decide (uptoBulkAll ds ≤ 1048576)
def OpenSpec.upto (s : _root_.Go.ChangeSpec) : _root_.Go.OpenSpec := { _root_.Go.OpenSpec.ofChange s with cond := some uptoSmall }

/-- 'countermandlaw21.StatTells', WHERE WHAT IT READS IS OF BULK AT MOST 1048576: true; the input reads as it did. -/
def statTellsUptoRow : OpenClaim := { program := "ytkphnmpildkdaaa", sum := "f09783d56b267898dbae80c36b2943399a1196a71e36cb284119065258bf9a32", func := "countermand/countermandlaw21.StatTells", spec := "statTells", inPlace := ["math.Float64bits", "math.Float64frombits"], unfollowed := true, recurses := true, apart := false, narrowed := true }
def StatTellsUptoSaid : Prop := statTellsUptoRow.holds Try.pinned (OpenSpec.upto statTellsSpec)

/-- 'countermandlaw21.StatEnds', WHERE WHAT IT READS IS OF BULK AT MOST 1048576: true; the input reads as it did. -/
def statEndsUptoRow : OpenClaim := { program := "ytkphnmpildkdaaa", sum := "f09783d56b267898dbae80c36b2943399a1196a71e36cb284119065258bf9a32", func := "countermand/countermandlaw21.StatEnds", spec := "statEnds", inPlace := ["math.Float64bits", "math.Float64frombits"], unfollowed := true, recurses := true, apart := false, narrowed := true }
def StatEndsUptoSaid : Prop := statEndsUptoRow.holds Try.pinned (OpenSpec.upto statEndsSpec)

/-- 'countermandlaw21.StatMean', WHERE WHAT IT READS IS OF BULK AT MOST 1048576: true; the input reads as it did. -/
def statMeanUptoRow : OpenClaim := { program := "ytkphnmpildkdaaa", sum := "f09783d56b267898dbae80c36b2943399a1196a71e36cb284119065258bf9a32", func := "countermand/countermandlaw21.StatMean", spec := "statMean", inPlace := ["math.Float64bits", "math.Float64frombits"], unfollowed := true, recurses := true, apart := false, narrowed := true }
def StatMeanUptoSaid : Prop := statMeanUptoRow.holds Try.pinned (OpenSpec.upto statMeanSpec)

/-- 'countermandlaw21.StatWaits', WHERE WHAT IT READS IS OF BULK AT MOST 1048576: true; the input reads as it did. -/
def statWaitsUptoRow : OpenClaim := { program := "ytkphnmpildkdaaa", sum := "f09783d56b267898dbae80c36b2943399a1196a71e36cb284119065258bf9a32", func := "countermand/countermandlaw21.StatWaits", spec := "statWaits", inPlace := ["math.Float64bits", "math.Float64frombits"], unfollowed := true, recurses := true, apart := false, narrowed := true }
def StatWaitsUptoSaid : Prop := statWaitsUptoRow.holds Try.pinned (OpenSpec.upto statWaitsSpec)

end Rows
end Go.Proofs.Ytkphnmpildkdaaa
