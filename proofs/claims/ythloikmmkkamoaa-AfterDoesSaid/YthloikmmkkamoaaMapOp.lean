/- 'delete(m, k)' at the operation, over 'MapIs'. -/
import Derived.Test.YthloikmmkkamoaaWords
namespace Go.Proofs.Ythloikmmkkamoaa
open Go.RowKit Go.Maps

theorem wpList_delete_is {P : Program} (w : World) {ops : Array Oper} {rest : List Oper} {o : Oper} {a : Act} {Q : Exit → Act → World → Prop} (hg : o.guard = none) (m x : Operand) (t k : TypeId) (hop : o.op = Op.call { callee := Callee.builtin Builtin.delete, args := #[m, x], argTypes := #[t, k] })
    (e : TypeId) (K : Keyed P k) (ht : P.underlying t = some (.map k e)) (b n : Nat) (V : Int → Option Value)
    (hm : a.eval m = .map (some b)) (hown : MapIs P k w b n V) (i : Int) (hx : a.eval x = .int .i64 i) (hkey : keyOf P k (.int .i64 i) = some (.int .i64 i))
    (hK : ∀ w', MapIs P k w' b n (fun j => if j = i then none else V j) → w.grownBy w' (some b) → wpList P ops Q rest (a.put o.dst (.tuple #[])) w') :
    wpList P ops Q (o :: rest) a w := by
  refine wpList_plain hg fun K' hK' => ?_
  obtain ⟨w', hrun, r1, r2⟩ := hown.drop K ht hkey o.type
  unfold Oper.wp
  simp [execOp, hop, resolve, invoke, builtin, hm, hx, hrun, Result.andThen]
  exact hK' _ _ (hK w' r1 r2)

end Go.Proofs.Ythloikmmkkamoaa
