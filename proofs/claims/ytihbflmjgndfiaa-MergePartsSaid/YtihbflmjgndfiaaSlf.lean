/- A slice appended to an owned one, where the operation bears a guard that says yes. -/
import Derived.Test.YtihbflmjgndfiaaSle
import Derived.WalkKit
namespace Go.Sl
open Go.RowKit
theorem wpList_append_rd_g {P : Program} {α : Type} {w : World} {F : List Chunk} {T : TypeId} {E : Enc α} {xs ys : List α} {v y : Value} {ops : Array Oper} {rest : List Oper} {q : Oper} {a : Act} {Q : Exit → Act → World → Prop} (hw : Region.wanted q (yielded ops a.tmps) = true) (s x : Operand) (t : TypeId)
    (ho : q.op = .call { callee := .builtin .append, args := #[s, x], argTypes := #[t, t] })
    (i : TypeInfo) (z : Value) (size bytes : Nat) (ht : P.underlying t = some (.slice T)) (hi : P.info? T = some i) (hz : i.zero = some z)
    (hsize : i.size = size) (hby : i.bytes = bytes) (hzs : z.cells.size = size) (hE : E.size = size)
    (hs : a.eval s = v) (o : Own w (sl T E v xs :: F)) (hx : a.eval x = y) (h : Rd w E y ys) (h63 : xs.length + ys.length ≤ maxLen) (hb : (xs.length + ys.length) * bytes ≤ 140737488355328)
    (hk : ∀ v' w', Own w' (sl T E v' (xs ++ ys) :: F) → Ext w w' → (v' = .slice none 0 0 ↔ v = .slice none 0 0 ∧ ys = []) → wpList P ops Q rest (a.put q.dst v') w') : wpList P ops Q (q :: rest) a w := by
  refine BigFrame.wpList_want hw fun K hK => ?_
  obtain ⟨v', w', hr, h2, h3, h4⟩ := run_append_rd (P := P) t q.type i z size bytes ht hi hz hsize hby hzs hE o h h63 hb
  unfold Oper.wp execOp
  simp only [ho, resolve, invoke, builtin, Sem.run_bind, Sem.run_pure, Result.andThen_ok, List.map_toArray, List.map_cons, List.map_nil, hs, hx, hr]
  exact hK _ _ (hk v' w' h2 h3 h4)
end Go.Sl
