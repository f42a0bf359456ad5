/- Chunks put into another order at once. -/
import Derived.Test.YtdmdnhceiddcfaaGreatSl
set_option linter.all false
namespace Go.Sl

def arrL : List Nat → List Chunk → List Chunk
  | [], cs => cs
  | p :: ps, cs => match cs[p]? with
    | some c => arrL ps (c :: cs.eraseIdx p)
    | none => arrL ps cs
def arrGo : List Nat → List Nat → List Nat
  | [], _ => []
  | i :: r, pk => (pk.length + (i - (pk.filter (· < i)).length)) :: arrGo r (i :: pk)
/-- Those named come first, in this order; the others stay behind them. -/
theorem Own.moves {w : World} : ∀ (ps : List Nat) {cs : List Chunk}, Own w cs → Own w (arrL ps cs)
  | [], _, o => o
  | p :: ps, cs, o => by
    unfold arrL
    cases h : cs[p]? with
    | none => exact Own.moves ps o
    | some c => exact Own.moves ps (o.perm (pick_perm cs p c h))
theorem Own.arr {w : World} {cs ds : List Chunk} (is : List Nat) (o : Own w cs) (e : arrL (arrGo is.reverse []) cs = ds := by rfl) : Own w ds := by
  subst e; exact Own.moves _ o
theorem Own.drops {w : World} : ∀ (l : List Chunk) {F : List Chunk}, Own w (l ++ F) → Own w F
  | [], _, o => o
  | _ :: l, _, o => Own.drops l (Own.drop o)
example {w : World} {a b c d : Chunk} {F : List Chunk} (o : Own w (a :: b :: c :: d :: F)) : Own w (d :: b :: a :: c :: F) := o.arr [3, 1, 0]
end Go.Sl
