/- Regions that draw their order, whose operations read and whose calls write new memory alone: one walk, in the order of the text. -/
import Derived.Test.YtdmdnhceiddcfaaGreatSlk
import Derived.Deep.QuietTactic
import Derived.BigQuiet
set_option linter.all false
namespace Go.Sl
open Go.RowKit

/-- A world in which all of w's blocks are as they were. -/
structure KpW (w : World) where
  w' : World
  kp : Kp w w'
instance (w : World) : Inhabited (KpW w) := ⟨⟨w, Kp.refl w⟩⟩
theorem wp_region_kp {P : Program} {id : Nat} {Q : Exit → Act → World → Prop} {a : Act} {w : World} {l : List Oper} (hm : P.follows .mixedOrders = true) (hB : Region.lexB .any l.toArray = true)
    (h : wpQuiet P l.toArray (fun w' => ∃ u : KpW w, w' = u.w') (fun a' => ∀ w', (∃ u : KpW w, w' = u.w') → Q .normal a' w') l a) : (Code.region id l.toArray true).wp P Q a w :=
  wp_region_quiet (C := fun w' => ∃ u : KpW w, w' = u.w') hm hB ⟨⟨w.drew, (Kp.refl w).drew⟩, rfl⟩ (by simpa using h)
/-- A callee's contract, met in such a world. -/
theorem kpw_of {P : Program} {f : FuncId} {args : Array Value} {w : World} {v : Value} (u : KpW w) (h : Calls P f args u.w' fun e w'' => e = .returned v ∧ Kp u.w' w'') :
    Calls P f args u.w' fun e w'' => e = .returned v ∧ ∃ p : KpW w, w'' = p.w' := h.mono fun _ _ ⟨he, k⟩ => ⟨he, ⟨_, u.kp.trans k⟩, rfl⟩
end Go.Sl
