/- An argument that is one edit, opened. -/
import Derived.Test.YtdmdnhceiddcfaaOpnE
set_option linter.all false
namespace Go.Proofs.Ytdmdnhceiddcfaa
open Go.ChangeShapes Go.WideShapes Go.ChangeAt Go.RowKit Go.Sl Go.Scree Go.Deep
theorem open_edit {H : Type} {enc : TypeId × Value → H} {w : World} {base : Nat} {spare : Nat → Bool} {held : Bool} {v : Value} {d : DataW H} {ps : List MemPlace} (h : DataW.Trod enc Try.prog w base spare held 34 v d ps) : ∃ x : EdV, EditW w x.g x.S x.E ∧ v = editV x.g x.S x.E := by
  obtain ⟨fuel, hf⟩ := h
  obtain ⟨x, hx, hc⟩ := open_edit_cells hf
  refine ⟨x, hx, ?_⟩
  have hs : v.cells.size = 8 := by rw [← Array.length_toList, hc]; rfl
  cases v with
  | agg cs =>
    have : cs = editCells x.g x.S x.E := by
      apply Array.toList_inj.1
      exact hc
    rw [this]; rfl
  | _ => exact absurd hs (by simp [Value.cells])
end Go.Proofs.Ytdmdnhceiddcfaa
