/- What the cards' listed variables give: the tables that the library reads. -/
import Derived.Test.YtfdpoocdfbdhpaaGreatDoorGlob
import Derived.Test.YtfdpoocdfbdhpaaGreatDoorRows
import Derived.ProofKit
import Derived.LaidMore
import Derived.OpenShut
import Derived.Stop.Joined
import Derived.Stop.LaidErr
set_option linter.all false
namespace Go.Proofs.YtfdpoocdfbdhpaaGreatDoor
open Go Go.ChangeShapes Go.WideShapes Go.RowKit Go.Sl
open Go.Lib hiding hid

def laid5 : List (String × DataW Unit) := [("math/bits.deBruijn32tab", Rows.laid_math_bits_deBruijn32tab), ("math/bits.deBruijn64tab", Rows.laid_math_bits_deBruijn64tab), ("internal/strconv.uint64pow10", Rows.laid_internal_strconv_uint64pow10), ("strconv.ErrRange", Rows.laid_strconv_ErrRange), ("strconv.ErrSyntax", Rows.laid_strconv_ErrSyntax)]
theorem star_errs : "*" ++ "errors.errorString" = "*errors.errorString" := by decide
theorem row_errs (u : TypeId) (h : Tryz.prog.typeName? 3 u = some "*errors.errorString") : u = 181 :=
  typeName_ptr_named (nm := "errors.errorString") (by rw [star_errs]; kernel_rfl) (by kernel_rfl) (by decide) u (by rw [star_errs]; exact h)
theorem ge_rng : ∃ g, Tryz.prog.globalNamed "strconv.ErrRange" = some g ∧ (Tryz.prog.globals[g]?).map (·.type) = some 74 := ⟨1, by kernel_rfl, by kernel_rfl⟩
theorem ge_syn : ∃ g, Tryz.prog.globalNamed "strconv.ErrSyntax" = some g ∧ (Tryz.prog.globals[g]?).map (·.type) = some 74 := ⟨0, by kernel_rfl, by kernel_rfl⟩
theorem ge_tab : ∃ g, Tryz.prog.globalNamed "internal/strconv.uint64pow10" = some g ∧ (Tryz.prog.globals[g]?).map (·.type) = some 166 := ⟨2, by kernel_rfl, by kernel_rfl⟩
theorem cells_errs : Tryz.prog.cellsOf 183 = 1 := by kernel_rfl
theorem cells_str : Tryz.prog.cellsOf 9 = 1 := by kernel_rfl
theorem cells_u64 : Tryz.prog.cellsOf 22 = 1 := by kernel_rfl
theorem cells_tab : Tryz.prog.cellsOf 166 = 20 := by kernel_rfl
/-- The card's condition gives the tables. -/
theorem gok_of {W : World} (h : laidMetH Tryz.prog laid5 W) : Gok W := by
  rw [MakeChecks.laidMetH_plain _ _ _ (by kernel_rfl)] at h
  have h2 := h.tail.tail
  have h3 := h2.tail
  have h4 := h3.tail
  obtain ⟨g, hg, ht⟩ := ge_tab
  obtain ⟨gr, hgr, htr⟩ := ge_rng
  obtain ⟨gs, hgs, hts⟩ := ge_syn
  refine ⟨tabIs_of_head (zs := Lib.pow10Tab) hg ht Tryz.underlying166 Tryz.underlying22 cells_u64 cells_tab h2, ?_, ?_⟩
  · obtain ⟨a, s, hv, _⟩ := laid_sentinel h4 hgs hts Tryz.underlying74 row_errs Tryz.underlying181 Tryz.underlying183 rfl rfl Tryz.underlying9 cells_errs cells_str
    exact ⟨_, _, hv⟩
  · obtain ⟨a, s, hv, _⟩ := laid_sentinel h3 hgr htr Tryz.underlying74 row_errs Tryz.underlying181 Tryz.underlying183 rfl rfl Tryz.underlying9 cells_errs cells_str
    exact ⟨_, _, hv⟩
/-- The door's own heap meets the condition. -/
theorem door_met (os : Os) (args : Array Value) : laidMetH Tryz.prog laid5 ((World.doorLaid Tryz.prog 62 os).forCall (fun _ _ => 0) ⟨#[], args, []⟩).memory :=
  laidMetH_of_parts3 (fuel := 8) (laidMet_of_run' 8 (by kernel_rfl) (by kernel_rfl)) (by kernel_rfl) (by kernel_rfl)
end Go.Proofs.YtfdpoocdfbdhpaaGreatDoor
