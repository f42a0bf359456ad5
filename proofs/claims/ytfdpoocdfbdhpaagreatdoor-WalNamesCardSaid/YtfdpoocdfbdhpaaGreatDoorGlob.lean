/- What the package's variables hold, and that it stays in worlds whose old blocks stay. -/
import Derived.Test.YtfdpoocdfbdhpaaGreatDoorSlk
import Derived.Test.YtfdpoocdfbdhpaaGreatDoorProg
import Derived.Lib.LaidTab
import Derived.Lib.ItoaNum
import Derived.Lib.AtoiErrMem
import Derived.Lib.AppendIntMem
set_option linter.all false
namespace Go.Proofs.YtfdpoocdfbdhpaaGreatDoor
open Go.RowKit Go.Sl Go.Sort Go.Lib

theorem var_same {w w' : World} {s : String} {cs : Array Value} (k : ∀ k, k < w.heap.size → w'.heap[k]? = w.heap[k]?) (h : w.var? Tryz.prog s = some cs) : w'.var? Tryz.prog s = some cs := by
  unfold World.var? at h ⊢
  cases hg : Program.globalNamed Tryz.prog s with
  | none => rw [hg] at h; cases h
  | some g =>
    rw [hg] at h
    simp only [Option.bind_some] at h ⊢
    have hl : g < w.heap.size := by
      cases hx : w.heap[g]? with
      | none => rw [hx] at h; cases h
      | some y => exact (Array.getElem?_eq_some_iff.1 hx).1
    rw [k g hl]; exact h
theorem var_kp {w w' : World} {s : String} {cs : Array Value} (k : Kp w w') (h : w.var? Tryz.prog s = some cs) : w'.var? Tryz.prog s = some cs := var_same k.same h
/-- The tables that the library's functions read. -/
structure Gok (w : World) : Prop where
  tab : Lib.TabIs Tryz.prog w "internal/strconv.uint64pow10" .u64 Lib.pow10Tab
  syn : ∃ t p, w.var? Tryz.prog "strconv.ErrSyntax" = some #[.iface t p]
  rng : ∃ t p, w.var? Tryz.prog "strconv.ErrRange" = some #[.iface t p]
theorem Gok.kp {w w' : World} (h : Gok w) (k : Kp w w') : Gok w' :=
  ⟨var_kp k h.tab, by obtain ⟨t, p, h⟩ := h.syn; exact ⟨t, p, var_kp k h⟩, by obtain ⟨t, p, h⟩ := h.rng; exact ⟨t, p, var_kp k h⟩⟩
/-- Who owns F finds them. -/
def Gl (F : List Chunk) : Prop := ∀ w, Own w F → Gok w
theorem Gl.cons {F : List Chunk} (h : Gl F) (c : Chunk) : Gl (c :: F) := fun w o => h w (o.drop)
theorem Gl.base {W : World} (h : Gok W) : Gl [Sl.base W W.heap.size] := fun w o => by
  have hk : ∀ k, k < W.heap.size → w.heap[k]? = W.heap[k]? := fun k hk => (o.up [] (cs := [])).below (Nat.le_refl _) hk
  refine ⟨?_, ?_, ?_⟩
  · exact var_same hk h.tab
  · obtain ⟨t, p, h⟩ := h.syn; exact ⟨t, p, var_same hk h⟩
  · obtain ⟨t, p, h⟩ := h.rng; exact ⟨t, p, var_same hk h⟩
theorem kp_below {w w' : World} (b : Below w.heap.size w w') : Kp w w' := ⟨⟨b.os, b.tape, b.output, b.size⟩, b.block⟩
theorem kp_grow (w : World) (k : Nat) (os : Array Obj) : Kp w (grow (w.drewN k) os) := by
  refine ⟨⟨rfl, rfl, rfl, ?_⟩, fun i hi => ?_⟩
  · show w.heap.size ≤ (w.heap ++ os).size
    rw [Array.size_append]; omega
  · show (w.heap ++ os)[i]? = _
    rw [Array.getElem?_append_left hi]
theorem kp_bytes (w : World) (e : TypeId) (s : ByteArray) : Kp w (Lib.bytesWorld w e s) := kp_below (Lib.bytesWorld_below w e s)
end Go.Proofs.YtfdpoocdfbdhpaaGreatDoor
