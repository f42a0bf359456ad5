/- MergeTells: what is needed beside the contracts. -/
import Derived.Test.YtihbflmjgndfiaaEntX
import Derived.Test.YtihbflmjgndfiaaEntOz
import Derived.Test.YtihbflmjgndfiaaRmC
import Derived.Test.YtihbflmjgndfiaaRmE
import Derived.Test.YtihbflmjgndfiaaRmG
namespace Go.Proofs.Ytihbflmjgndfiaa
open Go.RowKit Go.Sl Go.Scree

theorem below_kp' {w w' : World} (k : Kp w w') : Below w.heap.size w w' := ⟨k.ext.os, k.ext.tape, k.ext.output, k.ext.size, fun _ h => k.same _ h⟩
theorem infoEnts : (Try.prog.info? 26).map (fun i => (i.zero, i.size, i.bytes)) = some (some (.slice none 0 0), 1, 24) := by kernel_rfl
def innC (r : RowV) : Chunk := sl 31 entE (.slice r.A r.n r.c) r.l
def inn (rs : List RowV) : Chunk := stars (rs.map innC)
section
variable {w : World} {F : List Chunk} {rs ds : List RowV} {r : RowV}
theorem inn_nil (o : Own w F) : Own w (inn [] :: F) := Own.unstars (cs := []) o
theorem inn_perm (p : rs.Perm ds) (o : Own w (inn rs :: F)) : Own w (inn ds :: F) :=
  Own.unstars (Own.perm ((p.map innC).append_right F) (Own.stars o))
theorem inn_close (o : Own w (innC r :: inn rs :: F)) : Own w (inn (r :: rs) :: F) := by
  have h := Own.stars (Own.swap o)
  refine Own.unstars (cs := (r :: rs).map innC) ?_
  rw [List.map_cons, List.cons_append]
  exact Own.up _ h
theorem inn_snoc (o : Own w (innC r :: inn rs :: F)) : Own w (inn (rs ++ [r]) :: F) :=
  inn_perm (List.perm_append_comm (l₁ := [r]) (l₂ := rs)) (inn_close o)
theorem inn_rd (o : Own w (inn rs :: F)) : ∀ r ∈ rs, Rd w entE (.slice r.A r.n r.c) r.l := by
  intro r hr
  obtain ⟨a, b, rfl⟩ := List.append_of_mem hr
  have o2 := inn_perm (List.perm_middle (a := r) (l₁ := a) (l₂ := b)) o
  have h := Own.stars o2
  rw [List.map_cons, List.cons_append] at h
  exact sl_rd h
end
def errR (rows : List (List Ent)) : Int := if goodR rows = true then 0 else 2
def allR (rows : List (List Ent)) : List Ent := if goodR rows = true then allP rows else []
theorem all_any {rs : List RowV} {w w' : World} {e : Ending} (h : AllSays rs w e w') : ∃ v', e = .returned (.tuple #[v', .int .i64 (errR (listsOf rs))]) ∧ Rd w' entE v' (allR (listsOf rs)) ∧ Kp w w' := by
  have hk := all_kp h
  obtain ⟨v', out, rfl, o, ex, h1, h2⟩ := h
  refine ⟨v', rfl, ?_, hk⟩
  have hr := sl_rd o
  unfold allR
  cases hg : goodR (listsOf rs) with
  | true => rw [if_pos rfl, ← (h1 hg).unique (isAll_allP hg)]; exact hr
  | false => rw [if_neg (by simp)]; rw [(h2 hg).1] at hr; exact hr
theorem xall_any {rs : List RowV} {w w' : World} {e : Ending} (h : XAllSays rs w e w') : ∃ v', e = .returned (.tuple #[v', .int .i64 (errR (listsOf rs))]) ∧ Rd w' entE v' (allR (listsOf rs)) ∧ Kp w w' := h
end Go.Proofs.Ytihbflmjgndfiaa
