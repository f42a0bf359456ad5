/- A map from a key and a number to an entry: how keys and entries read. -/
import Derived.Test.YtihbflmjgndfiaaEntL
import Derived.Test.YtihbflmjgndfiaaSlMap
import Derived.Maps.OwnSet
import Derived.DeepKeys4
namespace Go.Proofs.Ytihbflmjgndfiaa
open Go.RowKit Go.Sl Go.Scree Go.Maps

def idV (x : Ent) : Value := .agg #[.string x.key, .int .u64 x.seq]
theorem hasLaid : laidOutB Try.prog = true := by kernel_rfl
theorem lawI : Keyed Try.prog 42 := Keyed.of_law (deep_law_laid hasLaid (m := 2) (by omega) (of_decide_eq_true (by kernel_rfl)) (by kernel_rfl) (by rw [Try.underlying42]))
theorem idFields : ∃ fs, Try.prog.underlying 42 = some (.struct fs) ∧ fs.all (·.name != "_") = true ∧ fs.toList.map (fun f => (f.type, f.offset)) = [(9, 0), (23, 1)] := ⟨_, Try.underlying42, by kernel_rfl, by kernel_rfl⟩
def idL (x : Ent) : Lit := .string (keyBytes [.string x.key.data.toList, .int .u64 x.seq])
theorem id_key (x : Ent) (hk : x.key.size ≤ maxLen) (hn : (Lit.int .u64 x.seq).wf = true) : keyOf Try.prog 42 (idV x) = some (idL x) := by
  obtain ⟨fs, hu, hna, hf⟩ := idFields
  obtain ⟨f0, l, h, h0, hf⟩ := List.map_eq_cons_iff.1 hf
  obtain ⟨f1, l, rfl, h1, hf⟩ := List.map_eq_cons_iff.1 hf
  obtain rfl := List.map_eq_nil_iff.1 hf
  simp only [Prod.mk.injEq] at h0 h1
  obtain ⟨t0, o0⟩ := h0
  obtain ⟨t1, o1⟩ := h1
  have hc : Try.prog.cellsOf 42 = 2 := by kernel_rfl
  have hcs : Try.prog.cellsOf 9 = 1 := by kernel_rfl
  have hcu : Try.prog.cellsOf 23 = 1 := by kernel_rfl
  have hkt : Try.prog.keyType 42 = true := by kernel_rfl
  have hfm : (idV x).formed Try.prog 42 = true := by simp [Value.formed, idV, hu, hc]
  obtain ⟨d, hd⟩ : ∃ d, Try.prog.types.size = d + 1 := ⟨Try.prog.types.size - 1, by have : 0 < Try.prog.types.size := of_decide_eq_true (by kernel_rfl); omega⟩
  unfold keyOf
  rw [hu]
  dsimp only
  rw [hkt, hfm, hd]
  have hcells : (idV x).cells.toList = [.string x.key, .int .u64 x.seq] := rfl
  rw [hcells]
  have e : Try.prog.keyLits (d + 1 + 1) 42 [.string x.key, .int .u64 x.seq] = some [.string x.key.data.toList, .int .u64 x.seq] := by
    unfold Program.keyLits
    rw [hu]
    dsimp only
    rw [if_pos ⟨by rw [hc]; rfl, hna⟩, h]
    simp only [List.mapM_cons, List.mapM_nil, t0, t1, o0, o1, hcs, hcu]
    simp [Program.keyLits, Try.underlying9, Try.underlying23, hk, hn]
  rw [e]
  rfl
theorem idL_inj {x y : Ent} (hx : x.key.size ≤ maxLen ∧ (Lit.int .u64 x.seq).wf = true) (hy : y.key.size ≤ maxLen ∧ (Lit.int .u64 y.seq).wf = true) (h : idL x = idL y) : sameB x y = true := by
  have h1 := id_key x hx.1 hx.2
  have h2 := id_key y hy.1 hy.2
  rw [← h] at h2
  have := lawI.inj h1 h2
  simp only [idV, Value.agg.injEq] at this
  simp at this
  exact sameB_iff.2 this
theorem idL_same {x y : Ent} (h : sameB x y = true) : idL x = idL y := by
  obtain ⟨h1, h2⟩ := sameB_iff.1 h
  unfold idL; rw [h1, h2]

/-- How an entry reads. -/
def encE (x : Ent) : DataW Unit := .agg [.lit (.string x.key.data.toList), .lit (.int .u64 x.seq), .lit (.bool x.del), .lit (.string x.val.data.toList)]
def RE (v : Value) : Option (DataW Unit × List MemPlace) :=
  match v with
  | .agg a => match a.toList with
    | [.string k, .int .u64 n, .bool d, .string s] => some (encE ⟨k, n, d, s⟩, [])
    | _ => none
  | _ => none
theorem RE_ent (x : Ent) : RE (entV x) = some (encE x, []) := rfl
theorem ba_inj {a b : ByteArray} (h : a.data.toList = b.data.toList) : a = b := by
  cases a; cases b
  simp only [ByteArray.mk.injEq]
  exact Array.toList_inj.1 h
theorem RE_inv {v : Value} {x : Ent} {ps : List MemPlace} (h : RE v = some (encE x, ps)) : v = entV x := by
  unfold RE at h
  split at h
  · rename_i a
    split at h
    · rename_i k n d s he
      obtain ⟨xk, xn, xd, xv⟩ := x
      simp only [encE, Option.some.injEq, Prod.mk.injEq, DataW.agg.injEq, List.cons.injEq, DataW.lit.injEq, Lit.string.injEq, Lit.int.injEq, Lit.bool.injEq, true_and, and_true] at h
      obtain ⟨⟨h1, h2, h3, h4⟩, _⟩ := h
      subst h2; subst h3
      obtain rfl := ba_inj h1
      obtain rfl := ba_inj h4
      unfold entV
      congr 1
      exact Array.toList_inj.1 he
    · cases h
  · cases h
end Go.Proofs.Ytihbflmjgndfiaa
