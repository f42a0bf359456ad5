/- Files renewed one by one, in plain Lean. -/
import Derived.Test.YtfdpoocdfbdhpaaGreatDoorFsK
set_option linter.all false
namespace Go.Proofs.YtfdpoocdfbdhpaaGreatDoor
open Go.RowKit Go.Sl Go.Scree Go.Maps

/-- The directory of which the first files are new ones. -/
def mix (A : List Nat) (cd : Dir Nat) (B : List Nat) : Dir Nat := List.zipWith (fun p b => (p.1, b)) cd B ++ (dmap (adr A) cd).drop B.length
theorem mix_nil (A : List Nat) (cd : Dir Nat) : mix A cd [] = dmap (adr A) cd := by simp [mix]
theorem mix_len {A : List Nat} {cd : Dir Nat} {B : List Nat} (h : B.length ≤ cd.length) : (mix A cd B).length = cd.length := by
  simp [mix, dmap_len]; omega
theorem mix_at {A : List Nat} {cd : Dir Nat} {B : List Nat} {name : ByteArray} {i : Nat} (h : cd[B.length]? = some (name, i)) : (mix A cd B)[B.length]? = some (name, adr A i) := by
  have hl : B.length < cd.length := (List.getElem?_eq_some_iff.1 h).1
  unfold mix
  rw [List.getElem?_append_right (by simp; omega)]
  have : B.length - (List.zipWith (fun (p : ByteArray × Nat) b => (p.1, b)) cd B).length = 0 := by simp; omega
  rw [this, List.getElem?_drop, Nat.add_zero]
  simp [dmap, h]
theorem mix_step {A : List Nat} {cd : Dir Nat} {B : List Nat} {name : ByteArray} {i a : Nat} (h : cd[B.length]? = some (name, i)) : (mix A cd B).set B.length (name, a) = mix A cd (B ++ [a]) := by
  have hl : B.length < cd.length := (List.getElem?_eq_some_iff.1 h).1
  apply List.ext_getElem?
  intro j
  rw [List.getElem?_set]
  have zl : (List.zipWith (fun (p : ByteArray × Nat) b => (p.1, b)) cd B).length = B.length := by simp; omega
  have zl2 : (List.zipWith (fun (p : ByteArray × Nat) b => (p.1, b)) cd (B ++ [a])).length = B.length + 1 := by simp; omega
  by_cases e : B.length = j
  · subst e
    rw [if_pos rfl, if_pos (by rw [mix_len (by omega)]; exact hl)]
    unfold mix
    rw [List.getElem?_append_left (by rw [zl2]; omega), List.getElem?_zipWith, h]
    simp
  · rw [if_neg e]
    unfold mix
    by_cases hj : j < B.length
    · rw [List.getElem?_append_left (by rw [zl]; exact hj), List.getElem?_append_left (by rw [zl2]; omega), List.getElem?_zipWith, List.getElem?_zipWith, List.getElem?_append_left hj]
    · rw [List.getElem?_append_right (by rw [zl]; omega), List.getElem?_append_right (by rw [zl2]; omega), zl, zl2, List.getElem?_drop, List.getElem?_drop, List.length_append, List.length_singleton]
      congr 1; omega
theorem mix_end {A : List Nat} {cd : Dir Nat} {B : List Nat} (h : B.length = cd.length) : mix A cd B = dmap (adr B) (renum cd) := by
  unfold mix
  rw [List.drop_eq_nil_of_le (by rw [dmap_len]; omega), List.append_nil]
  apply List.ext_getElem?
  intro j
  unfold dmap
  rw [List.getElem?_map, renum_at, List.getElem?_zipWith]
  cases hc : cd[j]? with
  | none => simp
  | some q =>
    have hj : j < cd.length := (List.getElem?_eq_some_iff.1 hc).1
    rw [List.getElem?_eq_getElem (by omega : j < B.length)]
    simp [adr, List.getElem?_eq_getElem (by omega : j < B.length)]
theorem names_at {cd : Dir Nat} {k : Nat} {name : ByteArray} {i : Nat} (h : cd[k]? = some (name, i)) : (namesOf cd)[k]? = some name := by simp [namesOf, h]
theorem namesOf_map (A : List Nat) (cd : Dir Nat) : namesOf (dmap (adr A) cd) = namesOf cd := by unfold namesOf dmap; rw [List.map_map]; rfl
theorem filesC_snoc {A : List Nat} {fs : List FFile} {a : Nat} {f : FFile} {w : World} {F : List Chunk} (hl : A.length = fs.length) (o : Own w (fileC a f :: filesC A fs :: F)) : Own w (filesC (A ++ [a]) (fs ++ [f]) :: F) := by
  refine Own.unstars (cs := fileCs (A ++ [a]) (fs ++ [f])) ?_
  have : fileCs (A ++ [a]) (fs ++ [f]) = fileCs A fs ++ [fileC a f] := by
    unfold fileCs
    rw [List.zipWith_append hl]; rfl
  rw [this, List.append_assoc]
  have o2 := Own.stars (Own.swap o)
  exact o2
theorem crashFiles_at {d : FDisk} {n : Int} {keep : List Int} {k : Nat} {name : ByteArray} {i : Nat} (h : (d.crashDir n)[k]? = some (name, i)) : (d.crashFiles n keep)[k]? = some (cutF (d.file i) keep[k]?) := by
  unfold FDisk.crashFiles
  rw [List.getElem?_map, List.getElem?_zipIdx, h]; simp
theorem take_snoc2 {α : Type} {l : List α} {k : Nat} {x : α} (h : l[k]? = some x) : l.take (k + 1) = l.take k ++ [x] := by
  rw [List.take_add_one, h]; rfl
end Go.Proofs.YtfdpoocdfbdhpaaGreatDoor
