/- What Get tells, in plain Lean. -/
import Derived.Test.YtihbflmjgndfiaaEntM
namespace Go.Scree
def zeroEnt : Ent := ⟨⟨#[]⟩, 0, false, ⟨#[]⟩⟩
/-- The entry of a row that is the newest of a key up to a number. -/
def candP (l : List Ent) (key : ByteArray) (seq : Int) : Option Ent :=
  match l.find? (fun x => !aheadB x ⟨key, seq, false, ⟨#[]⟩⟩) with
  | none => none
  | some x => if eqK x.key key = true then some x else none
def getStep (key : ByteArray) (seq : Int) (best : Option Ent) (l : List Ent) : Option Ent :=
  if rowB l = true then
    match candP l key seq with
    | none => best
    | some x => match best with | none => some x | some y => if y.seq < x.seq then some x else some y
  else best
def getP (rows : List (List Ent)) (key : ByteArray) (seq : Int) : Option Ent := rows.foldl (getStep key seq) none

theorem find_place {l : List Ent} {t : Ent} {i : Nat} (h1 : ∀ j x, j < i → l[j]? = some x → aheadB x t = true) (h2 : ∀ j x, i ≤ j → l[j]? = some x → aheadB x t = false) : l.find? (fun x => !aheadB x t) = l[i]? := by
  induction l generalizing i with
  | nil => simp
  | cons a l ih =>
    cases i with
    | zero =>
      have := h2 0 a (Nat.le_refl _) rfl
      simp [List.find?, this]
    | succ i =>
      have := h1 0 a (by omega) rfl
      simp only [List.find?, this, Bool.not_true]
      rw [ih (i := i) (fun j x hj hx => h1 (j + 1) x (by omega) (by simpa using hx)) (fun j x hj hx => h2 (j + 1) x (by omega) (by simpa using hx))]
      simp
theorem getP_take {rows : List (List Ent)} {k : Nat} {l : List Ent} (h : rows[k]? = some l) (key : ByteArray) (seq : Int) : getP (rows.take (k + 1)) key seq = getStep key seq (getP (rows.take k) key seq) l := by
  obtain ⟨hk, rfl⟩ := List.getElem?_eq_some_iff.1 h
  unfold getP
  rw [List.take_succ_eq_append_getElem hk, List.foldl_append]; rfl
theorem getStep_bad {key : ByteArray} {seq : Int} {best : Option Ent} {l : List Ent} (h : rowB l = false) : getStep key seq best l = best := by
  unfold getStep; rw [if_neg (by rw [h]; simp)]
theorem getStep_none {key : ByteArray} {seq : Int} {best : Option Ent} {l : List Ent} (h : candP l key seq = none) : getStep key seq best l = best := by
  unfold getStep; rw [h]; split <;> rfl
theorem getStep_first {key : ByteArray} {seq : Int} {l : List Ent} {x : Ent} (hr : rowB l = true) (h : candP l key seq = some x) : getStep key seq none l = some x := by
  unfold getStep; rw [if_pos hr, h]
theorem getStep_more {key : ByteArray} {seq : Int} {l : List Ent} {x y : Ent} (hr : rowB l = true) (h : candP l key seq = some x) (hs : y.seq < x.seq) : getStep key seq (some y) l = some x := by
  unfold getStep; rw [if_pos hr, h]; exact if_pos hs
theorem getStep_less {key : ByteArray} {seq : Int} {l : List Ent} {x y : Ent} (h : candP l key seq = some x) (hs : x.seq ≤ y.seq) : getStep key seq (some y) l = some y := by
  unfold getStep; rw [h]
  split
  · exact if_neg (by omega)
  · rfl
end Go.Scree
