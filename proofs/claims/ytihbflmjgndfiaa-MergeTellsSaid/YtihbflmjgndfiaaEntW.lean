/- What awake asks, in plain Lean. -/
import Derived.Test.YtihbflmjgndfiaaEntP
import Derived.Test.YtihbflmjgndfiaaEntGm
namespace Go.Scree

def kA : ByteArray := ⟨#[97]⟩
def kB : ByteArray := ⟨#[98]⟩
def kC : ByteArray := ⟨#[99]⟩
def k0 : ByteArray := ⟨#[]⟩
def a9 : Ent := ⟨kA, 9, false, k0⟩
def b3 : Ent := ⟨kB, 3, false, k0⟩
def a4 : Ent := ⟨kA, 4, false, k0⟩
def b3d : Ent := ⟨kB, 3, true, k0⟩
def c1 : Ent := ⟨kC, 1, false, k0⟩
def b0 : Ent := ⟨kB, 0, false, k0⟩
def a0 : Ent := ⟨kA, 0, false, k0⟩
theorem abL : ltK kA kB = true := by decide
theorem acL : ltK kA kC = true := by decide
theorem bcL : ltK kB kC = true := by decide
theorem baL : ltK kB kA = false := ltK_asymm abL
theorem caL : ltK kC kA = false := ltK_asymm acL
theorem cbL : ltK kC kB = false := ltK_asymm bcL
theorem kne {a b : ByteArray} (h : ltK a b = true) : a ≠ b := by rintro rfl; rw [ltK_irrefl] at h; cases h
theorem eqKr (a : ByteArray) : eqK a a = true := eqK_iff.2 rfl
theorem abE : eqK kA kB = false := eqK_false.2 (kne abL)
theorem acE : eqK kA kC = false := eqK_false.2 (kne acL)
theorem bcE : eqK kB kC = false := eqK_false.2 (kne bcL)
theorem baE : eqK kB kA = false := eqK_false.2 (kne abL).symm
theorem caE : eqK kC kA = false := eqK_false.2 (kne acL).symm
theorem cbE : eqK kC kB = false := eqK_false.2 (kne bcL).symm

theorem rowAB : Row [a9, b3] := by simp [Row, aheadB, a9, b3, abL]
theorem rowB4 : Row [a4, b3d, c1] := by simp [Row, aheadB, a4, b3d, c1, abL, acL, bcL]
theorem rowAll : Row [a9, a4, b3, c1] := by simp [Row, aheadB, a9, a4, b3, c1, abL, acL, bcL, eqKr]
theorem allW : allP [[a9, b3], [a4, b3d, c1]] = [a9, a4, b3, c1] := by
  simp [allP, withE, aheadB, sameB, a9, a4, b3, b3d, c1, abL, acL, bcL, baL, caL, cbL, abE, acE, bcE, baE, caE, cbE, eqKr, ltK_irrefl]
theorem goodW : goodR [[a9, b3], [a4, b3d, c1]] = true := by simp [goodR, rowB_iff.2 rowAB, rowB_iff.2 rowB4]
theorem seenW : seenP [a9, a4, b3, c1] 5 = [a4, b3, c1] := by
  unfold seenP
  rw [if_pos (rowB_iff.2 rowAll)]
  simp [seenGo, a9, a4, b3, c1, kne abL, kne acL, kne bcL]
theorem newestW : newestP [a9, a4, b3, c1] 9 = [a9, b3, c1] := by
  unfold newestP
  rw [if_pos (rowB_iff.2 rowAll)]
  simp [newestGo, hidB, a9, a4, b3, c1, abE, acE, bcE, baE, caE, cbE, eqKr]
theorem badW : goodR [[b0, a0]] = false := by
  have : rowB [b0, a0] = false := by
    unfold rowB
    rw [decide_eq_false_iff_not]
    simp [Row, aheadB, b0, a0, baL, baE]
  simp [goodR, this]
theorem candW1 : candP [a9, b3] kA 8 = none := by
  simp [candP, aheadB, a9, b3, baL, baE, eqKr, ltK_irrefl]
theorem candW2 : candP [a4, b3d, c1] kA 8 = some a4 := by
  simp [candP, aheadB, a4, b3d, c1, eqKr, ltK_irrefl]
theorem getW : getP [[a9, b3], [a4, b3d, c1]] kA 8 = some a4 := by
  unfold getP
  rw [List.foldl_cons, getStep_none candW1, List.foldl_cons, getStep_first (rowB_iff.2 rowB4) candW2]
  rfl
end Go.Scree
