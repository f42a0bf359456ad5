/- What Seen and Newest tell, in plain Lean. -/
import Derived.Test.YtihbflmjgndfiaaEntM
namespace Go.Scree

def seenGo (seq : Int) : Option ByteArray → List Ent → List Ent
  | _, [] => []
  | d, x :: r => if seq < x.seq ∨ d = some x.key then seenGo seq d r else if x.del = true then seenGo seq (some x.key) r else x :: seenGo seq (some x.key) r
def seenP (l : List Ent) (seq : Int) : List Ent := if rowB l = true then seenGo seq none l else []
def dueP (any : Bool) (done : ByteArray) : Option ByteArray := if any = true then some done else none

def hidB (p : Option Ent) (least : Int) (x : Ent) : Bool := match p with | none => false | some y => eqK y.key x.key && decide (y.seq ≤ least)
def newestGo (least : Int) : Option Ent → List Ent → List Ent
  | _, [] => []
  | p, x :: r => if hidB p least x = true then newestGo least (some x) r else x :: newestGo least (some x) r
def newestP (l : List Ent) (least : Int) : List Ent := if rowB l = true then newestGo least none l else []
def backP (l : List Ent) (k : Nat) : Option Ent := if k = 0 then none else l[k - 1]?

theorem drop_at {α : Type} {l : List α} {k : Nat} {x : α} (h : l[k]? = some x) : l.drop k = x :: l.drop (k + 1) := by
  obtain ⟨hk, rfl⟩ := List.getElem?_eq_some_iff.1 h
  exact List.drop_eq_getElem_cons hk
theorem seen_skip {l out : List Ent} {seq : Int} {d : Option ByteArray} {k : Nat} {x : Ent} (h : out ++ seenGo seq d (l.drop k) = seenGo seq none l) (hx : l[k]? = some x) (c : seq < x.seq ∨ d = some x.key) : out ++ seenGo seq d (l.drop (k + 1)) = seenGo seq none l := by
  rw [drop_at hx, seenGo, if_pos c] at h; exact h
theorem seen_gone {l out : List Ent} {seq : Int} {d : Option ByteArray} {k : Nat} {x : Ent} (h : out ++ seenGo seq d (l.drop k) = seenGo seq none l) (hx : l[k]? = some x) (c : ¬ (seq < x.seq ∨ d = some x.key)) (e : x.del = true) : out ++ seenGo seq (dueP true x.key) (l.drop (k + 1)) = seenGo seq none l := by
  rw [drop_at hx, seenGo, if_neg c, if_pos e] at h; exact h
theorem seen_take {l out : List Ent} {seq : Int} {d : Option ByteArray} {k : Nat} {x : Ent} (h : out ++ seenGo seq d (l.drop k) = seenGo seq none l) (hx : l[k]? = some x) (c : ¬ (seq < x.seq ∨ d = some x.key)) (e : x.del = false) : (out ++ [x]) ++ seenGo seq (dueP true x.key) (l.drop (k + 1)) = seenGo seq none l := by
  rw [drop_at hx, seenGo, if_neg c, if_neg (by rw [e]; simp)] at h
  rw [List.append_assoc]; exact h
theorem seen_end {l out : List Ent} {seq : Int} {d : Option ByteArray} (h : out ++ seenGo seq d (l.drop l.length) = seenGo seq none l) : out = seenGo seq none l := by
  rw [List.drop_length, seenGo, List.append_nil] at h; exact h
theorem newest_skip {l out : List Ent} {least : Int} {k : Nat} {x : Ent} (h : out ++ newestGo least (backP l k) (l.drop k) = newestGo least none l) (hx : l[k]? = some x) (c : hidB (backP l k) least x = true) : out ++ newestGo least (backP l (k + 1)) (l.drop (k + 1)) = newestGo least none l := by
  rw [drop_at hx, newestGo, if_pos c] at h
  have e : backP l (k + 1) = some x := by simp [backP, hx]
  rw [e]; exact h
theorem newest_take {l out : List Ent} {least : Int} {k : Nat} {x : Ent} (h : out ++ newestGo least (backP l k) (l.drop k) = newestGo least none l) (hx : l[k]? = some x) (c : hidB (backP l k) least x = false) : (out ++ [x]) ++ newestGo least (backP l (k + 1)) (l.drop (k + 1)) = newestGo least none l := by
  rw [drop_at hx, newestGo, if_neg (by rw [c]; simp)] at h
  have e : backP l (k + 1) = some x := by simp [backP, hx]
  rw [e, List.append_assoc]; exact h
theorem newest_end {l out : List Ent} {least : Int} {p : Option Ent} (h : out ++ newestGo least p (l.drop l.length) = newestGo least none l) : out = newestGo least none l := by
  rw [List.drop_length, newestGo, List.append_nil] at h; exact h
end Go.Scree
