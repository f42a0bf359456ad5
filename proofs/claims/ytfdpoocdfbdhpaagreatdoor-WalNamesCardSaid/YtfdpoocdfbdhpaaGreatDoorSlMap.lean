/- A map that the call has made, beside other chunks. -/
import Derived.Test.YtfdpoocdfbdhpaaGreatDoorSlc
import Derived.Maps.RangeWalk
set_option linter.all false
namespace Go.Sl
open Go.RowKit Go.MapKept
open Go.WideElems (Fit rd rg pl)
open Go.Maps (Keyed)

section
variable {H : Type} {P : Program} {k : TypeId} {R : Value → Option (DataW H × List MemPlace)} {w w' : World} {b n : Nat} {D : DataW H} {es : Array MapEntry} {clk : Nat} {F : List Chunk}

/-- These entries read as the datum D. -/
def MapIs (P : Program) (k : TypeId) (R : Value → Option (DataW H × List MemPlace)) (es : Array MapEntry) (clk n : Nat) (D : DataW H) : Prop :=
  Fit P k R es clk ∧ es.size ≤ n ∧ D = .map ((es.toList.map (rg P k R)).foldr DataW.insert [])

theorem own_map (o : Own w (pts b (.map es clk) :: F)) (m : MapIs P k R es clk n D) : w.ownsMap P k R b n D := ⟨es, clk, o.get, m.1, m.2.1, m.2.2⟩
theorem ext_grown {row : Option Nat} (g : w.grownBy w' row) : Ext w w' := ⟨g.os, g.tape, g.output, g.size⟩
theorem map_turn (o : Own w (pts b (.map es clk) :: F)) {n' : Nat} {D' : DataW H} (h : w'.ownsMap P k R b n' D') (g : w.grownBy w' (some b)) : ∃ es' clk', MapIs P k R es' clk' n' D' ∧ Own w' (pts b (.map es' clk') :: F) := by
  obtain ⟨es', clk', hb, h1, h2, h3⟩ := h
  exact ⟨es', clk', ⟨h1, h2, h3⟩, o.turn hb (fun j hj hne => g.block j hj (fun e => hne (Option.some.inj e)))⟩
theorem map_made (o : Own w F) : MapIs P k R #[] 0 0 (.map []) ∧ Own (w.alloc (.map #[] 0)) (pts w.heap.size (.map #[] 0) :: F) := by
  obtain ⟨es, clk, hb, h1, h2, h3⟩ := World.ownsMap_made w P k R
  have o2 := o.alloc (.map #[] 0)
  have hg := o2.get
  rw [hg] at hb
  cases hb
  exact ⟨⟨h1, h2, h3⟩, o2⟩
/-- A new block behind all others. -/
theorem Own.grow (o : Own w F) {x : Obj} (hx : w'.heap[w.heap.size]? = some x) (hk : ∀ j, j < w.heap.size → w'.heap[j]? = w.heap[j]?) (hs : w'.heap.size = w.heap.size + 1) : Own w' (pts w.heap.size x :: F) := by
  have o2 := o.alloc x
  have e : w'.heap = (w.alloc x).heap := by
    apply Array.ext_getElem?
    intro j
    rcases Nat.lt_trichotomy j w.heap.size with h | rfl | h
    · rw [hk j h]; exact ((MapKept.heap_alloc w x).2 j h).symm
    · rw [hx]; exact (MapKept.heap_alloc w x).1.symm
    · rw [Array.getElem?_eq_none (by omega), Array.getElem?_eq_none (by simp; omega)]
  obtain ⟨h, s, g⟩ := o2
  exact ⟨h, s, fun j y hy => by rw [e]; exact g j y hy⟩
theorem ranges_same {r cnt : Nat} {left : Lit → Bool} (h : w.ranges P k R b r n D left cnt) (hb : w'.heap[b]? = w.heap[b]?) (hr : w'.heap[r]? = w.heap[r]?) : w'.ranges P k R b r n D left cnt := by
  obtain ⟨es, clock, since, seen, c0, h1, h2, h3, h4, h5, h6⟩ := h
  exact ⟨es, clock, since, seen, c0, hb.trans h1, h2, h3, h4, hr.trans h5, h6⟩
end
end Go.Sl
