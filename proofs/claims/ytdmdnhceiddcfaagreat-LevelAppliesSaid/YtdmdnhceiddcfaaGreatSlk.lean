/- Worlds in which all older blocks are as they were: what a function that writes into new memory alone leaves behind. -/
import Derived.Test.YtdmdnhceiddcfaaGreatSlc
set_option linter.all false
namespace Go.Sl
open Go.RowKit

/-- All blocks of w are in w' as they were. -/
structure Kp (w w' : World) : Prop where
  ext : Ext w w'
  same : ∀ k, k < w.heap.size → w'.heap[k]? = w.heap[k]?

section
variable {a w w' : World} {F cs : List Chunk}
theorem Kp.refl (w : World) : Kp w w := ⟨Ext.refl _, fun _ _ => rfl⟩
theorem Kp.trans {a b c : World} (h : Kp a b) (k : Kp b c) : Kp a c := ⟨h.ext.trans k.ext, fun i hi => (k.same i (Nat.lt_of_lt_of_le hi h.ext.size)).trans (h.same i hi)⟩
theorem Kp.alloc (h : Kp a w) (o : Obj) : Kp a (w.alloc o) := ⟨h.ext.alloc o, fun i hi => by
  have : i < w.heap.size := Nat.lt_of_lt_of_le hi h.ext.size
  rw [← h.same i hi]
  show (w.heap.push o)[i]? = _
  rw [Array.getElem?_push, if_neg (by omega)]⟩
theorem Kp.drew (h : Kp a w) : Kp a w.drew := ⟨h.ext.drew, h.same⟩
theorem Kp.drewN (h : Kp a w) (n : Nat) : Kp a (w.drewN n) := ⟨h.ext.drewN n, h.same⟩
theorem Kp.set (h : Kp a w) {b : Nat} (hb : a.heap.size ≤ b) (i : Nat) (v : Value) : Kp a (w.setCell ⟨b, i, none⟩ v) :=
  ⟨h.ext.set _ _, fun k hk => by rw [Go.RowKit.Below.heap_setCell _ _ _ _ (by show k ≠ b; omega)]; exact h.same k hk⟩
theorem Kp.own (k : Kp w w') (o : Own w F) : Own w' F := o.same k.same
theorem Kp.lt (k : Kp w w') {n : Nat} (h : n < w.heap.size) : n < w'.heap.size := Nat.lt_of_lt_of_le h k.ext.size
theorem Kp.cell (k : Kp w w') {p : Addr} {v : Value} (h : w.cell? p = some v) : w'.cell? p = some v := by
  have hb : p.block < w.heap.size := World.block_lt_of_cell? w _ h
  rw [World.cell?_of_block (w := w) (a := p) (k.same _ hb)]; exact h
theorem Kp.free (k : Kp w w') {p : Addr} (hb : p.block < w.heap.size) (h : w.frozen? p = false) : w'.frozen? p = false := by
  unfold World.frozen? at h ⊢
  rw [k.same _ hb]; exact h
theorem Kp.rd {α : Type} {E : Enc α} {v : Value} {xs : List α} (k : Kp w w') (h : Rd w E v xs) : Rd w' E v xs := by
  rcases h with h | ⟨g, off, cap, hv, h1, h2, hc⟩
  · exact .inl h
  · exact .inr ⟨g, off, cap, hv, h1, h2, fun i x hx j u hu => k.cell (hc i x hx j u hu)⟩
theorem Kp.base (k : Kp w w') : Own w' [Sl.base w w.heap.size] := k.own (Own.start w)
/-- What is owned beside all of an older world keeps it. -/
theorem kp_of (o : Own w' (cs ++ [Sl.base w w.heap.size])) (e : Ext w w') : Kp w w' :=
  ⟨e, fun k hk => (o.up cs (cs := [])).below (Nat.le_refl _) hk⟩
theorem kp_of0 (o : Own w' [Sl.base w w.heap.size]) (e : Ext w w') : Kp w w' := kp_of (cs := []) o e
theorem kp_of1 {c : Chunk} (o : Own w' [c, Sl.base w w.heap.size]) (e : Ext w w') : Kp w w' := kp_of (cs := [c]) o e
/-- ... and stands beside whatever was owned there. -/
theorem rebase (o : Own w' (cs ++ [Sl.base w w.heap.size])) (oF : Own w F) : Own w' (cs ++ F) := by
  obtain ⟨h, s, g⟩ := o
  obtain ⟨f, sF, gF⟩ := oF
  obtain ⟨h1, h2, s1, s2, d, e⟩ := sat_append.1 s
  obtain ⟨h3, h4, hb, hn, d2, e2⟩ := s2
  have hf : ∀ b o, f b = some o → h2 b = some o := by
    intro b o hx
    have hw := gF b o hx
    have hlt := (Array.getElem?_eq_some_iff.1 hw).1
    rw [e2, hb, if_pos hlt, hw]; rfl
  refine ⟨fun b => (h1 b).or (f b), sat_append.2 ⟨h1, f, s1, sF, fun b => ?_, fun _ => rfl⟩, fun b x hx => ?_⟩
  · rcases d b with q | q
    · exact .inl q
    · refine .inr ?_
      cases hx : f b with
      | none => rfl
      | some y => rw [hf b y hx] at q; cases q
  · apply g
    rw [e]
    rcases d b with q | q
    · simp only [q, Option.none_or] at hx ⊢; exact hf b x hx
    · cases hy : h1 b with
      | some y => simpa [hy] using hx
      | none => simp only [hy, Option.none_or] at hx ⊢; exact hf b x hx
theorem rebase1 {c : Chunk} (o : Own w' [c, Sl.base w w.heap.size]) (oF : Own w F) : Own w' (c :: F) := rebase (cs := [c]) o oF
end
end Go.Sl
