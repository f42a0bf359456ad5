/- Blocks of memory owned piece by piece: assertions on parts of the heap, and what each step of a run does to them. -/
import Derived.WalkKit
import Derived.KernelRfl
import Derived.Deep.Draws
set_option linter.all false
namespace Go.Sl

/-- A fact kept from the walk. -/
theorem hid {p : Prop} (h : p) : Go.RowKit.Hid p := h
theorem add_zero' (a : Addr) : a.add 0 = a := rfl
theorem bool_cases (b : Bool) : b = true ∨ b = false := by cases b <;> simp

abbrev Frag := Nat → Option Obj
abbrev Chunk := Frag → Prop

/-- The fragment holds all chunks of the list side by side, and nothing else. -/
def Sat : List Chunk → Frag → Prop
  | [], h => ∀ b, h b = none
  | c :: cs, h => ∃ h1 h2, c h1 ∧ Sat cs h2 ∧ (∀ b, h1 b = none ∨ h2 b = none) ∧ ∀ b, h b = (h1 b).or (h2 b)

/-- The world has, somewhere, all chunks of the list side by side. -/
def Own (w : World) (cs : List Chunk) : Prop := ∃ h, Sat cs h ∧ ∀ b o, h b = some o → w.heap[b]? = some o

def pts (b : Nat) (o : Obj) : Chunk := fun h => ∀ k, h k = if k = b then some o else none
def star (c d : Chunk) : Chunk := Sat [c, d]
def stars (cs : List Chunk) : Chunk := Sat cs
def ex {α : Type} (p : α → Chunk) : Chunk := fun h => ∃ x, p x h
def fact (p : Prop) (c : Chunk) : Chunk := fun h => p ∧ c h
def emp : Chunk := Sat []
/-- All blocks below a number, as a world has them. -/
def base (W : World) (n : Nat) : Chunk := fun h => ∀ k, h k = if k < n then W.heap[k]? else none

theorem frag_ext {h h' : Frag} (e : ∀ b, h b = h' b) : h = h' := funext e

theorem sat_swap {a b : Chunk} {cs : List Chunk} {h : Frag} (s : Sat (a :: b :: cs) h) : Sat (b :: a :: cs) h := by
  obtain ⟨h1, h2, ca, ⟨h3, h4, cb, r, d1, e1⟩, d2, e2⟩ := s
  refine ⟨h3, fun k => (h1 k).or (h4 k), cb, ⟨h1, h4, ca, r, ?_, fun _ => rfl⟩, ?_, ?_⟩
  · intro k
    rcases d2 k with h | h
    · exact .inl h
    · rw [e1] at h
      cases h3k : h3 k <;> simp_all
  · intro k
    rcases d1 k with h | h
    · exact .inl h
    · rcases d2 k with h' | h'
      · simp [h, h']
      · rw [e1] at h'; cases h3k : h3 k <;> simp_all
  · intro k
    rw [e2, e1]
    rcases d2 k with h | h
    · simp [h]
    · rw [e1] at h
      cases h3k : h3 k <;> simp_all

theorem sat_cons {a : Chunk} {cs ds : List Chunk} (i : ∀ h, Sat cs h → Sat ds h) : ∀ h, Sat (a :: cs) h → Sat (a :: ds) h := by
  rintro h ⟨h1, h2, ca, r, d, e⟩
  exact ⟨h1, h2, ca, i _ r, d, e⟩

theorem sat_head {a b : Chunk} {cs : List Chunk} (i : ∀ h, a h → b h) : ∀ h, Sat (a :: cs) h → Sat (b :: cs) h := by
  rintro h ⟨h1, h2, ca, r, d, e⟩
  exact ⟨h1, h2, i _ ca, r, d, e⟩

theorem sat_perm {cs ds : List Chunk} (p : cs.Perm ds) : ∀ h, Sat cs h → Sat ds h := by
  induction p with
  | nil => exact fun _ s => s
  | cons a _ ih => exact sat_cons ih
  | swap a b l => exact fun _ s => sat_swap s
  | trans _ _ ih1 ih2 => exact fun h s => ih2 h (ih1 h s)

theorem sat_append {cs ds : List Chunk} {h : Frag} : Sat (cs ++ ds) h ↔ ∃ h1 h2, Sat cs h1 ∧ Sat ds h2 ∧ (∀ b, h1 b = none ∨ h2 b = none) ∧ ∀ b, h b = (h1 b).or (h2 b) := by
  induction cs generalizing h with
  | nil =>
    constructor
    · intro s
      exact ⟨fun _ => none, h, fun _ => rfl, s, fun _ => .inl rfl, fun _ => rfl⟩
    · rintro ⟨h1, h2, e, s, _, e2⟩
      have : h = h2 := frag_ext fun b => by rw [e2, e]; rfl
      rw [this]; exact s
  | cons c cs ih =>
    constructor
    · rintro ⟨h1, h2, hc, s, d, e⟩
      obtain ⟨h3, h4, s3, s4, d2, e2⟩ := ih.1 s
      refine ⟨fun k => (h1 k).or (h3 k), h4, ⟨h1, h3, hc, s3, ?_, fun _ => rfl⟩, s4, ?_, ?_⟩
      · intro k
        rcases d k with h | h
        · exact .inl h
        · rw [e2] at h; cases h3k : h3 k <;> simp_all
      · intro k
        rcases d2 k with h | h
        · rcases d k with h' | h'
          · simp [h, h']
          · rw [e2] at h'; cases h3k : h3 k <;> simp_all
        · exact .inr h
      · intro k
        rw [e, e2, Option.or_assoc]
    · rintro ⟨h1, h2, ⟨h3, h4, hc, s, d1, e1⟩, s2, d2, e2⟩
      refine ⟨h3, fun k => (h4 k).or (h2 k), hc, ih.2 ⟨h4, h2, s, s2, ?_, fun _ => rfl⟩, ?_, ?_⟩
      · intro k
        rcases d2 k with h | h
        · rw [e1] at h; cases h3k : h3 k <;> simp_all
        · exact .inr h
      · intro k
        rcases d1 k with h | h
        · exact .inl h
        · rcases d2 k with h' | h'
          · rw [e1] at h'; cases h3k : h3 k <;> simp_all
          · simp [h, h']
      · intro k
        rw [e2, e1, Option.or_assoc]

theorem sat_stars {cs ds : List Chunk} {h : Frag} : Sat (stars cs :: ds) h ↔ Sat (cs ++ ds) h := sat_append.symm

section
variable {w : World} {cs ds : List Chunk} {a b : Chunk}

theorem Own.imp (i : ∀ h, Sat cs h → Sat ds h) (o : Own w cs) : Own w ds := let ⟨h, s, e⟩ := o; ⟨h, i h s, e⟩
theorem Own.perm (p : cs.Perm ds) (o : Own w cs) : Own w ds := o.imp (sat_perm p)
theorem Own.head (i : ∀ h, a h → b h) (o : Own w (a :: cs)) : Own w (b :: cs) := o.imp (sat_head i)
theorem Own.swap (o : Own w (a :: b :: cs)) : Own w (b :: a :: cs) := o.imp fun _ => sat_swap
theorem Own.drop (o : Own w (a :: cs)) : Own w cs := by
  obtain ⟨h, ⟨h1, h2, _, s, d, e⟩, g⟩ := o
  refine ⟨h2, s, fun k x hx => g k x ?_⟩
  rw [e]
  rcases d k with h | h
  · simp [h, hx]
  · rw [h] at hx; cases hx
theorem Own.stars (o : Own w (stars cs :: ds)) : Own w (cs ++ ds) := o.imp fun _ => sat_stars.1
theorem Own.unstars (o : Own w (cs ++ ds)) : Own w (Sl.stars cs :: ds) := o.imp fun _ => sat_stars.2
theorem Own.open {α : Type} {p : α → Chunk} (o : Own w (ex p :: cs)) : ∃ x, Own w (p x :: cs) := by
  obtain ⟨h, ⟨h1, h2, ⟨x, hx⟩, r⟩, g⟩ := o
  exact ⟨x, h, ⟨h1, h2, hx, r⟩, g⟩
theorem Own.close {α : Type} {p : α → Chunk} (x : α) (o : Own w (p x :: cs)) : Own w (ex p :: cs) := o.head fun _ h => ⟨x, h⟩
theorem Own.fact {p : Prop} (o : Own w (fact p a :: cs)) : p ∧ Own w (a :: cs) := by
  obtain ⟨h, ⟨h1, h2, ⟨x, hx⟩, r⟩, g⟩ := o
  exact ⟨x, h, ⟨h1, h2, hx, r⟩, g⟩
theorem Own.pure {p : Prop} (x : p) (o : Own w (a :: cs)) : Own w (Sl.fact p a :: cs) := o.head fun _ h => ⟨x, h⟩
theorem Own.nil (w : World) : Own w [] := ⟨fun _ => none, fun _ => rfl, fun _ _ h => by cases h⟩

theorem pick_perm : ∀ (cs : List Chunk) (i : Nat) (c : Chunk), cs[i]? = some c → cs.Perm (c :: cs.eraseIdx i)
  | [], i, c, h => by simp at h
  | a :: cs, 0, c, h => by
    obtain rfl : a = c := by simpa using h
    exact List.Perm.refl _
  | a :: cs, i + 1, c, h => by
    have := pick_perm cs i c (by simpa using h)
    exact (this.cons a).trans (List.Perm.swap c a _)
/-- The i-th chunk to the head. -/
theorem Own.pick (i : Nat) {c : Chunk} {ds : List Chunk} (o : Own w cs) (h : cs[i]? = some c := by rfl) (e : cs.eraseIdx i = ds := by rfl) : Own w (c :: ds) := by
  subst e; exact o.perm (pick_perm cs i c h)

/-- A chunk behind a list of others, brought to the head. -/
theorem Own.up (l : List Chunk) (o : Own w (l ++ a :: cs)) : Own w (a :: (l ++ cs)) := o.perm List.perm_middle
theorem Own.back (l : List Chunk) (o : Own w (a :: (l ++ cs))) : Own w (l ++ a :: cs) := o.perm List.perm_middle.symm

theorem Own.exch (l m : List Chunk) {F : List Chunk} (o : Own w (l ++ (m ++ F))) : Own w (m ++ (l ++ F)) := by
  refine o.perm ?_
  rw [← List.append_assoc, ← List.append_assoc]
  exact List.perm_append_comm.append_right F

theorem Own.sub (hs : ds.Sublist cs) (o : Own w cs) : Own w ds := by
  obtain ⟨h, s, g⟩ := o
  suffices ∃ h', Sat ds h' ∧ ∀ b o, h' b = some o → h b = some o from let ⟨h', s', k⟩ := this; ⟨h', s', fun b o e => g b o (k b o e)⟩
  clear g
  induction hs generalizing h with
  | slnil => exact ⟨h, s, fun _ _ e => e⟩
  | cons a _ ih =>
    obtain ⟨h1, h2, _, s2, d, e⟩ := s
    obtain ⟨h', s', k⟩ := ih h2 s2
    refine ⟨h', s', fun b o x => ?_⟩
    have := k b o x
    rw [e]; rcases d b with h | h
    · simp [h, this]
    · rw [h] at this; cases this
  | cons_cons a _ ih =>
    obtain ⟨h1, h2, c, s2, d, e⟩ := s
    obtain ⟨h', s', k⟩ := ih h2 s2
    refine ⟨fun b => (h1 b).or (h' b), ⟨h1, h', c, s', fun b => ?_, fun _ => rfl⟩, fun b o x => ?_⟩
    · rcases d b with h | h
      · exact .inl h
      · refine .inr ?_
        cases hx : h' b with
        | none => rfl
        | some y => rw [k b y hx] at h; cases h
    · rw [e]
      rcases d b with h | h
      · simp only [h, Option.none_or] at x ⊢; exact k b o x
      · cases h1b : h1 b with
        | some y => simpa [h1b] using x
        | none => simp only [h1b, Option.none_or] at x ⊢; exact k b o x

theorem Own.get {n : Nat} {o : Obj} (h : Own w (pts n o :: cs)) : w.heap[n]? = some o := by
  obtain ⟨f, ⟨h1, h2, p, _, _, e⟩, g⟩ := h
  exact g n o (by rw [e, p]; simp)
theorem Own.lt {n : Nat} {o : Obj} (h : Own w (pts n o :: cs)) : n < w.heap.size := (Array.getElem?_eq_some_iff.1 h.get).1
theorem Own.ne {n m : Nat} {o p : Obj} (h : Own w (pts n o :: pts m p :: cs)) : n ≠ m := by
  obtain ⟨f, ⟨h1, h2, c1, ⟨h3, h4, c3, _, _, e2⟩, d, e⟩, g⟩ := h
  rintro rfl
  rcases d n with h | h
  · rw [c1] at h; simp at h
  · rw [e2, c3] at h; simp at h

theorem Own.cell {n i : Nat} {c : Array Value} {t : TypeId} {fr : Nat × Nat} {v : Value} (h : Own w (pts n (.cells c t fr) :: cs)) (hv : c[i]? = some v) : w.cell? ⟨n, i, none⟩ = some v := by simp [World.cell?, h.get, hv]
theorem Own.free {n : Nat} {c : Array Value} {t : TypeId} (h : Own w (pts n (.cells c t (0, 0)) :: cs)) (i : Nat) : w.frozen? ⟨n, i, none⟩ = false := by simp [World.frozen?, h.get]

/-- What is read off a base. -/
theorem Own.below {W : World} {n k : Nat} (h : Own w (Sl.base W n :: cs)) (hn : n ≤ W.heap.size) (hk : k < n) : w.heap[k]? = W.heap[k]? := by
  obtain ⟨f, ⟨h1, h2, p, _, _, e⟩, g⟩ := h
  have hW : W.heap[k]? = some (W.heap[k]'(by omega)) := Array.getElem?_eq_getElem (by omega)
  rw [hW]
  exact g k _ (by rw [e, p, if_pos hk, hW]; rfl)
theorem Own.start (W : World) : Own W [Sl.base W W.heap.size] := by
  refine ⟨fun k => if k < W.heap.size then W.heap[k]? else none, ⟨_, fun _ => none, fun _ => rfl, fun _ => rfl, fun _ => .inr rfl, fun _ => by simp⟩, fun b o h => ?_⟩
  dsimp only at h
  split at h
  · exact h
  · cases h

/-- A new block. -/
theorem Own.alloc (o : Own w cs) (x : Obj) : Own (w.alloc x) (pts w.heap.size x :: cs) := by
  obtain ⟨h, s, g⟩ := o
  have hn : ∀ k, w.heap.size ≤ k → h k = none := fun k hk => by
    cases hx : h k with
    | none => rfl
    | some y => have := g k y hx; rw [Array.getElem?_eq_none hk] at this; cases this
  refine ⟨fun k => if k = w.heap.size then some x else h k, ⟨fun k => if k = w.heap.size then some x else none, h, fun _ => rfl, s, fun k => ?_, fun k => ?_⟩, fun k y hy => ?_⟩
  · by_cases e : k = w.heap.size
    · subst e; exact .inr (hn _ (Nat.le_refl _))
    · simp [e]
  · by_cases e : k = w.heap.size <;> simp [e]
  · show (w.heap.push x)[k]? = _
    rw [Array.getElem?_push]
    dsimp only at hy
    split
    · rename_i e; subst e; simpa using hy
    · rename_i e; rw [if_neg e] at hy; exact g k y hy
theorem Own.allocd (o : Own w cs) {x : Obj} : Own (w.alloc x) cs := (o.alloc x).drop
/-- Anything that turns one block alone. -/
theorem Own.turn {n : Nat} {x y : Obj} {w' : World} (o : Own w (pts n x :: cs)) (hn : w'.heap[n]? = some y) (hr : ∀ k, k < w.heap.size → k ≠ n → w'.heap[k]? = w.heap[k]?) : Own w' (pts n y :: cs) := by
  obtain ⟨h, ⟨h1, h2, p, s, d, e⟩, g⟩ := o
  have h2n : h2 n = none := by
    rcases d n with h | h
    · rw [p] at h; simp at h
    · exact h
  refine ⟨fun k => if k = n then some y else h2 k, ⟨fun k => if k = n then some y else none, h2, fun _ => rfl, s, fun k => ?_, fun k => ?_⟩, fun k z hz => ?_⟩
  · by_cases e : k = n
    · subst e; exact .inr h2n
    · simp [e]
  · by_cases e : k = n <;> simp [e]
  · dsimp only at hz
    by_cases ek : k = n
    · subst ek; rw [if_pos rfl] at hz; rw [hn]; exact hz
    · rw [if_neg ek] at hz
      have hk : w.heap[k]? = some z := g k z (by rw [e, p, if_neg ek]; simpa using hz)
      rw [hr k (Array.getElem?_eq_some_iff.1 hk).1 ek]; exact hk
theorem Own.set {n i : Nat} {c : Array Value} {t : TypeId} {fr : Nat × Nat} (o : Own w (pts n (.cells c t fr) :: cs)) (v : Value) : Own (w.setCell ⟨n, i, none⟩ v) (pts n (.cells (c.setIfInBounds i v) t fr) :: cs) := by
  have hn := o.get
  refine o.turn ?_ (fun k _ hk => Go.RowKit.Below.heap_setCell _ _ _ _ hk)
  have hlt := (Array.getElem?_eq_some_iff.1 hn).1
  show (w.heap.modify n _)[n]? = _
  rw [Array.getElem?_modify, if_pos rfl, hn]
  rfl
/-- What turns no block that is owned. -/
theorem Own.same {w' : World} (o : Own w cs) (h : ∀ k, k < w.heap.size → w'.heap[k]? = w.heap[k]?) : Own w' cs := by
  obtain ⟨f, s, g⟩ := o
  refine ⟨f, s, fun b x hx => ?_⟩
  have := g b x hx
  rw [h b (Array.getElem?_eq_some_iff.1 this).1]; exact this
theorem Own.drew (o : Own w cs) : Own w.drew cs := o.same fun _ _ => rfl
theorem Own.drewN (o : Own w cs) (n : Nat) : Own (w.drewN n) cs := o.same fun _ _ => rfl
end

/-- Blocks are added, the streams stay. -/
structure Ext (w w' : World) : Prop where
  os : w'.os = w.os
  tape : w'.tape = w.tape
  output : w'.output = w.output
  size : w.heap.size ≤ w'.heap.size
theorem Ext.refl (w : World) : Ext w w := ⟨rfl, rfl, rfl, Nat.le_refl _⟩
theorem Ext.trans {a b c : World} (h : Ext a b) (k : Ext b c) : Ext a c := ⟨k.os.trans h.os, k.tape.trans h.tape, k.output.trans h.output, Nat.le_trans h.size k.size⟩
theorem Ext.alloc {a w : World} (h : Ext a w) (o : Obj) : Ext a (w.alloc o) := h.trans ⟨rfl, rfl, rfl, by simp⟩
theorem Ext.set {a w : World} (h : Ext a w) (p : Addr) (v : Value) : Ext a (w.setCell p v) := h.trans ⟨rfl, rfl, rfl, by simp [World.setCell]⟩
theorem Ext.drew {a w : World} (h : Ext a w) : Ext a w.drew := h.trans ⟨rfl, rfl, rfl, Nat.le_refl _⟩

theorem Ext.drewN {a w : World} (h : Ext a w) (n : Nat) : Ext a (w.drewN n) := h.trans ⟨rfl, rfl, rfl, Nat.le_refl _⟩

/-- At the end of a law: what was there is there. -/
theorem below_of_own {W w : World} {cs : List Chunk} (o : Own w (base W W.heap.size :: cs)) (e : Ext W w) : Go.RowKit.Below W.heap.size W w :=
  ⟨e.os, e.tape, e.output, e.size, fun _ hk => o.below (Nat.le_refl _) hk⟩

end Go.Sl
