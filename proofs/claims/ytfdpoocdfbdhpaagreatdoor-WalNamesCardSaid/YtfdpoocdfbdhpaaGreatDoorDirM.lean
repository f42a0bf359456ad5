/- Names in order, each with what it names: in plain Lean. -/
import Derived.Test.YtfdpoocdfbdhpaaGreatDoorEntM
set_option linter.all false
namespace Go.Scree

abbrev Dir (α : Type) := List (ByteArray × α)
section
variable {α : Type}
def dget : Dir α → ByteArray → Option α
  | [], _ => none
  | p :: d, k => if eqK p.1 k = true then some p.2 else dget d k
def dput : Dir α → ByteArray → α → Dir α
  | [], k, v => [(k, v)]
  | p :: d, k, v => if ltK p.1 k = true then p :: dput d k v else if eqK p.1 k = true then (k, v) :: d else (k, v) :: p :: d
def ddel : Dir α → ByteArray → Dir α
  | [], _ => []
  | p :: d, k => if eqK p.1 k = true then d else p :: ddel d k
/-- Names rise. -/
def DirOk (d : Dir α) : Prop := d.Pairwise fun p q => ltK p.1 q.1 = true

theorem eqK_self (k : ByteArray) : eqK k k = true := eqK_iff.2 rfl
theorem dget_put_same (d : Dir α) (k : ByteArray) (v : α) : dget (dput d k v) k = some v := by
  induction d with
  | nil => simp [dput, dget, eqK_self]
  | cons p d ih =>
    unfold dput
    split
    · rename_i h
      have : eqK p.1 k = false := eqK_false.2 (by rintro e; rw [e, ltK_irrefl] at h; cases h)
      simp [dget, this, ih]
    · split <;> simp [dget, eqK_self]
theorem dget_put_other (d : Dir α) {k q : ByteArray} (v : α) (h : q ≠ k) : dget (dput d k v) q = dget d q := by
  have hk : eqK k q = false := eqK_false.2 (Ne.symm h)
  induction d with
  | nil => simp [dput, dget, hk]
  | cons p d ih =>
    unfold dput
    split
    · simp only [dget, ih]
    · split
      · rename_i h2
        have : eqK p.1 q = false := by rw [eqK_iff.1 h2]; exact hk
        simp [dget, hk, this]
      · simp [dget, hk]
theorem dget_none {d : Dir α} {k : ByteArray} (h : ∀ p ∈ d, p.1 ≠ k) : dget d k = none := by
  induction d with
  | nil => rfl
  | cons p d ih =>
    simp only [dget, eqK_false.2 (h p (List.mem_cons_self ..))]
    exact ih fun q hq => h q (List.mem_cons_of_mem _ hq)
theorem DirOk.above {p : ByteArray × α} {d : Dir α} (h : DirOk (p :: d)) : ∀ q ∈ d, q.1 ≠ p.1 := by
  intro q hq e
  have := (List.pairwise_cons.1 h).1 q hq
  rw [e, ltK_irrefl] at this; cases this
theorem dget_del_same {d : Dir α} (h : DirOk d) (k : ByteArray) : dget (ddel d k) k = none := by
  induction d with
  | nil => rfl
  | cons p d ih =>
    unfold ddel
    split
    · rename_i h2
      have e := eqK_iff.1 h2
      exact dget_none fun q hq => by rw [← e]; exact h.above q hq
    · rename_i h2
      simp only [dget, if_neg h2]
      exact ih (List.pairwise_cons.1 h).2
theorem dget_del_other (d : Dir α) {k q : ByteArray} (h : q ≠ k) : dget (ddel d k) q = dget d q := by
  induction d with
  | nil => rfl
  | cons p d ih =>
    unfold ddel
    split
    · rename_i h2
      have : eqK p.1 q = false := by rw [eqK_iff.1 h2]; exact eqK_false.2 (Ne.symm h)
      simp [dget, this]
    · simp only [dget, ih]
theorem dput_mem {d : Dir α} {k : ByteArray} {v : α} {q : ByteArray × α} (h : q ∈ dput d k v) : q = (k, v) ∨ q ∈ d := by
  induction d with
  | nil => simp only [dput, List.mem_singleton] at h; exact .inl h
  | cons p d ih =>
    unfold dput at h
    split at h
    · rcases List.mem_cons.1 h with h | h
      · exact .inr (by rw [h]; exact List.mem_cons_self ..)
      · exact (ih h).imp id (List.mem_cons_of_mem _)
    · split at h
      · rcases List.mem_cons.1 h with h | h
        · exact .inl h
        · exact .inr (List.mem_cons_of_mem _ h)
      · rcases List.mem_cons.1 h with h | h
        · exact .inl h
        · exact .inr h
theorem DirOk.put {d : Dir α} (h : DirOk d) (k : ByteArray) (v : α) : DirOk (dput d k v) := by
  induction d with
  | nil => exact List.pairwise_singleton _ _
  | cons p d ih =>
    have hp := List.pairwise_cons.1 h
    unfold dput
    split
    · rename_i h2
      refine List.pairwise_cons.2 ⟨fun q hq => ?_, ih hp.2⟩
      rcases dput_mem hq with rfl | hq
      · exact h2
      · exact hp.1 q hq
    · rename_i h2
      split
      · rename_i h3
        have e := eqK_iff.1 h3
        exact List.pairwise_cons.2 ⟨fun q hq => by show ltK k q.1 = true; rw [← e]; exact hp.1 q hq, hp.2⟩
      · rename_i h3
        have hkp : ltK k p.1 = true := by
          rcases ltK_tri p.1 k with q | q | q
          · exact absurd q h2
          · exact absurd (eqK_iff.2 q) h3
          · exact q
        exact List.pairwise_cons.2 ⟨fun q hq => (List.mem_cons.1 hq).elim (fun e => by rw [e]; exact hkp) (fun hq => ltK_trans hkp (hp.1 q hq)), h⟩
theorem ddel_sub (d : Dir α) (k : ByteArray) : (ddel d k).Sublist d := by
  induction d with
  | nil => exact List.Sublist.refl _
  | cons p d ih =>
    unfold ddel
    split
    · exact List.sublist_cons_self _ _
    · exact ih.cons_cons p
theorem DirOk.del {d : Dir α} (h : DirOk d) (k : ByteArray) : DirOk (ddel d k) := h.sublist (ddel_sub d k)
theorem dget_mem {d : Dir α} (h : DirOk d) (k : ByteArray) (v : α) : dget d k = some v ↔ (k, v) ∈ d := by
  induction d with
  | nil => simp [dget]
  | cons p d ih =>
    simp only [dget]
    split
    · rename_i h2
      have e := eqK_iff.1 h2
      constructor
      · intro h3
        obtain rfl := Option.some.inj h3
        rw [← e]; exact List.mem_cons_self ..
      · intro h3
        rcases List.mem_cons.1 h3 with h3 | h3
        · rw [← h3]
        · exact absurd e.symm (h.above _ h3)
    · rename_i h2
      rw [ih (List.pairwise_cons.1 h).2]
      constructor
      · exact List.mem_cons_of_mem _
      · intro h3
        rcases List.mem_cons.1 h3 with h3 | h3
        · exact absurd (by rw [← h3]; exact eqK_self k) h2
        · exact h3
/-- Two that tell the same are the same. -/
theorem dir_ext : ∀ {d e : Dir α}, DirOk d → DirOk e → (∀ k, dget d k = dget e k) → d = e
  | [], [], _, _, _ => rfl
  | [], q :: e, _, _, h => by have := h q.1; simp [dget, eqK_self] at this
  | p :: d, [], _, _, h => by have := h p.1; simp [dget, eqK_self] at this
  | p :: d, q :: e, hd, he, h => by
    have hd' := List.pairwise_cons.1 hd
    have he' := List.pairwise_cons.1 he
    have h1 : (p.1, p.2) ∈ q :: e := (dget_mem he _ _).1 (by rw [← h]; simp [dget, eqK_self])
    have h2 : (q.1, q.2) ∈ p :: d := (dget_mem hd _ _).1 (by rw [h]; simp [dget, eqK_self])
    have hpq : p = q := by
      rcases List.mem_cons.1 h1 with h1 | h1
      · exact h1
      · rcases List.mem_cons.1 h2 with h2 | h2
        · exact h2.symm
        · have a := he'.1 _ h1
          have b := hd'.1 _ h2
          have := ltK_trans a b
          rw [ltK_irrefl] at this; cases this
    subst hpq
    congr 1
    refine dir_ext hd'.2 he'.2 fun k => ?_
    by_cases e1 : eqK p.1 k = true
    · have e2 := eqK_iff.1 e1
      rw [dget_none fun q hq => by rw [← e2]; exact hd.above q hq, dget_none fun q hq => by rw [← e2]; exact he.above q hq]
    · have := h k
      simpa [dget, e1] using this
end
end Go.Scree
