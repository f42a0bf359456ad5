/- Names in order: lengths, members, sums, and what they name turned. -/
import Derived.Test.YtfdpoocdfbdhpaaGreatDoorDirM
set_option linter.all false
namespace Go.Scree
section
variable {α β : Type}
theorem dget_in {d : Dir α} {k : ByteArray} {v : α} (h : dget d k = some v) : (k, v) ∈ d := by
  induction d with
  | nil => simp [dget] at h
  | cons p d ih =>
    simp only [dget] at h
    split at h
    · rename_i e
      have e := eqK_iff.1 e
      obtain rfl := Option.some.inj h
      rw [← e]; exact List.mem_cons_self ..
    · exact List.mem_cons_of_mem _ (ih h)
theorem ddel_mem {d : Dir α} (h : DirOk d) {k : ByteArray} {q : ByteArray × α} (hq : q ∈ ddel d k) : q ∈ d ∧ q.1 ≠ k := by
  refine ⟨(ddel_sub d k).subset hq, fun e => ?_⟩
  have h1 := (dget_mem (h.del k) q.1 q.2).2 hq
  rw [e, dget_del_same h] at h1; cases h1
theorem dput_len (d : Dir α) (h : DirOk d) (k : ByteArray) (v : α) : (dput d k v).length = if (dget d k).isSome = true then d.length else d.length + 1 := by
  induction d with
  | nil => simp [dput, dget]
  | cons p d ih =>
    have hp := List.pairwise_cons.1 h
    unfold dput
    split
    · rename_i h2
      have : eqK p.1 k = false := eqK_false.2 (by rintro e; rw [e, ltK_irrefl] at h2; cases h2)
      simp only [List.length_cons, ih hp.2, dget, this]
      by_cases h3 : (dget d k).isSome = true <;> simp [h3]
    · rename_i h2
      split
      · rename_i h3; simp [dget, h3]
      · rename_i h3
        have hkp : ltK k p.1 = true := by
          rcases ltK_tri p.1 k with q | q | q
          · exact absurd q h2
          · exact absurd (eqK_iff.2 q) h3
          · exact q
        have hn : dget d k = none := dget_none fun q hq e => by
          have := ltK_trans hkp (hp.1 q hq)
          rw [e, ltK_irrefl] at this; cases this
        simp [dget, h3, hn]
theorem ddel_len (d : Dir α) (k : ByteArray) : (ddel d k).length + (if (dget d k).isSome = true then 1 else 0) = d.length := by
  induction d with
  | nil => simp [ddel, dget]
  | cons p d ih =>
    unfold ddel
    by_cases h : eqK p.1 k = true
    · simp [dget, h]
    · simp only [dget, h, if_false, List.length_cons]
      simp only [Bool.false_eq_true, if_false, List.length_cons]
      omega
def dmap (f : α → β) (d : Dir α) : Dir β := d.map fun p => (p.1, f p.2)
theorem dget_map (f : α → β) (d : Dir α) (k : ByteArray) : dget (dmap f d) k = (dget d k).map f := by
  induction d with
  | nil => rfl
  | cons p d ih =>
    simp only [dmap, List.map_cons, dget] at ih ⊢
    split
    · rfl
    · exact ih
theorem dput_map (f : α → β) (d : Dir α) (k : ByteArray) (v : α) : dput (dmap f d) k (f v) = dmap f (dput d k v) := by
  induction d with
  | nil => rfl
  | cons p d ih =>
    simp only [dmap, List.map_cons, dput] at ih ⊢
    split
    · rw [ih]; rfl
    · split <;> rfl
theorem ddel_map (f : α → β) (d : Dir α) (k : ByteArray) : ddel (dmap f d) k = dmap f (ddel d k) := by
  induction d with
  | nil => rfl
  | cons p d ih =>
    simp only [dmap, List.map_cons, ddel] at ih ⊢
    split
    · rfl
    · rw [ih]; rfl
theorem DirOk.map {d : Dir α} (h : DirOk d) (f : α → β) : DirOk (dmap f d) := by
  unfold DirOk dmap
  rw [List.pairwise_map]
  exact h
theorem dmap_len (f : α → β) (d : Dir α) : (dmap f d).length = d.length := by simp [dmap]
theorem dmap_congr {f g : α → β} {d : Dir α} (h : ∀ p ∈ d, f p.2 = g p.2) : dmap f d = dmap g d := by
  unfold dmap
  exact List.map_congr_left fun p hp => by rw [h p hp]
theorem dir_nodup {d : Dir α} (h : DirOk d) : (d.map (·.1)).Nodup := by
  unfold List.Nodup
  rw [List.pairwise_map]
  exact h.imp fun {a b} hab e => by rw [e, ltK_irrefl] at hab; cases hab

/-- What is summed up of those that aren't still to come. -/
def sumLeft (d : Dir α) (g : α → Nat) (left : ByteArray → Bool) : Nat := (d.map fun p => if left p.1 = true then 0 else g p.2).sum
theorem sumLeft_all {d : Dir α} {g : α → Nat} {left : ByteArray → Bool} (h : ∀ p ∈ d, left p.1 = true) : sumLeft d g left = 0 := by
  induction d with
  | nil => rfl
  | cons p d ih =>
    have h1 := h p (List.mem_cons_self ..)
    have h2 := ih fun q hq => h q (List.mem_cons_of_mem _ hq)
    simp only [sumLeft, List.map_cons, List.sum_cons, h1, if_true] at h2 ⊢
    omega
theorem sumLeft_none {d : Dir α} {g : α → Nat} {left : ByteArray → Bool} (h : ∀ p ∈ d, left p.1 = false) : sumLeft d g left = (d.map fun p => g p.2).sum := by
  unfold sumLeft
  congr 1
  exact List.map_congr_left fun p hp => by rw [h p hp]; rfl
theorem sumLeft_step {d : Dir α} (hd : DirOk d) {g : α → Nat} {left left' : ByteArray → Bool} {x : ByteArray} {v : α} (hx : dget d x = some v) (hl : left x = true) (hl' : ∀ k, left' k = (left k && !eqK k x)) : sumLeft d g left' = sumLeft d g left + g v := by
  induction d with
  | nil => simp [dget] at hx
  | cons p d ih =>
    have hp := List.pairwise_cons.1 hd
    simp only [dget] at hx
    split at hx
    · rename_i e
      have ek := eqK_iff.1 e
      obtain rfl := Option.some.inj hx
      have h1 : sumLeft d g left' = sumLeft d g left := by
        unfold sumLeft
        congr 1
        refine List.map_congr_left fun q hq => ?_
        have : eqK q.1 x = false := by rw [← ek]; exact eqK_false.2 (hd.above q hq)
        rw [hl', this]; simp
      have h2 : left' p.1 = false := by rw [hl', e]; simp
      have h3 : left p.1 = true := by rw [ek]; exact hl
      simp only [sumLeft, List.map_cons, List.sum_cons, h2, h3, if_true] at h1 ⊢
      simp only [Bool.false_eq_true, if_false]
      omega
    · rename_i e
      have h1 := ih hp.2 hx
      have e' : eqK p.1 x = false := by simpa using e
      have h2 : left' p.1 = left p.1 := by rw [hl', e']; simp
      simp only [sumLeft, List.map_cons, List.sum_cons, h2] at h1 ⊢
      omega
theorem sum_sub {h : α → Nat} [DecidableEq α] : ∀ {l r : List α}, l.Nodup → (∀ x ∈ l, x ∈ r) → (l.map h).sum ≤ (r.map h).sum
  | [], _, _, _ => by simp
  | a :: l, r, hn, hs => by
    have hn' := List.nodup_cons.1 hn
    have ha : a ∈ r := hs a (List.mem_cons_self ..)
    have hp := List.perm_cons_erase ha
    have h1 : (l.map h).sum ≤ ((r.erase a).map h).sum := sum_sub hn'.2 fun x hx => (List.mem_erase_of_ne (by rintro rfl; exact hn'.1 hx)).2 (hs x (List.mem_cons_of_mem _ hx))
    have h2 : (r.map h).sum = h a + ((r.erase a).map h).sum := by rw [(hp.map h).sum_nat]; simp
    rw [h2, List.map_cons, List.sum_cons]; omega
end
end Go.Scree
