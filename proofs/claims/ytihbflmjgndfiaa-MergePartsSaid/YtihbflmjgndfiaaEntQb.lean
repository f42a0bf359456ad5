/- What lies between, in plain Lean: the law of the parts. -/
import Derived.Test.YtihbflmjgndfiaaEntC
import Derived.Test.YtihbflmjgndfiaaEntP
namespace Go.Scree
open Go.Proofs.Ytihbflmjgndfiaa

theorem ltK_nil (a : ByteArray) : ltK a ⟨#[]⟩ = false := by simp [ltK]
theorem nilK_nil : nilK ⟨#[]⟩ = true := by unfold nilK; rw [Lib.toList_data]; rfl
theorem filter_parts {p : Ent → Bool} : ∀ {l : List Ent}, (∀ x y, aheadB x y = true → p y = true → p x = true) → Row l → l.filter p ++ l.filter (fun x => !p x) = l
  | [], _, _ => rfl
  | x :: r, hp, hr => by
    have hr' := List.pairwise_cons.1 hr
    by_cases h : p x = true
    · rw [List.filter_cons_of_pos h, List.filter_cons_of_neg (by simp [h]), List.cons_append, filter_parts hp hr'.2]
    · have hall : ∀ y ∈ r, p y = false := fun y hy => by
        cases e : p y with
        | false => rfl
        | true => exact absurd (hp x y (hr'.1 y hy) e) h
      have e1 : r.filter p = [] := List.filter_eq_nil_iff.2 fun y hy => by rw [hall y hy]; simp
      have e2 : r.filter (fun x => !p x) = r := List.filter_eq_self.2 fun y hy => by rw [hall y hy]; rfl
      rw [List.filter_cons_of_neg h, List.filter_cons_of_pos (by simp [h]), e1, e2]; rfl
theorem parts {l : List Ent} {k : ByteArray} (hr : Row l) (hk : nilK k = false) : betweenP l ⟨#[]⟩ k ++ betweenP l k ⟨#[]⟩ = l := by
  unfold betweenP
  rw [if_pos (rowB_iff.2 hr), if_pos (rowB_iff.2 hr)]
  have e1 : (fun x => !outB ⟨#[]⟩ k x) = fun x => ltK x.key k := by
    funext x; simp [outB, ltK_nil, hk]
  have e2 : (fun x => !outB k ⟨#[]⟩ x) = fun x => !ltK x.key k := by
    funext x; simp [outB, nilK_nil]
  rw [e1, e2]
  exact filter_parts (fun x y h hy => by
    rcases aheadB_iff.1 h with h | ⟨h, _⟩
    · exact ltK_trans h hy
    · rw [h]; exact hy) hr
theorem between_in {l : List Ent} {lo hi : ByteArray} {x : Ent} (h : x ∈ betweenP l lo hi) : outB lo hi x = false := by
  unfold betweenP at h
  split at h
  · simpa using (List.mem_filter.1 h).2
  · simp at h
theorem between_row {l : List Ent} {lo hi : ByteArray} : Row (betweenP l lo hi) := by
  unfold betweenP
  split
  · rename_i h; exact (rowB_iff.1 h).sublist List.filter_sublist
  · exact List.Pairwise.nil
theorem between_len (l : List Ent) (lo hi : ByteArray) : (betweenP l lo hi).length ≤ l.length := by
  unfold betweenP
  split
  · exact List.length_filter_le _ _
  · simp
end Go.Scree
