/- Rows together, by the document: entry by entry; and what awake asks, in plain Lean. -/
import Derived.Test.YtihbflmjgndfiaaEntKm
import Derived.Test.YtihbflmjgndfiaaEntN
namespace Go.Scree

/-- An entry more, if none has its key and number. -/
def withE : List Ent → Ent → List Ent
  | [], x => [x]
  | y :: r, x => if aheadB y x = true then y :: withE r x else if sameB y x = true then y :: r else x :: y :: r
def allP (rows : List (List Ent)) : List Ent := rows.flatten.foldl withE []

/-- The first of its key and number. -/
def FirstIn (l : List Ent) (x : Ent) : Prop := ∃ pre post, l = pre ++ x :: post ∧ ∀ y ∈ pre, sameB y x = false
theorem firstIn_snoc {l : List Ent} {z x : Ent} : FirstIn (l ++ [z]) x ↔ FirstIn l x ∨ (x = z ∧ ∀ y ∈ l, sameB y z = false) := by
  constructor
  · rintro ⟨pre, post, h, hp⟩
    rcases List.eq_nil_or_concat post with rfl | ⟨post', u, rfl⟩
    · have := List.append_inj' h rfl
      obtain ⟨rfl, h2⟩ := this
      simp only [List.cons.injEq, and_true] at h2
      subst h2
      exact .inr ⟨rfl, hp⟩
    · rw [List.concat_eq_append, ← List.cons_append, ← List.append_assoc] at h
      have := List.append_inj' h rfl
      exact .inl ⟨pre, post', this.1, hp⟩
  · rintro (⟨pre, post, rfl, hp⟩ | ⟨rfl, hp⟩)
    · exact ⟨pre, post ++ [z], by simp, hp⟩
    · exact ⟨l, [], rfl, hp⟩
theorem withE_mem {l : List Ent} {z : Ent} (hr : Row l) (x : Ent) : x ∈ withE l z ↔ x ∈ l ∨ (x = z ∧ ∀ y ∈ l, sameB y z = false) := by
  induction l with
  | nil => simp [withE]
  | cons y r ih =>
    have hr' := List.pairwise_cons.1 hr
    have ih := ih hr'.2
    unfold withE
    by_cases h1 : aheadB y z = true
    · rw [if_pos h1, List.mem_cons, ih, List.mem_cons]
      have h2 := ahead_not_same h1
      constructor
      · rintro (h | h | ⟨h, k⟩)
        · exact .inl (.inl h)
        · exact .inl (.inr h)
        · exact .inr ⟨h, fun u hu => (List.mem_cons.1 hu).elim (fun e => by rw [e]; exact h2) (k u)⟩
      · rintro ((h | h) | ⟨h, k⟩)
        · exact .inl h
        · exact .inr (.inl h)
        · exact .inr (.inr ⟨h, fun u hu => k u (List.mem_cons_of_mem _ hu)⟩)
    · rw [if_neg h1]
      by_cases h2 : sameB y z = true
      · rw [if_pos h2]
        constructor
        · exact .inl
        · rintro (h | ⟨h, k⟩)
          · exact h
          · have := k y (List.mem_cons_self ..); rw [h2] at this; cases this
      · rw [if_neg h2, List.mem_cons]
        have hzy : aheadB z y = true := by
          rcases ahead_tri y z with k | k | k
          · exact absurd k h1
          · exact absurd k h2
          · exact k
        constructor
        · rintro (h | h)
          · refine .inr ⟨h, fun u hu => ?_⟩
            have hzu : aheadB z u = true := by
              rcases List.mem_cons.1 hu with rfl | hu
              · exact hzy
              · exact aheadB_trans hzy (hr'.1 u hu)
            cases e : sameB u z with
            | false => rfl
            | true => have := ahead_not_same hzu; rw [same_symm e] at this; cases this
          · exact .inl h
        · rintro (h | ⟨h, _⟩)
          · exact .inr h
          · exact .inl h
theorem withE_row {l : List Ent} {z : Ent} (hr : Row l) : Row (withE l z) := by
  induction l with
  | nil => exact List.pairwise_singleton _ _
  | cons y r ih =>
    have hr' := List.pairwise_cons.1 hr
    unfold withE
    by_cases h1 : aheadB y z = true
    · rw [if_pos h1]
      refine List.pairwise_cons.2 ⟨fun u hu => ?_, ih hr'.2⟩
      rcases (withE_mem hr'.2 u).1 hu with h | ⟨rfl, _⟩
      · exact hr'.1 u h
      · exact h1
    · rw [if_neg h1]
      by_cases h2 : sameB y z = true
      · rw [if_pos h2]; exact hr
      · rw [if_neg h2]
        have hzy : aheadB z y = true := by
          rcases ahead_tri y z with k | k | k
          · exact absurd k h1
          · exact absurd k h2
          · exact k
        exact List.pairwise_cons.2 ⟨fun u hu => (List.mem_cons.1 hu).elim (fun e => by rw [e]; exact hzy) (fun hu => aheadB_trans hzy (hr'.1 u hu)), hr⟩
theorem fold_with (m : List Ent) : ∀ (l out : List Ent), Row out → (∀ x, x ∈ out ↔ FirstIn l x) → (∀ y ∈ l, ∃ u ∈ out, sameB u y = true) →
    Row (m.foldl withE out) ∧ ∀ x, x ∈ m.foldl withE out ↔ FirstIn (l ++ m) x := by
  induction m with
  | nil => intro l out h1 h2 _; simpa using ⟨h1, h2⟩
  | cons z m ih =>
    intro l out h1 h2 h3
    have hz : (∀ y ∈ out, sameB y z = false) ↔ ∀ y ∈ l, sameB y z = false := by
      constructor
      · intro h y hy
        obtain ⟨u, hu, hs⟩ := h3 y hy
        cases e : sameB y z with
        | false => rfl
        | true => have := h u hu; rw [same_trans hs e] at this; cases this
      · intro h y hy
        obtain ⟨pre, post, rfl, _⟩ := (h2 y).1 hy
        exact h y (by simp)
    have := ih (l ++ [z]) (withE out z) (withE_row h1) (fun x => by rw [withE_mem h1 x, firstIn_snoc, h2 x, hz]) (fun y hy => by
      rcases List.mem_append.1 hy with hy | hy
      · obtain ⟨u, hu, hs⟩ := h3 y hy
        exact ⟨u, (withE_mem h1 u).2 (.inl hu), hs⟩
      · obtain rfl := List.mem_singleton.1 hy
        by_cases hn : ∀ u ∈ out, sameB u y = false
        · exact ⟨y, (withE_mem h1 y).2 (.inr ⟨rfl, hn⟩), same_refl y⟩
        · have : ∃ u, u ∈ out ∧ sameB u y = true := by
            apply Classical.byContradiction
            intro hne
            exact hn fun u hu => by
              cases e : sameB u y with
              | false => rfl
              | true => exact absurd ⟨u, hu, e⟩ hne
          obtain ⟨u, hu, hs⟩ := this
          exact ⟨u, (withE_mem h1 u).2 (.inl hu), hs⟩)
    simpa using this
theorem top_first {rows : List (List Ent)} (hr : ∀ r ∈ rows, Row r) (x : Ent) : FirstIn rows.flatten x ↔ Top rows x := by
  induction rows with
  | nil => simp [FirstIn, Top]
  | cons r rows ih =>
    have ih := ih (fun s hs => hr s (List.mem_cons_of_mem _ hs))
    have hr0 := hr r (List.mem_cons_self ..)
    have e1 : FirstIn (r :: rows).flatten x ↔ x ∈ r ∨ ((∀ y ∈ r, sameB y x = false) ∧ FirstIn rows.flatten x) := by
      rw [List.flatten_cons]
      constructor
      · rintro ⟨pre, post, h, hp⟩
        rcases List.append_eq_append_iff.1 h with ⟨a, h1, h2⟩ | ⟨a, h1, h2⟩
        · exact .inr ⟨fun y hy => hp y (by rw [h1]; exact List.mem_append_left _ hy), a, post, h2, fun y hy => hp y (by rw [h1]; exact List.mem_append_right _ hy)⟩
        · cases a with
          | nil => exact .inr ⟨fun y hy => hp y (by rw [List.append_nil] at h1; rwa [← h1]), [], post, by simpa using h2.symm, by simp⟩
          | cons b a =>
            simp only [List.cons_append, List.cons.injEq] at h2
            obtain ⟨rfl, _⟩ := h2
            exact .inl (by rw [h1]; simp)
      · rintro (h | ⟨h, pre, post, h1, h2⟩)
        · obtain ⟨a, b, rfl⟩ := List.append_of_mem h
          refine ⟨a, b ++ rows.flatten, by simp, fun y hy => ?_⟩
          exact ahead_not_same ((List.pairwise_append.1 hr0).2.2 y hy x (List.mem_cons_self ..))
        · exact ⟨r ++ pre, post, by rw [h1]; simp, fun y hy => (List.mem_append.1 hy).elim (h y) (h2 y)⟩
    rw [e1, ih]
    constructor
    · rintro (h | ⟨h, i, s, h1, h2, h3⟩)
      · exact ⟨0, r, rfl, h, fun j r' y hj => by omega⟩
      · refine ⟨i + 1, s, by simpa using h1, h2, fun j r' y hj hjr hy => ?_⟩
        cases j with
        | zero =>
          obtain rfl : r = r' := by simpa using hjr
          exact h y hy
        | succ j => exact h3 j r' y (by omega) (by simpa using hjr) hy
    · rintro ⟨i, s, h1, h2, h3⟩
      cases i with
      | zero =>
        obtain rfl : r = s := by simpa using h1
        exact .inl h2
      | succ i => exact .inr ⟨fun y hy => h3 0 r y (by omega) rfl hy, i, s, by simpa using h1, h2, fun j r' y hj hjr hy => h3 (j + 1) r' y (by omega) (by simpa using hjr) hy⟩
theorem isAll_allP {rows : List (List Ent)} (h : goodR rows = true) : IsAll rows (allP rows) := by
  have := fold_with rows.flatten [] [] List.Pairwise.nil (fun x => by simp [FirstIn]) (by simp)
  refine ⟨this.1, fun x => ?_⟩
  rw [← top_first (goodR_rows h) x]
  exact this.2 x
end Go.Scree
