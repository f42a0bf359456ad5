/- A heap in a list, in plain Lean. -/
namespace Go.Scree

/-- No order is turned: what isn't ahead is at or behind. -/
structure Weak {α : Type} (ah : α → α → Bool) : Prop where
  asymm : ∀ x y, ah x y = true → ah y x = false
  trans : ∀ x y z, ah y x = false → ah z y = false → ah z x = false

section
variable {α : Type} {ah : α → α → Bool} {s i k : Nat} {l : List α}
def Kid (p j : Nat) : Prop := j = 2 * p + 1 ∨ j = 2 * p + 2
/-- From place s on no one is ahead of the one above it. -/
def HOk (ah : α → α → Bool) (s : Nat) (l : List α) : Prop := ∀ p j x y, s ≤ p → Kid p j → l[p]? = some x → l[j]? = some y → ah y x = false
/-- ... but for place i. -/
structure HMid (ah : α → α → Bool) (s i : Nat) (l : List α) : Prop where
  rest : ∀ p j x y, s ≤ p → p ≠ i → Kid p j → l[p]? = some x → l[j]? = some y → ah y x = false
  over : ∀ q j x y, s ≤ q → Kid q i → Kid i j → l[q]? = some x → l[j]? = some y → ah y x = false
/-- The one of two below that comes first. -/
def HBest (ah : α → α → Bool) (i k : Nat) (l : List α) : Prop := Kid i k ∧ ∀ j x y, Kid i j → l[k]? = some x → l[j]? = some y → ah y x = false

theorem HMid.start (h : HOk ah (i + 1) l) : HMid ah i i l :=
  ⟨fun p j x y h1 h2 => h p j x y (by omega), fun q j x y h1 h2 => by unfold Kid at h2; omega⟩
theorem HMid.leaf (h : HMid ah s i l) (hl : l.length ≤ 2 * i + 1) : HOk ah s l := by
  intro p j x y h1 h2 h3 h4
  by_cases hp : p = i
  · subst hp
    have := (List.getElem?_eq_some_iff.1 h4).1
    unfold Kid at h2; omega
  · exact h.rest p j x y h1 hp h2 h3 h4
theorem HMid.stop (W : Weak ah) (h : HMid ah s i l) (b : HBest ah i k l) {x y : α} (hi : l[i]? = some x) (hk : l[k]? = some y) (hn : ah y x = false) : HOk ah s l := by
  intro p j x' y' h1 h2 h3 h4
  by_cases hp : p = i
  · subst hp
    rw [hi] at h3
    obtain rfl := Option.some.inj h3
    exact W.trans _ _ _ hn (b.2 j y y' h2 hk h4)
  · exact h.rest p j x' y' h1 hp h2 h3 h4
theorem get_set2 {l : List α} {i k j : Nat} {x y : α} (hi : l[i]? = some x) (hk : l[k]? = some y) (hne : i ≠ k) : ((l.set i y).set k x)[j]? = if j = k then some x else if j = i then some y else l[j]? := by
  have h1 := (List.getElem?_eq_some_iff.1 hi).1
  have h2 := (List.getElem?_eq_some_iff.1 hk).1
  rw [List.getElem?_set, List.getElem?_set]
  simp only [List.length_set]
  by_cases hjk : j = k
  · subst hjk; simp [h2]
  · rw [if_neg (fun e => hjk e.symm), if_neg hjk]
    by_cases hji : j = i
    · subst hji; simp [h1]
    · rw [if_neg (fun e => hji e.symm), if_neg hji]
theorem HMid.step (W : Weak ah) (h : HMid ah s i l) (hs : s ≤ i) (b : HBest ah i k l) {x y : α} (hi : l[i]? = some x) (hk : l[k]? = some y) (hn : ah y x = true) : HMid ah s k ((l.set i y).set k x) := by
  obtain ⟨bk, bb⟩ := b
  have hne : i ≠ k := by unfold Kid at bk; omega
  constructor
  · intro p j x' y' h1 h2 h3 h4 h5
    rw [get_set2 hi hk hne] at h4 h5
    rw [if_neg h2] at h4
    by_cases hp : p = i
    · rw [if_pos hp] at h4
      obtain rfl := Option.some.inj h4
      subst hp
      by_cases hjk : j = k
      · rw [if_pos hjk] at h5
        obtain rfl := Option.some.inj h5
        exact W.asymm _ _ hn
      · rw [if_neg hjk, if_neg (by unfold Kid at h3; omega)] at h5
        exact bb j _ _ h3 hk h5
    · rw [if_neg hp] at h4
      by_cases hjk : j = k
      · exfalso; unfold Kid at h3 bk; omega
      · rw [if_neg hjk] at h5
        by_cases hji : j = i
        · rw [if_pos hji] at h5
          obtain rfl := Option.some.inj h5
          subst hji
          exact h.over p k _ _ h1 h3 bk h4 hk
        · rw [if_neg hji] at h5
          exact h.rest p j _ _ h1 hp h3 h4 h5
  · intro q j x' y' h1 h2 h3 h4 h5
    have hq : q = i := by unfold Kid at h2 bk; omega
    subst hq
    rw [get_set2 hi hk hne] at h4 h5
    rw [if_neg hne, if_pos rfl] at h4
    obtain rfl := Option.some.inj h4
    have hjk : j ≠ k := by unfold Kid at h3; omega
    have hjq : j ≠ q := by unfold Kid at h3 bk; omega
    rw [if_neg hjk, if_neg hjq] at h5
    exact h.rest k j _ _ (by unfold Kid at bk; omega) (Ne.symm hne) h3 hk h5
theorem HBest.left {x : α} (W : Weak ah) (hx : l[2 * i + 1]? = some x) (hr : ∀ y, l[2 * i + 2]? = some y → ah y x = false) : HBest ah i (2 * i + 1) l := by
  refine ⟨.inl rfl, fun j a b hj ha hb => ?_⟩
  rw [hx] at ha
  obtain rfl := Option.some.inj ha
  rcases hj with rfl | rfl
  · rw [hx] at hb
    obtain rfl := Option.some.inj hb
    cases h : ah x x with
    | false => rfl
    | true => rw [W.asymm _ _ h] at h; cases h
  · exact hr _ hb
theorem HBest.right {x y : α} (W : Weak ah) (hx : l[2 * i + 1]? = some x) (hy : l[2 * i + 2]? = some y) (h : ah y x = true) : HBest ah i (2 * i + 2) l := by
  refine ⟨.inr rfl, fun j a b hj ha hb => ?_⟩
  rw [hy] at ha
  obtain rfl := Option.some.inj ha
  rcases hj with rfl | rfl
  · rw [hx] at hb
    obtain rfl := Option.some.inj hb
    exact W.asymm _ _ h
  · rw [hy] at hb
    obtain rfl := Option.some.inj hb
    cases k : ah y y with
    | false => rfl
    | true => rw [W.asymm _ _ k] at k; cases k
theorem HOk.half (hl : l.length ≤ 2 * s + 1) : HOk ah s l := by
  intro p j x y h1 h2 h3 h4
  have := (List.getElem?_eq_some_iff.1 h4).1
  unfold Kid at h2; omega
/-- What stands first is ahead of none. -/
theorem HOk.least (W : Weak ah) (h : HOk ah 0 l) {m : α} (hm : l[0]? = some m) : ∀ (j : Nat) (y : α), l[j]? = some y → ah y m = false := by
  intro j
  induction j using Nat.strongRecOn with
  | _ j ih =>
    intro y hy
    cases j with
    | zero =>
      rw [hm] at hy
      obtain rfl := Option.some.inj hy
      cases k : ah m m with
      | false => rfl
      | true => rw [W.asymm _ _ k] at k; cases k
    | succ j =>
      have hlt := (List.getElem?_eq_some_iff.1 hy).1
      have hp : j / 2 < l.length := by omega
      have hx := List.getElem?_eq_getElem hp
      have h1 := ih (j / 2) (by omega) _ hx
      have h2 := h (j / 2) (j + 1) _ _ (Nat.zero_le _) (by unfold Kid; omega) hx hy
      exact W.trans _ _ _ h1 h2
theorem HOk.tail {l' : List α} (h : HOk ah 0 l) (hs : ∀ (j : Nat) (y : α), 1 ≤ j → l'[j]? = some y → l[j]? = some y) : HOk ah 1 l' := by
  intro p j x y h1 h2 h3 h4
  exact h p j x y (by omega) h2 (hs _ _ h1 h3) (hs _ _ (by unfold Kid at h2; omega) h4)
theorem swap_perm {x y : α} (hi : l[i]? = some x) (hk : l[k]? = some y) (hne : i ≠ k) : ((l.set i y).set k x).Perm l := by
  obtain ⟨h1, rfl⟩ := List.getElem?_eq_some_iff.1 hi
  obtain ⟨h2, rfl⟩ := List.getElem?_eq_some_iff.1 hk
  exact List.set_set_perm h1 h2
end
end Go.Scree
