/- The cursors that stand at the beginning, in plain Lean. -/
import Derived.Test.YtihbflmjgndfiaaEntJ
namespace Go.Scree

def totC (cs : List Cur) : Nat := (cs.map fun c => c.l.length).sum
def totR (rows : List (List Ent)) : Nat := (rows.map List.length).sum
structure Built (rows : List (List Ent)) (k : Nat) (cs : List Cur) : Prop where
  mem : ∀ c ∈ cs, c.n < k ∧ rows[c.n]? = some c.l ∧ c.l ≠ []
  dist : cs.Pairwise (fun a b => a.n ≠ b.n)
  cov : ∀ (i : Nat) (r : List Ent), i < k → rows[i]? = some r → r ≠ [] → ∃ c ∈ cs, c.n = i ∧ c.l = r
  tot : totC cs = totR (rows.take k)
  len : cs.length ≤ k
  good : ∀ (i : Nat) (r : List Ent), i < k → rows[i]? = some r → rowB r = true

theorem Built.start (rows : List (List Ent)) : Built rows 0 [] := ⟨by simp, List.Pairwise.nil, fun i r h => by omega, rfl, by simp, fun i r h => by omega⟩
theorem totR_take {rows : List (List Ent)} {k : Nat} {r : List Ent} (h : rows[k]? = some r) : totR (rows.take (k + 1)) = totR (rows.take k) + r.length := by
  obtain ⟨hk, rfl⟩ := List.getElem?_eq_some_iff.1 h
  unfold totR
  rw [List.take_succ_eq_append_getElem hk, List.map_append]
  generalize List.map List.length (List.take k rows) = m
  simp
theorem Built.skip {rows : List (List Ent)} {k : Nat} {cs : List Cur} (h : Built rows k cs) (hr : rows[k]? = some []) : Built rows (k + 1) cs := by
  refine ⟨fun c hc => ?_, h.dist, fun i r hi hx hn => ?_, ?_, by have := h.len; omega, fun i r hi hx => ?_⟩
  · obtain ⟨h1, h2⟩ := h.mem c hc
    exact ⟨by omega, h2⟩
  · rcases Nat.lt_or_ge i k with h' | h'
    · exact h.cov i r h' hx hn
    · obtain rfl : i = k := by omega
      rw [hr] at hx
      exact absurd (Option.some.inj hx).symm hn
  · rw [totR_take hr, ← h.tot]; simp
  · rcases Nat.lt_or_ge i k with h' | h'
    · exact h.good i r h' hx
    · obtain rfl : i = k := by omega
      rw [hr] at hx
      obtain rfl := Option.some.inj hx
      exact rowB_iff.2 List.Pairwise.nil
theorem Built.push {rows : List (List Ent)} {k : Nat} {cs : List Cur} (h : Built rows k cs) {r : List Ent} (hr : rows[k]? = some r) (hn : r ≠ []) (hg : rowB r = true) (p c : Nat) (A : Option Addr) : Built rows (k + 1) (cs ++ [⟨p, k, A, c, r⟩]) := by
  refine ⟨fun c hc => ?_, ?_, fun i s hi hx hn => ?_, ?_, by have := h.len; simp; omega, fun i s hi hx => ?_⟩
  · rcases List.mem_append.1 hc with hc | hc
    · obtain ⟨h1, h2⟩ := h.mem c hc
      exact ⟨by omega, h2⟩
    · obtain rfl := List.mem_singleton.1 hc
      exact ⟨by simp, hr, hn⟩
  · refine List.pairwise_append.2 ⟨h.dist, List.pairwise_singleton _ _, fun a ha b hb => ?_⟩
    obtain rfl := List.mem_singleton.1 hb
    have := (h.mem a ha).1
    simp; omega
  · rcases Nat.lt_or_ge i k with h' | h'
    · obtain ⟨c, hc, e⟩ := h.cov i s h' hx hn
      exact ⟨c, List.mem_append_left _ hc, e⟩
    · obtain rfl : i = k := by omega
      rw [hr] at hx
      obtain rfl := Option.some.inj hx
      exact ⟨_, List.mem_append_right _ (List.mem_singleton.2 rfl), rfl, rfl⟩
  · rw [totR_take hr, ← h.tot]; simp [totC]
  · rcases Nat.lt_or_ge i k with h' | h'
    · exact h.good i s h' hx
    · obtain rfl : i = k := by omega
      rw [hr] at hx
      obtain rfl := Option.some.inj hx
      exact hg
theorem Built.inv {rows : List (List Ent)} {cs : List Cur} (h : Built rows rows.length cs) : MInv rows cs [] := by
  refine ⟨fun c hc => ⟨(h.mem c hc).2.2, c.l, (h.mem c hc).2.1, List.suffix_refl _⟩, h.dist, List.Pairwise.nil, by simp, fun i r x hi hx => .inl ?_, by simp⟩
  obtain ⟨c, hc, e1, e2⟩ := h.cov i r (List.getElem?_eq_some_iff.1 hi).1 hi (by rintro rfl; simp at hx)
  exact ⟨c, hc, e1, by rw [e2]; exact hx⟩
theorem totC_perm {cs ds : List Cur} (p : cs.Perm ds) : totC cs = totC ds := (p.map _).sum_nat
theorem totC_tail {c : Cur} {rest : List Cur} {A : Option Addr} {k : Nat} (hl : c.l ≠ []) : totC (tailC c A k rest) + 1 = totC (c :: rest) := by
  unfold tailC
  have hp : 0 < c.l.length := List.length_pos_iff.2 hl
  split
  · have : c.l.length = 1 := by omega
    simp [totC, this]; omega
  · simp [totC]; omega
theorem pushE_len (out : List Ent) (x : Ent) : (pushE out x).length ≤ out.length + 1 := by
  unfold pushE
  cases out.getLast? with
  | none => simp
  | some y => dsimp only; split <;> simp
def goodR (rows : List (List Ent)) : Bool := rows.all rowB
theorem goodR_of {rows : List (List Ent)} {cs : List Cur} (h : Built rows rows.length cs) : goodR rows = true := by
  unfold goodR
  rw [List.all_eq_true]
  intro r hr
  obtain ⟨i, hi⟩ := List.getElem?_of_mem hr
  exact h.good i r (List.getElem?_eq_some_iff.1 hi).1 hi
theorem goodR_bad {rows : List (List Ent)} {k : Nat} {r : List Ent} (hr : rows[k]? = some r) (h : rowB r = false) : goodR rows = false := by
  unfold goodR
  rw [List.all_eq_false]
  exact ⟨r, List.mem_of_getElem? hr, by rw [h]; simp⟩
theorem goodR_rows {rows : List (List Ent)} (h : goodR rows = true) : ∀ r ∈ rows, Row r := fun r hr => rowB_iff.1 (List.all_eq_true.1 h r hr)
end Go.Scree
