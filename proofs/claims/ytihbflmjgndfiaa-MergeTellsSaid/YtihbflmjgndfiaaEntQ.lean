/- What Seen, Newest and Between leave of a row, in plain Lean: the laws. -/
import Derived.Test.YtihbflmjgndfiaaEntP
namespace Go.Scree

theorem newestGo_sub (least : Int) : ∀ (p : Option Ent) (l : List Ent), (newestGo least p l).Sublist l
  | _, [] => List.Sublist.refl _
  | p, x :: r => by
    unfold newestGo
    split
    · exact (newestGo_sub least (some x) r).cons x
    · exact (newestGo_sub least (some x) r).cons_cons x
theorem seenGo_sub (seq : Int) : ∀ (d : Option ByteArray) (l : List Ent), (seenGo seq d l).Sublist l
  | _, [] => List.Sublist.refl _
  | d, x :: r => by
    unfold seenGo
    split
    · exact (seenGo_sub seq d r).cons x
    · split
      · exact (seenGo_sub seq _ r).cons x
      · exact (seenGo_sub seq _ r).cons_cons x
theorem newest_row {l : List Ent} {least : Int} (h : Row l) : Row (newestP l least) := by
  unfold newestP; rw [if_pos (rowB_iff.2 h)]; exact h.sublist (newestGo_sub _ _ _)
theorem seen_row {l : List Ent} {seq : Int} (h : Row l) : Row (seenP l seq) := by
  unfold seenP; rw [if_pos (rowB_iff.2 h)]; exact h.sublist (seenGo_sub _ _ _)
theorem newest_len (l : List Ent) (least : Int) : (newestP l least).length ≤ l.length := by
  unfold newestP; split
  · exact (newestGo_sub _ _ _).length_le
  · simp
theorem seen_len (l : List Ent) (seq : Int) : (seenP l seq).length ≤ l.length := by
  unfold seenP; split
  · exact (seenGo_sub _ _ _).length_le
  · simp

theorem hidB_iff {p : Option Ent} {least : Int} {x : Ent} : hidB p least x = true ↔ ∃ y, p = some y ∧ y.key = x.key ∧ y.seq ≤ least := by
  cases p with
  | none => simp [hidB]
  | some y => simp [hidB, eqK_iff]

theorem seen_newestGo {M least : Int} (hM : least ≤ M) : ∀ (l : List Ent) (p : Option Ent) (d : Option ByteArray), (∀ y, p = some y → y.seq ≤ least → d = some y.key) → seenGo M d (newestGo least p l) = seenGo M d l
  | [], _, _, _ => rfl
  | x :: r, p, d, J => by
    rw [newestGo]
    by_cases h : hidB p least x = true
    · rw [if_pos h]
      obtain ⟨y, hp, hk, hs⟩ := hidB_iff.1 h
      have hd := J y hp hs
      rw [hk] at hd
      rw [seen_newestGo hM r (some x) d (fun z hz _ => by rw [← Option.some.inj hz]; exact hd)]
      rw [seenGo, if_pos (.inr hd)]
    · rw [if_neg h, seenGo, seenGo]
      by_cases c : M < x.seq ∨ d = some x.key
      · rw [if_pos c, if_pos c]
        refine seen_newestGo hM r (some x) d (fun z hz hs => ?_)
        obtain rfl := Option.some.inj hz
        rcases c with c | c
        · omega
        · exact c
      · rw [if_neg c, if_neg c]
        have ih := seen_newestGo hM r (some x) (some x.key) (fun z hz _ => by rw [← Option.some.inj hz])
        rw [ih]
theorem seen_newest {l : List Ent} {M least : Int} (h : Row l) (hM : least ≤ M) : seenP (newestP l least) M = seenP l M := by
  have h2 := newest_row (least := least) h
  unfold seenP
  rw [if_pos (rowB_iff.2 h2), if_pos (rowB_iff.2 h)]
  unfold newestP
  rw [if_pos (rowB_iff.2 h)]
  exact seen_newestGo hM l none none (fun y hy => by cases hy)

theorem newest_newestGo {least : Int} : ∀ (l : List Ent) (p q : Option Ent), Row (p.toList ++ l) → (∀ z, q = some z → ∃ y, p = some y ∧ (z = y ∨ aheadB z y = true)) → newestGo least q (newestGo least p l) = newestGo least p l
  | [], _, _, _, _ => rfl
  | x :: r, p, q, hr, K => by
    have hrx : Row (x :: r) := hr.sublist (List.sublist_append_right _ _)
    rw [newestGo]
    by_cases h : hidB p least x = true
    · rw [if_pos h]
      refine newest_newestGo r (some x) q hrx (fun z hz => ⟨x, rfl, .inr ?_⟩)
      obtain ⟨y, rfl, hzy⟩ := K z hz
      have hyx : aheadB y x = true := (List.pairwise_cons.1 hr).1 x (List.mem_cons_self ..)
      rcases hzy with rfl | hzy
      · exact hyx
      · exact aheadB_trans hzy hyx
    · rw [if_neg h]
      have hq : hidB q least x = false := by
        cases hq : hidB q least x with
        | false => rfl
        | true =>
          exfalso
          apply h
          obtain ⟨z, hz, hk, hs⟩ := hidB_iff.1 hq
          obtain ⟨y, rfl, hzy⟩ := K z hz
          have hyx : aheadB y x = true := (List.pairwise_cons.1 hr).1 x (List.mem_cons_self ..)
          rcases hzy with rfl | hzy
          · exact hidB_iff.2 ⟨z, rfl, hk, hs⟩
          · refine hidB_iff.2 ⟨y, rfl, ?_⟩
            rw [aheadB_iff] at hzy hyx
            rcases hzy with h1 | ⟨h1, h2⟩ <;> rcases hyx with k1 | ⟨k1, k2⟩
            · have := ltK_trans h1 k1; rw [hk, ltK_irrefl] at this; cases this
            · rw [← k1] at hk; rw [hk, ltK_irrefl] at h1; cases h1
            · rw [← h1, hk, ltK_irrefl] at k1; cases k1
            · exact ⟨k1, by omega⟩
      rw [newestGo, if_neg (by rw [hq]; simp)]
      rw [newest_newestGo r (some x) (some x) hrx (fun z hz => ⟨z, hz, .inl rfl⟩)]
theorem newest_newest {l : List Ent} {least : Int} (h : Row l) : newestP (newestP l least) least = newestP l least := by
  have h2 := newest_row (least := least) h
  have e : newestP l least = newestGo least none l := if_pos (rowB_iff.2 h)
  have e2 : newestP (newestP l least) least = newestGo least none (newestP l least) := if_pos (rowB_iff.2 h2)
  rw [e2, e]
  exact newest_newestGo l none none (by simpa using h) (fun z hz => by cases hz)
end Go.Scree
