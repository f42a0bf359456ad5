/- Rows merged by a heap of cursors: what comes of it, in plain Lean. -/
import Derived.Test.YtihbflmjgndfiaaEntGm
import Derived.Test.YtihbflmjgndfiaaHeapM
import Derived.WalkKit
namespace Go.Scree

/-- What is left of a row, and where it lies. -/
structure Cur where
  p : Nat
  n : Nat
  A : Option Addr
  c : Nat
  l : List Ent
def Cur.hd (c : Cur) : Ent := c.l.headD zeroEnt
def leC (a b : Cur) : Prop := aheadB a.hd b.hd = true ∨ sameB a.hd b.hd = true ∧ a.n ≤ b.n
def firstB (a b : Cur) : Bool := aheadB a.hd b.hd || (sameB a.hd b.hd && decide (a.n < b.n))
theorem firstB_false {a b : Cur} : firstB b a = false ↔ leC a b := by
  unfold firstB leC
  rw [Bool.or_eq_false_iff, Bool.and_eq_false_iff, decide_eq_false_iff_not]
  constructor
  · rintro ⟨h1, h2⟩
    rcases ahead_tri a.hd b.hd with h | h | h
    · exact .inl h
    · refine .inr ⟨h, ?_⟩
      rcases h2 with h2 | h2
      · rw [same_symm h] at h2; cases h2
      · omega
    · rw [h] at h1; cases h1
  · rintro (h | ⟨h, k⟩)
    · refine ⟨aheadB_asymm h, .inl ?_⟩
      cases e : sameB b.hd a.hd with
      | false => rfl
      | true => rw [← same_left e, aheadB_irrefl] at h; cases h
    · exact ⟨by rw [← same_left h]; exact aheadB_irrefl _, .inr (by omega)⟩
theorem leC_trans {a b c : Cur} (h : leC a b) (k : leC b c) : leC a c := by
  rcases h with h | ⟨h1, h2⟩ <;> rcases k with k | ⟨k1, k2⟩
  · exact .inl (aheadB_trans h k)
  · exact .inl (by rw [← same_right k1]; exact h)
  · exact .inl (by rw [same_left h1]; exact k)
  · exact .inr ⟨same_trans h1 k1, by omega⟩
theorem weak_first : Weak firstB :=
  ⟨fun x y h => by
    rw [firstB_false]
    unfold firstB at h
    simp only [Bool.or_eq_true, Bool.and_eq_true, decide_eq_true_eq] at h
    rcases h with h | ⟨h, k⟩
    · exact .inl h
    · exact .inr ⟨h, by omega⟩,
   fun x y z h k => by
    rw [firstB_false] at *
    exact leC_trans h k⟩

/-- The first row's entry of its key and number. -/
def Top (rows : List (List Ent)) (x : Ent) : Prop := ∃ (i : Nat) (r : List Ent), rows[i]? = some r ∧ x ∈ r ∧ ∀ (j : Nat) (r' : List Ent) (y : Ent), j < i → rows[j]? = some r' → y ∈ r' → sameB y x = false
/-- Rows together. -/
def IsAll (rows : List (List Ent)) (out : List Ent) : Prop := Row out ∧ ∀ x, x ∈ out ↔ Top rows x
theorem IsAll.unique {rows : List (List Ent)} {a b : List Ent} (h : IsAll rows a) (k : IsAll rows b) : a = b := row_ext h.1 k.1 fun x => (h.2 x).trans (k.2 x).symm

structure MInv (rows : List (List Ent)) (cs : List Cur) (out : List Ent) : Prop where
  suf : ∀ c ∈ cs, c.l ≠ [] ∧ ∃ r, rows[c.n]? = some r ∧ c.l <:+ r
  dist : cs.Pairwise (fun a b => a.n ≠ b.n)
  row : Row out
  top : ∀ y ∈ out, Top rows y
  cover : ∀ (i : Nat) (r : List Ent) (x : Ent), rows[i]? = some r → x ∈ r → (∃ c ∈ cs, c.n = i ∧ x ∈ c.l) ∨ ∃ y ∈ out, sameB y x = true
  below : ∀ y ∈ out, ∀ c ∈ cs, ∀ x ∈ c.l, aheadB x y = false

theorem MInv.perm {rows : List (List Ent)} {cs ds : List Cur} {out : List Ent} (h : MInv rows cs out) (p : cs.Perm ds) : MInv rows ds out :=
  ⟨fun c hc => h.suf c (p.mem_iff.2 hc), (p.pairwise_iff (fun {a b} h => Ne.symm h)).1 h.dist, h.row, h.top,
   fun i r x h1 h2 => (h.cover i r x h1 h2).imp (fun ⟨c, hc, e⟩ => ⟨c, p.mem_iff.1 hc, e⟩) id, fun y hy c hc => h.below y hy c (p.mem_iff.2 hc)⟩
theorem MInv.done {rows : List (List Ent)} {out : List Ent} (hr : ∀ r ∈ rows, Row r) (h : MInv rows [] out) : IsAll rows out := by
  refine ⟨h.row, fun x => ⟨h.top x, ?_⟩⟩
  rintro ⟨i, r, hi, hx, hf⟩
  rcases h.cover i r x hi hx with ⟨c, hc, _⟩ | ⟨y, hy, hs⟩
  · simp at hc
  · obtain ⟨j, r', hj, hy', hf'⟩ := h.top y hy
    rcases Nat.lt_trichotomy i j with k | rfl | k
    · have := hf' i r x k hi hx
      rw [same_symm hs] at this; cases this
    · rw [hi] at hj
      obtain rfl := Option.some.inj hj
      rwa [← row_inj (hr r (List.mem_of_getElem? hi)) hy' hx hs]
    · have := hf j r' y k hj hy'
      rw [hs] at this; cases this

/-- One more, unless it is there. -/
def pushE (out : List Ent) (x : Ent) : List Ent := match out.getLast? with | none => [x] | some y => if sameB y x = true then out else out ++ [x]
def tailC (c : Cur) (A : Option Addr) (k : Nat) (rest : List Cur) : List Cur := if c.l.length ≤ 1 then rest else { c with A := A, c := k, l := c.l.tail } :: rest

theorem row_last {out : List Ent} {y : Ent} (h : Row out) (hl : out.getLast? = some y) : ∀ z ∈ out, sameB z y = true ∨ aheadB z y = true := by
  intro z hz
  obtain ⟨h1, rfl⟩ : ∃ h1, out.getLast h1 = y := by
    have hne : out ≠ [] := by rintro rfl; simp at hl
    rw [List.getLast?_eq_some_getLast hne] at hl
    exact ⟨hne, Option.some.inj hl⟩
  have e : out = out.dropLast ++ [out.getLast h1] := (List.dropLast_concat_getLast h1).symm
  rw [e] at hz h
  rcases List.mem_append.1 hz with hz | hz
  · exact .inr ((List.pairwise_append.1 h).2.2 z hz _ (by simp))
  · obtain rfl := List.mem_singleton.1 hz
    exact .inl (same_refl _)

theorem MInv.step {rows : List (List Ent)} {c : Cur} {rest : List Cur} {out : List Ent} {x : Ent} {t : List Ent} (hr : ∀ r ∈ rows, Row r) (h : MInv rows (c :: rest) out) (hl : c.l = x :: t) (hm : ∀ d ∈ rest, leC c d) (A : Option Addr) (k : Nat) :
    MInv rows (tailC c A k rest) (pushE out x) := by
  obtain ⟨r0, hr0, hsuf⟩ := (h.suf c (by simp)).2
  have hrow0 := hr r0 (List.mem_of_getElem? hr0)
  have hrowc : Row c.l := hrow0.sublist hsuf.sublist
  rw [hl] at hrowc
  have hxt := (List.pairwise_cons.1 hrowc).1
  have hxc : x ∈ c.l := by rw [hl]; simp
  have hhd : c.hd = x := by simp [Cur.hd, hl]
  have hnr := List.pairwise_cons.1 h.dist
  have hbel : ∀ y ∈ out, aheadB x y = false := fun y hy => h.below y hy c (by simp) x hxc
  have htl : ∀ d ∈ tailC c A k rest, (d ∈ rest) ∨ (d.n = c.n ∧ d.l = t ∧ t ≠ []) := by
    intro d hd
    unfold tailC at hd
    split at hd
    · exact .inl hd
    · rename_i hlen
      rcases List.mem_cons.1 hd with rfl | hd
      · refine .inr ⟨rfl, by simp [hl], ?_⟩
        rintro rfl
        rw [hl] at hlen; simp at hlen
      · exact .inl hd
  have hmem : ∀ d ∈ rest, d ∈ tailC c A k rest := by
    intro d hd
    unfold tailC
    split
    · exact hd
    · exact List.mem_cons_of_mem _ hd
  have hct : t ≠ [] → ∃ d ∈ tailC c A k rest, d.n = c.n ∧ d.l = t := by
    intro ht
    unfold tailC
    rw [if_neg (by rw [hl]; cases t with | nil => exact absurd rfl ht | cons a t => simp)]
    exact ⟨_, List.mem_cons_self .., rfl, by simp [hl]⟩
  -- entries of the others are at or behind x
  have hge : ∀ d ∈ rest, ∀ z ∈ d.l, sameB x z = true ∨ aheadB x z = true := by
    intro d hd z hz
    obtain ⟨r1, hr1, hs1⟩ := (h.suf d (List.mem_cons_of_mem _ hd)).2
    have hrd : Row d.l := (hr r1 (List.mem_of_getElem? hr1)).sublist hs1.sublist
    have hle := hm d hd
    have h1 : sameB d.hd z = true ∨ aheadB d.hd z = true := by
      cases hdl : d.l with
      | nil => rw [hdl] at hz; simp at hz
      | cons a m =>
        have e : d.hd = a := by simp [Cur.hd, hdl]
        rw [hdl] at hz hrd
        rw [e]
        rcases List.mem_cons.1 hz with rfl | hz
        · exact .inl (same_refl _)
        · exact .inr ((List.pairwise_cons.1 hrd).1 z hz)
    unfold leC at hle
    rw [hhd] at hle
    rcases hle with h2 | ⟨h2, _⟩
    · rcases h1 with h1 | h1
      · exact .inr (by rw [← same_right h1]; exact h2)
      · exact .inr (aheadB_trans h2 h1)
    · rcases h1 with h1 | h1
      · exact .inl (same_trans h2 h1)
      · exact .inr (by rw [same_left h2]; exact h1)
  have hpush : (pushE out x = out ∧ ∃ y ∈ out, sameB y x = true) ∨ (pushE out x = out ++ [x] ∧ ∀ y ∈ out, aheadB y x = true) := by
    unfold pushE
    cases hlast : out.getLast? with
    | none =>
      have : out = [] := by simpa using hlast
      subst this
      exact .inr ⟨rfl, by simp⟩
    | some y =>
      have hy : y ∈ out := List.mem_of_getLast? hlast
      by_cases hs : sameB y x = true
      · exact .inl ⟨if_pos hs, y, hy, hs⟩
      · refine .inr ⟨if_neg hs, fun z hz => ?_⟩
        have hyx : aheadB y x = true := by
          rcases ahead_tri y x with k | k | k
          · exact k
          · exact absurd k hs
          · rw [hbel y hy] at k; cases k
        rcases row_last h.row hlast z hz with k | k
        · rw [same_left k]; exact hyx
        · exact aheadB_trans k hyx
  have hsame : ∃ y ∈ pushE out x, sameB y x = true := by
    rcases hpush with ⟨e, y, hy, hs⟩ | ⟨e, _⟩
    · exact ⟨y, by rw [e]; exact hy, hs⟩
    · exact ⟨x, by rw [e]; simp, same_refl x⟩
  have hold : ∀ y ∈ out, y ∈ pushE out x := by
    intro y hy
    rcases hpush with ⟨e, _⟩ | ⟨e, _⟩
    · rw [e]; exact hy
    · rw [e]; exact List.mem_append_left _ hy
  constructor
  · intro d hd
    rcases htl d hd with hd | ⟨h1, h2, h3⟩
    · exact h.suf d (List.mem_cons_of_mem _ hd)
    · rw [h1, h2]
      exact ⟨h3, r0, hr0, (List.suffix_cons x t).trans (by rw [← hl]; exact hsuf)⟩
  · unfold tailC
    split
    · exact hnr.2
    · exact List.pairwise_cons.2 ⟨hnr.1, hnr.2⟩
  · rcases hpush with ⟨e, _⟩ | ⟨e, hb⟩
    · rw [e]; exact h.row
    · rw [e]
      exact List.pairwise_append.2 ⟨h.row, List.pairwise_singleton _ _, fun a ha b hb' => by rw [List.mem_singleton.1 hb']; exact hb a ha⟩
  · intro y hy
    rcases hpush with ⟨e, _⟩ | ⟨e, hb⟩
    · rw [e] at hy; exact h.top y hy
    · rw [e] at hy
      rcases List.mem_append.1 hy with hy | hy
      · exact h.top y hy
      · obtain rfl := List.mem_singleton.1 hy
        refine ⟨c.n, r0, hr0, hsuf.subset hxc, fun j r' z hj hjr hz => ?_⟩
        cases hs : sameB z y with
        | false => rfl
        | true =>
          exfalso
          rcases h.cover j r' z hjr hz with ⟨d, hd, hdn, hzd⟩ | ⟨u, hu, hus⟩
          · rcases List.mem_cons.1 hd with rfl | hd
            · omega
            · have hle := hm d hd
              unfold leC at hle
              rw [hhd] at hle
              obtain ⟨r1, hr1, hs1⟩ := (h.suf d (List.mem_cons_of_mem _ hd)).2
              have hrd : Row d.l := (hr r1 (List.mem_of_getElem? hr1)).sublist hs1.sublist
              have h1 : sameB d.hd z = true ∨ aheadB d.hd z = true := by
                cases hdl : d.l with
                | nil => rw [hdl] at hzd; simp at hzd
                | cons a m =>
                  have e : d.hd = a := by simp [Cur.hd, hdl]
                  rw [hdl] at hzd hrd
                  rw [e]
                  rcases List.mem_cons.1 hzd with rfl | hzd
                  · exact .inl (same_refl _)
                  · exact .inr ((List.pairwise_cons.1 hrd).1 z hzd)
              rcases hle with h2 | ⟨h2, h3⟩
              · rcases h1 with h1 | h1
                · rw [same_right h1, same_right hs, aheadB_irrefl] at h2; cases h2
                · have := aheadB_trans h2 h1
                  rw [same_right hs, aheadB_irrefl] at this; cases this
              · omega
          · have := hb u hu
            rw [same_left (same_trans hus hs), aheadB_irrefl] at this; cases this
  · intro i r z hi hz
    rcases h.cover i r z hi hz with ⟨d, hd, hdn, hzd⟩ | ⟨y, hy, hs⟩
    · rcases List.mem_cons.1 hd with rfl | hd
      · rw [hl] at hzd
        rcases List.mem_cons.1 hzd with rfl | hzd
        · exact .inr hsame
        · obtain ⟨d', hd', e1, e2⟩ := hct (by rintro rfl; simp at hzd)
          exact .inl ⟨d', hd', e1.trans hdn, by rw [e2]; exact hzd⟩
      · exact .inl ⟨d, hmem d hd, hdn, hzd⟩
    · exact .inr ⟨y, hold y hy, hs⟩
  · intro y hy d hd z hz
    have hxz : sameB x z = true ∨ aheadB x z = true := by
      rcases htl d hd with hd | ⟨_, h2, _⟩
      · exact hge d hd z hz
      · rw [h2] at hz; exact .inr (hxt z hz)
    have hyx : aheadB x y = false := by
      rcases hpush with ⟨e, _⟩ | ⟨e, _⟩
      · rw [e] at hy; exact hbel y hy
      · rw [e] at hy
        rcases List.mem_append.1 hy with hy | hy
        · exact hbel y hy
        · rw [List.mem_singleton.1 hy]; exact aheadB_irrefl _
    cases hzy : aheadB z y with
    | false => rfl
    | true =>
      rcases hxz with k | k
      · rw [same_left k, hzy] at hyx; cases hyx
      · rw [aheadB_trans k hzy] at hyx; cases hyx
end Go.Scree
