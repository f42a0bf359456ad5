/- Entries, their order, rows: in plain Lean. -/
import Derived.Lib.Strings
set_option linter.all false
namespace Go.Scree

/-- The model's order of strings is that of the lists of their bytes. -/
theorem less_lists : ∀ x y : List UInt8, Op.bytesLess x y = decide (x < y)
  | [], [] => by simp [Op.bytesLess]
  | _ :: _, [] => by simp [Op.bytesLess]
  | [], _ :: _ => by simp [Op.bytesLess]
  | a :: x, b :: y => by
    rw [Op.bytesLess, less_lists x y]
    simp only [List.cons_lt_cons_iff]
    by_cases h1 : a < b <;> by_cases h2 : a = b <;> by_cases h3 : x < y <;> simp [h1, h2, h3]

structure Ent where
  key : ByteArray
  seq : Int
  del : Bool
  val : ByteArray

def ltK (a b : ByteArray) : Bool := decide (a.data.toList < b.data.toList)
def eqK (a b : ByteArray) : Bool := a.toList == b.toList
theorem less_ltK (a b : ByteArray) : Op.bytesLess a.toList b.toList = ltK a b := by
  rw [less_lists, Lib.toList_data, Lib.toList_data]; rfl
theorem eqK_iff {a b : ByteArray} : eqK a b = true ↔ a = b := by
  unfold eqK
  rw [Lib.toList_data, Lib.toList_data, beq_iff_eq]
  constructor
  · intro h
    cases a; cases b
    simp only [ByteArray.mk.injEq]
    exact Array.toList_inj.1 h
  · rintro rfl; rfl
theorem eqK_false {a b : ByteArray} : eqK a b = false ↔ a ≠ b := by
  rw [← Bool.not_eq_true, eqK_iff]
theorem ltK_irrefl (a : ByteArray) : ltK a a = false := by simp [ltK, List.lt_irrefl]
theorem ltK_trans {a b c : ByteArray} (h : ltK a b = true) (k : ltK b c = true) : ltK a c = true := by
  simp only [ltK, decide_eq_true_eq] at *
  exact List.lt_trans h k
theorem ltK_tri (a b : ByteArray) : ltK a b = true ∨ a = b ∨ ltK b a = true := by
  simp only [ltK, decide_eq_true_eq]
  by_cases h : a.data.toList < b.data.toList
  · exact .inl h
  · by_cases k : b.data.toList < a.data.toList
    · exact .inr (.inr k)
    · refine .inr (.inl ?_)
      have e := List.le_antisymm (List.not_lt.1 k) (List.not_lt.1 h)
      cases a; cases b
      simp only [ByteArray.mk.injEq]
      exact Array.toList_inj.1 e
theorem ltK_asymm {a b : ByteArray} (h : ltK a b = true) : ltK b a = false := by
  cases k : ltK b a with
  | false => rfl
  | true => have := ltK_trans h k; rw [ltK_irrefl] at this; cases this

/-- One is ahead of another. -/
def aheadB (a b : Ent) : Bool := ltK a.key b.key || (eqK a.key b.key && decide (b.seq < a.seq))
def sameB (a b : Ent) : Bool := eqK a.key b.key && decide (a.seq = b.seq)
def cmpE (a b : Ent) : Int := if aheadB a b = true then -1 else if sameB a b = true then 0 else 1

theorem aheadB_iff {a b : Ent} : aheadB a b = true ↔ ltK a.key b.key = true ∨ a.key = b.key ∧ b.seq < a.seq := by
  simp only [aheadB, Bool.or_eq_true, Bool.and_eq_true, eqK_iff, decide_eq_true_eq]
theorem sameB_iff {a b : Ent} : sameB a b = true ↔ a.key = b.key ∧ a.seq = b.seq := by
  simp only [sameB, Bool.and_eq_true, eqK_iff, decide_eq_true_eq]
theorem aheadB_irrefl (a : Ent) : aheadB a a = false := by
  cases h : aheadB a a with
  | false => rfl
  | true =>
    rcases aheadB_iff.1 h with h | h
    · rw [ltK_irrefl] at h; cases h
    · omega
theorem aheadB_trans {a b c : Ent} (h : aheadB a b = true) (k : aheadB b c = true) : aheadB a c = true := by
  rw [aheadB_iff] at *
  rcases h with h | ⟨h1, h2⟩ <;> rcases k with k | ⟨k1, k2⟩
  · exact .inl (ltK_trans h k)
  · exact .inl (k1 ▸ h)
  · exact .inl (h1 ▸ k)
  · exact .inr ⟨h1.trans k1, by omega⟩
theorem aheadB_asymm {a b : Ent} (h : aheadB a b = true) : aheadB b a = false := by
  cases k : aheadB b a with
  | false => rfl
  | true => have := aheadB_trans h k; rw [aheadB_irrefl] at this; cases this
theorem ahead_tri (a b : Ent) : aheadB a b = true ∨ sameB a b = true ∨ aheadB b a = true := by
  rw [aheadB_iff, aheadB_iff, sameB_iff]
  rcases ltK_tri a.key b.key with h | h | h
  · exact .inl (.inl h)
  · rcases Int.lt_trichotomy a.seq b.seq with k | k | k
    · exact .inr (.inr (.inr ⟨h.symm, k⟩))
    · exact .inr (.inl ⟨h, k⟩)
    · exact .inl (.inr ⟨h, k⟩)
  · exact .inr (.inr (.inl h))
theorem same_left {a b c : Ent} (h : sameB a b = true) : aheadB a c = aheadB b c := by
  obtain ⟨h1, h2⟩ := sameB_iff.1 h
  unfold aheadB; rw [h1, h2]
theorem same_right {a b c : Ent} (h : sameB a b = true) : aheadB c a = aheadB c b := by
  obtain ⟨h1, h2⟩ := sameB_iff.1 h
  unfold aheadB; rw [h1, h2]
theorem same_symm {a b : Ent} (h : sameB a b = true) : sameB b a = true := by
  rw [sameB_iff] at *; exact ⟨h.1.symm, h.2.symm⟩
theorem same_refl (a : Ent) : sameB a a = true := sameB_iff.2 ⟨rfl, rfl⟩
theorem same_trans {a b c : Ent} (h : sameB a b = true) (k : sameB b c = true) : sameB a c = true := by
  rw [sameB_iff] at *; exact ⟨h.1.trans k.1, h.2.trans k.2⟩
theorem ahead_not_same {a b : Ent} (h : aheadB a b = true) : sameB a b = false := by
  cases k : sameB a b with
  | false => rfl
  | true => rw [same_left k, aheadB_irrefl] at h; cases h
theorem cmp_ahead {a b : Ent} (h : aheadB a b = true) : cmpE a b = -1 := if_pos h
theorem cmp_same {a b : Ent} (h : sameB a b = true) : cmpE a b = 0 := by
  unfold cmpE
  rw [if_neg (by rw [same_left h, aheadB_irrefl]; simp), if_pos h]
theorem cmp_behind {a b : Ent} (h : aheadB b a = true) : cmpE a b = 1 := by
  unfold cmpE
  rw [if_neg (by rw [aheadB_asymm h]; simp), if_neg]
  intro k
  have := ahead_not_same h
  rw [same_symm k] at this; cases this
theorem cmp_neg (a b : Ent) : decide (cmpE a b < 0) = aheadB a b := by
  rcases ahead_tri a b with h | h | h
  · rw [cmp_ahead h, h]; rfl
  · rw [cmp_same h, same_left h, aheadB_irrefl]; rfl
  · rw [cmp_behind h, aheadB_asymm h]; rfl
theorem cmp_zero (a b : Ent) : decide (cmpE a b = 0) = sameB a b := by
  rcases ahead_tri a b with h | h | h
  · rw [cmp_ahead h, ahead_not_same h]; rfl
  · rw [cmp_same h, h]; rfl
  · rw [cmp_behind h]
    cases k : sameB a b with
    | false => rfl
    | true => have := ahead_not_same h; rw [same_symm k] at this; cases this

/-- A row. -/
def Row (l : List Ent) : Prop := l.Pairwise fun a b => aheadB a b = true
instance (l : List Ent) : Decidable (Row l) := inferInstanceAs (Decidable (l.Pairwise _))
def rowB (l : List Ent) : Bool := decide (Row l)

theorem row_of_adj {l : List Ent} (h : ∀ i a b, l[i]? = some a → l[i + 1]? = some b → aheadB a b = true) : Row l := by
  induction l with
  | nil => exact List.Pairwise.nil
  | cons x l ih =>
    have hr : Row l := ih fun i a b ha hb => h (i + 1) a b (by simpa using ha) (by simpa using hb)
    refine List.pairwise_cons.2 ⟨fun y hy => ?_, hr⟩
    cases l with
    | nil => simp at hy
    | cons z l =>
      have hz := h 0 x z rfl rfl
      rcases List.mem_cons.1 hy with rfl | hy
      · exact hz
      · exact aheadB_trans hz (List.rel_of_pairwise_cons hr hy)
theorem row_adj {l : List Ent} (h : Row l) {i : Nat} {a b : Ent} (ha : l[i]? = some a) (hb : l[i + 1]? = some b) : aheadB a b = true := by
  obtain ⟨h1, rfl⟩ := List.getElem?_eq_some_iff.1 ha
  obtain ⟨h2, rfl⟩ := List.getElem?_eq_some_iff.1 hb
  exact List.pairwise_iff_getElem.1 h i (i + 1) h1 h2 (by omega)
theorem row_lt {l : List Ent} (h : Row l) {i j : Nat} {a b : Ent} (ha : l[i]? = some a) (hb : l[j]? = some b) (hij : i < j) : aheadB a b = true := by
  obtain ⟨h1, rfl⟩ := List.getElem?_eq_some_iff.1 ha
  obtain ⟨h2, rfl⟩ := List.getElem?_eq_some_iff.1 hb
  exact List.pairwise_iff_getElem.1 h i j h1 h2 hij
theorem row_bad {l : List Ent} {i : Nat} {a b : Ent} (ha : l[i]? = some a) (hb : l[i + 1]? = some b) (h : aheadB a b = false) : rowB l = false := by
  unfold rowB
  rw [decide_eq_false_iff_not]
  intro k
  rw [row_adj k ha hb] at h; cases h
theorem rowB_iff {l : List Ent} : rowB l = true ↔ Row l := decide_eq_true_iff
/-- The same id in one row is the same entry. -/
theorem row_inj {l : List Ent} (h : Row l) {a b : Ent} (ha : a ∈ l) (hb : b ∈ l) (s : sameB a b = true) : a = b := by
  obtain ⟨i, hi⟩ := List.getElem?_of_mem ha
  obtain ⟨j, hj⟩ := List.getElem?_of_mem hb
  rcases Nat.lt_trichotomy i j with k | rfl | k
  · have := ahead_not_same (row_lt h hi hj k); rw [s] at this; cases this
  · rw [hi] at hj; exact Option.some.inj hj
  · have := ahead_not_same (row_lt h hj hi k); rw [same_symm s] at this; cases this
/-- Rows that have the same entries are the same. -/
theorem row_ext : ∀ {l m : List Ent}, Row l → Row m → (∀ x, x ∈ l ↔ x ∈ m) → l = m
  | [], [], _, _, _ => rfl
  | [], y :: m, _, _, h => by have := (h y).2 (by simp); simp at this
  | x :: l, [], _, _, h => by have := (h x).1 (by simp); simp at this
  | x :: l, y :: m, hl, hm, h => by
    have hl' := List.pairwise_cons.1 hl
    have hm' := List.pairwise_cons.1 hm
    have e : x = y := by
      rcases List.mem_cons.1 ((h x).1 (by simp)) with e | e
      · exact e
      · rcases List.mem_cons.1 ((h y).2 (by simp)) with e2 | e2
        · exact e2.symm
        · have h1 := hm'.1 x e
          have h2 := hl'.1 y e2
          rw [aheadB_asymm h1] at h2; cases h2
    subst e
    congr 1
    refine row_ext hl'.2 hm'.2 fun z => ?_
    constructor
    · intro hz
      rcases List.mem_cons.1 ((h z).1 (List.mem_cons_of_mem _ hz)) with rfl | k
      · have := hl'.1 z hz; rw [aheadB_irrefl] at this; cases this
      · exact k
    · intro hz
      rcases List.mem_cons.1 ((h z).2 (List.mem_cons_of_mem _ hz)) with rfl | k
      · have := hm'.1 z hz; rw [aheadB_irrefl] at this; cases this
      · exact k
end Go.Scree
