/- The document's plain ways and the program's are the same: in plain Lean. -/
import Derived.Test.YtihbflmjgndfiaaEntN
import Derived.Test.YtihbflmjgndfiaaEntQc
import Derived.Test.YtihbflmjgndfiaaEntQ
namespace Go.Scree

/-- Does an earlier entry cover it? -/
def covB (least : Int) (x y : Ent) : Bool := eqK y.key x.key && decide (y.seq ≤ least)
theorem cov_hid {l : List Ent} (hr : Row l) {least : Int} {i : Nat} {x : Ent} (hx : l[i]? = some x) : (l.take i).any (covB least x) = hidB (backP l i) least x := by
  obtain ⟨hi, e⟩ := List.getElem?_eq_some_iff.1 hx
  cases hh : hidB (backP l i) least x with
  | true =>
    obtain ⟨y, hy, hk, hs⟩ := hidB_iff.1 hh
    unfold backP at hy
    split at hy
    · cases hy
    · refine List.any_eq_true.2 ⟨y, ?_, ?_⟩
      · rw [List.mem_take_iff_getElem]
        obtain ⟨h1, h2⟩ := List.getElem?_eq_some_iff.1 hy
        exact ⟨i - 1, by omega, h2⟩
      · simp [covB, eqK_iff, hk, hs]
  | false =>
    rw [List.any_eq_false]
    intro y hy hc
    simp only [covB, Bool.and_eq_true, eqK_iff, decide_eq_true_eq] at hc
    obtain ⟨hk, hs⟩ := hc
    rw [List.mem_take_iff_getElem] at hy
    obtain ⟨j, hj, ej⟩ := hy
    have hyj : l[j]? = some y := by rw [List.getElem?_eq_getElem (by omega), ej]
    have hz : l[i - 1]? = some l[i - 1] := List.getElem?_eq_getElem (by omega)
    have hzx := row_lt hr hz hx (by omega)
    have : hidB (backP l i) least x = true := by
      refine hidB_iff.2 ⟨l[i - 1], by unfold backP; rw [if_neg (by omega)]; exact hz, ?_⟩
      by_cases hji : j = i - 1
      · subst hji
        rw [hyj] at hz
        rw [← Option.some.inj hz]; exact ⟨hk, hs⟩
      · have hyz := row_lt hr hyj hz (by omega)
        rw [aheadB_iff] at hyz hzx
        rcases hyz with p | ⟨p, q⟩ <;> rcases hzx with u | ⟨u, v⟩
        · have := ltK_trans p u; rw [hk, ltK_irrefl] at this; cases this
        · rw [u, hk, ltK_irrefl] at p; cases p
        · rw [← p, hk, ltK_irrefl] at u; cases u
        · exact ⟨u, by omega⟩
    rw [hh] at this; cases this

/-- What the last key of which something was found says of those ahead. -/
structure DInv (seq : Int) (m : List Ent) (d : Option ByteArray) : Prop where
  some_ : ∀ k, d = some k → ∃ y ∈ m, y.key = k ∧ y.seq ≤ seq
  all_ : ∀ y ∈ m, y.seq ≤ seq → ∃ k, d = some k ∧ (y.key = k ∨ ltK y.key k = true)
theorem DInv.start (seq : Int) : DInv seq [] none := ⟨(fun k h => by cases h), (by simp)⟩
/-- Is one the first of its key that is seen? -/
theorem DInv.first {seq : Int} {m : List Ent} {d : Option ByteArray} {x : Ent} (h : DInv seq m d) (hr : ∀ y ∈ m, aheadB y x = true) : (d = some x.key) ↔ m.any (covB seq x) = true := by
  constructor
  · intro e
    obtain ⟨y, hy, hk, hs⟩ := h.some_ _ e
    exact List.any_eq_true.2 ⟨y, hy, by simp [covB, eqK_iff, hk, hs]⟩
  · intro e
    obtain ⟨y, hy, hc⟩ := List.any_eq_true.1 e
    simp only [covB, Bool.and_eq_true, eqK_iff, decide_eq_true_eq] at hc
    obtain ⟨k, hd, hk⟩ := h.all_ y hy hc.2
    obtain ⟨z, hz, hzk, _⟩ := h.some_ k hd
    rw [hd]
    congr 1
    have hzx := hr z hz
    rcases hk with hk | hk
    · rw [← hk, hc.1]
    · rcases aheadB_iff.1 hzx with q | ⟨q, _⟩
      · rw [hzk] at q
        have := ltK_trans hk q; rw [hc.1, ltK_irrefl] at this; cases this
      · rw [← hzk, q]
theorem DInv.skip {seq : Int} {m : List Ent} {d : Option ByteArray} {x : Ent} (h : DInv seq m d) (c : seq < x.seq ∨ d = some x.key) : DInv seq (m ++ [x]) d := by
  refine ⟨fun k hk => let ⟨y, hy, e⟩ := h.some_ k hk; ⟨y, List.mem_append_left _ hy, e⟩, fun y hy hs => ?_⟩
  rcases List.mem_append.1 hy with hy | hy
  · exact h.all_ y hy hs
  · obtain rfl := List.mem_singleton.1 hy
    rcases c with c | c
    · omega
    · exact ⟨_, c, .inl rfl⟩
theorem DInv.next {seq : Int} {m : List Ent} {d : Option ByteArray} {x : Ent} (h : DInv seq m d) (hr : ∀ y ∈ m, aheadB y x = true) (hs : x.seq ≤ seq) : DInv seq (m ++ [x]) (some x.key) := by
  refine ⟨fun k hk => ⟨x, by simp, Option.some.inj hk, hs⟩, fun y hy _ => ⟨x.key, rfl, ?_⟩⟩
  rcases List.mem_append.1 hy with hy | hy
  · rcases aheadB_iff.1 (hr y hy) with q | ⟨q, _⟩
    · exact .inr q
    · exact .inl q
  · obtain rfl := List.mem_singleton.1 hy
    exact .inl rfl
theorem row_before {l : List Ent} (hr : Row l) {i : Nat} {x : Ent} (hx : l[i]? = some x) : ∀ y ∈ l.take i, aheadB y x = true := by
  intro y hy
  obtain ⟨hi, _⟩ := List.getElem?_eq_some_iff.1 hx
  rw [List.mem_take_iff_getElem] at hy
  obtain ⟨j, hj, ej⟩ := hy
  exact row_lt hr ((List.getElem?_eq_getElem (i := j) (by omega)).trans (congrArg some ej)) hx (by omega)

/-- One more entry looked at. -/
def getE (key : ByteArray) (seq : Int) (best : Option Ent) (x : Ent) : Option Ent :=
  if ofKey key seq x = true then (match best with | none => some x | some y => if y.seq < x.seq then some x else some y) else best
theorem getE_stay {key : ByteArray} {seq : Int} {b : Ent} : ∀ {l : List Ent}, (∀ y ∈ l, ofKey key seq y = true → y.seq ≤ b.seq) → l.foldl (getE key seq) (some b) = some b
  | [], _ => rfl
  | x :: r, h => by
    rw [List.foldl_cons]
    have : getE key seq (some b) x = some b := by
      unfold getE
      split
      · rename_i hk
        have := h x (List.mem_cons_self ..) hk
        dsimp only
        rw [if_neg (by omega)]
      · rfl
    rw [this]
    exact getE_stay fun y hy => h y (List.mem_cons_of_mem _ hy)
theorem getE_row {key : ByteArray} {seq : Int} : ∀ {l : List Ent} {best : Option Ent}, Row l → l.foldl (getE key seq) best = getStep key seq best l
  | [], best, _ => by rw [getStep_none (by simp [candP])]; rfl
  | x :: r, best, hr => by
    have hr' := List.pairwise_cons.1 hr
    have hc := cand_find hr key seq
    rw [List.foldl_cons]
    by_cases hk : ofKey key seq x = true
    · rw [List.find?_cons_of_pos hk] at hc
      have hle : ∀ y ∈ r, ofKey key seq y = true → y.seq ≤ x.seq := by
        intro y hy hyk
        rcases aheadB_iff.1 (hr'.1 y hy) with q | ⟨_, q⟩
        · rw [(ofKey_iff.1 hk).1, (ofKey_iff.1 hyk).1, ltK_irrefl] at q; cases q
        · omega
      unfold getE
      rw [if_pos hk]
      cases best with
      | none => rw [getStep_first (rowB_iff.2 hr) hc]; exact getE_stay hle
      | some b =>
        dsimp only
        by_cases hlt : b.seq < x.seq
        · rw [if_pos hlt, getStep_more (rowB_iff.2 hr) hc hlt]; exact getE_stay hle
        · rw [if_neg hlt, getStep_less hc (by omega)]
          exact getE_stay fun y hy hyk => by have := hle y hy hyk; omega
    · rw [List.find?_cons_of_neg hk] at hc
      have : getE key seq best x = best := by unfold getE; rw [if_neg hk]
      rw [this, getE_row hr'.2]
      have hc2 := cand_find hr'.2 key seq
      unfold getStep
      rw [if_pos (rowB_iff.2 hr'.2), if_pos (rowB_iff.2 hr), hc, hc2]
end Go.Scree
