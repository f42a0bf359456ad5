/- Merging two rows in place: in plain Lean. · Runs in a row: in plain Lean. -/
import Derived.Test.YtdmdnhceiddcfaaGreatLvlM
import Derived.Lib.Bytealg
import Derived.Sort.LotA
set_option linter.all false
namespace Go.Scree

theorem compare_lt : ∀ a b : List UInt8, (decide (Lib.compareBytes a b < 0)) = decide (a < b)
  | [], [] => by simp [Lib.compareBytes]
  | [], _ :: _ => by simp [Lib.compareBytes]
  | _ :: _, [] => by simp [Lib.compareBytes]
  | a :: x, b :: y => by
    rw [Lib.compareBytes]
    simp only [List.cons_lt_cons_iff]
    by_cases h1 : a < b
    · simp [h1]
    · by_cases h2 : b < a
      · have h3 : a ≠ b := fun e => by subst e; exact h1 h2
        simp [h1, h2, h3]
      · have h3 : a = b := by
          have := UInt8.le_antisymm (UInt8.not_lt.1 h2) (UInt8.not_lt.1 h1)
          exact this
        subst h3
        have := compare_lt x y
        simp [this]
/-- A search by halves, half way. -/
structure Half (p : Nat → Bool) (lo hi s r : Nat) : Prop where
  h1 : lo ≤ s
  h2 : s ≤ r
  h3 : r ≤ hi
  yes : ∀ c, lo ≤ c → c < s → p c = true
  no : ∀ c, r ≤ c → c < hi → p c = false
def Falls (p : Nat → Bool) (lo hi : Nat) : Prop := ∀ c d, lo ≤ c → c ≤ d → d < hi → p d = true → p c = true
theorem Half.start (p : Nat → Bool) {lo hi : Nat} (h : lo ≤ hi) : Half p lo hi lo hi := ⟨Nat.le_refl _, h, Nat.le_refl _, fun c h1 h2 => by omega, fun c h1 h2 => by omega⟩
theorem Half.up {p : Nat → Bool} {lo hi s r : Nat} (h : Half p lo hi s r) (f : Falls p lo hi) (hs : s < r) (hp : p ((s + r) / 2) = true) : Half p lo hi ((s + r) / 2 + 1) r := by
  have := h.h1; have := h.h3
  exact ⟨by omega, by omega, h.h3, fun c h1 h2 => f c _ h1 (by omega) (by omega) hp, h.no⟩
theorem Half.down {p : Nat → Bool} {lo hi s r : Nat} (h : Half p lo hi s r) (f : Falls p lo hi) (hs : s < r) (hp : p ((s + r) / 2) = false) : Half p lo hi s ((s + r) / 2) := by
  have := h.h1; have := h.h3
  refine ⟨h.h1, by omega, by omega, h.yes, fun c h1 h2 => ?_⟩
  cases hc : p c with
  | false => rfl
  | true => rw [f _ c (by omega) h1 h2 hc] at hp; cases hp

theorem upF_of_lt {a b : MetaM} (h : ltK a.first b.first = true) : UpF a b := ltK_asymm h
/-- One element put into a row. -/
theorem one_left {V : List MetaM} {u : MetaM} {t : Nat} (hV : V.Pairwise UpF) (h1 : ∀ x ∈ V.take t, ltK x.first u.first = true) (h2 : ∀ x ∈ V.drop t, ltK x.first u.first = false) : (V.take t ++ u :: V.drop t).Pairwise UpF := by
  have hs : (V.take t ++ V.drop t).Pairwise UpF := by rw [List.take_append_drop]; exact hV
  obtain ⟨p1, p2, p3⟩ := List.pairwise_append.1 hs
  refine List.pairwise_append.2 ⟨p1, List.pairwise_cons.2 ⟨fun y hy => h2 y hy, p2⟩, fun x hx y hy => ?_⟩
  rcases List.mem_cons.1 hy with rfl | hy
  · exact upF_of_lt (h1 x hx)
  · exact p3 x hx y hy
theorem one_right {U : List MetaM} {v : MetaM} {t : Nat} (hU : U.Pairwise UpF) (h1 : ∀ x ∈ U.take t, ltK v.first x.first = false) (h2 : ∀ x ∈ U.drop t, ltK v.first x.first = true) : (U.take t ++ v :: U.drop t).Pairwise UpF := by
  have hs : (U.take t ++ U.drop t).Pairwise UpF := by rw [List.take_append_drop]; exact hU
  obtain ⟨p1, p2, p3⟩ := List.pairwise_append.1 hs
  refine List.pairwise_append.2 ⟨p1, List.pairwise_cons.2 ⟨fun y hy => upF_of_lt (h2 y hy), p2⟩, fun x hx y hy => ?_⟩
  rcases List.mem_cons.1 hy with rfl | hy
  · exact h1 x hx
  · exact p3 x hx y hy
theorem one_perm (V : List MetaM) (u : MetaM) (t : Nat) : (V.take t ++ u :: V.drop t).Perm (u :: V) := by
  have := List.perm_middle (a := u) (l₁ := V.take t) (l₂ := V.drop t)
  rwa [List.take_append_drop] at this
/-- Two halves, each merged. -/
theorem halves {U1 U2 V1 V2 L R : List MetaM} (hU : (U1 ++ U2).Pairwise UpF) (hV : (V1 ++ V2).Pairwise UpF) (h1 : ∀ x ∈ U1, ∀ y ∈ V2, UpF x y) (h2 : ∀ x ∈ V1, ∀ y ∈ U2, UpF x y)
    (pL : L.Perm (U1 ++ V1)) (pR : R.Perm (U2 ++ V2)) (sL : L.Pairwise UpF) (sR : R.Pairwise UpF) : (L ++ R).Perm (U1 ++ U2 ++ (V1 ++ V2)) ∧ (L ++ R).Pairwise UpF := by
  obtain ⟨u1, u2, u3⟩ := List.pairwise_append.1 hU
  obtain ⟨v1, v2, v3⟩ := List.pairwise_append.1 hV
  refine ⟨?_, List.pairwise_append.2 ⟨sL, sR, fun x hx y hy => ?_⟩⟩
  · refine (pL.append pR).trans ?_
    simp only [List.append_assoc]
    refine List.Perm.append_left U1 ?_
    rw [← List.append_assoc, ← List.append_assoc]
    exact List.perm_append_comm.append_right V2
  · rcases List.mem_append.1 (pL.mem_iff.1 hx) with hx | hx <;> rcases List.mem_append.1 (pR.mem_iff.1 hy) with hy | hy
    · exact u3 x hx y hy
    · exact h1 x hx y hy
    · exact h2 x hx y hy
    · exact v3 x hx y hy
theorem up_at {U : List MetaM} (h : U.Pairwise UpF) {i j : Nat} {x y : MetaM} (hi : U[i]? = some x) (hj : U[j]? = some y) (hij : i ≤ j) : UpF x y := by
  rcases Nat.lt_or_ge i j with k | k
  · obtain ⟨h1, rfl⟩ := List.getElem?_eq_some_iff.1 hi
    obtain ⟨h2, rfl⟩ := List.getElem?_eq_some_iff.1 hj
    exact List.pairwise_iff_getElem.1 h i j h1 h2 k
  · obtain rfl : i = j := by omega
    rw [hi] at hj
    obtain rfl := Option.some.inj hj
    exact ltK_irrefl _
theorem lt_of_up_lt {a b c : MetaM} (h : UpF a b) (k : ltK b.first c.first = true) : ltK a.first c.first = true := by
  rcases ltK_tri a.first b.first with h1 | h1 | h1
  · exact ltK_trans h1 k
  · rw [h1]; exact k
  · rw [show UpF a b = (ltK b.first a.first = false) from rfl, h1] at h; cases h
theorem lt_of_lt_up {a b c : MetaM} (h : ltK a.first b.first = true) (k : UpF b c) : ltK a.first c.first = true := by
  rcases ltK_tri b.first c.first with h1 | h1 | h1
  · exact ltK_trans h h1
  · rw [← h1]; exact h
  · rw [show UpF b c = (ltK c.first b.first = false) from rfl, h1] at k; cases k

def at' (xs : List MetaM) (i : Nat) : MetaM := xs[i]?.getD default
theorem at_eq {xs : List MetaM} {i : Nat} {x : MetaM} (h : xs[i]? = some x) : at' xs i = x := by simp [at', h]
theorem at_some {xs : List MetaM} {i : Nat} (h : i < xs.length) : xs[i]? = some (at' xs i) := by simp [at', h]
/-- What the search by halves asks of the two rows U and V: c of the first, p - c of the second (both told from their beginnings). -/
def symP (U V : List MetaM) (q c : Nat) : Bool := !ltK (at' V (q - c)).first (at' U c).first
theorem sym_falls {U V : List MetaM} (hU : U.Pairwise UpF) (hV : V.Pairwise UpF) {q lo hi : Nat} (h1 : hi ≤ U.length) (h2 : hi ≤ q + 1) (h3 : q < V.length + lo) : Falls (symP U V q) lo hi := by
  intro c d h4 h5 h6 hp
  unfold symP at *
  simp only [Bool.not_eq_true'] at *
  have u1 := up_at hU (at_some (xs := U) (i := c) (by omega)) (at_some (xs := U) (i := d) (by omega)) h5
  have v1 := up_at hV (at_some (xs := V) (i := q - d) (by omega)) (at_some (xs := V) (i := q - c) (by omega)) (by omega)
  cases k : ltK (at' V (q - c)).first (at' U c).first with
  | false => rfl
  | true =>
    have := lt_of_up_lt v1 (lt_of_lt_up k u1)
    rw [this] at hp; cases hp
/-- The halves lie as they should: t of U and z of V make the first one. -/
theorem sym_parts {U V : List MetaM} (hU : U.Pairwise UpF) (hV : V.Pairwise UpF) {q lo top t z : Nat} (h : Half (symP U V q) lo top t t) (h1 : top ≤ U.length) (hq : t + z = q + 1) (hz : z ≤ V.length)
    (hlo : lo = 0 ∨ lo + V.length = q + 1) (hhi : top = U.length ∨ top = q + 1) :
    (∀ x ∈ U.take t, ∀ y ∈ V.drop z, UpF x y) ∧ ∀ x ∈ V.take z, ∀ y ∈ U.drop t, UpF x y := by
  have ht := h.h1
  have ht2 := h.h3
  constructor
  · intro x hx y hy
    obtain ⟨i, hi, rfl⟩ := List.getElem_of_mem hx
    obtain ⟨j, hj, rfl⟩ := List.getElem_of_mem hy
    rw [List.length_take] at hi
    rw [List.length_drop] at hj
    have hlt : lo < t := by
      rcases hlo with e | e <;> omega
    have hp := h.yes (t - 1) (by omega) (by omega)
    unfold symP at hp
    simp only [Bool.not_eq_true'] at hp
    rw [show q - (t - 1) = z by omega] at hp
    have a1 := up_at hU (i := i) (j := t - 1) (x := (U.take t)[i]'(by rw [List.length_take]; omega)) (y := at' U (t - 1)) (by rw [List.getElem_take]; exact List.getElem?_eq_getElem (by omega)) (at_some (by omega)) (by omega)
    have a2 := up_at hV (i := z) (j := z + j) (x := at' V z) (y := (V.drop z)[j]'(by rw [List.length_drop]; omega)) (at_some (by omega)) (by rw [List.getElem_drop]; exact List.getElem?_eq_getElem (by omega)) (by omega)
    exact (UpF.trans a1 hp).trans a2
  · intro x hx y hy
    obtain ⟨i, hi, rfl⟩ := List.getElem_of_mem hx
    obtain ⟨j, hj, rfl⟩ := List.getElem_of_mem hy
    rw [List.length_take] at hi
    rw [List.length_drop] at hj
    have hlt : t < top := by
      rcases hhi with e | e <;> omega
    have hp := h.no t (by omega) (by omega)
    unfold symP at hp
    simp only [Bool.not_eq_false'] at hp
    rw [show q - t = z - 1 by omega] at hp
    have a1 := up_at hV (i := i) (j := z - 1) (x := (V.take z)[i]'(by rw [List.length_take]; omega)) (y := at' V (z - 1)) (by rw [List.getElem_take]; exact List.getElem?_eq_getElem (by omega)) (at_some (by omega)) (by omega)
    have a2 := up_at hU (i := t) (j := t + j) (x := at' U t) (y := (U.drop t)[j]'(by rw [List.length_drop]; omega)) (at_some (by omega)) (by rw [List.getElem_drop]; exact List.getElem?_eq_getElem (by omega)) (by omega)
    exact (UpF.trans a1 (upF_of_lt hp)).trans a2
end Go.Scree
namespace Go.Scree

/-- A part of a row. -/
def seg (ys : List MetaM) (lo hi : Nat) : List MetaM := (ys.drop lo).take (hi - lo)
def Up (l : List MetaM) : Prop := l.Pairwise UpF
theorem seg_len {ys : List MetaM} {lo hi : Nat} (h : hi ≤ ys.length) : (seg ys lo hi).length = hi - lo := by
  unfold seg; rw [List.length_take, List.length_drop]; omega
theorem seg_parts {ys : List MetaM} {lo mid hi : Nat} (h1 : lo ≤ mid) (h2 : mid ≤ hi) : ys = ys.take lo ++ (seg ys lo mid ++ (seg ys mid hi ++ ys.drop hi)) := by
  have e3 : ys.drop mid = seg ys mid hi ++ ys.drop hi := by
    unfold seg
    conv => lhs; rw [← List.take_append_drop (hi - mid) (ys.drop mid)]
    rw [List.drop_drop, show mid + (hi - mid) = hi by omega]
  have e2 : ys.drop lo = seg ys lo mid ++ ys.drop mid := by
    unfold seg
    conv => lhs; rw [← List.take_append_drop (mid - lo) (ys.drop lo)]
    rw [List.drop_drop, show lo + (mid - lo) = mid by omega]
  rw [← e3, ← e2, List.take_append_drop]
theorem seg_two {ys : List MetaM} {lo hi : Nat} (h : lo ≤ hi) : ys = ys.take lo ++ (seg ys lo hi ++ ys.drop hi) := by
  have := seg_parts (ys := ys) (Nat.le_refl lo) h
  have e : seg ys lo lo = [] := by unfold seg; simp
  rw [e, List.nil_append] at this
  exact this
theorem seg_take (ys : List MetaM) (lo hi : Nat) (h : lo ≤ hi) : seg ys lo hi = (ys.take hi).drop lo := by
  unfold seg
  rw [List.drop_take]
/-- A part is put anew. -/
structure Put (ys zs W : List MetaM) (lo hi : Nat) : Prop where
  out : zs = ys.take lo ++ (W ++ ys.drop hi)
  lh : lo ≤ hi
  hl : hi ≤ ys.length
  len : W.length = hi - lo
theorem Put.take {ys zs W : List MetaM} {lo hi x : Nat} (h : Put ys zs W lo hi) (hx : x ≤ lo) : zs.take x = ys.take x := by
  have := h.lh; have := h.hl
  rw [h.out, List.take_append_of_le_length (by rw [List.length_take]; omega), List.take_take, Nat.min_eq_left hx]
theorem Put.drop {ys zs W : List MetaM} {lo hi x : Nat} (h : Put ys zs W lo hi) (hx : hi ≤ x) : zs.drop x = ys.drop x := by
  have h1 := h.lh; have h2 := h.hl
  have e : (ys.take lo ++ W).length = hi := by rw [List.length_append, List.length_take, h.len]; omega
  rw [h.out, ← List.append_assoc, List.drop_append, List.drop_of_length_le (by rw [e]; exact hx), List.nil_append, List.drop_drop, e]
  congr 1; omega
theorem Put.seg {ys zs W : List MetaM} {lo hi : Nat} (h : Put ys zs W lo hi) : seg zs lo hi = W := by
  have h1 := h.lh; have h2 := h.hl
  have e : (ys.take lo).length = lo := by rw [List.length_take]; omega
  unfold Scree.seg
  rw [h.out, List.drop_append, List.drop_of_length_le (by rw [e]; exact Nat.le_refl _), List.nil_append, e, Nat.sub_self, List.drop_zero, ← h.len, List.take_left']
  rfl
theorem Put.perm {ys zs W : List MetaM} {lo hi : Nat} (h : Put ys zs W lo hi) (p : W.Perm (Scree.seg ys lo hi)) : zs.Perm ys := by
  rw [h.out]
  conv => rhs; rw [seg_two (ys := ys) h.lh]
  exact (p.append_right _).append_left _
/-- Rows of k each, up to a place. -/
inductive RunsTo (k : Nat) (ys : List MetaM) : Nat → Prop
  | zero : RunsTo k ys 0
  | step {a : Nat} : RunsTo k ys a → a + k ≤ ys.length → Up (seg ys a (a + k)) → RunsTo k ys (a + k)
/-- Rows of k each from a place on; the last one may be shorter. -/
inductive Runs (k : Nat) (ys : List MetaM) : Nat → Prop
  | done {a : Nat} : ys.length ≤ a → Runs k ys a
  | last {a : Nat} : a < ys.length → ys.length ≤ a + k → Up (seg ys a ys.length) → Runs k ys a
  | step {a : Nat} : a + k ≤ ys.length → Up (seg ys a (a + k)) → Runs k ys (a + k) → Runs k ys a
theorem RunsTo.keep {k a : Nat} {ys : List MetaM} (h : RunsTo k ys a) : ∀ {zs : List MetaM}, zs.length = ys.length → zs.take a = ys.take a → RunsTo k zs a := by
  induction h with
  | zero => intro zs _ _; exact .zero
  | @step a h1 h2 h3 ih =>
    intro zs hl ht
    refine .step (ih hl ?_) (by omega) ?_
    · have := congrArg (List.take a) ht
      rwa [List.take_take, List.take_take, Nat.min_eq_left (by omega)] at this
    · rw [seg_take _ _ _ (by omega), ht, ← seg_take _ _ _ (by omega)]; exact h3
theorem Runs.keep {k a : Nat} {ys : List MetaM} (h : Runs k ys a) : ∀ {zs : List MetaM}, zs.length = ys.length → zs.drop a = ys.drop a → Runs k zs a := by
  induction h with
  | done h1 => intro zs hl _; exact .done (by omega)
  | last h1 h2 h3 =>
    intro zs hl hd
    refine .last (by omega) (by omega) ?_
    unfold seg at h3 ⊢
    rw [hd, hl]; exact h3
  | step h1 h2 h3 ih =>
    intro zs hl hd
    refine .step (by omega) ?_ (ih hl ?_)
    · unfold seg at h2 ⊢
      rw [hd]; exact h2
    · have := congrArg (List.drop k) hd
      rwa [List.drop_drop, List.drop_drop] at this
theorem RunsTo.join {k a : Nat} {ys : List MetaM} (h : RunsTo k ys a) : Runs k ys a → Runs k ys 0 := by
  induction h with
  | zero => exact id
  | step h1 h2 h3 ih => exact fun r => ih (.step h2 h3 r)
theorem Runs.whole {k : Nat} {ys : List MetaM} (h : Runs k ys 0) (hk : ys.length ≤ k) : Up ys := by
  have e : seg ys 0 ys.length = ys := by unfold seg; simp
  cases h with
  | done h1 => rw [List.eq_nil_of_length_eq_zero (by omega : ys.length = 0)]; exact List.Pairwise.nil
  | last h1 h2 h3 => rw [e] at h3; exact h3
  | step h1 h2 h3 =>
    have : k = ys.length := by omega
    rw [Nat.zero_add, this, e] at h2; exact h2
/-- The first run, and the others. -/
theorem Runs.first {k a : Nat} {ys : List MetaM} (h : Runs k ys a) (hk : a + k ≤ ys.length) (h0 : 0 < k) : Up (seg ys a (a + k)) ∧ Runs k ys (a + k) := by
  cases h with
  | done h1 => omega
  | last h1 h2 h3 =>
    have : a + k = ys.length := by omega
    rw [this]
    exact ⟨h3, .done (Nat.le_refl _)⟩
  | step h1 h2 h3 => exact ⟨h2, h3⟩
theorem Runs.one {k a : Nat} {ys : List MetaM} (h : Runs k ys a) (hk : ys.length ≤ a + k) (ha : a < ys.length) : Up (seg ys a ys.length) := by
  cases h with
  | done h1 => omega
  | last h1 h2 h3 => exact h3
  | step h1 h2 h3 =>
    have : a + k = ys.length := by omega
    rw [this] at h2; exact h2

open Go.Sort in
/-- What the kit's sorted part of an array is. -/
theorem put_of_permIn {ys : List MetaM} {d' : Array MetaM} {a b : Nat} (hab : a ≤ b) (hb : b ≤ ys.length) (h : PermIn a b ys.toArray d') : ∃ W, Put ys d'.toList W a b ∧ W.Perm (seg ys a b) ∧ W = seg d'.toList a b := by
  obtain ⟨h1, h2, h3⟩ := h
  have hl : d'.toList.length = ys.length := by rw [Array.length_toList, h1]; simp
  have hg : ∀ i, i < a ∨ b ≤ i → d'.toList[i]? = ys[i]? := by
    intro i hi
    have := h2 i hi
    rcases Nat.lt_or_ge i ys.length with k | k
    · rw [getElem!_pos d' i (by rw [h1]; simpa using k), getElem!_pos ys.toArray i (by simpa using k)] at this
      rw [Array.getElem?_toList, Array.getElem?_eq_getElem (by rw [h1]; simpa using k), this, List.getElem?_eq_getElem k]
      simp
    · rw [List.getElem?_eq_none (by omega), List.getElem?_eq_none k]
  have ht : d'.toList.take a = ys.take a := by
    apply List.ext_getElem?
    intro i
    rw [List.getElem?_take, List.getElem?_take]
    split
    · exact hg i (.inl (by assumption))
    · rfl
  have hd : d'.toList.drop b = ys.drop b := by
    apply List.ext_getElem?
    intro i
    rw [List.getElem?_drop, List.getElem?_drop]
    exact hg _ (.inr (by omega))
  refine ⟨seg d'.toList a b, ⟨?_, hab, hb, seg_len (by omega)⟩, ?_, rfl⟩
  · conv => lhs; rw [seg_two (ys := d'.toList) hab]
    rw [ht, hd]
  · rw [Array.toList_extract, Array.toList_extract] at h3
    exact h3
end Go.Scree
