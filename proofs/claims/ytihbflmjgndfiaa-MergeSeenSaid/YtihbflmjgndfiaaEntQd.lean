/- What is seen at two numbers, in plain Lean. -/
import Derived.Test.YtihbflmjgndfiaaEntQc
import Derived.Test.YtihbflmjgndfiaaEntQ
namespace Go.Scree

def Rising (s : List Ent) : Prop := s.Pairwise fun a b => ltK a.key b.key = true
theorem seenGo_good {seq : Int} : ∀ {l : List Ent} {d : Option ByteArray}, (∀ k, d = some k → ∀ x ∈ l, ltK x.key k = false) → Row l → Rising (seenGo seq d l) ∧ ∀ y ∈ seenGo seq d l, y.del = false ∧ y.seq ≤ seq ∧ d ≠ some y.key ∧ y ∈ l
  | [], d, _, _ => ⟨List.Pairwise.nil, fun y hy => by simp [seenGo] at hy⟩
  | x :: r, d, hd, hr => by
    have hr' := List.pairwise_cons.1 hr
    have hx : ∀ z ∈ r, ltK z.key x.key = false := by
      intro z hz
      rcases aheadB_iff.1 (hr'.1 z hz) with q | ⟨q, _⟩
      · exact ltK_asymm q
      · rw [q]; exact ltK_irrefl _
    unfold seenGo
    by_cases c : seq < x.seq ∨ d = some x.key
    · rw [if_pos c]
      obtain ⟨h1, h2⟩ := seenGo_good (seq := seq) (fun k hk z hz => hd k hk z (List.mem_cons_of_mem _ hz)) hr'.2
      exact ⟨h1, fun y hy => let ⟨a, b, e, f⟩ := h2 y hy; ⟨a, b, e, List.mem_cons_of_mem _ f⟩⟩
    · rw [if_neg c]
      have c1 : x.seq ≤ seq := by
        apply Classical.byContradiction; intro h; exact c (.inl (by omega))
      have c2 : d ≠ some x.key := fun h => c (.inr h)
      obtain ⟨h1, h2⟩ := seenGo_good (seq := seq) (d := some x.key) (fun k hk z hz => by rw [← Option.some.inj hk]; exact hx z hz) hr'.2
      have hlt : ∀ y ∈ seenGo seq (some x.key) r, ltK x.key y.key = true := by
        intro y hy
        obtain ⟨_, _, e, f⟩ := h2 y hy
        rcases aheadB_iff.1 (hr'.1 y f) with q | ⟨q, _⟩
        · exact q
        · exact absurd (by rw [q]) e
      have hdn : ∀ y ∈ seenGo seq (some x.key) r, d ≠ some y.key := by
        intro y hy e
        have := hd y.key e x (List.mem_cons_self ..)
        rw [hlt y hy] at this; cases this
      have hall : ∀ y ∈ seenGo seq (some x.key) r, y.del = false ∧ y.seq ≤ seq ∧ d ≠ some y.key ∧ y ∈ x :: r :=
        fun y hy => let ⟨a, b, _, f⟩ := h2 y hy; ⟨a, b, hdn y hy, List.mem_cons_of_mem _ f⟩
      by_cases hdel : x.del = true
      · rw [if_pos hdel]; exact ⟨h1, hall⟩
      · rw [if_neg hdel]
        refine ⟨List.pairwise_cons.2 ⟨hlt, h1⟩, fun y hy => ?_⟩
        rcases List.mem_cons.1 hy with rfl | hy
        · exact ⟨by simpa using hdel, c1, c2, List.mem_cons_self ..⟩
        · exact hall y hy
theorem seenP_rising {l : List Ent} {s : Int} (h : Row l) : Rising (seenP l s) := by
  unfold seenP; rw [if_pos (rowB_iff.2 h)]
  exact (seenGo_good (fun k hk => by cases hk) h).1
theorem seenP_good {l : List Ent} {s : Int} (h : Row l) : ∀ y ∈ seenP l s, y.del = false ∧ y.seq ≤ s := by
  unfold seenP; rw [if_pos (rowB_iff.2 h)]
  exact fun y hy => let ⟨a, b, _⟩ := (seenGo_good (fun k hk => by cases hk) h).2 y hy; ⟨a, b⟩
theorem rising_adj {s : List Ent} (h : Rising s) {i : Nat} {a b : Ent} (ha : s[i]? = some a) (hb : s[i + 1]? = some b) : ltK a.key b.key = true := by
  obtain ⟨h1, rfl⟩ := List.getElem?_eq_some_iff.1 ha
  obtain ⟨h2, rfl⟩ := List.getElem?_eq_some_iff.1 hb
  exact List.pairwise_iff_getElem.1 h i (i + 1) h1 h2 (by omega)
theorem rising_new {s : List Ent} (h : Rising s) {k : Nat} {x : Ent} (hx : s[k]? = some x) : ∀ y ∈ s.take k, y.key ≠ x.key := by
  intro y hy e
  obtain ⟨hk, rfl⟩ := List.getElem?_eq_some_iff.1 hx
  rw [List.mem_take_iff_getElem] at hy
  obtain ⟨j, hj, rfl⟩ := hy
  have := List.pairwise_iff_getElem.1 h j k (by omega) hk (by omega)
  rw [e, ltK_irrefl] at this; cases this
/-- Of one key the later number sees one that is no older. -/
theorem seen_later {l : List Ent} {s t : Int} (hr : Row l) (hst : s ≤ t) {x y : Ent} (hx : x ∈ seenP l s) (hy : y ∈ seenP l t) (hk : y.key = x.key) : x.seq ≤ y.seq := by
  unfold seenP at hx hy
  rw [if_pos (rowB_iff.2 hr)] at hx hy
  have fx := ((seen_of_key (key := x.key) (fun k hk => by cases hk) hr x).1 ⟨hx, rfl⟩).2.1
  have fy := ((seen_of_key (key := x.key) (fun k hk => by cases hk) hr y).1 ⟨hy, hk⟩).2.1
  have hxk := ofKey_iff.1 (List.find?_some fx)
  have hxm := List.mem_of_find?_eq_some fx
  obtain ⟨_, a, c, e, hp⟩ := List.find?_eq_some_iff_append.1 fy
  subst e
  rcases List.mem_append.1 hxm with h | h
  · have := hp x h
    rw [ofKey_iff.2 ⟨rfl, by omega⟩] at this; cases this
  · rcases List.mem_cons.1 h with rfl | h
    · omega
    · have hya := (List.pairwise_cons.1 (List.pairwise_append.1 hr).2.1).1 x h
      rcases aheadB_iff.1 hya with q | ⟨_, q⟩
      · rw [hk, ltK_irrefl] at q; cases q
      · omega
theorem seenP_mem {l : List Ent} {s : Int} {y : Ent} (h : y ∈ seenP l s) : y ∈ l := by
  unfold seenP at h
  split at h
  · exact (seenGo_sub _ _ _).subset h
  · simp at h

end Go.Scree
