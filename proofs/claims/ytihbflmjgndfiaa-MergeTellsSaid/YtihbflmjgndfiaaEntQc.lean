/- Rows in groups; what is got is what is seen: in plain Lean. -/
import Derived.Test.YtihbflmjgndfiaaEntP
import Derived.Test.YtihbflmjgndfiaaEntGm
namespace Go.Scree

theorem firstIn_append {l m : List Ent} {x : Ent} : FirstIn (l ++ m) x ↔ FirstIn l x ∨ (FirstIn m x ∧ ∀ y ∈ l, sameB y x = false) := by
  induction l with
  | nil => simp [FirstIn]
  | cons a l ih =>
    have step : ∀ (b : Ent) (n : List Ent), FirstIn (b :: n) x ↔ x = b ∨ (sameB b x = false ∧ FirstIn n x) := by
      intro b n
      constructor
      · rintro ⟨pre, post, h, hp⟩
        cases pre with
        | nil => simp only [List.nil_append, List.cons.injEq] at h; exact .inl h.1.symm
        | cons c pre =>
          simp only [List.cons_append, List.cons.injEq] at h
          obtain ⟨rfl, rfl⟩ := h
          exact .inr ⟨hp b (List.mem_cons_self ..), pre, post, rfl, fun y hy => hp y (List.mem_cons_of_mem _ hy)⟩
      · rintro (rfl | ⟨h, pre, post, rfl, hp⟩)
        · exact ⟨[], n, rfl, by simp⟩
        · exact ⟨b :: pre, post, rfl, fun y hy => (List.mem_cons.1 hy).elim (fun e => by rw [e]; exact h) (hp y)⟩
    rw [List.cons_append, step, step, ih]
    constructor
    · rintro (h | ⟨h, h2 | ⟨h2, h3⟩⟩)
      · exact .inl (.inl h)
      · exact .inl (.inr ⟨h, h2⟩)
      · exact .inr ⟨h2, fun y hy => (List.mem_cons.1 hy).elim (fun e => by rw [e]; exact h) (h3 y)⟩
    · rintro ((h | ⟨h, h2⟩) | ⟨h2, h3⟩)
      · exact .inl h
      · exact .inr ⟨h, .inl h2⟩
      · exact .inr ⟨h3 a (List.mem_cons_self ..), .inr ⟨h2, fun y hy => h3 y (List.mem_cons_of_mem _ hy)⟩⟩
theorem firstIn_mem {l : List Ent} {x : Ent} (h : FirstIn l x) : x ∈ l := by
  obtain ⟨pre, post, rfl, _⟩ := h; simp
theorem firstIn_cover : ∀ {l : List Ent} {y : Ent}, y ∈ l → ∃ u, FirstIn l u ∧ sameB u y = true
  | a :: l, y, hy => by
    by_cases h : sameB a y = true
    · exact ⟨a, ⟨[], l, rfl, by simp⟩, h⟩
    · rcases List.mem_cons.1 hy with rfl | hy
      · exact absurd (same_refl y) h
      · obtain ⟨u, ⟨pre, post, e, hp⟩, hs⟩ := firstIn_cover hy
        refine ⟨u, ⟨a :: pre, post, by rw [e]; rfl, fun z hz => ?_⟩, hs⟩
        rcases List.mem_cons.1 hz with rfl | hz
        · cases k : sameB z u with
          | false => rfl
          | true => exact absurd (same_trans k hs) h
        · exact hp z hz
theorem firstIn_row {l : List Ent} (hr : Row l) (x : Ent) : FirstIn l x ↔ x ∈ l := by
  refine ⟨firstIn_mem, fun h => ?_⟩
  obtain ⟨a, b, rfl⟩ := List.append_of_mem h
  exact ⟨a, b, rfl, fun y hy => ahead_not_same ((List.pairwise_append.1 hr).2.2 y hy x (List.mem_cons_self ..))⟩
theorem allP_mem {rows : List (List Ent)} (h : goodR rows = true) (x : Ent) : x ∈ allP rows ↔ FirstIn rows.flatten x := by
  rw [top_first (goodR_rows h) x]; exact (isAll_allP h).2 x
theorem allP_row {rows : List (List Ent)} (h : goodR rows = true) : Row (allP rows) := (isAll_allP h).1
theorem allP_cover {rows : List (List Ent)} (h : goodR rows = true) {y : Ent} (hy : y ∈ rows.flatten) : ∃ u ∈ allP rows, sameB u y = true := by
  obtain ⟨u, hu, hs⟩ := firstIn_cover hy
  exact ⟨u, (allP_mem h u).2 hu, hs⟩
theorem good_take {rows : List (List Ent)} (h : goodR rows = true) (k : Nat) : goodR (rows.take k) = true := by
  unfold goodR at *
  rw [List.all_eq_true] at *
  exact fun r hr => h r (List.mem_of_mem_take hr)
theorem good_drop {rows : List (List Ent)} (h : goodR rows = true) (k : Nat) : goodR (rows.drop k) = true := by
  unfold goodR at *
  rw [List.all_eq_true] at *
  exact fun r hr => h r (List.mem_of_mem_drop hr)
theorem good_two {a b : List Ent} (ha : Row a) (hb : Row b) : goodR [a, b] = true := by simp [goodR, rowB_iff.2 ha, rowB_iff.2 hb]
theorem good_one {a : List Ent} (ha : Row a) : goodR [a] = true := by simp [goodR, rowB_iff.2 ha]
theorem allP_one {a : List Ent} (ha : Row a) : allP [a] = a := by
  refine row_ext (allP_row (good_one ha)) ha fun x => ?_
  rw [allP_mem (good_one ha)]
  simp only [List.flatten_cons, List.flatten_nil, List.append_nil]
  exact firstIn_row ha x
theorem allP_groups {rows : List (List Ent)} (h : goodR rows = true) (k : Nat) : allP [allP (rows.take k), allP (rows.drop k)] = allP rows := by
  have h1 := allP_row (good_take h k)
  have h2 := allP_row (good_drop h k)
  have hg := good_two h1 h2
  refine row_ext (allP_row hg) (allP_row h) fun x => ?_
  rw [allP_mem hg, allP_mem h]
  have e : rows.flatten = (rows.take k).flatten ++ (rows.drop k).flatten := by rw [← List.flatten_append, List.take_append_drop]
  rw [e]
  simp only [List.flatten_cons, List.flatten_nil, List.append_nil]
  rw [firstIn_append, firstIn_append, firstIn_row h1, firstIn_row h2, allP_mem (good_take h k), allP_mem (good_drop h k)]
  have : (∀ y ∈ allP (rows.take k), sameB y x = false) ↔ ∀ y ∈ (rows.take k).flatten, sameB y x = false := by
    constructor
    · intro H y hy
      obtain ⟨u, hu, hs⟩ := allP_cover (good_take h k) hy
      cases e : sameB y x with
      | false => rfl
      | true => have := H u hu; rw [same_trans hs e] at this; cases this
    · intro H y hy
      exact H y (firstIn_mem ((allP_mem (good_take h k) y).1 hy))
  rw [this]

theorem totR_flat (rows : List (List Ent)) : totR rows = rows.flatten.length := by
  simp [totR, List.length_flatten]
theorem withE_len (l : List Ent) (x : Ent) : (withE l x).length ≤ l.length + 1 := by
  induction l with
  | nil => simp [withE]
  | cons y r ih => unfold withE; split <;> (try split) <;> simp <;> omega
theorem fold_len (m : List Ent) : ∀ l : List Ent, (m.foldl withE l).length ≤ l.length + m.length := by
  induction m with
  | nil => intro l; simp
  | cons x m ih => intro l; have := ih (withE l x); have := withE_len l x; simp only [List.foldl_cons, List.length_cons]; omega
theorem allP_len (rows : List (List Ent)) : (allP rows).length ≤ totR rows := by
  have := fold_len rows.flatten []
  rw [totR_flat]; unfold allP; simpa using this
theorem totR_take_le (rows : List (List Ent)) (k : Nat) : totR (rows.take k) ≤ totR rows := by
  have e : totR rows = totR (rows.take k) + totR (rows.drop k) := by
    unfold totR
    rw [← List.sum_append, ← List.map_append, List.take_append_drop]
  omega
theorem totR_drop_le (rows : List (List Ent)) (k : Nat) : totR (rows.drop k) ≤ totR rows := by
  have e : totR rows = totR (rows.take k) + totR (rows.drop k) := by
    unfold totR
    rw [← List.sum_append, ← List.map_append, List.take_append_drop]
  omega

/-! What is got. -/
def ofKey (key : ByteArray) (seq : Int) (x : Ent) : Bool := eqK x.key key && decide (x.seq ≤ seq)
theorem ofKey_iff {key : ByteArray} {seq : Int} {x : Ent} : ofKey key seq x = true ↔ x.key = key ∧ x.seq ≤ seq := by
  simp [ofKey, eqK_iff]
theorem cand_find {l : List Ent} (hr : Row l) (key : ByteArray) (seq : Int) : candP l key seq = l.find? (ofKey key seq) := by
  induction l with
  | nil => simp [candP]
  | cons a l ih =>
    have hr' := List.pairwise_cons.1 hr
    have ih := ih hr'.2
    unfold candP at ih ⊢
    by_cases h : aheadB a ⟨key, seq, false, ⟨#[]⟩⟩ = true
    · have hn : ofKey key seq a = false := by
        cases e : ofKey key seq a with
        | false => rfl
        | true =>
          obtain ⟨e1, e2⟩ := ofKey_iff.1 e
          rcases aheadB_iff.1 h with k | ⟨_, k⟩
          · dsimp only at k; rw [e1, ltK_irrefl] at k; cases k
          · dsimp only at k; omega
      rw [List.find?_cons_of_neg (by simp [h]), List.find?_cons_of_neg (by simp [hn])]
      exact ih
    · rw [List.find?_cons_of_pos (by simpa using h)]
      dsimp only
      have hb : ltK key a.key = true ∨ key = a.key ∧ a.seq ≤ seq := by
        rcases ltK_tri a.key key with k | k | k
        · exact absurd (aheadB_iff.2 (.inl k)) h
        · refine .inr ⟨k.symm, ?_⟩
          apply Classical.byContradiction
          intro hn
          exact h (aheadB_iff.2 (.inr ⟨k, by show seq < a.seq; omega⟩))
        · exact .inl k
      rcases hb with k | ⟨rfl, k⟩
      · have hne : ∀ y, y = a ∨ y ∈ l → ofKey key seq y = false := by
          intro y hy
          cases e : ofKey key seq y with
          | false => rfl
          | true =>
            obtain ⟨e1, _⟩ := ofKey_iff.1 e
            rcases hy with rfl | hy
            · rw [e1, ltK_irrefl] at k; cases k
            · rcases aheadB_iff.1 (hr'.1 y hy) with q | ⟨q, _⟩
              · have := ltK_trans k q; rw [e1, ltK_irrefl] at this; cases this
              · rw [q, e1, ltK_irrefl] at k; cases k
        have hf : (a :: l).find? (ofKey key seq) = none := List.find?_eq_none.2 fun y hy => by rw [hne y (List.mem_cons.1 hy)]; simp
        rw [hf, if_neg]
        rw [eqK_iff]
        rintro rfl
        rw [ltK_irrefl] at k; cases k
      · rw [List.find?_cons_of_pos (ofKey_iff.2 ⟨rfl, k⟩), if_pos (eqK_iff.2 rfl)]

/-- The newest of a key up to a number, of all rows' entries, the first row's. -/
def Best (m : List Ent) (key : ByteArray) (seq : Int) (b : Option Ent) : Prop :=
  match b with
  | none => ∀ y ∈ m, ofKey key seq y = false
  | some x => FirstIn m x ∧ ofKey key seq x = true ∧ ∀ y ∈ m, ofKey key seq y = true → y.seq ≤ x.seq
theorem best_step {m l : List Ent} {key : ByteArray} {seq : Int} {b : Option Ent} (h : Best m key seq b) (hr : Row l) : Best (m ++ l) key seq (getStep key seq b l) := by
  have hc := cand_find hr key seq
  cases hf : l.find? (ofKey key seq) with
  | none =>
    rw [hf] at hc
    rw [getStep_none hc]
    have hn := List.find?_eq_none.1 hf
    cases b with
    | none => exact fun y hy => (List.mem_append.1 hy).elim (h y) (fun hy => by simpa using hn y hy)
    | some x =>
      obtain ⟨h1, h2, h3⟩ := h
      refine ⟨firstIn_append.2 (.inl h1), h2, fun y hy hk => ?_⟩
      rcases List.mem_append.1 hy with hy | hy
      · exact h3 y hy hk
      · exact absurd hk (hn y hy)
  | some z =>
    rw [hf] at hc
    have hz := List.find?_some hf
    have hzm := List.mem_of_find?_eq_some hf
    have hmax : ∀ y ∈ l, ofKey key seq y = true → y.seq ≤ z.seq := by
      intro y hy hk
      obtain ⟨_, a, c, e, hp⟩ := List.find?_eq_some_iff_append.1 hf
      subst e
      rcases List.mem_append.1 hy with hy | hy
      · have := hp y hy; rw [hk] at this; cases this
      · rcases List.mem_cons.1 hy with rfl | hy
        · omega
        · have hza := (List.pairwise_cons.1 (List.pairwise_append.1 hr).2.1).1 y hy
          rcases aheadB_iff.1 hza with q | ⟨_, q⟩
          · rw [(ofKey_iff.1 hz).1, (ofKey_iff.1 hk).1, ltK_irrefl] at q; cases q
          · omega
    have hzf : FirstIn l z := (firstIn_row hr z).2 hzm
    cases b with
    | none =>
      rw [getStep_first (rowB_iff.2 hr) hc]
      refine ⟨firstIn_append.2 (.inr ⟨hzf, fun y hy => ?_⟩), hz, fun y hy hk => ?_⟩
      · cases e : sameB y z with
        | false => rfl
        | true =>
          obtain ⟨e1, e2⟩ := sameB_iff.1 e
          obtain ⟨z1, z2⟩ := ofKey_iff.1 hz
          have := h y hy
          rw [ofKey_iff.2 ⟨e1.trans z1, by omega⟩] at this; cases this
      · rcases List.mem_append.1 hy with hy | hy
        · have := h y hy; rw [hk] at this; cases this
        · exact hmax y hy hk
    | some x =>
      obtain ⟨h1, h2, h3⟩ := h
      by_cases hlt : x.seq < z.seq
      · rw [getStep_more (rowB_iff.2 hr) hc hlt]
        refine ⟨firstIn_append.2 (.inr ⟨hzf, fun y hy => ?_⟩), hz, fun y hy hk => ?_⟩
        · cases e : sameB y z with
          | false => rfl
          | true =>
            obtain ⟨e1, e2⟩ := sameB_iff.1 e
            obtain ⟨z1, z2⟩ := ofKey_iff.1 hz
            have := h3 y hy (ofKey_iff.2 ⟨e1.trans z1, by omega⟩)
            omega
        · rcases List.mem_append.1 hy with hy | hy
          · have := h3 y hy hk; omega
          · exact hmax y hy hk
      · rw [getStep_less hc (by omega)]
        refine ⟨firstIn_append.2 (.inl h1), h2, fun y hy hk => ?_⟩
        rcases List.mem_append.1 hy with hy | hy
        · exact h3 y hy hk
        · have := hmax y hy hk; omega
theorem best_get {rows : List (List Ent)} (h : goodR rows = true) (key : ByteArray) (seq : Int) : Best rows.flatten key seq (getP rows key seq) := by
  have hr := goodR_rows h
  have : ∀ (rs : List (List Ent)) (m : List Ent) (b : Option Ent), (∀ r ∈ rs, Row r) → Best m key seq b → Best (m ++ rs.flatten) key seq (rs.foldl (getStep key seq) b) := by
    intro rs
    induction rs with
    | nil => intro m b _ hb; simpa using hb
    | cons r rs ih =>
      intro m b hr hb
      rw [List.flatten_cons, ← List.append_assoc, List.foldl_cons]
      exact ih _ _ (fun s hs => hr s (List.mem_cons_of_mem _ hs)) (best_step hb (hr r (List.mem_cons_self ..)))
  have h0 := this rows [] none hr (fun y hy => by simp at hy)
  simpa [getP] using h0
theorem get_find {rows : List (List Ent)} (h : goodR rows = true) (key : ByteArray) (seq : Int) : getP rows key seq = (allP rows).find? (ofKey key seq) := by
  have hb := best_get h key seq
  have hrow := allP_row h
  cases hf : (allP rows).find? (ofKey key seq) with
  | none =>
    have hn := List.find?_eq_none.1 hf
    cases hg : getP rows key seq with
    | none => rfl
    | some x =>
      rw [hg] at hb
      exact absurd hb.2.1 (hn x ((allP_mem h x).2 hb.1))
  | some z =>
    have hz := List.find?_some hf
    have hzm := List.mem_of_find?_eq_some hf
    cases hg : getP rows key seq with
    | none =>
      rw [hg] at hb
      have := hb z (firstIn_mem ((allP_mem h z).1 hzm))
      rw [hz] at this; cases this
    | some x =>
      rw [hg] at hb
      obtain ⟨h1, h2, h3⟩ := hb
      have hxm := (allP_mem h x).2 h1
      have hle := h3 z (firstIn_mem ((allP_mem h z).1 hzm)) hz
      have hge : x.seq ≤ z.seq := by
        obtain ⟨_, a, c, e, hp⟩ := List.find?_eq_some_iff_append.1 hf
        rw [e] at hxm hrow
        rcases List.mem_append.1 hxm with hy | hy
        · have := hp x hy; rw [h2] at this; cases this
        · rcases List.mem_cons.1 hy with rfl | hy
          · omega
          · have hza := (List.pairwise_cons.1 (List.pairwise_append.1 hrow).2.1).1 x hy
            rcases aheadB_iff.1 hza with q | ⟨_, q⟩
            · rw [(ofKey_iff.1 hz).1, (ofKey_iff.1 h2).1, ltK_irrefl] at q; cases q
            · omega
      have : sameB x z = true := sameB_iff.2 ⟨(ofKey_iff.1 h2).1.trans (ofKey_iff.1 hz).1.symm, by omega⟩
      rw [row_inj hrow hxm hzm this]

/-- What is seen of a key. -/
theorem seen_of_key {seq : Int} {key : ByteArray} : ∀ {l : List Ent} {d : Option ByteArray}, (∀ k, d = some k → ∀ x ∈ l, ltK x.key k = false) → Row l →
    ∀ y, y ∈ seenGo seq d l ∧ y.key = key ↔ (d ≠ some key ∧ l.find? (ofKey key seq) = some y ∧ y.del = false)
  | [], d, _, _, y => by simp [seenGo]
  | x :: r, d, hd, hr, y => by
    have hr' := List.pairwise_cons.1 hr
    have hx : ∀ z ∈ r, ltK z.key x.key = false := by
      intro z hz
      rcases aheadB_iff.1 (hr'.1 z hz) with q | ⟨q, _⟩
      · exact ltK_asymm q
      · rw [q]; exact ltK_irrefl _
    have hd' : ∀ k, d = some k → ∀ z ∈ r, ltK z.key k = false := fun k hk z hz => hd k hk z (List.mem_cons_of_mem _ hz)
    unfold seenGo
    by_cases c : seq < x.seq ∨ d = some x.key
    · rw [if_pos c, seen_of_key hd' hr'.2 y]
      by_cases hk : ofKey key seq x = true
      · obtain ⟨k1, k2⟩ := ofKey_iff.1 hk
        have hdx : d = some key := by
          rcases c with c | c
          · omega
          · rw [c, k1]
        constructor
        · rintro ⟨h, _⟩; exact absurd hdx h
        · rintro ⟨h, _⟩; exact absurd hdx h
      · rw [List.find?_cons_of_neg hk]
    · rw [if_neg c]
      have c1 : x.seq ≤ seq := by
        apply Classical.byContradiction; intro h; exact c (.inl (by omega))
      have c2 : d ≠ some x.key := fun h => c (.inr h)
      have hx' : ∀ k, some x.key = some k → ∀ z ∈ r, ltK z.key k = false := fun k hk z hz => by rw [← Option.some.inj hk]; exact hx z hz
      have ih := seen_of_key hx' hr'.2 y (seq := seq) (key := key)
      by_cases hk : x.key = key
      · have hko : ofKey key seq x = true := ofKey_iff.2 ⟨hk, c1⟩
        rw [List.find?_cons_of_pos hko]
        have hno : ¬ (y ∈ seenGo seq (some x.key) r ∧ y.key = key) := by
          rw [ih]; rintro ⟨h, _⟩; exact h (by rw [hk])
        by_cases hdel : x.del = true
        · rw [if_pos hdel]
          constructor
          · exact fun h => absurd h hno
          · rintro ⟨_, h, h2⟩
            obtain rfl := Option.some.inj h
            rw [hdel] at h2; cases h2
        · rw [if_neg hdel]
          constructor
          · rintro ⟨h, h2⟩
            rcases List.mem_cons.1 h with rfl | h
            · exact ⟨by rw [← hk]; exact c2, rfl, by simpa using hdel⟩
            · exact absurd ⟨h, h2⟩ hno
          · rintro ⟨_, h, _⟩
            obtain rfl := Option.some.inj h
            exact ⟨List.mem_cons_self .., hk⟩
      · have hko : ¬ ofKey key seq x = true := fun h => hk (ofKey_iff.1 h).1
        rw [List.find?_cons_of_neg hko]
        have mem : (y ∈ (if x.del = true then seenGo seq (some x.key) r else x :: seenGo seq (some x.key) r) ∧ y.key = key) ↔ (y ∈ seenGo seq (some x.key) r ∧ y.key = key) := by
          split
          · exact Iff.rfl
          · constructor
            · rintro ⟨h, h2⟩
              rcases List.mem_cons.1 h with rfl | h
              · exact absurd h2 hk
              · exact ⟨h, h2⟩
            · rintro ⟨h, h2⟩; exact ⟨List.mem_cons_of_mem _ h, h2⟩
        rw [mem, ih]
        constructor
        · rintro ⟨_, h, h2⟩
          refine ⟨fun e => ?_, h, h2⟩
          have h3 := hx y (List.mem_of_find?_eq_some h)
          rw [(ofKey_iff.1 (List.find?_some h)).1] at h3
          have h4 := hd key e x (List.mem_cons_self ..)
          rcases ltK_tri x.key key with q | q | q
          · rw [h4] at q; cases q
          · exact hk q
          · rw [h3] at q; cases q
        · rintro ⟨_, h, h2⟩
          exact ⟨fun e => hk (Option.some.inj e), h, h2⟩
/-- What MergeGets asks. -/
theorem gets_seen {rows : List (List Ent)} (h : goodR rows = true) (key : ByteArray) (seq : Int) (y : Ent) : y ∈ seenP (allP rows) seq ∧ y.key = key ↔ getP rows key seq = some y ∧ y.del = false := by
  unfold seenP
  rw [if_pos (rowB_iff.2 (allP_row h)), get_find h, seen_of_key (fun k hk => by cases hk) (allP_row h) y]
  exact ⟨fun h => h.2, fun h => ⟨by simp, h⟩⟩
end Go.Scree
