/- Elements written into an owned slice; a tail cleared; a part cut out. -/
import Derived.Test.YtdmdnhceiddcfaaGreatSlb
set_option linter.all false
namespace Go.Sl
open Go.RowKit

/-- Cells written one behind the other. -/
def put (w : World) (g o : Nat) : List Value → World
  | [] => w
  | v :: vs => put (w.setCell ⟨g, o, none⟩ v) g (o + 1) vs
def over (cur : Array Value) (o : Nat) : List Value → Array Value
  | [] => cur
  | v :: vs => over (cur.setIfInBounds o v) (o + 1) vs

theorem over_size (vs : List Value) : ∀ (cur : Array Value) (o : Nat), (over cur o vs).size = cur.size := by
  induction vs with
  | nil => exact fun _ _ => rfl
  | cons v vs ih => intro cur o; simp only [over]; rw [ih]; simp
theorem over_list (vs : List Value) : ∀ (cur : Array Value) (o : Nat), o + vs.length ≤ cur.size → (over cur o vs).toList = cur.toList.take o ++ vs ++ cur.toList.drop (o + vs.length) := by
  induction vs with
  | nil => intro cur o _; simp [over]
  | cons v vs ih =>
    intro cur o h
    simp only [List.length_cons] at h
    simp only [over]
    rw [ih _ _ (by simp; omega)]
    have ho : o < cur.toList.length := by simp; omega
    simp only [Array.toList_setIfInBounds, List.length_cons]
    rw [show o + (vs.length + 1) = o + 1 + vs.length from by omega]
    rw [List.take_set, List.drop_set, if_pos (by omega), List.take_succ_eq_append_getElem ho]
    rw [List.set_append_right _ _ (by simp; omega)]
    simp [Nat.min_eq_left (Nat.le_of_lt (show o < cur.size by simpa using ho))]

section
variable {w : World} {F : List Chunk} {T : TypeId} {fr : Nat × Nat}
theorem own_put (vs : List Value) : ∀ {w : World} {g o : Nat} {cur : Array Value}, Own w (pts g (.cells cur T fr) :: F) → Own (put w g o vs) (pts g (.cells (over cur o vs) T fr) :: F) := by
  induction vs with
  | nil => exact fun h => h
  | cons v vs ih => intro w g o cur h; exact ih (h.set v)
theorem ext_put (vs : List Value) : ∀ {a w : World} (g o : Nat), Ext a w → Ext a (put w g o vs) := by
  induction vs with
  | nil => exact fun _ _ h => h
  | cons v vs ih => intro a w g o h; exact ih g (o + 1) (h.set _ _)
end

theorem mul_succ_le {i n s : Nat} (h : i < n) : i * s + s ≤ n * s := by
  have := Nat.mul_le_mul_right s (show i + 1 ≤ n from h)
  rwa [Nat.succ_mul] at this

section
variable {α : Type} {w : World} {F : List Chunk} {T : TypeId} {E : Enc α} {xs : List α} {g n cap : Nat}
theorem flat_set (E : Enc α) (xs : List α) (i : Nat) (x : α) (hi : i < xs.length) : E.flat (xs.set i x) = (E.flat xs).take (i * E.size) ++ E.cells x ++ (E.flat xs).drop (i * E.size + E.size) := by
  rw [List.set_eq_take_append_cons_drop, if_pos hi, E.flat_append, ← E.flat_take, show i * E.size + E.size = (i + 1) * E.size from by rw [Nat.succ_mul], E.flat_drop]
  simp [Enc.flat]
/-- An element written into an owned slice. -/
theorem sl_put (o : Own w (sl T E (.slice (some ⟨g, 0, none⟩) n cap) xs :: F)) (i : Nat) (hi : i < xs.length) (x : α) :
    Own (put w g (i * E.size) (E.cells x)) (sl T E (.slice (some ⟨g, 0, none⟩) n cap) (xs.set i x) :: F) := by
  obtain ⟨hl, h⟩ := slc_open o
  rcases h with ⟨h, _⟩ | ⟨g', cap', cur, h, hn, hc, hs, ht, o'⟩
  · cases h
  · simp only [Value.slice.injEq, Option.some.injEq, Addr.mk.injEq] at h
    obtain ⟨⟨rfl, _, _⟩, rfl, rfl⟩ := h
    have hle : i * E.size + E.size ≤ xs.length * E.size := mul_succ_le hi
    have hle2 : xs.length * E.size ≤ cap * E.size := Nat.mul_le_mul_right _ hn
    have o2 := own_put (E.cells x) (o := i * E.size) o'
    have o3 := slc_mk (n := xs.length) (cap := cap) (size := E.size) o2 hn hc (by rw [over_size, hs])
    have e : (over cur (i * E.size) (E.cells x)).toList.take (xs.length * E.size) = E.flat (xs.set i x) := by
      rw [flat_set E xs i x hi, ← ht, over_list _ _ _ (by rw [E.len, hs]; omega), E.len]
      rw [List.take_append, List.take_append, List.take_take]
      simp only [List.length_append, List.length_take, Array.length_toList, E.len]
      rw [List.take_take, List.drop_take, Nat.min_eq_right (by omega), Nat.min_eq_left (by omega), Nat.min_eq_left (by omega)]
      rw [List.take_of_length_le (l := E.cells x) (by rw [E.len]; omega), show xs.length * E.size - (i * E.size + E.size) = xs.length * E.size - (i * E.size + E.size) from rfl]
    rw [e] at o3
    unfold sl
    rw [List.length_set]
    exact o3
theorem flat_field (E : Enc α) (v : Value) (j : Nat) (hj : j < E.size) : ∀ (xs : List α) (i : Nat) (x y : α), xs[i]? = some x → E.cells y = (E.cells x).set j v → E.flat (xs.set i y) = (E.flat xs).set (i * E.size + j) v
  | [], i, x, y, hx, _ => by simp at hx
  | z :: xs, 0, x, y, hx, hy => by
    obtain rfl : z = x := by simpa using hx
    simp only [List.set_cons_zero, Enc.flat, List.flatMap_cons, Nat.zero_mul, Nat.zero_add]
    rw [hy, List.set_append_left _ _ (by rw [E.len]; exact hj)]
  | z :: xs, i + 1, x, y, hx, hy => by
    have ih := flat_field E v j hj xs i x y (by simpa using hx) hy
    simp only [List.set_cons_succ, Enc.flat, List.flatMap_cons] at ih ⊢
    rw [ih, List.set_append_right _ _ (by rw [E.len, Nat.succ_mul]; omega), E.len]
    congr 2
    rw [Nat.succ_mul]; omega
/-- One cell of an element written. -/
theorem sl_field (o : Own w (sl T E (.slice (some ⟨g, 0, none⟩) n cap) xs :: F)) {i j : Nat} {x : α} (hx : xs[i]? = some x) (hj : j < E.size) (y : α) (v : Value) (hy : E.cells y = (E.cells x).set j v) :
    Own (w.setCell ⟨g, i * E.size + j, none⟩ v) (sl T E (.slice (some ⟨g, 0, none⟩) n cap) (xs.set i y) :: F) := by
  have hi := (List.getElem?_eq_some_iff.1 hx).1
  obtain ⟨hl, h⟩ := slc_open o
  rcases h with ⟨h, _⟩ | ⟨g', cap', cur, h, hn, hc, hs, ht, o'⟩
  · cases h
  · simp only [Value.slice.injEq, Option.some.injEq, Addr.mk.injEq] at h
    obtain ⟨⟨rfl, _, _⟩, rfl, rfl⟩ := h
    have o2 := o'.set (i := i * E.size + j) v
    have o3 := slc_mk (n := xs.length) (cap := cap) (size := E.size) o2 hn hc (by simpa using hs)
    have e : (cur.setIfInBounds (i * E.size + j) v).toList.take (xs.length * E.size) = E.flat (xs.set i y) := by
      rw [flat_field E v j hj xs i x y hx hy, ← ht, Array.toList_setIfInBounds, List.take_set]
    rw [e] at o3
    unfold sl
    rw [List.length_set]
    exact o3
/-- The cells of an element of an owned slice. -/
theorem sl_at (o : Own w (sl T E (.slice (some ⟨g, 0, none⟩) n cap) xs :: F)) {i : Nat} {x : α} (hx : xs[i]? = some x) :
    ∀ j u, (E.cells x)[j]? = some u → w.cell? ⟨g, i * E.size + j, none⟩ = some u ∧ w.frozen? ⟨g, i * E.size + j, none⟩ = false := by
  intro j u hu
  rcases sl_rd o with ⟨_, h⟩ | ⟨g', off, cap', h, hn, hc, hcell⟩
  · rw [h] at hx; simp at hx
  · obtain ⟨hl, h2⟩ := slc_open o
    rcases h2 with ⟨h2, _⟩ | ⟨g2, cap2, cur, h2, _, _, _, _, o2⟩
    · cases h2
    · simp only [Value.slice.injEq, Option.some.injEq, Addr.mk.injEq] at h h2
      obtain ⟨⟨rfl, rfl, _⟩, rfl, rfl⟩ := h
      obtain ⟨⟨rfl, _, _⟩, _, rfl⟩ := h2
      refine ⟨by simpa using hcell i x hx j u hu, ?_⟩
      simp [World.frozen?, o2.get]
theorem sl_form {v : Value} (o : Own w (sl T E v xs :: F)) : (v = .slice none 0 0 ∧ xs = []) ∨ ∃ g cap, v = .slice (some ⟨g, 0, none⟩) xs.length cap ∧ xs.length ≤ cap ∧ cap ≤ maxLen := by
  obtain ⟨hl, h⟩ := slc_open o
  rcases h with ⟨rfl, hn, _⟩ | ⟨g, cap, cur, rfl, hn, hc, _⟩
  · exact .inl ⟨rfl, List.eq_nil_of_length_eq_zero hn⟩
  · exact .inr ⟨g, cap, rfl, hn, hc⟩
theorem sl_shape {v : Value} (o : Own w (sl T E v xs :: F)) : ∃ A n c, v = .slice A n c := by
  rcases sl_form o with ⟨rfl, _⟩ | ⟨g, cap, rfl, _⟩
  · exact ⟨_, _, _, rfl⟩
  · exact ⟨_, _, _, rfl⟩
/-- Fewer of it. -/
theorem sl_take (o : Own w (sl T E (.slice (some ⟨g, 0, none⟩) n cap) xs :: F)) (k : Nat) (hk : k ≤ xs.length) : Own w (sl T E (.slice (some ⟨g, 0, none⟩) k cap) (xs.take k) :: F) := by
  obtain ⟨hl, h⟩ := slc_open o
  rcases h with ⟨h, _⟩ | ⟨g', cap', cur, h, hn, hc, hs, ht, o'⟩
  · cases h
  · simp only [Value.slice.injEq, Option.some.injEq, Addr.mk.injEq] at h
    obtain ⟨⟨rfl, _, _⟩, rfl, rfl⟩ := h
    have o3 := slc_mk (n := k) (cap := cap) (size := E.size) o' (by omega) hc hs
    have hle := Nat.mul_le_mul_right E.size hk
    have e : cur.toList.take (k * E.size) = E.flat (xs.take k) := by
      rw [← E.flat_take, ← ht, List.take_take, Nat.min_eq_left hle]
    rw [e] at o3
    unfold sl
    rw [List.length_take, Nat.min_eq_left hk]
    exact o3
end

section
variable {P : Program} {α : Type} {w : World} {F : List Chunk} {T : TypeId} {E : Enc α} {xs : List α} {g n cap : Nat}
theorem mem_zeroCells {z : Array Value} {n : Nat} (hz : ∀ u ∈ z.toList, u.oneCell' = true) (hp : 0 < z.size) : ∀ u ∈ (Builtin.zeroCells z n).toList, u.oneCell' = true := by
  intro u hu
  simp only [Builtin.zeroCells, Array.toList_map, List.mem_map] at hu
  obtain ⟨i, _, rfl⟩ := hu
  have hlt : i % z.size < z.size := Nat.mod_lt _ hp
  rw [getElem!_pos z (i % z.size) hlt]
  exact hz _ (Array.getElem_mem_toList hlt)

/-- 'clear' of what stands behind the first i elements of an owned slice. -/
theorem run_clear_sl (t ty : TypeId) (i0 : TypeInfo) (z : Value) (ht : P.underlying t = some (.slice T)) (hi : P.info? T = some i0) (hz : i0.zero = some z) (hzs : z.cells.size = E.size) (hz1 : ∀ u ∈ z.cells.toList, u.oneCell' = true)
    (o : Own w (sl T E (.slice (some ⟨g, 0, none⟩) n cap) xs :: F)) (i a k c : Nat) (A : Option Addr) (hil : i ≤ xs.length) (hia : i ≤ a) (hak : a + k ≤ cap) (hA : 0 < k → A = some ⟨g, a * E.size, none⟩) :
    ∃ w', (Builtin.clear_ #[t] ty #[.slice A k c]).run P w = .ok (.tuple #[]) w' ∧ Own w' (sl T E (.slice (some ⟨g, 0, none⟩) i cap) (xs.take i) :: F) ∧ Ext w w' := by
  rcases Nat.eq_zero_or_pos k with rfl | hk
  · refine ⟨w, ?_, sl_take o i hil, Ext.refl _⟩
    cases A <;> simp [Builtin.clear_, run_underlying ht]
  · obtain rfl := hA hk
    obtain ⟨hl, h⟩ := slc_open o
    rcases h with ⟨h, _⟩ | ⟨g', cap', cur, h, hn, hc, hs, htk, o'⟩
    · cases h
    · simp only [Value.slice.injEq, Option.some.injEq, Addr.mk.injEq] at h
      obtain ⟨⟨rfl, _, _⟩, rfl, rfl⟩ := h
      have hg := o'.get
      have hsz : (Builtin.zeroCells z.cells k).toList.length = k * E.size := by rw [Array.length_toList, size_zeroCells, hzs]
      have hfit : a * E.size + 0 + (Builtin.zeroCells z.cells k).toList.length ≤ cur.size := by
        rw [hsz, hs, Nat.add_zero, ← Nat.add_mul]; exact Nat.mul_le_mul_right _ hak
      have hst := run_storeCells_at P g (a * E.size) T (Builtin.zeroCells z.cells k).toList 0 cur w hg hfit (mem_zeroCells hz1 (by rw [hzs]; exact E.pos))
      simp only [Nat.add_zero] at hst hfit
      obtain ⟨k, rfl⟩ : ∃ m, k = m + 1 := ⟨k - 1, by omega⟩
      refine ⟨w.setRow g (cur.toList.take (a * E.size) ++ (Builtin.zeroCells z.cells (k + 1)).toList ++ cur.toList.drop (a * E.size + (Builtin.zeroCells z.cells (k + 1)).toList.length)).toArray, by simp [Builtin.clear_, run_underlying ht, zeroValue, typeInfo, hi, hz, hst], ?_, ⟨rfl, rfl, rfl, by simp⟩⟩
      have hle : i * E.size ≤ a * E.size := Nat.mul_le_mul_right _ hia
      have hle2 : i * E.size ≤ xs.length * E.size := Nat.mul_le_mul_right _ hil
      have o2 := o'.turn (w' := w.setRow g (cur.toList.take (a * E.size) ++ (Builtin.zeroCells z.cells (k + 1)).toList ++ cur.toList.drop (a * E.size + (Builtin.zeroCells z.cells (k + 1)).toList.length)).toArray) (setRow_heap w g cur _ T _ hg) (fun k _ hk => setRow_other w g k _ hk)
      have o3 := slc_mk (n := i) (cap := cap) (size := E.size) o2 (by omega) hc (by
        simp only [List.size_toArray, List.length_append, List.length_take, List.length_drop, Array.length_toList] at hfit ⊢
        omega)
      have e : (cur.toList.take (a * E.size) ++ (Builtin.zeroCells z.cells (k + 1)).toList ++ cur.toList.drop (a * E.size + (Builtin.zeroCells z.cells (k + 1)).toList.length)).toArray.toList.take (i * E.size) = E.flat (xs.take i) := by
        rw [← E.flat_take, ← htk, List.take_take, Nat.min_eq_left hle2]
        have : i * E.size ≤ (cur.toList.take (a * E.size)).length := by
          simp only [List.length_take, Array.length_toList]
          rw [hsz] at hfit; omega
        simp only [List.append_assoc]
        rw [List.take_append_of_le_length this, List.take_take, Nat.min_eq_left hle]
      rw [e] at o3
      unfold sl
      rw [List.length_take, Nat.min_eq_left hil]
      exact o3

/-- 'append(s[:i], s[j:]...)' within an owned slice. -/
theorem run_cut_sl (t ty : TypeId) (i0 : TypeInfo) (ht : P.underlying t = some (.slice T)) (hi : P.info? T = some i0) (hsize : i0.size = E.size)
    (o : Own w (sl T E (.slice (some ⟨g, 0, none⟩) n cap) xs :: F)) (i j c : Nat) (A : Option Addr) (hij : i ≤ j) (hj : j ≤ xs.length) (hA : j < xs.length → A = some ⟨g, j * E.size, none⟩) (hA0 : A ≠ none) :
    ∃ w', (Builtin.append_ #[t, t] ty #[.slice (some ⟨g, 0, none⟩) i cap, .slice A (xs.length - j) c]).run P w = .ok (.slice (some ⟨g, 0, none⟩) (i + (xs.length - j)) cap) w' ∧
      Own w' (sl T E (.slice (some ⟨g, 0, none⟩) (i + (xs.length - j)) cap) (xs.take i ++ xs.drop j) :: F) ∧ Ext w w' := by
  obtain ⟨ad, rfl⟩ : ∃ ad, A = some ad := by cases A with | none => exact absurd rfl hA0 | some ad => exact ⟨ad, rfl⟩
  obtain ⟨hl, h⟩ := slc_open o
  rcases h with ⟨h, _⟩ | ⟨g', cap', cur, h, hn, hc, hs, htk, o'⟩
  · cases h
  · simp only [Value.slice.injEq, Option.some.injEq, Addr.mk.injEq] at h
    obtain ⟨⟨rfl, _, _⟩, rfl, rfl⟩ := h
    have hg := o'.get
    have hnl : (E.flat (xs.drop j)).length = (xs.length - j) * E.size := by rw [E.flat_len, List.length_drop]
    have hnews : ∀ q u, (E.flat (xs.drop j))[q]? = some u → w.cell? (ad.add q) = some u := by
      intro q u hq
      have hql : q < (xs.length - j) * E.size := by rw [← hnl]; exact (List.getElem?_eq_some_iff.1 hq).1
      have hjl : j < xs.length := by
        rcases Nat.lt_or_ge j xs.length with h | h
        · exact h
        · rw [Nat.sub_eq_zero_of_le h, Nat.zero_mul] at hql; omega
      obtain rfl : ad = ⟨g, j * E.size, none⟩ := by simpa using hA hjl
      have hadd : (⟨g, j * E.size, none⟩ : Addr).add q = ⟨g, j * E.size + q, none⟩ := by unfold Addr.add; split <;> simp_all
      rw [hadd, cell_of_row w g _ cur T (0, 0) hg]
      rw [← E.flat_drop, ← htk, List.getElem?_drop, List.getElem?_take] at hq
      split at hq
      · simpa using hq
      · cases hq
    have hroom : i + (xs.length - j) ≤ cap := by omega
    have hfit : i * i0.size + (E.flat (xs.drop j)).length ≤ cur.size := by rw [hnl, hs, hsize, ← Nat.add_mul]; exact Nat.mul_le_mul_right _ hroom
    have hr := run_append_room (P := P) w t ty T i0 ht hi g i cap cur hg ad (xs.length - j) c (E.flat (xs.drop j)) (by rw [hnl, hsize]) hnews (E.flat_one _) hroom hfit
    refine ⟨_, hr, ?_, ⟨rfl, rfl, rfl, by simp⟩⟩
    rw [hsize] at hfit ⊢
    have o2 := o'.turn (w' := w.setRow g (cur.toList.take (i * E.size) ++ E.flat (xs.drop j) ++ cur.toList.drop (i * E.size + (E.flat (xs.drop j)).length)).toArray) (setRow_heap w g cur _ T _ hg) (fun k _ hk => setRow_other w g k _ hk)
    have o3 := slc_mk (n := i + (xs.length - j)) (cap := cap) (size := E.size) o2 hroom hc (by
      simp only [List.size_toArray, List.length_append, List.length_take, List.length_drop, Array.length_toList] at hfit ⊢
      omega)
    have e : (cur.toList.take (i * E.size) ++ E.flat (xs.drop j) ++ cur.toList.drop (i * E.size + (E.flat (xs.drop j)).length)).toArray.toList.take ((i + (xs.length - j)) * E.size) = E.flat (xs.take i ++ xs.drop j) := by
      rw [E.flat_append, ← E.flat_take]
      have hle : i * E.size ≤ xs.length * E.size := Nat.mul_le_mul_right _ (by omega)
      have e1 : (E.flat xs).take (i * E.size) = cur.toList.take (i * E.size) := by rw [← htk, List.take_take, Nat.min_eq_left hle]
      rw [e1]
      have e2 : (cur.toList.take (i * E.size) ++ E.flat (xs.drop j)).length = (i + (xs.length - j)) * E.size := by
        rw [List.length_append, List.length_take, Array.length_toList, hnl, Nat.add_mul, Nat.min_eq_left (by rw [hs]; exact Nat.mul_le_mul_right _ (by omega))]
      rw [← e2]
      exact List.take_left
    rw [e] at o3
    unfold sl
    rw [List.length_append, List.length_take, List.length_drop, Nat.min_eq_left (by omega : i ≤ xs.length)]
    exact o3

theorem wpList_clear_sl {ops : Array Oper} {rest : List Oper} {q : Oper} {act : Act} {Q : Exit → Act → World → Prop} (hgd : q.guard = none) (x : Operand) (t : TypeId)
    (ho : q.op = .call { callee := .builtin .clear, args := #[x], argTypes := #[t] })
    (i0 : TypeInfo) (z : Value) (ht : P.underlying t = some (.slice T)) (hi : P.info? T = some i0) (hz : i0.zero = some z) (hzs : z.cells.size = E.size) (hz1 : ∀ u ∈ z.cells.toList, u.oneCell' = true)
    (o : Own w (sl T E (.slice (some ⟨g, 0, none⟩) n cap) xs :: F)) (i a k c : Nat) (A : Option Addr) (hx : act.eval x = .slice A k c) (hil : i ≤ xs.length) (hia : i ≤ a) (hak : a + k ≤ cap) (hA : 0 < k → A = some ⟨g, a * E.size, none⟩)
    (h : ∀ w', Own w' (sl T E (.slice (some ⟨g, 0, none⟩) i cap) (xs.take i) :: F) → Ext w w' → wpList P ops Q rest (act.put q.dst (.tuple #[])) w') : wpList P ops Q (q :: rest) act w := by
  refine wpList_plain hgd fun K hK => ?_
  obtain ⟨w', hr, h2, h3⟩ := run_clear_sl (P := P) t q.type i0 z ht hi hz hzs hz1 o i a k c A hil hia hak hA
  unfold Oper.wp execOp
  simp only [ho, resolve, invoke, builtin, Sem.run_bind, Sem.run_pure, Result.andThen_ok, List.map_toArray, List.map_cons, List.map_nil, hx, hr]
  exact hK _ _ (h w' h2 h3)

theorem step_cut_sl {ops : Array Oper} {q : Oper} {act : Act} {K : Act → World → Prop} {Q : Exit → Act → World → Prop} {E' : Prop} (hgd : q.guard = none) (s x : Operand) (t : TypeId)
    (ho : q.op = .call { callee := .builtin .append, args := #[s, x], argTypes := #[t, t] })
    (i0 : TypeInfo) (ht : P.underlying t = some (.slice T)) (hi : P.info? T = some i0) (hsize : i0.size = E.size)
    (o : Own w (sl T E (.slice (some ⟨g, 0, none⟩) n cap) xs :: F)) (i j m c : Nat) (A : Option Addr) (hs : act.eval s = .slice (some ⟨g, 0, none⟩) i cap) (hx : act.eval x = .slice A m c) (hm : m = xs.length - j) (hij : i ≤ j) (hj : j ≤ xs.length) (hA : j < xs.length → A = some ⟨g, j * E.size, none⟩) (hA0 : A ≠ none)
    (h : ∀ w', Own w' (sl T E (.slice (some ⟨g, 0, none⟩) (i + m) cap) (xs.take i ++ xs.drop j) :: F) → Ext w w' → K (act.put q.dst (.slice (some ⟨g, 0, none⟩) (i + m) cap)) w') :
    if Region.wanted q (yielded ops act.tmps) = true then Oper.wp P q act w K Q else E' := by
  subst hm
  rw [if_pos (by simp [Region.wanted, hgd])]
  obtain ⟨w', hr, h2, h3⟩ := run_cut_sl (P := P) t q.type i0 ht hi hsize o i j c A hij hj hA hA0
  unfold Oper.wp execOp
  simp only [ho, resolve, invoke, builtin, Sem.run_bind, Sem.run_pure, Result.andThen_ok, List.map_toArray, List.map_cons, List.map_nil, hs, hx, hr]
  exact h w' h2 h3
end
end Go.Sl
