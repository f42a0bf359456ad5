/- A slice appended to an owned one: nil, empty or full. -/
import Derived.Test.YtdmdnhceiddcfaaGreatSlk
set_option linter.all false
namespace Go.Sl
open Go.RowKit

theorem sl_empty' {α : Type} (T : TypeId) (E : Enc α) {w : World} {F : List Chunk} {g : Nat} (o : Own w (pts g (.cells #[] T (0, 0)) :: F)) : Own w (sl T E (.slice (some ⟨g, 0, none⟩) 0 0) ([] : List α) :: F) := by
  have h := slc_mk (n := 0) (cap := 0) (size := E.size) o (Nat.le_refl _) (by simp [maxLen]) (by simp)
  have e : List.take (0 * E.size) (#[] : Array Value).toList = E.flat ([] : List α) := by simp [Enc.flat]
  rw [e] at h
  exact h
/-- A slice that has just been built out of its elements. -/
theorem sl_built {α : Type} (T : TypeId) (E : Enc α) {w : World} {F : List Chunk} {g n : Nat} {cs : Array Value} (xs : List α) (o : Own w (pts g (.cells cs T (0, 0)) :: F)) (hn : n = xs.length) (hm : n ≤ maxLen) (hc : cs.toList = E.flat xs) : Own w (sl T E (.slice (some ⟨g, 0, none⟩) n n) xs :: F) := by
  subst hn
  have hs : cs.size = xs.length * E.size := by rw [← Array.length_toList, hc, E.flat_len]
  have h := slc_mk (n := xs.length) (cap := xs.length) (size := E.size) o (Nat.le_refl _) hm hs
  have e : List.take (xs.length * E.size) cs.toList = E.flat xs := by rw [hc, ← E.flat_len, List.take_length]
  rw [e] at h
  exact h
section
variable {P : Program} {α : Type} {w : World} {F : List Chunk} {T : TypeId} {E : Enc α} {xs ys : List α} {v y : Value}

theorem Enc.flat_at {α : Type} (E : Enc α) : ∀ (xs : List α) (q : Nat) (u : Value), (E.flat xs)[q]? = some u → ∃ i j x, q = i * E.size + j ∧ xs[i]? = some x ∧ (E.cells x)[j]? = some u
  | [], q, u, h => by simp [Enc.flat] at h
  | x :: xs, q, u, h => by
    have e : E.flat (x :: xs) = E.cells x ++ E.flat xs := by simp [Enc.flat]
    rw [e] at h
    rcases Nat.lt_or_ge q (E.cells x).length with hq | hq
    · rw [List.getElem?_append_left hq] at h
      exact ⟨0, q, x, by simp, rfl, h⟩
    · rw [List.getElem?_append_right hq] at h
      obtain ⟨i, j, z, h1, h2, h3⟩ := E.flat_at xs _ u h
      rw [E.len] at h1 hq
      exact ⟨i + 1, j, z, by rw [Nat.succ_mul]; omega, by simpa using h2, h3⟩
theorem rd_news {a : Addr} {n c : Nat} (h : Rd w E (.slice (some a) n c) ys) : n = ys.length ∧ ∀ j u, (E.flat ys)[j]? = some u → w.cell? (a.add j) = some u := by
  rcases h with ⟨⟨A, cap, hv, _⟩, rfl⟩ | ⟨g, off, cap, hv, h1, h2, hc⟩
  · simp only [Value.slice.injEq] at hv
    exact ⟨hv.2.1, fun j u hu => by simp [Enc.flat] at hu⟩
  · simp only [Value.slice.injEq, Option.some.injEq] at hv
    obtain ⟨rfl, rfl, rfl⟩ := hv
    refine ⟨rfl, fun q u hu => ?_⟩
    obtain ⟨i, j, x, rfl, hx, hj⟩ := E.flat_at ys q u hu
    have hadd : (⟨g, off, none⟩ : Addr).add (i * E.size + j) = ⟨g, off + i * E.size + j, none⟩ := by
      unfold Addr.add
      split
      · rename_i h0; rw [show off + i * E.size + j = off from by omega]
      · simp [Nat.add_assoc]
    rw [hadd]
    exact hc i x hx j u hj

/-- A slice that has just been built reads as its elements. -/
theorem rd_new {b n : Nat} {fr : Nat × Nat} {cs : Array Value} (hb : w.heap.size = b) (hn : n = xs.length) (hm : n ≤ maxLen) (hc : cs.toList = E.flat xs) : Rd (w.alloc (.cells cs T fr)) E (.slice (some ⟨b, 0, none⟩) n n) xs := by
  subst hb; subst hn
  refine .inr ⟨w.heap.size, 0, xs.length, rfl, Nat.le_refl _, hm, fun i x hx j u hu => ?_⟩
  have h : (w.alloc (.cells cs T fr)).heap[w.heap.size]? = some (.cells cs T fr) := heap_alloc_new w _
  have hf := E.flat_get xs i x hx j u hu
  rw [← hc] at hf
  simp only [World.cell?, h, Nat.zero_add]
  simpa using hf

theorem run_append_rd {w : World} (t ty : TypeId) (i : TypeInfo) (z : Value) (size bytes : Nat) (ht : P.underlying t = some (.slice T)) (hi : P.info? T = some i) (hz : i.zero = some z)
    (hsize : i.size = size) (hby : i.bytes = bytes) (hzs : z.cells.size = size) (hE : E.size = size)
    (o : Own w (sl T E v xs :: F)) (h : Rd w E y ys) (h63 : xs.length + ys.length ≤ maxLen) (hb : (xs.length + ys.length) * bytes ≤ 140737488355328) :
    ∃ v' w', (Builtin.append_ #[t, t] ty #[v, y]).run P w = .ok v' w' ∧ Own w' (sl T E v' (xs ++ ys) :: F) ∧ Ext w w' ∧ (v' = .slice none 0 0 ↔ v = .slice none 0 0 ∧ ys = []) := by
  have hpos := E.pos
  obtain ⟨A, c, rfl, hm, hc⟩ := h.form
  cases A with
  | none =>
    obtain rfl : ys = [] := by
      rcases h with ⟨_, h⟩ | ⟨_, _, _, hv, _⟩
      · exact h
      · simp at hv
    refine ⟨v, w, ?_, by rw [List.append_nil]; exact o, Ext.refl _, by simp⟩
    rcases sl_form o with ⟨rfl, rfl⟩ | ⟨g, cap, rfl, hn, _⟩
    · simp [Builtin.append_, run_underlying ht, sizeOf, typeInfo, hi, Builtin.lenOf, Builtin.firstCells, loadCells, loadCellsFrom]
    · simp [Builtin.append_, run_underlying ht, sizeOf, typeInfo, hi, Builtin.lenOf, Builtin.firstCells, loadCells, loadCellsFrom, hn, storeCells]
  | some a =>
    obtain ⟨_, hnews⟩ := rd_news h
    subst hE
    obtain ⟨v', w', hr, h2, h3, h4⟩ := run_append_slc (P := P) t ty T i z E.size bytes ht hi hz hsize hby hzs hpos v xs.length (E.flat xs) o a ys.length c (E.flat ys) (E.flat_len ys) hnews (E.flat_one ys) h63 hb
    refine ⟨v', w', hr, ?_, h3, ?_⟩
    · unfold sl
      rw [E.flat_append, List.length_append]
      exact h2
    · rw [h4, List.length_eq_zero_iff]

theorem wpList_append_rd {ops : Array Oper} {rest : List Oper} {q : Oper} {a : Act} {Q : Exit → Act → World → Prop} (hgd : q.guard = none) (s x : Operand) (t : TypeId)
    (ho : q.op = .call { callee := .builtin .append, args := #[s, x], argTypes := #[t, t] })
    (i : TypeInfo) (z : Value) (size bytes : Nat) (ht : P.underlying t = some (.slice T)) (hi : P.info? T = some i) (hz : i.zero = some z)
    (hsize : i.size = size) (hby : i.bytes = bytes) (hzs : z.cells.size = size) (hE : E.size = size)
    (hs : a.eval s = v) (o : Own w (sl T E v xs :: F)) (hx : a.eval x = y) (h : Rd w E y ys) (h63 : xs.length + ys.length ≤ maxLen) (hb : (xs.length + ys.length) * bytes ≤ 140737488355328)
    (hk : ∀ v' w', Own w' (sl T E v' (xs ++ ys) :: F) → Ext w w' → (v' = .slice none 0 0 ↔ v = .slice none 0 0 ∧ ys = []) → wpList P ops Q rest (a.put q.dst v') w') : wpList P ops Q (q :: rest) a w := by
  refine wpList_plain hgd fun K hK => ?_
  obtain ⟨v', w', hr, h2, h3, h4⟩ := run_append_rd (P := P) t q.type i z size bytes ht hi hz hsize hby hzs hE o h h63 hb
  unfold Oper.wp execOp
  simp only [ho, resolve, invoke, builtin, Sem.run_bind, Sem.run_pure, Result.andThen_ok, List.map_toArray, List.map_cons, List.map_nil, hs, hx, hr]
  exact hK _ _ (hk v' w' h2 h3 h4)
theorem step_append_rd {w : World} {ops : Array Oper} {q : Oper} {a : Act} {K : Act → World → Prop} {Q : Exit → Act → World → Prop} {E' : Prop} (hgd : q.guard = none) (s x : Operand) (t : TypeId)
    (ho : q.op = .call { callee := .builtin .append, args := #[s, x], argTypes := #[t, t] })
    (i : TypeInfo) (z : Value) (size bytes : Nat) (ht : P.underlying t = some (.slice T)) (hi : P.info? T = some i) (hz : i.zero = some z)
    (hsize : i.size = size) (hby : i.bytes = bytes) (hzs : z.cells.size = size) (hE : E.size = size)
    (hs : a.eval s = v) (o : Own w (sl T E v xs :: F)) (hx : a.eval x = y) (h : Rd w E y ys) (h63 : xs.length + ys.length ≤ maxLen) (hb : (xs.length + ys.length) * bytes ≤ 140737488355328)
    (hk : ∀ A n c w', Own w' (sl T E (.slice A n c) (xs ++ ys) :: F) → Ext w w' → K (a.put q.dst (.slice A n c)) w') :
    if Region.wanted q (yielded ops a.tmps) = true then Oper.wp P q a w K Q else E' := by
  rw [if_pos (by simp [Region.wanted, hgd])]
  obtain ⟨v', w', hr, h2, h3, h4⟩ := run_append_rd (P := P) t q.type i z size bytes ht hi hz hsize hby hzs hE o h h63 hb
  obtain ⟨A, n, c, rfl⟩ := sl_shape h2
  unfold Oper.wp execOp
  simp only [ho, resolve, invoke, builtin, Sem.run_bind, Sem.run_pure, Result.andThen_ok, List.map_toArray, List.map_cons, List.map_nil, hs, hx, hr]
  exact hk _ _ _ w' h2 h3
end
end Go.Sl
