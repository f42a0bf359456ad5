/- Slices whose elements are read or owned piece by piece: how they read, how they are made longer, and what clearing does. -/
import Derived.Test.YtdmdnhceiddcfaaGreatSl
import Derived.Laws.Rows
set_option linter.all false
namespace Go.Sl
open Go.RowKit

/-- How an element lies in cells. -/
structure Enc (α : Type) where
  cells : α → List Value
  size : Nat
  len : ∀ x, (cells x).length = size
  one : ∀ x, ∀ v ∈ cells x, v.oneCell' = true
  pos : 0 < size

def Enc.flat {α : Type} (E : Enc α) (xs : List α) : List Value := xs.flatMap E.cells
theorem Enc.flat_len {α : Type} (E : Enc α) (xs : List α) : (E.flat xs).length = xs.length * E.size := by
  induction xs with
  | nil => simp [Enc.flat]
  | cons x xs ih =>
    simp only [Enc.flat, List.flatMap_cons, List.length_append, List.length_cons] at ih ⊢
    rw [ih, E.len, Nat.succ_mul]; omega
theorem Enc.flat_append {α : Type} (E : Enc α) (xs ys : List α) : E.flat (xs ++ ys) = E.flat xs ++ E.flat ys := by simp [Enc.flat]
theorem Enc.flat_one {α : Type} (E : Enc α) (xs : List α) : ∀ v ∈ E.flat xs, v.oneCell' = true := by
  intro v hv
  obtain ⟨x, _, h⟩ := List.mem_flatMap.1 hv
  exact E.one x v h
theorem Enc.flat_get {α : Type} (E : Enc α) : ∀ (xs : List α) (i : Nat) (x : α), xs[i]? = some x → ∀ (j : Nat) (u : Value), (E.cells x)[j]? = some u → (E.flat xs)[i * E.size + j]? = some u
  | [], i, x, h, _, _, _ => by simp at h
  | y :: ys, 0, x, h, j, u, hu => by
    obtain rfl : y = x := by simpa using h
    have hj : j < (E.cells y).length := (List.getElem?_eq_some_iff.1 hu).1
    simp only [Enc.flat, List.flatMap_cons, Nat.zero_mul, Nat.zero_add]
    rw [List.getElem?_append_left hj]; exact hu
  | y :: ys, i + 1, x, h, j, u, hu => by
    have ih := E.flat_get ys i x (by simpa using h) j u hu
    simp only [Enc.flat, List.flatMap_cons] at ih ⊢
    rw [List.getElem?_append_right (by rw [E.len, Nat.succ_mul]; omega), E.len, show (i + 1) * E.size + j - E.size = i * E.size + j from by rw [Nat.succ_mul]; omega]
    exact ih
theorem Enc.flat_take {α : Type} (E : Enc α) (xs : List α) (k : Nat) : (E.flat xs).take (k * E.size) = E.flat (xs.take k) := by
  induction xs generalizing k with
  | nil => simp [Enc.flat]
  | cons x xs ih =>
    cases k with
    | zero => simp [Enc.flat]
    | succ k =>
      have := ih k
      simp only [Enc.flat, List.flatMap_cons, List.take_succ_cons] at this ⊢
      rw [List.take_append, E.len, show (k + 1) * E.size - E.size = k * E.size from by rw [Nat.succ_mul]; omega, this, List.take_of_length_le (by rw [E.len, Nat.succ_mul]; omega)]
theorem Enc.flat_drop {α : Type} (E : Enc α) (xs : List α) (k : Nat) : (E.flat xs).drop (k * E.size) = E.flat (xs.drop k) := by
  induction xs generalizing k with
  | nil => simp [Enc.flat]
  | cons x xs ih =>
    cases k with
    | zero => simp [Enc.flat]
    | succ k =>
      have := ih k
      simp only [Enc.flat, List.flatMap_cons, List.drop_succ_cons] at this ⊢
      rw [List.drop_append, E.len, show (k + 1) * E.size - E.size = k * E.size from by rw [Nat.succ_mul]; omega, this, List.drop_eq_nil_of_le (by rw [E.len, Nat.succ_mul]; omega), List.nil_append]

/-- A slice value reads as a list (nothing is said of who owns it). -/
def Rd {α : Type} (w : World) (E : Enc α) (v : Value) (xs : List α) : Prop :=
  ((∃ (A : Option Addr) (cap : Nat), v = .slice A 0 cap ∧ cap ≤ maxLen) ∧ xs = []) ∨
  ∃ (g off cap : Nat), v = .slice (some ⟨g, off, none⟩) xs.length cap ∧ xs.length ≤ cap ∧ cap ≤ maxLen ∧ (∀ i x, xs[i]? = some x → ∀ j u, (E.cells x)[j]? = some u → w.cell? ⟨g, off + i * E.size + j, none⟩ = some u)

/-- A slice that is owned whole, with its spare places. -/
def slc (T : TypeId) (size : Nat) (v : Value) (n : Nat) (xs : List Value) : Chunk := fun h =>
  xs.length = n * size ∧ ((v = .slice none 0 0 ∧ n = 0 ∧ emp h) ∨
    ∃ (g cap : Nat) (cur : Array Value), v = .slice (some ⟨g, 0, none⟩) n cap ∧ n ≤ cap ∧ cap ≤ maxLen ∧ cur.size = cap * size ∧ cur.toList.take (n * size) = xs ∧ pts g (.cells cur T (0, 0)) h)
def sl {α : Type} (T : TypeId) (E : Enc α) (v : Value) (xs : List α) : Chunk := slc T E.size v xs.length (E.flat xs)

section
variable {w : World} {cs : List Chunk} {T : TypeId} {size n : Nat} {v : Value} {xs : List Value}
theorem slc_open (o : Own w (slc T size v n xs :: cs)) : xs.length = n * size ∧ ((v = .slice none 0 0 ∧ n = 0 ∧ xs = [] ∧ Own w cs) ∨
    ∃ (g cap : Nat) (cur : Array Value), v = .slice (some ⟨g, 0, none⟩) n cap ∧ n ≤ cap ∧ cap ≤ maxLen ∧ cur.size = cap * size ∧ cur.toList.take (n * size) = xs ∧ Own w (pts g (.cells cur T (0, 0)) :: cs)) := by
  obtain ⟨h, ⟨h1, h2, ⟨hl, hc⟩, s, d, e⟩, g⟩ := o
  refine ⟨hl, ?_⟩
  rcases hc with ⟨rfl, rfl, he⟩ | ⟨gb, cap, cur, hv, h3, h4, h5, h6, h7⟩
  · exact .inl ⟨rfl, rfl, List.eq_nil_of_length_eq_zero (by simpa using hl), h2, s, fun b x hx => g b x (by rw [e, he]; simpa using hx)⟩
  · exact .inr ⟨gb, cap, cur, hv, h3, h4, h5, h6, h, ⟨h1, h2, h7, s, d, e⟩, g⟩
theorem slc_nil (T : TypeId) (size : Nat) (o : Own w cs) : Own w (slc T size (.slice none 0 0) 0 [] :: cs) := by
  obtain ⟨h, s, g⟩ := o
  exact ⟨h, ⟨fun _ => none, h, ⟨by simp, .inl ⟨rfl, rfl, fun _ => rfl⟩⟩, s, fun _ => .inl rfl, fun _ => rfl⟩, g⟩
theorem slc_mk {g cap : Nat} {cur : Array Value} (o : Own w (pts g (.cells cur T (0, 0)) :: cs)) (hn : n ≤ cap) (hc : cap ≤ maxLen) (hs : cur.size = cap * size) : Own w (slc T size (.slice (some ⟨g, 0, none⟩) n cap) n (cur.toList.take (n * size)) :: cs) := by
  refine o.head fun h p => ⟨?_, .inr ⟨g, cap, cur, rfl, hn, hc, hs, rfl, p⟩⟩
  rw [List.length_take, Array.length_toList, hs]
  exact Nat.min_eq_left (Nat.mul_le_mul_right _ hn)
end

section
variable {α : Type} {w : World} {cs : List Chunk} {T : TypeId} {E : Enc α} {v : Value} {xs : List α}
theorem add_add' (a : Addr) (ha : a.spot = none) (i j : Nat) : (a.add i).add j = ⟨a.block, a.off + i + j, none⟩ := by
  unfold Addr.add
  cases a with
  | mk b o s =>
    dsimp only at ha; subst ha
    by_cases hi : i = 0 <;> by_cases hj : j = 0 <;> simp [hi, hj]
theorem sl_rd (o : Own w (sl T E v xs :: cs)) : Rd w E v xs := by
  obtain ⟨hl, h⟩ := slc_open o
  rcases h with ⟨rfl, hn, _, _⟩ | ⟨g, cap, cur, rfl, hn, hc, hs, ht, o⟩
  · exact .inl ⟨⟨none, 0, rfl, by simp [maxLen]⟩, List.eq_nil_of_length_eq_zero hn⟩
  · refine .inr ⟨g, 0, cap, rfl, hn, hc, fun i x hx j u hu => ?_⟩
    have hg := o.get
    have hi : i < xs.length := (List.getElem?_eq_some_iff.1 hx).1
    have hj : j < E.size := by rw [← E.len x]; exact (List.getElem?_eq_some_iff.1 hu).1
    have := E.flat_get xs i x hx j u hu
    rw [← ht, List.getElem?_take] at this
    split at this
    · simp only [World.cell?, hg, Nat.zero_add]
      simpa using this
    · cases this
theorem sl_nil (T : TypeId) (E : Enc α) (o : Own w cs) : Own w (sl T E (.slice none 0 0) ([] : List α) :: cs) := slc_nil T E.size o
theorem Rd.len (h : Rd w E v xs) : xs.length ≤ maxLen := by
  rcases h with ⟨_, rfl⟩ | ⟨g, off, cap, _, h1, h2, _⟩
  · simp [maxLen]
  · omega
/-- What a slice value looks like. -/
theorem Rd.form (h : Rd w E v xs) : ∃ a cap, v = .slice a xs.length cap ∧ xs.length ≤ maxLen ∧ xs.length ≤ cap := by
  rcases h with ⟨⟨A, cap, rfl, hc⟩, rfl⟩ | ⟨g, off, cap, rfl, h1, h2, _⟩
  · exact ⟨A, cap, rfl, by simp [maxLen], by simp⟩
  · exact ⟨some ⟨g, off, none⟩, cap, rfl, by omega, h1⟩
end

/-- The cells of the block that has just been made. -/
theorem cells_new (w : World) (l : List Value) (T : TypeId) (fr : Nat × Nat) : ∀ j u, l[j]? = some u → (w.alloc (.cells l.toArray T fr)).cell? ((⟨w.heap.size, 0, none⟩ : Addr).add j) = some u := by
  intro j u hu
  have hadd : (⟨w.heap.size, 0, none⟩ : Addr).add j = ⟨w.heap.size, j, none⟩ := by unfold Addr.add; split <;> simp_all
  rw [hadd]
  have h : (w.alloc (.cells l.toArray T fr)).heap[w.heap.size]? = some (.cells l.toArray T fr) := heap_alloc_new w _
  unfold World.cell?
  dsimp only
  rw [h]
  simp [hu]
theorem cells_new' {w : World} {b : Nat} (hb : w.heap.size = b) (l : List Value) (T : TypeId) (fr : Nat × Nat) : ∀ j u, l[j]? = some u → (w.alloc (.cells l.toArray T fr)).cell? ((⟨b, 0, none⟩ : Addr).add j) = some u := by
  subst hb; exact cells_new w l T fr
/-- An owned slice, its elements seen as elements. -/
theorem sl_of {α : Type} {w : World} {F : List Chunk} {T : TypeId} {E : Enc α} {v : Value} {n : Nat} {ys : List Value} (xs : List α) (o : Own w (slc T E.size v n ys :: F)) (hn : n = xs.length) (hy : ys = E.flat xs) : Own w (sl T E v xs :: F) := by
  subst hn; subst hy; exact o
/-- A list out of its cells. -/
theorem rd_choose {α : Type} {w : World} {E : Enc α} {P : α → Prop} (A : Option Addr) (len cap : Nat) (h1 : len ≤ cap) (h2 : cap ≤ maxLen)
    (h : ∀ i, i < len → ∃ x, P x ∧ ∃ a, A = some a ∧ ∀ j u, (E.cells x)[j]? = some u → w.cell? (a.add (i * E.size + j)) = some u) :
    ∃ xs : List α, Rd w E (.slice A len cap) xs ∧ xs.length = len ∧ ∀ x ∈ xs, P x := by
  rcases Nat.eq_zero_or_pos len with rfl | hl
  · exact ⟨[], .inl ⟨⟨A, cap, rfl, h2⟩, rfl⟩, rfl, by simp⟩
  · let f : Fin len → α := fun i => (h i.1 i.2).choose
    have hf : ∀ i : Fin len, P (f i) ∧ ∃ a, A = some a ∧ ∀ j u, (E.cells (f i))[j]? = some u → w.cell? (a.add (i.1 * E.size + j)) = some u := fun i => (h i.1 i.2).choose_spec
    obtain ⟨a, rfl⟩ : ∃ a, A = some a := by obtain ⟨_, a, ha, _⟩ := hf ⟨0, hl⟩; exact ⟨a, ha⟩
    have hs : a.spot = none := by
      obtain ⟨_, a', ha, hc⟩ := hf ⟨0, hl⟩
      obtain rfl : a = a' := by simpa using ha
      obtain ⟨u, hu⟩ : ∃ u, (E.cells (f ⟨0, hl⟩))[0]? = some u := ⟨_, List.getElem?_eq_getElem (by rw [E.len]; exact E.pos)⟩
      have := hc 0 u hu
      simp only [Nat.zero_mul, Nat.add_zero] at this
      have e : a.add 0 = a := rfl
      rw [e] at this
      unfold World.cell? at this
      cases hsp : a.spot with
      | none => rfl
      | some q => rw [hsp] at this; simp at this; split at this <;> simp at this
    obtain ⟨g, off, sp⟩ := a
    dsimp only at hs; subst hs
    refine ⟨List.ofFn f, .inr ⟨g, off, cap, by simp, by simpa using h1, h2, fun i x hx j u hu => ?_⟩, by simp, fun x hx => ?_⟩
    · rw [List.getElem?_ofFn] at hx
      split at hx
      · rename_i hi
        obtain rfl : f ⟨i, hi⟩ = x := by simpa using hx
        obtain ⟨_, a', ha, hc⟩ := hf ⟨i, hi⟩
        obtain rfl : (⟨g, off, none⟩ : Addr) = a' := by simpa using ha
        have := hc j u hu
        have e : (⟨g, off, none⟩ : Addr).add (i * E.size + j) = ⟨g, off + i * E.size + j, none⟩ := by
          unfold Addr.add
          split
          · rename_i h0; rw [show off + i * E.size + j = off from by omega]
          · simp [Nat.add_assoc]
        rw [e] at this; exact this
      · cases hx
    · obtain ⟨i, rfl⟩ := List.mem_ofFn.1 hx
      exact (hf i).1
/-- A chunk list gives a fact. -/
def Gives (D : List Chunk) (φ : World → Prop) : Prop := ∀ w F, Own w (D ++ F) → φ w

theorem rd_base {α : Type} {W : World} {E : Enc α} {v : Value} {xs : List α} (h : Rd W E v xs) : Gives [base W W.heap.size] fun w => Rd w E v xs := by
  intro w F o
  rcases h with h | ⟨g, off, cap, hv, h1, h2, hc⟩
  · exact .inl h
  · refine .inr ⟨g, off, cap, hv, h1, h2, fun i x hx j u hu => ?_⟩
    have h3 := hc i x hx j u hu
    have hg : g < W.heap.size := World.block_lt_of_cell? W _ h3
    rw [World.cell?_of_block (w := W) (a := ⟨g, off + i * E.size + j, none⟩) (o.below (Nat.le_refl _) hg)]
    exact h3

section
variable {P : Program}
theorem run_append_slc {w : World} {F : List Chunk} (t ty e : TypeId) (i : TypeInfo) (z : Value) (size bytes : Nat) (ht : P.underlying t = some (.slice e)) (hi : P.info? e = some i) (hz : i.zero = some z)
    (hsize : i.size = size) (hby : i.bytes = bytes) (hzs : z.cells.size = size) (hsz : 0 < size)
    (v : Value) (n : Nat) (xs : List Value) (hown : Own w (slc e size v n xs :: F))
    (a : Addr) (m c : Nat) (news : List Value) (hl : news.length = m * size) (hnews : ∀ j u, news[j]? = some u → w.cell? (a.add j) = some u) (h1 : ∀ u ∈ news, u.oneCell' = true)
    (h63 : n + m ≤ maxLen) (hbytes : (n + m) * bytes ≤ 140737488355328) :
    ∃ v' w', (Builtin.append_ #[t, t] ty #[v, .slice (some a) m c]).run P w = .ok v' w' ∧ Own w' (slc e size v' (n + m) (xs ++ news) :: F) ∧ Ext w w' ∧
      (v' = .slice none 0 0 ↔ v = .slice none 0 0 ∧ m = 0) := by
  subst hsize
  subst hby
  obtain ⟨hxl, hcase⟩ := slc_open hown
  have hsmall : n + m ≤ 9223372036854775807 := by simp only [maxLen] at h63; omega
  have hlen : (xs ++ news).length = (n + m) * i.size := by rw [List.length_append, hxl, hl, Nat.add_mul]
  have grown : ∀ (old : Nat), old < n + m → Own w F →
      Own (w.drew.alloc (.cells (xs.toArray ++ news.toArray ++ Builtin.zeroCells z.cells (grownCap w (n + m) old e - (n + m))) e)) (slc e i.size
        (.slice (some ⟨w.heap.size, 0, none⟩) (n + m) (grownCap w (n + m) old e)) (n + m) (xs ++ news) :: F) ∧
      Ext w (w.drew.alloc (.cells (xs.toArray ++ news.toArray ++ Builtin.zeroCells z.cells (grownCap w (n + m) old e - (n + m))) e)) := by
    intro old ho hF
    have hge := grownCap_ge w (n + m) old e
    have hcm : grownCap w (n + m) old e ≤ maxLen := grownCap_le_maxLen w (n + m) old e h63
    refine ⟨?_, ((Ext.refl w).drew).alloc _⟩
    have o := hF.drew.alloc (.cells (xs.toArray ++ news.toArray ++ Builtin.zeroCells z.cells (grownCap w (n + m) old e - (n + m))) e)
    have o2 := slc_mk (n := n + m) (cap := grownCap w (n + m) old e) (size := i.size) o hge hcm (by
      simp only [Array.size_append, List.size_toArray, size_zeroCells, hzs, hxl, hl, ← Nat.add_mul]
      congr 1
      omega)
    have e2 : (xs.toArray ++ news.toArray ++ Builtin.zeroCells z.cells (grownCap w (n + m) old e - (n + m))).toList.take ((n + m) * i.size) = xs ++ news := by
      simp only [Array.toList_append, List.append_assoc]
      rw [← List.append_assoc, ← hlen]
      exact List.take_left
    rw [e2] at o2
    exact o2
  rcases hcase with ⟨rfl, rfl, rfl, oF⟩ | ⟨g, cap, cur, rfl, hnc, hcm, hcs, htake, og⟩
  · by_cases hm : m = 0
    · subst hm
      have hn : news = [] := List.eq_nil_of_length_eq_zero (by simpa using hl)
      subst hn
      refine ⟨.slice none 0 0, w, ?_, hown, Ext.refl _, by simp⟩
      simp [Builtin.append_, run_underlying ht, sizeOf, typeInfo, hi, Builtin.lenOf, Builtin.firstCells, loadCells, loadCellsFrom]
    · have hr := run_append_nil (P := P) w t ty e i z ht hi hz a m c news hl hnews (by omega) (by omega) (by have hb := hbytes; simp only [Nat.zero_add] at hb; omega)
      have hgr := grown 0 (by omega) oF
      simp only [Nat.zero_add, List.nil_append, Array.empty_append] at hgr ⊢
      exact ⟨_, _, hr, hgr.1, hgr.2, by simp [hm]⟩
  · have hg := og.get
    by_cases hroom : n + m ≤ cap
    · have hfit : n * i.size + news.length ≤ cur.size := by rw [hl, hcs, ← Nat.add_mul]; exact Nat.mul_le_mul_right _ hroom
      have hr := run_append_room (P := P) w t ty e i ht hi g n cap cur hg a m c news hl hnews h1 hroom hfit
      refine ⟨_, _, hr, ?_, ⟨rfl, rfl, rfl, by simp [World.setRow]⟩, by simp⟩
      have o2 := og.turn (w' := w.setRow g (cur.toList.take (n * i.size) ++ news ++ cur.toList.drop (n * i.size + news.length)).toArray) (setRow_heap w g cur _ e _ hg) (fun k _ hk => setRow_other w g k _ hk)
      have o3 := slc_mk (n := n + m) (size := i.size) o2 hroom hcm (by
        simp only [List.size_toArray, List.length_append, List.length_take, List.length_drop, Array.length_toList]
        omega)
      have e2 : (cur.toList.take (n * i.size) ++ news ++ cur.toList.drop (n * i.size + news.length)).toArray.toList.take ((n + m) * i.size) = xs ++ news := by
        simp only [htake, ← hlen]
        exact List.take_left
      rw [e2] at o3
      exact o3
    · have holds : ∀ j u, xs[j]? = some u → w.cell? ((⟨g, 0, none⟩ : Addr).add j) = some u := by
        intro j u hu
        have hadd : (⟨g, 0, none⟩ : Addr).add j = ⟨g, j, none⟩ := by unfold Addr.add; split <;> simp_all
        rw [hadd, cell_of_row w g j cur e (0, 0) hg]
        rw [← htake, List.getElem?_take] at hu
        split at hu
        · simpa using hu
        · cases hu
      have hr := run_append_grow (P := P) w t ty e i z ht hi hz ⟨g, 0, none⟩ n cap xs hxl holds a m c news hl hnews (by omega) (by omega) (growslice_fits (by omega) hbytes)
      have hgr := grown cap (by omega) og.drop
      exact ⟨_, _, hr, hgr.1, hgr.2, by simp⟩

theorem step_append_slc {w : World} {F : List Chunk} {ops : Array Oper} {o : Oper} {a : Act} {K : Act → World → Prop} {Q : Exit → Act → World → Prop} {E' : Prop} (hgd : o.guard = none) (s x : Operand) (t : TypeId)
    (ho : o.op = .call { callee := .builtin .append, args := #[s, x], argTypes := #[t, t] })
    (e : TypeId) (i : TypeInfo) (z : Value) (size bytes : Nat) (ht : P.underlying t = some (.slice e)) (hi : P.info? e = some i) (hz : i.zero = some z)
    (hsize : i.size = size) (hby : i.bytes = bytes) (hzs : z.cells.size = size) (hsz : 0 < size)
    (v : Value) (n : Nat) (xs : List Value) (hs : a.eval s = v) (hown : Own w (slc e size v n xs :: F))
    (ad : Addr) (m c : Nat) (news : List Value) (hx : a.eval x = .slice (some ad) m c) (hl : news.length = m * size) (hnews : ∀ j u, news[j]? = some u → w.cell? (ad.add j) = some u) (h1 : ∀ u ∈ news, u.oneCell' = true)
    (h63 : n + m ≤ maxLen) (hbytes : (n + m) * bytes ≤ 140737488355328) (hm : 0 < m)
    (h : ∀ A c' w', Own w' (slc e size (.slice A (n + m) c') (n + m) (xs ++ news) :: F) → Ext w w' → K (a.put o.dst (.slice A (n + m) c')) w') :
    if Region.wanted o (yielded ops a.tmps) = true then Oper.wp P o a w K Q else E' := by
  rw [if_pos (by simp [Region.wanted, hgd])]
  obtain ⟨v', w', hr, h2, h3, h4⟩ := run_append_slc (P := P) t o.type e i z size bytes ht hi hz hsize hby hzs hsz v n xs hown ad m c news hl hnews h1 h63 hbytes
  obtain ⟨hl2, h5⟩ := slc_open h2
  rcases h5 with ⟨_, h5, _⟩ | ⟨g, cap, cur, rfl, _⟩
  · omega
  unfold Oper.wp execOp
  simp only [ho, resolve, invoke, builtin, Sem.run_bind, Sem.run_pure, Result.andThen_ok, List.map_toArray, List.map_cons, List.map_nil, hs, hx, hr]
  exact h _ _ w' h2 h3

theorem wpList_append_slc {w : World} {F : List Chunk} {ops : Array Oper} {rest : List Oper} {o : Oper} {a : Act} {Q : Exit → Act → World → Prop} (hgd : o.guard = none) (s x : Operand) (t : TypeId)
    (ho : o.op = .call { callee := .builtin .append, args := #[s, x], argTypes := #[t, t] })
    (e : TypeId) (i : TypeInfo) (z : Value) (size bytes : Nat) (ht : P.underlying t = some (.slice e)) (hi : P.info? e = some i) (hz : i.zero = some z)
    (hsize : i.size = size) (hby : i.bytes = bytes) (hzs : z.cells.size = size) (hsz : 0 < size)
    (v : Value) (n : Nat) (xs : List Value) (hs : a.eval s = v) (hown : Own w (slc e size v n xs :: F))
    (ad : Addr) (m c : Nat) (news : List Value) (hx : a.eval x = .slice (some ad) m c) (hl : news.length = m * size) (hnews : ∀ j u, news[j]? = some u → w.cell? (ad.add j) = some u) (h1 : ∀ u ∈ news, u.oneCell' = true)
    (h63 : n + m ≤ maxLen) (hbytes : (n + m) * bytes ≤ 140737488355328)
    (h : ∀ v' w', Own w' (slc e size v' (n + m) (xs ++ news) :: F) → Ext w w' → (v' = .slice none 0 0 ↔ v = .slice none 0 0 ∧ m = 0) → wpList P ops Q rest (a.put o.dst v') w') : wpList P ops Q (o :: rest) a w := by
  refine wpList_plain hgd fun K hK => ?_
  obtain ⟨v', w', hr, h2, h3, h4⟩ := run_append_slc (P := P) t o.type e i z size bytes ht hi hz hsize hby hzs hsz v n xs hown ad m c news hl hnews h1 h63 hbytes
  unfold Oper.wp execOp
  simp only [ho, resolve, invoke, builtin, Sem.run_bind, Sem.run_pure, Result.andThen_ok, List.map_toArray, List.map_cons, List.map_nil, hs, hx, hr]
  exact hK _ _ (h v' w' h2 h3 h4)
end

end Go.Sl
