/- Rows of the kit's sort and owned slices: one into the other. -/
import Derived.Test.YtdmdnhceiddcfaaGreatSlk
import Derived.Shelf.GgSortFunc.RowK
import Derived.Shelf.GgSortFunc.InsertionK
set_option linter.all false
namespace Go.Sl
open Go.RowKit Go.Sort

section
variable {w : World} {F : List Chunk} {g : Nat} {T : TypeId} {fr : Nat × Nat}
theorem own_mapb {c : Array Value} (o : Own w (pts g (.cells c T fr) :: F)) (f : Array Value → Array Value) (m : Nat) (os : Array Obj) :
    Own (grow (mapBlock (Sort.ahead w m) g f) os) (pts g (.cells (f c) T fr) :: F) := by
  have hg := o.get
  have hlt := o.lt
  have hs : g < (mapBlock (Sort.ahead w m) g f).heap.size := by show g < (Array.modify _ _ _).size; rw [Array.size_modify]; exact hlt
  refine o.turn ?_ fun k hk hne => ?_
  · rw [heap_grow_old _ _ hs]
    show (Array.modify _ _ _)[g]? = _
    rw [Array.getElem?_modify, if_pos rfl]
    show (w.heap[g]?).map _ = _
    rw [hg]; rfl
  · rw [heap_grow_old _ _ (by show k < (Array.modify _ _ _).size; rw [Array.size_modify]; exact hk)]
    show (Array.modify _ _ _)[k]? = _
    rw [Array.getElem?_modify, if_neg (by omega)]
    rfl
theorem ext_mapb (w : World) (f : Array Value → Array Value) (m g : Nat) (os : Array Obj) : Ext w (grow (mapBlock (Sort.ahead w m) g f) os) :=
  ⟨rfl, rfl, rfl, by rw [size_grow]; show _ ≤ (Array.modify _ _ _).size + _; rw [Array.size_modify]; show w.heap.size ≤ w.heap.size + _; omega⟩
end

section
variable {α : Type} {w : World} {F : List Chunk} {g n cap : Nat} {T : TypeId} {E : Enc α} {xs : List α}
theorem take_put (Fl cur : Array Value) (h : Fl.size ≤ cur.size) : (putCells id 0 Fl cur).toList.take Fl.size = Fl.toList := by
  apply List.ext_getElem?
  intro q
  rw [List.getElem?_take]
  split
  · rename_i hq
    have hc : q < cur.size := by omega
    rw [Array.getElem?_toList, Array.getElem?_toList, putCells, Array.getElem?_mapIdx]
    rw [Array.getElem?_eq_getElem hc, Array.getElem?_eq_getElem hq]
    simp [hq]
  · rename_i hq
    rw [List.getElem?_eq_none (by rw [Array.length_toList]; omega)]
/-- A row of cells laid over an owned slice. -/
theorem sl_row (o : Own w (sl T E (.slice (some ⟨g, 0, none⟩) n cap) xs :: F)) (Fl : Array Value) (ys : List α) (hy : Fl.toList = E.flat ys) (hl : ys.length = xs.length) (m : Nat) (os : Array Obj) :
    Own (grow (putRow id (Sort.ahead w m) g 0 Fl) os) (sl T E (.slice (some ⟨g, 0, none⟩) n cap) ys :: F) ∧ Ext w (grow (putRow id (Sort.ahead w m) g 0 Fl) os) := by
  refine ⟨?_, ext_mapb _ _ _ _ _⟩
  obtain ⟨_, h⟩ := slc_open o
  rcases h with ⟨h, _⟩ | ⟨g', cap', cur, hv, hn, hc, hs, ht, o'⟩
  · simp at h
  · simp only [Value.slice.injEq, Option.some.injEq, Addr.mk.injEq] at hv
    obtain ⟨⟨rfl, -, -⟩, rfl, rfl⟩ := hv
    have o2 := own_mapb o' (putCells id 0 Fl) m os
    have hFs : Fl.size = ys.length * E.size := by rw [← Array.length_toList, hy, E.flat_len]
    have h3 := slc_mk (n := xs.length) (cap := cap) (size := E.size) o2 hn hc (by show (Array.mapIdx _ cur).size = _; rw [Array.size_mapIdx]; exact hs)
    have e : List.take (xs.length * E.size) (putCells id 0 Fl cur).toList = E.flat ys := by
      rw [← hy, ← hl, ← hFs]
      refine take_put Fl cur ?_
      rw [hFs, hs, hl]; exact Nat.mul_le_mul_right _ hn
    rw [e] at h3
    unfold sl
    rw [hl]
    exact h3
variable [Inhabited α]
theorem flatK_flat (d : Array α) : (flatK E.cells E.size d).toList = E.flat d.toList := by
  apply List.ext_getElem?
  intro q
  rcases Nat.lt_or_ge q (d.size * E.size) with hq | hq
  · have hp := E.pos
    have hd : q / E.size < d.size := Nat.div_lt_of_lt_mul (by rwa [Nat.mul_comm])
    have hm : q % E.size < E.size := Nat.mod_lt _ hp
    have hl : q % E.size < (E.cells d[q / E.size]).length := by rw [E.len]; exact hm
    have h := E.flat_get d.toList (q / E.size) d[q / E.size] (by simp [hd]) (q % E.size) _ (List.getElem?_eq_getElem hl)
    rw [show q / E.size * E.size + q % E.size = q by rw [Nat.mul_comm]; exact Nat.div_add_mod q E.size] at h
    rw [h, Array.getElem?_toList, Array.getElem?_eq_getElem (by rw [size_flatK]; exact hq)]
    have e := get_flatK E.cells E.size d q hq
    rw [getElem!_pos (flatK E.cells E.size d) q (by rw [size_flatK]; exact hq)] at e
    rw [e, getElem!_pos d _ hd, getElem!_pos (E.cells d[q / E.size]) _ hl]
  · rw [List.getElem?_eq_none (by rw [Array.length_toList, size_flatK]; exact hq), List.getElem?_eq_none (by rw [E.flat_len, Array.length_toList]; exact hq)]
theorem own_holdsK (o : Own w (sl T E (.slice (some ⟨g, 0, none⟩) n cap) xs :: F)) : HoldsK E.cells E.size w g 0 xs.toArray ∧ g < w.heap.size ∧ n = xs.length := by
  obtain ⟨_, h⟩ := slc_open o
  rcases h with ⟨h, _⟩ | ⟨g', cap', cur, hv, hn, hc, hs, ht, o'⟩
  · simp at h
  · simp only [Value.slice.injEq, Option.some.injEq, Addr.mk.injEq] at hv
    obtain ⟨⟨rfl, -, -⟩, rfl, rfl⟩ := hv
    refine ⟨fun j hj => ?_, o'.lt, rfl⟩
    have hf := flatK_flat (E := E) xs.toArray
    have hj' : j < xs.length * E.size := by simpa [size_flatK] using hj
    have e : (flatK E.cells E.size xs.toArray)[j]? = cur[j]? := by
      rw [← Array.getElem?_toList, hf, ← Array.getElem?_toList (xs := cur)]
      show (E.flat xs)[j]? = _
      rw [← ht, List.getElem?_take, if_pos hj']
    refine ⟨?_, o'.free _⟩
    refine o'.cell (i := 0 + j) ?_
    rw [Nat.zero_add, ← e, getElem!_pos (flatK E.cells E.size xs.toArray) j hj, Array.getElem?_eq_getElem hj]
    rfl
/-- The world behind the sort, of elements of many cells. -/
theorem own_sortedK (o : Own w (sl T E (.slice (some ⟨g, 0, none⟩) n cap) xs :: F)) (d : Array α) (hd : d.size = xs.length) (m : Nat) (os : Array Obj) :
    Own (Go.Proofs.sortWorldK E.cells E.size w g 0 m d os) (sl T E (.slice (some ⟨g, 0, none⟩) n cap) d.toList :: F) ∧ Ext w (Go.Proofs.sortWorldK E.cells E.size w g 0 m d os) :=
  sl_row o _ d.toList (flatK_flat d) (by rw [Array.length_toList]; exact hd) m os
/-- .. of one cell. -/
theorem putRow_id (enc : α → Value) (w : World) (g : Nat) (d : Array α) : putRow enc w g 0 d = putRow id w g 0 (d.map enc) := by
  unfold putRow
  refine mapBlock_congr _ _ _ _ fun c e fr _ => ?_
  unfold putCells
  apply Array.ext
  · simp
  · intro i h1 h2
    simp only [Array.getElem_mapIdx, Array.size_map]
    by_cases h : i < d.size
    · simp [h, getElem!_pos]
    · simp [h]
theorem own_sorted1 {enc : α → Value} (he : ∀ x, E.cells x = [enc x]) (o : Own w (sl T E (.slice (some ⟨g, 0, none⟩) n cap) xs :: F)) (ys : List α) (hd : ys.length = xs.length) (m : Nat) (os : Array Obj) :
    Own (grow (putRow enc (Sort.ahead w m) g 0 ys.toArray) os) (sl T E (.slice (some ⟨g, 0, none⟩) n cap) ys :: F) ∧ Ext w (grow (putRow enc (Sort.ahead w m) g 0 ys.toArray) os) := by
  rw [putRow_id]
  refine sl_row o _ ys ?_ hd m os
  rw [Array.toList_map]
  show ys.map enc = ys.flatMap E.cells
  induction ys with
  | nil => rfl
  | cons y ys ih =>
    have ih' : ys.map enc = ys.flatMap E.cells := by
      clear ih hd
      induction ys with
      | nil => rfl
      | cons z zs ih => rw [List.map_cons, List.flatMap_cons, ih, he]; rfl
    rw [List.map_cons, List.flatMap_cons, ih', he]; rfl
theorem own_holds1 {enc : α → Value} (he : ∀ x, E.cells x = [enc x]) (o : Own w (sl T E (.slice (some ⟨g, 0, none⟩) n cap) xs :: F)) : Holds enc w g 0 xs.toArray ∧ g < w.heap.size ∧ n = xs.length := by
  obtain ⟨_, h⟩ := slc_open o
  have hs1 : E.size = 1 := by
    rcases xs with _ | ⟨x, xs⟩
    · have := E.len default; rw [he] at this; simpa using this.symm
    · have := E.len x; rw [he] at this; simpa using this.symm
  rcases h with ⟨h, _⟩ | ⟨g', cap', cur, hv, hn, hc, hs, ht, o'⟩
  · simp at h
  · simp only [Value.slice.injEq, Option.some.injEq, Addr.mk.injEq] at hv
    obtain ⟨⟨rfl, -, -⟩, rfl, rfl⟩ := hv
    refine ⟨fun j hj => ⟨?_, o'.free _⟩, o'.lt, rfl⟩
    have hj' : j < xs.length := by simpa using hj
    refine o'.cell (i := 0 + j) ?_
    have h1 := E.flat_get xs j xs[j] (List.getElem?_eq_getElem hj') 0 (enc xs[j]) (by rw [he]; rfl)
    rw [← ht, List.getElem?_take, if_pos (by rw [hs1]; omega)] at h1
    rw [Array.getElem?_toList, hs1] at h1
    rw [Nat.zero_add, getElem!_pos xs.toArray j hj]
    simpa using h1
end
end Go.Sl
