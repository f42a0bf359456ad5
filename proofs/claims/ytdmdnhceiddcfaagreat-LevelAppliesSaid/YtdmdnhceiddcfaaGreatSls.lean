/- A string's bytes appended to an owned slice of bytes. -/
import Derived.Test.YtdmdnhceiddcfaaGreatSld
import Derived.Lib.AppendStr
set_option linter.all false
namespace Go.Sl
open Go.RowKit

theorem add_at (g j : Nat) : (⟨g, 0, none⟩ : Addr).add j = ⟨g, j, none⟩ := by unfold Addr.add; split <;> simp_all
theorem strCells_flat (s : ByteArray) : Lib.strCells s = byteE.flat s.data.toList := by rw [byteE_flat]; rfl

section
variable {P : Program}
theorem run_append_none {w : World} (t u ty e : TypeId) (i : TypeInfo) (ht : P.underlying t = some (.slice e)) (hu : P.underlying u = some .string) (hi : P.info? e = some i)
    (hsize : i.size = 1) (s : ByteArray) (hm : s.size = 0) : (Builtin.append_ #[t, u] ty #[.slice none 0 0, .string s]).run P w = .ok (.slice none 0 0) w := by
  have hf := Lib.run_firstCells_string (P := P) w 1 s
  rw [hm] at hf
  simp [Builtin.append_, run_underlying ht, run_underlying hu, sizeOf, typeInfo, hi, hsize, Builtin.lenOf, hm, hf]
theorem run_append_str {w : World} {F : List Chunk} (t u ty e : TypeId) (i : TypeInfo) (ht : P.underlying t = some (.slice e)) (hu : P.underlying u = some .string) (hi : P.info? e = some i) (hz : i.zero = some (.int .u8 0))
    (hsize : i.size = 1) (hby : i.bytes = 1) (v : Value) (l : List UInt8) (hown : Own w (sl e byteE v l :: F)) (s : ByteArray)
    (hbytes : l.length + s.size ≤ 140737488355328) :
    ∃ v' w', (Builtin.append_ #[t, u] ty #[v, .string s]).run P w = .ok v' w' ∧ Own w' (sl e byteE v' (l ++ s.data.toList) :: F) ∧ Ext w w' := by
  have h63 : l.length + s.size ≤ maxLen := by unfold maxLen; omega
  have hsl : s.data.toList.length = s.size := by rw [Array.length_toList]; rfl
  obtain ⟨hxl, hcase⟩ := slc_open hown
  have hxl : (byteE.flat l).length = l.length := by rw [hxl]; exact Nat.mul_one _
  have fin : ∀ {w' : World} {v' : Value}, Own w' (slc e byteE.size v' (l.length + s.size) (byteE.flat l ++ Lib.strCells s) :: F) → Own w' (sl e byteE v' (l ++ s.data.toList) :: F) := by
    intro w' v' o
    refine sl_of (E := byteE) (l ++ s.data.toList) o (by rw [List.length_append, hsl]) (by rw [byteE.flat_append, strCells_flat])
  have hlen : (byteE.flat l ++ Lib.strCells s).length = l.length + s.size := by rw [List.length_append, hxl, Lib.strCells_length]
  have grown : ∀ (old : Nat), old < l.length + s.size → Own w F →
      Own (w.drew.alloc (.cells ((byteE.flat l).toArray ++ (Lib.strCells s).toArray ++ Builtin.zeroCells (Value.int .u8 0).cells (grownCap w (l.length + s.size) old e - (l.length + s.size))) e)) (slc e byteE.size
        (.slice (some ⟨w.heap.size, 0, none⟩) (l.length + s.size) (grownCap w (l.length + s.size) old e)) (l.length + s.size) (byteE.flat l ++ Lib.strCells s) :: F) ∧
      Ext w (w.drew.alloc (.cells ((byteE.flat l).toArray ++ (Lib.strCells s).toArray ++ Builtin.zeroCells (Value.int .u8 0).cells (grownCap w (l.length + s.size) old e - (l.length + s.size))) e)) := by
    intro old ho hF
    have hge := grownCap_ge w (l.length + s.size) old e
    have hcm : grownCap w (l.length + s.size) old e ≤ maxLen := grownCap_le_maxLen w (l.length + s.size) old e h63
    refine ⟨?_, ((Ext.refl w).drew).alloc _⟩
    have hz1 : (Value.int IntKind.u8 0).cells.size = 1 := rfl
    have o := hF.drew.alloc (.cells ((byteE.flat l).toArray ++ (Lib.strCells s).toArray ++ Builtin.zeroCells (Value.int .u8 0).cells (grownCap w (l.length + s.size) old e - (l.length + s.size))) e)
    have o2 := slc_mk (n := l.length + s.size) (cap := grownCap w (l.length + s.size) old e) (size := byteE.size) o hge hcm (by
      show _ = _ * 1
      simp only [Array.size_append, List.size_toArray, size_zeroCells, hz1, hxl, Lib.strCells_length]
      omega)
    have e2 : ((byteE.flat l).toArray ++ (Lib.strCells s).toArray ++ Builtin.zeroCells (Value.int .u8 0).cells (grownCap w (l.length + s.size) old e - (l.length + s.size))).toList.take ((l.length + s.size) * byteE.size) = byteE.flat l ++ Lib.strCells s := by
      show List.take ((l.length + s.size) * 1) _ = _
      simp only [Array.toList_append, List.append_assoc]
      rw [← List.append_assoc, Nat.mul_one, ← hlen]
      exact List.take_left
    rw [e2] at o2
    exact o2
  rcases hcase with ⟨rfl, hn, hnil, oF⟩ | ⟨g, cap, cur, rfl, hnc, hcm, hcs, htake, og⟩
  · have hl0 : l = [] := List.eq_nil_of_length_eq_zero hn
    subst hl0
    by_cases hm : s.size = 0
    · have hs0 : s.data.toList = [] := List.eq_nil_of_length_eq_zero (by rw [hsl]; exact hm)
      have hsc : Lib.strCells s = [] := List.eq_nil_of_length_eq_zero (by rw [Lib.strCells_length]; exact hm)
      exact ⟨.slice none 0 0, w, run_append_none t u ty e i ht hu hi hsize s hm, by rw [hs0]; exact hown, Ext.refl _⟩
    · have hr := run_append_nil_string (P := P) w t u ty e i (.int .u8 0) ht hu hi hz s (by omega) (by have h := hbytes; rw [List.length_nil] at h; omega) (by rw [hby]; have h := hbytes; rw [List.length_nil] at h; omega)
      have hgr := grown 0 (by simp; omega) oF
      have e0 : ([] : List UInt8).length + s.size = s.size := by simp
      have eF : byteE.flat ([] : List UInt8) = [] := rfl
      have e1 : (s.data.map fun b => Value.int .u8 b.toNat) = (Lib.strCells s).toArray := by
        apply Array.ext'
        simp [Lib.strCells]
      rw [e0, eF] at hgr
      simp only [List.nil_append, Array.empty_append] at hgr
      rw [e1] at hr
      refine ⟨_, _, hr, ?_, hgr.2⟩
      refine sl_of (E := byteE) ([] ++ s.data.toList) hgr.1 (by rw [List.nil_append, hsl]) (by rw [List.nil_append, strCells_flat])
  · have hg := og.get
    have hcs' : cur.size = cap := by rw [hcs]; exact Nat.mul_one _
    have ht' : cur.toList.take l.length = byteE.flat l := by rw [← htake]; congr 1; exact (Nat.mul_one _).symm
    by_cases hroom : l.length + s.size ≤ cap
    · have hr := Lib.run_append_room_string (P := P) w t u ty e i ht hu hi hsize g l.length cap cur hg s hroom (by omega)
      refine ⟨_, _, hr, fin ?_, ⟨rfl, rfl, rfl, by simp⟩⟩
      have o2 := og.turn (w' := w.setRow g (cur.toList.take l.length ++ Lib.strCells s ++ cur.toList.drop (l.length + s.size)).toArray) (setRow_heap w g cur _ e _ hg) (fun k _ hk => setRow_other w g k _ hk)
      have o3 := slc_mk (n := l.length + s.size) (size := byteE.size) o2 hroom hcm (by
        show _ = _ * 1
        simp only [List.size_toArray, List.length_append, List.length_take, List.length_drop, Array.length_toList, Lib.strCells_length]
        omega)
      have e2 : (cur.toList.take l.length ++ Lib.strCells s ++ cur.toList.drop (l.length + s.size)).toArray.toList.take ((l.length + s.size) * byteE.size) = byteE.flat l ++ Lib.strCells s := by
        show List.take ((l.length + s.size) * 1) _ = _
        simp only [ht']
        rw [Nat.mul_one, ← hlen]
        exact List.take_left
      rw [e2] at o3
      exact o3
    · have holds : ∀ j u, (byteE.flat l)[j]? = some u → w.cell? ((⟨g, 0, none⟩ : Addr).add j) = some u := by
        intro j u hu'
        rw [add_at, cell_of_row w g j cur e (0, 0) hg]
        rw [← ht', List.getElem?_take] at hu'
        split at hu'
        · simpa using hu'
        · cases hu'
      have hr := Lib.run_append_grow_string (P := P) w t u ty e i (.int .u8 0) ht hu hi hz ⟨g, 0, none⟩ l.length cap (byteE.flat l) (by rw [hsize, Nat.mul_one]; exact hxl) holds s (by omega) (by omega) (by rw [hby]; exact growslice_fits (by omega) (by omega))
      have hgr := grown cap (by omega) og.drop
      exact ⟨_, _, hr, fin hgr.1, hgr.2⟩

theorem wpList_append_str {w : World} {F : List Chunk} {ops : Array Oper} {rest : List Oper} {q : Oper} {a : Act} {Q : Exit → Act → World → Prop} (hgd : q.guard = none) (s x : Operand) (t u : TypeId)
    (ho : q.op = .call { callee := .builtin .append, args := #[s, x], argTypes := #[t, u] })
    (e : TypeId) (i : TypeInfo) (ht : P.underlying t = some (.slice e)) (hu : P.underlying u = some .string) (hi : P.info? e = some i) (hz : i.zero = some (.int .u8 0)) (hsize : i.size = 1) (hby : i.bytes = 1)
    (v : Value) (l : List UInt8) (hs : a.eval s = v) (hown : Own w (sl e byteE v l :: F)) (str : ByteArray) (hx : a.eval x = .string str)
    (hbytes : l.length + str.size ≤ 140737488355328)
    (h : ∀ v' w', Own w' (sl e byteE v' (l ++ str.data.toList) :: F) → Ext w w' → wpList P ops Q rest (a.put q.dst v') w') : wpList P ops Q (q :: rest) a w := by
  refine wpList_plain hgd fun K hK => ?_
  obtain ⟨v', w', hr, h2, h3⟩ := run_append_str (P := P) t u q.type e i ht hu hi hz hsize hby v l hown str hbytes
  unfold Oper.wp execOp
  simp only [ho, resolve, invoke, builtin, Sem.run_bind, Sem.run_pure, Result.andThen_ok, List.map_toArray, List.map_cons, List.map_nil, hs, hx, hr]
  exact hK _ _ (h v' w' h2 h3)
theorem step_append_str {w : World} {F : List Chunk} {ops : Array Oper} {q : Oper} {a : Act} {K : Act → World → Prop} {Q : Exit → Act → World → Prop} {E' : Prop} (hgd : q.guard = none) (s x : Operand) (t u : TypeId)
    (ho : q.op = .call { callee := .builtin .append, args := #[s, x], argTypes := #[t, u] })
    (e : TypeId) (i : TypeInfo) (ht : P.underlying t = some (.slice e)) (hu : P.underlying u = some .string) (hi : P.info? e = some i) (hz : i.zero = some (.int .u8 0)) (hsize : i.size = 1) (hby : i.bytes = 1)
    (v : Value) (l : List UInt8) (hs : a.eval s = v) (hown : Own w (sl e byteE v l :: F)) (str : ByteArray) (hx : a.eval x = .string str)
    (hbytes : l.length + str.size ≤ 140737488355328)
    (h : ∀ v' w', Own w' (sl e byteE v' (l ++ str.data.toList) :: F) → Ext w w' → K (a.put q.dst v') w') :
    if Region.wanted q (yielded ops a.tmps) = true then Oper.wp P q a w K Q else E' := by
  rw [if_pos (by simp [Region.wanted, hgd])]
  obtain ⟨v', w', hr, h2, h3⟩ := run_append_str (P := P) t u q.type e i ht hu hi hz hsize hby v l hown str hbytes
  unfold Oper.wp execOp
  simp only [ho, resolve, invoke, builtin, Sem.run_bind, Sem.run_pure, Result.andThen_ok, List.map_toArray, List.map_cons, List.map_nil, hs, hx, hr]
  exact h v' w' h2 h3
end
end Go.Sl
