/- Arguments that are edits, or lists of edits, opened. · An argument that is one edit, opened. -/
import Derived.Test.YtdmdnhceiddcfaaGreatSamE
import Derived.Test.YtdmdnhceiddcfaaGreatOpen
import Derived.ProofKit
import Derived.OpenShut
import Derived.ShutString
import Derived.ChangeOld
import Derived.SizedLaws
import Derived.Laws.IdiomArrays
set_option linter.all false
namespace Go.Proofs.YtdmdnhceiddcfaaGreat
open Go.ChangeShapes Go.WideShapes Go.ChangeAt Go.RowKit Go.Sl Go.Scree Go.Deep

theorem nat_of {q : Int} (h : (Lit.int .u64 q).wf = true) : ∃ n : Nat, q = n ∧ n < 18446744073709551616 := by
  have : 0 ≤ q ∧ q ≤ 18446744073709551615 := by
    simp [Lit.wf, IntKind.min, IntKind.max, IntKind.signed, IntKind.bits] at h
    omega
  exact ⟨q.toNat, by omega, by omega⟩
theorem metaOneCell : ∃ fs, Tryz.prog.underlying 43 = some (.struct fs) ∧ oneCellFields Tryz.prog fs = true ∧ fs.size = 5 ∧ fs[0]?.map (·.type) = some 32 ∧ fs[1]?.map (·.type) = some 3 ∧ fs[2]?.map (·.type) = some 9 ∧ fs[3]?.map (·.type) = some 9 ∧ fs[4]?.map (·.type) = some 32 :=
  ⟨_, Tryz.underlying43, by kernel_rfl, rfl, rfl, rfl, rfl, rfl, rfl⟩
section
variable {H : Type} {enc : TypeId × Value → H} {w : World} {base : Nat} {spare : Nat → Bool} {held : Bool} {A : Option Addr} {len cap : Nat} {d : DataW H} {ps : List MemPlace}
theorem open_metas (h : DataW.Trod enc Tryz.prog w base spare held 30 (.slice A len cap) d ps) : ∃ l : List MetaM, Rd w metaE (.slice A len cap) l := by
  obtain ⟨fs, hu, hone, hs, h0, h1, h2, h3, h4⟩ := metaOneCell
  obtain ⟨hl, hc, hi⟩ := cells_of_slice Tryz.underlying30 hu hone (by rw [hs]; kernel_rfl) h
  rw [hs] at hi
  obtain ⟨l, hr, _, _⟩ := rd_choose (w := w) (E := metaE) (P := fun _ => True) A len cap hl hc (fun i hil => by
    obtain ⟨a, n, rfl, hj⟩ := hi i hil
    have str : ∀ (j T : Nat), fs[j]?.map (·.type) = some T → Tryz.prog.underlying T = some .string → ∃ q : ByteArray, w.cell? (a.add (i * 5 + j)) = some (.string q) := by
      intro j T hf hk
      cases hfj : fs[j]? with
      | none => rw [hfj] at hf; cases hf
      | some f =>
        rw [hfj] at hf
        obtain rfl : f.type = T := by simpa using hf
        obtain ⟨v, y, hv, ht⟩ := hj j f hfj
        obtain ⟨q, hq, _⟩ := DataW.trod_string hk ht
        obtain rfl : v = .string q := by simpa using hq
        exact ⟨q, hv⟩
    have num : ∀ (j T : Nat) (k : IntKind), fs[j]?.map (·.type) = some T → Tryz.prog.underlying T = some (.int k) → ∃ q : Int, w.cell? (a.add (i * 5 + j)) = some (.int k q) ∧ (Lit.int k q).wf = true := by
      intro j T k hf hk
      cases hfj : fs[j]? with
      | none => rw [hfj] at hf; cases hf
      | some f =>
        rw [hfj] at hf
        obtain rfl : f.type = T := by simpa using hf
        obtain ⟨v, y, hv, ht⟩ := hj j f hfj
        obtain ⟨q, hq, _, hw⟩ := DataW.trod_int hk ht
        obtain rfl : v = .int k q := by simpa using hq
        exact ⟨q, hv, hw⟩
    obtain ⟨q0, c0, w0⟩ := num 0 _ _ h0 Tryz.underlying32
    obtain ⟨q1, c1, w1⟩ := num 1 _ _ h1 Tryz.underlying3
    obtain ⟨q2, c2⟩ := str 2 _ h2 Tryz.underlying9
    obtain ⟨q3, c3⟩ := str 3 _ h3 Tryz.underlying9
    obtain ⟨q4, c4, w4⟩ := num 4 _ _ h4 Tryz.underlying32
    obtain ⟨n0, rfl, _⟩ := nat_of w0
    obtain ⟨n4, rfl, _⟩ := nat_of w4
    refine ⟨⟨n0, q1, q2, q3, n4⟩, trivial, a, rfl, fun j u hju => ?_⟩
    match j, hju with
    | 0, hju => simp [metaE] at hju; subst hju; exact c0
    | 1, hju => simp [metaE] at hju; subst hju; exact c1
    | 2, hju => simp [metaE] at hju; subst hju; exact c2
    | 3, hju => simp [metaE] at hju; subst hju; exact c3
    | 4, hju => simp [metaE] at hju; subst hju; exact c4)
  exact ⟨l, hr⟩
theorem open_nums (h : DataW.Trod enc Tryz.prog w base spare held 29 (.slice A len cap) d ps) : ∃ l : List Nat, Rd w u64E (.slice A len cap) l := by
  obtain ⟨fuel, hf⟩ := h
  have key : len ≤ cap ∧ cap ≤ maxLen ∧ ∀ i, i < len → ∃ r : Nat, True ∧ ∃ a, A = some a ∧ ∀ j u, (u64E.cells r)[j]? = some u → w.cell? (a.add (i * u64E.size + j)) = some u := by
    rcases open_slice1 Tryz.underlying29 (by kernel_rfl) hf with ⟨hcs, _⟩ | ⟨a, len', cap', m, n, V, D, Pl, hcs, _, h1, h2, hm, _, hi⟩
    · simp only [Value.cells, List.cons.injEq, Value.slice.injEq, and_true] at hcs
      obtain ⟨rfl, rfl, rfl⟩ := hcs
      exact ⟨Nat.le_refl _, by simp [maxLen], fun i h => by omega⟩
    · simp only [Value.cells, List.cons.injEq, Value.slice.injEq, and_true] at hcs
      obtain ⟨rfl, rfl, rfl⟩ := hcs
      refine ⟨h1, h2, fun i hil => ?_⟩
      obtain ⟨hcell, htr⟩ := hi i (by rw [hm]; split <;> omega)
      obtain ⟨q, hq, _, hw⟩ := DataW.trod_int Tryz.underlying32 htr
      obtain ⟨n0, rfl, _⟩ := nat_of hw
      have hV : V i = .int .u64 n0 := by simpa using hq
      rw [hV] at hcell
      refine ⟨n0, trivial, a, rfl, fun j u hju => ?_⟩
      match j, hju with
      | 0, hju =>
        simp [u64E] at hju
        subst hju
        simpa [u64E] using hcell
  obtain ⟨hl, hc, hi⟩ := key
  obtain ⟨rs, hr, _, _⟩ := rd_choose (w := w) (E := u64E) (P := fun _ => True) A len cap hl hc hi
  exact ⟨rs, hr⟩
theorem open_sliceV {t e : TypeId} {v : Value} {n : Nat} {y : DataW H × List MemPlace} (hu : Tryz.prog.underlying t = some (.slice e)) (ht : DataW.trod enc Tryz.prog w base spare held n t [v] = some y) : ∃ A n' c, v = .slice A n' c := by
  rcases open_slice hu ht with ⟨hcs, _⟩ | ⟨a2, l2, c2, _, _, _, _, hcs, _⟩
  · exact ⟨_, _, _, by simpa using hcs⟩
  · exact ⟨_, _, _, by simpa using hcs⟩
theorem editFields : ∃ fs, Tryz.prog.underlying 34 = some (.struct fs) ∧ fs.toList.map (fun f => (f.type, f.offset)) = [(29, 0), (31, 1), (32, 5), (32, 6), (32, 7)] := ⟨_, Tryz.underlying34, by kernel_rfl⟩
theorem field_at {fs : Array Field} {l : List (TypeId × Nat)} (h : fs.toList.map (fun f => (f.type, f.offset)) = l) {i : Nat} {T : TypeId} {o : Nat} (hl : l[i]? = some (T, o)) : ∃ f, fs[i]? = some f ∧ f.type = T ∧ f.offset = o := by
  subst h
  rw [List.getElem?_map] at hl
  cases hf : fs[i]? with
  | none => rw [Array.getElem?_toList, hf] at hl; cases hl
  | some f =>
    rw [Array.getElem?_toList, hf] at hl
    simp at hl
    exact ⟨f, rfl, hl.1, hl.2⟩
/-- An edit's eight cells are an edit. -/
theorem open_edit_cells {n : Nat} {cs : List Value} {y : DataW H × List MemPlace} (h : DataW.trod enc Tryz.prog w base spare held n 34 cs = some y) : ∃ x : EdV, EditW w x.g x.S x.E ∧ cs = (editCells x.g x.S x.E).toList := by
  obtain ⟨fs, hu, hf⟩ := editFields
  obtain ⟨ys, m, _, _, hlen, hyl, hfl⟩ := DataW.trod_struct hu h
  have hc8 : cs.length = 8 := by rw [hlen]; kernel_rfl
  obtain ⟨v0, v1, v2, v3, v4, v5, v6, v7, rfl⟩ : ∃ v0 v1 v2 v3 v4 v5 v6 v7, cs = [v0, v1, v2, v3, v4, v5, v6, v7] := by
    clear h hlen hfl
    obtain _ | ⟨v0, cs⟩ := cs
    · cases hc8
    obtain _ | ⟨v1, cs⟩ := cs
    · cases hc8
    obtain _ | ⟨v2, cs⟩ := cs
    · cases hc8
    obtain _ | ⟨v3, cs⟩ := cs
    · cases hc8
    obtain _ | ⟨v4, cs⟩ := cs
    · cases hc8
    obtain _ | ⟨v5, cs⟩ := cs
    · cases hc8
    obtain _ | ⟨v6, cs⟩ := cs
    · cases hc8
    obtain _ | ⟨v7, cs⟩ := cs
    · cases hc8
    obtain _ | ⟨v8, cs⟩ := cs
    · exact ⟨_, _, _, _, _, _, _, _, rfl⟩
    · simp only [List.length_cons] at hc8; omega
  have hfs : fs.size = 5 := by have := congrArg List.length hf; simpa using this
  have s1 : (Tryz.prog).cellsOf 29 = 1 := by kernel_rfl
  have s4 : (Tryz.prog).cellsOf 31 = 4 := by kernel_rfl
  have s2 : (Tryz.prog).cellsOf 32 = 1 := by kernel_rfl
  have sm : (Tryz.prog).cellsOf 30 = 1 := by kernel_rfl
  have get : ∀ (i : Nat) (T o : Nat), [(29, 0), (31, 1), (32, 5), (32, 6), (32, 7)][i]? = some (T, o) → i < 5 → ∃ z, DataW.trod enc Tryz.prog w base spare held m T (([v0, v1, v2, v3, v4, v5, v6, v7].drop o).take ((Tryz.prog).cellsOf T)) = some z := by
    intro i T o hi hi5
    obtain ⟨f, hf1, hf2, hf3⟩ := field_at hf hi
    have := hfl i f hf1
    rw [hf2, hf3] at this
    exact ⟨ys[i]'(by omega), by rw [this]; exact List.getElem?_eq_getElem (by omega)⟩
  obtain ⟨z0, t0⟩ := get 0 _ _ rfl (by omega)
  obtain ⟨z1, t1⟩ := get 1 _ _ rfl (by omega)
  obtain ⟨z2, t2⟩ := get 2 _ _ rfl (by omega)
  obtain ⟨z3, t3⟩ := get 3 _ _ rfl (by omega)
  obtain ⟨z4, t4⟩ := get 4 _ _ rfl (by omega)
  rw [s1] at t0
  rw [s4] at t1
  rw [s2] at t2 t3 t4
  simp only [List.drop_zero, List.drop_succ_cons, List.take_succ_cons, List.take_zero] at t0 t1 t2 t3 t4
  obtain ⟨gA, gn, gc, rfl⟩ := open_sliceV Tryz.underlying29 t0
  obtain ⟨gl, hg⟩ := open_nums ⟨m, t0⟩
  obtain ⟨u0, u1, u2, u3, k, _, a0, a1, a2, a3⟩ := trod_array4 Tryz.underlying31 sm t1
  obtain ⟨A0, n0, c0, rfl⟩ := open_sliceV Tryz.underlying30 a0
  obtain ⟨A1, n1, c1, rfl⟩ := open_sliceV Tryz.underlying30 a1
  obtain ⟨A2, n2, c2, rfl⟩ := open_sliceV Tryz.underlying30 a2
  obtain ⟨A3, n3, c3, rfl⟩ := open_sliceV Tryz.underlying30 a3
  obtain ⟨l0, r0⟩ := open_metas ⟨k, a0⟩
  obtain ⟨l1, r1⟩ := open_metas ⟨k, a1⟩
  obtain ⟨l2, r2⟩ := open_metas ⟨k, a2⟩
  obtain ⟨l3, r3⟩ := open_metas ⟨k, a3⟩
  obtain ⟨q2, hq2, _, w2⟩ := DataW.trod_int Tryz.underlying32 t2
  obtain ⟨q3, hq3, _, w3⟩ := DataW.trod_int Tryz.underlying32 t3
  obtain ⟨q4, hq4, _, w4⟩ := DataW.trod_int Tryz.underlying32 t4
  obtain ⟨e2, rfl, _⟩ := nat_of w2
  obtain ⟨e3, rfl, _⟩ := nat_of w3
  obtain ⟨e4, rfl, _⟩ := nat_of w4
  obtain rfl : v5 = .int .u64 e2 := by simpa using hq2
  obtain rfl : v6 = .int .u64 e3 := by simpa using hq3
  obtain rfl : v7 = .int .u64 e4 := by simpa using hq4
  refine ⟨⟨⟨gA, gn, gc⟩, fun l => if l = 0 then ⟨A0, n0, c0⟩ else if l = 1 then ⟨A1, n1, c1⟩ else if l = 2 then ⟨A2, n2, c2⟩ else ⟨A3, n3, c3⟩, ⟨gl, fun l => if l = 0 then l0 else if l = 1 then l1 else if l = 2 then l2 else l3, e2, e3, e4⟩⟩, ⟨hg, fun l hl => ?_⟩, rfl⟩
  rcases (by omega : l = 0 ∨ l = 1 ∨ l = 2 ∨ l = 3) with rfl | rfl | rfl | rfl
  · exact r0
  · exact r1
  · exact r2
  · exact r3
theorem open_edits (h : DataW.Trod enc Tryz.prog w base spare held 22 (.slice A len cap) d ps) : ∃ xs : List EdV, Rd w edE (.slice A len cap) xs ∧ ∀ x ∈ xs, EditW w x.g x.S x.E := by
  obtain ⟨fuel, hf⟩ := h
  have s8 : (Tryz.prog).cellsOf 34 = 8 := by kernel_rfl
  have key : len ≤ cap ∧ cap ≤ maxLen ∧ ∀ i, i < len → ∃ x : EdV, EditW w x.g x.S x.E ∧ ∃ a, A = some a ∧ ∀ j u, (edE.cells x)[j]? = some u → w.cell? (a.add (i * edE.size + j)) = some u := by
    rcases open_slice Tryz.underlying22 hf with ⟨hcs, _⟩ | ⟨a, len', cap', m, n, D, Pl, hcs, _, h1, h2, hm, _, hi⟩
    · simp only [Value.cells, List.cons.injEq, Value.slice.injEq, and_true] at hcs
      obtain ⟨rfl, rfl, rfl⟩ := hcs
      exact ⟨Nat.le_refl _, by simp [maxLen], fun i h => by omega⟩
    · simp only [Value.cells, List.cons.injEq, Value.slice.injEq, and_true] at hcs
      obtain ⟨rfl, rfl, rfl⟩ := hcs
      refine ⟨h1, h2, fun i hil => ?_⟩
      obtain ⟨cs', hc, ht'⟩ := hi i (by rw [hm]; split <;> omega)
      rw [s8] at hc
      obtain ⟨x, hx, rfl⟩ := open_edit_cells ht'
      obtain ⟨_, hcl, hat⟩ := World.cells?_some hc
      refine ⟨x, hx, a, rfl, fun j u hju => ?_⟩
      have hju' : (editCells x.g x.S x.E).toList[j]? = some u := hju
      have hj8 : j < 8 := by have := (List.getElem?_eq_some_iff.1 hju').1; simpa [editCells] using this
      have := hat j hj8
      rw [← hju', ← this]
      show w.cell? (a.add (i * 8 + j)) = _
      rw [← Go.Deep.add_add]
  obtain ⟨hl, hc, hi⟩ := key
  obtain ⟨rs, hr, _, hp⟩ := rd_choose (w := w) (E := edE) (P := fun x => EditW w x.g x.S x.E) A len cap hl hc hi
  exact ⟨rs, hr, hp⟩
end
end Go.Proofs.YtdmdnhceiddcfaaGreat
namespace Go.Proofs.YtdmdnhceiddcfaaGreat
open Go.ChangeShapes Go.WideShapes Go.ChangeAt Go.RowKit Go.Sl Go.Scree Go.Deep
theorem open_edit {H : Type} {enc : TypeId × Value → H} {w : World} {base : Nat} {spare : Nat → Bool} {held : Bool} {v : Value} {d : DataW H} {ps : List MemPlace} (h : DataW.Trod enc Tryz.prog w base spare held 34 v d ps) : ∃ x : EdV, EditW w x.g x.S x.E ∧ v = editV x.g x.S x.E := by
  obtain ⟨fuel, hf⟩ := h
  obtain ⟨x, hx, hc⟩ := open_edit_cells hf
  refine ⟨x, hx, ?_⟩
  have hs : v.cells.size = 8 := by rw [← Array.length_toList, hc]; rfl
  cases v with
  | agg cs =>
    have : cs = editCells x.g x.S x.E := by
      apply Array.toList_inj.1
      exact hc
    rw [this]; rfl
  | _ => exact absurd hs (by simp [Value.cells])
end Go.Proofs.YtdmdnhceiddcfaaGreat
