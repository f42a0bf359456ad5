/- Arguments that are entries, or rows of entries, opened: with the sizes of the strings. -/
import Derived.Test.YtihbflmjgndfiaaEntO
namespace Go.Proofs.Ytihbflmjgndfiaa
open Go.ChangeShapes Go.WideShapes Go.ChangeAt Go.RowKit Go.Sl Go.Scree Go.Deep

def _root_.Go.Scree.Ent.Wz (x : Ent) : Prop := (Lit.int .u64 x.seq).wf = true ∧ x.key.size ≤ maxLen ∧ x.val.size ≤ maxLen
section
variable {H : Type} {enc : TypeId × Value → H} {w : World} {base : Nat} {spare : Nat → Bool} {held : Bool} {A : Option Addr} {len cap : Nat} {d : DataW H} {ps : List MemPlace}
theorem open_entz (h : DataW.Trod enc Try.prog w base spare held 26 (.slice A len cap) d ps) : ∃ l : List Ent, Rd w entE (.slice A len cap) l ∧ ∀ x ∈ l, x.Wz := by
  obtain ⟨fs, hu, hone, hs, h0, h1, h2, h3⟩ := entsOneCell
  obtain ⟨hl, hc, hi⟩ := cells_of_slice Try.underlying26 hu hone (by rw [hs]; kernel_rfl) h
  rw [hs] at hi
  obtain ⟨l, hr, _, hp⟩ := rd_choose (w := w) (E := entE) (P := Ent.Wz) A len cap hl hc (fun i hil => by
    obtain ⟨a, n, rfl, hj⟩ := hi i hil
    have str : ∀ (j T : Nat), fs[j]?.map (·.type) = some T → Try.prog.underlying T = some .string → ∃ q : ByteArray, w.cell? (a.add (i * 4 + j)) = some (.string q) ∧ q.size ≤ maxLen := by
      intro j T hf hk
      cases hfj : fs[j]? with
      | none => rw [hfj] at hf; cases hf
      | some f =>
        rw [hfj] at hf
        obtain rfl : f.type = T := by simpa using hf
        obtain ⟨v, y, hv, ht⟩ := hj j f hfj
        obtain ⟨q, hq, _, hw⟩ := DataW.trod_string hk ht
        obtain rfl : v = .string q := by simpa using hq
        exact ⟨q, hv, hw⟩
    have num : ∀ (j T : Nat) (k : IntKind), fs[j]?.map (·.type) = some T → Try.prog.underlying T = some (.int k) → ∃ q : Int, w.cell? (a.add (i * 4 + j)) = some (.int k q) ∧ (Lit.int k q).wf = true := by
      intro j T k hf hk
      cases hfj : fs[j]? with
      | none => rw [hfj] at hf; cases hf
      | some f =>
        rw [hfj] at hf
        obtain rfl : f.type = T := by simpa using hf
        obtain ⟨v, y, hv, ht⟩ := hj j f hfj
        obtain ⟨q, hq, _, hw⟩ := DataW.trod_int hk ht
        obtain rfl : v = .int k q := by simpa using hq
        exact ⟨q, hv, hw⟩
    have boo : ∀ (j T : Nat), fs[j]?.map (·.type) = some T → Try.prog.underlying T = some .bool → ∃ q : Bool, w.cell? (a.add (i * 4 + j)) = some (.bool q) := by
      intro j T hf hk
      cases hfj : fs[j]? with
      | none => rw [hfj] at hf; cases hf
      | some f =>
        rw [hfj] at hf
        obtain rfl : f.type = T := by simpa using hf
        obtain ⟨v, y, hv, ht⟩ := hj j f hfj
        obtain ⟨q, hq, _⟩ := DataW.trod_bool hk ht
        obtain rfl : v = .bool q := by simpa using hq
        exact ⟨q, hv⟩
    obtain ⟨q0, c0, z0⟩ := str 0 _ h0 Try.underlying9
    obtain ⟨q1, c1, w1⟩ := num 1 _ _ h1 Try.underlying23
    obtain ⟨q2, c2⟩ := boo 2 _ h2 Try.underlying4
    obtain ⟨q3, c3, z3⟩ := str 3 _ h3 Try.underlying9
    refine ⟨⟨q0, q1, q2, q3⟩, ⟨w1, z0, z3⟩, a, rfl, fun j u hju => ?_⟩
    match j, hju with
    | 0, hju => simp [entE] at hju; subst hju; exact c0
    | 1, hju => simp [entE] at hju; subst hju; exact c1
    | 2, hju => simp [entE] at hju; subst hju; exact c2
    | 3, hju => simp [entE] at hju; subst hju; exact c3)
  exact ⟨l, hr, hp⟩

def RowOz (w : World) (r : RowV) : Prop := Rd w entE (.slice r.A r.n r.c) r.l ∧ ∀ x ∈ r.l, x.Wz
theorem open_rowz (h : DataW.Trod enc Try.prog w base spare held 22 (.slice A len cap) d ps) : ∃ rs : List RowV, Rd w rowE (.slice A len cap) rs ∧ ∀ r ∈ rs, RowOz w r := by
  obtain ⟨fuel, hf⟩ := h
  have key : len ≤ cap ∧ cap ≤ maxLen ∧ ∀ i, i < len → ∃ r : RowV, RowOz w r ∧ ∃ a, A = some a ∧ ∀ j u, (rowE.cells r)[j]? = some u → w.cell? (a.add (i * rowE.size + j)) = some u := by
    rcases open_slice1 Try.underlying22 (by kernel_rfl) hf with ⟨hcs, _⟩ | ⟨a, len', cap', m, n, V, D, Pl, hcs, _, h1, h2, hm, _, hi⟩
    · simp only [Value.cells, List.cons.injEq, Value.slice.injEq, and_true] at hcs
      obtain ⟨rfl, rfl, rfl⟩ := hcs
      exact ⟨Nat.le_refl _, by simp [maxLen], fun i h => by omega⟩
    · simp only [Value.cells, List.cons.injEq, Value.slice.injEq, and_true] at hcs
      obtain ⟨rfl, rfl, rfl⟩ := hcs
      refine ⟨h1, h2, fun i hil => ?_⟩
      obtain ⟨hcell, htr⟩ := hi i (by rw [hm]; split <;> omega)
      obtain ⟨A2, n2, c2, hV⟩ : ∃ A2 n2 c2, V i = .slice A2 n2 c2 := by
        rcases open_slice Try.underlying26 htr with ⟨hcs, _⟩ | ⟨a2, l2, c2, _, _, _, _, hcs, _⟩
        · exact ⟨_, _, _, by simpa using hcs⟩
        · exact ⟨_, _, _, by simpa using hcs⟩
      rw [hV] at hcell htr
      obtain ⟨l, hr, hp⟩ := open_entz (A := A2) (len := n2) (cap := c2) ⟨n, htr⟩
      refine ⟨⟨A2, n2, c2, l⟩, ⟨hr, hp⟩, a, rfl, fun j u hju => ?_⟩
      match j, hju with
      | 0, hju =>
        simp only [rowE, List.getElem?_cons_zero, Option.some.injEq] at hju
        subst hju
        simpa [rowE] using hcell
  obtain ⟨hl, hc, hi⟩ := key
  obtain ⟨rs, hr, _, hp⟩ := rd_choose (w := w) (E := rowE) (P := RowOz w) A len cap hl hc hi
  exact ⟨rs, hr, hp⟩
end
end Go.Proofs.Ytihbflmjgndfiaa
