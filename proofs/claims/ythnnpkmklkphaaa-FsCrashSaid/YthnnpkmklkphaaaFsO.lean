/- Arguments that are acts on a disk, or ints, opened. -/
import Derived.Test.YthnnpkmklkphaaaFsR
import Derived.Test.YthnnpkmklkphaaaOpen
import Derived.ProofKit
import Derived.OpenShut
import Derived.ShutString
import Derived.ChangeOld
import Derived.SizedLaws
namespace Go.Proofs.Ythnnpkmklkphaaa
open Go.ChangeShapes Go.WideShapes Go.ChangeAt Go.RowKit Go.Sl Go.Scree Go.Deep

theorem actFields : ∃ fs, Try.prog.underlying 29 = some (.struct fs) ∧ oneCellFields Try.prog fs = true ∧ fs.size = 5 ∧ fs[0]?.map (·.type) = some 3 ∧ fs[1]?.map (·.type) = some 3 ∧ fs[2]?.map (·.type) = some 9 ∧ fs[3]?.map (·.type) = some 9 ∧ fs[4]?.map (·.type) = some 23 :=
  ⟨_, Try.underlying29, by kernel_rfl, rfl, rfl, rfl, rfl, rfl, rfl⟩
def ActOk (w : World) (x : FAct) : Prop := x.n ≤ topI ∧ Rd w intE (.slice x.kA x.k.length x.kc) x.k
theorem wf_top {q : Int} (h : (Lit.int .i64 q).wf = true) : q ≤ topI := by
  exact (bounds_i64 h).2
section
variable {H : Type} {enc : TypeId × Value → H} {w : World} {base : Nat} {spare : Nat → Bool} {held : Bool} {A : Option Addr} {len cap : Nat} {d : DataW H} {ps : List MemPlace}
theorem open_ints' (h : DataW.Trod enc Try.prog w base spare held 23 (.slice A len cap) d ps) : ∃ l : List Int, Rd w intE (.slice A len cap) l := by
  obtain ⟨fuel, hf⟩ := h
  have key : len ≤ cap ∧ cap ≤ maxLen ∧ ∀ i, i < len → ∃ r : Int, True ∧ ∃ a, A = some a ∧ ∀ j u, (intE.cells r)[j]? = some u → w.cell? (a.add (i * intE.size + j)) = some u := by
    rcases open_slice1 Try.underlying23 (by kernel_rfl) hf with ⟨hcs, _⟩ | ⟨a, len', cap', m, n, V, D, Pl, hcs, _, h1, h2, hm, _, hi⟩
    · simp only [Value.cells, List.cons.injEq, Value.slice.injEq, and_true] at hcs
      obtain ⟨rfl, rfl, rfl⟩ := hcs
      exact ⟨Nat.le_refl _, by simp [maxLen], fun i h => by omega⟩
    · simp only [Value.cells, List.cons.injEq, Value.slice.injEq, and_true] at hcs
      obtain ⟨rfl, rfl, rfl⟩ := hcs
      refine ⟨h1, h2, fun i hil => ?_⟩
      obtain ⟨hcell, htr⟩ := hi i (by rw [hm]; split <;> omega)
      obtain ⟨q, hq, _, hw⟩ := DataW.trod_int Try.underlying3 htr
      have hV : V i = .int .i64 q := by simpa using hq
      rw [hV] at hcell
      refine ⟨q, trivial, a, rfl, fun j u hju => ?_⟩
      match j, hju with
      | 0, hju =>
        simp only [intE, List.getElem?_cons_zero, Option.some.injEq] at hju
        subst hju
        simpa [intE] using hcell
  obtain ⟨hl, hc, hi⟩ := key
  obtain ⟨rs, hr, _, _⟩ := rd_choose (w := w) (E := intE) (P := fun _ => True) A len cap hl hc hi
  exact ⟨rs, hr⟩

theorem open_intz (h : DataW.Trod enc Try.prog w base spare held 23 (.slice A len cap) d ps) : ∃ l : List Int, Rd w intE (.slice A len cap) l ∧ True := let ⟨l, h⟩ := open_ints' h; ⟨l, h, trivial⟩
theorem open_facts (h : DataW.Trod enc Try.prog w base spare held 22 (.slice A len cap) d ps) : ∃ l : List FAct, Rd w actE (.slice A len cap) l ∧ ∀ x ∈ l, ActOk w x := by
  obtain ⟨fs, hu, hone, hs, h0, h1, h2, h3, h4⟩ := actFields
  obtain ⟨hl, hc, hi⟩ := cells_of_slice Try.underlying22 hu hone (by rw [hs]; kernel_rfl) h
  rw [hs] at hi
  obtain ⟨l, hr, _, hp⟩ := rd_choose (w := w) (E := actE) (P := ActOk w) A len cap hl hc (fun i hil => by
    obtain ⟨a, n, rfl, hj⟩ := hi i hil
    have str : ∀ (j T : Nat), fs[j]?.map (·.type) = some T → Try.prog.underlying T = some .string → ∃ q : ByteArray, w.cell? (a.add (i * 5 + j)) = some (.string q) := by
      intro j T hf hk
      cases hfj : fs[j]? with
      | none => rw [hfj] at hf; cases hf
      | some f =>
        rw [hfj] at hf
        obtain rfl : f.type = T := by simpa using hf
        obtain ⟨v, y, hv, ht⟩ := hj j f hfj
        obtain ⟨q, hq, _⟩ := DataW.trod_string hk ht
        obtain rfl : v = .string q := by simpa using hq
        exact ⟨q, hv⟩
    have num : ∀ (j T : Nat) (k : IntKind), fs[j]?.map (·.type) = some T → Try.prog.underlying T = some (.int k) → ∃ q : Int, w.cell? (a.add (i * 5 + j)) = some (.int k q) ∧ (Lit.int k q).wf = true := by
      intro j T k hf hk
      cases hfj : fs[j]? with
      | none => rw [hfj] at hf; cases hf
      | some f =>
        rw [hfj] at hf
        obtain rfl : f.type = T := by simpa using hf
        obtain ⟨v, y, hv, ht⟩ := hj j f hfj
        obtain ⟨q, hq, _, hw⟩ := DataW.trod_int hk ht
        obtain rfl : v = .int k q := by simpa using hq
        exact ⟨q, hv, hw⟩
    obtain ⟨q0, c0, w0⟩ := num 0 _ _ h0 Try.underlying3
    obtain ⟨q1, c1, w1⟩ := num 1 _ _ h1 Try.underlying3
    obtain ⟨q2, c2⟩ := str 2 _ h2 Try.underlying9
    obtain ⟨q3, c3⟩ := str 3 _ h3 Try.underlying9
    obtain ⟨A4, n4, k4, l4, c4, r4⟩ : ∃ A4 n4 k4 l4, w.cell? (a.add (i * 5 + 4)) = some (.slice A4 n4 k4) ∧ Rd w intE (.slice A4 n4 k4) l4 := by
      cases hfj : fs[4]? with
      | none => rw [hfj] at h4; cases h4
      | some f =>
        rw [hfj] at h4
        have hT : f.type = 23 := by simpa using h4
        obtain ⟨v, y, hv, ht⟩ := hj 4 f hfj
        rw [hT] at ht
        obtain ⟨A2, n2, c2, hV⟩ : ∃ A2 n2 c2, v = .slice A2 n2 c2 := by
          rcases open_slice Try.underlying23 ht with ⟨hcs, _⟩ | ⟨a2, l2, c2, _, _, _, _, hcs, _⟩
          · exact ⟨_, _, _, by simpa using hcs⟩
          · exact ⟨_, _, _, by simpa using hcs⟩
        subst hV
        obtain ⟨l4, hr4⟩ := open_ints' (A := A2) (len := n2) (cap := c2) ⟨n, ht⟩
        exact ⟨A2, n2, c2, l4, hv, hr4⟩
    have hn4 : n4 = l4.length := by
      obtain ⟨a', c', hv, _⟩ := r4.form
      simp only [Value.slice.injEq] at hv
      exact hv.2.1
    subst hn4
    refine ⟨⟨q0, q1, q2, q3, A4, k4, l4⟩, ⟨wf_top w1, r4⟩, a, rfl, fun j u hju => ?_⟩
    match j, hju with
    | 0, hju => simp [actE, actL] at hju; subst hju; exact c0
    | 1, hju => simp [actE, actL] at hju; subst hju; exact c1
    | 2, hju => simp [actE, actL] at hju; subst hju; exact c2
    | 3, hju => simp [actE, actL] at hju; subst hju; exact c3
    | 4, hju => simp [actE, actL] at hju; subst hju; exact c4)
  exact ⟨l, hr, hp⟩
end
end Go.Proofs.Ythnnpkmklkphaaa
