/- An argument that is a slice of acts, opened. -/
import Derived.Test.YtkgflckfphecjaaSnapS
import Derived.Test.YtkgflckfphecjaaOpen
import Derived.ProofKit
import Derived.OpenShut
import Derived.ShutString
import Derived.ChangeOld
import Derived.SizedLaws
namespace Go.Proofs.Ytkgflckfphecjaa
open Go.ChangeShapes Go.WideShapes Go.ChangeAt Go.RowKit Go.Sl Go.Scree Go.Deep

theorem actsOneCell : ∃ fs, Try.prog.underlying 30 = some (.struct fs) ∧ oneCellFields Try.prog fs = true ∧ fs.size = 4 ∧ fs[0]?.map (·.type) = some 3 ∧ fs[1]?.map (·.type) = some 23 ∧ fs[2]?.map (·.type) = some 23 ∧ fs[3]?.map (·.type) = some 23 :=
  ⟨_, Try.underlying30, by kernel_rfl, rfl, rfl, rfl, rfl, rfl⟩

structure _root_.Go.Scree.SAct.Wf (x : SAct) : Prop where
  t : (Lit.int .u64 x.t).wf = true
  lease : (Lit.int .u64 x.lease).wf = true
  now : (Lit.int .u64 x.now).wf = true

theorem open_acts {H : Type} {enc : TypeId × Value → H} {w : World} {base : Nat} {spare : Nat → Bool} {held : Bool} {A : Option Addr} {len cap : Nat} {d : DataW H} {ps : List MemPlace}
    (h : DataW.Trod enc Try.prog w base spare held 22 (.slice A len cap) d ps) : ∃ acts : List SAct, Rd w actE (.slice A len cap) acts ∧ ∀ x ∈ acts, x.Wf := by
  obtain ⟨fs, hu, hone, hs, h0, h1, h2, h3⟩ := actsOneCell
  obtain ⟨hl, hc, hi⟩ := cells_of_slice Try.underlying22 hu hone (by rw [hs]; kernel_rfl) h
  rw [hs] at hi
  obtain ⟨acts, hr, _, hp⟩ := rd_choose (E := actE) (P := SAct.Wf) A len cap hl hc (fun i hil => by
    obtain ⟨a, n, rfl, hj⟩ := hi i hil
    have get : ∀ (j T : Nat) (k : IntKind), fs[j]?.map (·.type) = some T → Try.prog.underlying T = some (.int k) → ∃ q : Int, w.cell? (a.add (i * 4 + j)) = some (.int k q) ∧ (Lit.int k q).wf = true := by
      intro j T k hf hk
      cases hfj : fs[j]? with
      | none => rw [hfj] at hf; cases hf
      | some f =>
        rw [hfj] at hf
        obtain rfl : f.type = T := by simpa using hf
        obtain ⟨v, y, hv, ht⟩ := hj j f hfj
        obtain ⟨q, hq, _, hw⟩ := DataW.trod_int hk ht
        obtain rfl : v = .int k q := by simpa using hq
        exact ⟨q, hv, hw⟩
    obtain ⟨q0, c0, _⟩ := get 0 _ _ h0 Try.underlying3
    obtain ⟨q1, c1, w1⟩ := get 1 _ _ h1 Try.underlying23
    obtain ⟨q2, c2, w2⟩ := get 2 _ _ h2 Try.underlying23
    obtain ⟨q3, c3, w3⟩ := get 3 _ _ h3 Try.underlying23
    refine ⟨⟨q0, q1, q2, q3⟩, ⟨w1, w2, w3⟩, a, rfl, fun j u hju => ?_⟩
    match j, hju with
    | 0, hju => simp [actE] at hju; subst hju; exact c0
    | 1, hju => simp [actE] at hju; subst hju; exact c1
    | 2, hju => simp [actE] at hju; subst hju; exact c2
    | 3, hju => simp [actE] at hju; subst hju; exact c3)
  exact ⟨acts, hr, hp⟩

theorem u64_nonneg {n : Int} (h : (Lit.int .u64 n).wf = true) : 0 ≤ n := by
  simp [Lit.wf, IntKind.min, IntKind.max, IntKind.signed, IntKind.bits] at h
  omega
theorem acts_nn {acts : List SAct} (h : ∀ x ∈ acts, x.Wf) : ∀ x ∈ acts, 0 ≤ x.now := fun x hx => u64_nonneg (h x hx).now
end Go.Proofs.Ytkgflckfphecjaa
