/- An argument that is a slice of leases, opened. -/
import Derived.Test.YtkgflckfphecjaaSnapC
import Derived.Test.YtkgflckfphecjaaOpen
import Derived.ProofKit
import Derived.OpenShut
import Derived.ShutString
import Derived.ChangeOld
import Derived.SizedLaws
namespace Go.Proofs.Ytkgflckfphecjaa
open Go.ChangeShapes Go.WideShapes Go.ChangeAt Go.RowKit Go.Sl Go.Scree Go.Deep

theorem leasesOneCell : ∃ fs, Try.prog.underlying 54 = some (.struct fs) ∧ oneCellFields Try.prog fs = true ∧ fs.size = 3 ∧ fs[0]?.map (·.type) = some 23 ∧ fs[1]?.map (·.type) = some 23 ∧ fs[2]?.map (·.type) = some 23 :=
  ⟨_, Try.underlying54, by kernel_rfl, rfl, rfl, rfl, rfl⟩

def _root_.Go.Scree.Lease.Wf (x : Lease) : Prop := (Lit.int .u64 x.until_).wf = true

theorem open_leases {H : Type} {enc : TypeId × Value → H} {w : World} {base : Nat} {spare : Nat → Bool} {held : Bool} {A : Option Addr} {len cap : Nat} {d : DataW H} {ps : List MemPlace}
    (h : DataW.Trod enc Try.prog w base spare held 37 (.slice A len cap) d ps) : ∃ l : List Lease, Rd w leaseE (.slice A len cap) l ∧ ∀ x ∈ l, x.Wf := by
  obtain ⟨fs, hu, hone, hs, h0, h1, h2⟩ := leasesOneCell
  obtain ⟨hl, hc, hi⟩ := cells_of_slice Try.underlying37 hu hone (by rw [hs]; kernel_rfl) h
  rw [hs] at hi
  obtain ⟨l, hr, _, hp⟩ := rd_choose (E := leaseE) (P := Lease.Wf) A len cap hl hc (fun i hil => by
    obtain ⟨a, n, rfl, hj⟩ := hi i hil
    have get : ∀ (j T : Nat) (k : IntKind), fs[j]?.map (·.type) = some T → Try.prog.underlying T = some (.int k) → ∃ q : Int, w.cell? (a.add (i * 3 + j)) = some (.int k q) ∧ (Lit.int k q).wf = true := by
      intro j T k hf hk
      cases hfj : fs[j]? with
      | none => rw [hfj] at hf; cases hf
      | some f =>
        rw [hfj] at hf
        obtain rfl : f.type = T := by simpa using hf
        obtain ⟨v, y, hv, ht⟩ := hj j f hfj
        obtain ⟨q, hq, _, hw⟩ := DataW.trod_int hk ht
        obtain rfl : v = .int k q := by simpa using hq
        exact ⟨q, hv, hw⟩
    obtain ⟨q0, c0, _⟩ := get 0 _ _ h0 Try.underlying23
    obtain ⟨q1, c1, _⟩ := get 1 _ _ h1 Try.underlying23
    obtain ⟨q2, c2, w2⟩ := get 2 _ _ h2 Try.underlying23
    refine ⟨⟨q0, q1, q2⟩, w2, a, rfl, fun j u hju => ?_⟩
    match j, hju with
    | 0, hju => simp [leaseE] at hju; subst hju; exact c0
    | 1, hju => simp [leaseE] at hju; subst hju; exact c1
    | 2, hju => simp [leaseE] at hju; subst hju; exact c2)
  exact ⟨l, hr, hp⟩
end Go.Proofs.Ytkgflckfphecjaa
