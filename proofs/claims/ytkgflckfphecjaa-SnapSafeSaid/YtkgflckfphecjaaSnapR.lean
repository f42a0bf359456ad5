/- The law's row: whatever acts there are, SnapSafe answers true; the acts read behind the call as they did. -/
import Derived.Test.YtkgflckfphecjaaRows
import Derived.Test.YtkgflckfphecjaaSnapS
import Derived.Test.YtkgflckfphecjaaOpen
import Derived.ProofKit
import Derived.OpenShut
import Derived.ShutString
import Derived.ChangeOld
import Derived.SizedLaws
namespace Go.Proofs.Ytkgflckfphecjaa
open Go.ChangeShapes Go.WideShapes Go.ChangeAt Go.RowKit Go.Sl Go.Scree Go.Deep

theorem actsOneCell : ∃ fs, Try.prog.underlying 30 = some (.struct fs) ∧ oneCellFields Try.prog fs = true ∧ fs.size = 4 ∧ fs[0]?.map (·.type) = some 3 ∧ fs[1]?.map (·.type) = some 23 ∧ fs[2]?.map (·.type) = some 23 ∧ fs[3]?.map (·.type) = some 23 :=
  ⟨_, Try.underlying30, by kernel_rfl, rfl, rfl, rfl, rfl, rfl⟩

structure _root_.Go.Scree.SAct.Wf (x : SAct) : Prop where
  t : (Lit.int .u64 x.t).wf = true
  lease : (Lit.int .u64 x.lease).wf = true
  now : (Lit.int .u64 x.now).wf = true

theorem open_acts {H : Type} {enc : TypeId × Value → H} {w : World} {base : Nat} {spare : Nat → Bool} {held : Bool} {A : Option Addr} {len cap : Nat} {d : DataW H} {ps : List MemPlace}
    (h : DataW.Trod enc Try.prog w base spare held 22 (.slice A len cap) d ps) : ∃ acts : List SAct, Rd w actE (.slice A len cap) acts ∧ ∀ x ∈ acts, x.Wf := by
  obtain ⟨fs, hu, hone, hs, h0, h1, h2, h3⟩ := actsOneCell
  obtain ⟨hl, hc, hi⟩ := cells_of_slice Try.underlying22 hu hone (by rw [hs]; kernel_rfl) h
  rw [hs] at hi
  obtain ⟨acts, hr, _, hp⟩ := rd_choose (E := actE) (P := SAct.Wf) A len cap hl hc (fun i hil => by
    obtain ⟨a, n, rfl, hj⟩ := hi i hil
    have get : ∀ (j T : Nat) (k : IntKind), fs[j]?.map (·.type) = some T → Try.prog.underlying T = some (.int k) → ∃ q : Int, w.cell? (a.add (i * 4 + j)) = some (.int k q) ∧ (Lit.int k q).wf = true := by
      intro j T k hf hk
      cases hfj : fs[j]? with
      | none => rw [hfj] at hf; cases hf
      | some f =>
        rw [hfj] at hf
        obtain rfl : f.type = T := by simpa using hf
        obtain ⟨v, y, hv, ht⟩ := hj j f hfj
        obtain ⟨q, hq, _, hw⟩ := DataW.trod_int hk ht
        obtain rfl : v = .int k q := by simpa using hq
        exact ⟨q, hv, hw⟩
    obtain ⟨q0, c0, _⟩ := get 0 _ _ h0 Try.underlying3
    obtain ⟨q1, c1, w1⟩ := get 1 _ _ h1 Try.underlying23
    obtain ⟨q2, c2, w2⟩ := get 2 _ _ h2 Try.underlying23
    obtain ⟨q3, c3, w3⟩ := get 3 _ _ h3 Try.underlying23
    refine ⟨⟨q0, q1, q2, q3⟩, ⟨w1, w2, w3⟩, a, rfl, fun j u hju => ?_⟩
    match j, hju with
    | 0, hju => simp [actE] at hju; subst hju; exact c0
    | 1, hju => simp [actE] at hju; subst hju; exact c1
    | 2, hju => simp [actE] at hju; subst hju; exact c2
    | 3, hju => simp [actE] at hju; subst hju; exact c3)
  exact ⟨acts, hr, hp⟩

theorem ownKnobs : ownKnob Try.prog.godebug = none := by kernel_rfl
theorem laidOut : laidOutB Try.prog = true := by kernel_rfl
set_option maxRecDepth 100000 in
theorem snapSafe_lifted (os : Os) (started : os.Started) (H : Type) (enc : TypeId × Value → H) :
    ReturnsInHanded {} Try.checked os 5 .any (Rows.snapSafeSpec.pre6 enc Try.prog Try.f5 Rows.snapSafeRow.domain false) (Rows.snapSafeSpec.post enc Try.prog Try.f5 false true false false) := by
  refine returnsInHanded_of_change_sized (C := Try.checked) ownKnobs started (by kernel_rfl) Try.func5
    (ChangeSpec.witness6 (enc := enc) (C := Try.checked) false ⟨#[], #[.slice none 0 0], []⟩ 8 (by kernel_rfl) (by kernel_rfl) (by kernel_rfl) (by kernel_rfl)) ?_
  intro W base args ds gs before hval0 hW hcnd hsz0 _
  have hval : ∀ (j : Nat) t v, Try.f5.params[j]? = some t → args[j]? = some v → Value.okWide Try.prog W .any base t v := hval0
  have hW' := hW
  obtain ⟨p, q, hA0, hV, rfl, hfz, hnd⟩ := hW
  have hA : DataW.TrodAll enc Try.prog W 0 (fun _ => true) true Try.f5.params.toList args.toList ds p := hA0
  rw [Try.params5] at hA hval
  obtain ⟨v0, vs0, d0, ds0, p0, q0, hargs, rfl, rfl, h0, r0⟩ := trodAll_cons hA
  obtain ⟨rfl, rfl, rfl⟩ := trodAll_nil r0
  obtain rfl : args = #[v0] := by cases args; simp_all
  obtain ⟨rfl, rfl⟩ := trodVars_none hV
  obtain ⟨a0, len0, cap0, rfl⟩ := okWide_slice Try.underlying22 (hval 0 22 v0 rfl rfl)
  have lt0 : ∀ x ∈ p0, x.block < W.heap.size := by obtain ⟨m, hm⟩ := h0; exact DataW.trod_lt m _ _ _ hm
  obtain ⟨acts, hr, hp⟩ := open_acts h0
  clear hA0 hval0 hsz0
  refine (snapSafe_walk _ acts W hr).mono fun e W' ⟨he, bel⟩ => ?_
  subst he
  exact ⟨_, rfl, _, _, _, [], _, [], hW', trodAll_mk1 (shut_bool Try.underlying4 _), (trodAll_cons_mk (Below.trod laidOut (by kernel_rfl) (of_decide_eq_true (by kernel_rfl)) h0 bel lt0) trodAll_mk0), rfl, bel.frame _, fun h => by cases h⟩
theorem snapSafe_over : Rows.snapSafeRow.holds Try.pinned (OpenSpec.ofChange Rows.snapSafeSpec) :=
  OpenClaim.holds_of_wide 5 Try.f5 rfl rfl rfl rfl rfl rfl rfl ⟨rfl, rfl, rfl, rfl, rfl⟩ rfl rfl rfl rfl rfl (by kernel_rfl) Try.func5 (by kernel_rfl)
    (of_decide_eq_true (by kernel_rfl)) (by unfold Func.isWrapper; first | (rw [if_pos (by decide +kernel)]; kernel_rfl) | (rw [if_neg (by decide +kernel)]; exact ⟨rfl, rfl⟩))
    (fun os started H enc _ => snapSafe_lifted os started H enc)
theorem snapSafe_holds : Rows.SnapSafeSaid := snapSafe_over
#print axioms snapSafe_holds
end Go.Proofs.Ytkgflckfphecjaa
