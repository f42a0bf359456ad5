/- What awake's calls come to: in plain Lean. · The walk of awake. · The walk of the document's Files: numbers, rising. · The walk of the law's same: a version and the document's. · The walk of the law's copied: an edit of its own lists. (Under way.) · The walk of LevelApplies: the edits are applied, and then turned; no version is turned by that. · LevelApplies, as its row takes it. · The row of LevelApplies: whatever comes in, it answers true; the arguments read behind the call as they did. -/
import Derived.Test.YtdmdnhceiddcfaaGreatEncR
import Derived.Test.YtdmdnhceiddcfaaGreatSamE
import Derived.Test.YtdmdnhceiddcfaaGreatLvlL
import Derived.Test.YtdmdnhceiddcfaaGreatRlvB
import Derived.Test.YtdmdnhceiddcfaaGreatLvlE
import Derived.Deep.CutBlock
import Derived.Deep.DeepCutAuto
import Derived.Deep.CutRange
import Derived.Test.YtdmdnhceiddcfaaGreatLvlQ
import Derived.RegionCalls
import Derived.Deep.RegionHeld3
import Derived.Test.YtdmdnhceiddcfaaGreatRlvC
import Derived.Test.YtdmdnhceiddcfaaGreatOpnE
import Derived.Test.YtdmdnhceiddcfaaGreatRows
import Derived.ProofKit
import Derived.OpenShut
import Derived.ShutString
import Derived.ChangeOld
import Derived.SizedLaws
set_option linter.all false
namespace Go.Proofs.YtdmdnhceiddcfaaGreat
open Go.RowKit Go.Sl Go.Scree

def mkM (f : Nat) (a b : ByteArray) : MetaM := ⟨f, 5, a, b, 1⟩
def ch (c : UInt8) : ByteArray := ⟨#[c]⟩
def nw0 : Lvls := fun l => if l = 0 then [mkM 7 (ch 99) (ch 102), mkM 9 (ch 97) (ch 99), mkM 8 (ch 102) (ch 103)] else if l = 1 then [mkM 1 (ch 98) (ch 98), mkM 2 (ch 122) (ch 122)] else []
def E0 : EditM := ⟨[], nw0, 10, 0, 4⟩
def V1 : VerM := match applyP newV E0 with
  | .inl V => V
  | .inr _ => newV
theorem left0 : (match applyP newV E0 with | .inl _ => true | .inr _ => false) = true := by decide +kernel
theorem apply0 : applyP newV E0 = .inl V1 := by
  have h := left0
  unfold V1
  revert h
  cases applyP newV E0 with
  | inl V => exact fun _ => rfl
  | inr c => exact fun h => nomatch h
def codeOf : VerM ⊕ Int → Int
  | .inl _ => 0
  | .inr c => c
theorem inr_of {r : VerM ⊕ Int} {c : Int} (h : codeOf r = c) (h0 : c ≠ 0) : r = .inr c := by
  cases r with
  | inl V => exact absurd h.symm h0
  | inr d => exact congrArg _ h
theorem apply1 : applyP V1 ⟨[77], fun _ => [], 0, 0, 0⟩ = .inr 10 := inr_of (by decide +kernel) (by decide)
theorem apply2 : applyP V1 ⟨[], fun _ => [], 9, 0, 0⟩ = .inr 3 := inr_of (by decide +kernel) (by decide)
theorem num0 : V1.next = 10 ∧ V1.log = 0 ∧ V1.seq = 4 := by decide +kernel
theorem pick0 : (pickP V1 0 0).2 = 0 ∧ (pickP V1 0 0).1.from.length = 3 ∧ (pickP V1 0 0).1.from.head?.map (·.file) = some 9 ∧ (pickP V1 0 0).1.into.length = 1 ∧ (pickP V1 0 0).1.into.head?.map (·.file) = some 1 ∧ (pickP V1 0 0).1.bottom = true := by decide +kernel
theorem enc0 : encOk E0 = true := by decide +kernel
theorem meet0 : (meetM V1.lv 0 (ch 100) (ch 100)).length = 1 := by decide +kernel
theorem may0 : mayB (mkM 1 (ch 97) (ch 98)) = true := by decide +kernel
theorem may1 : mayB ⟨0, 0, ⟨#[]⟩, ⟨#[]⟩, 0⟩ = false := by decide +kernel
theorem files0 : (filesM V1.lv).length = 5 := by decide +kernel
end Go.Proofs.YtdmdnhceiddcfaaGreat
namespace Go.Proofs.YtdmdnhceiddcfaaGreat
open Go.RowKit Go.Sl Go.Scree

set_option maxRecDepth 20000 in
set_option maxHeartbeats 1600000 in
theorem mk_c (f : Nat) (a b : ByteArray) (w : World) : Calls Tryz.prog 12 #[.int .u64 f, .string a, .string b] w fun e w' => e = .returned (.agg #[.int .u64 f, .int .i64 5, .string a, .string b, .int .u64 1]) ∧ Kp w w' := by
  have k0 := hid ((Kp.refl w).alloc (.cells #[.int .u64 f, .int .i64 5, .string a, .string b, .int .u64 1] 43 (0, 0)))
  go_enter Tryz.func12, Tryz.ntmps12
  go_wp2_with fail
  refine bodyPost_ret (by simp [results, Tryz.results12, go_sem]; rfl) rfl ?_
  exact ⟨rfl, k0.out⟩
theorem len0 : (encW E0).length ≤ 1000 := by decide +kernel
set_option maxRecDepth 200000 in
set_option maxHeartbeats 6400000 in
theorem awake_c (w : World) : Calls Tryz.prog 4 #[] w fun e w' => e = .returned (.bool true) ∧ Kp w w' := by
  have hnew := hid (lnew_c w)
  go_enter Tryz.func4, Tryz.ntmps4
  go_wp2_with fail
  refine hnew.out.mono ?_
  rintro e w1 ⟨p0, S0, rfl, v0, k1⟩
  have v0H := hid v0
  have k1H := hid k1
  have oA := hid ((Own.start w1).alloc (.cells (editCells nilA (fun _ => nilA) ⟨[], fun _ => [], 10, 0, 4⟩) 34 (0, 0)))
  have eA := hid ((Ext.refl w1).alloc (.cells (editCells nilA (fun _ => nilA) ⟨[], fun _ => [], 10, 0, 4⟩) 34 (0, 0)))
  clear v0 k1 hnew
  go_wp2_with fail
  obtain ⟨eb, heb⟩ : ∃ eb, w1.heap.size = eb := ⟨_, rfl⟩
  have oA2 : Hid (Own (w1.alloc (.cells (editCells nilA (fun _ => nilA) ⟨[], fun _ => [], 10, 0, 4⟩) 34 (0, 0))) [pts eb (.cells (editCells nilA (fun _ => nilA) ⟨[], fun _ => [], 10, 0, 4⟩) 34 (0, 0)), Sl.base w1 w1.heap.size]) := hid (by rw [← heb]; exact oA.out)
  rw [heb]
  clear oA heb
  refine (mk_c 7 _ _ _).mono ?_
  rintro e w2 ⟨rfl, k2⟩
  go_wp2_with fail
  refine (mk_c 9 _ _ _).mono ?_
  rintro e w3 ⟨rfl, k3⟩
  go_wp2_with fail
  refine (mk_c 8 _ _ _).mono ?_
  rintro e w4 ⟨rfl, k4⟩
  have o4 : Own w4 [pts eb (.cells (editCells nilA (fun _ => nilA) ⟨[], fun _ => [], 10, 0, 4⟩) 34 (0, 0)), Sl.base w1 w1.heap.size] := k4.own (k3.own (k2.own oA2.out))
  have e4 := hid (((eA.out.trans k2.ext).trans k3.ext).trans k4.ext)
  have oX := Own.alloc o4 (.cells #[.int .u64 7, .int .i64 5, .string ⟨#[99]⟩, .string ⟨#[102]⟩, .int .u64 1, .int .u64 9, .int .i64 5, .string ⟨#[97]⟩, .string ⟨#[99]⟩, .int .u64 1, .int .u64 8, .int .i64 5, .string ⟨#[102]⟩, .string ⟨#[103]⟩, .int .u64 1] 43 (0, 0))
  have cX : (w4.alloc (.cells #[.int .u64 7, .int .i64 5, .string ⟨#[99]⟩, .string ⟨#[102]⟩, .int .u64 1, .int .u64 9, .int .i64 5, .string ⟨#[97]⟩, .string ⟨#[99]⟩, .int .u64 1, .int .u64 8, .int .i64 5, .string ⟨#[102]⟩, .string ⟨#[103]⟩, .int .u64 1] 43 (0, 0))).cell? ⟨eb, 1, none⟩ = some (.slice none 0 0) := (oX.pick 1).cell (i := 1) rfl
  have fX : (w4.alloc (.cells #[.int .u64 7, .int .i64 5, .string ⟨#[99]⟩, .string ⟨#[102]⟩, .int .u64 1, .int .u64 9, .int .i64 5, .string ⟨#[97]⟩, .string ⟨#[99]⟩, .int .u64 1, .int .u64 8, .int .i64 5, .string ⟨#[102]⟩, .string ⟨#[103]⟩, .int .u64 1] 43 (0, 0))).frozen? ⟨eb, 1, none⟩ = false := (oX.pick 1).free 1
  have o5 : Hid (Own ((w4.alloc (.cells #[.int .u64 7, .int .i64 5, .string ⟨#[99]⟩, .string ⟨#[102]⟩, .int .u64 1, .int .u64 9, .int .i64 5, .string ⟨#[97]⟩, .string ⟨#[99]⟩, .int .u64 1, .int .u64 8, .int .i64 5, .string ⟨#[102]⟩, .string ⟨#[103]⟩, .int .u64 1] 43 (0, 0))).setCell ⟨eb, 1, none⟩ (.slice (some ⟨w4.heap.size, 0, none⟩) 3 3)) [pts eb (.cells (editCells nilA (upd (fun _ => nilA) 0 ⟨some ⟨w4.heap.size, 0, none⟩, 3, 3⟩) ⟨[], fun _ => [], 10, 0, 4⟩) 34 (0, 0)), sl 43 metaE (SlA.v ⟨some ⟨w4.heap.size, 0, none⟩, 3, 3⟩) (nw0 0), Sl.base w1 w1.heap.size]) := hid (by
    have oS := sl_built 43 metaE (nw0 0) oX (n := 3) rfl (by simp [maxLen]) rfl
    exact Own.set (i := 1) (oS.pick 1) (.slice (some ⟨w4.heap.size, 0, none⟩) 3 3))
  have e5 := hid ((e4.out.alloc (.cells #[.int .u64 7, .int .i64 5, .string ⟨#[99]⟩, .string ⟨#[102]⟩, .int .u64 1, .int .u64 9, .int .i64 5, .string ⟨#[97]⟩, .string ⟨#[99]⟩, .int .u64 1, .int .u64 8, .int .i64 5, .string ⟨#[102]⟩, .string ⟨#[103]⟩, .int .u64 1] 43 (0, 0))).set ⟨eb, 1, none⟩ (.slice (some ⟨w4.heap.size, 0, none⟩) 3 3))
  clear o4 k2 k3 k4 oA2 eA oX e4
  go_wp2_with fail
  obtain ⟨w5, hw5⟩ : ∃ w', w' = (w4.alloc (.cells #[.int .u64 7, .int .i64 5, .string ⟨#[99]⟩, .string ⟨#[102]⟩, .int .u64 1, .int .u64 9, .int .i64 5, .string ⟨#[97]⟩, .string ⟨#[99]⟩, .int .u64 1, .int .u64 8, .int .i64 5, .string ⟨#[102]⟩, .string ⟨#[103]⟩, .int .u64 1] 43 (0, 0))).setCell ⟨eb, 1, none⟩ (.slice (some ⟨w4.heap.size, 0, none⟩) 3 3) := ⟨_, rfl⟩
  obtain ⟨ab, hab⟩ : ∃ ab, w4.heap.size = ab := ⟨_, rfl⟩
  rw [← hw5] at o5 e5 ⊢
  rw [hab] at o5 ⊢
  clear hw5 cX fX hab
  refine (mk_c 1 _ _ _).mono ?_
  rintro e w6 ⟨rfl, k6⟩
  go_wp2_with fail
  refine (mk_c 2 _ _ _).mono ?_
  rintro e w7 ⟨rfl, k7⟩
  have o7 := k7.own (k6.own o5.out)
  have e7 := hid ((e5.out.trans k6.ext).trans k7.ext)
  have oX := Own.alloc o7 (.cells #[.int .u64 1, .int .i64 5, .string ⟨#[98]⟩, .string ⟨#[98]⟩, .int .u64 1, .int .u64 2, .int .i64 5, .string ⟨#[122]⟩, .string ⟨#[122]⟩, .int .u64 1] 43 (0, 0))
  have cX : (w7.alloc (.cells #[.int .u64 1, .int .i64 5, .string ⟨#[98]⟩, .string ⟨#[98]⟩, .int .u64 1, .int .u64 2, .int .i64 5, .string ⟨#[122]⟩, .string ⟨#[122]⟩, .int .u64 1] 43 (0, 0))).cell? ⟨eb, 2, none⟩ = some (.slice none 0 0) := (oX.pick 1).cell (i := 2) rfl
  have fX : (w7.alloc (.cells #[.int .u64 1, .int .i64 5, .string ⟨#[98]⟩, .string ⟨#[98]⟩, .int .u64 1, .int .u64 2, .int .i64 5, .string ⟨#[122]⟩, .string ⟨#[122]⟩, .int .u64 1] 43 (0, 0))).frozen? ⟨eb, 2, none⟩ = false := (oX.pick 1).free 2
  have o8 : Hid (Own ((w7.alloc (.cells #[.int .u64 1, .int .i64 5, .string ⟨#[98]⟩, .string ⟨#[98]⟩, .int .u64 1, .int .u64 2, .int .i64 5, .string ⟨#[122]⟩, .string ⟨#[122]⟩, .int .u64 1] 43 (0, 0))).setCell ⟨eb, 2, none⟩ (.slice (some ⟨w7.heap.size, 0, none⟩) 2 2)) [pts eb (.cells (editCells nilA (upd (upd (fun _ => nilA) 0 ⟨some ⟨ab, 0, none⟩, 3, 3⟩) 1 ⟨some ⟨w7.heap.size, 0, none⟩, 2, 2⟩) E0) 34 (0, 0)), sl 43 metaE (SlA.v ⟨some ⟨w7.heap.size, 0, none⟩, 2, 2⟩) (nw0 1), sl 43 metaE (SlA.v ⟨some ⟨ab, 0, none⟩, 3, 3⟩) (nw0 0), Sl.base w1 w1.heap.size]) := hid (by
    have oS := sl_built 43 metaE (nw0 1) oX (n := 2) rfl (by simp [maxLen]) rfl
    exact Own.set (i := 2) (oS.pick 1) (.slice (some ⟨w7.heap.size, 0, none⟩) 2 2))
  have e8 := hid ((e7.out.alloc (.cells #[.int .u64 1, .int .i64 5, .string ⟨#[98]⟩, .string ⟨#[98]⟩, .int .u64 1, .int .u64 2, .int .i64 5, .string ⟨#[122]⟩, .string ⟨#[122]⟩, .int .u64 1] 43 (0, 0))).set ⟨eb, 2, none⟩ (.slice (some ⟨w7.heap.size, 0, none⟩) 2 2))
  have y0 : (w7.alloc (.cells #[.int .u64 1, .int .i64 5, .string ⟨#[98]⟩, .string ⟨#[98]⟩, .int .u64 1, .int .u64 2, .int .i64 5, .string ⟨#[122]⟩, .string ⟨#[122]⟩, .int .u64 1] 43 (0, 0))).cell? ⟨eb, 0, none⟩ = some (.slice none 0 0) := (oX.pick 1).cell (i := 0) rfl
  have y1 : (w7.alloc (.cells #[.int .u64 1, .int .i64 5, .string ⟨#[98]⟩, .string ⟨#[98]⟩, .int .u64 1, .int .u64 2, .int .i64 5, .string ⟨#[122]⟩, .string ⟨#[122]⟩, .int .u64 1] 43 (0, 0))).cell? ⟨eb, 1, none⟩ = some (.slice (some ⟨ab, 0, none⟩) 3 3) := (oX.pick 1).cell (i := 1) rfl
  have y3 : (w7.alloc (.cells #[.int .u64 1, .int .i64 5, .string ⟨#[98]⟩, .string ⟨#[98]⟩, .int .u64 1, .int .u64 2, .int .i64 5, .string ⟨#[122]⟩, .string ⟨#[122]⟩, .int .u64 1] 43 (0, 0))).cell? ⟨eb, 3, none⟩ = some (.slice none 0 0) := (oX.pick 1).cell (i := 3) rfl
  have y4 : (w7.alloc (.cells #[.int .u64 1, .int .i64 5, .string ⟨#[98]⟩, .string ⟨#[98]⟩, .int .u64 1, .int .u64 2, .int .i64 5, .string ⟨#[122]⟩, .string ⟨#[122]⟩, .int .u64 1] 43 (0, 0))).cell? ⟨eb, 4, none⟩ = some (.slice none 0 0) := (oX.pick 1).cell (i := 4) rfl
  have y5 : (w7.alloc (.cells #[.int .u64 1, .int .i64 5, .string ⟨#[98]⟩, .string ⟨#[98]⟩, .int .u64 1, .int .u64 2, .int .i64 5, .string ⟨#[122]⟩, .string ⟨#[122]⟩, .int .u64 1] 43 (0, 0))).cell? ⟨eb, 5, none⟩ = some (.int .u64 10) := (oX.pick 1).cell (i := 5) rfl
  have y6 : (w7.alloc (.cells #[.int .u64 1, .int .i64 5, .string ⟨#[98]⟩, .string ⟨#[98]⟩, .int .u64 1, .int .u64 2, .int .i64 5, .string ⟨#[122]⟩, .string ⟨#[122]⟩, .int .u64 1] 43 (0, 0))).cell? ⟨eb, 6, none⟩ = some (.int .u64 0) := (oX.pick 1).cell (i := 6) rfl
  have y7 : (w7.alloc (.cells #[.int .u64 1, .int .i64 5, .string ⟨#[98]⟩, .string ⟨#[98]⟩, .int .u64 1, .int .u64 2, .int .i64 5, .string ⟨#[122]⟩, .string ⟨#[122]⟩, .int .u64 1] 43 (0, 0))).cell? ⟨eb, 7, none⟩ = some (.int .u64 4) := (oX.pick 1).cell (i := 7) rfl
  clear o7 k6 k7 oX e7 o5 e5
  go_wp2_with fail
  obtain ⟨wB, hwB⟩ : ∃ w', w' = (w7.alloc (.cells #[.int .u64 1, .int .i64 5, .string ⟨#[98]⟩, .string ⟨#[98]⟩, .int .u64 1, .int .u64 2, .int .i64 5, .string ⟨#[122]⟩, .string ⟨#[122]⟩, .int .u64 1] 43 (0, 0))).setCell ⟨eb, 2, none⟩ (.slice (some ⟨w7.heap.size, 0, none⟩) 2 2) := ⟨_, rfl⟩
  obtain ⟨bb, hbb⟩ : ∃ ab, w7.heap.size = ab := ⟨_, rfl⟩
  rw [← hwB] at o8 e8 ⊢
  rw [hbb] at o8 ⊢
  clear hwB hbb cX fX y0 y1 y3 y4 y5 y6 y7
  obtain ⟨SE, hSE⟩ : ∃ S : Nat → SlA, S = upd (upd (fun _ => nilA) 0 ⟨some ⟨ab, 0, none⟩, 3, 3⟩) 1 ⟨some ⟨bb, 0, none⟩, 2, 2⟩ := ⟨_, rfl⟩
  have hB : Hid (EditR wB nilA SE E0) := hid (by
    rw [hSE]
    have o1 := o8.out.pick 1
    have o2 := o8.out.pick 2
    refine ⟨.inl ⟨⟨none, 0, rfl, by simp [maxLen]⟩, rfl⟩, fun l hl => ?_, fun l hl => ?_⟩
    · rcases (by omega : l = 0 ∨ l = 1 ∨ l = 2 ∨ l = 3) with rfl | rfl | rfl | rfl
      · exact sl_rd o2
      · exact sl_rd o1
      · exact rd_nilA _
      · exact rd_nilA _
    · rcases (by omega : l = 0 ∨ l = 1 ∨ l = 2 ∨ l = 3) with rfl | rfl | rfl | rfl <;> decide)
  have kB : Hid (Kp w1 wB) := hid (kp_of (cs := [_, _, _]) o8.out e8.out)
  have cB : Hid (∀ w', Kp wB w' → (w'.cell? ⟨eb, 0, none⟩ = some (.slice none 0 0) ∧ w'.cell? ⟨eb, 1, none⟩ = some (.slice (some ⟨ab, 0, none⟩) 3 3) ∧ w'.cell? ⟨eb, 2, none⟩ = some (.slice (some ⟨bb, 0, none⟩) 2 2) ∧ w'.cell? ⟨eb, 3, none⟩ = some (.slice none 0 0) ∧ w'.cell? ⟨eb, 4, none⟩ = some (.slice none 0 0) ∧ w'.cell? ⟨eb, 5, none⟩ = some (.int .u64 10) ∧ w'.cell? ⟨eb, 6, none⟩ = some (.int .u64 0) ∧ w'.cell? ⟨eb, 7, none⟩ = some (.int .u64 4)) ∧ eb < w'.heap.size) := hid (fun w' k => by
    have o := k.own o8.out
    exact ⟨⟨o.cell (i := 0) rfl, o.cell (i := 1) rfl, o.cell (i := 2) rfl, o.cell (i := 3) rfl, o.cell (i := 4) rfl, o.cell (i := 5) rfl, o.cell (i := 6) rfl, o.cell (i := 7) rfl⟩, o.lt⟩)
  clear o8 e8
  have hap := hid (apply_c p0 S0 newV nilA SE E0 wB (v0H.out.kp kB.out) newV_ok hB.out)
  rw [apply0] at hap
  unfold editV at hap
  rw [hSE] at hap
  refine hap.out.mono ?_
  rintro e w9 ⟨k9, p1, S1, rfl, v1⟩
  have k9H := hid k9
  have v1H := hid v1
  have hV1 := hid (apply_ok newV_ok apply0)
  clear k9 v1 hap
  go_wp2_with fail
  have hpk := hid (pick_c p1 S1 V1 0 0 w9 v1H.out hV1.out (by omega))
  obtain ⟨hp0, hp1, hp2, hp3, hp4, hp5⟩ := pick0
  generalize hpq : pickP V1 0 0 = pq at hpk hp0 hp1 hp2 hp3 hp4 hp5
  clear hpq
  obtain ⟨⟨plv, pfr, pin, pbt⟩, pcd⟩ := pq
  dsimp only at hp0 hp1 hp2 hp3 hp4 hp5
  obtain ⟨xf, rf, rfl, hxf⟩ : ∃ x r, pfr = x :: r ∧ x.file = 9 := by
    cases pfr with
    | nil => cases hp2
    | cons x r => exact ⟨x, r, rfl, by simpa using hp2⟩
  obtain ⟨xi, ri, rfl, hxi⟩ : ∃ x r, pin = x :: r ∧ x.file = 1 := by
    cases pin with
    | nil => cases hp4
    | cons x r => exact ⟨x, r, rfl, by simpa using hp4⟩
  subst hp0 hp5
  refine hpk.out.mono ?_
  rintro e w10 ⟨k10, sF, sI, rfl, rF, rI⟩
  have k10B := k9H.out.trans k10
  obtain ⟨sFA, sFn, sFc⟩ := sF
  obtain ⟨sIA, sIn, sIc⟩ := sI
  have hFn : sFn = 3 := (rd_size (s := ⟨sFA, sFn, sFc⟩) rF).trans hp1
  have hIn : sIn = 1 := (rd_size (s := ⟨sIA, sIn, sIc⟩) rI).trans hp3
  subst hFn hIn
  have o10 := (k10B.own (Own.start wB)).alloc (.cells #[.int .i64 plv, .slice sFA 3 sFc, .slice sIA 1 sIc, .bool true] 47 (0, 0))
  have e10 := k10B.ext.alloc (.cells #[.int .i64 plv, .slice sFA 3 sFc, .slice sIA 1 sIc, .bool true] 47 (0, 0))
  have rFH := hid rF
  have rIH := hid rI
  have o11 := o10.alloc (.cells #[.int .u64 77] 32 (0, 0))
  have e11 := hid (e10.alloc (.cells #[.int .u64 77] 32 (0, 0)))
  have o12 := hid (sl_built 32 u64E [77] o11 (n := 1) rfl (by simp [maxLen]) rfl)
  simp only [World.size_alloc] at o12
  have k10H := hid k10
  clear hpk rF rI k10 k10B o10 e10 o11 hp1 hp2 hp3 hp4
  go_wp2_with fail
  obtain ⟨w11, hw11⟩ : ∃ w', w' = ((w10.alloc (.cells #[.int .i64 plv, .slice sFA 3 sFc, .slice sIA 1 sIc, .bool true] 47 (0, 0))).alloc (.cells #[.int .u64 77] 32 (0, 0))) := ⟨_, rfl⟩
  have kx : Hid (Kp w10 w11) := hid (by rw [hw11]; exact ((Kp.refl w10).alloc _).alloc _)
  rw [← hw11] at o12 e11 ⊢
  obtain ⟨pk, hpk⟩ : ∃ ab, w10.heap.size = ab := ⟨_, rfl⟩
  rw [hpk] at o12 ⊢
  clear hw11 hpk
  have v11 := hid (v1H.out.kp (k10H.out.trans kx.out))
  have r11 := hid (kx.out.rd rFH.out)
  have i11 := hid (kx.out.rd rIH.out)
  have kB11 : Hid (Kp wB w11) := hid (kp_of (cs := [_, _]) o12.out e11.out)
  have hE1 : Hid (EditR w11 ⟨some ⟨pk + 1, 0, none⟩, 1, 1⟩ (fun _ => nilA) ⟨[77], fun _ => [], 0, 0, 0⟩) := hid ⟨sl_rd o12.out, fun _ _ => rd_nilA _, fun _ _ => by simp⟩
  have hap := hid (apply_c p1 S1 V1 _ _ _ w11 v11.out hV1.out hE1.out)
  rw [apply1] at hap
  unfold editV at hap
  have oP := hid o12.out.drop
  clear o12 e11 kx rFH rIH v1H k10H k9H hE1
  refine hap.out.mono ?_
  rintro e w12 ⟨k12, rfl⟩
  have k12H := hid k12
  clear hap k12
  go_wp2_with fail
  have hap := hid (apply_c p1 S1 V1 nilA (fun _ => nilA) ⟨[], fun _ => [], 9, 0, 0⟩ w12 (v11.out.kp k12H.out) hV1.out ⟨.inl ⟨⟨none, 0, rfl, by simp [maxLen]⟩, rfl⟩, fun _ _ => rd_nilA _, fun _ _ => by simp⟩)
  rw [apply2] at hap
  unfold editV at hap
  refine hap.out.mono ?_
  rintro e w13 ⟨k13, rfl⟩
  have k13H := hid (k12H.out.trans k13)
  obtain ⟨⟨y0, y1, y2, y3, y4, y5, y6, y7⟩, yl⟩ := cB.out w13 (kB11.out.trans k13H.out)
  clear hap k13 k12H
  go_wp2_with fail
  have hen := hid (encode_c nilA SE E0 w13 (hB.out.kp (kB11.out.trans k13H.out)))
  unfold EncSays at hen
  rw [enc0, if_pos rfl, if_pos rfl] at hen
  unfold editV at hen
  rw [hSE] at hen
  refine hen.out.mono ?_
  rintro e w14 ⟨k14, rfl⟩
  have k14H := hid (k13H.out.trans k14)
  clear hen k14 k13H y0 y1 y2 y3 y4 y5 y6 y7 yl
  go_wp2_with fail
  have hde := hid (decode_c (encW E0) (Nat.le_trans len0 (by decide)) w14)
  rw [decP_enc enc0] at hde
  have hde2 : Hid (Calls Tryz.prog 15 #[.string ⟨(encW E0).toArray⟩] w14 fun e w' => Kp w14 w' ∧ ∃ g S, e = .returned (.tuple #[.agg #[.slice g.A g.n g.c, .slice (S 0).A (S 0).n (S 0).c, .slice (S 1).A (S 1).n (S 1).c, .slice (S 2).A (S 2).n (S 2).c, .slice (S 3).A (S 3).n (S 3).c, .int .u64 10, .int .u64 0, .int .u64 4], .int .i64 0]) ∧ EditR w' g S E0) := hid (by
    refine hde.out.mono ?_
    rintro e w' ⟨h1, g, S, h2, h3⟩
    exact ⟨h1, g, S, h2, edr_cut h3⟩)
  refine hde2.out.mono ?_
  rintro e w15 ⟨k15, g2, S2, rfl, r15⟩
  have r15H := hid r15
  have k15H := hid (k14H.out.trans k15)
  have o15 := ((k15H.out.own oP.out)).alloc (.cells #[.slice g2.A g2.n g2.c, .slice (S2 0).A (S2 0).n (S2 0).c, .slice (S2 1).A (S2 1).n (S2 1).c, .slice (S2 2).A (S2 2).n (S2 2).c, .slice (S2 3).A (S2 3).n (S2 3).c, .int .u64 10, .int .u64 0, .int .u64 4] 34 (0, 0))
  have o15H := hid o15
  have kx : Hid (Kp w15 (w15.alloc (.cells #[.slice g2.A g2.n g2.c, .slice (S2 0).A (S2 0).n (S2 0).c, .slice (S2 1).A (S2 1).n (S2 1).c, .slice (S2 2).A (S2 2).n (S2 2).c, .slice (S2 3).A (S2 3).n (S2 3).c, .int .u64 10, .int .u64 0, .int .u64 4] 34 (0, 0)))) := hid ((Kp.refl w15).alloc _)
  have hn63 : ¬ 9223372036854775807 < (encW E0).length + 1 := by have := len0; omega
  clear hde hde2 k15 r15 k14H o15 oP
  go_wp2_with fail
  obtain ⟨w16, hw16⟩ : ∃ w', w' = w15.alloc (.cells #[.slice g2.A g2.n g2.c, .slice (S2 0).A (S2 0).n (S2 0).c, .slice (S2 1).A (S2 1).n (S2 1).c, .slice (S2 2).A (S2 2).n (S2 2).c, .slice (S2 3).A (S2 3).n (S2 3).c, .int .u64 10, .int .u64 0, .int .u64 4] 34 (0, 0)) := ⟨_, rfl⟩
  obtain ⟨db, hdb⟩ : ∃ ab, w15.heap.size = ab := ⟨_, rfl⟩
  rw [← hw16] at o15H kx ⊢
  rw [hdb] at o15H ⊢
  have r16 := hid (r15H.out.kp kx.out)
  have k16 := hid (k15H.out.trans kx.out)
  clear hw16 hdb kx r15H k15H hn63
  have hde := hid (decode_c (encW E0 ++ [63]) (by have := len0; simp; omega) w16)
  rw [decP_more enc0 (by simp)] at hde
  have hde2 : Hid (Calls Tryz.prog 15 #[.string (⟨(encW E0).toArray⟩ ++ ⟨#[63]⟩)] w16 fun e w' => Kp w16 w' ∧ ∃ (g : SlA) (S : Nat → SlA), e = .returned (.tuple #[.agg #[.slice g.A g.n g.c, .slice (S 0).A (S 0).n (S 0).c, .slice (S 1).A (S 1).n (S 1).c, .slice (S 2).A (S 2).n (S 2).c, .slice (S 3).A (S 3).n (S 3).c, .int .u64 0, .int .u64 0, .int .u64 0], .int .i64 2])) := hid (by
    have hcat : ((⟨(encW E0).toArray⟩ : ByteArray) ++ (⟨#[63]⟩ : ByteArray)) = ⟨(encW E0 ++ [63]).toArray⟩ := by
      apply ByteArray.ext
      simp
    rw [hcat]
    refine hde.out.mono ?_
    rintro e w' ⟨h1, g, S, h2, h3⟩
    exact ⟨h1, g, S, h2⟩)
  refine hde2.out.mono ?_
  rintro e w17 ⟨k17, g3, S3, rfl⟩
  have hnm := hid (numbers_c p1 S1 V1 _ (v11.out.kp ((k16.out.trans k17).alloc (.cells #[.slice g3.A g3.n g3.c, .slice (S3 0).A (S3 0).n (S3 0).c, .slice (S3 1).A (S3 1).n (S3 1).c, .slice (S3 2).A (S3 2).n (S3 2).c, .slice (S3 3).A (S3 3).n (S3 3).c, .int .u64 0, .int .u64 0, .int .u64 0] 34 (0, 0)))))
  have k18 := hid (k17.alloc (.cells #[.slice g3.A g3.n g3.c, .slice (S3 0).A (S3 0).n (S3 0).c, .slice (S3 1).A (S3 1).n (S3 1).c, .slice (S3 2).A (S3 2).n (S3 2).c, .slice (S3 3).A (S3 3).n (S3 3).c, .int .u64 0, .int .u64 0, .int .u64 0] 34 (0, 0)))
  rw [num0.1, num0.2.1, num0.2.2] at hnm
  clear hde hde2 k17
  go_wp2_with fail
  refine hnm.out.mono ?_
  rintro e w18 ⟨rfl, k19⟩
  have k20 := hid (k18.out.trans k19)
  clear hnm k18 k19
  have o20 := k20.out.own o15H.out
  have t1 : w18.cell? ⟨pk, 1, none⟩ = some (.slice sFA 3 sFc) := (o20.pick 1).cell (i := 1) rfl
  have t2 : w18.cell? ⟨pk, 2, none⟩ = some (.slice sIA 1 sIc) := (o20.pick 1).cell (i := 2) rfl
  have t3 : w18.cell? ⟨pk, 3, none⟩ = some (.bool true) := (o20.pick 1).cell (i := 3) rfl
  obtain ⟨⟨y0, y1, y2, y3, y4, y5, y6, y7⟩, yl⟩ := cB.out w18 (kB11.out.trans (k16.out.trans k20.out))
  have x0 : w18.cell? ⟨db, 0, none⟩ = some (.slice g2.A g2.n g2.c) := o20.cell (i := 0) rfl
  have x1 : w18.cell? ⟨db, 1, none⟩ = some (.slice (S2 0).A (S2 0).n (S2 0).c) := o20.cell (i := 1) rfl
  have x2 : w18.cell? ⟨db, 2, none⟩ = some (.slice (S2 1).A (S2 1).n (S2 1).c) := o20.cell (i := 2) rfl
  have x3 : w18.cell? ⟨db, 3, none⟩ = some (.slice (S2 2).A (S2 2).n (S2 2).c) := o20.cell (i := 3) rfl
  have x4 : w18.cell? ⟨db, 4, none⟩ = some (.slice (S2 3).A (S2 3).n (S2 3).c) := o20.cell (i := 4) rfl
  have x5 : w18.cell? ⟨db, 5, none⟩ = some (.int .u64 10) := o20.cell (i := 5) rfl
  have x6 : w18.cell? ⟨db, 6, none⟩ = some (.int .u64 0) := o20.cell (i := 6) rfl
  have x7 : w18.cell? ⟨db, 7, none⟩ = some (.int .u64 4) := o20.cell (i := 7) rfl
  have rf := (k16.out.trans k20.out).rd r11.out
  have ri := (k16.out.trans k20.out).rd i11.out
  obtain ⟨fg, fo, hfA, _, u0, uu⟩ := rd_meta rf rfl (i := 0) rfl
  obtain ⟨ig, io, hiA, _, z0, zz⟩ := rd_meta ri rfl (i := 0) rfl
  clear uu zz
  subst hfA hiA
  rw [hxf] at u0
  rw [hxi] at z0
  rw [Nat.zero_mul, Nat.add_zero] at u0 z0
  clear o20 rf ri
  have u9 : w18.cell? ⟨fg, fo, none⟩ = some (.int .u64 9) := u0
  have z9 : w18.cell? ⟨ig, io, none⟩ = some (.int .u64 1) := z0
  clear u0 z0
  have hsm := hid (same_c nilA g2 SE S2 E0 w18 (hB.out.kp (kB11.out.trans (k16.out.trans k20.out))) (r16.out.kp k20.out))
  unfold editV at hsm
  rw [hSE] at hsm
  have hv18 : Hid (VerR w18 p1 S1 V1) := hid (v11.out.kp (k16.out.trans k20.out))
  have hv0 : Hid (VerR w18 p0 S0 newV) := hid (v0H.out.kp (kB.out.trans (kB11.out.trans (k16.out.trans k20.out))))
  have hf1 : Hid (∀ w', Kp w18 w' → Calls Tryz.prog 18 #[.pointer (some ⟨p1, 0, none⟩)] w' fun e w'' => ∃ A c, e = .returned (.slice A 5 c) ∧ Kp w18 w'') := hid (fun w' k => by
    refine (files_c p1 S1 V1 w' (hv18.out.kp k)).mono ?_
    rintro e w'' ⟨v', rfl, o, x⟩
    obtain ⟨A, n, c, rfl⟩ := sl_shape o
    have hn : n = 5 := by
      have h1 : n = (filesS V1.lv).length := rd_size (s := ⟨A, n, c⟩) (sl_rd o)
      rw [h1]; unfold filesS; rw [List.length_mergeSort, files0]
    subst hn
    exact ⟨A, c, rfl, k.trans (kp_of1 o x)⟩)
  have hf0 : Hid (∀ w', Kp w18 w' → Calls Tryz.prog 18 #[.pointer (some ⟨p0, 0, none⟩)] w' fun e w'' => ∃ A c, e = .returned (.slice A 0 c) ∧ Kp w18 w'') := hid (fun w' k => by
    refine (files_c p0 S0 newV w' (hv0.out.kp k)).mono ?_
    rintro e w'' ⟨v', rfl, o, x⟩
    obtain ⟨A, n, c, rfl⟩ := sl_shape o
    have hn : n = 0 := by
      have h1 : n = (filesS newV.lv).length := rd_size (s := ⟨A, n, c⟩) (sl_rd o)
      rw [h1]; unfold filesS; rw [List.length_mergeSort]; rfl
    subst hn
    exact ⟨A, c, rfl, k.trans (kp_of1 o x)⟩)
  have hm1 : Hid (∀ w', Kp w18 w' → Calls Tryz.prog 19 #[.pointer (some ⟨p1, 0, none⟩), .int .i64 0, .string ⟨#[100]⟩, .string ⟨#[100]⟩] w' fun e w'' => ∃ A c, e = .returned (.slice A 1 c) ∧ Kp w18 w'') := hid (fun w' k => by
    refine (meet_c p1 S1 V1 0 (ch 100) (ch 100) w' (hv18.out.kp k)).mono ?_
    rintro e w'' ⟨v', rfl, o, x⟩
    obtain ⟨A, n, c, rfl⟩ := sl_shape o
    have hn : n = 1 := (rd_size (s := ⟨A, n, c⟩) (sl_rd o)).trans meet0
    subst hn
    exact ⟨A, c, rfl, k.trans (kp_of1 o x)⟩)
  have hy1 : Hid (∀ w', Kp w18 w' → Calls Tryz.prog 20 #[.agg #[.int .u64 1, .int .i64 5, .string ⟨#[97]⟩, .string ⟨#[98]⟩, .int .u64 1]] w' fun e w'' => e = .returned (.bool true) ∧ Kp w18 w'') := hid (fun w' k => by
    refine (may_c (mkM 1 (ch 97) (ch 98)) w').mono ?_
    rintro e w'' ⟨rfl, x⟩
    exact ⟨by rw [may0], k.trans x⟩)
  have hy0 : Hid (∀ w', Kp w18 w' → Calls Tryz.prog 20 #[.agg #[.int .u64 0, .int .i64 0, .string ⟨#[]⟩, .string ⟨#[]⟩, .int .u64 0]] w' fun e w'' => e = .returned (.bool false) ∧ Kp w18 w'') := hid (fun w' k => by
    refine (may_c ⟨0, 0, ⟨#[]⟩, ⟨#[]⟩, 0⟩ w').mono ?_
    rintro e w'' ⟨rfl, x⟩
    exact ⟨by rw [may1], k.trans x⟩)
  have hall : Hid (Kp w w18) := hid (k1H.out.trans (kB.out.trans (kB11.out.trans (k16.out.trans k20.out))))
  clear hxf hxi hSE
  dsimp only
  go_wp2_with fail
  clear t1 t2 t3 y0 y1 y2 y3 y4 y5 y6 y7 x0 x1 x2 x3 x4 x5 x6 x7 u9 z9 yl
  refine hsm.out.mono ?_
  rintro e w19 ⟨rfl, k21⟩
  dsimp only
  go_wp2_with fail
  refine (hf1.out w19 k21).mono ?_
  rintro e w20 ⟨A20, c20, rfl, k22⟩
  dsimp only
  go_wp2_with fail
  refine (hm1.out w20 k22).mono ?_
  rintro e w21 ⟨A21, c21, rfl, k23⟩
  dsimp only
  go_wp2_with fail
  refine (hf0.out w21 k23).mono ?_
  rintro e w22 ⟨A22, c22, rfl, k24⟩
  dsimp only
  go_wp2_with fail
  refine (mk_c 1 _ _ w22).mono ?_
  rintro e w23 ⟨rfl, k25⟩
  dsimp only
  go_wp2_with fail
  refine (hy1.out w23 (k24.trans k25)).mono ?_
  rintro e w24 ⟨rfl, k26⟩
  dsimp only
  go_wp2_with fail
  refine (hy0.out w24 k26).mono ?_
  rintro e w25 ⟨rfl, k27⟩
  dsimp only
  go_wp2_with fail
  go_ret
  exact ⟨rfl, hall.out.trans k27⟩
end Go.Proofs.YtdmdnhceiddcfaaGreat
namespace Go.Proofs.YtdmdnhceiddcfaaGreat
open Go.RowKit Go.Sl Go.Scree

/-- A number laid into its place. -/
def insN (n : Nat) : List Nat → List Nat
  | [] => [n]
  | x :: l => if x < n then x :: insN n l else n :: x :: l
theorem insN_at {n : Nat} : ∀ {xs : List Nat} {k : Nat}, k ≤ xs.length → (∀ j y, j < k → xs[j]? = some y → y < n) → (∀ y, xs[k]? = some y → ¬ y < n) → insN n xs = xs.take k ++ n :: xs.drop k
  | [], k, h, _, _ => by
    obtain rfl : k = 0 := by simpa using h
    rfl
  | x :: xs, 0, _, _, h2 => by
    unfold insN
    rw [if_neg (h2 x rfl)]
    rfl
  | x :: xs, k + 1, hk, h1, h2 => by
    unfold insN
    rw [if_pos (h1 0 x (by omega) rfl), insN_at (k := k) (by simpa using hk) (fun j y hj hy => h1 (j + 1) y (by omega) (by simpa using hy)) (fun y hy => h2 y (by simpa using hy))]
    rfl
theorem insN_len (n : Nat) : ∀ xs : List Nat, (insN n xs).length = xs.length + 1
  | [] => rfl
  | x :: xs => by
    unfold insN
    split
    · rw [List.length_cons, insN_len n xs, List.length_cons]
    · rfl
theorem insN_perm (n : Nat) : ∀ xs : List Nat, (insN n xs).Perm (n :: xs)
  | [] => List.Perm.refl _
  | x :: xs => by
    unfold insN
    split
    · exact ((insN_perm n xs).cons x).trans (List.Perm.swap n x xs)
    · exact List.Perm.refl _
theorem insN_sorted (n : Nat) : ∀ xs : List Nat, xs.Pairwise (· ≤ ·) → (insN n xs).Pairwise (· ≤ ·)
  | [], _ => by simp [insN]
  | x :: xs, h => by
    rw [List.pairwise_cons] at h
    unfold insN
    split
    · rename_i hlt
      rw [List.pairwise_cons]
      refine ⟨fun y hy => ?_, insN_sorted n xs h.2⟩
      rcases List.mem_cons.1 ((insN_perm n xs).mem_iff.1 hy) with rfl | hy
      · omega
      · exact h.1 y hy
    · rename_i hlt
      rw [List.pairwise_cons, List.pairwise_cons]
      refine ⟨fun y hy => ?_, h⟩
      rcases List.mem_cons.1 hy with rfl | hy
      · omega
      · have := h.1 y hy; omega
def foldI (l : List Nat) : List Nat := l.foldl (fun o n => insN n o) []
theorem foldI_snoc (l : List Nat) (n : Nat) : foldI (l ++ [n]) = insN n (foldI l) := by unfold foldI; rw [List.foldl_append]; rfl
theorem foldI_perm (l : List Nat) : (foldI l).Perm l := by
  suffices ∀ (l a : List Nat), (l.foldl (fun o n => insN n o) a).Perm (l ++ a) by
    have h := this l []
    rw [List.append_nil] at h
    exact h
  intro l
  induction l with
  | nil => intro a; exact List.Perm.refl _
  | cons x l ih =>
    intro a
    refine (ih (insN x a)).trans ?_
    exact ((insN_perm x a).append_left l).trans List.perm_middle
theorem foldI_sorted (l : List Nat) : (foldI l).Pairwise (· ≤ ·) := by
  suffices ∀ (l a : List Nat), a.Pairwise (· ≤ ·) → (l.foldl (fun o n => insN n o) a).Pairwise (· ≤ ·) from this l [] List.Pairwise.nil
  intro l
  induction l with
  | nil => intro a h; exact h
  | cons x l ih => intro a h; exact ih _ (insN_sorted x a h)
theorem foldI_files (lv : Lvls) : foldI (filesM lv) = filesS lv := by
  have h1 := foldI_perm (filesM lv)
  have h2 : (filesS lv).Perm (filesM lv) := List.mergeSort_perm _ _
  have h3 : (filesS lv).Pairwise (· ≤ ·) := by
    have := List.pairwise_mergeSort (le := fun a b : Nat => decide (a ≤ b)) (by intro a b c; simp; omega) (by intro a b; simp; omega) (filesM lv)
    exact this.imp fun h => of_decide_eq_true h
  exact (h1.trans h2.symm).eq_of_pairwise (fun a b _ _ h k => Nat.le_antisymm h k) (foldI_sorted _) h3
theorem rd_count5 {α : Type} {En : Enc α} {w : World} {A : Option Addr} {n c : Nat} {xs : List α} (h : Rd w En (.slice A n c) xs) : n = xs.length := by
  obtain ⟨_, _, hv, _⟩ := h.form
  simp only [Value.slice.injEq] at hv
  exact hv.2.1
theorem rd_cap5 {α : Type} {En : Enc α} {w : World} {A : Option Addr} {n c : Nat} {xs : List α} (h : Rd w En (.slice A n c) xs) : n ≤ c ∧ c ≤ maxLen := by
  rcases h with ⟨⟨_, cap, hv, hm⟩, rfl⟩ | ⟨_, _, cap, hv, h1, hm, _⟩
  · simp only [Value.slice.injEq] at hv; obtain ⟨_, rfl, rfl⟩ := hv; exact ⟨Nat.zero_le _, hm⟩
  · simp only [Value.slice.injEq] at hv; obtain ⟨_, rfl, rfl⟩ := hv; exact ⟨h1, hm⟩
set_option maxRecDepth 20000 in
set_option maxHeartbeats 25600000 in
theorem rfiles_c (p : Nat) (S : Nat → SlA) (V : VerM) (w : World) (h : VerR w p S V) :
    Calls Tryz.prog 34 #[.pointer (some ⟨p, 0, none⟩)] w fun e w' => ∃ A n c, e = .returned (.slice A n c) ∧ Own w' [sl 32 u64E (.slice A n c) (filesS V.lv), base w w.heap.size] ∧ Ext w w' := by
  have hH := hid h
  have hlen4 := hid (fileL_len V.lv h.few)
  clear h
  obtain ⟨i0, hi0, hz0, hz1, hz2⟩ := info_parts infoU64
  have o0 := hid (sl_empty' 32 u64E ((Own.start w).alloc (.cells #[] 32 (0, 0))))
  have x0 := hid ((Ext.refl w).alloc (.cells #[] 32 (0, 0)))
  go_enter Tryz.func34, Tryz.ntmps34
  go_wp2_with fail
  go_loopw [3, 4, 5, 6, 7, 8] (fun b i _ _ _ _ wr => ∃ l : Nat, l ≤ 4 ∧ i = .int .i64 l ∧ Own wr [sl 32 u64E b (foldI (fileL V.lv l)), base w w.heap.size] ∧ Ext w wr) (fun _ i _ _ _ _ _ => 4 - (intOf i).toNat)
  case atStart => exact ⟨0, by omega, rfl, o0.out, x0.out⟩
  case round =>
    clear o0 x0
    obtain ⟨l, hl, rfl, ol, el⟩ := hrel
    have olH := hid ol
    have elH := hid el
    clear ol el
    by_cases hlt : l < 4
    · have hlt' : (l : Int) < 4 := by omega
      have hrl := hid (hH.out.rd l hlt)
      have hcl := hid (hH.out.lvl l hlt)
      have hfl := hid (hlen4.out l hl)
      have hfl2 := hid (hlen4.out (l + 1) (by omega))
      have hsu := hid (fileL_succ V.lv hlt)
      unfold SlA.v at hrl
      rw [rd_n (s := ⟨(S l).A, (S l).n, (S l).c⟩) hrl.out] at hrl
      rw [show (S l).n = (V.lv l).length from rd_n (hH.out.rd l hlt)] at hcl
      generalize V.lv l = ys at *
      obtain ⟨sA, hsA⟩ : ∃ sA, sA = S l := ⟨_, rfl⟩
      rw [← hsA] at hcl hrl
      clear hsA
      generalize fileL V.lv l = FL at *
      have hFl : Hid (FL.length + ys.length ≤ 100000) := hid (by
        have h1 := hfl2.out
        rw [hsu.out, List.length_append, List.length_map] at h1
        omega)
      have hy63 : ys.length ≤ 9223372036854775807 := by have := hFl.out; omega
      have cl := (kp_of1 olH.out elH.out).cell hcl.out
      go_wp2_with fail
      go_loopw [3, 5, 6, 7, 8] (fun b i _ _ _ wr => ∃ i' : Nat, i = .int .i64 i' ∧ i' ≤ ys.length ∧ Own wr [sl 32 u64E b (foldI (FL ++ (ys.take i').map (·.file))), base w w.heap.size] ∧ Ext w wr) (fun _ i _ _ _ _ => ys.length - (intOf i).toNat)
      case atStart => exact ⟨0, rfl, Nat.zero_le _, by simpa using olH.out, elH.out⟩
      case round =>
        clear olH elH cl
        obtain ⟨i, rfl, hi, oi, ei⟩ := hrel
        obtain ⟨A1, n1, c1, rfl⟩ := sl_shape oi
        have kwH := hid (kp_of1 oi ei)
        have oiH := hid oi
        have eiH := hid ei
        have cl := kwH.out.cell hcl.out
        have hrx := sl_rd oi
        clear oi ei
        by_cases hil : i < ys.length
        · have hil' : (i : Int) < (ys.length : Int) := by omega
          obtain ⟨x, hx⟩ : ∃ x, ys[i]? = some x := ⟨_, List.getElem?_eq_getElem hil⟩
          obtain ⟨gq, offq, hAq, _, d0, _, _, _, _⟩ := rd_meta (kwH.out.rd hrl.out) rfl hx
          rw [hAq] at cl
          have hnext : Hid (foldI (FL ++ (ys.take (i + 1)).map (·.file)) = insN x.file (foldI (FL ++ (ys.take i).map (·.file)))) := hid (by
            obtain ⟨hlt, rfl⟩ := List.getElem?_eq_some_iff.1 hx
            rw [List.take_succ_eq_append_getElem hlt, List.map_append, ← List.append_assoc]
            exact foldI_snoc _ _)
          have hlen : Hid ((foldI (FL ++ (ys.take i).map (·.file))).length ≤ 100000) := hid (by
            rw [(foldI_perm _).length_eq, List.length_append, List.length_map, List.length_take]
            have := hFl.out; omega)
          obtain ⟨nx, hnx⟩ : ∃ nx, x.file = nx := ⟨_, rfl⟩
          rw [hnx] at d0 hnext
          generalize foldI (FL ++ (ys.take i).map (·.file)) = xs at *
          obtain rfl : n1 = xs.length := rd_count5 hrx
          have hcap := rd_cap5 hrx
          have hrxH := hid hrx
          have hx63 : xs.length ≤ 9223372036854775807 := by have := hlen.out; omega
          have hat := hid (fun k => @insN_at nx xs k)
          have hcapH := hid hcap
          clear hx hAq hnx hcap hrx
          go_upto_block 4 with fail
          go_cut [7] from 35 to 48 (fun s7 wx => ∃ k : Nat, s7 = .int .i64 k ∧ k ≤ xs.length ∧ insN nx xs = xs.take k ++ nx :: xs.drop k ∧ wx = wr)
          case first =>
            go_wp2_with fail
            go_loopw [7] (fun iv wz => ∃ k : Nat, iv = .int .i64 k ∧ k ≤ xs.length ∧ (∀ j y, j < k → xs[j]? = some y → y < nx) ∧ wz = wr) (fun iv _ => xs.length - (intOf iv).toNat)
            case atStart => exact ⟨0, rfl, Nat.zero_le _, fun j y hj => by omega, rfl⟩
            case round =>
              obtain ⟨k, rfl, hk, hg, hwz⟩ := hrel
              have hwz' := hwz.symm
              subst hwz'
              clear hwz
              have gH := hid hg
              clear hg
              by_cases hlk : k < xs.length
              · have hlk' : (k : Int) < (xs.length : Int) := by omega
                obtain ⟨y, hy⟩ : ∃ y, xs[k]? = some y := ⟨_, List.getElem?_eq_getElem hlk⟩
                obtain ⟨gx, offx, rfl, _, a0⟩ := rd_num hrxH.out rfl hy
                have hyH := hid hy
                clear hy
                by_cases hyn : y < nx
                · have z1 : decide ((y : Int) < (nx : Int)) = true := decide_eq_true (by omega)
                  have z2 : decide (y < nx) = true := decide_eq_true hyn
                  have hg1 := hid (show ∀ j z, j < k + 1 → xs[j]? = some z → z < nx from fun j z hj hz => by
                    rcases Nat.lt_or_ge j k with h' | h'
                    · exact gH.out j z h' hz
                    · obtain rfl : j = k := by omega
                      rw [hyH.out] at hz
                      obtain rfl := Option.some.inj hz
                      exact hyn)
                  clear hyn
                  go_wp2_with fail
                  go_roundw
                  case rel => exact ⟨k + 1, by go_num, by omega, hg1.out, by first | rfl | trivial⟩
                  case measure => simp [intOf]; omega
                · have z1 : decide ((y : Int) < (nx : Int)) = false := decide_eq_false (by omega)
                  have z2 : decide (y < nx) = false := decide_eq_false hyn
                  have hf := hid (hat.out k hk gH.out (fun z hz => by
                    rw [hyH.out] at hz
                    obtain rfl := Option.some.inj hz
                    exact hyn))
                  clear hyn
                  go_wp2_with fail
                  go_meet
                  case rel => exact ⟨k, rfl, hk, hf.out, rfl⟩
              · have hf := hid (hat.out k hk gH.out (fun z hz => by rw [List.getElem?_eq_none (by omega)] at hz; cases hz))
                have dk : decide (k < xs.length) = false := decide_eq_false hlk
                clear hlk
                go_wp2_with fail
                go_meet
                case rel => exact ⟨k, rfl, hk, hf.out, rfl⟩
          case rest =>
          obtain ⟨k, rfl, hk, hin, hwc⟩ := hcut
          subst hwc
          have hins := hid hin
          clear hin hat cl d0
          have hk' : (k : Int) ≤ (xs.length : Int) := by omega
          have hkc : (k : Int) ≤ (c1 : Int) := by have := hcapH.out; omega
          have hkc2 : k ≤ c1 := by have := hcapH.out; omega
          have hRT := hid (rd_take hrxH.out k hk)
          cases A1 with
          | none =>
            have hRD : ∀ wz : World, Kp wc wz → Rd wz u64E (.slice none (xs.length - k) (c1 - k)) (xs.drop k) := fun wz kz => by
              rcases hrxH.out with ⟨_, rfl⟩ | ⟨_, _, _, hv, _⟩
              · exact .inl ⟨⟨none, c1 - k, by simp, by have := hcapH.out.2; omega⟩, by simp⟩
              · cases hv
            have hRDH := hid hRD
            clear hRD
            go_wp2_with (refine wpList_append_rd rfl _ _ _ rfl i0 _ 1 8 Tryz.underlying29 hi0 hz0 hz1 hz2 rfl rfl rfl (sl_built 32 u64E [nx] ((Own.start wc).alloc (.cells #[.int .u64 nx] 32 (0, 0))) (n := 1) rfl (by simp [maxLen]) rfl) rfl (hRDH.out _ ((Kp.refl wc).alloc _)) (by first | (have := hlen.out; simp [maxLen]; done) | (have := hlen.out; simp [maxLen]; omega)) (by first | (have := hlen.out; simp; done) | (have := hlen.out; simp; omega)) ?_)
            intro v5 w5 o5 e5 _
            obtain ⟨A5, n5, c5, rfl⟩ := sl_shape o5
            have k5H := hid (kp_of1 o5 (((Ext.refl wc).alloc _).trans e5))
            have r5H := hid (sl_rd o5)
            have r5l := hid (rd_count5 (sl_rd o5))
            clear o5 e5
            go_wp2_with (refine wpList_append_rd rfl _ _ _ rfl i0 _ 1 8 Tryz.underlying29 hi0 hz0 hz1 hz2 rfl rfl rfl (sl_empty' 32 u64E ((Own.start w5).alloc (.cells #[] 32 (0, 0)))) rfl (((Kp.refl w5).alloc _).rd (k5H.out.rd (hRT.out))) (by first | (have := hlen.out; simp [maxLen]; done) | (have := hlen.out; simp [maxLen]; omega)) (by first | (have := hlen.out; simp; done) | (have := hlen.out; simp; omega)) ?_)
            intro v6 w6 o6 e6 _
            obtain ⟨A6, n6, c6, rfl⟩ := sl_shape o6
            have k6H := hid (kp_of1 o6 (((Ext.refl w5).alloc _).trans e6))
            have r6H := hid (k6H.out.rd r5H.out)
            have o6H := hid o6
            clear o6 e6
            go_wp2_with (refine wpList_append_rd rfl _ _ _ rfl i0 _ 1 8 Tryz.underlying29 hi0 hz0 hz1 hz2 rfl rfl rfl o6H.out rfl r6H.out (by first | (have := hlen.out; simp [maxLen]; done) | (have := hlen.out; simp [maxLen]; omega)) (by first | (have := hlen.out; simp; done) | (have := hlen.out; simp; omega)) ?_)
            intro v7 w7 o7 e7 _
            obtain ⟨A7, n7, c7, rfl⟩ := sl_shape o7
            have kall := ((kwH.out.trans k5H.out))
            have o8 : Own w7 [sl 32 u64E (.slice A7 n7 c7) (insN nx xs), Sl.base w w.heap.size] := by
              have h := rebase1 o7 kall.base
              rw [hins.out]
              simpa using h
            have o8H := hid o8
            have x8H := hid ((kall.ext.trans k6H.out.ext).trans e7)
            clear o7 e7 o8 kall
            go_wp2
            go_roundw
            case rel => exact ⟨i + 1, by go_num, by omega, by rw [hnext.out]; exact o8H.out, x8H.out⟩
            case measure => simp [intOf]; omega
          | some ad =>
            by_cases hck : c1 = k
            · subst hck
              have hkl : xs.length - c1 = 0 := by have := hcapH.out; omega
              have hRD : ∀ wz : World, Kp wc wz → Rd wz u64E (.slice (some ad) 0 0) (xs.drop c1) := fun wz kz =>
                .inl ⟨⟨some ad, 0, rfl, by simp [maxLen]⟩, List.drop_eq_nil_of_le (by have := hcapH.out; omega)⟩
              have hRDH := hid hRD
              clear hRD
              go_wp2_with (refine wpList_append_rd rfl _ _ _ rfl i0 _ 1 8 Tryz.underlying29 hi0 hz0 hz1 hz2 rfl rfl rfl (sl_built 32 u64E [nx] ((Own.start wc).alloc (.cells #[.int .u64 nx] 32 (0, 0))) (n := 1) rfl (by simp [maxLen]) rfl) rfl (hRDH.out _ ((Kp.refl wc).alloc _)) (by first | (have := hlen.out; simp [maxLen]; done) | (have := hlen.out; simp [maxLen]; omega)) (by first | (have := hlen.out; simp; done) | (have := hlen.out; simp; omega)) ?_)
              intro v5 w5 o5 e5 _
              obtain ⟨A5, n5, c5, rfl⟩ := sl_shape o5
              have k5H := hid (kp_of1 o5 (((Ext.refl wc).alloc _).trans e5))
              have r5H := hid (sl_rd o5)
              have r5l := hid (rd_count5 (sl_rd o5))
              clear o5 e5
              go_wp2_with (refine wpList_append_rd rfl _ _ _ rfl i0 _ 1 8 Tryz.underlying29 hi0 hz0 hz1 hz2 rfl rfl rfl (sl_empty' 32 u64E ((Own.start w5).alloc (.cells #[] 32 (0, 0)))) rfl (((Kp.refl w5).alloc _).rd (k5H.out.rd (hRT.out))) (by first | (have := hlen.out; simp [maxLen]; done) | (have := hlen.out; simp [maxLen]; omega)) (by first | (have := hlen.out; simp; done) | (have := hlen.out; simp; omega)) ?_)
              intro v6 w6 o6 e6 _
              obtain ⟨A6, n6, c6, rfl⟩ := sl_shape o6
              have k6H := hid (kp_of1 o6 (((Ext.refl w5).alloc _).trans e6))
              have r6H := hid (k6H.out.rd r5H.out)
              have o6H := hid o6
              clear o6 e6
              go_wp2_with (refine wpList_append_rd rfl _ _ _ rfl i0 _ 1 8 Tryz.underlying29 hi0 hz0 hz1 hz2 rfl rfl rfl o6H.out rfl r6H.out (by first | (have := hlen.out; simp [maxLen]; done) | (have := hlen.out; simp [maxLen]; omega)) (by first | (have := hlen.out; simp; done) | (have := hlen.out; simp; omega)) ?_)
              intro v7 w7 o7 e7 _
              obtain ⟨A7, n7, c7, rfl⟩ := sl_shape o7
              have kall := ((kwH.out.trans k5H.out))
              have o8 : Own w7 [sl 32 u64E (.slice A7 n7 c7) (insN nx xs), Sl.base w w.heap.size] := by
                have h := rebase1 o7 kall.base
                rw [hins.out]
                simpa using h
              have o8H := hid o8
              have x8H := hid ((kall.ext.trans k6H.out.ext).trans e7)
              clear o7 e7 o8 kall
              go_wp2
              go_roundw
              case rel => exact ⟨i + 1, by go_num, by omega, by rw [hnext.out]; exact o8H.out, x8H.out⟩
              case measure => simp [intOf]; omega
            · have hRD : ∀ wz : World, Kp wc wz → Rd wz u64E (.slice (some (ad.add k)) (xs.length - k) (c1 - k)) (xs.drop k) := fun wz kz => by
                have hr := kz.rd hrxH.out
                rcases hr with ⟨_, rfl⟩ | ⟨g, off, cap, hv, h1, h2, hc⟩
                · exact .inl ⟨⟨some (ad.add k), c1 - k, by simp, by have := hcapH.out.2; omega⟩, by simp⟩
                · simp only [Value.slice.injEq, Option.some.injEq] at hv
                  obtain ⟨rfl, _, rfl⟩ := hv
                  have h := rd_drop (Or.inr ⟨g, off, _, rfl, h1, h2, hc⟩ : Rd wz u64E (.slice (some ⟨g, off, none⟩) xs.length c1) xs) k hk
                  have e : off + k * u64E.size = off + k := by show off + k * 1 = off + k; omega
                  rw [e] at h
                  have e2 : (⟨g, off, none⟩ : Addr).add k = ⟨g, off + k, none⟩ := by simp [Addr.add]
                  rw [e2]
                  exact h
              have hck2 : ¬ k = c1 := fun h => hck h.symm
              have hRDH := hid hRD
              clear hRD
              go_wp2_with (refine wpList_append_rd rfl _ _ _ rfl i0 _ 1 8 Tryz.underlying29 hi0 hz0 hz1 hz2 rfl rfl rfl (sl_built 32 u64E [nx] ((Own.start wc).alloc (.cells #[.int .u64 nx] 32 (0, 0))) (n := 1) rfl (by simp [maxLen]) rfl) rfl (hRDH.out _ ((Kp.refl wc).alloc _)) (by first | (have := hlen.out; simp [maxLen]; done) | (have := hlen.out; simp [maxLen]; omega)) (by first | (have := hlen.out; simp; done) | (have := hlen.out; simp; omega)) ?_)
              intro v5 w5 o5 e5 _
              obtain ⟨A5, n5, c5, rfl⟩ := sl_shape o5
              have k5H := hid (kp_of1 o5 (((Ext.refl wc).alloc _).trans e5))
              have r5H := hid (sl_rd o5)
              have r5l := hid (rd_count5 (sl_rd o5))
              clear o5 e5
              go_wp2_with (refine wpList_append_rd rfl _ _ _ rfl i0 _ 1 8 Tryz.underlying29 hi0 hz0 hz1 hz2 rfl rfl rfl (sl_empty' 32 u64E ((Own.start w5).alloc (.cells #[] 32 (0, 0)))) rfl (((Kp.refl w5).alloc _).rd (k5H.out.rd (hRT.out))) (by first | (have := hlen.out; simp [maxLen]; done) | (have := hlen.out; simp [maxLen]; omega)) (by first | (have := hlen.out; simp; done) | (have := hlen.out; simp; omega)) ?_)
              intro v6 w6 o6 e6 _
              obtain ⟨A6, n6, c6, rfl⟩ := sl_shape o6
              have k6H := hid (kp_of1 o6 (((Ext.refl w5).alloc _).trans e6))
              have r6H := hid (k6H.out.rd r5H.out)
              have o6H := hid o6
              clear o6 e6
              go_wp2_with (refine wpList_append_rd rfl _ _ _ rfl i0 _ 1 8 Tryz.underlying29 hi0 hz0 hz1 hz2 rfl rfl rfl o6H.out rfl r6H.out (by first | (have := hlen.out; simp [maxLen]; done) | (have := hlen.out; simp [maxLen]; omega)) (by first | (have := hlen.out; simp; done) | (have := hlen.out; simp; omega)) ?_)
              intro v7 w7 o7 e7 _
              obtain ⟨A7, n7, c7, rfl⟩ := sl_shape o7
              have kall := ((kwH.out.trans k5H.out))
              have o8 : Own w7 [sl 32 u64E (.slice A7 n7 c7) (insN nx xs), Sl.base w w.heap.size] := by
                have h := rebase1 o7 kall.base
                rw [hins.out]
                simpa using h
              have o8H := hid o8
              have x8H := hid ((kall.ext.trans k6H.out.ext).trans e7)
              clear o7 e7 o8 kall
              go_wp2
              go_roundw
              case rel => exact ⟨i + 1, by go_num, by omega, by rw [hnext.out]; exact o8H.out, x8H.out⟩
              case measure => simp [intOf]; omega
        · obtain rfl : i = ys.length := by omega
          have hfin : Hid (Own wr [sl 32 u64E (.slice A1 n1 c1) (foldI (fileL V.lv (l + 1))), base w w.heap.size]) := hid (by
            rw [hsu.out]
            have := oiH.out
            rwa [List.take_length] at this)
          go_wp2_with fail
          go_roundw
          case rel => exact ⟨l + 1, by omega, by go_num, hfin.out, eiH.out⟩
          case measure => simp [intOf]; omega
    · obtain rfl : l = 4 := by omega
      obtain ⟨A1, n1, c1, rfl⟩ := sl_shape olH.out
      have hfin : Hid (Own wr [sl 32 u64E (.slice A1 n1 c1) (filesS V.lv), base w w.heap.size]) := hid (by
        have := olH.out
        rwa [fileL_four, foldI_files] at this)
      go_wp2_with fail
      go_ret
      exact ⟨A1, n1, c1, rfl, hfin.out, elH.out⟩
end Go.Proofs.YtdmdnhceiddcfaaGreat
namespace Go.Proofs.YtdmdnhceiddcfaaGreat
open Go.RowKit Go.Sl Go.Scree

theorem vok_few {V : VerM} (h : VOk V) : ∀ l, l < 4 → (V.lv l).length ≤ 1000 := fun l hl => Nat.le_trans (vok_len h hl) (by omega)
set_option maxRecDepth 20000 in
set_option maxHeartbeats 12800000 in
theorem lsame_c (p r : Nat) (S T : Nat → SlA) (V : VerM) (w : World) (h : VerR w p S V) (h2 : VerR w r T V) (hV : VOk V) :
    Calls Tryz.prog 11 #[.pointer (some ⟨p, 0, none⟩), .pointer (some ⟨r, 0, none⟩)] w fun e w' => e = .returned (.bool true) ∧ Kp w w' := by
  have hH := hid h
  have h2H := hid h2
  have hfew := hid (vok_few hV)
  clear h h2 hV
  go_enter Tryz.func11, Tryz.ntmps11
  go_wp2_with fail
  go_loopw [4, 5] (fun _ i wr => ∃ l : Int, i = .int .i64 l ∧ -1 ≤ l ∧ l ≤ 5 ∧ Kp w wr) (fun _ i _ => (6 - intOf i).toNat)
  case atStart => exact ⟨-1, rfl, by omega, by omega, Kp.refl _⟩
  case round =>
    obtain ⟨l, rfl, hl1, hl2, kr⟩ := hrel
    have krH := hid kr
    clear kr
    by_cases hlt : l ≤ 4
    · have hle := hid (level_c p S V l wr (hH.out.kp krH.out))
      have hle2 := hid (fun w1 (k : Kp wr w1) => rlevel_c r T V l w1 (h2H.out.kp (krH.out.trans k)))
      have hw : IntKind.i64.wrap (l + 1) = l + 1 := Go.IntWalk.i64_in _ (by omega)
      have dl : decide (l ≤ 4) = true := decide_eq_true hlt
      go_wp2_with fail
      refine hle.out.mono ?_
      rintro e w1 ⟨v', rfl, o1, e1⟩
      obtain ⟨A1, n1, c1, rfl⟩ := sl_shape o1
      have k1H := hid (kp_of1 o1 e1)
      have r1H := hid (sl_rd o1)
      clear o1 e1 hle
      go_wp2_with fail
      refine (hle2.out w1 k1H.out).mono ?_
      rintro e w2 ⟨⟨s2, rfl, r2⟩, hw2⟩
      have hw2' := hw2.symm
      subst hw2'
      have r2H := hid r2
      clear hw2 r2 hle2
      go_wp2_with fail
      refine (sameMetas_c _ _ (levelM V.lv l) w1 r1H.out r2H.out).mono ?_
      rintro e w3 ⟨rfl, k3⟩
      have k3H := hid ((krH.out.trans k1H.out).trans k3)
      clear k3
      go_wp2_with fail
      go_roundw
      case rel => exact ⟨l + 1, rfl, by omega, by omega, k3H.out⟩
      case measure => simp only [intOf]; omega
    · obtain rfl : l = 5 := by omega
      have hn := hid (numbers_c p S V wr (hH.out.kp krH.out))
      go_wp2_with fail
      refine hn.out.mono ?_
      rintro e w1 ⟨rfl, k1⟩
      have k1H := hid (krH.out.trans k1)
      have h3 := hid (h2H.out.kp k1H.out)
      clear k1 hn
      have r0 := h3.out.lvl 0 (by omega)
      have r1 := h3.out.lvl 1 (by omega)
      have r2 := h3.out.lvl 2 (by omega)
      have r3 := h3.out.lvl 3 (by omega)
      have r4 := h3.out.next
      have r5 := h3.out.log
      have r6 := h3.out.seq
      have kD := (Kp.refl w1).drew
      have hf1 := hid (fun w2 (k : Kp w1 w2) => files_c p S V w2 (hH.out.kp (k1H.out.trans k)))
      have hf2 := hid (fun w2 (k : Kp w1 w2) => rfiles_c r T V w2 (h2H.out.kp (k1H.out.trans k)))
      have he1 := hid (fun w2 (k : Kp w1 w2) => edit_c p S V w2 (hH.out.kp (k1H.out.trans k)) hfew.out)
      have hsm := hid (fun g S' w2 (k : Kp w1 w2) (hr : EditR w2 g S' (editOf V)) => same_c g nilA S' T (editOf V) w2 hr ⟨.inl ⟨⟨none, 0, rfl, by simp [maxLen]⟩, rfl⟩, fun l hl => (h2H.out.kp (k1H.out.trans k)).rd l hl, hfew.out⟩)
      unfold editV at he1 hsm
      go_upto_region 7 with fail
      have d0 := kD.cell r0
      have d1 := kD.cell r1
      have d2 := kD.cell r2
      have d3 := kD.cell r3
      have d4 := kD.cell r4
      have d5 := kD.cell r5
      have d6 := kD.cell r6
      clear r0 r1 r2 r3 r4 r5 r6
      go_region_held3 (fun W => W.cell? ⟨r, 0, none⟩ = some (.slice (T 0).A (T 0).n (T 0).c) ∧ W.cell? ⟨r, 1, none⟩ = some (.slice (T 1).A (T 1).n (T 1).c) ∧ W.cell? ⟨r, 2, none⟩ = some (.slice (T 2).A (T 2).n (T 2).c) ∧ W.cell? ⟨r, 3, none⟩ = some (.slice (T 3).A (T 3).n (T 3).c) ∧ W.cell? ⟨r, 4, none⟩ = some (.int .u64 V.next) ∧ W.cell? ⟨r, 5, none⟩ = some (.int .u64 V.log) ∧ W.cell? ⟨r, 6, none⟩ = some (.int .u64 V.seq)) (first | exact ⟨d0, d1, d2, d3, d4, d5, d6⟩ | (and_intros <;> assumption))
        (first
        | (go_at_call 18; refine (hf1.out _ kD).mono ?_; rintro e w2 ⟨v2, rfl, o2, e2⟩; obtain ⟨A2, n2, c2, rfl⟩ := sl_shape o2; have k12 := kp_of1 o2 e2; have k2 := kD.trans k12; have q2 := sl_rd o2; clear o2 e2; have d0 := k12.cell d0; have d1 := k12.cell d1; have d2 := k12.cell d2; have d3 := k12.cell d3; have d4 := k12.cell d4; have d5 := k12.cell d5; have d6 := k12.cell d6)
        | (go_at_call 34; refine (hf2.out _ k2).mono ?_; rintro e w3 ⟨A3, n3, c3, rfl, o3, e3⟩; have k23 := kp_of1 o3 e3; have k3 := k2.trans k23; have q3 := sl_rd o3; have q23 := k23.rd q2; clear o3 e3; have d0 := k23.cell d0; have d1 := k23.cell d1; have d2 := k23.cell d2; have d3 := k23.cell d3; have d4 := k23.cell d4; have d5 := k23.cell d5; have d6 := k23.cell d6)
        | (go_at_call 33; refine (sameNumbers_c _ _ _ _ q23 q3).mono ?_; rintro e w4 ⟨rfl, k34⟩; have k4 := k3.trans k34; have d0 := k34.cell d0; have d1 := k34.cell d1; have d2 := k34.cell d2; have d3 := k34.cell d3; have d4 := k34.cell d4; have d5 := k34.cell d5; have d6 := k34.cell d6)
        | (go_at_call 35; refine (he1.out _ k4).mono ?_; rintro e w5 ⟨g5, S5, rfl, ed5, k45⟩; have k5 := k4.trans k45; have d0 := k45.cell d0; have d1 := k45.cell d1; have d2 := k45.cell d2; have d3 := k45.cell d3; have d4 := k45.cell d4; have d5 := k45.cell d5; have d6 := k45.cell d6)
        | (go_at_call 17; refine (hsm.out _ _ _ k5 ed5).mono ?_; rintro e w6 ⟨rfl, k56⟩; have k6 := k5.trans k56; have d0 := k56.cell d0; have d1 := k56.cell d1; have d2 := k56.cell d2; have d3 := k56.cell d3; have d4 := k56.cell d4; have d5 := k56.cell d5; have d6 := k56.cell d6))
      all_goals
        clear d0 d1 d2 d3 d4 d5 d6
        (try go_wp2)
        go_ret
        exact ⟨rfl, k1H.out.trans k6⟩
end Go.Proofs.YtdmdnhceiddcfaaGreat
namespace Go.Proofs.YtdmdnhceiddcfaaGreat
open Go.RowKit Go.Sl Go.Scree

/-- The lists of an edit, so many levels. -/
def cpC (S : Nat → SlA) (nw : Lvls) : Nat → List Chunk
  | 0 => []
  | k + 1 => sl 43 metaE (S k).v (nw k) :: cpC S nw k
theorem cpC_upd (S : Nat → SlA) (nw : Lvls) (l : Nat) (s : SlA) : ∀ k, k ≤ l → cpC (upd S l s) nw k = cpC S nw k
  | 0, _ => rfl
  | k + 1, h => by
    unfold cpC
    rw [cpC_upd S nw l s k (by omega), upd_ne _ _ (by omega)]
/-- An edit's block that is turned, its lists owned so far. -/
structure CpO (w W0 : World) (eb rb : Nat) (g : SlA) (S : Nat → SlA) (E : EditM) (k : Nat) : Prop where
  own : Own w (pts eb (.cells (editCells g S E) 34 (0, 0)) :: pts rb (.cells zeroE 34 (0, 0)) :: (cpC S E.nw k ++ [sl 32 u64E g.v E.gone, base W0 W0.heap.size]))
  ext : Ext W0 w
theorem CpO.base {w W0 : World} {eb rb : Nat} {g : SlA} {S : Nat → SlA} {E : EditM} {k : Nat} (h : CpO w W0 eb rb g S E k) : Kp W0 w := by
  refine kp_of (cs := pts eb (.cells (editCells g S E) 34 (0, 0)) :: pts rb (.cells zeroE 34 (0, 0)) :: (cpC S E.nw k ++ [sl 32 u64E g.v E.gone])) ?_ h.ext
  simpa using h.own
theorem CpO.turn {w w1 W0 : World} {eb rb : Nat} {g : SlA} {S : Nat → SlA} {E : EditM} {k : Nat} (h : CpO w W0 eb rb g S E k) (hk : k < 4) {s : SlA} (kp : Kp w w1) (o : Own w1 [sl 43 metaE s.v (E.nw k), Sl.base w w.heap.size]) :
    CpO (w1.setCell ⟨eb, 1 + k, none⟩ (.slice s.A s.n s.c)) W0 eb rb g (upd S k s) E (k + 1) := by
  have o2 := ((rebase1 o h.own).swap).set (i := 1 + k) (.slice s.A s.n s.c)
  refine ⟨?_, (h.ext.trans kp.ext).set _ _⟩
  rw [edit_set g S E E.nw hk s] at o2
  unfold cpC
  rw [cpC_upd S E.nw k s k (Nat.le_refl _), upd_at]
  exact o2.perm (List.Perm.cons _ (List.Perm.swap _ _ _))
set_option maxRecDepth 20000 in
set_option maxHeartbeats 6400000 in
theorem copied_c (g : SlA) (S : Nat → SlA) (E : EditM) (w : World) (h : EditR w g S E) (hg : E.gone.length ≤ 1000) :
    Calls Tryz.prog 8 #[editV g S E] w fun e w' => ∃ g' S', e = .returned (editV g' S' E) ∧ Own w' (cpC S' E.nw 4 ++ [sl 32 u64E g'.v E.gone, base w w.heap.size]) ∧ Ext w w' := by
  have hH := hid h
  have hgH := hid hg
  obtain ⟨j0, hj0, hy0, hy1, hy2⟩ := info_parts infoU64
  have hgn := rd_size h.gone
  have o0 := ((Own.start w).alloc (.cells (editCells g S E) 34 (0, 0))).alloc (.cells zeroE 34 (0, 0))
  have k0 := ((Kp.refl w).alloc (.cells (editCells g S E) 34 (0, 0))).alloc (.cells zeroE 34 (0, 0))
  simp only [World.size_alloc] at o0
  have hrg := k0.rd h.gone
  clear h hg
  obtain ⟨gA, gn, gc⟩ := g
  dsimp only at hgn
  subst hgn
  unfold SlA.v at hrg
  obtain ⟨w0, hw0⟩ : ∃ w0, w0 = (w.alloc (.cells (editCells ⟨gA, E.gone.length, gc⟩ S E) 34 (0, 0))).alloc (.cells zeroE 34 (0, 0)) := ⟨_, rfl⟩
  rw [← hw0] at o0 k0 hrg
  have v0 : Hid (CpO w0 w w.heap.size (w.heap.size + 1) ⟨gA, E.gone.length, gc⟩ S E 0 → True) := hid (fun _ => trivial)
  have o0H := hid o0.swap
  have k0H := hid k0
  have hrgH := hid hrg
  have hw0' := hw0
  unfold zeroE editCells at hw0'
  unfold editV
  clear o0 k0 hrg hw0 v0
  go_enter Tryz.func8, Tryz.ntmps8
  go_upto_region 1 with fail
  rw [show ((w.alloc (.cells #[.slice gA E.gone.length gc, .slice (S 0).A (S 0).n (S 0).c, .slice (S 1).A (S 1).n (S 1).c, .slice (S 2).A (S 2).n (S 2).c, .slice (S 3).A (S 3).n (S 3).c, .int .u64 E.next, .int .u64 E.log, .int .u64 E.seq] 34 (0, 0))).alloc (.cells #[.slice none 0 0, .slice none 0 0, .slice none 0 0, .slice none 0 0, .slice none 0 0, .int .u64 0, .int .u64 0, .int .u64 0] 34 (0, 0))) = w0 from hw0'.symm]
  obtain ⟨eb, heb⟩ : ∃ eb, w.heap.size = eb := ⟨_, rfl⟩
  obtain ⟨rb, hrb⟩ : ∃ rb, eb + 1 = rb := ⟨_, rfl⟩
  rw [heb, hrb] at o0H
  rw [heb, hrb]
  clear hw0'
  have c0 : w0.cell? ⟨eb, 0, none⟩ = some (.slice gA E.gone.length gc) := o0H.out.cell (i := 0) rfl
  have l0 : eb < w0.heap.size := o0H.out.lt
  have l0' : eb ≠ w0.heap.size := by omega
  go_wp2_with (refine wpList_append_rd rfl _ _ _ rfl j0 _ 1 8 Tryz.underlying29 hj0 hy0 hy1 hy2 rfl rfl rfl (sl_empty' 32 u64E (o0H.out.alloc (.cells #[] 32 (0, 0)))) rfl (((Kp.refl w0).alloc _).rd hrgH.out) (by have := hgH.out; simp [maxLen]; omega) (by have := hgH.out; simp; omega) ?_)
  intro v4 w4 o4 e4 _
  obtain ⟨A4, n4, c4, rfl⟩ := sl_shape o4
  have c4' : w4.cell? ⟨eb, 0, none⟩ = some (.slice gA E.gone.length gc) := (o4.pick 1).cell (i := 0) rfl
  have f4 : w4.frozen? ⟨eb, 0, none⟩ = false := (o4.pick 1).free 0
  have v1 : Hid (CpO (w4.setCell ⟨eb, 0, none⟩ (.slice A4 n4 c4)) w eb rb ⟨A4, n4, c4⟩ S E 0) := hid ⟨by
    have o5 := (o4.pick 1).set (i := 0) (.slice A4 n4 c4)
    rw [← heb] at o5 ⊢
    exact o5.perm (List.Perm.cons _ (List.Perm.swap _ _ _)), by
    have := k0H.out.ext
    exact ((this.alloc _).trans e4).set _ _⟩
  clear o4 e4 c0 l0 l0' o0H k0H hrgH
  go_wp2_with fail
  obtain ⟨i0, hi0, hz0, hz1, hz2⟩ := info_parts infoMeta
  have heH := hid heb
  clear heb hrb c4' f4
  go_loopw [3, 9] (fun _ i wr => ∃ (l : Nat) (S1 : Nat → SlA), i = .int .i64 l ∧ l ≤ 4 ∧ CpO wr w eb rb ⟨A4, n4, c4⟩ S1 E l ∧ ∀ k, l ≤ k → S1 k = S k) (fun _ i _ => 4 - (intOf i).toNat)
  case atStart => exact ⟨0, S, rfl, by omega, v1.out, fun k _ => rfl⟩
  case round =>
    clear v1
    obtain ⟨l, S1, rfl, hl, hv, hs⟩ := hrel
    have vH := hid hv
    have hsH := hid hs
    clear hv hs
    by_cases hlt : l < 4
    · have hlt' : (l : Int) < 4 := by omega
      have hrl := hid (vH.out.base.rd (hH.out.nw l hlt))
      have hfl := hid (hH.out.few l hlt)
      have cl : wr.cell? ⟨eb, 1 + l, none⟩ = some (.slice (S1 l).A (S1 l).n (S1 l).c) := vH.out.own.cell (edit_at _ _ _ hlt)
      rw [hsH.out l (Nat.le_refl _), show (S l).n = (E.nw l).length from rd_n (hH.out.nw l hlt)] at cl
      unfold SlA.v at hrl
      rw [show (S l).n = (E.nw l).length from rd_n (hH.out.nw l hlt)] at hrl
      have lE : eb < wr.heap.size := vH.out.own.lt
      have lE' : eb ≠ wr.heap.size := by omega
      go_wp2_with (refine wpList_append_rd rfl _ _ _ rfl i0 _ 5 56 Tryz.underlying30 hi0 hz0 hz1 hz2 rfl rfl rfl (sl_empty' 43 metaE ((Own.start wr).alloc (.cells #[] 43 (0, 0)))) rfl (((Kp.refl wr).alloc _).rd hrl.out) (by have := hfl.out; simp [maxLen]; omega) (by have := hfl.out; simp; omega) ?_)
      intro v5 w5 o5 e5 _
      obtain ⟨A5, n5, c5, rfl⟩ := sl_shape o5
      have k5 := kp_of1 o5 (((Ext.refl wr).alloc _).trans e5)
      have cl5 := k5.cell cl
      have f5 : w5.frozen? ⟨eb, 1 + l, none⟩ = false := k5.free lE (vH.out.own.free _)
      have vt := hid (vH.out.turn hlt (s := ⟨A5, n5, c5⟩) k5 (by simpa [SlA.v] using o5))
      clear o5 e5 k5 cl lE lE' hrl
      go_wp2_with fail
      go_roundw
      case rel => exact ⟨l + 1, _, by go_num, by omega, vt.out, fun k hk => by rw [upd_ne _ _ (by omega)]; exact hsH.out k (by omega)⟩
      case measure => simp [intOf]; omega
    · obtain rfl : l = 4 := by omega
      have o := vH.out.own
      have q0 := o.cell (i := 0) (v := .slice A4 n4 c4) rfl
      have q1 := o.cell (i := 1) (v := .slice (S1 0).A (S1 0).n (S1 0).c) rfl
      have q2 := o.cell (i := 2) (v := .slice (S1 1).A (S1 1).n (S1 1).c) rfl
      have q3 := o.cell (i := 3) (v := .slice (S1 2).A (S1 2).n (S1 2).c) rfl
      have q4 := o.cell (i := 4) (v := .slice (S1 3).A (S1 3).n (S1 3).c) rfl
      have q5 := o.cell (i := 5) (v := .int .u64 E.next) rfl
      have q6 := o.cell (i := 6) (v := .int .u64 E.log) rfl
      have q7 := o.cell (i := 7) (v := .int .u64 E.seq) rfl
      have r0 := o.swap.cell (i := 0) (v := .slice none 0 0) rfl
      have r1 := o.swap.cell (i := 1) (v := .slice none 0 0) rfl
      have r2 := o.swap.cell (i := 2) (v := .slice none 0 0) rfl
      have r3 := o.swap.cell (i := 3) (v := .slice none 0 0) rfl
      have r4 := o.swap.cell (i := 4) (v := .slice none 0 0) rfl
      have r5 := o.swap.cell (i := 5) (v := .int .u64 0) rfl
      have r6 := o.swap.cell (i := 6) (v := .int .u64 0) rfl
      have r7 := o.swap.cell (i := 7) (v := .int .u64 0) rfl
      have f0 := o.swap.free 0
      have f1 := o.swap.free 1
      have f2 := o.swap.free 2
      have f3 := o.swap.free 3
      have f4 := o.swap.free 4
      have f5 := o.swap.free 5
      have f6 := o.swap.free 6
      have f7 := o.swap.free 7
      clear o
      go_wp2_with fail
      change bodyPost Tryz.prog _ _ Exit.ret _ (put wr rb 0 (editCells ⟨A4, n4, c4⟩ S1 E).toList)
      clear q0 q1 q2 q3 q4 q5 q6 q7 r0 r1 r2 r3 r4 r5 r6 r7 f0 f1 f2 f3 f4 f5 f6 f7
      have o2 := own_put (editCells ⟨A4, n4, c4⟩ S1 E).toList (o := 0) vH.out.own.swap
      have e2 := ext_put (editCells ⟨A4, n4, c4⟩ S1 E).toList rb 0 vH.out.ext
      obtain ⟨wz, hwz⟩ : ∃ wz, wz = put wr rb 0 (editCells ⟨A4, n4, c4⟩ S1 E).toList := ⟨_, rfl⟩
      rw [← hwz] at o2 e2 ⊢
      clear hwz
      have ov : over zeroE 0 (editCells ⟨A4, n4, c4⟩ S1 E).toList = editCells ⟨A4, n4, c4⟩ S1 E := rfl
      rw [ov] at o2
      have z0 := o2.cell (i := 0) (v := .slice A4 n4 c4) rfl
      have z1 := o2.cell (i := 1) (v := .slice (S1 0).A (S1 0).n (S1 0).c) rfl
      have z2 := o2.cell (i := 2) (v := .slice (S1 1).A (S1 1).n (S1 1).c) rfl
      have z3 := o2.cell (i := 3) (v := .slice (S1 2).A (S1 2).n (S1 2).c) rfl
      have z4 := o2.cell (i := 4) (v := .slice (S1 3).A (S1 3).n (S1 3).c) rfl
      have z5 := o2.cell (i := 5) (v := .int .u64 E.next) rfl
      have z6 := o2.cell (i := 6) (v := .int .u64 E.log) rfl
      have z7 := o2.cell (i := 7) (v := .int .u64 E.seq) rfl
      refine bodyPost_ret (by simp [results, Tryz.results8, go_sem, z0, z1, z2, z3, z4, z5, z6, z7]; rfl) rfl ?_
      exact ⟨⟨A4, n4, c4⟩, S1, rfl, o2.drop.drop, e2⟩
end Go.Proofs.YtdmdnhceiddcfaaGreat
namespace Go.Proofs.YtdmdnhceiddcfaaGreat
open Go.RowKit Go.Sl Go.Scree

theorem upd_same {α : Type} (f : Nat → α) (l : Nat) : upd f l (f l) = f := by
  funext i
  by_cases h : i = l
  · subst h; exact upd_at _ _ _
  · exact upd_ne _ _ h
theorem cp_pick (S : Nat → SlA) (nw : Lvls) {l : Nat} (hl : l < 4) : ∃ C : List Chunk, ∀ (s : SlA) (xs : List MetaM), (cpC (upd S l s) (upd nw l xs) 4).Perm (sl 43 metaE s.v xs :: C) := by
  rcases (by omega : l = 0 ∨ l = 1 ∨ l = 2 ∨ l = 3) with rfl | rfl | rfl | rfl
  · refine ⟨[sl 43 metaE (S 3).v (nw 3), sl 43 metaE (S 2).v (nw 2), sl 43 metaE (S 1).v (nw 1)], fun s xs => ?_⟩
    exact pick_perm [sl 43 metaE (S 3).v (nw 3), sl 43 metaE (S 2).v (nw 2), sl 43 metaE (S 1).v (nw 1), sl 43 metaE s.v xs] 3 _ rfl
  · refine ⟨[sl 43 metaE (S 3).v (nw 3), sl 43 metaE (S 2).v (nw 2), sl 43 metaE (S 0).v (nw 0)], fun s xs => ?_⟩
    exact pick_perm [sl 43 metaE (S 3).v (nw 3), sl 43 metaE (S 2).v (nw 2), sl 43 metaE s.v xs, sl 43 metaE (S 0).v (nw 0)] 2 _ rfl
  · refine ⟨[sl 43 metaE (S 3).v (nw 3), sl 43 metaE (S 1).v (nw 1), sl 43 metaE (S 0).v (nw 0)], fun s xs => ?_⟩
    exact pick_perm [sl 43 metaE (S 3).v (nw 3), sl 43 metaE s.v xs, sl 43 metaE (S 1).v (nw 1), sl 43 metaE (S 0).v (nw 0)] 1 _ rfl
  · exact ⟨[sl 43 metaE (S 2).v (nw 2), sl 43 metaE (S 1).v (nw 1), sl 43 metaE (S 0).v (nw 0)], fun s xs => List.Perm.refl _⟩
/-- An edit of its own lists, beside others. -/
def EdX (w : World) (eb : Nat) (g : SlA) (S : Nat → SlA) (E : EditM) (nw : Lvls) (R : List Chunk) : Prop := Own w (pts eb (.cells (editCells g S E) 34 (0, 0)) :: (cpC S nw 4 ++ R))
theorem EdX.pick {w : World} {eb : Nat} {g : SlA} {S : Nat → SlA} {E : EditM} {nw : Lvls} {R : List Chunk} (h : EdX w eb g S E nw R) {l : Nat} (hl : l < 4) :
    ∃ C : List Chunk, Own w (sl 43 metaE (S l).v (nw l) :: (pts eb (.cells (editCells g S E) 34 (0, 0)) :: (C ++ R))) ∧
      ∀ (w' : World) (xs : List MetaM), Own w' (sl 43 metaE (S l).v xs :: (pts eb (.cells (editCells g S E) 34 (0, 0)) :: (C ++ R))) → EdX w' eb g S E (upd nw l xs) R := by
  obtain ⟨C, hC⟩ := cp_pick S nw hl
  have h1 := hC (S l)
  rw [upd_same] at h1
  refine ⟨C, ?_, fun w' xs o => ?_⟩
  · have h2 := h1 (nw l)
    rw [upd_same] at h2
    exact (h.perm ((h2.append_right R).cons _)).swap
  · exact o.swap.perm (((h1 xs).symm.append_right R).cons _)
theorem EdX.rest {w : World} {eb : Nat} {g : SlA} {S : Nat → SlA} {E : EditM} {nw : Lvls} {R : List Chunk} (h : EdX w eb g S E nw R) : Own w R := Own.drops (cpC S nw 4) (Own.drop h)
/-- What two Applies left, each beside the other. -/
theorem two_own {w5 w6 w7 wa wb W0 : World} {Z : SlA → List MetaM → Prop} {p2 rp2 : Nat} {S2 T2 : Nat → SlA} {W : VerM} {D2 D3 : List Chunk} {eb : Nat} {g : SlA} {S : Nat → SlA} {E : EditM} {c : Chunk}
    (o5 : Own w5 (pts eb (.cells (editCells g S E) 34 (0, 0)) :: (cpC S E.nw 4 ++ [c, base W0 W0.heap.size]))) (ka : Kp w5 wa) (h6 : VerO w6 wa p2 S2 W D2) (kb : Kp w6 wb) (h7 : RvO Z w7 wb rp2 T2 W D3) :
    EdX w7 eb g S E E.nw (c :: base W0 W0.heap.size :: ((rverC rp2 T2 W :: D3) ++ (verC p2 S2 W :: D2))) := by
  have o6 := rebase (cs := verC p2 S2 W :: D2) h6.own (ka.own o5)
  have o7 := rebase (cs := rverC rp2 T2 W :: D3) h7.own (kb.own o6)
  rw [← List.append_assoc] at o7
  have o8 := o7.perm List.perm_append_comm
  unfold EdX
  simpa using o8
theorem Kp.of_own {W0 w : World} {c : Chunk} {L : List Chunk} (o : Own w (c :: base W0 W0.heap.size :: L)) (e : Ext W0 w) : Kp W0 w := ⟨e, fun k hk => o.drop.below (Nat.le_refl _) hk⟩
/-- The new versions are read behind the writes. -/
theorem new_vers {W0 w wr : World} {c : Chunk} {p2 rp2 : Nat} {S2 T2 : Nat → SlA} {W : VerM} {D2 D3 : List Chunk} (o : Own w (c :: base W0 W0.heap.size :: ((rverC rp2 T2 W :: D3) ++ (verC p2 S2 W :: D2)))) (e : Ext W0 w) (k : Kp wr W0)
    (hf : ∀ l, l < 4 → (W.lv l).length ≤ 20000) (h2 : AllG D2 S2 W.lv) (h3 : ∀ l, l < 4 → Gives D3 (fun w => Rd w metaE (T2 l).v (W.lv l)) ∨ Rd wr metaE (T2 l).v (W.lv l)) : VerR w p2 S2 W ∧ VerR w rp2 T2 W := by
  have kp := Kp.of_own o e
  have o2 : Own w ((verC p2 S2 W :: D2) ++ (rverC rp2 T2 W :: D3)) := (o.drop.drop).perm List.perm_append_comm
  have o3 : Own w ((rverC rp2 T2 W :: D3) ++ (verC p2 S2 W :: D2)) := o.drop.drop
  refine ⟨⟨fun l hl => Own.cell o2 (ver_at S2 W hl), Own.cell (i := 4) o2 rfl, Own.cell (i := 5) o2 rfl, Own.cell (i := 6) o2 rfl, fun l hl => h2 l hl w _ (Own.drop o2), hf⟩,
    ⟨fun l hl => Own.cell o3 (ver_at T2 W hl), Own.cell (i := 4) o3 rfl, Own.cell (i := 5) o3 rfl, Own.cell (i := 6) o3 rfl, fun l hl => ?_, hf⟩⟩
  rcases h3 l hl with h | h
  · exact h w _ (Own.drop o3)
  · exact (k.trans kp).rd h
set_option maxRecDepth 20000 in
set_option maxHeartbeats 12800000 in
theorem appliesLaw_c (v : Value) (xs : List EdV) (w : World) (h : EdsR w v xs) : Calls Tryz.prog 3 #[v] w fun e w' => e = .returned (.bool true) ∧ Kp w w' := by
  obtain ⟨A, c, rfl, hm, hc⟩ := h.rd.form
  have hl : xs.length ≤ 9223372036854775807 := by simpa [maxLen] using hm
  have hH := hid h
  have haw := hid (awake_c w)
  clear h hm hc
  go_enter Tryz.func3, Tryz.ntmps3
  go_wp2_with fail
  refine haw.out.mono ?_
  rintro e w1 ⟨rfl, k1⟩
  have k1H := hid k1
  clear haw k1
  go_wp2_with fail
  refine (lnew_c w1).mono ?_
  rintro e w2 ⟨p0, S0, rfl, v0, k2⟩
  have v0H := hid v0
  have k2H := hid (k1H.out.trans k2)
  clear v0 k2 k1H
  go_wp2_with fail
  refine (rnew_c w2).mono ?_
  rintro e w2b ⟨r0, T0, rfl, u0, k2b⟩
  have v0bH := hid (v0H.out.kp k2b)
  have u0H := hid u0
  have k2bH := hid (k2H.out.trans k2b)
  clear u0 k2b k2H v0H
  go_wp2_with fail
  go_loopw [3, 4, 5] (fun q q2 i wr => ∃ (k p rp : Nat) (S T : Nat → SlA) (V : VerM), i = .int .i64 k ∧ (k ≤ xs.length ∧ k ≤ 40) ∧ q = .pointer (some ⟨p, 0, none⟩) ∧ q2 = .pointer (some ⟨rp, 0, none⟩) ∧ VerR wr p S V ∧ VerR wr rp T V ∧ VOk V ∧ Kp w wr) (fun _ _ i _ => xs.length - (intOf i).toNat)
  case atStart => exact ⟨0, p0, r0, S0, T0, newV, rfl, ⟨Nat.zero_le _, Nat.zero_le _⟩, rfl, rfl, v0bH.out, u0H.out, newV_ok, k2bH.out⟩
  case round =>
    clear v0bH u0H k2bH
    obtain ⟨k, p, rp, S, T, V, rfl, ⟨hk, hk40⟩, rfl, rfl, hv, hu, hok, kr⟩ := hrel
    have hvH := hid hv
    have huH := hid hu
    have hokH := hid hok
    have krH := hid kr
    clear hv hu hok kr
    obtain ⟨wo, hwo⟩ : ∃ x : World, x = wr := ⟨_, rfl⟩
    subst hwo
    by_cases hlt : k < xs.length ∧ k < 40
    · obtain ⟨hlt, h40⟩ := hlt
      have hlt' : (k : Int) < xs.length := by omega
      have h40' : (k : Int) < 40 := by omega
      obtain ⟨x, hx⟩ : ∃ x, xs[k]? = some x := ⟨_, List.getElem?_eq_getElem hlt⟩
      obtain ⟨g, off, rfl, _, hce⟩ := rd_ed (hH.out.kp krH.out).rd rfl hx
      have hin := hid ((hH.out.kp krH.out).inn x (List.mem_of_getElem? hx))
      have hxH := hid hx
      have hceH := hid hce
      clear hx hce
      obtain ⟨xg, xS, xE⟩ := x
      have a0 : wo.cell? ⟨g, off + k * 8, none⟩ = some (.slice xg.A xg.n xg.c) := hceH.out 0 (.slice xg.A xg.n xg.c) rfl
      have a1 := hceH.out 1 (.slice (xS 0).A (xS 0).n (xS 0).c) rfl
      have a2 := hceH.out 2 (.slice (xS 1).A (xS 1).n (xS 1).c) rfl
      have a3 := hceH.out 3 (.slice (xS 2).A (xS 2).n (xS 2).c) rfl
      have a4 := hceH.out 4 (.slice (xS 3).A (xS 3).n (xS 3).c) rfl
      have a5 := hceH.out 5 (.int .u64 xE.next) rfl
      have a6 := hceH.out 6 (.int .u64 xE.log) rfl
      have a7 := hceH.out 7 (.int .u64 xE.seq) rfl
      have hlg := hid (large_c xg xS xE wo hin.out)
      unfold editV at hlg
      go_wp2_with fail
      refine hlg.out.mono ?_
      rintro e w3 ⟨k3, b, rfl, hb⟩
      cases b with
      | true =>
        go_wp2_with fail
        go_ret
        exact ⟨rfl, krH.out.trans k3⟩
      | false =>
        have hsm := hid (hb rfl)
        have k3H := hid k3
        have b0 := k3.cell a0
        have b1 := k3.cell a1
        have b2 := k3.cell a2
        have b3 := k3.cell a3
        have b4 := k3.cell a4
        have b5 := k3.cell a5
        have b6 := k3.cell a6
        have b7 := k3.cell a7
        have hcp := hid (copied_c xg xS xE w3 ((hin.out.kp k3).r hsm.out) (Nat.le_trans hsm.out.gone (by omega)))
        unfold editV at hcp
        clear hb k3 a0 a1 a2 a3 a4 a5 a6 a7 hlg
        go_wp2_with fail
        refine hcp.out.mono ?_
        rintro e w4 ⟨eg, eS, rfl, o4, e4⟩
        have k4 : Kp w3 w4 := kp_of (cs := cpC eS xE.nw 4 ++ [sl 32 u64E eg.v xE.gone]) (by simpa using o4) e4
        have o4H := hid o4
        have k4H := hid k4
        clear o4 e4 hcp
        have hs40 : Hid (∀ a, a < 4 → (xE.nw a).length ≤ 40) := hid (fun a ha => (hsm.out.nw a ha).1)
        have hgl : Hid (xE.gone.length ≤ 100000) := hid (Nat.le_trans hsm.out.gone (by omega))
        have hr2 := hid ((hin.out.kp k3H.out).r hsm.out)
        obtain ⟨w5, hw5⟩ : ∃ x, x = w4.alloc (.cells (editCells eg eS xE) 34 (0, 0)) := ⟨_, rfl⟩
        obtain ⟨eb, heb⟩ : ∃ b, w4.heap.size = b := ⟨_, rfl⟩
        have k45 : Kp w4 w5 := by rw [hw5]; exact (Kp.refl w4).alloc _
        have o5 : Own w5 (pts eb (.cells (editCells eg eS xE) 34 (0, 0)) :: (cpC eS xE.nw 4 ++ [sl 32 u64E eg.v xE.gone, base w3 w3.heap.size])) := by rw [hw5, ← heb]; exact o4H.out.alloc _
        have er5 : EditR w5 eg eS xE := by
          have h4 := o5.drop
          refine ⟨sl_rd (Own.drops (cpC eS xE.nw 4) h4), fun l hl => ?_, fun l hl => Nat.le_trans (hs40.out l hl) (by omega)⟩
          obtain ⟨C, hC, _⟩ := EdX.pick (R := [sl 32 u64E eg.v xE.gone, base w3 w3.heap.size]) o5 hl
          exact sl_rd hC
        have k35 := hid ((krH.out.trans k3H.out).trans (k4H.out.trans k45))
        have ko5 := hid (k3H.out.trans (k4H.out.trans k45))
        have k35' := hid (k4H.out.trans k45)
        have o5H := hid o5
        have b0 := (k4H.out.trans k45).cell b0
        have b1 := (k4H.out.trans k45).cell b1
        have b2 := (k4H.out.trans k45).cell b2
        have b3 := (k4H.out.trans k45).cell b3
        have b4 := (k4H.out.trans k45).cell b4
        have b5 := (k4H.out.trans k45).cell b5
        have b6 := (k4H.out.trans k45).cell b6
        have b7 := (k4H.out.trans k45).cell b7
        have e0 := o5.cell (i := 0) (v := .slice eg.A eg.n eg.c) rfl
        have e1 := o5.cell (i := 1) (v := .slice (eS 0).A (eS 0).n (eS 0).c) rfl
        have e2 := o5.cell (i := 2) (v := .slice (eS 1).A (eS 1).n (eS 1).c) rfl
        have e3 := o5.cell (i := 3) (v := .slice (eS 2).A (eS 2).n (eS 2).c) rfl
        have e4 := o5.cell (i := 4) (v := .slice (eS 3).A (eS 3).n (eS 3).c) rfl
        have e5 := o5.cell (i := 5) (v := .int .u64 xE.next) rfl
        have e6 := o5.cell (i := 6) (v := .int .u64 xE.log) rfl
        have e7 := o5.cell (i := 7) (v := .int .u64 xE.seq) rfl
        have hap := hid (applyO_c p S V eg eS xE w5 (hvH.out.kp ko5.out) hokH.out er5)
        have hrp := hid (fun w6 (k : Kp w5 w6) => rapplyZ_c (fun s l => Rd wo metaE s.v l) rp T V xg xS xE w6 (huH.out.kp (ko5.out.trans k)) (fun l hl => huH.out.rd l hl) hokH.out (hr2.out.kp (k35'.out.trans k)) hgl.out)
        unfold editV at hap hrp
        unfold editCells at hw5
        clear o5 er5 k45 o4H k4H hr2
        have hebH := hid heb
        have hw5H := hid hw5
        clear heb hw5
        go_upto_region 11 with fail
        rw [hebH.out]
        rw [← hw5H.out]
        clear hw5H hebH
        cases hr : applyP V xE with
        | inr cd =>
          rw [hr] at hap hrp
          clear hr
          go_wp2_with fail
          refine hap.out.mono ?_
          rintro e w6 ⟨k6, rfl⟩
          have k6H := hid k6
          have b0 := k6.cell b0
          have b1 := k6.cell b1
          have b2 := k6.cell b2
          have b3 := k6.cell b3
          have b4 := k6.cell b4
          have b5 := k6.cell b5
          have b6 := k6.cell b6
          have b7 := k6.cell b7
          clear k6 hap e0 e1 e2 e3 e4 e5 e6 e7
          go_wp2_with fail
          refine (hrp.out _ k6H.out).mono ?_
          rintro e w7 ⟨k7, rfl⟩
          have k57 := hid (k6H.out.trans k7)
          clear k7 hrp b0 b1 b2 b3 b4 b5 b6 b7 k6H
          go_wp2_with fail
          refine (lsame_c p rp S T V w7 (hvH.out.kp (ko5.out.trans k57.out)) (huH.out.kp (ko5.out.trans k57.out)) hokH.out).mono ?_
          rintro e w8' ⟨rfl, k8⟩
          have x8 : Hid (EdX w8' eb eg eS xE xE.nw [sl 32 u64E eg.v xE.gone, base w3 w3.heap.size]) := hid ((k57.out.trans k8).own o5H.out)
          have e38 := hid ((k35'.out.trans (k57.out.trans k8)).ext)
          clear k8 k57 o5H k35 k35'
          go_wp2_with fail
          obtain ⟨w8, hw8⟩ : ∃ x : World, x = w8' := ⟨_, rfl⟩
          rw [← hw8] at x8 e38 ⊢
          clear hw8
          go_loopw [68, 11] (fun i _ wz => ∃ (l : Nat) (nw : Lvls), i = .int .i64 l ∧ l ≤ 4 ∧ EdX wz eb eg eS xE nw [sl 32 u64E eg.v xE.gone, base w3 w3.heap.size] ∧ Ext w8 wz ∧ ∀ a, a < 4 → (nw a).length ≤ 40) (fun i _ _ => 4 - (intOf i).toNat)
          case atStart => exact ⟨0, xE.nw, rfl, by omega, x8.out, Ext.refl _, hs40.out⟩
          case round =>
            clear x8
            obtain ⟨l, nw, rfl, hl, oz, ez, hz⟩ := hrel
            have ozH := hid oz
            have ezH := hid ez
            have hzH := hid hz
            clear oz ez hz
            by_cases hlt : l < 4
            · have hlt' : (l : Int) < 4 := by omega
              have cl : wr.cell? ⟨eb, 1 + l, none⟩ = some (.slice (eS l).A (eS l).n (eS l).c) := Own.cell ozH.out (edit_at _ _ _ hlt)
              obtain ⟨C, o1, hback⟩ := ozH.out.pick hlt
              have hn40 := hzH.out l hlt
              have hsl : (eS l).n = (nw l).length := rd_n (sl_rd o1)
              have o1H := hid o1
              have hbH := hid hback
              clear o1 hback
              generalize hxs : nw l = xs at *
              have hxsH := hid hxs
              clear hxs
              go_wp2_with fail
              go_loopw [76, 12] (fun i _ wy => ∃ (j : Nat) (ys : List MetaM), i = .int .i64 j ∧ j ≤ xs.length ∧ ys.length = xs.length ∧ Own wy (sl 43 metaE (eS l).v ys :: (pts eb (.cells (editCells eg eS xE) 34 (0, 0)) :: (C ++ [sl 32 u64E eg.v xE.gone, base w3 w3.heap.size]))) ∧ Ext w8 wy) (fun i _ _ => xs.length - (intOf i).toNat)
              case atStart => exact ⟨0, xs, rfl, Nat.zero_le _, rfl, o1H.out, ezH.out⟩
              case round =>
                clear cl o1H
                obtain ⟨j, ys, rfl, hj, hys, oy, ey⟩ := hrel
                have oyH := hid oy
                have eyH := hid ey
                have cl : wr.cell? ⟨eb, 1 + l, none⟩ = some (.slice (eS l).A (eS l).n (eS l).c) := Own.cell oy.swap (edit_at _ _ _ hlt)
                by_cases hjl : j < xs.length
                · have hjl' : (j : Int) < xs.length := by omega
                  obtain ⟨y, hy⟩ : ∃ y, ys[j]? = some y := ⟨_, List.getElem?_eq_getElem (by omega)⟩
                  rcases sl_form oy with ⟨_, h0⟩ | ⟨gb, cp, hv, _, _⟩
                  · rw [h0] at hy; cases hy
                  · unfold SlA.v at hv
                    simp only [Value.slice.injEq] at hv
                    obtain ⟨v1, v2, v3⟩ := hv
                    rw [v1, v2] at cl
                    have oy2 := oyH.out
                    unfold SlA.v at oy2
                    rw [v1, v2] at oy2
                    have hat := sl_at oy2 hy 0 _ rfl
                    have fld := hid (sl_field oy2 (j := 0) hy (by decide) { y with file := 99 } (.int .u64 99) rfl)
                    have hat0 := hat.1
                    have fr0 := hat.2
                    simp only [show metaE.size = 5 from rfl, Nat.add_zero] at hat0 fr0
                    have hyl : ys.length = xs.length := hys
                    rw [hys] at cl
                    clear oy ey hat oy2 hy
                    go_wp2_with fail
                    go_roundw
                    case rel => exact ⟨j + 1, ys.set j { y with file := 99 }, by go_num, by omega, by rw [List.length_set]; exact hyl, by unfold SlA.v; rw [v1, v2]; exact fld.out, eyH.out.set _ _⟩
                    case measure => simp [intOf]; omega
                · obtain rfl : j = xs.length := by omega
                  clear oy ey
                  go_wp2_with fail
                  go_roundw
                  case rel => exact ⟨l + 1, upd nw l ys, by go_num, by omega, hbH.out _ _ oyH.out, eyH.out, fun a ha => by
                    by_cases hal : a = l
                    · subst hal; rw [upd_at, hys]; exact hn40
                    · rw [upd_ne _ _ hal]; exact hzH.out a ha⟩
                  case measure => simp [intOf]; omega
            · obtain rfl : l = 4 := by omega
              have oR := ozH.out.rest
              have kw := hid (Kp.of_own oR (e38.out.trans ezH.out))
              have kz := hid (k3H.out.trans kw.out)
              go_wp2_with fail
              refine (lsame_c p rp S T V wr (hvH.out.kp kz.out) (huH.out.kp kz.out) hokH.out).mono ?_
              rintro e w9 ⟨rfl, k9⟩
              have k9H := hid (kz.out.trans k9)
              clear k9
              go_wp2_with fail
              go_roundw
              case rel => exact ⟨k + 1, p, rp, S, T, V, by go_num, ⟨by omega, by omega⟩, rfl, rfl, hvH.out.kp k9H.out, huH.out.kp k9H.out, hokH.out, krH.out.trans k9H.out⟩
              case measure => simp [intOf]; omega
        | inl W =>
          rw [hr] at hap hrp
          have hWok := hid (apply_ok hokH.out hr)
          clear hr
          go_wp2_with fail
          refine hap.out.mono ?_
          rintro e w6 ⟨k6, p2, S2, D2, wa, rfl, ka, h6, g2⟩
          have k6H := hid k6
          have kaH := hid ka
          have h6H := hid h6
          have g2H := hid g2
          have b0 := k6.cell b0
          have b1 := k6.cell b1
          have b2 := k6.cell b2
          have b3 := k6.cell b3
          have b4 := k6.cell b4
          have b5 := k6.cell b5
          have b6 := k6.cell b6
          have b7 := k6.cell b7
          clear k6 ka h6 g2 hap e0 e1 e2 e3 e4 e5 e6 e7
          go_wp2_with fail
          refine (hrp.out _ k6H.out).mono ?_
          rintro e w7 ⟨k7, rp2, T2, D3, wb, rfl, kb, h7⟩
          have k57 := hid (k6H.out.trans k7)
          have hold := hid h7.old
          have x7 := hid (two_own o5H.out kaH.out h6H.out kb h7)
          have hfw := hid h7.few
          clear k7 kb h7 hrp b0 b1 b2 b3 b4 b5 b6 b7 k6H kaH h6H o5H
          go_wp2_with fail
          refine (lsame_c p rp S T V w7 (hvH.out.kp (ko5.out.trans k57.out)) (huH.out.kp (ko5.out.trans k57.out)) hokH.out).mono ?_
          rintro e w8' ⟨rfl, k8⟩
          have x8 : Hid (EdX w8' eb eg eS xE xE.nw (sl 32 u64E eg.v xE.gone :: base w3 w3.heap.size :: ((rverC rp2 T2 W :: D3) ++ (verC p2 S2 W :: D2)))) := hid (k8.own x7.out)
          have e38 := hid ((k35'.out.trans (k57.out.trans k8)).ext)
          clear k8 k57 k35 k35' x7
          go_wp2_with fail
          obtain ⟨w8, hw8⟩ : ∃ x : World, x = w8' := ⟨_, rfl⟩
          rw [← hw8] at x8 e38 ⊢
          clear hw8
          go_loopw [68, 11] (fun i _ wz => ∃ (l : Nat) (nw : Lvls), i = .int .i64 l ∧ l ≤ 4 ∧ EdX wz eb eg eS xE nw (sl 32 u64E eg.v xE.gone :: base w3 w3.heap.size :: ((rverC rp2 T2 W :: D3) ++ (verC p2 S2 W :: D2))) ∧ Ext w8 wz ∧ ∀ a, a < 4 → (nw a).length ≤ 40) (fun i _ _ => 4 - (intOf i).toNat)
          case atStart => exact ⟨0, xE.nw, rfl, by omega, x8.out, Ext.refl _, hs40.out⟩
          case round =>
            clear x8
            obtain ⟨l, nw, rfl, hl, oz, ez, hz⟩ := hrel
            have ozH := hid oz
            have ezH := hid ez
            have hzH := hid hz
            clear oz ez hz
            by_cases hlt : l < 4
            · have hlt' : (l : Int) < 4 := by omega
              have cl : wr.cell? ⟨eb, 1 + l, none⟩ = some (.slice (eS l).A (eS l).n (eS l).c) := Own.cell ozH.out (edit_at _ _ _ hlt)
              obtain ⟨C, o1, hback⟩ := ozH.out.pick hlt
              have hn40 := hzH.out l hlt
              have hsl : (eS l).n = (nw l).length := rd_n (sl_rd o1)
              have o1H := hid o1
              have hbH := hid hback
              clear o1 hback
              generalize hxs : nw l = xs at *
              have hxsH := hid hxs
              clear hxs
              go_wp2_with fail
              go_loopw [76, 12] (fun i _ wy => ∃ (j : Nat) (ys : List MetaM), i = .int .i64 j ∧ j ≤ xs.length ∧ ys.length = xs.length ∧ Own wy (sl 43 metaE (eS l).v ys :: (pts eb (.cells (editCells eg eS xE) 34 (0, 0)) :: (C ++ (sl 32 u64E eg.v xE.gone :: base w3 w3.heap.size :: ((rverC rp2 T2 W :: D3) ++ (verC p2 S2 W :: D2)))))) ∧ Ext w8 wy) (fun i _ _ => xs.length - (intOf i).toNat)
              case atStart => exact ⟨0, xs, rfl, Nat.zero_le _, rfl, o1H.out, ezH.out⟩
              case round =>
                clear cl o1H
                obtain ⟨j, ys, rfl, hj, hys, oy, ey⟩ := hrel
                have oyH := hid oy
                have eyH := hid ey
                have cl : wr.cell? ⟨eb, 1 + l, none⟩ = some (.slice (eS l).A (eS l).n (eS l).c) := Own.cell oy.swap (edit_at _ _ _ hlt)
                by_cases hjl : j < xs.length
                · have hjl' : (j : Int) < xs.length := by omega
                  obtain ⟨y, hy⟩ : ∃ y, ys[j]? = some y := ⟨_, List.getElem?_eq_getElem (by omega)⟩
                  rcases sl_form oy with ⟨_, h0⟩ | ⟨gb, cp, hv, _, _⟩
                  · rw [h0] at hy; cases hy
                  · unfold SlA.v at hv
                    simp only [Value.slice.injEq] at hv
                    obtain ⟨v1, v2, v3⟩ := hv
                    rw [v1, v2] at cl
                    have oy2 := oyH.out
                    unfold SlA.v at oy2
                    rw [v1, v2] at oy2
                    have hat := sl_at oy2 hy 0 _ rfl
                    have fld := hid (sl_field oy2 (j := 0) hy (by decide) { y with file := 99 } (.int .u64 99) rfl)
                    have hat0 := hat.1
                    have fr0 := hat.2
                    simp only [show metaE.size = 5 from rfl, Nat.add_zero] at hat0 fr0
                    have hyl : ys.length = xs.length := hys
                    rw [hys] at cl
                    clear oy ey hat oy2 hy
                    go_wp2_with fail
                    go_roundw
                    case rel => exact ⟨j + 1, ys.set j { y with file := 99 }, by go_num, by omega, by rw [List.length_set]; exact hyl, by unfold SlA.v; rw [v1, v2]; exact fld.out, eyH.out.set _ _⟩
                    case measure => simp [intOf]; omega
                · obtain rfl : j = xs.length := by omega
                  clear oy ey
                  go_wp2_with fail
                  go_roundw
                  case rel => exact ⟨l + 1, upd nw l ys, by go_num, by omega, hbH.out _ _ oyH.out, eyH.out, fun a ha => by
                    by_cases hal : a = l
                    · subst hal; rw [upd_at, hys]; exact hn40
                    · rw [upd_ne _ _ hal]; exact hzH.out a ha⟩
                  case measure => simp [intOf]; omega
            · obtain rfl : l = 4 := by omega
              have oR := ozH.out.rest
              have kw := hid (Kp.of_own oR (e38.out.trans ezH.out))
              have kz := hid (k3H.out.trans kw.out)
              have hnv := hid (new_vers oR (e38.out.trans ezH.out) k3H.out hfw.out g2H.out hold.out)
              clear oR
              go_wp2_with fail
              refine (lsame_c p2 rp2 S2 T2 W wr hnv.out.1 hnv.out.2 hWok.out).mono ?_
              rintro e w9 ⟨rfl, k9⟩
              have k9H := hid k9
              clear k9
              go_wp2_with fail
              go_roundw
              case rel => exact ⟨k + 1, p2, rp2, S2, T2, W, by go_num, ⟨by omega, by omega⟩, rfl, rfl, hnv.out.1.kp k9H.out, hnv.out.2.kp k9H.out, hWok.out, krH.out.trans (kz.out.trans k9H.out)⟩
              case measure => simp [intOf]; omega
    · by_cases h1 : k < xs.length
      · have h1' : (k : Int) < xs.length := by omega
        have h2' : ¬ (k : Int) < 40 := by omega
        go_wp2_with fail
        go_ret
        exact ⟨rfl, krH.out⟩
      · have h1' : ¬ (k : Int) < xs.length := by omega
        go_wp2_with fail
        go_ret
        exact ⟨rfl, krH.out⟩
end Go.Proofs.YtdmdnhceiddcfaaGreat
namespace Go.Proofs.YtdmdnhceiddcfaaGreat
open Go.RowKit Go.Sl Go.Scree
theorem levelApplies_row (v : Value) (xs : List EdV) (W : World) (hr : Rd W edE v xs) (hp : ∀ x ∈ xs, EditW W x.g x.S x.E) : Calls Tryz.prog 3 #[v] W fun e W' => e = .returned (.bool true) ∧ Below W.heap.size W W' := by
  refine (appliesLaw_c v xs W ⟨hr, hp⟩).mono ?_
  rintro e w' ⟨h1, h2⟩
  exact ⟨h1, ⟨h2.ext.os, h2.ext.tape, h2.ext.output, h2.ext.size, h2.same⟩⟩
end Go.Proofs.YtdmdnhceiddcfaaGreat
namespace Go.Proofs.YtdmdnhceiddcfaaGreat
open Go.ChangeShapes Go.WideShapes Go.ChangeAt Go.RowKit Go.Sl Go.Scree Go.Deep
open Go.ChangeMaps (open_string shut_string)
set_option linter.unusedVariables false
theorem levelApplies_own : ownKnob Tryz.prog.godebug = none := by kernel_rfl
theorem levelApplies_laid : laidOutB Tryz.prog = true := by kernel_rfl
set_option maxRecDepth 100000 in
theorem levelApplies_lifted (os : Os) (started : os.Started) (H : Type) (enc : TypeId × Value → H) :
    ReturnsInHanded {} Tryz.checked os 3 .any (Rows.levelAppliesSpec.pre6 enc Tryz.prog Tryz.f3 Rows.levelAppliesRow.domain false) (Rows.levelAppliesSpec.post enc Tryz.prog Tryz.f3 false true false false) := by
  refine returnsInHanded_of_change_sized (C := Tryz.checked) levelApplies_own started (by kernel_rfl) Tryz.func3
    (ChangeSpec.witness6 (enc := enc) (C := Tryz.checked) false ⟨#[], #[.slice none 0 0], []⟩ 8 (by kernel_rfl) (by kernel_rfl) (by kernel_rfl) (by kernel_rfl)) ?_
  intro W base args ds gs before hval0 hW hcnd hsz0 _
  have hsz : (DataW.weightsEach Tryz.prog (Tryz.f3.params.toList ++ Rows.levelAppliesSpec.plain.varTypes Tryz.prog) (ds ++ gs)).all (· ≤ reachBytes) = true := hsz0
  have hval : ∀ (j : Nat) t v, Tryz.f3.params[j]? = some t → args[j]? = some v → Value.okWide Tryz.prog W .any base t v := hval0
  have hW' := hW
  obtain ⟨p, q, hA0, hV, rfl, hfz, hnd⟩ := hW
  have hA : DataW.TrodAll enc Tryz.prog W 0 (fun _ => true) true Tryz.f3.params.toList args.toList ds p := hA0
  rw [Tryz.params3] at hA hval hsz
  obtain ⟨v0, vs0, d0, ds0, p0, q0, hargs, rfl, rfl, h0, r0⟩ := trodAll_cons hA
  obtain ⟨rfl, rfl, rfl⟩ := trodAll_nil r0
  obtain rfl : args = #[v0] := by cases args; simp_all
  obtain ⟨rfl, rfl⟩ := trodVars_none hV
  obtain ⟨a0, len0, cap0, rfl⟩ := okWide_slice Tryz.underlying22 (hval 0 22 v0 rfl rfl)
  have lt0 : ∀ x ∈ p0, x.block < W.heap.size := by obtain ⟨m, hm⟩ := h0; exact DataW.trod_lt m _ _ _ hm
  obtain ⟨l0, hr0, hp0⟩ := open_edits h0
  clear hA0 hval0 hsz0 hsz
  refine (levelApplies_row _ l0 W hr0 hp0).mono fun e W' ⟨he, bel⟩ => ?_
  subst he
  exact ⟨_, rfl, _, _, _, [], _, [], hW', trodAll_mk1 (shut_bool Tryz.underlying4 _), (trodAll_cons_mk (Below.trod levelApplies_laid (by kernel_rfl) (of_decide_eq_true (by kernel_rfl)) h0 bel lt0) trodAll_mk0), rfl, bel.frame _, fun h => by cases h⟩
theorem levelApplies_over : Rows.levelAppliesRow.holds Tryz.pinned (OpenSpec.ofChange Rows.levelAppliesSpec) :=
  OpenClaim.holds_of_wide 3 Tryz.f3 rfl rfl rfl rfl rfl rfl rfl ⟨rfl, rfl, rfl, rfl, rfl⟩ rfl rfl rfl rfl rfl (by kernel_rfl) Tryz.func3 (by kernel_rfl)
    (of_decide_eq_true (by kernel_rfl)) (by unfold Func.isWrapper; first | (rw [if_pos (by decide +kernel)]; kernel_rfl) | (rw [if_neg (by decide +kernel)]; exact ⟨rfl, rfl⟩))
    (fun os started H enc _ => levelApplies_lifted os started H enc)
theorem levelApplies_holds : Rows.LevelAppliesSaid := levelApplies_over
#print axioms levelApplies_holds
end Go.Proofs.YtdmdnhceiddcfaaGreat
