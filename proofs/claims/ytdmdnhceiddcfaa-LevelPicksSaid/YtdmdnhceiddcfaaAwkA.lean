/- What awake's calls come to: in plain Lean. · The walk of awake. -/
import Derived.Test.YtdmdnhceiddcfaaEncR
import Derived.Test.YtdmdnhceiddcfaaSamE
set_option linter.all false
namespace Go.Proofs.Ytdmdnhceiddcfaa
open Go.RowKit Go.Sl Go.Scree

def mkM (f : Nat) (a b : ByteArray) : MetaM := ⟨f, 5, a, b, 1⟩
def ch (c : UInt8) : ByteArray := ⟨#[c]⟩
def nw0 : Lvls := fun l => if l = 0 then [mkM 7 (ch 99) (ch 102), mkM 9 (ch 97) (ch 99), mkM 8 (ch 102) (ch 103)] else if l = 1 then [mkM 1 (ch 98) (ch 98), mkM 2 (ch 122) (ch 122)] else []
def E0 : EditM := ⟨[], nw0, 10, 0, 4⟩
def V1 : VerM := match applyP newV E0 with
  | .inl V => V
  | .inr _ => newV
theorem left0 : (match applyP newV E0 with | .inl _ => true | .inr _ => false) = true := by decide +kernel
theorem apply0 : applyP newV E0 = .inl V1 := by
  have h := left0
  unfold V1
  revert h
  cases applyP newV E0 with
  | inl V => exact fun _ => rfl
  | inr c => exact fun h => nomatch h
def codeOf : VerM ⊕ Int → Int
  | .inl _ => 0
  | .inr c => c
theorem inr_of {r : VerM ⊕ Int} {c : Int} (h : codeOf r = c) (h0 : c ≠ 0) : r = .inr c := by
  cases r with
  | inl V => exact absurd h.symm h0
  | inr d => exact congrArg _ h
theorem apply1 : applyP V1 ⟨[77], fun _ => [], 0, 0, 0⟩ = .inr 10 := inr_of (by decide +kernel) (by decide)
theorem apply2 : applyP V1 ⟨[], fun _ => [], 9, 0, 0⟩ = .inr 3 := inr_of (by decide +kernel) (by decide)
theorem num0 : V1.next = 10 ∧ V1.log = 0 ∧ V1.seq = 4 := by decide +kernel
theorem pick0 : (pickP V1 0 0).2 = 0 ∧ (pickP V1 0 0).1.from.length = 3 ∧ (pickP V1 0 0).1.from.head?.map (·.file) = some 9 ∧ (pickP V1 0 0).1.into.length = 1 ∧ (pickP V1 0 0).1.into.head?.map (·.file) = some 1 ∧ (pickP V1 0 0).1.bottom = true := by decide +kernel
theorem enc0 : encOk E0 = true := by decide +kernel
theorem meet0 : (meetM V1.lv 0 (ch 100) (ch 100)).length = 1 := by decide +kernel
theorem may0 : mayB (mkM 1 (ch 97) (ch 98)) = true := by decide +kernel
theorem may1 : mayB ⟨0, 0, ⟨#[]⟩, ⟨#[]⟩, 0⟩ = false := by decide +kernel
theorem files0 : (filesM V1.lv).length = 5 := by decide +kernel
end Go.Proofs.Ytdmdnhceiddcfaa
namespace Go.Proofs.Ytdmdnhceiddcfaa
open Go.RowKit Go.Sl Go.Scree

set_option maxRecDepth 20000 in
set_option maxHeartbeats 1600000 in
theorem mk_c (f : Nat) (a b : ByteArray) (w : World) : Calls Try.prog 33 #[.int .u64 f, .string a, .string b] w fun e w' => e = .returned (.agg #[.int .u64 f, .int .i64 5, .string a, .string b, .int .u64 1]) ∧ Kp w w' := by
  have k0 := hid ((Kp.refl w).alloc (.cells #[.int .u64 f, .int .i64 5, .string a, .string b, .int .u64 1] 56 (0, 0)))
  go_enter Try.func33, Try.ntmps33
  go_wp2_with fail
  refine bodyPost_ret (by simp [results, Try.results33, go_sem]; rfl) rfl ?_
  exact ⟨rfl, k0.out⟩
theorem len0 : (encW E0).length ≤ 1000 := by decide +kernel
set_option maxRecDepth 200000 in
set_option maxHeartbeats 6400000 in
theorem awake_c (w : World) : Calls Try.prog 10 #[] w fun e w' => e = .returned (.bool true) ∧ Kp w w' := by
  have hnew := hid (lnew_c w)
  go_enter Try.func10, Try.ntmps10
  go_wp2_with fail
  refine hnew.out.mono ?_
  rintro e w1 ⟨p0, S0, rfl, v0, k1⟩
  have v0H := hid v0
  have k1H := hid k1
  have oA := hid ((Own.start w1).alloc (.cells (editCells nilA (fun _ => nilA) ⟨[], fun _ => [], 10, 0, 4⟩) 34 (0, 0)))
  have eA := hid ((Ext.refl w1).alloc (.cells (editCells nilA (fun _ => nilA) ⟨[], fun _ => [], 10, 0, 4⟩) 34 (0, 0)))
  clear v0 k1 hnew
  go_wp2_with fail
  obtain ⟨eb, heb⟩ : ∃ eb, w1.heap.size = eb := ⟨_, rfl⟩
  have oA2 : Hid (Own (w1.alloc (.cells (editCells nilA (fun _ => nilA) ⟨[], fun _ => [], 10, 0, 4⟩) 34 (0, 0))) [pts eb (.cells (editCells nilA (fun _ => nilA) ⟨[], fun _ => [], 10, 0, 4⟩) 34 (0, 0)), Sl.base w1 w1.heap.size]) := hid (by rw [← heb]; exact oA.out)
  rw [heb]
  clear oA heb
  refine (mk_c 7 _ _ _).mono ?_
  rintro e w2 ⟨rfl, k2⟩
  go_wp2_with fail
  refine (mk_c 9 _ _ _).mono ?_
  rintro e w3 ⟨rfl, k3⟩
  go_wp2_with fail
  refine (mk_c 8 _ _ _).mono ?_
  rintro e w4 ⟨rfl, k4⟩
  have o4 : Own w4 [pts eb (.cells (editCells nilA (fun _ => nilA) ⟨[], fun _ => [], 10, 0, 4⟩) 34 (0, 0)), Sl.base w1 w1.heap.size] := k4.own (k3.own (k2.own oA2.out))
  have e4 := hid (((eA.out.trans k2.ext).trans k3.ext).trans k4.ext)
  have oX := Own.alloc o4 (.cells #[.int .u64 7, .int .i64 5, .string ⟨#[99]⟩, .string ⟨#[102]⟩, .int .u64 1, .int .u64 9, .int .i64 5, .string ⟨#[97]⟩, .string ⟨#[99]⟩, .int .u64 1, .int .u64 8, .int .i64 5, .string ⟨#[102]⟩, .string ⟨#[103]⟩, .int .u64 1] 56 (0, 0))
  have cX : (w4.alloc (.cells #[.int .u64 7, .int .i64 5, .string ⟨#[99]⟩, .string ⟨#[102]⟩, .int .u64 1, .int .u64 9, .int .i64 5, .string ⟨#[97]⟩, .string ⟨#[99]⟩, .int .u64 1, .int .u64 8, .int .i64 5, .string ⟨#[102]⟩, .string ⟨#[103]⟩, .int .u64 1] 56 (0, 0))).cell? ⟨eb, 1, none⟩ = some (.slice none 0 0) := (oX.pick 1).cell (i := 1) rfl
  have fX : (w4.alloc (.cells #[.int .u64 7, .int .i64 5, .string ⟨#[99]⟩, .string ⟨#[102]⟩, .int .u64 1, .int .u64 9, .int .i64 5, .string ⟨#[97]⟩, .string ⟨#[99]⟩, .int .u64 1, .int .u64 8, .int .i64 5, .string ⟨#[102]⟩, .string ⟨#[103]⟩, .int .u64 1] 56 (0, 0))).frozen? ⟨eb, 1, none⟩ = false := (oX.pick 1).free 1
  have o5 : Hid (Own ((w4.alloc (.cells #[.int .u64 7, .int .i64 5, .string ⟨#[99]⟩, .string ⟨#[102]⟩, .int .u64 1, .int .u64 9, .int .i64 5, .string ⟨#[97]⟩, .string ⟨#[99]⟩, .int .u64 1, .int .u64 8, .int .i64 5, .string ⟨#[102]⟩, .string ⟨#[103]⟩, .int .u64 1] 56 (0, 0))).setCell ⟨eb, 1, none⟩ (.slice (some ⟨w4.heap.size, 0, none⟩) 3 3)) [pts eb (.cells (editCells nilA (upd (fun _ => nilA) 0 ⟨some ⟨w4.heap.size, 0, none⟩, 3, 3⟩) ⟨[], fun _ => [], 10, 0, 4⟩) 34 (0, 0)), sl 56 metaE (SlA.v ⟨some ⟨w4.heap.size, 0, none⟩, 3, 3⟩) (nw0 0), Sl.base w1 w1.heap.size]) := hid (by
    have oS := sl_built 56 metaE (nw0 0) oX (n := 3) rfl (by simp [maxLen]) rfl
    exact Own.set (i := 1) (oS.pick 1) (.slice (some ⟨w4.heap.size, 0, none⟩) 3 3))
  have e5 := hid ((e4.out.alloc (.cells #[.int .u64 7, .int .i64 5, .string ⟨#[99]⟩, .string ⟨#[102]⟩, .int .u64 1, .int .u64 9, .int .i64 5, .string ⟨#[97]⟩, .string ⟨#[99]⟩, .int .u64 1, .int .u64 8, .int .i64 5, .string ⟨#[102]⟩, .string ⟨#[103]⟩, .int .u64 1] 56 (0, 0))).set ⟨eb, 1, none⟩ (.slice (some ⟨w4.heap.size, 0, none⟩) 3 3))
  clear o4 k2 k3 k4 oA2 eA oX e4
  go_wp2_with fail
  obtain ⟨w5, hw5⟩ : ∃ w', w' = (w4.alloc (.cells #[.int .u64 7, .int .i64 5, .string ⟨#[99]⟩, .string ⟨#[102]⟩, .int .u64 1, .int .u64 9, .int .i64 5, .string ⟨#[97]⟩, .string ⟨#[99]⟩, .int .u64 1, .int .u64 8, .int .i64 5, .string ⟨#[102]⟩, .string ⟨#[103]⟩, .int .u64 1] 56 (0, 0))).setCell ⟨eb, 1, none⟩ (.slice (some ⟨w4.heap.size, 0, none⟩) 3 3) := ⟨_, rfl⟩
  obtain ⟨ab, hab⟩ : ∃ ab, w4.heap.size = ab := ⟨_, rfl⟩
  rw [← hw5] at o5 e5 ⊢
  rw [hab] at o5 ⊢
  clear hw5 cX fX hab
  refine (mk_c 1 _ _ _).mono ?_
  rintro e w6 ⟨rfl, k6⟩
  go_wp2_with fail
  refine (mk_c 2 _ _ _).mono ?_
  rintro e w7 ⟨rfl, k7⟩
  have o7 := k7.own (k6.own o5.out)
  have e7 := hid ((e5.out.trans k6.ext).trans k7.ext)
  have oX := Own.alloc o7 (.cells #[.int .u64 1, .int .i64 5, .string ⟨#[98]⟩, .string ⟨#[98]⟩, .int .u64 1, .int .u64 2, .int .i64 5, .string ⟨#[122]⟩, .string ⟨#[122]⟩, .int .u64 1] 56 (0, 0))
  have cX : (w7.alloc (.cells #[.int .u64 1, .int .i64 5, .string ⟨#[98]⟩, .string ⟨#[98]⟩, .int .u64 1, .int .u64 2, .int .i64 5, .string ⟨#[122]⟩, .string ⟨#[122]⟩, .int .u64 1] 56 (0, 0))).cell? ⟨eb, 2, none⟩ = some (.slice none 0 0) := (oX.pick 1).cell (i := 2) rfl
  have fX : (w7.alloc (.cells #[.int .u64 1, .int .i64 5, .string ⟨#[98]⟩, .string ⟨#[98]⟩, .int .u64 1, .int .u64 2, .int .i64 5, .string ⟨#[122]⟩, .string ⟨#[122]⟩, .int .u64 1] 56 (0, 0))).frozen? ⟨eb, 2, none⟩ = false := (oX.pick 1).free 2
  have o8 : Hid (Own ((w7.alloc (.cells #[.int .u64 1, .int .i64 5, .string ⟨#[98]⟩, .string ⟨#[98]⟩, .int .u64 1, .int .u64 2, .int .i64 5, .string ⟨#[122]⟩, .string ⟨#[122]⟩, .int .u64 1] 56 (0, 0))).setCell ⟨eb, 2, none⟩ (.slice (some ⟨w7.heap.size, 0, none⟩) 2 2)) [pts eb (.cells (editCells nilA (upd (upd (fun _ => nilA) 0 ⟨some ⟨ab, 0, none⟩, 3, 3⟩) 1 ⟨some ⟨w7.heap.size, 0, none⟩, 2, 2⟩) E0) 34 (0, 0)), sl 56 metaE (SlA.v ⟨some ⟨w7.heap.size, 0, none⟩, 2, 2⟩) (nw0 1), sl 56 metaE (SlA.v ⟨some ⟨ab, 0, none⟩, 3, 3⟩) (nw0 0), Sl.base w1 w1.heap.size]) := hid (by
    have oS := sl_built 56 metaE (nw0 1) oX (n := 2) rfl (by simp [maxLen]) rfl
    exact Own.set (i := 2) (oS.pick 1) (.slice (some ⟨w7.heap.size, 0, none⟩) 2 2))
  have e8 := hid ((e7.out.alloc (.cells #[.int .u64 1, .int .i64 5, .string ⟨#[98]⟩, .string ⟨#[98]⟩, .int .u64 1, .int .u64 2, .int .i64 5, .string ⟨#[122]⟩, .string ⟨#[122]⟩, .int .u64 1] 56 (0, 0))).set ⟨eb, 2, none⟩ (.slice (some ⟨w7.heap.size, 0, none⟩) 2 2))
  have y0 : (w7.alloc (.cells #[.int .u64 1, .int .i64 5, .string ⟨#[98]⟩, .string ⟨#[98]⟩, .int .u64 1, .int .u64 2, .int .i64 5, .string ⟨#[122]⟩, .string ⟨#[122]⟩, .int .u64 1] 56 (0, 0))).cell? ⟨eb, 0, none⟩ = some (.slice none 0 0) := (oX.pick 1).cell (i := 0) rfl
  have y1 : (w7.alloc (.cells #[.int .u64 1, .int .i64 5, .string ⟨#[98]⟩, .string ⟨#[98]⟩, .int .u64 1, .int .u64 2, .int .i64 5, .string ⟨#[122]⟩, .string ⟨#[122]⟩, .int .u64 1] 56 (0, 0))).cell? ⟨eb, 1, none⟩ = some (.slice (some ⟨ab, 0, none⟩) 3 3) := (oX.pick 1).cell (i := 1) rfl
  have y3 : (w7.alloc (.cells #[.int .u64 1, .int .i64 5, .string ⟨#[98]⟩, .string ⟨#[98]⟩, .int .u64 1, .int .u64 2, .int .i64 5, .string ⟨#[122]⟩, .string ⟨#[122]⟩, .int .u64 1] 56 (0, 0))).cell? ⟨eb, 3, none⟩ = some (.slice none 0 0) := (oX.pick 1).cell (i := 3) rfl
  have y4 : (w7.alloc (.cells #[.int .u64 1, .int .i64 5, .string ⟨#[98]⟩, .string ⟨#[98]⟩, .int .u64 1, .int .u64 2, .int .i64 5, .string ⟨#[122]⟩, .string ⟨#[122]⟩, .int .u64 1] 56 (0, 0))).cell? ⟨eb, 4, none⟩ = some (.slice none 0 0) := (oX.pick 1).cell (i := 4) rfl
  have y5 : (w7.alloc (.cells #[.int .u64 1, .int .i64 5, .string ⟨#[98]⟩, .string ⟨#[98]⟩, .int .u64 1, .int .u64 2, .int .i64 5, .string ⟨#[122]⟩, .string ⟨#[122]⟩, .int .u64 1] 56 (0, 0))).cell? ⟨eb, 5, none⟩ = some (.int .u64 10) := (oX.pick 1).cell (i := 5) rfl
  have y6 : (w7.alloc (.cells #[.int .u64 1, .int .i64 5, .string ⟨#[98]⟩, .string ⟨#[98]⟩, .int .u64 1, .int .u64 2, .int .i64 5, .string ⟨#[122]⟩, .string ⟨#[122]⟩, .int .u64 1] 56 (0, 0))).cell? ⟨eb, 6, none⟩ = some (.int .u64 0) := (oX.pick 1).cell (i := 6) rfl
  have y7 : (w7.alloc (.cells #[.int .u64 1, .int .i64 5, .string ⟨#[98]⟩, .string ⟨#[98]⟩, .int .u64 1, .int .u64 2, .int .i64 5, .string ⟨#[122]⟩, .string ⟨#[122]⟩, .int .u64 1] 56 (0, 0))).cell? ⟨eb, 7, none⟩ = some (.int .u64 4) := (oX.pick 1).cell (i := 7) rfl
  clear o7 k6 k7 oX e7 o5 e5
  go_wp2_with fail
  obtain ⟨wB, hwB⟩ : ∃ w', w' = (w7.alloc (.cells #[.int .u64 1, .int .i64 5, .string ⟨#[98]⟩, .string ⟨#[98]⟩, .int .u64 1, .int .u64 2, .int .i64 5, .string ⟨#[122]⟩, .string ⟨#[122]⟩, .int .u64 1] 56 (0, 0))).setCell ⟨eb, 2, none⟩ (.slice (some ⟨w7.heap.size, 0, none⟩) 2 2) := ⟨_, rfl⟩
  obtain ⟨bb, hbb⟩ : ∃ ab, w7.heap.size = ab := ⟨_, rfl⟩
  rw [← hwB] at o8 e8 ⊢
  rw [hbb] at o8 ⊢
  clear hwB hbb cX fX y0 y1 y3 y4 y5 y6 y7
  obtain ⟨SE, hSE⟩ : ∃ S : Nat → SlA, S = upd (upd (fun _ => nilA) 0 ⟨some ⟨ab, 0, none⟩, 3, 3⟩) 1 ⟨some ⟨bb, 0, none⟩, 2, 2⟩ := ⟨_, rfl⟩
  have hB : Hid (EditR wB nilA SE E0) := hid (by
    rw [hSE]
    have o1 := o8.out.pick 1
    have o2 := o8.out.pick 2
    refine ⟨.inl ⟨⟨none, 0, rfl, by simp [maxLen]⟩, rfl⟩, fun l hl => ?_, fun l hl => ?_⟩
    · rcases (by omega : l = 0 ∨ l = 1 ∨ l = 2 ∨ l = 3) with rfl | rfl | rfl | rfl
      · exact sl_rd o2
      · exact sl_rd o1
      · exact rd_nilA _
      · exact rd_nilA _
    · rcases (by omega : l = 0 ∨ l = 1 ∨ l = 2 ∨ l = 3) with rfl | rfl | rfl | rfl <;> decide)
  have kB : Hid (Kp w1 wB) := hid (kp_of (cs := [_, _, _]) o8.out e8.out)
  have cB : Hid (∀ w', Kp wB w' → (w'.cell? ⟨eb, 0, none⟩ = some (.slice none 0 0) ∧ w'.cell? ⟨eb, 1, none⟩ = some (.slice (some ⟨ab, 0, none⟩) 3 3) ∧ w'.cell? ⟨eb, 2, none⟩ = some (.slice (some ⟨bb, 0, none⟩) 2 2) ∧ w'.cell? ⟨eb, 3, none⟩ = some (.slice none 0 0) ∧ w'.cell? ⟨eb, 4, none⟩ = some (.slice none 0 0) ∧ w'.cell? ⟨eb, 5, none⟩ = some (.int .u64 10) ∧ w'.cell? ⟨eb, 6, none⟩ = some (.int .u64 0) ∧ w'.cell? ⟨eb, 7, none⟩ = some (.int .u64 4)) ∧ eb < w'.heap.size) := hid (fun w' k => by
    have o := k.own o8.out
    exact ⟨⟨o.cell (i := 0) rfl, o.cell (i := 1) rfl, o.cell (i := 2) rfl, o.cell (i := 3) rfl, o.cell (i := 4) rfl, o.cell (i := 5) rfl, o.cell (i := 6) rfl, o.cell (i := 7) rfl⟩, o.lt⟩)
  clear o8 e8
  have hap := hid (apply_c p0 S0 newV nilA SE E0 wB (v0H.out.kp kB.out) newV_ok hB.out)
  rw [apply0] at hap
  unfold editV at hap
  rw [hSE] at hap
  refine hap.out.mono ?_
  rintro e w9 ⟨k9, p1, S1, rfl, v1⟩
  have k9H := hid k9
  have v1H := hid v1
  have hV1 := hid (apply_ok newV_ok apply0)
  clear k9 v1 hap
  go_wp2_with fail
  have hpk := hid (pick_c p1 S1 V1 0 0 w9 v1H.out hV1.out (by omega))
  obtain ⟨hp0, hp1, hp2, hp3, hp4, hp5⟩ := pick0
  generalize hpq : pickP V1 0 0 = pq at hpk hp0 hp1 hp2 hp3 hp4 hp5
  clear hpq
  obtain ⟨⟨plv, pfr, pin, pbt⟩, pcd⟩ := pq
  dsimp only at hp0 hp1 hp2 hp3 hp4 hp5
  obtain ⟨xf, rf, rfl, hxf⟩ : ∃ x r, pfr = x :: r ∧ x.file = 9 := by
    cases pfr with
    | nil => cases hp2
    | cons x r => exact ⟨x, r, rfl, by simpa using hp2⟩
  obtain ⟨xi, ri, rfl, hxi⟩ : ∃ x r, pin = x :: r ∧ x.file = 1 := by
    cases pin with
    | nil => cases hp4
    | cons x r => exact ⟨x, r, rfl, by simpa using hp4⟩
  subst hp0 hp5
  refine hpk.out.mono ?_
  rintro e w10 ⟨k10, sF, sI, rfl, rF, rI⟩
  have k10B := k9H.out.trans k10
  obtain ⟨sFA, sFn, sFc⟩ := sF
  obtain ⟨sIA, sIn, sIc⟩ := sI
  have hFn : sFn = 3 := (rd_size (s := ⟨sFA, sFn, sFc⟩) rF).trans hp1
  have hIn : sIn = 1 := (rd_size (s := ⟨sIA, sIn, sIc⟩) rI).trans hp3
  subst hFn hIn
  have o10 := (k10B.own (Own.start wB)).alloc (.cells #[.int .i64 plv, .slice sFA 3 sFc, .slice sIA 1 sIc, .bool true] 41 (0, 0))
  have e10 := k10B.ext.alloc (.cells #[.int .i64 plv, .slice sFA 3 sFc, .slice sIA 1 sIc, .bool true] 41 (0, 0))
  have rFH := hid rF
  have rIH := hid rI
  have o11 := o10.alloc (.cells #[.int .u64 77] 32 (0, 0))
  have e11 := hid (e10.alloc (.cells #[.int .u64 77] 32 (0, 0)))
  have o12 := hid (sl_built 32 u64E [77] o11 (n := 1) rfl (by simp [maxLen]) rfl)
  simp only [World.size_alloc] at o12
  have k10H := hid k10
  clear hpk rF rI k10 k10B o10 e10 o11 hp1 hp2 hp3 hp4
  go_wp2_with fail
  obtain ⟨w11, hw11⟩ : ∃ w', w' = ((w10.alloc (.cells #[.int .i64 plv, .slice sFA 3 sFc, .slice sIA 1 sIc, .bool true] 41 (0, 0))).alloc (.cells #[.int .u64 77] 32 (0, 0))) := ⟨_, rfl⟩
  have kx : Hid (Kp w10 w11) := hid (by rw [hw11]; exact ((Kp.refl w10).alloc _).alloc _)
  rw [← hw11] at o12 e11 ⊢
  obtain ⟨pk, hpk⟩ : ∃ ab, w10.heap.size = ab := ⟨_, rfl⟩
  rw [hpk] at o12 ⊢
  clear hw11 hpk
  have v11 := hid (v1H.out.kp (k10H.out.trans kx.out))
  have r11 := hid (kx.out.rd rFH.out)
  have i11 := hid (kx.out.rd rIH.out)
  have kB11 : Hid (Kp wB w11) := hid (kp_of (cs := [_, _]) o12.out e11.out)
  have hE1 : Hid (EditR w11 ⟨some ⟨pk + 1, 0, none⟩, 1, 1⟩ (fun _ => nilA) ⟨[77], fun _ => [], 0, 0, 0⟩) := hid ⟨sl_rd o12.out, fun _ _ => rd_nilA _, fun _ _ => by simp⟩
  have hap := hid (apply_c p1 S1 V1 _ _ _ w11 v11.out hV1.out hE1.out)
  rw [apply1] at hap
  unfold editV at hap
  have oP := hid o12.out.drop
  clear o12 e11 kx rFH rIH v1H k10H k9H hE1
  refine hap.out.mono ?_
  rintro e w12 ⟨k12, rfl⟩
  have k12H := hid k12
  clear hap k12
  go_wp2_with fail
  have hap := hid (apply_c p1 S1 V1 nilA (fun _ => nilA) ⟨[], fun _ => [], 9, 0, 0⟩ w12 (v11.out.kp k12H.out) hV1.out ⟨.inl ⟨⟨none, 0, rfl, by simp [maxLen]⟩, rfl⟩, fun _ _ => rd_nilA _, fun _ _ => by simp⟩)
  rw [apply2] at hap
  unfold editV at hap
  refine hap.out.mono ?_
  rintro e w13 ⟨k13, rfl⟩
  have k13H := hid (k12H.out.trans k13)
  obtain ⟨⟨y0, y1, y2, y3, y4, y5, y6, y7⟩, yl⟩ := cB.out w13 (kB11.out.trans k13H.out)
  clear hap k13 k12H
  go_wp2_with fail
  have hen := hid (encode_c nilA SE E0 w13 (hB.out.kp (kB11.out.trans k13H.out)))
  unfold EncSays at hen
  rw [enc0, if_pos rfl, if_pos rfl] at hen
  unfold editV at hen
  rw [hSE] at hen
  refine hen.out.mono ?_
  rintro e w14 ⟨k14, rfl⟩
  have k14H := hid (k13H.out.trans k14)
  clear hen k14 k13H y0 y1 y2 y3 y4 y5 y6 y7 yl
  go_wp2_with fail
  have hde := hid (decode_c (encW E0) (Nat.le_trans len0 (by decide)) w14)
  rw [decP_enc enc0] at hde
  have hde2 : Hid (Calls Try.prog 23 #[.string ⟨(encW E0).toArray⟩] w14 fun e w' => Kp w14 w' ∧ ∃ g S, e = .returned (.tuple #[.agg #[.slice g.A g.n g.c, .slice (S 0).A (S 0).n (S 0).c, .slice (S 1).A (S 1).n (S 1).c, .slice (S 2).A (S 2).n (S 2).c, .slice (S 3).A (S 3).n (S 3).c, .int .u64 10, .int .u64 0, .int .u64 4], .int .i64 0]) ∧ EditR w' g S E0) := hid (by
    refine hde.out.mono ?_
    rintro e w' ⟨h1, g, S, h2, h3⟩
    exact ⟨h1, g, S, h2, edr_cut h3⟩)
  refine hde2.out.mono ?_
  rintro e w15 ⟨k15, g2, S2, rfl, r15⟩
  have r15H := hid r15
  have k15H := hid (k14H.out.trans k15)
  have o15 := ((k15H.out.own oP.out)).alloc (.cells #[.slice g2.A g2.n g2.c, .slice (S2 0).A (S2 0).n (S2 0).c, .slice (S2 1).A (S2 1).n (S2 1).c, .slice (S2 2).A (S2 2).n (S2 2).c, .slice (S2 3).A (S2 3).n (S2 3).c, .int .u64 10, .int .u64 0, .int .u64 4] 34 (0, 0))
  have o15H := hid o15
  have kx : Hid (Kp w15 (w15.alloc (.cells #[.slice g2.A g2.n g2.c, .slice (S2 0).A (S2 0).n (S2 0).c, .slice (S2 1).A (S2 1).n (S2 1).c, .slice (S2 2).A (S2 2).n (S2 2).c, .slice (S2 3).A (S2 3).n (S2 3).c, .int .u64 10, .int .u64 0, .int .u64 4] 34 (0, 0)))) := hid ((Kp.refl w15).alloc _)
  have hn63 : ¬ 9223372036854775807 < (encW E0).length + 1 := by have := len0; omega
  clear hde hde2 k15 r15 k14H o15 oP
  go_wp2_with fail
  obtain ⟨w16, hw16⟩ : ∃ w', w' = w15.alloc (.cells #[.slice g2.A g2.n g2.c, .slice (S2 0).A (S2 0).n (S2 0).c, .slice (S2 1).A (S2 1).n (S2 1).c, .slice (S2 2).A (S2 2).n (S2 2).c, .slice (S2 3).A (S2 3).n (S2 3).c, .int .u64 10, .int .u64 0, .int .u64 4] 34 (0, 0)) := ⟨_, rfl⟩
  obtain ⟨db, hdb⟩ : ∃ ab, w15.heap.size = ab := ⟨_, rfl⟩
  rw [← hw16] at o15H kx ⊢
  rw [hdb] at o15H ⊢
  have r16 := hid (r15H.out.kp kx.out)
  have k16 := hid (k15H.out.trans kx.out)
  clear hw16 hdb kx r15H k15H hn63
  have hde := hid (decode_c (encW E0 ++ [63]) (by have := len0; simp; omega) w16)
  rw [decP_more enc0 (by simp)] at hde
  have hde2 : Hid (Calls Try.prog 23 #[.string (⟨(encW E0).toArray⟩ ++ ⟨#[63]⟩)] w16 fun e w' => Kp w16 w' ∧ ∃ (g : SlA) (S : Nat → SlA), e = .returned (.tuple #[.agg #[.slice g.A g.n g.c, .slice (S 0).A (S 0).n (S 0).c, .slice (S 1).A (S 1).n (S 1).c, .slice (S 2).A (S 2).n (S 2).c, .slice (S 3).A (S 3).n (S 3).c, .int .u64 0, .int .u64 0, .int .u64 0], .int .i64 2])) := hid (by
    have hcat : ((⟨(encW E0).toArray⟩ : ByteArray) ++ (⟨#[63]⟩ : ByteArray)) = ⟨(encW E0 ++ [63]).toArray⟩ := by
      apply ByteArray.ext
      simp
    rw [hcat]
    refine hde.out.mono ?_
    rintro e w' ⟨h1, g, S, h2, h3⟩
    exact ⟨h1, g, S, h2⟩)
  refine hde2.out.mono ?_
  rintro e w17 ⟨k17, g3, S3, rfl⟩
  have hnm := hid (numbers_c p1 S1 V1 _ (v11.out.kp ((k16.out.trans k17).alloc (.cells #[.slice g3.A g3.n g3.c, .slice (S3 0).A (S3 0).n (S3 0).c, .slice (S3 1).A (S3 1).n (S3 1).c, .slice (S3 2).A (S3 2).n (S3 2).c, .slice (S3 3).A (S3 3).n (S3 3).c, .int .u64 0, .int .u64 0, .int .u64 0] 34 (0, 0)))))
  have k18 := hid (k17.alloc (.cells #[.slice g3.A g3.n g3.c, .slice (S3 0).A (S3 0).n (S3 0).c, .slice (S3 1).A (S3 1).n (S3 1).c, .slice (S3 2).A (S3 2).n (S3 2).c, .slice (S3 3).A (S3 3).n (S3 3).c, .int .u64 0, .int .u64 0, .int .u64 0] 34 (0, 0)))
  rw [num0.1, num0.2.1, num0.2.2] at hnm
  clear hde hde2 k17
  go_wp2_with fail
  refine hnm.out.mono ?_
  rintro e w18 ⟨rfl, k19⟩
  have k20 := hid (k18.out.trans k19)
  clear hnm k18 k19
  have o20 := k20.out.own o15H.out
  have t1 : w18.cell? ⟨pk, 1, none⟩ = some (.slice sFA 3 sFc) := (o20.pick 1).cell (i := 1) rfl
  have t2 : w18.cell? ⟨pk, 2, none⟩ = some (.slice sIA 1 sIc) := (o20.pick 1).cell (i := 2) rfl
  have t3 : w18.cell? ⟨pk, 3, none⟩ = some (.bool true) := (o20.pick 1).cell (i := 3) rfl
  obtain ⟨⟨y0, y1, y2, y3, y4, y5, y6, y7⟩, yl⟩ := cB.out w18 (kB11.out.trans (k16.out.trans k20.out))
  have x0 : w18.cell? ⟨db, 0, none⟩ = some (.slice g2.A g2.n g2.c) := o20.cell (i := 0) rfl
  have x1 : w18.cell? ⟨db, 1, none⟩ = some (.slice (S2 0).A (S2 0).n (S2 0).c) := o20.cell (i := 1) rfl
  have x2 : w18.cell? ⟨db, 2, none⟩ = some (.slice (S2 1).A (S2 1).n (S2 1).c) := o20.cell (i := 2) rfl
  have x3 : w18.cell? ⟨db, 3, none⟩ = some (.slice (S2 2).A (S2 2).n (S2 2).c) := o20.cell (i := 3) rfl
  have x4 : w18.cell? ⟨db, 4, none⟩ = some (.slice (S2 3).A (S2 3).n (S2 3).c) := o20.cell (i := 4) rfl
  have x5 : w18.cell? ⟨db, 5, none⟩ = some (.int .u64 10) := o20.cell (i := 5) rfl
  have x6 : w18.cell? ⟨db, 6, none⟩ = some (.int .u64 0) := o20.cell (i := 6) rfl
  have x7 : w18.cell? ⟨db, 7, none⟩ = some (.int .u64 4) := o20.cell (i := 7) rfl
  have rf := (k16.out.trans k20.out).rd r11.out
  have ri := (k16.out.trans k20.out).rd i11.out
  obtain ⟨fg, fo, hfA, _, u0, uu⟩ := rd_meta rf rfl (i := 0) rfl
  obtain ⟨ig, io, hiA, _, z0, zz⟩ := rd_meta ri rfl (i := 0) rfl
  clear uu zz
  subst hfA hiA
  rw [hxf] at u0
  rw [hxi] at z0
  rw [Nat.zero_mul, Nat.add_zero] at u0 z0
  clear o20 rf ri
  have u9 : w18.cell? ⟨fg, fo, none⟩ = some (.int .u64 9) := u0
  have z9 : w18.cell? ⟨ig, io, none⟩ = some (.int .u64 1) := z0
  clear u0 z0
  have hsm := hid (same_c nilA g2 SE S2 E0 w18 (hB.out.kp (kB11.out.trans (k16.out.trans k20.out))) (r16.out.kp k20.out))
  unfold editV at hsm
  rw [hSE] at hsm
  have hv18 : Hid (VerR w18 p1 S1 V1) := hid (v11.out.kp (k16.out.trans k20.out))
  have hv0 : Hid (VerR w18 p0 S0 newV) := hid (v0H.out.kp (kB.out.trans (kB11.out.trans (k16.out.trans k20.out))))
  have hf1 : Hid (∀ w', Kp w18 w' → Calls Try.prog 30 #[.pointer (some ⟨p1, 0, none⟩)] w' fun e w'' => ∃ A c, e = .returned (.slice A 5 c) ∧ Kp w18 w'') := hid (fun w' k => by
    refine (files_c p1 S1 V1 w' (hv18.out.kp k)).mono ?_
    rintro e w'' ⟨v', rfl, o, x⟩
    obtain ⟨A, n, c, rfl⟩ := sl_shape o
    have hn : n = 5 := by
      have h1 : n = (filesS V1.lv).length := rd_size (s := ⟨A, n, c⟩) (sl_rd o)
      rw [h1]; unfold filesS; rw [List.length_mergeSort, files0]
    subst hn
    exact ⟨A, c, rfl, k.trans (kp_of1 o x)⟩)
  have hf0 : Hid (∀ w', Kp w18 w' → Calls Try.prog 30 #[.pointer (some ⟨p0, 0, none⟩)] w' fun e w'' => ∃ A c, e = .returned (.slice A 0 c) ∧ Kp w18 w'') := hid (fun w' k => by
    refine (files_c p0 S0 newV w' (hv0.out.kp k)).mono ?_
    rintro e w'' ⟨v', rfl, o, x⟩
    obtain ⟨A, n, c, rfl⟩ := sl_shape o
    have hn : n = 0 := by
      have h1 : n = (filesS newV.lv).length := rd_size (s := ⟨A, n, c⟩) (sl_rd o)
      rw [h1]; unfold filesS; rw [List.length_mergeSort]; rfl
    subst hn
    exact ⟨A, c, rfl, k.trans (kp_of1 o x)⟩)
  have hm1 : Hid (∀ w', Kp w18 w' → Calls Try.prog 19 #[.pointer (some ⟨p1, 0, none⟩), .int .i64 0, .string ⟨#[100]⟩, .string ⟨#[100]⟩] w' fun e w'' => ∃ A c, e = .returned (.slice A 1 c) ∧ Kp w18 w'') := hid (fun w' k => by
    refine (meet_c p1 S1 V1 0 (ch 100) (ch 100) w' (hv18.out.kp k)).mono ?_
    rintro e w'' ⟨v', rfl, o, x⟩
    obtain ⟨A, n, c, rfl⟩ := sl_shape o
    have hn : n = 1 := (rd_size (s := ⟨A, n, c⟩) (sl_rd o)).trans meet0
    subst hn
    exact ⟨A, c, rfl, k.trans (kp_of1 o x)⟩)
  have hy1 : Hid (∀ w', Kp w18 w' → Calls Try.prog 25 #[.agg #[.int .u64 1, .int .i64 5, .string ⟨#[97]⟩, .string ⟨#[98]⟩, .int .u64 1]] w' fun e w'' => e = .returned (.bool true) ∧ Kp w18 w'') := hid (fun w' k => by
    refine (may_c (mkM 1 (ch 97) (ch 98)) w').mono ?_
    rintro e w'' ⟨rfl, x⟩
    exact ⟨by rw [may0], k.trans x⟩)
  have hy0 : Hid (∀ w', Kp w18 w' → Calls Try.prog 25 #[.agg #[.int .u64 0, .int .i64 0, .string ⟨#[]⟩, .string ⟨#[]⟩, .int .u64 0]] w' fun e w'' => e = .returned (.bool false) ∧ Kp w18 w'') := hid (fun w' k => by
    refine (may_c ⟨0, 0, ⟨#[]⟩, ⟨#[]⟩, 0⟩ w').mono ?_
    rintro e w'' ⟨rfl, x⟩
    exact ⟨by rw [may1], k.trans x⟩)
  have hall : Hid (Kp w w18) := hid (k1H.out.trans (kB.out.trans (kB11.out.trans (k16.out.trans k20.out))))
  clear hxf hxi hSE
  dsimp only
  go_wp2_with fail
  clear t1 t2 t3 y0 y1 y2 y3 y4 y5 y6 y7 x0 x1 x2 x3 x4 x5 x6 x7 u9 z9 yl
  refine hsm.out.mono ?_
  rintro e w19 ⟨rfl, k21⟩
  dsimp only
  go_wp2_with fail
  refine (hf1.out w19 k21).mono ?_
  rintro e w20 ⟨A20, c20, rfl, k22⟩
  dsimp only
  go_wp2_with fail
  refine (hm1.out w20 k22).mono ?_
  rintro e w21 ⟨A21, c21, rfl, k23⟩
  dsimp only
  go_wp2_with fail
  refine (hf0.out w21 k23).mono ?_
  rintro e w22 ⟨A22, c22, rfl, k24⟩
  dsimp only
  go_wp2_with fail
  refine (mk_c 1 _ _ w22).mono ?_
  rintro e w23 ⟨rfl, k25⟩
  dsimp only
  go_wp2_with fail
  refine (hy1.out w23 (k24.trans k25)).mono ?_
  rintro e w24 ⟨rfl, k26⟩
  dsimp only
  go_wp2_with fail
  refine (hy0.out w24 k26).mono ?_
  rintro e w25 ⟨rfl, k27⟩
  dsimp only
  go_wp2_with fail
  go_ret
  exact ⟨rfl, hall.out.trans k27⟩
end Go.Proofs.Ytdmdnhceiddcfaa
