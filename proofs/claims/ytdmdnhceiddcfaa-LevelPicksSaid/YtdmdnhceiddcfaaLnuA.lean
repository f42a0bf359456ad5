/- The walk of LevelNumbers. -/
import Derived.Test.YtdmdnhceiddcfaaAwkA
import Derived.Test.YtdmdnhceiddcfaaSamE
set_option linter.all false
namespace Go.Proofs.Ytdmdnhceiddcfaa
open Go.RowKit Go.Sl Go.Scree

/-- An edit in a list. -/
structure EdV where
  g : SlA
  S : Nat → SlA
  E : EditM
def edE : Enc EdV := ⟨fun x => (editCells x.g x.S x.E).toList, 8, fun _ => rfl, by intro x; simp [editCells, Value.oneCell'], by omega⟩
/-- What is known of the list of edits. -/
structure EdsR (w : World) (v : Value) (xs : List EdV) : Prop where
  rd : Rd w edE v xs
  inn : ∀ x ∈ xs, EditW w x.g x.S x.E
theorem EdsR.kp {w w' : World} {v : Value} {xs : List EdV} (h : EdsR w v xs) (k : Kp w w') : EdsR w' v xs := ⟨k.rd h.rd, fun x hx => (h.inn x hx).kp k⟩
theorem rd_ed {w : World} {v : Value} {xs : List EdV} {A : Option Addr} {n c : Nat} (h : Rd w edE v xs) (hv : v = .slice A n c) {i : Nat} {x : EdV} (hx : xs[i]? = some x) :
    ∃ g off, A = some ⟨g, off, none⟩ ∧ n = xs.length ∧ ∀ j u, (editCells x.g x.S x.E)[j]? = some u → w.cell? ⟨g, off + i * 8 + j, none⟩ = some u := by
  subst hv
  rcases h with ⟨_, rfl⟩ | ⟨g, off, cap, hv, h1, h2, hc⟩
  · simp at hx
  · simp only [Value.slice.injEq] at hv
    exact ⟨g, off, hv.1, hv.2.1, fun j u hu => hc i x hx j u (by rw [← Array.getElem?_toList] at hu; exact hu)⟩
theorem told_law {n old : Nat} (h : numOk n old = true) : ¬ told n old < old ∧ (n = 0 → told n old = old) := by
  unfold told numOk at *
  by_cases h0 : n = 0
  · subst h0; simp
  · simp only [Bool.or_eq_true, beq_iff_eq, Bool.and_eq_true, decide_eq_true_eq] at h
    simp [h0]; omega
theorem num_law {V W : VerM} {E : EditM} (h : applyP V E = .inl W) : (¬ W.next < V.next ∧ (E.next = 0 → W.next = V.next)) ∧ (¬ W.log < V.log ∧ (E.log = 0 → W.log = V.log)) ∧ (¬ W.seq < V.seq ∧ (E.seq = 0 → W.seq = V.seq)) := by
  obtain ⟨c⟩ := apply_came h
  have e1 : W.next = told E.next V.next := congrArg VerM.next c.out
  have e2 : W.log = told E.log V.log := congrArg VerM.log c.out
  have e3 : W.seq = told E.seq V.seq := congrArg VerM.seq c.out
  rw [e1, e2, e3]
  exact ⟨told_law c.nums.1.1, told_law c.nums.1.2, told_law c.nums.2⟩
theorem eq_cases {a x y : Nat} (h : a = 0 → x = y) : (((a : Int) == 0) = true ∧ x = y) ∨ ((a : Int) == 0) = false := by
  by_cases h0 : a = 0
  · exact .inl ⟨by subst h0; rfl, h h0⟩
  · exact .inr (by rw [beq_eq_false_iff_ne]; omega)
set_option maxRecDepth 20000 in
set_option maxHeartbeats 6400000 in
theorem numbersLaw_c (v : Value) (xs : List EdV) (w : World) (h : EdsR w v xs) : Calls Try.prog 9 #[v] w fun e w' => e = .returned (.bool true) ∧ Kp w w' := by
  obtain ⟨A, c, rfl, hm, hc⟩ := h.rd.form
  have hl : xs.length ≤ 9223372036854775807 := by simpa [maxLen] using hm
  have hH := hid h
  have haw := hid (awake_c w)
  clear h hm hc
  go_enter Try.func9, Try.ntmps9
  go_wp2_with fail
  refine haw.out.mono ?_
  rintro e w1 ⟨rfl, k1⟩
  have k1H := hid k1
  clear haw k1
  go_wp2_with fail
  refine (lnew_c w1).mono ?_
  rintro e w2 ⟨p0, S0, rfl, v0, k2⟩
  have v0H := hid v0
  have k2H := hid (k1H.out.trans k2)
  clear v0 k2 k1H
  go_wp2_with fail
  go_loopw [2, 3, 4] (fun _ q i wr => ∃ (k p : Nat) (S : Nat → SlA) (V : VerM), i = .int .i64 k ∧ (k ≤ xs.length ∧ k ≤ 40) ∧ q = .pointer (some ⟨p, 0, none⟩) ∧ VerR wr p S V ∧ VOk V ∧ Kp w wr) (fun _ _ i _ => xs.length - (intOf i).toNat)
  case atStart => exact ⟨0, p0, S0, newV, rfl, ⟨Nat.zero_le _, Nat.zero_le _⟩, rfl, v0H.out, newV_ok, k2H.out⟩
  case round =>
    clear v0H k2H
    obtain ⟨k, p, S, V, rfl, ⟨hk, hk40⟩, rfl, hv, hok, kr⟩ := hrel
    have hvH := hid hv
    have hokH := hid hok
    have krH := hid kr
    clear hv hok kr
    by_cases hlt : k < xs.length ∧ k < 40
    · obtain ⟨hlt, h40⟩ := hlt
      have hlt' : (k : Int) < xs.length := by omega
      have h40' : (k : Int) < 40 := by omega
      obtain ⟨x, hx⟩ : ∃ x, xs[k]? = some x := ⟨_, List.getElem?_eq_getElem hlt⟩
      obtain ⟨g, off, rfl, _, hce⟩ := rd_ed (hH.out.kp krH.out).rd rfl hx
      have hin := hid ((hH.out.kp krH.out).inn x (List.mem_of_getElem? hx))
      have hxH := hid hx
      have hceH := hid hce
      clear hx hce
      obtain ⟨xg, xS, xE⟩ := x
      have a0 : wr.cell? ⟨g, off + k * 8, none⟩ = some (.slice xg.A xg.n xg.c) := hceH.out 0 (.slice xg.A xg.n xg.c) rfl
      have a1 := hceH.out 1 (.slice (xS 0).A (xS 0).n (xS 0).c) rfl
      have a2 := hceH.out 2 (.slice (xS 1).A (xS 1).n (xS 1).c) rfl
      have a3 := hceH.out 3 (.slice (xS 2).A (xS 2).n (xS 2).c) rfl
      have a4 := hceH.out 4 (.slice (xS 3).A (xS 3).n (xS 3).c) rfl
      have a5 := hceH.out 5 (.int .u64 xE.next) rfl
      have a6 := hceH.out 6 (.int .u64 xE.log) rfl
      have a7 := hceH.out 7 (.int .u64 xE.seq) rfl
      have hlg := hid (large_c xg xS xE wr hin.out)
      unfold editV at hlg
      go_wp2_with fail
      refine hlg.out.mono ?_
      rintro e w3 ⟨k3, b, rfl, hb⟩
      cases b with
      | true =>
        go_wp2_with fail
        go_ret
        exact ⟨rfl, krH.out.trans k3⟩
      | false =>
        have hsm := hb rfl
        have k3H := hid (krH.out.trans k3)
        have b0 := k3.cell a0
        have b1 := k3.cell a1
        have b2 := k3.cell a2
        have b3 := k3.cell a3
        have b4 := k3.cell a4
        have b5 := k3.cell a5
        have b6 := k3.cell a6
        have b7 := k3.cell a7
        have hv3 := hid (hvH.out.kp k3)
        have hap := hid (apply_c p S V xg xS xE w3 hv3.out hokH.out ((hin.out.kp k3).r hsm))
        unfold editV at hap
        clear hb k3 a0 a1 a2 a3 a4 a5 a6 a7 hsm hlg
        cases hr : applyP V xE with
        | inr cd =>
          rw [hr] at hap
          clear hr
          go_wp2_with fail
          refine hap.out.mono ?_
          rintro e w4 ⟨k4, rfl⟩
          have hv4 := hid (hv3.out.kp k4)
          have k4H := hid (k3H.out.trans k4)
          clear k4 hap b0 b1 b2 b3 b4 b5 b6 b7
          go_wp2_with fail
          go_roundw
          case rel => exact ⟨k + 1, p, S, V, by go_num, ⟨by omega, by omega⟩, rfl, hv4.out, hokH.out, k4H.out⟩
          case measure => simp [intOf]; omega
        | inl W =>
          rw [hr] at hap
          have hnl := hid (num_law hr)
          have hWok := hid (apply_ok hokH.out hr)
          clear hr
          go_wp2_with fail
          refine hap.out.mono ?_
          rintro e w4 ⟨k4, p2, S2, rfl, v4⟩
          have hv4 := hid (hv3.out.kp k4)
          have hw4 := hid v4
          have k4H := hid (k3H.out.trans k4)
          have d2 := k4.cell b5
          have d3 := k4.cell b6
          have d4 := k4.cell b7
          clear k4 hap b0 b1 b2 b3 b4 b5 b6 b7 v4
          go_wp2_with fail
          refine (numbers_c p S V w4 hv4.out).mono ?_
          rintro e w5 ⟨rfl, k5⟩
          have k5H := hid k5
          have d2 := k5.cell d2
          have d3 := k5.cell d3
          have d4 := k5.cell d4
          clear k5
          go_wp2_with fail
          refine (numbers_c p2 S2 W w5 (hw4.out.kp k5H.out)).mono ?_
          rintro e w6 ⟨rfl, k6⟩
          have k6H := hid (k5H.out.trans k6)
          have d2 := k6.cell d2
          have d3 := k6.cell d3
          have d4 := k6.cell d4
          clear k6
          obtain ⟨⟨n1, n2⟩, ⟨n3, n4⟩, n5, n6⟩ := hnl.out
          have hwr : VerR w6 p2 S2 W := hw4.out.kp k6H.out
          have hw6 := hid hwr
          have k06 := hid (k4H.out.trans k6H.out)
          have hap := hid (apply_c p2 S2 W nilA (fun _ => nilA) noEdit w6 hwr hWok.out ⟨.inl ⟨⟨none, 0, rfl, by simp [maxLen]⟩, rfl⟩, fun _ _ => rd_nilA _, fun _ _ => by simp [noEdit]⟩)
          rw [apply_none hWok.out] at hap
          unfold editV at hap
          have hW30 : Hid (∀ l, l < 4 → (W.lv l).length ≤ 1000) := hid (fun l hl => by
            have := List.all_eq_true.1 hWok.out.few l (by simp [four]; omega)
            have := of_decide_eq_true this
            omega)
          have q1 := eq_cases n2
          have q2 := eq_cases n4
          have q3 := eq_cases n6
          clear hnl n2 n4 n6 hwr
          rcases q1 with ⟨q1, r1⟩ | q1 <;> rcases q2 with ⟨q2, r2⟩ | q2 <;> rcases q3 with ⟨q3, r3⟩ | q3
          all_goals
            dsimp only
            go_wp2_with fail
            refine hap.out.mono ?_
            rintro e w7 ⟨k7, p3, S3, rfl, v7⟩
            have hv7 := hid v7
            have k7H := hid k7
            clear v7 k7 hap d2 d3 d4
            dsimp only
            go_wp2_with fail
            refine (edit_c p3 S3 W w7 hv7.out hW30.out).mono ?_
            rintro e w8 ⟨g8, S8, rfl, r8, k8⟩
            have r8H := hid r8
            have k8H := hid k8
            clear r8 k8
            dsimp only
            go_wp2_with fail
            refine (edit_c p2 S2 W w8 (hw6.out.kp (k7H.out.trans k8H.out)) hW30.out).mono ?_
            rintro e w9 ⟨g9, S9, rfl, r9, k9⟩
            have r9H := hid r9
            have k9H := hid k9
            clear r9 k9
            dsimp only
            go_wp2_with fail
            refine (same_c g8 g9 S8 S9 (editOf W) w9 (r8H.out.kp k9H.out) r9H.out).mono ?_
            rintro e w10 ⟨rfl, k10⟩
            have hv10 := hid (hw6.out.kp (((k7H.out.trans k8H.out).trans k9H.out).trans k10))
            have k10H := hid (k06.out.trans (((k7H.out.trans k8H.out).trans k9H.out).trans k10))
            clear k10
            dsimp only
            go_wp2_with fail
            go_roundw
            case rel => exact ⟨k + 1, p2, S2, W, by go_num, ⟨by omega, by omega⟩, rfl, hv10.out, hWok.out, k10H.out⟩
            case measure => simp [intOf]; omega
    · by_cases hk1 : k < xs.length
      · have hk2 : k = 40 := by omega
        subst hk2
        have hk3 : (40 : Int) < xs.length := by omega
        go_wp2_with fail
        go_ret
        exact ⟨rfl, krH.out⟩
      · have hk2 : k = xs.length := by omega
        have hk3 : decide (k < xs.length) = false := decide_eq_false hk1
        go_wp2_with fail
        go_ret
        exact ⟨rfl, krH.out⟩
end Go.Proofs.Ytdmdnhceiddcfaa
