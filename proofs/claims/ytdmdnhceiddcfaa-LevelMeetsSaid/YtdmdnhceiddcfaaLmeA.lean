/- The walk of LevelMeets. -/
import Derived.Test.YtdmdnhceiddcfaaLnuA
set_option linter.all false
namespace Go.Proofs.Ytdmdnhceiddcfaa
open Go.RowKit Go.Sl Go.Scree

/-- How many of the first so many fit. -/
def cntM (p : MetaM → Bool) (xs : List MetaM) (k : Nat) : Nat := ((xs.take k).filter p).length
theorem cnt_yes {p : MetaM → Bool} {xs : List MetaM} {k : Nat} {x : MetaM} (h : xs[k]? = some x) (hp : p x = true) : (xs.filter p)[cntM p xs k]? = some x ∧ cntM p xs (k + 1) = cntM p xs k + 1 := by
  obtain ⟨hk, rfl⟩ := List.getElem?_eq_some_iff.1 h
  have e : xs = xs.take k ++ (xs[k] :: xs.drop (k + 1)) := by rw [← List.drop_eq_getElem_cons hk, List.take_append_drop]
  refine ⟨?_, ?_⟩
  · generalize xs[k] = x at *
    unfold cntM
    have e2 : xs.filter p = (xs.take k).filter p ++ (x :: (xs.drop (k + 1)).filter p) := by
      conv => lhs; rw [e]
      rw [List.filter_append, List.filter_cons_of_pos hp]
    rw [e2, List.getElem?_append_right (Nat.le_refl _), Nat.sub_self]
    rfl
  · unfold cntM
    rw [List.take_succ_eq_append_getElem hk, List.filter_append, List.filter_cons_of_pos hp]
    simp
theorem cnt_no {p : MetaM → Bool} {xs : List MetaM} {k : Nat} {x : MetaM} (h : xs[k]? = some x) (hp : p x = false) : cntM p xs (k + 1) = cntM p xs k := by
  obtain ⟨hk, rfl⟩ := List.getElem?_eq_some_iff.1 h
  unfold cntM
  rw [List.take_succ_eq_append_getElem hk, List.filter_append, List.filter_cons_of_neg (by simp [hp])]
  simp
theorem cnt_end (p : MetaM → Bool) (xs : List MetaM) : cntM p xs xs.length = (xs.filter p).length := by unfold cntM; rw [List.take_length]
theorem cnt_le (p : MetaM → Bool) (xs : List MetaM) (k : Nat) : cntM p xs k ≤ xs.length := Nat.le_trans (List.length_filter_le _ _) (by rw [List.length_take]; omega)
/-- A narrower range meets no more. -/
theorem meet_narrow {a b c : ByteArray} (h : ltK c a = false) (xs : List MetaM) : (xs.filter (meetB c b)).length ≤ (xs.filter (meetB a b)).length := by
  rw [← List.countP_eq_length_filter, ← List.countP_eq_length_filter]
  apply List.countP_mono_left
  intro m _ hm
  unfold meetB at hm ⊢
  simp only [Bool.and_eq_true, Bool.not_eq_true'] at hm ⊢
  exact ⟨nlt_trans h hm.1, hm.2⟩
theorem meetB_parts (a b : ByteArray) (m : MetaM) : ltK m.last a = true ∧ meetB a b m = false ∨ ltK m.last a = false ∧ ltK b m.first = true ∧ meetB a b m = false ∨ ltK m.last a = false ∧ ltK b m.first = false ∧ meetB a b m = true := by
  unfold meetB
  cases ltK m.last a <;> cases ltK b m.first <;> simp
theorem gtr_ltK (a b : ByteArray) : (!(Op.bytesLess a.toList b.toList || a.toList == b.toList)) = ltK b a := by rw [leq_ltK, Bool.not_not]
/-- What a law says where all its strings are short. -/
structure Shorts (a b c : ByteArray) : Prop where
  a : a.size ≤ 300
  b : b.size ≤ 300
  c : c.size ≤ 300
theorem short_cases (a b c : ByteArray) : decide ((a.size : Int) > 300) = true ∨ decide ((a.size : Int) > 300) = false ∧ (decide ((b.size : Int) > 300) = true ∨ decide ((b.size : Int) > 300) = false ∧ (decide ((c.size : Int) > 300) = true ∨ decide ((c.size : Int) > 300) = false)) := by
  simp only [decide_eq_true_eq, decide_eq_false_iff_not]; omega
set_option maxRecDepth 20000 in
set_option maxHeartbeats 12800000 in
theorem meetsLaw_c (v : Value) (xs : List EdV) (l : Int) (a b c : ByteArray) (w : World) (h : EdsR w v xs) (ha : a.size ≤ 140737488351232) (hb : b.size ≤ 140737488351232) (hc : c.size ≤ 140737488351232) :
    Calls Try.prog 7 #[v, .int .i64 l, .string a, .string b, .string c] w fun e w' => e = .returned (.bool true) ∧ Kp w w' := by
  obtain ⟨A, ca, rfl, hm, hca⟩ := h.rd.form
  have hl : xs.length ≤ 9223372036854775807 := by simpa [maxLen] using hm
  have hH := hid h
  have haw := hid (awake_c w)
  have hsc := hid (short_cases a b c)
  have iba : Hid (a.size ≤ 140737488351232 ∧ b.size ≤ 140737488351232 ∧ c.size ≤ 140737488351232) := hid ⟨ha, hb, hc⟩
  clear h hm hca
  go_enter Try.func7, Try.ntmps7
  go_wp2_with fail
  refine haw.out.mono ?_
  rintro e w1 ⟨rfl, k1⟩
  have k1H := hid k1
  clear haw k1
  rcases hsc.out with d1 | ⟨d1, d2 | ⟨d2, d3 | d3⟩⟩
  · clear hsc
    go_wp2_with fail
    go_ret
    exact ⟨rfl, k1H.out⟩
  · clear hsc
    go_wp2_with fail
    go_ret
    exact ⟨rfl, k1H.out⟩
  · clear hsc
    go_wp2_with fail
    go_ret
    exact ⟨rfl, k1H.out⟩
  clear hsc
  go_wp2_with fail
  refine (lnew_c w1).mono ?_
  rintro e w2 ⟨p0, S0, rfl, v0, k2⟩
  have v0H := hid v0
  have k2H := hid (k1H.out.trans k2)
  clear v0 k2 k1H ha hb hc d1 d2 d3
  go_wp2_with fail
  go_loopw [10, 11, 12] (fun _ q i wr => ∃ (k p : Nat) (S : Nat → SlA) (V : VerM), i = .int .i64 k ∧ (k ≤ xs.length ∧ k ≤ 40) ∧ q = .pointer (some ⟨p, 0, none⟩) ∧ VerR wr p S V ∧ VOk V ∧ Kp w wr) (fun _ _ i _ => xs.length - (intOf i).toNat)
  case atStart => exact ⟨0, p0, S0, newV, rfl, ⟨Nat.zero_le _, Nat.zero_le _⟩, rfl, v0H.out, newV_ok, k2H.out⟩
  case round =>
    clear v0H k2H
    obtain ⟨k, p, S, V, rfl, ⟨hk, hk40⟩, rfl, hv, hok, kr⟩ := hrel
    have hvH := hid hv
    have hokH := hid hok
    have krH := hid kr
    clear hv hok kr
    by_cases hlt : k < xs.length ∧ k < 40
    · obtain ⟨hlt, h40⟩ := hlt
      have hlt' : (k : Int) < xs.length := by omega
      have h40' : (k : Int) < 40 := by omega
      obtain ⟨x, hx⟩ : ∃ x, xs[k]? = some x := ⟨_, List.getElem?_eq_getElem hlt⟩
      obtain ⟨g, off, rfl, _, hce⟩ := rd_ed (hH.out.kp krH.out).rd rfl hx
      have hin := hid ((hH.out.kp krH.out).inn x (List.mem_of_getElem? hx))
      have hceH := hid hce
      clear hx hce
      obtain ⟨xg, xS, xE⟩ := x
      have a0 : wr.cell? ⟨g, off + k * 8, none⟩ = some (.slice xg.A xg.n xg.c) := hceH.out 0 (.slice xg.A xg.n xg.c) rfl
      have a1 := hceH.out 1 (.slice (xS 0).A (xS 0).n (xS 0).c) rfl
      have a2 := hceH.out 2 (.slice (xS 1).A (xS 1).n (xS 1).c) rfl
      have a3 := hceH.out 3 (.slice (xS 2).A (xS 2).n (xS 2).c) rfl
      have a4 := hceH.out 4 (.slice (xS 3).A (xS 3).n (xS 3).c) rfl
      have a5 := hceH.out 5 (.int .u64 xE.next) rfl
      have a6 := hceH.out 6 (.int .u64 xE.log) rfl
      have a7 := hceH.out 7 (.int .u64 xE.seq) rfl
      have hlg := hid (large_c xg xS xE wr hin.out)
      unfold editV at hlg
      go_wp2_with fail
      refine hlg.out.mono ?_
      rintro e w3 ⟨k3, b, rfl, hb⟩
      cases b with
      | true =>
        go_wp2_with fail
        go_ret
        exact ⟨rfl, krH.out.trans k3⟩
      | false =>
        have hsm := hb rfl
        have k3H := hid (krH.out.trans k3)
        have b0 := k3.cell a0
        have b1 := k3.cell a1
        have b2 := k3.cell a2
        have b3 := k3.cell a3
        have b4 := k3.cell a4
        have b5 := k3.cell a5
        have b6 := k3.cell a6
        have b7 := k3.cell a7
        have hv3 := hid (hvH.out.kp k3)
        have hap := hid (apply_c p S V xg xS xE w3 hv3.out hokH.out ((hin.out.kp k3).r hsm))
        unfold editV at hap
        clear hb k3 a0 a1 a2 a3 a4 a5 a6 a7 hsm hlg
        cases hr : applyP V xE with
        | inr cd =>
          rw [hr] at hap
          clear hr
          go_wp2_with fail
          refine hap.out.mono ?_
          rintro e w4 ⟨k4, rfl⟩
          have hv4 := hid (hv3.out.kp k4)
          have k4H := hid (k3H.out.trans k4)
          clear k4 hap b0 b1 b2 b3 b4 b5 b6 b7
          go_wp2_with fail
          go_roundw
          case rel => exact ⟨k + 1, p, S, V, by go_num, ⟨by omega, by omega⟩, rfl, hv4.out, hokH.out, k4H.out⟩
          case measure => simp [intOf]; omega
        | inl W =>
          rw [hr] at hap
          have hWok := hid (apply_ok hokH.out hr)
          clear hr
          go_wp2_with fail
          refine hap.out.mono ?_
          rintro e w4 ⟨k4, p2, S2, rfl, v4⟩
          have hw4 := hid v4
          have k4H := hid (k3H.out.trans k4)
          clear k4 hap b0 b1 b2 b3 b4 b5 b6 b7 v4
          go_wp2_with fail
          go_roundw
          case rel => exact ⟨k + 1, p2, S2, W, by go_num, ⟨by omega, by omega⟩, rfl, hw4.out, hWok.out, k4H.out⟩
          case measure => simp [intOf]; omega
    · have hm1 := hid (meet_c p S V l a b wr hvH.out)
      have hll := hid (levelM_few hvH.out.few l)
      have hk3 : k = 40 ∧ (40 : Int) < xs.length ∨ decide (k < xs.length) = false := by
        by_cases hk1 : k < xs.length
        · exact .inl ⟨by omega, by omega⟩
        · exact .inr (decide_eq_false hk1)
      clear hlt hH
      rcases hk3 with ⟨rfl, hk3⟩ | hk3
      all_goals
        go_wp2_with fail
        refine hm1.out.mono ?_
        rintro e w3 ⟨v3, rfl, o3, e3⟩
        have hrg := hid (sl_rd o3)
        obtain ⟨A3, n3, c3, rfl⟩ := sl_shape o3
        have k3H := hid (kp_of1 o3 e3)
        have hv3 := hid (hvH.out.kp k3H.out)
        have hn3 := rd_n (s := ⟨A3, n3, c3⟩) hrg.out
        have hl1 := hid (level_c p S V l w3 hv3.out)
        have hnar := hid (fun hlt => @meet_narrow a b c hlt (levelM V.lv l))
        have hm2 := hid (fun w hk => meet_c p S V l c b w (hv3.out.kp hk))
        unfold meetM at hrg hn3 hm2
        dsimp only at hn3
        generalize levelM V.lv l = ys at *
        clear o3 e3 hm1 hvH hv3
        go_wp2_with fail
        refine hl1.out.mono ?_
        rintro e w4 ⟨v4, rfl, o4, e4⟩
        have hry := hid (sl_rd o4)
        obtain ⟨A4, n4, c4, rfl⟩ := sl_shape o4
        have k4H := hid (kp_of1 o4 e4)
        have hn4 := rd_n (s := ⟨A4, n4, c4⟩) hry.out
        dsimp only at hn4
        have hrg4 := hid (k4H.out.rd hrg.out)
        subst hn4 hn3
        have hy63 : ys.length ≤ 9223372036854775807 := by have := hll.out; omega
        have hfl : (ys.filter (meetB a b)).length ≤ ys.length := List.length_filter_le _ _
        clear o4 e4 hl1 hrg
        go_wp2_with fail
        go_loopw [16, 71] (fun n i wq => ∃ j : Nat, i = .int .i64 j ∧ j ≤ ys.length ∧ n = .int .i64 (cntM (meetB a b) ys j) ∧ Kp w4 wq) (fun _ i _ => ys.length - (intOf i).toNat)
        case atStart => exact ⟨0, rfl, Nat.zero_le _, rfl, Kp.refl _⟩
        case round =>
          obtain ⟨j, rfl, hj, rfl, kj⟩ := hrel
          have kjH := hid kj
          clear kj
          by_cases hjl : j < ys.length
          · have hx : ys[j]? = some ys[j] := List.getElem?_eq_getElem hjl
            obtain ⟨g, off, rfl, _, d0, d1, d2, d3, d4⟩ := rd_meta (kjH.out.rd hry.out) rfl hx
            have hyes := hid (@cnt_yes (meetB a b) ys j _ hx)
            have hno := hid (@cnt_no (meetB a b) ys j _ hx)
            have hcl := cnt_le (meetB a b) ys j
            have hne := fun w => meta_neq ys[j] w
            generalize ys[j] = x at *
            clear hx
            have hjl' : (j : Int) < (ys.length : Int) := by omega
            have h1 := less_ltK x.last a
            have h2 := gtr_ltK x.first b
            have ka := hid (kjH.out.alloc (.cells #[.int .u64 x.file, .int .i64 x.size, .string x.first, .string x.last, .int .u64 x.seq] 56 (0, 0)))
            rcases meetB_parts a b x with ⟨e1, e3⟩ | ⟨e1, e2, e3⟩ | ⟨e1, e2, e3⟩
            · rw [e1] at h1
              have hc := hno.out e3
              clear h2 hyes hno hne e1 e3
              go_wp2_with fail
              go_roundw
              case rel => exact ⟨j + 1, by go_num, by omega, by rw [hc], ka.out⟩
              case measure => simp [intOf]; omega
            · rw [e1] at h1
              rw [e2] at h2
              have hc := hno.out e3
              clear hyes hno hne e1 e2 e3
              go_wp2_with fail
              go_roundw
              case rel => exact ⟨j + 1, by go_num, by omega, by rw [hc], ka.out⟩
              case measure => simp [intOf]; omega
            · rw [e1] at h1
              rw [e2] at h2
              obtain ⟨hat, hc⟩ := hyes.out e3
              obtain ⟨g2, off2, rfl, _, f0, f1, f2, f3, f4⟩ := rd_meta (ka.out.rd hrg4.out) rfl hat
              have hcl2 : cntM (meetB a b) ys j < (ys.filter (meetB a b)).length := (List.getElem?_eq_some_iff.1 hat).1
              have hcH := hid hc
              generalize cntM (meetB a b) ys j = q at *
              have hql : decide (q ≥ (ys.filter (meetB a b)).length) = false := decide_eq_false (by omega)
              clear hyes hno e1 e2 e3 hat hc
              generalize (ys.filter (meetB a b)).length = m at *
              go_wp2_with fail
              go_quiet (fail)
              go_wp2_with fail
              go_roundw
              case rel => exact ⟨j + 1, by go_num, by omega, by rw [hcH.out]; go_num, ka.out.drewN _⟩
              case measure => simp [intOf]; omega
          · obtain rfl : j = ys.length := by omega
            have hce := cnt_end (meetB a b) ys
            have hn := hid hnar.out
            have h1 := less_ltK c a
            have h2 := gtr_ltK c b
            rcases bool_cases (ltK c a) with e1 | e1
            · rw [e1] at h1
              rw [hce]
              clear hn h2 hce
              go_wp2_with fail
              go_ret
              exact ⟨rfl, ((krH.out.trans k3H.out).trans k4H.out).trans kjH.out⟩
            · rw [e1] at h1
              rcases bool_cases (ltK b c) with e2 | e2
              · rw [e2] at h2
                rw [hce]
                clear hn hce
                go_wp2_with fail
                go_ret
                exact ⟨rfl, ((krH.out.trans k3H.out).trans k4H.out).trans kjH.out⟩
              · rw [e2] at h2
                rw [hce]
                have hnn := hn.out e1
                clear hn hce e1 e2
                go_wp2_with fail
                refine (hm2.out _ (k4H.out.trans kjH.out)).mono ?_
                rintro e w5 ⟨v5, rfl, o5, e5⟩
                obtain ⟨A5, n5, c5, rfl⟩ := sl_shape o5
                have k5H := hid (kp_of1 o5 e5)
                have hn5 := rd_n (s := ⟨A5, n5, c5⟩) (sl_rd o5)
                dsimp only at hn5
                subst hn5
                clear o5 e5
                generalize (ys.filter (meetB c b)).length = m1 at *
                generalize (ys.filter (meetB a b)).length = m2 at *
                have hd : decide (m1 ≤ m2) = true := decide_eq_true hnn
                clear hnn
                go_wp2_with fail
                go_ret
                exact ⟨rfl, (((krH.out.trans k3H.out).trans k4H.out).trans kjH.out).trans k5H.out⟩
theorem levelMeets_row (v : Value) (xs : List EdV) (l : Int) (a b c : ByteArray) (W : World) (hr : Rd W edE v xs) (hp : ∀ x ∈ xs, EditW W x.g x.S x.E) (_ : (Lit.int .i64 l).wf = true) (ha : a.size ≤ 140737488351232) (hb : b.size ≤ 140737488351232) (hc : c.size ≤ 140737488351232) :
    Calls Try.prog 7 #[v, .int .i64 l, .string a, .string b, .string c] W fun e W' => e = .returned (.bool true) ∧ Below W.heap.size W W' := by
  refine (meetsLaw_c v xs l a b c W ⟨hr, hp⟩ ha hb hc).mono ?_
  rintro e w' ⟨h1, h2⟩
  exact ⟨h1, ⟨h2.ext.os, h2.ext.tape, h2.ext.output, h2.ext.size, h2.same⟩⟩
end Go.Proofs.Ytdmdnhceiddcfaa
