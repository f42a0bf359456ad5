/- The walk of MergeGroups. -/
import Derived.Test.YtihbflmjgndfiaaMNew
import Derived.Test.YtihbflmjgndfiaaEntQc
namespace Go.Proofs.Ytihbflmjgndfiaa
open Go.RowKit Go.Sl Go.Scree

theorem rd_take {α : Type} {E : Enc α} {w : World} {A : Option Addr} {n c : Nat} {xs : List α} (h : Rd w E (.slice A n c) xs) (k : Nat) (hk : k ≤ n) : Rd w E (.slice A k c) (xs.take k) := by
  rcases h with ⟨⟨A', cap, hv, hc⟩, rfl⟩ | ⟨g, off, cap, hv, h1, h2, hc⟩
  · simp only [Value.slice.injEq] at hv
    obtain ⟨rfl, rfl, rfl⟩ := hv
    obtain rfl : k = 0 := by omega
    exact .inl ⟨⟨_, _, rfl, hc⟩, by simp⟩
  · simp only [Value.slice.injEq] at hv
    obtain ⟨rfl, rfl, rfl⟩ := hv
    refine .inr ⟨g, off, c, by rw [List.length_take, Nat.min_eq_left hk], by rw [List.length_take]; omega, h2, fun i x hx j u hu => ?_⟩
    rw [List.getElem?_take] at hx
    split at hx
    · exact hc i x hx j u hu
    · cases hx
theorem rd_drop {α : Type} {E : Enc α} {w : World} {g off : Nat} {n c : Nat} {xs : List α} (h : Rd w E (.slice (some ⟨g, off, none⟩) n c) xs) (k : Nat) (hk : k ≤ n) : Rd w E (.slice (some ⟨g, off + k * E.size, none⟩) (n - k) (c - k)) (xs.drop k) := by
  rcases h with ⟨⟨A', cap, hv, hc⟩, rfl⟩ | ⟨g', off', cap, hv, h1, h2, hc⟩
  · simp only [Value.slice.injEq] at hv
    obtain ⟨_, rfl, rfl⟩ := hv
    exact .inl ⟨⟨_, _, by rw [Nat.zero_sub], by omega⟩, by simp⟩
  · simp only [Value.slice.injEq, Option.some.injEq, Addr.mk.injEq] at hv
    obtain ⟨⟨rfl, rfl, _⟩, rfl, rfl⟩ := hv
    refine .inr ⟨g, off + k * E.size, c - k, by rw [List.length_drop], by rw [List.length_drop]; omega, by omega, fun i x hx j u hu => ?_⟩
    rw [List.getElem?_drop] at hx
    have := hc (k + i) x hx j u hu
    rwa [show off + (k + i) * E.size + j = off + k * E.size + i * E.size + j from by rw [Nat.add_mul]; omega] at this
theorem rd_gone {α : Type} {E : Enc α} {w : World} {A : Option Addr} {c : Nat} (h : c ≤ maxLen) : Rd w E (.slice A 0 c) ([] : List α) := .inl ⟨⟨A, c, rfl, h⟩, rfl⟩

set_option maxRecDepth 20000 in
set_option maxHeartbeats 6400000 in
theorem mergeGroups_row (v : Value) (rs : List RowV) (a : Int) (W : World) (hr : Rd W rowE v rs) (hp : ∀ r ∈ rs, RowOk W r) (w1 : (Lit.int .u8 a).wf = true) :
    Calls Try.prog 4 #[v, .int .u8 a] W fun e W' => e = .returned (.bool true) ∧ Below W.heap.size W W' := by
  obtain ⟨A, c, rfl, hm, hcc⟩ := hr.form
  have hl : rs.length ≤ 9223372036854775807 := by simpa [maxLen] using hm
  have rH := hid hr
  have pH := hid hp
  have ha : 0 ≤ a ∧ a < 256 := by
    simp [Lit.wf, IntKind.min, IntKind.max, IntKind.signed, IntKind.bits] at w1
    omega
  obtain ⟨a, rfl⟩ := Int.eq_ofNat_of_zero_le ha.1
  have ha' : a < 256 := by omega
  clear hr hp w1 hm ha
  go_enter Try.func4, Try.ntmps4
  go_wp2_with fail
  refine (awake_c _).mono ?_
  rintro e wa ⟨rfl, ka⟩
  have kaH := hid ka
  clear ka
  go_wp2_with fail
  refine (large_c _ rs _ (kaH.out.rd rH.out) (fun r hr => kaH.out.rd (pH.out r hr).1)).mono ?_
  intro e wb hb
  obtain ⟨b, rfl, kb, hs⟩ := hb
  have kbH := hid (kaH.out.trans kb)
  clear kb
  cases b with
  | true =>
    clear hs
    go_wp2_with fail
    go_ret
    exact ⟨rfl, below_kp kbH.out⟩
  | false =>
    have hsm := hid (hs rfl)
    have hlen : rs.length ≤ 30 := (hs rfl).1
    have htot : Hid (totR (listsOf rs) ≤ 300) := hid (hs rfl).2
    have hRdr : ∀ w', Kp W w' → RdR w' (.slice A rs.length c) rs := fun w' k => ⟨k.rd rH.out, fun r hr => k.rd (pH.out r hr).1, fun r hr => by
      have h1 := htot.out
      obtain ⟨i, hi⟩ := List.getElem?_of_mem hr
      have h2 := totR_take (rows := listsOf rs) (k := i) (r := r.l) (by simp [listsOf, hi])
      have h3 := totR_take_le (listsOf rs) (i + 1)
      omega⟩
    have hRH := hid hRdr
    clear hs hRdr
    go_wp2_with fail
    refine (all_c _ rs _ (hRH.out _ kbH.out) (by omega) (by have := htot.out; omega)).mono ?_
    intro e wc hsay
    rcases bool_cases (goodR (listsOf rs)) with hg | hg
    · obtain ⟨v1, rfl, r1, k1⟩ := all_rd hsay hg
      obtain ⟨A1, c1, rfl, _, _⟩ := r1.form
      have r1H := hid r1
      have kcH := hid (kbH.out.trans k1)
      have hgH := hid hg
      clear hsay hg r1 k1
      obtain ⟨k, hk⟩ : ∃ k, a % (rs.length + 1) = k := ⟨_, rfl⟩
      have hmod : ((a : Int)).tmod ((rs.length : Int) + 1) = (k : Int) := by
        rw [Int.tmod_eq_emod_of_nonneg (by omega), ← hk]; simp
      have hkl : k ≤ rs.length := by have := Nat.mod_lt a (show 0 < rs.length + 1 by omega); omega
      clear hk
      go_wp2_with fail
      have hlT : listsOf (rs.take k) = (listsOf rs).take k := by simp [listsOf, List.map_take]
      have hlD : listsOf (rs.drop k) = (listsOf rs).drop k := by simp [listsOf, List.map_drop]
      have hgT : goodR (listsOf (rs.take k)) = true := by rw [hlT]; exact good_take hgH.out k
      have hgD : goodR (listsOf (rs.drop k)) = true := by rw [hlD]; exact good_drop hgH.out k
      have htT : totR (listsOf (rs.take k)) ≤ 300 := by rw [hlT]; have := totR_take_le (listsOf rs) k; have := htot.out; omega
      have htD : totR (listsOf (rs.drop k)) ≤ 300 := by rw [hlD]; have := totR_drop_le (listsOf rs) k; have := htot.out; omega
      have hgDH := hid hgD
      have htDH := hid htD
      have hlDH := hid hlD
      refine (all_c _ (rs.take k) _ ⟨rd_take (hRH.out _ kcH.out).out k hkl, fun r hr => (hRH.out _ kcH.out).ins r (List.mem_of_mem_take hr), fun r hr => (hRH.out _ kcH.out).small r (List.mem_of_mem_take hr)⟩ (by rw [List.length_take]; omega) (by omega)).mono ?_
      intro e wd hsay
      obtain ⟨v2, rfl, r2, k2⟩ := all_rd hsay hgT
      rw [hlT] at r2
      obtain ⟨A2, c2, rfl, _, _⟩ := r2.form
      have r2H := hid r2
      have k2H := hid k2
      have kdH := hid (kcH.out.trans k2)
      clear hsay r2 k2 hlT hlD hgT hgD htT htD
      have hc63 : c ≤ maxLen := by
        rcases rH.out with ⟨⟨_, cap, hv, hm⟩, _⟩ | ⟨_, _, cap, hv, _, hm, _⟩
        · simp only [Value.slice.injEq] at hv; obtain ⟨_, _, rfl⟩ := hv; exact hm
        · simp only [Value.slice.injEq] at hv; obtain ⟨_, _, rfl⟩ := hv; exact hm
      have hc63H := hid hc63
      clear hc63
      cases A with
      | none =>
        have hRD : Rd wd rowE (.slice none (rs.length - k) (c - k)) (rs.drop k) := by
          have hnil : rs = [] := by
            rcases rH.out with ⟨_, h⟩ | ⟨_, _, _, hv, _⟩
            · exact h
            · simp at hv
          rw [hnil]
          simp only [List.length_nil, Nat.zero_sub, List.drop_nil]
          exact rd_gone (by have := hc63H.out; omega)
        go_wp2_with fail
        refine (all_c _ (rs.drop k) _ ⟨hRD, fun r hr => (hRH.out _ kdH.out).ins r (List.mem_of_mem_drop hr), fun r hr => (hRH.out _ kdH.out).small r (List.mem_of_mem_drop hr)⟩ (by rw [List.length_drop]; omega) (by have := htDH.out; omega)).mono ?_
        intro e we hsay
        obtain ⟨v3, rfl, r3, k3⟩ := all_rd hsay hgDH.out
        rw [hlDH.out] at r3
        obtain ⟨A3, c3, rfl, _, _⟩ := r3.form
        have r3H := hid r3
        have k3H := hid k3
        have keH := hid (kdH.out.trans k3)
        clear hsay r3 k3 hRD
        have hgr := hid (allP_groups hgH.out k)
        have hrow := hid (allP_row hgH.out)
        have hrT := hid (allP_row (good_take hgH.out k))
        have hrD := hid (allP_row (good_drop hgH.out k))
        have hlenT : Hid ((allP ((listsOf rs).take k)).length ≤ 300) := hid (by have h1 := allP_len ((listsOf rs).take k); have h2 := totR_take_le (listsOf rs) k; have h3 := htot.out; omega)
        have hlenD : Hid ((allP ((listsOf rs).drop k)).length ≤ 300) := hid (by have h1 := allP_len ((listsOf rs).drop k); have h2 := totR_drop_le (listsOf rs) k; have h3 := htot.out; omega)
        have hlenA : Hid ((allP (listsOf rs)).length ≤ 300) := hid (by have h1 := allP_len (listsOf rs); have h3 := htot.out; omega)
        have r1e := hid ((k2H.out.trans k3H.out).rd r1H.out)
        have r2e := hid (k3H.out.rd r2H.out)
        clear r1H r2H
        generalize allP ((listsOf rs).take k) = pT at *
        generalize allP ((listsOf rs).drop k) = pD at *
        generalize allP (listsOf rs) = pA at *
        go_wp2_with fail
        refine (all_c _ [⟨A2, pT.length, c2, pT⟩, ⟨A3, pD.length, c3, pD⟩] _ (rdr_new rfl rfl (by simp [maxLen]) rfl (fun r hr => by
          simp only [List.mem_cons, List.not_mem_nil, or_false] at hr
          rcases hr with rfl | rfl
          · exact r2e.out
          · exact r3H.out) (fun r hr => by
          simp only [List.mem_cons, List.not_mem_nil, or_false] at hr
          rcases hr with rfl | rfl
          · have := hlenT.out; dsimp only; omega
          · have := hlenD.out; dsimp only; omega)) (by simp) (by have h1 := hlenT.out; have h2 := hlenD.out; simp [listsOf, totR]; omega)).mono ?_
        intro e wf hsay
        obtain ⟨v4, rfl, r4, k4⟩ := all_rd hsay (by simpa [listsOf] using good_two hrT.out hrD.out)
        have e4 : allP (listsOf [(⟨A2, pT.length, c2, pT⟩ : RowV), ⟨A3, pD.length, c3, pD⟩]) = pA := hgr.out
        rw [e4] at r4
        obtain ⟨A4, c4, rfl, _, _⟩ := r4.form
        have r4H := hid r4
        have k4H := hid (((Kp.refl we).alloc _).trans k4)
        clear hsay r4 k4 e4
        go_wp2_with fail
        refine (all_c _ [⟨A1, pA.length, c1, pA⟩] _ (rdr_new rfl rfl (by simp [maxLen]) rfl (fun r hr => by rw [List.mem_singleton.1 hr]; exact k4H.out.rd r1e.out) (fun r hr => by rw [List.mem_singleton.1 hr]; have := hlenA.out; dsimp only; omega)) (by simp) (by have h1 := hlenA.out; simp [listsOf, totR]; omega)).mono ?_
        intro e wg hsay
        obtain ⟨v5, rfl, r5, k5⟩ := all_rd hsay (by simpa [listsOf] using good_one hrow.out)
        have e5 : allP (listsOf [(⟨A1, pA.length, c1, pA⟩ : RowV)]) = pA := allP_one hrow.out
        rw [e5] at r5
        obtain ⟨A5, c5, rfl, _, _⟩ := r5.form
        have r5H := hid r5
        have k5H := hid (((Kp.refl wf).alloc _).trans k5)
        clear hsay r5 k5 e5
        go_wp2_with fail
        refine (same_c _ _ pA _ ((k4H.out.trans k5H.out).rd r1e.out) (k5H.out.rd r4H.out)).mono ?_
        rintro e wh ⟨rfl, k6⟩
        have k6H := hid k6
        clear k6
        go_wp2_with fail
        refine (same_c _ _ pA _ ((k4H.out.trans (k5H.out.trans k6H.out)).rd r1e.out) (k6H.out.rd r5H.out)).mono ?_
        rintro e wi ⟨rfl, k7⟩
        have k7H := hid k7
        clear k7
        go_wp2_with fail
        refine (row_c _ pA _ ((k4H.out.trans (k5H.out.trans (k6H.out.trans k7H.out))).rd r1e.out)).mono ?_
        rintro e wj ⟨rfl, k8⟩
        rw [rowB_iff.2 hrow.out]
        have kall := hid (keH.out.trans (k4H.out.trans (k5H.out.trans (k6H.out.trans (k7H.out.trans k8)))))
        clear k8
        go_wp2_with fail
        go_ret
        exact ⟨rfl, below_kp kall.out⟩
      | some ad =>
        by_cases hkc : k = c
        · have hRD : Rd wd rowE (.slice (some ad) 0 0) (rs.drop k) := by
            have hd : rs.drop k = [] := List.drop_eq_nil_of_le (by omega)
            rw [hd]
            exact rd_gone (by simp [maxLen])
          subst hkc
          go_wp2_with fail
          refine (all_c _ (rs.drop k) _ ⟨hRD, fun r hr => (hRH.out _ kdH.out).ins r (List.mem_of_mem_drop hr), fun r hr => (hRH.out _ kdH.out).small r (List.mem_of_mem_drop hr)⟩ (by rw [List.length_drop]; omega) (by have := htDH.out; omega)).mono ?_
          intro e we hsay
          obtain ⟨v3, rfl, r3, k3⟩ := all_rd hsay hgDH.out
          rw [hlDH.out] at r3
          obtain ⟨A3, c3, rfl, _, _⟩ := r3.form
          have r3H := hid r3
          have k3H := hid k3
          have keH := hid (kdH.out.trans k3)
          clear hsay r3 k3 hRD
          have hgr := hid (allP_groups hgH.out k)
          have hrow := hid (allP_row hgH.out)
          have hrT := hid (allP_row (good_take hgH.out k))
          have hrD := hid (allP_row (good_drop hgH.out k))
          have hlenT : Hid ((allP ((listsOf rs).take k)).length ≤ 300) := hid (by have h1 := allP_len ((listsOf rs).take k); have h2 := totR_take_le (listsOf rs) k; have h3 := htot.out; omega)
          have hlenD : Hid ((allP ((listsOf rs).drop k)).length ≤ 300) := hid (by have h1 := allP_len ((listsOf rs).drop k); have h2 := totR_drop_le (listsOf rs) k; have h3 := htot.out; omega)
          have hlenA : Hid ((allP (listsOf rs)).length ≤ 300) := hid (by have h1 := allP_len (listsOf rs); have h3 := htot.out; omega)
          have r1e := hid ((k2H.out.trans k3H.out).rd r1H.out)
          have r2e := hid (k3H.out.rd r2H.out)
          clear r1H r2H
          generalize allP ((listsOf rs).take k) = pT at *
          generalize allP ((listsOf rs).drop k) = pD at *
          generalize allP (listsOf rs) = pA at *
          go_wp2_with fail
          refine (all_c _ [⟨A2, pT.length, c2, pT⟩, ⟨A3, pD.length, c3, pD⟩] _ (rdr_new rfl rfl (by simp [maxLen]) rfl (fun r hr => by
            simp only [List.mem_cons, List.not_mem_nil, or_false] at hr
            rcases hr with rfl | rfl
            · exact r2e.out
            · exact r3H.out) (fun r hr => by
            simp only [List.mem_cons, List.not_mem_nil, or_false] at hr
            rcases hr with rfl | rfl
            · have := hlenT.out; dsimp only; omega
            · have := hlenD.out; dsimp only; omega)) (by simp) (by have h1 := hlenT.out; have h2 := hlenD.out; simp [listsOf, totR]; omega)).mono ?_
          intro e wf hsay
          obtain ⟨v4, rfl, r4, k4⟩ := all_rd hsay (by simpa [listsOf] using good_two hrT.out hrD.out)
          have e4 : allP (listsOf [(⟨A2, pT.length, c2, pT⟩ : RowV), ⟨A3, pD.length, c3, pD⟩]) = pA := hgr.out
          rw [e4] at r4
          obtain ⟨A4, c4, rfl, _, _⟩ := r4.form
          have r4H := hid r4
          have k4H := hid (((Kp.refl we).alloc _).trans k4)
          clear hsay r4 k4 e4
          go_wp2_with fail
          refine (all_c _ [⟨A1, pA.length, c1, pA⟩] _ (rdr_new rfl rfl (by simp [maxLen]) rfl (fun r hr => by rw [List.mem_singleton.1 hr]; exact k4H.out.rd r1e.out) (fun r hr => by rw [List.mem_singleton.1 hr]; have := hlenA.out; dsimp only; omega)) (by simp) (by have h1 := hlenA.out; simp [listsOf, totR]; omega)).mono ?_
          intro e wg hsay
          obtain ⟨v5, rfl, r5, k5⟩ := all_rd hsay (by simpa [listsOf] using good_one hrow.out)
          have e5 : allP (listsOf [(⟨A1, pA.length, c1, pA⟩ : RowV)]) = pA := allP_one hrow.out
          rw [e5] at r5
          obtain ⟨A5, c5, rfl, _, _⟩ := r5.form
          have r5H := hid r5
          have k5H := hid (((Kp.refl wf).alloc _).trans k5)
          clear hsay r5 k5 e5
          go_wp2_with fail
          refine (same_c _ _ pA _ ((k4H.out.trans k5H.out).rd r1e.out) (k5H.out.rd r4H.out)).mono ?_
          rintro e wh ⟨rfl, k6⟩
          have k6H := hid k6
          clear k6
          go_wp2_with fail
          refine (same_c _ _ pA _ ((k4H.out.trans (k5H.out.trans k6H.out)).rd r1e.out) (k6H.out.rd r5H.out)).mono ?_
          rintro e wi ⟨rfl, k7⟩
          have k7H := hid k7
          clear k7
          go_wp2_with fail
          refine (row_c _ pA _ ((k4H.out.trans (k5H.out.trans (k6H.out.trans k7H.out))).rd r1e.out)).mono ?_
          rintro e wj ⟨rfl, k8⟩
          rw [rowB_iff.2 hrow.out]
          have kall := hid (keH.out.trans (k4H.out.trans (k5H.out.trans (k6H.out.trans (k7H.out.trans k8)))))
          clear k8
          go_wp2_with fail
          go_ret
          exact ⟨rfl, below_kp kall.out⟩
        · have hRD : Rd wd rowE (.slice (some (ad.add k)) (rs.length - k) (c - k)) (rs.drop k) := by
            have h0 := (hRH.out _ kdH.out).out
            rcases h0 with ⟨_, hnil⟩ | ⟨g, off, cap, hv, _⟩
            · rw [hnil]
              simp only [List.length_nil, Nat.zero_sub, List.drop_nil]
              exact rd_gone (by have := hc63H.out; omega)
            · simp only [Value.slice.injEq, Option.some.injEq] at hv
              obtain ⟨rfl, _, _⟩ := hv
              have h1 := rd_drop (hRH.out _ kdH.out).out k hkl
              have e : (⟨g, off, none⟩ : Addr).add k = ⟨g, off + k * rowE.size, none⟩ := by
                unfold Addr.add
                split
                · rename_i hz; subst hz; simp
                · simp [rowE]
              rw [e]; exact h1
          go_wp2_with fail
          refine (all_c _ (rs.drop k) _ ⟨hRD, fun r hr => (hRH.out _ kdH.out).ins r (List.mem_of_mem_drop hr), fun r hr => (hRH.out _ kdH.out).small r (List.mem_of_mem_drop hr)⟩ (by rw [List.length_drop]; omega) (by have := htDH.out; omega)).mono ?_
          intro e we hsay
          obtain ⟨v3, rfl, r3, k3⟩ := all_rd hsay hgDH.out
          rw [hlDH.out] at r3
          obtain ⟨A3, c3, rfl, _, _⟩ := r3.form
          have r3H := hid r3
          have k3H := hid k3
          have keH := hid (kdH.out.trans k3)
          clear hsay r3 k3 hRD
          have hgr := hid (allP_groups hgH.out k)
          have hrow := hid (allP_row hgH.out)
          have hrT := hid (allP_row (good_take hgH.out k))
          have hrD := hid (allP_row (good_drop hgH.out k))
          have hlenT : Hid ((allP ((listsOf rs).take k)).length ≤ 300) := hid (by have h1 := allP_len ((listsOf rs).take k); have h2 := totR_take_le (listsOf rs) k; have h3 := htot.out; omega)
          have hlenD : Hid ((allP ((listsOf rs).drop k)).length ≤ 300) := hid (by have h1 := allP_len ((listsOf rs).drop k); have h2 := totR_drop_le (listsOf rs) k; have h3 := htot.out; omega)
          have hlenA : Hid ((allP (listsOf rs)).length ≤ 300) := hid (by have h1 := allP_len (listsOf rs); have h3 := htot.out; omega)
          have r1e := hid ((k2H.out.trans k3H.out).rd r1H.out)
          have r2e := hid (k3H.out.rd r2H.out)
          clear r1H r2H
          generalize allP ((listsOf rs).take k) = pT at *
          generalize allP ((listsOf rs).drop k) = pD at *
          generalize allP (listsOf rs) = pA at *
          go_wp2_with fail
          refine (all_c _ [⟨A2, pT.length, c2, pT⟩, ⟨A3, pD.length, c3, pD⟩] _ (rdr_new rfl rfl (by simp [maxLen]) rfl (fun r hr => by
            simp only [List.mem_cons, List.not_mem_nil, or_false] at hr
            rcases hr with rfl | rfl
            · exact r2e.out
            · exact r3H.out) (fun r hr => by
            simp only [List.mem_cons, List.not_mem_nil, or_false] at hr
            rcases hr with rfl | rfl
            · have := hlenT.out; dsimp only; omega
            · have := hlenD.out; dsimp only; omega)) (by simp) (by have h1 := hlenT.out; have h2 := hlenD.out; simp [listsOf, totR]; omega)).mono ?_
          intro e wf hsay
          obtain ⟨v4, rfl, r4, k4⟩ := all_rd hsay (by simpa [listsOf] using good_two hrT.out hrD.out)
          have e4 : allP (listsOf [(⟨A2, pT.length, c2, pT⟩ : RowV), ⟨A3, pD.length, c3, pD⟩]) = pA := hgr.out
          rw [e4] at r4
          obtain ⟨A4, c4, rfl, _, _⟩ := r4.form
          have r4H := hid r4
          have k4H := hid (((Kp.refl we).alloc _).trans k4)
          clear hsay r4 k4 e4
          go_wp2_with fail
          refine (all_c _ [⟨A1, pA.length, c1, pA⟩] _ (rdr_new rfl rfl (by simp [maxLen]) rfl (fun r hr => by rw [List.mem_singleton.1 hr]; exact k4H.out.rd r1e.out) (fun r hr => by rw [List.mem_singleton.1 hr]; have := hlenA.out; dsimp only; omega)) (by simp) (by have h1 := hlenA.out; simp [listsOf, totR]; omega)).mono ?_
          intro e wg hsay
          obtain ⟨v5, rfl, r5, k5⟩ := all_rd hsay (by simpa [listsOf] using good_one hrow.out)
          have e5 : allP (listsOf [(⟨A1, pA.length, c1, pA⟩ : RowV)]) = pA := allP_one hrow.out
          rw [e5] at r5
          obtain ⟨A5, c5, rfl, _, _⟩ := r5.form
          have r5H := hid r5
          have k5H := hid (((Kp.refl wf).alloc _).trans k5)
          clear hsay r5 k5 e5
          go_wp2_with fail
          refine (same_c _ _ pA _ ((k4H.out.trans k5H.out).rd r1e.out) (k5H.out.rd r4H.out)).mono ?_
          rintro e wh ⟨rfl, k6⟩
          have k6H := hid k6
          clear k6
          go_wp2_with fail
          refine (same_c _ _ pA _ ((k4H.out.trans (k5H.out.trans k6H.out)).rd r1e.out) (k6H.out.rd r5H.out)).mono ?_
          rintro e wi ⟨rfl, k7⟩
          have k7H := hid k7
          clear k7
          go_wp2_with fail
          refine (row_c _ pA _ ((k4H.out.trans (k5H.out.trans (k6H.out.trans k7H.out))).rd r1e.out)).mono ?_
          rintro e wj ⟨rfl, k8⟩
          rw [rowB_iff.2 hrow.out]
          have kall := hid (keH.out.trans (k4H.out.trans (k5H.out.trans (k6H.out.trans (k7H.out.trans k8)))))
          clear k8
          go_wp2_with fail
          go_ret
          exact ⟨rfl, below_kp kall.out⟩
    · obtain ⟨rfl, k1⟩ := all_bad hsay hg
      have kcH := hid (kbH.out.trans k1)
      clear hsay hg k1
      go_wp2_with fail
      go_ret
      exact ⟨rfl, below_kp kcH.out⟩
end Go.Proofs.Ytihbflmjgndfiaa
