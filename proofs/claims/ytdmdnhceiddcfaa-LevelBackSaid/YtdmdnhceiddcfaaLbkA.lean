/- The walk of LevelBack. -/
import Derived.Test.YtdmdnhceiddcfaaLnuA
import Derived.Test.YtdmdnhceiddcfaaLbkP
import Derived.Deep.CutBlock
import Derived.Deep.DeepCutAuto
set_option linter.all false
namespace Go.Proofs.Ytdmdnhceiddcfaa
open Go.RowKit Go.Sl Go.Scree

theorem numW_len {n : Nat} (h : n ≤ 1099511627776) : (numW n).length ≤ 10 := shortB_le (by omega)
theorem flat_len {α : Type} (f : α → List UInt8) (c : Nat) : ∀ (l : List α), (∀ x ∈ l, (f x).length ≤ c) → ((l.map f).flatten).length ≤ l.length * c
  | [], _ => by simp
  | x :: l, h => by
    rw [List.map_cons, List.flatten_cons, List.length_append, List.length_cons, Nat.add_mul]
    have := h x (by simp)
    have := flat_len f c l fun y hy => h y (by simp [hy])
    omega
theorem textW_len {s : ByteArray} (h : s.size ≤ 100) : (textW s).length ≤ 110 := by
  unfold textW
  rw [List.length_append]
  have h1 : (shortB s.size).length ≤ 10 := shortB_le (by omega)
  have h2 : s.data.toList.length = s.size := by rw [Array.length_toList]; rfl
  omega
theorem metaW_len {m : MetaM} (h : mayB m = true) : (metaW m).length ≤ 250 := by
  obtain ⟨⟨h1, h2⟩, ⟨h3, h4⟩, ⟨h5, h6⟩, ⟨h7, h8⟩, h9, h10, h11⟩ := may_parts h
  unfold metaW
  simp only [List.length_append]
  have a1 := numW_len h2
  have a2 := numW_len (n := m.size.toNat) (by omega)
  have a3 := textW_len h6
  have a4 := textW_len h8
  have a5 := numW_len h11
  omega
theorem encW_len {E : EditM} (h : encOk E = true) : (encW E).length ≤ 100000 := by
  obtain ⟨h1, h2, h3, h4, h5, h6, h7⟩ := encOk_parts h
  unfold encW
  rw [List.length_append, List.length_append]
  have a1 : (((headL E).map numW).flatten).length ≤ (headL E).length * 10 := flat_len _ _ _ (by
    intro x hx
    apply numW_len
    unfold big40 at h2 h3 h4
    simp only [headL, List.mem_cons, List.not_mem_nil, or_false] at hx
    omega)
  have a2 : ((E.gone.map numW).flatten).length ≤ E.gone.length * 10 := flat_len _ _ _ (fun x hx => numW_len (h6 x hx))
  have a3 : ((four.map fun l => levelW (E.nw l)).flatten).length ≤ four.length * 7600 := flat_len _ _ _ (by
    intro l hl
    have hl4 : l < 4 := by simp [four] at hl; omega
    unfold levelW
    rw [List.length_append]
    have b1 := numW_len (n := (E.nw l).length) (by have := h7 l hl4; omega)
    have b2 : (((E.nw l).map metaW).flatten).length ≤ (E.nw l).length * 250 := flat_len _ _ _ (fun m hm => metaW_len (List.all_eq_true.1 h1 m (mem_flat.2 ⟨l, hl4, hm⟩)))
    have := h7 l hl4
    omega)
  have b1 : (headL E).length = 4 := rfl
  have b3 : four.length = 4 := rfl
  rw [b1] at a1
  rw [b3] at a3
  omega
set_option maxRecDepth 20000 in
set_option maxHeartbeats 12800000 in
theorem backLaw_c (g : SlA) (S : Nat → SlA) (E : EditM) (s : ByteArray) (w : World) (h : EditW w g S E) (hs : s.size ≤ 140737488351232) :
    Calls Try.prog 8 #[editV g S E, .string s] w fun e w' => e = .returned (.bool true) ∧ Kp w w' := by
  have hH := hid h
  have hsH := hid hs
  have k0 := hid ((Kp.refl w).alloc (.cells (editCells g S E) 34 (0, 0)))
  have haw := hid (awake_c (w.alloc (.cells (editCells g S E) 34 (0, 0))))
  have oE := (Own.start w).alloc (.cells (editCells g S E) 34 (0, 0))
  have a0 := (oE).cell (i := 0) (v := .slice g.A g.n g.c) rfl
  have a1 := (oE).cell (i := 1) (v := .slice (S 0).A (S 0).n (S 0).c) rfl
  have a2 := (oE).cell (i := 2) (v := .slice (S 1).A (S 1).n (S 1).c) rfl
  have a3 := (oE).cell (i := 3) (v := .slice (S 2).A (S 2).n (S 2).c) rfl
  have a4 := (oE).cell (i := 4) (v := .slice (S 3).A (S 3).n (S 3).c) rfl
  have a5 := (oE).cell (i := 5) (v := .int .u64 E.next) rfl
  have a6 := (oE).cell (i := 6) (v := .int .u64 E.log) rfl
  have a7 := (oE).cell (i := 7) (v := .int .u64 E.seq) rfl
  have hlg := hid (fun w1 (k : Kp w w1) => large_c g S E w1 (h.kp k))
  unfold editV at hlg ⊢
  unfold editCells at haw a0 a1 a2 a3 a4 a5 a6 a7
  clear h oE
  go_enter Try.func8, Try.ntmps8
  go_wp2_with fail
  refine haw.out.mono ?_
  rintro e w1 ⟨rfl, k1⟩
  generalize hb : w.heap.size = eb at *
  have b0 := k1.cell a0
  have b1 := k1.cell a1
  have b2 := k1.cell a2
  have b3 := k1.cell a3
  have b4 := k1.cell a4
  have b5 := k1.cell a5
  have b6 := k1.cell a6
  have b7 := k1.cell a7
  clear a0 a1 a2 a3 a4 a5 a6 a7
  have k1H := hid (k0.out.trans k1)
  clear haw k1 k0 hb
  go_wp2_with fail
  refine (hlg.out w1 k1H.out).mono ?_
  rintro e w2 ⟨k2, lb, rfl, hlb⟩
  have c0 := k2.cell b0
  have c1 := k2.cell b1
  have c2 := k2.cell b2
  have c3 := k2.cell b3
  have c4 := k2.cell b4
  have c5 := k2.cell b5
  have c6 := k2.cell b6
  have c7 := k2.cell b7
  clear b0 b1 b2 b3 b4 b5 b6 b7
  have k2H := hid (k1H.out.trans k2)
  clear k2 hlg k1H
  cases lb with
  | true =>
    go_wp2_with fail
    go_ret
    exact ⟨rfl, k2H.out⟩
  | false =>
    have hsm := hid (hlb rfl)
    clear hlb
    have h8 : decide ((s.size : Int) > 8192) = true ∨ decide ((s.size : Int) > 8192) = false ∧ s.size ≤ 8192 := by
      simp only [decide_eq_true_eq, decide_eq_false_iff_not]; omega
    rcases h8 with h8 | ⟨h8, h8n⟩
    · go_wp2_with fail
      go_ret
      exact ⟨rfl, k2H.out⟩
    have h8H := hid h8n
    have hR := hid (fun w1 (k : Kp w w1) => ((hH.out.kp k).r hsm.out))
    have hen := hid (fun w1 (k : Kp w w1) => encode_c g S E w1 (hR.out w1 k))
    have hsame := hid (fun g' S' w1 (k : Kp w w1) (hr : EditR w1 g' S' E) => same_c g g' S S' E w1 (hR.out w1 k) hr)
    unfold EncSays at hen
    unfold editV at hen hsame
    clear hs hH hsm h8n
    go_wp2_with fail
    refine (hen.out w2 k2H.out).mono ?_
    rintro e w3 ⟨k3, rfl⟩
    have d0 := k3.cell c0
    have d1 := k3.cell c1
    have d2 := k3.cell c2
    have d3 := k3.cell c3
    have d4 := k3.cell c4
    have d5 := k3.cell c5
    have d6 := k3.cell c6
    have d7 := k3.cell c7
    clear c0 c1 c2 c3 c4 c5 c6 c7
    have k3H := hid (k2H.out.trans k3)
    clear k3 k2H hen h8
    have hab : (encOk E = true ∧ (⟨(encW E).toArray⟩ : ByteArray) = (if encOk E = true then ⟨(encW E).toArray⟩ else ⟨#[]⟩) ∧ (if encOk E = true then (0 : Int) else 2) = 0) ∨ (encOk E = false ∧ (if encOk E = true then (⟨(encW E).toArray⟩ : ByteArray) else ⟨#[]⟩) = ⟨#[]⟩ ∧ (if encOk E = true then (0 : Int) else 2) = 2) := by
      cases encOk E <;> simp
    generalize (if encOk E = true then (⟨(encW E).toArray⟩ : ByteArray) else ⟨#[]⟩) = av at *
    generalize (if encOk E = true then (0 : Int) else 2) = ac at *
    have habH := hid hab
    clear hab
    go_upto_if 32 with fail
    go_cut [] (fun wc => Kp w wc ∧ Kp w3 wc)
    case first =>
      rcases habH.out with ⟨hok, hav, hac⟩ | ⟨hok, hav, hac⟩
      · have hde := hid (fun w1 => decode_c (encW E) (Nat.le_trans (encW_len hok) (by omega)) w1)
        unfold DecSays at hde
        rw [decP_enc hok] at hde
        unfold editV at hde
        dsimp only at hde
        rw [hav] at hde
        have hc0 : (ac == 0) = true := by rw [hac]; rfl
        clear hok hav hac
        go_wp2_with fail
        refine (hde.out w3).mono ?_
        rintro e w4 ⟨k4, g4, S4, rfl, r4⟩
        have o4 := (Own.start w4).alloc (.cells (editCells g4 S4 E) 34 (0, 0))
        unfold editCells at o4
        have f0 := (o4).cell (i := 0) (v := .slice g4.A g4.n g4.c) rfl
        have f1 := (o4).cell (i := 1) (v := .slice (S4 0).A (S4 0).n (S4 0).c) rfl
        have f2 := (o4).cell (i := 2) (v := .slice (S4 1).A (S4 1).n (S4 1).c) rfl
        have f3 := (o4).cell (i := 3) (v := .slice (S4 2).A (S4 2).n (S4 2).c) rfl
        have f4 := (o4).cell (i := 4) (v := .slice (S4 3).A (S4 3).n (S4 3).c) rfl
        have f5 := (o4).cell (i := 5) (v := .int .u64 E.next) rfl
        have f6 := (o4).cell (i := 6) (v := .int .u64 E.log) rfl
        have f7 := (o4).cell (i := 7) (v := .int .u64 E.seq) rfl
        have k5 : Kp w4 (w4.alloc (.cells (editCells g4 S4 E) 34 (0, 0))) := (Kp.refl w4).alloc _
        unfold editCells at k5
        have k5H := hid (k4.trans k5)
        have r5 := hid ((edr_cut r4).kp k5)
        have d0' := k5H.out.cell d0
        have d1' := k5H.out.cell d1
        have d2' := k5H.out.cell d2
        have d3' := k5H.out.cell d3
        have d4' := k5H.out.cell d4
        have d5' := k5H.out.cell d5
        have d6' := k5H.out.cell d6
        have d7' := k5H.out.cell d7
        clear k4 r4 k5 o4 hde d0 d1 d2 d3 d4 d5 d6 d7
        go_wp2_with fail
        refine (hsame.out g4 S4 _ (k3H.out.trans k5H.out) r5.out).mono ?_
        rintro e w6 ⟨rfl, k6⟩
        have k6H := hid (k5H.out.trans k6)
        clear k6 f0 f1 f2 f3 f4 f5 f6 f7 d0' d1' d2' d3' d4' d5' d6' d7'
        go_wp2_with fail
        go_meet
        case rel => exact ⟨k3H.out.trans k6H.out, k6H.out⟩
      · have hc0 : (ac == 0) = false := by rw [hac]; rfl
        have ha0 : av.toList = [] := by rw [hav, Lib.toList_data]
        clear hok hav hac
        go_wp2_with fail
        go_meet
        case rel => exact ⟨k3H.out, Kp.refl _⟩
    case rest =>
      obtain ⟨kc, kc3⟩ := hcut
      have f0 := kc3.cell d0
      have f1 := kc3.cell d1
      have f2 := kc3.cell d2
      have f3 := kc3.cell d3
      have f4 := kc3.cell d4
      have f5 := kc3.cell d5
      have f6 := kc3.cell d6
      have f7 := kc3.cell d7
      clear d0 d1 d2 d3 d4 d5 d6 d7
      have kcH := hid kc
      clear kc kc3 k3H
      have hde := hid (fun w1 => decode_c s.data.toList (by have := h8H.out; rw [Array.length_toList]; show s.size ≤ _; omega) w1)
      rw [show (⟨s.data.toList.toArray⟩ : ByteArray) = s by cases s; simp] at hde
      have hback := hid (@decP_back s.data.toList)
      have hcode := @decP_code s.data.toList
      unfold DecSays at hde
      unfold editV at hde
      generalize decP s.data.toList = dp at *
      obtain ⟨dE, dc⟩ := dp
      dsimp only at hde hback hcode
      go_wp2_with fail
      refine (hde.out wc).mono ?_
      rintro e w4 ⟨k4, g4, S4, rfl, r4⟩
      have o4 := (Own.start w4).alloc (.cells (editCells g4 S4 dE) 34 (0, 0))
      unfold editCells at o4
      have a0 := (o4).cell (i := 0) (v := .slice g4.A g4.n g4.c) rfl
      have a1 := (o4).cell (i := 1) (v := .slice (S4 0).A (S4 0).n (S4 0).c) rfl
      have a2 := (o4).cell (i := 2) (v := .slice (S4 1).A (S4 1).n (S4 1).c) rfl
      have a3 := (o4).cell (i := 3) (v := .slice (S4 2).A (S4 2).n (S4 2).c) rfl
      have a4 := (o4).cell (i := 4) (v := .slice (S4 3).A (S4 3).n (S4 3).c) rfl
      have a5 := (o4).cell (i := 5) (v := .int .u64 dE.next) rfl
      have a6 := (o4).cell (i := 6) (v := .int .u64 dE.log) rfl
      have a7 := (o4).cell (i := 7) (v := .int .u64 dE.seq) rfl
      have k5 : Kp w4 (w4.alloc (.cells (editCells g4 S4 dE) 34 (0, 0))) := (Kp.refl w4).alloc _
      unfold editCells at k5
      have k5H := hid (k4.trans k5)
      have r5 := hid (r4.kp k5)
      have b0 := k5H.out.cell f0
      have b1 := k5H.out.cell f1
      have b2 := k5H.out.cell f2
      have b3 := k5H.out.cell f3
      have b4 := k5H.out.cell f4
      have b5 := k5H.out.cell f5
      have b6 := k5H.out.cell f6
      have b7 := k5H.out.cell f7
      clear f0 f1 f2 f3 f4 f5 f6 f7
      have k6H := hid (kcH.out.trans k5H.out)
      have henc := hid (fun w1 (hr : EditR w1 g4 S4 dE) => encode_c g4 S4 dE w1 hr)
      unfold EncSays at henc
      unfold editV at henc
      clear k4 r4 k5 o4 hde kcH k5H
      obtain ⟨w5, hw5⟩ : ∃ w5, w5 = w4.alloc (.cells #[.slice g4.A g4.n g4.c, .slice (S4 0).A (S4 0).n (S4 0).c, .slice (S4 1).A (S4 1).n (S4 1).c, .slice (S4 2).A (S4 2).n (S4 2).c, .slice (S4 3).A (S4 3).n (S4 3).c, .int .u64 dE.next, .int .u64 dE.log, .int .u64 dE.seq] 34 (0, 0)) := ⟨_, rfl⟩
      go_upto_if 54 with fail
      rw [← hw5] at a0 a1 a2 a3 a4 a5 a6 a7 b0 b1 b2 b3 b4 b5 b6 b7 k6H r5 ⊢
      clear hw5
      go_cut [] (fun wd => Kp w5 wd)
      case first =>
        rcases hcode with rfl | rfl
        · obtain ⟨hok, hw⟩ := hback.out rfl
          rw [hok, if_pos rfl, if_pos rfl, hw, show (⟨s.data.toList.toArray⟩ : ByteArray) = s by cases s; simp] at henc
          clear hback hok hw b0 b1 b2 b3 b4 b5 b6 b7
          go_wp2_with fail
          refine (henc.out w5 r5.out).mono ?_
          rintro e w6 ⟨k6, rfl⟩
          have k7H := hid k6
          clear a0 a1 a2 a3 a4 a5 a6 a7 k6
          go_wp2_with fail
          go_meet
          case rel => exact k7H.out
        · clear hback henc
          go_wp2_with fail
          go_meet
          case rel => exact Kp.refl _
      case rest =>
        clear a0 a1 a2 a3 a4 a5 a6 a7 hback hcode henc r5
        have kdH := hid (k6H.out.trans hcut)
        have a0 := hcut.cell b0
        have a1 := hcut.cell b1
        have a2 := hcut.cell b2
        have a3 := hcut.cell b3
        have a4 := hcut.cell b4
        have a5 := hcut.cell b5
        have a6 := hcut.cell b6
        have a7 := hcut.cell b7
        clear b0 b1 b2 b3 b4 b5 b6 b7
        clear hcut k6H
        have happ := hid (fun p0 S0 w1 (hv : VerR w1 p0 S0 newV) (k : Kp w w1) => apply_c p0 S0 newV g S E w1 hv newV_ok (hR.out w1 k))
        unfold editV at happ
        have hag := hid (fun V => @apply_again E V)
        have hVok := hid (fun V => @apply_ok newV V E newV_ok)
        cases hr : applyP newV E with
        | inr cd =>
          rw [hr] at happ
          clear hag hVok hr
          go_wp2_with fail
          go_region_law (first
            | (go_simp; go_at_call 11; refine (lnew_c _).mono ?_; rintro e w6 ⟨p1, S1, rfl, v1, k1⟩; have b0 := k1.cell a0; have b1 := k1.cell a1; have b2 := k1.cell a2; have b3 := k1.cell a3; have b4 := k1.cell a4; have b5 := k1.cell a5; have b6 := k1.cell a6; have b7 := k1.cell a7)
            | (go_simp; go_at_call 14; refine (happ.out p1 S1 _ v1 ((kdH.out.drew).trans k1)).mono ?_; rintro e w7 ⟨k7, rfl⟩))
          all_goals
            have k7H := hid (((kdH.out.drew).trans k1).trans k7)
            go_wp2_with fail
            go_ret
            exact ⟨rfl, k7H.out⟩
        | inl V =>
          rw [hr] at happ
          obtain ⟨⟨Wl, Wn, Wg, Ws⟩, hW, hWl, hWn, hWg, hWs⟩ := hag.out V hr
          dsimp only at hWl hWn hWg hWs
          subst hWn hWg hWs
          have hVk := hid (hVok.out V hr)
          have hWH := hid hWl
          have hWa := hid hW
          clear hag hVok hr hW hWl
          go_wp2_with fail
          go_region_law (first
            | (go_simp; go_at_call 11; refine (lnew_c _).mono ?_; rintro e w6 ⟨p1, S1, rfl, v1, k1⟩; have b0 := k1.cell a0; have b1 := k1.cell a1; have b2 := k1.cell a2; have b3 := k1.cell a3; have b4 := k1.cell a4; have b5 := k1.cell a5; have b6 := k1.cell a6; have b7 := k1.cell a7)
            | (go_simp; go_at_call 14; refine (happ.out p1 S1 _ v1 ((kdH.out.drew).trans k1)).mono ?_; rintro e w7 ⟨k7, p2, S2, rfl, v2⟩))
          all_goals
            have k7H := hid (((kdH.out.drew).trans k1).trans k7)
            have v2H := hid v2
            clear a0 a1 a2 a3 a4 a5 a6 a7 b0 b1 b2 b3 b4 b5 b6 b7 k1 v1 k7 v2 happ
            have hV30 : Hid (∀ l, l < 4 → (V.lv l).length ≤ 1000) := hid (fun l hl => by
              have := List.all_eq_true.1 hVk.out.few l (by simp [four]; omega)
              have := of_decide_eq_true this
              omega)
            go_wp2_with fail
            refine (lnew_c w7).mono ?_
            rintro e w8 ⟨p3, S3, rfl, v3, k8⟩
            have v3H := hid v3
            have k8H := hid k8
            clear v3 k8
            go_wp2_with fail
            refine (edit_c p2 S2 V w8 (v2H.out.kp k8H.out) hV30.out).mono ?_
            rintro e w9 ⟨g9, S9, rfl, r9, k9⟩
            have r9H := hid r9
            have k9H := hid (k8H.out.trans k9)
            have v9H := hid (v3H.out.kp k9)
            have hap := hid (apply_c p3 S3 newV g9 S9 (editOf V) w9 v9H.out newV_ok r9)
            rw [hWa.out] at hap
            unfold editV at hap ⊢
            clear r9 k9
            go_wp2_with fail
            refine hap.out.mono ?_
            rintro e w10 ⟨k10, p4, S4, rfl, v4⟩
            have v4H := hid v4
            have k10H := hid (k9H.out.trans k10)
            clear v4 k10 hap
            go_wp2_with fail
            refine (edit_c p2 S2 V w10 (v2H.out.kp k10H.out) hV30.out).mono ?_
            rintro e w11 ⟨g11, S11, rfl, r11, k11⟩
            have r11H := hid r11
            have k11H := hid (k10H.out.trans k11)
            have v11H := hid (v4H.out.kp k11)
            clear r11 k11
            go_wp2_with fail
            refine (edit_c p4 S4 _ w11 v11H.out (fun l hl => by show (Wl l).length ≤ 1000; rw [hWH.out l hl]; exact hV30.out l hl)).mono ?_
            rintro e w12 ⟨g12, S12, rfl, r12, k12⟩
            have r12H : Hid (EditR w12 g12 S12 (editOf V)) := hid (edr_cong r12 rfl (fun l hl => (hWH.out l hl).symm))
            have r13H := hid (r11H.out.kp k12)
            have k12H := hid (k11H.out.trans k12)
            have hsm := hid (same_c g11 g12 S11 S12 (editOf V) w12 r13H.out r12H.out)
            unfold editV at hsm ⊢
            unfold editOf at hsm ⊢
            clear r12 k12
            go_wp2_with fail
            refine hsm.out.mono ?_
            rintro e w13 ⟨rfl, k13⟩
            have k13H := hid ((k7H.out.trans k12H.out).trans k13)
            clear k13
            go_wp2_with fail
            go_ret
            exact ⟨rfl, k13H.out⟩
theorem levelBack_row (g : SlA) (S : Nat → SlA) (E : EditM) (s : ByteArray) (W : World) (hp : EditW W g S E) (hs : s.size ≤ 140737488351232) :
    Calls Try.prog 8 #[editV g S E, .string s] W fun e W' => e = .returned (.bool true) ∧ Below W.heap.size W W' := by
  refine (backLaw_c g S E s W hp hs).mono ?_
  rintro e w' ⟨h1, h2⟩
  exact ⟨h1, ⟨h2.ext.os, h2.ext.tape, h2.ext.output, h2.ext.size, h2.same⟩⟩
end Go.Proofs.Ytdmdnhceiddcfaa
