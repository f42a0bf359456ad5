/- The walk of LevelBytes. -/
import Derived.Test.YtdmdnhceiddcfaaLnuA
import Derived.Test.YtdmdnhceiddcfaaRbyP
import Derived.Deep.CutBlock
import Derived.Deep.DeepCutAuto
import Derived.Deep.CutRange
set_option linter.all false
namespace Go.Proofs.Ytdmdnhceiddcfaa
open Go.RowKit Go.Sl Go.Scree

set_option maxRecDepth 20000 in
set_option maxHeartbeats 12800000 in
theorem bytesLaw_c (g : SlA) (S : Nat → SlA) (E : EditM) (s : ByteArray) (w : World) (h : EditW w g S E) (hs : s.size ≤ 140737488351232) :
    Calls Try.prog 4 #[editV g S E, .string s] w fun e w' => e = .returned (.bool true) ∧ Kp w w' := by
  have hH := hid h
  have hsH := hid hs
  have k0 := hid ((Kp.refl w).alloc (.cells (editCells g S E) 34 (0, 0)))
  have haw := hid (awake_c (w.alloc (.cells (editCells g S E) 34 (0, 0))))
  have oE := (Own.start w).alloc (.cells (editCells g S E) 34 (0, 0))
  have a0 := (oE).cell (i := 0) (v := .slice g.A g.n g.c) rfl
  have a1 := (oE).cell (i := 1) (v := .slice (S 0).A (S 0).n (S 0).c) rfl
  have a2 := (oE).cell (i := 2) (v := .slice (S 1).A (S 1).n (S 1).c) rfl
  have a3 := (oE).cell (i := 3) (v := .slice (S 2).A (S 2).n (S 2).c) rfl
  have a4 := (oE).cell (i := 4) (v := .slice (S 3).A (S 3).n (S 3).c) rfl
  have a5 := (oE).cell (i := 5) (v := .int .u64 E.next) rfl
  have a6 := (oE).cell (i := 6) (v := .int .u64 E.log) rfl
  have a7 := (oE).cell (i := 7) (v := .int .u64 E.seq) rfl
  have hlg := hid (fun w1 (k : Kp w w1) => large_c g S E w1 (h.kp k))
  unfold editV at hlg ⊢
  unfold editCells at haw a0 a1 a2 a3 a4 a5 a6 a7
  clear h oE
  go_enter Try.func4, Try.ntmps4
  go_wp2_with fail
  refine haw.out.mono ?_
  rintro e w1 ⟨rfl, k1⟩
  generalize hb : w.heap.size = eb at *
  have b0 := k1.cell a0
  have b1 := k1.cell a1
  have b2 := k1.cell a2
  have b3 := k1.cell a3
  have b4 := k1.cell a4
  have b5 := k1.cell a5
  have b6 := k1.cell a6
  have b7 := k1.cell a7
  clear a0 a1 a2 a3 a4 a5 a6 a7
  have k1H := hid (k0.out.trans k1)
  clear haw k1 k0 hb
  go_wp2_with fail
  refine (hlg.out w1 k1H.out).mono ?_
  rintro e w2 ⟨k2, lb, rfl, hlb⟩
  have c0 := k2.cell b0
  have c1 := k2.cell b1
  have c2 := k2.cell b2
  have c3 := k2.cell b3
  have c4 := k2.cell b4
  have c5 := k2.cell b5
  have c6 := k2.cell b6
  have c7 := k2.cell b7
  clear b0 b1 b2 b3 b4 b5 b6 b7
  have k2H := hid (k1H.out.trans k2)
  clear k2 hlg k1H
  cases lb with
  | true =>
    go_wp2_with fail
    go_ret
    exact ⟨rfl, k2H.out⟩
  | false =>
    have hsm := hid (hlb rfl)
    clear hlb
    have h8 : decide ((s.size : Int) > 8192) = true ∨ decide ((s.size : Int) > 8192) = false ∧ s.size ≤ 8192 := by
      simp only [decide_eq_true_eq, decide_eq_false_iff_not]; omega
    rcases h8 with h8 | ⟨h8, h8n⟩
    · go_wp2_with fail
      go_ret
      exact ⟨rfl, k2H.out⟩
    have h8H := hid h8n
    have hR := hid (fun w1 (k : Kp w w1) => ((hH.out.kp k).r hsm.out))
    have hen := hid (fun w1 (k : Kp w w1) => encode_c g S E w1 (hR.out w1 k))
    have hre := hid (fun w1 (k : Kp w w1) => rencode_c g S E w1 (hR.out w1 k))
    have hde := hid (fun w1 => decode_c s.data.toList (by have := h8H.out; rw [Array.length_toList]; show s.size ≤ _; omega) w1)
    have hrd := hid (fun w1 => rdecode_c s.data.toList (by have := h8H.out; rw [Array.length_toList]; show s.size ≤ _; omega) w1)
    rw [show (⟨s.data.toList.toArray⟩ : ByteArray) = s by cases s; simp] at hde hrd
    rw [rdecP_eq] at hrd
    unfold EncSays at hen hre
    unfold DecSays at hde hrd
    unfold editV at hen hre hde hrd
    generalize (if encOk E = true then (⟨(encW E).toArray⟩ : ByteArray) else ⟨#[]⟩) = X at *
    generalize (if encOk E = true then (0 : Int) else 2) = Y at *
    generalize decP s.data.toList = dp at *
    obtain ⟨dE, dc⟩ := dp
    dsimp only at hde hrd
    clear hs h8n
    go_wp2_with fail
    refine (hen.out w2 k2H.out).mono ?_
    rintro e w3 ⟨k3, rfl⟩
    have d0 := k3.cell c0
    have d1 := k3.cell c1
    have d2 := k3.cell c2
    have d3 := k3.cell c3
    have d4 := k3.cell c4
    have d5 := k3.cell c5
    have d6 := k3.cell c6
    have d7 := k3.cell c7
    clear c0 c1 c2 c3 c4 c5 c6 c7
    have k3H := hid (k2H.out.trans k3)
    clear k3 k2H hen h8
    go_wp2_with fail
    refine (hre.out w3 k3H.out).mono ?_
    rintro e w4 ⟨k4, rfl⟩
    have a0 := k4.cell d0
    have a1 := k4.cell d1
    have a2 := k4.cell d2
    have a3 := k4.cell d3
    have a4 := k4.cell d4
    have a5 := k4.cell d5
    have a6 := k4.cell d6
    have a7 := k4.cell d7
    clear d0 d1 d2 d3 d4 d5 d6 d7
    have k4H := hid (k3H.out.trans k4)
    clear k4 k3H hre
    go_wp2_with fail
    refine (hde.out w4).mono ?_
    rintro e w5 ⟨k5, g5, S5, rfl, r5⟩
    have o5 := (Own.nil w5).alloc (.cells (editCells g5 S5 dE) 34 (0, 0))
    unfold editCells at o5
    have k6 : Kp w5 (w5.alloc (.cells (editCells g5 S5 dE) 34 (0, 0))) := (Kp.refl w5).alloc _
    unfold editCells at k6
    obtain ⟨w6, hw6⟩ : ∃ w6, w6 = w5.alloc (.cells #[.slice g5.A g5.n g5.c, .slice (S5 0).A (S5 0).n (S5 0).c, .slice (S5 1).A (S5 1).n (S5 1).c, .slice (S5 2).A (S5 2).n (S5 2).c, .slice (S5 3).A (S5 3).n (S5 3).c, .int .u64 dE.next, .int .u64 dE.log, .int .u64 dE.seq] 34 (0, 0)) := ⟨_, rfl⟩
    rw [← hw6] at k6 o5
    have f0 := (o5).cell (i := 0) (v := .slice g5.A g5.n g5.c) rfl
    have f1 := (o5).cell (i := 1) (v := .slice (S5 0).A (S5 0).n (S5 0).c) rfl
    have f2 := (o5).cell (i := 2) (v := .slice (S5 1).A (S5 1).n (S5 1).c) rfl
    have f3 := (o5).cell (i := 3) (v := .slice (S5 2).A (S5 2).n (S5 2).c) rfl
    have f4 := (o5).cell (i := 4) (v := .slice (S5 3).A (S5 3).n (S5 3).c) rfl
    have f5 := (o5).cell (i := 5) (v := .int .u64 dE.next) rfl
    have f6 := (o5).cell (i := 6) (v := .int .u64 dE.log) rfl
    have f7 := (o5).cell (i := 7) (v := .int .u64 dE.seq) rfl
    have k6H := hid (k4H.out.trans (k5.trans k6))
    have k56 := hid (k5.trans k6)
    have r6 := hid (r5.kp k6)
    have b0 := k56.out.cell a0
    have b1 := k56.out.cell a1
    have b2 := k56.out.cell a2
    have b3 := k56.out.cell a3
    have b4 := k56.out.cell a4
    have b5 := k56.out.cell a5
    have b6 := k56.out.cell a6
    have b7 := k56.out.cell a7
    clear a0 a1 a2 a3 a4 a5 a6 a7
    clear k5 k6 o5 r5 hde k4H k56
    go_wp2_with fail
    rw [← hw6]
    generalize w5.heap.size = xb5 at *
    clear hw6
    refine (hrd.out w6).mono ?_
    rintro e w7 ⟨k7, g7, S7, rfl, r7⟩
    have o7 := (Own.nil w7).alloc (.cells (editCells g7 S7 dE) 34 (0, 0))
    unfold editCells at o7
    have k8 : Kp w7 (w7.alloc (.cells (editCells g7 S7 dE) 34 (0, 0))) := (Kp.refl w7).alloc _
    unfold editCells at k8
    obtain ⟨w8, hw8⟩ : ∃ w8, w8 = w7.alloc (.cells #[.slice g7.A g7.n g7.c, .slice (S7 0).A (S7 0).n (S7 0).c, .slice (S7 1).A (S7 1).n (S7 1).c, .slice (S7 2).A (S7 2).n (S7 2).c, .slice (S7 3).A (S7 3).n (S7 3).c, .int .u64 dE.next, .int .u64 dE.log, .int .u64 dE.seq] 34 (0, 0)) := ⟨_, rfl⟩
    rw [← hw8] at k8 o7
    have h0 := (o7).cell (i := 0) (v := .slice g7.A g7.n g7.c) rfl
    have h1 := (o7).cell (i := 1) (v := .slice (S7 0).A (S7 0).n (S7 0).c) rfl
    have h2 := (o7).cell (i := 2) (v := .slice (S7 1).A (S7 1).n (S7 1).c) rfl
    have h3 := (o7).cell (i := 3) (v := .slice (S7 2).A (S7 2).n (S7 2).c) rfl
    have h4 := (o7).cell (i := 4) (v := .slice (S7 3).A (S7 3).n (S7 3).c) rfl
    have h5 := (o7).cell (i := 5) (v := .int .u64 dE.next) rfl
    have h6 := (o7).cell (i := 6) (v := .int .u64 dE.log) rfl
    have h7 := (o7).cell (i := 7) (v := .int .u64 dE.seq) rfl
    have k78 := hid (k7.trans k8)
    have k8H := hid (k6H.out.trans k78.out)
    have r8 := hid (r7.kp k8)
    have r68 := hid (r6.out.kp k78.out)
    have a0 := k78.out.cell b0
    have a1 := k78.out.cell b1
    have a2 := k78.out.cell b2
    have a3 := k78.out.cell b3
    have a4 := k78.out.cell b4
    have a5 := k78.out.cell b5
    have a6 := k78.out.cell b6
    have a7 := k78.out.cell b7
    clear b0 b1 b2 b3 b4 b5 b6 b7
    have b0 := k78.out.cell f0
    have b1 := k78.out.cell f1
    have b2 := k78.out.cell f2
    have b3 := k78.out.cell f3
    have b4 := k78.out.cell f4
    have b5 := k78.out.cell f5
    have b6 := k78.out.cell f6
    have b7 := k78.out.cell f7
    clear f0 f1 f2 f3 f4 f5 f6 f7
    clear k7 k8 o7 r7 hrd k6H k78 r6
    go_upto_block 0 with fail
    rw [← hw8]
    generalize w7.heap.size = xb7 at *
    have elv : Hid (∀ l, l < 4 → w8.cell? ⟨eb, 1 + l, none⟩ = some (.slice (S l).A (E.nw l).length (S l).c)) := hid (fun l hl => by
      rw [← rd_long ((hR.out w8 k8H.out).nw l hl)]
      rcases (by omega : l = 0 ∨ l = 1 ∨ l = 2 ∨ l = 3) with rfl | rfl | rfl | rfl
      · exact a1
      · exact a2
      · exact a3
      · exact a4)
    clear hw8 a0 a1 a2 a3 a4 a5 a6 a7
    have hsm2 := hid (same_c g5 g7 S5 S7 dE)
    unfold editV at hsm2
    have bH := hid (And.intro b0 (And.intro b1 (And.intro b2 (And.intro b3 (And.intro b4 (And.intro b5 (And.intro b6 b7)))))))
    have hH2 := hid (And.intro h0 (And.intro h1 (And.intro h2 (And.intro h3 (And.intro h4 (And.intro h5 (And.intro h6 h7)))))))
    clear b0 b1 b2 b3 b4 b5 b6 b7 h0 h1 h2 h3 h4 h5 h6 h7
    go_cut [13, 14] from 44 to 73 (fun _ _ wx => Kp w8 wx)
    case first =>
      go_wp2_with fail
      go_loopw [13, 14, 44] (fun _ _ i wr => ∃ l : Nat, i = .int .i64 l ∧ l ≤ 4 ∧ Kp w8 wr) (fun _ _ i _ => 4 - (intOf i).toNat)
      case atStart => exact ⟨0, rfl, by omega, Kp.refl _⟩
      case round =>
        obtain ⟨l, rfl, hl, kr⟩ := hrel
        have krH := hid kr
        clear kr
        by_cases hlt : l < 4
        · have hlt' : (l : Int) < 4 := by omega
          have cl := krH.out.cell (elv.out l hlt)
          have hrl := hid ((hR.out w8 k8H.out).nw l hlt)
          have hfew := (hR.out w8 k8H.out).few l hlt
          unfold SlA.v at hrl
          rw [rd_n (s := ⟨(S l).A, (S l).n, (S l).c⟩) hrl.out] at hrl
          generalize E.nw l = ys at *
          obtain ⟨sA, hsA⟩ : ∃ sA, sA = S l := ⟨_, rfl⟩
          rw [← hsA] at cl hrl
          clear hsA
          have clH := hid cl
          have hy63 : ys.length ≤ 9223372036854775807 := by omega
          obtain ⟨wk, hwk⟩ : ∃ x : World, x = wr := ⟨_, rfl⟩
          subst hwk
          go_wp2_with fail
          go_loopw [14, 52] (fun _ i wz => ∃ k : Nat, i = .int .i64 k ∧ k ≤ ys.length ∧ Kp wk wz) (fun _ i _ => ys.length - (intOf i).toNat)
          case atStart => exact ⟨0, rfl, Nat.zero_le _, Kp.refl _⟩
          case round =>
            clear cl
            obtain ⟨k, rfl, hk, kz⟩ := hrel
            have kzH := hid kz
            clear kz
            obtain ⟨wz, hwz⟩ : ∃ x : World, x = wr := ⟨_, rfl⟩
            subst hwz
            by_cases hkl : k < ys.length
            · have hkl' : (k : Int) < ys.length := by omega
              obtain ⟨x, hx⟩ : ∃ x, ys[k]? = some x := ⟨_, List.getElem?_eq_getElem hkl⟩
              obtain ⟨gq, offq, hAq, _, d0, d1, d2, d3, d4⟩ := rd_meta ((krH.out.trans kzH.out).rd hrl.out) rfl hx
              have cl := kzH.out.cell clH.out
              rw [hAq] at cl
              have clu := fun u : KpW wz => u.kp.cell cl
              have d0u := fun u : KpW wz => u.kp.cell d0
              have d1u := fun u : KpW wz => u.kp.cell d1
              have d2u := fun u : KpW wz => u.kp.cell d2
              have d3u := fun u : KpW wz => u.kp.cell d3
              have d4u := fun u : KpW wz => u.kp.cell d4
              have hm1 := hid (fun w => may_c x w)
              have hm2 := hid (fun w => rmay_c x w)
              unfold metaV at hm1 hm2
              generalize mayB x = bm at *
              have hne : (bm != bm) = false := by simp
              clear hx hAq cl d0 d1 d2 d3 d4
              go_wp2_with fail
              refine wp_region_kp (by kernel_rfl) (by kernel_rfl) ?_
              iterate 8 (go_big_quiet_step ((go_at_call 25; exact kpw_of _ (hm1.out _))))
              iterate 8 (go_big_quiet_step ((go_at_call 26; exact kpw_of _ (hm2.out _))))
              repeat (go_big_quiet_step (fail))
              refine wpQuiet_nil ?_
              intro _ hw'
              obtain ⟨⟨w9, k9⟩, rfl⟩ := hw'
              have k9H := hid (kzH.out.trans k9)
              clear k9 clu d0u d1u d2u d3u d4u
              go_wp2_with fail
              go_roundw
              case rel => exact ⟨k + 1, by go_num, by omega, k9H.out⟩
              case measure => simp [intOf]; omega
            · have dk : decide (k < ys.length) = false := decide_eq_false hkl
              clear hkl
              go_wp2_with fail
              go_roundw
              case rel => exact ⟨l + 1, by go_num, by omega, krH.out.trans kzH.out⟩
              case measure => simp [intOf]; omega
        · obtain rfl : l = 4 := by omega
          go_wp2_with fail
          go_meet
          case rel => exact krH.out
    case rest =>
    have hk9 := hid hcut
    clear hcut
    obtain ⟨b0, b1, b2, b3, b4, b5, b6, b7⟩ := bH.out
    obtain ⟨h0, h1, h2, h3, h4, h5, h6, h7⟩ := hH2.out
    have f0 := hk9.out.cell b0
    have f1 := hk9.out.cell b1
    have f2 := hk9.out.cell b2
    have f3 := hk9.out.cell b3
    have f4 := hk9.out.cell b4
    have f5 := hk9.out.cell b5
    have f6 := hk9.out.cell b6
    have f7 := hk9.out.cell b7
    clear b0 b1 b2 b3 b4 b5 b6 b7
    have d0 := hk9.out.cell h0
    have d1 := hk9.out.cell h1
    have d2 := hk9.out.cell h2
    have d3 := hk9.out.cell h3
    have d4 := hk9.out.cell h4
    have d5 := hk9.out.cell h5
    have d6 := hk9.out.cell h6
    have d7 := hk9.out.cell h7
    clear h0 h1 h2 h3 h4 h5 h6 h7
    go_wp2_with fail
    refine (hsm2.out wc (r68.out.kp hk9.out) (r8.out.kp hk9.out)).mono ?_
    rintro e w10 ⟨rfl, k10⟩
    have k10H := hid ((k8H.out.trans hk9.out).trans k10)
    clear k10 f0 f1 f2 f3 f4 f5 f6 f7 d0 d1 d2 d3 d4 d5 d6 d7
    go_wp2_with fail
    go_ret
    exact ⟨rfl, k10H.out⟩
theorem levelBytes_row (g : SlA) (S : Nat → SlA) (E : EditM) (s : ByteArray) (W : World) (hp : EditW W g S E) (hs : s.size ≤ 140737488351232) :
    Calls Try.prog 4 #[editV g S E, .string s] W fun e W' => e = .returned (.bool true) ∧ Below W.heap.size W W' := by
  refine (bytesLaw_c g S E s W hp hs).mono ?_
  rintro e w' ⟨h1, h2⟩
  exact ⟨h1, ⟨h2.ext.os, h2.ext.tape, h2.ext.output, h2.ext.size, h2.same⟩⟩
end Go.Proofs.Ytdmdnhceiddcfaa
