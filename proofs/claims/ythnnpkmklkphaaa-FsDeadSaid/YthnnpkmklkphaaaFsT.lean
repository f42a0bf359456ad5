/- The walk of FsDead. -/
import Derived.Test.YthnnpkmklkphaaaFsS
namespace Go.Proofs.Ythnnpkmklkphaaa
open Go.RowKit Go.Sl Go.Scree Go.Maps

set_option maxRecDepth 20000 in
set_option maxHeartbeats 12800000 in
theorem fsDead_row (v : Value) (l : List FAct) (W : World) (hr : Rd W actE v l) (hp : ∀ x ∈ l, ActOk W x) :
    Calls Try.prog 4 #[v] W fun e W' => e = .returned (.bool true) ∧ Below W.heap.size W W' := by
  obtain ⟨A, c, rfl, _, _⟩ := hr.form
  have rH := hid hr
  have pH := hid hp
  clear hr hp
  go_enter Try.func4, Try.ntmps4
  go_wp2_with fail
  refine (awake_c W _ (Own.start W)).mono ?_
  rintro e wa ⟨rfl, oa, ea⟩
  have oaH := hid oa
  clear oa
  go_wp2_with fail
  refine (new_c wa _ oaH.out).mono ?_
  rintro e wb ⟨p, rfl, ob, eb⟩
  have obH := hid ob
  have ebH := hid (ea.trans eb)
  clear ob ea eb oaH
  go_wp2_with fail
  go_loopw [4] (fun i wq => ∃ (k : Nat) (d : FDisk), i = .int .i64 k ∧ k ≤ l.length ∧ k ≤ 100 ∧ FBd d (1000 * k) ∧ Own wq [diskC p d, base W W.heap.size] ∧ Ext W wq) (fun i _ => l.length - (intOf i).toNat)
  case atStart => exact ⟨0, FDisk.new, rfl, Nat.zero_le _, Nat.zero_le _, FBd.start, obH.out, ebH.out⟩
  case round =>
    obtain ⟨k, d, rfl, hkl, hk100, hbd, oq, eq⟩ := hrel
    have oqH := hid oq
    have bH := hid hbd
    clear oq hbd
    by_cases hlt : k < l.length ∧ k < 100
    · obtain ⟨hlt, hlt100⟩ := hlt
      obtain ⟨x, hx⟩ : ∃ x, l[k]? = some x := ⟨_, List.getElem?_eq_getElem hlt⟩
      obtain ⟨g, off, rfl, a0, a1, a2, a3, a4, hg⟩ := act_at (rd_here rH.out oqH.out.drop) hx
      have hxm := pH.out x (List.mem_of_getElem? hx)
      have hxH := hid hxm
      have oB := hid (Own.alloc oqH.out (.cells #[.int .i64 x.kind, .int .i64 x.n, .string x.a, .string x.b, .slice x.kA x.k.length x.kc] 29 (0, 0)))
      have hl := hid (large_c x _ _ oB.out)
      clear hx hxm
      rcases bool_cases x.large with hxl | hxl
      · rw [hxl] at hl
        go_wp2_with fail
        refine hl.out.mono ?_
        rintro e wc ⟨rfl, oc, ec⟩
        have ocH := hid oc
        clear oc
        go_wp2_with fail
        go_ret
        exact ⟨rfl, below_of_own (Own.drop (Own.drop ocH.out)) ((eq.alloc _).trans ec)⟩
      · obtain ⟨s1, s2, s3⟩ := act_small hxl
        have hxlH := hid hxl
        rw [hxl] at hl
        clear hxl
        go_wp2_with fail
        refine hl.out.mono ?_
        rintro e wc ⟨rfl, oc, ec⟩
        have oc2 := hid (Own.swap oc)
        have ecH := hid ((eq.alloc _).trans ec)
        have kd := diskC_ok oc2.out
        have kdH := hid kd
        have bsz := hid (bigN_le (Nat.le_trans (size_total kd) (Nat.le_trans bH.out.bytes (by omega))))
        clear a0 a1 a2 a3 a4 eq ec oc hl oqH oB kd
        -- dead
        go_wp2_with fail
        obtain ⟨was, hwas⟩ : ∃ b, d.dead = b := ⟨_, rfl⟩
        have hdc := dead_c p d wc _ oc2.out
        rw [hwas] at hdc
        have hdcH := hid hdc
        have hwasH := hid hwas
        clear hdc hwas
        refine hdcH.out.mono ?_
        rintro e w' ⟨rfl, rfl⟩
        clear hdcH
        -- list
        go_wp2_with fail
        refine (list_c p d _ _ oc2.out).mono ?_
        rintro e wd ⟨v1, rfl, od, ed⟩
        obtain ⟨A1, n1, c1, rfl⟩ := sl_shape od
        obtain ⟨hn1, _, _⟩ := sl_n od
        have hn1H := hid hn1
        have odH := hid od.drop
        have edH := hid (ecH.out.trans ed)
        clear hn1 od ed oc2 ecH
        -- size
        go_wp2_with fail
        refine (size_c p d _ _ bsz.out odH.out).mono ?_
        rintro e we ⟨rfl, oe, ee⟩
        have oeH := hid oe
        have eeH := hid (edH.out.trans ee)
        clear oe ee odH edH
        -- play
        have hpl := play_c p d x we _ kdH.out (bH.out.mono (by omega)) hxlH.out hxH.out.1 (fun w' o => rd_here hxH.out.2 o.drop) oeH.out
        unfold PlaySays at hpl
        have hplH := hid hpl
        have b0 := (Own.swap oeH.out).cell (i := 0) (v := .int .i64 x.kind) rfl
        have b1 := (Own.swap oeH.out).cell (i := 1) (v := .int .i64 x.n) rfl
        have b2 := (Own.swap oeH.out).cell (i := 2) (v := .string x.a) rfl
        have b3 := (Own.swap oeH.out).cell (i := 3) (v := .string x.b) rfl
        have b4 := (Own.swap oeH.out).cell (i := 4) (v := .slice x.kA x.k.length x.kc) rfl
        have bk := hid ((FBd.play kdH.out bH.out x s2).mono (m := 1000 * (k + 1)) (by omega))
        clear hpl
        go_wp2_with fail
        obtain ⟨r, hr⟩ : ∃ r, (d.play x).2 = r := ⟨_, rfl⟩
        have hpl2 := hplH.out
        rw [hr] at hpl2
        have hpl3 := hid hpl2
        have hrH := hid hr
        clear hpl2 hr
        refine hpl3.out.mono ?_
        rintro e wf ⟨rfl, of, ef⟩
        clear hpl3
        have f0 := (Own.swap of).cell (i := 0) (v := .int .i64 x.kind) rfl
        have kf := hid (diskC_ok of)
        have ofH := hid of
        have efH := hid (eeH.out.trans ef)
        have bsf := hid (bigN_le (Nat.le_trans (size_total kf.out) (Nat.le_trans bk.out.bytes (by omega))))
        have d0H := hid (dead_play kdH.out (x := x))
        have d1H := hid (down_play (d := d) x)
        clear of ef b0 b1 b2 b3 b4 hplH oeH eeH
        by_cases h8 : x.kind = 8
        · have hp8 : d.play x = (d.crash x.n x.k, 0) := by simp [FDisk.play, h8]
          have hfirm := firm_crash kdH.out x.n x.k
          obtain ⟨hf1, hf2⟩ := hfirm.loose
          have hdd : (d.crash x.n x.k).dead = false := rfl
          have hr0 : r = 0 := by rw [← hrH.out, hp8]
          subst hr0
          rw [hp8] at ofH bk kf bsf
          have hlo := loose_c p _ wf _ (by rw [hf2]; exact Nat.zero_le _) ofH.out
          rw [hf1, hf2] at hlo
          have hloH := hid hlo
          have hkb : (x.kind == 8) = true := by simpa using h8
          clear hlo hf1 hf2 hfirm hp8 h8 d0H d1H hrH
          have hddH := hid hdd
          clear hdd
          go_wp2_with fail
          refine hloH.out.mono ?_
          rintro e wg ⟨rfl, og, eg⟩
          have hde := dead_c p _ wg _ og
          rw [hddH.out] at hde
          have hdeH := hid hde
          have ogH := hid og
          have egH := hid (efH.out.trans eg)
          clear og eg hde
          go_wp2_with fail
          refine hdeH.out.mono ?_
          rintro e w' ⟨rfl, rfl⟩
          go_wp2_with fail
          go_roundw
          case rel => exact ⟨k + 1, _, by go_num, by omega, by omega, bk.out, (ogH.out.swap.drop), egH.out⟩
          case measure => simp only [intOf]; omega
        · have hkb : (x.kind == 8) = false := by simpa using h8
          have h8H := hid h8
          clear h8
          have d0 := hid (fun h => d0H.out h h8H.out)
          have d1 := hid (fun h => d1H.out h)
          have hnow := hid (list_c p (d.play x).1)
          have hdd := hid (dead_c p (d.play x).1)
          have hss := hid (fun w F => size_c p (d.play x).1 w F bsf.out)
          clear d0H d1H bsf h8H
          rw [hrH.out] at d1
          have d0b : Hid (was = true → (d.play x).1.dead = true ∧ (d.play x).1.now = d.now ∧ (d.play x).1.size = d.size ∧ (0 ≤ x.kind → x.kind ≤ 5 → r ≠ 0)) := hid (fun h => by rw [← hrH.out]; exact d0.out (hwasH.out.trans h))
          clear d0 hrH
          generalize (d.play x).1 = d' at *
          by_cases r30 : r = 30
          · subst r30
            have hdt := d1.out rfl
            have hdd2 := hdd.out
            rw [hdt] at hdd2
            have hdd3 := hid hdd2
            clear hdd2 hdt d1 hdd
            cases was with
            | false =>
              go_wp2_with fail
              refine (hdd3.out _ _ ofH.out).mono ?_
              rintro e w' ⟨rfl, rfl⟩
              go_wp2_with fail
              go_roundw
              case rel => exact ⟨k + 1, d', by go_num, by omega, by omega, bk.out, (ofH.out.swap.drop), efH.out⟩
              case measure => simp only [intOf]; omega
            | true =>
              obtain ⟨t1, t2, t3, t4⟩ := d0b.out rfl
              have hls := hnow.out
              rw [t2] at hls
              have hlsH := hid hls
              have hs2 := hss.out
              rw [t3] at hs2
              have hs2H := hid hs2
              clear hls hs2 t1 t2 t3 t4 hnow hss
              go_wp2_with fail
              refine (hdd3.out _ _ ofH.out).mono ?_
              rintro e w' ⟨rfl, rfl⟩
              go_wp2_with fail
              refine (hdd3.out _ _ ofH.out).mono ?_
              rintro e w' ⟨rfl, rfl⟩
              go_wp2_with fail
              refine (hlsH.out _ _ ofH.out).mono ?_
              rintro e wg ⟨v2, rfl, og, eg⟩
              obtain ⟨A2, n2, c2, rfl⟩ := sl_shape og
              obtain ⟨hn2, _, _⟩ := sl_n og
              obtain rfl : n2 = n1 := hn2.trans hn1H.out.symm
              have ogH := hid og.drop
              have egH := hid (efH.out.trans eg)
              clear hn2 og eg
              go_wp2_with fail
              refine (hs2H.out _ _ ogH.out).mono ?_
              rintro e wh ⟨rfl, oh, eh⟩
              have ohH := hid oh
              have ehH := hid (egH.out.trans eh)
              clear oh eh f0
              go_wp2_with fail
              go_roundw
              case rel => exact ⟨k + 1, d', by go_num, by omega, by omega, bk.out, (ohH.out.swap.drop), ehH.out⟩
              case measure => simp only [intOf]; omega
          · have r30b : (r == 30) = false := by simpa using r30
            clear r30 d1
            cases was with
            | false =>
              go_wp2_with fail
              go_roundw
              case rel => exact ⟨k + 1, d', by go_num, by omega, by omega, bk.out, (ofH.out.swap.drop), efH.out⟩
              case measure => simp only [intOf]; omega
            | true =>
              obtain ⟨t1, t2, t3, t4⟩ := d0b.out rfl
              have hls := hnow.out
              rw [t2] at hls
              have hlsH := hid hls
              have hs2 := hss.out
              rw [t3] at hs2
              have hs2H := hid hs2
              have hdd2 := hdd.out
              rw [t1] at hdd2
              have hdd3 := hid hdd2
              have t4H := hid t4
              clear hdd2 hls hs2 t1 t2 t3 t4 hnow hss hdd
              go_wp2_with fail
              refine (hdd3.out _ _ ofH.out).mono ?_
              rintro e w' ⟨rfl, rfl⟩
              go_wp2_with fail
              refine (hlsH.out _ _ ofH.out).mono ?_
              rintro e wg ⟨v2, rfl, og, eg⟩
              obtain ⟨A2, n2, c2, rfl⟩ := sl_shape og
              obtain ⟨hn2, _, _⟩ := sl_n og
              obtain rfl : n2 = n1 := hn2.trans hn1H.out.symm
              have ogH := hid og.drop
              have egH := hid (efH.out.trans eg)
              clear hn2 og eg
              go_wp2_with fail
              refine (hs2H.out _ _ ogH.out).mono ?_
              rintro e wh ⟨rfl, oh, eh⟩
              have ohH := hid oh
              have g0 := (Own.swap oh).cell (i := 0) (v := .int .i64 x.kind) rfl
              have ehH := hid (egH.out.trans eh)
              clear oh eh f0
              by_cases hr0 : r = 0
              · subst hr0
                by_cases hk0 : 0 ≤ x.kind
                · have hk5 : ¬ x.kind ≤ 5 := fun h => t4H.out hk0 h rfl
                  go_wp2_with fail
                  go_roundw
                  case rel => exact ⟨k + 1, d', by go_num, by omega, by omega, bk.out, (ohH.out.swap.drop), ehH.out⟩
                  case measure => simp only [intOf]; omega
                · go_wp2_with fail
                  go_roundw
                  case rel => exact ⟨k + 1, d', by go_num, by omega, by omega, bk.out, (ohH.out.swap.drop), ehH.out⟩
                  case measure => simp only [intOf]; omega
              · have hr0b : (r == 0) = false := by simpa using hr0
                clear hr0
                go_wp2_with fail
                go_roundw
                case rel => exact ⟨k + 1, d', by go_num, by omega, by omega, bk.out, (ohH.out.swap.drop), ehH.out⟩
                case measure => simp only [intOf]; omega
    · have hem : k < l.length ∨ ¬ k < l.length := Classical.em _
      have hor : ¬ k < l.length ∨ ¬ k < 100 := by omega
      rcases hem with hem | hem
      all_goals
        go_wp2_with fail
        go_ret
        exact ⟨rfl, below_of_own (Own.drop oqH.out) eq⟩
end Go.Proofs.Ythnnpkmklkphaaa
