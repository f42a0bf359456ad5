/- The walk of FsLoose. -/
import Derived.Test.YthnnpkmklkphaaaFsX
import Derived.Deep.QuietTactic
import Derived.BigQuiet
namespace Go.Proofs.Ythnnpkmklkphaaa
open Go.RowKit Go.Sl Go.Scree Go.Maps

set_option maxRecDepth 20000 in
set_option maxHeartbeats 25600000 in
theorem fsLoose_row (v : Value) (l : List FAct) (W : World) (hr : Rd W actE v l) (hp : ∀ x ∈ l, ActOk W x) :
    Calls Try.prog 7 #[v] W fun e W' => e = .returned (.bool true) ∧ Below W.heap.size W W' := by
  obtain ⟨A, c, rfl, _, _⟩ := hr.form
  have rH := hid hr
  have pH := hid hp
  obtain ⟨i0, hi0, hz0, hz1, hz2⟩ := info_parts infoStr
  obtain ⟨j0, hj0, hy0, hy1, hy2⟩ := info_parts infoInt
  clear hr hp
  go_enter Try.func7, Try.ntmps7
  go_wp2_with fail
  refine (awake_c W _ (Own.start W)).mono ?_
  rintro e wa ⟨rfl, oa, ea⟩
  have oaH := hid oa
  clear oa
  go_wp2_with fail
  refine (new_c wa _ oaH.out).mono ?_
  rintro e wb ⟨p, rfl, ob, eb⟩
  have obH := hid ob
  have ebH := hid (ea.trans eb)
  clear ob ea eb oaH
  go_wp2_with fail
  go_loopw [4] (fun i wq => ∃ (k : Nat) (d : FDisk), i = .int .i64 k ∧ k ≤ l.length ∧ k ≤ 100 ∧ Go.Scree.Calm d ∧ FBd d (1000 * k) ∧ Own wq [diskC p d, base W W.heap.size] ∧ Ext W wq) (fun i _ => l.length - (intOf i).toNat)
  case atStart => exact ⟨0, FDisk.new, rfl, Nat.zero_le _, Nat.zero_le _, ⟨rfl, rfl⟩, FBd.start, obH.out, ebH.out⟩
  case round =>
    obtain ⟨k, d, rfl, hkl, hk100, hcalm, hbd, oq, eq⟩ := hrel
    have oqH := hid oq
    have cH := hid hcalm
    have bH := hid hbd
    clear oq hcalm hbd
    by_cases hlt : k < l.length ∧ k < 100
    · obtain ⟨hlt, hlt100⟩ := hlt
      obtain ⟨x, hx⟩ : ∃ x, l[k]? = some x := ⟨_, List.getElem?_eq_getElem hlt⟩
      obtain ⟨g, off, rfl, a0, a1, a2, a3, a4, hg⟩ := act_at (rd_here rH.out oqH.out.drop) hx
      have hxm := pH.out x (List.mem_of_getElem? hx)
      have hxH := hid hxm
      have hl := hid (large_c x wr _ oqH.out)
      have hx2 := hid hx
      clear hx hxm
      rcases bool_cases x.large with hxl | hxl
      · rw [hxl] at hl
        go_wp2_with fail
        refine hl.out.mono ?_
        rintro e wc ⟨rfl, oc, ec⟩
        have ocH := hid oc
        clear oc
        go_wp2_with fail
        go_ret
        exact ⟨rfl, below_of_own (Own.drop ocH.out) (eq.trans ec)⟩
      · obtain ⟨s1, s2, s3⟩ := act_small hxl
        have hxlH := hid hxl
        rw [hxl] at hl
        clear hxl
        go_wp2_with fail
        refine hl.out.mono ?_
        rintro e wc ⟨rfl, oc, ec⟩
        have ocH := hid oc
        have ecH := hid (eq.trans ec)
        obtain ⟨g2, off2, hA2, b0, b1, b2, b3, b4, hg2⟩ := act_at (i := k) (x := x) (rd_here rH.out ocH.out.drop) hx2.out
        simp only [Option.some.injEq, Addr.mk.injEq, and_true] at hA2
        obtain ⟨rfl, rfl⟩ := hA2
        clear a0 a1 a2 a3 a4 eq ec oc hl oqH
        by_cases hk6 : x.kind = 6
        · have q1 : (x.kind == 6) = true := by simpa using hk6
          have q2 : (x.kind != 6) = false := by simpa using hk6
          clear hk6
          go_wp2_with fail
          go_roundw
          case rel => exact ⟨k + 1, d, by go_num, by omega, by omega, cH.out, bH.out.mono (by omega), ocH.out, ecH.out⟩
          case measure => simp only [intOf]; omega
        · have hpl := play_c p d x wc _ (diskC_ok ocH.out) (bH.out.mono (by omega)) hxlH.out hxH.out.1 (fun w' o => rd_here hxH.out.2 o) ocH.out
          unfold PlaySays at hpl
          have hplH := hid hpl
          have ck := hid (cH.out.play x hk6)
          have bk := hid (FBd.play (diskC_ok ocH.out) bH.out x s2)
          have q1 : (x.kind == 6) = false := by simpa using hk6
          have q2 : (x.kind != 6) = true := by simpa using hk6
          clear hpl hk6
          go_wp2_with fail
          refine hplH.out.mono ?_
          rintro e wd ⟨rfl, od, ed⟩
          have odH := hid od
          have edH := hid (ecH.out.trans ed)
          clear od ed b0 b1 b2 b3 b4
          go_wp2_with fail
          go_roundw
          case rel => exact ⟨k + 1, (d.play x).1, by go_num, by omega, by omega, ck.out, bk.out.mono (by omega), odH.out, edH.out⟩
          case measure => simp only [intOf]; omega
    · have hem : k < l.length ∨ ¬ k < l.length := Classical.em _
      have hor : ¬ k < l.length ∨ ¬ k < 100 := by omega
      have bdm := hid (bH.out.mono (m := 1000000) (by omega))
      have kd := hid (diskC_ok oqH.out)
      clear bH hkl
      rcases hem with hem | hem
      all_goals
        go_wp2_with fail
        clear hor hem
        refine (list_c p d _ _ oqH.out).mono ?_
        rintro e wf ⟨v1, rfl, of, ef⟩
        obtain ⟨A1, n1, c1, rfl⟩ := sl_shape of
        obtain ⟨hn1, _, _⟩ := sl_n of
        rw [names_len] at hn1
        have hn60 : n1 ≤ 60 := by rw [hn1]; exact kd.out.now.few
        have hn1H := hid hn1
        have ofH := hid (Own.swap (sl_empty' 9 strE (of.alloc (.cells #[] 9 (0, 0)))))
        have efH := hid ((eq.trans ef).alloc (.cells #[] 9 (0, 0)))
        clear hn1 of ef eq oqH
        go_wp2_with fail
        go_loopw [6, 51] (fun va i wq => ∃ (j : Nat) (e : FDisk), i = .int .i64 j ∧ j ≤ n1 ∧ Firmed d e j ∧ Own wq (sl 9 strE (.slice A1 n1 c1) (namesOf d.now) :: sl 9 strE va (d.strs.take j) :: diskC p e :: [base W W.heap.size]) ∧ Ext W wq) (fun _ i _ => n1 - (intOf i).toNat)
        case atStart => exact ⟨0, d, rfl, Nat.zero_le _, Firmed.start cH.out, ofH.out, efH.out⟩
        case round =>
          obtain ⟨j, e, rfl, hj, hfm, oj, ej⟩ := hrel
          obtain ⟨Aa, na, ca, rfl⟩ := sl_shape (Own.pick 1 oj)
          obtain ⟨hna, _, _⟩ := sl_n (Own.pick 1 oj)
          obtain rfl : na = j := by rw [hna, List.length_take, strs_len]; have := hn1H.out; omega
          have hnaH := hid hna
          have ojH := hid oj
          have fmH := hid hfm
          have ke := hid (diskC_ok (Own.pick 2 oj))
          clear hna oj hfm
          by_cases hjn : na < n1
          · obtain ⟨⟨nm, bs⟩, hct⟩ := conts_some (d := d) (j := na) (by have := hn1H.out; omega)
            obtain ⟨⟨nm', id⟩, hat⟩ : ∃ q, d.now[na]? = some q := ⟨_, List.getElem?_eq_getElem (by have := hn1H.out; omega)⟩
            obtain ⟨h1, h2, _⟩ := conts_at kd.out hct
            obtain rfl : nm' = nm := by
              rw [List.getElem?_map, hat] at h1
              exact Option.some.inj h1
            rw [← fmH.out.conts] at hct
            obtain ⟨_, _, h3⟩ := conts_at ke.out hct
            obtain ⟨hs0, hstep⟩ := fmH.out.step ke.out hat
            obtain ⟨g2, rfl, k0, hg2⟩ := str_at (x := nm') ojH.out h1
            have hnm : nm'.size ≤ maxLen := by
              obtain ⟨q, hq, rfl⟩ := List.mem_map.1 (List.mem_of_getElem? h1)
              exact Nat.le_trans (mayB_small (kd.out.now.names q hq)) (by simp [maxLen])
            have hre := read_c p e nm' wr _ hnm (Own.pick 2 ojH.out)
            rw [h3] at hre
            dsimp only at hre
            have hreH := hid hre
            have h2H := hid (take_snoc2 h2)
            have h1H := hid h1
            have hnmH := hid hnm
            have hs0H := hid hs0
            have hstepH := hid hstep
            clear hct h1 h2 h3 hnm hre hs0 hstep hat
            go_wp2_with fail
            refine hreH.out.mono ?_
            rintro e' w' ⟨rfl, rfl⟩
            clear hreH k0
            obtain ⟨bz, hbz⟩ : ∃ z : ByteArray, (⟨bs.toArray⟩ : ByteArray) = z := ⟨_, rfl⟩
            rw [hbz] at h2H ⊢
            clear hbz
            have ojA := hid (Own.pick 1 ojH.out)
            go_wp2_with (refine wpList_append_slc rfl _ _ _ rfl 9 i0 _ 1 16 Try.underlying39 hi0 hz0 hz1 hz2 rfl (by omega) _ na (strE.flat (d.strs.take na)) rfl (by have h := ojA.out.allocd (x := .cells #[.string bz] 9 (0, 0)); unfold sl at h; rw [← hnaH.out] at h; exact h) ⟨_, 0, none⟩ 1 1 [.string bz] rfl rfl (cells_new _ _ _ _) (by simp [Value.oneCell']) (by unfold maxLen; omega) (by omega) ?_; intro v3 w3 o3 e3 _; obtain ⟨A3, n3, c3, rfl, o3H⟩ := slc_shape o3; clear o3; obtain ⟨g5, hg5, k0, hg2'⟩ := str_at (x := nm') (Own.swap o3H.out) h1H.out; obtain rfl : g2 = g5 := by simpa using hg5)
            have hsy := sync_c p e nm' w3 _ hnmH.out (Own.pick 2 o3H.out)
            unfold SyncSays at hsy
            rw [hs0H.out] at hsy
            have hsyH := hid hsy
            clear hsy
            refine hsyH.out.mono ?_
            rintro e' w4 ⟨rfl, o4, e4⟩
            have o4H := hid o4
            clear o4 k0
            go_wp2_with fail
            go_roundw
            case rel =>
              refine ⟨na + 1, _, by go_num, by omega, hstepH.out, ?_, (((ej.alloc _).trans e3).trans e4)⟩
              have o6 := sl_of (E := strE) (d.strs.take (na + 1)) (Own.pick 1 o4H.out) (by rw [List.length_take, strs_len]; have := hn1H.out; omega) (by rw [h2H.out, strE.flat_append]; rfl)
              exact o6.arr [2, 0, 1]
            case measure => simp only [intOf]; omega
          · obtain rfl : n1 = na := by omega
            have hst : d.strs.take n1 = d.strs := List.take_of_length_le (by rw [strs_len]; have := hn1H.out; omega)
            have ok1 := ojH.out
            rw [hst] at ok1
            have okH := hid (Own.pick 2 ok1)
            have hfm := fmH.out
            rw [hn1H.out] at hfm
            obtain ⟨s0, hfirm, hcon, _⟩ := hfm.stop
            have hsd := syncDir_c p e wr _ okH.out
            unfold SyncDirSays at hsd
            rw [s0] at hsd
            have hsdH := hid hsd
            have be := hid (FBd.syncDir (fmH.out.bd bdm.out))
            have ke2 := hid ke.out.syncDir
            have fH := hid hfirm
            have cnH := hid hcon
            clear ok1 hst hsd hjn hj ojH hnaH hfm s0 hfirm hcon
            go_wp2_with fail
            refine hsdH.out.mono ?_
            rintro e' w5 ⟨rfl, o5, e5⟩
            have o5H := hid o5
            have e5H := hid (ej.trans e5)
            clear o5 e5 ej hsdH okH ke fmH
            generalize e.syncDir.1 = d1 at *
            have hlo := loose_c p d1 w5 _ (by rw [fH.out.loose.2]; exact Nat.zero_le _) o5H.out
            rw [fH.out.loose.1, fH.out.loose.2] at hlo
            have hloH := hid hlo
            clear hlo
            go_wp2_with fail
            refine hloH.out.mono ?_
            rintro e' w8 ⟨rfl, o8, e8⟩
            have o8H := hid o8
            have e8H := hid (e5H.out.trans e8)
            clear o8 e8 e5H hloH o5H
            have hc2H := hid (crash_c p d1 0 (.slice none 0 0) [] w8 _ (be.out.mono (by decide)) (fun w' o => rd_none) o8H.out)
            have K2 := hid (ke2.out.crash 0 [])
            have C2 := hid ((fH.out.crash ke2.out 0 []).trans cnH.out)
            go_wp2_with fail
            refine hc2H.out.mono ?_
            rintro e' w6 ⟨rfl, o6, e6⟩
            have o6H := hid o6
            have e6H := hid (e8H.out.trans e6)
            clear o6 e6 e8H hc2H o8H
            generalize d1.crash 0 [] = d2 at *
            have hnm2 : namesOf d2.now = namesOf d.now := (same_conts C2.out).1
            have hls := list_c p d2 _ _ o6H.out
            rw [hnm2] at hls
            have hlsH := hid hls
            clear hls hnm2
            go_wp2_with fail
            refine hlsH.out.mono ?_
            rintro e' w7 ⟨v2, rfl, o7, e7⟩
            obtain ⟨A2, n2, c2, rfl⟩ := sl_shape o7
            obtain ⟨hn2, _, _⟩ := sl_n o7
            obtain rfl : n1 = n2 := by rw [hn2, names_len]; exact hn1H.out
            have o7H := hid o7
            have e7H := hid (e6H.out.trans e7)
            clear hn2 o7 e7 e6H o6H hlsH
            go_wp2_with fail
            go_loopw [102] (fun i wq => ∃ j : Nat, i = .int .i64 j ∧ j ≤ n1 ∧ Own wq (sl 9 strE (.slice A2 n1 c2) (namesOf d.now) :: diskC p d2 :: sl 9 strE (.slice A1 n1 c1) (namesOf d.now) :: sl 9 strE (.slice Aa n1 ca) d.strs :: [base W W.heap.size]) ∧ Ext W wq) (fun i _ => n1 - (intOf i).toNat)
            case atStart => exact ⟨0, rfl, Nat.zero_le _, o7H.out, e7H.out⟩
            case round =>
              obtain ⟨j, rfl, hj, oj, ej⟩ := hrel
              have ojH := hid oj
              clear oj
              by_cases hjn : j < n1
              · obtain ⟨⟨nm, bs⟩, hct⟩ := conts_some (d := d) (j := j) (by have := hn1H.out; omega)
                obtain ⟨h1, h2, _⟩ := conts_at kd.out hct
                rw [← C2.out] at hct
                obtain ⟨_, _, h3⟩ := conts_at K2.out hct
                obtain ⟨g2, rfl, k0, hg2⟩ := str_at (x := nm) ojH.out h1
                obtain ⟨g3, rfl, k1, hg3⟩ := str_at (x := nm) (Own.pick 2 ojH.out) h1
                obtain ⟨g4, rfl, k2, hg4⟩ := str_at (x := ⟨bs.toArray⟩) (Own.pick 3 ojH.out) h2
                have hnm : nm.size ≤ maxLen := by
                  obtain ⟨q, hq, rfl⟩ := List.mem_map.1 (List.mem_of_getElem? h1)
                  exact Nat.le_trans (mayB_small (kd.out.now.names q hq)) (by simp [maxLen])
                have hre := read_c p d2 nm wr _ hnm (Own.pick 1 ojH.out)
                rw [h3] at hre
                dsimp only at hre
                obtain ⟨bz, hbz⟩ : ∃ z : ByteArray, (⟨bs.toArray⟩ : ByteArray) = z := ⟨_, rfl⟩
                rw [hbz] at hre k2
                have hreH := hid hre
                clear hct h1 h2 h3 hnm hre hbz
                go_wp2_with fail
                refine hreH.out.mono ?_
                rintro e w' ⟨rfl, rfl⟩
                go_wp2_with fail
                go_quiet (fail)
                go_wp2
                go_roundw
                case rel => exact ⟨j + 1, by go_num, by omega, ojH.out.drewN _, ej.drewN _⟩
                case measure => simp only [intOf]; omega
              · go_wp2_with fail
                go_ret
                exact ⟨rfl, below_of_own (Own.drops [_, _, _, _] ojH.out) ej⟩
end Go.Proofs.Ythnnpkmklkphaaa
