/- Levels are in order, and what is applied leaves all others: in plain Lean; and the walk of LevelOrder. -/
import Derived.Test.YtdmdnhceiddcfaaLnuA
import Derived.Test.YtdmdnhceiddcfaaMapB
import Derived.Test.YtdmdnhceiddcfaaSlu
set_option linter.all false
namespace Go.Proofs.Ytdmdnhceiddcfaa
open Go.RowKit Go.Sl Go.Scree Go.Maps

theorem has_file {lv : Lvls} {n : Nat} (h : hasB lv n = true) : n ∈ filesM lv := by
  obtain ⟨m, hm, e⟩ := List.any_eq_true.1 h
  exact List.mem_map.2 ⟨m, hm, by simpa using e⟩
theorem gone_in : ∀ {ns : List Nat} {lv lv' : Lvls}, goneP ns lv = some lv' → ∀ n ∈ ns, n ∈ filesM lv
  | [], _, _, _ => by simp
  | n :: ns, lv, lv', h => by
    unfold goneP at h
    split at h
    · rename_i hh
      intro q hq
      rcases List.mem_cons.1 hq with rfl | hq
      · exact has_file hh
      · have := gone_in h q hq
        obtain ⟨m, hm, rfl⟩ := List.mem_map.1 this
        have hp : Part (fun l => (lv l).filter fun m => m.file != n) lv := fun l => List.filter_sublist
        exact List.mem_map.2 ⟨m, part_mem hp hm, rfl⟩
    · cases h
theorem order_gone {V W : VerM} {E : EditM} (h : applyP V E = .inl W) : ∀ n ∈ E.gone, n ∈ filesM V.lv := by
  obtain ⟨c⟩ := apply_came h
  exact gone_in c.gone
theorem order_keep {V W : VerM} {E : EditM} (h : applyP V E = .inl W) : ∀ n ∈ filesM V.lv, n ∉ E.gone → n ∈ filesM W.lv := by
  obtain ⟨c⟩ := apply_came h
  intro n hn hg
  obtain ⟨m, hm, rfl⟩ := List.mem_map.1 hn
  obtain ⟨l, hl, hml⟩ := mem_flat.1 hm
  have h1 := gone_keep c.gone l m hml hg
  have h2 : m.file ∈ filesM c.lv ++ filesM E.nw := List.mem_append.2 (.inl (List.mem_map.2 ⟨m, mem_flat.2 ⟨l, hl, h1⟩, rfl⟩))
  have e : W.lv = comeP c.lv E.nw := congrArg VerM.lv c.out
  rw [e]
  exact (come_files c.lv E.nw).mem_iff.2 h2
theorem inr_code {V : VerM} {E : EditM} {c : Int} (h : applyP V E = .inr c) : (c == 0) = false := by
  unfold applyP at h
  repeat' split at h
  all_goals first | cases h; rfl | cases h
/-- The numbers that were seen: all of the levels ahead, and so many of this one. -/
def seenK (lv : Lvls) (k j : Nat) : List Nat := (fileL lv k ++ ((lv k).take j).map (·.file)).reverse
theorem seen_start (lv : Lvls) : seenK lv 0 0 = [] := rfl
theorem seen_succ {lv : Lvls} {k j : Nat} {x : MetaM} (h : (lv k)[j]? = some x) : seenK lv k (j + 1) = x.file :: seenK lv k j := by
  obtain ⟨hj, rfl⟩ := List.getElem?_eq_some_iff.1 h
  unfold seenK
  rw [List.take_succ_eq_append_getElem hj, List.map_append, ← List.append_assoc, List.reverse_append]
  rfl
theorem seen_next (lv : Lvls) {k : Nat} (h : k < 4) : seenK lv k (lv k).length = seenK lv (k + 1) 0 := by
  unfold seenK
  rw [List.take_length, fileL_succ lv h]
  simp
theorem seen_new {lv : Lvls} (hd : (filesM lv).Nodup) {k j : Nat} (hk : k < 4) {x : MetaM} (h : (lv k)[j]? = some x) : (seenK lv k j).contains x.file = false := by
  obtain ⟨hj, rfl⟩ := List.getElem?_eq_some_iff.1 h
  have hs : (fileL lv (k + 1)).Sublist (filesM lv) := by
    rw [← fileL_four]
    unfold fileL
    apply List.Sublist.map
    have e : four.take 4 = four.take (k + 1) ++ (four.take 4).drop (k + 1) := by
      rcases (by omega : k = 0 ∨ k = 1 ∨ k = 2 ∨ k = 3) with rfl | rfl | rfl | rfl <;> rfl
    rw [e, List.flatMap_append]
    exact List.sublist_append_left _ _
  have h1 : (fileL lv (k + 1)).Nodup := hd.sublist hs
  rw [fileL_succ lv hk] at h1
  have e : (lv k).map (·.file) = ((lv k).take j).map (·.file) ++ (lv k)[j].file :: ((lv k).drop (j + 1)).map (·.file) := by
    conv => lhs; rw [← List.take_append_drop j (lv k), List.drop_eq_getElem_cons hj]
    rw [List.map_append, List.map_cons]
  rw [e, ← List.append_assoc, List.nodup_append] at h1
  have h2 := h1.2.2
  unfold seenK
  cases hc : (fileL lv k ++ ((lv k).take j).map (·.file)).reverse.contains (lv k)[j].file with
  | false => rfl
  | true =>
    rw [List.contains_eq_mem, decide_eq_true_eq, List.mem_reverse] at hc
    exact absurd rfl (h2 _ hc _ List.mem_cons_self)
theorem seen_end {lv : Lvls} {n : Nat} (h : n ∈ filesM lv) : (seenK lv 4 0).contains n = true := by
  unfold seenK
  rw [fileL_four, List.contains_eq_mem, decide_eq_true_eq, List.mem_reverse]
  simp [h]
/-- What the law asks of a table. -/
structure TblOk (W : VerM) (ys : List MetaM) (k j : Nat) (x : MetaM) : Prop where
  next : x.file < W.next
  seq : x.seq ≤ W.seq
  may : mayB x = true
  big : x.file ≤ 1099511627776
  top : k = 0 → ∀ i y, j = i + 1 → ys[i]? = some y → x.file < y.file
  up : 0 < k → ∀ i y, j = i + 1 → ys[i]? = some y → ltK y.last x.first = true
theorem tbl_ok {W : VerM} (h : VOk W) {k j : Nat} (hk : k < 4) {x : MetaM} (hx : (W.lv k)[j]? = some x) : TblOk W (W.lv k) k j x := by
  have hm : x ∈ flatM W.lv := mem_flat.2 ⟨k, hk, List.mem_of_getElem? hx⟩
  obtain ⟨hj, ej⟩ := List.getElem?_eq_some_iff.1 hx
  refine ⟨(h.below x hm).1, (h.below x hm).2, h.may x hm, (may_parts (h.may x hm)).1.2, fun e i y hi hy => ?_, fun e i y hi hy => ?_⟩
  · subst e
    obtain ⟨hi', ei⟩ := List.getElem?_eq_some_iff.1 hy
    have := List.pairwise_iff_getElem.1 h.top i j hi' hj (by omega)
    rw [ei, ej] at this
    exact this
  · obtain ⟨hi', ei⟩ := List.getElem?_eq_some_iff.1 hy
    have := List.pairwise_iff_getElem.1 (h.up e hk) i j hi' hj (by omega)
    rw [ei, ej] at this
    exact this
theorem files_big {V : VerM} (h : VOk V) {n : Nat} (hn : n ∈ filesM V.lv) : n ≤ 1099511627776 := by
  obtain ⟨m, hm, rfl⟩ := List.mem_map.1 hn
  exact (may_parts (h.may m hm)).1.2
theorem take_rev {α : Type} {xs : List α} {j : Nat} {x : α} (h : xs[j]? = some x) : (xs.take (j + 1)).reverse = x :: (xs.take j).reverse := by
  rw [take_one h, List.reverse_append]; rfl
/-- A map as a set, beside other chunks. -/
structure MpO (w w0 : World) (mb : Nat) (es : Array MapEntry) (clk : Nat) (D : DataW Unit) (L : List Nat) (F : List Chunk) : Prop where
  own : Own w (pts mb (.map es clk) :: F)
  ext : Ext w0 w
  map : MapIs Try.prog 32 RB es clk L.length D
  set : SetB D L
section
variable {w w0 w1 : World} {mb : Nat} {es : Array MapEntry} {clk : Nat} {D : DataW Unit} {L : List Nat} {F : List Chunk}
theorem MpO.base (h : MpO w w0 mb es clk D L [Sl.base w0 w0.heap.size]) : Kp w0 w := kp_of1 h.own h.ext
theorem MpO.base2 {c : Chunk} (h : MpO w w0 mb es clk D L [c, Sl.base w0 w0.heap.size]) : Kp w0 w := kp_of (cs := [_, _]) h.own h.ext
theorem MpO.kp (h : MpO w w0 mb es clk D L F) (k : Kp w w1) : MpO w1 w0 mb es clk D L F := ⟨k.own h.own, h.ext.trans k.ext, h.map, h.set⟩
theorem MpO.put (h : MpO w w0 mb es clk D L F) {n : Nat} (hown : w1.ownsMap Try.prog 32 RB mb (L.length + 1) (D.put (.int .u64 n) (.lit (.bool true)))) (g : w.grownBy w1 (some mb)) :
    ∃ es' clk', MpO w1 w0 mb es' clk' (D.put (.int .u64 n) (.lit (.bool true))) (n :: L) F := by
  obtain ⟨es5, clk5, hM5, o5⟩ := map_turn h.own hown g
  exact ⟨es5, clk5, o5, h.ext.trans (ext_grown g), hM5, h.set.push n⟩
theorem MpO.look (h : MpO w w0 mb es clk D L F) {x : Nat} (hx : x ≤ 1099511627776) : (Instr.lookup 61 (.map (some mb)) (.int .u64 x) false).run Try.prog w = .ok (.bool (L.contains x)) w := look_set h.own h.map h.set hx
theorem MpO.start (w : World) : MpO (w.alloc (.map #[] 0)) w w.heap.size #[] 0 (.map []) [] [Sl.base w w.heap.size] := by
  obtain ⟨h1, h2⟩ := map_made (Own.start w) (P := Try.prog) (k := 32) (R := RB)
  exact ⟨h2, (Ext.refl w).alloc _, h1, SetB.start⟩
end
set_option maxRecDepth 20000 in
set_option maxHeartbeats 25600000 in
theorem orderLaw_c (v : Value) (xs : List EdV) (w : World) (h : EdsR w v xs) : Calls Try.prog 5 #[v] w fun e w' => e = .returned (.bool true) ∧ Kp w w' := by
  obtain ⟨A, c, rfl, hm, hc⟩ := h.rd.form
  have hl : xs.length ≤ 9223372036854775807 := by simpa [maxLen] using hm
  have hH := hid h
  have haw := hid (awake_c w)
  have hmm := @run_makeMap Try.prog
  clear h hm hc
  go_enter Try.func5, Try.ntmps5
  go_wp2_with fail
  refine haw.out.mono ?_
  rintro e w1 ⟨rfl, k1⟩
  have k1H := hid k1
  clear haw k1
  go_wp2_with fail
  refine (lnew_c w1).mono ?_
  rintro e w2 ⟨p0, S0, rfl, v0, k2⟩
  have v0H := hid v0
  have k2H := hid (k1H.out.trans k2)
  clear v0 k2 k1H
  go_wp2_with fail
  go_loopw [2, 3, 4] (fun _ q i wr => ∃ (k p : Nat) (S : Nat → SlA) (V : VerM), i = .int .i64 k ∧ (k ≤ xs.length ∧ k ≤ 40) ∧ q = .pointer (some ⟨p, 0, none⟩) ∧ VerR wr p S V ∧ VOk V ∧ Kp w wr) (fun _ _ i _ => xs.length - (intOf i).toNat)
  case atStart => exact ⟨0, p0, S0, newV, rfl, ⟨Nat.zero_le _, Nat.zero_le _⟩, rfl, v0H.out, newV_ok, k2H.out⟩
  case round =>
    clear v0H k2H
    obtain ⟨k, p, S, V, rfl, ⟨hk, hk40⟩, rfl, hv, hok, kr⟩ := hrel
    have hvH := hid hv
    have hokH := hid hok
    have krH := hid kr
    clear hv hok kr
    by_cases hlt : k < xs.length ∧ k < 40
    · obtain ⟨hlt, h40⟩ := hlt
      have hlt' : (k : Int) < xs.length := by omega
      have h40' : (k : Int) < 40 := by omega
      obtain ⟨x, hx⟩ : ∃ x, xs[k]? = some x := ⟨_, List.getElem?_eq_getElem hlt⟩
      obtain ⟨g, off, rfl, _, hce⟩ := rd_ed (hH.out.kp krH.out).rd rfl hx
      have hin := hid ((hH.out.kp krH.out).inn x (List.mem_of_getElem? hx))
      have hceH := hid hce
      clear hx hce
      obtain ⟨xg, xS, xE⟩ := x
      have a0 : wr.cell? ⟨g, off + k * 8, none⟩ = some (.slice xg.A xg.n xg.c) := hceH.out 0 (.slice xg.A xg.n xg.c) rfl
      have a1 := hceH.out 1 (.slice (xS 0).A (xS 0).n (xS 0).c) rfl
      have a2 := hceH.out 2 (.slice (xS 1).A (xS 1).n (xS 1).c) rfl
      have a3 := hceH.out 3 (.slice (xS 2).A (xS 2).n (xS 2).c) rfl
      have a4 := hceH.out 4 (.slice (xS 3).A (xS 3).n (xS 3).c) rfl
      have a5 := hceH.out 5 (.int .u64 xE.next) rfl
      have a6 := hceH.out 6 (.int .u64 xE.log) rfl
      have a7 := hceH.out 7 (.int .u64 xE.seq) rfl
      have hlg := hid (large_c xg xS xE wr hin.out)
      unfold editV at hlg
      go_wp2_with fail
      refine hlg.out.mono ?_
      rintro e w3 ⟨k3, b, rfl, hb⟩
      cases b with
      | true =>
        go_wp2_with fail
        go_ret
        exact ⟨rfl, krH.out.trans k3⟩
      | false =>
        have hsm := hid (hb rfl)
        have k3H := hid (krH.out.trans k3)
        have b0 := k3.cell a0
        have b1 := k3.cell a1
        have b2 := k3.cell a2
        have b3 := k3.cell a3
        have b4 := k3.cell a4
        have b5 := k3.cell a5
        have b6 := k3.cell a6
        have b7 := k3.cell a7
        have hv3 := hid (hvH.out.kp k3)
        have hap := hid (apply_c p S V xg xS xE w3 hv3.out hokH.out ((hin.out.kp k3).r hsm.out))
        unfold editV at hap
        have hgr := hid (hin.out.kp k3).gone
        clear hb k3 a0 a1 a2 a3 a4 a5 a6 a7 hlg hin
        cases hr : applyP V xE with
        | inr cd =>
          rw [hr] at hap
          have hcd := inr_code hr
          clear hr
          go_wp2_with fail
          refine hap.out.mono ?_
          rintro e w4 ⟨k4, rfl⟩
          have hv4 := hid (hv3.out.kp k4)
          have k4H := hid (k3H.out.trans k4)
          clear k4 hap b0 b1 b2 b3 b4 b5 b6 b7
          go_wp2_with fail
          go_roundw
          case rel => exact ⟨k + 1, p, S, V, by go_num, ⟨by omega, by omega⟩, rfl, hv4.out, hokH.out, k4H.out⟩
          case measure => simp [intOf]; omega
        | inl W =>
          rw [hr] at hap
          have hWok := hid (apply_ok hokH.out hr)
          have hog := hid (order_gone hr)
          have hokp := hid (order_keep hr)
          clear hr
          go_wp2_with fail
          refine hap.out.mono ?_
          rintro e w4 ⟨k4, p2, S2, rfl, v4⟩
          have hv4 := hid (hv3.out.kp k4)
          have hw4 := hid v4
          have k4H := hid (k3H.out.trans k4)
          have hgr4 := hid (k4.rd hgr.out)
          have b0' := k4.cell b0
          clear k4 hap b0 b1 b2 b3 b4 b5 b6 b7 v4 hgr hv3
          go_wp2_with fail
          refine (numbers_c p2 S2 W w4 hw4.out).mono ?_
          rintro e w5 ⟨rfl, k5⟩
          have hv5 := hid (hv4.out.kp k5)
          have hw5 := hid (hw4.out.kp k5)
          have k5H := hid (k4H.out.trans k5)
          have hgr5 := hid (k5.rd hgr4.out)
          have b0 := k5.cell b0'
          have hms := hid (MpO.start w5)
          have hn1 := hid hWok.out.next
          clear k5 b0' hv4 hw4 k4H hgr4 k3H
          go_wp2_with fail
          go_loopw [11] (fun kk wl => ∃ (kn : Nat) (es : Array MapEntry) (clk : Nat) (D : DataW Unit), kk = .int .i64 kn ∧ kn ≤ 4 ∧ MpO wl w5 w5.heap.size es clk D (seenK W.lv kn 0) [base w5 w5.heap.size]) (fun kk _ => 4 - (intOf kk).toNat)
          case atStart => exact ⟨0, _, _, _, rfl, by omega, hms.out⟩
          case round =>
            obtain ⟨kn, es, clk, D, rfl, hkn, hmp⟩ := hrel
            have hmpH := hid hmp
            clear hmp hms
            obtain ⟨wl, hwwl⟩ : ∃ x : World, x = wr := ⟨_, rfl⟩
            subst hwwl
            by_cases hk4 : kn < 4
            · have hk4' : (kn : Int) < 4 := by omega
              have hlev := hid (level_c p2 S2 W kn wl (hw5.out.kp hmpH.out.base))
              rw [levelM_at _ hk4] at hlev
              have hfw := hid (hw5.out.few kn hk4)
              have hto := hid (fun j x => @tbl_ok W hWok.out kn j hk4 x)
              have hnw := hid (fun j x => @seen_new W.lv hWok.out.once kn j hk4 x)
              have hsc := hid (fun j x => @seen_succ W.lv kn j x)
              have hsn := hid (seen_next W.lv hk4)
              generalize hys : W.lv kn = ys at *
              have hysH := hid hys
              clear hys
              go_wp2_with fail
              refine hlev.out.mono ?_
              rintro e w6 ⟨v6, rfl, o6, e6⟩
              obtain ⟨A6, n6, c6, rfl⟩ := sl_shape o6
              have hry := rd_n (s := ⟨A6, n6, c6⟩) (sl_rd o6)
              dsimp only at hry
              subst hry
              have hm6 := hid (MpO.mk (w0 := w5) (rebase1 o6 hmpH.out.own).swap (hmpH.out.ext.trans e6) hmpH.out.map hmpH.out.set)
              have hy63 : ys.length ≤ 9223372036854775807 := by have := hfw.out; omega
              clear o6 e6 hlev
              go_wp2_with fail
              go_loopw [66] (fun jj wq => ∃ (j : Nat) (es : Array MapEntry) (clk : Nat) (D : DataW Unit), jj = .int .i64 j ∧ j ≤ ys.length ∧ MpO wq w5 w5.heap.size es clk D (seenK W.lv kn j) [sl 56 metaE (.slice A6 ys.length c6) ys, base w5 w5.heap.size]) (fun jj _ => ys.length - (intOf jj).toNat)
              case atStart => exact ⟨0, _, _, _, rfl, Nat.zero_le _, hm6.out⟩
              case round =>
                obtain ⟨j, es, clk, D, rfl, hj, hmq⟩ := hrel
                have hmqH := hid hmq
                clear hmq hm6 hmpH
                obtain ⟨wq, hwwq⟩ : ∃ x : World, x = wr := ⟨_, rfl⟩
                subst hwwq
                by_cases hjl : j < ys.length
                · have hx : ys[j]? = some ys[j] := List.getElem?_eq_getElem hjl
                  obtain ⟨g6, off6, rfl, _, d0, d1, d2, d3, d4⟩ := rd_meta (sl_rd (Own.pick 1 hmqH.out.own)) rfl hx
                  have hT := hid (hto.out j _ hx)
                  have hlk := fun u : KpW wq => (hmqH.out.kp u.kp).look hT.out.big
                  have hne := hnw.out j _ hx
                  have hsu := hid (hsc.out j _ hx)
                  rw [hne] at hlk
                  have hjl' : (j : Int) < (ys.length : Int) := by omega
                  have hlen : Hid ((seenK W.lv kn j).length ≤ 100000) := hid (by
                    have e1 := fileL_len W.lv hw5.out.few kn (by omega)
                    have := hfw.out
                    unfold seenK
                    simp only [List.length_reverse, List.length_append, List.length_map, List.length_take]
                    omega)
                  have hmay := hid (fun w => may_c ys[j] w)
                  rw [hT.out.may] at hmay
                  unfold metaV at hmay
                  generalize ys[j] = x at *
                  clear hx hne
                  have d0u := fun u : KpW wq => u.kp.cell d0
                  have d1u := fun u : KpW wq => u.kp.cell d1
                  have d2u := fun u : KpW wq => u.kp.cell d2
                  have d3u := fun u : KpW wq => u.kp.cell d3
                  have d4u := fun u : KpW wq => u.kp.cell d4
                  have f1 : decide (x.file ≥ W.next) = false := decide_eq_false (by have := hT.out.next; omega)
                  have f2 : decide (x.seq > W.seq) = false := decide_eq_false (by have := hT.out.seq; omega)
                  have f2' : decide (W.seq < x.seq) = false := decide_eq_false (by have := hT.out.seq; omega)
                  rcases Nat.eq_zero_or_pos j with hj0 | hj0
                  · have z1 : decide ((j : Int) > 0) = false := decide_eq_false (by omega)
                    have z2 : decide (0 < j) = false := decide_eq_false (by omega)
                    have hj0H := hid hj0
                    clear hj0
                    go_wp2_with fail
                    refine wp_region_kp (by kernel_rfl) (by kernel_rfl) ?_
                    repeat (go_big_quiet_step ((go_at_call 25; exact kpw_of _ (hmay.out _))))
                    refine wpQuiet_nil ?_
                    intro _ hw'
                    obtain ⟨⟨w7, k7⟩, rfl⟩ := hw'
                    have hm7 := hid (hmqH.out.kp k7)
                    have d0' := k7.cell d0

                    clear k7
                    go_wp2_with (first | (at_mapUpdate; refine wpList_mapUpdate_own _ rfl _ _ _ 61 rfl 32 4 law64 Try.underlying61 RB w5.heap.size (seenK W.lv kn j).length D rfl (own_map hm7.out.own hm7.out.map) (by have := hlen.out; unfold maxLen; omega) _ _ _ rfl rfl (keyOf_int_mk Try.underlying32 (wf_n hT.out.big)) _ [] (plainElem_bool Try.underlying4 true) ?_; intro w8 hown8 hgrow8) | fail)
                    obtain ⟨es8, clk8, hm8⟩ := hm7.out.put hown8 hgrow8
                    rw [← hsu.out] at hm8
                    have hm8H := hid hm8
                    clear hown8 hgrow8 hm8
                    go_wp2
                    go_roundw
                    case rel => exact ⟨j + 1, _, _, _, by go_num, by omega, hm8H.out⟩
                    case measure => simp [intOf]; omega
                  · obtain ⟨i, hi⟩ : ∃ i, j = i + 1 := ⟨j - 1, by omega⟩
                    obtain ⟨y, hy⟩ : ∃ y, ys[i]? = some y := ⟨_, List.getElem?_eq_getElem (by omega)⟩
                    obtain ⟨g7, off7, hA7, _, e0, e1, e2, e3, e4⟩ := rd_meta (sl_rd (Own.pick 1 hmqH.out.own)) rfl hy
                    simp only [Option.some.injEq, Addr.mk.injEq, and_true] at hA7
                    obtain ⟨rfl, rfl⟩ := hA7
                    have e0u := fun u : KpW wq => u.kp.cell e0
                    have e3u := fun u : KpW wq => u.kp.cell e3
                    have z1 : decide ((j : Int) > 0) = true := decide_eq_true (by omega)
                    have z2 : decide (0 < j) = true := decide_eq_true hj0
                    have z3 : IntKind.i64.wrap ((j : Int) - 1) = (i : Int) := by rw [IntWalk.i64_in _ (by omega)]; omega
                    have hil : (i : Int) < (ys.length : Int) := by omega
                    have hiH := hid hi
                    have hyH := hid hy
                    rcases Nat.eq_zero_or_pos kn with hk0 | hk0
                    · have q1 : ((kn : Int) == 0) = true := by subst hk0; rfl
                      have q2 : decide (y.file ≤ x.file) = false := decide_eq_false (by have := hT.out.top hk0 i y hi hy; omega)
                      have q3 : decide ((kn : Int) > 0) = false := decide_eq_false (by omega)
                      have q4 : decide (0 < kn) = false := decide_eq_false (by omega)
                      have hk0H := hid hk0
                      clear hk0 hi hy hj0
                      go_wp2_with fail
                      refine wp_region_kp (by kernel_rfl) (by kernel_rfl) ?_
                      repeat (go_big_quiet_step ((go_at_call 25; exact kpw_of _ (hmay.out _))))
                      refine wpQuiet_nil ?_
                      intro _ hw'
                      obtain ⟨⟨w7, k7⟩, rfl⟩ := hw'
                      have hm7 := hid (hmqH.out.kp k7)
                      have d0' := k7.cell d0
                      have e0' := k7.cell e0
                      clear k7
                      go_wp2_with (first | (at_mapUpdate; refine wpList_mapUpdate_own _ rfl _ _ _ 61 rfl 32 4 law64 Try.underlying61 RB w5.heap.size (seenK W.lv kn j).length D rfl (own_map hm7.out.own hm7.out.map) (by have := hlen.out; unfold maxLen; omega) _ _ _ rfl rfl (keyOf_int_mk Try.underlying32 (wf_n hT.out.big)) _ [] (plainElem_bool Try.underlying4 true) ?_; intro w8 hown8 hgrow8) | fail)
                      obtain ⟨es8, clk8, hm8⟩ := hm7.out.put hown8 hgrow8
                      rw [← hsu.out] at hm8
                      have hm8H := hid hm8
                      clear hown8 hgrow8 hm8
                      go_wp2
                      go_roundw
                      case rel => exact ⟨j + 1, _, _, _, by go_num, by omega, hm8H.out⟩
                      case measure => simp [intOf]; omega
                    · have q1 : ((kn : Int) == 0) = false := by rw [beq_eq_false_iff_ne]; omega
                      have q3 : decide ((kn : Int) > 0) = true := decide_eq_true (by omega)
                      have q4 : decide (0 < kn) = true := decide_eq_true hk0
                      have q5 := geq_ltK y.last x.first
                      rw [hT.out.up hk0 i y hi hy, Bool.not_true] at q5
                      have hk0H := hid hk0
                      clear hk0 hi hy hj0
                      go_wp2_with fail
                      refine wp_region_kp (by kernel_rfl) (by kernel_rfl) ?_
                      repeat (go_big_quiet_step ((go_at_call 25; exact kpw_of _ (hmay.out _))))
                      refine wpQuiet_nil ?_
                      intro _ hw'
                      obtain ⟨⟨w7, k7⟩, rfl⟩ := hw'
                      have hm7 := hid (hmqH.out.kp k7)
                      have d0' := k7.cell d0
                      have d2' := k7.cell d2; have e3' := k7.cell e3
                      clear k7
                      go_wp2_with (first | (at_mapUpdate; refine wpList_mapUpdate_own _ rfl _ _ _ 61 rfl 32 4 law64 Try.underlying61 RB w5.heap.size (seenK W.lv kn j).length D rfl (own_map hm7.out.own hm7.out.map) (by have := hlen.out; unfold maxLen; omega) _ _ _ rfl rfl (keyOf_int_mk Try.underlying32 (wf_n hT.out.big)) _ [] (plainElem_bool Try.underlying4 true) ?_; intro w8 hown8 hgrow8) | fail)
                      obtain ⟨es8, clk8, hm8⟩ := hm7.out.put hown8 hgrow8
                      rw [← hsu.out] at hm8
                      have hm8H := hid hm8
                      clear hown8 hgrow8 hm8
                      go_wp2
                      go_roundw
                      case rel => exact ⟨j + 1, _, _, _, by go_num, by omega, hm8H.out⟩
                      case measure => simp [intOf]; omega
                · obtain rfl : j = ys.length := by omega
                  have ho := hmqH.out
                  rw [hsn.out] at ho
                  have hmo := hid (MpO.mk (w0 := w5) (Own.pick 1 ho.own).drop ho.ext ho.map ho.set)
                  clear ho
                  go_wp2_with fail
                  go_roundw
                  case rel => exact ⟨kn + 1, es, clk, D, by go_num, by omega, hmo.out⟩
                  case measure => simp [intOf]; omega
            · obtain rfl : kn = 4 := by omega
              have c0 := hmpH.out.base.cell b0
              have hgn : g < wl.heap.size := World.block_lt_of_cell? wl _ c0
              have hms2 := hid (MpO.start wl)
              have hgl := hid hsm.out.gone
              have hgb := hid (fun n hn => files_big hokH.out (hog.out n hn))
              have hgs := rd_size hgr5.out
              obtain ⟨gA, gn, gc⟩ := xg
              dsimp only at hgs c0 b0
              unfold SlA.v at hgr5
              dsimp only at hgr5
              subst hgs
              have hg63 : xE.gone.length ≤ 9223372036854775807 := by have := hgl.out; omega
              have k5l := hid hmpH.out.base
              go_wp2_with fail
              go_loopw [156] (fun jj wq => ∃ (j : Nat) (es2 : Array MapEntry) (clk2 : Nat) (D2 : DataW Unit), jj = .int .i64 j ∧ j ≤ xE.gone.length ∧ MpO wq wl wl.heap.size es2 clk2 D2 (xE.gone.take j).reverse [base wl wl.heap.size]) (fun jj _ => xE.gone.length - (intOf jj).toNat)
              case atStart => exact ⟨0, _, _, _, rfl, Nat.zero_le _, hms2.out⟩
              case round =>
                obtain ⟨j, es2, clk2, D2, rfl, hj, hmq⟩ := hrel
                have hmqH := hid hmq
                clear hmq hms2 b0 c0 hgn
                obtain ⟨wq, hwwq⟩ : ∃ x : World, x = wr := ⟨_, rfl⟩
                subst hwwq
                by_cases hjl : j < xE.gone.length
                · have hx : xE.gone[j]? = some xE.gone[j] := List.getElem?_eq_getElem hjl
                  obtain ⟨g6, off6, rfl, _, d0⟩ := rd_num ((k5l.out.trans hmqH.out.base).rd hgr5.out) rfl hx
                  have hbig := hid (hgb.out _ (List.mem_of_getElem? hx))
                  have hsu := hid (take_rev hx)
                  have hjl' : (j : Int) < (xE.gone.length : Int) := by omega
                  generalize xE.gone[j] = x at *
                  clear hx
                  go_wp2_with (first | (at_mapUpdate; refine wpList_mapUpdate_own _ rfl _ _ _ 61 rfl 32 4 law64 Try.underlying61 RB wl.heap.size (xE.gone.take j).reverse.length D2 rfl (own_map hmqH.out.own hmqH.out.map) (by have := hgl.out; rw [List.length_reverse, List.length_take]; unfold maxLen; omega) _ _ _ rfl rfl (keyOf_int_mk Try.underlying32 (wf_n hbig.out)) _ [] (plainElem_bool Try.underlying4 true) ?_; intro w8 hown8 hgrow8) | fail)
                  obtain ⟨es8, clk8, hm8⟩ := hmqH.out.put hown8 hgrow8
                  rw [← hsu.out] at hm8
                  have hm8H := hid hm8
                  clear hown8 hgrow8 hm8 d0
                  go_wp2
                  go_roundw
                  case rel => exact ⟨j + 1, by go_num, by omega, es8, clk8, D2.put (.int .u64 x) (.lit (.bool true)), hm8H.out⟩
                  case measure => simp [intOf]; omega
                · obtain rfl : j = xE.gone.length := by omega
                  have hmo : Hid (MpO wq wl wl.heap.size es2 clk2 D2 xE.gone.reverse [base wl wl.heap.size]) := hid (by have := hmqH.out; rwa [List.take_length] at this)
                  have kq := hid (k5l.out.trans hmqH.out.base)
                  have hfi := hid (files_c p S V wq (hv5.out.kp kq.out))
                  have hfm := hid (fun n (h : n ∈ filesS V.lv) => (filesS_mem V.lv n).1 h)
                  have hfb := hid (fun n hn => files_big hokH.out (hfm.out n hn))
                  have hse := hid (fun n => @seen_end W.lv n)
                  have hflen : Hid ((filesS V.lv).length ≤ 80000) := hid (by
                    have e1 := fileL_len V.lv hvH.out.few 4 (by omega)
                    rw [fileL_four] at e1
                    unfold filesS
                    rw [(List.mergeSort_perm _ _).length_eq]
                    omega)
                  clear hmqH
                  generalize hfs : filesS V.lv = fs at *
                  have hfsH := hid hfs
                  clear hfs
                  go_wp2_with fail
                  refine hfi.out.mono ?_
                  rintro e w9 ⟨v9, rfl, o9, e9⟩
                  have hrf := hid (sl_rd o9)
                  obtain ⟨A9, n9, c9, rfl⟩ := sl_shape o9
                  have hr9 := rd_size (s := ⟨A9, n9, c9⟩) hrf.out
                  dsimp only at hr9
                  subst hr9
                  have k9 := hid (kp_of1 o9 e9)
                  have hf63 : fs.length ≤ 9223372036854775807 := by have := hflen.out; omega
                  clear o9 e9 hfi
                  go_wp2_with fail
                  go_loopw [166] (fun jj wz => ∃ j : Nat, jj = .int .i64 j ∧ j ≤ fs.length ∧ Kp w9 wz) (fun jj _ => fs.length - (intOf jj).toNat)
                  case atStart => exact ⟨0, rfl, Nat.zero_le _, Kp.refl _⟩
                  case round =>
                    obtain ⟨j, rfl, hj, kz⟩ := hrel
                    have kzH := hid kz
                    clear kz
                    by_cases hjl : j < fs.length
                    · have hx : fs[j]? = some fs[j] := List.getElem?_eq_getElem hjl
                      obtain ⟨g6, off6, rfl, _, d0⟩ := rd_num (kzH.out.rd hrf.out) rfl hx
                      have hxm := List.mem_of_getElem? hx
                      have hbig := hid (hfb.out _ hxm)
                      have l2 := (hmo.out.kp (k9.out.trans kzH.out)).look hbig.out
                      have l1 := (hmpH.out.kp ((hmo.out.base.trans k9.out).trans kzH.out)).look hbig.out
                      have hw := hid (fun h => hse.out _ (hokp.out _ (hfm.out _ hxm) h))
                      have hjl' : (j : Int) < (fs.length : Int) := by omega
                      generalize fs[j] = x at *
                      clear hx hxm
                      rcases bool_cases (xE.gone.reverse.contains x) with hc | hc
                      · rw [hc] at l2
                        clear hw hc
                        go_wp2_with fail
                        go_roundw
                        case rel => exact ⟨j + 1, by go_num, by omega, kzH.out⟩
                        case measure => simp [intOf]; omega
                      · rw [hc] at l2
                        rw [hw.out (fun h => by rw [List.contains_eq_mem, decide_eq_false_iff_not, List.mem_reverse] at hc; exact hc h)] at l1
                        clear hw hc
                        go_wp2_with fail
                        go_roundw
                        case rel => exact ⟨j + 1, by go_num, by omega, kzH.out⟩
                        case measure => simp [intOf]; omega
                    · obtain rfl : j = fs.length := by omega
                      have kk := hid ((hmpH.out.base.trans ((hmo.out.base.trans k9.out).trans kzH.out)))
                      have hwz := hid (hw5.out.kp kk.out)
                      have kwz := hid (k5H.out.trans kk.out)
                      clear hmpH hmo
                      go_wp2_with fail
                      go_roundw
                      case rel => exact ⟨k + 1, p2, S2, W, by go_num, ⟨by omega, by omega⟩, rfl, hwz.out, hWok.out, kwz.out⟩
                      case measure => simp [intOf]; omega
    · have hk3 : k = 40 ∧ (40 : Int) < xs.length ∨ decide (k < xs.length) = false := by
        by_cases hk1 : k < xs.length
        · exact .inl ⟨by omega, by omega⟩
        · exact .inr (decide_eq_false hk1)
      clear hlt hH
      rcases hk3 with ⟨rfl, hk3⟩ | hk3
      all_goals
        go_wp2_with fail
        go_ret
        exact ⟨rfl, krH.out⟩
theorem levelOrder_row (v : Value) (xs : List EdV) (W : World) (hr : Rd W edE v xs) (hp : ∀ x ∈ xs, EditW W x.g x.S x.E) : Calls Try.prog 5 #[v] W fun e W' => e = .returned (.bool true) ∧ Below W.heap.size W W' := by
  refine (orderLaw_c v xs W ⟨hr, hp⟩).mono ?_
  rintro e w' ⟨h1, h2⟩
  exact ⟨h1, ⟨h2.ext.os, h2.ext.tape, h2.ext.output, h2.ext.size, h2.same⟩⟩
end Go.Proofs.Ytdmdnhceiddcfaa
