/- The walk of FsSure. -/
import Derived.Test.YthnnpkmklkphaaaFsO
namespace Go.Proofs.Ythnnpkmklkphaaa
open Go.RowKit Go.Sl Go.Scree Go.Maps

theorem rd_here {α : Type} {W w : World} {E : Enc α} {v : Value} {xs : List α} (h : Rd W E v xs) (o : Own w [base W W.heap.size]) : Rd w E v xs := rd_base h w [] o
/-- The cells of an act. -/
theorem act_at {w : World} {A : Option Addr} {n c : Nat} {l : List FAct} (h : Rd w actE (.slice A n c) l) {i : Nat} {x : FAct} (hx : l[i]? = some x) :
    ∃ g off, A = some ⟨g, off, none⟩ ∧ w.cell? ⟨g, off + i * 5, none⟩ = some (.int .i64 x.kind) ∧ w.cell? ⟨g, off + i * 5 + 1, none⟩ = some (.int .i64 x.n) ∧ w.cell? ⟨g, off + i * 5 + 2, none⟩ = some (.string x.a) ∧
      w.cell? ⟨g, off + i * 5 + 3, none⟩ = some (.string x.b) ∧ w.cell? ⟨g, off + i * 5 + 4, none⟩ = some (.slice x.kA x.k.length x.kc) ∧ g < w.heap.size := by
  rcases h with ⟨_, rfl⟩ | ⟨g, off, cap, hv, h1, h2, hc⟩
  · simp at hx
  · simp only [Value.slice.injEq] at hv
    have c0 := hc i x hx 0 _ rfl
    exact ⟨g, off, hv.1, c0, hc i x hx 1 _ rfl, hc i x hx 2 _ rfl, hc i x hx 3 _ rfl, hc i x hx 4 _ rfl, World.block_lt_of_cell? w _ c0⟩
theorem act_small {x : FAct} (h : x.large = false) : x.a.size ≤ 100 ∧ x.b.size ≤ 1000 ∧ x.k.length ≤ 100 := by
  simp only [FAct.large, Bool.or_eq_false_iff, decide_eq_false_iff_not] at h
  omega

theorem sure_q1 {s b more : ByteArray} {t : Nat} (h : s.data.toList = b.data.toList ++ more.data.toList.take t) : ((s.extract 0 b.size).toList == b.toList) = true := by
  rw [beq_iff_eq, Lib.toList_data, Lib.toList_data, Lib.extract_data, h, List.drop_zero, Nat.sub_zero]
  exact List.take_left' (size_list b)
theorem sure_q2 {s b more : ByteArray} {t : Nat} (h : s.data.toList = b.data.toList ++ more.data.toList.take t) (hs : s.size = b.size + t) (ht : t ≤ more.size) : ((more.extract 0 (s.size - b.size)).toList == (s.extract b.size s.size).toList) = true := by
  have hd : (b.data.toList ++ more.data.toList.take t).drop b.size = more.data.toList.take t := List.drop_left' (size_list b)
  rw [beq_iff_eq, Lib.toList_data, Lib.toList_data, Lib.extract_data, Lib.extract_data, h, List.drop_zero, Nat.sub_zero, hd, hs, Nat.add_sub_cancel_left]
  rw [List.take_take, Nat.min_self]
set_option maxRecDepth 20000 in
set_option maxHeartbeats 12800000 in
theorem fsSure_row (v : Value) (l : List FAct) (name b more : ByteArray) (n : Int) (kv : Value) (keep : List Int) (W : World) (hr : Rd W actE v l) (hp : ∀ x ∈ l, ActOk W x) (w1 : name.size ≤ 140737488351232) (w2 : b.size ≤ 140737488351232) (w3 : more.size ≤ 140737488351232)
    (wn : (Lit.int .i64 n).wf = true) (hk : Rd W intE kv keep) (_ : True) :
    Calls Try.prog 3 #[v, .string name, .string b, .string more, .int .i64 n, kv] W fun e W' => e = .returned (.bool true) ∧ Below W.heap.size W W' := by
  obtain ⟨A, c, rfl, _, _⟩ := hr.form
  obtain ⟨kA, kc, rfl, _, _⟩ := hk.form
  have rH := hid hr
  have pH := hid hp
  have kH := hid hk
  clear hr hp hk wn
  go_enter Try.func3, Try.ntmps3
  go_wp2_with fail
  refine (awake_c W _ (Own.start W)).mono ?_
  rintro e wa ⟨rfl, oa, ea⟩
  have oaH := hid oa
  clear oa
  by_cases h1 : (100 : Int) < (name.size : Int)
  · go_wp2_with fail
    go_ret
    exact ⟨rfl, below_of_own oaH.out ea⟩
  by_cases h2 : (1000 : Int) < (b.size : Int)
  · go_wp2_with fail
    go_ret
    exact ⟨rfl, below_of_own oaH.out ea⟩
  by_cases h3 : (1000 : Int) < (more.size : Int)
  · go_wp2_with fail
    go_ret
    exact ⟨rfl, below_of_own oaH.out ea⟩
  by_cases h4 : (100 : Int) < (keep.length : Int)
  · go_wp2_with fail
    go_ret
    exact ⟨rfl, below_of_own oaH.out ea⟩
  go_wp2_with fail
  refine (new_c wa _ oaH.out).mono ?_
  rintro e wb ⟨p, rfl, ob, eb⟩
  have obH := hid ob
  have ebH := hid (ea.trans eb)
  clear ob ea eb oaH
  go_wp2_with fail
  go_loopw [14] (fun i wq => ∃ (k : Nat) (d : FDisk), i = .int .i64 k ∧ k ≤ l.length ∧ k ≤ 100 ∧ Go.Scree.Calm d ∧ d.quota = 1048576 ∧ FBd d (1000 * k) ∧ Own wq [diskC p d, base W W.heap.size] ∧ Ext W wq) (fun i _ => l.length - (intOf i).toNat)
  case atStart => exact ⟨0, FDisk.new, rfl, Nat.zero_le _, Nat.zero_le _, ⟨rfl, rfl⟩, rfl, FBd.start, obH.out, ebH.out⟩
  case round =>
    obtain ⟨k, d, rfl, hkl, hk100, hcalm, hq, hbd, oq, eq⟩ := hrel
    have oqH := hid oq
    have cH := hid hcalm
    have qH := hid hq
    have bH := hid hbd
    clear oq hcalm hq hbd
    by_cases hlt : k < l.length ∧ k < 100
    · obtain ⟨hlt, hlt100⟩ := hlt
      obtain ⟨x, hx⟩ : ∃ x, l[k]? = some x := ⟨_, List.getElem?_eq_getElem hlt⟩
      obtain ⟨g, off, rfl, a0, a1, a2, a3, a4, hg⟩ := act_at (rd_here rH.out oqH.out.drop) hx
      have hxm := pH.out x (List.mem_of_getElem? hx)
      have hxH := hid hxm
      have hl := hid (large_c x wr _ oqH.out)
      have hx2 := hid hx
      clear hx hxm
      rcases bool_cases x.large with hxl | hxl
      · rw [hxl] at hl
        go_wp2_with fail
        refine hl.out.mono ?_
        rintro e wc ⟨rfl, oc, ec⟩
        have ocH := hid oc
        clear oc
        go_wp2_with fail
        go_ret
        exact ⟨rfl, below_of_own (Own.drop ocH.out) (eq.trans ec)⟩
      · obtain ⟨s1, s2, s3⟩ := act_small hxl
        have hxlH := hid hxl
        rw [hxl] at hl
        clear hxl
        go_wp2_with fail
        refine hl.out.mono ?_
        rintro e wc ⟨rfl, oc, ec⟩
        have ocH := hid oc
        have ecH := hid (eq.trans ec)
        obtain ⟨g2, off2, hA2, b0, b1, b2, b3, b4, hg2⟩ := act_at (i := k) (x := x) (rd_here rH.out ocH.out.drop) hx2.out
        simp only [Option.some.injEq, Addr.mk.injEq, and_true] at hA2
        obtain ⟨rfl, rfl⟩ := hA2
        clear a0 a1 a2 a3 a4 eq ec oc hl oqH
        by_cases hk6 : x.kind < 6
        · have hpl := play_c p d x wc _ (diskC_ok ocH.out) (bH.out.mono (by omega)) hxlH.out hxH.out.1 (fun w' o => rd_here hxH.out.2 o) ocH.out
          unfold PlaySays at hpl
          have hplH := hid hpl
          have ck := hid (cH.out.play x (by omega))
          have qk := hid ((quota_play (d := d) x (by omega)).trans qH.out)
          have bk := hid (FBd.play (diskC_ok ocH.out) bH.out x s2)
          clear hpl
          go_wp2_with fail
          refine hplH.out.mono ?_
          rintro e wd ⟨rfl, od, ed⟩
          have odH := hid od
          have edH := hid (ecH.out.trans ed)
          clear od ed b0 b1 b2 b3 b4
          go_wp2_with fail
          go_roundw
          case rel => exact ⟨k + 1, (d.play x).1, by go_num, by omega, by omega, ck.out, qk.out, bk.out.mono (by omega), odH.out, edH.out⟩
          case measure => simp only [intOf]; omega
        · have hk6' : decide (x.kind < 6) = false := decide_eq_false hk6
          go_wp2_with fail
          go_roundw
          case rel => exact ⟨k + 1, d, by go_num, by omega, by omega, cH.out, qH.out, bH.out.mono (by omega), ocH.out, ecH.out⟩
          case measure => simp only [intOf]; omega
    · have hem : k < l.length ∨ ¬ k < l.length := Classical.em _
      have hor : ¬ k < l.length ∨ ¬ k < 100 := by omega
      have hb1 : b.size ≤ 1000 := by omega
      have hb2 : more.size ≤ 1000 := by omega
      have hnm : name.size ≤ maxLen := by unfold maxLen; omega
      have kd := diskC_ok oqH.out
      have hcr := create_c p d name wr _ hnm (bigN_le (by have := bH.out.waits; omega)) oqH.out
      unfold CreateSays at hcr
      by_cases hr0 : (d.create name).2 = 0
      · have hlaw := sure_law cH.out kd hr0 b.data.toList more.data.toList (by rw [qH.out, size_list, size_list]; have := bH.out.bytes; omega) n keep
        have B1 : FBd (sure1 d name) 110001 := (bH.out.create name).mono (by omega)
        have B2 : FBd (sure2 d name b.data.toList) 111001 := (B1.append name b.data.toList).mono (by rw [size_list]; omega)
        have B3 : FBd (sure3 d name b.data.toList) 111001 := B2.sync name
        have B4 : FBd (sure4 d name b.data.toList) 111001 := B3.syncDir
        have B5 : FBd (sure5 d name b.data.toList more.data.toList) 112001 := (B4.append name more.data.toList).mono (by rw [size_list]; omega)
        have K1 : FOk (sure1 d name) := kd.create name
        have K2 : FOk (sure2 d name b.data.toList) := K1.append name _
        have K3 : FOk (sure3 d name b.data.toList) := K2.sync name
        have K4 : FOk (sure4 d name b.data.toList) := K3.syncDir
        have K5 : FOk (sure5 d name b.data.toList more.data.toList) := K4.append name _
        obtain ⟨r2, r3, r4, r5, t, ht, hread⟩ := hlaw
        rw [hr0] at hcr
        have hcrH := hid hcr
        have hnmH := hid hnm
        have S1 := hid (bigN_le (Nat.le_trans (size_total K1) (Nat.le_trans B1.bytes (by decide))))
        have S4 := hid (bigN_le (Nat.le_trans (size_total K4) (Nat.le_trans B4.bytes (by decide))))
        have B5H := hid (B5.mono (m := bigN) (by decide))
        have r2H := hid r2
        have r3H := hid r3
        have r4H := hid r4
        have r5H := hid r5
        have rdH := hid hread
        have hbs := hid (bigN_le (n := b.size) (by omega))
        have hms := hid (bigN_le (n := more.size) (by omega))
        have htl : t ≤ more.size := by rw [← size_list]; exact ht
        clear hcr kd hr0 B1 B2 B3 B4 B5 K1 K2 K3 K4 K5 r2 r3 r4 r5 hread hnm ht hkl hk100
        rcases hem with hem | hem
        all_goals
          go_wp2_with fail
          refine hcrH.out.mono ?_
          rintro e x1 ⟨rfl, o1, e1⟩
          have hc1 := append_c p (sure1 d name) name b x1 _ hnmH.out S1.out hbs.out o1
          unfold AppendSays at hc1
          rw [r2H.out] at hc1
          have hc1H := hid hc1
          have E1 := hid (eq.trans e1)
          clear hc1 o1 e1
          go_wp2_with fail
          refine hc1H.out.mono ?_
          rintro e x2 ⟨rfl, o2, e2⟩
          have hc2 := sync_c p (sure2 d name b.data.toList) name x2 _ hnmH.out o2
          unfold SyncSays at hc2
          rw [r3H.out] at hc2
          have hc2H := hid hc2
          have E2 := hid (E1.out.trans e2)
          clear hc2 o2 e2
          go_wp2_with fail
          refine hc2H.out.mono ?_
          rintro e x3 ⟨rfl, o3, e3⟩
          have hc3 := syncDir_c p (sure3 d name b.data.toList) x3 _ o3
          unfold SyncDirSays at hc3
          rw [r4H.out] at hc3
          have hc3H := hid hc3
          have E3 := hid (E2.out.trans e3)
          clear hc3 o3 e3
          go_wp2_with fail
          refine hc3H.out.mono ?_
          rintro e x4 ⟨rfl, o4, e4⟩
          have hc4 := append_c p (sure4 d name b.data.toList) name more x4 _ hnmH.out S4.out hms.out o4
          unfold AppendSays at hc4
          rw [r5H.out] at hc4
          have hc4H := hid hc4
          have E4 := hid (E3.out.trans e4)
          clear hc4 o4 e4
          go_wp2_with fail
          refine hc4H.out.mono ?_
          rintro e x5 ⟨rfl, o5, e5⟩
          have hc5H := hid (crash_c p (sure5 d name b.data.toList more.data.toList) n (.slice kA keep.length kc) keep x5 _ B5H.out (fun w' o => rd_here kH.out o) o5)
          have E5 := hid (E4.out.trans e5)
          clear o5 e5
          go_wp2_with fail
          refine hc5H.out.mono ?_
          rintro e x6 ⟨rfl, o6, e6⟩
          have hc6 := read_c p _ name x6 _ hnmH.out o6
          rw [rdH.out] at hc6
          have hc6H := hid hc6
          have o6H := hid o6
          have E6 := hid (E5.out.trans e6)
          clear hc6 o6 e6
          go_wp2_with fail
          refine hc6H.out.mono ?_
          rintro e x7 ⟨rfl, rfl⟩
          go_wp2_with fail
          obtain ⟨s, hs⟩ : ∃ s : ByteArray, (⟨(b.data.toList ++ more.data.toList.take t).toArray⟩ : ByteArray) = s := ⟨_, rfl⟩
          rw [hs]
          have hsl : s.data.toList = b.data.toList ++ more.data.toList.take t := by rw [← hs]
          have hsz : s.size = b.size + t := by rw [← size_list s, hsl, List.length_append, List.length_take, size_list, size_list]; omega
          have hg1 : b.size ≤ s.size := by omega
          have hg2 : s.size ≤ b.size + more.size := by omega
          have hslH := hid hsl
          have hszH := hid hsz
          have q1 := sure_q1 hsl
          have q2 := sure_q2 hsl hsz htl
          have hw1 : IntKind.i64.wrap ((b.size : Int) + (more.size : Int)) = (b.size : Int) + (more.size : Int) := Go.IntWalk.i64_in _ (by omega)
          have hw2 : IntKind.i64.wrap ((s.size : Int) - (b.size : Int)) = (s.size : Int) - (b.size : Int) := Go.IntWalk.i64_in _ (by omega)
          have hw3 : ((s.size : Int) - (b.size : Int)).toNat = s.size - b.size := by omega
          have hw4 : (0 : Int) ≤ (s.size : Int) - (b.size : Int) := by omega
          have hw5 : (s.size : Int) - (b.size : Int) ≤ (more.size : Int) := by omega
          have hw6 : decide ((s.size : Int) ≤ (b.size : Int) + (more.size : Int)) = true := decide_eq_true (by omega)
          clear hs hsl hsz
          go_quiet (fail)
          clear q1 q2 hw1 hw2 hw3 hw4 hw5 hw6
          go_wp2
          go_ret
          exact ⟨rfl, below_of_own (Own.drop (o6H.out.drewN _)) (E6.out.drewN _)⟩
      · have hb0 : ((d.create name).2 == 0) = false := by simpa using hr0
        have hb1 : ((d.create name).2 != 0) = true := by simpa using hr0
        have hcrH := hid hcr
        clear hcr hr0 kd
        generalize (d.create name).2 = r at *
        rcases hem with hem | hem
        all_goals
          go_wp2_with fail
          refine hcrH.out.mono ?_
          rintro e x1 ⟨rfl, o1, e1⟩
          have o1H := hid o1
          clear o1
          go_wp2_with fail
          go_ret
          exact ⟨rfl, below_of_own (Own.drop o1H.out) (eq.trans e1)⟩
end Go.Proofs.Ythnnpkmklkphaaa
