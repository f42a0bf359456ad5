/- The walks of the document's Span, Meet. · The document's Pick: thirty rounds are enough; in plain Lean. · The walk of the document's Pick. · The walk of LevelPicks. · The row of LevelPicks: whatever comes in, it answers true; the arguments read behind the call as they did. -/
import Derived.Test.YtdmdnhceiddcfaaRlvA
import Derived.Test.YtdmdnhceiddcfaaLvlR
import Derived.Deep.CutBlock
import Derived.Deep.DeepCutAuto
import Derived.Deep.CutRange
import Derived.Test.YtdmdnhceiddcfaaLnuA
import Derived.Test.YtdmdnhceiddcfaaRlvC
import Derived.Test.YtdmdnhceiddcfaaRows
import Derived.Test.YtdmdnhceiddcfaaOpnE
import Derived.ProofKit
import Derived.OpenShut
import Derived.ShutString
import Derived.ChangeOld
import Derived.SizedLaws
set_option linter.all false
namespace Go.Proofs.Ytdmdnhceiddcfaa
open Go.RowKit Go.Sl Go.Scree

theorem gtrK (a b : ByteArray) : (!(Op.bytesLess a.toList b.toList || a.toList == b.toList)) = ltK b a := by rw [leq_ltK, Bool.not_not]
set_option maxRecDepth 20000 in
set_option maxHeartbeats 6400000 in
theorem rspan_c (v : Value) (xs : List MetaM) (w : World) (h : Rd w metaE v xs) (h0 : 0 < xs.length) :
    Calls Try.prog 44 #[v] w fun e w' => e = .returned (.tuple #[.string (spanP xs).1, .string (spanP xs).2]) ∧ w' = w := by
  obtain ⟨A, c, rfl, hm, hc⟩ := h.form
  have hl : xs.length ≤ 9223372036854775807 := by simpa [maxLen] using hm
  have hH := hid h
  obtain ⟨x0, hx0⟩ : ∃ x, xs[0]? = some x := ⟨_, List.getElem?_eq_getElem h0⟩
  obtain ⟨g, off, hA, _, a0, a1, a2, a3, a4⟩ := rd_meta h rfl hx0
  have hs0 : Hid (spanK xs 0 = (x0.first, x0.last)) := hid (by
    cases xs with
    | nil => simp at hx0
    | cons y l => simp at hx0; subst hx0; rfl)
  subst hA
  rw [Nat.zero_mul, Nat.add_zero] at a0 a1 a2 a3 a4
  have h0' : (0 : Int) < (xs.length : Int) := by omega
  clear h hm hc hx0
  go_enter Try.func44, Try.ntmps44
  go_wp2_with fail
  clear a0 a1 a2 a3 a4
  go_loopw [4, 5, 6] (fun s4 s5 i wr => ∃ k : Nat, k ≤ xs.length ∧ i = .int .i64 k ∧ s4 = .string (spanK xs k).1 ∧ s5 = .string (spanK xs k).2 ∧ wr = w) (fun _ _ i _ => xs.length - (intOf i).toNat)
  case atStart => exact ⟨0, Nat.zero_le _, rfl, by rw [hs0.out], by rw [hs0.out], rfl⟩
  case round =>
    obtain ⟨k, hk, rfl, rfl, rfl, hw⟩ := hrel
    have hw' := hw.symm
    subst hw'
    clear hw
    by_cases hlt : k < xs.length
    · have hx : xs[k]? = some xs[k] := List.getElem?_eq_getElem hlt
      obtain ⟨g', off', hA', _, d0, d1, d2, d3, d4⟩ := rd_meta hH.out rfl hx
      simp only [Option.some.injEq, Addr.mk.injEq, and_true] at hA'
      obtain ⟨rfl, rfl⟩ := hA'
      have hsu := hid (spanK_succ hx)
      have hlt' : (k : Int) < (xs.length : Int) := by omega
      generalize xs[k] = x at *
      generalize spanK xs k = r at *
      obtain ⟨r1, r2⟩ := r
      dsimp only at hsu ⊢
      unfold minK maxK at hsu
      have q1 := less_ltK x.first r1
      have q2 := gtrK x.last r2
      clear hx
      rcases bool_cases (ltK x.first r1) with e | e
      all_goals
        rw [e] at q1 hsu
        rcases bool_cases (ltK r2 x.last) with f | f
        all_goals
          rw [f] at q2 hsu
          have hsuH : Hid (spanK xs (k + 1) = _) := hid hsu.out
          simp only [if_true, Bool.false_eq_true, if_false] at hsuH
          clear e f hsu
          go_wp2_with fail
          go_roundw
          case rel => exact ⟨k + 1, by omega, by go_num, by rw [hsuH.out], by rw [hsuH.out], by first | rfl | trivial⟩
          case measure => simp [intOf]; omega
    · have dk : decide (k < xs.length) = false := decide_eq_false hlt
      have hse : Hid (spanK xs k = spanP xs) := hid (by rw [show k = xs.length by omega]; exact spanK_len xs)
      go_wp2_with fail
      go_ret2
      exact ⟨by rw [← hse.out]; rfl, rfl⟩
def levelS (S : Nat → SlA) (l : Int) : SlA := if 0 ≤ l ∧ l < 4 then S l.toNat else nilA
theorem levelS_rd {w : World} {p : Nat} {S : Nat → SlA} {V : VerM} (h : VerR w p S V) (l : Int) : Rd w metaE (levelS S l).v (levelM V.lv l) := by
  unfold levelS levelM
  split
  · exact h.rd _ (by omega)
  · exact rd_nilA w
theorem rlevel2_c (p : Nat) (S : Nat → SlA) (V : VerM) (l : Int) (w : World) (h : VerR w p S V) :
    Calls Try.prog 46 #[.pointer (some ⟨p, 0, none⟩), .int .i64 l] w fun e w' => e = .returned (.slice (levelS S l).A (levelS S l).n (levelS S l).c) ∧ w' = w := by
  unfold levelS
  by_cases h0 : l < 0
  · rw [if_neg (by omega)]
    have d0 : decide (l < 0) = true := decide_eq_true h0
    clear h
    go_enter Try.func46, Try.ntmps46
    go_wp2_with fail
    go_ret
    exact ⟨rfl, rfl⟩
  · have d0 : decide (l < 0) = false := decide_eq_false h0
    by_cases h4 : l > 3
    · rw [if_neg (by omega)]
      have d4 : decide (l > 3) = true := decide_eq_true h4
      clear h
      go_enter Try.func46, Try.ntmps46
      go_wp2_with fail
      go_ret
      exact ⟨rfl, rfl⟩
    · rw [if_pos (by omega)]
      obtain ⟨k, rfl⟩ : ∃ k : Nat, l = k := ⟨l.toNat, by omega⟩
      rw [Int.toNat_natCast]
      have hk : k < 4 := by omega
      have d4 : decide ((k : Int) > 3) = false := decide_eq_false h4
      have d4' : decide ((3 : Int) < (k : Int)) = false := decide_eq_false h4
      have hc := h.lvl k hk
      have hk' : (k : Int) < 4 := by omega
      clear h h0
      go_enter Try.func46, Try.ntmps46
      go_wp2_with fail
      go_ret
      exact ⟨rfl, rfl⟩
set_option maxRecDepth 20000 in
set_option maxHeartbeats 6400000 in
theorem rmeet_c (p : Nat) (S : Nat → SlA) (V : VerM) (l : Int) (a b : ByteArray) (w : World) (h : VerR w p S V) :
    Calls Try.prog 20 #[.pointer (some ⟨p, 0, none⟩), .int .i64 l, .string a, .string b] w fun e w' => ∃ A n c, e = .returned (.slice A n c) ∧ Own w' [sl 56 metaE (.slice A n c) (meetM V.lv l a b), base w w.heap.size] ∧ Ext w w' := by
  have hl := hid (fun w1 (k : Kp w w1) => rlevel2_c p S V l w1 (h.kp k))
  have hrd := levelS_rd h l
  have hf := levelM_few h.few l
  obtain ⟨i0, hi0, hz0, hz1, hz2⟩ := info_parts infoMeta
  unfold meetM
  generalize levelM V.lv l = ys at *
  generalize levelS S l = s at *
  obtain ⟨sA, sn, sc⟩ := s
  obtain rfl : sn = ys.length := rd_n hrd
  unfold SlA.v at hrd
  dsimp only at hrd hl
  have hrH := hid hrd
  clear h hrd
  go_enter Try.func20, Try.ntmps20
  go_wp2_with fail
  refine (hl.out _ ((Kp.refl w).alloc _)).mono ?_
  rintro e w1 ⟨rfl, hw1⟩
  have o1 : Hid (Own w1 [sl 56 metaE (.slice (some ⟨w.heap.size, 0, none⟩) 0 0) (([] : List MetaM)), base w w.heap.size]) := hid (by rw [hw1]; exact sl_empty' 56 metaE ((Own.start w).alloc (.cells #[] 56 (0, 0))))
  have x1 : Hid (Ext w w1) := hid (by rw [hw1]; exact (Ext.refl w).alloc _)
  clear hw1 hl
  have hy63 : ys.length ≤ 9223372036854775807 := by omega
  go_wp2_with fail
  go_loopw [9, 11] (fun v jj wz => ∃ j : Nat, jj = .int .i64 j ∧ j ≤ ys.length ∧ Own wz [sl 56 metaE v ((ys.take j).filter (meetB a b)), base w w.heap.size] ∧ Ext w wz) (fun _ jj _ => ys.length - (intOf jj).toNat)
  case atStart => exact ⟨0, rfl, Nat.zero_le _, by simpa using o1.out, x1.out⟩
  case round =>
    clear o1 x1
    obtain ⟨j, rfl, hj, oj, ej⟩ := hrel
    obtain ⟨A2, n2, c2, rfl⟩ := sl_shape oj
    have ojH := hid oj
    have ejH := hid ej
    clear oj ej
    by_cases hjl : j < ys.length
    · have hx : ys[j]? = some ys[j] := List.getElem?_eq_getElem hjl
      obtain ⟨g, off, hA, _, d0, d1, d2, d3, d4⟩ := rd_meta ((kp_of1 ojH.out ejH.out).rd hrH.out) rfl hx
      have htk : Hid (ys.take (j + 1) = ys.take j ++ [ys[j]]) := hid (List.take_succ_eq_append_getElem hjl)
      generalize ys[j] = x at *
      clear hx
      subst hA
      have hjl' : (j : Int) < (ys.length : Int) := by omega
      have hmt := hid (fun w => rmeets_c x a b w)
      unfold metaV at hmt
      have hlf : (((ys.take j).filter (meetB a b)).length : Nat) ≤ 20000 := Nat.le_trans (List.length_filter_le _ _) (by rw [List.length_take]; omega)
      have hbb := bool_cases (meetB a b x)
      have hyes : Hid (meetB a b x = true → (ys.take (j + 1)).filter (meetB a b) = (ys.take j).filter (meetB a b) ++ [x]) := hid (fun h => by rw [htk.out, List.filter_append]; simp [h])
      have hno : Hid (meetB a b x = false → (ys.take (j + 1)).filter (meetB a b) = (ys.take j).filter (meetB a b)) := hid (fun h => by rw [htk.out, List.filter_append]; simp [h])
      generalize meetB a b x = bb at *
      go_wp2_with fail
      refine (hmt.out _).mono ?_
      rintro e w2 ⟨rfl, k2⟩
      have b0 := k2.cell d0
      have b1 := k2.cell d1
      have b2 := k2.cell d2
      have b3 := k2.cell d3
      have b4 := k2.cell d4
      have o2 := hid (k2.own ojH.out)
      have e2 := hid (ejH.out.trans k2.ext)
      clear k2 d0 d1 d2 d3 d4 ojH ejH
      rcases hbb with rfl | rfl
      · go_wp2_with (refine wpList_append_slc rfl _ _ _ rfl 56 i0 _ 5 56 Try.underlying30 hi0 hz0 hz1 hz2 rfl (by omega) _ _ _ rfl (Own.allocd o2.out) ⟨w2.heap.size, 0, none⟩ 1 1 [.int .u64 x.file, .int .i64 x.size, .string x.first, .string x.last, .int .u64 x.seq] rfl rfl (cells_new' (by simp) _ _ _) ?c2 ?c3 ?c4 ?_)
        case c2 => simp [Value.oneCell']
        case c3 => unfold maxLen; omega
        case c4 => omega
        intro v3 w3 o3 e3 _
        have o4 := sl_of (E := metaE) ((ys.take (j + 1)).filter (meetB a b)) o3 (by rw [hyes.out (by simp)]; simp) (by rw [hyes.out (by simp)]; simp [metaE, Enc.flat])
        obtain ⟨A4, n4, k4, rfl⟩ := sl_shape o4
        have o4H := hid o4
        have x4H := hid ((e2.out.alloc (.cells #[.int .u64 x.file, .int .i64 x.size, .string x.first, .string x.last, .int .u64 x.seq] 56 (0, 0))).trans e3)
        clear o3 o4 b0 b1 b2 b3 b4
        go_wp2_with fail
        go_roundw
        case rel => exact ⟨j + 1, by go_num, by omega, o4H.out, x4H.out⟩
        case measure => simp [intOf]; omega
      · have o4H : Hid (Own w2 [sl 56 metaE (.slice A2 n2 c2) ((ys.take (j + 1)).filter (meetB a b)), base w w.heap.size]) := hid (by rw [hno.out (by simp)]; exact o2.out)
        clear b0 b1 b2 b3 b4
        go_wp2_with fail
        go_roundw
        case rel => exact ⟨j + 1, by go_num, by omega, o4H.out, e2.out⟩
        case measure => simp [intOf]; omega
    · have ho : Hid (Own wr [sl 56 metaE (.slice A2 n2 c2) (ys.filter (meetB a b)), base w w.heap.size]) := hid (by have := ojH.out; rwa [List.take_of_length_le (by omega)] at this)
      have dj : decide (j < ys.length) = false := decide_eq_false hjl
      clear hjl
      go_wp2_with fail
      go_ret
      exact ⟨_, _, _, rfl, ho.out, ejH.out⟩
end Go.Proofs.Ytdmdnhceiddcfaa
namespace Go.Proofs.Ytdmdnhceiddcfaa
open Go.RowKit Go.Sl Go.Scree

def iterP (lv0 : List MetaM) : Nat → List MetaM → List MetaM
  | 0, f => f
  | n + 1, f => iterP lv0 n (meetL lv0 (spanP f))
theorem iter_snoc (lv0 : List MetaM) : ∀ (n : Nat) (f : List MetaM), iterP lv0 (n + 1) f = meetL lv0 (spanP (iterP lv0 n f))
  | 0, f => rfl
  | n + 1, f => iter_snoc lv0 n (meetL lv0 (spanP f))
theorem iter_fix {lv0 f : List MetaM} (h : meetL lv0 (spanP f) = f) : ∀ n, iterP lv0 n f = f
  | 0 => rfl
  | n + 1 => by
    show iterP lv0 n (meetL lv0 (spanP f)) = f
    rw [h]
    exact iter_fix h n
theorem meet_up2 {xs f : List MetaM} (h : f.Sublist xs) (hw : ∀ m ∈ xs, ltK m.last m.first = false) : f.Sublist (meetL xs (spanP f)) := by
  have e : f.filter (meetB (spanP f).1 (spanP f).2) = f := List.filter_eq_self.2 fun m hm => span_meets hm (hw m (h.subset hm))
  have := h.filter (meetB (spanP f).1 (spanP f).2)
  rw [e] at this
  exact this
theorem iter_grow {xs : List MetaM} (hw : ∀ m ∈ xs, ltK m.last m.first = false) : ∀ (n fuel : Nat) (f : List MetaM), f.Sublist xs → xs.length < f.length + n → xs.length < f.length + fuel → iterP xs n f = growP xs fuel f
  | 0, _, f, h, hn, _ => absurd h.length_le (by omega)
  | n + 1, 0, f, h, _, hf => absurd h.length_le (by omega)
  | n + 1, fuel + 1, f, h, hn, hf => by
    have hu := meet_up2 h hw
    unfold growP
    show iterP xs n (meetL xs (spanP f)) = _
    split
    · rename_i hlt
      exact iter_grow hw n fuel _ List.filter_sublist (by omega) (by omega)
    · rename_i hlt
      have e : f = meetL xs (spanP f) := hu.eq_of_length_le (by omega)
      rw [← e]
      exact iter_fix e.symm n
theorem iter_pos {xs : List MetaM} (hw : ∀ m ∈ xs, ltK m.last m.first = false) : ∀ (n : Nat) (f : List MetaM), f.Sublist xs → 0 < f.length → (iterP xs n f).Sublist xs ∧ 0 < (iterP xs n f).length
  | 0, f, h, h0 => ⟨h, h0⟩
  | n + 1, f, h, h0 => iter_pos hw n _ List.filter_sublist (meet_pos h.subset hw h0)
/-- What is picked of a level: of level 0 thirty rounds. -/
theorem from_iter {V : VerM} (hV : VOk V) {n k : Nat} (hn : n < 4) {x : MetaM} (hx : (V.lv n)[k % (V.lv n).length]? = some x) : fromP V.lv n k = if n = 0 then iterP (V.lv 0) 30 [x] else [x] := by
  unfold fromP
  rw [hx]
  dsimp only
  split
  · rename_i e
    subst e
    have hs : [x].Sublist (V.lv 0) := List.singleton_sublist.2 (List.mem_of_getElem? hx)
    have h30 := vok_len hV (l := 0) (by omega)
    exact (iter_grow (fun m hm => (may_parts (hV.may m (mem_flat.2 ⟨0, by omega, hm⟩))).2.2.2.2.1) 30 _ [x] hs (by simp; omega) (by simp)).symm
  · rfl
end Go.Proofs.Ytdmdnhceiddcfaa
namespace Go.Proofs.Ytdmdnhceiddcfaa
open Go.RowKit Go.Sl Go.Scree

set_option maxRecDepth 20000 in
set_option maxHeartbeats 12800000 in
theorem rpick_c (p : Nat) (S : Nat → SlA) (V : VerM) (l k : Int) (w : World) (h : VerR w p S V) (hV : VOk V) (hk : k ≤ 9223372036854775807) :
    Calls Try.prog 17 #[.pointer (some ⟨p, 0, none⟩), .int .i64 l, .int .i64 k] w fun e w' => PickSays w w' e (pickP V l k) := by
  have hH := hid h
  have hVH := hid hV
  have kz := hid ((Kp.refl w).alloc (.cells #[.int .i64 0, .slice none 0 0, .slice none 0 0, .bool false] 44 (0, 0)))
  clear h hV
  by_cases hbad : l < 0 ∨ 2 < l ∨ k < 0
  · have hr := hid (@pick_bad V l k hbad)
    have d1 : decide (l < 0) = true ∨ decide (l < 0) = false ∧ (decide (l > 2) = true ∨ decide (l > 2) = false ∧ decide (k < 0) = true) := by
      rcases hbad with h | h | h
      · exact .inl (decide_eq_true h)
      · by_cases h0 : l < 0
        · exact .inl (decide_eq_true h0)
        · exact .inr ⟨decide_eq_false h0, .inl (decide_eq_true (by omega))⟩
      · by_cases h0 : l < 0
        · exact .inl (decide_eq_true h0)
        · by_cases h2 : l > 2
          · exact .inr ⟨decide_eq_false h0, .inl (decide_eq_true h2)⟩
          · exact .inr ⟨decide_eq_false h0, .inr ⟨decide_eq_false h2, decide_eq_true h⟩⟩
    clear hbad
    rcases d1 with d1 | ⟨d1, d2 | ⟨d2, d3⟩⟩
    all_goals
      go_enter Try.func17, Try.ntmps17
      go_wp2_with fail
      refine bodyPost_ret (by simp [results, Try.results17, go_sem]; rfl) rfl ?_
      exact ⟨kz.out, nilA, nilA, by rw [hr.out]; rfl, by rw [hr.out]; exact rd_nilA _, by rw [hr.out]; exact rd_nilA _⟩
  · have hnone := hid (@pick_none V l k hbad)
    have hgood : Hid ((V.lv l.toNat).isEmpty = false → pickP V l k = (⟨l, fromP V.lv l.toNat k.toNat, meetL (V.lv (l.toNat + 1)) (spanP (fromP V.lv l.toNat k.toNat)), bottomP V.lv l.toNat (spanP (fromP V.lv l.toNat k.toNat ++ meetL (V.lv (l.toNat + 1)) (spanP (fromP V.lv l.toNat k.toNat))))⟩, 0)) := hid (fun h => by unfold pickP; rw [if_neg hbad, if_neg (by rw [h]; simp)])
    obtain ⟨n, rfl⟩ : ∃ n : Nat, l = n := ⟨l.toNat, by omega⟩
    obtain ⟨q, rfl⟩ : ∃ q : Nat, k = q := ⟨k.toNat, by omega⟩
    have hn : n ≤ 2 := by omega
    have dn0 : decide ((n : Int) < 0) = false := decide_eq_false (by omega)
    have dq0 : decide ((q : Int) < 0) = false := decide_eq_false (by omega)
    have dn : decide ((n : Int) > 2) = false := decide_eq_false (by omega)
    have dn' : decide ((2 : Int) < (n : Int)) = false := decide_eq_false (by omega)
    have hn4 : (n : Int) < 4 := by omega
    rw [Int.toNat_natCast] at hnone
    rw [Int.toNat_natCast, Int.toNat_natCast] at hgood
    have cl0 := hH.out.lvl n (by omega)
    have hrd := hid (hH.out.rd n (by omega))
    have hlen : Hid ((V.lv n).length ≤ 30) := hid (by
      have := hVH.out.few
      simp only [fewB, four, List.all_cons, List.all_nil, Bool.and_true, Bool.and_eq_true, decide_eq_true_eq] at this
      rcases (by omega : n = 0 ∨ n = 1 ∨ n = 2) with rfl | rfl | rfl
      · exact this.1
      · exact this.2.1
      · exact this.2.2.1)
    have hSn : (S n).n = (V.lv n).length := by
      obtain ⟨_, _, hv, _⟩ := hrd.out.form
      unfold SlA.v at hv
      simp only [Value.slice.injEq] at hv
      exact hv.2.1
    rw [hSn] at cl0
    have hpl : p < w.heap.size := World.block_lt_of_cell? w _ cl0
    have hpn : p ≠ w.heap.size := by omega
    have hpn1 : p ≠ w.heap.size + 1 := by omega
    clear hbad
    rcases Nat.eq_zero_or_pos (V.lv n).length with h0 | h0
    · have hr := hid (hnone.out (List.eq_nil_of_length_eq_zero h0))
      rw [h0] at cl0
      clear h0 hSn
      go_enter Try.func17, Try.ntmps17
      go_wp2_with fail
      refine bodyPost_ret (by simp [results, Try.results17, go_sem]; rfl) rfl ?_
      exact ⟨kz.out, nilA, nilA, by rw [hr.out]; rfl, by rw [hr.out]; exact rd_nilA _, by rw [hr.out]; exact rd_nilA _⟩
    · have hr := hid (hgood.out (by rw [List.isEmpty_eq_false_iff]; exact List.ne_nil_of_length_pos h0))
      obtain ⟨r, hrr⟩ : ∃ r, q % (V.lv n).length = r := ⟨_, rfl⟩
      have hrl : r < (V.lv n).length := by rw [← hrr]; exact Nat.mod_lt _ h0
      have htm : Int.tmod (q : Int) ((V.lv n).length : Int) = (r : Int) := by rw [Int.tmod_eq_emod_of_nonneg (by omega), ← hrr]; rfl
      obtain ⟨x, hx⟩ : ∃ x, (V.lv n)[r]? = some x := ⟨_, List.getElem?_eq_getElem hrl⟩
      have hfi : Hid (fromP V.lv n q = if n = 0 then iterP (V.lv 0) 30 [x] else [x]) := hid (from_iter hVH.out (by omega) (by rw [hrr]; exact hx))
      have hfp : Hid (fromP V.lv n q = if n = 0 then growP (V.lv 0) (V.lv 0).length [x] else [x]) := hid (by unfold fromP; rw [hrr, hx])
      have hrd1 := hrd.out
      unfold SlA.v at hrd1
      obtain ⟨g, off, hA, _, a0, a1, a2, a3, a4⟩ := rd_meta hrd1 rfl hx
      have hgl : g < w.heap.size := World.block_lt_of_cell? w _ a0
      have hgn : g ≠ w.heap.size := by omega
      have hgn1 : g ≠ w.heap.size + 1 := by omega
      have hx1 : Hid ([x] ⊆ V.lv n) := hid (by intro y hy; rw [List.mem_singleton] at hy; subst hy; exact List.mem_of_getElem? hx)
      have e0 : (((V.lv n).length : Int) == 0) = false := by rw [beq_eq_false_iff_ne]; omega
      have e0' : ((V.lv n).length == 0) = false := by rw [beq_eq_false_iff_ne]; omega
      have hrH := hid hrr
      have hne0 : ¬ ((V.lv n).length : Int) = 0 := by omega
      rw [hA] at cl0
      generalize hN : (V.lv n).length = N at *
      have hNH := hid hN
      clear hN hSn hrr hrd1 hx hA h0
      have vA := hid (by
        have o := ((((Own.start w).alloc (.cells #[.int .i64 0, .slice none 0 0, .slice none 0 0, .bool false] 44 (0, 0))).alloc (.cells #[.int .u64 x.file, .int .i64 x.size, .string x.first, .string x.last, .int .u64 x.seq] 56 (0, 0))).alloc (.cells #[.int .i64 n, .slice (some ⟨w.heap.size + 1, 0, none⟩) 1 1, .slice none 0 0, .bool true] 44 (0, 0))).drew
        simp only [World.size_alloc] at o
        have o2 := sl_built 56 metaE [x] (Own.pick 1 o) (n := 1) rfl (by simp [maxLen]) rfl
        exact (show PkO ((((w.alloc (.cells #[.int .i64 0, .slice none 0 0, .slice none 0 0, .bool false] 44 (0, 0))).alloc (.cells #[.int .u64 x.file, .int .i64 x.size, .string x.first, .string x.last, .int .u64 x.seq] 56 (0, 0))).alloc (.cells #[.int .i64 n, .slice (some ⟨w.heap.size + 1, 0, none⟩) 1 1, .slice none 0 0, .bool true] 44 (0, 0))).drew) w (w.heap.size + 1 + 1) w.heap.size n ⟨some ⟨w.heap.size + 1, 0, none⟩, 1, 1⟩ nilA true [x] [] 44 [sl 56 metaE (SlA.v ⟨some ⟨w.heap.size + 1, 0, none⟩, 1, 1⟩) [x]] from
          ⟨Own.pick 2 (Own.pick 2 o2), fun w F o => sl_rd o, fun w F o => rd_nilA w, ((((Ext.refl w).alloc _).alloc _).alloc _).drew⟩))
      have vB := hid (by
        have o := ((((Own.start w).alloc (.cells #[.int .i64 0, .slice none 0 0, .slice none 0 0, .bool false] 44 (0, 0))).alloc (.cells #[.int .i64 n, .slice (some ⟨w.heap.size + 1 + 1, 0, none⟩) 1 1, .slice none 0 0, .bool true] 44 (0, 0))).alloc (.cells #[.int .u64 x.file, .int .i64 x.size, .string x.first, .string x.last, .int .u64 x.seq] 56 (0, 0))).drew
        simp only [World.size_alloc] at o
        have o2 := sl_built 56 metaE [x] o (n := 1) rfl (by simp [maxLen]) rfl
        exact (show PkO ((((w.alloc (.cells #[.int .i64 0, .slice none 0 0, .slice none 0 0, .bool false] 44 (0, 0))).alloc (.cells #[.int .i64 n, .slice (some ⟨w.heap.size + 1 + 1, 0, none⟩) 1 1, .slice none 0 0, .bool true] 44 (0, 0))).alloc (.cells #[.int .u64 x.file, .int .i64 x.size, .string x.first, .string x.last, .int .u64 x.seq] 56 (0, 0))).drew) w (w.heap.size + 1) w.heap.size n ⟨some ⟨w.heap.size + 1 + 1, 0, none⟩, 1, 1⟩ nilA true [x] [] 44 [sl 56 metaE (SlA.v ⟨some ⟨w.heap.size + 1 + 1, 0, none⟩, 1, 1⟩) [x]] from
          ⟨Own.pick 2 (Own.pick 2 o2), fun w F o => sl_rd o, fun w F o => rd_nilA w, ((((Ext.refl w).alloc _).alloc _).alloc _).drew⟩))
      go_enter Try.func17, Try.ntmps17
      go_upto_region 5 with fail
      go_cut [8] from 35 to 54 (fun s8 wx => ∃ (rb pb : Nat) (sF : SlA) (D : List Chunk), s8 = .pointer (some ⟨pb, 0, none⟩) ∧ rb = w.heap.size ∧ PkO wx w pb rb n sF nilA true [x] [] 44 D)
      case first =>
        go_region
        all_goals
          (try go_wp2_with fail)
          go_meet
          case rel => first | exact ⟨_, _, _, _, rfl, rfl, vA.out⟩ | exact ⟨_, _, _, _, rfl, rfl, vB.out⟩
      case rest =>
      obtain ⟨rb, pb, sF, D, rfl, hrb, hv⟩ := hcut
      have hvH := hid hv
      rw [← hrb]
      clear hv hrb vA vB a0 a1 a2 a3 a4 cl0 hgl hgn hgn1 hpl hpn hpn1 htm hrl e0 e0' hne0 kz
      have hw0 : Hid (∀ m ∈ V.lv 0, ltK m.last m.first = false) := hid (fun m hm => (may_parts (hVH.out.may m (mem_flat.2 ⟨0, by omega, hm⟩))).2.2.2.2.1)
      have hmeet : Hid (∀ (l : Int) (m : Nat), l = m → m < 4 → ∀ (r : ByteArray × ByteArray) (w1 : World), Kp w w1 → Calls Try.prog 20 #[.pointer (some ⟨p, 0, none⟩), .int .i64 l, .string r.1, .string r.2] w1 fun e w' => ∃ A n c, e = .returned (.slice A n c) ∧ n = (meetL (V.lv m) r).length ∧ Own w' [sl 56 metaE (.slice A n c) (meetL (V.lv m) r), base w1 w1.heap.size] ∧ Ext w1 w') := hid (fun l m e hm r w1 k => by
        subst e
        refine (rmeet_c p S V m r.1 r.2 w1 (hH.out.kp k)).mono ?_
        rintro e w' ⟨A', n', c', he, o', x'⟩
        have hq : meetM V.lv (m : Int) r.1 r.2 = meetL (V.lv m) r := by unfold meetM meetL; rw [levelM_at _ hm]
        rw [hq] at o'
        exact ⟨A', n', c', he, rd_n (s := ⟨A', n', c'⟩) (sl_rd o'), o', x'⟩)
      have hfF : Hid (0 < (fromP V.lv n q).length ∧ (fromP V.lv n q).length ≤ (V.lv n).length) := hid (by
        rw [hfi.out]
        split
        · rename_i e
          subst e
          have := iter_pos hw0.out 30 [x] (List.singleton_sublist.2 (hx1.out (List.mem_singleton_self x))) (by simp)
          exact ⟨this.2, this.1.length_le⟩
        · exact ⟨by simp, List.length_pos_of_mem (hx1.out (List.mem_singleton_self x))⟩)
      go_upto_block 0 with fail
      go_cut [9, 10, 11] from 55 to 73 (fun _ _ _ wx => ∃ (sF : SlA) (D : List Chunk), PkO wx w pb rb n sF nilA true (fromP V.lv n q) [] 44 D)
      case first =>
        go_wp2_with fail
        go_loopw [9, 10, 11] (fun i _ _ wr => ∃ (j : Nat) (sF : SlA) (D : List Chunk), i = .int .i64 j ∧ j ≤ 30 ∧ (n ≠ 0 → j = 0) ∧ PkO wr w pb rb n sF nilA true (iterP (V.lv 0) j [x]) [] 44 D ∧ 0 < (iterP (V.lv 0) j [x]).length) (fun i _ _ _ => 30 - (intOf i).toNat)
        case atStart => exact ⟨0, _, _, rfl, by omega, fun _ => rfl, hvH.out, by simp [iterP]⟩
        case round =>
          clear hvH
          obtain ⟨j, sF, D, rfl, hj, hn0, hv, hp⟩ := hrel
          have hvH := hid hv
          have hn0H := hid hn0
          have hpH := hid hp
          have c1 : wr.cell? ⟨pb, 1, none⟩ = some (.slice sF.A sF.n sF.c) := hv.own.cell (i := 1) rfl
          have fp : wr.frozen? ⟨pb, 1, none⟩ = false := hv.own.free 1
          have lpb : pb < wr.heap.size := hv.own.lt
          have hsp := hid (rspan_c (.slice sF.A sF.n sF.c) (iterP (V.lv 0) j [x]) wr hv.from hp)
          clear hv hn0 hp
          by_cases hlt : j < 30
          · have hlt' : (j : Int) < 30 := by omega
            by_cases hz : n = 0
            · have ez : ((n : Int) == 0) = true := by rw [hz]; rfl
              have hzH := hid hz
              clear hz
              go_wp2_with fail
              refine hsp.out.mono ?_
              rintro e w1 ⟨rfl, hw1⟩
              have hw1' := hw1.symm
              subst hw1'
              clear hw1
              have hitp := hid (iter_pos hw0.out j [x] (List.singleton_sublist.2 (by rw [← hzH.out]; exact hx1.out (List.mem_singleton_self x))) (by simp))
              go_wp2_with fail
              refine (hmeet.out 0 0 rfl (by omega) (spanP (iterP (V.lv 0) j [x])) wr hvH.out.base).mono ?_
              rintro e w2 ⟨A2, n2, c2, rfl, hn2, o2, e2⟩
              have k2H := hid (kp_of1 o2 e2)
              have c12 := k2H.out.cell c1
              have fp2 := k2H.out.free lpb fp
              have vt := hid (hvH.out.turnF (s := ⟨A2, n2, c2⟩) k2H.out o2)
              clear o2 e2 c1 fp hn2 hsp
              go_wp2_with fail
              go_roundw
              case rel => exact ⟨j + 1, _, _, by go_num, by omega, fun h => absurd hzH.out h, by rw [iter_snoc]; exact vt.out, by rw [iter_snoc]; exact meet_pos hitp.out.1.subset hw0.out hitp.out.2⟩
              case measure => simp [intOf]; omega
            · have ez : ((n : Int) == 0) = false := by rw [beq_eq_false_iff_ne]; omega
              have hfin : Hid (fromP V.lv n q = iterP (V.lv 0) j [x]) := hid (by rw [hfp.out, if_neg hz, hn0H.out hz]; rfl)
              clear hz hsp c1 fp lpb
              go_wp2_with fail
              go_meet
              case rel => exact ⟨sF, D, by rw [hfin.out]; exact hvH.out⟩
          · obtain rfl : j = 30 := by omega
            have hz : n = 0 := by
              rcases Nat.eq_zero_or_pos n with e | e
              · exact e
              · exact absurd (hn0H.out (by omega)) (by omega)
            have hfin : Hid (fromP V.lv n q = iterP (V.lv 0) 30 [x]) := hid (by rw [hfi.out, if_pos hz])
            clear hz hsp c1 fp lpb
            go_wp2_with fail
            go_meet
            case rel => exact ⟨sF, D, by rw [hfin.out]; exact hvH.out⟩
      case rest =>
      obtain ⟨sF, D, hv⟩ := hcut
      clear hvH hfi hfp hx1 hw0
      have hvH := hid hv
      have c1 : wc.cell? ⟨pb, 1, none⟩ = some (.slice sF.A sF.n sF.c) := hv.own.cell (i := 1) rfl
      have hsp := hid (rspan_c (.slice sF.A sF.n sF.c) (fromP V.lv n q) wc hv.from hfF.out.1)
      have lpb : pb < wc.heap.size := hv.own.lt
      have fp1   : wc.frozen? ⟨pb, 2, none⟩ = false := hv.own.free 2
      have c12 : wc.cell? ⟨pb, 2, none⟩ = some (.slice none 0 0) := hv.own.cell (i := 2) (v := .slice none 0 0) rfl
      have hfi : Hid ((meetL (V.lv (n + 1)) (spanP (fromP V.lv n q))).length ≤ 20000) := hid (Nat.le_trans (List.length_filter_le _ _) (hH.out.few (n + 1) (by omega)))
      clear hv
      go_wp2_with fail
      refine hsp.out.mono ?_
      rintro e w1 ⟨rfl, hw1⟩
      have hw1' := hw1.symm
      subst hw1'
      clear hw1 hsp
      go_wp2_with fail
      refine (hmeet.out ((n : Int) + 1) (n + 1) (by omega) (by omega) (spanP (fromP V.lv n q)) wc hvH.out.base).mono ?_
      rintro e w2 ⟨A2, n2, c2, rfl, hn2, o2, e2⟩
      have k2H := hid (kp_of1 o2 e2)
      have fp2 := k2H.out.free lpb fp1
      have c22 := k2H.out.cell c12
      have vt := hid (hvH.out.turnI (s := ⟨A2, n2, c2⟩) k2H.out o2)
      clear o2 e2 fp1 hn2 c12 c1 hvH
      go_wp2_with fail
      obtain ⟨w3, hw3⟩ : ∃ w3, w3 = w2.setCell ⟨pb, 2, none⟩ (.slice A2 n2 c2) := ⟨_, rfl⟩
      rw [← hw3] at vt ⊢
      have c31 : w3.cell? ⟨pb, 1, none⟩ = some (.slice sF.A sF.n sF.c) := vt.out.own.cell (i := 1) rfl
      have c32 : w3.cell? ⟨pb, 2, none⟩ = some (.slice A2 n2 c2) := vt.out.own.cell (i := 2) rfl
      clear hw3 c22 fp2 lpb k2H
      obtain ⟨i0, hi0, hz0, hz1, hz2⟩ := info_parts infoMeta
      have oE := hid (sl_empty' 56 metaE (((Own.start w3).alloc (.cells #[] 56 (0, 0))).drew))
      have kE := hid (((Kp.refl w3).alloc (.cells #[] 56 (0, 0))).drew)
      have rF := hid (kE.out.rd vt.out.from)
      have c31E := ((Kp.refl w3).alloc (.cells #[] 56 (0, 0))).cell c31
      have c31D := kE.out.cell c31
      have c32E := ((Kp.refl w3).alloc (.cells #[] 56 (0, 0))).cell c32
      have c32D := kE.out.cell c32
      have rI := hid vt.out.into
      have hsp2 : Hid (∀ A n1 c w6, Own w6 [sl 56 metaE (.slice A n1 c) (([] ++ fromP V.lv n q) ++ meetL (V.lv (n + 1)) (spanP (fromP V.lv n q))), base w3 w3.heap.size] → Calls Try.prog 44 #[.slice A n1 c] w6 fun e w' => e = .returned (.tuple #[.string (spanP (fromP V.lv n q ++ meetL (V.lv (n + 1)) (spanP (fromP V.lv n q)))).1, .string (spanP (fromP V.lv n q ++ meetL (V.lv (n + 1)) (spanP (fromP V.lv n q)))).2]) ∧ w' = w6) := hid (fun A n1 c w6 o6 => rspan_c (.slice A n1 c) _ w6 (sl_rd o6) (by rw [List.length_append]; have := hfF.out.1; simp; omega))
      have hs1 : Hid ((fromP V.lv n q).length + (meetL (V.lv (n + 1)) (spanP (fromP V.lv n q))).length ≤ 100000) := hid (by
        have h1 := hfF.out.2
        have h2 := hlen.out
        have h3 := hNH.out
        have h4 := hfi.out
        omega)
      have hs2 : Hid ((fromP V.lv n q).length ≤ 100000) := hid (by have := hs1.out; omega)
      clear hlen hNH hfi hfF
      go_upto_region 13 with fail
      go_cut [12, 13] from 87 to 97 (fun s12 s13 wx => s12 = .string (spanP (fromP V.lv n q ++ meetL (V.lv (n + 1)) (spanP (fromP V.lv n q)))).1 ∧ s13 = .string (spanP (fromP V.lv n q ++ meetL (V.lv (n + 1)) (spanP (fromP V.lv n q)))).2 ∧ ∃ D, PkO wx w pb rb n sF ⟨A2, n2, c2⟩ true (fromP V.lv n q) (meetL (V.lv (n + 1)) (spanP (fromP V.lv n q))) 44 D)
      case first =>
        go_region_law (first
          | (refine step_append_rd rfl _ _ _ rfl i0 _ 5 56 Try.underlying30 hi0 hz0 hz1 hz2 rfl rfl rfl oE.out rfl rF.out (by have := hs2.out; simp only [List.length_nil]; unfold maxLen; omega) (by have := hs2.out; simp only [List.length_nil]; omega) ?_; intro A4 n4 c4 w4 o4 x4; have k4 := kp_of1 o4 (kE.out.ext.trans x4); have r4 := k4.rd rI.out; have c42 := k4.cell c32)
          | (refine step_append_rd rfl _ _ _ rfl i0 _ 5 56 Try.underlying30 hi0 hz0 hz1 hz2 rfl rfl rfl o4 rfl r4 (by have := hs1.out; simp only [List.nil_append]; unfold maxLen; omega) (by have := hs1.out; simp only [List.nil_append]; omega) ?_; intro A5 n5 c5 w5 o5 x5)
          | (go_simp; go_at_call 44; refine (hsp2.out A5 n5 c5 w5 o5).mono ?_; rintro e w6 ⟨rfl, hw6⟩))
        all_goals
          have hw6' := hw6.symm
          subst hw6'
          have k5 : Kp w3 w5 := kp_of1 o5 ((kE.out.ext.trans x4).trans x5)
          have v6 : Hid (PkO w5 w pb rb n sF ⟨A2, n2, c2⟩ true (fromP V.lv n q) (meetL (V.lv (n + 1)) (spanP (fromP V.lv n q))) 44 _) := hid (vt.out.kp k5)
          (try go_wp2_with fail)
          go_meet
          case rel => exact ⟨rfl, rfl, _, v6.out⟩
      case rest =>
        obtain ⟨rfl, rfl, D6, v6⟩ := hcut
        have v6 := hid v6
        clear hsp2 hs1 hs2 c31 c32 i0 hi0 hz0 hz1 hz2 c31E c31D c32E c32D rI rF kE oE vt
        generalize spanP (fromP V.lv n q ++ meetL (V.lv (n + 1)) (spanP (fromP V.lv n q))) = R at *
        have hb0 := botK_start V.lv n R
        go_wp2_with fail
        go_loopw [14] (fun s14 wr => ∃ (b : Nat) (D : List Chunk), s14 = .int .i64 b ∧ n + 2 ≤ b ∧ b ≤ 4 ∧ PkO wr w pb rb n sF ⟨A2, n2, c2⟩ (botK V.lv n R b) (fromP V.lv n q) (meetL (V.lv (n + 1)) (spanP (fromP V.lv n q))) 44 D) (fun i _ => 4 - (intOf i).toNat)
        case atStart => exact ⟨n + 2, _, by go_num, by omega, by omega, by rw [hb0]; exact v6.out⟩
        case round =>
          clear hb0 v6
          obtain ⟨b, D', rfl, hb1, hb2, hvb⟩ := hrel
          have hvbH := hid hvb
          clear hvb
          by_cases hlt : b < 4
          · have hlt' : (b : Int) < 4 := by omega
            have hs := botK_succ V.lv n R hb1
            have c3 : wr.cell? ⟨pb, 3, none⟩ = some (.bool (botK V.lv n R b)) := hvbH.out.own.cell (i := 3) rfl
            have f3 : wr.frozen? ⟨pb, 3, none⟩ = false := hvbH.out.own.free 3
            have lp : pb < wr.heap.size := hvbH.out.own.lt
            go_wp2_with fail
            refine (hmeet.out b b rfl hlt R wr hvbH.out.base).mono ?_
            rintro e w7 ⟨A7, n7, c7, rfl, hn7, o7, e7⟩
            have k7 := kp_of1 o7 e7
            have c3' := k7.cell c3
            have f3' := k7.free lp f3
            have hv7 := hid (hvbH.out.kp k7)
            have hvt7 := hid ((hvbH.out.kp k7).turnB false)
            clear o7 e7 k7 c3 f3
            rcases Nat.eq_zero_or_pos n7 with h0 | h0
            · have hz : (meetL (V.lv b) R).isEmpty = true := by rw [List.isEmpty_iff, ← List.length_eq_zero_iff]; omega
              rw [hz, Bool.and_true] at hs
              have d7 : decide ((n7 : Int) > 0) = false := decide_eq_false (by omega)
              have d8 : decide (0 < n7) = false := decide_eq_false (by omega)
              clear hn7 hz hvt7 h0
              go_wp2_with fail
              go_roundw
              case rel => exact ⟨b + 1, _, by go_num, by omega, by omega, by rw [hs]; exact hv7.out⟩
              case measure => simp [intOf]; omega
            · have hz : (meetL (V.lv b) R).isEmpty = false := by rw [List.isEmpty_eq_false_iff, ← List.length_pos_iff]; omega
              rw [hz, Bool.and_false] at hs
              have d7 : decide ((n7 : Int) > 0) = true := decide_eq_true (by omega)
              have d8 : decide (0 < n7) = true := decide_eq_true (by omega)
              clear hn7 hz hv7 h0
              go_wp2_with fail
              go_roundw
              case rel => exact ⟨b + 1, _, by go_num, by omega, by omega, by rw [hs]; exact hvt7.out⟩
              case measure => simp [intOf]; omega
          · obtain rfl : b = 4 := by omega
            have hbk : botK V.lv n R 4 = bottomP V.lv n R := rfl
            rw [hbk] at hvbH
            generalize bottomP V.lv n R = bt at *
            have o := hvbH.out.own
            have q0 := o.cell (i := 0) (v := .int .i64 n) rfl
            have q1 := o.cell (i := 1) (v := .slice sF.A sF.n sF.c) rfl
            have q2 := o.cell (i := 2) (v := .slice A2 n2 c2) rfl
            have q3 := o.cell (i := 3) (v := .bool bt) rfl
            have r0 := o.swap.cell (i := 0) (v := .int .i64 0) rfl
            have r1 := o.swap.cell (i := 1) (v := .slice none 0 0) rfl
            have r2 := o.swap.cell (i := 2) (v := .slice none 0 0) rfl
            have r3 := o.swap.cell (i := 3) (v := .bool false) rfl
            have f0 := o.swap.free 0
            have f1 := o.swap.free 1
            have f2 := o.swap.free 2
            have f3 := o.swap.free 3
            clear o hbk
            go_wp2_with fail
            change bodyPost Try.prog _ _ Exit.ret _ (put wr rb 0 (pkCells n sF ⟨A2, n2, c2⟩ bt))
            clear q0 q1 q2 q3 r0 r1 r2 r3 f0 f1 f2 f3
            obtain ⟨wz, hwz⟩ : ∃ wz, wz = put wr rb 0 (pkCells n sF ⟨A2, n2, c2⟩ bt) := ⟨_, rfl⟩
            have z0 : wz.cell? ⟨rb, 0, none⟩ = some (.int .i64 n) := by rw [hwz]; exact hvbH.out.cells rfl
            have z1 : wz.cell? ⟨rb, 1, none⟩ = some (.slice sF.A sF.n sF.c) := by rw [hwz]; exact hvbH.out.cells rfl
            have z2 : wz.cell? ⟨rb, 2, none⟩ = some (.slice A2 n2 c2) := by rw [hwz]; exact hvbH.out.cells rfl
            have z3 : wz.cell? ⟨rb, 3, none⟩ = some (.bool bt) := by rw [hwz]; exact hvbH.out.cells rfl
            have hto := hid hvbH.out.told
            rw [← hwz] at hto ⊢
            clear hwz
            refine bodyPost_ret (by simp [results, Try.results17, go_sem, z0, z1, z2, z3]; rfl) rfl ?_
            exact ⟨hto.out.1, sF, ⟨A2, n2, c2⟩, by rw [hr.out], by rw [hr.out]; exact hto.out.2.1, by rw [hr.out]; exact hto.out.2.2⟩
end Go.Proofs.Ytdmdnhceiddcfaa
namespace Go.Proofs.Ytdmdnhceiddcfaa
open Go.RowKit Go.Sl Go.Scree

theorem short2_cases (a b : ByteArray) : decide ((a.size : Int) > 300) = true ∨ decide ((a.size : Int) > 300) = false ∧ (decide ((b.size : Int) > 300) = true ∨ decide ((b.size : Int) > 300) = false) := by
  simp only [decide_eq_true_eq, decide_eq_false_iff_not]; omega
set_option maxRecDepth 20000 in
set_option maxHeartbeats 12800000 in
theorem picksLaw_c (v : Value) (xs : List EdV) (l q : Int) (a b : ByteArray) (w : World) (h : EdsR w v xs) (hq : q ≤ 9223372036854775807) (ha : a.size ≤ 140737488351232) (hb : b.size ≤ 140737488351232) :
    Calls Try.prog 3 #[v, .int .i64 l, .int .i64 q, .string a, .string b] w fun e w' => e = .returned (.bool true) ∧ Kp w w' := by
  obtain ⟨A, ca, rfl, hm, hca⟩ := h.rd.form
  have hl : xs.length ≤ 9223372036854775807 := by simpa [maxLen] using hm
  have hH := hid h
  have hqH := hid hq
  have haw := hid (awake_c w)
  have hsc := hid (short2_cases a b)
  clear h hm hca hq
  go_enter Try.func3, Try.ntmps3
  go_wp2_with fail
  refine haw.out.mono ?_
  rintro e w1 ⟨rfl, k1⟩
  have k1H := hid k1
  clear haw k1
  rcases hsc.out with d1 | ⟨d1, d2 | d2⟩
  · clear hsc
    go_wp2_with fail
    go_ret
    exact ⟨rfl, k1H.out⟩
  · clear hsc
    go_wp2_with fail
    go_ret
    exact ⟨rfl, k1H.out⟩
  clear hsc
  go_wp2_with fail
  refine (lnew_c w1).mono ?_
  rintro e w2 ⟨p0, S0, rfl, v0, k2⟩
  have v0H := hid v0
  have k2H := hid (k1H.out.trans k2)
  clear v0 k2 k1H ha hb d1 d2
  go_wp2_with fail
  refine (rnew_c w2).mono ?_
  rintro e w3 ⟨r0, T0, rfl, u0, k3⟩
  have u0H := hid u0
  have v1H := hid (v0H.out.kp k3)
  have k3H := hid (k2H.out.trans k3)
  clear u0 k3 k2H v0H
  go_wp2_with fail
  go_loopw [11, 12, 13, 14, 15, 16, 17] (fun s11 s12 i _ _ _ _ wr => ∃ (k p r : Nat) (S T : Nat → SlA) (V : VerM), i = .int .i64 k ∧ (k ≤ xs.length ∧ k ≤ 40) ∧ s11 = .pointer (some ⟨p, 0, none⟩) ∧ s12 = .pointer (some ⟨r, 0, none⟩) ∧ VerR wr p S V ∧ VerR wr r T V ∧ VOk V ∧ Kp w wr) (fun _ _ i _ _ _ _ _ => xs.length - (intOf i).toNat)
  case atStart => exact ⟨0, p0, r0, S0, T0, newV, rfl, ⟨Nat.zero_le _, Nat.zero_le _⟩, rfl, rfl, v1H.out, u0H.out, newV_ok, k3H.out⟩
  case round =>
    clear v1H u0H k3H
    obtain ⟨k, p, r, S, T, V, rfl, ⟨hk, hk40⟩, rfl, rfl, hv, hu, hok, kr⟩ := hrel
    have hvH := hid hv
    have huH := hid hu
    have hokH := hid hok
    have krH := hid kr
    clear hv hu hok kr
    by_cases hlt : k < xs.length ∧ k < 40
    · obtain ⟨hlt, h40⟩ := hlt
      have hlt' : (k : Int) < xs.length := by omega
      have h40' : (k : Int) < 40 := by omega
      obtain ⟨x, hx⟩ : ∃ x, xs[k]? = some x := ⟨_, List.getElem?_eq_getElem hlt⟩
      obtain ⟨g, off, rfl, _, hce⟩ := rd_ed (hH.out.kp krH.out).rd rfl hx
      have hin := hid ((hH.out.kp krH.out).inn x (List.mem_of_getElem? hx))
      have hceH := hid hce
      clear hx hce
      obtain ⟨xg, xS, xE⟩ := x
      have a0 : wr.cell? ⟨g, off + k * 8, none⟩ = some (.slice xg.A xg.n xg.c) := hceH.out 0 (.slice xg.A xg.n xg.c) rfl
      have a1 := hceH.out 1 (.slice (xS 0).A (xS 0).n (xS 0).c) rfl
      have a2 := hceH.out 2 (.slice (xS 1).A (xS 1).n (xS 1).c) rfl
      have a3 := hceH.out 3 (.slice (xS 2).A (xS 2).n (xS 2).c) rfl
      have a4 := hceH.out 4 (.slice (xS 3).A (xS 3).n (xS 3).c) rfl
      have a5 := hceH.out 5 (.int .u64 xE.next) rfl
      have a6 := hceH.out 6 (.int .u64 xE.log) rfl
      have a7 := hceH.out 7 (.int .u64 xE.seq) rfl
      have hlg := hid (large_c xg xS xE wr hin.out)
      unfold editV at hlg
      go_wp2_with fail
      refine hlg.out.mono ?_
      rintro e w3 ⟨k3, b, rfl, hb⟩
      cases b with
      | true =>
        go_wp2_with fail
        go_ret
        exact ⟨rfl, krH.out.trans k3⟩
      | false =>
        have hsm := hb rfl
        have k3H := hid (krH.out.trans k3)
        have b0 := k3.cell a0
        have b1 := k3.cell a1
        have b2 := k3.cell a2
        have b3 := k3.cell a3
        have b4 := k3.cell a4
        have b5 := k3.cell a5
        have b6 := k3.cell a6
        have b7 := k3.cell a7
        have hv3 := hid (hvH.out.kp k3)
        have hu3 := hid (huH.out.kp k3)
        have hin3 := hid ((hin.out.kp k3).r hsm)
        have hgl : Hid (xE.gone.length ≤ 100000) := hid (by have := hsm.gone; omega)
        have hap := hid (apply_c p S V xg xS xE w3 hv3.out hokH.out hin3.out)
        unfold editV at hap
        clear hb k3 a0 a1 a2 a3 a4 a5 a6 a7 hsm hlg hvH huH hin
        cases hr : applyP V xE with
        | inr cd =>
          rw [hr] at hap
          have hrH := hid hr
          clear hr
          go_wp2_with fail
          refine hap.out.mono ?_
          rintro e w4 ⟨k4, rfl⟩
          have hv4 := hid (hv3.out.kp k4)
          have hu4 := hid (hu3.out.kp k4)
          have k4H := hid (k3H.out.trans k4)
          have c0 := k4.cell b0
          have c1 := k4.cell b1
          have c2 := k4.cell b2
          have c3 := k4.cell b3
          have c4 := k4.cell b4
          have c5 := k4.cell b5
          have c6 := k4.cell b6
          have c7 := k4.cell b7
          have hrp := hid (rapply_c r T V xg xS xE w4 hu4.out hokH.out ((hin3.out).kp k4) hgl.out)
          unfold editV at hrp
          rw [hrH.out] at hrp
          clear k4 hap b0 b1 b2 b3 b4 b5 b6 b7 hv3 hu3 hrH hin3
          go_wp2_with fail
          refine hrp.out.mono ?_
          rintro e w5 ⟨k5, rfl⟩
          have hv5 := hid (hv4.out.kp k5)
          have hu5 := hid (hu4.out.kp k5)
          have k5H := hid (k4H.out.trans k5)
          clear k5 hrp c0 c1 c2 c3 c4 c5 c6 c7 hv4 hu4
          go_wp2_with fail
          go_roundw
          case rel => exact ⟨k + 1, p, r, S, T, V, by go_num, ⟨by omega, by omega⟩, rfl, rfl, hv5.out, hu5.out, hokH.out, k5H.out⟩
          case measure => simp [intOf]; omega
        | inl W =>
          rw [hr] at hap
          have hWok := hid (apply_ok hokH.out hr)
          have hrH := hid hr
          clear hr
          go_wp2_with fail
          refine hap.out.mono ?_
          rintro e w4 ⟨k4, p2, S2, rfl, v4⟩
          have hv4 := hid v4
          have hu4 := hid (hu3.out.kp k4)
          have k4H := hid (k3H.out.trans k4)
          have c0 := k4.cell b0
          have c1 := k4.cell b1
          have c2 := k4.cell b2
          have c3 := k4.cell b3
          have c4 := k4.cell b4
          have c5 := k4.cell b5
          have c6 := k4.cell b6
          have c7 := k4.cell b7
          have hrp := hid (rapply_c r T V xg xS xE w4 hu4.out hokH.out ((hin3.out).kp k4) hgl.out)
          unfold editV at hrp
          rw [hrH.out] at hrp
          clear k4 hap b0 b1 b2 b3 b4 b5 b6 b7 v4 hv3 hu3 hrH hin3
          go_wp2_with fail
          refine hrp.out.mono ?_
          rintro e w5 ⟨k5, r2, T2, rfl, u5⟩
          have hv5 := hid (hv4.out.kp k5)
          have hu5 := hid u5
          have k5H := hid (k4H.out.trans k5)
          clear k5 hrp c0 c1 c2 c3 c4 c5 c6 c7 hv4 hu4 u5
          go_wp2_with fail
          go_roundw
          case rel => exact ⟨k + 1, p2, r2, S2, T2, W, by go_num, ⟨by omega, by omega⟩, rfl, rfl, hv5.out, hu5.out, hWok.out, k5H.out⟩
          case measure => simp [intOf]; omega
    · have hp1 := hid (pick_c p S V l q wr hvH.out hokH.out hqH.out)
      have hp2 := hid (fun w hk => rpick_c r T V l q w (huH.out.kp hk) hokH.out hqH.out)
      have hm1 := hid (fun w hk => meet_c p S V l a b w (hvH.out.kp hk))
      have hm2 := hid (fun w hk => rmeet_c r T V l a b w (huH.out.kp hk))
      have hk3 : k = 40 ∧ (40 : Int) < xs.length ∨ decide (k < xs.length) = false := by
        by_cases hk1 : k < xs.length
        · exact .inl ⟨by omega, by omega⟩
        · exact .inr (decide_eq_false hk1)
      generalize pickP V l q = res at *
      obtain ⟨⟨plv, pfr, pin, pbt⟩, pcd⟩ := res
      generalize meetM V.lv l a b = ms at *
      clear hlt hH hvH huH hokH
      rcases hk3 with ⟨rfl, hk3⟩ | hk3
      all_goals
        go_wp2_with fail
        refine hp1.out.mono ?_
        rintro e w3 ⟨k3, sF, sI, rfl, rF, rI⟩
        dsimp only at rF rI ⊢
        have k3a := hid (k3.alloc (.cells #[.int .i64 plv, .slice sF.A sF.n sF.c, .slice sI.A sI.n sI.c, .bool pbt] 41 (0, 0)))
        obtain ⟨w4, hw4⟩ : ∃ w4, w4 = w3.alloc (.cells #[.int .i64 plv, .slice sF.A sF.n sF.c, .slice sI.A sI.n sI.c, .bool pbt] 41 (0, 0)) := ⟨_, rfl⟩
        have oA := (Own.nil w3).alloc (.cells #[.int .i64 plv, .slice sF.A sF.n sF.c, .slice sI.A sI.n sI.c, .bool pbt] 41 (0, 0))
        have kA := ((Kp.refl w3).alloc (.cells #[.int .i64 plv, .slice sF.A sF.n sF.c, .slice sI.A sI.n sI.c, .bool pbt] 41 (0, 0)))
        have rF4 := kA.rd rF
        have rI4 := kA.rd rI
        rw [← hw4] at oA k3a rF4 rI4
        have hq2 := hid (hp2.out w4 k3a.out)
        go_wp2_with fail
        rw [← hw4]
        generalize w3.heap.size = b1 at *
        have m0 := oA.cell (i := 0) (v := .int .i64 plv) rfl
        have m1 := oA.cell (i := 1) (v := .slice sF.A sF.n sF.c) rfl
        have m2 := oA.cell (i := 2) (v := .slice sI.A sI.n sI.c) rfl
        have m3 := oA.cell (i := 3) (v := .bool pbt) rfl
        clear hw4 oA kA rF rI k3 hp1 hp2
        refine hq2.out.mono ?_
        rintro e w5 ⟨k5, tF, tI, rfl, qF, qI⟩
        dsimp only at qF qI ⊢
        have k5H := hid (k3a.out.trans k5)
        have n0 := k5.cell m0
        have n1 := k5.cell m1
        have n2 := k5.cell m2
        have n3 := k5.cell m3
        have lb := World.block_lt_of_cell? w5 _ n0
        have rF5 := hid (k5.rd rF4)
        have rI5 := hid (k5.rd rI4)
        have qFH := hid qF
        have qIH := hid qI
        have kB := hid ((Kp.refl w5).alloc (.cells #[.int .i64 plv, .slice tF.A tF.n tF.c, .slice tI.A tI.n tI.c, .bool pbt] 44 (0, 0)))
        have oB := (Own.nil w5).alloc (.cells #[.int .i64 plv, .slice tF.A tF.n tF.c, .slice tI.A tI.n tI.c, .bool pbt] 44 (0, 0))
        clear m0 m1 m2 m3 k5 rF4 rI4 qF qI hq2 k3a
        go_wp2_with fail
        obtain ⟨w6, hw6⟩ : ∃ w6, w6 = w5.alloc (.cells #[.int .i64 plv, .slice tF.A tF.n tF.c, .slice tI.A tI.n tI.c, .bool pbt] 44 (0, 0)) := ⟨_, rfl⟩
        rw [← hw6] at kB oB
        rw [← hw6]
        have k6H := hid (k5H.out.trans kB.out)
        have q0 := oB.cell (i := 0) (v := .int .i64 plv) rfl
        have q1 := oB.cell (i := 1) (v := .slice tF.A tF.n tF.c) rfl
        have q2 := oB.cell (i := 2) (v := .slice tI.A tI.n tI.c) rfl
        have q3 := oB.cell (i := 3) (v := .bool pbt) rfl
        have p1 := kB.out.cell n1
        have p2 := kB.out.cell n2
        have p3 := kB.out.cell n3
        clear n0 n1 n2 n3 lb oB hw6
        generalize w5.heap.size = b2 at *
        refine (sameMetas_c _ _ pfr w6 (kB.out.rd rF5.out) (kB.out.rd qFH.out)).mono ?_
        rintro e w7 ⟨rfl, k7⟩
        have k7H := hid (kB.out.trans k7)
        have p2 := k7.cell p2
        have p3 := k7.cell p3
        have q2 := k7.cell q2
        have q3 := k7.cell q3
        clear k7 p1 q0 q1
        go_wp2_with fail
        refine (sameMetas_c _ _ pin w7 (k7H.out.rd rI5.out) (k7H.out.rd qIH.out)).mono ?_
        rintro e w8 ⟨rfl, k8⟩
        have k8H := hid (k7H.out.trans k8)
        have p3 := k8.cell p3
        have q3 := k8.cell q3
        clear k8 p2 q2
        go_wp2_with fail
        refine (hm1.out w8 (k5H.out.trans k8H.out)).mono ?_
        rintro e w9 ⟨v9, rfl, o9, e9⟩
        obtain ⟨A9, n9, c9, rfl⟩ := sl_shape o9
        have r9 := hid (sl_rd o9)
        have k9H := hid ((k5H.out.trans k8H.out).trans (kp_of1 o9 e9))
        clear o9 e9 p3 q3
        go_wp2_with fail
        refine (hm2.out w9 k9H.out).mono ?_
        rintro e w10 ⟨A10, n10, c10, rfl, o10, e10⟩
        have r10 := hid (sl_rd o10)
        have r11 := hid ((kp_of1 o10 e10).rd r9.out)
        have k10H := hid (k9H.out.trans (kp_of1 o10 e10))
        clear o10 e10
        go_wp2_with fail
        refine (sameMetas_c _ _ ms w10 r11.out r10.out).mono ?_
        rintro e w11 ⟨rfl, k11⟩
        have k11H := hid (k10H.out.trans k11)
        clear k11
        go_wp2_with fail
        go_ret
        exact ⟨rfl, krH.out.trans k11H.out⟩
theorem levelPicks_row (v : Value) (xs : List EdV) (l k : Int) (a b : ByteArray) (W : World) (hr : Rd W edE v xs) (hp : ∀ x ∈ xs, EditW W x.g x.S x.E) (_ : (Lit.int .i64 l).wf = true) (hk : (Lit.int .i64 k).wf = true) (ha : a.size ≤ 140737488351232) (hb : b.size ≤ 140737488351232) :
    Calls Try.prog 3 #[v, .int .i64 l, .int .i64 k, .string a, .string b] W fun e W' => e = .returned (.bool true) ∧ Below W.heap.size W W' := by
  have hk2 : k ≤ 9223372036854775807 := by
    simp [Lit.wf, IntKind.min, IntKind.max, IntKind.signed, IntKind.bits] at hk
    omega
  refine (picksLaw_c v xs l k a b W ⟨hr, hp⟩ hk2 ha hb).mono ?_
  rintro e w' ⟨h1, h2⟩
  exact ⟨h1, ⟨h2.ext.os, h2.ext.tape, h2.ext.output, h2.ext.size, h2.same⟩⟩
end Go.Proofs.Ytdmdnhceiddcfaa
namespace Go.Proofs.Ytdmdnhceiddcfaa
open Go.ChangeShapes Go.WideShapes Go.ChangeAt Go.RowKit Go.Sl Go.Scree Go.Deep
open Go.ChangeMaps (open_string shut_string)
set_option linter.unusedVariables false
theorem levelPicks_own : ownKnob Try.prog.godebug = none := by kernel_rfl
theorem levelPicks_laid : laidOutB Try.prog = true := by kernel_rfl
set_option maxRecDepth 100000 in
theorem levelPicks_lifted (os : Os) (started : os.Started) (H : Type) (enc : TypeId × Value → H) :
    ReturnsInHanded {} Try.checked os 3 .any (Rows.levelPicksSpec.pre6 enc Try.prog Try.f3 Rows.levelPicksRow.domain false) (Rows.levelPicksSpec.post enc Try.prog Try.f3 false true false false) := by
  refine returnsInHanded_of_change_sized (C := Try.checked) levelPicks_own started (by kernel_rfl) Try.func3
    (ChangeSpec.witness6 (enc := enc) (C := Try.checked) false ⟨#[], #[.slice none 0 0, .int .i64 0, .int .i64 0, .string ByteArray.empty, .string ByteArray.empty], []⟩ 8 (by kernel_rfl) (by kernel_rfl) (by kernel_rfl) (by kernel_rfl)) ?_
  intro W base args ds gs before hval0 hW hcnd hsz0 _
  have hsz : (DataW.weightsEach Try.prog (Try.f3.params.toList ++ Rows.levelPicksSpec.plain.varTypes Try.prog) (ds ++ gs)).all (· ≤ reachBytes) = true := hsz0
  have hval : ∀ (j : Nat) t v, Try.f3.params[j]? = some t → args[j]? = some v → Value.okWide Try.prog W .any base t v := hval0
  have hW' := hW
  obtain ⟨p, q, hA0, hV, rfl, hfz, hnd⟩ := hW
  have hA : DataW.TrodAll enc Try.prog W 0 (fun _ => true) true Try.f3.params.toList args.toList ds p := hA0
  rw [Try.params3] at hA hval hsz
  obtain ⟨v0, vs0, d0, ds0, p0, q0, hargs, rfl, rfl, h0, r0⟩ := trodAll_cons hA
  obtain ⟨v1, vs1, d1, ds1, p1, q1, rfl, rfl, rfl, h1, r1⟩ := trodAll_cons r0
  obtain ⟨v2, vs2, d2, ds2, p2, q2, rfl, rfl, rfl, h2, r2⟩ := trodAll_cons r1
  obtain ⟨v3, vs3, d3, ds3, p3, q3, rfl, rfl, rfl, h3, r3⟩ := trodAll_cons r2
  obtain ⟨v4, vs4, d4, ds4, p4, q4, rfl, rfl, rfl, h4, r4⟩ := trodAll_cons r3
  obtain ⟨rfl, rfl, rfl⟩ := trodAll_nil r4
  obtain rfl : args = #[v0, v1, v2, v3, v4] := by cases args; simp_all
  obtain ⟨rfl, rfl⟩ := trodVars_none hV
  obtain ⟨a0, len0, cap0, rfl⟩ := okWide_slice Try.underlying22 (hval 0 22 v0 rfl rfl)
  have lt0 : ∀ x ∈ p0, x.block < W.heap.size := by obtain ⟨m, hm⟩ := h0; exact DataW.trod_lt m _ _ _ hm
  obtain ⟨l0, hr0, hp0⟩ := open_edits h0
  obtain ⟨a1, rfl, rfl, rfl, w1⟩ := open_int Try.underlying3 (hval 1 3 v1 rfl rfl) h1
  obtain ⟨a2, rfl, rfl, rfl, w2⟩ := open_int Try.underlying3 (hval 2 3 v2 rfl rfl) h2
  obtain ⟨a3, rfl, rfl, rfl, y3⟩ := open_string Try.underlying9 (hval 3 9 v3 rfl rfl) h3
  have w3 : a3.size ≤ 140737488351232 := by
    have z := sized_string hsz (j := 3) (t := 9) rfl rfl
    rw [Array.length_toList] at z
    exact z
  obtain ⟨a4, rfl, rfl, rfl, y4⟩ := open_string Try.underlying9 (hval 4 9 v4 rfl rfl) h4
  have w4 : a4.size ≤ 140737488351232 := by
    have z := sized_string hsz (j := 4) (t := 9) rfl rfl
    rw [Array.length_toList] at z
    exact z
  clear hA0 hval0 hsz0 hsz
  refine (levelPicks_row _ l0 a1 a2 a3 a4 W hr0 hp0 w1 w2 w3 w4).mono fun e W' ⟨he, bel⟩ => ?_
  subst he
  exact ⟨_, rfl, _, _, _, [], _, [], hW', trodAll_mk1 (shut_bool Try.underlying4 _), (trodAll_cons_mk (Below.trod levelPicks_laid (by kernel_rfl) (of_decide_eq_true (by kernel_rfl)) h0 bel lt0) (trodAll_cons_mk (shut_int Try.underlying3 w1) (trodAll_cons_mk (shut_int Try.underlying3 w2) (trodAll_cons_mk (shut_string Try.underlying9 y3) (trodAll_cons_mk (shut_string Try.underlying9 y4) trodAll_mk0))))), rfl, bel.frame _, fun h => by cases h⟩
theorem levelPicks_over : Rows.levelPicksRow.holds Try.pinned (OpenSpec.ofChange Rows.levelPicksSpec) :=
  OpenClaim.holds_of_wide 3 Try.f3 rfl rfl rfl rfl rfl rfl rfl ⟨rfl, rfl, rfl, rfl, rfl⟩ rfl rfl rfl rfl rfl (by kernel_rfl) Try.func3 (by kernel_rfl)
    (of_decide_eq_true (by kernel_rfl)) (by unfold Func.isWrapper; first | (rw [if_pos (by decide +kernel)]; kernel_rfl) | (rw [if_neg (by decide +kernel)]; exact ⟨rfl, rfl⟩))
    (fun os started H enc _ => levelPicks_lifted os started H enc)
theorem levelPicks_holds : Rows.LevelPicksSaid := levelPicks_over
#print axioms levelPicks_holds
end Go.Proofs.Ytdmdnhceiddcfaa
