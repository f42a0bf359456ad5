/- The walk of the document's with. -/
import Derived.Test.YtdmdnhceiddcfaaGreatRlvA
import Derived.Test.YtdmdnhceiddcfaaGreatSlh
import Derived.Test.YtdmdnhceiddcfaaGreatSlu
set_option linter.all false
namespace Go.Proofs.YtdmdnhceiddcfaaGreat
open Go.RowKit Go.Sl Go.Scree

theorem ins_at {p : MetaM → Bool} {m : MetaM} : ∀ {xs : List MetaM} {k : Nat}, k ≤ xs.length → (∀ j y, j < k → xs[j]? = some y → p y = true) → (∀ y, xs[k]? = some y → p y = false) → insM p m xs = xs.take k ++ m :: xs.drop k
  | [], k, hk, _, _ => by
    obtain rfl : k = 0 := by simpa using hk
    rfl
  | x :: xs, 0, _, _, h => by
    unfold insM
    rw [if_neg (by rw [h x rfl]; simp)]
    rfl
  | x :: xs, k + 1, hk, h1, h2 => by
    unfold insM
    rw [if_pos (h1 0 x (by omega) rfl), ins_at (k := k) (by simpa using hk) (fun j y hj hy => h1 (j + 1) y (by omega) (by simpa using hy)) (fun y hy => h2 y (by simpa using hy))]
    rfl
set_option maxRecDepth 20000 in
set_option maxHeartbeats 12800000 in
theorem rwith_c (v : Value) (xs : List MetaM) (m : MetaM) (top : Bool) (w : World) (h : Rd w metaE v xs) (hn : xs.length ≤ 20000) :
    Calls Tryz.prog 28 #[v, metaV m, .bool top] w fun e w' => ∃ A n c, e = .returned (.slice A n c) ∧ Own w' [sl 43 metaE (.slice A n c) (withM top xs m), base w w.heap.size] ∧ Ext w w' := by
  obtain ⟨A, c, rfl, hm, hc⟩ := h.form
  have hH := hid h
  have hnH := hid hn
  obtain ⟨i0, hi0, hz0, hz1, hz2⟩ := info_parts infoMeta
  have hcm : Hid (c ≤ maxLen) := hid (by
    rcases h with ⟨⟨_, cap, hv, hm⟩, _⟩ | ⟨_, _, cap, hv, _, hm, _⟩
    · simp only [Value.slice.injEq] at hv; obtain ⟨_, _, rfl⟩ := hv; exact hm
    · simp only [Value.slice.injEq] at hv; obtain ⟨_, _, rfl⟩ := hv; exact hm)
  obtain ⟨mf, mz, ma, mb, mq⟩ := m
  unfold metaV
  have hlc : xs.length ≤ c := hc
  have hl63 : xs.length ≤ 9223372036854775807 := by omega
  have hwi : Hid (∀ k, k ≤ xs.length → (∀ j y, j < k → xs[j]? = some y → (if top = true then decide (mf < y.file) else !ltK ma y.first) = true) → (∀ y, xs[k]? = some y → (if top = true then decide (mf < y.file) else !ltK ma y.first) = false) → withM top xs ⟨mf, mz, ma, mb, mq⟩ = xs.take k ++ ⟨mf, mz, ma, mb, mq⟩ :: xs.drop k) := hid (fun k hk h1 h2 => ins_at hk h1 h2)
  generalize withM top xs ⟨mf, mz, ma, mb, mq⟩ = res at *
  clear h hm hc hn
  go_enter Tryz.func28, Tryz.ntmps28
  go_wp2_with fail
  go_loopw [7] (fun iv wr => ∃ k : Nat, iv = .int .i64 k ∧ k ≤ xs.length ∧ Kp (w.alloc (.cells #[.int .u64 mf, .int .i64 mz, .string ma, .string mb, .int .u64 mq] 43 (0, 0))) wr ∧ ∀ j y, j < k → xs[j]? = some y → (if top = true then decide (mf < y.file) else !ltK ma y.first) = true) (fun iv _ => xs.length - (intOf iv).toNat)
  case atStart => exact ⟨0, rfl, Nat.zero_le _, Kp.refl _, fun j y hj => by omega⟩
  case round =>
    obtain ⟨k, rfl, hk, kr, hg⟩ := hrel
    have krH := hid kr
    have gH := hid hg
    have t0 := kr.cell (p := ⟨w.heap.size, 0, none⟩) (v := .int .u64 mf) (by simp)
    have t1 := kr.cell (p := ⟨w.heap.size, 1, none⟩) (v := .int .i64 mz) (by simp)
    have t2 := kr.cell (p := ⟨w.heap.size, 2, none⟩) (v := .string ma) (by simp)
    have t3 := kr.cell (p := ⟨w.heap.size, 3, none⟩) (v := .string mb) (by simp)
    have t4 := kr.cell (p := ⟨w.heap.size, 4, none⟩) (v := .int .u64 mq) (by simp)
    have tl := World.block_lt_of_cell? wr _ t0
    have kall := hid (((Kp.refl w).alloc (.cells #[.int .u64 mf, .int .i64 mz, .string ma, .string mb, .int .u64 mq] 43 (0, 0))).trans kr)
    clear kr hg
    by_cases hlt : k < xs.length
    · obtain ⟨y, hy⟩ : ∃ y, xs[k]? = some y := ⟨_, List.getElem?_eq_getElem hlt⟩
      obtain ⟨g, off, rfl, _, a0, a1, a2, a3, a4⟩ := rd_meta (kall.out.rd hH.out) rfl hy
      have hyH := hid hy
      have hlt' : (k : Int) < (xs.length : Int) := by omega
      have hkc : k < c := by omega
      have hg1 : Hid ((if top = true then decide (mf < y.file) else !ltK ma y.first) = true → ∀ j z, j < k + 1 → xs[j]? = some z → (if top = true then decide (mf < z.file) else !ltK ma z.first) = true) := hid (fun h j z hj hz => by
        rcases Nat.lt_or_ge j k with h' | h'
        · exact gH.out j z h' hz
        · obtain rfl : j = k := by omega
          rw [hy] at hz
          obtain rfl := Option.some.inj hz
          exact h)
      have hg0 : Hid ((if top = true then decide (mf < y.file) else !ltK ma y.first) = false → res = xs.take k ++ ⟨mf, mz, ma, mb, mq⟩ :: xs.drop k) := hid (fun h => hwi.out k hk gH.out (fun z hz => by
          rw [hy] at hz
          obtain rfl := Option.some.inj hz
          exact h))
      have hRD0 : Hid (∀ wz, Kp w wz → Rd wz metaE (.slice (if c = k then some ⟨g, off, none⟩ else some ⟨g, off + k * 5, none⟩) (xs.length - k) (c - k)) (xs.drop k)) := hid (fun wz kz => by rw [if_neg (by omega)]; exact rd_drop (kz.rd hH.out) k hk)
      clear hy
      cases top with
      | true =>
        simp only [if_true] at hg1 hg0
        by_cases hf : mf < y.file
        · have e1 : decide ((y.file : Int) > (mf : Int)) = true := decide_eq_true (by omega)
          have e2 : decide (mf < y.file) = true := decide_eq_true hf
          have hnx := hid (hg1.out e2)
          clear hg1 hg0 hf
          go_wp2_with fail
          go_quiet (fail)
          go_wp2
          go_roundw
          case rel => exact ⟨k + 1, by go_num, by omega, krH.out.drewN nq, by simpa using hnx.out⟩
          case measure => simp [intOf]; omega
        · have e1 : decide ((y.file : Int) > (mf : Int)) = false := decide_eq_false (by omega)
          have e2 : decide (mf < y.file) = false := decide_eq_false hf
          have hwe := hid (hg0.out e2)
          clear hg1 hg0 hf
          go_wp2_with fail
          go_quiet (fail)
          generalize hwz : World.drewN wr _ = wz
          have kz : Kp wr wz := by rw [← hwz]; exact (Kp.refl wr).drewN _
          have kzH := hid (kall.out.trans kz)
          have hRD := hid (hRD0.out wz kzH.out)
          clear hwz a0 a1 a2 a3 a4 hRD0
          go_wp2_with fail
          have s0 := kz.cell t0
          have s1 := kz.cell t1
          have s2 := kz.cell t2
          have s3 := kz.cell t3
          have s4 := kz.cell t4
          have oB := hid (((Own.start wz).alloc (.cells #[.int .u64 mf, .int .i64 mz, .string ma, .string mb, .int .u64 mq] 43 (0, 0))).drew)
          have sB := hid (sl_built 43 metaE [⟨mf, mz, ma, mb, mq⟩] oB.out (n := 1) rfl (by simp [maxLen]) rfl)
          have kB := hid ((((Kp.refl wz).alloc (.cells #[.int .u64 mf, .int .i64 mz, .string ma, .string mb, .int .u64 mq] 43 (0, 0))).drew))
          have eB := hid ((((Ext.refl wz).alloc (.cells #[.int .u64 mf, .int .i64 mz, .string ma, .string mb, .int .u64 mq] 43 (0, 0))).drew))
          have hRDB := hid (kB.out.rd hRD.out)
          have hdl : Hid ((xs.drop k).length ≤ 20000) := hid (by rw [List.length_drop]; have := hnH.out; omega)
          have zl : w.heap.size < wz.heap.size := World.block_lt_of_cell? wz _ s0
          clear t0 t1 t2 t3 t4
          go_region_law (refine step_append_rd rfl _ _ _ rfl i0 _ 5 56 Tryz.underlying30 hi0 hz0 hz1 hz2 rfl rfl rfl sB.out rfl hRDB.out (by have := hdl.out; simp only [List.length_cons, List.length_nil]; unfold maxLen; omega) (by have := hdl.out; simp only [List.length_cons, List.length_nil]; omega) ?_; intro A5 n5 c5 w5 o5 x5)
          have k5H := hid (kp_of1 o5 (eB.out.trans x5))
          have r5H := hid (sl_rd o5)
          have o5H := hid o5
          clear o5 x5 s0 s1 s2 s3 s4
          go_wp2_with (refine wpList_append_rd rfl _ _ _ rfl i0 _ 5 56 Tryz.underlying30 hi0 hz0 hz1 hz2 rfl rfl rfl (sl_empty' 43 metaE ((Own.start w5).alloc (.cells #[] 43 (0, 0)))) rfl (((Kp.refl w5).alloc _).rd (rd_take ((kzH.out.trans k5H.out).rd hH.out) k hk)) ?q1 ?q2 ?_)
          case q1 => have := hnH.out; simp [maxLen]; omega
          case q2 => have := hnH.out; simp; omega
          intro v6 w6 o6 e6 _
          obtain ⟨A6, n6, c6, rfl⟩ := sl_shape o6
          have k6H := hid (kp_of1 o6 (((Ext.refl w5).alloc _).trans e6))
          have r6H := hid (k6H.out.rd r5H.out)
          have o6H := hid o6
          clear o6 e6
          go_wp2_with (refine wpList_append_rd rfl _ _ _ rfl i0 _ 5 56 Tryz.underlying30 hi0 hz0 hz1 hz2 rfl rfl rfl o6H.out rfl r6H.out ?q3 ?q4 ?_)
          case q3 => have := hnH.out; simp [maxLen]; omega
          case q4 => have := hnH.out; simp; omega
          intro v7 w7 o7 e7 _
          obtain ⟨A7, n7, c7, rfl⟩ := sl_shape o7
          have o7H := hid o7
          have x7H := hid e7
          clear o7 e7
          go_wp2
          go_ret
          have kall := (kzH.out.trans k5H.out)
          have o8 := rebase1 o7H.out kall.base
          try simp only [List.nil_append, List.append_assoc, List.cons_append] at o8
          refine ⟨_, _, _, rfl, ?_, (kall.ext.trans k6H.out.ext).trans x7H.out⟩
          rw [hwe.out]
          exact o8
      | false =>
        simp only [Bool.false_eq_true, if_false] at hg1 hg0
        have hle := leq_ltK y.first ma
        by_cases hf : ltK ma y.first = true
        · have hwe := hid (hg0.out (by rw [hf]; rfl))
          rw [hf, Bool.not_true] at hle
          clear hg1 hg0 hf
          go_wp2_with fail
          go_quiet (fail)
          generalize hwz : World.drewN wr _ = wz
          have kz : Kp wr wz := by rw [← hwz]; exact (Kp.refl wr).drewN _
          have kzH := hid (kall.out.trans kz)
          have hRD := hid (hRD0.out wz kzH.out)
          clear hwz a0 a1 a2 a3 a4 hRD0
          go_wp2_with fail
          have s0 := kz.cell t0
          have s1 := kz.cell t1
          have s2 := kz.cell t2
          have s3 := kz.cell t3
          have s4 := kz.cell t4
          have oB := hid (((Own.start wz).alloc (.cells #[.int .u64 mf, .int .i64 mz, .string ma, .string mb, .int .u64 mq] 43 (0, 0))).drew)
          have sB := hid (sl_built 43 metaE [⟨mf, mz, ma, mb, mq⟩] oB.out (n := 1) rfl (by simp [maxLen]) rfl)
          have kB := hid ((((Kp.refl wz).alloc (.cells #[.int .u64 mf, .int .i64 mz, .string ma, .string mb, .int .u64 mq] 43 (0, 0))).drew))
          have eB := hid ((((Ext.refl wz).alloc (.cells #[.int .u64 mf, .int .i64 mz, .string ma, .string mb, .int .u64 mq] 43 (0, 0))).drew))
          have hRDB := hid (kB.out.rd hRD.out)
          have hdl : Hid ((xs.drop k).length ≤ 20000) := hid (by rw [List.length_drop]; have := hnH.out; omega)
          have zl : w.heap.size < wz.heap.size := World.block_lt_of_cell? wz _ s0
          clear t0 t1 t2 t3 t4
          go_region_law (refine step_append_rd rfl _ _ _ rfl i0 _ 5 56 Tryz.underlying30 hi0 hz0 hz1 hz2 rfl rfl rfl sB.out rfl hRDB.out (by have := hdl.out; simp only [List.length_cons, List.length_nil]; unfold maxLen; omega) (by have := hdl.out; simp only [List.length_cons, List.length_nil]; omega) ?_; intro A5 n5 c5 w5 o5 x5)
          have k5H := hid (kp_of1 o5 (eB.out.trans x5))
          have r5H := hid (sl_rd o5)
          have o5H := hid o5
          clear o5 x5 s0 s1 s2 s3 s4
          go_wp2_with (refine wpList_append_rd rfl _ _ _ rfl i0 _ 5 56 Tryz.underlying30 hi0 hz0 hz1 hz2 rfl rfl rfl (sl_empty' 43 metaE ((Own.start w5).alloc (.cells #[] 43 (0, 0)))) rfl (((Kp.refl w5).alloc _).rd (rd_take ((kzH.out.trans k5H.out).rd hH.out) k hk)) ?q1 ?q2 ?_)
          case q1 => have := hnH.out; simp [maxLen]; omega
          case q2 => have := hnH.out; simp; omega
          intro v6 w6 o6 e6 _
          obtain ⟨A6, n6, c6, rfl⟩ := sl_shape o6
          have k6H := hid (kp_of1 o6 (((Ext.refl w5).alloc _).trans e6))
          have r6H := hid (k6H.out.rd r5H.out)
          have o6H := hid o6
          clear o6 e6
          go_wp2_with (refine wpList_append_rd rfl _ _ _ rfl i0 _ 5 56 Tryz.underlying30 hi0 hz0 hz1 hz2 rfl rfl rfl o6H.out rfl r6H.out ?q3 ?q4 ?_)
          case q3 => have := hnH.out; simp [maxLen]; omega
          case q4 => have := hnH.out; simp; omega
          intro v7 w7 o7 e7 _
          obtain ⟨A7, n7, c7, rfl⟩ := sl_shape o7
          have o7H := hid o7
          have x7H := hid e7
          clear o7 e7
          go_wp2
          go_ret
          have kall := (kzH.out.trans k5H.out)
          have o8 := rebase1 o7H.out kall.base
          try simp only [List.nil_append, List.append_assoc, List.cons_append] at o8
          refine ⟨_, _, _, rfl, ?_, (kall.ext.trans k6H.out.ext).trans x7H.out⟩
          rw [hwe.out]
          exact o8
        · have hf' : ltK ma y.first = false := by simpa using hf
          have hnx := hid (hg1.out (by rw [hf']; rfl))
          rw [hf', Bool.not_false] at hle
          clear hg1 hg0 hf hf'
          go_wp2_with fail
          go_quiet (fail)
          go_wp2
          go_roundw
          case rel => exact ⟨k + 1, by go_num, by omega, krH.out.drewN nq, by simpa using hnx.out⟩
          case measure => simp [intOf]; omega
    · have hwe := hid (hwi.out k hk gH.out (fun z hz => by rw [List.getElem?_eq_none (by omega)] at hz; cases hz))
      have hdn : Hid (xs.drop k = []) := hid (List.drop_eq_nil_of_le (by omega))
      have hkl : Hid (xs.length - k = 0) := hid (by omega)
      have dk : decide (k < xs.length) = false := decide_eq_false hlt
      have hkc : k ≤ c := by omega
      clear hlt
      cases A with
      | none =>
        have hRD0 : Hid (∀ wz : World, Rd wz metaE (.slice none (xs.length - k) (c - k)) (xs.drop k)) := hid (fun wz => by rw [hdn.out, hkl.out]; exact rd_gone (by have := hcm.out; omega))
        clear hdn
        go_wp2_with fail
        go_quiet (fail)
        generalize hwz : World.drewN wr _ = wz
        have kz : Kp wr wz := by rw [← hwz]; exact (Kp.refl wr).drewN _
        have kzH := hid (kall.out.trans kz)
        have hRD := hid (hRD0.out wz)
        clear hwz hRD0
        go_wp2_with fail
        have s0 := kz.cell t0
        have s1 := kz.cell t1
        have s2 := kz.cell t2
        have s3 := kz.cell t3
        have s4 := kz.cell t4
        have oB := hid (((Own.start wz).alloc (.cells #[.int .u64 mf, .int .i64 mz, .string ma, .string mb, .int .u64 mq] 43 (0, 0))).drew)
        have sB := hid (sl_built 43 metaE [⟨mf, mz, ma, mb, mq⟩] oB.out (n := 1) rfl (by simp [maxLen]) rfl)
        have kB := hid ((((Kp.refl wz).alloc (.cells #[.int .u64 mf, .int .i64 mz, .string ma, .string mb, .int .u64 mq] 43 (0, 0))).drew))
        have eB := hid ((((Ext.refl wz).alloc (.cells #[.int .u64 mf, .int .i64 mz, .string ma, .string mb, .int .u64 mq] 43 (0, 0))).drew))
        have hRDB := hid (kB.out.rd hRD.out)
        have hdl : Hid ((xs.drop k).length ≤ 20000) := hid (by rw [List.length_drop]; have := hnH.out; omega)
        have zl : w.heap.size < wz.heap.size := World.block_lt_of_cell? wz _ s0
        clear t0 t1 t2 t3 t4
        go_region_law (refine step_append_rd rfl _ _ _ rfl i0 _ 5 56 Tryz.underlying30 hi0 hz0 hz1 hz2 rfl rfl rfl sB.out rfl hRDB.out (by have := hdl.out; simp only [List.length_cons, List.length_nil]; unfold maxLen; omega) (by have := hdl.out; simp only [List.length_cons, List.length_nil]; omega) ?_; intro A5 n5 c5 w5 o5 x5)
        have k5H := hid (kp_of1 o5 (eB.out.trans x5))
        have r5H := hid (sl_rd o5)
        have o5H := hid o5
        clear o5 x5 s0 s1 s2 s3 s4
        go_wp2_with (refine wpList_append_rd rfl _ _ _ rfl i0 _ 5 56 Tryz.underlying30 hi0 hz0 hz1 hz2 rfl rfl rfl (sl_empty' 43 metaE ((Own.start w5).alloc (.cells #[] 43 (0, 0)))) rfl (((Kp.refl w5).alloc _).rd (rd_take ((kzH.out.trans k5H.out).rd hH.out) k hk)) ?q1 ?q2 ?_)
        case q1 => have := hnH.out; simp [maxLen]; omega
        case q2 => have := hnH.out; simp; omega
        intro v6 w6 o6 e6 _
        obtain ⟨A6, n6, c6, rfl⟩ := sl_shape o6
        have k6H := hid (kp_of1 o6 (((Ext.refl w5).alloc _).trans e6))
        have r6H := hid (k6H.out.rd r5H.out)
        have o6H := hid o6
        clear o6 e6
        go_wp2_with (refine wpList_append_rd rfl _ _ _ rfl i0 _ 5 56 Tryz.underlying30 hi0 hz0 hz1 hz2 rfl rfl rfl o6H.out rfl r6H.out ?q3 ?q4 ?_)
        case q3 => have := hnH.out; simp [maxLen]; omega
        case q4 => have := hnH.out; simp; omega
        intro v7 w7 o7 e7 _
        obtain ⟨A7, n7, c7, rfl⟩ := sl_shape o7
        have o7H := hid o7
        have x7H := hid e7
        clear o7 e7
        go_wp2
        go_ret
        have kall := (kzH.out.trans k5H.out)
        have o8 := rebase1 o7H.out kall.base
        try simp only [List.nil_append, List.append_assoc, List.cons_append] at o8
        refine ⟨_, _, _, rfl, ?_, (kall.ext.trans k6H.out.ext).trans x7H.out⟩
        rw [hwe.out]
        exact o8
      | some ad =>
        by_cases hck : c = k
        · subst hck
          have hRD0 : Hid (∀ wz : World, Rd wz metaE (.slice (some ad) 0 0) (xs.drop c)) := hid (fun wz => by rw [hdn.out]; exact rd_gone (by simp [maxLen]))
          clear hdn
          go_wp2_with fail
          go_quiet (fail)
          generalize hwz : World.drewN wr _ = wz
          have kz : Kp wr wz := by rw [← hwz]; exact (Kp.refl wr).drewN _
          have kzH := hid (kall.out.trans kz)
          have hRD := hid (hRD0.out wz)
          clear hwz hRD0
          go_wp2_with fail
          generalize hkq : c = k at *
          have hk' := hid hkq
          clear hkq
          have s0 := kz.cell t0
          have s1 := kz.cell t1
          have s2 := kz.cell t2
          have s3 := kz.cell t3
          have s4 := kz.cell t4
          have oB := hid (((Own.start wz).alloc (.cells #[.int .u64 mf, .int .i64 mz, .string ma, .string mb, .int .u64 mq] 43 (0, 0))).drew)
          have sB := hid (sl_built 43 metaE [⟨mf, mz, ma, mb, mq⟩] oB.out (n := 1) rfl (by simp [maxLen]) rfl)
          have kB := hid ((((Kp.refl wz).alloc (.cells #[.int .u64 mf, .int .i64 mz, .string ma, .string mb, .int .u64 mq] 43 (0, 0))).drew))
          have eB := hid ((((Ext.refl wz).alloc (.cells #[.int .u64 mf, .int .i64 mz, .string ma, .string mb, .int .u64 mq] 43 (0, 0))).drew))
          have hRDB := hid (kB.out.rd hRD.out)
          have hdl : Hid ((xs.drop k).length ≤ 20000) := hid (by rw [List.length_drop]; have := hnH.out; omega)
          have zl : w.heap.size < wz.heap.size := World.block_lt_of_cell? wz _ s0
          clear t0 t1 t2 t3 t4
          go_region_law (refine step_append_rd rfl _ _ _ rfl i0 _ 5 56 Tryz.underlying30 hi0 hz0 hz1 hz2 rfl rfl rfl sB.out rfl hRDB.out (by have := hdl.out; simp only [List.length_cons, List.length_nil]; unfold maxLen; omega) (by have := hdl.out; simp only [List.length_cons, List.length_nil]; omega) ?_; intro A5 n5 c5 w5 o5 x5)
          have k5H := hid (kp_of1 o5 (eB.out.trans x5))
          have r5H := hid (sl_rd o5)
          have o5H := hid o5
          clear o5 x5 s0 s1 s2 s3 s4
          go_wp2_with (refine wpList_append_rd rfl _ _ _ rfl i0 _ 5 56 Tryz.underlying30 hi0 hz0 hz1 hz2 rfl rfl rfl (sl_empty' 43 metaE ((Own.start w5).alloc (.cells #[] 43 (0, 0)))) rfl (((Kp.refl w5).alloc _).rd (rd_take ((kzH.out.trans k5H.out).rd hH.out) k hk)) ?q1 ?q2 ?_)
          case q1 => have := hnH.out; simp [maxLen]; omega
          case q2 => have := hnH.out; simp; omega
          intro v6 w6 o6 e6 _
          obtain ⟨A6, n6, c6, rfl⟩ := sl_shape o6
          have k6H := hid (kp_of1 o6 (((Ext.refl w5).alloc _).trans e6))
          have r6H := hid (k6H.out.rd r5H.out)
          have o6H := hid o6
          clear o6 e6
          go_wp2_with (refine wpList_append_rd rfl _ _ _ rfl i0 _ 5 56 Tryz.underlying30 hi0 hz0 hz1 hz2 rfl rfl rfl o6H.out rfl r6H.out ?q3 ?q4 ?_)
          case q3 => have := hnH.out; simp [maxLen]; omega
          case q4 => have := hnH.out; simp; omega
          intro v7 w7 o7 e7 _
          obtain ⟨A7, n7, c7, rfl⟩ := sl_shape o7
          have o7H := hid o7
          have x7H := hid e7
          clear o7 e7
          go_wp2
          go_ret
          have kall := (kzH.out.trans k5H.out)
          have o8 := rebase1 o7H.out kall.base
          try simp only [List.nil_append, List.append_assoc, List.cons_append] at o8
          refine ⟨_, _, _, rfl, ?_, (kall.ext.trans k6H.out.ext).trans x7H.out⟩
          rw [hwe.out]
          exact o8
        · have hRD0 : Hid (∀ wz : World, Rd wz metaE (.slice (some (ad.add (k * 5))) (xs.length - k) (c - k)) (xs.drop k)) := hid (fun wz => by rw [hdn.out, hkl.out]; exact rd_gone (by have := hcm.out; omega))
          have hck2 : ¬ k = c := fun h => hck h.symm
          clear hdn
          go_wp2_with fail
          go_quiet (fail)
          generalize hwz : World.drewN wr _ = wz
          have kz : Kp wr wz := by rw [← hwz]; exact (Kp.refl wr).drewN _
          have kzH := hid (kall.out.trans kz)
          have hRD := hid (hRD0.out wz)
          clear hwz hRD0
          go_wp2_with fail
          have s0 := kz.cell t0
          have s1 := kz.cell t1
          have s2 := kz.cell t2
          have s3 := kz.cell t3
          have s4 := kz.cell t4
          have oB := hid (((Own.start wz).alloc (.cells #[.int .u64 mf, .int .i64 mz, .string ma, .string mb, .int .u64 mq] 43 (0, 0))).drew)
          have sB := hid (sl_built 43 metaE [⟨mf, mz, ma, mb, mq⟩] oB.out (n := 1) rfl (by simp [maxLen]) rfl)
          have kB := hid ((((Kp.refl wz).alloc (.cells #[.int .u64 mf, .int .i64 mz, .string ma, .string mb, .int .u64 mq] 43 (0, 0))).drew))
          have eB := hid ((((Ext.refl wz).alloc (.cells #[.int .u64 mf, .int .i64 mz, .string ma, .string mb, .int .u64 mq] 43 (0, 0))).drew))
          have hRDB := hid (kB.out.rd hRD.out)
          have hdl : Hid ((xs.drop k).length ≤ 20000) := hid (by rw [List.length_drop]; have := hnH.out; omega)
          have zl : w.heap.size < wz.heap.size := World.block_lt_of_cell? wz _ s0
          clear t0 t1 t2 t3 t4
          go_region_law (refine step_append_rd rfl _ _ _ rfl i0 _ 5 56 Tryz.underlying30 hi0 hz0 hz1 hz2 rfl rfl rfl sB.out rfl hRDB.out (by have := hdl.out; simp only [List.length_cons, List.length_nil]; unfold maxLen; omega) (by have := hdl.out; simp only [List.length_cons, List.length_nil]; omega) ?_; intro A5 n5 c5 w5 o5 x5)
          have k5H := hid (kp_of1 o5 (eB.out.trans x5))
          have r5H := hid (sl_rd o5)
          have o5H := hid o5
          clear o5 x5 s0 s1 s2 s3 s4
          go_wp2_with (refine wpList_append_rd rfl _ _ _ rfl i0 _ 5 56 Tryz.underlying30 hi0 hz0 hz1 hz2 rfl rfl rfl (sl_empty' 43 metaE ((Own.start w5).alloc (.cells #[] 43 (0, 0)))) rfl (((Kp.refl w5).alloc _).rd (rd_take ((kzH.out.trans k5H.out).rd hH.out) k hk)) ?q1 ?q2 ?_)
          case q1 => have := hnH.out; simp [maxLen]; omega
          case q2 => have := hnH.out; simp; omega
          intro v6 w6 o6 e6 _
          obtain ⟨A6, n6, c6, rfl⟩ := sl_shape o6
          have k6H := hid (kp_of1 o6 (((Ext.refl w5).alloc _).trans e6))
          have r6H := hid (k6H.out.rd r5H.out)
          have o6H := hid o6
          clear o6 e6
          go_wp2_with (refine wpList_append_rd rfl _ _ _ rfl i0 _ 5 56 Tryz.underlying30 hi0 hz0 hz1 hz2 rfl rfl rfl o6H.out rfl r6H.out ?q3 ?q4 ?_)
          case q3 => have := hnH.out; simp [maxLen]; omega
          case q4 => have := hnH.out; simp; omega
          intro v7 w7 o7 e7 _
          obtain ⟨A7, n7, c7, rfl⟩ := sl_shape o7
          have o7H := hid o7
          have x7H := hid e7
          clear o7 e7
          go_wp2
          go_ret
          have kall := (kzH.out.trans k5H.out)
          have o8 := rebase1 o7H.out kall.base
          try simp only [List.nil_append, List.append_assoc, List.cons_append] at o8
          refine ⟨_, _, _, rfl, ?_, (kall.ext.trans k6H.out.ext).trans x7H.out⟩
          rw [hwe.out]
          exact o8
end Go.Proofs.YtdmdnhceiddcfaaGreat
