/- The walks of meets, Meet, span, Edit. · What is picked: in plain Lean. · The walk of Pick. -/
import Derived.Test.YtdmdnhceiddcfaaGreatEncP
import Derived.Test.YtdmdnhceiddcfaaGreatLvlJ
import Derived.Test.YtdmdnhceiddcfaaGreatLvlQ
set_option linter.all false
namespace Go.Proofs.YtdmdnhceiddcfaaGreat
open Go.RowKit Go.Sl Go.Scree

def meetB (a b : ByteArray) (m : MetaM) : Bool := !ltK m.last a && !ltK b m.first
theorem meets_c (m : MetaM) (a b : ByteArray) (w : World) : Calls Tryz.prog 44 #[metaV m, .string a, .string b] w fun e w' => e = .returned (.bool (meetB a b m)) ∧ Kp w w' := by
  obtain ⟨n, z, x, y, q⟩ := m
  unfold metaV meetB
  dsimp only
  have k1 : Hid (Kp w (w.alloc (.cells #[.int .u64 n, .int .i64 z, .string x, .string y, .int .u64 q] 43 (0, 0)))) := hid ((Kp.refl w).alloc _)
  have h1 := geq_ltK y a
  have h2 := leq_ltK x b
  rcases bool_cases (ltK y a) with e | e
  · rw [e] at h1 ⊢
    rw [Bool.not_true] at h1
    clear h2
    go_enter Tryz.func44, Tryz.ntmps44
    go_wp2_with fail
    go_ret
    exact ⟨by simp, k1.out⟩
  · rw [e] at h1 ⊢
    rw [Bool.not_false] at h1
    rcases bool_cases (ltK b x) with f | f
    · rw [f] at h2 ⊢
      rw [Bool.not_true] at h2
      go_enter Tryz.func44, Tryz.ntmps44
      go_wp2_with fail
      go_ret
      exact ⟨by simp, k1.out⟩
    · rw [f] at h2 ⊢
      rw [Bool.not_false] at h2
      go_enter Tryz.func44, Tryz.ntmps44
      go_wp2_with fail
      go_ret
      exact ⟨by simp, k1.out⟩
/-- What meets a range. -/
def meetM (lv : Lvls) (l : Int) (a b : ByteArray) : List MetaM := (levelM lv l).filter (meetB a b)
theorem levelM_few {lv : Lvls} (h : ∀ l, l < 4 → (lv l).length ≤ 20000) (l : Int) : (levelM lv l).length ≤ 20000 := by
  unfold levelM
  split
  · exact h _ (by omega)
  · simp
set_option maxRecDepth 20000 in
set_option maxHeartbeats 3200000 in
theorem meet_c (p : Nat) (S : Nat → SlA) (V : VerM) (l : Int) (a b : ByteArray) (w : World) (h : VerR w p S V) :
    Calls Tryz.prog 19 #[.pointer (some ⟨p, 0, none⟩), .int .i64 l, .string a, .string b] w fun e w' => ∃ v', e = .returned v' ∧ Own w' [sl 43 metaE v' (meetM V.lv l a b), base w w.heap.size] ∧ Ext w w' := by
  have hl := hid (level_c p S V l w h)
  have hf := levelM_few h.few l
  obtain ⟨i0, hi0, hz0, hz1, hz2⟩ := info_parts infoMeta
  unfold meetM
  generalize levelM V.lv l = xs at *
  clear h
  go_enter Tryz.func19, Tryz.ntmps19
  go_wp2_with fail
  refine hl.out.mono ?_
  rintro e w1 ⟨v1, rfl, o1, e1⟩
  have hrd := hid (sl_rd o1)
  obtain ⟨A1, c1, hv1, _, _⟩ := hrd.out.form
  subst hv1
  have k1 := hid (kp_of1 o1 e1)
  clear o1 e1
  have hx63 : xs.length ≤ 9223372036854775807 := by omega
  go_wp2_with fail
  go_loopw [9, 16] (fun v i wr => ∃ j : Nat, j ≤ xs.length ∧ i = .int .i64 j ∧ Own wr [sl 43 metaE v ((xs.take j).filter (meetB a b)), base w1 w1.heap.size] ∧ Ext w1 wr) (fun _ i _ => xs.length - (intOf i).toNat)
  case atStart => exact ⟨0, Nat.zero_le _, rfl, sl_nil _ _ (Own.start w1), Ext.refl _⟩
  case round =>
    obtain ⟨j, hj, rfl, oj, ej⟩ := hrel
    obtain ⟨A2, n2, c2, rfl⟩ := sl_shape oj
    have ojH := hid oj
    have ejH := hid ej
    clear oj ej
    by_cases hjl : j < xs.length
    · have hx : xs[j]? = some xs[j] := List.getElem?_eq_getElem hjl
      obtain ⟨g, off, rfl, _, d0, d1, d2, d3, d4⟩ := rd_meta ((kp_of1 ojH.out ejH.out).rd hrd.out) rfl hx
      have htk : Hid (xs.take (j + 1) = xs.take j ++ [xs[j]]) := hid (List.take_succ_eq_append_getElem hjl)
      generalize xs[j] = x at *
      clear hx
      have hjl' : (j : Int) < (xs.length : Int) := by omega
      have hmt := hid (fun w => meets_c x a b w)
      have hbx : Hid (∀ i v, (metaE.cells x)[i]? = some v → (wr.alloc (.cells #[.int .u64 x.file, .int .i64 x.size, .string x.first, .string x.last, .int .u64 x.seq] 43 (0, 0))).cell? ⟨wr.heap.size, i, none⟩ = some v) := hid (fun i v hv => ((Own.start wr).alloc (.cells (metaE.cells x).toArray 43 (0, 0))).cell (by simpa using hv))
      have oa := hid (ojH.out.allocd (x := .cells #[.int .u64 x.file, .int .i64 x.size, .string x.first, .string x.last, .int .u64 x.seq] 43 (0, 0)))
      have ea := hid (ejH.out.alloc (.cells #[.int .u64 x.file, .int .i64 x.size, .string x.first, .string x.last, .int .u64 x.seq] 43 (0, 0)))
      unfold metaV at hmt
      have hlf : (((xs.take j).filter (meetB a b)).length : Nat) ≤ 20000 := Nat.le_trans (List.length_filter_le _ _) (by rw [List.length_take]; omega)
      have hbb := bool_cases (meetB a b x)
      have hyes : Hid (meetB a b x = true → (xs.take (j + 1)).filter (meetB a b) = (xs.take j).filter (meetB a b) ++ [x]) := hid (fun h => by rw [htk.out, List.filter_append]; simp [h])
      have hno : Hid (meetB a b x = false → (xs.take (j + 1)).filter (meetB a b) = (xs.take j).filter (meetB a b)) := hid (fun h => by rw [htk.out, List.filter_append]; simp [h])
      generalize meetB a b x = bb at *
      go_wp2_with fail
      refine (hmt.out _).mono ?_
      rintro e w2 ⟨rfl, k2⟩
      have b0 := k2.cell (hbx.out 0 (.int .u64 x.file) rfl)
      have b1 := k2.cell (hbx.out 1 (.int .i64 x.size) rfl)
      have b2 := k2.cell (hbx.out 2 (.string x.first) rfl)
      have b3 := k2.cell (hbx.out 3 (.string x.last) rfl)
      have b4 := k2.cell (hbx.out 4 (.int .u64 x.seq) rfl)
      have o2 := hid (k2.own oa.out)
      have e2 := hid (ea.out.trans k2.ext)
      obtain ⟨q, hq⟩ : ∃ q, wr.heap.size = q := ⟨_, rfl⟩
      rw [hq] at b0 b1 b2 b3 b4 ⊢
      clear k2 d0 d1 d2 d3 d4 hq hbx
      rcases hbb with rfl | rfl
      · go_wp2_with (refine wpList_append_slc rfl _ _ _ rfl 43 i0 _ 5 56 Tryz.underlying30 hi0 hz0 hz1 hz2 rfl (by omega) _ _ _ rfl (Own.allocd o2.out) ⟨w2.heap.size, 0, none⟩ 1 1 [.int .u64 x.file, .int .i64 x.size, .string x.first, .string x.last, .int .u64 x.seq] rfl rfl (cells_new' (by simp) _ _ _) ?c2 ?c3 ?c4 ?_)
        case c2 => simp [Value.oneCell']
        case c3 => unfold maxLen; omega
        case c4 => omega
        intro v3 w3 o3 e3 _
        have o4 := sl_of (E := metaE) ((xs.take (j + 1)).filter (meetB a b)) o3 (by rw [hyes.out (by simp)]; simp) (by rw [hyes.out (by simp)]; simp [metaE, Enc.flat])
        obtain ⟨A4, n4, k4, rfl⟩ := sl_shape o4
        have o4H := hid o4
        clear o3 o4 b0 b1 b2 b3 b4
        go_wp2
        go_roundw
        case rel => exact ⟨j + 1, by omega, by go_num, o4H.out, (e2.out.alloc _).trans e3⟩
        case measure => simp [intOf]; omega
      · have o4H : Hid (Own w2 [sl 43 metaE (.slice A2 n2 c2) ((xs.take (j + 1)).filter (meetB a b)), base w1 w1.heap.size]) := hid (by rw [hno.out (by simp)]; exact o2.out)
        clear b0 b1 b2 b3 b4
        go_wp2
        go_roundw
        case rel => exact ⟨j + 1, by omega, by go_num, o4H.out, e2.out⟩
        case measure => simp [intOf]; omega
    · obtain rfl : j = xs.length := by omega
      have o4H : Hid (Own wr [sl 43 metaE (.slice A2 n2 c2) (xs.filter (meetB a b)), base w1 w1.heap.size]) := hid (by have := ojH.out; rwa [List.take_length] at this)
      go_wp2
      go_ret
      refine ⟨_, rfl, ?_, k1.out.ext.trans ejH.out⟩
      exact rebase1 o4H.out k1.out.base
def minK (x y : ByteArray) : ByteArray := if ltK y x = true then y else x
def maxK (x y : ByteArray) : ByteArray := if ltK x y = true then y else x
theorem run_minK (w : World) (ts : Array TypeId) (t : TypeId) (x y : ByteArray) : (Builtin.min_ ts t #[.string x, .string y]).run Tryz.prog w = .ok (.string (minK x y)) w := by
  have h := leq_ltK x y
  unfold minK
  cases hc : ltK y x <;> rw [hc] at h <;> simp [Builtin.min_, Builtin.min2, Op.stringOp, asBool] <;> simp_all
  intro p q
  rcases h with h | h
  · rw [h] at p; cases p
  · exact absurd h q
theorem run_maxK (w : World) (ts : Array TypeId) (t : TypeId) (x y : ByteArray) : (Builtin.max_ ts t #[.string x, .string y]).run Tryz.prog w = .ok (.string (maxK x y)) w := by
  have h := geq_ltK x y
  unfold maxK
  cases hc : ltK x y <;> rw [hc] at h <;> simp [Builtin.max_, Builtin.max2, Op.stringOp, asBool] <;> simp_all
/-- The range of tables. -/
def spanP : List MetaM → ByteArray × ByteArray
  | [] => (⟨#[]⟩, ⟨#[]⟩)
  | x :: l => (x :: l).foldl (fun r m => (minK r.1 m.first, maxK r.2 m.last)) (x.first, x.last)
def spanK (xs : List MetaM) (k : Nat) : ByteArray × ByteArray := match xs with
  | [] => (⟨#[]⟩, ⟨#[]⟩)
  | x :: _ => (xs.take k).foldl (fun r m => (minK r.1 m.first, maxK r.2 m.last)) (x.first, x.last)
theorem spanK_succ {xs : List MetaM} {k : Nat} {x : MetaM} (h : xs[k]? = some x) : spanK xs (k + 1) = (minK (spanK xs k).1 x.first, maxK (spanK xs k).2 x.last) := by
  cases xs with
  | nil => simp at h
  | cons y l =>
    obtain ⟨hk, rfl⟩ := List.getElem?_eq_some_iff.1 h
    unfold spanK
    dsimp only
    rw [List.take_succ_eq_append_getElem hk, List.foldl_append]
    rfl
theorem spanK_len (xs : List MetaM) : spanK xs xs.length = spanP xs := by
  cases xs with
  | nil => rfl
  | cons y l => unfold spanK spanP; rw [List.take_length]
set_option maxRecDepth 20000 in
set_option maxHeartbeats 3200000 in
theorem span_c (v : Value) (xs : List MetaM) (w : World) (h : Rd w metaE v xs) (h0 : 0 < xs.length) :
    Calls Tryz.prog 36 #[v] w fun e w' => e = .returned (.tuple #[.string (spanP xs).1, .string (spanP xs).2]) ∧ Kp w w' := by
  obtain ⟨A, c, rfl, hm, hc⟩ := h.form
  have hl : xs.length ≤ 9223372036854775807 := by simpa [maxLen] using hm
  have hH := hid h
  obtain ⟨x0, hx0⟩ : ∃ x, xs[0]? = some x := ⟨_, List.getElem?_eq_getElem h0⟩
  obtain ⟨g, off, hA, _, a0, a1, a2, a3, a4⟩ := rd_meta h rfl hx0
  have hs0 : Hid (spanK xs 0 = (x0.first, x0.last)) := hid (by
    cases xs with
    | nil => simp at hx0
    | cons y l => simp at hx0; subst hx0; rfl)
  subst hA
  have hmin := run_minK
  have hmax := run_maxK
  rw [Nat.zero_mul, Nat.add_zero] at a0 a1 a2 a3 a4
  clear h hm hc hx0
  go_enter Tryz.func36, Tryz.ntmps36
  go_wp2_with fail
  go_quiet (fail)
  go_wp2_with fail
  clear a0 a1 a2 a3 a4
  go_loopw [4, 5, 18] (fun s4 s5 i wr => ∃ k : Nat, k ≤ xs.length ∧ i = .int .i64 k ∧ s4 = .string (spanK xs k).1 ∧ s5 = .string (spanK xs k).2 ∧ Kp w wr) (fun _ _ i _ => xs.length - (intOf i).toNat)
  case atStart => exact ⟨0, Nat.zero_le _, rfl, by rw [hs0.out], by rw [hs0.out], (Kp.refl w).drewN _⟩
  case round =>
    obtain ⟨k, hk, rfl, rfl, rfl, kr⟩ := hrel
    have kH := hid kr
    clear kr
    by_cases hlt : k < xs.length
    · have hx : xs[k]? = some xs[k] := List.getElem?_eq_getElem hlt
      obtain ⟨g', off', hA', _, d0, d1, d2, d3, d4⟩ := rd_meta (kH.out.rd hH.out) rfl hx
      simp only [Option.some.injEq, Addr.mk.injEq, and_true] at hA'
      obtain ⟨rfl, rfl⟩ := hA'
      have hsu := hid (spanK_succ hx)
      have hlt' : (k : Int) < (xs.length : Int) := by omega
      generalize xs[k] = x at *
      generalize spanK xs k = r at *
      obtain ⟨r1, r2⟩ := r
      dsimp only at hsu ⊢
      clear hx
      have ka := hid (kH.out.alloc (.cells #[.int .u64 x.file, .int .i64 x.size, .string x.first, .string x.last, .int .u64 x.seq] 43 (0, 0)))
      go_wp2_with fail
      go_quiet (fail)
      go_wp2_with fail
      go_roundw
      case rel => exact ⟨k + 1, by omega, by go_num, by rw [hsu.out], by rw [hsu.out], ka.out.drewN _⟩
      case measure => simp [intOf]; omega
    · have dk : decide (k < xs.length) = false := decide_eq_false hlt
      have hse : Hid (spanK xs k = spanP xs) := hid (by rw [show k = xs.length by omega]; exact spanK_len xs)
      go_wp2_with fail
      go_ret2
      exact ⟨by rw [← hse.out]; rfl, kH.out⟩
end Go.Proofs.YtdmdnhceiddcfaaGreat
namespace Go.Proofs.YtdmdnhceiddcfaaGreat
open Go.RowKit Go.Sl Go.Scree

def meetL (xs : List MetaM) (r : ByteArray × ByteArray) : List MetaM := xs.filter (meetB r.1 r.2)
def growP (lv0 : List MetaM) : Nat → List MetaM → List MetaM
  | 0, f => f
  | n + 1, f => if f.length < (meetL lv0 (spanP f)).length then growP lv0 n (meetL lv0 (spanP f)) else meetL lv0 (spanP f)
structure PickM where
  level : Int
  «from» : List MetaM
  into : List MetaM
  bottom : Bool
def noPick : PickM := ⟨0, [], [], false⟩
/-- What is picked of a level. -/
def fromP (lv : Lvls) (l k : Nat) : List MetaM :=
  let f := match (lv l)[k % (lv l).length]? with | some x => [x] | none => []
  if l = 0 then growP (lv 0) (lv 0).length f else f
def bottomP (lv : Lvls) (l : Nat) (r : ByteArray × ByteArray) : Bool := (List.range 4).all fun b => decide (b < l + 2) || (meetL (lv b) r).isEmpty
def pickP (V : VerM) (l k : Int) : PickM × Int :=
  if l < 0 ∨ 2 < l ∨ k < 0 then (noPick, 1) else
  if (V.lv l.toNat).isEmpty = true then (noPick, 10) else
  let f := fromP V.lv l.toNat k.toNat
  let i := meetL (V.lv (l.toNat + 1)) (spanP f)
  (⟨l, f, i, bottomP V.lv l.toNat (spanP (f ++ i))⟩, 0)
theorem min_left (a b : ByteArray) : ltK a (minK a b) = false := by
  unfold minK
  split
  · rename_i h; exact ltK_asymm h
  · exact ltK_irrefl _
theorem min_right (a b : ByteArray) : ltK b (minK a b) = false := by
  unfold minK
  split
  · exact ltK_irrefl _
  · rename_i h; simpa using h
theorem max_left (a b : ByteArray) : ltK (maxK a b) a = false := by
  unfold maxK
  split
  · rename_i h; exact ltK_asymm h
  · exact ltK_irrefl _
theorem max_right (a b : ByteArray) : ltK (maxK a b) b = false := by
  unfold maxK
  split
  · exact ltK_irrefl _
  · rename_i h; simpa using h
theorem nlt_trans {a b c : ByteArray} (h : ltK b a = false) (k : ltK c b = false) : ltK c a = false := by
  rcases ltK_tri a b with h1 | h1 | h1
  · rcases ltK_tri b c with h2 | h2 | h2
    · exact ltK_asymm (ltK_trans h1 h2)
    · rw [← h2]; exact h
    · rw [h2] at k; cases k
  · rw [h1]; exact k
  · rw [h1] at h; cases h
def stepS (r : ByteArray × ByteArray) (m : MetaM) : ByteArray × ByteArray := (minK r.1 m.first, maxK r.2 m.last)
theorem span_fold : ∀ (l : List MetaM) (r : ByteArray × ByteArray), (ltK r.1 (l.foldl stepS r).1 = false ∧ ltK (l.foldl stepS r).2 r.2 = false) ∧ ∀ m ∈ l, ltK m.first (l.foldl stepS r).1 = false ∧ ltK (l.foldl stepS r).2 m.last = false
  | [], r => ⟨⟨ltK_irrefl _, ltK_irrefl _⟩, by simp⟩
  | x :: l, r => by
    obtain ⟨⟨h1, h2⟩, h3⟩ := span_fold l (stepS r x)
    rw [List.foldl_cons]
    refine ⟨⟨nlt_trans h1 (min_left _ _), nlt_trans (max_left _ _) h2⟩, fun m hm => ?_⟩
    rcases List.mem_cons.1 hm with rfl | hm
    · exact ⟨nlt_trans h1 (min_right _ _), nlt_trans (max_right _ _) h2⟩
    · exact h3 m hm
theorem span_bounds {l : List MetaM} : ∀ m ∈ l, ltK m.first (spanP l).1 = false ∧ ltK (spanP l).2 m.last = false := by
  cases l with
  | nil => simp
  | cons x l => exact (span_fold (x :: l) (x.first, x.last)).2
/-- Each table of a list meets the list's range. -/
theorem span_meets {l : List MetaM} {m : MetaM} (hm : m ∈ l) (hw : ltK m.last m.first = false) : meetB (spanP l).1 (spanP l).2 m = true := by
  obtain ⟨h1, h2⟩ := span_bounds m hm
  unfold meetB
  rw [nlt_trans h1 hw, nlt_trans hw h2]
  rfl
theorem meet_subset {xs f : List MetaM} (h : f ⊆ xs) (hw : ∀ m ∈ xs, ltK m.last m.first = false) : f ⊆ meetL xs (spanP f) := fun m hm => List.mem_filter.2 ⟨h hm, span_meets hm (hw m (h hm))⟩
theorem meet_pos {xs f : List MetaM} (h : f ⊆ xs) (hw : ∀ m ∈ xs, ltK m.last m.first = false) (h0 : 0 < f.length) : 0 < (meetL xs (spanP f)).length := by
  obtain ⟨m, hm⟩ := List.exists_mem_of_length_pos h0
  exact List.length_pos_of_mem (meet_subset h hw hm)

/-- A pick's block that is being filled. -/
structure PkO (w W0 : World) (pb rb : Nat) (l : Int) (sF sI : SlA) (b : Bool) (F I : List MetaM) (tp : TypeId) (D : List Chunk) : Prop where
  own : Own w (pts pb (.cells #[.int .i64 l, .slice sF.A sF.n sF.c, .slice sI.A sI.n sI.c, .bool b] tp (0, 0)) :: pts rb (.cells #[.int .i64 0, .slice none 0 0, .slice none 0 0, .bool false] tp (0, 0)) :: (D ++ [base W0 W0.heap.size]))
  rdF : Gives (D ++ [base W0 W0.heap.size]) fun w => Rd w metaE sF.v F
  rdI : Gives (D ++ [base W0 W0.heap.size]) fun w => Rd w metaE sI.v I
  ext : Ext W0 w
section
variable {w W0 w1 : World} {pb rb : Nat} {l : Int} {sF sI s : SlA} {b : Bool} {F I xs : List MetaM} {tp : TypeId} {D : List Chunk}
theorem PkO.base (h : PkO w W0 pb rb l sF sI b F I tp D) : Kp W0 w := kp_of (cs := pts pb _ :: pts rb _ :: D) h.own h.ext
theorem PkO.kp (h : PkO w W0 pb rb l sF sI b F I tp D) (k : Kp w w1) : PkO w1 W0 pb rb l sF sI b F I tp D := ⟨k.own h.own, h.rdF, h.rdI, h.ext.trans k.ext⟩
theorem PkO.from (h : PkO w W0 pb rb l sF sI b F I tp D) : Rd w metaE sF.v F := h.rdF w [] (by rw [List.append_nil]; exact h.own.drop.drop)
theorem PkO.into (h : PkO w W0 pb rb l sF sI b F I tp D) : Rd w metaE sI.v I := h.rdI w [] (by rw [List.append_nil]; exact h.own.drop.drop)
theorem PkO.turnF (h : PkO w W0 pb rb l sF sI b F I tp D) (k : Kp w w1) (o : Own w1 [sl 43 metaE s.v xs, Sl.base w w.heap.size]) :
    PkO (w1.setCell ⟨pb, 1, none⟩ (.slice s.A s.n s.c)) W0 pb rb l s sI b xs I tp (sl 43 metaE s.v xs :: D) := by
  have o2 := ((rebase1 o h.own).swap).set (i := 1) (.slice s.A s.n s.c)
  refine ⟨?_, fun w F o => sl_rd o, Gives.more h.rdI _, (h.ext.trans k.ext).set _ _⟩
  exact o2.perm (List.Perm.cons _ (List.Perm.swap _ _ _))
theorem PkO.turnI (h : PkO w W0 pb rb l sF sI b F I tp D) (k : Kp w w1) (o : Own w1 [sl 43 metaE s.v xs, Sl.base w w.heap.size]) :
    PkO (w1.setCell ⟨pb, 2, none⟩ (.slice s.A s.n s.c)) W0 pb rb l sF s b F xs tp (sl 43 metaE s.v xs :: D) := by
  have o2 := ((rebase1 o h.own).swap).set (i := 2) (.slice s.A s.n s.c)
  refine ⟨?_, Gives.more h.rdF _, fun w F o => sl_rd o, (h.ext.trans k.ext).set _ _⟩
  exact o2.perm (List.Perm.cons _ (List.Perm.swap _ _ _))
theorem PkO.turnB (h : PkO w W0 pb rb l sF sI b F I tp D) (b' : Bool) : PkO (w.setCell ⟨pb, 3, none⟩ (.bool b')) W0 pb rb l sF sI b' F I tp D :=
  ⟨h.own.set (i := 3) (.bool b'), h.rdF, h.rdI, h.ext.set _ _⟩
end
end Go.Proofs.YtdmdnhceiddcfaaGreat
namespace Go.Proofs.YtdmdnhceiddcfaaGreat
open Go.RowKit Go.Sl Go.Scree

/-- What Pick tells. -/
def PickSays (w w' : World) (e : Ending) (r : PickM × Int) : Prop := Kp w w' ∧ ∃ sF sI : SlA, e = .returned (.tuple #[.agg #[.int .i64 r.1.level, .slice sF.A sF.n sF.c, .slice sI.A sI.n sI.c, .bool r.1.bottom], .int .i64 r.2]) ∧ Rd w' metaE sF.v r.1.from ∧ Rd w' metaE sI.v r.1.into
theorem pick_bad {V : VerM} {l k : Int} (h : l < 0 ∨ 2 < l ∨ k < 0) : pickP V l k = (noPick, 1) := by unfold pickP; rw [if_pos h]
theorem pick_none {V : VerM} {l k : Int} (h : ¬ (l < 0 ∨ 2 < l ∨ k < 0)) (e : V.lv l.toNat = []) : pickP V l k = (noPick, 10) := by
  unfold pickP; rw [if_neg h, if_pos (by rw [e]; rfl)]
def lenV : Value → Nat
  | .slice _ n _ => n
  | _ => 0
def leftV (n : Nat) : Value → Value → Nat
  | .bool true, v => n + 2 - lenV v
  | _, _ => 0
/-- Where the range grows, how far it is. -/
structure Grow (V : VerM) (n q : Nat) (gr : Bool) (F : List MetaM) (N0 : Nat) : Prop where
  sub : F ⊆ V.lv n
  pos : 0 < F.length
  few : F.length ≤ (V.lv n).length
  yes : gr = true → n = 0 ∧ F.length ≤ N0 ∧ ∃ fuel, growP (V.lv 0) fuel F = fromP V.lv n q ∧ N0 < F.length + fuel
  no : gr = false → F = fromP V.lv n q
theorem Grow.step {V : VerM} {n q N0 : Nat} {F : List MetaM} (h : Grow V n q true F N0) (hV : VOk V) (hN : (V.lv 0).length = N0) : Grow V n q (decide (F.length < (meetL (V.lv 0) (spanP F)).length)) (meetL (V.lv 0) (spanP F)) N0 := by
  obtain ⟨rfl, h1, fuel, h2, h3⟩ := h.yes rfl
  have hw : ∀ m ∈ V.lv 0, ltK m.last m.first = false := fun m hm => (may_parts (hV.may m (mem_flat.2 ⟨0, by omega, hm⟩))).2.2.2.2.1
  have hml : (meetL (V.lv 0) (spanP F)).length ≤ N0 := by rw [← hN]; exact List.length_filter_le _ _
  obtain ⟨f, rfl⟩ : ∃ f, fuel = f + 1 := ⟨fuel - 1, by omega⟩
  unfold growP at h2
  refine ⟨List.filter_sublist.subset, meet_pos h.sub hw h.pos, List.length_filter_le _ _, fun hg => ?_, fun hg => ?_⟩
  · have hlt : F.length < (meetL (V.lv 0) (spanP F)).length := of_decide_eq_true hg
    rw [if_pos hlt] at h2
    exact ⟨rfl, hml, f, h2, by omega⟩
  · have hlt : ¬ F.length < (meetL (V.lv 0) (spanP F)).length := of_decide_eq_false hg
    rw [if_neg hlt] at h2
    exact h2
def botK (lv : Lvls) (n : Nat) (r : ByteArray × ByteArray) (b : Nat) : Bool := (List.range b).all fun i => decide (i < n + 2) || (meetL (lv i) r).isEmpty
theorem botK_start (lv : Lvls) (n : Nat) (r : ByteArray × ByteArray) : botK lv n r (n + 2) = true := by
  unfold botK
  rw [List.all_eq_true]
  intro i hi
  rw [List.mem_range] at hi
  simp [hi]
theorem botK_succ (lv : Lvls) (n : Nat) (r : ByteArray × ByteArray) {b : Nat} (h : n + 2 ≤ b) : botK lv n r (b + 1) = (botK lv n r b && (meetL (lv b) r).isEmpty) := by
  unfold botK
  rw [List.range_succ, List.all_append]
  have hd : decide (b < n + 2) = false := decide_eq_false (by omega)
  simp only [List.all_cons, List.all_nil, Bool.and_true, hd, Bool.false_or]
def pkCells (l : Int) (sF sI : SlA) (b : Bool) : List Value := [.int .i64 l, .slice sF.A sF.n sF.c, .slice sI.A sI.n sI.c, .bool b]
/-- The pick is told: all its cells lie in the other block. -/
theorem PkO.cells {w W0 : World} {pb rb : Nat} {l : Int} {sF sI : SlA} {b : Bool} {F I : List MetaM} {tp : TypeId} {D : List Chunk} (h : PkO w W0 pb rb l sF sI b F I tp D) {i : Nat} {v : Value} (hv : (pkCells l sF sI b)[i]? = some v) :
    (put w rb 0 (pkCells l sF sI b)).cell? ⟨rb, i, none⟩ = some v := by
  have o := own_put (pkCells l sF sI b) (o := 0) h.own.swap
  refine o.cell ?_
  have e : over #[.int .i64 0, .slice none 0 0, .slice none 0 0, .bool false] 0 (pkCells l sF sI b) = (pkCells l sF sI b).toArray := rfl
  rw [e, List.getElem?_toArray]
  exact hv
theorem PkO.told {w W0 : World} {pb rb : Nat} {l : Int} {sF sI : SlA} {b : Bool} {F I : List MetaM} {tp : TypeId} {D : List Chunk} (h : PkO w W0 pb rb l sF sI b F I tp D) :
    Kp W0 (put w rb 0 (pkCells l sF sI b)) ∧ Rd (put w rb 0 (pkCells l sF sI b)) metaE sF.v F ∧ Rd (put w rb 0 (pkCells l sF sI b)) metaE sI.v I := by
  have o := (own_put (pkCells l sF sI b) (o := 0) h.own.swap).drop.drop
  have e := ext_put (pkCells l sF sI b) rb 0 h.ext
  exact ⟨kp_of o e, h.rdF _ [] (by simpa using o), h.rdI _ [] (by simpa using o)⟩
set_option maxRecDepth 20000 in
set_option maxHeartbeats 6400000 in
theorem pick_c (p : Nat) (S : Nat → SlA) (V : VerM) (l k : Int) (w : World) (h : VerR w p S V) (hV : VOk V) (hk : k ≤ 9223372036854775807) :
    Calls Tryz.prog 13 #[.pointer (some ⟨p, 0, none⟩), .int .i64 l, .int .i64 k] w fun e w' => PickSays w w' e (pickP V l k) := by
  have hH := hid h
  have hVH := hid hV
  have kz := hid ((Kp.refl w).alloc (.cells #[.int .i64 0, .slice none 0 0, .slice none 0 0, .bool false] 47 (0, 0)))
  clear h hV
  by_cases hbad : l < 0 ∨ 2 < l ∨ k < 0
  · have hr := hid (@pick_bad V l k hbad)
    have d1 : decide (l < 0) = true ∨ decide (l < 0) = false ∧ (decide (l > 2) = true ∨ decide (l > 2) = false ∧ decide (k < 0) = true) := by
      rcases hbad with h | h | h
      · exact .inl (decide_eq_true h)
      · by_cases h0 : l < 0
        · exact .inl (decide_eq_true h0)
        · exact .inr ⟨decide_eq_false h0, .inl (decide_eq_true (by omega))⟩
      · by_cases h0 : l < 0
        · exact .inl (decide_eq_true h0)
        · by_cases h2 : l > 2
          · exact .inr ⟨decide_eq_false h0, .inl (decide_eq_true h2)⟩
          · exact .inr ⟨decide_eq_false h0, .inr ⟨decide_eq_false h2, decide_eq_true h⟩⟩
    clear hbad
    rcases d1 with d1 | ⟨d1, d2 | ⟨d2, d3⟩⟩
    all_goals
      go_enter Tryz.func13, Tryz.ntmps13
      go_wp2_with fail
      refine bodyPost_ret (by simp [results, Tryz.results13, go_sem]; rfl) rfl ?_
      exact ⟨kz.out, nilA, nilA, by rw [hr.out]; rfl, by rw [hr.out]; exact rd_nilA _, by rw [hr.out]; exact rd_nilA _⟩
  · have hnone := hid (@pick_none V l k hbad)
    have hgood : Hid ((V.lv l.toNat).isEmpty = false → pickP V l k = (⟨l, fromP V.lv l.toNat k.toNat, meetL (V.lv (l.toNat + 1)) (spanP (fromP V.lv l.toNat k.toNat)), bottomP V.lv l.toNat (spanP (fromP V.lv l.toNat k.toNat ++ meetL (V.lv (l.toNat + 1)) (spanP (fromP V.lv l.toNat k.toNat))))⟩, 0)) := hid (fun h => by unfold pickP; rw [if_neg hbad, if_neg (by rw [h]; simp)])
    obtain ⟨n, rfl⟩ : ∃ n : Nat, l = n := ⟨l.toNat, by omega⟩
    obtain ⟨q, rfl⟩ : ∃ q : Nat, k = q := ⟨k.toNat, by omega⟩
    have hn : n ≤ 2 := by omega
    have dn0 : decide ((n : Int) < 0) = false := decide_eq_false (by omega)
    have dq0 : decide ((q : Int) < 0) = false := decide_eq_false (by omega)
    have dn : decide ((n : Int) > 2) = false := decide_eq_false (by omega)
    have dn' : decide ((2 : Int) < (n : Int)) = false := decide_eq_false (by omega)
    have hn4 : (n : Int) < 4 := by omega
    rw [Int.toNat_natCast] at hnone
    rw [Int.toNat_natCast, Int.toNat_natCast] at hgood
    have cl0 := hH.out.lvl n (by omega)
    have hrd := hid (hH.out.rd n (by omega))
    have hlen : Hid ((V.lv n).length ≤ 30) := hid (by
      have := hVH.out.few
      simp only [fewB, four, List.all_cons, List.all_nil, Bool.and_true, Bool.and_eq_true, decide_eq_true_eq] at this
      rcases (by omega : n = 0 ∨ n = 1 ∨ n = 2) with rfl | rfl | rfl
      · exact this.1
      · exact this.2.1
      · exact this.2.2.1)
    have hSn : (S n).n = (V.lv n).length := by
      obtain ⟨_, _, hv, _⟩ := hrd.out.form
      unfold SlA.v at hv
      simp only [Value.slice.injEq] at hv
      exact hv.2.1
    rw [hSn] at cl0
    have hpl : p < w.heap.size := World.block_lt_of_cell? w _ cl0
    have hpn : p ≠ w.heap.size := by omega
    have hpn1 : p ≠ w.heap.size + 1 := by omega
    clear hbad
    rcases Nat.eq_zero_or_pos (V.lv n).length with h0 | h0
    · have hr := hid (hnone.out (List.eq_nil_of_length_eq_zero h0))
      rw [h0] at cl0
      clear h0 hSn
      go_enter Tryz.func13, Tryz.ntmps13
      go_wp2_with fail
      refine bodyPost_ret (by simp [results, Tryz.results13, go_sem]; rfl) rfl ?_
      exact ⟨kz.out, nilA, nilA, by rw [hr.out]; rfl, by rw [hr.out]; exact rd_nilA _, by rw [hr.out]; exact rd_nilA _⟩
    · have hr := hid (hgood.out (by rw [List.isEmpty_eq_false_iff]; exact List.ne_nil_of_length_pos h0))
      obtain ⟨r, hrr⟩ : ∃ r, q % (V.lv n).length = r := ⟨_, rfl⟩
      have hrl : r < (V.lv n).length := by rw [← hrr]; exact Nat.mod_lt _ h0
      have htm : Int.tmod (q : Int) ((V.lv n).length : Int) = (r : Int) := by rw [Int.tmod_eq_emod_of_nonneg (by omega), ← hrr]; rfl
      obtain ⟨x, hx⟩ : ∃ x, (V.lv n)[r]? = some x := ⟨_, List.getElem?_eq_getElem hrl⟩
      have hfp : Hid (fromP V.lv n q = if n = 0 then growP (V.lv 0) (V.lv 0).length [x] else [x]) := hid (by unfold fromP; rw [hrr, hx])
      have hrd1 := hrd.out
      unfold SlA.v at hrd1
      obtain ⟨g, off, hA, _, a0, a1, a2, a3, a4⟩ := rd_meta hrd1 rfl hx
      have hgl : g < w.heap.size := World.block_lt_of_cell? w _ a0
      have hgn : g ≠ w.heap.size := by omega
      have hgn1 : g ≠ w.heap.size + 1 := by omega
      have hx1 : Hid ([x] ⊆ V.lv n) := hid (by intro y hy; rw [List.mem_singleton] at hy; subst hy; exact List.mem_of_getElem? hx)
      have e0 : (((V.lv n).length : Int) == 0) = false := by rw [beq_eq_false_iff_ne]; omega
      have e0' : ((V.lv n).length == 0) = false := by rw [beq_eq_false_iff_ne]; omega
      have hrH := hid hrr
      have hne0 : ¬ ((V.lv n).length : Int) = 0 := by omega
      rw [hA] at cl0
      generalize hN : (V.lv n).length = N at *
      have hNH := hid hN
      clear hN hSn hrr hrd1 hx hA h0
      go_enter Tryz.func13, Tryz.ntmps13
      go_wp2_with fail
      go_region
      have v1 : Hid (PkO ((((w.alloc (.cells #[.int .i64 0, .slice none 0 0, .slice none 0 0, .bool false] 47 (0, 0))).alloc (.cells #[.int .i64 n, .slice (some ⟨w.heap.size + 1 + 1, 0, none⟩) 1 1, .slice none 0 0, .bool true] 47 (0, 0))).alloc (.cells #[.int .u64 x.file, .int .i64 x.size, .string x.first, .string x.last, .int .u64 x.seq] 43 (0, 0))).drew) w (w.heap.size + 1) w.heap.size n ⟨some ⟨w.heap.size + 1 + 1, 0, none⟩, 1, 1⟩ nilA true [x] [] 47 [sl 43 metaE (SlA.v ⟨some ⟨w.heap.size + 1 + 1, 0, none⟩, 1, 1⟩) [x]]) := hid (by
        have o := ((((Own.start w).alloc (.cells #[.int .i64 0, .slice none 0 0, .slice none 0 0, .bool false] 47 (0, 0))).alloc (.cells #[.int .i64 n, .slice (some ⟨w.heap.size + 1 + 1, 0, none⟩) 1 1, .slice none 0 0, .bool true] 47 (0, 0))).alloc (.cells #[.int .u64 x.file, .int .i64 x.size, .string x.first, .string x.last, .int .u64 x.seq] 43 (0, 0))).drew
        simp only [World.size_alloc] at o
        have o2 := sl_built 43 metaE [x] o (n := 1) rfl (by simp [maxLen]) rfl
        refine ⟨?_, fun w F o => sl_rd o, fun w F o => rd_nilA w, ((((Ext.refl w).alloc _).alloc _).alloc _).drew⟩
        exact (Own.pick 2 (Own.pick 2 o2)))
      obtain ⟨w5, hw5⟩ : ∃ w5, w5 = ((((w.alloc (.cells #[.int .i64 0, .slice none 0 0, .slice none 0 0, .bool false] 47 (0, 0))).alloc (.cells #[.int .i64 n, .slice (some ⟨w.heap.size + 1 + 1, 0, none⟩) 1 1, .slice none 0 0, .bool true] 47 (0, 0))).alloc (.cells #[.int .u64 x.file, .int .i64 x.size, .string x.first, .string x.last, .int .u64 x.seq] 43 (0, 0))).drew) := ⟨_, rfl⟩
      rw [← hw5] at v1 ⊢
      obtain ⟨rb, hrb⟩ : ∃ rb, w.heap.size = rb := ⟨_, rfl⟩
      obtain ⟨pb, hpb⟩ : ∃ pb, rb + 1 = pb := ⟨_, rfl⟩
      rw [hrb, hpb] at v1
      rw [hrb, hpb]
      clear a0 a1 a2 a3 a4 cl0 hgl hgn hgn1 hpl hpn hpn1 hw5 hrb hpb htm hrl e0 e0' hne0 kz
      have hbn := bool_cases ((n : Int) == 0)
      have hg0 : Hid (Grow V n q ((n : Int) == 0) [x] (V.lv 0).length) := hid ⟨hx1.out, by simp, List.length_pos_of_mem (hx1.out (List.mem_singleton_self x)), fun h => by
        have hn0 : n = 0 := by simpa using h
        subst hn0
        have h1 := List.length_pos_of_mem (hx1.out (List.mem_singleton_self x))
        exact ⟨rfl, h1, (V.lv 0).length, by rw [hfp.out, if_pos rfl], by simp⟩, fun h => by
        have hn0 : n ≠ 0 := by simpa using h
        rw [hfp.out, if_neg hn0]⟩
      clear hbn
      go_wp2_with fail
      have hmeet : Hid (∀ (l : Int) (m : Nat), l = m → m < 4 → ∀ (r : ByteArray × ByteArray) (w1 : World), Kp w w1 → Calls Tryz.prog 19 #[.pointer (some ⟨p, 0, none⟩), .int .i64 l, .string r.1, .string r.2] w1 fun e w' => ∃ A n c, e = .returned (.slice A n c) ∧ n = (meetL (V.lv m) r).length ∧ Own w' [sl 43 metaE (.slice A n c) (meetL (V.lv m) r), base w1 w1.heap.size] ∧ Ext w1 w') := hid (fun l m e hm r w1 k => by
        subst e
        refine (meet_c p S V m r.1 r.2 w1 (hH.out.kp k)).mono ?_
        rintro e w' ⟨v', he, o', x'⟩
        obtain ⟨A', n', c', rfl⟩ := sl_shape o'
        have hq : meetM V.lv (m : Int) r.1 r.2 = meetL (V.lv m) r := by unfold meetM meetL; rw [levelM_at _ hm]
        rw [hq] at o'
        exact ⟨A', n', c', he, rd_n (s := ⟨A', n', c'⟩) (sl_rd o'), o', x'⟩)
      go_loopw [9, 10, 11, 12] (fun s9 _ _ s12 wr => ∃ (gr : Bool) (F : List MetaM) (sF : SlA) (D : List Chunk), s9 = .bool gr ∧ lenV s12 ≤ F.length ∧ PkO wr w pb rb n sF nilA true F [] 47 D ∧ Grow V n q gr F (V.lv 0).length) (fun s9 _ _ s12 _ => leftV (V.lv 0).length s9 s12)
      case atStart => exact ⟨_, [x], _, _, rfl, Nat.zero_le _, v1.out, hg0.out⟩
      case round =>
        clear v1 hg0
        obtain ⟨gr, F, sF, D, rfl, hle, hv, hG⟩ := hrel
        have hvH := hid hv
        have hGH := hid hG
        have c1 : wr.cell? ⟨pb, 1, none⟩ = some (.slice sF.A sF.n sF.c) := hv.own.cell (i := 1) rfl
        have fp : wr.frozen? ⟨pb, 1, none⟩ = false := hv.own.free 1
        have lpb : pb < wr.heap.size := hv.own.lt
        have hsp := hid (span_c (.slice sF.A sF.n sF.c) F wr hv.from hG.pos)
        have hnF := hid (rd_n hv.from)
        have hleH := hid hle
        clear hv hG hle
        cases gr with
        | true =>
          go_wp2_with fail
          refine hsp.out.mono ?_
          rintro e w1 ⟨rfl, k1⟩
          have k1H := hid k1
          have c1' := k1.cell c1
          have fp1 := k1.free lpb fp
          have lp1 : pb < w1.heap.size := Nat.lt_of_lt_of_le lpb (by have := k1.ext.size; omega)
          clear k1 c1 fp lpb
          go_wp2_with fail
          refine (hmeet.out 0 0 rfl (by omega) (spanP F) w1 (hvH.out.base.trans k1H.out)).mono ?_
          rintro e w2 ⟨A2, n2, c2, rfl, hn2, o2, e2⟩
          have k2H := hid (kp_of1 o2 e2)
          have c12 := k2H.out.cell c1'
          have fp2 := k2H.out.free lp1 fp1
          have vt := hid ((hvH.out.kp k1H.out).turnF (s := ⟨A2, n2, c2⟩) k2H.out o2)
          have hn2H := hid hn2
          clear o2 e2 c1' fp1 hn2
          go_wp2_with fail
          go_roundw
          case rel =>
            refine ⟨_, _, _, _, rfl, by rw [← hn2H.out]; exact Nat.le_refl _, vt.out, ?_⟩
            rw [hn2H.out, hnF.out]
            exact hGH.out.step hVH.out rfl
          case measure =>
            obtain ⟨_, h1, _⟩ := hGH.out.yes rfl
            have h2 := hleH.out
            have h3 : n2 ≤ (V.lv 0).length := by rw [hn2H.out]; exact List.length_filter_le _ _
            have h4 := hnF.out
            rcases bool_cases (decide (sF.n < n2)) with hd | hd
            · rw [hd]
              have := of_decide_eq_true hd
              show (V.lv 0).length + 2 - n2 < (V.lv 0).length + 2 - lenV u12
              omega
            · rw [hd]
              show 0 < (V.lv 0).length + 2 - lenV u12
              omega
        | false =>
          obtain rfl : F = fromP V.lv n q := hGH.out.no rfl
          have hfew := hid hGH.out.few
          have hpos := hid hGH.out.pos
          clear hGH hleH
          go_wp2_with fail
          refine hsp.out.mono ?_
          rintro e w1 ⟨rfl, k1⟩
          have k1H := hid k1
          have fp1 := k1.free lpb (hvH.out.own.free 2)
          have lp1 : pb < w1.heap.size := Nat.lt_of_lt_of_le lpb (by have := k1.ext.size; omega)
          have c12 := k1.cell (hvH.out.own.cell (i := 2) (v := .slice none 0 0) rfl)
          clear k1 c1 fp lpb hsp
          go_wp2_with fail
          refine (hmeet.out ((n : Int) + 1) (n + 1) (by omega) (by omega) (spanP (fromP V.lv n q)) w1 (hvH.out.base.trans k1H.out)).mono ?_
          rintro e w2 ⟨A2, n2, c2, rfl, hn2, o2, e2⟩
          have k2H := hid (kp_of1 o2 e2)
          have fp2 := k2H.out.free lp1 fp1
          have c22 := k2H.out.cell c12
          have vt := hid ((hvH.out.kp k1H.out).turnI (s := ⟨A2, n2, c2⟩) k2H.out o2)
          have hfi : Hid ((meetL (V.lv (n + 1)) (spanP (fromP V.lv n q))).length ≤ 20000) := hid (Nat.le_trans (List.length_filter_le _ _) (hH.out.few (n + 1) (by omega)))
          clear o2 e2 fp1 hn2 c12
          go_wp2_with fail
          obtain ⟨w3, hw3⟩ : ∃ w3, w3 = w2.setCell ⟨pb, 2, none⟩ (.slice A2 n2 c2) := ⟨_, rfl⟩
          rw [← hw3] at vt ⊢
          have c31 : w3.cell? ⟨pb, 1, none⟩ = some (.slice sF.A sF.n sF.c) := vt.out.own.cell (i := 1) rfl
          have c32 : w3.cell? ⟨pb, 2, none⟩ = some (.slice A2 n2 c2) := vt.out.own.cell (i := 2) rfl
          clear hw3 c22 fp2 lp1
          obtain ⟨i0, hi0, hz0, hz1, hz2⟩ := info_parts infoMeta
          have hclo : Hid (Calls Tryz.prog 37 #[.slice sF.A sF.n sF.c] w3.drew fun e w' => ∃ A m c, e = .returned (.slice A m c) ∧ Own w' [sl 43 metaE (.slice A m c) (fromP V.lv n q), base w3 w3.heap.size] ∧ Ext w3 w' ∧ w'.cell? ⟨pb, 2, none⟩ = some (.slice A2 n2 c2) ∧ Rd w' metaE (.slice A2 n2 c2) (meetL (V.lv (n + 1)) (spanP (fromP V.lv n q)))) := hid (by
            have h1 := hfew.out
            have h2 := hlen.out
            have h3 := hNH.out
            refine (mclone_c (.slice sF.A sF.n sF.c) (fromP V.lv n q) w3.drew (((Kp.refl w3).drew).rd vt.out.from) (by omega)).mono ?_
            rintro e w' ⟨v', he, o', x'⟩
            obtain ⟨A', n', c', rfl⟩ := sl_shape o'
            have kk : Kp w3 w' := ((Kp.refl w3).drew).trans (kp_of1 o' x')
            exact ⟨A', n', c', he, o', kk.ext, kk.cell c32, kk.rd vt.out.into⟩)
          have hsp2 : Hid (∀ A n1 c w6 (xs : List MetaM), Own w6 [sl 43 metaE (.slice A n1 c) (fromP V.lv n q ++ xs), base w3 w3.heap.size] → Calls Tryz.prog 36 #[.slice A n1 c] w6 fun e w' => e = .returned (.tuple #[.string (spanP (fromP V.lv n q ++ xs)).1, .string (spanP (fromP V.lv n q ++ xs)).2]) ∧ Kp w6 w') := hid (fun A n1 c w6 xs o6 => span_c (.slice A n1 c) _ w6 (sl_rd o6) (by rw [List.length_append]; have := hpos.out; omega))
          have hs1 : (fromP V.lv n q).length + (meetL (V.lv (n + 1)) (spanP (fromP V.lv n q))).length ≤ 100000 := by
            have h1 := hfew.out
            have h2 := hlen.out
            have h3 := hNH.out
            have h4 := hfi.out
            omega
          go_wp2_with fail
          go_region_law (first
            | (refine step_append_rd rfl _ _ _ rfl i0 _ 5 56 Tryz.underlying30 hi0 hz0 hz1 hz2 rfl rfl rfl o4 rfl rd4 (by unfold maxLen; omega) (by omega) ?_; intro A5 n5 c5 w5 o5 x5)
            | (go_simp; go_at_call 37; refine hclo.out.mono ?_; rintro e w4 ⟨A4, n4, c4, rfl, o4, x4, ce4, rd4⟩)
            | (go_simp; go_at_call 36; refine (hsp2.out A5 n5 c5 w5 _ o5).mono ?_; rintro e w6 ⟨rfl, k6⟩))
          all_goals
            have k56 : Kp w3 w6 := (kp_of1 o5 (x4.trans x5)).trans k6
            have v6 : Hid (PkO w6 w pb rb n sF ⟨A2, n2, c2⟩ true (fromP V.lv n q) (meetL (V.lv (n + 1)) (spanP (fromP V.lv n q))) 47 _) := hid (vt.out.kp k56)
            clear o4 x4 ce4 rd4 o5 x5 k6 k56 hclo hsp2 hs1 c31 c32 i0 hi0 hz0 hz1 hz2
            generalize spanP (fromP V.lv n q ++ meetL (V.lv (n + 1)) (spanP (fromP V.lv n q))) = R at *
            have hb0 := botK_start V.lv n R
            go_wp2_with fail
            go_loopw [15] (fun s15 wr => ∃ (b : Nat) (D : List Chunk), s15 = .int .i64 b ∧ n + 2 ≤ b ∧ b ≤ 4 ∧ PkO wr w pb rb n sF ⟨A2, n2, c2⟩ (botK V.lv n R b) (fromP V.lv n q) (meetL (V.lv (n + 1)) (spanP (fromP V.lv n q))) 47 D) (fun i _ => 4 - (intOf i).toNat)
            case atStart => exact ⟨n + 2, _, by go_num, by omega, by omega, by rw [hb0]; exact v6.out⟩
            case round =>
              clear hb0 v6
              obtain ⟨b, D', rfl, hb1, hb2, hvb⟩ := hrel
              have hvbH := hid hvb
              clear hvb
              by_cases hlt : b < 4
              · have hlt' : (b : Int) < 4 := by omega
                have hs := botK_succ V.lv n R hb1
                have c3 : wr.cell? ⟨pb, 3, none⟩ = some (.bool (botK V.lv n R b)) := hvbH.out.own.cell (i := 3) rfl
                have f3 : wr.frozen? ⟨pb, 3, none⟩ = false := hvbH.out.own.free 3
                have lp : pb < wr.heap.size := hvbH.out.own.lt
                have hvt := hid (hvbH.out.turnB (botK V.lv n R (b + 1)))
                rcases bool_cases (botK V.lv n R b) with hk0 | hk0
                · rw [hk0, Bool.true_and] at hs
                  rw [hk0] at c3
                  go_wp2_with fail
                  refine (hmeet.out b b rfl hlt R wr hvbH.out.base).mono ?_
                  rintro e w7 ⟨A7, n7, c7, rfl, hn7, o7, e7⟩
                  have k7 := kp_of1 o7 e7
                  have c3' := k7.cell c3
                  have f3' := k7.free lp f3
                  have hvt7 := hid ((hvbH.out.kp k7).turnB (botK V.lv n R (b + 1)))
                  have hz : (meetL (V.lv b) R).isEmpty = ((n7 : Int) == 0) := by
                    rw [hn7]
                    cases meetL (V.lv b) R with
                    | nil => rfl
                    | cons x l =>
                      rw [List.isEmpty_cons]
                      symm
                      rw [beq_eq_false_iff_ne, List.length_cons]
                      omega
                  rw [hz] at hs
                  rw [hs] at hvt7
                  clear hn7 o7 e7 k7 c3 f3 hvt hz
                  go_wp2_with fail
                  go_roundw
                  case rel => exact ⟨b + 1, _, by go_num, by omega, by omega, by rw [hs]; exact hvt7.out⟩
                  case measure => simp [intOf]; omega
                · rw [hk0, Bool.false_and] at hs
                  rw [hk0] at c3
                  rw [hs] at hvt
                  go_wp2_with fail
                  go_roundw
                  case rel => exact ⟨b + 1, _, by go_num, by omega, by omega, by rw [hs]; exact hvt.out⟩
                  case measure => simp [intOf]; omega
              · obtain rfl : b = 4 := by omega
                have hbk : botK V.lv n R 4 = bottomP V.lv n R := rfl
                rw [hbk] at hvbH
                generalize bottomP V.lv n R = bt at *
                have o := hvbH.out.own
                have q0 := o.cell (i := 0) (v := .int .i64 n) rfl
                have q1 := o.cell (i := 1) (v := .slice sF.A sF.n sF.c) rfl
                have q2 := o.cell (i := 2) (v := .slice A2 n2 c2) rfl
                have q3 := o.cell (i := 3) (v := .bool bt) rfl
                have r0 := o.swap.cell (i := 0) (v := .int .i64 0) rfl
                have r1 := o.swap.cell (i := 1) (v := .slice none 0 0) rfl
                have r2 := o.swap.cell (i := 2) (v := .slice none 0 0) rfl
                have r3 := o.swap.cell (i := 3) (v := .bool false) rfl
                have f0 := o.swap.free 0
                have f1 := o.swap.free 1
                have f2 := o.swap.free 2
                have f3 := o.swap.free 3
                clear o hbk
                go_wp2_with fail
                change bodyPost Tryz.prog _ _ Exit.ret _ (put wr rb 0 (pkCells n sF ⟨A2, n2, c2⟩ bt))
                clear q0 q1 q2 q3 r0 r1 r2 r3 f0 f1 f2 f3
                obtain ⟨wz, hwz⟩ : ∃ wz, wz = put wr rb 0 (pkCells n sF ⟨A2, n2, c2⟩ bt) := ⟨_, rfl⟩
                have z0 : wz.cell? ⟨rb, 0, none⟩ = some (.int .i64 n) := by rw [hwz]; exact hvbH.out.cells rfl
                have z1 : wz.cell? ⟨rb, 1, none⟩ = some (.slice sF.A sF.n sF.c) := by rw [hwz]; exact hvbH.out.cells rfl
                have z2 : wz.cell? ⟨rb, 2, none⟩ = some (.slice A2 n2 c2) := by rw [hwz]; exact hvbH.out.cells rfl
                have z3 : wz.cell? ⟨rb, 3, none⟩ = some (.bool bt) := by rw [hwz]; exact hvbH.out.cells rfl
                have hto := hid hvbH.out.told
                rw [← hwz] at hto ⊢
                clear hwz
                refine bodyPost_ret (by simp [results, Tryz.results13, go_sem, z0, z1, z2, z3]; rfl) rfl ?_
                exact ⟨hto.out.1, sF, ⟨A2, n2, c2⟩, by rw [hr.out], by rw [hr.out]; exact hto.out.2.1, by rw [hr.out]; exact hto.out.2.2⟩
end Go.Proofs.YtdmdnhceiddcfaaGreat
