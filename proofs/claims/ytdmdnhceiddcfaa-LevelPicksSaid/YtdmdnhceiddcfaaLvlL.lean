/- The walks of meets, Meet, span, Edit. · What is picked: in plain Lean. -/
import Derived.Test.YtdmdnhceiddcfaaLvlJ
set_option linter.all false
namespace Go.Proofs.Ytdmdnhceiddcfaa
open Go.RowKit Go.Sl Go.Scree

def meetB (a b : ByteArray) (m : MetaM) : Bool := !ltK m.last a && !ltK b m.first
theorem meets_c (m : MetaM) (a b : ByteArray) (w : World) : Calls Try.prog 45 #[metaV m, .string a, .string b] w fun e w' => e = .returned (.bool (meetB a b m)) ∧ Kp w w' := by
  obtain ⟨n, z, x, y, q⟩ := m
  unfold metaV meetB
  dsimp only
  have k1 : Hid (Kp w (w.alloc (.cells #[.int .u64 n, .int .i64 z, .string x, .string y, .int .u64 q] 56 (0, 0)))) := hid ((Kp.refl w).alloc _)
  have h1 := geq_ltK y a
  have h2 := leq_ltK x b
  rcases bool_cases (ltK y a) with e | e
  · rw [e] at h1 ⊢
    rw [Bool.not_true] at h1
    clear h2
    go_enter Try.func45, Try.ntmps45
    go_wp2_with fail
    go_ret
    exact ⟨by simp, k1.out⟩
  · rw [e] at h1 ⊢
    rw [Bool.not_false] at h1
    rcases bool_cases (ltK b x) with f | f
    · rw [f] at h2 ⊢
      rw [Bool.not_true] at h2
      go_enter Try.func45, Try.ntmps45
      go_wp2_with fail
      go_ret
      exact ⟨by simp, k1.out⟩
    · rw [f] at h2 ⊢
      rw [Bool.not_false] at h2
      go_enter Try.func45, Try.ntmps45
      go_wp2_with fail
      go_ret
      exact ⟨by simp, k1.out⟩
/-- What meets a range. -/
def meetM (lv : Lvls) (l : Int) (a b : ByteArray) : List MetaM := (levelM lv l).filter (meetB a b)
theorem levelM_few {lv : Lvls} (h : ∀ l, l < 4 → (lv l).length ≤ 20000) (l : Int) : (levelM lv l).length ≤ 20000 := by
  unfold levelM
  split
  · exact h _ (by omega)
  · simp
set_option maxRecDepth 20000 in
set_option maxHeartbeats 3200000 in
theorem meet_c (p : Nat) (S : Nat → SlA) (V : VerM) (l : Int) (a b : ByteArray) (w : World) (h : VerR w p S V) :
    Calls Try.prog 19 #[.pointer (some ⟨p, 0, none⟩), .int .i64 l, .string a, .string b] w fun e w' => ∃ v', e = .returned v' ∧ Own w' [sl 56 metaE v' (meetM V.lv l a b), base w w.heap.size] ∧ Ext w w' := by
  have hl := hid (level_c p S V l w h)
  have hf := levelM_few h.few l
  obtain ⟨i0, hi0, hz0, hz1, hz2⟩ := info_parts infoMeta
  unfold meetM
  generalize levelM V.lv l = xs at *
  clear h
  go_enter Try.func19, Try.ntmps19
  go_wp2_with fail
  refine hl.out.mono ?_
  rintro e w1 ⟨v1, rfl, o1, e1⟩
  have hrd := hid (sl_rd o1)
  obtain ⟨A1, c1, hv1, _, _⟩ := hrd.out.form
  subst hv1
  have k1 := hid (kp_of1 o1 e1)
  clear o1 e1
  have hx63 : xs.length ≤ 9223372036854775807 := by omega
  go_wp2_with fail
  go_loopw [9, 16] (fun v i wr => ∃ j : Nat, j ≤ xs.length ∧ i = .int .i64 j ∧ Own wr [sl 56 metaE v ((xs.take j).filter (meetB a b)), base w1 w1.heap.size] ∧ Ext w1 wr) (fun _ i _ => xs.length - (intOf i).toNat)
  case atStart => exact ⟨0, Nat.zero_le _, rfl, sl_nil _ _ (Own.start w1), Ext.refl _⟩
  case round =>
    obtain ⟨j, hj, rfl, oj, ej⟩ := hrel
    obtain ⟨A2, n2, c2, rfl⟩ := sl_shape oj
    have ojH := hid oj
    have ejH := hid ej
    clear oj ej
    by_cases hjl : j < xs.length
    · have hx : xs[j]? = some xs[j] := List.getElem?_eq_getElem hjl
      obtain ⟨g, off, rfl, _, d0, d1, d2, d3, d4⟩ := rd_meta ((kp_of1 ojH.out ejH.out).rd hrd.out) rfl hx
      have htk : Hid (xs.take (j + 1) = xs.take j ++ [xs[j]]) := hid (List.take_succ_eq_append_getElem hjl)
      generalize xs[j] = x at *
      clear hx
      have hjl' : (j : Int) < (xs.length : Int) := by omega
      have hmt := hid (fun w => meets_c x a b w)
      have hbx : Hid (∀ i v, (metaE.cells x)[i]? = some v → (wr.alloc (.cells #[.int .u64 x.file, .int .i64 x.size, .string x.first, .string x.last, .int .u64 x.seq] 56 (0, 0))).cell? ⟨wr.heap.size, i, none⟩ = some v) := hid (fun i v hv => ((Own.start wr).alloc (.cells (metaE.cells x).toArray 56 (0, 0))).cell (by simpa using hv))
      have oa := hid (ojH.out.allocd (x := .cells #[.int .u64 x.file, .int .i64 x.size, .string x.first, .string x.last, .int .u64 x.seq] 56 (0, 0)))
      have ea := hid (ejH.out.alloc (.cells #[.int .u64 x.file, .int .i64 x.size, .string x.first, .string x.last, .int .u64 x.seq] 56 (0, 0)))
      unfold metaV at hmt
      have hlf : (((xs.take j).filter (meetB a b)).length : Nat) ≤ 20000 := Nat.le_trans (List.length_filter_le _ _) (by rw [List.length_take]; omega)
      have hbb := bool_cases (meetB a b x)
      have hyes : Hid (meetB a b x = true → (xs.take (j + 1)).filter (meetB a b) = (xs.take j).filter (meetB a b) ++ [x]) := hid (fun h => by rw [htk.out, List.filter_append]; simp [h])
      have hno : Hid (meetB a b x = false → (xs.take (j + 1)).filter (meetB a b) = (xs.take j).filter (meetB a b)) := hid (fun h => by rw [htk.out, List.filter_append]; simp [h])
      generalize meetB a b x = bb at *
      go_wp2_with fail
      refine (hmt.out _).mono ?_
      rintro e w2 ⟨rfl, k2⟩
      have b0 := k2.cell (hbx.out 0 (.int .u64 x.file) rfl)
      have b1 := k2.cell (hbx.out 1 (.int .i64 x.size) rfl)
      have b2 := k2.cell (hbx.out 2 (.string x.first) rfl)
      have b3 := k2.cell (hbx.out 3 (.string x.last) rfl)
      have b4 := k2.cell (hbx.out 4 (.int .u64 x.seq) rfl)
      have o2 := hid (k2.own oa.out)
      have e2 := hid (ea.out.trans k2.ext)
      obtain ⟨q, hq⟩ : ∃ q, wr.heap.size = q := ⟨_, rfl⟩
      rw [hq] at b0 b1 b2 b3 b4 ⊢
      clear k2 d0 d1 d2 d3 d4 hq hbx
      rcases hbb with rfl | rfl
      · go_wp2_with (refine wpList_append_slc rfl _ _ _ rfl 56 i0 _ 5 56 Try.underlying30 hi0 hz0 hz1 hz2 rfl (by omega) _ _ _ rfl (Own.allocd o2.out) ⟨w2.heap.size, 0, none⟩ 1 1 [.int .u64 x.file, .int .i64 x.size, .string x.first, .string x.last, .int .u64 x.seq] rfl rfl (cells_new' (by simp) _ _ _) ?c2 ?c3 ?c4 ?_)
        case c2 => simp [Value.oneCell']
        case c3 => unfold maxLen; omega
        case c4 => omega
        intro v3 w3 o3 e3 _
        have o4 := sl_of (E := metaE) ((xs.take (j + 1)).filter (meetB a b)) o3 (by rw [hyes.out (by simp)]; simp) (by rw [hyes.out (by simp)]; simp [metaE, Enc.flat])
        obtain ⟨A4, n4, k4, rfl⟩ := sl_shape o4
        have o4H := hid o4
        clear o3 o4 b0 b1 b2 b3 b4
        go_wp2
        go_roundw
        case rel => exact ⟨j + 1, by omega, by go_num, o4H.out, (e2.out.alloc _).trans e3⟩
        case measure => simp [intOf]; omega
      · have o4H : Hid (Own w2 [sl 56 metaE (.slice A2 n2 c2) ((xs.take (j + 1)).filter (meetB a b)), base w1 w1.heap.size]) := hid (by rw [hno.out (by simp)]; exact o2.out)
        clear b0 b1 b2 b3 b4
        go_wp2
        go_roundw
        case rel => exact ⟨j + 1, by omega, by go_num, o4H.out, e2.out⟩
        case measure => simp [intOf]; omega
    · obtain rfl : j = xs.length := by omega
      have o4H : Hid (Own wr [sl 56 metaE (.slice A2 n2 c2) (xs.filter (meetB a b)), base w1 w1.heap.size]) := hid (by have := ojH.out; rwa [List.take_length] at this)
      go_wp2
      go_ret
      refine ⟨_, rfl, ?_, k1.out.ext.trans ejH.out⟩
      exact rebase1 o4H.out k1.out.base
def minK (x y : ByteArray) : ByteArray := if ltK y x = true then y else x
def maxK (x y : ByteArray) : ByteArray := if ltK x y = true then y else x
theorem run_minK (w : World) (ts : Array TypeId) (t : TypeId) (x y : ByteArray) : (Builtin.min_ ts t #[.string x, .string y]).run Try.prog w = .ok (.string (minK x y)) w := by
  have h := leq_ltK x y
  unfold minK
  cases hc : ltK y x <;> rw [hc] at h <;> simp [Builtin.min_, Builtin.min2, Op.stringOp, asBool] <;> simp_all
  intro p q
  rcases h with h | h
  · rw [h] at p; cases p
  · exact absurd h q
theorem run_maxK (w : World) (ts : Array TypeId) (t : TypeId) (x y : ByteArray) : (Builtin.max_ ts t #[.string x, .string y]).run Try.prog w = .ok (.string (maxK x y)) w := by
  have h := geq_ltK x y
  unfold maxK
  cases hc : ltK x y <;> rw [hc] at h <;> simp [Builtin.max_, Builtin.max2, Op.stringOp, asBool] <;> simp_all
/-- The range of tables. -/
def spanP : List MetaM → ByteArray × ByteArray
  | [] => (⟨#[]⟩, ⟨#[]⟩)
  | x :: l => (x :: l).foldl (fun r m => (minK r.1 m.first, maxK r.2 m.last)) (x.first, x.last)
def spanK (xs : List MetaM) (k : Nat) : ByteArray × ByteArray := match xs with
  | [] => (⟨#[]⟩, ⟨#[]⟩)
  | x :: _ => (xs.take k).foldl (fun r m => (minK r.1 m.first, maxK r.2 m.last)) (x.first, x.last)
theorem spanK_succ {xs : List MetaM} {k : Nat} {x : MetaM} (h : xs[k]? = some x) : spanK xs (k + 1) = (minK (spanK xs k).1 x.first, maxK (spanK xs k).2 x.last) := by
  cases xs with
  | nil => simp at h
  | cons y l =>
    obtain ⟨hk, rfl⟩ := List.getElem?_eq_some_iff.1 h
    unfold spanK
    dsimp only
    rw [List.take_succ_eq_append_getElem hk, List.foldl_append]
    rfl
theorem spanK_len (xs : List MetaM) : spanK xs xs.length = spanP xs := by
  cases xs with
  | nil => rfl
  | cons y l => unfold spanK spanP; rw [List.take_length]
set_option maxRecDepth 20000 in
set_option maxHeartbeats 3200000 in
theorem span_c (v : Value) (xs : List MetaM) (w : World) (h : Rd w metaE v xs) (h0 : 0 < xs.length) :
    Calls Try.prog 42 #[v] w fun e w' => e = .returned (.tuple #[.string (spanP xs).1, .string (spanP xs).2]) ∧ Kp w w' := by
  obtain ⟨A, c, rfl, hm, hc⟩ := h.form
  have hl : xs.length ≤ 9223372036854775807 := by simpa [maxLen] using hm
  have hH := hid h
  obtain ⟨x0, hx0⟩ : ∃ x, xs[0]? = some x := ⟨_, List.getElem?_eq_getElem h0⟩
  obtain ⟨g, off, hA, _, a0, a1, a2, a3, a4⟩ := rd_meta h rfl hx0
  have hs0 : Hid (spanK xs 0 = (x0.first, x0.last)) := hid (by
    cases xs with
    | nil => simp at hx0
    | cons y l => simp at hx0; subst hx0; rfl)
  subst hA
  have hmin := run_minK
  have hmax := run_maxK
  rw [Nat.zero_mul, Nat.add_zero] at a0 a1 a2 a3 a4
  clear h hm hc hx0
  go_enter Try.func42, Try.ntmps42
  go_wp2_with fail
  go_quiet (fail)
  go_wp2_with fail
  clear a0 a1 a2 a3 a4
  go_loopw [4, 5, 18] (fun s4 s5 i wr => ∃ k : Nat, k ≤ xs.length ∧ i = .int .i64 k ∧ s4 = .string (spanK xs k).1 ∧ s5 = .string (spanK xs k).2 ∧ Kp w wr) (fun _ _ i _ => xs.length - (intOf i).toNat)
  case atStart => exact ⟨0, Nat.zero_le _, rfl, by rw [hs0.out], by rw [hs0.out], (Kp.refl w).drewN _⟩
  case round =>
    obtain ⟨k, hk, rfl, rfl, rfl, kr⟩ := hrel
    have kH := hid kr
    clear kr
    by_cases hlt : k < xs.length
    · have hx : xs[k]? = some xs[k] := List.getElem?_eq_getElem hlt
      obtain ⟨g', off', hA', _, d0, d1, d2, d3, d4⟩ := rd_meta (kH.out.rd hH.out) rfl hx
      simp only [Option.some.injEq, Addr.mk.injEq, and_true] at hA'
      obtain ⟨rfl, rfl⟩ := hA'
      have hsu := hid (spanK_succ hx)
      have hlt' : (k : Int) < (xs.length : Int) := by omega
      generalize xs[k] = x at *
      generalize spanK xs k = r at *
      obtain ⟨r1, r2⟩ := r
      dsimp only at hsu ⊢
      clear hx
      have ka := hid (kH.out.alloc (.cells #[.int .u64 x.file, .int .i64 x.size, .string x.first, .string x.last, .int .u64 x.seq] 56 (0, 0)))
      go_wp2_with fail
      go_quiet (fail)
      go_wp2_with fail
      go_roundw
      case rel => exact ⟨k + 1, by omega, by go_num, by rw [hsu.out], by rw [hsu.out], ka.out.drewN _⟩
      case measure => simp [intOf]; omega
    · have dk : decide (k < xs.length) = false := decide_eq_false hlt
      have hse : Hid (spanK xs k = spanP xs) := hid (by rw [show k = xs.length by omega]; exact spanK_len xs)
      go_wp2_with fail
      go_ret2
      exact ⟨by rw [← hse.out]; rfl, kH.out⟩
end Go.Proofs.Ytdmdnhceiddcfaa
namespace Go.Proofs.Ytdmdnhceiddcfaa
open Go.RowKit Go.Sl Go.Scree

def meetL (xs : List MetaM) (r : ByteArray × ByteArray) : List MetaM := xs.filter (meetB r.1 r.2)
def growP (lv0 : List MetaM) : Nat → List MetaM → List MetaM
  | 0, f => f
  | n + 1, f => if f.length < (meetL lv0 (spanP f)).length then growP lv0 n (meetL lv0 (spanP f)) else meetL lv0 (spanP f)
structure PickM where
  level : Int
  «from» : List MetaM
  into : List MetaM
  bottom : Bool
def noPick : PickM := ⟨0, [], [], false⟩
/-- What is picked of a level. -/
def fromP (lv : Lvls) (l k : Nat) : List MetaM :=
  let f := match (lv l)[k % (lv l).length]? with | some x => [x] | none => []
  if l = 0 then growP (lv 0) (lv 0).length f else f
def bottomP (lv : Lvls) (l : Nat) (r : ByteArray × ByteArray) : Bool := (List.range 4).all fun b => decide (b < l + 2) || (meetL (lv b) r).isEmpty
def pickP (V : VerM) (l k : Int) : PickM × Int :=
  if l < 0 ∨ 2 < l ∨ k < 0 then (noPick, 1) else
  if (V.lv l.toNat).isEmpty = true then (noPick, 10) else
  let f := fromP V.lv l.toNat k.toNat
  let i := meetL (V.lv (l.toNat + 1)) (spanP f)
  (⟨l, f, i, bottomP V.lv l.toNat (spanP (f ++ i))⟩, 0)
theorem min_left (a b : ByteArray) : ltK a (minK a b) = false := by
  unfold minK
  split
  · rename_i h; exact ltK_asymm h
  · exact ltK_irrefl _
theorem min_right (a b : ByteArray) : ltK b (minK a b) = false := by
  unfold minK
  split
  · exact ltK_irrefl _
  · rename_i h; simpa using h
theorem max_left (a b : ByteArray) : ltK (maxK a b) a = false := by
  unfold maxK
  split
  · rename_i h; exact ltK_asymm h
  · exact ltK_irrefl _
theorem max_right (a b : ByteArray) : ltK (maxK a b) b = false := by
  unfold maxK
  split
  · exact ltK_irrefl _
  · rename_i h; simpa using h
theorem nlt_trans {a b c : ByteArray} (h : ltK b a = false) (k : ltK c b = false) : ltK c a = false := by
  rcases ltK_tri a b with h1 | h1 | h1
  · rcases ltK_tri b c with h2 | h2 | h2
    · exact ltK_asymm (ltK_trans h1 h2)
    · rw [← h2]; exact h
    · rw [h2] at k; cases k
  · rw [h1]; exact k
  · rw [h1] at h; cases h
def stepS (r : ByteArray × ByteArray) (m : MetaM) : ByteArray × ByteArray := (minK r.1 m.first, maxK r.2 m.last)
theorem span_fold : ∀ (l : List MetaM) (r : ByteArray × ByteArray), (ltK r.1 (l.foldl stepS r).1 = false ∧ ltK (l.foldl stepS r).2 r.2 = false) ∧ ∀ m ∈ l, ltK m.first (l.foldl stepS r).1 = false ∧ ltK (l.foldl stepS r).2 m.last = false
  | [], r => ⟨⟨ltK_irrefl _, ltK_irrefl _⟩, by simp⟩
  | x :: l, r => by
    obtain ⟨⟨h1, h2⟩, h3⟩ := span_fold l (stepS r x)
    rw [List.foldl_cons]
    refine ⟨⟨nlt_trans h1 (min_left _ _), nlt_trans (max_left _ _) h2⟩, fun m hm => ?_⟩
    rcases List.mem_cons.1 hm with rfl | hm
    · exact ⟨nlt_trans h1 (min_right _ _), nlt_trans (max_right _ _) h2⟩
    · exact h3 m hm
theorem span_bounds {l : List MetaM} : ∀ m ∈ l, ltK m.first (spanP l).1 = false ∧ ltK (spanP l).2 m.last = false := by
  cases l with
  | nil => simp
  | cons x l => exact (span_fold (x :: l) (x.first, x.last)).2
/-- Each table of a list meets the list's range. -/
theorem span_meets {l : List MetaM} {m : MetaM} (hm : m ∈ l) (hw : ltK m.last m.first = false) : meetB (spanP l).1 (spanP l).2 m = true := by
  obtain ⟨h1, h2⟩ := span_bounds m hm
  unfold meetB
  rw [nlt_trans h1 hw, nlt_trans hw h2]
  rfl
theorem meet_subset {xs f : List MetaM} (h : f ⊆ xs) (hw : ∀ m ∈ xs, ltK m.last m.first = false) : f ⊆ meetL xs (spanP f) := fun m hm => List.mem_filter.2 ⟨h hm, span_meets hm (hw m (h hm))⟩
theorem meet_pos {xs f : List MetaM} (h : f ⊆ xs) (hw : ∀ m ∈ xs, ltK m.last m.first = false) (h0 : 0 < f.length) : 0 < (meetL xs (spanP f)).length := by
  obtain ⟨m, hm⟩ := List.exists_mem_of_length_pos h0
  exact List.length_pos_of_mem (meet_subset h hw hm)

def nilA : SlA := ⟨none, 0, 0⟩
def nilE : EditM := ⟨[], fun _ => [], 0, 0, 0⟩
def zeroE : Array Value := editCells nilA (fun _ => nilA) nilE
theorem edit_set (g : SlA) (S : Nat → SlA) (E : EditM) (nw : Lvls) {l : Nat} (h : l < 4) (s : SlA) : (editCells g S E).setIfInBounds (1 + l) (.slice s.A s.n s.c) = editCells g (upd S l s) { E with nw := nw } := by
  rcases (by omega : l = 0 ∨ l = 1 ∨ l = 2 ∨ l = 3) with rfl | rfl | rfl | rfl <;> rfl
/-- An edit's block that is being filled, beside the one that will be told. -/
structure EdO (w W0 : World) (eb rb : Nat) (g : SlA) (S : Nat → SlA) (E : EditM) (D : List Chunk) : Prop where
  own : Own w (pts eb (.cells (editCells g S E) 34 (0, 0)) :: pts rb (.cells zeroE 34 (0, 0)) :: (D ++ [base W0 W0.heap.size]))
  rd : ∀ l, l < 4 → Gives (D ++ [base W0 W0.heap.size]) fun w => Rd w metaE (S l).v (E.nw l)
  rdG : Gives (D ++ [base W0 W0.heap.size]) fun w => Rd w u64E g.v E.gone
  ext : Ext W0 w
section
variable {w W0 w1 : World} {eb rb : Nat} {g : SlA} {S : Nat → SlA} {E : EditM} {D : List Chunk}
theorem EdO.turn (h : EdO w W0 eb rb g S E D) {l : Nat} (hl : l < 4) {s : SlA} {xs : List MetaM} (k : Kp w w1) (o : Own w1 [sl 56 metaE s.v xs, Sl.base w w.heap.size]) :
    EdO (w1.setCell ⟨eb, 1 + l, none⟩ (.slice s.A s.n s.c)) W0 eb rb g (upd S l s) { E with nw := upd E.nw l xs } (sl 56 metaE s.v xs :: D) := by
  have o2 := ((rebase1 o h.own).swap).set (i := 1 + l) (.slice s.A s.n s.c)
  refine ⟨?_, fun i hi => ?_, Gives.more h.rdG _, (h.ext.trans k.ext).set _ _⟩
  · rw [← edit_set g S E (upd E.nw l xs) hl s]
    exact o2.perm (List.Perm.cons _ (List.Perm.swap _ _ _))
  · by_cases e : i = l
    · subst e
      show Gives _ fun w => Rd w metaE (upd S i s i).v (upd E.nw i xs i)
      rw [upd_at, upd_at]
      exact fun w F o => sl_rd o
    · show Gives _ fun w => Rd w metaE (upd S l s i).v (upd E.nw l xs i)
      rw [upd_ne _ _ e, upd_ne _ _ e]
      exact Gives.more (h.rd i hi) _
theorem EdO.base (h : EdO w W0 eb rb g S E D) : Kp W0 w := kp_of (cs := pts eb _ :: pts rb _ :: D) h.own h.ext
theorem EdO.kp (h : EdO w W0 eb rb g S E D) (k : Kp w w1) : EdO w1 W0 eb rb g S E D := ⟨k.own h.own, h.rd, h.rdG, h.ext.trans k.ext⟩
theorem EdO.cells (h : EdO w W0 eb rb g S E D) {i : Nat} {v : Value} (hv : (editCells g S E)[i]? = some v) : (put w rb 0 (editCells g S E).toList).cell? ⟨rb, i, none⟩ = some v := by
  have o := own_put (editCells g S E).toList (o := 0) h.own.swap
  refine o.cell ?_
  have e : (over zeroE 0 (editCells g S E).toList).toList = (editCells g S E).toList := by
    rw [over_list _ _ _ (by simp [zeroE, editCells])]
    simp [zeroE, editCells]
  rw [← Array.getElem?_toList, e, Array.getElem?_toList]
  exact hv
/-- The edit is told: all its cells lie in the other block. -/
theorem EdO.told (h : EdO w W0 eb rb g S E D) (hf : ∀ l, l < 4 → (E.nw l).length ≤ 1000) : EditR (put w rb 0 (editCells g S E).toList) g S E ∧ Kp W0 (put w rb 0 (editCells g S E).toList) := by
  have o := (own_put (editCells g S E).toList (o := 0) h.own.swap).drop.drop
  have e := ext_put (editCells g S E).toList rb 0 h.ext
  refine ⟨⟨h.rdG _ [] (by simpa using o), fun l hl => h.rd l hl _ [] (by simpa using o), hf⟩, kp_of o e⟩
end

/-- A pick's block that is being filled. -/
structure PkO (w W0 : World) (pb rb : Nat) (l : Int) (sF sI : SlA) (b : Bool) (F I : List MetaM) (tp : TypeId) (D : List Chunk) : Prop where
  own : Own w (pts pb (.cells #[.int .i64 l, .slice sF.A sF.n sF.c, .slice sI.A sI.n sI.c, .bool b] tp (0, 0)) :: pts rb (.cells #[.int .i64 0, .slice none 0 0, .slice none 0 0, .bool false] tp (0, 0)) :: (D ++ [base W0 W0.heap.size]))
  rdF : Gives (D ++ [base W0 W0.heap.size]) fun w => Rd w metaE sF.v F
  rdI : Gives (D ++ [base W0 W0.heap.size]) fun w => Rd w metaE sI.v I
  ext : Ext W0 w
section
variable {w W0 w1 : World} {pb rb : Nat} {l : Int} {sF sI s : SlA} {b : Bool} {F I xs : List MetaM} {tp : TypeId} {D : List Chunk}
theorem PkO.base (h : PkO w W0 pb rb l sF sI b F I tp D) : Kp W0 w := kp_of (cs := pts pb _ :: pts rb _ :: D) h.own h.ext
theorem PkO.kp (h : PkO w W0 pb rb l sF sI b F I tp D) (k : Kp w w1) : PkO w1 W0 pb rb l sF sI b F I tp D := ⟨k.own h.own, h.rdF, h.rdI, h.ext.trans k.ext⟩
theorem PkO.from (h : PkO w W0 pb rb l sF sI b F I tp D) : Rd w metaE sF.v F := h.rdF w [] (by rw [List.append_nil]; exact h.own.drop.drop)
theorem PkO.into (h : PkO w W0 pb rb l sF sI b F I tp D) : Rd w metaE sI.v I := h.rdI w [] (by rw [List.append_nil]; exact h.own.drop.drop)
theorem PkO.turnF (h : PkO w W0 pb rb l sF sI b F I tp D) (k : Kp w w1) (o : Own w1 [sl 56 metaE s.v xs, Sl.base w w.heap.size]) :
    PkO (w1.setCell ⟨pb, 1, none⟩ (.slice s.A s.n s.c)) W0 pb rb l s sI b xs I tp (sl 56 metaE s.v xs :: D) := by
  have o2 := ((rebase1 o h.own).swap).set (i := 1) (.slice s.A s.n s.c)
  refine ⟨?_, fun w F o => sl_rd o, Gives.more h.rdI _, (h.ext.trans k.ext).set _ _⟩
  exact o2.perm (List.Perm.cons _ (List.Perm.swap _ _ _))
theorem PkO.turnI (h : PkO w W0 pb rb l sF sI b F I tp D) (k : Kp w w1) (o : Own w1 [sl 56 metaE s.v xs, Sl.base w w.heap.size]) :
    PkO (w1.setCell ⟨pb, 2, none⟩ (.slice s.A s.n s.c)) W0 pb rb l sF s b F xs tp (sl 56 metaE s.v xs :: D) := by
  have o2 := ((rebase1 o h.own).swap).set (i := 2) (.slice s.A s.n s.c)
  refine ⟨?_, Gives.more h.rdF _, fun w F o => sl_rd o, (h.ext.trans k.ext).set _ _⟩
  exact o2.perm (List.Perm.cons _ (List.Perm.swap _ _ _))
theorem PkO.turnB (h : PkO w W0 pb rb l sF sI b F I tp D) (b' : Bool) : PkO (w.setCell ⟨pb, 3, none⟩ (.bool b')) W0 pb rb l sF sI b' F I tp D :=
  ⟨h.own.set (i := 3) (.bool b'), h.rdF, h.rdI, h.ext.set _ _⟩
end
end Go.Proofs.Ytdmdnhceiddcfaa
