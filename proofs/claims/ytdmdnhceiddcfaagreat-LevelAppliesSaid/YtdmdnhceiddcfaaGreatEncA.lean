/- The writer of package level: a strings.Builder in a block of its own. · The writer's bytes come out as text. · The walk of Encode. -/
import Derived.Test.YtdmdnhceiddcfaaGreatLvlQ
import Derived.Test.YtdmdnhceiddcfaaGreatEncP
import Derived.Test.YtdmdnhceiddcfaaGreatNumA
import Derived.Test.YtdmdnhceiddcfaaGreatNumB
import Derived.Test.YtdmdnhceiddcfaaGreatSls
import Derived.Lib.Builder
import Derived.Lib.UnsafeStr
set_option linter.all false
namespace Go.Proofs.YtdmdnhceiddcfaaGreat
open Go.RowKit Go.Sl Go.Scree

def selfP (b : Nat) : Value := .pointer (some ⟨b, 0, none⟩)
theorem liesWriter : liesAt Tryz.prog (Tryz.prog).depth 82 (2 / (Tryz.prog).cellsOf 82) 0 80 1 = true := by kernel_rfl
theorem sizeBuilder : (Tryz.prog.info? 80).map (·.size) = some 2 := by kernel_rfl
set_option maxRecDepth 20000 in
set_option maxHeartbeats 1600000 in
theorem copyCheck_c (b : Nat) (p v : Value) (w : World) (F : List Chunk) (hp : p = .pointer none ∨ p = selfP b) (o : Own w (pts b (.cells #[p, v] 82 (0, 0)) :: F)) :
    Calls Tryz.prog 67 #[.pointer (some ⟨b, 0, none⟩)] w fun e w' => e = .returned (.tuple #[]) ∧ Own w' (pts b (.cells #[selfP b, v] 82 (0, 0)) :: F) ∧ Ext w w' := by
  obtain ⟨j, hj, hjs⟩ := Option.map_eq_some_iff.1 sizeBuilder
  rcases hp with rfl | rfl
  · have h0 : w.cell? ⟨b, 0, none⟩ = some (.pointer none) := o.cell (i := 0) rfl
    have hfz : w.frozen? ⟨b, 0, none⟩ = false := o.free 0
    have hsh : w.shape? b = some (82, 2) := by simp [World.shape?, o.get]
    have oH := hid o
    clear o
    go_enter Tryz.func67, Tryz.ntmps67
    go_wp2
    rw [Lib.run_to_unsafe w ⟨b, 0, none⟩ Tryz.underlying77 Tryz.underlying135 hj (by rw [hjs]; decide) hsh (Nat.zero_lt_succ 1)]
    simp only [Result.andThen]
    rw [Oper.upon_value]
    go_wp2
    rw [run_callFunc_extern Tryz.func89 (by kernel_rfl) (by kernel_rfl) (by kernel_rfl) (e := Extern.AbiNoEscape.same) (by kernel_rfl)]
    rw [Lib.run_noEscape]
    simp only [Result.andThen]
    rw [Oper.upon_value]
    go_wp2
    rw [Lib.run_from_unsafe w ⟨b, 0, none⟩ Tryz.underlying135 Tryz.underlying77 hj hsh liesWriter]
    simp only [Result.andThen]
    rw [Oper.upon_value]
    go_wp2
    go_end0
    exact ⟨rfl, oH.out.set (i := 0) _, (Ext.refl w).set _ _⟩
  · have h0 : w.cell? ⟨b, 0, none⟩ = some (.pointer (some ⟨b, 0, none⟩)) := o.cell (i := 0) rfl
    have oH := hid o
    clear o
    go_enter Tryz.func67, Tryz.ntmps67
    go_wp2
    rw [Lib.run_neq_ptr_same w _ Tryz.underlying77 hj]
    go_wp2
    go_end0
    exact ⟨rfl, oH.out, Ext.refl _⟩
/-- The writer holds these bytes. -/
def WrO (w : World) (b : Nat) (l : List UInt8) (F : List Chunk) : Prop := ∃ p v, (p = .pointer none ∨ p = selfP b) ∧ Own w (pts b (.cells #[p, v] 82 (0, 0)) :: sl 5 byteE v l :: F)
theorem WrO.drew {w : World} {b : Nat} {l : List UInt8} {F : List Chunk} (h : WrO w b l F) : WrO w.drew b l F := by
  obtain ⟨p, v, hp, o⟩ := h
  exact ⟨p, v, hp, o.drew⟩
set_option maxRecDepth 20000 in
set_option maxHeartbeats 1600000 in
theorem bwrite_c (b : Nat) (l : List UInt8) (s : ByteArray) (w : World) (F : List Chunk) (h : WrO w b l F) (hn : l.length + s.size ≤ 140737488355328) :
    Calls Tryz.prog 58 #[.pointer (some ⟨b, 0, none⟩), .string s] w fun e w' => e = .returned (.tuple #[.int .i64 s.size, .nilIface]) ∧ WrO w' b (l ++ s.data.toList) F ∧ Ext w w' := by
  obtain ⟨p, v, hp, o⟩ := h
  obtain ⟨A1, n1, c1, rfl⟩ := sl_shape o.drop
  have hcc := hid (copyCheck_c b p _ w _ hp o)
  obtain ⟨i0, hi0, hz0, hz1, hz2⟩ := info_parts infoU8
  clear o hp
  go_enter Tryz.func58, Tryz.ntmps58
  go_wp2_with fail
  refine hcc.out.mono ?_
  rintro e w1 ⟨rfl, o1, e1⟩
  have q1 : w1.cell? ⟨b, 1, none⟩ = some (.slice A1 n1 c1) := o1.cell (i := 1) rfl
  have o1H := hid o1
  have e1H := hid e1
  clear o1 e1
  go_wp2_with (refine wpList_append_str rfl _ _ _ _ rfl 5 i0 Tryz.underlying78 Tryz.underlying9 hi0 hz0 hz1 hz2 _ l rfl (Own.swap o1H.out) s rfl hn ?_; intro v2 w2 o2 e2; obtain ⟨A2, n2, c2, rfl⟩ := sl_shape o2; have k1 := Own.cell (i := 1) (v := .slice A1 n1 c1) (Own.swap o2) rfl; have fr := Own.free (Own.swap o2) 1; have o2H := hid o2; clear o2)
  refine bodyPost_ret (by simp [results, Tryz.results58, go_sem]; rfl) rfl ?_
  exact ⟨rfl, ⟨selfP b, .slice A2 n2 c2, .inr rfl, o2H.out.swap.set (i := 1) _⟩, (e1H.out.trans e2).set _ _⟩
set_option maxRecDepth 20000 in
set_option maxHeartbeats 1600000 in
theorem wnumber_c (b : Nat) (l : List UInt8) (n : Nat) (hn : n < 18446744073709551616) (w : World) (F : List Chunk) (h : WrO w b l F) (hl : l.length ≤ 1000000) :
    Calls Tryz.prog 38 #[.pointer (some ⟨b, 0, none⟩), .int .u64 n] w fun e w' => e = .returned (.tuple #[]) ∧ WrO w' b (l ++ numW n) F ∧ Ext w w' := by
  have hs : Hid (Calls Tryz.prog 59 #[.int .u64 n] w.drew fun e w' => e = .returned (.string ⟨(shortB n).toArray⟩) ∧ WrO w' b l F ∧ Ext w w') := hid (by
    obtain ⟨p, v, hp, o⟩ := h
    refine (short_c n hn w.drew _ o.drew).mono ?_
    rintro e w' ⟨he, o', e'⟩
    exact ⟨he, ⟨p, v, hp, o'⟩, ((Ext.refl w).drew).trans e'⟩)
  have hb : Hid (∀ w1, WrO w1 b l F → Ext w w1 → Calls Tryz.prog 58 #[.pointer (some ⟨b, 0, none⟩), .string ⟨(shortB n).toArray⟩] w1 fun e w' => (∃ v, e = .returned v) ∧ WrO w' b (l ++ numW n) F ∧ Ext w w') := hid (fun w1 h1 e1 => by
    have hs10 := shortB_le hn
    refine (bwrite_c b l ⟨(shortB n).toArray⟩ w1 F h1 (by
      have : (⟨(shortB n).toArray⟩ : ByteArray).size = (shortB n).length := by simp [ByteArray.size]
      omega)).mono ?_
    rintro e w' ⟨he, o', e'⟩
    exact ⟨⟨_, he⟩, by simpa [numW] using o', e1.trans e'⟩)
  clear h
  go_enter Tryz.func38, Tryz.ntmps38
  go_wp2_with fail
  go_region_law (first
    | (go_simp; go_at_call 59; refine hs.out.mono ?_; rintro e w1 ⟨rfl, h1, e1⟩)
    | (go_simp; go_at_call 58; refine (hb.out w1 h1 e1).mono ?_; rintro e w2 ⟨⟨v2, rfl⟩, h2, e2⟩))
  all_goals
    go_wp2_with fail
    go_end0
    exact ⟨rfl, h2, e2⟩
set_option maxRecDepth 20000 in
set_option maxHeartbeats 1600000 in
theorem wtext_c (b : Nat) (l : List UInt8) (s : ByteArray) (hs : s.size ≤ 1000000) (w : World) (F : List Chunk) (h : WrO w b l F) (hl : l.length ≤ 1000000) :
    Calls Tryz.prog 39 #[.pointer (some ⟨b, 0, none⟩), .string s] w fun e w' => e = .returned (.tuple #[]) ∧ WrO w' b (l ++ textW s) F ∧ Ext w w' := by
  have hn := hid (wnumber_c b l s.size (by omega) w F h hl)
  have hb : Hid (∀ w1, WrO w1 b (l ++ numW s.size) F → Ext w w1 → Calls Tryz.prog 58 #[.pointer (some ⟨b, 0, none⟩), .string s] w1 fun e w' => (∃ v, e = .returned v) ∧ WrO w' b (l ++ textW s) F ∧ Ext w w') := hid (fun w1 h1 e1 => by
    have hs10 := shortB_le (n := s.size) (by omega)
    refine (bwrite_c b _ s w1 F h1 (by rw [List.length_append]; unfold numW; omega)).mono ?_
    rintro e w' ⟨he, o', e'⟩
    exact ⟨⟨_, he⟩, by simpa [numW, textW] using o', e1.trans e'⟩)
  clear h
  go_enter Tryz.func39, Tryz.ntmps39
  go_wp2_with fail
  refine hn.out.mono ?_
  rintro e w1 ⟨rfl, h1, e1⟩
  have hb1 := hid (hb.out w1 h1 e1)
  clear hb hn h1 e1
  go_wp2_with fail
  refine hb1.out.mono ?_
  rintro e w2 ⟨⟨v2, rfl⟩, h2, e2⟩
  go_wp2_with fail
  go_end0
  exact ⟨rfl, h2, e2⟩
end Go.Proofs.YtdmdnhceiddcfaaGreat
namespace Go.Proofs.YtdmdnhceiddcfaaGreat
open Go.RowKit Go.Sl Go.Scree

theorem freeze_own {w : World} {g n : Nat} {x : Obj} {F : List Chunk} (o : Own w (pts g x :: F)) : Own (w.freeze ⟨g, 0, none⟩ n) F ∧ Ext w (w.freeze ⟨g, 0, none⟩ n) := by
  unfold World.freeze
  split
  · exact ⟨o.drop, Ext.refl _⟩
  · refine ⟨(o.turn (y := _) (by simp only [Array.getElem?_modify, if_true, o.get]; rfl) fun k _ hk => ?_).drop, ⟨rfl, rfl, rfl, by simp⟩⟩
    simp only [Array.getElem?_modify]
    rw [if_neg (by omega)]
theorem cellsU8 : (Tryz.prog).cellsOf 5 = 1 := by kernel_rfl
set_option maxRecDepth 20000 in
set_option maxHeartbeats 1600000 in
theorem bstring_c (b : Nat) (l : List UInt8) (w : World) (F : List Chunk) (h : WrO w b l F) (h0 : l ≠ []) :
    Calls Tryz.prog 40 #[.pointer (some ⟨b, 0, none⟩)] w fun e w' => e = .returned (.string ⟨l.toArray⟩) ∧ Own w' F ∧ Ext w w' := by
  obtain ⟨p, v, _, o⟩ := h
  obtain ⟨hfl, hc⟩ := slc_open o.swap
  have hl0 : l.length ≠ 0 := by simpa using h0
  rcases hc with ⟨_, hz, _⟩ | ⟨g, cap, cur, rfl, hnc, hcm, hcs, htake, og⟩
  · exact absurd hz hl0
  have hgt := og.get
  have hcs1 : cur.size = cap := by rw [hcs]; exact Nat.mul_one _
  have hnl : l.length * byteE.size = l.length := Nat.mul_one _
  rw [hnl] at htake
  have c1 : w.drew.cell? ⟨b, 1, none⟩ = some (.slice (some ⟨g, 0, none⟩) l.length cap) := og.swap.cell (i := 1) rfl
  have hSD : (Builtin.unsafeSliceData_ #[78] 108 #[.slice (some ⟨g, 0, none⟩) l.length cap]).run Tryz.prog w.drew = .ok (.pointer (some ⟨g, 0, none⟩)) w.drew :=
    Lib.run_unsafeSliceData_row _ _ _ _ _ _ (by omega)
  have hUS : (Builtin.unsafeString_ #[108, 3] 9 #[.pointer (some ⟨g, 0, none⟩), .int .i64 l.length]).run Tryz.prog w.drew = .ok (.string ⟨l.toArray⟩) (w.drew.freeze ⟨g, 0, none⟩ l.length) := by
    refine Lib.run_unsafeString_row w.drew 108 3 9 5 Tryz.underlying108 cellsU8 g cur.size (by have hg' : w.drew.heap[g]? = some (.cells cur 5 (0, 0)) := hgt; simp [World.shape?, hg']) l h0 (by omega) (by unfold maxLen at hcm; omega) ?_
    intro j x hx
    rw [add_at]
    refine og.cell ?_
    have hj : j < l.length := (List.getElem?_eq_some_iff.1 hx).1
    rw [← Array.getElem?_toList]
    have ht : (cur.toList.take l.length)[j]? = (byteE.flat l)[j]? := by rw [htake]
    rw [List.getElem?_take, if_pos (by omega)] at ht
    rw [ht, byteE_flat, List.getElem?_map, hx]
    rfl
  have hfr := hid (freeze_own (n := l.length) og.drew)
  clear og o hfl htake hgt
  have mixed : (Tryz.prog).follows Departure.mixedOrders = true := by kernel_rfl
  go_enter Tryz.func40, Tryz.ntmps40
  go_wp2
  go_region_o
  all_goals (go_wp2; go_ret; exact ⟨rfl, hfr.out.1.drop, ((Ext.refl w).drew).trans hfr.out.2⟩)
end Go.Proofs.YtdmdnhceiddcfaaGreat
namespace Go.Proofs.YtdmdnhceiddcfaaGreat
open Go.RowKit Go.Sl Go.Scree

def EncSays (w w' : World) (e : Ending) (E : EditM) : Prop := Kp w w' ∧ e = .returned (.tuple #[.string (if encOk E = true then ⟨(encW E).toArray⟩ else ⟨#[]⟩), .int .i64 (if encOk E = true then 0 else 2)])
theorem le_cases (n k : Nat) : (k < n ∧ decide ((n : Int) > (k : Int)) = true ∧ decide ((k : Int) < (n : Int)) = true ∧ decide (k < n) = true) ∨ (n ≤ k ∧ decide ((n : Int) > (k : Int)) = false ∧ decide ((k : Int) < (n : Int)) = false ∧ decide (k < n) = false) := by
  by_cases h : k < n
  · exact .inl ⟨h, decide_eq_true (by omega), decide_eq_true (by omega), decide_eq_true h⟩
  · exact .inr ⟨by omega, decide_eq_false (by omega), decide_eq_false (by omega), decide_eq_false h⟩
def numsV (E : EditM) : Value := .agg #[.int .u64 E.next, .int .u64 E.log, .int .u64 E.seq, .int .u64 E.gone.length]
theorem nums0 (E : EditM) (w : World) : (Instr.index 83 (numsV E) (.int .i64 0)).run Tryz.prog w = .ok (.int .u64 E.next) w := by unfold numsV; kernel_rfl
theorem nums1 (E : EditM) (w : World) : (Instr.index 83 (numsV E) (.int .i64 1)).run Tryz.prog w = .ok (.int .u64 E.log) w := by unfold numsV; kernel_rfl
theorem nums2 (E : EditM) (w : World) : (Instr.index 83 (numsV E) (.int .i64 2)).run Tryz.prog w = .ok (.int .u64 E.seq) w := by unfold numsV; kernel_rfl
theorem nums3 (E : EditM) (w : World) : (Instr.index 83 (numsV E) (.int .i64 3)).run Tryz.prog w = .ok (.int .u64 E.gone.length) w := by unfold numsV; kernel_rfl
theorem nums_at (E : EditM) (k : Nat) (x : Nat) (h : (headL E)[k]? = some x) (w : World) : (Instr.index 83 (numsV E) (.int .i64 k)).run Tryz.prog w = .ok (.int .u64 x) w := by
  have hk : k < 4 := (List.getElem?_eq_some_iff.1 h).1
  unfold headL at h
  rcases (by omega : k = 0 ∨ k = 1 ∨ k = 2 ∨ k = 3) with rfl | rfl | rfl | rfl
  · exact (Option.some.inj h) ▸ nums0 E w
  · exact (Option.some.inj h) ▸ nums1 E w
  · exact (Option.some.inj h) ▸ nums2 E w
  · exact (Option.some.inj h) ▸ nums3 E w
theorem rd_len {α : Type} {En : Enc α} {w : World} {s : SlA} {xs : List α} (h : Rd w En s.v xs) : s.n = xs.length := by
  obtain ⟨_, _, hv, _⟩ := h.form
  unfold SlA.v at hv
  simp only [Value.slice.injEq] at hv
  exact hv.2.1
section
variable {w w0 : World} {b : Nat} {l : List UInt8} {F : List Chunk}
theorem WrO.alloc (h : WrO w b l F) (x : Obj) : WrO (w.alloc x) b l (pts w.heap.size x :: F) := by
  obtain ⟨p, v, hp, o⟩ := h
  exact ⟨p, v, hp, (o.alloc x).perm ((List.Perm.swap _ _ _).trans (List.Perm.cons _ (List.Perm.swap _ _ _)))⟩
theorem WrO.drop {c : Chunk} (h : WrO w b l (c :: F)) : WrO w b l F := by
  obtain ⟨p, v, hp, o⟩ := h
  exact ⟨p, v, hp, (o.perm ((List.Perm.cons _ (List.Perm.swap _ _ _)).trans (List.Perm.swap _ _ _))).drop⟩
theorem WrO.cell {m : Nat} {c : Array Value} {t : TypeId} (h : WrO w b l (pts m (.cells c t (0, 0)) :: F)) {i : Nat} {v : Value} (hv : c[i]? = some v) : w.cell? ⟨m, i, none⟩ = some v := by
  obtain ⟨p, _, hp, o⟩ := h
  exact o.drop.drop.cell hv
theorem WrO.kp {c : Chunk} (h : WrO w b l [c, Sl.base w0 w0.heap.size]) (e : Ext w0 w) : Kp w0 w := by
  obtain ⟨p, v, hp, o⟩ := h
  exact kp_of (cs := [pts b _, sl _ _ v l, c]) o e
end
theorem enc_num {w w0 : World} {b : Nat} {L : List UInt8} {F : List Chunk} (x : Nat) (h : WrO w b L F) (e : Ext w0 w) (hx : x < 18446744073709551616) (hL : L.length ≤ 1000000) :
    Calls Tryz.prog 38 #[.pointer (some ⟨b, 0, none⟩), .int .u64 x] w fun e w' => e = .returned (.tuple #[]) ∧ WrO w' b (L ++ numW x) F ∧ Ext w0 w' ∧ (L ++ numW x).length ≤ L.length + 10 := by
  refine (wnumber_c b L x hx w F h hL).mono ?_
  rintro e1 w' ⟨h1, h2, h3⟩
  exact ⟨h1, h2, e.trans h3, by rw [List.length_append]; have := shortB_le hx; unfold numW; omega⟩
theorem enc_text {w w0 : World} {b : Nat} {L : List UInt8} {F : List Chunk} (s : ByteArray) (h : WrO w b L F) (e : Ext w0 w) (hs : s.size ≤ 100) (hL : L.length ≤ 900000) :
    Calls Tryz.prog 39 #[.pointer (some ⟨b, 0, none⟩), .string s] w fun e w' => e = .returned (.tuple #[]) ∧ WrO w' b (L ++ textW s) F ∧ Ext w0 w' ∧ (L ++ textW s).length ≤ L.length + 110 := by
  refine (wtext_c b L s (by omega) w F h (by omega)).mono ?_
  rintro e1 w' ⟨h1, h2, h3⟩
  refine ⟨h1, h2, e.trans h3, ?_⟩
  have := shortB_le (n := s.size) (by omega)
  have h4 : s.data.toList.length = s.size := by rw [Array.length_toList]; rfl
  unfold textW
  rw [List.length_append, List.length_append, h4]
  omega
theorem take_one {α : Type} {xs : List α} {k : Nat} {x : α} (h : xs[k]? = some x) : xs.take (k + 1) = xs.take k ++ [x] := by
  rw [List.take_add_one, h]; rfl
theorem map_one {α : Type} (f : α → List UInt8) {xs : List α} {k : Nat} {x : α} (h : xs[k]? = some x) : ((xs.take (k + 1)).map f).flatten = ((xs.take k).map f).flatten ++ f x := by
  rw [take_one h, List.map_append, List.flatten_append]; simp
set_option maxRecDepth 20000 in
set_option maxHeartbeats 6400000 in
theorem encode_c (g : SlA) (S : Nat → SlA) (E : EditM) (w : World) (h : EditR w g S E) :
    Calls Tryz.prog 14 #[editV g S E] w fun e w' => EncSays w w' e E := by
  have hH := hid h
  have hgn := hid (rd_len h.gone)
  have k0 := hid ((Kp.refl w).alloc (.cells #[.slice g.A g.n g.c, .slice (S 0).A (S 0).n (S 0).c, .slice (S 1).A (S 1).n (S 1).c, .slice (S 2).A (S 2).n (S 2).c, .slice (S 3).A (S 3).n (S 3).c, .int .u64 E.next, .int .u64 E.log, .int .u64 E.seq] 34 (0, 0)))
  have o0 := hid ((Own.start w).alloc (.cells #[.slice g.A g.n g.c, .slice (S 0).A (S 0).n (S 0).c, .slice (S 1).A (S 1).n (S 1).c, .slice (S 2).A (S 2).n (S 2).c, .slice (S 3).A (S 3).n (S 3).c, .int .u64 E.next, .int .u64 E.log, .int .u64 E.seq] 34 (0, 0)))
  have hall := hid (all_c g S E _ (h.kp k0.out))
  unfold editV at hall ⊢
  have hgl : g.n = E.gone.length := hgn.out
  obtain ⟨gA, gn, gc⟩ := g
  dsimp only at hgl
  subst hgl
  clear h hgn
  have hx := bool_cases (allB E.nw)
  generalize hab : allB E.nw = ab at *
  have habH := hid hab
  clear hab
  have d2 := le_cases E.next 1099511627776
  have d3 := le_cases E.log 1099511627776
  have d4 := le_cases E.seq 1099511627776
  have d5 := le_cases E.gone.length 120
  try simp only [Int.natCast_ofNat] at d2 d3 d4 d5
  have bad : Hid (encOk E = false → EncSays w w (.returned (.tuple #[.string ⟨#[]⟩, .int .i64 2])) E) := hid (fun h => ⟨Kp.refl w, by rw [h]; rfl⟩)
  by_cases hok : ab = true ∧ E.next ≤ 1099511627776 ∧ E.log ≤ 1099511627776 ∧ E.seq ≤ 1099511627776 ∧ E.gone.length ≤ 120
  · obtain ⟨rfl, b2, b3, b4, b5⟩ := hok
    have g2 : decide ((1099511627776 : Int) < E.next) = false := decide_eq_false (by omega)
    have g3 : decide ((1099511627776 : Int) < E.log) = false := decide_eq_false (by omega)
    have g4 : decide ((1099511627776 : Int) < E.seq) = false := decide_eq_false (by omega)
    have g5 : decide ((120 : Int) < E.gone.length) = false := decide_eq_false (by omega)
    have hhd : Hid (∀ x ∈ headL E, x < 18446744073709551616) := hid (by
      intro x hx
      simp only [headL, List.mem_cons, List.not_mem_nil, or_false] at hx
      omega)
    have b5H := hid b5
    have b234 := hid (And.intro b2 (And.intro b3 b4))
    have hwr : IntKind.u64.wrap (E.gone.length : Int) = E.gone.length := Go.IntWalk.u64_in _ (by omega)
    clear d2 d3 d4 d5 hx b2 b3 b4 b5
    go_enter Tryz.func14, Tryz.ntmps14
    go_wp2_with fail
    refine hall.out.mono ?_
    rintro e w1 ⟨rfl, k1⟩
    have o1 := k1.own o0.out
    have c0 := o1.cell (i := 0) rfl
    have c5 := o1.cell (i := 5) rfl
    have c6 := o1.cell (i := 6) rfl
    have c7 := o1.cell (i := 7) rfl
    have k1H := hid (k0.out.trans k1)
    have v0 : Hid (WrO _ w1.heap.size [] _) := hid (⟨.pointer none, .slice none 0 0, .inl rfl, (sl_nil 5 byteE (o1.alloc (.cells #[.pointer none, .slice none 0 0] 82 (0, 0)))).swap⟩)
    have e0 := hid (k1H.out.ext.alloc (.cells #[.pointer none, .slice none 0 0] 82 (0, 0)))
    have hwx : w.heap.size < w1.heap.size := by have := k1.ext.size; simp at this; omega
    have hwx1 : w.heap.size ≠ w1.heap.size := by omega
    clear o1 k1 o0 hall k0
    go_wp2_with fail
    obtain ⟨wb, hwb⟩ : ∃ wb, w1.heap.size = wb := ⟨_, rfl⟩
    obtain ⟨xb, hxb⟩ : ∃ xb, w.heap.size = xb := ⟨_, rfl⟩
    clear c0 c5 c6 c7 hwx hwx1 g2 g3 g4 g5
    rw [hwb] at v0 ⊢
    have hbox : Hid (∀ (wr : World) (L : List UInt8), WrO wr wb L [pts xb (.cells #[.slice gA E.gone.length gc, .slice (S 0).A (S 0).n (S 0).c, .slice (S 1).A (S 1).n (S 1).c, .slice (S 2).A (S 2).n (S 2).c, .slice (S 3).A (S 3).n (S 3).c, .int .u64 E.next, .int .u64 E.log, .int .u64 E.seq] 34 (0, 0)), Sl.base w w.heap.size] → Ext w wr → Kp w wr ∧ wr.cell? ⟨xb, 0, none⟩ = some (.slice gA E.gone.length gc) ∧ wr.cell? ⟨xb, 1, none⟩ = some (.slice (S 0).A (S 0).n (S 0).c) ∧ wr.cell? ⟨xb, 2, none⟩ = some (.slice (S 1).A (S 1).n (S 1).c) ∧ wr.cell? ⟨xb, 3, none⟩ = some (.slice (S 2).A (S 2).n (S 2).c) ∧ wr.cell? ⟨xb, 4, none⟩ = some (.slice (S 3).A (S 3).n (S 3).c)) := hid (fun wr L h e => ⟨h.kp e, h.cell (i := 0) rfl, h.cell (i := 1) rfl, h.cell (i := 2) rfl, h.cell (i := 3) rfl, h.cell (i := 4) rfl⟩)
    rw [hxb] at v0 ⊢
    clear hwb
    obtain ⟨F, hF⟩ : ∃ F, F = [pts xb (.cells #[.slice gA E.gone.length gc, .slice (S 0).A (S 0).n (S 0).c, .slice (S 1).A (S 1).n (S 1).c, .slice (S 2).A (S 2).n (S 2).c, .slice (S 3).A (S 3).n (S 3).c, .int .u64 E.next, .int .u64 E.log, .int .u64 E.seq] 34 (0, 0)), Sl.base w w.heap.size] := ⟨_, rfl⟩
    have v1 : Hid (WrO (w1.alloc (.cells #[.pointer none, .slice none 0 0] 82 (0, 0))) wb [] F) := hid (by rw [hF]; rw [← hxb]; rw [← hxb] at v0; exact v0.out)
    rw [← hF] at hbox
    have hKF : Hid (∀ w', Own w' F → Ext w w' → Kp w w') := hid (fun w' o e => by rw [hF] at o; exact kp_of (cs := [_]) o e)
    clear v0 hF hxb
    go_loopw [48, 6] (fun i _ wr => ∃ (k : Nat) (L : List UInt8), k ≤ 4 ∧ i = .int .i64 k ∧ WrO wr wb L F ∧ Ext w wr ∧ L = (((headL E).take k).map numW).flatten ∧ L.length ≤ 10 * k) (fun i _ _ => 4 - (intOf i).toNat)
    case atStart => exact ⟨0, _, by omega, rfl, v1.out, e0.out, rfl, by simp⟩
    case round =>
      clear v1 e0
      obtain ⟨k, L, hk, rfl, hv, he, hL, hl⟩ := hrel
      have hvH := hid hv
      have heH := hid he
      have hLH := hid hL
      have hlH := hid hl
      clear hv he hL hl
      by_cases hlt : k < 4
      · have hlt' : (k : Int) < 4 := by omega
        obtain ⟨x, hx⟩ : ∃ x, (headL E)[k]? = some x := ⟨_, List.getElem?_eq_getElem (by simpa [headL] using hlt)⟩
        have hat := nums_at E k x hx
        unfold numsV at hat
        have hxH := hid hx
        have hw := hid (enc_num (F := F) x hvH.out heH.out (hhd.out x (List.mem_of_getElem? hx)) (by have := hlH.out; omega))
        clear hx
        go_wp2_with fail
        refine hw.out.mono ?_
        rintro e w3 ⟨rfl, h3, e3, l3⟩
        have h3H := hid h3
        have e3H := hid e3
        have l3H := hid l3
        clear h3 e3 l3
        go_wp2_with fail
        go_roundw
        case rel => exact ⟨k + 1, _, by omega, by go_num, h3H.out, e3H.out, by rw [map_one numW hxH.out, ← hLH.out], by have := hlH.out; have := l3H.out; omega⟩
        case measure => simp [intOf]; omega
      · have hk4 : k = 4 := by omega
        have dk : decide (k < 4) = false := decide_eq_false hlt
        have hL4 : Hid (L = ((headL E).map numW).flatten) := hid (by rw [hLH.out, hk4]; rfl)
        obtain ⟨kr, x0, x1, x2, x3, x4⟩ := hbox.out wr L hvH.out heH.out
        have krH := hid kr
        have hl40 : Hid (L.length ≤ 40) := hid (by have := hlH.out; omega)
        clear kr hLH hlH hk4
        go_wp2_with fail
        go_loopw [2, 3, 57, 8] (fun _ _ i _ wr => ∃ (k : Nat) (M : List UInt8), k ≤ E.gone.length ∧ i = .int .i64 k ∧ WrO wr wb M F ∧ Ext w wr ∧ M = L ++ ((E.gone.take k).map numW).flatten ∧ M.length ≤ 40 + 10 * k ∧ ∀ j x, j < k → E.gone[j]? = some x → x ≤ 1099511627776) (fun _ _ i _ _ => E.gone.length - (intOf i).toNat)
        case atStart => exact ⟨0, _, by omega, rfl, hvH.out, heH.out, by simp, by have := hl40.out; omega, fun j x hj => by omega⟩
        case round =>
          clear hvH heH hl40 krH x0 x1 x2 x3 x4
          obtain ⟨k, M, hk, rfl, hv, he, hM, hl, ha⟩ := hrel
          have hvH := hid hv
          have heH := hid he
          have hMH := hid hM
          have hlH := hid hl
          have haH := hid ha
          clear hv he hM hl ha
          by_cases hlt : k < E.gone.length
          · have hlt' : (k : Int) < E.gone.length := by omega
            have hk9 : k < 1000 := by have := b5H.out; omega
            obtain ⟨x, hx⟩ : ∃ x, E.gone[k]? = some x := ⟨_, List.getElem?_eq_getElem hlt⟩
            have hrg := (hbox.out wr M hvH.out heH.out).1.rd hH.out.gone
            unfold SlA.v at hrg
            obtain ⟨go, off, hA, _, a0⟩ := rd_num hrg rfl hx
            dsimp only at hA
            subst hA
            have hxH := hid hx
            clear hrg hx
            by_cases hbig : x ≤ 1099511627776
            · have g6 : decide ((1099511627776 : Int) < x) = false := decide_eq_false (by omega)
              have hw := hid (enc_num (F := F) x hvH.out heH.out (by omega) (by have := hlH.out; have := b5H.out; omega))
              have hbH := hid hbig
              clear hbig
              go_wp2_with fail
              refine hw.out.mono ?_
              rintro e w3 ⟨rfl, h3, e3, l3⟩
              have h3H := hid h3
              have e3H := hid e3
              have l3H := hid l3
              clear h3 e3 l3
              go_wp2_with fail
              go_roundw
              case rel =>
                refine ⟨k + 1, _, by omega, by go_num, h3H.out, e3H.out, by rw [map_one numW hxH.out, hMH.out, List.append_assoc], by have := hlH.out; have := l3H.out; omega, fun j y hj hy => ?_⟩
                rcases Nat.lt_or_ge j k with h' | h'
                · exact haH.out j y h' hy
                · obtain rfl : j = k := by omega
                  rw [hxH.out] at hy
                  cases hy
                  exact hbH.out
              case measure => simp [intOf]; omega
            · have g6 : decide ((1099511627776 : Int) < x) = true := decide_eq_true (by omega)
              have hbd := hid (bad.out (by
                have hng : E.gone.all (fun n => decide (n ≤ big40)) = false := by
                  rw [List.all_eq_false]
                  exact ⟨x, List.mem_of_getElem? hxH.out, fun h => hbig (of_decide_eq_true h)⟩
                unfold encOk
                rw [hng]
                simp))
              have hkk := hid (hbox.out wr M hvH.out heH.out).1
              go_wp2_with fail
              refine bodyPost_ret (by simp [results, Tryz.results14, go_sem]; rfl) rfl ?_
              exact ⟨hkk.out, hbd.out.2⟩
          · obtain rfl : k = E.gone.length := by omega
            have hga : Hid (E.gone.all (fun n => decide (n ≤ big40)) = true) := hid (by
              rw [List.all_eq_true]
              intro x hx
              obtain ⟨j, hj, rfl⟩ := List.getElem_of_mem hx
              exact decide_eq_true (haH.out j _ hj (List.getElem?_eq_getElem hj)))
            have hM2 : Hid (M = L ++ (E.gone.map numW).flatten) := hid (by rw [hMH.out, List.take_length])
            have hl2 : Hid (M.length ≤ 1240) := hid (by have := hlH.out; have := b5H.out; omega)
            obtain ⟨kr, x0, x1, x2, x3, x4⟩ := hbox.out wr M hvH.out heH.out
            clear kr hMH hlH haH
            go_wp2_with fail
            go_loopw [68] (fun i wr => ∃ (l : Nat) (N : List UInt8), l ≤ 4 ∧ i = .int .i64 l ∧ WrO wr wb N F ∧ Ext w wr ∧ N = M ++ ((four.take l).map fun l => levelW (E.nw l)).flatten ∧ N.length ≤ 1240 + 10000 * l ∧ ∀ j, j < l → (E.nw j).length ≤ 30) (fun i _ => 4 - (intOf i).toNat)
            case atStart => exact ⟨0, _, by omega, rfl, hvH.out, heH.out, by simp, by have := hl2.out; omega, fun j hj => by omega⟩
            case round =>
              clear hvH heH hl2 x0 x1 x2 x3 x4
              obtain ⟨l, N, hl, rfl, hv, he, hN, hnl, ha⟩ := hrel
              have hvH := hid hv
              have heH := hid he
              have hNH := hid hN
              have hnlH := hid hnl
              have haH := hid ha
              clear hv he hN hnl ha
              by_cases hlt : l < 4
              · have hlt' : (l : Int) < 4 := by omega
                have hrl := (hbox.out wr N hvH.out heH.out).1.rd (hH.out.nw l hlt)
                have hn := rd_len hrl
                unfold SlA.v at hrl
                rw [hn] at hrl
                have hrlH := hid hrl
                have hat := arr_at S l hlt
                unfold arrV at hat
                rw [hn] at hat
                obtain ⟨SA, hSA⟩ : ∃ A, (S l).A = A := ⟨_, rfl⟩
                have hSH := hid hSA
                generalize (Value.agg #[.slice (S 0).A (S 0).n (S 0).c, .slice (S 1).A (S 1).n (S 1).c, .slice (S 2).A (S 2).n (S 2).c, .slice (S 3).A (S 3).n (S 3).c]) = arr at *
                rw [hSA] at hat
                clear hSA
                have hmay : Hid (∀ x ∈ E.nw l, mayB x = true) := hid (fun x hx => List.all_eq_true.1 habH.out x (mem_flat.2 ⟨l, hlt, hx⟩))
                have hxl : four[l]? = some l := by rcases (by omega : l = 0 ∨ l = 1 ∨ l = 2 ∨ l = 3) with rfl | rfl | rfl | rfl <;> rfl
                have hN1 := hid (fun (f : Nat → List UInt8) => map_one f hxl)
                have hltH := hid hlt
                clear hrl hn hxl
                by_cases h30 : (E.nw l).length ≤ 30
                · have g7 : decide ((30 : Int) < (E.nw l).length) = false := decide_eq_false (by omega)
                  have hwl : IntKind.u64.wrap ((E.nw l).length : Int) = (E.nw l).length := Go.IntWalk.u64_in _ (by omega)
                  have hw := hid (enc_num (F := F) (E.nw l).length hvH.out heH.out (by omega) (by have := hnlH.out; omega))
                  have h30H := hid h30
                  clear h30
                  go_wp2_with fail
                  refine hw.out.mono ?_
                  rintro e w3 ⟨rfl, h3, e3, l3⟩
                  have h3H := hid h3
                  have e3H := hid e3
                  have l3H := hid l3
                  clear h3 e3 l3 hw hvH heH
                  go_wp2_with fail
                  go_loopw [80] (fun i wr => ∃ (k : Nat) (P : List UInt8), k ≤ (E.nw l).length ∧ i = .int .i64 k ∧ WrO wr wb P F ∧ Ext w wr ∧ P = N ++ (numW (E.nw l).length ++ (((E.nw l).take k).map metaW).flatten) ∧ P.length ≤ 1250 + 10000 * l + 250 * k) (fun i _ => (E.nw l).length - (intOf i).toNat)
                  case atStart => exact ⟨0, _, by omega, rfl, h3H.out, e3H.out, by simp, by have := hnlH.out; have := l3H.out; omega⟩
                  case round =>
                    clear h3H e3H l3H hrlH
                    obtain ⟨k, P, hk, rfl, hv, he, hP, hpl⟩ := hrel
                    have hvH := hid hv
                    have heH := hid he
                    have hPH := hid hP
                    have hplH := hid hpl
                    clear hv he hP hpl
                    by_cases hlk : k < (E.nw l).length
                    · have hlk' : (k : Int) < (E.nw l).length := by omega
                      have hk9 : k < 1000 := by have := h30H.out; omega
                      obtain ⟨x, hx⟩ : ∃ x, (E.nw l)[k]? = some x := ⟨_, List.getElem?_eq_getElem hlk⟩
                      have hrl := (hbox.out wr P hvH.out heH.out).1.rd (hH.out.nw l hltH.out)
                      have hn := rd_len hrl
                      unfold SlA.v at hrl
                      rw [hn] at hrl
                      obtain ⟨g, off, hA, _, a0, a1, a2, a3, a4⟩ := rd_meta hrl rfl hx
                      obtain ⟨⟨m1, m2⟩, ⟨m3, m4⟩, ⟨m5, m6⟩, ⟨m7, m8⟩, m9, m10, m11⟩ := may_parts (hmay.out x (List.mem_of_getElem? hx))
                      have hws : IntKind.u64.wrap x.size = x.size := Go.IntWalk.u64_in _ (by omega)
                      have hsz : ((x.size.toNat : Nat) : Int) = x.size := Int.toNat_of_nonneg (by omega)
                      have hgl : g < wr.heap.size := World.block_lt_of_cell? wr _ a0
                      have hgn : g ≠ wr.heap.size := by omega
                      have hxH := hid hx
                      have hw := hid (fun (w5 : World) (Q : List UInt8) (y : Nat) (h5 : WrO w5 wb Q (pts wr.heap.size (.cells #[.int .u64 x.file, .int .i64 x.size, .string x.first, .string x.last, .int .u64 x.seq] 43 (0, 0)) :: F)) (e5 : Ext w w5) (hy : y ≤ 1099511627776) (hQ : Q.length ≤ P.length + 250) => enc_num y h5 e5 (by omega) (by have := hplH.out; have := h30H.out; have := hltH.out; omega))
                      have ht := hid (fun (w5 : World) (Q : List UInt8) (y : ByteArray) (h5 : WrO w5 wb Q (pts wr.heap.size (.cells #[.int .u64 x.file, .int .i64 x.size, .string x.first, .string x.last, .int .u64 x.seq] 43 (0, 0)) :: F)) (e5 : Ext w w5) (hy : y.size ≤ 100) (hQ : Q.length ≤ P.length + 250) => enc_text y h5 e5 hy (by have := hplH.out; have := h30H.out; have := hltH.out; omega))
                      have h5 := hid (hvH.out.alloc (.cells #[.int .u64 x.file, .int .i64 x.size, .string x.first, .string x.last, .int .u64 x.seq] 43 (0, 0)))
                      have e5 := hid (heH.out.alloc (.cells #[.int .u64 x.file, .int .i64 x.size, .string x.first, .string x.last, .int .u64 x.seq] 43 (0, 0)))
                      have hwF := hid (hw.out _ P x.file h5.out e5.out m2 (by omega))
                      clear hrl hx hn
                      rw [hSH.out] at hA
                      subst hA
                      clear m1 m2 m3 m4 m5 m6 m7 m8 m9 m10 m11
                      go_wp2_with fail
                      refine hwF.out.mono ?_
                      rintro e w3 ⟨rfl, h3, e3, l3⟩
                      have d1 : w3.cell? ⟨wr.heap.size, 1, none⟩ = some (.int .i64 x.size) := h3.cell (i := 1) rfl
                      have hwF := hid (hw.out _ _ x.size.toNat h3 e3 (by have := (may_parts (hmay.out x (List.mem_of_getElem? hxH.out))).2.1; omega) (by omega))
                      rw [hsz] at hwF
                      have lH := hid l3
                      clear h3 e3 l3
                      go_wp2_with fail
                      refine hwF.out.mono ?_
                      rintro e w4 ⟨rfl, h4, e4, l4⟩
                      have d2 : w4.cell? ⟨wr.heap.size, 2, none⟩ = some (.string x.first) := h4.cell (i := 2) rfl
                      have htF := hid (ht.out _ _ x.first h4 e4 (by have := (may_parts (hmay.out x (List.mem_of_getElem? hxH.out))).2.2.1; omega) (by have := lH.out; omega))
                      have lH4 := hid l4
                      clear h4 e4 l4 d1
                      go_wp2_with fail
                      refine htF.out.mono ?_
                      rintro e w6 ⟨rfl, h6, e6, l6⟩
                      have d3 : w6.cell? ⟨wr.heap.size, 3, none⟩ = some (.string x.last) := h6.cell (i := 3) rfl
                      have htG := hid (ht.out _ _ x.last h6 e6 (by have := (may_parts (hmay.out x (List.mem_of_getElem? hxH.out))).2.2.2.1; omega) (by have := lH.out; have := lH4.out; omega))
                      have lH6 := hid l6
                      clear h6 e6 l6 d2
                      go_wp2_with fail
                      refine htG.out.mono ?_
                      rintro e w7 ⟨rfl, h7, e7, l7⟩
                      have d4 : w7.cell? ⟨wr.heap.size, 4, none⟩ = some (.int .u64 x.seq) := h7.cell (i := 4) rfl
                      have hwG := hid (hw.out _ _ x.seq h7 e7 (may_parts (hmay.out x (List.mem_of_getElem? hxH.out))).2.2.2.2.2.2 (by have := lH.out; have := lH4.out; have := lH6.out; omega))
                      have lH7 := hid l7
                      clear h7 e7 l7 d3
                      go_wp2_with fail
                      refine hwG.out.mono ?_
                      rintro e w8 ⟨rfl, h8, e8, l8⟩
                      have h8H := hid h8.drop
                      have e8H := hid e8
                      have l8H := hid l8
                      clear h8 e8 l8 d4
                      go_wp2_with fail
                      go_roundw
                      case rel =>
                        refine ⟨k + 1, _, by omega, by go_num, h8H.out, e8H.out, ?_, ?_⟩
                        · rw [map_one metaW hxH.out, hPH.out]
                          simp only [metaW, List.append_assoc]
                        · have := lH.out
                          have := lH4.out
                          have := lH6.out
                          have := lH7.out
                          have := l8H.out
                          have := hplH.out
                          omega
                      case measure => simp [intOf]; omega
                    · obtain rfl : k = (E.nw l).length := by omega
                      have hP2 : Hid (P = N ++ levelW (E.nw l)) := hid (by rw [hPH.out, List.take_length]; rfl)
                      have hpl2 := hid hplH.out
                      go_wp2_with fail
                      go_roundw
                      case rel =>
                        refine ⟨l + 1, _, by omega, by go_num, hvH.out, heH.out, ?_, ?_, fun j hj => ?_⟩
                        · rw [hN1.out fun l => levelW (E.nw l), hP2.out, hNH.out, List.append_assoc]
                        · have := hpl2.out
                          have := h30H.out
                          omega
                        · rcases Nat.lt_or_ge j l with h' | h'
                          · exact haH.out j h'
                          · obtain rfl : j = l := by omega
                            exact h30H.out
                      case measure => simp [intOf]; omega
                · have g7 : decide ((30 : Int) < (E.nw l).length) = true := decide_eq_true (by omega)
                  have hbd := hid (bad.out (by
                    have hng : fewB E.nw = false := by
                      unfold fewB
                      rw [List.all_eq_false]
                      exact ⟨l, by simp [four]; omega, fun h => h30 (of_decide_eq_true h)⟩
                    unfold encOk
                    rw [hng]
                    simp))
                  have hkk := hid (hbox.out wr N hvH.out heH.out).1
                  go_wp2_with fail
                  refine bodyPost_ret (by simp [results, Tryz.results14, go_sem]; rfl) rfl ?_
                  exact ⟨hkk.out, hbd.out.2⟩
              · have hl4 : l = 4 := by omega
                have hfw : Hid (fewB E.nw = true) := hid (by
                  unfold fewB
                  rw [List.all_eq_true]
                  intro j hj
                  refine decide_eq_true (haH.out j ?_)
                  simp [four] at hj
                  omega)
                have hbs := hid (bstring_c wb N wr F hvH.out (by
                  rw [hNH.out, hM2.out, hL4.out]
                  intro h
                  rw [List.append_eq_nil_iff, List.append_eq_nil_iff] at h
                  have h2 := h.1.1
                  simp only [headL, List.map_cons, List.flatten_cons, List.append_eq_nil_iff] at h2
                  have h1 := shortB_pos E.next
                  have h3 := h2.1
                  unfold numW at h3
                  rw [h3] at h1
                  exact absurd h1 (by simp)))
                have hNe : Hid (N = encW E) := hid (by
                  rw [hNH.out, hM2.out, hL4.out, hl4]
                  unfold encW
                  rw [List.append_assoc]
                  rfl)
                go_wp2_with fail
                refine hbs.out.mono ?_
                rintro e w9 ⟨rfl, o9, e9⟩
                have hkk := hid (hKF.out w9 o9 (heH.out.trans e9))
                have hee : Hid (encOk E = true) := hid (by
                  unfold encOk
                  rw [habH.out, hga.out, hfw.out]
                  simp only [big40, Bool.and_true, Bool.true_and, Bool.and_eq_true]
                  exact ⟨⟨⟨decide_eq_true b234.out.1, decide_eq_true b234.out.2.1⟩, decide_eq_true b234.out.2.2⟩, decide_eq_true b5H.out⟩)
                clear o9 e9
                go_wp2_with fail
                refine bodyPost_ret (by simp [results, Tryz.results14, go_sem]; rfl) rfl ?_
                exact ⟨hkk.out, by rw [hee.out, if_pos rfl, if_pos rfl, ← hNe.out]⟩
  · have hb := hid (bad.out (by
      cases he : encOk E with
      | false => rfl
      | true =>
        simp only [encOk, Bool.and_eq_true] at he
        exact absurd ⟨by rw [← habH.out]; exact he.1.1.1.1.1.1, of_decide_eq_true he.1.1.1.1.1.2, of_decide_eq_true he.1.1.1.1.2, of_decide_eq_true he.1.1.1.2, of_decide_eq_true he.1.1.2⟩ hok))
    have d : ab = false ∨ ab = true ∧ (decide ((1099511627776 : Int) < E.next) = true ∨ decide ((1099511627776 : Int) < E.next) = false ∧ (decide ((1099511627776 : Int) < E.log) = true ∨ decide ((1099511627776 : Int) < E.log) = false ∧ (decide ((1099511627776 : Int) < E.seq) = true ∨ decide ((1099511627776 : Int) < E.seq) = false ∧ decide ((120 : Int) < E.gone.length) = true))) := by
      rcases hx with rfl | rfl
      rotate_left
      · exact .inl rfl
      · refine .inr ⟨rfl, ?_⟩
        by_cases h2 : E.next ≤ 1099511627776
        · refine .inr ⟨decide_eq_false (by omega), ?_⟩
          by_cases h3 : E.log ≤ 1099511627776
          · refine .inr ⟨decide_eq_false (by omega), ?_⟩
            by_cases h4 : E.seq ≤ 1099511627776
            · exact .inr ⟨decide_eq_false (by omega), decide_eq_true (by have : ¬ E.gone.length ≤ 120 := fun h5 => hok ⟨rfl, h2, h3, h4, h5⟩; omega)⟩
            · exact .inl (decide_eq_true (by omega))
          · exact .inl (decide_eq_true (by omega))
        · exact .inl (decide_eq_true (by omega))
    clear hok bad d2 d3 d4 d5 hx
    rcases d with rfl | ⟨rfl, d1 | ⟨d1, d2 | ⟨d2, d3 | ⟨d3, d4⟩⟩⟩⟩
    all_goals
      go_enter Tryz.func14, Tryz.ntmps14
      go_wp2_with fail
      refine hall.out.mono ?_
      rintro e w1 ⟨rfl, k1⟩
      have o1 := k1.own o0.out
      have c0 := o1.cell (i := 0) rfl
      have c5 := o1.cell (i := 5) rfl
      have c6 := o1.cell (i := 6) rfl
      have c7 := o1.cell (i := 7) rfl
      have k1H := hid (k0.out.trans k1)
      clear o1 k1 o0
      go_wp2_with fail
      refine bodyPost_ret (by simp [results, Tryz.results14, go_sem]; rfl) rfl ?_
      exact ⟨k1H.out, hb.out.2⟩
end Go.Proofs.YtdmdnhceiddcfaaGreat
