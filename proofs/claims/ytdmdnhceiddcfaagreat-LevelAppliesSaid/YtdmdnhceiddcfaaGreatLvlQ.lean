/- The walk of Edit. -/
import Derived.Test.YtdmdnhceiddcfaaGreatLvlJ
import Derived.Test.YtdmdnhceiddcfaaGreatEncP
set_option linter.all false
namespace Go.Proofs.YtdmdnhceiddcfaaGreat
open Go.RowKit Go.Sl Go.Scree

def nilA : SlA := ⟨none, 0, 0⟩

def zeroE : Array Value := editCells nilA (fun _ => nilA) nilE
theorem edit_set (g : SlA) (S : Nat → SlA) (E : EditM) (nw : Lvls) {l : Nat} (h : l < 4) (s : SlA) : (editCells g S E).setIfInBounds (1 + l) (.slice s.A s.n s.c) = editCells g (upd S l s) { E with nw := nw } := by
  rcases (by omega : l = 0 ∨ l = 1 ∨ l = 2 ∨ l = 3) with rfl | rfl | rfl | rfl <;> rfl
/-- An edit's block that is being filled, beside the one that will be told. -/
structure EdO (w W0 : World) (eb rb : Nat) (g : SlA) (S : Nat → SlA) (E : EditM) (D : List Chunk) : Prop where
  own : Own w (pts eb (.cells (editCells g S E) 34 (0, 0)) :: pts rb (.cells zeroE 34 (0, 0)) :: (D ++ [base W0 W0.heap.size]))
  rd : ∀ l, l < 4 → Gives (D ++ [base W0 W0.heap.size]) fun w => Rd w metaE (S l).v (E.nw l)
  rdG : Gives (D ++ [base W0 W0.heap.size]) fun w => Rd w u64E g.v E.gone
  ext : Ext W0 w
section
variable {w W0 w1 : World} {eb rb : Nat} {g : SlA} {S : Nat → SlA} {E : EditM} {D : List Chunk}
theorem EdO.turn (h : EdO w W0 eb rb g S E D) {l : Nat} (hl : l < 4) {s : SlA} {xs : List MetaM} (k : Kp w w1) (o : Own w1 [sl 43 metaE s.v xs, Sl.base w w.heap.size]) :
    EdO (w1.setCell ⟨eb, 1 + l, none⟩ (.slice s.A s.n s.c)) W0 eb rb g (upd S l s) { E with nw := upd E.nw l xs } (sl 43 metaE s.v xs :: D) := by
  have o2 := ((rebase1 o h.own).swap).set (i := 1 + l) (.slice s.A s.n s.c)
  refine ⟨?_, fun i hi => ?_, Gives.more h.rdG _, (h.ext.trans k.ext).set _ _⟩
  · rw [← edit_set g S E (upd E.nw l xs) hl s]
    exact o2.perm (List.Perm.cons _ (List.Perm.swap _ _ _))
  · by_cases e : i = l
    · subst e
      show Gives _ fun w => Rd w metaE (upd S i s i).v (upd E.nw i xs i)
      rw [upd_at, upd_at]
      exact fun w F o => sl_rd o
    · show Gives _ fun w => Rd w metaE (upd S l s i).v (upd E.nw l xs i)
      rw [upd_ne _ _ e, upd_ne _ _ e]
      exact Gives.more (h.rd i hi) _
theorem EdO.base (h : EdO w W0 eb rb g S E D) : Kp W0 w := kp_of (cs := pts eb _ :: pts rb _ :: D) h.own h.ext
theorem EdO.kp (h : EdO w W0 eb rb g S E D) (k : Kp w w1) : EdO w1 W0 eb rb g S E D := ⟨k.own h.own, h.rd, h.rdG, h.ext.trans k.ext⟩
theorem EdO.cells (h : EdO w W0 eb rb g S E D) {i : Nat} {v : Value} (hv : (editCells g S E)[i]? = some v) : (put w rb 0 (editCells g S E).toList).cell? ⟨rb, i, none⟩ = some v := by
  have o := own_put (editCells g S E).toList (o := 0) h.own.swap
  refine o.cell ?_
  have e : (over zeroE 0 (editCells g S E).toList).toList = (editCells g S E).toList := by
    rw [over_list _ _ _ (by simp [zeroE, editCells])]
    simp [zeroE, editCells]
  rw [← Array.getElem?_toList, e, Array.getElem?_toList]
  exact hv
/-- The edit is told: all its cells lie in the other block. -/
theorem EdO.told (h : EdO w W0 eb rb g S E D) (hf : ∀ l, l < 4 → (E.nw l).length ≤ 1000) : EditR (put w rb 0 (editCells g S E).toList) g S E ∧ Kp W0 (put w rb 0 (editCells g S E).toList) := by
  have o := (own_put (editCells g S E).toList (o := 0) h.own.swap).drop.drop
  have e := ext_put (editCells g S E).toList rb 0 h.ext
  refine ⟨⟨h.rdG _ [] (by simpa using o), fun l hl => h.rd l hl _ [] (by simpa using o), hf⟩, kp_of o e⟩
end
theorem rd_nilA (w : World) : Rd w metaE nilA.v ([] : List MetaM) := .inl ⟨⟨none, 0, rfl, by simp [maxLen]⟩, rfl⟩
theorem rd_n {w : World} {s : SlA} {xs : List MetaM} (h : Rd w metaE s.v xs) : s.n = xs.length := by
  obtain ⟨_, _, hv, _⟩ := h.form
  unfold SlA.v at hv
  simp only [Value.slice.injEq] at hv
  exact hv.2.1
def editOf (V : VerM) : EditM := ⟨[], V.lv, V.next, V.log, V.seq⟩
theorem levelM_at (lv : Lvls) {l : Nat} (h : l < 4) : levelM lv (l : Int) = lv l := by
  unfold levelM; rw [if_pos (by omega), Int.toNat_natCast]
set_option maxRecDepth 20000 in
set_option maxHeartbeats 6400000 in
theorem edit_c (p : Nat) (S : Nat → SlA) (V : VerM) (w : World) (h : VerR w p S V) (hf : ∀ l, l < 4 → (V.lv l).length ≤ 1000) :
    Calls Tryz.prog 35 #[.pointer (some ⟨p, 0, none⟩)] w fun e w' => ∃ g S', e = .returned (editV g S' (editOf V)) ∧ EditR w' g S' (editOf V) ∧ Kp w w' := by
  have c4 := h.next
  have c5 := h.log
  have c6 := h.seq
  have hH := hid h
  have hfH := hid hf
  have hpl : p < w.heap.size := World.block_lt_of_cell? w _ c4
  have hpn : p ≠ w.heap.size := by omega
  clear h hf
  go_enter Tryz.func35, Tryz.ntmps35
  go_wp2_with fail
  go_region
  have v0 : Hid (EdO ((w.alloc (.cells zeroE 34 (0, 0))).alloc (.cells (editCells nilA (fun _ => nilA) ⟨[], fun _ => [], V.next, V.log, V.seq⟩) 34 (0, 0))).drew w (w.heap.size + 1) w.heap.size nilA (fun _ => nilA) ⟨[], fun _ => [], V.next, V.log, V.seq⟩ []) := hid (by
    refine ⟨?_, fun l hl w F o => .inl ⟨⟨none, 0, rfl, by simp [maxLen]⟩, rfl⟩, fun w F o => .inl ⟨⟨none, 0, rfl, by simp [maxLen]⟩, rfl⟩, (((Ext.refl w).alloc _).alloc _).drew⟩
    have o := ((Own.start w).alloc (.cells zeroE 34 (0, 0))).alloc (.cells (editCells nilA (fun _ => nilA) ⟨[], fun _ => [], V.next, V.log, V.seq⟩) 34 (0, 0))
    have o2 := o.drew
    simpa using o2)
  obtain ⟨rb, hrb⟩ : ∃ rb, w.heap.size = rb := ⟨_, rfl⟩
  obtain ⟨eb, heb⟩ : ∃ eb, rb + 1 = eb := ⟨_, rfl⟩
  rw [hrb, heb] at v0
  rw [hrb, heb]
  clear hrb heb hpl hpn c4 c5 c6
  unfold zeroE editCells at v0
  obtain ⟨wb, hwb⟩ : ∃ wb, wb = ((w.alloc (.cells #[.slice none 0 0, .slice none 0 0, .slice none 0 0, .slice none 0 0, .slice none 0 0, .int .u64 0, .int .u64 0, .int .u64 0] 34 (0, 0))).alloc (.cells #[.slice none 0 0, .slice none 0 0, .slice none 0 0, .slice none 0 0, .slice none 0 0, .int .u64 V.next, .int .u64 V.log, .int .u64 V.seq] 34 (0, 0))).drew := ⟨_, rfl⟩
  have v1 : Hid (EdO wb w eb rb nilA (fun _ => nilA) ⟨[], fun _ => [], V.next, V.log, V.seq⟩ []) := hid (by rw [hwb]; exact v0.out)
  clear v0
  rw [← hwb]
  have hwbH := hid hwb
  clear hwb
  go_wp2_with fail
  go_loopw [18] (fun i wr => ∃ (k : Nat) (S1 : Nat → SlA) (nw : Lvls) (D : List Chunk), k ≤ 4 ∧ i = .int .i64 k ∧ EdO wr w eb rb nilA S1 ⟨[], nw, V.next, V.log, V.seq⟩ D ∧ ∀ i, i < k → nw i = V.lv i) (fun i _ => 4 - (intOf i).toNat)
  case atStart => exact ⟨0, _, _, [], by omega, rfl, v1.out, fun i hi => by omega⟩
  case round =>
    clear v1 hwbH
    obtain ⟨k, S1, nw, D, hk, rfl, hv, hnw⟩ := hrel
    have hvH := hid hv
    have hnwH := hid hnw
    clear hv hnw
    by_cases hlt : k < 4
    · have hlt' : (k : Int) < 4 := by omega
      have hle : Hid (∀ l : Nat, l < 4 → Calls Tryz.prog 31 #[.pointer (some ⟨p, 0, none⟩), .int .i64 l] wr fun e w' => ∃ A n c, e = .returned (.slice A n c) ∧ Own w' [sl 43 metaE (.slice A n c) (V.lv l), base wr wr.heap.size] ∧ Ext wr w') := hid (fun l hl => by
        refine (level_c p S V l wr (hH.out.kp hvH.out.base)).mono ?_
        rintro e w' ⟨v', he, o', x'⟩
        obtain ⟨A', n', c', rfl⟩ := sl_shape o'
        rw [levelM_at _ hl] at o'
        exact ⟨A', n', c', he, o', x'⟩)
      have ce : wr.cell? ⟨eb, 1 + k, none⟩ = some (.slice (S1 k).A (S1 k).n (S1 k).c) := hvH.out.own.cell (edit_at _ _ _ hlt)
      have fe : wr.frozen? ⟨eb, 1 + k, none⟩ = false := hvH.out.own.free _
      have hel : eb < wr.heap.size := hvH.out.own.lt
      go_wp2_with fail
      refine (hle.out k hlt).mono ?_
      rintro e w1 ⟨A1, n1, c1, rfl, o1, e1⟩
      have ce1 := (kp_of1 o1 e1).cell ce
      have fe1 := (kp_of1 o1 e1).free hel fe
      have vt := hid (hvH.out.turn hlt (s := ⟨A1, n1, c1⟩) (kp_of1 o1 e1) o1)
      clear o1 e1 ce fe
      go_wp2_with fail
      go_roundw
      case rel =>
        refine ⟨k + 1, _, _, _, by omega, by go_num, vt.out, fun i hi => ?_⟩
        show upd nw k (V.lv k) i = V.lv i
        by_cases e : i = k
        · subst e; exact upd_at _ _ _
        · rw [upd_ne _ _ e]; exact hnwH.out i (by omega)
      case measure => simp [intOf]; omega
    · have dk : decide (k < 4) = false := decide_eq_false hlt
      have hnw4 : Hid (∀ i, i < 4 → nw i = V.lv i) := hid (fun i hi => hnwH.out i (by omega))
      have o := hvH.out.own
      have q0 := o.cell (i := 0) (v := .slice none 0 0) rfl
      have q1 := o.cell (i := 1) (v := .slice (S1 0).A (S1 0).n (S1 0).c) rfl
      have q2 := o.cell (i := 2) (v := .slice (S1 1).A (S1 1).n (S1 1).c) rfl
      have q3 := o.cell (i := 3) (v := .slice (S1 2).A (S1 2).n (S1 2).c) rfl
      have q4 := o.cell (i := 4) (v := .slice (S1 3).A (S1 3).n (S1 3).c) rfl
      have q5 := o.cell (i := 5) (v := .int .u64 V.next) rfl
      have q6 := o.cell (i := 6) (v := .int .u64 V.log) rfl
      have q7 := o.cell (i := 7) (v := .int .u64 V.seq) rfl
      have r0 := o.swap.cell (i := 0) (v := .slice none 0 0) rfl
      have r1 := o.swap.cell (i := 1) (v := .slice none 0 0) rfl
      have r2 := o.swap.cell (i := 2) (v := .slice none 0 0) rfl
      have r3 := o.swap.cell (i := 3) (v := .slice none 0 0) rfl
      have r4 := o.swap.cell (i := 4) (v := .slice none 0 0) rfl
      have r5 := o.swap.cell (i := 5) (v := .int .u64 0) rfl
      have r6 := o.swap.cell (i := 6) (v := .int .u64 0) rfl
      have r7 := o.swap.cell (i := 7) (v := .int .u64 0) rfl
      have f0 := o.swap.free 0
      have f1 := o.swap.free 1
      have f2 := o.swap.free 2
      have f3 := o.swap.free 3
      have f4 := o.swap.free 4
      have f5 := o.swap.free 5
      have f6 := o.swap.free 6
      have f7 := o.swap.free 7
      have hto := hid (hvH.out.told (by intro l hl; show (nw l).length ≤ 1000; rw [hnw4.out l hl]; exact hfH.out l hl))
      clear o
      go_wp2_with fail
      obtain ⟨wz, hwz⟩ : ∃ wz, wz = put wr rb 0 (editCells nilA S1 ⟨[], nw, V.next, V.log, V.seq⟩).toList := ⟨_, rfl⟩
      have z0 : wz.cell? ⟨rb, 0, none⟩ = some (.slice none 0 0) := by rw [hwz]; exact hvH.out.cells rfl
      have z1 : wz.cell? ⟨rb, 1, none⟩ = some (.slice (S1 0).A (S1 0).n (S1 0).c) := by rw [hwz]; exact hvH.out.cells rfl
      have z2 : wz.cell? ⟨rb, 2, none⟩ = some (.slice (S1 1).A (S1 1).n (S1 1).c) := by rw [hwz]; exact hvH.out.cells rfl
      have z3 : wz.cell? ⟨rb, 3, none⟩ = some (.slice (S1 2).A (S1 2).n (S1 2).c) := by rw [hwz]; exact hvH.out.cells rfl
      have z4 : wz.cell? ⟨rb, 4, none⟩ = some (.slice (S1 3).A (S1 3).n (S1 3).c) := by rw [hwz]; exact hvH.out.cells rfl
      have z5 : wz.cell? ⟨rb, 5, none⟩ = some (.int .u64 V.next) := by rw [hwz]; exact hvH.out.cells rfl
      have z6 : wz.cell? ⟨rb, 6, none⟩ = some (.int .u64 V.log) := by rw [hwz]; exact hvH.out.cells rfl
      have z7 : wz.cell? ⟨rb, 7, none⟩ = some (.int .u64 V.seq) := by rw [hwz]; exact hvH.out.cells rfl
      clear q0 q1 q2 q3 q4 q5 q6 q7 r0 r1 r2 r3 r4 r5 r6 r7 f0 f1 f2 f3 f4 f5 f6 f7
      change bodyPost Tryz.prog _ _ Exit.ret _ (put wr rb 0 (editCells nilA S1 ⟨[], nw, V.next, V.log, V.seq⟩).toList)
      rw [← hwz] at hto ⊢
      clear hwz
      refine bodyPost_ret (by simp [results, Tryz.results35, go_sem, z0, z1, z2, z3, z4, z5, z6, z7]; rfl) rfl ?_
      have e : sameUp nw V.lv := fun l hl => hnw4.out l hl
      refine ⟨nilA, S1, rfl, ?_, hto.out.2⟩
      have he := hto.out.1
      exact ⟨he.gone, fun l hl => by have := he.nw l hl; dsimp only at this; rwa [hnw4.out l hl] at this, fun l hl => hfH.out l hl⟩
end Go.Proofs.YtdmdnhceiddcfaaGreat
