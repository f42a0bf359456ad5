/- The walk of Edit. -/
import Derived.Test.YtdmdnhceiddcfaaLvlL
set_option linter.all false
namespace Go.Proofs.Ytdmdnhceiddcfaa
open Go.RowKit Go.Sl Go.Scree

def editOf (V : VerM) : EditM := ⟨[], V.lv, V.next, V.log, V.seq⟩
theorem levelM_at (lv : Lvls) {l : Nat} (h : l < 4) : levelM lv (l : Int) = lv l := by
  unfold levelM; rw [if_pos (by omega), Int.toNat_natCast]
set_option maxRecDepth 20000 in
set_option maxHeartbeats 6400000 in
theorem edit_c (p : Nat) (S : Nat → SlA) (V : VerM) (w : World) (h : VerR w p S V) (hf : ∀ l, l < 4 → (V.lv l).length ≤ 1000) :
    Calls Try.prog 32 #[.pointer (some ⟨p, 0, none⟩)] w fun e w' => ∃ g S', e = .returned (editV g S' (editOf V)) ∧ EditR w' g S' (editOf V) ∧ Kp w w' := by
  have c4 := h.next
  have c5 := h.log
  have c6 := h.seq
  have hH := hid h
  have hfH := hid hf
  have hpl : p < w.heap.size := World.block_lt_of_cell? w _ c4
  have hpn : p ≠ w.heap.size := by omega
  clear h hf
  go_enter Try.func32, Try.ntmps32
  go_wp2_with fail
  go_region
  have v0 : Hid (EdO ((w.alloc (.cells zeroE 34 (0, 0))).alloc (.cells (editCells nilA (fun _ => nilA) ⟨[], fun _ => [], V.next, V.log, V.seq⟩) 34 (0, 0))).drew w (w.heap.size + 1) w.heap.size nilA (fun _ => nilA) ⟨[], fun _ => [], V.next, V.log, V.seq⟩ []) := hid (by
    refine ⟨?_, fun l hl w F o => .inl ⟨⟨none, 0, rfl, by simp [maxLen]⟩, rfl⟩, fun w F o => .inl ⟨⟨none, 0, rfl, by simp [maxLen]⟩, rfl⟩, (((Ext.refl w).alloc _).alloc _).drew⟩
    have o := ((Own.start w).alloc (.cells zeroE 34 (0, 0))).alloc (.cells (editCells nilA (fun _ => nilA) ⟨[], fun _ => [], V.next, V.log, V.seq⟩) 34 (0, 0))
    have o2 := o.drew
    simpa using o2)
  obtain ⟨rb, hrb⟩ : ∃ rb, w.heap.size = rb := ⟨_, rfl⟩
  obtain ⟨eb, heb⟩ : ∃ eb, rb + 1 = eb := ⟨_, rfl⟩
  rw [hrb, heb] at v0
  rw [hrb, heb]
  clear hrb heb hpl hpn c4 c5 c6
  unfold zeroE editCells at v0
  obtain ⟨wb, hwb⟩ : ∃ wb, wb = ((w.alloc (.cells #[.slice none 0 0, .slice none 0 0, .slice none 0 0, .slice none 0 0, .slice none 0 0, .int .u64 0, .int .u64 0, .int .u64 0] 34 (0, 0))).alloc (.cells #[.slice none 0 0, .slice none 0 0, .slice none 0 0, .slice none 0 0, .slice none 0 0, .int .u64 V.next, .int .u64 V.log, .int .u64 V.seq] 34 (0, 0))).drew := ⟨_, rfl⟩
  have v1 : Hid (EdO wb w eb rb nilA (fun _ => nilA) ⟨[], fun _ => [], V.next, V.log, V.seq⟩ []) := hid (by rw [hwb]; exact v0.out)
  clear v0
  rw [← hwb]
  have hwbH := hid hwb
  clear hwb
  go_wp2_with fail
  go_loopw [18] (fun i wr => ∃ (k : Nat) (S1 : Nat → SlA) (nw : Lvls) (D : List Chunk), k ≤ 4 ∧ i = .int .i64 k ∧ EdO wr w eb rb nilA S1 ⟨[], nw, V.next, V.log, V.seq⟩ D ∧ ∀ i, i < k → nw i = V.lv i) (fun i _ => 4 - (intOf i).toNat)
  case atStart => exact ⟨0, _, _, [], by omega, rfl, v1.out, fun i hi => by omega⟩
  case round =>
    clear v1 hwbH
    obtain ⟨k, S1, nw, D, hk, rfl, hv, hnw⟩ := hrel
    have hvH := hid hv
    have hnwH := hid hnw
    clear hv hnw
    by_cases hlt : k < 4
    · have hlt' : (k : Int) < 4 := by omega
      have hle : Hid (∀ l : Nat, l < 4 → Calls Try.prog 29 #[.pointer (some ⟨p, 0, none⟩), .int .i64 l] wr fun e w' => ∃ A n c, e = .returned (.slice A n c) ∧ Own w' [sl 56 metaE (.slice A n c) (V.lv l), base wr wr.heap.size] ∧ Ext wr w') := hid (fun l hl => by
        refine (level_c p S V l wr (hH.out.kp hvH.out.base)).mono ?_
        rintro e w' ⟨v', he, o', x'⟩
        obtain ⟨A', n', c', rfl⟩ := sl_shape o'
        rw [levelM_at _ hl] at o'
        exact ⟨A', n', c', he, o', x'⟩)
      have ce : wr.cell? ⟨eb, 1 + k, none⟩ = some (.slice (S1 k).A (S1 k).n (S1 k).c) := hvH.out.own.cell (edit_at _ _ _ hlt)
      have fe : wr.frozen? ⟨eb, 1 + k, none⟩ = false := hvH.out.own.free _
      have hel : eb < wr.heap.size := hvH.out.own.lt
      go_wp2_with fail
      refine (hle.out k hlt).mono ?_
      rintro e w1 ⟨A1, n1, c1, rfl, o1, e1⟩
      have ce1 := (kp_of1 o1 e1).cell ce
      have fe1 := (kp_of1 o1 e1).free hel fe
      have vt := hid (hvH.out.turn hlt (s := ⟨A1, n1, c1⟩) (kp_of1 o1 e1) o1)
      clear o1 e1 ce fe
      go_wp2_with fail
      go_roundw
      case rel =>
        refine ⟨k + 1, _, _, _, by omega, by go_num, vt.out, fun i hi => ?_⟩
        show upd nw k (V.lv k) i = V.lv i
        by_cases e : i = k
        · subst e; exact upd_at _ _ _
        · rw [upd_ne _ _ e]; exact hnwH.out i (by omega)
      case measure => simp [intOf]; omega
    · have dk : decide (k < 4) = false := decide_eq_false hlt
      have hnw4 : Hid (∀ i, i < 4 → nw i = V.lv i) := hid (fun i hi => hnwH.out i (by omega))
      have o := hvH.out.own
      have q0 := o.cell (i := 0) (v := .slice none 0 0) rfl
      have q1 := o.cell (i := 1) (v := .slice (S1 0).A (S1 0).n (S1 0).c) rfl
      have q2 := o.cell (i := 2) (v := .slice (S1 1).A (S1 1).n (S1 1).c) rfl
      have q3 := o.cell (i := 3) (v := .slice (S1 2).A (S1 2).n (S1 2).c) rfl
      have q4 := o.cell (i := 4) (v := .slice (S1 3).A (S1 3).n (S1 3).c) rfl
      have q5 := o.cell (i := 5) (v := .int .u64 V.next) rfl
      have q6 := o.cell (i := 6) (v := .int .u64 V.log) rfl
      have q7 := o.cell (i := 7) (v := .int .u64 V.seq) rfl
      have r0 := o.swap.cell (i := 0) (v := .slice none 0 0) rfl
      have r1 := o.swap.cell (i := 1) (v := .slice none 0 0) rfl
      have r2 := o.swap.cell (i := 2) (v := .slice none 0 0) rfl
      have r3 := o.swap.cell (i := 3) (v := .slice none 0 0) rfl
      have r4 := o.swap.cell (i := 4) (v := .slice none 0 0) rfl
      have r5 := o.swap.cell (i := 5) (v := .int .u64 0) rfl
      have r6 := o.swap.cell (i := 6) (v := .int .u64 0) rfl
      have r7 := o.swap.cell (i := 7) (v := .int .u64 0) rfl
      have f0 := o.swap.free 0
      have f1 := o.swap.free 1
      have f2 := o.swap.free 2
      have f3 := o.swap.free 3
      have f4 := o.swap.free 4
      have f5 := o.swap.free 5
      have f6 := o.swap.free 6
      have f7 := o.swap.free 7
      have hto := hid (hvH.out.told (by intro l hl; show (nw l).length ≤ 1000; rw [hnw4.out l hl]; exact hfH.out l hl))
      clear o
      go_wp2_with fail
      obtain ⟨wz, hwz⟩ : ∃ wz, wz = put wr rb 0 (editCells nilA S1 ⟨[], nw, V.next, V.log, V.seq⟩).toList := ⟨_, rfl⟩
      have z0 : wz.cell? ⟨rb, 0, none⟩ = some (.slice none 0 0) := by rw [hwz]; exact hvH.out.cells rfl
      have z1 : wz.cell? ⟨rb, 1, none⟩ = some (.slice (S1 0).A (S1 0).n (S1 0).c) := by rw [hwz]; exact hvH.out.cells rfl
      have z2 : wz.cell? ⟨rb, 2, none⟩ = some (.slice (S1 1).A (S1 1).n (S1 1).c) := by rw [hwz]; exact hvH.out.cells rfl
      have z3 : wz.cell? ⟨rb, 3, none⟩ = some (.slice (S1 2).A (S1 2).n (S1 2).c) := by rw [hwz]; exact hvH.out.cells rfl
      have z4 : wz.cell? ⟨rb, 4, none⟩ = some (.slice (S1 3).A (S1 3).n (S1 3).c) := by rw [hwz]; exact hvH.out.cells rfl
      have z5 : wz.cell? ⟨rb, 5, none⟩ = some (.int .u64 V.next) := by rw [hwz]; exact hvH.out.cells rfl
      have z6 : wz.cell? ⟨rb, 6, none⟩ = some (.int .u64 V.log) := by rw [hwz]; exact hvH.out.cells rfl
      have z7 : wz.cell? ⟨rb, 7, none⟩ = some (.int .u64 V.seq) := by rw [hwz]; exact hvH.out.cells rfl
      clear q0 q1 q2 q3 q4 q5 q6 q7 r0 r1 r2 r3 r4 r5 r6 r7 f0 f1 f2 f3 f4 f5 f6 f7
      change bodyPost Try.prog _ _ Exit.ret _ (put wr rb 0 (editCells nilA S1 ⟨[], nw, V.next, V.log, V.seq⟩).toList)
      rw [← hwz] at hto ⊢
      clear hwz
      refine bodyPost_ret (by simp [results, Try.results32, go_sem, z0, z1, z2, z3, z4, z5, z6, z7]; rfl) rfl ?_
      have e : sameUp nw V.lv := fun l hl => hnw4.out l hl
      refine ⟨nilA, S1, rfl, ?_, hto.out.2⟩
      have he := hto.out.1
      exact ⟨he.gone, fun l hl => by have := he.nw l hl; dsimp only at this; rwa [hnw4.out l hl] at this, fun l hl => hfH.out l hl⟩
end Go.Proofs.Ytdmdnhceiddcfaa
