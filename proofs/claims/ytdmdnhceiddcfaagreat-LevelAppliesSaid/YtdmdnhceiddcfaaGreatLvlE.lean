/- A version in memory; the walks of Level, Numbers, Files. -/
import Derived.Test.YtdmdnhceiddcfaaGreatLvlD
import Derived.Test.YtdmdnhceiddcfaaGreatLvlM
import Derived.Deep.Slices
set_option linter.all false
namespace Go.Proofs.YtdmdnhceiddcfaaGreat
open Go.RowKit Go.Sl Go.Scree

/-- A version as it lies. -/
structure VerR (w : World) (p : Nat) (S : Nat → SlA) (V : VerM) : Prop where
  lvl : ∀ l, l < 4 → w.cell? ⟨p, l, none⟩ = some (.slice (S l).A (S l).n (S l).c)
  next : w.cell? ⟨p, 4, none⟩ = some (.int .u64 V.next)
  log : w.cell? ⟨p, 5, none⟩ = some (.int .u64 V.log)
  seq : w.cell? ⟨p, 6, none⟩ = some (.int .u64 V.seq)
  rd : ∀ l, l < 4 → Rd w metaE (S l).v (V.lv l)
  few : ∀ l, l < 4 → (V.lv l).length ≤ 20000
theorem VerR.kp {w w' : World} {p : Nat} {S : Nat → SlA} {V : VerM} (h : VerR w p S V) (k : Kp w w') : VerR w' p S V :=
  ⟨fun l hl => k.cell (h.lvl l hl), k.cell h.next, k.cell h.log, k.cell h.seq, fun l hl => k.rd (h.rd l hl), h.few⟩
def levelM (lv : Lvls) (l : Int) : List MetaM := if 0 ≤ l ∧ l < 4 then lv l.toNat else []
def verP (p : Nat) : Value := .pointer (some ⟨p, 0, none⟩)
set_option maxHeartbeats 800000 in
theorem level_c (p : Nat) (S : Nat → SlA) (V : VerM) (l : Int) (w : World) (h : VerR w p S V) :
    Calls Tryz.prog 31 #[.pointer (some ⟨p, 0, none⟩), .int .i64 l] w fun e w' => ∃ v', e = .returned v' ∧ Own w' [sl 43 metaE v' (levelM V.lv l), base w w.heap.size] ∧ Ext w w' := by
  unfold levelM
  by_cases h0 : l < 0
  · rw [if_neg (by omega)]
    have d0 : decide (l < 0) = true := decide_eq_true h0
    clear h
    go_enter Tryz.func31, Tryz.ntmps31
    go_wp2_with fail
    go_ret
    exact ⟨_, rfl, sl_nil _ _ (Own.start w), Ext.refl _⟩
  · have d0 : decide (l < 0) = false := decide_eq_false h0
    by_cases h4 : l ≥ 4
    · rw [if_neg (by omega)]
      have d4 : decide (l ≥ 4) = true := decide_eq_true h4
      clear h
      go_enter Tryz.func31, Tryz.ntmps31
      go_wp2_with fail
      go_ret
      exact ⟨_, rfl, sl_nil _ _ (Own.start w), Ext.refl _⟩
    · rw [if_pos (by omega)]
      obtain ⟨k, rfl⟩ : ∃ k : Nat, l = k := ⟨l.toNat, by omega⟩
      rw [Int.toNat_natCast]
      have hk : k < 4 := by omega
      have d4 : decide ((k : Int) ≥ 4) = false := decide_eq_false h4
      have hc := h.lvl k hk
      have hcl := hid (mclone_c _ _ w (h.rd k hk) (Nat.le_trans (h.few k hk) (by omega)))
      unfold SlA.v at hcl
      have hk' : (k : Int) < 4 := by omega
      clear h h0
      go_enter Tryz.func31, Tryz.ntmps31
      go_wp2_with fail
      refine hcl.out.mono ?_
      rintro e w' ⟨v', rfl, o1, e1⟩
      obtain ⟨A1, n1, c1, rfl⟩ := sl_shape o1
      have o1H := hid o1
      clear o1
      go_wp2
      go_ret
      exact ⟨_, rfl, o1H.out, e1⟩
theorem numbers_c (p : Nat) (S : Nat → SlA) (V : VerM) (w : World) (h : VerR w p S V) :
    Calls Tryz.prog 16 #[.pointer (some ⟨p, 0, none⟩)] w fun e w' => e = .returned (.tuple #[.int .u64 V.next, .int .u64 V.log, .int .u64 V.seq]) ∧ Kp w w' := by
  have c4 := h.next
  have c5 := h.log
  have c6 := h.seq
  clear h
  go_enter Tryz.func16, Tryz.ntmps16
  go_wp2_with fail
  go_quiet (fail)
  go_wp2
  go_ret3
  exact ⟨rfl, (Kp.refl w).drewN _⟩

/-- The levels' numbers, so many levels. -/
def fileL (lv : Lvls) (k : Nat) : List Nat := ((four.take k).flatMap lv).map (·.file)
theorem fileL_succ (lv : Lvls) {k : Nat} (h : k < 4) : fileL lv (k + 1) = fileL lv k ++ (lv k).map (·.file) := by
  rcases (by omega : k = 0 ∨ k = 1 ∨ k = 2 ∨ k = 3) with rfl | rfl | rfl | rfl <;> simp [fileL, four]
theorem fileL_four (lv : Lvls) : fileL lv 4 = filesM lv := rfl
def filesS (lv : Lvls) : List Nat := (filesM lv).mergeSort fun a b => decide (a ≤ b)
theorem fileL_len (lv : Lvls) (h : ∀ l, l < 4 → (lv l).length ≤ 20000) : ∀ k, k ≤ 4 → (fileL lv k).length ≤ k * 20000
  | 0, _ => by simp [fileL]
  | k + 1, hk => by
    rw [fileL_succ lv (by omega), List.length_append, List.length_map]
    have := fileL_len lv h k (by omega)
    have := h k (by omega)
    omega
set_option maxRecDepth 20000 in
set_option maxHeartbeats 3200000 in
theorem files_c (p : Nat) (S : Nat → SlA) (V : VerM) (w : World) (h : VerR w p S V) :
    Calls Tryz.prog 18 #[.pointer (some ⟨p, 0, none⟩)] w fun e w' => ∃ v', e = .returned v' ∧ Own w' [sl 32 u64E v' (filesS V.lv), base w w.heap.size] ∧ Ext w w' := by
  have c0 := h.lvl 0 (by omega)
  have c1 := h.lvl 1 (by omega)
  have c2 := h.lvl 2 (by omega)
  have c3 := h.lvl 3 (by omega)
  have hH := hid h
  have hlen := hid (fileL_len V.lv h.few)
  clear h
  obtain ⟨i0, hi0, hz0, hz1, hz2⟩ := info_parts infoU64
  go_enter Tryz.func18, Tryz.ntmps18
  go_wp2_with fail
  clear c0 c1 c2 c3
  go_loopw [3, 12] (fun b i wr => ∃ k : Nat, k ≤ 4 ∧ i = .int .i64 k ∧ Own wr [sl 32 u64E b (fileL V.lv k), base w w.heap.size] ∧ Ext w wr) (fun _ i _ => 4 - (intOf i).toNat)
  case atStart => exact ⟨0, by omega, rfl, sl_nil _ _ (Own.start w), Ext.refl _⟩
  case round =>
    obtain ⟨k, hk, rfl, ok, ek⟩ := hrel
    obtain ⟨A1, n1, k1, rfl⟩ := sl_shape ok
    have okH := hid ok
    have ekH := hid ek
    clear ok ek
    by_cases hlt : k < 4
    · have hlt' : (k : Int) < 4 := by omega
      have hat := arr_at S k hlt
      unfold arrV at hat
      obtain ⟨Ak, ck, hv, hm, _⟩ := (hH.out.rd k hlt).form
      have hSn : (S k).n = (V.lv k).length := by
        unfold SlA.v at hv
        simp only [Value.slice.injEq] at hv
        exact hv.2.1
      have hrd := hid (hH.out.rd k hlt)
      unfold SlA.v at hrd
      have hfew := hH.out.few k hlt
      have hl6 := hlen.out k hk
      have hsucc := hid (fileL_succ V.lv hlt)
      clear hv hm
      generalize V.lv k = xs at *
      generalize hS : S k = sk at *
      obtain ⟨skA, skn, skc⟩ := sk
      dsimp only at hSn hat hrd
      subst hSn
      have hSH := hid hS
      clear hS
      have hx63 : xs.length ≤ 9223372036854775807 := by omega
      go_wp2_with fail
      go_loopw [3, 17] (fun b i wr2 => ∃ j : Nat, j ≤ xs.length ∧ i = .int .i64 j ∧ Own wr2 [sl 32 u64E b (fileL V.lv k ++ (xs.take j).map (·.file)), base w w.heap.size] ∧ Ext w wr2) (fun _ i _ => xs.length - (intOf i).toNat)
      case atStart => exact ⟨0, Nat.zero_le _, rfl, by simpa using okH.out, ekH.out⟩
      case round =>
        obtain ⟨j, hj, rfl, oj, ej⟩ := hrel
        obtain ⟨A2, n2, k2, rfl⟩ := sl_shape oj
        have ojH := hid oj
        have ejH := hid ej
        clear oj ej
        by_cases hjl : j < xs.length
        · have hx : xs[j]? = some xs[j] := List.getElem?_eq_getElem hjl
          have hrd2 := (kp_of1 ojH.out ejH.out).rd hrd.out
          obtain ⟨g, off, rfl, _, d0, d1, d2, d3, d4⟩ := rd_meta hrd2 rfl hx
          have htk := hid (List.take_succ_eq_append_getElem hjl)
          generalize xs[j] = x at *
          clear hrd2 hx
          go_wp2_with (refine wpList_append_slc rfl _ _ _ rfl 32 i0 _ 1 8 Tryz.underlying29 hi0 hz0 hz1 hz2 rfl (by omega) _ _ _ rfl (Own.allocd (Own.allocd ojH.out)) ⟨wr.heap.size + 1, 0, none⟩ 1 1 [.int .u64 x.file] rfl rfl (cells_new' (by simp) _ _ _) ?c2 ?c3 ?c4 ?_)
          case c2 => simp [Value.oneCell']
          case c3 => unfold maxLen; omega
          case c4 => omega
          intro v3 w3 o3 e3 _
          have o4 := sl_of (E := u64E) (fileL V.lv k ++ (xs.take (j + 1)).map (·.file)) o3 (by rw [htk.out]; simp; omega) (by rw [htk.out]; simp [u64E, Enc.flat])
          obtain ⟨A4, n4, k4, rfl⟩ := sl_shape o4
          have o4H := hid o4
          clear o3 o4
          go_wp2
          go_roundw
          case rel => exact ⟨j + 1, by omega, by go_num, o4H.out, ((ejH.out.alloc _).alloc _).trans e3⟩
          case measure => simp [intOf]; omega
        · obtain rfl : j = xs.length := by omega
          have hf : Hid (fileL V.lv k ++ (xs.take xs.length).map (·.file) = fileL V.lv (k + 1)) := hid (by rw [List.take_length, hsucc.out])
          go_wp2
          go_roundw
          case rel => exact ⟨k + 1, by omega, by go_num, by rw [← hf.out]; exact ojH.out, ejH.out⟩
          case measure => simp [intOf]; omega
    · obtain rfl : k = 4 := by omega
      have hl6 := hlen.out 4 (by omega)
      go_wp2_with fail
      refine (usort_c _ _ (by omega) wr okH.out).mono ?_
      rintro e w2 ⟨rfl, o2, e2⟩
      have o2H := hid o2
      clear o2
      go_wp2
      go_ret
      exact ⟨_, rfl, o2H.out, ekH.out.trans e2⟩
end Go.Proofs.YtdmdnhceiddcfaaGreat
