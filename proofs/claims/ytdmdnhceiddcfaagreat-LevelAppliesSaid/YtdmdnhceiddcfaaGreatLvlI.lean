/- The walk of numbers (what an edit tells of numbers). -/
import Derived.Test.YtdmdnhceiddcfaaGreatLvlH
set_option linter.all false
namespace Go.Proofs.YtdmdnhceiddcfaaGreat
open Go.RowKit Go.Sl Go.Scree

def vnum (V : VerM) (k : Nat) : Nat := if k = 0 then V.next else if k = 1 then V.log else V.seq
def enum (E : EditM) (k : Nat) : Nat := if k = 0 then E.next else if k = 1 then E.log else E.seq
def setNum (V : VerM) (k n : Nat) : VerM := if k = 0 then { V with next := n } else if k = 1 then { V with log := n } else { V with seq := n }
/-- So many numbers are told. -/
def toldK (V : VerM) (E : EditM) : Nat → VerM
  | 0 => V
  | k + 1 => setNum (toldK V E k) k (told (enum E k) (vnum V k))
theorem toldK_num (V : VerM) (E : EditM) {k : Nat} (h : k < 3) : vnum (toldK V E k) k = vnum V k := by
  rcases (by omega : k = 0 ∨ k = 1 ∨ k = 2) with rfl | rfl | rfl <;> rfl
theorem toldK_lv (V : VerM) (E : EditM) : ∀ k, (toldK V E k).lv = V.lv
  | 0 => rfl
  | k + 1 => by
    have := toldK_lv V E k
    unfold toldK setNum
    split
    · exact this
    · split <;> exact this
theorem toldK_three (V : VerM) (E : EditM) : toldK V E 3 = ⟨V.lv, told E.next V.next, told E.log V.log, told E.seq V.seq⟩ := rfl
theorem setNum_self (V : VerM) (k : Nat) (h : k < 3) : setNum V k (vnum V k) = V := by
  rcases (by omega : k = 0 ∨ k = 1 ∨ k = 2) with rfl | rfl | rfl <;> rfl
theorem ver_num (S : Nat → SlA) (V : VerM) {k : Nat} (h : k < 3) : (verCells S V)[4 + k]? = some (.int .u64 (vnum V k)) := by
  rcases (by omega : k = 0 ∨ k = 1 ∨ k = 2) with rfl | rfl | rfl <;> rfl
theorem ver_setNum (S : Nat → SlA) (V : VerM) {k : Nat} (h : k < 3) (n : Nat) : (verCells S V).setIfInBounds (4 + k) (.int .u64 n) = verCells S (setNum V k n) := by
  rcases (by omega : k = 0 ∨ k = 1 ∨ k = 2) with rfl | rfl | rfl <;> rfl
def okK (V : VerM) (E : EditM) (k : Nat) : Bool := (List.range k).all fun i => numOk (enum E i) (vnum V i)
theorem okK_succ (V : VerM) (E : EditM) (k : Nat) : okK V E (k + 1) = (okK V E k && numOk (enum E k) (vnum V k)) := by
  unfold okK
  rw [List.range_succ, List.all_append]
  simp
theorem okK_three (V : VerM) (E : EditM) : okK V E 3 = (numOk E.next V.next && numOk E.log V.log && numOk E.seq V.seq) := by
  simp [okK, List.range_succ, enum, vnum, Bool.and_assoc]
theorem okK_false {V : VerM} {E : EditM} {k : Nat} (hk : k < 3) (h : numOk (enum E k) (vnum V k) = false) : (numOk E.next V.next && numOk E.log V.log && numOk E.seq V.seq) = false := by
  rcases (by omega : k = 0 ∨ k = 1 ∨ k = 2) with rfl | rfl | rfl <;> simp [enum, vnum] at h <;> simp [h]
theorem VerO.num {w W0 : World} {p : Nat} {S : Nat → SlA} {V : VerM} {D : List Chunk} (h : VerO w W0 p S V D) {k : Nat} (hk : k < 3) (n : Nat) : VerO (w.setCell ⟨p, 4 + k, none⟩ (.int .u64 n)) W0 p S (setNum V k n) D := by
  have o := Own.set (i := 4 + k) h.own (.int .u64 n)
  rw [ver_setNum S V hk n] at o
  have e : (setNum V k n).lv = V.lv := by
    unfold setNum
    split
    · rfl
    · split <;> rfl
  exact ⟨o, fun l hl => by rw [e]; exact h.rd l hl, fun l hl => by rw [e]; exact h.few l hl, h.ext.set _ _⟩
def ntoV (p : Nat) (E : EditM) : Value := .agg #[.int .u64 E.next, .pointer (some ⟨p, 4, none⟩), .int .u64 E.log, .pointer (some ⟨p, 5, none⟩), .int .u64 E.seq, .pointer (some ⟨p, 6, none⟩)]
theorem nto_at (p : Nat) (E : EditM) (k : Nat) (h : k < 3) (w : World) : (Instr.index 101 (ntoV p E) (.int .i64 k)).run Tryz.prog w = .ok (.agg #[.int .u64 (enum E k), .pointer (some ⟨p, 4 + k, none⟩)]) w := by
  rcases (by omega : k = 0 ∨ k = 1 ∨ k = 2) with rfl | rfl | rfl <;> (unfold ntoV; kernel_rfl)
theorem numb1_c (w : World) (q p a b : Nat) (hq : w.cell? ⟨q, 0, none⟩ = some (.pointer (some ⟨p, 0, none⟩))) (ha : w.cell? ⟨p, 4, none⟩ = some (.int .u64 a)) (hb : w.cell? ⟨p, 6, none⟩ = some (.int .u64 b)) :
    Tells w 57 #[.pointer (some ⟨q, 0, none⟩)] (fun m => !(decide (m.file < a) && decide (m.seq ≤ b))) := by
  refine ⟨enters_of Tryz.func57 (by kernel_rfl) rfl, fun x w' k => ?_⟩
  have c1 := k.cell hq
  have c2 := k.cell ha
  have c3 := k.cell hb
  obtain ⟨xf, xz, xa, xb, xq⟩ := x
  have kH := hid ((Kp.refl w').alloc (.cells #[.int .u64 xf, .int .i64 xz, .string xa, .string xb, .int .u64 xq] 43 (0, 0)))
  have hq' : q < w'.heap.size := World.block_lt_of_cell? w' _ c1
  have hp' : p < w'.heap.size := World.block_lt_of_cell? w' _ c2
  unfold metaV
  dsimp only
  clear k hq ha hb
  by_cases h1 : xf < a
  · have d1 : decide ((xf : Int) ≥ (a : Int)) = false := decide_eq_false (by omega)
    have d1' : decide (a ≤ xf) = false := decide_eq_false (by omega)
    have e1 : decide (xf < a) = true := decide_eq_true h1
    by_cases h2 : xq ≤ b
    · have d2 : decide ((xq : Int) > (b : Int)) = false := decide_eq_false (by omega)
      have d2' : decide (b < xq) = false := decide_eq_false (by omega)
      have hr : Hid ((!(decide (xf < a) && decide (xq ≤ b))) = false) := hid (by simp [h1, h2])
      clear h1 h2 e1
      go_enter Tryz.func57, Tryz.ntmps57
      go_wp2_with fail
      go_quiet (fail)
      go_wp2
      go_ret
      exact ⟨by rw [hr.out]; rfl, kH.out.drewN _⟩
    · have d2 : decide ((xq : Int) > (b : Int)) = true := decide_eq_true (by omega)
      have d2' : decide (b < xq) = true := decide_eq_true (by omega)
      have hr : Hid ((!(decide (xf < a) && decide (xq ≤ b))) = true) := hid (by simp [h2])
      clear h1 h2 e1
      go_enter Tryz.func57, Tryz.ntmps57
      go_wp2_with fail
      go_quiet (fail)
      go_wp2
      go_ret
      exact ⟨by rw [hr.out]; rfl, kH.out.drewN _⟩
  · have d1 : decide ((xf : Int) ≥ (a : Int)) = true := decide_eq_true (by omega)
    have d1' : decide (a ≤ xf) = true := decide_eq_true (by omega)
    have hr : Hid ((!(decide (xf < a) && decide (xq ≤ b))) = true) := hid (by simp [h1])
    clear h1
    go_enter Tryz.func57, Tryz.ntmps57
    go_wp2_with fail
    go_quiet (fail)
    go_wp2
    go_ret
    exact ⟨by rw [hr.out]; rfl, kH.out.drewN _⟩
theorem below_split (nw : Lvls) (a b k : Nat) (hk : k < 4) (hb : (nw k).any (fun m => !(decide (m.file < a) && decide (m.seq ≤ b))) = true) : (flatM nw).all (fun m => decide (m.file < a) && decide (m.seq ≤ b)) = false := by
  cases ha : (flatM nw).all (fun m => decide (m.file < a) && decide (m.seq ≤ b)) with
  | false => rfl
  | true =>
    obtain ⟨m, hm, hbad⟩ := List.any_eq_true.1 hb
    have := List.all_eq_true.1 ha m (mem_flat.2 ⟨k, hk, hm⟩)
    rw [this] at hbad; simp at hbad
theorem below_whole (nw : Lvls) (a b : Nat) (h : ∀ l, l < 4 → (nw l).any (fun m => !(decide (m.file < a) && decide (m.seq ≤ b))) = false) : (flatM nw).all (fun m => decide (m.file < a) && decide (m.seq ≤ b)) = true := by
  refine List.all_eq_true.2 fun m hm => ?_
  obtain ⟨l, hl, hm⟩ := mem_flat.1 hm
  have := List.any_eq_false.1 (h l hl) m hm
  simpa using this
theorem edit_num (g : SlA) (S : Nat → SlA) (E : EditM) {k : Nat} (h : k < 3) : (editCells g S E)[5 + k]? = some (.int .u64 (enum E k)) := by
  rcases (by omega : k = 0 ∨ k = 1 ∨ k = 2) with rfl | rfl | rfl <;> rfl
set_option maxRecDepth 20000 in
set_option maxHeartbeats 6400000 in
theorem numb_c (W0 : World) (p : Nat) (S : Nat → SlA) (V : VerM) (D : List Chunk) (g : SlA) (SE : Nat → SlA) (E : EditM) (w : World) (h : VerO w W0 p S V D) (hE : EditR W0 g SE E) :
    Calls Tryz.prog 24 #[.pointer (some ⟨p, 0, none⟩), editV g SE E] w fun e w' => Kp W0 w' ∧ (((numOk E.next V.next && numOk E.log V.log && numOk E.seq V.seq) = false ∧ e = .returned (.int .i64 3)) ∨
      ((numOk E.next V.next && numOk E.log V.log && numOk E.seq V.seq) = true ∧ ((flatM E.nw).all fun m => decide (m.file < told E.next V.next) && decide (m.seq ≤ told E.seq V.seq)) = false ∧ e = .returned (.int .i64 3)) ∨
      ((numOk E.next V.next && numOk E.log V.log && numOk E.seq V.seq) = true ∧ ((flatM E.nw).all fun m => decide (m.file < told E.next V.next) && decide (m.seq ≤ told E.seq V.seq)) = true ∧ e = .returned (.int .i64 0) ∧ ∃ D', VerO w' W0 p S ⟨V.lv, told E.next V.next, told E.log V.log, told E.seq V.seq⟩ D' ∧ (AllG D S V.lv → AllG D' S V.lv))) := by
  have hEH := hid hE
  have hH := hid h
  clear h hE
  have v1 := hid (hH.out.addC (c := pts w.heap.size (.cells #[.pointer (some ⟨p, 0, none⟩)] 24 (0, 0))) ((Own.start w).alloc _) ((Ext.refl w).alloc _))
  have v2 := hid (v1.out.addC (c := pts (w.heap.size + 1) (.cells (editCells g SE E) 34 (0, 0))) (by have := (Own.start (w.alloc (.cells #[.pointer (some ⟨p, 0, none⟩)] 24 (0, 0)))).alloc (.cells (editCells g SE E) 34 (0, 0)); simpa using this) ((Ext.refl _).alloc (.cells (editCells g SE E) 34 (0, 0))))
  clear v1 hH
  unfold editCells at v2
  have en := v2.out.own
  have q0 := (Own.pick 1 en).cell (i := 5) (v := .int .u64 E.next) rfl
  have q1 := (Own.pick 1 en).cell (i := 6) (v := .int .u64 E.log) rfl
  have q2 := (Own.pick 1 en).cell (i := 7) (v := .int .u64 E.seq) rfl
  have q3 := (Own.pick 2 en).cell (i := 0) (v := .pointer (some ⟨p, 0, none⟩)) rfl
  clear en
  unfold editV
  go_enter Tryz.func24, Tryz.ntmps24
  go_wp2_with fail
  go_quiet (fail)
  clear q0 q1 q2 q3
  have v3 : Hid (VerO ((w.alloc (.cells #[.pointer (some ⟨p, 0, none⟩)] 24 (0, 0))).alloc (.cells (editCells g SE E) 34 (0, 0))) W0 p S V (pts (w.heap.size + 1) (.cells (editCells g SE E) 34 (0, 0)) :: pts w.heap.size (.cells #[.pointer (some ⟨p, 0, none⟩)] 24 (0, 0)) :: D)) := v2
  have v4 := hid (v3.out.kp ((Kp.refl _).drewN nq))
  obtain ⟨vb, hvb⟩ : ∃ vb, w.heap.size = vb := ⟨_, rfl⟩
  obtain ⟨eb, heb⟩ : ∃ eb, w.heap.size + 1 = eb := ⟨_, rfl⟩
  rw [heb, hvb] at v4
  rw [hvb] at heb
  have hebH := hid heb
  rw [hvb]
  have hvbH := hid hvb
  clear v2 v3 hvb
  rw [heb]
  clear heb
  go_wp2_with fail
  obtain ⟨wb, hwb⟩ : ∃ wb, ((w.alloc (.cells #[.pointer (some ⟨p, 0, none⟩)] 24 (0, 0))).alloc (.cells (editCells g SE E) 34 (0, 0))).drewN nq = wb := ⟨_, rfl⟩
  rw [hwb] at v4
  have hwbH := hid hwb
  clear hwb
  go_loopw [28] (fun i wr => ∃ k : Nat, k ≤ 3 ∧ i = .int .i64 k ∧ VerO wr W0 p S (toldK V E k) (pts eb (.cells (editCells g SE E) 34 (0, 0)) :: pts vb (.cells #[.pointer (some ⟨p, 0, none⟩)] 24 (0, 0)) :: D) ∧ okK V E k = true) (fun i _ => 3 - (intOf i).toNat)
  case atStart => exact ⟨0, by omega, rfl, by have := v4.out; rw [← hwbH.out] at this; exact this, rfl⟩
  case round =>
    clear v4
    obtain ⟨k, hk, rfl, hv, hok⟩ := hrel
    have hvH := hid hv
    have hokH := hid hok
    clear hv hok
    by_cases hk3 : k < 3
    · have hk3' : (k : Int) < 3 := by omega
      have hat := nto_at p E k hk3
      unfold ntoV at hat
      have c4 : wr.cell? ⟨p, 4 + k, none⟩ = some (.int .u64 (vnum V k)) := by
        have := hvH.out.own.cell (ver_num S (toldK V E k) hk3)
        rwa [toldK_num V E hk3] at this
      have fz : wr.frozen? ⟨p, 4 + k, none⟩ = false := hvH.out.own.free _
      have hpl : p < wr.heap.size := hvH.out.own.lt
      have hne : p ≠ wr.heap.size := by omega
      have hsu := hid (okK_succ V E k)
      have hof := hid (@okK_false V E k hk3)
      have htk : Hid (toldK V E (k + 1) = setNum (toldK V E k) k (told (enum E k) (vnum V k))) := hid rfl
      have hns : Hid (setNum (toldK V E k) k (vnum V k) = toldK V E k) := hid (by have := setNum_self (toldK V E k) k hk3; rwa [toldK_num V E hk3] at this)
      have va := hid (hvH.out.kp ((Kp.refl wr).alloc (.cells #[.int .u64 (enum E k), .pointer (some ⟨p, 4 + k, none⟩)] 100 (0, 0))))
      generalize enum E k = n at *
      generalize vnum V k = old at *
      by_cases h0 : n = 0
      · subst h0
        have hok2 : Hid (okK V E (k + 1) = true) := hid (by rw [hsu.out, hokH.out]; rfl)
        have ht2 : Hid (toldK V E (k + 1) = toldK V E k) := hid (by rw [htk.out]; show setNum _ k (if (0 : Nat) = 0 then old else 0) = _; rw [if_pos rfl, hns.out])
        go_wp2_with fail
        go_roundw
        case rel => exact ⟨k + 1, by omega, by go_num, by rw [ht2.out]; exact va.out, hok2.out⟩
        case measure => simp [intOf]; omega
      · have e0 : ((n : Int) == 0) = false := by rw [beq_eq_false_iff_ne]; omega
        have e0' : (n == 0) = false := by rw [beq_eq_false_iff_ne]; exact h0
        by_cases h1 : n < old
        · have d1 : decide (n < old) = true := decide_eq_true h1
          have hr : Hid ((numOk E.next V.next && numOk E.log V.log && numOk E.seq V.seq) = false) := hid (hof.out (by simp [numOk, h0]; omega))
          have hbs := hid va.out.base
          clear h0 h1
          go_wp2_with fail
          go_quiet (fail)
          have hbs2 := hid (hbs.out.drewN nq)
          go_wp2_with fail
          go_ret
          exact ⟨hbs2.out, .inl ⟨hr.out, rfl⟩⟩
        · have d1 : decide (n < old) = false := decide_eq_false h1
          by_cases h2 : n ≤ 1099511627776
          · have d2 : decide ((n : Int) > 1099511627776) = false := decide_eq_false (by omega)
            have d2' : decide ((1099511627776 : Int) < (n : Int)) = false := decide_eq_false (by omega)
            have hok2 : Hid (okK V E (k + 1) = true) := hid (by rw [hsu.out, hokH.out]; simp [numOk]; omega)
            have ht2 : Hid (toldK V E (k + 1) = setNum (toldK V E k) k n) := hid (by rw [htk.out]; unfold told; rw [if_neg h0])
            clear h0 h1 h2
            go_wp2_with fail
            go_quiet (fail)
            have vd := hid ((va.out.kp ((Kp.refl _).drewN nq)).num hk3 n)
            go_wp2_with fail
            go_roundw
            case rel => exact ⟨k + 1, by omega, by go_num, by rw [ht2.out]; exact vd.out, hok2.out⟩
            case measure => simp [intOf]; omega
          · have d2 : decide ((n : Int) > 1099511627776) = true := decide_eq_true (by omega)
            have d2' : decide ((1099511627776 : Int) < (n : Int)) = true := decide_eq_true (by omega)
            have hr : Hid ((numOk E.next V.next && numOk E.log V.log && numOk E.seq V.seq) = false) := hid (hof.out (by simp [numOk, h0]; omega))
            have hbs := hid va.out.base
            clear h0 h1 h2
            go_wp2_with fail
            go_quiet (fail)
            have hbs2 := hid (hbs.out.drewN nq)
            go_wp2_with fail
            go_ret
            exact ⟨hbs2.out, .inl ⟨hr.out, rfl⟩⟩
    · have ek3 : k = 3 := by omega
      have hnum : Hid ((numOk E.next V.next && numOk E.log V.log && numOk E.seq V.seq) = true) := hid (by rw [← okK_three, ← ek3]; exact hokH.out)
      have hvH3 : Hid (VerO wr W0 p S (toldK V E 3) (pts eb (.cells (editCells g SE E) 34 (0, 0)) :: pts vb (.cells #[.pointer (some ⟨p, 0, none⟩)] 24 (0, 0)) :: D)) := hid (by rw [← ek3]; exact hvH.out)
      have d3 : decide (k < 3) = false := decide_eq_false hk3
      have en := hvH3.out.own
      have b0 := (Own.pick 1 en).cell (i := 1) (v := .slice (SE 0).A (SE 0).n (SE 0).c) rfl
      have b1 := (Own.pick 1 en).cell (i := 2) (v := .slice (SE 1).A (SE 1).n (SE 1).c) rfl
      have b2 := (Own.pick 1 en).cell (i := 3) (v := .slice (SE 2).A (SE 2).n (SE 2).c) rfl
      have b3 := (Own.pick 1 en).cell (i := 4) (v := .slice (SE 3).A (SE 3).n (SE 3).c) rfl
      have cv : Hid (wr.cell? ⟨vb, 0, none⟩ = some (.pointer (some ⟨p, 0, none⟩))) := hid ((Own.pick 2 en).cell (i := 0) rfl)
      have ca : Hid (wr.cell? ⟨p, 4, none⟩ = some (.int .u64 (told E.next V.next))) := hid (en.cell (i := 4) rfl)
      have cb : Hid (wr.cell? ⟨p, 6, none⟩ = some (.int .u64 (told E.seq V.seq))) := hid (en.cell (i := 6) rfl)
      have hvE : Hid (VerO wr W0 p S ⟨V.lv, told E.next V.next, told E.log V.log, told E.seq V.seq⟩ (pts eb (.cells (editCells g SE E) 34 (0, 0)) :: pts vb (.cells #[.pointer (some ⟨p, 0, none⟩)] 24 (0, 0)) :: D)) := hid hvH3.out
      clear en hvH hvH3 ek3 hokH
      go_wp2_with fail
      clear b0 b1 b2 b3
      obtain ⟨na, hna⟩ : ∃ na, told E.next V.next = na := ⟨_, rfl⟩
      obtain ⟨nb, hnb⟩ : ∃ nb, told E.seq V.seq = nb := ⟨_, rfl⟩
      rw [hna] at ca
      rw [hnb] at cb
      have hnaH := hid hna
      have hnbH := hid hnb
      clear hna hnb
      go_loopw [56] (fun i wr2 => ∃ l : Nat, l ≤ 4 ∧ i = .int .i64 l ∧ Kp wr wr2 ∧ ∀ i, i < l → (E.nw i).any (fun m => !(decide (m.file < na) && decide (m.seq ≤ nb))) = false) (fun i _ => 4 - (intOf i).toNat)
      case atStart => exact ⟨0, by omega, rfl, Kp.refl _, fun i hi => by omega⟩
      case round =>
        obtain ⟨l, hl, rfl, kr, hp⟩ := hrel
        have kH := hid kr
        have hpH := hid hp
        clear hp kr
        by_cases hlt : l < 4
        · have hlt' : (l : Int) < 4 := by omega
          have hc := hid (mcontFunc_c (fun m => !(decide (m.file < na) && decide (m.seq ≤ nb))) 57 #[.pointer (some ⟨vb, 0, none⟩)] _ _ _ ((hvE.out.kp kH.out).base.rd (hEH.out.nw l hlt)) (numb1_c _ vb p na nb (kH.out.cell cv.out) (kH.out.cell ca.out) (kH.out.cell cb.out)))
          have hx := bool_cases ((E.nw l).any fun m => !(decide (m.file < na) && decide (m.seq ≤ nb)))
          have hs := hid (below_split E.nw na nb l hlt)
          generalize hg : (E.nw l).any (fun m => !(decide (m.file < na) && decide (m.seq ≤ nb))) = b at *
          have hst : Hid (∀ i, i < l + 1 → b = false → (E.nw i).any (fun m => !(decide (m.file < na) && decide (m.seq ≤ nb))) = false) := hid (by
            intro i hi hb
            rcases Nat.lt_or_ge i l with h' | h'
            · exact hpH.out i h'
            · obtain rfl : i = l := by omega
              rw [hg]; exact hb)
          unfold SlA.v at hc
          have hat := arr_at SE l hlt
          unfold arrV at hat
          clear hg
          go_wp2_with fail
          refine hc.out.mono ?_
          rintro e w1 ⟨rfl, k1⟩
          have k1H := hid (kH.out.trans k1)
          clear k1
          rcases hx with rfl | rfl
          · have hbs := hid (hvE.out.kp k1H.out).base
            have hbl := hid (hs.out rfl)
            go_wp2_with fail
            go_ret
            exact ⟨hbs.out, .inr (.inl ⟨hnum.out, by rw [hnaH.out, hnbH.out]; exact hbl.out, rfl⟩)⟩
          · go_wp2_with fail
            go_roundw
            case rel => exact ⟨l + 1, by omega, by go_num, k1H.out, fun i hi => hst.out i hi (by simp)⟩
            case measure => simp [intOf]; omega
        · obtain rfl : l = 4 := by omega
          have ha := hid (below_whole E.nw na nb hpH.out)
          have hvF := hid (hvE.out.kp kH.out)
          go_wp2_with fail
          go_ret
          exact ⟨hvF.out.base, .inr (.inr ⟨hnum.out, by rw [hnaH.out, hnbH.out]; exact ha.out, rfl, _, hvF.out, fun h => (h.more _).more _⟩)⟩
end Go.Proofs.YtdmdnhceiddcfaaGreat
