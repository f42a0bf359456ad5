/- The walks of shape, New. · The walk of Apply. -/
import Derived.Test.YtdmdnhceiddcfaaGreatLvlI
set_option linter.all false
namespace Go.Proofs.YtdmdnhceiddcfaaGreat
open Go.RowKit Go.Sl Go.Scree

theorem adjB_iff : ∀ {l : List MetaM}, adjB l = true ↔ ∀ (i : Nat) (a b : MetaM), l[i]? = some a → l[i + 1]? = some b → ltK a.last b.first = true
  | [] => by simp [adjB]
  | [x] => by
    simp only [adjB, true_iff]
    intro i a b h1 h2
    simp at h2
  | x :: y :: l => by
    simp only [adjB, Bool.and_eq_true]
    rw [adjB_iff (l := y :: l)]
    constructor
    · rintro ⟨h1, h2⟩ i a b ha hb
      cases i with
      | zero =>
        simp at ha hb
        subst ha; subst hb; exact h1
      | succ i => exact h2 i a b (by simpa using ha) (by simpa using hb)
    · intro h
      exact ⟨h 0 x y rfl rfl, fun i a b ha hb => h (i + 1) a b (by simpa using ha) (by simpa using hb)⟩
def shapeE (lv : Lvls) : Int := if fewB lv = false then 4 else if shapeB lv = false then 1 else 0
theorem few_split {lv : Lvls} {k : Nat} (hk : k < 4) (h : 30 < (lv k).length) : shapeE lv = 4 := by
  have : fewB lv = false := by
    cases hf : fewB lv with
    | false => rfl
    | true =>
      simp only [fewB, four, List.all_cons, List.all_nil, Bool.and_true, Bool.and_eq_true, decide_eq_true_eq] at hf
      rcases (by omega : k = 0 ∨ k = 1 ∨ k = 2 ∨ k = 3) with rfl | rfl | rfl | rfl <;> omega
  unfold shapeE; rw [if_pos this]
theorem few_whole {lv : Lvls} (h : ∀ l, l < 4 → (lv l).length ≤ 30) : fewB lv = true := by
  simp only [fewB, four, List.all_cons, List.all_nil, Bool.and_true, Bool.and_eq_true, decide_eq_true_eq]
  exact ⟨h 0 (by omega), h 1 (by omega), h 2 (by omega), h 3 (by omega)⟩
theorem shape_split {lv : Lvls} {k : Nat} (hf : fewB lv = true) (h1 : 1 ≤ k) (hk : k < 4) (h : adjB (lv k) = false) : shapeE lv = 1 := by
  have : shapeB lv = false := by
    simp only [shapeB, List.all_cons, List.all_nil, Bool.and_true]
    rcases (by omega : k = 1 ∨ k = 2 ∨ k = 3) with rfl | rfl | rfl <;> simp [h]
  unfold shapeE; rw [if_neg (by rw [hf]; simp), if_pos this]
theorem shape_whole {lv : Lvls} (hf : fewB lv = true) (h : ∀ l, 1 ≤ l → l < 4 → adjB (lv l) = true) : shapeE lv = 0 := by
  have : shapeB lv = true := by
    simp only [shapeB, List.all_cons, List.all_nil, Bool.and_true]
    rw [h 1 (by omega) (by omega), h 2 (by omega) (by omega), h 3 (by omega) (by omega)]; rfl
  unfold shapeE; rw [if_neg (by rw [hf]; simp), if_neg (by rw [this]; simp)]
set_option maxRecDepth 20000 in
set_option maxHeartbeats 6400000 in
theorem shape_c (p : Nat) (S : Nat → SlA) (V : VerM) (w : World) (h : VerR w p S V) :
    Calls Tryz.prog 25 #[.pointer (some ⟨p, 0, none⟩)] w fun e w' => e = .returned (.int .i64 (shapeE V.lv)) ∧ Kp w w' := by
  have hH := hid h
  have hSn : ∀ l, l < 4 → (S l).n = (V.lv l).length := by
    intro l hl
    obtain ⟨_, _, hv, _⟩ := (h.rd l hl).form
    unfold SlA.v at hv
    simp only [Value.slice.injEq] at hv
    exact hv.2.1
  have hSnH := hid hSn
  clear h hSn
  go_enter Tryz.func25, Tryz.ntmps25
  go_wp2_with fail
  go_loopw [6] (fun i wr => ∃ l : Nat, l ≤ 4 ∧ i = .int .i64 l ∧ Kp w wr ∧ ∀ i, i < l → (V.lv i).length ≤ 30) (fun i _ => 4 - (intOf i).toNat)
  case atStart => exact ⟨0, by omega, rfl, Kp.refl _, fun i hi => by omega⟩
  case round =>
    obtain ⟨l, hl, rfl, kr, hp⟩ := hrel
    have kH := hid kr
    have hpH := hid hp
    clear hp kr
    by_cases hlt : l < 4
    · have hlt' : (l : Int) < 4 := by omega
      have cl := kH.out.cell (hH.out.lvl l hlt)
      rw [hSnH.out l hlt] at cl
      have h16 := hH.out.few l hlt
      have hfs := hid (@few_split V.lv l hlt)
      have hst : Hid ((V.lv l).length ≤ 30 → ∀ i, i < l + 1 → (V.lv i).length ≤ 30) := hid (fun h i hi => by
        rcases Nat.lt_or_ge i l with h' | h'
        · exact hpH.out i h'
        · obtain rfl : i = l := by omega
          exact h)
      generalize (V.lv l).length = n at *
      by_cases hn : n ≤ 30
      · have d1 : decide ((n : Int) > 30) = false := decide_eq_false (by omega)
        have d1' : decide ((30 : Int) < (n : Int)) = false := decide_eq_false (by omega)
        go_wp2_with fail
        go_roundw
        case rel => exact ⟨l + 1, by omega, by go_num, kH.out, hst.out hn⟩
        case measure => simp [intOf]; omega
      · have d1 : decide ((n : Int) > 30) = true := decide_eq_true (by omega)
        have d1' : decide ((30 : Int) < (n : Int)) = true := decide_eq_true (by omega)
        have hr := hid (hfs.out (by omega))
        clear hfs hst
        go_wp2_with fail
        go_ret
        exact ⟨by rw [hr.out]; rfl, kH.out⟩
    · have d4 : decide (l < 4) = false := decide_eq_false hlt
      have hf : Hid (fewB V.lv = true) := hid (few_whole fun i hi => hpH.out i (by omega))
      go_wp2_with fail
      go_loopw [4] (fun i wr => ∃ l : Nat, 1 ≤ l ∧ l ≤ 4 ∧ i = .int .i64 l ∧ Kp w wr ∧ ∀ i, 1 ≤ i → i < l → adjB (V.lv i) = true) (fun i _ => 4 - (intOf i).toNat)
      case atStart => exact ⟨1, by omega, by omega, rfl, kH.out, fun i h1 h2 => by omega⟩
      case round =>
        clear kH hpH hl
        obtain ⟨m, h1m, hm4, rfl, kr, hp⟩ := hrel
        have kH := hid kr
        have hpH := hid hp
        clear hp kr
        by_cases hmt : m < 4
        · have hmt' : (m : Int) < 4 := by omega
          have hxs : Hid (Rd w metaE (S m).v (V.lv m)) := hid (hH.out.rd m hmt)
          have cl0 := hH.out.lvl m hmt
          have hn0 := hSnH.out m hmt
          have hss := hid (@shape_split V.lv m hf.out h1m hmt)
          have h16 := hH.out.few m hmt
          have hst : Hid (adjB (V.lv m) = true → ∀ i, 1 ≤ i → i < m + 1 → adjB (V.lv i) = true) := hid (fun h i h1 h2 => by
            rcases Nat.lt_or_ge i m with h' | h'
            · exact hpH.out i h1 h'
            · obtain rfl : i = m := by omega
              exact h)
          unfold SlA.v at hxs
          rw [hn0] at hxs cl0
          clear hn0
          generalize V.lv m = xs at *
          have cl0H := hid cl0
          clear cl0
          go_wp2_with fail
          go_loopw [5] (fun i wr => ∃ j k : Nat, i = .int .i64 j ∧ j = k + 1 ∧ k ≤ xs.length ∧ Kp w wr ∧ ∀ (i : Nat) (a b : MetaM), i < k → xs[i]? = some a → xs[i + 1]? = some b → ltK a.last b.first = true) (fun i _ => xs.length + 1 - (intOf i).toNat)
          case atStart => exact ⟨1, 0, rfl, rfl, Nat.zero_le _, kH.out, fun i a b hi => by omega⟩
          case round =>
            clear kH
            obtain ⟨j, k, rfl, hjk, hk, kr, hp⟩ := hrel
            have kH := hid kr
            have hpH := hid hp
            have hjkH := hid hjk
            clear hp kr
            have cl := kH.out.cell cl0H.out
            have hw1 : IntKind.i64.wrap ((j : Int) - 1) = (k : Int) := by rw [IntWalk.i64_in _ (by omega)]; omega
            by_cases hjl : j < xs.length
            · obtain ⟨a, ha⟩ : ∃ a, xs[k]? = some a := ⟨_, List.getElem?_eq_getElem (by omega)⟩
              obtain ⟨b, hb⟩ : ∃ b, xs[j]? = some b := ⟨_, List.getElem?_eq_getElem hjl⟩
              have hjl' : (j : Int) < (xs.length : Int) := by omega
              have hkl : k < xs.length := by omega
              obtain ⟨g, off, hA, _, a0, a1, a2, a3, a4⟩ := rd_meta (kH.out.rd hxs.out) rfl ha
              obtain ⟨g', off', hA', _, b0, b1, b2, b3, b4⟩ := rd_meta (kH.out.rd hxs.out) rfl hb
              rw [hA] at hA'
              simp only [Option.some.injEq, Addr.mk.injEq, and_true] at hA'
              obtain ⟨rfl, rfl⟩ := hA'
              rw [hA] at cl
              have hge := geq_ltK a.last b.first
              have hbb := bool_cases (ltK a.last b.first)
              have hab : Hid (ltK a.last b.first = true → ∀ (i : Nat) (x y : MetaM), i < k + 1 → xs[i]? = some x → xs[i + 1]? = some y → ltK x.last y.first = true) := hid (fun h i x y hi hx hy => by
                rcases Nat.lt_or_ge i k with h' | h'
                · exact hpH.out i x y h' hx hy
                · obtain rfl : i = k := by omega
                  rw [ha] at hx
                  rw [← hjkH.out, hb] at hy
                  obtain rfl := Option.some.inj hx
                  obtain rfl := Option.some.inj hy
                  exact h)
              have hno : Hid (ltK a.last b.first = false → adjB xs = false) := hid (fun h => by
                cases hc : adjB xs with
                | false => rfl
                | true =>
                  have := adjB_iff.1 hc k a b ha (by rw [← hjkH.out]; exact hb)
                  rw [h] at this; cases this)
              generalize ltK a.last b.first = bb at *
              have hAH := hid hA
              clear ha hb a0 a1 a2 a4 b0 b1 b3 b4 hA hjk
              rcases hbb with rfl | rfl
              · rw [Bool.not_true] at hge
                go_wp2_with fail
                go_quiet (fail)
                go_wp2_with fail
                go_roundw
                case rel => exact ⟨j + 1, j, by go_num, rfl, by omega, kH.out.drewN _, by have := hab.out (by simp); rw [← hjkH.out] at this; exact this⟩
                case measure => simp [intOf]; omega
              · rw [Bool.not_false] at hge
                have hr := hid (hss.out (hno.out rfl))
                clear hab hno hst hss
                go_wp2_with fail
                go_quiet (fail)
                go_wp2_with fail
                go_ret
                exact ⟨by rw [hr.out]; rfl, kH.out.drewN _⟩
            · have djl : decide (j < xs.length) = false := decide_eq_false hjl
              have hy : Hid (adjB xs = true) := hid (adjB_iff.2 fun i a b ha hb => hpH.out i a b (by have := (List.getElem?_eq_some_iff.1 hb).1; omega) ha hb)
              clear hjk
              go_wp2_with fail
              go_roundw
              case rel => exact ⟨m + 1, by omega, by omega, by go_num, kH.out, hst.out hy.out⟩
              case measure => simp [intOf]; omega
        · have hr : Hid (shapeE V.lv = 0) := hid (shape_whole hf.out fun i h1 h2 => hpH.out i h1 (by omega))
          have dm : decide (m < 4) = false := decide_eq_false hmt
          go_wp2_with fail
          go_ret
          exact ⟨by rw [hr.out]; rfl, kH.out⟩
theorem lnew_c (w : World) : Calls Tryz.prog 5 #[] w fun e w' => ∃ p S, e = .returned (.pointer (some ⟨p, 0, none⟩)) ∧ VerR w' p S newV ∧ Kp w w' := by
  go_enter Tryz.func5, Tryz.ntmps5
  go_wp2_with fail
  go_ret
  refine ⟨w.heap.size, fun _ => ⟨none, 0, 0⟩, rfl, ?_, (Kp.refl w).alloc _⟩
  have o := (Own.start w).alloc (.cells (verCells (fun _ => ⟨none, 0, 0⟩) newV) 61 (0, 0))
  exact ⟨fun l hl => o.cell (ver_at _ _ hl), o.cell (i := 4) rfl, o.cell (i := 5) rfl, o.cell (i := 6) rfl, fun l hl => .inl ⟨⟨none, 0, rfl, by simp [maxLen]⟩, rfl⟩, fun l hl => by simp [newV]⟩
end Go.Proofs.YtdmdnhceiddcfaaGreat
namespace Go.Proofs.YtdmdnhceiddcfaaGreat
open Go.RowKit Go.Sl Go.Scree

/-- What Apply tells. -/
def ApplySays (w w' : World) (e : Ending) (r : VerM ⊕ Int) : Prop := Kp w w' ∧ match r with
  | .inr c => e = .returned (.tuple #[.pointer none, .int .i64 c])
  | .inl W => ∃ p S, e = .returned (.tuple #[.pointer (some ⟨p, 0, none⟩), .int .i64 0]) ∧ VerR w' p S W
/-- What Apply tells: all four levels lie in what it owns. -/
def ApplyO (w w' : World) (e : Ending) (r : VerM ⊕ Int) : Prop := Kp w w' ∧ match r with
  | .inr c => e = .returned (.tuple #[.pointer none, .int .i64 c])
  | .inl W => ∃ p S D w0, e = .returned (.tuple #[.pointer (some ⟨p, 0, none⟩), .int .i64 0]) ∧ Kp w w0 ∧ VerO w' w0 p S W D ∧ AllG D S W.lv
theorem ApplyO.says {w w' : World} {e : Ending} {r : VerM ⊕ Int} (h : ApplyO w w' e r) : ApplySays w w' e r := by
  obtain ⟨k, h2⟩ := h
  refine ⟨k, ?_⟩
  revert h2
  cases r with
  | inr c => exact id
  | inl W => rintro ⟨p, S, D, w0, he, _, hv, _⟩; exact ⟨p, S, he, hv.ver⟩
theorem apply_form {V : VerM} {E : EditM} (h : allB E.nw = false) : applyP V E = .inr 2 := by unfold applyP; rw [if_pos h]
theorem apply_gone {V : VerM} {E : EditM} (h : allB E.nw = true) (g : goneP E.gone V.lv = none) : applyP V E = .inr 10 := by
  unfold applyP; rw [if_neg (by rw [h]; simp), g]
theorem apply_twice {V : VerM} {E : EditM} {lv : Lvls} (h : allB E.nw = true) (g : goneP E.gone V.lv = some lv) (t : twiceB (filesM lv) (filesM E.nw) = true) : applyP V E = .inr 11 := by
  unfold applyP; rw [if_neg (by rw [h]; simp), g]; dsimp only; rw [if_pos t]
theorem apply_num {V : VerM} {E : EditM} {lv : Lvls} (h : allB E.nw = true) (g : goneP E.gone V.lv = some lv) (t : twiceB (filesM lv) (filesM E.nw) = false) (n : (numOk E.next V.next && numOk E.log V.log && numOk E.seq V.seq) = false) : applyP V E = .inr 3 := by
  unfold applyP; rw [if_neg (by rw [h]; simp), g]; dsimp only; rw [if_neg (by rw [t]; simp), if_pos n]
theorem apply_below {V : VerM} {E : EditM} {lv : Lvls} (h : allB E.nw = true) (g : goneP E.gone V.lv = some lv) (t : twiceB (filesM lv) (filesM E.nw) = false) (n : (numOk E.next V.next && numOk E.log V.log && numOk E.seq V.seq) = true)
    (b : ((flatM E.nw).all fun m => decide (m.file < told E.next V.next) && decide (m.seq ≤ told E.seq V.seq)) = false) : applyP V E = .inr 3 := by
  unfold applyP; rw [if_neg (by rw [h]; simp), g]; dsimp only; rw [if_neg (by rw [t]; simp), if_neg (by rw [n]; simp), if_pos b]
theorem apply_shape {V : VerM} {E : EditM} {lv : Lvls} (h : allB E.nw = true) (g : goneP E.gone V.lv = some lv) (t : twiceB (filesM lv) (filesM E.nw) = false) (n : (numOk E.next V.next && numOk E.log V.log && numOk E.seq V.seq) = true)
    (b : ((flatM E.nw).all fun m => decide (m.file < told E.next V.next) && decide (m.seq ≤ told E.seq V.seq)) = true) : applyP V E = if shapeE (comeP lv E.nw) = 0 then .inl ⟨comeP lv E.nw, told E.next V.next, told E.log V.log, told E.seq V.seq⟩ else .inr (shapeE (comeP lv E.nw)) := by
  unfold applyP shapeE; rw [if_neg (by rw [h]; simp), g]; dsimp only; rw [if_neg (by rw [t]; simp), if_neg (by rw [n]; simp), if_neg (by rw [b]; simp)]
  cases fewB (comeP lv E.nw) <;> cases shapeB (comeP lv E.nw) <;> simp
theorem shapeE_zero {lv : Lvls} (h : shapeE lv = 0) : shapeB lv = true := by
  unfold shapeE at h
  cases hf : fewB lv <;> cases hs : shapeB lv <;> simp [hf, hs] at h ⊢
theorem vok_len {V : VerM} (h : VOk V) {l : Nat} (hl : l < 4) : (V.lv l).length ≤ 30 := by
  have := h.few
  simp only [fewB, four, List.all_cons, List.all_nil, Bool.and_true, Bool.and_eq_true, decide_eq_true_eq] at this
  rcases (by omega : l = 0 ∨ l = 1 ∨ l = 2 ∨ l = 3) with rfl | rfl | rfl | rfl
  · exact this.1
  · exact this.2.1
  · exact this.2.2.1
  · exact this.2.2.2
set_option maxRecDepth 20000 in
set_option maxHeartbeats 6400000 in
theorem applyO_c (pv : Nat) (S : Nat → SlA) (V : VerM) (g : SlA) (SE : Nat → SlA) (E : EditM) (w : World) (h : VerR w pv S V) (hV : VOk V) (hE : EditR w g SE E) :
    Calls Tryz.prog 9 #[.pointer (some ⟨pv, 0, none⟩), editV g SE E] w fun e w' => ApplyO w w' e (applyP V E) := by
  have k0 := hid ((Kp.refl w).alloc (.cells (editCells g SE E) 34 (0, 0)))
  have ec : ∀ i v, (editCells g SE E)[i]? = some v → (w.alloc (.cells (editCells g SE E) 34 (0, 0))).cell? ⟨w.heap.size, i, none⟩ = some v := fun i v hv => ((Own.start w).alloc (.cells (editCells g SE E) 34 (0, 0))).cell hv
  have ecH := hid ec
  have hEH := hid hE
  have hH := hid h
  have hVH := hid hV
  have hall := hid (all_c g SE E _ (hE.kp k0.out))
  have hbb := bool_cases (allB E.nw)
  have hfm := hid (@apply_form V E)
  have r1 := hid (@apply_gone V E)
  have r2 := hid (fun lv : Lvls => @apply_twice V E lv)
  have r3 := hid (fun lv : Lvls => @apply_num V E lv)
  have r4 := hid (fun lv : Lvls => @apply_below V E lv)
  have r5 := hid (fun lv : Lvls => @apply_shape V E lv)
  have hab : Hid (allB E.nw = true → allB E.nw = true) := hid id
  clear h hV hE ec
  unfold editV at hall ⊢
  go_enter Tryz.func9, Tryz.ntmps9
  go_wp2_with fail
  refine hall.out.mono ?_
  rintro e w1 ⟨rfl, k1⟩
  have k1H := hid (k0.out.trans k1)
  have c0 := k1.cell (ecH.out 0 (.slice g.A g.n g.c) rfl)
  have c1 := k1.cell (ecH.out 1 (.slice (SE 0).A (SE 0).n (SE 0).c) rfl)
  have c2 := k1.cell (ecH.out 2 (.slice (SE 1).A (SE 1).n (SE 1).c) rfl)
  have c3 := k1.cell (ecH.out 3 (.slice (SE 2).A (SE 2).n (SE 2).c) rfl)
  have c4 := k1.cell (ecH.out 4 (.slice (SE 3).A (SE 3).n (SE 3).c) rfl)
  have c5 := k1.cell (ecH.out 5 (.int .u64 E.next) rfl)
  have c6 := k1.cell (ecH.out 6 (.int .u64 E.log) rfl)
  have c7 := k1.cell (ecH.out 7 (.int .u64 E.seq) rfl)
  obtain ⟨eb, heb⟩ : ∃ eb, w.heap.size = eb := ⟨_, rfl⟩
  rw [heb] at c0 c1 c2 c3 c4 c5 c6 c7 ⊢
  clear k1 heb
  rcases hbb with hb | hb
  · rw [hb]
    have v0 := (k1H.out.cell (hH.out.lvl 0 (by omega)))
    have v1 := (k1H.out.cell (hH.out.lvl 1 (by omega)))
    have v2 := (k1H.out.cell (hH.out.lvl 2 (by omega)))
    have v3 := (k1H.out.cell (hH.out.lvl 3 (by omega)))
    have v4 := (k1H.out.cell hH.out.next)
    have v5 := (k1H.out.cell hH.out.log)
    have v6 := (k1H.out.cell hH.out.seq)
    have hbH := hid hb
    have hel : eb < w1.heap.size := World.block_lt_of_cell? w1 _ c0
    have hen : eb ≠ w1.heap.size := by omega
    clear hb
    go_wp2_with fail
    have vo : Hid (VerO (w1.alloc (.cells (verCells S V) 61 (0, 0))) w1 w1.heap.size S V []) := hid ⟨(Own.start w1).alloc _, fun l hl => rd_base (k1H.out.rd (hH.out.rd l hl)), hH.out.few, (Ext.refl w1).alloc _⟩
    obtain ⟨p, hp⟩ : ∃ p, w1.heap.size = p := ⟨_, rfl⟩
    rw [hp] at vo ⊢
    clear v0 v1 v2 v3 v4 v5 v6 hp hel hen
    refine (without_c w1 p S V [] g E.gone _ vo.out (k1H.out.rd hEH.out.gone) hVH.out.once).mono ?_
    rintro e w2 ⟨k2, hw⟩
    have k2H := hid k2
    rcases hw with ⟨rfl, hg⟩ | ⟨lv, S2, D2, rfl, hg, hv2⟩
    · have hr := hid (r1.out hbH.out hg)
      clear k2 hg
      go_wp2_with fail
      go_ret2
      exact ⟨k1H.out.trans k2H.out, by rw [hr.out]; rfl⟩
    · have hgH := hid hg
      have hv2H := hid hv2
      have d0 := k2.cell c0
      have d1 := k2.cell c1
      have d2 := k2.cell c2
      have d3 := k2.cell c3
      have d4 := k2.cell c4
      have d5 := k2.cell c5
      have d6 := k2.cell c6
      have d7 := k2.cell c7
      have hpart := hid (gone_part hg)
      clear k2 hg hv2 vo
      go_wp2_with fail
      refine (with_c w1 p S2 { V with lv := lv } D2 g SE E w2 hv2H.out (hEH.out.kp k1H.out) (fun l hl => Nat.le_trans (hpart.out l).length_le (Nat.le_trans (vok_len hVH.out hl) (by omega)))).mono ?_
      rintro e w3 ⟨k3, hw⟩
      have k3H := hid k3
      rcases hw with ⟨rfl, ht⟩ | ⟨ht, rfl, sv, S3, D3, hv3, hg3, hpm, hd, hu⟩
      · have hr := hid (r2.out lv hbH.out hgH.out ht)
        clear k3 ht
        go_wp2_with fail
        go_ret2
        exact ⟨k1H.out.trans k3H.out, by rw [hr.out]; rfl⟩
      · have htH := hid ht
        have hv3H := hid hv3
        have hg3H := hid hg3
        have hsm := hid (sorted_same hVH.out hpart.out hbH.out ht hpm hd hu)
        have f0 := k3.cell c0
        have f1 := k3.cell c1
        have f2 := k3.cell c2
        have f3 := k3.cell c3
        have f4 := k3.cell c4
        have f5 := k3.cell c5
        have f6 := k3.cell c6
        have f7 := k3.cell c7
        clear k3 ht hv3 hg3 hpm hd hu d0 d1 d2 d3 d4 d5 d6 d7
        go_wp2_with fail
        refine (numb_c w1 p S3 { V with lv := sv } D3 g SE E w3 hv3H.out (hEH.out.kp k1H.out)).mono ?_
        rintro e w4 ⟨k4, hw⟩
        have k4H := hid k4
        rcases hw with ⟨hn, rfl⟩ | ⟨hn, hbl, rfl⟩ | ⟨hn, hbl, rfl, D4, hv4, hg4⟩
        · have hr := hid (r3.out lv hbH.out hgH.out htH.out hn)
          clear k4 hn
          go_wp2_with fail
          go_ret2
          exact ⟨k1H.out.trans k4H.out, by rw [hr.out]; rfl⟩
        · have hr := hid (r4.out lv hbH.out hgH.out htH.out hn hbl)
          clear k4 hn hbl
          go_wp2_with fail
          go_ret2
          exact ⟨k1H.out.trans k4H.out, by rw [hr.out]; rfl⟩
        · have hr := hid (r5.out lv hbH.out hgH.out htH.out hn hbl)
          have hv4H := hid hv4
          have hg4H := hid (hg4 hg3H.out)
          clear k4 hn hbl hv4 hg4 hg3H
          go_wp2_with fail
          refine (shape_c p S3 _ w4 hv4H.out.ver).mono ?_
          rintro e w5 ⟨rfl, k5⟩
          have k5H := hid k5
          have hse : Hid (shapeE sv = shapeE (comeP lv E.nw)) := hid (by unfold shapeE; rw [hsm.out.1, hsm.out.2.1])
          dsimp only
          by_cases hz : shapeE sv = 0
          · have hres : Hid (applyP V E = .inl ⟨comeP lv E.nw, told E.next V.next, told E.log V.log, told E.seq V.seq⟩) := hid (by rw [hr.out, if_pos (by rw [← hse.out]; exact hz)])
            have hfin : Hid (VerO w5 w1 p S3 ⟨comeP lv E.nw, told E.next V.next, told E.log V.log, told E.seq V.seq⟩ D4) := hid ((hv4H.out.kp k5).same (V := ⟨sv, told E.next V.next, told E.log V.log, told E.seq V.seq⟩) (hsm.out.2.2 (shapeE_zero hz)))
            have hgf : Hid (AllG D4 S3 (comeP lv E.nw)) := hid (fun l hl => by have h1 := hg4H.out l hl; have h2 := hsm.out.2.2 (shapeE_zero hz) l hl; rwa [h2] at h1)
            rw [hz]
            clear k5 hz
            go_wp2_with fail
            go_ret2
            refine ⟨k1H.out.trans hfin.out.base, ?_⟩
            rw [hres.out]
            exact ⟨p, S3, D4, w1, rfl, k1H.out, hfin.out, hgf.out⟩
          · have hres : Hid (applyP V E = .inr (shapeE sv)) := hid (by rw [hr.out, if_neg (by rw [← hse.out]; exact hz), hse.out])
            have hz' : (shapeE sv == 0) = false := by rw [beq_eq_false_iff_ne]; exact hz
            have kk := hid (k1H.out.trans (hv4H.out.kp k5).base)
            generalize shapeE sv = c at *
            clear k5 hz
            go_wp2_with fail
            go_ret2
            exact ⟨kk.out, by rw [hres.out]; rfl⟩
  · have hr := hid (hfm.out hb)
    rw [hb]
    clear hb
    go_wp2_with fail
    go_ret2
    exact ⟨k1H.out, by rw [hr.out]; rfl⟩
theorem apply_c (pv : Nat) (S : Nat → SlA) (V : VerM) (g : SlA) (SE : Nat → SlA) (E : EditM) (w : World) (h : VerR w pv S V) (hV : VOk V) (hE : EditR w g SE E) :
    Calls Tryz.prog 9 #[.pointer (some ⟨pv, 0, none⟩), editV g SE E] w fun e w' => ApplySays w w' e (applyP V E) := (applyO_c pv S V g SE E w h hV hE).mono fun _ _ h => h.says
end Go.Proofs.YtdmdnhceiddcfaaGreat
