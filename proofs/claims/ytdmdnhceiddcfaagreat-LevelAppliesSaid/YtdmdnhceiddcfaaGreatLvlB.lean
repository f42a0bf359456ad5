/- The walks of newer, lower, and of slices.IndexFunc, ContainsFunc, Clone, Delete at tables; slices.Index, Contains at numbers. · slices.Delete at tables, slices.Index, Contains at numbers, level.all. -/
import Derived.Test.YtdmdnhceiddcfaaGreatLvlA
import Derived.Test.YtdmdnhceiddcfaaGreatSle
import Derived.Test.YtdmdnhceiddcfaaGreatSlq
import Derived.Lib.SliceRun
import Derived.Laws.Cover1
import Derived.Shelf.Abstract
set_option linter.all false
namespace Go.Proofs.YtdmdnhceiddcfaaGreat
open Go.RowKit Go.Sl Go.Scree

/-- A place in a list, or -1. -/
def idxI {α : Type} (p : α → Bool) (xs : List α) : Int := match xs.findIdx? p with | some i => i | none => -1
theorem idxI_at {α : Type} {p : α → Bool} {xs : List α} {k : Nat} {x : α} (h : ∀ y ∈ xs.take k, p y = false) (hx : xs[k]? = some x) (hp : p x = true) : idxI p xs = k := by
  have : xs.findIdx? p = some k := by
    rw [List.findIdx?_eq_some_iff_getElem]
    obtain ⟨hk, rfl⟩ := List.getElem?_eq_some_iff.1 hx
    refine ⟨hk, hp, fun j hj => ?_⟩
    have := h xs[j] (by rw [List.mem_take_iff_getElem]; exact ⟨j, by omega, rfl⟩)
    simp [this]
  simp [idxI, this]
theorem idxI_none {α : Type} {p : α → Bool} {xs : List α} (h : ∀ y ∈ xs, p y = false) : idxI p xs = -1 := by
  have : xs.findIdx? p = none := List.findIdx?_eq_none_iff.2 h
  simp [idxI, this]
theorem take_no {α : Type} {p : α → Bool} {xs : List α} {k : Nat} {x : α} (h : ∀ y ∈ xs.take k, p y = false) (hx : xs[k]? = some x) (hp : p x = false) : ∀ y ∈ xs.take (k + 1), p y = false := by
  obtain ⟨hk, rfl⟩ := List.getElem?_eq_some_iff.1 hx
  intro y hy
  rw [List.take_succ_eq_append_getElem hk, List.mem_append, List.mem_singleton] at hy
  rcases hy with hy | rfl
  · exact h y hy
  · exact hp
theorem idx_cases {α : Type} (p : α → Bool) (xs : List α) : (idxI p xs = -1 ∧ ∀ y ∈ xs, p y = false) ∨ ∃ (k : Nat) (x : α), idxI p xs = k ∧ xs[k]? = some x ∧ p x = true ∧ ∀ y ∈ xs.take k, p y = false := by
  cases h : xs.findIdx? p with
  | none =>
    have h' := List.findIdx?_eq_none_iff.1 h
    exact .inl ⟨by simp [idxI, h], h'⟩
  | some k =>
    have h' := List.findIdx?_eq_some_iff_getElem.1 h
    obtain ⟨hk, hp, hb⟩ := h'
    refine .inr ⟨k, xs[k], by simp [idxI, h], List.getElem?_eq_getElem hk, hp, fun y hy => ?_⟩
    rw [List.mem_take_iff_getElem] at hy
    obtain ⟨j, hj, rfl⟩ := hy
    simpa using hb j (by omega)
theorem idx_any {α : Type} (p : α → Bool) (xs : List α) : decide (0 ≤ idxI p xs) = xs.any p := by
  rcases idx_cases p xs with ⟨h, k⟩ | ⟨k, x, h, hx, hp, _⟩
  · rw [h]
    have : xs.any p = false := by rw [List.any_eq_false]; exact fun y hy => by simp [k y hy]
    rw [this]; rfl
  · rw [h]
    have : xs.any p = true := List.any_eq_true.2 ⟨x, List.mem_of_getElem? hx, hp⟩
    rw [this]; exact decide_eq_true (by omega)

theorem rd_meta {w : World} {v : Value} {xs : List MetaM} {A : Option Addr} {n c : Nat} (h : Rd w metaE v xs) (hv : v = .slice A n c) {i : Nat} {x : MetaM} (hx : xs[i]? = some x) :
    ∃ g off, A = some ⟨g, off, none⟩ ∧ n = xs.length ∧ w.cell? ⟨g, off + i * 5, none⟩ = some (.int .u64 x.file) ∧ w.cell? ⟨g, off + i * 5 + 1, none⟩ = some (.int .i64 x.size) ∧ w.cell? ⟨g, off + i * 5 + 2, none⟩ = some (.string x.first) ∧ w.cell? ⟨g, off + i * 5 + 3, none⟩ = some (.string x.last) ∧ w.cell? ⟨g, off + i * 5 + 4, none⟩ = some (.int .u64 x.seq) := by
  subst hv
  rcases h with ⟨_, rfl⟩ | ⟨g, off, cap, hv, h1, h2, hc⟩
  · simp at hx
  · simp only [Value.slice.injEq] at hv
    exact ⟨g, off, hv.1, hv.2.1, hc i x hx 0 _ rfl, hc i x hx 1 _ rfl, hc i x hx 2 _ rfl, hc i x hx 3 _ rfl, hc i x hx 4 _ rfl⟩
/-- A function value that tells p of a table, wherever w's blocks are as they were. -/
structure Tells (w : World) (fid : Nat) (caps : Array Value) (p : MetaM → Bool) : Prop where
  enter : ∀ args w, (callFunc fid args).run Tryz.prog w = .ok (.enter fid args) w
  says : ∀ (x : MetaM) (w' : World), Kp w w' → Calls Tryz.prog fid (#[metaV x] ++ caps) w' fun e w'' => e = .returned (.bool (p x)) ∧ Kp w' w''
set_option maxHeartbeats 800000 in
theorem mindexFunc_c (p : MetaM → Bool) (fid : Nat) (caps : Array Value) (v : Value) (xs : List MetaM) (w : World) (h : Rd w metaE v xs) (hf : Tells w fid caps p) :
    Calls Tryz.prog 49 #[v, .func (.func fid) #[] caps] w fun e w' => e = .returned (.int .i64 (idxI p xs)) ∧ Kp w w' := by
  obtain ⟨A, c, rfl, hm, hc⟩ := h.form
  have hl : xs.length ≤ 9223372036854775807 := by simpa [maxLen] using hm
  have hfid := hf.enter
  have hfH := hid hf.says
  have hH := hid h
  clear hf h hm hc
  go_enter Tryz.func49, Tryz.ntmps49
  go_wp2_with fail
  go_loopw [4, 5, 8] (fun _ _ i wr => ∃ k : Nat, k ≤ xs.length ∧ i = .int .i64 k ∧ Kp w wr ∧ ∀ x ∈ xs.take k, p x = false) (fun _ _ i wr => xs.length - (intOf i).toNat)
  case atStart => exact ⟨0, Nat.zero_le _, rfl, Kp.refl _, by simp⟩
  case round =>
    obtain ⟨k, hk, rfl, kr, hp⟩ := hrel
    have kH := hid kr
    have hpH := hid hp
    clear hp kr
    by_cases hlt : k < xs.length
    · have hx : xs[k]? = some xs[k] := List.getElem?_eq_getElem hlt
      obtain ⟨g, off, rfl, _, c0, c1, c2, c3, c4⟩ := rd_meta (kH.out.rd hH.out) rfl hx
      have hpx := bool_cases (p xs[k])
      generalize xs[k] = x at *
      have hxH := hid hx
      clear hx
      go_wp2_with fail
      refine (hfH.out x _ kH.out).mono ?_
      rintro e w1 ⟨rfl, k1⟩
      have k1H := hid k1
      clear k1 c0 c1 c2 c3 c4
      rcases hpx with hpx | hpx
      · go_wp2
        go_ret
        exact ⟨by rw [idxI_at hpH.out hxH.out hpx]; rfl, kH.out.trans k1H.out⟩
      · go_wp2
        go_roundw
        case rel => exact ⟨k + 1, by omega, by go_num, kH.out.trans k1H.out, take_no hpH.out hxH.out hpx⟩
        case measure => simp [intOf]; omega
    · go_wp2
      go_ret
      refine ⟨?_, kH.out⟩
      rw [idxI_none (fun y hy => hpH.out y (by rw [List.take_of_length_le (by omega)]; exact hy))]
      rfl
theorem mcontFunc_c (p : MetaM → Bool) (fid : Nat) (caps : Array Value) (v : Value) (xs : List MetaM) (w : World) (h : Rd w metaE v xs) (hf : Tells w fid caps p) :
    Calls Tryz.prog 47 #[v, .func (.func fid) #[] caps] w fun e w' => e = .returned (.bool (xs.any p)) ∧ Kp w w' := by
  have hc := hid (mindexFunc_c p fid caps v xs w h hf)
  have ha := hid (idx_any p xs)
  clear h hf
  generalize idxI p xs = i at *
  generalize xs.any p = b at *
  go_enter Tryz.func47, Tryz.ntmps47
  go_wp2_with fail
  refine hc.out.mono ?_
  rintro e w1 ⟨rfl, k1⟩
  go_wp2
  go_ret
  exact ⟨by rw [← ha.out]; rfl, k1⟩

theorem infoMeta : (Tryz.prog.info? 43).map (fun i => (i.zero, i.size, i.bytes)) = some (some (.agg #[.int .u64 0, .int .i64 0, .string ⟨#[]⟩, .string ⟨#[]⟩, .int .u64 0]), 5, 56) := by kernel_rfl
theorem mclone_c (v : Value) (l : List MetaM) (w : World) (h : Rd w metaE v l) (hn : l.length ≤ 1000000) :
    Calls Tryz.prog 37 #[v] w fun e w' => ∃ v', e = .returned v' ∧ Own w' [sl 43 metaE v' l, base w w.heap.size] ∧ Ext w w' := by
  obtain ⟨A, c, rfl, hm, hc⟩ := h.form
  have hH := hid h
  obtain ⟨i0, hi0, hz0, hz1, hz2⟩ := info_parts infoMeta
  have q22 : ∀ (w : World) (a : Option Addr) (n c n' c' : Nat), (binOp .eql 30 (.slice a n c) (.slice none n' c')).run Tryz.prog w = .ok (.bool a.isNone) w := fun w a n c n' c' => Lib.run_eql_slice_nil w _ _ a n c n' c' Tryz.underlying30
  cases A with
  | none =>
    have hl : Hid (l = []) := hid (by
      rcases h with ⟨_, h⟩ | ⟨_, _, _, hv, _⟩
      · exact h
      · simp at hv)
    clear h hm hc
    go_enter Tryz.func37, Tryz.ntmps37
    go_wp2_with fail
    go_ret
    refine ⟨_, rfl, ?_, Ext.refl _⟩
    rw [hl.out]
    exact sl_nil _ _ (Own.start w)
  | some a =>
    clear h hm hc
    go_enter Tryz.func37, Tryz.ntmps37
    go_wp2_with (refine wpList_append_rd rfl _ _ _ rfl i0 _ 5 56 Tryz.underlying30 hi0 hz0 hz1 hz2 rfl rfl rfl (sl_empty' 43 metaE ((Own.start w).alloc (.cells #[] 43 (0, 0)))) rfl (((Kp.refl w).alloc _).rd hH.out) (by simp [maxLen]; omega) (by simp; omega) ?_)
    intro v' w' o1 e1 _
    go_wp2
    go_ret
    exact ⟨_, rfl, o1, ((Ext.refl w).alloc _).trans e1⟩
end Go.Proofs.YtdmdnhceiddcfaaGreat
namespace Go.Proofs.YtdmdnhceiddcfaaGreat
open Go.RowKit Go.Sl Go.Scree

set_option maxHeartbeats 1600000 in
theorem mdelete_c {F : List Chunk} (k : Nat) (v : Value) (xs : List MetaM) (hk : k < xs.length) (w : World) (o : Own w (sl 43 metaE v xs :: F)) :
    Calls Tryz.prog 51 #[v, .int .i64 k, .int .i64 (k + 1)] w fun e w' => ∃ v', e = .returned v' ∧ Own w' (sl 43 metaE v' (xs.eraseIdx k) :: F) ∧ Ext w w' := by
  rcases sl_form o with ⟨_, rfl⟩ | ⟨g, cap, rfl, hn, hc⟩
  · simp at hk
  have oH := hid o
  clear o
  obtain ⟨i0, hi0, hz0, hz1, hz2⟩ := info_parts infoMeta
  have hcl : cap ≤ 9223372036854775807 := by simpa [maxLen] using hc
  have hne : ((k : Int) == k + 1) = false := by rw [beq_eq_false_iff_ne]; omega
  have hkc : k ≤ cap := by omega
  have hk1 : k + 1 ≤ xs.length := hk
  have hk2 : (0 : Int) ≤ (k : Int) + 1 := by omega
  have hk3 : (k : Int) + 1 ≤ (xs.length : Int) := by omega
  have hcm : cap ≠ xs.length - 1 := by omega
  by_cases hck : cap = k + 1
  all_goals
    try subst hck
    have hk4 : (k : Int) ≤ (k : Int) + 1 := by omega
    have hk5 : ¬ k + 1 = k := by omega
    go_enter Tryz.func51, Tryz.ntmps51
    go_wp2_with fail
  · go_region_held3 (fun _ => True) (trivial) (first | (fail))
    have hnk : xs.length = k + 1 := by omega
    have o2 := sl_take oH.out.drew k (by omega)
    have o2H := hid o2
    clear o2
    have hnkH := hid hnk
    clear hnk
    go_wp2_with (refine wpList_clear_sl rfl _ _ rfl i0 _ Tryz.underlying30 hi0 hz0 rfl (by simp [Value.cells, Value.oneCell']) o2H.out k k (xs.length - k) 1 (some ⟨g, k * 5, none⟩) ?c1 ?c2 (Nat.le_refl _) ?c3 (fun _ => rfl) ?_)
    case c1 => rfl
    case c2 => simp; omega
    case c3 => have := hnkH.out; omega
    intro w3 o3 e3
    have o3H := hid o3
    clear o3
    go_wp2
    go_ret
    refine ⟨_, rfl, ?_, ((Ext.refl _).drew).trans e3⟩
    have := o3H.out
    rw [List.take_take, Nat.min_self] at this
    rw [List.eraseIdx_eq_take_drop_succ, List.drop_of_length_le (by have := hnkH.out; omega), List.append_nil]
    exact this
  · go_region_held3 (fun _ => True) (trivial) (first | (refine step_cut_sl rfl _ _ _ rfl i0 Tryz.underlying30 hi0 hz1 oH.out.drew k (k + 1) (xs.length - (k + 1)) (cap - (k + 1)) (some ⟨g, (k + 1) * 5, none⟩) rfl rfl rfl (by omega) (by omega) (fun _ => rfl) (by simp) ?_; intro w2 o2 e2))
    clear hck
    have hm1 : k + (xs.length - (k + 1)) = xs.length - 1 := by omega
    have hm0 : xs.length - 1 ≤ xs.length := by omega
    have hm2 : xs.length - 1 ≤ cap := by omega
    have o2' := o2
    rw [hm1] at o2'
    have o2H := hid o2'
    clear o2 o2'
    rw [hm1]
    clear hm1
    generalize hL : xs.length - 1 = m at *
    have hLH := hid hL
    clear hL
    go_wp2_with (refine wpList_clear_sl rfl _ _ rfl i0 _ Tryz.underlying30 hi0 hz0 rfl (by simp [Value.cells, Value.oneCell']) o2H.out m m (xs.length - m) (cap - m) (some ⟨g, m * 5, none⟩) ?c1 ?c2 (Nat.le_refl _) ?c3 (fun _ => rfl) ?_)
    case c1 => rfl
    case c2 => simp; have := hLH.out; omega
    case c3 => omega
    intro w3 o3 e3
    have o3H := hid o3
    clear o3
    go_wp2
    go_ret
    refine ⟨_, rfl, ?_, ((Ext.refl _).drew.trans e2).trans e3⟩
    have := o3H.out
    rw [List.take_of_length_le (by simp; have := hLH.out; omega), ← List.eraseIdx_eq_take_drop_succ] at this
    exact this

theorem rd_num {w : World} {v : Value} {xs : List Nat} {A : Option Addr} {n c : Nat} (h : Rd w u64E v xs) (hv : v = .slice A n c) {i : Nat} {x : Nat} (hx : xs[i]? = some x) :
    ∃ g off, A = some ⟨g, off, none⟩ ∧ n = xs.length ∧ w.cell? ⟨g, off + i, none⟩ = some (.int .u64 x) := by
  subst hv
  rcases h with ⟨_, rfl⟩ | ⟨g, off, cap, hv, h1, h2, hc⟩
  · simp at hx
  · simp only [Value.slice.injEq] at hv
    have := hc i x hx 0 _ rfl
    exact ⟨g, off, hv.1, hv.2.1, by simpa [u64E] using this⟩
theorem uindex_c (n : Nat) (v : Value) (xs : List Nat) (w : World) (h : Rd w u64E v xs) :
    Calls Tryz.prog 63 #[v, .int .u64 n] w fun e w' => e = .returned (.int .i64 (idxI (fun x => x == n) xs)) ∧ Kp w w' := by
  obtain ⟨A, c, rfl, hm, hc⟩ := h.form
  have hl : xs.length ≤ 9223372036854775807 := by simpa [maxLen] using hm
  have hH := hid h
  clear h hm hc
  go_enter Tryz.func63, Tryz.ntmps63
  go_wp2_with fail
  go_loopw [4, 5, 8] (fun _ _ i wr => ∃ k : Nat, k ≤ xs.length ∧ i = .int .i64 k ∧ Kp w wr ∧ ∀ x ∈ xs.take k, (x == n) = false) (fun _ _ i wr => xs.length - (intOf i).toNat)
  case atStart => exact ⟨0, Nat.zero_le _, rfl, Kp.refl _, by simp⟩
  case round =>
    obtain ⟨k, hk, rfl, kr, hp⟩ := hrel
    have kH := hid kr
    have hpH := hid hp
    clear hp kr
    by_cases hlt : k < xs.length
    · have hx : xs[k]? = some xs[k] := List.getElem?_eq_getElem hlt
      obtain ⟨g, off, rfl, _, c0⟩ := rd_num (kH.out.rd hH.out) rfl hx
      generalize xs[k] = x at *
      have hxH := hid hx
      clear hx
      by_cases e : n = x
      · subst e
        have eb : ((n : Int) == (n : Int)) = true := by simp
        go_wp2_with fail
        go_ret
        refine ⟨?_, kH.out⟩
        rw [idxI_at hpH.out hxH.out (by simp)]
        rfl
      · have eb : ((n : Int) == (x : Int)) = false := by rw [beq_eq_false_iff_ne]; omega
        go_wp2_with fail
        go_roundw
        case rel => exact ⟨k + 1, by omega, by go_num, kH.out, take_no hpH.out hxH.out (by rw [beq_eq_false_iff_ne]; exact fun h => e h.symm)⟩
        case measure => simp [intOf]; omega
    · go_wp2
      go_ret
      refine ⟨?_, kH.out⟩
      rw [idxI_none (fun y hy => hpH.out y (by rw [List.take_of_length_le (by omega)]; exact hy))]
      rfl
theorem contains_any (xs : List Nat) (n : Nat) : xs.contains n = xs.any fun x => x == n := by
  induction xs with
  | nil => rfl
  | cons x xs ih =>
    rw [List.contains_cons, List.any_cons, ih]
    congr 1
    exact Bool.eq_iff_iff.2 (by simp only [beq_iff_eq]; exact eq_comm)
theorem ucontains_c (n : Nat) (v : Value) (xs : List Nat) (w : World) (h : Rd w u64E v xs) :
    Calls Tryz.prog 52 #[v, .int .u64 n] w fun e w' => e = .returned (.bool (xs.contains n)) ∧ Kp w w' := by
  have hc := hid (uindex_c n v xs w h)
  have ha := hid (idx_any (fun x => x == n) xs)
  rw [contains_any]
  clear h
  generalize idxI (fun x => x == n) xs = i at *
  generalize xs.any (fun x => x == n) = b at *
  go_enter Tryz.func52, Tryz.ntmps52
  go_wp2_with fail
  refine hc.out.mono ?_
  rintro e w1 ⟨rfl, k1⟩
  go_wp2
  go_ret
  exact ⟨by rw [← ha.out]; rfl, k1⟩

/-- A slice's three parts. -/
structure SlA where
  A : Option Addr
  n : Nat
  c : Nat
def SlA.v (s : SlA) : Value := .slice s.A s.n s.c
def editV (g : SlA) (S : Nat → SlA) (E : EditM) : Value := .agg #[.slice g.A g.n g.c, .slice (S 0).A (S 0).n (S 0).c, .slice (S 1).A (S 1).n (S 1).c, .slice (S 2).A (S 2).n (S 2).c, .slice (S 3).A (S 3).n (S 3).c, .int .u64 E.next, .int .u64 E.log, .int .u64 E.seq]
/-- An edit's lists as they lie. -/
structure EditR (w : World) (g : SlA) (S : Nat → SlA) (E : EditM) : Prop where
  gone : Rd w u64E g.v E.gone
  nw : ∀ l, l < 4 → Rd w metaE (S l).v (E.nw l)
  few : ∀ l, l < 4 → (E.nw l).length ≤ 1000
theorem EditR.kp {w w' : World} {g : SlA} {S : Nat → SlA} {E : EditM} (h : EditR w g S E) (k : Kp w w') : EditR w' g S E := ⟨k.rd h.gone, fun l hl => k.rd (h.nw l hl), h.few⟩

theorem all1_c (w : World) : Tells w 48 #[] (fun m => !mayB m) := by
  refine ⟨enters_of Tryz.func48 (by kernel_rfl) rfl, fun x w' _ => ?_⟩
  have hc := hid (fun w => may_c x w)
  obtain ⟨n, z, a, b, q⟩ := x
  have hc2 : Hid (∀ w, Calls Tryz.prog 20 #[.agg #[.int .u64 n, .int .i64 z, .string a, .string b, .int .u64 q]] w fun e w' => e = .returned (.bool (mayB ⟨n, z, a, b, q⟩)) ∧ Kp w w') := hid hc.out
  unfold metaV
  dsimp only
  clear hc
  generalize mayB ⟨n, z, a, b, q⟩ = bb at *
  have k0 := hid ((Kp.refl w').alloc (.cells #[.int .u64 n, .int .i64 z, .string a, .string b, .int .u64 q] 43 (0, 0)))
  go_enter Tryz.func48, Tryz.ntmps48
  go_wp2_with fail
  refine (hc2.out _).mono ?_
  rintro e w1 ⟨rfl, k1⟩
  go_wp2
  go_ret
  exact ⟨rfl, k0.out.trans k1⟩
theorem all_split (nw : Lvls) (k : Nat) (hk : k < 4) (h : ∀ l, l < k → (nw l).any (fun m => !mayB m) = false) (hb : (nw k).any (fun m => !mayB m) = true) : allB nw = false := by
  cases ha : allB nw with
  | false => rfl
  | true =>
    obtain ⟨m, hm, hbad⟩ := List.any_eq_true.1 hb
    have := List.all_eq_true.1 ha m (mem_flat.2 ⟨k, hk, hm⟩)
    rw [this] at hbad; simp at hbad
theorem all_whole (nw : Lvls) (h : ∀ l, l < 4 → (nw l).any (fun m => !mayB m) = false) : allB nw = true := by
  refine List.all_eq_true.2 fun m hm => ?_
  obtain ⟨l, hl, hm⟩ := mem_flat.1 hm
  have := List.any_eq_false.1 (h l hl) m hm
  simpa using this
def arrV (S : Nat → SlA) : Value := .agg #[.slice (S 0).A (S 0).n (S 0).c, .slice (S 1).A (S 1).n (S 1).c, .slice (S 2).A (S 2).n (S 2).c, .slice (S 3).A (S 3).n (S 3).c]
theorem arr_at (S : Nat → SlA) (k : Nat) (h : k < 4) (w : World) : (Instr.index 31 (arrV S) (.int .i64 k)).run Tryz.prog w = .ok (.slice (S k).A (S k).n (S k).c) w := by
  rcases (by omega : k = 0 ∨ k = 1 ∨ k = 2 ∨ k = 3) with rfl | rfl | rfl | rfl <;> (unfold arrV; kernel_rfl)
set_option maxRecDepth 20000 in
set_option maxHeartbeats 1600000 in
theorem all_c (g : SlA) (S : Nat → SlA) (E : EditM) (w : World) (h : EditR w g S E) :
    Calls Tryz.prog 21 #[editV g S E] w fun e w' => e = .returned (.bool (allB E.nw)) ∧ Kp w w' := by
  have hH := hid h
  have k0 := hid ((Kp.refl w).alloc (.cells #[.slice g.A g.n g.c, .slice (S 0).A (S 0).n (S 0).c, .slice (S 1).A (S 1).n (S 1).c, .slice (S 2).A (S 2).n (S 2).c, .slice (S 3).A (S 3).n (S 3).c, .int .u64 E.next, .int .u64 E.log, .int .u64 E.seq] 34 (0, 0)))
  clear h
  unfold editV
  go_enter Tryz.func21, Tryz.ntmps21
  go_wp2_with fail
  go_loopw [2, 4, 7] (fun _ _ i wr => ∃ k : Nat, k ≤ 4 ∧ i = .int .i64 k ∧ Kp w wr ∧ ∀ l, l < k → (E.nw l).any (fun m => !mayB m) = false) (fun _ _ i wr => 4 - (intOf i).toNat)
  case atStart => exact ⟨0, by omega, rfl, k0.out, fun l hl => by omega⟩
  case round =>
    obtain ⟨k, hk, rfl, kr, hp⟩ := hrel
    have kH := hid kr
    have hpH := hid hp
    clear hp kr
    by_cases hlt : k < 4
    · have hc := hid (mcontFunc_c (fun m => !mayB m) 48 #[] _ _ wr (kH.out.rd (hH.out.nw k hlt)) (all1_c wr))
      have hx := bool_cases ((E.nw k).any fun m => !mayB m)
      have hs := hid (all_split E.nw k hlt hpH.out)
      generalize hg : (E.nw k).any (fun m => !mayB m) = b at *
      have hgH := hid hg
      clear hg
      unfold SlA.v at hc
      have hst : ∀ l, l < k + 1 → b = false → (E.nw l).any (fun m => !mayB m) = false := by
        intro l hl hb
        rcases Nat.lt_or_ge l k with h' | h'
        · exact hpH.out l h'
        · obtain rfl : l = k := by omega
          rw [hgH.out]; exact hb
      have hstH := hid hst
      clear hst
      have hat := arr_at S k hlt
      unfold arrV at hat
      go_wp2_with fail
      refine hc.out.mono ?_
      rintro e w1 ⟨rfl, k1⟩
      have k1H := hid (kH.out.trans k1)
      clear k1
      rcases hx with rfl | rfl
      · go_wp2
        go_ret
        exact ⟨by rw [hs.out (by simp)]; rfl, k1H.out⟩
      · go_wp2
        go_roundw
        case rel => exact ⟨k + 1, by omega, by go_num, k1H.out, fun l hl => hstH.out l hl (by simp)⟩
        case measure => simp [intOf]; omega
    · obtain rfl : k = 4 := by omega
      have ha := hid (all_whole E.nw hpH.out)
      go_wp2
      go_ret
      exact ⟨by rw [ha.out]; rfl, kH.out⟩
end Go.Proofs.YtdmdnhceiddcfaaGreat
