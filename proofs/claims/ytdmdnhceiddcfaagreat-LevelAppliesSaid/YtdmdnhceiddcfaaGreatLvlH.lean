/- The walk of with. -/
import Derived.Test.YtdmdnhceiddcfaaGreatLvlG
import Derived.Test.YtdmdnhceiddcfaaGreatSlm
set_option linter.all false
namespace Go.Proofs.YtdmdnhceiddcfaaGreat
open Go.RowKit Go.Sl Go.Scree

theorem twice_mem : ∀ (ns : List Nat) {a b : List Nat}, (∀ x, x ∈ a ↔ x ∈ b) → twiceB a ns = twiceB b ns
  | [], _, _, _ => rfl
  | n :: r, a, b, h => by
    have h1 : a.contains n = b.contains n := by
      rw [List.contains_eq_mem, List.contains_eq_mem]
      exact decide_eq_decide.2 (h n)
    rw [twiceB, twiceB, h1, twice_mem r (a := a ++ [n]) (b := b ++ [n]) fun x => by rw [List.mem_append, List.mem_append, h x]]
def restL (nw : Lvls) (k : Nat) : List Nat := ((four.drop k).flatMap nw).map (·.file)
theorem rest_at (nw : Lvls) {k : Nat} (h : k < 4) : restL nw k = (nw k).map (·.file) ++ restL nw (k + 1) := by
  rcases (by omega : k = 0 ∨ k = 1 ∨ k = 2 ∨ k = 3) with rfl | rfl | rfl | rfl <;> simp [restL, four]
def lvC (S : Nat → SlA) (lv : Lvls) (k : Nat) : List Chunk := (four.take k).map fun i => sl 43 metaE (S i).v (lv i)
theorem lvC_succ (S : Nat → SlA) (lv : Lvls) {k : Nat} (h : k < 4) : lvC S lv (k + 1) = lvC S lv k ++ [sl 43 metaE (S k).v (lv k)] := by
  rcases (by omega : k = 0 ∨ k = 1 ∨ k = 2 ∨ k = 3) with rfl | rfl | rfl | rfl <;> rfl
theorem lvC_same {S S' : Nat → SlA} {lv lv' : Lvls} {k : Nat} (hk : k ≤ 4) (h : ∀ i, i < k → S i = S' i ∧ lv i = lv' i) : lvC S lv k = lvC S' lv' k := by
  rcases (by omega : k = 0 ∨ k = 1 ∨ k = 2 ∨ k = 3 ∨ k = 4) with rfl | rfl | rfl | rfl | rfl
  · rfl
  · simp [lvC, four, h 0]
  · simp [lvC, four, h 0, h 1]
  · simp [lvC, four, h 0, h 1, h 2]
  · simp [lvC, four, h 0, h 1, h 2, h 3]
theorem Gives.perm {D D' : List Chunk} {φ : World → Prop} (h : Gives D φ) (p : D'.Perm D) : Gives D' φ := fun w F o => h w F (o.perm (p.append_right F))
theorem VerO.arr {w W0 : World} {p : Nat} {S : Nat → SlA} {V : VerM} {D D' : List Chunk} (h : VerO w W0 p S V D) (q : D.Perm D') : VerO w W0 p S V D' :=
  ⟨h.own.perm ((q.append_right _).cons _), fun l hl => Gives.perm (h.rd l hl) (q.symm.append_right _), h.few, h.ext⟩
/-- A chunk beside the version turns into another one, in a later world. -/
theorem VerO.swapC {w W0 : World} {p : Nat} {S : Nat → SlA} {V : VerM} {c : Chunk} {D : List Chunk} (h : VerO w W0 p S V (c :: D)) (hr : ∀ l, l < 4 → Gives (D ++ [Sl.base W0 W0.heap.size]) fun w => Rd w metaE (S l).v (V.lv l)) {w1 : World} {c' : Chunk} (o : Own w1 (c' :: (verC p S V :: (D ++ [Sl.base W0 W0.heap.size])))) (e : Ext w w1) : VerO w1 W0 p S V (c' :: D) :=
  ⟨o.swap, fun l hl => Gives.more (hr l hl) _, h.few, h.ext.trans e⟩
theorem VerO.addC {w W0 : World} {p : Nat} {S : Nat → SlA} {V : VerM} {c : Chunk} {D : List Chunk} (h : VerO w W0 p S V D) {w1 : World} (o : Own w1 [c, Sl.base w w.heap.size]) (e : Ext w w1) : VerO w1 W0 p S V (c :: D) :=
  ⟨(rebase1 o h.own).swap, fun l hl => Gives.more (h.rd l hl) _, h.few, h.ext.trans e⟩
def editCells (g : SlA) (S : Nat → SlA) (E : EditM) : Array Value := #[.slice g.A g.n g.c, .slice (S 0).A (S 0).n (S 0).c, .slice (S 1).A (S 1).n (S 1).c, .slice (S 2).A (S 2).n (S 2).c, .slice (S 3).A (S 3).n (S 3).c, .int .u64 E.next, .int .u64 E.log, .int .u64 E.seq]
theorem edit_at (g : SlA) (S : Nat → SlA) (E : EditM) {l : Nat} (h : l < 4) : (editCells g S E)[1 + l]? = some (.slice (S l).A (S l).n (S l).c) := by
  rcases (by omega : l = 0 ∨ l = 1 ∨ l = 2 ∨ l = 3) with rfl | rfl | rfl | rfl <;> rfl
theorem filesS_mem (lv : Lvls) : ∀ x, x ∈ filesS lv ↔ x ∈ filesM lv := fun x => (List.mergeSort_perm _ _).mem_iff
theorem filesS_len (lv : Lvls) (h : ∀ l, l < 4 → (lv l).length ≤ 20000) : (filesS lv).length ≤ 80000 := by
  unfold filesS
  rw [List.length_mergeSort, ← fileL_four]
  exact fileL_len lv h 4 (by omega)
/-- Half way of with: so many levels have what comes. -/
structure WithAt (wr W0 : World) (p eb : Nat) (V : VerM) (D : List Chunk) (g : SlA) (SE S : Nat → SlA) (E : EditM) (l : Nat) (fv : Value) (fs : List Nat) (S1 : Nat → SlA) (lv1 : Lvls) : Prop where
  ver : VerO wr W0 p S1 { V with lv := lv1 } (sl 32 u64E fv fs :: pts eb (.cells (editCells g SE E) 34 (0, 0)) :: (lvC S1 lv1 l ++ D))
  old : ∀ i, l ≤ i → i < 4 → S1 i = S i ∧ lv1 i = V.lv i
  new : ∀ i, i < l → lv1 i = V.lv i ++ E.nw i
theorem with_start {wr W0 : World} {p eb : Nat} {V : VerM} {D : List Chunk} {g : SlA} {SE S : Nat → SlA} {E : EditM} {fv : Value} {fs : List Nat} (h : VerO wr W0 p S V (sl 32 u64E fv fs :: pts eb (.cells (editCells g SE E) 34 (0, 0)) :: D)) :
    WithAt wr W0 p eb V D g SE S E 0 fv fs S V.lv := ⟨h, fun i _ _ => ⟨rfl, rfl⟩, fun i h => by omega⟩
theorem gives_mem {D : List Chunk} {T : TypeId} {v : Value} {xs : List MetaM} (h : sl T metaE v xs ∈ D) : Gives D fun w => Rd w metaE v xs := by
  obtain ⟨s, u, rfl⟩ := List.append_of_mem h
  intro w F o
  refine sl_rd (T := T) (cs := s ++ u ++ F) (o.perm ?_)
  rw [List.append_assoc, List.append_assoc, List.cons_append]
  exact List.perm_middle
theorem Gives.front {D : List Chunk} {φ : World → Prop} (h : Gives D φ) (C : List Chunk) : Gives (C ++ D) φ := by
  intro w F o
  rw [List.append_assoc] at o
  exact h w F (Own.drops C o)
theorem with_rd {W0 : World} {V : VerM} {D : List Chunk} {S S1 : Nat → SlA} {lv1 : Lvls} {l : Nat} (c : Chunk) (h0 : ∀ i, i < 4 → Gives (D ++ [base W0 W0.heap.size]) fun w => Rd w metaE (S i).v (V.lv i)) (hl : l ≤ 4)
    (old : ∀ i, l ≤ i → i < 4 → S1 i = S i ∧ lv1 i = V.lv i) : ∀ i, i < 4 → Gives (c :: (lvC S1 lv1 l ++ D) ++ [base W0 W0.heap.size]) fun w => Rd w metaE (S1 i).v (lv1 i) := by
  intro i hi
  rcases Nat.lt_or_ge i l with h | h
  · refine gives_mem (T := 43) ?_
    have : sl 43 metaE (S1 i).v (lv1 i) ∈ lvC S1 lv1 l := by
      unfold lvC
      refine List.mem_map.2 ⟨i, ?_, rfl⟩
      rcases (by omega : l = 1 ∨ l = 2 ∨ l = 3 ∨ l = 4) with rfl | rfl | rfl | rfl <;> simp [four] <;> omega
    simp [this]
  · obtain ⟨e1, e2⟩ := old i h hi
    rw [e1, e2]
    have := Gives.front (h0 i hi) (c :: lvC S1 lv1 l)
    simpa using this
theorem WithAt.turn {wr W0 : World} {p eb : Nat} {V : VerM} {D : List Chunk} {g : SlA} {SE S : Nat → SlA} {E : EditM} {l : Nat} {fv : Value} {fs : List Nat} {S1 : Nat → SlA} {lv1 : Lvls} (h : WithAt wr W0 p eb V D g SE S E l fv fs S1 lv1) (hl : l < 4)
    {w1 : World} {s : SlA} (o : Own w1 [sl 43 metaE s.v (V.lv l ++ E.nw l), base wr wr.heap.size]) (e : Ext wr w1) (hx : (V.lv l ++ E.nw l).length ≤ 20000) :
    WithAt (w1.setCell ⟨p, l, none⟩ (.slice s.A s.n s.c)) W0 p eb V D g SE S E (l + 1) fv fs (upd S1 l s) (upd lv1 l (V.lv l ++ E.nw l)) := by
  have v := h.ver.turn hl (s := s) (kp_of1 o e) o hx
  have e1 : lvC (upd S1 l s) (upd lv1 l (V.lv l ++ E.nw l)) (l + 1) = lvC S1 lv1 l ++ [sl 43 metaE s.v (V.lv l ++ E.nw l)] := by
    rw [lvC_succ _ _ hl, upd_at, upd_at]
    congr 1
    exact lvC_same (by omega) fun i hi => ⟨upd_ne _ _ (by omega), upd_ne _ _ (by omega)⟩
  refine ⟨?_, fun i h1 h2 => ?_, fun i hi => ?_⟩
  · rw [e1]
    refine v.arr ?_
    rw [List.append_assoc]
    refine (List.Perm.swap _ _ _).trans (List.Perm.cons _ ?_)
    refine (List.Perm.swap _ _ _).trans (List.Perm.cons _ ?_)
    exact List.perm_middle.symm
  · rw [upd_ne _ _ (by omega), upd_ne _ _ (by omega)]
    exact h.old i (by omega) h2
  · by_cases hi2 : i = l
    · subst hi2; rw [upd_at]
    · rw [upd_ne _ _ hi2]; exact h.new i (by omega)
theorem lvC_get (S : Nat → SlA) (lv : Lvls) {l : Nat} (hl : l < 4) : (lvC S lv 4)[l]? = some (sl 43 metaE (S l).v (lv l)) := by
  rcases (by omega : l = 0 ∨ l = 1 ∨ l = 2 ∨ l = 3) with rfl | rfl | rfl | rfl <;> rfl
theorem lvC_erase (S : Nat → SlA) (lv : Lvls) (ys : List MetaM) {l : Nat} (hl : l < 4) : (lvC S (upd lv l ys) 4).eraseIdx l = (lvC S lv 4).eraseIdx l := by
  rcases (by omega : l = 0 ∨ l = 1 ∨ l = 2 ∨ l = 3) with rfl | rfl | rfl | rfl <;> rfl
/-- A version whose four levels are all owned. -/
structure Ver4 (w W0 : World) (p : Nat) (S : Nat → SlA) (V : VerM) (R : List Chunk) : Prop where
  own : Own w (verC p S V :: (lvC S V.lv 4 ++ (R ++ [base W0 W0.heap.size])))
  few : ∀ l, l < 4 → (V.lv l).length ≤ 20000
  ext : Ext W0 w
theorem Ver4.verO {w W0 : World} {p : Nat} {S : Nat → SlA} {V : VerM} {R : List Chunk} (h : Ver4 w W0 p S V R) : VerO w W0 p S V (lvC S V.lv 4 ++ R) := by
  refine ⟨?_, fun l hl => ?_, h.few, h.ext⟩
  · have := h.own
    rwa [← List.append_assoc] at this
  · refine gives_mem (T := 43) ?_
    rw [List.append_assoc, List.mem_append]
    exact .inl (List.mem_of_getElem? (lvC_get S V.lv hl))
theorem Ver4.allG {w W0 : World} {p : Nat} {S : Nat → SlA} {V : VerM} {R : List Chunk} (_ : Ver4 w W0 p S V R) : AllG (lvC S V.lv 4 ++ R) S V.lv := fun l hl =>
  gives_mem (T := 43) (List.mem_append.2 (.inl (List.mem_of_getElem? (lvC_get S V.lv hl))))
theorem Ver4.pick {w W0 : World} {p : Nat} {S : Nat → SlA} {V : VerM} {R : List Chunk} (h : Ver4 w W0 p S V R) {l : Nat} (hl : l < 4) :
    Own w (sl 43 metaE (S l).v (V.lv l) :: (verC p S V :: ((lvC S V.lv 4).eraseIdx l ++ (R ++ [base W0 W0.heap.size])))) :=
  (h.own.perm ((((pick_perm _ l _ (lvC_get S V.lv hl)).append_right _)).cons _)).swap
theorem Ver4.back {w w1 W0 : World} {p : Nat} {S : Nat → SlA} {V : VerM} {R : List Chunk} (h : Ver4 w W0 p S V R) {l : Nat} (hl : l < 4) {ys : List MetaM}
    (o : Own w1 (sl 43 metaE (S l).v ys :: (verC p S V :: ((lvC S V.lv 4).eraseIdx l ++ (R ++ [base W0 W0.heap.size]))))) (e : Ext w w1) (hy : ys.length = (V.lv l).length) : Ver4 w1 W0 p S { V with lv := upd V.lv l ys } R := by
  refine ⟨?_, fun i hi => ?_, h.ext.trans e⟩
  · have o1 := o.swap
    rw [← lvC_erase S V.lv ys hl] at o1
    refine o1.perm (List.Perm.cons _ ?_)
    have hp := pick_perm _ l _ (lvC_get S (upd V.lv l ys) hl)
    rw [upd_at] at hp
    exact (hp.append_right _).symm
  · show (upd V.lv l ys i).length ≤ 20000
    by_cases e : i = l
    · subst e; rw [upd_at, hy]; exact h.few i hi
    · rw [upd_ne _ _ e]; exact h.few i hi
set_option maxRecDepth 20000 in
set_option maxHeartbeats 6400000 in
theorem with_c (W0 : World) (p : Nat) (S : Nat → SlA) (V : VerM) (D : List Chunk) (g : SlA) (SE : Nat → SlA) (E : EditM) (w : World) (h : VerO w W0 p S V D) (hE : EditR W0 g SE E) (hf : ∀ l, l < 4 → (V.lv l).length ≤ 10000) :
    Calls Tryz.prog 23 #[.pointer (some ⟨p, 0, none⟩), editV g SE E] w fun e w' => Kp W0 w' ∧ ((e = .returned (.int .i64 11) ∧ twiceB (filesM V.lv) (filesM E.nw) = true) ∨
      (twiceB (filesM V.lv) (filesM E.nw) = false ∧ e = .returned (.int .i64 0) ∧ ∃ lv S' D', VerO w' W0 p S' { V with lv := lv } D' ∧ AllG D' S' lv ∧ (∀ l, l < 4 → (lv l).Perm (V.lv l ++ E.nw l)) ∧ (lv 0).Pairwise DownF ∧ ∀ l, 1 ≤ l → l < 4 → Up (lv l))) := by
  have hEH := hid hE
  have hfH := hid hf
  have hH := hid h
  have h0H := hid h.rd
  clear h hE hf
  obtain ⟨i0, hi0, hz0, hz1, hz2⟩ := info_parts infoMeta
  obtain ⟨j0, hj0, hy0, hy1, hy2⟩ := info_parts infoU64
  have v1 := hid (hH.out.addC (c := pts w.heap.size (.cells (editCells g SE E) 34 (0, 0))) ((Own.start w).alloc _) ((Ext.refl w).alloc _))
  clear hH
  unfold editV
  go_enter Tryz.func23, Tryz.ntmps23
  go_wp2_with fail
  refine (files_c p S V _ v1.out.ver).mono ?_
  rintro e w1 ⟨fv, rfl, o1, e1⟩
  have v2 := hid (v1.out.addC o1 e1)
  obtain ⟨A1, n1, c1, rfl⟩ := sl_shape o1
  obtain ⟨eb, heb⟩ : ∃ eb, w.heap.size = eb := ⟨_, rfl⟩
  rw [heb] at v2
  rw [heb]
  clear o1 e1 v1 heb
  go_wp2_with fail
  have hfl := hid (filesS_len V.lv fun l hl => Nat.le_trans (hfH.out l hl) (by omega))
  have htw : Hid (twiceB (filesM V.lv) (filesM E.nw) = twiceB (filesS V.lv) (restL E.nw 0)) := hid ((twice_mem _ (filesS_mem V.lv)).symm)
  go_loopw [5, 12] (fun fv i wr => ∃ (l : Nat) (fs : List Nat) (S1 : Nat → SlA) (lv1 : Lvls), l ≤ 4 ∧ i = .int .i64 l ∧ WithAt wr W0 p eb V D g SE S E l fv fs S1 lv1 ∧ twiceB (filesM V.lv) (filesM E.nw) = twiceB fs (restL E.nw l) ∧ fs.length ≤ 80000 + l * 1000) (fun _ i _ => 4 - (intOf i).toNat)
  case atStart => exact ⟨0, _, S, V.lv, by omega, rfl, with_start v2.out, htw.out, hfl.out⟩
  case round =>
    clear v2 hfl htw
    obtain ⟨l, fs, S1, lv1, hl, rfl, hw, ht, hn⟩ := hrel
    have hwH := hid hw
    have htH := hid ht
    obtain ⟨A1, n1, c1, rfl⟩ := sl_shape ((hw.ver.own).swap)
    clear hw ht
    by_cases hl4 : l < 4
    · have hl4' : (l : Int) < 4 := by omega
      have hce : wr.cell? ⟨eb, 1 + l, none⟩ = some (.slice (SE l).A (SE l).n (SE l).c) := (Own.pick 2 hwH.out.ver.own).cell (edit_at g SE E hl4)
      have hrd0 := hid (hEH.out.nw l hl4)
      have hE3 := hEH.out.few l hl4
      have hres := hid (rest_at E.nw hl4)
      obtain ⟨Ak, ck, hv, hm, _⟩ := hrd0.out.form
      have hSn : (SE l).n = (E.nw l).length := by
        unfold SlA.v at hv
        simp only [Value.slice.injEq] at hv
        exact hv.2.1
      have hx63 : (E.nw l).length ≤ 9223372036854775807 := by omega
      clear hv hm
      go_wp2_with fail
      have hrdk := hid hrd0.out
      go_loopw [5, 20] (fun fv i wr => ∃ (j : Nat) (fs : List Nat), j ≤ (E.nw l).length ∧ i = .int .i64 j ∧ WithAt wr W0 p eb V D g SE S E l fv fs S1 lv1 ∧ twiceB (filesM V.lv) (filesM E.nw) = twiceB fs (((E.nw l).drop j).map (·.file) ++ restL E.nw (l + 1)) ∧ fs.length ≤ 80000 + l * 1000 + j) (fun _ i _ => (E.nw l).length - (intOf i).toNat)
      case atStart => exact ⟨0, fs, Nat.zero_le _, by rfl, hwH.out, by rw [htH.out, hres.out]; rfl, hn⟩
      case round =>
        clear hwH htH hn hce
        obtain ⟨j, fs, hj, rfl, hw, ht, hn⟩ := hrel
        have hwH := hid hw
        have htH := hid ht
        obtain ⟨A1, n1, c1, rfl⟩ := sl_shape ((hw.ver.own).swap)
        clear hw ht
        by_cases hjl : j < (E.nw l).length
        · have hx : (E.nw l)[j]? = some (E.nw l)[j] := List.getElem?_eq_getElem hjl
          have hrd2 := hwH.out.ver.base.rd hrd0.out
          unfold SlA.v at hrd2
          obtain ⟨gg, off, hA, _, d0, d1, d2, d3, d4⟩ := rd_meta hrd2 rfl hx
          have hdr : Hid ((E.nw l).drop j = (E.nw l)[j] :: (E.nw l).drop (j + 1)) := hid (List.drop_eq_getElem_cons hjl)
          generalize (E.nw l)[j] = x at *
          clear hrd2 hx
          have hjl' : (j : Int) < ((E.nw l).length : Int) := by omega
          rw [hA]
          have hAH := hid hA
          have hSnH := hid hSn
          clear hA hSn
          have ka := hid ((Kp.refl wr).alloc (.cells #[.int .u64 x.file, .int .i64 x.size, .string x.first, .string x.last, .int .u64 x.seq] 43 (0, 0)))
          have va := hid (hwH.out.ver.kp ka.out)
          have hcont := hid (ucontains_c x.file _ fs _ (sl_rd va.out.own.swap))
          have hbx : Hid ((wr.alloc (.cells #[.int .u64 x.file, .int .i64 x.size, .string x.first, .string x.last, .int .u64 x.seq] 43 (0, 0))).cell? ⟨wr.heap.size, 0, none⟩ = some (.int .u64 x.file)) := hid (cells_new wr [.int .u64 x.file, .int .i64 x.size, .string x.first, .string x.last, .int .u64 x.seq] _ _ 0 _ rfl)
          have htc : Hid (twiceB (filesM V.lv) (filesM E.nw) = (fs.contains x.file || twiceB (fs ++ [x.file]) (((E.nw l).drop (j + 1)).map (·.file) ++ restL E.nw (l + 1)))) := hid (by rw [htH.out, hdr.out]; rfl)
          have hbb := bool_cases (fs.contains x.file)
          generalize fs.contains x.file = bb at *
          go_wp2_with fail
          refine hcont.out.mono ?_
          rintro e w1 ⟨rfl, k1⟩
          have v1 := hid (va.out.kp k1)
          have b1 := k1.cell hbx.out
          clear k1 d0 d1 d2 d3 d4
          rcases hbb with rfl | rfl
          · have hbs := hid v1.out.base
            have htt : Hid (twiceB (filesM V.lv) (filesM E.nw) = true) := hid (by rw [htc.out]; rfl)
            go_wp2_with fail
            go_ret
            exact ⟨hbs.out, .inl ⟨rfl, htt.out⟩⟩
          · have htt : Hid (twiceB (filesM V.lv) (filesM E.nw) = twiceB (fs ++ [x.file]) (((E.nw l).drop (j + 1)).map (·.file) ++ restL E.nw (l + 1))) := hid (by rw [htc.out]; rfl)
            obtain ⟨q, hq⟩ : ∃ q, wr.heap.size = q := ⟨_, rfl⟩
            rw [hq] at b1 ⊢
            have hqH := hid hq
            clear hq hbx
            go_wp2_with (refine wpList_append_slc rfl _ _ _ rfl 32 j0 _ 1 8 Tryz.underlying29 hj0 hy0 hy1 hy2 rfl (by omega) _ _ _ rfl (Own.allocd (v1.out.own.swap)) ⟨w1.heap.size, 0, none⟩ 1 1 [.int .u64 x.file] rfl rfl (cells_new' (by simp) _ _ _) ?c2 ?c3 ?c4 ?_)
            case c2 => simp [Value.oneCell']
            case c3 => unfold maxLen; omega
            case c4 => omega
            intro v3 w3 o3 e3 _
            have o4 := sl_of (E := u64E) (fs ++ [x.file]) o3 (by simp) (by simp [u64E, Enc.flat])
            obtain ⟨A4, n4, k4, rfl⟩ := sl_shape o4
            have v4 := hid (v1.out.swapC (c' := sl 32 u64E (.slice A4 n4 k4) (fs ++ [x.file])) (with_rd _ h0H.out hl hwH.out.old) (by simpa using o4) (((Ext.refl w1).alloc _).trans e3))
            clear o3 o4 b1
            go_wp2
            go_roundw
            case rel => exact ⟨j + 1, fs ++ [x.file], by omega, by go_num, ⟨v4.out, hwH.out.old, hwH.out.new⟩, htt.out, by simp; omega⟩
            case measure => simp [intOf]; omega
        · obtain rfl : j = (E.nw l).length := by omega
          have cl1 := hwH.out.ver.ver.lvl l hl4
          have hfz1 : wr.frozen? ⟨p, l, none⟩ = false := hwH.out.ver.own.free l
          have hce : wr.cell? ⟨eb, 1 + l, none⟩ = some (.slice (SE l).A (SE l).n (SE l).c) := (Own.pick 2 hwH.out.ver.own).cell (edit_at g SE E hl4)
          have hpl : p < wr.heap.size := World.block_lt_of_cell? wr _ cl1
          obtain ⟨eS, eV⟩ := hwH.out.old l (Nat.le_refl _) hl4
          have hrdV : Hid (Rd wr metaE (S1 l).v (V.lv l)) := hid (by have := hwH.out.ver.rdAt hl4; dsimp only at this; rwa [eV] at this)
          have hf1 := hfH.out l hl4
          have hclo : Hid (Calls Tryz.prog 37 #[.slice (S1 l).A (S1 l).n (S1 l).c] wr.drew fun e w' => ∃ A n c, e = .returned (.slice A n c) ∧ Own w' [sl 43 metaE (.slice A n c) (V.lv l), base wr wr.heap.size] ∧ Ext wr w' ∧ w'.cell? ⟨eb, 1 + l, none⟩ = some (.slice (SE l).A (SE l).n (SE l).c) ∧ Rd w' metaE (.slice (SE l).A (SE l).n (SE l).c) (E.nw l)) := hid (by
            refine (mclone_c (S1 l).v (V.lv l) wr.drew (((Kp.refl wr).drew).rd hrdV.out) (by omega)).mono ?_
            rintro e w' ⟨v', he, o', x'⟩
            obtain ⟨A', n', c', rfl⟩ := sl_shape o'
            have kk : Kp wr w' := ((Kp.refl wr).drew).trans (kp_of1 o' x')
            exact ⟨A', n', c', he, o', kk.ext, kk.cell hce, kk.rd (hwH.out.ver.base.rd hrd0.out)⟩)
          have htt : Hid (twiceB (filesM V.lv) (filesM E.nw) = twiceB fs (restL E.nw (l + 1))) := hid (by rw [htH.out, List.drop_length]; rfl)
          have hSnH := hid hSn
          clear eS eV hSn
          go_wp2_with fail
          go_region_law (first
            | (refine step_append_rd rfl _ _ _ rfl i0 _ 5 56 Tryz.underlying30 hi0 hz0 hz1 hz2 rfl rfl rfl o2 rfl rd2 (by unfold maxLen; omega) (by omega) ?_; intro A3 n3 c3 w3 o3 x3; have cl3 := (kp_of1 o3 (x2.trans x3)).cell cl1; have fz3 := (kp_of1 o3 (x2.trans x3)).free hpl hfz1)
            | (go_simp; go_at_call 37; refine hclo.out.mono ?_; rintro e w2 ⟨A2, n2, c2, rfl, o2, x2, ce2, rd2⟩; have cl2 := (kp_of1 o2 x2).cell cl1; have fz2 := (kp_of1 o2 x2).free hpl hfz1))
          all_goals
            have wt := hid (hwH.out.turn hl4 (s := ⟨A3, n3, c3⟩) o3 (x2.trans x3) (by simp; omega))
            clear o2 x2 ce2 rd2 cl2 fz2 o3 x3 cl3 fz3 cl1 hfz1 hce hpl
            go_wp2_with fail
            go_roundw
            case rel => exact ⟨l + 1, fs, _, _, by omega, by go_num, wt.out, htt.out, by omega⟩
            case measure => simp [intOf]; omega
    · obtain rfl : l = 4 := by omega
      have htf : Hid (twiceB (filesM V.lv) (filesM E.nw) = false) := hid (by rw [htH.out]; rfl)
      have v4 : Hid (Ver4 wr W0 p S1 { V with lv := lv1 } (sl 32 u64E (.slice A1 n1 c1) fs :: pts eb (.cells (editCells g SE E) 34 (0, 0)) :: D)) := hid ⟨by
        have := hwH.out.ver.own
        refine this.perm (List.Perm.cons _ ?_)
        simp only [List.cons_append, List.append_assoc]
        refine (List.Perm.cons _ (List.perm_middle.symm)).trans ?_
        exact List.perm_middle.symm, hwH.out.ver.few, hwH.out.ver.ext⟩
      generalize sl 32 u64E (.slice A1 n1 c1) fs :: pts eb (.cells (editCells g SE E) 34 (0, 0)) :: D = R at *
      have hnew := hid hwH.out.new
      have c0 := hwH.out.ver.ver.lvl 0 (by omega)
      have hl0 : (lv1 0).length ≤ 20000 := hwH.out.ver.few 0 (by omega)
      have hms := hid (msort_c (S1 0).v (lv1 0) (by omega) wr (v4.out.pick (l := 0) (by omega)))
      unfold SlA.v at hms
      go_wp2_with fail
      refine hms.out.mono ?_
      rintro e w2 ⟨rfl, ys, o2, x2, p2, d2⟩
      have v5 := hid (v4.out.back (l := 0) (by omega) o2 x2 p2.length_eq)
      have p2H := hid p2
      have d2H := hid d2
      clear o2 x2 p2 d2 c0 hl0
      go_wp2_with fail
      go_loopw [9] (fun i wr => ∃ (l : Nat) (lv2 : Lvls), 1 ≤ l ∧ l ≤ 4 ∧ i = .int .i64 l ∧ Ver4 wr W0 p S1 { V with lv := lv2 } R ∧ (∀ i, i < 4 → (lv2 i).Perm (V.lv i ++ E.nw i)) ∧ (lv2 0).Pairwise DownF ∧ ∀ i, 1 ≤ i → i < l → Up (lv2 i)) (fun i _ => 4 - (intOf i).toNat)
      case atStart =>
        refine ⟨1, _, by omega, by omega, rfl, v5.out, fun i hi => ?_, ?_, fun i h1 h2 => by omega⟩
        · by_cases e : i = 0
          · subst e
            show (upd lv1 0 ys 0).Perm _
            rw [upd_at, ← hnew.out 0 (by omega)]; exact p2H.out
          · show (upd lv1 0 ys i).Perm _
            rw [upd_ne _ _ e, hnew.out i hi]
        · show (upd lv1 0 ys 0).Pairwise DownF
          rw [upd_at]; exact d2H.out
      case round =>
        clear v5 v4 hnew hms hwH htH
        obtain ⟨l, lv2, h1l, hl5, rfl, hv, hpm, hd, hu⟩ := hrel
        have hvH := hid hv
        have hpmH := hid hpm
        have hdH := hid hd
        have huH := hid hu
        clear hv hpm hd hu
        by_cases hl6 : l < 4
        · have hl6' : (l : Int) < 4 := by omega
          have cl := hvH.out.verO.ver.lvl l hl6
          have hll : (lv2 l).length ≤ 20000 := hvH.out.few l hl6
          have hms := hid (mstable_c (S1 l).v (lv2 l) (by omega) wr (hvH.out.pick hl6))
          unfold SlA.v at hms
          go_wp2_with fail
          refine hms.out.mono ?_
          rintro e w2 ⟨rfl, ys, o2, x2, p2, d2⟩
          have v5 := hid (hvH.out.back hl6 o2 x2 p2.length_eq)
          have p2H := hid p2
          have d2H := hid d2
          clear o2 x2 p2 d2 cl hll
          go_wp2_with fail
          go_roundw
          case rel =>
            refine ⟨l + 1, _, by omega, by omega, by go_num, v5.out, fun i hi => ?_, ?_, fun i h1 h2 => ?_⟩
            · by_cases e : i = l
              · subst e
                show (upd lv2 i ys i).Perm _
                rw [upd_at]; exact p2H.out.trans (hpmH.out i hi)
              · show (upd lv2 l ys i).Perm _
                rw [upd_ne _ _ e]; exact hpmH.out i hi
            · show (upd lv2 l ys 0).Pairwise DownF
              rw [upd_ne _ _ (by omega)]; exact hdH.out
            · show Up (upd lv2 l ys i)
              by_cases e : i = l
              · subst e; rw [upd_at]; exact d2H.out
              · rw [upd_ne _ _ e]; exact huH.out i h1 (by omega)
          case measure => simp [intOf]; omega
        · obtain rfl : l = 4 := by omega
          go_wp2_with fail
          go_ret
          exact ⟨hvH.out.verO.base, .inr ⟨htf.out, rfl, lv2, S1, _, hvH.out.verO, hvH.out.allG, hpmH.out, hdH.out, huH.out⟩⟩
end Go.Proofs.YtdmdnhceiddcfaaGreat
