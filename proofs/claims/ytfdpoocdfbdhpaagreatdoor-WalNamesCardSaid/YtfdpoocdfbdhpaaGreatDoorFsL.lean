/- The walk of Crash. -/
import Derived.Test.YtfdpoocdfbdhpaaGreatDoorFsMx
set_option linter.all false
namespace Go.Proofs.YtfdpoocdfbdhpaaGreatDoor
open Go.RowKit Go.Sl Go.Scree Go.Maps

def intE : Enc Int := ⟨fun n => [.int .i64 n], 1, fun _ => rfl, by simp [Value.oneCell'], by omega⟩
theorem leftOf_some (f : FFile) (x : Int) : leftOfF f (some x) = min x.toNat (f.b.length - f.sure) := rfl
theorem leftOf_none (f : FFile) : leftOfF f none = 0 := rfl
theorem ptrV_form (x : Option Nat) : ∃ q, ptrV x = .pointer q := by cases x <;> exact ⟨_, rfl⟩
/-- How many changes are made by a crash. -/
def keptC (d : FDisk) (n : Int) : Nat := min n.toNat d.pending.length

set_option maxRecDepth 20000 in
set_option maxHeartbeats 6400000 in
theorem crash_c (p : Nat) (d : FDisk) (n : Int) (kv : Value) (keep : List Int) (w : World) (F : List Chunk) (hb : FBd d bigN) (hkp : ∀ w', Own w' F → Rd w' intE kv keep) (o : Own w (diskC p d :: F)) :
    Calls Tryz.prog 18 #[.pointer (some ⟨p, 0, none⟩), .int .i64 n, kv] w fun e w' => e = .returned (.tuple #[]) ∧ Own w' (diskC p (d.crash n keep) :: F) ∧ Ext w w' := by
  obtain ⟨m, s, pv, A, hA, hk, o⟩ := diskC_open o
  obtain ⟨pA, pn, pc, rfl⟩ := sl_shape (Own.pick 3 o)
  obtain ⟨rfl, _, _⟩ := sl_n (Own.pick 3 o)
  obtain ⟨kA, kc, rfl, _, _⟩ := (hkp _ (Own.drops [_, _, _, _, _] o)).form
  have c0 := (disk_cells o).1.1
  have c1 := (disk_cells o).1.2.1
  have fr := (disk_cells o).2
  have hp := o.lt
  have hmc := hid (mclone_c s (dmap (adr A) d.sure) w _ (Own.pick 2 o))
  have hwaits : d.pending.length ≤ 1000000000000 := hb.waits
  have kH := hid hk
  have aH := hid hA
  have bH := hid hb
  have kpH := hid hkp
  clear o hA hk hb hkp
  go_enter Tryz.func18, Tryz.ntmps18
  go_wp2_with fail
  refine hmc.out.mono ?_
  rintro e w1 ⟨rfl, o1, e1⟩
  have o2 := hid (Own.arr [2] o1)
  have d0 := (disk_cells o2.out).1.1
  have dfr := (disk_cells o2.out).2 0
  have d2 := (disk_cells o2.out).1.2.2.1
  have hp1 : p < w1.heap.size := o2.out.lt
  clear o1 c0 c1 fr
  have h1 : max (min (max n 0) (d.pending.length : Int)) 0 = (keptC d n : Int) := by unfold keptC; omega
  have h2 : (min (max n 0) (d.pending.length : Int)).toNat = keptC d n := by unfold keptC; omega
  have hmnl : keptC d n ≤ d.pending.length := by unfold keptC; omega
  go_wp2_with fail
  go_quiet (fail)
  have hmn0 : Hid (keptC d n = keptC d n) := hid rfl
  obtain ⟨mn, hmn⟩ : ∃ mn, keptC d n = mn := ⟨_, rfl⟩
  have hmnH := hid hmn
  rw [hmn] at hmnl ⊢
  clear h1 h2 hmn hmn0
  have o3 := hid (Own.drop (Own.arr [3, 0, 1, 2, 4, 5] ((o2.out.set (i := 0) (.map (some w.heap.size))).drewN nq)))
  have e3 := hid (((e1.set ⟨p, 0, none⟩ (.map (some w.heap.size))).drewN nq))
  clear o2 d0 dfr d2 hp1 e1
  generalize hW : World.drewN _ nq = w3 at *
  have hW := hid hW
  go_wp2_with fail
  go_loopw [35] (fun i wq => ∃ j : Nat, j ≤ mn ∧ i = .int .i64 j ∧ Own wq (pts p (diskO w.heap.size s (.slice pA d.pending.length pc) d) :: mapC w.heap.size (dmap (adr A) (replay d.sure (d.pending.take j))) :: mapC s (dmap (adr A) d.sure) :: sl 92 (chgE A) (.slice pA d.pending.length pc) d.pending :: filesC A d.files :: F) ∧ Ext w wq) (fun i _ => mn - (intOf i).toNat)
  case atStart =>
    exact ⟨0, Nat.zero_le _, rfl, o3.out, e3.out⟩
  case round =>
    obtain ⟨j, hj, rfl, oq, eq⟩ := hrel
    have oqH := hid oq
    by_cases hlt : j < mn
    · obtain ⟨c, hc⟩ : ∃ c, d.pending[j]? = some c := ⟨_, List.getElem?_eq_getElem (by omega)⟩
      obtain ⟨g, rfl⟩ : ∃ g, pA = some ⟨g, 0, none⟩ := by
        rcases sl_form (Own.pick 3 oq) with ⟨_, h⟩ | ⟨g, cap, h, _, _⟩
        · rw [h] at hc; simp at hc
        · simp only [Value.slice.injEq] at h; exact ⟨g, h.1⟩
      have hcell := sl_at (Own.pick 3 oq) hc
      have k0 : wr.cell? ⟨g, j * 3, none⟩ = some (.string c.src) := (hcell 0 _ rfl).1
      have k1 : wr.cell? ⟨g, j * 3 + 1, none⟩ = some (.string c.dst) := (hcell 1 _ rfl).1
      have k2 : wr.cell? ⟨g, j * 3 + 2, none⟩ = some (ptrV (c.f.map (adr A))) := (hcell 2 _ rfl).1
      have hgl : g < wr.heap.size := World.block_lt_of_cell? wr _ k0
      obtain ⟨hr1, hr2, hr3⟩ := replay_step kH.out hc
      obtain ⟨q, hq⟩ := ptrV_form (c.f.map (adr A))
      rw [hq] at k2
      have hdo := fun W G (o : Own W (mapC w.heap.size (dmap (adr A) (replay d.sure (d.pending.take j))) :: G)) => do_c A c w.heap.size (replay d.sure (d.pending.take j)) W G o hr1.1 hr1.2.1 hr3 hr1.2.2
      rw [← hr2] at hdo
      unfold chgV at hdo
      rw [hq] at hdo
      have hdoH := hid hdo
      have d0 := (disk_cells oq).1.1
      have hp1 := oq.lt
      have oB := hid (Own.alloc oqH.out (.cells #[.string c.src, .string c.dst, .pointer q] 92 (0, 0)))
      have b0 := oB.out.cell (i := 0) (v := .string c.src) rfl
      have b1 := oB.out.cell (i := 1) (v := .string c.dst) rfl
      have b2 := oB.out.cell (i := 2) (v := .pointer q) rfl
      have d0' := (disk_cells (Own.swap oB.out)).1.1
      have oM := hid (Own.arr [2] oB.out)
      clear hcell oq hc hr1 hr2 hr3 hq hdo
      go_wp2_with fail
      go_region_held3 (fun V => V.cell? ⟨wr.heap.size, 0, none⟩ = some (.string c.src) ∧ V.cell? ⟨wr.heap.size, 1, none⟩ = some (.string c.dst) ∧ V.cell? ⟨wr.heap.size, 2, none⟩ = some (.pointer q) ∧ V.cell? ⟨p, 0, none⟩ = some (.map (some w.heap.size))) (first | exact ⟨b0, b1, b2, d0'⟩ | (and_intros <;> assumption)) (first | (go_at_call 53; refine (hdoH.out _ _ (Own.drew oM.out)).mono ?_; rintro e w5 ⟨rfl, o5, e5⟩; have f0 := Own.cell (i := 0) (v := .string c.src) (Own.swap o5) rfl; have f1 := Own.cell (i := 1) (v := .string c.dst) (Own.swap o5) rfl; have f2 := Own.cell (i := 2) (v := .pointer q) (Own.swap o5) rfl; have f3 := (disk_cells (Own.pick 2 o5)).1.1; have o5H := hid o5; clear o5))
      clear b0 b1 b2 d0' f0 f1 f2 f3 k0 k1 k2 d0 oM oB
      go_wp2
      go_roundw
      case rel => exact ⟨j + 1, by omega, by go_num, Own.arr [1, 0, 2, 3, 4] (Own.drop (Own.swap o5H.out)), ((eq.alloc _).drew).trans e5⟩
      case measure => simp [intOf]; omega
    · have hje : j = mn := by omega
      subst hje
      clear hlt oq hj
      have hcd : Hid (replay d.sure (d.pending.take j) = d.crashDir n) := hid (by rw [← hmnH.out]; rfl)
      have hgood := kH.out.crashGood n
      have oq2 := oqH.out
      rw [hcd.out] at oq2
      have hls := list_x p w.heap.size (dmap (adr A) (d.crashDir n)) wr _ (by rw [dmap_len]; exact hgood.few) (Own.pick 1 oq2) (disk_cells oq2).1.1
      rw [namesOf_map] at hls
      have hlsH := hid hls
      have hgH := hid hgood
      clear hls oq2 hgood
      go_wp2_with fail
      refine hlsH.out.mono ?_
      rintro e w6 ⟨lv, rfl, o6, e6⟩
      obtain ⟨lA, ln, lc, rfl⟩ := sl_shape o6
      obtain ⟨hln, _, _⟩ := sl_n o6
      have hlnH := hid hln
      have o6H := hid o6
      clear hln o6 hlsH
      have o7 := hid (Own.arr [2, 1, 3, 4, 5, 0] o6H.out)
      have e7 := hid (eq.trans e6)
      have hnn : Hid ((namesOf (d.crashDir n)).length = (d.crashDir n).length) := hid (by simp [namesOf])
      have hln60 : ln ≤ 60 := by have h1 := hgH.out.few; have h2 := hlnH.out; rw [hnn.out] at h2; omega
      clear o6H eq e6 oqH
      obtain ⟨M, hM⟩ : ∃ M, w.heap.size = M := ⟨_, rfl⟩
      rw [hM] at o7 ⊢
      have hMH := hid hM
      clear hM
      go_wp2_with fail
      go_loopw [49] (fun i wq => ∃ B : List Nat, i = .int .i64 B.length ∧ B.length ≤ ln ∧ Own wq (pts p (diskO M s (.slice pA d.pending.length pc) d) :: mapC M (mix A (d.crashDir n) B) :: mapC s (dmap (adr A) d.sure) :: sl 92 (chgE A) (.slice pA d.pending.length pc) d.pending :: filesC A d.files :: sl 9 strE (.slice lA ln lc) (namesOf (d.crashDir n)) :: filesC B ((d.crashFiles n keep).take B.length) :: F) ∧ Ext w wq) (fun i _ => ln - (intOf i).toNat)
      case atStart =>
        refine ⟨[], rfl, Nat.zero_le _, ?_, e7.out⟩
        rw [mix_nil]
        exact Own.arr [1, 2, 3, 4, 5, 6] (filesC_nil o7.out)
      case round =>
        obtain ⟨B, rfl, hB, oq, eq⟩ := hrel
        have oqH := hid oq
        by_cases hlt : B.length < ln
        · obtain ⟨⟨name, i⟩, hat⟩ : ∃ q, (d.crashDir n)[B.length]? = some q := ⟨_, List.getElem?_eq_getElem (by have h2 := hlnH.out; rw [hnn.out] at h2; omega)⟩
          obtain ⟨g, rfl⟩ : ∃ g, lA = some ⟨g, 0, none⟩ := by
            rcases sl_form (Own.pick 5 oq) with ⟨_, h⟩ | ⟨g, cap, h, _, _⟩
            · have := names_at hat; rw [h] at this; simp at this
            · simp only [Value.slice.injEq] at h; exact ⟨g, h.1⟩
          have hcell := sl_at (Own.pick 5 oq) (names_at hat)
          have k0 : wr.cell? ⟨g, B.length, none⟩ = some (.string name) := by have := (hcell 0 _ rfl).1; simpa [strE] using this
          have hi : i < d.files.length := hgH.out.lt _ (List.mem_of_getElem? hat)
          have hname : name.size ≤ maxLen := Nat.le_trans (mayB_small (hgH.out.names _ (List.mem_of_getElem? hat))) (by simp [maxLen])
          have hmo : DirOk (mix A (d.crashDir n) B) := mapC_ok (Own.pick 1 oq)
          have lk := look_one (Own.pick 1 oq) hname ((dget_mem hmo _ _).2 (List.mem_of_getElem? (mix_at hat)))
          have hf := List.getElem?_eq_getElem hi
          have hfi : d.file i = d.files[i] := by unfold FDisk.file; rw [hf]; rfl
          rw [← hfi] at hf
          have hfit : (d.file i).sure ≤ (d.file i).b.length := by rw [hfi]; exact kH.out.fit _ (List.getElem_mem hi)
          have hbytes : (d.file i).b.length ≤ 1000000000000 := by
            have h1 := bH.out.bytes
            have h2 : (d.file i).b.length ≤ total d.files := by rw [hfi]; exact mem_le_sum (List.mem_map.2 ⟨_, List.getElem_mem hi, rfl⟩)
            exact Nat.le_trans h2 h1
          obtain ⟨R, o8, bk⟩ := filesC_pick aH.out hf (Own.pick 4 oq)
          obtain ⟨fv, o9⟩ := fileC_open o8
          obtain ⟨fA, fn, fc, rfl⟩ := sl_shape o9.swap
          obtain ⟨hfn, _, hfcm⟩ := sl_n o9.swap
          subst hfn
          have a0 := o9.cell (i := 0) (v := .slice fA (d.file i).b.length fc) rfl
          have a1 := o9.cell (i := 1) (v := .int .i64 (d.file i).sure) rfl
          have hrd := hid (sl_rd o9.swap)
          have d0 := (disk_cells oq).1.1
          have hatH := hid hat
          have hnameH := hid hname
          have hmix := hid (mix_len (A := A) (cd := d.crashDir n) (B := B) (by have h2 := hlnH.out; rw [hnn.out] at h2; omega))
          have hfile : ∃ f, d.file i = f := ⟨_, rfl⟩
          obtain ⟨f, hfe⟩ := hfile
          rw [hfe] at hfit hbytes a0 a1 hrd
          have hfeH := hid hfe
          have hx : ∃ a, adr A i = a := ⟨_, rfl⟩
          obtain ⟨a, hae⟩ := hx
          rw [hae] at lk a0 a1
          clear hcell hat hi hmo hf hfi o8 o9 bk hname hfe hae oq hfcm
          have hM60 : (mix A (d.crashDir n) B).length < maxLen := by rw [hmix.out]; have := hgH.out.few; unfold maxLen; omega
          have m60 := hid hM60
          clear hM60
          by_cases hkl : B.length < keep.length
          · obtain ⟨x, hx⟩ : ∃ x, keep[B.length]? = some x := ⟨_, List.getElem?_eq_getElem hkl⟩
            obtain ⟨gk, ko, rfl, kc0⟩ : ∃ gk ko, kA = some ⟨gk, ko, none⟩ ∧ wr.cell? ⟨gk, ko + B.length, none⟩ = some (.int .i64 x) := by
              rcases kpH.out _ (Own.drops [_, _, _, _, _, _, _] oqH.out) with ⟨_, h⟩ | ⟨gk, ko, cap, h, _, _, hc⟩
              · rw [h] at hx; simp at hx
              · simp only [Value.slice.injEq] at h
                have := hc _ _ hx 0 _ rfl
                exact ⟨gk, ko, h.1, by simpa [intE] using this⟩
            obtain ⟨L, hL⟩ : ∃ L, leftOfF f (some x) = L := ⟨_, rfl⟩
            have hLe : L ≤ f.b.length - f.sure := by rw [← hL, leftOf_some]; omega
            have hLH := hid hL
            have hm : min (max x 0) ((f.b.length : Int) - (f.sure : Int)) = (L : Int) := by rw [← hL, leftOf_some]; omega
            have hxH := hid hx
            clear hL hx
            have hs1 : IntKind.i64.wrap ((f.sure : Int) + (L : Int)) = (f.sure : Int) + (L : Int) := Go.IntWalk.i64_in _ (by omega)
            have hs2 : ((f.sure : Int) + (L : Int)).toNat = f.sure + L := by omega
            have hs1H := hid hs1
            have hs2H := hid hs2
            clear hs1 hs2
            go_wp2_with fail
            go_quiet (fail)
            have kp2 := (Kp.refl wr).drewN nq
            have hs3 : (0 : Int) ≤ (f.sure : Int) + (L : Int) := by omega
            have hsl : f.sure + L ≤ f.b.length := by omega
            have hs4 : (f.sure : Int) + (L : Int) ≤ (fc : Int) := by have := (hrd.out).form; obtain ⟨_, _, hv, _, hle⟩ := this; simp only [Value.slice.injEq] at hv; obtain ⟨_, _, rfl⟩ := hv; omega
            have hb2 : Hid ((f.b.take (f.sure + L)).length ≤ bigN) := hid (by rw [List.length_take]; exact Nat.le_trans (Nat.min_le_right _ _) hbytes)
            replace a0 := kp2.cell a0
            replace a1 := kp2.cell a1
            have hrd2 := hid (kp2.drew.rd (rd_take hrd.out (f.sure + L) hsl))
            have oq2 := hid (Own.drewN oqH.out nq)
            have eq2 := hid (Ext.drewN eq nq)
            have hkcut : Hid (cutF f keep[B.length]? = ⟨f.b.take (f.sure + L), (f.b.take (f.sure + L)).length⟩) := hid (by unfold cutF; rw [hxH.out, hLH.out])
            clear hm k0 lk kc0 oqH eq kp2 d0
            generalize World.drewN wr nq = w7 at *
            go_wp2_with fail
            have hs1 := hs1H.out
            have hs2 := hs2H.out
            go_region_held3 (fun V => V.cell? ⟨a, 0, none⟩ = some (.slice fA f.b.length fc) ∧ V.cell? ⟨a, 1, none⟩ = some (.int .i64 f.sure)) (first | exact ⟨a0, a1⟩ | (and_intros <;> assumption)) (first | (go_at_call 54; refine (bclone_c _ (f.b.take (f.sure + L)) w7.drew hrd2.out hb2.out).mono ?_; rintro e w5 ⟨v5, rfl, o5, e5⟩; have kp5 := kp_of1 o5 e5; have b0 := kp5.cell (p := ⟨a, 0, none⟩) a0; have b1 := kp5.cell (p := ⟨a, 1, none⟩) a1; obtain ⟨A5, n5, c5, rfl⟩ := sl_shape o5; have o5H := hid (rebase1 o5 (Own.drew oq2.out)); have e5H := hid e5; clear o5 e5))
            clear hs1 hs2 a0 a1 b0 b1
            have o6 := o5H.out
            have d0 := (disk_cells (Own.pick 1 o6)).1.1
            obtain ⟨hn5, _, _⟩ := sl_n o6
            have htl : Hid ((f.b.take (f.sure + L)).length = f.sure + L) := hid (by rw [List.length_take]; omega)
            rw [htl.out] at hn5
            subst hn5
            have hmk := hid (Own.alloc o6 (.cells #[.slice A5 (f.sure + L) c5, .int .i64 ((f.sure : Int) + (L : Int))] 96 (0, 0)))
            clear o6
            go_wp2_with (first | (refine wpList_dput rfl _ _ _ rfl rfl rfl rfl (Own.pick 3 hmk.out) hnameH.out m60.out ?_; intro w8 o8 e8; have o8H := hid o8; clear o8))
            go_roundw
            case rel =>
              refine ⟨B ++ [w5.heap.size], by rw [List.length_append, List.length_singleton]; go_num, by rw [List.length_append, List.length_singleton]; omega, ?_, ((eq2.out.drew.trans e5H.out).alloc _).trans e8⟩
              have o9 := o8H.out
              rw [dput_set (mapC_ok oq2.out.swap) (mix_at hatH.out), mix_step hatH.out] at o9
              have o10 := fileC_close (f := ⟨f.b.take (f.sure + L), f.sure + L⟩) (Own.arr [1, 2] o9)
              have e9 : (d.crashFiles n keep).take (B ++ [w5.heap.size]).length = (d.crashFiles n keep).take B.length ++ [⟨f.b.take (f.sure + L), f.sure + L⟩] := by
                rw [List.length_append, List.length_singleton]
                refine take_snoc2 ?_
                rw [crashFiles_at hatH.out, hfeH.out, hkcut.out, htl.out]
              rw [e9]
              have hlB : B.length = ((d.crashFiles n keep).take B.length).length := by rw [List.length_take, crashFiles_len]; have h2 := hlnH.out; rw [hnn.out] at h2; omega
              have o11 := filesC_snoc hlB (o10.arr [0, 7])
              exact Own.arr [2, 1, 3, 4, 5, 6, 0] o11
            case measure => simp only [intOf, List.length_append, List.length_singleton]; omega
          · have hxN : keep[B.length]? = none := List.getElem?_eq_none (by omega)
            have hs3 : (0 : Int) ≤ (f.sure : Int) := by omega
            have hsl : f.sure ≤ f.b.length := by omega
            have hs4 : (f.sure : Int) ≤ (fc : Int) := by have := (hrd.out).form; obtain ⟨_, _, hv, _, hle⟩ := this; simp only [Value.slice.injEq] at hv; obtain ⟨_, _, rfl⟩ := hv; omega
            have hb2 : Hid ((f.b.take (f.sure)).length ≤ bigN) := hid (by rw [List.length_take]; exact Nat.le_trans (Nat.min_le_right _ _) hbytes)
            have hrd2 := hid ((Kp.refl wr).drew.rd (rd_take hrd.out (f.sure) hsl))
            have oq2 := oqH
            have eq2 := hid eq
            have hkcut : Hid (cutF f keep[B.length]? = ⟨f.b.take (f.sure), (f.b.take (f.sure)).length⟩) := hid (by unfold cutF; rw [hxN, leftOf_none, Nat.add_zero])
            clear oqH eq hxN
            go_wp2_with fail
            clear k0 lk d0
            have hs1 : IntKind.i64.wrap (f.sure : Int) = (f.sure : Int) := Go.IntWalk.i64_in _ (by omega)
            have hs2 : IntKind.i64.wrap ((f.sure : Int) + 0) = (f.sure : Int) := by rw [Int.add_zero]; exact hs1
            go_region_held3 (fun V => V.cell? ⟨a, 0, none⟩ = some (.slice fA f.b.length fc) ∧ V.cell? ⟨a, 1, none⟩ = some (.int .i64 f.sure)) (first | exact ⟨a0, a1⟩ | (and_intros <;> assumption)) (first | (go_at_call 54; refine (bclone_c _ (f.b.take (f.sure)) wr.drew hrd2.out hb2.out).mono ?_; rintro e w5 ⟨v5, rfl, o5, e5⟩; have kp5 := kp_of1 o5 e5; have b0 := kp5.cell (p := ⟨a, 0, none⟩) a0; have b1 := kp5.cell (p := ⟨a, 1, none⟩) a1; obtain ⟨A5, n5, c5, rfl⟩ := sl_shape o5; have o5H := hid (rebase1 o5 (Own.drew oq2.out)); have e5H := hid e5; clear o5 e5))
            clear hs1 hs2 a0 a1 b0 b1
            have o6 := o5H.out
            have d0 := (disk_cells (Own.pick 1 o6)).1.1
            obtain ⟨hn5, _, _⟩ := sl_n o6
            have htl : Hid ((f.b.take (f.sure)).length = f.sure) := hid (by rw [List.length_take]; omega)
            rw [htl.out] at hn5
            subst hn5
            have hmk := hid (Own.alloc o6 (.cells #[.slice A5 (f.sure) c5, .int .i64 (f.sure : Int)] 96 (0, 0)))
            clear o6
            go_wp2_with (first | (refine wpList_dput rfl _ _ _ rfl rfl rfl rfl (Own.pick 3 hmk.out) hnameH.out m60.out ?_; intro w8 o8 e8; have o8H := hid o8; clear o8))
            go_roundw
            case rel =>
              refine ⟨B ++ [w5.heap.size], by rw [List.length_append, List.length_singleton]; go_num, by rw [List.length_append, List.length_singleton]; omega, ?_, ((eq2.out.drew.trans e5H.out).alloc _).trans e8⟩
              have o9 := o8H.out
              rw [dput_set (mapC_ok oq2.out.swap) (mix_at hatH.out), mix_step hatH.out] at o9
              have o10 := fileC_close (f := ⟨f.b.take (f.sure), f.sure⟩) (Own.arr [1, 2] o9)
              have e9 : (d.crashFiles n keep).take (B ++ [w5.heap.size]).length = (d.crashFiles n keep).take B.length ++ [⟨f.b.take (f.sure), f.sure⟩] := by
                rw [List.length_append, List.length_singleton]
                refine take_snoc2 ?_
                rw [crashFiles_at hatH.out, hfeH.out, hkcut.out, htl.out]
              rw [e9]
              have hlB : B.length = ((d.crashFiles n keep).take B.length).length := by rw [List.length_take, crashFiles_len]; have h2 := hlnH.out; rw [hnn.out] at h2; omega
              have o11 := filesC_snoc hlB (o10.arr [0, 7])
              exact Own.arr [2, 1, 3, 4, 5, 6, 0] o11
            case measure => simp only [intOf, List.length_append, List.length_singleton]; omega
        · have hBl : B.length = (d.crashDir n).length := by have h2 := hlnH.out; rw [hnn.out] at h2; omega
          have hnf : (d.crashFiles n keep).take B.length = d.crashFiles n keep := List.take_of_length_le (by rw [crashFiles_len]; omega)
          rw [hnf, mix_end hBl] at oq
          have oe := hid oq
          have d0 := (disk_cells oq).1.1
          have hBl2 := hid hBl
          clear oq oqH hnf hBl
          go_wp2_with fail
          refine (mclone_c M _ wr _ (Own.pick 1 oe.out)).mono ?_
          rintro e w5 ⟨rfl, o5, e5⟩
          have o6 := hid (Own.arr [2, 1, 0] o5)
          obtain ⟨⟨g0, g1, g2, g3, g4, g5, g6⟩, gf⟩ := disk_cells o6.out
          clear o5
          go_wp2
          go_end0
          refine ⟨rfl, ?_, (((((eq.trans e5).set _ _).set _ _).set _ _).set _ _).set _ _⟩
          have o7 := ((((o6.out.set (i := 1) (.map (some wr.heap.size))).set (i := 2) (.slice none 0 0)).set (i := 6) (.bool false)).set (i := 5) (.bool false)).set (i := 4) (.int .i64 0)
          have o8 := sl_nil 92 (chgE B) (Own.drops [_, _, _, _] (o7.arr [3, 4, 5, 6]))
          exact diskC_close (d := d.crash n keep) (A := B) (by rw [hBl2.out]; exact (crashFiles_len d n keep).symm) (kH.out.crash n keep) (o8.arr [1, 2, 3, 0, 4])
end Go.Proofs.YtfdpoocdfbdhpaaGreatDoor
