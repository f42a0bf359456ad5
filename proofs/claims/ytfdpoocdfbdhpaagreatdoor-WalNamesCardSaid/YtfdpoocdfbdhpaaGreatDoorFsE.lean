/- The walk of changes: a change of the directory, kept among those that wait. -/
import Derived.Test.YtfdpoocdfbdhpaaGreatDoorFsD
import Derived.Test.YtfdpoocdfbdhpaaGreatDoorSlm
import Derived.RegionTactic
import Derived.BigRegion
import Derived.Deep.RegionLaw
set_option linter.all false
namespace Go.Proofs.YtfdpoocdfbdhpaaGreatDoor
open Go.RowKit Go.Sl Go.Scree Go.Maps

/-- Room enough: so many bytes, so many changes that wait. -/
def bigN : Nat := 1000000000000
theorem infoChg : (Tryz.prog.info? 92).map (fun i => (i.zero, i.size, i.bytes)) = some (some (.agg #[.string ⟨#[]⟩, .string ⟨#[]⟩, .pointer none]), 3, 40) := by kernel_rfl

abbrev DX (p m s : Nat) (pv : Value) (A : List Nat) (d : FDisk) (F : List Chunk) : List Chunk :=
  pts p (diskO m s pv d) :: mapC m (dmap (adr A) d.now) :: mapC s (dmap (adr A) d.sure) :: sl 92 (chgE A) pv d.pending :: filesC A d.files :: F

theorem burn_no {d : FDisk} (h : d.burn.2 = false) (c : FChg) : burnE d = 30 ∧ d.changes c = (d.burn.1, 30) := by
  unfold burnE FDisk.changes
  cases hd : d.burn with
  | mk e ok => rw [hd] at h; dsimp only at h; subst h; exact ⟨rfl, rfl⟩
theorem burn_yes {d : FDisk} (h : d.burn.2 = true) (c : FChg) : burnE d = 0 ∧ d.changes c = ({ d.burn.1 with now := c.act d.burn.1.now, pending := d.burn.1.pending ++ [c] }, 0) := by
  unfold burnE FDisk.changes
  cases hd : d.burn with
  | mk e ok => rw [hd] at h; dsimp only at h; subst h; exact ⟨rfl, rfl⟩
theorem burned_own {p m s : Nat} {pv : Value} {A : List Nat} {d : FDisk} {w w' : World} {F : List Chunk} (o : Own w' (pts p (diskO m s pv d.burn.1) :: mapC m (dmap (adr A) d.now) :: mapC s (dmap (adr A) d.sure) :: sl 92 (chgE A) pv d.pending :: filesC A d.files :: F)) :
    Own w' (DX p m s pv A d.burn.1 F) := by
  obtain ⟨a, b, c, e, _⟩ := burn_same d
  unfold DX
  rw [a, b, c, e]; exact o

set_option maxRecDepth 20000 in
set_option maxHeartbeats 3200000 in
theorem changes_c (p m s : Nat) (pv : Value) (A : List Nat) (c : FChg) (d : FDisk) (w : World) (F : List Chunk) (hA : A.length = d.files.length) (hk : FOk d) (hc : c.fits d.now d.files.length) (hs : c.src.size ≤ maxLen) (hd : c.dst.size ≤ maxLen) (hb : d.pending.length ≤ bigN)
    (o : Own w (DX p m s pv A d F)) :
    Calls Tryz.prog 76 #[.pointer (some ⟨p, 0, none⟩), chgV A c] w fun e w' => e = .returned (.int .i64 (d.changes c).2) ∧ Own w' (diskC p (d.changes c).1 :: F) ∧ Ext w w' := by
  obtain ⟨Ap, np, cp, rfl⟩ := sl_shape (Own.pick 3 o)
  obtain ⟨i0, hi0, hz0, hz1, hz2⟩ := info_parts infoChg
  have hnp : np = d.pending.length := by
    obtain ⟨a, c, hv, _⟩ := (sl_rd (Own.pick 3 o)).form
    simp only [Value.slice.injEq] at hv
    exact hv.2.1
  subst hnp
  have oB := hid (o.alloc (chgO A c))
  have kC := hid (hk.changes hc)
  have hAH := hid hA
  clear hA o
  rcases bool_cases d.burn.2 with hbu | hbu
  · obtain ⟨h1, h2⟩ := burn_yes hbu c
    rw [h2] at kC ⊢
    have hcon := burn_c p m s _ d hk.fuse _ _ (Own.exch [_] [_, _, _, _, _] oB.out)
    rw [h1] at hcon
    obtain ⟨a1, a2, a3, a4, a5⟩ := burn_same d
    have hfew : Hid (d.burn.1.now.length ≤ 60) := hid (by rw [a2]; exact hk.now.few)
    have hsome : Hid (c.f = none → (dget d.burn.1.now c.src).isSome = true) := hid (fun hn => by rw [a2]; unfold FChg.fits at hc; rw [hn] at hc; exact hc.1)
    have hbB : Hid (d.burn.1.pending.length ≤ bigN) := hid (by rw [a4]; exact hb)
    have hAB : Hid (A.length = d.burn.1.files.length) := hid (by rw [a1]; exact hAH.out)
    have hsH := hid hs
    have hdH := hid hd
    have hcH := hid hcon
    have hbo : Hid (∀ w', Own w' (pts p (diskO m s (.slice Ap d.pending.length cp) d.burn.1) :: mapC m (dmap (adr A) d.now) :: mapC s (dmap (adr A) d.sure) :: sl 92 (chgE A) (.slice Ap d.pending.length cp) d.pending :: filesC A d.files :: pts w.heap.size (chgO A c) :: F) → Own w' (DX p m s (.slice Ap d.pending.length cp) A d.burn.1 (pts w.heap.size (chgO A c) :: F))) := hid (fun w' o => burned_own (w := w) o)
    clear hs hd h1 h2 hbu hcon a1 a2 a3 a4 a5 hc hk hb hAH
    unfold chgV
    generalize d.burn.1 = d1 at *
    go_enter Tryz.func76, Tryz.ntmps76
    go_wp2_with fail
    refine hcH.out.mono ?_
    rintro e w1 ⟨rfl, o1, e1⟩
    have oD := hid (hbo.out w1 o1)
    obtain ⟨⟨c0, c1, c2, c3, c4, c5, c6⟩, fr⟩ := disk_cells oD.out
    have ob := Own.pick 5 oD.out
    have b0 := ob.cell (i := 0) (v := .string c.src) rfl
    have b1 := ob.cell (i := 1) (v := .string c.dst) rfl
    have b2 := ob.cell (i := 2) (v := ptrV (c.f.map (adr A))) rfl
    have e1H := hid (((Ext.refl w).alloc (chgO A c)).trans e1)
    clear o1 e1 ob c3 c4 c5 c6 hcH hbo
    go_wp2_with fail
    go_region_held3 (fun V => V.cell? ⟨w.heap.size, 0, none⟩ = some (.string c.src) ∧ V.cell? ⟨w.heap.size, 1, none⟩ = some (.string c.dst) ∧ V.cell? ⟨w.heap.size, 2, none⟩ = some (ptrV (c.f.map (adr A))) ∧ V.cell? ⟨p, 0, none⟩ = some (.map (some m))) (first | exact ⟨b0, b1, b2, c0⟩ | (and_intros <;> assumption)) (first | (go_at_call 53; refine (do_c A c m d1.now w1.drew _ (Own.swap (Own.drew oD.out)) hsH.out hdH.out hfew.out hsome.out).mono ?_; rintro e w2 ⟨rfl, o2, e2⟩; have g3 := (disk_cells (Own.swap o2)).1.1; have g4 := (disk_cells (Own.swap o2)).1.2.2.1; have g5 := (disk_cells (Own.swap o2)).2; have g0 := Own.cell (i := 0) (v := .string c.src) (Own.pick 5 o2) rfl; have g1 := Own.cell (i := 1) (v := .string c.dst) (Own.pick 5 o2) rfl; have g2 := Own.cell (i := 2) (v := ptrV (c.f.map (adr A))) (Own.pick 5 o2) rfl; have oD2 := hid o2; clear o2))
    have e2H := hid (e1H.out.trans (((Ext.refl w1).drew).trans e2))
    have oL := hid (Own.pick 3 oD2.out)
    have hlen : d1.pending.length ≤ 1000000000000 := hbB.out
    clear e1H e2 oD c0 c1 c2 b0 b1 b2 fr oB hfew hsome hbB hsH hdH
    have hp2 : p < w2.heap.size := (Own.swap oD2.out).lt
    have hp3 : w.heap.size < w2.heap.size := (Own.pick 5 oD2.out).lt
    go_wp2_with fail
    go_region_law (first | (refine step_append_slc rfl _ _ _ rfl 92 i0 _ 3 40 Tryz.underlying81 hi0 hz0 hz1 hz2 rfl (by omega) _ d1.pending.length ((chgE A).flat d1.pending) rfl (Own.allocd (Own.drew oL.out)) ⟨w2.heap.size, 0, none⟩ 1 1 [.string c.src, .string c.dst, ptrV (c.f.map (adr A))] rfl rfl (cells_new' (by simp) _ _ _) (by intro u hu; exact (chgE A).one c u hu) (by unfold maxLen; omega) (by omega) (by omega) ?_; intro A3 k3 w3 o4 e4; have h0 := (disk_cells (Own.pick 2 o4)).1.2.2.1; have h1 := (disk_cells (Own.pick 2 o4)).2))
    all_goals
      have o5 := hid (sl_of (E := chgE A) (d1.pending ++ [c]) o4 (by simp) (by rw [(chgE A).flat_append]; simp [Enc.flat, chgE]))
      have e5 := hid ((e2H.out.trans (((Ext.refl w2).drew).alloc (.cells #[.string c.src, .string c.dst, ptrV (c.f.map (adr A))] 92 (0, 0)))).trans e4)
      clear o4 e4 h0 h1
      go_wp2
      go_ret
      refine ⟨rfl, diskC_close hAB.out kC.out (?_ : Own _ (DX p m s (.slice A3 (d1.pending.length + 1) k3) A ⟨d1.files, c.act d1.now, d1.sure, d1.pending ++ [c], d1.quota, d1.fuse, d1.lit, d1.dead⟩ F)), e5.out.set _ _⟩
      have o6 := Own.set (i := 2) (Own.arr [2, 1, 3, 0, 4] o5.out) (.slice A3 (d1.pending.length + 1) k3)
      have o7 := Own.drop (Own.pick 5 o6)
      exact o7
  · obtain ⟨h1, h2⟩ := burn_no hbu c
    rw [h2] at kC ⊢
    have hcon := burn_c p m s _ d hk.fuse _ _ (Own.exch [_] [_, _, _, _, _] oB.out)
    rw [h1] at hcon
    have hcH := hid hcon
    have fin : Hid (∀ w', Own w' (pts p (diskO m s (.slice Ap d.pending.length cp) d.burn.1) :: mapC m (dmap (adr A) d.now) :: mapC s (dmap (adr A) d.sure) :: sl 92 (chgE A) (.slice Ap d.pending.length cp) d.pending :: filesC A d.files :: F) → Own w' (diskC p d.burn.1 :: F)) := hid (fun w' o => diskC_close (by rw [(burn_same d).1]; exact hAH.out) kC.out (burned_own (w := w) o))
    clear hs hd h1 h2 hbu hcon hc hk hb hAH
    unfold chgV
    generalize d.burn.1 = d1 at *
    go_enter Tryz.func76, Tryz.ntmps76
    go_wp2_with fail
    refine hcH.out.mono ?_
    rintro e w1 ⟨rfl, o1, e1⟩
    have o1H := hid o1
    clear o1
    go_wp2
    go_ret
    exact ⟨rfl, fin.out _ (Own.drop (Own.pick 5 o1H.out)), ((Ext.refl _).alloc _).trans e1⟩
end Go.Proofs.YtfdpoocdfbdhpaaGreatDoor
