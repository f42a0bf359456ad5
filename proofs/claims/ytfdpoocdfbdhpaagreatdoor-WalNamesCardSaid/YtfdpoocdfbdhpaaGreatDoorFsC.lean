/- The walks of a disk's small functions: New, burn. -/
import Derived.Test.YtfdpoocdfbdhpaaGreatDoorFsB
set_option linter.all false
namespace Go.Proofs.YtfdpoocdfbdhpaaGreatDoor
open Go.RowKit Go.Sl Go.Scree Go.Maps

section
variable {w : World} {F : List Chunk} {p : Nat} {d : FDisk}
theorem disk_cells {m s : Nat} {pv : Value} (o : Own w (pts p (diskO m s pv d) :: F)) :
    (w.cell? ⟨p, 0, none⟩ = some (.map (some m)) ∧ w.cell? ⟨p, 1, none⟩ = some (.map (some s)) ∧ w.cell? ⟨p, 2, none⟩ = some pv ∧ w.cell? ⟨p, 3, none⟩ = some (.int .i64 d.quota) ∧
      w.cell? ⟨p, 4, none⟩ = some (.int .i64 d.fuse) ∧ w.cell? ⟨p, 5, none⟩ = some (.bool d.lit) ∧ w.cell? ⟨p, 6, none⟩ = some (.bool d.dead)) ∧ ∀ i, w.frozen? ⟨p, i, none⟩ = false :=
  ⟨⟨o.cell rfl, o.cell rfl, o.cell rfl, o.cell rfl, o.cell rfl, o.cell rfl, o.cell rfl⟩, fun i => o.free i⟩
end

theorem filesC_nil {w : World} {F : List Chunk} (o : Own w F) : Own w (filesC [] [] :: F) := Own.unstars (cs := []) o
theorem new_c (w : World) (F : List Chunk) (o : Own w F) :
    Calls Tryz.prog 14 #[] w fun e w' => ∃ p, e = .returned (.pointer (some ⟨p, 0, none⟩)) ∧ Own w' (diskC p FDisk.new :: F) ∧ Ext w w' := by
  have oH := hid o
  clear o
  have hmm := @run_makeMap Tryz.prog
  go_enter Tryz.func14, Tryz.ntmps14
  go_wp2
  go_ret
  refine ⟨_, rfl, ?_, (((Ext.refl _).alloc _).alloc _).alloc _⟩
  have o1 := mapC_made (mapC_made oH.out)
  have o2 := o1.alloc (diskO w.heap.size (w.alloc (.map #[] 0)).heap.size (.slice none 0 0) FDisk.new)
  have o3 := ((sl_nil 92 (chgE []) (filesC_nil o2)).pick 3).pick 4
  have o4 := o3.pick 4
  have e1 : (w.alloc (.map #[] 0)).heap.size = w.heap.size + 1 := by simp
  have e2 : ((w.alloc (.map #[] 0)).alloc (.map #[] 0)).heap.size = w.heap.size + 1 + 1 := by simp
  rw [e1, e2] at o4
  exact diskC_close (d := FDisk.new) (A := []) rfl FOk.start o4

def burnE (d : FDisk) : Int := if d.burn.2 = true then 0 else 30
theorem burn_c (p m s : Nat) (pv : Value) (d : FDisk) (hk : d.lit = true → 0 ≤ d.fuse ∧ d.fuse ≤ topI) (w : World) (F : List Chunk) (o : Own w (pts p (diskO m s pv d) :: F)) :
    Calls Tryz.prog 59 #[.pointer (some ⟨p, 0, none⟩)] w fun e w' => e = .returned (.int .i64 (burnE d)) ∧ Own w' (pts p (diskO m s pv d.burn.1) :: F) ∧ Ext w w' := by
  obtain ⟨files, now, sure, pend, quota, fuse, lit, dead⟩ := d
  obtain ⟨⟨c0, c1, c2, c3, c4, c5, c6⟩, fr⟩ := disk_cells o
  have hp := o.lt
  have oH := hid o
  dsimp only at *
  clear c0 c1 c2 c3 o
  cases dead
  · cases lit
    · clear hk
      go_enter Tryz.func59, Tryz.ntmps59
      go_wp2
      go_ret
      exact ⟨rfl, oH.out, Ext.refl _⟩
    · by_cases hz : fuse = 0
      · subst hz
        clear hk
        go_enter Tryz.func59, Tryz.ntmps59
        go_wp2
        go_ret
        exact ⟨rfl, oH.out.set (i := 6) (.bool true), (Ext.refl _).set _ _⟩
      · have h1 := hk rfl
        unfold topI at h1
        have hz2 : (fuse == 0) = false := by simpa using hz
        have hb : Hid (FDisk.burn ⟨files, now, sure, pend, quota, fuse, true, false⟩ = (⟨files, now, sure, pend, quota, fuse - 1, true, false⟩, true)) := hid (by simp [FDisk.burn, hz])
        clear hk hz
        go_enter Tryz.func59, Tryz.ntmps59
        go_wp2
        go_ret
        unfold burnE
        rw [hb.out]
        exact ⟨rfl, oH.out.set (i := 4) (.int .i64 (fuse - 1)), (Ext.refl _).set _ _⟩
  · clear hk
    go_enter Tryz.func59, Tryz.ntmps59
    go_wp2
    go_ret
    refine ⟨by cases lit <;> rfl, ?_, (Ext.refl _).set _ _⟩
    have := oH.out.set (i := 6) (.bool true)
    cases lit <;> exact this
end Go.Proofs.YtfdpoocdfbdhpaaGreatDoor
