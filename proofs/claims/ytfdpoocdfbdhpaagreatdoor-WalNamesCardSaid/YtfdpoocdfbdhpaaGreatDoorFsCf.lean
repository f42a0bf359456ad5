/- The walk of Fuse. -/
import Derived.Test.YtfdpoocdfbdhpaaGreatDoorFsC
set_option linter.all false
namespace Go.Proofs.YtfdpoocdfbdhpaaGreatDoor
open Go.RowKit Go.Sl Go.Scree Go.Maps

theorem fuse_c (p : Nat) (d : FDisk) (n : Int) (hn : n ≤ topI) (w : World) (F : List Chunk) (o : Own w (diskC p d :: F)) :
    Calls Tryz.prog 16 #[.pointer (some ⟨p, 0, none⟩), .int .i64 n] w fun e w' => e = .returned (.tuple #[]) ∧ Own w' (diskC p (d.setFuse n) :: F) ∧ Ext w w' := by
  have oD := hid o
  obtain ⟨m, s, pv, A, hl, hk, o⟩ := diskC_open o
  obtain ⟨⟨c0, c1, c2, c3, c4, c5, c6⟩, fr⟩ := disk_cells o
  have hp := o.lt
  rcases bool_cases d.dead with hd | hd
  · have hf : d.setFuse n = d := by simp [FDisk.setFuse, hd]
    rw [hf]
    rw [hd] at c6
    clear o hl hk hn hd hf c0 c1 c2 c3 c4 c5
    go_enter Tryz.func16, Tryz.ntmps16
    go_wp2
    go_end0
    exact ⟨rfl, oD.out, Ext.refl _⟩
  · have o2 := (o.set (i := 4) (.int .i64 n)).set (i := 5) (.bool (decide (0 ≤ n)))
    have hf : d.setFuse n = { d with fuse := n, lit := decide (0 ≤ n) } := by simp [FDisk.setFuse, hd]
    have k2 := hk.setFuse n hn
    rw [hf] at k2 ⊢
    have o3 := hid (diskC_close (d := { d with fuse := n, lit := decide (0 ≤ n) }) hl k2 o2)
    rw [hd] at c6
    clear o hl hk hn hd hf c0 c1 c2 c3 o2 k2
    go_enter Tryz.func16, Tryz.ntmps16
    go_wp2
    all_goals go_end0
    all_goals exact ⟨rfl, o3.out, ((Ext.refl _).set _ _).set _ _⟩
end Go.Proofs.YtfdpoocdfbdhpaaGreatDoor
