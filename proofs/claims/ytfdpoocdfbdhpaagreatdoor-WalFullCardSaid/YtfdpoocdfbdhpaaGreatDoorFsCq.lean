/- The walk of Quota. -/
import Derived.Test.YtfdpoocdfbdhpaaGreatDoorFsC
namespace Go.Proofs.YtfdpoocdfbdhpaaGreatDoor
open Go.RowKit Go.Sl Go.Scree Go.Maps

theorem quota_c (p : Nat) (d : FDisk) (n : Int) (w : World) (F : List Chunk) (o : Own w (diskC p d :: F)) :
    Calls Tryz.prog 30 #[.pointer (some ⟨p, 0, none⟩), .int .i64 n] w fun e w' => e = .returned (.tuple #[]) ∧ Own w' (diskC p (d.setQuota n) :: F) ∧ Ext w w' := by
  obtain ⟨m, s, pv, A, hl, hk, o⟩ := diskC_open o
  obtain ⟨⟨c0, c1, c2, c3, c4, c5, c6⟩, fr⟩ := disk_cells o
  have oH := hid o
  have hH := hid hl
  have mk : ∀ v : Int, v = max n 0 → Own (w.setCell ⟨p, 3, none⟩ (.int .i64 v)) (diskC p (d.setQuota n) :: F) := by
    rintro v rfl
    exact diskC_close (d := d.setQuota n) hl (hk.setQuota n) (o.set (i := 3) (.int .i64 (max n 0)))
  have mkH := hid mk
  clear o hl mk
  go_enter Tryz.func30, Tryz.ntmps30
  go_wp2
  all_goals
    go_end0
    exact ⟨rfl, mkH.out _ (by omega), (Ext.refl _).set _ _⟩
end Go.Proofs.YtfdpoocdfbdhpaaGreatDoor
