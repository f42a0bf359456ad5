/- The walk of Remove. -/
import Derived.Test.YtfdpoocdfbdhpaaGreatDoorFsF
set_option linter.all false
namespace Go.Proofs.YtfdpoocdfbdhpaaGreatDoor
open Go.RowKit Go.Sl Go.Scree Go.Maps

def RemoveSays (p : Nat) (d : FDisk) (name : ByteArray) (w : World) (F : List Chunk) (r : FDisk × Int) : Prop :=
  Calls Tryz.prog 57 #[.pointer (some ⟨p, 0, none⟩), .string name] w fun e w' => e = .returned (.int .i64 r.2) ∧ Own w' (diskC p r.1 :: F) ∧ Ext w w'
set_option maxRecDepth 20000 in
set_option maxHeartbeats 1600000 in
theorem remove_c (p : Nat) (d : FDisk) (name : ByteArray) (w : World) (F : List Chunk) (hn : name.size ≤ maxLen) (hb : d.pending.length ≤ bigN) (o : Own w (diskC p d :: F)) : RemoveSays p d name w F (d.remove name) := by
  have oD := hid o
  obtain ⟨m, s, pv, A, hA, hk, o⟩ := diskC_open o
  have c0 := (disk_cells o).1.1
  have o1 := Own.swap o
  have nH := hid hn
  cases hg : dget d.now name with
  | none =>
    have lk := found_none o1 hn hg
    unfold FoundIs at lk
    have hc2 : d.remove name = (d, 10) := by simp [FDisk.remove, hg]
    rw [hc2]
    unfold RemoveSays
    clear o o1 hk hA hb hc2 hg hn
    go_enter Tryz.func57, Tryz.ntmps57
    go_wp2
    go_ret
    exact ⟨rfl, oD.out, Ext.refl _⟩
  | some i =>
    have lk := found_some o1 hn hg
    unfold FoundIs at lk
    have hc2 : d.remove name = d.changes ⟨name, noName, none⟩ := by simp [FDisk.remove, hg]
    rw [hc2]
    have hcon := changes_c p m s pv A ⟨name, noName, none⟩ d _ _ hA hk ⟨by rw [hg]; rfl, .inl rfl⟩ hn (Nat.zero_le _) hb o
    unfold chgV at hcon
    have hconH := hid hcon
    unfold RemoveSays
    clear o o1 hk hA hb hc2 hcon hg hn
    generalize adr A i = ai at *
    go_enter Tryz.func57, Tryz.ntmps57
    go_wp2_with fail
    refine hconH.out.mono ?_
    rintro e w2 ⟨rfl, o2, e2⟩
    have o2H := hid o2
    clear o2
    go_wp2
    go_ret
    exact ⟨rfl, o2H.out, e2⟩

end Go.Proofs.YtfdpoocdfbdhpaaGreatDoor
