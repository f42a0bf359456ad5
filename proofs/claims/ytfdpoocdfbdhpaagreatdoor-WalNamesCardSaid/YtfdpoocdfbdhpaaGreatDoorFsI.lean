/- The walk of Append. -/
import Derived.Test.YtfdpoocdfbdhpaaGreatDoorFsH
import Derived.Test.YtfdpoocdfbdhpaaGreatDoorSls
import Derived.IntWalk
set_option linter.all false
namespace Go.Proofs.YtfdpoocdfbdhpaaGreatDoor
open Go.RowKit Go.Sl Go.Scree Go.Maps

theorem infoU8 : (Tryz.prog.info? 5).map (fun i => (i.zero, i.size, i.bytes)) = some (some (.int .u8 0), 1, 1) := by kernel_rfl
theorem mem_le_sum {a : Nat} : ∀ {l : List Nat}, a ∈ l → a ≤ l.sum
  | b :: l, h => by
    rw [List.sum_cons]
    rcases List.mem_cons.1 h with rfl | h
    · omega
    · have := mem_le_sum h; omega
theorem file_size {d : FDisk} {name : ByteArray} {i : Nat} (h : dget d.now name = some i) : (d.file i).b.length ≤ d.size := by
  have hm := dget_in h
  unfold FDisk.size
  exact mem_le_sum (List.mem_map.2 ⟨_, hm, rfl⟩)
def AppendSays (p : Nat) (d : FDisk) (name b : ByteArray) (w : World) (F : List Chunk) (r : FDisk × Int) : Prop :=
  Calls Tryz.prog 23 #[.pointer (some ⟨p, 0, none⟩), .string name, .string b] w fun e w' => e = .returned (.int .i64 r.2) ∧ Own w' (diskC p r.1 :: F) ∧ Ext w w'
theorem open_later {p m s : Nat} {A : List Nat} {d : FDisk} {w : World} {F : List Chunk} {pv : Value} (o : Own w (DX p m s pv A d F)) : w.cell? ⟨p, 3, none⟩ = some (.int .i64 d.quota) := (disk_cells o).1.2.2.2.1
theorem disk_quota {p : Nat} {d : FDisk} {w : World} {F : List Chunk} (o : Own w (diskC p d :: F)) : w.cell? ⟨p, 3, none⟩ = some (.int .i64 d.quota) := by
  obtain ⟨m, s, pv, A, hA, hk, o⟩ := diskC_open o
  exact (disk_cells o).1.2.2.2.1
set_option maxRecDepth 20000 in
set_option maxHeartbeats 3200000 in
theorem append_c (p : Nat) (d : FDisk) (name b : ByteArray) (w : World) (F : List Chunk) (hn : name.size ≤ maxLen) (hb : d.size ≤ bigN) (hbb : b.size ≤ bigN) (o : Own w (diskC p d :: F)) : AppendSays p d name b w F (d.append name b.data.toList) := by
  have oD := hid o
  have bl : b.data.toList.length = b.size := by rw [Array.length_toList]; rfl
  obtain ⟨m, s, pv, A, hA, hk, o⟩ := diskC_open o
  have c0 := (disk_cells o).1.1
  have o1 := Own.swap o
  cases hg : dget d.now name with
  | none =>
    have lk := found_none o1 hn hg
    unfold FoundIs at lk
    have hc2 : d.append name b.data.toList = (d, 10) := by simp [FDisk.append, hg]
    rw [hc2]
    unfold AppendSays
    clear o o1 hk hA hc2 hg hn bl hb hbb
    go_enter Tryz.func23, Tryz.ntmps23
    go_wp2
    go_ret
    exact ⟨rfl, oD.out, Ext.refl _⟩
  | some i =>
    have lk := found_some o1 hn hg
    unfold FoundIs at lk
    have kS := hid (hk.append name b.data.toList)
    have q3 := disk_quota oD.out
    have hb1 : d.size ≤ 1000000000000 := hb
    have hb2 : b.size ≤ 1000000000000 := hbb
    have hbH := hid hb
    have hgH := hid hg
    have hblH := hid bl
    clear c0 o1 hn hb hbb
    have hw : IntKind.i64.wrap ((d.size : Int) + (b.size : Int)) = (d.size : Int) + (b.size : Int) := Go.IntWalk.i64_in _ (by omega)
    by_cases hfull : d.quota < (d.size + b.size : Nat)
    · have hc2 : d.append name b.data.toList = (d, 12) := by
        unfold FDisk.append; rw [hg]; dsimp only; rw [bl, if_pos hfull]
      rw [hc2]
      unfold AppendSays
      have c0 := (disk_cells o).1.1
      have hf2 : decide (d.quota < (d.size : Int) + (b.size : Int)) = true := by simp; omega
      have kH := hid hk
      have aH := hid hA
      have oX := hid o
      clear o hk hA hc2 hg bl hfull
      generalize adr A i = a at lk
      go_enter Tryz.func23, Tryz.ntmps23
      go_wp2_with fail
      go_region_held3 (fun V => V.cell? ⟨p, 3, none⟩ = some (.int .i64 d.quota)) (first | exact q3 | assumption) (first | (go_at_call 38; refine (size_c p d _ _ hbH.out (Own.drew oD.out)).mono ?_; rintro e w2 ⟨rfl, o2, e2⟩; have q4 := disk_quota o2; have o2H := hid o2; clear o2))
      clear hw
      go_wp2
      go_ret
      exact ⟨rfl, o2H.out, ((Ext.refl _).drew).trans e2⟩
    · have hf2 : decide (d.quota < (d.size : Int) + (b.size : Int)) = false := by simp; omega
      obtain ⟨f, hf, hfe, _⟩ := file_at hk hg
      have hfs := hid (file_size hg)
      rcases burn_cases d with ⟨hb3, hb4⟩ | ⟨hb3, hb4⟩
      · have hc2 : d.append name b.data.toList = ({ d.burn.1 with files := d.burn.1.files.modify i fun f => { f with b := f.b ++ b.data.toList } }, 0) := by
          unfold FDisk.append; rw [hg]; dsimp only; rw [bl, if_neg hfull, hb3]
        rw [hc2] at kS ⊢
        have hf1 : Hid (d.burn.1.files[i]? = some f) := hid (by rw [burn_files]; exact hf)
        have hA1 : Hid (A.length = d.burn.1.files.length) := hid (by rw [burn_files]; exact hA)
        have hlen : f.b.length ≤ 1000000000000 := by
          have := hfs.out
          rw [hfe] at this; omega
        unfold AppendSays
        have c0 := (disk_cells o).1.1
        have hsz := hid (fun w => size_x p m s pv A d w F hA hk hbH.out)
        have hbu := hid (fun w (o : Own w (DX p m s pv A d F)) => burn_dx hk o hb4)
        have oX := hid o
        obtain ⟨i0, hi0, hz0, hz1, hz2⟩ := info_parts infoU8
        clear o hk hA hc2 hg bl hfull hf hfe hb3 hb4
        generalize d.burn.1 = d1 at *
        have hai : Hid (∃ a, adr A i = a) := hid ⟨_, rfl⟩
        obtain ⟨a, ha⟩ := hai.out
        rw [ha] at lk
        have haH := hid ha
        clear ha
        go_enter Tryz.func23, Tryz.ntmps23
        go_wp2_with fail
        go_region_held3 (fun V => V.cell? ⟨p, 3, none⟩ = some (.int .i64 d.quota)) (first | exact q3 | assumption) (first | (go_at_call 38; refine (hsz.out _ (Own.drew oX.out)).mono ?_; rintro e w2 ⟨rfl, o2, e2⟩; have q4 := open_later o2; have o2H := hid o2; clear o2))
        clear hw
        have e2H := hid (((Ext.refl w).drew).trans e2)
        clear e2
        go_wp2_with fail
        refine (hbu.out _ o2H.out).mono ?_
        rintro e w3 ⟨rfl, o3, e3⟩
        obtain ⟨R, o4, bk⟩ := filesC_pick hA1.out hf1.out (Own.pick 4 o3)
        rw [haH.out] at o4 bk
        obtain ⟨fv, o5⟩ := fileC_open o4
        obtain ⟨fA, fn, fc, rfl⟩ := sl_shape o5.swap
        have a0 := o5.cell (i := 0) (v := .slice fA fn fc) rfl
        have o5H := hid o5
        have bkH := hid bk
        have e3H := hid (e2H.out.trans e3)
        clear o3 o4 o5 bk c0 lk e3 q3 q4 hf2
        go_wp2_with (refine wpList_append_str rfl _ _ _ _ rfl 5 i0 Tryz.underlying94 Tryz.underlying9 hi0 hz0 hz1 hz2 _ f.b rfl (Own.swap o5H.out) b rfl (by omega) ?_; intro v4 w4 o6 e4; obtain ⟨A4, n4, c4, rfl⟩ := sl_shape o6; have k0 := Own.cell (i := 0) (v := .slice fA fn fc) (Own.swap o6) rfl; have fr := Own.free (Own.swap o6) 0; have o6H := hid o6; clear o6)
        go_ret
        refine ⟨rfl, ?_, (e3H.out.trans e4).set _ _⟩
        have o7 := bkH.out (fun f => { f with b := f.b ++ b.data.toList }) _ _ (fileC_close (f := { f with b := f.b ++ b.data.toList }) (Own.set (i := 0) (Own.swap o6H.out) (.slice A4 n4 c4)))
        exact diskC_close (d := { d1 with files := d1.files.modify i fun f => { f with b := f.b ++ b.data.toList } }) (A := A) (by rw [List.length_modify]; exact hA1.out) kS.out (o7.arr [1, 2, 3, 4, 0])
      · have hc2 : d.append name b.data.toList = (d.burn.1, 30) := by
          unfold FDisk.append; rw [hg]; dsimp only; rw [bl, if_neg hfull, hb3]
        rw [hc2] at kS ⊢
        have hA1 : Hid (A.length = d.burn.1.files.length) := hid (by rw [burn_files]; exact hA)
        unfold AppendSays
        have c0 := (disk_cells o).1.1
        have hsz := hid (fun w => size_x p m s pv A d w F hA hk hbH.out)
        have hbu := hid (fun w (o : Own w (DX p m s pv A d F)) => burn_dx hk o hb4)
        have oX := hid o
        clear o hk hA hc2 hg bl hfull hf hfe hb3 hb4
        generalize d.burn.1 = d1 at *
        generalize adr A i = a at lk
        go_enter Tryz.func23, Tryz.ntmps23
        go_wp2_with fail
        go_region_held3 (fun V => V.cell? ⟨p, 3, none⟩ = some (.int .i64 d.quota)) (first | exact q3 | assumption) (first | (go_at_call 38; refine (hsz.out _ (Own.drew oX.out)).mono ?_; rintro e w2 ⟨rfl, o2, e2⟩; have q4 := open_later o2; have o2H := hid o2; clear o2))
        clear hw
        have e2H := hid (((Ext.refl w).drew).trans e2)
        clear e2
        go_wp2_with fail
        refine (hbu.out _ o2H.out).mono ?_
        rintro e w3 ⟨rfl, o3, e3⟩
        have o3H := hid o3
        clear o3
        go_wp2
        go_ret
        exact ⟨rfl, diskC_close hA1.out kS.out o3H.out, e2H.out.trans e3⟩
end Go.Proofs.YtfdpoocdfbdhpaaGreatDoor
