/- The walks of Sync, SyncDir, Read. -/
import Derived.Test.YtfdpoocdfbdhpaaGreatDoorFsF
import Derived.Test.YtfdpoocdfbdhpaaGreatDoorFsLay
set_option linter.all false
namespace Go.Proofs.YtfdpoocdfbdhpaaGreatDoor
open Go.RowKit Go.Sl Go.Scree Go.Maps

theorem sl_n {α : Type} {w : World} {F : List Chunk} {T : TypeId} {E : Enc α} {Ad : Option Addr} {n c : Nat} {xs : List α} (o : Own w (sl T E (.slice Ad n c) xs :: F)) : n = xs.length ∧ n ≤ c ∧ c ≤ maxLen := by
  rcases sl_form o with ⟨hv, rfl⟩ | ⟨g, cap, hv, h1, h2⟩
  · simp only [Value.slice.injEq] at hv
    obtain ⟨_, rfl, rfl⟩ := hv
    simp [maxLen]
  · simp only [Value.slice.injEq] at hv
    obtain ⟨_, rfl, rfl⟩ := hv
    exact ⟨rfl, h1, h2⟩
theorem file_at {d : FDisk} (hk : FOk d) {name : ByteArray} {i : Nat} (h : dget d.now name = some i) : ∃ f, d.files[i]? = some f ∧ d.file i = f ∧ f.sure ≤ f.b.length := by
  have hi := hk.now.lt _ (dget_in h)
  refine ⟨d.files[i], List.getElem?_eq_getElem hi, ?_, hk.fit _ (List.getElem_mem hi)⟩
  unfold FDisk.file
  rw [List.getElem?_eq_getElem hi]; rfl
theorem burn_cases (d : FDisk) : (d.burn = (d.burn.1, true) ∧ burnE d = 0) ∨ (d.burn = (d.burn.1, false) ∧ burnE d = 30) := by
  unfold burnE
  cases hd : d.burn with
  | mk e ok => cases ok <;> simp
theorem burn_files (d : FDisk) : d.burn.1.files = d.files := (burn_same d).1
/-- What a burn leaves, all of it. -/
theorem burn_dx {p m s : Nat} {pv : Value} {A : List Nat} {d : FDisk} {w : World} {F : List Chunk} (hk : FOk d) (o : Own w (DX p m s pv A d F)) {e : Int} (he : burnE d = e) :
    Calls Tryz.prog 59 #[.pointer (some ⟨p, 0, none⟩)] w fun r w' => r = .returned (.int .i64 e) ∧ Own w' (DX p m s pv A d.burn.1 F) ∧ Ext w w' := by
  subst he
  exact (burn_c p m s pv d hk.fuse w _ o).mono fun r w' ⟨h1, h2, h3⟩ => ⟨h1, burned_own (w := w) h2, h3⟩

def SyncSays (p : Nat) (d : FDisk) (name : ByteArray) (w : World) (F : List Chunk) (r : FDisk × Int) : Prop :=
  Calls Tryz.prog 51 #[.pointer (some ⟨p, 0, none⟩), .string name] w fun e w' => e = .returned (.int .i64 r.2) ∧ Own w' (diskC p r.1 :: F) ∧ Ext w w'
set_option maxRecDepth 20000 in
set_option maxHeartbeats 1600000 in
theorem sync_c (p : Nat) (d : FDisk) (name : ByteArray) (w : World) (F : List Chunk) (hn : name.size ≤ maxLen) (o : Own w (diskC p d :: F)) : SyncSays p d name w F (d.sync name) := by
  have oD := hid o
  obtain ⟨m, s, pv, A, hA, hk, o⟩ := diskC_open o
  have c0 := (disk_cells o).1.1
  have o1 := Own.swap o
  have nH := hid hn
  cases hg : dget d.now name with
  | none =>
    have lk := found_none o1 hn hg
    unfold FoundIs at lk
    have hc2 : d.sync name = (d, 10) := by simp [FDisk.sync, hg]
    rw [hc2]
    unfold SyncSays
    clear o o1 hk hA hc2 hg hn
    go_enter Tryz.func51, Tryz.ntmps51
    go_wp2
    go_ret
    exact ⟨rfl, oD.out, Ext.refl _⟩
  | some i =>
    have lk := found_some o1 hn hg
    unfold FoundIs at lk
    have kS := hid (hk.sync name)
    obtain ⟨f, hf, _, hfit⟩ := file_at hk hg
    rcases burn_cases d with ⟨hb1, hb2⟩ | ⟨hb1, hb2⟩
    · have hc2 : d.sync name = ({ d.burn.1 with files := d.burn.1.files.modify i fun f => { f with sure := f.b.length } }, 0) := by
        unfold FDisk.sync; rw [hg]; dsimp only; rw [hb1]
      rw [hc2] at kS ⊢
      have hcon := hid (burn_dx hk o hb2)
      have hf1 : Hid (d.burn.1.files[i]? = some f) := hid (by rw [burn_files]; exact hf)
      have hA1 : Hid (A.length = d.burn.1.files.length) := hid (by rw [burn_files]; exact hA)
      unfold SyncSays
      clear o o1 hk hA hc2 hg hn hb1 hb2 hf hfit
      generalize d.burn.1 = d1 at *
      have hai : Hid (∃ a, adr A i = a) := hid ⟨_, rfl⟩
      obtain ⟨a, ha⟩ := hai.out
      rw [ha] at lk
      have haH := hid ha
      clear ha
      go_enter Tryz.func51, Tryz.ntmps51
      go_wp2_with fail
      refine hcon.out.mono ?_
      rintro e w1 ⟨rfl, o1, e1⟩
      obtain ⟨R, o2, bk⟩ := filesC_pick hA1.out hf1.out (Own.pick 4 o1)
      rw [haH.out] at o2 bk
      obtain ⟨fv, o3⟩ := fileC_open o2
      obtain ⟨fA, fn, fc, rfl⟩ := sl_shape o3.swap
      obtain ⟨rfl, _, _⟩ := sl_n o3.swap
      have a0 := o3.cell (i := 0) (v := .slice fA f.b.length fc) rfl
      have a1 := o3.cell (i := 1) (v := .int .i64 f.sure) rfl
      have fr := o3.free 1
      have o3H := hid o3
      have bkH := hid bk
      clear o1 o2 o3 bk c0 lk
      go_wp2
      go_ret
      refine ⟨rfl, ?_, e1.set _ _⟩
      have o4 := bkH.out (fun f => { f with sure := f.b.length }) _ _ (fileC_close (f := { f with sure := f.b.length }) (o3H.out.set (i := 1) (.int .i64 f.b.length)))
      exact diskC_close (d := { d1 with files := d1.files.modify i fun f => { f with sure := f.b.length } }) (A := A) (by rw [List.length_modify]; exact hA1.out) kS.out (o4.arr [1, 2, 3, 4, 0])
    · have hc2 : d.sync name = (d.burn.1, 30) := by
        unfold FDisk.sync; rw [hg]; dsimp only; rw [hb1]
      rw [hc2] at kS ⊢
      have hcon := hid (burn_dx hk o hb2)
      have hA1 : Hid (A.length = d.burn.1.files.length) := hid (by rw [burn_files]; exact hA)
      unfold SyncSays
      clear o o1 hk hA hc2 hg hn hb1 hb2 hf hfit
      generalize d.burn.1 = d1 at *
      generalize adr A i = a at lk
      go_enter Tryz.func51, Tryz.ntmps51
      go_wp2_with fail
      refine hcon.out.mono ?_
      rintro e w1 ⟨rfl, o1, e1⟩
      have o1H := hid o1
      clear o1
      go_wp2
      go_ret
      exact ⟨rfl, diskC_close hA1.out kS.out o1H.out, e1⟩

theorem mclone_c (b : Nat) (dir : Dir Nat) (w : World) (F : List Chunk) (o : Own w (mapC b dir :: F)) :
    Calls Tryz.prog 52 #[.map (some b)] w fun e w' => e = .returned (.map (some w.heap.size)) ∧ Own w' (mapC w.heap.size dir :: mapC b dir :: F) ∧ Ext w w' := by
  obtain ⟨es, clk, D, h1, h2, h3, o1⟩ := mapC_open o
  have hcon := AnyW.maps_Clone Fsl.mclone b es clk w o1.get
  change Calls Tryz.prog 52 _ _ _ at hcon
  refine hcon.mono fun e w' ⟨he, hw⟩ => ?_
  subst hw
  exact ⟨he, mapC_close (o.alloc (.map es clk)) h1 h2 h3, (Ext.refl _).alloc _⟩

theorem mapC_block {w : World} {F : List Chunk} {b : Nat} {d : Dir Nat} (o : Own w (mapC b d :: F)) : b < w.heap.size := mapC_lt o
def SyncDirSays (p : Nat) (d : FDisk) (w : World) (F : List Chunk) (r : FDisk × Int) : Prop :=
  Calls Tryz.prog 49 #[.pointer (some ⟨p, 0, none⟩)] w fun e w' => e = .returned (.int .i64 r.2) ∧ Own w' (diskC p r.1 :: F) ∧ Ext w w'
set_option maxRecDepth 20000 in
set_option maxHeartbeats 1600000 in
theorem syncDir_c (p : Nat) (d : FDisk) (w : World) (F : List Chunk) (o : Own w (diskC p d :: F)) : SyncDirSays p d w F d.syncDir := by
  obtain ⟨m, s, pv, A, hA, hk, o⟩ := diskC_open o
  have kS := hid hk.syncDir
  rcases burn_cases d with ⟨hb1, hb2⟩ | ⟨hb1, hb2⟩
  · have hc2 : d.syncDir = ({ d.burn.1 with sure := d.burn.1.now, pending := [] }, 0) := by
      unfold FDisk.syncDir; rw [hb1]
    rw [hc2] at kS ⊢
    have hcon := hid (burn_dx hk o hb2)
    have hA1 : Hid (A.length = d.burn.1.files.length) := hid (by rw [burn_files]; exact hA)
    unfold SyncDirSays
    clear o hk hA hc2 hb1 hb2
    generalize d.burn.1 = d1 at *
    go_enter Tryz.func49, Tryz.ntmps49
    go_wp2_with fail
    refine hcon.out.mono ?_
    rintro e w1 ⟨rfl, o1, e1⟩
    have c0 := (disk_cells o1).1.1
    have o1H := hid o1
    clear o1
    go_wp2_with fail
    refine (mclone_c m _ w1 _ (Own.swap o1H.out)).mono ?_
    rintro e w2 ⟨rfl, o2, e2⟩
    have o3 := hid (Own.arr [2, 1, 0] o2)
    have cc := (disk_cells o3.out).1
    have fr := (disk_cells o3.out).2
    have c1 := cc.2.1
    have c2 := cc.2.2.1
    clear cc o2
    go_wp2
    go_ret
    refine ⟨rfl, ?_, (((e1.trans e2).set _ _).set _ _)⟩
    have o4 := (o3.out.set (i := 1) (.map (some w1.heap.size))).set (i := 2) (.slice none 0 0)
    have o5 := sl_nil 92 (chgE A) (Own.drop (Own.drop (Own.arr [3, 4] o4)))
    exact diskC_close (d := { d1 with sure := d1.now, pending := [] }) (A := A) hA1.out kS.out (Own.arr [1, 2, 3, 0, 4] o5)
  · have hc2 : d.syncDir = (d.burn.1, 30) := by
      unfold FDisk.syncDir; rw [hb1]
    rw [hc2] at kS ⊢
    have hcon := hid (burn_dx hk o hb2)
    have hA1 : Hid (A.length = d.burn.1.files.length) := hid (by rw [burn_files]; exact hA)
    unfold SyncDirSays
    clear o hk hA hc2 hb1 hb2
    generalize d.burn.1 = d1 at *
    go_enter Tryz.func49, Tryz.ntmps49
    go_wp2_with fail
    refine hcon.out.mono ?_
    rintro e w1 ⟨rfl, o1, e1⟩
    have o1H := hid o1
    clear o1
    go_wp2
    go_ret
    exact ⟨rfl, diskC_close hA1.out kS.out o1H.out, e1⟩

def strOf (l : List UInt8) : Value := .string ⟨l.toArray⟩
set_option maxRecDepth 20000 in
set_option maxHeartbeats 1600000 in
theorem read_c (p : Nat) (d : FDisk) (name : ByteArray) (w : World) (F : List Chunk) (hn : name.size ≤ maxLen) (o : Own w (diskC p d :: F)) :
    Calls Tryz.prog 55 #[.pointer (some ⟨p, 0, none⟩), .string name] w fun e w' => e = .returned (.tuple #[.string ⟨(d.read name).1.toArray⟩, .int .i64 (d.read name).2]) ∧ w' = w := by
  obtain ⟨m, s, pv, A, hA, hk, o⟩ := diskC_open o
  have c0 := (disk_cells o).1.1
  have o1 := Own.swap o
  cases hg : dget d.now name with
  | none =>
    have lk := found_none o1 hn hg
    unfold FoundIs at lk
    have hc2 : d.read name = ([], 10) := by simp [FDisk.read, hg]
    rw [hc2]
    clear o o1 hk hA hc2 hg hn
    go_enter Tryz.func55, Tryz.ntmps55
    go_wp2
    go_ret2
    exact ⟨rfl, rfl⟩
  | some i =>
    have lk := found_some o1 hn hg
    unfold FoundIs at lk
    obtain ⟨f, hf, hfe, hfit⟩ := file_at hk hg
    have hc2 : d.read name = (f.b, 0) := by simp [FDisk.read, hg, hfe]
    rw [hc2]
    obtain ⟨R, o2, bk⟩ := filesC_pick hA hf (Own.pick 4 o)
    obtain ⟨fv, o3⟩ := fileC_open o2
    have a0 := o3.cell (i := 0) (v := fv) rfl
    have hrd := hid (sl_rd o3.swap)
    clear o o1 o2 o3 bk hk hA hc2 hg hn hf hfe hfit
    generalize adr A i = a at *
    go_enter Tryz.func55, Tryz.ntmps55
    go_wp2_with (refine wpList_bytes_str rfl _ _ _ _ rfl Tryz.underlying94 Tryz.underlying5 Tryz.underlying9 _ _ rfl hrd.out ?_)
    go_ret2
    exact ⟨rfl, rfl⟩
end Go.Proofs.YtfdpoocdfbdhpaaGreatDoor
