/- The walk of awake. -/
import Derived.Test.YthnnpkmklkphaaaFsL
namespace Go.Proofs.Ythnnpkmklkphaaa
open Go.RowKit Go.Sl Go.Scree Go.Maps

abbrev nA : ByteArray := ⟨#[97]⟩
abbrev nB : ByteArray := ⟨#[98]⟩
abbrev nC : ByteArray := ⟨#[99]⟩
abbrev nBig : ByteArray := ⟨#[65]⟩
abbrev nXyz : ByteArray := ⟨#[120, 121, 122]⟩
abbrev nZz : ByteArray := ⟨#[122, 122]⟩
abbrev nA1 : ByteArray := ⟨#[97, 46, 49]⟩
theorem small_name {k : ByteArray} (h : k.size ≤ 3) : k.size ≤ maxLen := Nat.le_trans h (by simp [maxLen])
theorem fbd_of {d : FDisk} (h1 : total d.files ≤ 100) (h2 : d.pending.length ≤ 100) : FBd d bigN := ⟨Nat.le_trans h1 (by decide), Nat.le_trans h2 (by decide)⟩
theorem rd_none {w : World} {α : Type} {E : Enc α} : Rd w E (.slice none 0 0) [] := .inl ⟨⟨none, 0, rfl, Nat.zero_le _⟩, rfl⟩
theorem rd_one {w : World} {F : List Chunk} {b : Nat} {x : Int} {T : TypeId} (o : Own w (pts b (.cells #[.int .i64 x] T (0, 0)) :: F)) : Rd w intE (.slice (some ⟨b, 0, none⟩) 1 1) [x] := by
  refine .inr ⟨b, 0, 1, rfl, by simp, by simp [maxLen], fun i y hy j u hu => ?_⟩
  cases i with
  | succ i => simp at hy
  | zero =>
    obtain rfl := Option.some.inj hy
    cases j with
    | succ j => simp [intE] at hu
    | zero =>
      obtain rfl := Option.some.inj hu
      exact o.cell rfl
def K0 : FDisk := FDisk.new
def K1 : FDisk := (K0.create nA).1
def K2 : FDisk := (K1.append nA nXyz.data.toList).1
def K3 : FDisk := K2.syncDir.1
def K4 : FDisk := K3.crash 0 [2]
def K5 : FDisk := (K4.create nB).1
def K6 : FDisk := K5.crash 0 []
def K7 : FDisk := (K6.create nB).1
def K8 : FDisk := K7.setFuse 0
def K9 : FDisk := (K8.rename nA nB).1
def K10 : FDisk := K9.crash 1 []
def K11 : FDisk := K10.setQuota 3
def K12 : FDisk := (K11.append nB nZz.data.toList).1
def K13 : FDisk := (K12.remove nC).1
def K14 : FDisk := (K13.create nBig).1
def K15 : FDisk := (K14.sync nA).1

set_option maxRecDepth 20000 in
set_option maxHeartbeats 12800000 in
theorem awake_c (w : World) (F : List Chunk) (o : Own w F) : Calls Try.prog 8 #[] w fun e w' => e = .returned (.bool true) ∧ Own w' F ∧ Ext w w' := by
  have oH := hid o
  clear o
  go_enter Try.func8, Try.ntmps8
  go_wp2_with fail
  refine (new_c w F oH.out).mono ?_
  rintro e w0 ⟨p, rfl, o0, e0⟩
  have x0 := hid e0
  have a0 : Hid (Own w0 (diskC p K0 :: F)) := hid o0
  clear o0 e0 oH
  go_wp2_with fail
  have h1 := create_c p K0 nA _ _ (small_name (by decide)) (by decide +kernel) a0.out
  unfold CreateSays at h1
  rw [show (K0.create nA).2 = 0 from by decide +kernel] at h1
  have g1 := hid h1
  clear h1
  refine g1.out.mono ?_
  rintro e w1 ⟨rfl, o1, e1⟩
  have x1 := hid (x0.out.trans e1)
  have a1 : Hid (Own w1 (diskC p K1 :: F)) := hid o1
  clear o1 e1 a0 x0 g1
  go_wp2_with fail
  have h2 := append_c p K1 nA nXyz _ _ (small_name (by decide)) (by decide +kernel) (by decide +kernel) a1.out
  unfold AppendSays at h2
  rw [show (K1.append nA nXyz.data.toList).2 = 0 from by decide +kernel] at h2
  have g2 := hid h2
  clear h2
  refine g2.out.mono ?_
  rintro e w2 ⟨rfl, o2, e2⟩
  have x2 := hid (x1.out.trans e2)
  have a2 : Hid (Own w2 (diskC p K2 :: F)) := hid o2
  clear o2 e2 a1 x1 g2
  go_wp2_with fail
  have h3 := syncDir_c p K2 _ _ a2.out
  unfold SyncDirSays at h3
  rw [show K2.syncDir.2 = 0 from by decide +kernel] at h3
  have g3 := hid h3
  clear h3
  refine g3.out.mono ?_
  rintro e w3 ⟨rfl, o3, e3⟩
  have x3 := hid (x2.out.trans e3)
  have a3 : Hid (Own w3 (diskC p K3 :: F)) := hid o3
  clear o3 e3 a2 x2 g3
  go_wp2_with fail
  have h4 := loose_c p K3 _ _ (by decide +kernel) a3.out
  rw [show K3.loose = 3 from by decide +kernel, show K3.pending.length = 0 from by decide +kernel] at h4
  have g4 := hid h4
  clear h4
  refine g4.out.mono ?_
  rintro e w4 ⟨rfl, o4, e4⟩
  have x4 := hid (x3.out.trans e4)
  have a4 := hid o4
  clear o4 e4 a3 x3 g4
  have b4 := hid ((a4.out.alloc (.cells #[.int .i64 2] 3 (0, 0))).swap)
  go_wp2_with fail
  have h5 := crash_c p K3 0 (.slice (some ⟨w4.heap.size, 0, none⟩) 1 1) [2] _ _ (fbd_of (by decide +kernel) (by decide +kernel)) (fun w' o => rd_one o) b4.out
  have g5 := hid h5
  clear h5
  refine g5.out.mono ?_
  rintro e w5 ⟨rfl, o5, e5⟩
  have x5 := hid ((x4.out.alloc _).trans e5)
  have a5 : Hid (Own w5 (diskC p K4 :: F)) := hid (o5.swap.drop)
  clear o5 e5 a4 b4 x4 g5
  go_wp2_with fail
  have hp := read_c p K4 nA _ _ (small_name (by decide)) a5.out
  rw [show (K4.read nA).1 = [120, 121] from by decide +kernel] at hp
  rw [show (K4.read nA).2 = 0 from by decide +kernel] at hp
  have gp := hid hp
  clear hp
  refine gp.out.mono ?_
  rintro e w' ⟨rfl, rfl⟩
  clear gp
  go_wp2_with fail
  have h6 := create_c p K4 nB _ _ (small_name (by decide)) (by decide +kernel) a5.out
  unfold CreateSays at h6
  have g6 := hid h6
  clear h6
  refine g6.out.mono ?_
  rintro e w6 ⟨rfl, o6, e6⟩
  have x6 := hid (x5.out.trans e6)
  have a6 : Hid (Own w6 (diskC p K5 :: F)) := hid o6
  clear o6 e6 a5 x5 g6
  go_wp2_with fail
  have h7 := crash_c p K5 0 (.slice none 0 0) [] _ _ (fbd_of (by decide +kernel) (by decide +kernel)) (fun w' o => rd_none) a6.out
  have g7 := hid h7
  clear h7
  refine g7.out.mono ?_
  rintro e w7 ⟨rfl, o7, e7⟩
  have x7 := hid (x6.out.trans e7)
  have a7 : Hid (Own w7 (diskC p K6 :: F)) := hid o7
  clear o7 e7 a6 x6 g7
  go_wp2_with fail
  have h8 := list_c p K6 _ _ a7.out
  rw [show namesOf K6.now = [nA] from by decide +kernel] at h8
  have g8 := hid h8
  clear h8
  refine g8.out.mono ?_
  rintro e w8 ⟨l, rfl, o8, e8⟩
  obtain ⟨lA, ln, lc, rfl⟩ := sl_shape o8
  obtain ⟨ll, lx, _⟩ := sl_n o8
  have x8 := hid (x7.out.trans e8)
  obtain rfl : ln = 1 := ll
  have a8 := hid o8.drop
  clear o8 e8 a7 x7 g8 lx
  go_wp2_with fail
  have h9 := create_c p K6 nB _ _ (small_name (by decide)) (by decide +kernel) a8.out
  unfold CreateSays at h9
  have g9 := hid h9
  clear h9
  refine g9.out.mono ?_
  rintro e w9 ⟨rfl, o9, e9⟩
  have x9 := hid (x8.out.trans e9)
  have a9 : Hid (Own w9 (diskC p K7 :: F)) := hid o9
  clear o9 e9 a8 x8 g9
  go_wp2_with fail
  have h10 := fuse_c p K7 0 (by decide +kernel) _ _ a9.out
  have g10 := hid h10
  clear h10
  refine g10.out.mono ?_
  rintro e w10 ⟨rfl, o10, e10⟩
  have x10 := hid (x9.out.trans e10)
  have a10 : Hid (Own w10 (diskC p K8 :: F)) := hid o10
  clear o10 e10 a9 x9 g10
  go_wp2_with fail
  have h11 := rename_c p K8 nA nB _ _ (small_name (by decide)) (small_name (by decide)) (by decide +kernel) a10.out
  unfold RenameSays at h11
  rw [show (K8.rename nA nB).2 = 30 from by decide +kernel] at h11
  have g11 := hid h11
  clear h11
  refine g11.out.mono ?_
  rintro e w11 ⟨rfl, o11, e11⟩
  have x11 := hid (x10.out.trans e11)
  have a11 : Hid (Own w11 (diskC p K9 :: F)) := hid o11
  clear o11 e11 a10 x10 g11
  go_wp2_with fail
  have hp := dead_c p K9 _ _ a11.out
  rw [show K9.dead = true from by decide +kernel] at hp
  have gp := hid hp
  clear hp
  refine gp.out.mono ?_
  rintro e w' ⟨rfl, rfl⟩
  clear gp
  go_wp2_with fail
  have h12 := crash_c p K9 1 (.slice none 0 0) [] _ _ (fbd_of (by decide +kernel) (by decide +kernel)) (fun w' o => rd_none) a11.out
  have g12 := hid h12
  clear h12
  refine g12.out.mono ?_
  rintro e w12 ⟨rfl, o12, e12⟩
  have x12 := hid (x11.out.trans e12)
  have a12 : Hid (Own w12 (diskC p K10 :: F)) := hid o12
  clear o12 e12 a11 x11 g12
  go_wp2_with fail
  have h13 := list_c p K10 _ _ a12.out
  rw [show namesOf K10.now = [nA, nB] from by decide +kernel] at h13
  have g13 := hid h13
  clear h13
  refine g13.out.mono ?_
  rintro e w13 ⟨m, rfl, o13, e13⟩
  obtain ⟨mA, mn, mc, rfl⟩ := sl_shape o13
  obtain ⟨ml, mx, _⟩ := sl_n o13
  have x13 := hid (x12.out.trans e13)
  obtain rfl : mn = 2 := ml
  have a13 := hid o13.swap
  clear o13 e13 a12 x12 g13
  go_wp2_with fail
  have h14 := quota_c p K10 3 _ _ a13.out
  have g14 := hid h14
  clear h14
  refine g14.out.mono ?_
  rintro e w14 ⟨rfl, o14, e14⟩
  have x14 := hid (x13.out.trans e14)
  have a14 : Hid (Own w14 (diskC p K11 :: sl 9 strE (.slice mA 2 mc) [nA, nB] :: F)) := hid o14
  clear o14 e14 a13 x13 g14
  go_wp2_with fail
  have h15 := append_c p K11 nB nZz _ _ (small_name (by decide)) (by decide +kernel) (by decide +kernel) a14.out
  unfold AppendSays at h15
  rw [show (K11.append nB nZz.data.toList).2 = 12 from by decide +kernel] at h15
  have g15 := hid h15
  clear h15
  refine g15.out.mono ?_
  rintro e w15 ⟨rfl, o15, e15⟩
  have x15 := hid (x14.out.trans e15)
  have a15 : Hid (Own w15 (diskC p K12 :: sl 9 strE (.slice mA 2 mc) [nA, nB] :: F)) := hid o15
  clear o15 e15 a14 x14 g15
  obtain ⟨mg, rfl⟩ : ∃ g, mA = some ⟨g, 0, none⟩ := by
    rcases sl_form a15.out.swap with ⟨h, _⟩ | ⟨g, cap, h, _, _⟩
    · simp at h
    · simp only [Value.slice.injEq] at h; exact ⟨g, h.1⟩
  have mcell : w15.cell? ⟨mg, 1, none⟩ = some (.string nB) := by have := (sl_at a15.out.swap (i := 1) (x := nB) rfl 0 _ rfl).1; simpa [strE] using this
  have st1 : (nA.data.toList == [97]) = true := rfl
  go_wp2_with fail
  have h16 := size_c p K12 _ _ (by decide +kernel) a15.out
  rw [show K12.size = 2 from by decide +kernel] at h16
  have g16 := hid h16
  clear h16
  refine g16.out.mono ?_
  rintro e w16 ⟨rfl, o16, e16⟩
  have x16 := hid (x15.out.trans e16)
  have a16 := hid o16
  clear o16 e16 a15 x15 g16 mcell
  go_wp2_with fail
  have h17 := remove_c p K12 nC _ _ (small_name (by decide)) (by decide +kernel) a16.out
  unfold RemoveSays at h17
  rw [show (K12.remove nC).2 = 10 from by decide +kernel] at h17
  have g17 := hid h17
  clear h17
  refine g17.out.mono ?_
  rintro e w17 ⟨rfl, o17, e17⟩
  have x17 := hid (x16.out.trans e17)
  have a17 : Hid (Own w17 (diskC p K13 :: sl 9 strE (.slice (some ⟨mg, 0, none⟩) 2 mc) [nA, nB] :: F)) := hid o17
  clear o17 e17 a16 x16 g17
  go_wp2_with fail
  have h18 := create_c p K13 nBig _ _ (small_name (by decide)) (by decide +kernel) a17.out
  unfold CreateSays at h18
  rw [show (K13.create nBig).2 = 20 from by decide +kernel] at h18
  have g18 := hid h18
  clear h18
  refine g18.out.mono ?_
  rintro e w18 ⟨rfl, o18, e18⟩
  have x18 := hid (x17.out.trans e18)
  have a18 : Hid (Own w18 (diskC p K14 :: sl 9 strE (.slice (some ⟨mg, 0, none⟩) 2 mc) [nA, nB] :: F)) := hid o18
  clear o18 e18 a17 x17 g18
  go_wp2_with fail
  refine (may_is (s := nA1) (b := true) (by decide +kernel) _ (small_name (by decide))).mono ?_
  rintro e w' ⟨rfl, rfl⟩
  go_wp2_with fail
  refine (may_is (s := ⟨#[]⟩) (b := false) (by decide +kernel) _ (Nat.zero_le _)).mono ?_
  rintro e w' ⟨rfl, rfl⟩
  go_wp2_with fail
  have h19 := sync_c p K14 nA _ _ (small_name (by decide)) a18.out
  unfold SyncSays at h19
  rw [show (K14.sync nA).2 = 0 from by decide +kernel] at h19
  have g19 := hid h19
  clear h19
  refine g19.out.mono ?_
  rintro e w19 ⟨rfl, o19, e19⟩
  have x19 := hid (x18.out.trans e19)
  have a19 : Hid (Own w19 (diskC p K15 :: sl 9 strE (.slice (some ⟨mg, 0, none⟩) 2 mc) [nA, nB] :: F)) := hid o19
  clear o19 e19 a18 x18 g19
  go_wp2
  go_ret
  exact ⟨rfl, Own.drops [_, _] a19.out, x19.out⟩
end Go.Proofs.Ythnnpkmklkphaaa
