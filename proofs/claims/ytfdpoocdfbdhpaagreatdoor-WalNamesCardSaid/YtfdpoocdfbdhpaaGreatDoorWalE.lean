/- The walk of awake (the laws of chapter 06). -/
import Derived.Test.YtfdpoocdfbdhpaaGreatDoorWalB
import Derived.Test.YtfdpoocdfbdhpaaGreatDoorWalT
import Derived.Test.YtfdpoocdfbdhpaaGreatDoorFsC
import Derived.Test.YtfdpoocdfbdhpaaGreatDoorFsCf
set_option linter.all false
namespace Go.Proofs.YtfdpoocdfbdhpaaGreatDoor
open Go.RowKit Go.Sl Go.Scree Go.Maps

theorem fbd_of {d : FDisk} (h1 : total d.files ≤ 100) (h2 : d.pending.length ≤ 100) : FBd d bigN := ⟨Nat.le_trans h1 (by decide), Nat.le_trans h2 (by decide)⟩
theorem rd_one {w : World} {F : List Chunk} {b : Nat} {x : Int} {T : TypeId} (o : Own w (pts b (.cells #[.int .i64 x] T (0, 0)) :: F)) : Rd w intE (.slice (some ⟨b, 0, none⟩) 1 1) [x] := by
  refine .inr ⟨b, 0, 1, rfl, by simp, by simp [maxLen], fun i y hy j u hu => ?_⟩
  cases i with
  | succ i => simp at hy
  | zero =>
    obtain rfl := Option.some.inj hy
    cases j with
    | succ j => simp [intE] at hu
    | zero =>
      obtain rfl := Option.some.inj hu
      exact o.cell rfl
theorem lnum_c {q p : Nat} {l : WLog} {w : World} {F : List Chunk} (o : Own w (logC q p l :: F)) : Calls Tryz.prog 33 #[.pointer (some ⟨q, 0, none⟩)] w fun e w' => e = .returned (.int .u64 l.n) ∧ w' = w := by
  obtain ⟨⟨c0, c1, c2, c3⟩, f3, f2⟩ := log_cells o
  clear o
  go_enter Tryz.func33, Tryz.ntmps33
  go_wp2
  go_ret
  exact ⟨rfl, rfl⟩
theorem lsize_c {q p : Nat} {l : WLog} {w : World} {F : List Chunk} (o : Own w (logC q p l :: F)) : Calls Tryz.prog 34 #[.pointer (some ⟨q, 0, none⟩)] w fun e w' => e = .returned (.int .i64 l.size) ∧ w' = w := by
  obtain ⟨⟨c0, c1, c2, c3⟩, f3, f2⟩ := log_cells o
  clear o
  go_enter Tryz.func34, Tryz.ntmps34
  go_wp2
  go_ret
  exact ⟨rfl, rfl⟩
theorem lbrk_c {q p : Nat} {l : WLog} {w : World} {F : List Chunk} (o : Own w (logC q p l :: F)) : Calls Tryz.prog 35 #[.pointer (some ⟨q, 0, none⟩)] w fun e w' => e = .returned (.bool l.broken) ∧ w' = w := by
  obtain ⟨⟨c0, c1, c2, c3⟩, f3, f2⟩ := log_cells o
  clear o
  go_enter Tryz.func35, Tryz.ntmps35
  go_wp2
  go_ret
  exact ⟨rfl, rfl⟩
theorem nilmay_c (n : Nat) (w : World) : Calls Tryz.prog 47 #[.pointer none, .int .u64 n] w fun e w' => e = .returned (.int .i64 1) ∧ w' = w := by
  go_enter Tryz.func47, Tryz.ntmps47
  go_wp2
  go_ret
  exact ⟨rfl, rfl⟩
theorem nilmake_c (n : Nat) (w : World) : Calls Tryz.prog 15 #[.pointer none, .int .u64 n] w fun e w' => e = .returned (.tuple #[.pointer none, .int .i64 1]) ∧ w' = w := by
  go_enter Tryz.func15, Tryz.ntmps15
  go_wp2_with fail
  refine (nilmay_c n w).mono ?_
  rintro e w1 ⟨rfl, rfl⟩
  go_wp2
  go_ret2
  exact ⟨rfl, rfl⟩
theorem two_strs {w : World} {F : List Chunk} {T : TypeId} {v : Value} {a b : ByteArray} (o : Own w (sl T strE v [a, b] :: F)) : ∃ g c, v = .slice (some ⟨g, 0, none⟩) 2 c ∧ w.cell? ⟨g, 1, none⟩ = some (.string b) ∧ g < w.heap.size := by
  obtain ⟨A, n, c, rfl⟩ := sl_shape o
  obtain ⟨rfl, _, _⟩ := sl_n o
  obtain ⟨g, rfl, h1, h2⟩ := nm_at (j := 1) (x := b) o rfl
  exact ⟨g, c, rfl, h1, h2⟩
theorem one_num {w : World} {F : List Chunk} {T : TypeId} {v : Value} {a : Nat} (o : Own w (sl T u64E v [a] :: F)) : ∃ g c, v = .slice (some ⟨g, 0, none⟩) 1 c ∧ w.cell? ⟨g, 0, none⟩ = some (.int .u64 a) ∧ g < w.heap.size := by
  obtain ⟨A, n, c, rfl⟩ := sl_shape o
  obtain ⟨rfl, _, _⟩ := sl_n o
  rcases sl_form o with ⟨_, h⟩ | ⟨g, cap, h, _, _⟩
  · simp at h
  · simp only [Value.slice.injEq] at h
    obtain ⟨rfl, _, rfl⟩ := h
    have h1 := (sl_at o (i := 0) (x := a) rfl 0 _ rfl).1
    have h2 : w.cell? ⟨g, 0, none⟩ = some (.int .u64 a) := by simpa [u64E] using h1
    exact ⟨g, _, rfl, h2, World.block_lt_of_cell? w _ h2⟩
theorem fst_of {d e : FDisk} {c : Int} {r : FDisk × Int} (h : r = (e, c)) : r.1 = e ∧ r.2 = c := by subst h; exact ⟨rfl, rfl⟩

set_option maxRecDepth 20000 in
set_option maxHeartbeats 12800000 in
theorem awake_c (w : World) (F : List Chunk) (hG : Gl F) (o : Own w F) : Calls Tryz.prog 9 #[] w fun e w' => e = .returned (.bool true) ∧ Own w' F ∧ Ext w w' := by
  have oH := hid o
  have hGH := hid hG
  clear o hG
  go_enter Tryz.func9, Tryz.ntmps9
  go_wp2_with fail
  refine (new_c w F oH.out).mono ?_
  rintro e w0 ⟨p, rfl, o0, e0⟩
  have x0 := hid e0
  have h1 := wcreate_c p 3 _ (by decide) _ _ hGH.out (fbd_of (by decide) (by decide)) o0
  rw [s1] at h1
  unfold MadeSays at h1
  rw [if_pos rfl] at h1
  have g1 := hid h1
  clear o0 e0 oH h1
  go_wp2_with fail
  refine g1.out.mono ?_
  rintro e w1 ⟨q, rfl, o1, e1⟩
  have x1 := hid (x0.out.trans e1)
  have h2 := wadd_c q p L1 (WLog.new 3) ⟨#[97]⟩ (by decide) (by decide) (by decide) _ _ hGH.out (fbd_of (by decide) (by decide)) o1
  rw [show (⟨#[97]⟩ : ByteArray).data.toList = [97] from rfl, s2] at h2
  unfold AddSays at h2
  have g2 := hid h2
  clear o1 e1 x0 g1 h2
  go_wp2_with fail
  refine g2.out.mono ?_
  rintro e w2 ⟨rfl, o2, e2⟩
  have x2 := hid (x1.out.trans e2)
  have h3 := wadd_c q p L2 ⟨3, 3, false⟩ ⟨#[98]⟩ (by decide) (by decide) (by decide) _ _ hGH.out (fbd_of (by decide) (by decide)) o2
  rw [show (⟨#[98]⟩ : ByteArray).data.toList = [98] from rfl, s3] at h3
  unfold AddSays at h3
  have g3 := hid h3
  clear o2 e2 x1 g2 h3
  go_wp2_with fail
  refine g3.out.mono ?_
  rintro e w3 ⟨rfl, o3, e3⟩
  have x3 := hid (x2.out.trans e3)
  have h4 := wreplay_c p 3 L3 (by decide) _ _ (hGH.out.cons _) (fbd_of (by decide) (by decide)) o3
  rw [s7] at h4
  unfold ReplaySays at h4
  have g4 := hid h4
  clear o3 e3 x2 g3 h4
  go_wp2_with fail
  refine g4.out.mono ?_
  rintro e w4 ⟨m, rfl, o4, e4⟩
  have x4 := hid (x3.out.trans e4)
  have h5 := fuse_c p L3 1 (by decide) _ _ o4.swap
  rw [s4] at h5
  have g5 := hid h5
  clear o4 e4 x3 g4 h5
  go_wp2_with fail
  refine g5.out.mono ?_
  rintro e w5 ⟨rfl, o5, e5⟩
  have x5 := hid (x4.out.trans e5)
  have o5' := Own.arr [0, 2, 1] o5
  have h6 := wadd_c q p L4 ⟨3, 6, false⟩ ⟨#[99]⟩ (by decide) (by decide) (by decide) _ _ (hGH.out.cons _) (fbd_of (by decide) (by decide)) o5'
  rw [show (⟨#[99]⟩ : ByteArray).data.toList = [99] from rfl, s5] at h6
  unfold AddSays at h6
  have g6 := hid h6
  clear o5 o5' e5 x4 g5 h6
  go_wp2_with fail
  refine g6.out.mono ?_
  rintro e w6 ⟨rfl, o6, e6⟩
  have x6 := hid (x5.out.trans e6)
  have h7 := lbrk_c o6.swap
  have g7 := hid h7
  have a6 := hid o6
  clear o6 e6 x5 g6 h7
  go_wp2_with fail
  refine g7.out.mono ?_
  rintro e w7 ⟨rfl, rfl⟩
  have b6 := hid ((a6.out.alloc (.cells #[.int .i64 2] 3 (0, 0))).swap)
  have h8 := crash_c p L5 0 (.slice (some ⟨w7.heap.size, 0, none⟩) 1 1) [2] _ _ (fbd_of (by decide) (by decide)) (fun w' o => rd_one o) b6.out
  rw [s6] at h8
  have g8 := hid h8
  clear a6 b6 g7 h8
  go_wp2_with fail
  refine g8.out.mono ?_
  rintro e w8 ⟨rfl, o8, e8⟩
  have x8 := hid ((x6.out.alloc _).trans e8)
  have o8' := o8.swap.drop
  have h9 := wreplay_c p 3 L6 (by decide) _ _ ((hGH.out.cons _).cons _) (fbd_of (by decide) (by decide)) o8'
  rw [s8] at h9
  unfold ReplaySays at h9
  have g9 := hid h9
  clear o8 o8' e8 x6 g8 h9
  go_wp2_with fail
  refine g9.out.mono ?_
  rintro e w9 ⟨k, rfl, o9, e9⟩
  have x9 := hid (x8.out.trans e9)
  have nl : (namesOf L6.now).filterMap walNumber = [3] := by
    show [n3].filterMap walNumber = [3]
    simp [nu3]
  have h10 := wnumbers1_c p L6 _ _ (((hGH.out.cons _).cons _).cons _) (by rw [nl]; exact Nat.le_refl _) o9.swap
  rw [nl] at h10
  unfold NumbersSays at h10
  have g10 := hid h10
  clear o9 e9 x8 g9 h10 nl
  go_wp2_with fail
  refine g10.out.mono ?_
  rintro e w10 ⟨nv, rfl, o10, e10⟩
  have x10 := hid (x9.out.trans e10)
  have a10 := hid o10
  have h11 := number_c n12 (by decide) w10 (hGH.out _ (Own.drops [_, _, _, _, _] o10))
  rw [nu12] at h11
  unfold numV at h11
  have g11 := hid h11
  clear o10 e10 x9 g10 h11
  go_wp2_with fail
  refine g11.out.mono ?_
  rintro e w11 ⟨rfl, k11⟩
  have x11 := hid (x10.out.trans k11.ext)
  have a11 := hid (k11.own a10.out)
  have h12 := number_c n012 (by decide) w11 (hGH.out _ (Own.drops [_, _, _, _, _] a11.out))
  rw [nu012] at h12
  unfold numV at h12
  have g12 := hid h12
  clear k11 a10 x10 g11 h12
  go_wp2_with fail
  refine g12.out.mono ?_
  rintro e w12 ⟨rfl, k12⟩
  have x12 := hid (x11.out.trans k12.ext)
  have a12 := hid (k12.own a11.out)
  have g13 := hid (nilmake_c 1 w12)
  obtain ⟨mg, mc, rfl, cm, mg1⟩ := two_strs (Own.pick 4 a12.out)
  obtain ⟨kg, kc, rfl, ck, kg1⟩ := two_strs (Own.pick 2 a12.out)
  obtain ⟨ng, nc, rfl, cn, ng1⟩ := one_num a12.out
  have st1 : ((⟨[98].toArray⟩ : ByteArray).toList == (⟨#[98]⟩ : ByteArray).toList) = true := by simp
  clear k12 a11 x11 g12 ck
  go_wp2_with fail
  refine g13.out.mono ?_
  rintro e w13 ⟨rfl, rfl⟩
  have g14 := hid (name_c 7 (by decide) w13 (hGH.out _ (Own.drops [_, _, _, _, _] a12.out)))
  rw [nm7] at g14
  clear g13
  go_wp2_with fail
  refine g14.out.mono ?_
  rintro e w14 ⟨rfl, k14⟩
  have x14 := hid (x12.out.trans k14.ext)
  have a14 := hid (k14.own a12.out)
  have g15 := hid (lnum_c (Own.pick 3 a14.out))
  have st2 : ((n7).toList == (⟨#[119, 97, 108, 46, 55]⟩ : ByteArray).toList) = true := by simp
  clear k14 a12 x12 g14 cm cn
  go_wp2_with fail
  refine g15.out.mono ?_
  rintro e w15 ⟨rfl, rfl⟩
  have g16 := hid (lsize_c (Own.pick 3 a14.out))
  clear g15
  go_wp2_with fail
  refine g16.out.mono ?_
  rintro e w15 ⟨rfl, rfl⟩
  have h17 := wremove_c p 4 L6 (by decide) _ _ (Gl.cons (Gl.cons (Gl.cons (Gl.cons hGH.out _) _) _) _) (fbd_of (by decide) (by decide)) (Own.swap a14.out)
  rw [s9] at h17
  unfold RemSays at h17
  have g17 := hid h17
  clear g16 h17 a14
  go_wp2_with fail
  refine g17.out.mono ?_
  rintro e w17 ⟨rfl, o17, e17⟩
  have x17 := hid (x14.out.trans e17)
  have a17 := hid o17
  clear o17 e17 x14 g17
  go_wp2
  go_ret
  exact ⟨rfl, Own.drops [_, _, _, _, _] a17.out, x17.out⟩
end Go.Proofs.YtfdpoocdfbdhpaaGreatDoor
