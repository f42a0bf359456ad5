/- The walks of wal.may, Create, Remove, Replay. · The walks of wal.Create and Add. · The walks of slices.Sort at a slice of one number at most, and of wal.Numbers where one log at most is. -/
import Derived.Test.YtfdpoocdfbdhpaaGreatDoorWalA
import Derived.Test.YtfdpoocdfbdhpaaGreatDoorWalP
import Derived.Test.YtfdpoocdfbdhpaaGreatDoorFsI
import Derived.Test.YtfdpoocdfbdhpaaGreatDoorFsFr
import Derived.Test.YtfdpoocdfbdhpaaGreatDoorFsG
import Derived.Test.YtfdpoocdfbdhpaaGreatDoorFsL
import Derived.Test.YtfdpoocdfbdhpaaGreatDoorFrmC
import Derived.Test.YtfdpoocdfbdhpaaGreatDoorFrmA
import Derived.Test.YtfdpoocdfbdhpaaGreatDoorFsJ
import Derived.Shelf.Small.Bits
import Derived.Handy
set_option linter.all false
namespace Go.Proofs.YtfdpoocdfbdhpaaGreatDoor
open Go.RowKit Go.Sl Go.Scree Go.Maps

theorem read_total {d : FDisk} (h : FOk d) (name : ByteArray) : (d.read name).1.length ≤ total d.files := by
  unfold FDisk.read
  cases hg : dget d.now name with
  | none => exact Nat.zero_le _
  | some i => exact Nat.le_trans (file_size hg) (size_total h)
theorem name_max (n : Nat) : (walName n).size ≤ maxLen := Nat.le_trans (walName_size n) (by simp [maxLen])
theorem wmay_c (p n : Nat) (w : World) :
    Calls Tryz.prog 47 #[.pointer (some ⟨p, 0, none⟩), .int .u64 n] w fun e w' => e = .returned (.int .i64 (wMay n)) ∧ w' = w := by
  unfold wMay
  by_cases h : 1099511627776 < n
  · rw [if_pos h]
    have hi : (n : Int) > 1099511627776 := by omega
    clear h
    go_enter Tryz.func47, Tryz.ntmps47
    go_wp2_with fail
    go_ret
    exact ⟨rfl, rfl⟩
  · rw [if_neg h]
    have hi : ¬ (n : Int) > 1099511627776 := by omega
    clear h
    go_enter Tryz.func47, Tryz.ntmps47
    go_wp2_with fail
    go_ret
    exact ⟨rfl, rfl⟩
/-- A log's block. -/
def logC (q p : Nat) (l : WLog) : Chunk := pts q (.cells #[.pointer (some ⟨p, 0, none⟩), .int .u64 l.n, .int .i64 l.size, .bool l.broken] 86)
def RemSays (p : Nat) (n : Nat) (w : World) (F : List Chunk) (r : FDisk × Int) : Prop :=
  Calls Tryz.prog 21 #[.pointer (some ⟨p, 0, none⟩), .int .u64 n] w fun e w' => e = .returned (.int .i64 r.2) ∧ Own w' (diskC p r.1 :: F) ∧ Ext w w'
theorem wremove_c (p n : Nat) (d : FDisk) (hn : n < 18446744073709551616) (w : World) (F : List Chunk) (hG : Gl F) (hb : FBd d bigN) (o : Own w (diskC p d :: F)) : RemSays p n w F (wRemove d n) := by
  have oH := hid o
  have hm := hid (wmay_c p n w)
  have hnm := hid (name_c n hn w (hG _ o.drop))
  have hrm := hid (fun w' (o' : Own w' (diskC p d :: F)) => remove_c p d (walName n) w' F (name_max n) hb.waits o')
  clear o hb hn hG
  unfold wRemove
  unfold wMay at hm
  by_cases h : 1099511627776 < n
  · rw [if_pos h] at hm ⊢
    clear h
    unfold RemSays
    go_enter Tryz.func21, Tryz.ntmps21
    go_wp2_with fail
    refine hm.out.mono ?_
    rintro e w1 ⟨rfl, rfl⟩
    go_wp2_with fail
    go_ret
    exact ⟨rfl, oH.out, Ext.refl _⟩
  · rw [if_neg h] at hm ⊢
    clear h
    generalize hr : d.remove (walName n) = r at hrm ⊢
    clear hr
    unfold RemSays
    unfold RemoveSays at hrm
    go_enter Tryz.func21, Tryz.ntmps21
    go_wp2_with fail
    refine hm.out.mono ?_
    rintro e w1 ⟨rfl, rfl⟩
    go_wp2_with fail
    refine hnm.out.mono ?_
    rintro e w2 ⟨rfl, k2⟩
    have k2H := hid k2
    clear k2
    go_wp2_with fail
    refine (hrm.out _ (k2H.out.own oH.out)).mono ?_
    rintro e w3 ⟨rfl, o3, e3⟩
    have o3H := hid o3
    clear o3
    go_wp2
    go_ret
    exact ⟨rfl, o3H.out, k2H.out.ext.trans e3⟩
def ReplaySays (p : Nat) (d : FDisk) (n : Nat) (w : World) (F : List Chunk) (r : List (List UInt8) × Int) : Prop :=
  Calls Tryz.prog 19 #[.pointer (some ⟨p, 0, none⟩), .int .u64 n] w fun e w' => ∃ v, e = .returned (.tuple #[v, .int .i64 r.2]) ∧ Own w' (sl 9 strE v (strsOf r.1) :: diskC p d :: F) ∧ Ext w w'
theorem wreplay_c (p n : Nat) (d : FDisk) (hn : n < 18446744073709551616) (w : World) (F : List Chunk) (hG : Gl F) (hb : FBd d bigN) (o : Own w (diskC p d :: F)) : ReplaySays p d n w F (wReplay d n) := by
  have oH := hid o
  have hm := hid (wmay_c p n w)
  have hnm := hid (name_c n hn w (hG _ o.drop))
  have hrd := hid (fun w' (o' : Own w' (diskC p d :: F)) => read_c p d (walName n) w' F (name_max n) o')
  have hl : Hid ((d.read (walName n)).1.length ≤ 1000000000000) := hid (Nat.le_trans (read_total (diskC_ok o) _) hb.bytes)
  clear o hb hn hG
  unfold wReplay
  unfold wMay at hm
  by_cases h : 1099511627776 < n
  · rw [if_pos h] at hm ⊢
    clear h
    unfold ReplaySays
    go_enter Tryz.func19, Tryz.ntmps19
    go_wp2_with fail
    refine hm.out.mono ?_
    rintro e w1 ⟨rfl, rfl⟩
    go_wp2_with fail
    go_ret2
    exact ⟨_, rfl, sl_nil _ _ oH.out, Ext.refl _⟩
  · rw [if_neg h] at hm ⊢
    clear h
    generalize hr : d.read (walName n) = r at hrd hl ⊢
    clear hr
    obtain ⟨s, c⟩ := r
    dsimp only at hl hrd ⊢
    have hall := hid (fun w' (o' : Own w' (diskC p d :: F)) => fall_c ⟨s.toArray⟩ w' _ o' (by show s.toArray.size ≤ _; rw [List.size_toArray]; exact hl.out))
    dsimp only at hall
    unfold ReplaySays
    by_cases hc : c = 0
    · subst hc
      rw [if_pos rfl]
      go_enter Tryz.func19, Tryz.ntmps19
      go_wp2_with fail
      refine hm.out.mono ?_
      rintro e w1 ⟨rfl, rfl⟩
      go_wp2_with fail
      refine hnm.out.mono ?_
      rintro e w2 ⟨rfl, k2⟩
      have k2H := hid k2
      clear k2
      go_wp2_with fail
      refine (hrd.out _ (k2H.out.own oH.out)).mono ?_
      rintro e w3 ⟨rfl, rfl⟩
      go_wp2_with fail
      refine (hall.out _ (k2H.out.own oH.out)).mono ?_
      rintro e w4 ⟨v, cc, rfl, o4, e4⟩
      have o4H := hid o4
      clear o4
      go_wp2
      go_ret2
      exact ⟨_, rfl, o4H.out, k2H.out.ext.trans e4⟩
    · rw [if_neg hc]
      have hc2 : (c == 0) = false := by simpa using hc
      clear hall
      go_enter Tryz.func19, Tryz.ntmps19
      go_wp2_with fail
      refine hm.out.mono ?_
      rintro e w1 ⟨rfl, rfl⟩
      go_wp2_with fail
      refine hnm.out.mono ?_
      rintro e w2 ⟨rfl, k2⟩
      have k2H := hid k2
      clear k2
      go_wp2_with fail
      refine (hrd.out _ (k2H.out.own oH.out)).mono ?_
      rintro e w3 ⟨rfl, rfl⟩
      go_wp2_with fail
      go_ret2
      exact ⟨_, rfl, sl_nil _ _ (k2H.out.own oH.out), k2H.out.ext⟩
def MadeSays (p n : Nat) (w : World) (F : List Chunk) (r : FDisk × Int) : Prop :=
  if r.2 = 0 then Calls Tryz.prog 15 #[.pointer (some ⟨p, 0, none⟩), .int .u64 n] w fun e w' => ∃ q, e = .returned (.tuple #[.pointer (some ⟨q, 0, none⟩), .int .i64 0]) ∧ Own w' (diskC p r.1 :: logC q p (WLog.new n) :: F) ∧ Ext w w'
  else Calls Tryz.prog 15 #[.pointer (some ⟨p, 0, none⟩), .int .u64 n] w fun e w' => e = .returned (.tuple #[.pointer none, .int .i64 r.2]) ∧ Own w' (diskC p r.1 :: F) ∧ Ext w w'
end Go.Proofs.YtfdpoocdfbdhpaaGreatDoor
namespace Go.Proofs.YtfdpoocdfbdhpaaGreatDoor
open Go.RowKit Go.Sl Go.Scree Go.Maps

set_option maxHeartbeats 1600000 in
theorem wcreate_c (p n : Nat) (d : FDisk) (hn : n < 18446744073709551616) (w : World) (F : List Chunk) (hG : Gl F) (hb : FBd d bigN) (o : Own w (diskC p d :: F)) : MadeSays p n w F (wCreate d n) := by
  have oH := hid o
  have hm := hid (wmay_c p n w)
  have hnm := hid (name_c n hn w (hG _ o.drop))
  have hcr := hid (fun w' (o' : Own w' (diskC p d :: F)) => create_c p d (walName n) w' F (name_max n) hb.waits o')
  clear o hb hn hG
  unfold wCreate
  unfold wMay at hm
  by_cases h : 1099511627776 < n
  · rw [if_pos h] at hm ⊢
    clear h
    unfold MadeSays
    rw [if_neg (show ¬ ((1 : Int) = 0) by decide)]
    go_enter Tryz.func15, Tryz.ntmps15
    go_wp2_with fail
    refine hm.out.mono ?_
    rintro e w1 ⟨rfl, rfl⟩
    go_wp2_with fail
    go_ret2
    exact ⟨rfl, oH.out, Ext.refl _⟩
  · rw [if_neg h] at hm ⊢
    clear h
    generalize hr : d.create (walName n) = r at hcr ⊢
    clear hr
    obtain ⟨d1, c1⟩ := r
    dsimp only
    unfold CreateSays at hcr
    by_cases hc : c1 = 0
    · subst hc
      rw [if_pos rfl]
      have hsy := hid (fun w' (o' : Own w' (diskC p d1 :: F)) => syncDir_c p d1 w' F o')
      generalize hr : d1.syncDir = r2 at hsy ⊢
      clear hr
      obtain ⟨d2, c2⟩ := r2
      unfold SyncDirSays at hsy
      dsimp only at hcr hsy ⊢
      unfold MadeSays
      by_cases hc2 : c2 = 0
      · subst hc2
        rw [if_pos rfl]
        go_enter Tryz.func15, Tryz.ntmps15
        go_wp2_with fail
        refine hm.out.mono ?_
        rintro e w1 ⟨rfl, rfl⟩
        go_wp2_with fail
        refine hnm.out.mono ?_
        rintro e w2 ⟨rfl, k2⟩
        have k2H := hid k2
        clear k2
        go_wp2_with fail
        refine (hcr.out _ (k2H.out.own oH.out)).mono ?_
        rintro e w3 ⟨rfl, o3, e3⟩
        have o3H := hid o3
        clear o3
        go_wp2_with fail
        refine (hsy.out _ o3H.out).mono ?_
        rintro e w4 ⟨rfl, o4, e4⟩
        have o4H := hid o4
        clear o4
        go_wp2
        go_ret2
        refine ⟨_, rfl, Own.swap (o4H.out.alloc _), ((k2H.out.ext.trans e3).trans e4).alloc _⟩
      · rw [if_neg hc2]
        have hcb : (c2 == 0) = false := by simpa using hc2
        go_enter Tryz.func15, Tryz.ntmps15
        go_wp2_with fail
        refine hm.out.mono ?_
        rintro e w1 ⟨rfl, rfl⟩
        go_wp2_with fail
        refine hnm.out.mono ?_
        rintro e w2 ⟨rfl, k2⟩
        have k2H := hid k2
        clear k2
        go_wp2_with fail
        refine (hcr.out _ (k2H.out.own oH.out)).mono ?_
        rintro e w3 ⟨rfl, o3, e3⟩
        have o3H := hid o3
        clear o3
        go_wp2_with fail
        refine (hsy.out _ o3H.out).mono ?_
        rintro e w4 ⟨rfl, o4, e4⟩
        have o4H := hid o4
        clear o4
        go_wp2
        go_ret2
        exact ⟨rfl, o4H.out, (k2H.out.ext.trans e3).trans e4⟩
    · rw [if_neg hc]
      have hcb : (c1 == 0) = false := by simpa using hc
      unfold MadeSays
      dsimp only at hcr ⊢
      rw [if_neg hc]
      go_enter Tryz.func15, Tryz.ntmps15
      go_wp2_with fail
      refine hm.out.mono ?_
      rintro e w1 ⟨rfl, rfl⟩
      go_wp2_with fail
      refine hnm.out.mono ?_
      rintro e w2 ⟨rfl, k2⟩
      have k2H := hid k2
      clear k2
      go_wp2_with fail
      refine (hcr.out _ (k2H.out.own oH.out)).mono ?_
      rintro e w3 ⟨rfl, o3, e3⟩
      have o3H := hid o3
      clear o3
      go_wp2
      go_ret2
      exact ⟨rfl, o3H.out, k2H.out.ext.trans e3⟩

theorem log_cells {q p : Nat} {l : WLog} {w : World} {F : List Chunk} (o : Own w (logC q p l :: F)) :
    (w.cell? ⟨q, 0, none⟩ = some (.pointer (some ⟨p, 0, none⟩)) ∧ w.cell? ⟨q, 1, none⟩ = some (.int .u64 l.n) ∧ w.cell? ⟨q, 2, none⟩ = some (.int .i64 l.size) ∧ w.cell? ⟨q, 3, none⟩ = some (.bool l.broken)) ∧ w.frozen? ⟨q, 3, none⟩ = false ∧ w.frozen? ⟨q, 2, none⟩ = false :=
  ⟨⟨o.cell rfl, o.cell rfl, o.cell rfl, o.cell rfl⟩, o.free 3, o.free 2⟩
def AddSays (q p : Nat) (t : ByteArray) (w : World) (F : List Chunk) (r : WAns) : Prop :=
  Calls Tryz.prog 17 #[.pointer (some ⟨q, 0, none⟩), .string t] w fun e w' => e = .returned (.int .i64 r.e) ∧ Own w' (diskC p r.d :: logC q p r.l :: F) ∧ Ext w w'

theorem frame_size {t : ByteArray} (h : t.size ≤ 8000) : (frameB t.data.toList).length ≤ 8003 := frameB_small (by rw [← Lib.size_eq]; exact h)
set_option maxRecDepth 20000 in
set_option maxHeartbeats 3200000 in
theorem wadd_c (q p : Nat) (d : FDisk) (l : WLog) (t : ByteArray) (hn : l.n < 18446744073709551616) (hs : l.size ≤ bigN) (ht : t.size ≤ maxLen) (w : World) (F : List Chunk) (hG : Gl F) (hb : FBd d bigN) (o : Own w (diskC p d :: logC q p l :: F)) :
    AddSays q p t w F (wAdd d l t.data.toList) := by
  have oH := hid o
  have hbH := hid hb
  have hGH := hid hG
  have hnH := hid hn
  have hsH := hid hs
  have htH := hid ht
  obtain ⟨n, size, broken⟩ := l
  obtain ⟨⟨c0, c1, c2, c3⟩, f3, f2⟩ := log_cells o.swap
  dsimp only at *
  clear o hn hs hb hG ht
  unfold wAdd
  dsimp only
  cases broken with
  | true =>
    rw [if_pos rfl]
    unfold AddSays
    go_enter Tryz.func17, Tryz.ntmps17
    go_wp2_with fail
    go_ret
    exact ⟨rfl, oH.out, Ext.refl _⟩
  | false =>
    rw [if_neg (show ¬ (false = true) by decide)]
    have hmk := hid (make_c t w _ oH.out htH.out)
    unfold makeB makeE at hmk
    have hle := Lib.size_eq t
    by_cases h8 : 8000 < t.data.toList.length
    · rw [if_pos h8]
      rw [if_neg (by omega), if_neg (by omega)] at hmk
      clear h8 hle
      unfold AddSays
      go_enter Tryz.func17, Tryz.ntmps17
      go_wp2_with fail
      refine hmk.out.mono ?_
      rintro e w1 ⟨rfl, o1, e1⟩
      have o1H := hid o1
      clear o1
      go_wp2_with fail
      go_ret
      exact ⟨rfl, o1H.out, e1⟩
    · rw [if_neg h8]
      rw [if_pos (by omega), if_pos (by omega)] at hmk
      have hfz := hid (frame_size (t := t) (by omega))
      clear h8 hle
      generalize frameB t.data.toList = fb at hmk hfz ⊢
      have hfs : (⟨fb.toArray⟩ : ByteArray).size = fb.length := List.size_toArray
      obtain ⟨sb, hsb⟩ : ∃ z : ByteArray, (⟨fb.toArray⟩ : ByteArray) = z := ⟨_, rfl⟩
      have hbl : Hid (sb.data.toList = fb) := hid (by rw [← hsb])
      rw [hsb] at hmk hfs
      have hsi : (sb.size : Int) ≤ 8388608 := by have := hfz.out; omega
      have hsn := hid hfs
      clear hsb hfs
      have happ := hid (fun w' (o' : Own w' (diskC p d :: logC q p ⟨n, size, false⟩ :: F)) => append_c p d (walName n) sb w' _ (name_max n) (Nat.le_trans (size_total (diskC_ok o')) hbH.out.bytes) (by have := hfz.out; have := hsn.out; unfold bigN; omega) o')
      rw [hbl.out] at happ
      have hnm := hid (fun w' (o' : Own w' (diskC p d :: logC q p ⟨n, size, false⟩ :: F)) => name_c n hnH.out w' (hGH.out _ o'.drop.drop))
      generalize d.append (walName n) fb = r at happ ⊢
      obtain ⟨d1, c1⟩ := r
      unfold AppendSays at happ
      dsimp only at happ ⊢
      by_cases hc : c1 = 0
      · subst hc
        rw [if_pos rfl]
        have hsy := hid (fun w' (o' : Own w' (diskC p d1 :: logC q p ⟨n, size, false⟩ :: F)) => sync_c p d1 (walName n) w' _ (name_max n) o')
        generalize d1.sync (walName n) = r2 at hsy ⊢
        obtain ⟨d2, c2⟩ := r2
        unfold SyncSays at hsy
        dsimp only at hsy ⊢
        unfold AddSays
        by_cases hc2 : c2 = 0
        · subst hc2
          rw [if_pos rfl]
          dsimp only
          have hw1 : IntKind.i64.wrap ((size : Int) + (sb.size : Int)) = ((size + sb.size : Nat) : Int) := by
            have := hsH.out
            unfold bigN at this
            rw [IntKind.wrap_i64]; omega
          rw [← hsn.out]
          go_enter Tryz.func17, Tryz.ntmps17
          go_wp2_with fail
          refine hmk.out.mono ?_
          rintro e w1 ⟨rfl, o1, e1⟩
          obtain ⟨⟨b0, b1, b2, b3⟩, g3, g2⟩ := log_cells o1.swap
          have o1H := hid o1
          clear o1
          go_wp2_with fail
          refine (hnm.out _ o1H.out).mono ?_
          rintro e w2 ⟨rfl, k2⟩
          have o2 := k2.own o1H.out
          obtain ⟨⟨b0, b1, b2, b3⟩, g3, g2⟩ := log_cells o2.swap
          have o2H := hid o2
          have e2H := hid k2.ext
          clear o2 k2
          go_wp2_with fail
          refine (happ.out _ o2H.out).mono ?_
          rintro e w3 ⟨rfl, o3, e3⟩
          obtain ⟨⟨b0, b1, b2, b3⟩, g3, g2⟩ := log_cells o3.swap
          have o3H := hid o3
          clear o3
          go_wp2_with fail
          refine (hsy.out _ o3H.out).mono ?_
          rintro e w4 ⟨rfl, o4, e4⟩
          obtain ⟨⟨b0, b1, b2, b3⟩, g3, g2⟩ := log_cells o4.swap
          have o4H := hid o4
          clear o4
          go_wp2_with fail
          go_ret
          refine ⟨rfl, ?_, (((e1.trans e2H.out).trans e3).trans e4).set _ _⟩
          exact (o4H.out.swap.set (i := 2) (.int .i64 ((size + sb.size : Nat) : Int))).swap
        · rw [if_neg hc2]
          have hcb : (c2 == 0) = false := by simpa using hc2
          dsimp only
          go_enter Tryz.func17, Tryz.ntmps17
          go_wp2_with fail
          refine hmk.out.mono ?_
          rintro e w1 ⟨rfl, o1, e1⟩
          obtain ⟨⟨b0, b1, b2, b3⟩, g3, g2⟩ := log_cells o1.swap
          have o1H := hid o1
          clear o1
          go_wp2_with fail
          refine (hnm.out _ o1H.out).mono ?_
          rintro e w2 ⟨rfl, k2⟩
          have o2 := k2.own o1H.out
          obtain ⟨⟨b0, b1, b2, b3⟩, g3, g2⟩ := log_cells o2.swap
          have o2H := hid o2
          have e2H := hid k2.ext
          clear o2 k2
          go_wp2_with fail
          refine (happ.out _ o2H.out).mono ?_
          rintro e w3 ⟨rfl, o3, e3⟩
          obtain ⟨⟨b0, b1, b2, b3⟩, g3, g2⟩ := log_cells o3.swap
          have o3H := hid o3
          clear o3
          go_wp2_with fail
          refine (hsy.out _ o3H.out).mono ?_
          rintro e w4 ⟨rfl, o4, e4⟩
          obtain ⟨⟨b0, b1, b2, b3⟩, g3, g2⟩ := log_cells o4.swap
          have o4H := hid o4
          clear o4
          go_wp2_with fail
          go_ret
          refine ⟨rfl, ?_, (((e1.trans e2H.out).trans e3).trans e4).set _ _⟩
          exact (o4H.out.swap.set (i := 3) (.bool true)).swap
      · rw [if_neg hc]
        have hcb : (c1 == 0) = false := by simpa using hc
        unfold AddSays
        dsimp only
        go_enter Tryz.func17, Tryz.ntmps17
        go_wp2_with fail
        refine hmk.out.mono ?_
        rintro e w1 ⟨rfl, o1, e1⟩
        obtain ⟨⟨b0, b1, b2, b3⟩, g3, g2⟩ := log_cells o1.swap
        have o1H := hid o1
        clear o1
        go_wp2_with fail
        refine (hnm.out _ o1H.out).mono ?_
        rintro e w2 ⟨rfl, k2⟩
        have o2 := k2.own o1H.out
        obtain ⟨⟨b0, b1, b2, b3⟩, g3, g2⟩ := log_cells o2.swap
        have o2H := hid o2
        have e2H := hid k2.ext
        clear o2 k2
        go_wp2_with fail
        refine (happ.out _ o2H.out).mono ?_
        rintro e w3 ⟨rfl, o3, e3⟩
        obtain ⟨⟨b0, b1, b2, b3⟩, g3, g2⟩ := log_cells o3.swap
        have o3H := hid o3
        clear o3
        go_wp2_with fail
        go_ret
        refine ⟨rfl, ?_, ((e1.trans e2H.out).trans e3).set _ _⟩
        exact (o3H.out.swap.set (i := 3) (.bool (!(c1 == 12)))).swap
end Go.Proofs.YtfdpoocdfbdhpaaGreatDoor
namespace Go.Proofs.YtfdpoocdfbdhpaaGreatDoor
open Go.RowKit Go.Sl Go.Scree Go.Maps Go.Shelf

def u64E : Enc Nat := ⟨fun n => [.int .u64 n], 1, fun _ => rfl, by simp [Value.oneCell'], by omega⟩
theorem blen_l (x : Nat) (w : World) (h1 : (x : Int) ≤ 18446744073709551615) : Calls Tryz.prog 82 #[.int .u64 x] w fun e w' => e = .returned (.int .i64 (Lib.bitLen x)) ∧ w' = w := Any.bits_Len Wal.blen (x : Int) w (by omega) h1
theorem ins1_c (v : Value) (n : Nat) (hn : n ≤ 1) (w : World) : Calls Tryz.prog 106 #[v, .int .i64 0, .int .i64 n] w fun e w' => e = .returned (.tuple #[]) ∧ w' = w := by
  have h : ¬ (1 : Int) < n := by omega
  go_enter Tryz.func106, Tryz.ntmps106
  go_wp2
  go_loop [6] (fun i => i = .int .i64 1) (fun _ => 0)
  case atStart => rfl
  case round =>
    subst hrel
    go_wp2
    go_end0
    exact ⟨rfl, rfl⟩
theorem pdq1_c (v : Value) (n : Nat) (m : Int) (hn : n ≤ 1) (w : World) : Calls Tryz.prog 81 #[v, .int .i64 0, .int .i64 n, .int .i64 m] w fun e w' => e = .returned (.tuple #[]) ∧ w' = w := by
  have h : (n : Int) ≤ 12 := by omega
  have hw : IntKind.i64.wrap (n : Int) = n := by rw [IntKind.wrap_i64]; omega
  have hc := hid (ins1_c v n hn w)
  go_enter Tryz.func81, Tryz.ntmps81
  go_wp2_with fail
  go_loop [1, 2] (fun i j => i = .int .i64 0 ∧ j = .int .i64 n) (fun _ _ => 0)
  case atStart => exact ⟨rfl, rfl⟩
  case round =>
    obtain ⟨rfl, rfl⟩ := hrel
    go_wp2_with fail
    refine hc.out.mono ?_
    rintro e w1 ⟨rfl, rfl⟩
    go_wp2_with fail
    go_returns
    exact ⟨rfl, rfl⟩
theorem sort1_c (A : Option Addr) (n c : Nat) (hn : n ≤ 1) (w : World) : Calls Tryz.prog 58 #[.slice A n c] w fun e w' => e = .returned (.tuple #[]) ∧ w' = w := by
  have hp := hid (fun m => pdq1_c (.slice A n c) n m hn w)
  have hb := hid (blen_l n w (by omega))
  have h1 : (n : Int) ≤ 1 := by omega
  have hw : IntKind.u64.wrap (n : Int) = n := by rw [IntKind.wrap_u64]; omega
  go_enter Tryz.func58, Tryz.ntmps58
  go_wp2_with fail
  refine hb.out.mono ?_
  rintro e w1 ⟨rfl, rfl⟩
  go_wp2_with fail
  refine (hp.out _).mono ?_
  rintro e w1 ⟨rfl, rfl⟩
  go_wp2
  go_end0
  exact ⟨rfl, rfl⟩
theorem nm_at {w : World} {F : List Chunk} {T : TypeId} {Ad : Option Addr} {n c j : Nat} {xs : List ByteArray} {x : ByteArray} (o : Own w (sl T strE (.slice Ad n c) xs :: F)) (hx : xs[j]? = some x) :
    ∃ g, Ad = some ⟨g, 0, none⟩ ∧ w.cell? ⟨g, j, none⟩ = some (.string x) ∧ g < w.heap.size := by
  rcases sl_form o with ⟨_, h⟩ | ⟨g, cap, h, _, _⟩
  · rw [h] at hx; simp at hx
  · simp only [Value.slice.injEq] at h
    obtain ⟨rfl, rfl, rfl⟩ := h
    have h1 := (sl_at o hx 0 _ rfl).1
    have h2 : w.cell? ⟨g, j, none⟩ = some (.string x) := by simpa [strE] using h1
    exact ⟨g, rfl, h2, World.block_lt_of_cell? w _ h2⟩
theorem fm_snoc (ns : List ByteArray) (k : Nat) (x : ByteArray) (h : ns[k]? = some x) : (ns.take (k + 1)).filterMap walNumber = (ns.take k).filterMap walNumber ++ (walNumber x).toList := by
  obtain ⟨hk, rfl⟩ := List.getElem?_eq_some_iff.1 h
  rw [List.take_succ_eq_append_getElem hk, List.filterMap_append]
  congr 1
def NumbersSays (p : Nat) (d : FDisk) (w : World) (F : List Chunk) (l : List Nat) : Prop :=
  Calls Tryz.prog 22 #[.pointer (some ⟨p, 0, none⟩)] w fun e w' => ∃ v, e = .returned v ∧ Own w' (sl 22 u64E v l :: diskC p d :: F) ∧ Ext w w'
theorem infoU64 : (Tryz.prog.info? 22).map (fun i => (i.zero, i.size, i.bytes)) = some (some (.int .u64 0), 1, 8) := by kernel_rfl
set_option maxRecDepth 20000 in
set_option maxHeartbeats 3200000 in
theorem wnumbers1_c (p : Nat) (d : FDisk) (w : World) (F : List Chunk) (hG : Gl F) (h1 : ((namesOf d.now).filterMap walNumber).length ≤ 1) (o : Own w (diskC p d :: F)) : NumbersSays p d w F ((namesOf d.now).filterMap walNumber) := by
  have oH := hid o
  have hGH := hid hG
  have h1H := hid h1
  have hls := hid (list_c p d w F o)
  have hk := diskC_ok o
  have hsz : ∀ s ∈ namesOf d.now, s.size ≤ 20 := by
    intro s hs
    unfold namesOf at hs
    obtain ⟨x, hx, rfl⟩ := List.mem_map.1 hs
    exact mayB_small (hk.now.names _ hx)
  have hszH := hid hsz
  have hfew : (namesOf d.now).length ≤ 60 := by unfold namesOf; rw [List.length_map]; exact hk.now.few
  clear o hG h1 hsz hk
  generalize namesOf d.now = ns at hls h1H hszH hfew ⊢
  unfold NumbersSays
  obtain ⟨i0, hi0, hz0, hz1, hz2⟩ := info_parts infoU64
  go_enter Tryz.func22, Tryz.ntmps22
  go_wp2_with fail
  refine hls.out.mono ?_
  rintro e w1 ⟨lv, rfl, o1, e1⟩
  obtain ⟨LA, Ln, Lc, rfl⟩ := sl_shape o1
  obtain ⟨rfl, _, _⟩ := sl_n o1
  have o1H := hid o1
  clear o1
  go_wp2_with fail
  go_loopw [4, 16] (fun l i wr => ∃ k : Nat, i = .int .i64 k ∧ k ≤ ns.length ∧ Own wr (sl 22 u64E l ((ns.take k).filterMap walNumber) :: sl 9 strE (.slice LA ns.length Lc) ns :: diskC p d :: F) ∧ Ext w wr) (fun _ i _ => ns.length - (intOf i).toNat)
  case atStart => exact ⟨0, rfl, Nat.zero_le _, sl_nil _ _ o1H.out, e1⟩
  case round =>
    obtain ⟨k, rfl, hk, ok, ek⟩ := hrel
    obtain ⟨VA, Vn, Vc, rfl⟩ := sl_shape ok
    obtain ⟨hVn, _, _⟩ := sl_n ok
    have okH := hid ok
    by_cases hlt : k < ns.length
    · have hx : ns[k]? = some ns[k] := List.getElem?_eq_getElem hlt
      obtain ⟨x, hxe⟩ : ∃ x, ns[k] = x := ⟨_, rfl⟩
      rw [hxe] at hx
      obtain ⟨g, rfl, c1, hg⟩ := nm_at ok.drop hx
      have hxs : x.size ≤ 20 := hszH.out x (List.mem_of_getElem? hx)
      have hsn := hid (fm_snoc ns k x hx)
      have hnc := hid (number_c x (by omega) wr (hGH.out _ ok.drop.drop.drop))
      have hki : (k : Int) < ns.length := by omega
      cases hw : walNumber x with
      | none =>
        rw [hw] at hsn hnc
        unfold numV at hnc
        have hVH := hid hVn
        clear ok hVn hw hxe hx hxs
        go_wp2_with fail
        refine hnc.out.mono ?_
        rintro e w2 ⟨rfl, k2⟩
        have k2H := hid k2
        clear k2
        go_wp2_with fail
        go_roundw
        case rel =>
          refine ⟨k + 1, by go_num, by omega, ?_, ek.trans k2H.out.ext⟩
          rw [hsn.out]
          simp only [Option.toList, List.append_nil]
          exact k2H.out.own okH.out
        case measure => simp [intOf]; omega
      | some n =>
        rw [hw] at hsn hnc
        unfold numV at hnc
        have hnb := hid (walNumber_some hw).2
        have hVH := hid hVn
        have hfl := hid (Nat.le_trans (List.length_filterMap_le walNumber (ns.take k)) (List.length_take_le k ns))
        have hVk : Vn ≤ k := by rw [hVn]; exact hfl.out
        clear ok hVn hw hxe hx hxs
        go_wp2_with fail
        refine hnc.out.mono ?_
        rintro e w2 ⟨rfl, k2⟩
        have k2H := hid k2
        clear k2
        have o2H := hid (k2H.out.own okH.out)
        go_wp2_with (refine wpList_append_slc rfl _ _ _ rfl 22 i0 _ 1 8 Tryz.underlying45 hi0 hz0 hz1 hz2 rfl (by omega) _ Vn (u64E.flat ((ns.take k).filterMap walNumber)) rfl (by have h := o2H.out.allocd (x := .cells #[.int .u64 n] 22 (0, 0)); unfold sl at h; rw [← hVH.out] at h; exact h) ⟨_, 0, none⟩ 1 1 [.int .u64 n] rfl rfl (cells_new _ _ _ _) (by simp [Value.oneCell']) (by unfold maxLen; omega) (by omega) ?_; intro v3 w3 o3 e3 _; obtain ⟨A3, n3, c3, rfl, o3H⟩ := slc_shape o3; clear o3)
        go_roundw
        case rel =>
          refine ⟨k + 1, by go_num, by omega, ?_, (((ek.trans k2H.out.ext).alloc _).trans e3)⟩
          rw [hsn.out]
          exact sl_of (E := u64E) (((ns.take k).filterMap walNumber) ++ [n]) o3H.out (by rw [hVH.out]; simp) (by rw [u64E.flat_append]; rfl)
        case measure => simp [intOf]; omega
    · have hki : ¬ (k : Int) < ns.length := by omega
      have hke : k = ns.length := by omega
      have htk := hid (show ns.take k = ns by rw [hke, List.take_length])
      rw [htk.out] at hVn
      have hv1 : Vn ≤ 1 := by rw [hVn]; exact h1H.out
      have hso := hid (sort1_c VA Vn Vc hv1 wr)
      clear ok hVn hke hlt hv1
      go_wp2_with fail
      refine hso.out.mono ?_
      rintro e w2 ⟨rfl, rfl⟩
      go_wp2_with fail
      go_ret
      refine ⟨_, rfl, ?_, ek⟩
      have := okH.out
      rw [htk.out] at this
      exact this.swap.drop
end Go.Proofs.YtfdpoocdfbdhpaaGreatDoor
