/- The walks of frame.mark, Make. -/
import Derived.Test.YtfdpoocdfbdhpaaGreatDoorNumB
import Derived.Test.YtfdpoocdfbdhpaaGreatDoorNumA
import Derived.Test.YtfdpoocdfbdhpaaGreatDoorFrmM
import Derived.Test.YtfdpoocdfbdhpaaGreatDoorSle
set_option linter.all false
namespace Go.Proofs.YtfdpoocdfbdhpaaGreatDoor
open Go.RowKit Go.Sl Go.Scree

theorem xor_u8 (a b : UInt8) : bits BinOp.xor IntKind.u8 (a.toNat : Int) (b.toNat : Int) = ((a ^^^ b).toNat : Int) := by
  rw [u8_xor_nat _ _ a.toNat_lt b.toNat_lt, UInt8.toNat_xor]
theorem mark_snoc (s : ByteArray) (k : Nat) (h : k < s.size) : markB (s.data.toList.take (k + 1)) = markB (s.data.toList.take k) ^^^ s[k] := by
  have : s.data.toList.take (k + 1) = s.data.toList.take k ++ [s[k]] := by
    rw [List.take_succ_eq_append_getElem (by simpa using h)]; rfl
  rw [this]
  simp [markB]
set_option maxHeartbeats 1600000 in
theorem mark_c (s : ByteArray) (w : World) (hs : s.size ≤ maxLen) :
    Calls Tryz.prog 78 #[.string s] w fun e w' => e = .returned (.int .u8 (markB s.data.toList).toNat) ∧ w' = w := by
  unfold maxLen at hs
  go_enter Tryz.func78, Tryz.ntmps78
  go_wp2
  go_loop [3, 7] (fun m i => ∃ k : Nat, k ≤ s.size ∧ i = .int .i64 k ∧ m = .int .u8 (markB (s.data.toList.take k)).toNat) (fun _ i => s.size - (intOf i).toNat)
  case atStart => exact ⟨0, Nat.zero_le _, rfl, rfl⟩
  case round =>
    obtain ⟨k, hk, rfl, rfl⟩ := hrel
    by_cases hlt : k < s.size
    · have hm := mark_snoc s k hlt
      obtain ⟨a, ha⟩ : ∃ a, markB (s.data.toList.take k) = a := ⟨_, rfl⟩
      rw [ha] at hm ⊢
      have hx := xor_u8 a s[k]
      rw [← hm] at hx
      clear hm ha
      go_wp2
      go_round
      case rel => exact ⟨k + 1, by omega, by go_num, rfl⟩
      case measure => simp [intOf]; omega
    · have e := hid (List.take_of_length_le (l := s.data.toList) (i := k) (by rw [size_list']; omega))
      go_wp2
      go_ret
      rw [e.out]
      exact ⟨rfl, rfl⟩

theorem bs_app (l : List UInt8) (b : ByteArray) : (⟨l.toArray⟩ ++ b : ByteArray) = ⟨(l ++ b.data.toList).toArray⟩ := by
  have h : (⟨l.toArray⟩ ++ b : ByteArray).data = l.toArray ++ b.data := ByteArray.data_append
  cases hb : (⟨l.toArray⟩ ++ b : ByteArray) with
  | mk d =>
    rw [hb] at h
    dsimp only at h
    subst h
    congr 1
    apply Array.toList_inj.1
    simp
def makeE (t : List UInt8) : Int := if t.length ≤ 8000 then 0 else 5
def makeB (t : List UInt8) : List UInt8 := if t.length ≤ 8000 then frameB t else []
theorem frame_str (s : ByteArray) : ((⟨(shortB s.size).toArray⟩ ++ s) ++ ⟨#[markB s.data.toList]⟩ : ByteArray) = ⟨(frameB s.data.toList).toArray⟩ := by
  rw [bs_app, bs_app]
  unfold frameB
  rw [size_list']
  simp
theorem rd_byte {w : World} {b : Nat} {x : UInt8} {T : TypeId} {fr : Nat × Nat} (hb : w.heap.size = b) : Rd (w.alloc (.cells #[.int .u8 x.toNat] T fr)) byteE (.slice (some ⟨b, 0, none⟩) 1 1) [x] :=
  rd_new hb rfl (by simp [maxLen]) rfl
set_option maxRecDepth 20000 in
set_option maxHeartbeats 1600000 in
theorem make_c (s : ByteArray) (w : World) (F : List Chunk) (o : Own w F) (hs : s.size ≤ maxLen) :
    Calls Tryz.prog 50 #[.string s] w fun e w' => e = .returned (.tuple #[.string ⟨(makeB s.data.toList).toArray⟩, .int .i64 (makeE s.data.toList)]) ∧ Own w' F ∧ Ext w w' := by
  have hsH := hid hs
  have oH := hid o
  clear o
  unfold makeB makeE
  rw [size_list']
  by_cases h : s.size ≤ 8000
  · rw [if_pos h, if_pos h]
    have hz : (s.size : Int) ≤ 8000 := by omega
    have hcon := hid (short_c s.size (by omega) w F oH.out)
    have hfs := hid (frame_str s)
    have hl : Hid ((shortB s.size).length ≤ 2) := hid (shortB_small h)
    clear hs
    go_enter Tryz.func50, Tryz.ntmps50
    go_wp2_with fail
    refine hcon.out.mono ?_
    rintro e w1 ⟨rfl, o1, e1⟩
    have o1H := hid o1
    clear o1
    obtain ⟨sb, hsb⟩ : ∃ z : ByteArray, (⟨(shortB s.size).toArray⟩ : ByteArray) = z := ⟨_, rfl⟩
    have hz2 : (sb.size : Int) ≤ 8388608 := by
      rw [← hsb]
      have := hl.out
      show ((shortB s.size).toArray.size : Int) ≤ _
      rw [List.size_toArray]; omega
    rw [hsb] at hfs ⊢
    clear hsb
    go_wp2_with fail
    refine (mark_c s w1 hsH.out).mono ?_
    rintro e w2 ⟨rfl, rfl⟩
    go_wp2_with (refine wpList_bytes_str rfl _ _ _ _ rfl Tryz.underlying94 Tryz.underlying5 Tryz.underlying9 _ _ rfl (rd_byte (x := markB s.data.toList) rfl) ?_)
    go_ret2
    rw [hfs.out]
    exact ⟨rfl, o1H.out.allocd, e1.alloc _⟩
  · rw [if_neg h, if_neg h]
    have hz : ¬ (s.size : Int) ≤ 8000 := by omega
    clear hs h
    go_enter Tryz.func50, Tryz.ntmps50
    go_wp2_with fail
    go_ret2
    exact ⟨rfl, oH.out, Ext.refl _⟩
end Go.Proofs.YtfdpoocdfbdhpaaGreatDoor
