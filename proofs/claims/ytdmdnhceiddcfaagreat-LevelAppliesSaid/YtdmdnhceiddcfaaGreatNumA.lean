/- The walk of num.Short. -/
import Derived.Test.YtdmdnhceiddcfaaGreatProg
import Derived.Test.YtdmdnhceiddcfaaGreatNumM
import Derived.Test.YtdmdnhceiddcfaaGreatInfU
import Derived.Test.YtdmdnhceiddcfaaGreatSld
set_option linter.all false
namespace Go.Proofs.YtdmdnhceiddcfaaGreat
open Go.RowKit Go.Sl Go.Scree


theorem or128_all : ∀ m : Fin 256, bits BinOp.or IntKind.u8 (m.val : Int) 128 = ((m.val % 128 + 128 : Nat) : Int) := by decide +kernel
theorem or128 (k : Nat) : bits BinOp.or IntKind.u8 ((k : Int) % 256) 128 = ((k % 128 + 128 : Nat) : Int) := by
  have h := or128_all ⟨k % 256, by omega⟩
  have e1 : ((k % 256 : Nat) : Int) = (k : Int) % 256 := by omega
  have e2 : k % 256 % 128 = k % 128 := by omega
  rw [← e1, h]
  simp only [e2]

set_option maxRecDepth 20000 in
set_option maxHeartbeats 1600000 in
theorem short_c (n : Nat) (hn : n < 18446744073709551616) (w : World) (F : List Chunk) (o : Own w F) :
    Calls Tryz.prog 59 #[.int .u64 n] w fun e w' => e = .returned (.string ⟨(shortB n).toArray⟩) ∧ Own w' F ∧ Ext w w' := by
  have oH := hid o
  have hnH := hid hn
  clear o hn
  obtain ⟨i0, hi0, hz0, hz1, hz2⟩ := info_parts infoU8
  go_enter Tryz.func59, Tryz.ntmps59
  go_wp2_with fail
  go_loopw [0, 3] (fun m b wr => ∃ (k : Nat) (l : List UInt8), m = .int .u64 k ∧ k ≤ n ∧ l ++ shortB k = shortB n ∧ Own wr (sl 5 byteE b l :: F) ∧ Ext w wr) (fun m _ wr => (intOf m).toNat)
  case atStart => exact ⟨n, [], rfl, Nat.le_refl _, rfl, sl_nil _ _ oH.out, Ext.refl _⟩
  case round =>
    obtain ⟨k, l, rfl, hk, hs, ok, ek⟩ := hrel
    obtain ⟨A1, n1, k1, rfl⟩ := sl_shape ok
    have okH := hid ok
    have hsH := hid hs
    have hl10 : l.length ≤ 10 := by have := shortB_le hnH.out; rw [← hs, List.length_append] at this; omega
    clear ok hs
    by_cases hlt : k < 128
    · go_wp2_with (refine wpList_append_slc rfl _ _ _ rfl 5 i0 _ 1 1 Tryz.underlying78 hi0 hz0 hz1 hz2 rfl (by omega) _ _ _ rfl (Own.allocd okH.out) ⟨wr.heap.size, 0, none⟩ 1 1 [.int .u8 k] rfl rfl ?c1 ?c2 ?c3 ?c4 ?_)
      case c1 => exact cells_new wr _ _ _
      case c2 => simp [Value.oneCell']
      case c3 => unfold maxLen; omega
      case c4 => omega
      intro v3 w3 o3 e3 _
      have o4 := sl_of (E := byteE) (l ++ [UInt8.ofNat k]) o3 (by simp) (by simp [byteE, Enc.flat]; omega)
      go_wp2_with (refine wpList_bytes_str rfl _ _ _ _ rfl Tryz.underlying78 Tryz.underlying5 Tryz.underlying9 _ _ rfl (sl_rd o4) ?_)
      go_ret
      refine ⟨?_, o4.drop, (ek.alloc _).trans e3⟩
      rw [← hsH.out, shortB_low hlt]
      rfl
    · go_wp2_with (refine wpList_append_slc rfl _ _ _ rfl 5 i0 _ 1 1 Tryz.underlying78 hi0 hz0 hz1 hz2 rfl (by omega) _ _ _ rfl (Own.allocd okH.out) ⟨wr.heap.size, 0, none⟩ 1 1 [.int .u8 (bits BinOp.or IntKind.u8 ((k : Int) % 256) 128)] rfl rfl ?c1 ?c2 ?c3 ?c4 ?_)
      case c1 => exact cells_new wr _ _ _
      case c2 => simp [Value.oneCell']
      case c3 => unfold maxLen; omega
      case c4 => omega
      intro v3 w3 o3 e3 _
      have o4 := sl_of (E := byteE) (l ++ [UInt8.ofNat (k % 128 + 128)]) o3 (by simp) (by rw [or128]; simp [byteE, Enc.flat]; omega)
      obtain ⟨A4, n4, k4, rfl⟩ := sl_shape o4
      have o4H := hid o4
      clear o3 o4
      go_wp2
      go_roundw
      case rel => exact ⟨k / 128, _, by go_num, by omega, by rw [← hsH.out, shortB_high hlt]; simp, o4H.out, (ek.alloc _).trans e3⟩
      case measure => simp [intOf]; omega
def U64 (n : Int) : Prop := 0 ≤ n ∧ n < 18446744073709551616
theorem short_i (n : Int) (h : U64 n) (w : World) (F : List Chunk) (o : Own w F) :
    Calls Tryz.prog 59 #[.int .u64 n] w fun e w' => e = .returned (.string ⟨(shortB n.toNat).toArray⟩) ∧ Own w' F ∧ Ext w w' := by
  obtain ⟨h0, h1⟩ := h
  obtain ⟨m, rfl⟩ := Int.eq_ofNat_of_zero_le h0
  exact short_c m (by omega) w F o
end Go.Proofs.YtdmdnhceiddcfaaGreat
