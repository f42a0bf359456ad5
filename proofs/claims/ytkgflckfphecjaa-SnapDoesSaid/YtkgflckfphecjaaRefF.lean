/- The law's own: a list of leases, made the document's. -/
import Derived.Test.YtkgflckfphecjaaRefE
namespace Go.Proofs.Ytkgflckfphecjaa
open Go.RowKit Go.Sl Go.Scree

theorem take_snoc {l : List Lease} {k : Nat} {x : Lease} (hx : l[k]? = some x) : l.take (k + 1) = l.take k ++ [x] := by
  obtain ⟨hk, rfl⟩ := List.getElem?_eq_some_iff.1 hx
  rw [List.take_succ_eq_append_getElem hk]

set_option maxHeartbeats 3200000 in
theorem own_c {D : List Chunk} (v : Value) (l : List Lease) (hrd : Gives D fun w => Rd w leaseE v l) (hlen : l.length ≤ 1000) (w : World) (F : List Chunk) (o : Own w (D ++ F)) :
    Calls Try.prog 25 #[v] w fun e w' => ∃ v', e = .returned v' ∧ Own w' (sl 70 leaseE v' l :: (D ++ F)) ∧ Ext w w' := by
  have hH := hid hrd
  obtain ⟨a, cap, rfl, hm, hc⟩ := (hrd w F o).form
  have oH := hid o
  obtain ⟨i0, hi0, hz0, hz1, hz2⟩ := info_parts infoX
  clear hrd o
  go_enter Try.func25, Try.ntmps25
  go_wp2_with fail
  go_loopw [3, 8] (fun out i wr => ∃ k : Nat, i = .int .i64 k ∧ k ≤ l.length ∧ Own wr (sl 70 leaseE out (l.take k) :: (D ++ F)) ∧ Ext w wr) (fun _ i _ => l.length - (intOf i).toNat)
  case atStart => exact ⟨0, rfl, Nat.zero_le _, sl_empty _ _ (oH.out.alloc _), (Ext.refl _).alloc _⟩
  case round =>
    obtain ⟨k, rfl, hk, ok, ek⟩ := hrel
    obtain ⟨A1, n1, k1, rfl⟩ := sl_shape ok
    have okH := hid ok
    by_cases hlt : k < l.length
    · obtain ⟨x, hx⟩ : ∃ x, l[k]? = some x := ⟨_, List.getElem?_eq_getElem hlt⟩
      rcases hH.out wr _ (Own.exch [_] D ok) with ⟨_, hxs⟩ | ⟨g, off, cap', hv, h1, h2, hcell⟩
      · rw [hxs] at hx; simp at hx
      obtain ⟨rfl, rfl⟩ : a = some ⟨g, off, none⟩ ∧ cap = cap' := by simpa using hv
      obtain ⟨c0, c1, c2⟩ := rd_lease hcell hx
      have hgl : g < wr.heap.size := World.block_lt_of_cell? wr _ c0
      have hkl : (l.take k).length = k := by simp; omega
      have hxH := hid hx
      clear hx hcell
      go_wp2_with fail
      go_region_law (first | (refine step_append_slc rfl _ _ _ rfl 70 i0 _ 3 24 Try.underlying46 hi0 hz0 hz1 hz2 rfl (by omega) _ _ _ rfl (Own.allocd (Own.drew ok)) ⟨wr.heap.size, 0, none⟩ 1 1 [.int .u64 x.id, .int .u64 x.time, .int .u64 x.until_] rfl rfl (cells_new' (by simp) _ _ _) (by simp [Value.oneCell']) (by rw [hkl]; unfold maxLen; omega) (by rw [hkl]; omega) (by omega) ?_; intro A3 k3 w3 o4 e4))
      all_goals
        have o5 := sl_of (E := leaseE) (l.take k ++ [x]) o4 (by simp) (by simp [leaseE, Enc.flat])
        rw [hkl] at o5
        have o5H := hid o5
        clear o4 o5 ok
        go_wp2
        go_roundw
        case rel => exact ⟨k + 1, by go_num, by omega, by rw [take_snoc hxH.out]; exact o5H.out, ek.trans ((((Ext.refl _).drew).alloc _).trans e4)⟩
        case measure => simp [intOf]; omega
    · have hkl : l.take k = l := List.take_of_length_le (by omega)
      rw [hkl] at okH
      clear ok hkl
      go_wp2
      go_ret
      exact ⟨_, rfl, okH.out, ek⟩
end Go.Proofs.Ytkgflckfphecjaa
