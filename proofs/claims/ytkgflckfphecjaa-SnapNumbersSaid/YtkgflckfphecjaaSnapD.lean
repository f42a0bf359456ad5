/- slices.Delete at leases. -/
import Derived.Test.YtkgflckfphecjaaSnapB
import Derived.Deep.RegionHeld3
namespace Go.Proofs.Ytkgflckfphecjaa
open Go.RowKit Go.Sl Go.Scree

set_option maxHeartbeats 1600000 in
theorem delete_c {F : List Chunk} (k : Nat) (v : Value) (xs : List Lease) (hk : k < xs.length) (w : World) (o : Own w (sl 67 leaseE v xs :: F)) :
    Calls Try.prog 38 #[v, .int .i64 k, .int .i64 (k + 1)] w fun e w' => ∃ v', e = .returned v' ∧ Own w' (sl 67 leaseE v' (xs.eraseIdx k) :: F) ∧ Ext w w' := by
  rcases sl_form o with ⟨_, rfl⟩ | ⟨g, cap, rfl, hn, hc⟩
  · simp at hk
  have oH := hid o
  clear o
  obtain ⟨i0, hi0, hz0, hz1, hz2⟩ := info_parts infoHeld
  have hcl : cap ≤ 9223372036854775807 := by simpa [maxLen] using hc
  have hne : ((k : Int) == k + 1) = false := by rw [beq_eq_false_iff_ne]; omega
  have hkc : k ≤ cap := by omega
  have hk1 : k + 1 ≤ xs.length := hk
  have hk2 : (0 : Int) ≤ (k : Int) + 1 := by omega
  have hk3 : (k : Int) + 1 ≤ (xs.length : Int) := by omega
  have hcm : cap ≠ xs.length - 1 := by omega
  by_cases hck : cap = k + 1
  all_goals
    try subst hck
    have hk4 : (k : Int) ≤ (k : Int) + 1 := by omega
    have hk5 : ¬ k + 1 = k := by omega
    go_enter Try.func38, Try.ntmps38
    go_wp2_with fail
  · go_region_held3 (fun _ => True) (trivial) (first | (fail))
    have hnk : xs.length = k + 1 := by omega
    have o2 := sl_take oH.out.drew k (by omega)
    have o2H := hid o2
    clear o2
    have hnkH := hid hnk
    clear hnk
    go_wp2_with (refine wpList_clear_sl rfl _ _ rfl i0 _ Try.underlying60 hi0 hz0 rfl (by simp [Value.cells, Value.oneCell']) o2H.out k k (xs.length - k) 1 (some ⟨g, k * 3, none⟩) ?c1 ?c2 (Nat.le_refl _) ?c3 (fun _ => rfl) ?_)
    case c1 => rfl
    case c2 => simp; omega
    case c3 => have := hnkH.out; omega
    intro w3 o3 e3
    have o3H := hid o3
    clear o3
    go_wp2
    go_ret
    refine ⟨_, rfl, ?_, ((Ext.refl _).drew).trans e3⟩
    have := o3H.out
    rw [List.take_take, Nat.min_self] at this
    rw [List.eraseIdx_eq_take_drop_succ, List.drop_of_length_le (by have := hnkH.out; omega), List.append_nil]
    exact this
  · go_region_held3 (fun _ => True) (trivial) (first | (refine step_cut_sl rfl _ _ _ rfl i0 Try.underlying60 hi0 hz1 oH.out.drew k (k + 1) (xs.length - (k + 1)) (cap - (k + 1)) (some ⟨g, (k + 1) * 3, none⟩) rfl rfl rfl (by omega) (by omega) (fun _ => rfl) (by simp) ?_; intro w2 o2 e2))
    clear hck
    have hm1 : k + (xs.length - (k + 1)) = xs.length - 1 := by omega
    have hm0 : xs.length - 1 ≤ xs.length := by omega
    have hm2 : xs.length - 1 ≤ cap := by omega
    have o2' := o2
    rw [hm1] at o2'
    have o2H := hid o2'
    clear o2 o2'
    rw [hm1]
    clear hm1
    generalize hL : xs.length - 1 = m at *
    have hLH := hid hL
    clear hL
    go_wp2_with (refine wpList_clear_sl rfl _ _ rfl i0 _ Try.underlying60 hi0 hz0 rfl (by simp [Value.cells, Value.oneCell']) o2H.out m m (xs.length - m) (cap - m) (some ⟨g, m * 3, none⟩) ?c1 ?c2 (Nat.le_refl _) ?c3 (fun _ => rfl) ?_)
    case c1 => rfl
    case c2 => simp; have := hLH.out; omega
    case c3 => omega
    intro w3 o3 e3
    have o3H := hid o3
    clear o3
    go_wp2
    go_ret
    refine ⟨_, rfl, ?_, ((Ext.refl _).drew.trans e2).trans e3⟩
    have := o3H.out
    rw [List.take_of_length_le (by simp; have := hLH.out; omega), ← List.eraseIdx_eq_take_drop_succ] at this
    exact this
end Go.Proofs.Ytkgflckfphecjaa
