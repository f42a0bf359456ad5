/- The document's registry (screeref16): the walks of its methods, over the same plain functions. -/
import Derived.Test.YtkgflckfphecjaaSnapG
import Derived.Deep.RegionLaw
namespace Go.Proofs.Ytkgflckfphecjaa
open Go.RowKit Go.Sl Go.Scree

def regX (p : Nat) (r : Reg) : Chunk := ex fun lv : Value => stars [pts p (.cells #[lv, .int .u64 r.safe, .int .u64 r.next] 50 (0, 0)), sl 70 leaseE lv r.l]
theorem regX_open {p : Nat} {r : Reg} {w : World} {F : List Chunk} (o : Own w (regX p r :: F)) : ∃ lv, Own w (pts p (.cells #[lv, .int .u64 r.safe, .int .u64 r.next] 50 (0, 0)) :: sl 70 leaseE lv r.l :: F) := by
  obtain ⟨lv, o⟩ := o.open
  exact ⟨lv, o.stars⟩
theorem regX_close {p : Nat} {r : Reg} {w : World} {F : List Chunk} {lv : Value} (o : Own w (pts p (.cells #[lv, .int .u64 r.safe, .int .u64 r.next] 50 (0, 0)) :: sl 70 leaseE lv r.l :: F)) : Own w (regX p r :: F) :=
  Own.close lv (Own.unstars (cs := [_, _]) o)
theorem infoX : (Try.prog.info? 70).map (fun i => (i.zero, i.size, i.bytes)) = some (some (.agg #[(.int .u64 0), (.int .u64 0), (.int .u64 0)]), 3, 24) := by kernel_rfl

theorem sl_empty {α : Type} (T : TypeId) (E : Enc α) {w : World} {F : List Chunk} {g : Nat} (o : Own w (pts g (.cells #[] T (0, 0)) :: F)) : Own w (sl T E (.slice (some ⟨g, 0, none⟩) 0 0) ([] : List α) :: F) :=
  by
    have h := slc_mk (n := 0) (cap := 0) (size := E.size) o (Nat.le_refl _) (by simp [maxLen]) (by simp)
    have e : List.take (0 * E.size) (#[] : Array Value).toList = E.flat ([] : List α) := by simp [Enc.flat]
    rw [e] at h
    exact h

theorem xnew_c (w : World) (F : List Chunk) (o : Own w F) :
    Calls Try.prog 12 #[] w fun e w' => ∃ p, e = .returned (.pointer (some ⟨p, 0, none⟩)) ∧ Own w' (regX p Reg.new :: F) ∧ Ext w w' := by
  go_enter Try.func12, Try.ntmps12
  go_wp2
  go_ret
  refine ⟨_, rfl, ?_, (Ext.refl _).alloc _⟩
  exact regX_close (r := Reg.new) (sl_nil _ _ (o.alloc _)).swap

set_option maxHeartbeats 1600000 in
theorem xlive_c (now : Int) (p : Nat) (r : Reg) (hlen : r.l.length ≤ 1000) (w : World) (F : List Chunk) (o : Own w (regX p r :: F)) :
    Calls Try.prog 34 #[.pointer (some ⟨p, 0, none⟩), .int .u64 now] w fun e w' => ∃ v', e = .returned v' ∧ Own w' (sl 70 leaseE v' (r.l.filter (livesB now)) :: regX p r :: F) ∧ Ext w w' := by
  obtain ⟨lv, o2⟩ := regX_open o
  obtain ⟨a, cap, rfl, hm, hc⟩ := (sl_rd o2.swap).form
  have o2H := hid o2
  obtain ⟨i0, hi0, hz0, hz1, hz2⟩ := info_parts infoX
  clear o o2
  go_enter Try.func34, Try.ntmps34
  go_wp2_with fail
  go_loopw [5, 6] (fun out i wr => ∃ k : Nat, i = .int .i64 k ∧ k ≤ r.l.length ∧ Own wr (sl 70 leaseE out ((r.l.take k).filter (livesB now)) :: pts p (.cells #[.slice a r.l.length cap, .int .u64 r.safe, .int .u64 r.next] 50 (0, 0)) :: sl 70 leaseE (.slice a r.l.length cap) r.l :: F) ∧ Ext w wr) (fun _ i wr => r.l.length - (intOf i).toNat)
  case atStart => exact ⟨0, rfl, Nat.zero_le _, sl_empty _ _ (o2H.out.alloc _), (Ext.refl _).alloc _⟩
  case round =>
    obtain ⟨k, rfl, hk, ok, ek⟩ := hrel
    obtain ⟨A1, n1, k1, rfl⟩ := sl_shape ok
    have okH := hid ok
    have b0 := ok.swap.cell (i := 0) (v := .slice a r.l.length cap) rfl
    have hp := ok.swap.lt
    by_cases hlt : k < r.l.length
    · obtain ⟨x, hx⟩ : ∃ x, r.l[k]? = some x := ⟨_, List.getElem?_eq_getElem hlt⟩
      obtain ⟨g, cap', hv, hgl, _, hn, hcap, d0, d1, d2, _, _, _⟩ := sl_get (ok.pick 2) hx
      simp only [Value.slice.injEq] at hv
      obtain ⟨rfl, _, rfl⟩ := hv
      have hxH := hid hx
      clear ok hx
      by_cases hlv : now < x.until_
      · have hd : decide (now < x.until_) = true := decide_eq_true hlv
        have hl2 : ((r.l.take k).filter (livesB now)).length ≤ 1000 := Nat.le_trans (List.length_filter_le _ _) (by simp; omega)
        go_wp2_with (refine wpList_append_slc rfl _ _ _ rfl 70 i0 _ 3 24 Try.underlying46 hi0 hz0 hz1 hz2 rfl (by omega) _ _ _ rfl (Own.allocd okH.out) ⟨wr.heap.size, 0, none⟩ 1 1 [.int .u64 x.id, .int .u64 x.time, .int .u64 x.until_] rfl rfl ?c1 ?c2 ?c3 ?c4 ?_)
        case c1 => exact cells_new wr _ _ _
        case c2 => simp [Value.oneCell']
        case c3 => unfold maxLen; omega
        case c4 => omega
        intro v3 w3 o3 e3 _
        have o4 := sl_of (E := leaseE) ((r.l.take k).filter (livesB now) ++ [x]) o3 (by simp) (by simp [leaseE, Enc.flat])
        obtain ⟨A3, n3, k3, rfl⟩ := sl_shape o4
        have o4H := hid o4
        have hq : livesB now x = true := by simp [livesB, hlv]
        have hqH := hid hq
        clear o3 o4 hq
        go_wp2
        go_roundw
        case rel => exact ⟨k + 1, by go_num, by omega, by rw [filter_take_yes hxH.out hqH.out]; exact o4H.out, ek.trans (((Ext.refl _).alloc _).trans e3)⟩
        case measure => simp [intOf]; omega
      · have hd : decide (now < x.until_) = false := decide_eq_false hlv
        have hq : livesB now x = false := by simp [livesB, hlv]
        have hqH := hid hq
        clear hq
        go_wp2
        go_roundw
        case rel => exact ⟨k + 1, by go_num, by omega, by rw [filter_take_no hxH.out hqH.out]; exact okH.out, ek⟩
        case measure => simp [intOf]; omega
    · clear ok
      go_wp2
      go_ret
      refine ⟨_, rfl, ?_, ek⟩
      have := okH.out
      rw [List.take_of_length_le (by omega)] at this
      exact (regX_close (this.pick 1 |>.pick 2 |>.swap)).swap

theorem xends_c (lease now : Int) (h0 : 0 ≤ now) (w : World) : Calls Try.prog 33 #[.int .u64 lease, .int .u64 now] w fun e w' => e = .returned (.bool (untilB lease now)) ∧ w = w' := by
  by_cases h1 : 1 ≤ lease
  · have d1 : decide (1 ≤ lease) = true := decide_eq_true h1
    by_cases h2 : lease ≤ 1099511627776
    · have d2 : decide (lease ≤ 1099511627776) = true := decide_eq_true h2
      by_cases h3 : now ≤ 1099511627776
      · have d3 : decide (now ≤ 1099511627776) = true := decide_eq_true h3
        have hu : untilB lease now = decide (now + lease ≤ 1099511627776) := by
          have : (0 : Int) < lease := by omega
          simp [untilB, timeB, this, h2, h3]
        rw [hu]
        clear hu
        go_enter Try.func33, Try.ntmps33
        go_wp2
        go_ret
        exact ⟨rfl, rfl⟩
      · have d3 : decide (now ≤ 1099511627776) = false := decide_eq_false h3
        have hu : untilB lease now = false := by simp [untilB, h3]
        rw [hu]
        clear hu
        go_enter Try.func33, Try.ntmps33
        go_wp2
        go_ret
        exact ⟨rfl, rfl⟩
    · have d2 : decide (lease ≤ 1099511627776) = false := decide_eq_false h2
      have hu : untilB lease now = false := by simp [untilB, timeB, h2]
      rw [hu]
      clear hu
      go_enter Try.func33, Try.ntmps33
      go_wp2
      go_ret
      exact ⟨rfl, rfl⟩
  · have d1 : decide (1 ≤ lease) = false := decide_eq_false h1
    have hu : untilB lease now = false := by
      have : ¬ (0 : Int) < lease := by omega
      simp [untilB, timeB, this]
    rw [hu]
    clear hu
    go_enter Try.func33, Try.ntmps33
    go_wp2
    go_ret
    exact ⟨rfl, rfl⟩

theorem xplace_c (p : Nat) (id : Int) (r : Reg) (w : World) (F : List Chunk) (o : Own w (regX p r :: F)) :
    Calls Try.prog 37 #[.pointer (some ⟨p, 0, none⟩), .int .u64 id] w fun e w' => e = .returned (.int .i64 (idxI (fun x => x.id == id) r.l)) ∧ w' = w := by
  obtain ⟨lv, o2⟩ := regX_open o
  obtain ⟨a, cap, rfl, hm, hc⟩ := (sl_rd o2.swap).form
  have hl : r.l.length ≤ 9223372036854775807 := by simpa [maxLen] using hm
  have b0 := o2.cell (i := 0) (v := .slice a r.l.length cap) rfl
  have hp := o2.lt
  have o2H := hid o2
  clear o o2
  go_enter Try.func37, Try.ntmps37
  go_wp2_with fail
  go_loop [5] (fun i => ∃ k : Nat, i = .int .i64 k ∧ k ≤ r.l.length ∧ ∀ x ∈ r.l.take k, (x.id == id) = false) (fun i => r.l.length - (intOf i).toNat)
  case atStart => exact ⟨0, rfl, Nat.zero_le _, by simp⟩
  case round =>
    obtain ⟨k, rfl, hk, hno⟩ := hrel
    have hnoH := hid hno
    clear hno
    by_cases hlt : k < r.l.length
    · obtain ⟨x, hx⟩ : ∃ x, r.l[k]? = some x := ⟨_, List.getElem?_eq_getElem hlt⟩
      obtain ⟨g, cap', hv, hgl, _, hn, hcap, d0, d1, d2, _, _, _⟩ := sl_get (o2H.out.swap) hx
      simp only [Value.slice.injEq] at hv
      obtain ⟨rfl, _, rfl⟩ := hv
      have hxH := hid hx
      clear hx
      have hq : (x.id == id) = true ∨ (x.id == id) = false := by cases (x.id == id) <;> simp
      rcases hq with hq | hq
      · have hqH := hid hq
        go_wp2
        go_ret
        exact ⟨by rw [idxI_at hnoH.out hxH.out hqH.out]; rfl, rfl⟩
      · have hqH := hid hq
        go_wp2
        go_round
        case rel => exact ⟨k + 1, by go_num, by omega, take_no hnoH.out hxH.out hqH.out⟩
        case measure => simp [intOf]; omega
    · go_wp2
      go_ret
      refine ⟨?_, rfl⟩
      rw [idxI_none (fun y hy => hnoH.out y (by rw [List.take_of_length_le (by omega)]; exact hy))]
      rfl
end Go.Proofs.Ytkgflckfphecjaa
