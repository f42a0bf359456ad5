/- A registry of leases: leases, Live, State. -/
import Derived.Test.YtkgflckfphecjaaSnapC
import Derived.Deep.RegionHeld3
namespace Go.Proofs.Ytkgflckfphecjaa
open Go.RowKit Go.Sl Go.Scree

/-- A function value of a lease and a clock. -/
def Tells2 (fid : Nat) (now : Int) (p : Lease → Bool) : Prop :=
  (∀ args w, (callFunc fid args).run Try.prog w = .ok (.enter fid args) w) ∧
  ∀ (x : Lease) (w : World) (F : List Chunk), Own w F → Calls Try.prog fid #[.agg #[.int .u64 x.id, .int .u64 x.time, .int .u64 x.until_], .int .u64 now] w fun e w' => e = .returned (.bool (p x)) ∧ Own w' F ∧ Ext w w'
theorem lives_tells (now : Int) : Tells2 36 now (livesB now) := ⟨fun _ _ => by rfl, fun x w F o => lives_c x.id x.time x.until_ now w F o⟩
theorem all_tells (now : Int) : Tells2 40 now (fun _ => true) := ⟨fun _ _ => by rfl, fun x w F o => state1_c x.id x.time x.until_ now w F o⟩
theorem infoLease : (Try.prog.info? 54).map (fun i => (i.zero, i.size, i.bytes)) = some (some (.agg #[(.int .u64 0), (.int .u64 0), (.int .u64 0)]), 3, 24) := by kernel_rfl

theorem filter_take_no {q : Lease → Bool} {l : List Lease} {k : Nat} {x : Lease} (hx : l[k]? = some x) (h : q x = false) : (l.take (k + 1)).filter q = (l.take k).filter q := by
  obtain ⟨hk, rfl⟩ := List.getElem?_eq_some_iff.1 hx
  rw [List.take_succ_eq_append_getElem hk, List.filter_append]; simp [h]
theorem filter_take_yes {q : Lease → Bool} {l : List Lease} {k : Nat} {x : Lease} (hx : l[k]? = some x) (h : q x = true) : (l.take (k + 1)).filter q = (l.take k).filter q ++ [x] := by
  obtain ⟨hk, rfl⟩ := List.getElem?_eq_some_iff.1 hx
  rw [List.take_succ_eq_append_getElem hk, List.filter_append]; simp [h]

set_option maxHeartbeats 1600000 in
theorem leases_c (fid : Nat) (now : Int) (q : Lease → Bool) (hq : Tells2 fid now q) (p : Nat) (r : Reg) (hlen : r.l.length ≤ 1000) (w : World) (F : List Chunk) (o : Own w (regC p r :: F)) :
    Calls Try.prog 39 #[.pointer (some ⟨p, 0, none⟩), .func (.func fid) #[] #[], .int .u64 now] w fun e w' => ∃ v', e = .returned v' ∧ Own w' (sl 54 leaseE v' (r.l.filter q) :: regC p r :: F) ∧ Ext w w' := by
  obtain ⟨lv, o2⟩ := regC_open o
  have c0 := o2.cell (i := 0) (v := lv) rfl
  have hp := o2.lt
  have o2H := hid o2
  obtain ⟨a, cap, rfl, hm, hc⟩ := (sl_rd o2.swap).form
  clear o o2
  have hfid := hq.1
  have hqH := hid hq.2
  clear hq
  obtain ⟨i0, hi0, hz0, hz1, hz2⟩ := info_parts infoLease
  go_enter Try.func39, Try.ntmps39
  go_wp2_with fail
  go_loopw [7, 15] (fun out i wr => ∃ k : Nat, i = .int .i64 k ∧ k ≤ r.l.length ∧ Own wr (sl 54 leaseE out ((r.l.take k).filter q) :: pts p (.cells #[.slice a r.l.length cap, .int .u64 r.safe, .int .u64 r.next] 62 (0, 0)) :: sl 67 leaseE (.slice a r.l.length cap) r.l :: F) ∧ Ext w wr) (fun _ i wr => r.l.length - (intOf i).toNat)
  case atStart => exact ⟨0, rfl, Nat.zero_le _, sl_nil _ _ o2H.out, Ext.refl _⟩
  case round =>
    obtain ⟨k, rfl, hk, ok, ek⟩ := hrel
    obtain ⟨A1, n1, k1, rfl⟩ := sl_shape ok
    have okH := hid ok
    by_cases hlt : k < r.l.length
    · obtain ⟨x, hx⟩ : ∃ x, r.l[k]? = some x := ⟨_, List.getElem?_eq_getElem hlt⟩
      obtain ⟨g, cap', hv, hgl, _, hn, hcap, d0, d1, d2, _, _, _⟩ := sl_get (ok.pick 2) hx
      simp only [Value.slice.injEq] at hv
      obtain ⟨rfl, _, rfl⟩ := hv
      have hxH := hid hx
      have hqx : q x = true ∨ q x = false := by cases q x <;> simp
      clear ok hx
      go_wp2_with fail
      have oc := okH.out.alloc (.cells #[.int .u64 x.id, .int .u64 x.time, .int .u64 x.until_] 67)
      refine (hqH.out x _ _ oc).mono ?_
      rintro e w2 ⟨rfl, o2, e2⟩
      have b0 := o2.cell (i := 0) (v := .int .u64 x.id) rfl
      have b1 := o2.cell (i := 1) (v := .int .u64 x.time) rfl
      have b2 := o2.cell (i := 2) (v := .int .u64 x.until_) rfl
      have hz : wr.heap.size < w2.heap.size := o2.lt
      have o3H := hid o2.drop
      clear o2 oc d0 d1 d2
      rcases hqx with hqx | hqx
      · have hl2 : ((r.l.take k).filter q).length ≤ 1000 := Nat.le_trans (List.length_filter_le _ _) (by simp; omega)
        go_wp2_with (refine wpList_append_slc rfl _ _ _ rfl 54 i0 _ 3 24 Try.underlying37 hi0 hz0 hz1 hz2 rfl (by omega) _ _ _ rfl (Own.allocd o3H.out) ⟨w2.heap.size, 0, none⟩ 1 1 [.int .u64 x.id, .int .u64 x.time, .int .u64 x.until_] rfl rfl ?c1 ?c2 ?c3 ?c4 ?_)
        case c1 => exact cells_new w2 _ _ _
        case c2 => simp [Value.oneCell']
        case c3 => unfold maxLen; omega
        case c4 => omega
        intro v3 w3 o3 e3 _
        obtain ⟨A3, n3, k3, rfl⟩ := sl_shape (T := 54) (E := leaseE) (xs := (r.l.take k).filter q ++ [x]) (by simpa [sl, leaseE, Enc.flat] using o3)
        have o4H := hid o3
        clear o3
        go_wp2
        go_roundw
        case rel => exact ⟨k + 1, by go_num, by omega, by rw [filter_take_yes hxH.out hqx]; simpa [sl, leaseE, Enc.flat] using o4H.out, (ek.trans (((Ext.refl _).alloc _).trans e2)).trans (((Ext.refl _).alloc _).trans e3)⟩
        case measure => simp [intOf]; omega
      · go_wp2
        go_roundw
        case rel => exact ⟨k + 1, by go_num, by omega, by rw [filter_take_no hxH.out hqx]; exact o3H.out, ek.trans (((Ext.refl _).alloc _).trans e2)⟩
        case measure => simp [intOf]; omega
    · go_wp2
      go_ret
      refine ⟨_, rfl, ?_, ek⟩
      have := okH.out
      rw [List.take_of_length_le (by omega)] at this
      exact (regC_close (this.pick 1 |>.pick 2 |>.swap)).swap
end Go.Proofs.Ytkgflckfphecjaa
