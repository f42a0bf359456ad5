/- A registry of leases: New, Live, State, Register, Release. -/
import Derived.Test.YtkgflckfphecjaaSnapF
namespace Go.Proofs.Ytkgflckfphecjaa
open Go.RowKit Go.Sl Go.Scree

theorem min_two (ats : Array TypeId) (ty : TypeId) (k k' : IntKind) (x y : Int) : Builtin.min_ ats ty #[.int k x, .int k' y] = pure (.int k (min x y)) := by
  simp only [Builtin.min_, List.foldlM_cons, List.foldlM_nil, Builtin.min2]
  by_cases h : y < x
  · rw [if_pos h, Int.min_eq_right (by omega)]; rfl
  · rw [if_neg h, Int.min_eq_left (by omega)]; rfl
theorem max_two (ats : Array TypeId) (ty : TypeId) (k k' : IntKind) (x y : Int) : Builtin.max_ ats ty #[.int k x, .int k' y] = pure (.int k (max x y)) := by
  simp only [Builtin.max_, List.foldlM_cons, List.foldlM_nil, Builtin.max2, gt_iff_lt]
  by_cases h : x < y
  · rw [if_pos h, Int.max_eq_right (by omega)]; rfl
  · rw [if_neg h, Int.max_eq_left (by omega)]; rfl

theorem new_c (w : World) (F : List Chunk) (o : Own w F) :
    Calls Try.prog 11 #[] w fun e w' => ∃ p, e = .returned (.pointer (some ⟨p, 0, none⟩)) ∧ Own w' (regC p Reg.new :: F) ∧ Ext w w' := by
  go_enter Try.func11, Try.ntmps11
  go_wp2
  go_ret
  refine ⟨_, rfl, ?_, (Ext.refl _).alloc _⟩
  exact regC_close (r := Reg.new) (sl_nil _ _ (o.alloc _)).swap

theorem live_c (now : Int) (p : Nat) (r : Reg) (hlen : r.l.length ≤ 1000) (w : World) (F : List Chunk) (o : Own w (regC p r :: F)) :
    Calls Try.prog 27 #[.pointer (some ⟨p, 0, none⟩), .int .u64 now] w fun e w' => ∃ v', e = .returned v' ∧ Own w' (sl 54 leaseE v' (r.l.filter (livesB now)) :: regC p r :: F) ∧ Ext w w' := by
  have oH := hid o
  clear o
  go_enter Try.func27, Try.ntmps27
  go_wp2_with fail
  refine (leases_c _ now _ (lives_tells now) p r hlen _ F oH.out).mono ?_
  rintro e w1 ⟨v', rfl, o1, e1⟩
  obtain ⟨A1, n1, c1, rfl⟩ := sl_shape o1
  go_wp2
  go_ret
  exact ⟨_, rfl, o1, e1⟩

theorem state_c (p : Nat) (r : Reg) (hlen : r.l.length ≤ 1000) (w : World) (F : List Chunk) (o : Own w (regC p r :: F)) :
    Calls Try.prog 21 #[.pointer (some ⟨p, 0, none⟩)] w fun e w' => ∃ v', e = .returned (.tuple #[v', .int .u64 r.safe, .int .u64 r.next]) ∧ Own w' (sl 54 leaseE v' r.l :: regC p r :: F) ∧ Ext w w' := by
  have hc := leases_c _ 0 _ (all_tells 0) p r hlen _ F o.drew
  rw [List.filter_eq_self.2 (fun _ _ => rfl)] at hc
  obtain ⟨lv, o2⟩ := regC_open o
  have c1 := o2.cell (i := 1) (v := .int .u64 r.safe) rfl
  have c2 := o2.cell (i := 2) (v := .int .u64 r.next) rfl
  have hp := o2.lt
  have hcH := hid hc
  clear hc o o2
  go_enter Try.func21, Try.ntmps21
  go_wp2_with fail
  go_region_held3 (fun W => W.cell? ⟨p, 1, none⟩ = some (.int .u64 r.safe) ∧ W.cell? ⟨p, 2, none⟩ = some (.int .u64 r.next)) (first | exact ⟨c1, c2⟩ | exact ⟨by assumption, by assumption⟩) (first | (go_at_call 39; refine hcH.out.mono ?_; rintro e w1 ⟨v', rfl, o1, e1⟩; obtain ⟨A1, n1, k1, rfl⟩ := sl_shape o1; obtain ⟨lv1, o3⟩ := regC_open o1.swap; have d1 := o3.cell (i := 1) (v := .int .u64 r.safe) rfl; have d2 := o3.cell (i := 2) (v := .int .u64 r.next) rfl))
  go_wp2
  go_ret3
  exact ⟨.slice _ _ _, rfl, by assumption, ((Ext.refl _).drew).trans (by assumption)⟩

theorem release_c (p : Nat) (id : Int) (r : Reg) (hlen : r.l.length ≤ 1000) (w : World) (F : List Chunk) (o : Own w (regC p r :: F)) :
    Calls Try.prog 17 #[.pointer (some ⟨p, 0, none⟩), .int .u64 id] w fun e w' => e = .returned (.int .i64 (r.release id).2) ∧ Own w' (regC p (r.release id).1 :: F) ∧ Ext w w' := by
  have hf := find_c p id r w F o
  clear o
  cases hfd : r.find id with
  | none =>
    rw [find_none hfd] at hf
    have hR : r.release id = (r, 10) := by simp [Reg.release, hfd]
    rw [hR]
    have hfH := hid hf
    clear hf hfd hR
    go_enter Try.func17, Try.ntmps17
    go_wp2_with fail
    refine hfH.out.mono ?_
    rintro e w1 ⟨rfl, o1, e1⟩
    go_wp2
    go_ret
    exact ⟨rfl, o1, e1⟩
  | some k =>
    obtain ⟨hi, x, hx, _⟩ := find_some hfd
    rw [hi] at hf
    have hk := (List.getElem?_eq_some_iff.1 hx).1
    have hR : r.release id = ({ r with l := r.l.eraseIdx k }, 0) := by simp [Reg.release, hfd]
    rw [hR]
    have hfH := hid hf
    have hkl : k < 9223372036854775807 := by omega
    clear hf hfd hR hx hi
    go_enter Try.func17, Try.ntmps17
    go_wp2_with fail
    refine hfH.out.mono ?_
    rintro e w1 ⟨rfl, o1, e1⟩
    obtain ⟨lv, o2⟩ := regC_open o1
    have c0 := o2.cell (i := 0) (v := lv) rfl
    have hp := o2.lt
    have o2H := hid o2.swap
    clear o1 o2
    go_wp2_with fail
    refine (delete_c k lv r.l hk w1 o2H.out).mono ?_
    rintro e w2 ⟨v', rfl, o3, e3⟩
    obtain ⟨A1, n1, k1, rfl⟩ := sl_shape o3
    have d0 := o3.swap.cell (i := 0) (v := lv) rfl
    have f0 := o3.swap.free 0
    have o3H := hid o3.swap
    clear o3
    go_wp2
    go_ret
    exact ⟨rfl, regC_close (lv := .slice A1 n1 k1) (o3H.out.set (i := 0) (.slice A1 n1 k1)), (e1.trans e3).set _ _⟩

theorem least_snoc (m : Int) {l : List Lease} {k : Nat} {x : Lease} (hx : l[k]? = some x) : least m (l.take (k + 1)) = min (least m (l.take k)) x.time := by
  obtain ⟨hk, rfl⟩ := List.getElem?_eq_some_iff.1 hx
  rw [List.take_succ_eq_append_getElem hk]
  simp only [least, List.foldl_append, List.foldl_cons, List.foldl_nil]

attribute [local go_sem high] min_two max_two

set_option maxHeartbeats 1600000 in
theorem advance_c (p : Nat) (want now : Int) (r : Reg) (hlen : r.l.length ≤ 1000) (w : World) (F : List Chunk) (o : Own w (regC p r :: F)) :
    Calls Try.prog 19 #[.pointer (some ⟨p, 0, none⟩), .int .u64 want, .int .u64 now] w fun e w' => e = .returned (.int .u64 (r.advance want now).safe) ∧ Own w' (regC p (r.advance want now) :: F) ∧ Ext w w' := by
  have hd := drop_c p now r w F o
  have hlen2 : (r.drop now).l.length ≤ 1000 := Nat.le_trans (List.length_filter_le _ _) hlen
  have hR : r.advance want now = { r.drop now with safe := max (r.drop now).safe (least (min want 1099511627776) (r.drop now).l) } := rfl
  rw [hR]
  generalize r.drop now = q at *
  have hdH := hid hd
  clear hd hR o
  go_enter Try.func19, Try.ntmps19
  go_wp2_with fail
  refine hdH.out.mono ?_
  rintro e w1 ⟨rfl, o1, e1⟩
  obtain ⟨lv, o2⟩ := regC_open o1
  have c0 := o2.cell (i := 0) (v := lv) rfl
  have hp := o2.lt
  obtain ⟨a, cap, rfl, hm, hc⟩ := (sl_rd o2.swap).form
  have o2H := hid o2
  clear o1 o2
  go_wp2_with fail
  go_loopw [1, 19] (fun m i wr => ∃ k : Nat, i = .int .i64 k ∧ k ≤ q.l.length ∧ m = .int .u64 (least (min want 1099511627776) (q.l.take k)) ∧ Own wr (pts p (.cells #[.slice a q.l.length cap, .int .u64 q.safe, .int .u64 q.next] 62 (0, 0)) :: sl 67 leaseE (.slice a q.l.length cap) q.l :: F) ∧ Ext w wr) (fun _ i wr => q.l.length - (intOf i).toNat)
  case atStart => exact ⟨0, rfl, Nat.zero_le _, rfl, o2H.out, e1⟩
  case round =>
    obtain ⟨k, rfl, hk, rfl, ok, ek⟩ := hrel
    have okH := hid ok
    by_cases hlt : k < q.l.length
    · obtain ⟨x, hx⟩ : ∃ x, q.l[k]? = some x := ⟨_, List.getElem?_eq_getElem hlt⟩
      obtain ⟨g, cap', hv, hgl, _, hn, hcap, d0, d1, d2, _, _, _⟩ := sl_get ok.swap hx
      simp only [Value.slice.injEq] at hv
      obtain ⟨rfl, _, rfl⟩ := hv
      have hls : Hid (least (min want 1099511627776) (q.l.take (k + 1)) = min (least (min want 1099511627776) (q.l.take k)) x.time) := hid (least_snoc _ hx)
      generalize least (min want 1099511627776) (q.l.take k) = m at *
      clear ok hx
      go_wp2
      go_roundw
      case rel => exact ⟨k + 1, by go_num, by omega, by rw [hls.out], okH.out.allocd, ek.alloc _⟩
      case measure => simp [intOf]; omega
    · obtain rfl : k = q.l.length := by omega
      have c0 := ok.cell (i := 0) (v := .slice a q.l.length cap) rfl
      have c1 := ok.cell (i := 1) (v := .int .u64 q.safe) rfl
      have f1 := ok.free 1
      have hp := ok.lt
      rw [List.take_length]
      generalize hmm : least (min want 1099511627776) q.l = m at *
      have hmH := hid hmm
      clear ok hmm
      go_wp2
      go_ret
      have hmm := hmH.out
      subst hmm
      exact ⟨rfl, regC_close (r := { q with safe := max q.safe _ }) (okH.out.set (i := 1) (.int .u64 (max q.safe _))), ek.set _ _⟩
end Go.Proofs.Ytkgflckfphecjaa
