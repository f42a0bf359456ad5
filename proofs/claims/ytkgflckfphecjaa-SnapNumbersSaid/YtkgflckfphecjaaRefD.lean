/- The document's column of leases: time, Short, Leases. -/
import Derived.Test.YtkgflckfphecjaaRefA
import Derived.Test.YtkgflckfphecjaaColA
import Derived.Deep.RegionHeld3
import Derived.Deep.QuietTactic
import Derived.BigQuiet
namespace Go.Proofs.Ytkgflckfphecjaa
open Go.RowKit Go.Sl Go.Scree

theorem xtime_c (n : Int) (w : World) : Calls Try.prog 53 #[.int .u64 n] w fun e w' => e = .returned (.bool (timeB n)) ∧ w' = w := by
  by_cases h1 : 1 ≤ n
  · have d1 : decide (1 ≤ n) = true := decide_eq_true h1
    have e : timeB n = decide (n ≤ 1099511627776) := by
      have : 0 < n := by omega
      simp [timeB, this]
    rw [e]
    go_enter Try.func53, Try.ntmps53
    go_wp2
    go_ret
    exact ⟨rfl, rfl⟩
  · have d1 : decide (1 ≤ n) = false := decide_eq_false h1
    have e : timeB n = false := by
      have : ¬ 0 < n := by omega
      simp [timeB, this]
    rw [e]
    go_enter Try.func53, Try.ntmps53
    go_wp2
    go_ret
    exact ⟨rfl, rfl⟩

set_option maxRecDepth 20000 in
set_option maxHeartbeats 1600000 in
theorem xshort_c (n : Nat) (hn : n < 18446744073709551616) (w : World) (F : List Chunk) (o : Own w F) :
    Calls Try.prog 54 #[.int .u64 n] w fun e w' => e = .returned (.string ⟨(shortB n).toArray⟩) ∧ Own w' F ∧ Ext w w' := by
  have oH := hid o
  have hnH := hid hn
  clear o hn
  obtain ⟨i0, hi0, hz0, hz1, hz2⟩ := info_parts infoU8
  go_enter Try.func54, Try.ntmps54
  go_wp2_with fail
  go_loopw [0, 3] (fun m b wr => ∃ (k : Nat) (l : List UInt8), m = .int .u64 k ∧ k ≤ n ∧ l ++ shortB k = shortB n ∧ Own wr (sl 5 byteE b l :: F) ∧ Ext w wr) (fun m _ wr => (intOf m).toNat)
  case atStart => exact ⟨n, [], rfl, Nat.le_refl _, rfl, sl_empty _ _ (oH.out.alloc _), (Ext.refl _).alloc _⟩
  case round =>
    obtain ⟨k, l, rfl, hk, hs, ok, ek⟩ := hrel
    obtain ⟨A1, n1, k1, rfl⟩ := sl_shape ok
    have okH := hid ok
    have hsH := hid hs
    have hl10 : l.length ≤ 10 := by have := shortB_le hnH.out; rw [← hs, List.length_append] at this; omega
    clear ok hs
    by_cases hlt : k < 128
    · have hd : decide ((127 : Int) < (k : Int)) = false := decide_eq_false (by omega)
      go_wp2_with (refine wpList_append_slc rfl _ _ _ rfl 5 i0 _ 1 1 Try.underlying83 hi0 hz0 hz1 hz2 rfl (by omega) _ _ _ rfl (Own.allocd okH.out) ⟨wr.heap.size, 0, none⟩ 1 1 [.int .u8 k] rfl rfl ?c1 ?c2 ?c3 ?c4 ?_)
      case c1 => exact cells_new wr _ _ _
      case c2 => simp [Value.oneCell']
      case c3 => unfold maxLen; omega
      case c4 => omega
      intro v3 w3 o3 e3 _
      have o4 := sl_of (E := byteE) (l ++ [UInt8.ofNat k]) o3 (by simp) (by simp [byteE, Enc.flat]; omega)
      go_wp2_with (refine wpList_bytes_str rfl _ _ _ _ rfl Try.underlying83 Try.underlying5 Try.underlying9 _ _ rfl (sl_rd o4) ?_)
      go_ret
      refine ⟨?_, o4.drop, (ek.alloc _).trans e3⟩
      rw [← hsH.out, shortB_low hlt]
      rfl
    · have hd : decide ((127 : Int) < (k : Int)) = true := decide_eq_true (by omega)
      have hwq : IntKind.u64.wrap ((k : Int) / 128) = (k : Int) / 128 := IntWalk.u64_in _ (by have := hnH.out; omega)
      go_wp2_with (refine wpList_append_slc rfl _ _ _ rfl 5 i0 _ 1 1 Try.underlying83 hi0 hz0 hz1 hz2 rfl (by omega) _ _ _ rfl (Own.allocd okH.out) ⟨wr.heap.size, 0, none⟩ 1 1 [.int .u8 ((k : Int) % 128 + 128)] rfl rfl ?c1 ?c2 ?c3 ?c4 ?_)
      case c1 => exact cells_new wr _ _ _
      case c2 => simp [Value.oneCell']
      case c3 => unfold maxLen; omega
      case c4 => omega
      intro v3 w3 o3 e3 _
      have o4 := sl_of (E := byteE) (l ++ [UInt8.ofNat (k % 128 + 128)]) o3 (by simp) (by simp [byteE, Enc.flat]; omega)
      obtain ⟨A4, n4, k4, rfl⟩ := sl_shape o4
      have o4H := hid o4
      clear o3 o4
      go_wp2
      go_roundw
      case rel => exact ⟨k / 128, _, by go_num, by omega, by rw [← hsH.out, shortB_high hlt]; simp, o4H.out, (ek.alloc _).trans e3⟩
      case measure => simp [intOf]; omega
theorem xshort_i (n : Int) (h : U64 n) (w : World) (F : List Chunk) (o : Own w F) :
    Calls Try.prog 54 #[.int .u64 n] w fun e w' => e = .returned (.string ⟨(shortB n.toNat).toArray⟩) ∧ Own w' F ∧ Ext w w' := by
  obtain ⟨h0, h1⟩ := h
  obtain ⟨m, rfl⟩ := Int.eq_ofNat_of_zero_le h0
  exact xshort_c m (by omega) w F o

set_option maxRecDepth 20000 in
set_option maxHeartbeats 6400000 in
theorem xleases_c {D : List Chunk} (v : Value) (l : List Lease) (hrd : Gives D fun w => Rd w leaseE v l) (hnn : ∀ x ∈ l, 0 ≤ x.until_) (w : World) (F : List Chunk) (o : Own w (D ++ F)) :
    Calls Try.prog 44 #[v] w fun e w' => LeasesSays l e ∧ Own w' (D ++ F) ∧ Ext w w' := by
  have hH := hid hrd
  obtain ⟨a, cap, rfl, hm, hc⟩ := (hrd w F o).form
  have hl : l.length ≤ 9223372036854775807 := by simpa [maxLen] using hm
  have oH := hid o
  have hnnH := hid hnn
  clear hrd o hnn
  go_enter Try.func44, Try.ntmps44
  go_wp2_with fail
  go_loopw [4, 5] (fun s i wr => ∃ k : Nat, i = .int .i64 k ∧ k ≤ 5 ∧ k ≤ l.length ∧ s = .string ⟨((l.take k).flatMap leaseB).toArray⟩ ∧ Own wr (D ++ F) ∧ Ext w wr ∧ ∀ j, j < k → leaseOk l j (l.getD j ⟨0, 0, 0⟩) = true) (fun _ i _ => l.length - (intOf i).toNat)
  case atStart => exact ⟨0, rfl, Nat.zero_le _, Nat.zero_le _, rfl, oH.out, Ext.refl _, fun j hj => by omega⟩
  case round =>
    obtain ⟨k, rfl, hk5, hk, rfl, ok, ek, hgood⟩ := hrel
    have okH := hid ok
    have hgoodH := hid hgood
    clear hgood
    by_cases hlt : k < l.length
    · obtain ⟨x, hx⟩ : ∃ x, l[k]? = some x := ⟨_, List.getElem?_eq_getElem hlt⟩
      have hr := hH.out wr F ok
      rcases hr with ⟨hn, hxs⟩ | ⟨g, off, cap', hv, h1, h2, hcell⟩
      · subst hxs; simp at hlt
      · obtain ⟨rfl, rfl⟩ : a = some ⟨g, off, none⟩ ∧ cap = cap' := by simpa using hv
        obtain ⟨c0, c1, c2⟩ := rd_lease hcell hx
        have hgl : g < wr.heap.size := World.block_lt_of_cell? wr _ c0
        have hxH := hid hx
        have hcellH := hid hcell
        clear hx ok hcell
        have hSL : ((l.take k).flatMap leaseB).length ≤ 1000 → Hid True := fun _ => hid trivial
        generalize hS : (l.take k).flatMap leaseB = SL at *
        have hSH := hid hS
        clear hS hSL
        have ht1 : timeB x.id = false ∨ timeB x.id = true := by cases timeB x.id <;> simp
        have ht2 : timeB x.time = false ∨ timeB x.time = true := by cases timeB x.time <;> simp
        have ht3 : decide ((1099511627776 : Int) < x.until_) = true ∨ decide ((1099511627776 : Int) < x.until_) = false := by cases decide ((1099511627776 : Int) < x.until_) <;> simp
        have h4 : (decide ((4 : Int) < (k : Int)) = true ∧ 4 < k) ∨ (decide ((4 : Int) < (k : Int)) = false ∧ ¬ 4 < k) := by
          by_cases h : 4 < k
          · exact .inl ⟨decide_eq_true (by omega), h⟩
          · exact .inr ⟨decide_eq_false (by omega), h⟩
        rcases h4 with ⟨h4, h4n⟩ | ⟨h4, h4n⟩
        · have hbad : Hid (leasesGood l = false) := hid (by simp [leasesGood]; intro h; omega)
          go_wp2_with fail
          go_quiet ((go_at_call 53; refine Calls.quiet_of_same (xtime_c _ _)))
          go_wp2
          go_ret2
          refine ⟨?_, (okH.out.allocd).drewN _, (ek.alloc _).drewN _⟩
          unfold LeasesSays
          rw [if_neg (by rw [hbad.out]; simp), if_neg (by rw [hbad.out]; simp)]
          rfl
        rcases ht1 with ht1 | ht1
        · have hbad : Hid (leaseOk l k x = false) := hid (by simp [leaseOk, ht1])
          go_wp2_with fail
          go_quiet ((go_at_call 53; refine Calls.quiet_of_same (xtime_c _ _)))
          go_wp2
          go_ret2
          refine ⟨LeasesSays.bad hlt hxH.out hbad.out, (okH.out.allocd).drewN _, (ek.alloc _).drewN _⟩
        rcases ht2 with ht2 | ht2
        · have hbad : Hid (leaseOk l k x = false) := hid (by simp [leaseOk, ht2])
          go_wp2_with fail
          go_quiet ((go_at_call 53; refine Calls.quiet_of_same (xtime_c _ _)))
          go_wp2
          go_ret2
          refine ⟨LeasesSays.bad hlt hxH.out hbad.out, (okH.out.allocd).drewN _, (ek.alloc _).drewN _⟩
        rcases ht3 with ht3 | ht3
        · have hbad : Hid (leaseOk l k x = false) := hid (by have : ¬ x.until_ ≤ 1099511627776 := by simpa using ht3
                                                             simp [leaseOk, this])
          go_wp2_with fail
          go_quiet ((go_at_call 53; refine Calls.quiet_of_same (xtime_c _ _)))
          go_wp2
          go_ret2
          refine ⟨LeasesSays.bad hlt hxH.out hbad.out, (okH.out.allocd).drewN _, (ek.alloc _).drewN _⟩
        by_cases hk0 : k = 0
        · have hkd : decide (0 < k) = false := by simp; omega
          have hok : Hid (leaseOk l k x = true) := hid (by have : x.until_ ≤ 1099511627776 := by simpa using ht3
                                                           simp [leaseOk, ht1, ht2, this, hk0])
          clear hk0
          go_wp2_with fail
          go_quiet ((go_at_call 53; refine Calls.quiet_of_same (xtime_c _ _)))
          have o9 := (okH.out.alloc (.cells #[.int .u64 x.id, .int .u64 x.time, .int .u64 x.until_] 70)).drewN nq
          have e9 := (ek.alloc (.cells #[.int .u64 x.id, .int .u64 x.time, .int .u64 x.until_] 70)).drewN nq
          go_wp2_with fail
          generalize ((wr.alloc (.cells #[.int .u64 x.id, .int .u64 x.time, .int .u64 x.until_] 70)).drewN nq) = wq at *
          have b0 := o9.cell (i := 0) (v := .int .u64 x.id) rfl
          have b1 := o9.cell (i := 1) (v := .int .u64 x.time) rfl
          have b2 := o9.cell (i := 2) (v := .int .u64 x.until_) rfl
          have s0 : SL.length ≤ 1000 := by rw [← hSH.out]; exact leasesB_len hnnH.out (fun j hj => hgoodH.out j hj) (by omega) (by omega)
          have u1 := leaseOk_u64 (hnnH.out x (List.mem_of_getElem? hxH.out)) hok.out
          obtain ⟨u1, u2, u3⟩ := u1
          have s1 := shortB_le' u1
          have s2 := shortB_le' u2
          have s3 := shortB_le' u3
          have q1 : ¬ 9223372036854775807 < (shortB x.id.toNat).length + (shortB x.time.toNat).length := by omega
          have q2 : ¬ 9223372036854775807 < (shortB x.id.toNat).length + (shortB x.time.toNat).length + (shortB x.until_.toNat).length := by omega
          have q3 : ¬ 9223372036854775807 < SL.length + ((shortB x.id.toNat).length + (shortB x.time.toNat).length + (shortB x.until_.toNat).length) := by omega
          have o9d := o9.drew
          clear o9
          go_region_held3 (fun W => W.cell? ⟨wr.heap.size, 0, none⟩ = some (.int .u64 x.id) ∧ W.cell? ⟨wr.heap.size, 1, none⟩ = some (.int .u64 x.time) ∧ W.cell? ⟨wr.heap.size, 2, none⟩ = some (.int .u64 x.until_)) (first | exact ⟨b0, b1, b2⟩ | exact ⟨by assumption, by assumption, by assumption⟩) (first | (go_at_call 54; refine (xshort_i _ (by assumption) _ _ (by assumption)).mono ?_; rintro e w1 ⟨rfl, o1, e1⟩; have d0 := Own.cell (i := 0) (v := .int .u64 x.id) o1 rfl; have d1 := Own.cell (i := 1) (v := .int .u64 x.time) o1 rfl; have d2 := Own.cell (i := 2) (v := .int .u64 x.until_) o1 rfl))
          go_wp2
          go_roundw
          case rel => exact ⟨k + 1, by go_num, by omega, by omega, by rw [leaseB_snoc hxH.out, hSH.out]; simp only [ByteArray.mk_append_mk, leaseB], Own.drop (by assumption), ((e9.drew.trans (by assumption)).trans (by assumption)).trans (by assumption), leaseOk_snoc hgoodH.out hxH.out hok.out⟩
          case measure => simp [intOf]; omega
        · have hkd : decide (0 < k) = true := by simp; omega
          have hw : IntKind.i64.wrap ((k : Int) - 1) = (k : Int) - 1 := IntWalk.i64_in _ (by omega)
          have hw0 : (0 : Int) ≤ (k : Int) - 1 := by omega
          have hw1 : (k : Int) - 1 < (l.length : Int) := by omega
          have hwn : ((k : Int) - 1).toNat = k - 1 := by omega
          obtain ⟨y, hy⟩ : ∃ y, l[k - 1]? = some y := ⟨_, List.getElem?_eq_getElem (by omega)⟩
          obtain ⟨p0, _, _⟩ := rd_lease hcellH.out hy
          have hyH := hid hy
          clear hy
          have ht4 : decide (x.id ≤ y.id) = true ∨ decide (x.id ≤ y.id) = false := by cases decide (x.id ≤ y.id) <;> simp
          rcases ht4 with ht4 | ht4
          · have hbad : Hid (leaseOk l k x = false) := hid (by
              have h4 : ¬ y.id < x.id := by have : x.id ≤ y.id := by simpa using ht4
                                            omega
              simp [leaseOk, List.getD, hyH.out, h4, hk0])
            go_wp2_with fail
            go_quiet ((go_at_call 53; refine Calls.quiet_of_same (xtime_c _ _)))
            go_wp2
            go_ret2
            refine ⟨LeasesSays.bad hlt hxH.out hbad.out, (okH.out.allocd).drewN _, (ek.alloc _).drewN _⟩
          · have hok : Hid (leaseOk l k x = true) := hid (by
              have h4 : y.id < x.id := by have : ¬ x.id ≤ y.id := by simpa using ht4
                                          omega
              have : x.until_ ≤ 1099511627776 := by simpa using ht3
              simp [leaseOk, List.getD, hyH.out, h4, ht1, ht2, this])
            clear hk0
            go_wp2_with fail
            go_quiet ((go_at_call 53; refine Calls.quiet_of_same (xtime_c _ _)))
            have o9 := (okH.out.alloc (.cells #[.int .u64 x.id, .int .u64 x.time, .int .u64 x.until_] 70)).drewN nq
            have e9 := (ek.alloc (.cells #[.int .u64 x.id, .int .u64 x.time, .int .u64 x.until_] 70)).drewN nq
            go_wp2_with fail
            generalize ((wr.alloc (.cells #[.int .u64 x.id, .int .u64 x.time, .int .u64 x.until_] 70)).drewN nq) = wq at *
            have b0 := o9.cell (i := 0) (v := .int .u64 x.id) rfl
            have b1 := o9.cell (i := 1) (v := .int .u64 x.time) rfl
            have b2 := o9.cell (i := 2) (v := .int .u64 x.until_) rfl
            have s0 : SL.length ≤ 1000 := by rw [← hSH.out]; exact leasesB_len hnnH.out (fun j hj => hgoodH.out j hj) (by omega) (by omega)
            have u1 := leaseOk_u64 (hnnH.out x (List.mem_of_getElem? hxH.out)) hok.out
            obtain ⟨u1, u2, u3⟩ := u1
            have s1 := shortB_le' u1
            have s2 := shortB_le' u2
            have s3 := shortB_le' u3
            have q1 : ¬ 9223372036854775807 < (shortB x.id.toNat).length + (shortB x.time.toNat).length := by omega
            have q2 : ¬ 9223372036854775807 < (shortB x.id.toNat).length + (shortB x.time.toNat).length + (shortB x.until_.toNat).length := by omega
            have q3 : ¬ 9223372036854775807 < SL.length + ((shortB x.id.toNat).length + (shortB x.time.toNat).length + (shortB x.until_.toNat).length) := by omega
            have o9d := o9.drew
            clear o9
            go_region_held3 (fun W => W.cell? ⟨wr.heap.size, 0, none⟩ = some (.int .u64 x.id) ∧ W.cell? ⟨wr.heap.size, 1, none⟩ = some (.int .u64 x.time) ∧ W.cell? ⟨wr.heap.size, 2, none⟩ = some (.int .u64 x.until_)) (first | exact ⟨b0, b1, b2⟩ | exact ⟨by assumption, by assumption, by assumption⟩) (first | (go_at_call 54; refine (xshort_i _ (by assumption) _ _ (by assumption)).mono ?_; rintro e w1 ⟨rfl, o1, e1⟩; have d0 := Own.cell (i := 0) (v := .int .u64 x.id) o1 rfl; have d1 := Own.cell (i := 1) (v := .int .u64 x.time) o1 rfl; have d2 := Own.cell (i := 2) (v := .int .u64 x.until_) o1 rfl))
            go_wp2
            go_roundw
            case rel => exact ⟨k + 1, by go_num, by omega, by omega, by rw [leaseB_snoc hxH.out, hSH.out]; simp only [ByteArray.mk_append_mk, leaseB], Own.drop (by assumption), ((e9.drew.trans (by assumption)).trans (by assumption)).trans (by assumption), leaseOk_snoc hgoodH.out hxH.out hok.out⟩
            case measure => simp [intOf]; omega
    · have hg : leasesGood l = true := leasesGood_yes (by omega) (fun j hj => hgoodH.out j (by omega))
      have hgH := hid hg
      obtain rfl : k = l.length := by omega
      rw [List.take_length]
      clear hg
      generalize hS : l.flatMap leaseB = SL at *
      have hSH := hid hS
      clear hS ok
      go_wp2
      go_ret2
      refine ⟨?_, okH.out, ek⟩
      unfold LeasesSays
      rw [if_pos hgH.out, if_pos hgH.out, hSH.out]
      rfl
end Go.Proofs.Ytkgflckfphecjaa
