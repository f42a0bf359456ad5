/- The walk of col.Leases. -/
import Derived.Test.YtkgflckfphecjaaSnapC
import Derived.Test.YtkgflckfphecjaaNumA
import Derived.Deep.RegionHeld3
import Derived.Deep.QuietTactic
import Derived.BigQuiet
namespace Go.Proofs.Ytkgflckfphecjaa
open Go.RowKit Go.Sl Go.Scree

theorem colTime_c (n : Int) (w : World) : Calls Try.prog 51 #[.int .u64 n] w fun e w' => e = .returned (.bool (timeB n)) ∧ w' = w := by
  have hd : decide (0 < n) = true ∨ decide (0 < n) = false := by cases decide (0 < n) <;> simp
  rcases hd with hd | hd
  all_goals
    go_enter Try.func51, Try.ntmps51
    go_wp2
    go_ret
    exact ⟨by simp [timeB, hd], rfl⟩

def leaseB (x : Lease) : List UInt8 := shortB x.id.toNat ++ shortB x.time.toNat ++ shortB x.until_.toNat
/-- May a lease stand behind these? -/
def leaseOk (l : List Lease) (k : Nat) (x : Lease) : Bool := timeB x.id && (timeB x.time && (decide (x.until_ ≤ 1099511627776) && (k == 0 || decide ((l.getD (k - 1) ⟨0, 0, 0⟩).id < x.id))))
def leasesGood (l : List Lease) : Bool := decide (l.length ≤ 5) && (List.range l.length).all (fun k => leaseOk l k (l.getD k ⟨0, 0, 0⟩))
def LeasesSays (l : List Lease) (e : Ending) : Prop :=
  e = .returned (.tuple #[.string ⟨(if leasesGood l = true then l.flatMap leaseB else []).toArray⟩, .int .i64 (if leasesGood l = true then 0 else 2)])

theorem leasesGood_bad {l : List Lease} {k : Nat} {x : Lease} (hk : k < l.length) (hx : l[k]? = some x) (h : leaseOk l k x = false) : leasesGood l = false := by
  have : (List.range l.length).all (fun k => leaseOk l k (l.getD k ⟨0, 0, 0⟩)) = false := by
    rw [List.all_eq_false]
    exact ⟨k, List.mem_range.2 hk, by simp [List.getD, hx, h]⟩
  simp only [leasesGood, this, Bool.and_false]
theorem LeasesSays.bad {l : List Lease} {k : Nat} {x : Lease} (hk : k < l.length) (hx : l[k]? = some x) (h : leaseOk l k x = false) : LeasesSays l (.returned (.tuple #[.string ⟨#[]⟩, .int .i64 2])) := by
  unfold LeasesSays
  rw [leasesGood_bad hk hx h]
  rfl

theorem leaseOk_u64 {l : List Lease} {k : Nat} {x : Lease} (hn : 0 ≤ x.until_) (h : leaseOk l k x = true) : U64 x.id ∧ U64 x.time ∧ U64 x.until_ := by
  simp only [leaseOk, timeB, Bool.and_eq_true, decide_eq_true_eq] at h
  unfold U64
  omega

theorem shortB_le' {n : Int} (h : U64 n) : (shortB n.toNat).length ≤ 10 := shortB_le (by unfold U64 at h; omega)
theorem leasesB_len {l : List Lease} (hn : ∀ x ∈ l, 0 ≤ x.until_) : ∀ {k : Nat}, (∀ j, j < k → leaseOk l j (l.getD j ⟨0, 0, 0⟩) = true) → k ≤ 5 → k ≤ l.length → ((l.take k).flatMap leaseB).length ≤ 1000 := by
  have : ∀ k, (∀ j, j < k → leaseOk l j (l.getD j ⟨0, 0, 0⟩) = true) → k ≤ l.length → ((l.take k).flatMap leaseB).length ≤ 30 * k := by
    intro k
    induction k with
    | zero => intro _ _; simp
    | succ k ih =>
      intro h hk
      have h1 := ih (fun j hj => h j (by omega)) (by omega)
      have hlt : k < l.length := hk
      rw [List.take_succ_eq_append_getElem hlt, List.flatMap_append, List.length_append]
      have h2 := h k (by omega)
      have e : l.getD k ⟨0, 0, 0⟩ = l[k] := by simp [List.getD, hlt]
      rw [e] at h2
      obtain ⟨u1, u2, u3⟩ := leaseOk_u64 (hn _ (List.getElem_mem hlt)) h2
      have := shortB_le' u1
      have := shortB_le' u2
      have := shortB_le' u3
      simp only [List.flatMap_cons, List.flatMap_nil, List.append_nil, leaseB, List.length_append]
      omega
  intro k h h5 hk
  have := this k h hk
  omega

theorem leaseB_snoc {l : List Lease} {k : Nat} {x : Lease} (hx : l[k]? = some x) : (l.take (k + 1)).flatMap leaseB = (l.take k).flatMap leaseB ++ leaseB x := by
  obtain ⟨hk, rfl⟩ := List.getElem?_eq_some_iff.1 hx
  rw [List.take_succ_eq_append_getElem hk, List.flatMap_append]; simp
theorem leaseOk_snoc {l : List Lease} {k : Nat} {x : Lease} (h : ∀ j, j < k → leaseOk l j (l.getD j ⟨0, 0, 0⟩) = true) (hx : l[k]? = some x) (hk : leaseOk l k x = true) : ∀ j, j < k + 1 → leaseOk l j (l.getD j ⟨0, 0, 0⟩) = true := by
  intro j hj
  rcases Nat.lt_or_ge j k with h' | h'
  · exact h j h'
  · obtain rfl : j = k := by omega
    have e : l.getD j ⟨0, 0, 0⟩ = x := by simp [List.getD, hx]
    rw [e]; exact hk
theorem leasesGood_yes {l : List Lease} (h5 : l.length ≤ 5) (h : ∀ j, j < l.length → leaseOk l j (l.getD j ⟨0, 0, 0⟩) = true) : leasesGood l = true := by
  simp only [leasesGood, Bool.and_eq_true, decide_eq_true_eq, List.all_eq_true, List.mem_range]
  exact ⟨h5, h⟩

set_option maxRecDepth 20000 in
set_option maxHeartbeats 6400000 in
theorem colLeases_c {D : List Chunk} (v : Value) (l : List Lease) (hrd : Gives D fun w => Rd w leaseE v l) (hnn : ∀ x ∈ l, 0 ≤ x.until_) (w : World) (F : List Chunk) (o : Own w (D ++ F)) :
    Calls Try.prog 41 #[v] w fun e w' => LeasesSays l e ∧ Own w' (D ++ F) ∧ Ext w w' := by
  have hH := hid hrd
  obtain ⟨a, cap, rfl, hm, hc⟩ := (hrd w F o).form
  have hl : l.length ≤ 9223372036854775807 := by simpa [maxLen] using hm
  have oH := hid o
  have hnnH := hid hnn
  clear hrd o hnn
  by_cases h5 : 5 < l.length
  · have hbad : Hid (leasesGood l = false) := hid (by simp [leasesGood]; intro h; omega)
    have h5i : (5 : Int) < (l.length : Int) := by omega
    go_enter Try.func41, Try.ntmps41
    go_wp2
    go_ret2
    refine ⟨?_, oH.out, Ext.refl _⟩
    unfold LeasesSays
    rw [if_neg (by rw [hbad.out]; simp), if_neg (by rw [hbad.out]; simp)]
    rfl
  · have h5i : ¬ (5 : Int) < (l.length : Int) := by omega
    go_enter Try.func41, Try.ntmps41
    go_wp2_with fail
    go_loopw [4, 12] (fun s i wr => ∃ k : Nat, i = .int .i64 k ∧ k ≤ l.length ∧ s = .string ⟨((l.take k).flatMap leaseB).toArray⟩ ∧ Own wr (D ++ F) ∧ Ext w wr ∧ ∀ j, j < k → leaseOk l j (l.getD j ⟨0, 0, 0⟩) = true) (fun _ i _ => l.length - (intOf i).toNat)
    case atStart => exact ⟨0, rfl, Nat.zero_le _, rfl, oH.out, Ext.refl _, fun j hj => by omega⟩
    case round =>
      obtain ⟨k, rfl, hk, rfl, ok, ek, hgood⟩ := hrel
      have okH := hid ok
      have hgoodH := hid hgood
      clear hgood
      by_cases hlt : k < l.length
      · obtain ⟨x, hx⟩ : ∃ x, l[k]? = some x := ⟨_, List.getElem?_eq_getElem hlt⟩
        have hr := hH.out wr F ok
        rcases hr with ⟨hn, hxs⟩ | ⟨g, off, cap', hv, h1, h2, hcell⟩
        · subst hxs; simp at hlt
        · obtain ⟨rfl, rfl⟩ : a = some ⟨g, off, none⟩ ∧ cap = cap' := by simpa using hv
          obtain ⟨c0, c1, c2⟩ := rd_lease hcell hx
          have hgl : g < wr.heap.size := World.block_lt_of_cell? wr _ c0
          have hxH := hid hx
          have hcellH := hid hcell
          clear hx ok hcell
          have hSL : ((l.take k).flatMap leaseB).length ≤ 1000 → Hid True := fun _ => hid trivial
          generalize hS : (l.take k).flatMap leaseB = SL at *
          have hSH := hid hS
          clear hS hSL
          have ht1 : timeB x.id = false ∨ timeB x.id = true := by cases timeB x.id <;> simp
          have ht2 : timeB x.time = false ∨ timeB x.time = true := by cases timeB x.time <;> simp
          have ht3 : decide ((1099511627776 : Int) < x.until_) = true ∨ decide ((1099511627776 : Int) < x.until_) = false := by cases decide ((1099511627776 : Int) < x.until_) <;> simp
          rcases ht1 with ht1 | ht1
          · have hbad : Hid (leaseOk l k x = false) := hid (by simp [leaseOk, ht1])
            go_wp2_with fail
            go_quiet ((go_at_call 51; refine Calls.quiet_of_same (colTime_c _ _)))
            go_wp2
            go_ret2
            refine ⟨LeasesSays.bad hlt hxH.out hbad.out, (okH.out.allocd).drewN _, (ek.alloc _).drewN _⟩
          rcases ht2 with ht2 | ht2
          · have hbad : Hid (leaseOk l k x = false) := hid (by simp [leaseOk, ht2])
            go_wp2_with fail
            go_quiet ((go_at_call 51; refine Calls.quiet_of_same (colTime_c _ _)))
            go_wp2
            go_ret2
            refine ⟨LeasesSays.bad hlt hxH.out hbad.out, (okH.out.allocd).drewN _, (ek.alloc _).drewN _⟩
          rcases ht3 with ht3 | ht3
          · have hbad : Hid (leaseOk l k x = false) := hid (by have : ¬ x.until_ ≤ 1099511627776 := by simpa using ht3
                                                               simp [leaseOk, this])
            go_wp2_with fail
            go_quiet ((go_at_call 51; refine Calls.quiet_of_same (colTime_c _ _)))
            go_wp2
            go_ret2
            refine ⟨LeasesSays.bad hlt hxH.out hbad.out, (okH.out.allocd).drewN _, (ek.alloc _).drewN _⟩
          by_cases hk0 : k = 0
          · have hkd : decide (0 < k) = false := by simp; omega
            have hok : Hid (leaseOk l k x = true) := hid (by have : x.until_ ≤ 1099511627776 := by simpa using ht3
                                                             simp [leaseOk, ht1, ht2, this, hk0])
            clear hk0
            go_wp2_with fail
            go_quiet ((go_at_call 51; refine Calls.quiet_of_same (colTime_c _ _)))
            have o9 := (okH.out.alloc (.cells #[.int .u64 x.id, .int .u64 x.time, .int .u64 x.until_] 54)).drewN nq
            have e9 := (ek.alloc (.cells #[.int .u64 x.id, .int .u64 x.time, .int .u64 x.until_] 54)).drewN nq
            go_wp2_with fail
            generalize ((wr.alloc (.cells #[.int .u64 x.id, .int .u64 x.time, .int .u64 x.until_] 54)).drewN nq) = wq at *
            have b0 := o9.cell (i := 0) (v := .int .u64 x.id) rfl
            have b1 := o9.cell (i := 1) (v := .int .u64 x.time) rfl
            have b2 := o9.cell (i := 2) (v := .int .u64 x.until_) rfl
            have s0 : SL.length ≤ 1000 := by rw [← hSH.out]; exact leasesB_len hnnH.out (fun j hj => hgoodH.out j hj) (by omega) (by omega)
            have u1 := leaseOk_u64 (hnnH.out x (List.mem_of_getElem? hxH.out)) hok.out
            obtain ⟨u1, u2, u3⟩ := u1
            have s1 := shortB_le' u1
            have s2 := shortB_le' u2
            have s3 := shortB_le' u3
            have q1 : ¬ 9223372036854775807 < (shortB x.id.toNat).length + (shortB x.time.toNat).length := by omega
            have q2 : ¬ 9223372036854775807 < (shortB x.id.toNat).length + (shortB x.time.toNat).length + (shortB x.until_.toNat).length := by omega
            have q3 : ¬ 9223372036854775807 < SL.length + ((shortB x.id.toNat).length + (shortB x.time.toNat).length + (shortB x.until_.toNat).length) := by omega
            have o9d := o9.drew
            clear o9
            go_region_held3 (fun W => W.cell? ⟨wr.heap.size, 0, none⟩ = some (.int .u64 x.id) ∧ W.cell? ⟨wr.heap.size, 1, none⟩ = some (.int .u64 x.time) ∧ W.cell? ⟨wr.heap.size, 2, none⟩ = some (.int .u64 x.until_)) (first | exact ⟨b0, b1, b2⟩ | exact ⟨by assumption, by assumption, by assumption⟩) (first | (go_at_call 52; refine (short_i _ (by assumption) _ _ (by assumption)).mono ?_; rintro e w1 ⟨rfl, o1, e1⟩; have d0 := Own.cell (i := 0) (v := .int .u64 x.id) o1 rfl; have d1 := Own.cell (i := 1) (v := .int .u64 x.time) o1 rfl; have d2 := Own.cell (i := 2) (v := .int .u64 x.until_) o1 rfl))
            go_wp2
            go_roundw
            case rel => exact ⟨k + 1, by go_num, by omega, by rw [leaseB_snoc hxH.out, hSH.out]; simp only [ByteArray.mk_append_mk, leaseB], Own.drop (by assumption), ((e9.drew.trans (by assumption)).trans (by assumption)).trans (by assumption), leaseOk_snoc hgoodH.out hxH.out hok.out⟩
            case measure => simp [intOf]; omega
          · have hkd : decide (0 < k) = true := by simp; omega
            have hw : IntKind.i64.wrap ((k : Int) - 1) = (k : Int) - 1 := IntWalk.i64_in _ (by omega)
            have hw0 : (0 : Int) ≤ (k : Int) - 1 := by omega
            have hw1 : (k : Int) - 1 < (l.length : Int) := by omega
            have hwn : ((k : Int) - 1).toNat = k - 1 := by omega
            obtain ⟨y, hy⟩ : ∃ y, l[k - 1]? = some y := ⟨_, List.getElem?_eq_getElem (by omega)⟩
            obtain ⟨p0, _, _⟩ := rd_lease hcellH.out hy
            have hyH := hid hy
            clear hy
            have ht4 : decide (x.id ≤ y.id) = true ∨ decide (x.id ≤ y.id) = false := by cases decide (x.id ≤ y.id) <;> simp
            rcases ht4 with ht4 | ht4
            · have hbad : Hid (leaseOk l k x = false) := hid (by
                have h4 : ¬ y.id < x.id := by have : x.id ≤ y.id := by simpa using ht4
                                              omega
                simp [leaseOk, List.getD, hyH.out, h4, hk0])
              go_wp2_with fail
              go_quiet ((go_at_call 51; refine Calls.quiet_of_same (colTime_c _ _)))
              go_wp2
              go_ret2
              refine ⟨LeasesSays.bad hlt hxH.out hbad.out, (okH.out.allocd).drewN _, (ek.alloc _).drewN _⟩
            · have hok : Hid (leaseOk l k x = true) := hid (by
                have h4 : y.id < x.id := by have : ¬ x.id ≤ y.id := by simpa using ht4
                                            omega
                have : x.until_ ≤ 1099511627776 := by simpa using ht3
                simp [leaseOk, List.getD, hyH.out, h4, ht1, ht2, this])
              clear hk0
              go_wp2_with fail
              go_quiet ((go_at_call 51; refine Calls.quiet_of_same (colTime_c _ _)))
              have o9 := (okH.out.alloc (.cells #[.int .u64 x.id, .int .u64 x.time, .int .u64 x.until_] 54)).drewN nq
              have e9 := (ek.alloc (.cells #[.int .u64 x.id, .int .u64 x.time, .int .u64 x.until_] 54)).drewN nq
              go_wp2_with fail
              generalize ((wr.alloc (.cells #[.int .u64 x.id, .int .u64 x.time, .int .u64 x.until_] 54)).drewN nq) = wq at *
              have b0 := o9.cell (i := 0) (v := .int .u64 x.id) rfl
              have b1 := o9.cell (i := 1) (v := .int .u64 x.time) rfl
              have b2 := o9.cell (i := 2) (v := .int .u64 x.until_) rfl
              have s0 : SL.length ≤ 1000 := by rw [← hSH.out]; exact leasesB_len hnnH.out (fun j hj => hgoodH.out j hj) (by omega) (by omega)
              have u1 := leaseOk_u64 (hnnH.out x (List.mem_of_getElem? hxH.out)) hok.out
              obtain ⟨u1, u2, u3⟩ := u1
              have s1 := shortB_le' u1
              have s2 := shortB_le' u2
              have s3 := shortB_le' u3
              have q1 : ¬ 9223372036854775807 < (shortB x.id.toNat).length + (shortB x.time.toNat).length := by omega
              have q2 : ¬ 9223372036854775807 < (shortB x.id.toNat).length + (shortB x.time.toNat).length + (shortB x.until_.toNat).length := by omega
              have q3 : ¬ 9223372036854775807 < SL.length + ((shortB x.id.toNat).length + (shortB x.time.toNat).length + (shortB x.until_.toNat).length) := by omega
              have o9d := o9.drew
              clear o9
              go_region_held3 (fun W => W.cell? ⟨wr.heap.size, 0, none⟩ = some (.int .u64 x.id) ∧ W.cell? ⟨wr.heap.size, 1, none⟩ = some (.int .u64 x.time) ∧ W.cell? ⟨wr.heap.size, 2, none⟩ = some (.int .u64 x.until_)) (first | exact ⟨b0, b1, b2⟩ | exact ⟨by assumption, by assumption, by assumption⟩) (first | (go_at_call 52; refine (short_i _ (by assumption) _ _ (by assumption)).mono ?_; rintro e w1 ⟨rfl, o1, e1⟩; have d0 := Own.cell (i := 0) (v := .int .u64 x.id) o1 rfl; have d1 := Own.cell (i := 1) (v := .int .u64 x.time) o1 rfl; have d2 := Own.cell (i := 2) (v := .int .u64 x.until_) o1 rfl))
              go_wp2
              go_roundw
              case rel => exact ⟨k + 1, by go_num, by omega, by rw [leaseB_snoc hxH.out, hSH.out]; simp only [ByteArray.mk_append_mk, leaseB], Own.drop (by assumption), ((e9.drew.trans (by assumption)).trans (by assumption)).trans (by assumption), leaseOk_snoc hgoodH.out hxH.out hok.out⟩
              case measure => simp [intOf]; omega
      · have hg : leasesGood l = true := leasesGood_yes (by omega) (fun j hj => hgoodH.out j (by omega))
        have hgH := hid hg
        obtain rfl : k = l.length := by omega
        rw [List.take_length]
        clear hg
        generalize hS : l.flatMap leaseB = SL at *
        have hSH := hid hS
        clear hS ok
        go_wp2
        go_ret2
        refine ⟨?_, okH.out, ek⟩
        unfold LeasesSays
        rw [if_pos hgH.out, if_pos hgH.out, hSH.out]
        rfl
end Go.Proofs.Ytkgflckfphecjaa
