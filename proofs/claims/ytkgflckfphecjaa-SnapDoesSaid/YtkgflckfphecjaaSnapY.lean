/- SnapDoes: the walk of the law. -/
import Derived.Test.YtkgflckfphecjaaSnapS
import Derived.Test.YtkgflckfphecjaaSnapO
import Derived.Test.YtkgflckfphecjaaSnapX
import Derived.Test.YtkgflckfphecjaaSnapK
import Derived.Test.YtkgflckfphecjaaSnapH
import Derived.Test.YtkgflckfphecjaaSnapI
import Derived.Test.YtkgflckfphecjaaRefB
import Derived.Test.YtkgflckfphecjaaRefC
import Derived.Test.YtkgflckfphecjaaRefH
import Derived.Deep.RegionHeld3
namespace Go.Proofs.Ytkgflckfphecjaa
open Go.RowKit Go.Sl Go.Scree


set_option maxRecDepth 20000 in
set_option maxHeartbeats 12800000 in
theorem snapDoes_walk (v : Value) (acts : List SAct) (t1 t2 : Int) (w : World) (hrd : Rd w actE v acts) (hnn : ∀ x ∈ acts, 0 ≤ x.now) :
    Calls Try.prog 3 #[v, .int .u64 t1, .int .u64 t2] w fun e w' => e = .returned (.bool true) ∧ Below w.heap.size w w' := by
  have hH := hid (rd_base hrd)
  obtain ⟨a, cap, rfl, hm, hcap⟩ := hrd.form
  have hl : acts.length ≤ 9223372036854775807 := by simpa [maxLen] using hm
  have o0 := Own.start w
  have hnnH := hid hnn
  clear hrd hnn
  go_enter Try.func3, Try.ntmps3
  go_wp2_with fail
  refine (awake_c _ _ o0).mono ?_
  rintro e w1 ⟨rfl, o1, e1⟩
  go_wp2_with fail
  refine (new_c _ _ o1).mono ?_
  rintro e w2 ⟨p, rfl, o2, e2⟩
  go_wp2_with fail
  refine (xnew_c _ _ o2).mono ?_
  rintro e w3 ⟨px, rfl, o3, e3⟩
  have o3H := hid o3.swap
  clear o0 o1 o2 o3
  go_wp2_with fail
  go_loopw [7, 9] (fun pv i wr => ∃ (k : Nat) (r : Reg) (q : Nat), pv = .pointer (some ⟨q, 0, none⟩) ∧ i = .int .i64 k ∧ k ≤ acts.length ∧ r.Full ∧ Own wr (regC q r :: regX px r :: [base w w.heap.size]) ∧ Ext w wr) (fun _ i wr => acts.length - (intOf i).toNat)
  case atStart => exact ⟨0, Reg.new, p, rfl, rfl, Nat.zero_le _, Reg.Full.new, o3H.out, (e1.trans e2).trans e3⟩
  case round =>
    obtain ⟨k, r, q, rfl, rfl, hk, hI, ok, ek⟩ := hrel
    have okH := hid ok
    have hIH := hid hI
    clear hI
    by_cases hlt : k < acts.length
    · have hb1 : decide (k < acts.length) = true := decide_eq_true hlt
      by_cases h60 : k < 60
      · have hb2 : decide (k < 60) = true := decide_eq_true h60
        obtain ⟨x, hx⟩ : ∃ x, acts[k]? = some x := ⟨_, List.getElem?_eq_getElem hlt⟩
        have hx0 := hnnH.out x (List.mem_of_getElem? hx)
        rcases hH.out wr _ (Own.pick 2 ok) with ⟨_, hxs⟩ | ⟨g, off, cap', hv, h1, h2, hcell⟩
        · rw [hxs] at hx; simp at hx
        obtain ⟨rfl, rfl⟩ : a = some ⟨g, off, none⟩ ∧ cap = cap' := by simpa using hv
        obtain ⟨c0, c1, c2, c3⟩ := rd_act hcell hx
        have hgl : g < wr.heap.size := World.block_lt_of_cell? wr _ c0
        clear hx ok hcell
        have hn0 := hIH.out.ok.n0
        have hn1 := hIH.out.ok.n1
        have hlen := hIH.out.ok.len
        have ob := Own.pick 2 (Own.pick 2 (okH.out.alloc (.cells #[.int .i64 x.kind, .int .u64 x.t, .int .u64 x.lease, .int .u64 x.now] 30)))
        have ebx := ek.alloc (.cells #[.int .i64 x.kind, .int .u64 x.t, .int .u64 x.lease, .int .u64 x.now] 30)
        have hz : wr.heap.size < (wr.alloc (.cells #[.int .i64 x.kind, .int .u64 x.t, .int .u64 x.lease, .int .u64 x.now] 30)).heap.size := by simp
        by_cases k0 : x.kind = 0
        · skip
          have hb0 : (x.kind == 0) = true := by simpa using k0
          clear k0
          have hOq := hid (hIH.out.register x.t x.lease x.now hx0)
          go_wp2_with fail
          refine Calls.mono (register_c q x.t x.lease x.now r hx0 (by omega) hn1 (by omega) _ _ ob) ?_
          rintro e w4 ⟨rfl, o4, e4⟩
          have m1 := (Own.pick 2 o4).cell (i := 1) (v := .int .u64 x.t) rfl
          have m2 := (Own.pick 2 o4).cell (i := 2) (v := .int .u64 x.lease) rfl
          have m3 := (Own.pick 2 o4).cell (i := 3) (v := .int .u64 x.now) rfl
          have mz : wr.heap.size < w4.heap.size := (Own.pick 2 o4).lt
          have o4H := hid o4
          clear o4 ob
          go_wp2_with fail
          refine Calls.mono (xregister_c px x.t x.lease x.now r hx0 (by omega) hn1 hlen _ _ (Own.pick 1 o4H.out)) ?_
          rintro e w5 ⟨rfl, o5, e5⟩
          have ot := o5.swap
          have et := (ebx.trans e4).trans e5
          clear o5 m1 m2 m3
          skip
          have hq1 : (r.register x.t x.lease x.now).1.l.length ≤ 1000 := by have := hOq.out.ok.len; omega
          have hact := (Own.pick 2 ot).cell (i := 1) (v := .int .u64 x.t) rfl
          go_wp2_with fail
          refine Calls.mono (same_c q px t1 t2 (r.register x.t x.lease x.now).1 hq1 _ _ ot) ?_
          rintro e ws ⟨rfl, os, es⟩
          have s1 := (Own.pick 2 os).cell (i := 1) (v := .int .u64 x.t) rfl
          have s3 := (Own.pick 2 os).cell (i := 3) (v := .int .u64 x.now) rfl
          go_wp2_with fail
          refine Calls.mono (same_c q px x.t x.now (r.register x.t x.lease x.now).1 hq1 _ _ os) ?_
          rintro e wz ⟨rfl, oz, ez⟩
          have ozH := hid (Own.pick 2 oz).drop
          clear ot os oz
          go_wp2
          go_roundw
          case rel => exact ⟨k + 1, (r.register x.t x.lease x.now).1, q, rfl, by go_num, by omega, hOq.out, ozH.out, (et.trans es).trans ez⟩
          case measure => simp [intOf]; omega
        by_cases k1 : x.kind = 1
        · skip
          have hb0 : (x.kind == 0) = false := by simpa using k0
          have hb1 : (x.kind == 1) = true := by simpa using k1
          clear k0 k1
          have hOq := hid (hIH.out.renew x.t x.lease x.now hx0)
          have obd := ob.drew
          have obdH := hid obd
          have m1 := (Own.pick 2 ob).cell (i := 1) (v := .int .u64 x.t) rfl
          have m2 := (Own.pick 2 ob).cell (i := 2) (v := .int .u64 x.lease) rfl
          have m3 := (Own.pick 2 ob).cell (i := 3) (v := .int .u64 x.now) rfl
          have ebd := ebx.drew
          clear ob obd
          go_wp2_with fail
          go_region_held3 (fun W => W.cell? ⟨wr.heap.size, 1, none⟩ = some (.int .u64 x.t) ∧ W.cell? ⟨wr.heap.size, 2, none⟩ = some (.int .u64 x.lease) ∧ W.cell? ⟨wr.heap.size, 3, none⟩ = some (.int .u64 x.now)) (first | exact ⟨m1, m2, m3⟩ | exact ⟨by assumption, by assumption, by assumption⟩) (first
            | (go_at_call 15; refine Calls.mono (renew_c q x.t x.lease x.now r hx0 _ _ obdH.out) ?_; rintro e w4 ⟨rfl, o4, e4⟩; have n1 := Own.cell (i := 1) (v := .int .u64 x.t) (Own.pick 2 o4) rfl; have n2 := Own.cell (i := 2) (v := .int .u64 x.lease) (Own.pick 2 o4) rfl; have n3 := Own.cell (i := 3) (v := .int .u64 x.now) (Own.pick 2 o4) rfl)
            | (go_at_call 16; refine Calls.mono (xrenew_c px x.t x.lease x.now r hx0 _ _ (Own.pick 1 o4)) ?_; rintro e w5 ⟨rfl, o5, e5⟩; have u1 := Own.cell (i := 1) (v := .int .u64 x.t) (Own.pick 2 o5) rfl; have u2 := Own.cell (i := 2) (v := .int .u64 x.lease) (Own.pick 2 o5) rfl; have u3 := Own.cell (i := 3) (v := .int .u64 x.now) (Own.pick 2 o5) rfl))
          have ot := o5.swap
          have et := (ebd.trans e4).trans e5
          clear o4 o5
          skip
          have hq1 : (r.renew x.t x.lease x.now).1.l.length ≤ 1000 := by have := hOq.out.ok.len; omega
          have hact := (Own.pick 2 ot).cell (i := 1) (v := .int .u64 x.t) rfl
          go_wp2_with fail
          refine Calls.mono (same_c q px t1 t2 (r.renew x.t x.lease x.now).1 hq1 _ _ ot) ?_
          rintro e ws ⟨rfl, os, es⟩
          have s1 := (Own.pick 2 os).cell (i := 1) (v := .int .u64 x.t) rfl
          have s3 := (Own.pick 2 os).cell (i := 3) (v := .int .u64 x.now) rfl
          go_wp2_with fail
          refine Calls.mono (same_c q px x.t x.now (r.renew x.t x.lease x.now).1 hq1 _ _ os) ?_
          rintro e wz ⟨rfl, oz, ez⟩
          have ozH := hid (Own.pick 2 oz).drop
          clear ot os oz
          go_wp2
          go_roundw
          case rel => exact ⟨k + 1, (r.renew x.t x.lease x.now).1, q, rfl, by go_num, by omega, hOq.out, ozH.out, (et.trans es).trans ez⟩
          case measure => simp [intOf]; omega
        by_cases k2 : x.kind = 2
        · skip
          have hb0 : (x.kind == 0) = false := by simpa using k0
          have hb1 : (x.kind == 1) = false := by simpa using k1
          have hb2 : (x.kind == 2) = true := by simpa using k2
          clear k0 k1 k2
          have hOq := hid (hIH.out.release x.t)
          have obd := ob.drew
          have obdH := hid obd
          have m1 := (Own.pick 2 ob).cell (i := 1) (v := .int .u64 x.t) rfl
          have m2 := (Own.pick 2 ob).cell (i := 2) (v := .int .u64 x.lease) rfl
          have m3 := (Own.pick 2 ob).cell (i := 3) (v := .int .u64 x.now) rfl
          have ebd := ebx.drew
          clear ob obd
          go_wp2_with fail
          go_region_held3 (fun W => W.cell? ⟨wr.heap.size, 1, none⟩ = some (.int .u64 x.t) ∧ W.cell? ⟨wr.heap.size, 2, none⟩ = some (.int .u64 x.lease) ∧ W.cell? ⟨wr.heap.size, 3, none⟩ = some (.int .u64 x.now)) (first | exact ⟨m1, m2, m3⟩ | exact ⟨by assumption, by assumption, by assumption⟩) (first
            | (go_at_call 17; refine Calls.mono (release_c q x.t r (by omega) _ _ obdH.out) ?_; rintro e w4 ⟨rfl, o4, e4⟩; have n1 := Own.cell (i := 1) (v := .int .u64 x.t) (Own.pick 2 o4) rfl; have n2 := Own.cell (i := 2) (v := .int .u64 x.lease) (Own.pick 2 o4) rfl; have n3 := Own.cell (i := 3) (v := .int .u64 x.now) (Own.pick 2 o4) rfl)
            | (go_at_call 18; refine Calls.mono (xrelease_c px x.t r (by omega) _ _ (Own.pick 1 o4)) ?_; rintro e w5 ⟨rfl, o5, e5⟩; have u1 := Own.cell (i := 1) (v := .int .u64 x.t) (Own.pick 2 o5) rfl; have u2 := Own.cell (i := 2) (v := .int .u64 x.lease) (Own.pick 2 o5) rfl; have u3 := Own.cell (i := 3) (v := .int .u64 x.now) (Own.pick 2 o5) rfl))
          have ot := o5.swap
          have et := (ebd.trans e4).trans e5
          clear o4 o5
          skip
          have hq1 : (r.release x.t).1.l.length ≤ 1000 := by have := hOq.out.ok.len; omega
          have hact := (Own.pick 2 ot).cell (i := 1) (v := .int .u64 x.t) rfl
          go_wp2_with fail
          refine Calls.mono (same_c q px t1 t2 (r.release x.t).1 hq1 _ _ ot) ?_
          rintro e ws ⟨rfl, os, es⟩
          have s1 := (Own.pick 2 os).cell (i := 1) (v := .int .u64 x.t) rfl
          have s3 := (Own.pick 2 os).cell (i := 3) (v := .int .u64 x.now) rfl
          go_wp2_with fail
          refine Calls.mono (same_c q px x.t x.now (r.release x.t).1 hq1 _ _ os) ?_
          rintro e wz ⟨rfl, oz, ez⟩
          have ozH := hid (Own.pick 2 oz).drop
          clear ot os oz
          go_wp2
          go_roundw
          case rel => exact ⟨k + 1, (r.release x.t).1, q, rfl, by go_num, by omega, hOq.out, ozH.out, (et.trans es).trans ez⟩
          case measure => simp [intOf]; omega
        by_cases k3 : x.kind = 3
        · skip
          have hb0 : (x.kind == 0) = false := by simpa using k0
          have hb1 : (x.kind == 1) = false := by simpa using k1
          have hb2 : (x.kind == 2) = false := by simpa using k2
          have hb3 : (x.kind == 3) = true := by simpa using k3
          clear k0 k1 k2 k3
          have hOq := hid (hIH.out.advance x.t x.now)
          have obd := ob.drew
          have obdH := hid obd
          have m1 := (Own.pick 2 ob).cell (i := 1) (v := .int .u64 x.t) rfl
          have m2 := (Own.pick 2 ob).cell (i := 2) (v := .int .u64 x.lease) rfl
          have m3 := (Own.pick 2 ob).cell (i := 3) (v := .int .u64 x.now) rfl
          have ebd := ebx.drew
          clear ob obd
          go_wp2_with fail
          go_region_held3 (fun W => W.cell? ⟨wr.heap.size, 1, none⟩ = some (.int .u64 x.t) ∧ W.cell? ⟨wr.heap.size, 2, none⟩ = some (.int .u64 x.lease) ∧ W.cell? ⟨wr.heap.size, 3, none⟩ = some (.int .u64 x.now)) (first | exact ⟨m1, m2, m3⟩ | exact ⟨by assumption, by assumption, by assumption⟩) (first
            | (go_at_call 19; refine Calls.mono (advance_c q x.t x.now r (by omega) _ _ obdH.out) ?_; rintro e w4 ⟨rfl, o4, e4⟩; have n1 := Own.cell (i := 1) (v := .int .u64 x.t) (Own.pick 2 o4) rfl; have n2 := Own.cell (i := 2) (v := .int .u64 x.lease) (Own.pick 2 o4) rfl; have n3 := Own.cell (i := 3) (v := .int .u64 x.now) (Own.pick 2 o4) rfl)
            | (go_at_call 20; refine Calls.mono (xadvance_c px x.t x.now r (by omega) _ _ (Own.pick 1 o4)) ?_; rintro e w5 ⟨rfl, o5, e5⟩; have u1 := Own.cell (i := 1) (v := .int .u64 x.t) (Own.pick 2 o5) rfl; have u2 := Own.cell (i := 2) (v := .int .u64 x.lease) (Own.pick 2 o5) rfl; have u3 := Own.cell (i := 3) (v := .int .u64 x.now) (Own.pick 2 o5) rfl))
          have ot := o5.swap
          have et := (ebd.trans e4).trans e5
          clear o4 o5
          skip
          have hq1 : (r.advance x.t x.now).l.length ≤ 1000 := by have := hOq.out.ok.len; omega
          have hact := (Own.pick 2 ot).cell (i := 1) (v := .int .u64 x.t) rfl
          go_wp2_with fail
          refine Calls.mono (same_c q px t1 t2 (r.advance x.t x.now) hq1 _ _ ot) ?_
          rintro e ws ⟨rfl, os, es⟩
          have s1 := (Own.pick 2 os).cell (i := 1) (v := .int .u64 x.t) rfl
          have s3 := (Own.pick 2 os).cell (i := 3) (v := .int .u64 x.now) rfl
          go_wp2_with fail
          refine Calls.mono (same_c q px x.t x.now (r.advance x.t x.now) hq1 _ _ os) ?_
          rintro e wz ⟨rfl, oz, ez⟩
          have ozH := hid (Own.pick 2 oz).drop
          clear ot os oz
          go_wp2
          go_roundw
          case rel => exact ⟨k + 1, (r.advance x.t x.now), q, rfl, by go_num, by omega, hOq.out, ozH.out, (et.trans es).trans ez⟩
          case measure => simp [intOf]; omega
        by_cases k4 : x.kind = 4
        · skip
          have hb0 : (x.kind == 0) = false := by simpa using k0
          have hb1 : (x.kind == 1) = false := by simpa using k1
          have hb2 : (x.kind == 2) = false := by simpa using k2
          have hb3 : (x.kind == 3) = false := by simpa using k3
          have hb4 : (x.kind == 4) = true := by simpa using k4
          clear k0 k1 k2 k3 k4
          have hOq := hIH
          go_wp2_with fail
          refine Calls.mono (state_c q r (by omega) _ _ ob) ?_
          rintro e w4 ⟨v4, rfl, o4, e4⟩
          obtain ⟨A4, n4, c4, rfl⟩ := sl_shape o4
          have o4H := hid o4
          clear o4 ob
          go_wp2_with fail
          refine Calls.mono (load_yes (D := [sl 54 leaseE (.slice A4 n4 c4) r.l]) _ r.l r.safe r.next (fun w F o => sl_rd o) hIH.out.nn hIH.out.good w4 _ o4H.out) ?_
          rintro e w5 ⟨p5, rfl, o5, e5⟩
          have o6 := (Own.pick 1 o5).drop
          have ot := (Own.pick 1 o6).drop
          have et := (ebx.trans e4).trans e5
          clear o5 o6
          skip
          have hq1 : r.l.length ≤ 1000 := by have := hOq.out.ok.len; omega
          have hact := (Own.pick 2 ot).cell (i := 1) (v := .int .u64 x.t) rfl
          go_wp2_with fail
          refine Calls.mono (same_c p5 px t1 t2 r hq1 _ _ ot) ?_
          rintro e ws ⟨rfl, os, es⟩
          have s1 := (Own.pick 2 os).cell (i := 1) (v := .int .u64 x.t) rfl
          have s3 := (Own.pick 2 os).cell (i := 3) (v := .int .u64 x.now) rfl
          go_wp2_with fail
          refine Calls.mono (same_c p5 px x.t x.now r hq1 _ _ os) ?_
          rintro e wz ⟨rfl, oz, ez⟩
          have ozH := hid (Own.pick 2 oz).drop
          clear ot os oz
          go_wp2
          go_roundw
          case rel => exact ⟨k + 1, r, p5, rfl, by go_num, by omega, hOq.out, ozH.out, (et.trans es).trans ez⟩
          case measure => simp [intOf]; omega
        · skip
          have hb0 : (x.kind == 0) = false := by simpa using k0
          have hb1 : (x.kind == 1) = false := by simpa using k1
          have hb2 : (x.kind == 2) = false := by simpa using k2
          have hb3 : (x.kind == 3) = false := by simpa using k3
          have hb4 : (x.kind == 4) = false := by simpa using k4
          clear k0 k1 k2 k3 k4
          have hOq := hIH
          have ot := ob
          have et := ebx
          clear ob
          skip
          have hq1 : r.l.length ≤ 1000 := by have := hOq.out.ok.len; omega
          have hact := (Own.pick 2 ot).cell (i := 1) (v := .int .u64 x.t) rfl
          go_wp2_with fail
          refine Calls.mono (same_c q px t1 t2 r hq1 _ _ ot) ?_
          rintro e ws ⟨rfl, os, es⟩
          have s1 := (Own.pick 2 os).cell (i := 1) (v := .int .u64 x.t) rfl
          have s3 := (Own.pick 2 os).cell (i := 3) (v := .int .u64 x.now) rfl
          go_wp2_with fail
          refine Calls.mono (same_c q px x.t x.now r hq1 _ _ os) ?_
          rintro e wz ⟨rfl, oz, ez⟩
          have ozH := hid (Own.pick 2 oz).drop
          clear ot os oz
          go_wp2
          go_roundw
          case rel => exact ⟨k + 1, r, q, rfl, by go_num, by omega, hOq.out, ozH.out, (et.trans es).trans ez⟩
          case measure => simp [intOf]; omega
      · have hb2 : decide (k < 60) = false := decide_eq_false h60
        have o9H := okH
        clear ok
        go_wp2
        go_ret
        exact ⟨rfl, below_of_own (Own.pick 2 o9H.out) ek⟩
    · have hb1 : decide (k < acts.length) = false := decide_eq_false hlt
      clear ok
      go_wp2
      go_ret
      exact ⟨rfl, below_of_own (Own.pick 2 okH.out) ek⟩
theorem snapDoes_row (v : Value) (acts : List SAct) (t1 t2 : Int) (w : World) (hrd : Rd w actE v acts) (hp : ∀ x ∈ acts, x.Wf) (_ : (Lit.int .u64 t1).wf = true) (_ : (Lit.int .u64 t2).wf = true) :
    Calls Try.prog 3 #[v, .int .u64 t1, .int .u64 t2] w fun e w' => e = .returned (.bool true) ∧ Below w.heap.size w w' := snapDoes_walk v acts t1 t2 w hrd (acts_nn hp)
end Go.Proofs.Ytkgflckfphecjaa
