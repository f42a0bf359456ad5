/- SnapAdvances: the walk of the law. -/
import Derived.Test.YtkgflckfphecjaaSnapS
import Derived.Test.YtkgflckfphecjaaSnapQ
import Derived.Test.YtkgflckfphecjaaSnapO
namespace Go.Proofs.Ytkgflckfphecjaa
open Go.RowKit Go.Sl Go.Scree

attribute [local go_sem high] min_two max_two


set_option maxRecDepth 20000 in
set_option maxHeartbeats 6400000 in
theorem snapAdvances_walk (v : Value) (acts : List SAct) (want now : Int) (w : World) (hrd : Rd w actE v acts) (hnn : ∀ x ∈ acts, 0 ≤ x.now) :
    Calls Try.prog 7 #[v, .int .u64 want, .int .u64 now] w fun e w' => e = .returned (.bool true) ∧ Below w.heap.size w w' := by
  have hH := hid (rd_base hrd)
  obtain ⟨a, cap, rfl, hm, hcap⟩ := hrd.form
  have hl : acts.length ≤ 9223372036854775807 := by simpa [maxLen] using hm
  have o0 := Own.start w
  have hnnH := hid hnn
  clear hrd hnn
  go_enter Try.func7, Try.ntmps7
  go_wp2_with fail
  refine (awake_c _ _ o0).mono ?_
  rintro e w1 ⟨rfl, o1, e1⟩
  go_wp2_with fail
  refine (new_c _ _ o1).mono ?_
  rintro e w2 ⟨p, rfl, o2, e2⟩
  have o2H := hid o2
  clear o0 o1 o2
  go_upto_block 0 with (fail)
  go_cut [] (fun wc => ∃ r : Reg, r.Ok ∧ Own wc (regC p r :: [base w w.heap.size]) ∧ Ext w wc)
  case first =>
    go_wp2_with fail
    go_loopw [8] (fun i wr => ∃ (k : Nat) (r : Reg), i = .int .i64 k ∧ k ≤ acts.length ∧ r.Ok ∧ Own wr (regC p r :: [base w w.heap.size]) ∧ Ext w wr) (fun i _ => acts.length - (intOf i).toNat)
    case atStart => exact ⟨0, Reg.new, rfl, Nat.zero_le _, Reg.Ok.new, o2H.out, e1.trans e2⟩
    case round =>
      obtain ⟨k, r, rfl, hk, hI, ok, ek⟩ := hrel
      have okH := hid ok
      have hIH := hid hI
      clear hI
      by_cases hlt : k < acts.length
      · have hb1 : decide (k < acts.length) = true := decide_eq_true hlt
        by_cases h60 : k < 60
        · have hb2 : decide (k < 60) = true := decide_eq_true h60
          obtain ⟨x, hx⟩ : ∃ x, acts[k]? = some x := ⟨_, List.getElem?_eq_getElem hlt⟩
          have hx0 := hnnH.out x (List.mem_of_getElem? hx)
          rcases hH.out wr _ (Own.swap ok) with ⟨_, hxs⟩ | ⟨g, off, cap', hv, h1, h2, hcell⟩
          · rw [hxs] at hx; simp at hx
          obtain ⟨rfl, rfl⟩ : a = some ⟨g, off, none⟩ ∧ cap = cap' := by simpa using hv
          obtain ⟨c0, c1, c2, c3⟩ := rd_act hcell hx
          have hgl : g < wr.heap.size := World.block_lt_of_cell? wr _ c0
          clear hx ok hcell
          have hn0 := hIH.out.n0
          have hn1 := hIH.out.n1
          have hlen := hIH.out.len
          have hOq := hid (hIH.out.step3 x)
          have ob := Own.swap (okH.out.alloc (.cells #[.int .i64 x.kind, .int .u64 x.t, .int .u64 x.lease, .int .u64 x.now] 30))
          have hz : wr.heap.size < (wr.alloc (.cells #[.int .i64 x.kind, .int .u64 x.t, .int .u64 x.lease, .int .u64 x.now] 30)).heap.size := by simp
          by_cases k0 : x.kind = 0
          · have hb : (x.kind == 0) = true := by simpa using k0
            have hS : Hid (r.step3 x = (r.register x.t x.lease x.now).1) := hid (by simp [Reg.step3, k0])
            clear k0
            go_wp2_with fail
            refine Calls.mono (register_c p x.t x.lease x.now r hx0 (by omega) hn1 (by omega) _ _ ob) ?_
            rintro e w3 ⟨rfl, o3, e3⟩
            go_wp2
            go_roundw
            case rel => exact ⟨k + 1, r.step3 x, by go_num, by omega, hOq.out, by rw [hS.out]; exact o3.swap.drop, (ek.alloc _).trans e3⟩
            case measure => simp [intOf]; omega
          by_cases k2 : x.kind = 2
          · have hb : (x.kind == 0) = false := by simpa using k0
            have hb2 : (x.kind == 2) = true := by simpa using k2
            have hS : Hid (r.step3 x = (r.release x.t).1) := hid (by simp [Reg.step3, k2])
            clear k0 k2
            go_wp2_with fail
            refine (release_c p x.t r (by omega) _ _ ob).mono ?_
            rintro e w3 ⟨rfl, o3, e3⟩
            go_wp2
            go_roundw
            case rel => exact ⟨k + 1, r.step3 x, by go_num, by omega, hOq.out, by rw [hS.out]; exact o3.swap.drop, (ek.alloc _).trans e3⟩
            case measure => simp [intOf]; omega
          by_cases k3 : x.kind = 3
          · have hb : (x.kind == 0) = false := by simpa using k0
            have hb2 : (x.kind == 2) = false := by simpa using k2
            have hb3 : (x.kind == 3) = true := by simpa using k3
            have hS : Hid (r.step3 x = r.advance x.t x.now) := hid (by simp [Reg.step3, k3])
            clear k0 k2 k3
            go_wp2_with fail
            refine (advance_c p x.t x.now r (by omega) _ _ ob).mono ?_
            rintro e w3 ⟨rfl, o3, e3⟩
            go_wp2
            go_roundw
            case rel => exact ⟨k + 1, r.step3 x, by go_num, by omega, hOq.out, by rw [hS.out]; exact o3.swap.drop, (ek.alloc _).trans e3⟩
            case measure => simp [intOf]; omega
          · have hb : (x.kind == 0) = false := by simpa using k0
            have hb2 : (x.kind == 2) = false := by simpa using k2
            have hb3 : (x.kind == 3) = false := by simpa using k3
            have hS : Hid (r.step3 x = r) := hid (by simp [Reg.step3, k0, k2, k3])
            clear k0 k2 k3
            go_wp2
            go_roundw
            case rel => exact ⟨k + 1, r.step3 x, by go_num, by omega, hOq.out, by rw [hS.out]; exact ob.swap.drop, ek.alloc _⟩
            case measure => simp [intOf]; omega
        · have hb2 : decide (k < 60) = false := decide_eq_false h60
          clear ok
          go_wp2_with fail
          go_meet
          case rel => exact ⟨r, hIH.out, okH.out, ek⟩
      · have hb1 : decide (k < acts.length) = false := decide_eq_false hlt
        clear ok
        go_wp2_with fail
        go_meet
        case rel => exact ⟨r, hIH.out, okH.out, ek⟩
  case rest =>
    obtain ⟨r, hI, oc, ec⟩ := hcut
    have ocH := hid oc
    have hlen := hI.len
    have hag := hid (advance_again r want now)
    have hsa := hid (advance_says r want now)
    clear oc
    go_wp2_with fail
    refine (state_c p r (by omega) _ _ ocH.out).mono ?_
    rintro e w3 ⟨v3, rfl, o3, e3⟩
    have o3H := hid o3.drop
    clear o3
    go_wp2_with fail
    refine (live_c now p r (by omega) _ _ o3H.out).mono ?_
    rintro e w4 ⟨v4, rfl, o4, e4⟩
    obtain ⟨a4, cap4, rfl, hm4, hcap4⟩ := (sl_rd o4).form
    have o4H := hid o4
    have hL5 : (r.l.filter (livesB now)).length ≤ 5 := Nat.le_trans (List.length_filter_le _ _) hlen
    have hIH := hid hI
    generalize hLd : r.l.filter (livesB now) = L at *
    have hLdH := hid hLd
    clear o4 hLd hI
    go_wp2_with fail
    go_loopw [13, 76] (fun m i wq => ∃ (j : Nat), i = .int .i64 j ∧ j ≤ L.length ∧ m = .int .u64 (least (min want 1099511627776) (L.take j)) ∧ Own wq (sl 54 leaseE (.slice a4 L.length cap4) L :: regC p r :: [base w w.heap.size]) ∧ Ext w wq) (fun _ i _ => L.length - (intOf i).toNat)
    case atStart => exact ⟨0, rfl, Nat.zero_le _, rfl, o4H.out, ((ec.trans e3).trans e4)⟩
    case round =>
      obtain ⟨j, rfl, hj, rfl, oq, eq⟩ := hrel
      by_cases hjl : j < L.length
      · obtain ⟨y, hy⟩ : ∃ y, L[j]? = some y := ⟨_, List.getElem?_eq_getElem hjl⟩
        obtain ⟨g5, cap5, hv5, hgl5, _, _, _, q0, q1, q2, _⟩ := sl_get oq hy
        simp only [Value.slice.injEq] at hv5
        obtain ⟨rfl, _, rfl⟩ := hv5
        have hls : Hid (least (min want 1099511627776) (L.take (j + 1)) = min (least (min want 1099511627776) (L.take j)) y.time) := hid (least_snoc _ hy)
        generalize least (min want 1099511627776) (L.take j) = m at *
        have oqH := hid oq
        clear oq hy
        go_wp2
        go_roundw
        case rel => exact ⟨j + 1, by go_num, by omega, by rw [hls.out], oqH.out.allocd, eq.alloc _⟩
        case measure => simp [intOf]; omega
      · obtain rfl : j = L.length := by omega
        have oqH := hid oq.drop
        rw [List.take_length]
        generalize least (min want 1099511627776) L = m at *
        clear oq
        go_wp2_with fail
        refine (advance_c p want now r (by omega) _ _ oqH.out).mono ?_
        rintro e w5 ⟨rfl, o5, e5⟩
        have hlen1 : (r.advance want now).l.length ≤ 5 := (hIH.out.advance want now).len
        have hs1 : Hid (((r.advance want now).advance want now).safe = (r.advance want now).safe) := hag
        have o5H := hid o5
        clear o5
        go_wp2_with fail
        refine (state_c p _ (by omega) _ _ o5H.out).mono ?_
        rintro e w6 ⟨v6, rfl, o6, e6⟩
        have o6H := hid o6.drop
        clear o6
        go_wp2_with fail
        refine (advance_c p want now _ (by omega) _ _ o6H.out).mono ?_
        rintro e w7 ⟨rfl, o7, e7⟩
        rw [hs1.out, hsa.out]
        have o7H := hid o7.drop
        clear o7
        go_wp2
        go_ret
        exact ⟨rfl, below_of_own o7H.out ((((eq.trans e5).trans e6).trans e7))⟩
theorem snapAdvances_row (v : Value) (acts : List SAct) (want now : Int) (w : World) (hrd : Rd w actE v acts) (hp : ∀ x ∈ acts, x.Wf) (_ : (Lit.int .u64 want).wf = true) (_ : (Lit.int .u64 now).wf = true) :
    Calls Try.prog 7 #[v, .int .u64 want, .int .u64 now] w fun e w' => e = .returned (.bool true) ∧ Below w.heap.size w w' := snapAdvances_walk v acts want now w hrd (acts_nn hp)
end Go.Proofs.Ytkgflckfphecjaa
