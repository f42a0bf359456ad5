/- SnapSafe: the walk of the law. -/
import Derived.Test.YtkgflckfphecjaaSnapW
import Derived.Test.YtkgflckfphecjaaSnapP
import Derived.Deep.DeepCutAuto
import Derived.Deep.CutBlock
namespace Go.Proofs.Ytkgflckfphecjaa
open Go.RowKit Go.Sl Go.Scree

def actE : Enc SAct := ⟨fun x => [.int .i64 x.kind, .int .u64 x.t, .int .u64 x.lease, .int .u64 x.now], 4, fun _ => rfl, by simp [Value.oneCell'], by omega⟩
theorem rd_act {w : World} {g off : Nat} {xs : List SAct} (h : ∀ i x, xs[i]? = some x → ∀ j u, (actE.cells x)[j]? = some u → w.cell? ⟨g, off + i * actE.size + j, none⟩ = some u)
   {i : Nat} {x : SAct} (hx : xs[i]? = some x) : w.cell? ⟨g, off + i * 4, none⟩ = some (.int .i64 x.kind) ∧ w.cell? ⟨g, off + i * 4 + 1, none⟩ = some (.int .u64 x.t) ∧ w.cell? ⟨g, off + i * 4 + 2, none⟩ = some (.int .u64 x.lease) ∧ w.cell? ⟨g, off + i * 4 + 3, none⟩ = some (.int .u64 x.now) :=
  ⟨h i x hx 0 _ rfl, h i x hx 1 _ rfl, h i x hx 2 _ rfl, h i x hx 3 _ rfl⟩

attribute [local go_sem high] min_two max_two

set_option maxRecDepth 20000 in
set_option maxHeartbeats 6400000 in
theorem snapSafe_walk (v : Value) (acts : List SAct) (w : World) (hrd : Rd w actE v acts) :
    Calls Try.prog 5 #[v] w fun e w' => e = .returned (.bool true) ∧ Below w.heap.size w w' := by
  have hH := hid (rd_base hrd)
  obtain ⟨a, cap, rfl, hm, hcap⟩ := hrd.form
  have hl : acts.length ≤ 9223372036854775807 := by simpa [maxLen] using hm
  have o0 := Own.start w
  clear hrd
  go_enter Try.func5, Try.ntmps5
  go_wp2_with fail
  refine (awake_c _ _ o0).mono ?_
  rintro e w1 ⟨rfl, o1, e1⟩
  go_wp2_with fail
  refine (new_c _ _ o1).mono ?_
  rintro e w2 ⟨p, rfl, o2, e2⟩
  have o2H := hid o2
  clear o0 o1 o2
  go_wp2_with fail
  go_loopw [4, 5, 6] (fun last clock i wr => ∃ (k : Nat) (r : Reg) (c : Int), i = .int .i64 k ∧ k ≤ acts.length ∧ last = .int .u64 r.safe ∧ clock = .int .u64 c ∧ 0 ≤ c ∧ r.Inv c ∧ Own wr (regC p r :: [base w w.heap.size]) ∧ Ext w wr) (fun _ _ i _ => acts.length - (intOf i).toNat)
  case atStart => exact ⟨0, Reg.new, 0, rfl, Nat.zero_le _, rfl, rfl, by omega, Reg.Inv.new 0, o2H.out, e1.trans e2⟩
  case round =>
    obtain ⟨k, r, c, rfl, hk, rfl, rfl, hc0, hI, ok, ek⟩ := hrel
    have okH := hid ok
    have hIH := hid hI
    clear hI
    by_cases hlt : k < acts.length
    · have hb1 : decide (k < acts.length) = true := decide_eq_true hlt
      by_cases h60 : k < 60
      · have hb2 : decide (k < 60) = true := decide_eq_true h60
        obtain ⟨x, hx⟩ : ∃ x, acts[k]? = some x := ⟨_, List.getElem?_eq_getElem hlt⟩
        rcases hH.out wr _ (Own.swap ok) with ⟨_, hxs⟩ | ⟨g, off, cap', hv, h1, h2, hcell⟩
        · rw [hxs] at hx; simp at hx
        obtain ⟨rfl, rfl⟩ : a = some ⟨g, off, none⟩ ∧ cap = cap' := by simpa using hv
        obtain ⟨c0, c1, c2, c3⟩ := rd_act hcell hx
        have hgl : g < wr.heap.size := World.block_lt_of_cell? wr _ c0
        clear hx ok hcell
        have hcc0 : 0 ≤ max c (min x.now 1099511627776) := by omega
        have hIc := (hIH.out.mono (show c ≤ max c (min x.now 1099511627776) by omega))
        go_upto_block 2 with (fail)
        generalize max c (min x.now 1099511627776) = cc at *
        have hn0 := hIc.n0
        have hn1 := hIc.n1
        have hlen := hIc.len
        have hst := Reg.step_safe r x cc
        have hIq := hid (hIc.step x)
        have hlenq := (hIc.step x).len
        have hq : Hid (r.step x cc = r.step x cc) := hid rfl
        have hIcH := hid hIc
        clear hIc
        go_cut [] (fun wc => Own wc (regC p (r.step x cc) :: [base w w.heap.size]) ∧ Ext w wc)
        case first =>
          have ob := Own.swap (okH.out.alloc (.cells #[.int .i64 x.kind, .int .u64 x.t, .int .u64 x.lease, .int .u64 x.now] 30))
          have hz : wr.heap.size < (wr.alloc (.cells #[.int .i64 x.kind, .int .u64 x.t, .int .u64 x.lease, .int .u64 x.now] 30)).heap.size := by simp
          by_cases k0 : x.kind = 0
          · have hb : (x.kind == 0) = true := by simpa using k0
            have hS : Hid (r.step x cc = (r.register x.t x.lease cc).1) := hid (by simp [Reg.step, k0])
            clear k0
            go_wp2_with fail
            refine Calls.mono (register_c p x.t x.lease cc r hcc0 (by omega) hn1 (by omega) _ _ ob) ?_
            rintro e w3 ⟨rfl, o3, e3⟩
            go_wp2_with fail
            go_meet
            case rel => exact ⟨by rw [hS.out]; exact o3.swap.drop, (ek.alloc _).trans e3⟩
          by_cases k1 : x.kind = 1
          · have hb : (x.kind == 0) = false := by simpa using k0
            have hb1 : (x.kind == 1) = true := by simpa using k1
            have hS : Hid (r.step x cc = (r.renew x.t x.lease cc).1) := hid (by simp [Reg.step, k1])
            clear k0 k1
            go_wp2_with fail
            refine Calls.mono (renew_c p x.t x.lease cc r hcc0 _ _ ob) ?_
            rintro e w3 ⟨rfl, o3, e3⟩
            go_wp2_with fail
            go_meet
            case rel => exact ⟨by rw [hS.out]; exact o3.swap.drop, (ek.alloc _).trans e3⟩
          by_cases k2 : x.kind = 2
          · have hb : (x.kind == 0) = false := by simpa using k0
            have hb1 : (x.kind == 1) = false := by simpa using k1
            have hb2 : (x.kind == 2) = true := by simpa using k2
            have hS : Hid (r.step x cc = (r.release x.t).1) := hid (by simp [Reg.step, k2])
            clear k0 k1 k2
            go_wp2_with fail
            refine (release_c p x.t r (by omega) _ _ ob).mono ?_
            rintro e w3 ⟨rfl, o3, e3⟩
            go_wp2_with fail
            go_meet
            case rel => exact ⟨by rw [hS.out]; exact o3.swap.drop, (ek.alloc _).trans e3⟩
          by_cases k3 : x.kind = 3
          · have hb : (x.kind == 0) = false := by simpa using k0
            have hb1 : (x.kind == 1) = false := by simpa using k1
            have hb2 : (x.kind == 2) = false := by simpa using k2
            have hb3 : (x.kind == 3) = true := by simpa using k3
            have hS : Hid (r.step x cc = r.advance x.t cc) := hid (by simp [Reg.step, k3])
            clear k0 k1 k2 k3
            go_wp2_with fail
            refine (advance_c p x.t cc r (by omega) _ _ ob).mono ?_
            rintro e w3 ⟨rfl, o3, e3⟩
            go_wp2_with fail
            go_meet
            case rel => exact ⟨by rw [hS.out]; exact o3.swap.drop, (ek.alloc _).trans e3⟩
          · have hb : (x.kind == 0) = false := by simpa using k0
            have hb1 : (x.kind == 1) = false := by simpa using k1
            have hb2 : (x.kind == 2) = false := by simpa using k2
            have hb3 : (x.kind == 3) = false := by simpa using k3
            have hS : Hid (r.step x cc = r) := hid (by simp [Reg.step, k0, k1, k2, k3])
            clear k0 k1 k2 k3
            go_wp2_with fail
            go_meet
            case rel => exact ⟨by rw [hS.out]; exact ob.swap.drop, ek.alloc _⟩
        case rest =>
          obtain ⟨oc, ec⟩ := hcut
          have hss : decide ((r.step x cc).safe < r.safe) = false := decide_eq_false (by omega)
          clear hq hst hIcH
          generalize r.step x cc = q at *
          have hqs := (hIq.out).safe
          have ocH := hid oc
          have htl : Hid (∀ y ∈ q.l.filter (livesB cc), q.safe ≤ y.time ∧ q.reads y.time cc = 0 ∧ q.check y.id cc = (y.time, 0)) := hid (fun y hy => hIq.out.tells hy)
          clear oc hqs
          go_wp2_with fail
          refine (state_c p q (by omega) _ _ ocH.out).mono ?_
          rintro e w3 ⟨v3, rfl, o3, e3⟩
          have o3H := hid o3.drop
          clear o3
          go_wp2_with fail
          refine (live_c cc p q (by omega) _ _ o3H.out).mono ?_
          rintro e w4 ⟨v4, rfl, o4, e4⟩
          obtain ⟨a4, cap4, rfl, hm4, hcap4⟩ := (sl_rd o4).form
          have o4H := hid o4
          have hL5 : (q.l.filter (livesB cc)).length ≤ 5 := Nat.le_trans (List.length_filter_le _ _) hlenq
          generalize q.l.filter (livesB cc) = L at *
          clear o4
          go_wp2_with fail
          go_loopw [84] (fun i wq => ∃ (j : Nat), i = .int .i64 j ∧ j ≤ L.length ∧ Own wq (sl 54 leaseE (.slice a4 L.length cap4) L :: regC p q :: [base w w.heap.size]) ∧ Ext w wq) (fun i _ => L.length - (intOf i).toNat)
          case atStart => exact ⟨0, rfl, Nat.zero_le _, o4H.out, ((ec.trans e3).trans e4)⟩
          case round =>
            obtain ⟨j, rfl, hj, oq, eq⟩ := hrel
            by_cases hjl : j < L.length
            · obtain ⟨y, hy⟩ : ∃ y, L[j]? = some y := ⟨_, List.getElem?_eq_getElem hjl⟩
              obtain ⟨g5, cap5, hv5, hgl5, _, _, _, q0, q1, q2, _⟩ := sl_get oq hy
              simp only [Value.slice.injEq] at hv5
              obtain ⟨rfl, _, rfl⟩ := hv5
              obtain ⟨t1, t2, t3⟩ := htl.out y (List.mem_of_getElem? hy)
              have hb5 : decide (y.time < q.safe) = false := decide_eq_false (by omega)
              have t2H := hid t2
              have t3H := hid t3
              have oqH := hid oq
              have oq2 := Own.pick 2 (oq.alloc (.cells #[.int .u64 y.id, .int .u64 y.time, .int .u64 y.until_] 54))
              clear t1 t2 t3 oq hy
              go_wp2_with fail
              refine (reads_c p y.time cc q _ _ oq2).mono ?_
              rw [t2H.out]
              rintro e w6 ⟨rfl, o6, e6⟩
              have b0 := (o6.swap).cell (i := 0) (v := .int .u64 y.id) rfl
              have b1 := (o6.swap).cell (i := 1) (v := .int .u64 y.time) rfl
              have hz6 := o6.swap.lt
              have o6H := hid o6
              clear o6 oq2
              go_wp2_with fail
              refine (check_c p y.id cc q _ _ o6H.out).mono ?_
              rw [t3H.out]
              rintro e w7 ⟨rfl, o7, e7⟩
              have b1 := (o7.swap).cell (i := 1) (v := .int .u64 y.time) rfl
              have o7H := hid o7
              clear o7
              go_wp2
              go_roundw
              case rel => exact ⟨j + 1, by go_num, by omega, o7H.out.swap.drop.swap, ((eq.alloc _).trans e6).trans e7⟩
              case measure => simp [intOf]; omega
            · have oqH := hid oq.drop
              clear oq
              go_wp2
              go_roundw
              case rel => exact ⟨k + 1, q, cc, by go_num, by omega, rfl, rfl, hcc0, hIq.out, oqH.out, eq⟩
              case measure => simp [intOf]; omega
      · have hb2 : decide (k < 60) = false := decide_eq_false h60
        clear ok
        go_wp2
        go_ret
        exact ⟨rfl, below_of_own okH.out.drop ek⟩
    · have hb1 : decide (k < acts.length) = false := decide_eq_false hlt
      clear ok
      go_wp2
      go_ret
      exact ⟨rfl, below_of_own okH.out.drop ek⟩
end Go.Proofs.Ytkgflckfphecjaa
