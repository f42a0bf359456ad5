/- SnapRoom: the walk of the law. -/
import Derived.Test.YtkgflckfphecjaaSnapT
import Derived.Deep.QuietTactic
import Derived.BigQuiet
namespace Go.Proofs.Ytkgflckfphecjaa
open Go.RowKit Go.Sl Go.Scree

attribute [local go_sem high] min_two max_two

set_option maxRecDepth 20000 in
set_option maxHeartbeats 6400000 in
theorem snapRoom_walk (v : Value) (acts : List SAct) (t lease now : Int) (hnow : 0 ≤ now) (w : World) (hrd : Rd w actE v acts) (hnn : ∀ x ∈ acts, 0 ≤ x.now) :
    Calls Try.prog 9 #[v, .int .u64 t, .int .u64 lease, .int .u64 now] w fun e w' => e = .returned (.bool true) ∧ Below w.heap.size w w' := by
  have hH := hid (rd_base hrd)
  obtain ⟨a, cap, rfl, hm, hcap⟩ := hrd.form
  have hl : acts.length ≤ 9223372036854775807 := by simpa [maxLen] using hm
  have o0 := Own.start w
  have hnnH := hid hnn
  clear hrd hnn
  go_enter Try.func9, Try.ntmps9
  go_wp2_with fail
  refine (awake_c _ _ o0).mono ?_
  rintro e w1 ⟨rfl, o1, e1⟩
  go_wp2_with fail
  refine (new_c _ _ o1).mono ?_
  rintro e w2 ⟨p, rfl, o2, e2⟩
  have o2H := hid o2
  clear o0 o1 o2
  go_upto_block 0 with (fail)
  go_cut [] (fun wc => ∃ r : Reg, r.Ok ∧ Own wc (regC p r :: [base w w.heap.size]) ∧ Ext w wc)
  case first =>
    go_wp2_with fail
    go_loopw [10] (fun i wr => ∃ (k : Nat) (r : Reg), i = .int .i64 k ∧ k ≤ acts.length ∧ r.Ok ∧ Own wr (regC p r :: [base w w.heap.size]) ∧ Ext w wr) (fun i _ => acts.length - (intOf i).toNat)
    case atStart => exact ⟨0, Reg.new, rfl, Nat.zero_le _, Reg.Ok.new, o2H.out, e1.trans e2⟩
    case round =>
      obtain ⟨k, r, rfl, hk, hI, ok, ek⟩ := hrel
      have okH := hid ok
      have hIH := hid hI
      clear hI
      by_cases hlt : k < acts.length
      · have hb1 : decide (k < acts.length) = true := decide_eq_true hlt
        by_cases h60 : k < 60
        · have hb2 : decide (k < 60) = true := decide_eq_true h60
          obtain ⟨x, hx⟩ : ∃ x, acts[k]? = some x := ⟨_, List.getElem?_eq_getElem hlt⟩
          have hx0 := hnnH.out x (List.mem_of_getElem? hx)
          rcases hH.out wr _ (Own.swap ok) with ⟨_, hxs⟩ | ⟨g, off, cap', hv, h1, h2, hcell⟩
          · rw [hxs] at hx; simp at hx
          obtain ⟨rfl, rfl⟩ : a = some ⟨g, off, none⟩ ∧ cap = cap' := by simpa using hv
          obtain ⟨c0, c1, c2, c3⟩ := rd_act hcell hx
          have hgl : g < wr.heap.size := World.block_lt_of_cell? wr _ c0
          clear hx ok hcell
          have hn0 := hIH.out.n0
          have hn1 := hIH.out.n1
          have hlen := hIH.out.len
          have hOq := hid (hIH.out.step3 x)
          have ob := Own.swap (okH.out.alloc (.cells #[.int .i64 x.kind, .int .u64 x.t, .int .u64 x.lease, .int .u64 x.now] 30))
          have hz : wr.heap.size < (wr.alloc (.cells #[.int .i64 x.kind, .int .u64 x.t, .int .u64 x.lease, .int .u64 x.now] 30)).heap.size := by simp
          by_cases k0 : x.kind = 0
          · have hb : (x.kind == 0) = true := by simpa using k0
            have hS : Hid (r.step3 x = (r.register x.t x.lease x.now).1) := hid (by simp [Reg.step3, k0])
            clear k0
            go_wp2_with fail
            refine Calls.mono (register_c p x.t x.lease x.now r hx0 (by omega) hn1 (by omega) _ _ ob) ?_
            rintro e w3 ⟨rfl, o3, e3⟩
            go_wp2
            go_roundw
            case rel => exact ⟨k + 1, r.step3 x, by go_num, by omega, hOq.out, by rw [hS.out]; exact o3.swap.drop, (ek.alloc _).trans e3⟩
            case measure => simp [intOf]; omega
          by_cases k2 : x.kind = 2
          · have hb : (x.kind == 0) = false := by simpa using k0
            have hb2 : (x.kind == 2) = true := by simpa using k2
            have hS : Hid (r.step3 x = (r.release x.t).1) := hid (by simp [Reg.step3, k2])
            clear k0 k2
            go_wp2_with fail
            refine (release_c p x.t r (by omega) _ _ ob).mono ?_
            rintro e w3 ⟨rfl, o3, e3⟩
            go_wp2
            go_roundw
            case rel => exact ⟨k + 1, r.step3 x, by go_num, by omega, hOq.out, by rw [hS.out]; exact o3.swap.drop, (ek.alloc _).trans e3⟩
            case measure => simp [intOf]; omega
          by_cases k3 : x.kind = 3
          · have hb : (x.kind == 0) = false := by simpa using k0
            have hb2 : (x.kind == 2) = false := by simpa using k2
            have hb3 : (x.kind == 3) = true := by simpa using k3
            have hS : Hid (r.step3 x = r.advance x.t x.now) := hid (by simp [Reg.step3, k3])
            clear k0 k2 k3
            go_wp2_with fail
            refine (advance_c p x.t x.now r (by omega) _ _ ob).mono ?_
            rintro e w3 ⟨rfl, o3, e3⟩
            go_wp2
            go_roundw
            case rel => exact ⟨k + 1, r.step3 x, by go_num, by omega, hOq.out, by rw [hS.out]; exact o3.swap.drop, (ek.alloc _).trans e3⟩
            case measure => simp [intOf]; omega
          · have hb : (x.kind == 0) = false := by simpa using k0
            have hb2 : (x.kind == 2) = false := by simpa using k2
            have hb3 : (x.kind == 3) = false := by simpa using k3
            have hS : Hid (r.step3 x = r) := hid (by simp [Reg.step3, k0, k2, k3])
            clear k0 k2 k3
            go_wp2
            go_roundw
            case rel => exact ⟨k + 1, r.step3 x, by go_num, by omega, hOq.out, by rw [hS.out]; exact ob.swap.drop, ek.alloc _⟩
            case measure => simp [intOf]; omega
        · have hb2 : decide (k < 60) = false := decide_eq_false h60
          clear ok
          go_wp2_with fail
          go_meet
          case rel => exact ⟨r, hIH.out, okH.out, ek⟩
      · have hb1 : decide (k < acts.length) = false := decide_eq_false hlt
        clear ok
        go_wp2_with fail
        go_meet
        case rel => exact ⟨r, hIH.out, okH.out, ek⟩
  case rest =>
    obtain ⟨r, hI, oc, ec⟩ := hcut
    have ocH := hid oc
    have hlen := hI.len
    have hn0 := hI.n0
    have hn1 := hI.n1
    have hroom := register_room r t lease now
    have hroom2 := hroom.resolve_right (by omega)
    have hrH := hid hroom2
    have hlenq : (r.register t lease now).1.l.length ≤ 5 := (hI.register t lease now).len
    clear oc hroom hroom2
    go_wp2_with fail
    refine (live_c now p r (by omega) _ _ ocH.out).mono ?_
    rintro e w3 ⟨v3, rfl, o3, e3⟩
    obtain ⟨a3, cap3, rfl, hm3, hcap3⟩ := (sl_rd o3).form
    have o3H := hid o3.swap
    clear o3
    go_wp2_with fail
    refine (state_c p r (by omega) _ _ o3H.out).mono ?_
    rintro e w4 ⟨v4, rfl, o4, e4⟩
    have o4H := hid o4.drop
    clear o4
    go_wp2_with fail
    refine Calls.mono (register_c p t lease now r hnow (by omega) hn1 (by omega) _ _ o4H.out) ?_
    rintro e w5 ⟨rfl, o5, e5⟩
    have o5H := hid o5
    clear o5
    have hrm := hrH.out
    unfold RoomSays at hrm
    generalize (r.register t lease now).1 = q at *
    generalize (r.register t lease now).2.1 = iv at *
    generalize (r.register t lease now).2.2 = re at *
    go_wp2_with fail
    refine (live_c now p q (by omega) _ _ o5H.out).mono ?_
    rintro e w6 ⟨v6, rfl, o6, e6⟩
    obtain ⟨a6, cap6, rfl, hm6, hcap6⟩ := (sl_rd o6).form
    have o6H := hid o6
    clear o6 hrH
    generalize r.l.filter (livesB now) = L at *
    generalize q.l.filter (livesB now) = L2 at *
    rcases hrm with ⟨rfl, h1, h2, h3, h4⟩ | ⟨rfl, h1, h2, rfl⟩ | ⟨rfl, h1, rfl⟩ | ⟨rfl, rfl, h2⟩
    · have hx : L2[L.length]? = some ⟨iv, t, now + lease⟩ := by rw [h2]; simp
      obtain ⟨g6, k6, hv6, hgl6, _, _, _, q0, q1, q2, _⟩ := sl_get o6H.out hx
      simp only [Value.slice.injEq] at hv6
      obtain ⟨rfl, _, rfl⟩ := hv6
      have hL2 : L2.length = L.length + 1 := by rw [h2]; simp
      rw [hL2] at hm6 hcap6
      simp only [untilB, timeB, Bool.and_eq_true, decide_eq_true_eq] at h4
      obtain ⟨⟨u1, u2⟩, u3, u4⟩ := h4
      have d1 : decide (L.length < 5) = true := decide_eq_true h1
      have d2 : decide (r.safe ≤ t) = true := decide_eq_true h3
      have d4 : IntKind.i64.wrap ((L.length : Int) + 1) = (L.length : Int) + 1 := IntWalk.i64_in _ (by omega)
      have o6H2 := hid o6H.out.drop.drop.drop
      dsimp only at q0 q1 q2
      rw [hL2]
      clear hx h2 hL2 h3 o6H
      go_wp2
      go_ret
      exact ⟨rfl, below_of_own o6H2.out ((((ec.trans e3).trans e4).trans e5).trans e6)⟩
    · subst h2
      have d1 : ((L2.length : Int) == 5) = true := by rw [beq_iff_eq]; omega
      have o6H2 := hid o6H.out.drop.drop.drop
      clear h1 o6H
      go_wp2
      go_ret
      exact ⟨rfl, below_of_own o6H2.out ((((ec.trans e3).trans e4).trans e5).trans e6)⟩
    · have d2 : decide (t < r.safe) = true := decide_eq_true h1
      have o6H2 := hid o6H.out.drop.drop.drop
      clear o6H
      go_wp2
      go_ret
      exact ⟨rfl, below_of_own o6H2.out ((((ec.trans e3).trans e4).trans e5).trans e6)⟩
    · subst h2
      have o6H2 := hid o6H.out.drop.drop.drop
      clear o6H
      go_wp2
      go_ret
      exact ⟨rfl, below_of_own o6H2.out ((((ec.trans e3).trans e4).trans e5).trans e6)⟩
theorem snapRoom_row (v : Value) (acts : List SAct) (t lease now : Int) (w : World) (hrd : Rd w actE v acts) (hp : ∀ x ∈ acts, x.Wf) (_ : (Lit.int .u64 t).wf = true) (_ : (Lit.int .u64 lease).wf = true) (h : (Lit.int .u64 now).wf = true) :
    Calls Try.prog 9 #[v, .int .u64 t, .int .u64 lease, .int .u64 now] w fun e w' => e = .returned (.bool true) ∧ Below w.heap.size w w' := snapRoom_walk v acts t lease now (u64_nonneg h) w hrd (acts_nn hp)
end Go.Proofs.Ytkgflckfphecjaa
