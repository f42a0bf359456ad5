/- SnapNumbers: the walk of the law. -/
import Derived.Test.YtkgflckfphecjaaSnapS
import Derived.Test.YtkgflckfphecjaaSnapO
import Derived.Test.YtkgflckfphecjaaSnapX
import Derived.Test.YtkgflckfphecjaaSnapN
import Derived.Test.YtkgflckfphecjaaSnapH
import Derived.Test.YtkgflckfphecjaaSnapI
import Derived.Test.YtkgflckfphecjaaSlMap
namespace Go.Proofs.Ytkgflckfphecjaa
open Go.RowKit Go.Sl Go.Scree Go.Maps

theorem law64 : Keyed Try.prog 23 := int_keyed Try.underlying23
noncomputable abbrev RB : Value → Option (DataW Unit × List MemPlace) := plainElem Try.prog 4
/-- The numbers that are gone. -/
def GoneB (D : DataW Unit) (x : Int) : Prop := Maps.has D (.int .u64 x) = true
def GMap (es : Array MapEntry) (clk n : Nat) (D : DataW Unit) : Prop := MapIs Try.prog 23 RB es clk n D
theorem GMap.mono {es : Array MapEntry} {clk n m : Nat} {D : DataW Unit} (h : GMap es clk n D) (hm : n ≤ m) : GMap es clk m D := ⟨h.1, Nat.le_trans h.2.1 hm, h.2.2⟩
theorem gone_put {D : DataW Unit} {r : Reg} {id : Int} {d : DataW Unit} (h : Apart (fun x => GoneB D x ∨ x = id) r) : Apart (GoneB (D.put (.int .u64 id) d)) r := by
  intro x hx
  refine h x ?_
  by_cases e : x = id
  · exact .inr e
  · left
    unfold GoneB at hx ⊢
    rwa [has_put_other (by simpa using e)] at hx
theorem gone_look {w : World} {F : List Chunk} {b : Nat} {es : Array MapEntry} {clk n : Nat} {D : DataW Unit} (o : Own w (pts b (.map es clk) :: F)) (m : GMap es clk n D) {x : Int} (hx : (Lit.int .u64 x).wf = true) (hn : ¬ GoneB D x) :
    (Instr.lookup 58 (.map (some b)) (.int .u64 x) false).run Try.prog w = .ok (.bool false) w := by
  obtain ⟨v, ps, hrun, hv⟩ := (own_map o m).lookup law64 Try.underlying58 (z := .bool false) (by rfl) (plainElem_bool Try.underlying4 false) (keyOf_int_mk Try.underlying23 hx)
  rw [atKey_of_not_has (by unfold GoneB at hn; simpa using hn)] at hv
  have hb : v = .bool false := by
    cases v <;> simp [plainElem, Try.underlying4] at hv ⊢
    exact hv.1
  rw [hb] at hrun
  exact hrun
theorem wf_u64 {x : Int} (h0 : 0 ≤ x) (h1 : x ≤ 1099511627776) : (Lit.int .u64 x).wf = true := by
  simp [Lit.wf, IntKind.min, IntKind.max, IntKind.signed, IntKind.bits]
  omega
/-- What holds of the registry, the map's datum and the last number. -/
structure NumI (r : Reg) (D : DataW Unit) (L : Int) : Prop where
  full : r.Full
  apart : Apart (GoneB D) r
  next : L + 1 = r.next



theorem key_inv : ∀ key kl, keyOf Try.prog 23 key = some kl → ∃ x, key = Value.int .u64 x := fun key kl h => by
  obtain ⟨x, rfl, _⟩ := Maps.keyOf_int_inv Try.underlying23 h
  exact ⟨x, rfl⟩
theorem bool_inv : ∀ v y, RB v = some y → ∃ c, v = Value.bool c := fun v y h => by
  cases v <;> simp [plainElem, Try.underlying4] at h ⊢

set_option maxRecDepth 20000 in
set_option maxHeartbeats 12800000 in
theorem snapNumbers_walk (v : Value) (acts : List SAct) (w : World) (hrd : Rd w actE v acts) (hwf : ∀ x ∈ acts, x.Wf) :
    Calls Try.prog 6 #[v] w fun e w' => e = .returned (.bool true) ∧ Below w.heap.size w w' := by
  have hmm := @run_makeMap Try.prog
  have hH := hid (rd_base hrd)
  obtain ⟨a, cap, rfl, hm, hcap⟩ := hrd.form
  have hl : acts.length ≤ 9223372036854775807 := by simpa [maxLen] using hm
  have o0 := Own.start w
  have hwfH := hid hwf
  clear hrd hwf
  go_enter Try.func6, Try.ntmps6
  go_wp2_with fail
  refine (awake_c _ _ o0).mono ?_
  rintro e w1 ⟨rfl, o1, e1⟩
  go_wp2_with fail
  refine (new_c _ _ o1).mono ?_
  rintro e w2 ⟨p, rfl, o2, e2⟩
  obtain ⟨hm0, o3⟩ := map_made (P := Try.prog) (k := 23) (R := RB) o2
  have o3H := hid o3.swap
  have hm0H := hid hm0
  clear o0 o1 o2 o3 hm0
  go_wp2_with fail
  go_loopw [4, 6] (fun lv i wr => ∃ (k : Nat) (r : Reg) (L : Int) (es : Array MapEntry) (clk : Nat) (D : DataW Unit), i = .int .i64 k ∧ k ≤ acts.length ∧ lv = .int .u64 L ∧ NumI r D L ∧ GMap es clk k D ∧ Own wr (regC p r :: pts w2.heap.size (.map es clk) :: [base w w.heap.size]) ∧ Ext w wr) (fun _ i wr => acts.length - (intOf i).toNat)
  case atStart => exact ⟨0, Reg.new, 0, _, _, _, rfl, Nat.zero_le _, rfl, ⟨Reg.Full.new, fun x hx => by simp [GoneB, Maps.has] at hx, rfl⟩, hm0H.out, o3H.out, (e1.trans e2).alloc _⟩
  case round =>
    obtain ⟨k, r, L, es, clk, D, rfl, hk, rfl, hI, hM, ok, ek⟩ := hrel
    have okH := hid ok
    have hIH := hid hI
    have hMH := hid hM
    clear hI hM
    by_cases hlt : k < acts.length
    · have hb1 : decide (k < acts.length) = true := decide_eq_true hlt
      by_cases h60 : k < 60
      · have hb2 : decide (k < 60) = true := decide_eq_true h60
        obtain ⟨x, hx⟩ : ∃ x, acts[k]? = some x := ⟨_, List.getElem?_eq_getElem hlt⟩
        have hxw := hwfH.out x (List.mem_of_getElem? hx)
        have hx0 := u64_nonneg hxw.now
        rcases hH.out wr _ (Own.pick 2 ok) with ⟨_, hxs⟩ | ⟨g, off, cap', hv, h1, h2, hcell⟩
        · rw [hxs] at hx; simp at hx
        obtain ⟨rfl, rfl⟩ : a = some ⟨g, off, none⟩ ∧ cap = cap' := by simpa using hv
        obtain ⟨c0, c1, c2, c3⟩ := rd_act hcell hx
        have hgl : g < wr.heap.size := World.block_lt_of_cell? wr _ c0
        clear hx ok hcell
        have hn0 := hIH.out.full.ok.n0
        have hn1 := hIH.out.full.ok.n1
        have hlen := hIH.out.full.ok.len
        have ob := Own.pick 2 (Own.pick 2 (okH.out.alloc (.cells #[.int .i64 x.kind, .int .u64 x.t, .int .u64 x.lease, .int .u64 x.now] 30)))
        have ebx := ek.alloc (.cells #[.int .i64 x.kind, .int .u64 x.t, .int .u64 x.lease, .int .u64 x.now] 30)
        have hz : wr.heap.size < (wr.alloc (.cells #[.int .i64 x.kind, .int .u64 x.t, .int .u64 x.lease, .int .u64 x.now] 30)).heap.size := by simp
        by_cases kk0 : x.kind = 3
        · skip
          have hb0 : (x.kind == 0) = false := by rw [kk0]; rfl
          have hb1 : (x.kind == 1) = false := by rw [kk0]; rfl
          have hb2 : (x.kind == 2) = false := by rw [kk0]; rfl
          have hb3 : (x.kind == 3) = true := by rw [kk0]; rfl
          clear kk0
          have hNI : Hid (NumI (r.advance x.t x.now) D L) := hid ⟨hIH.out.full.advance _ _, hIH.out.apart.advance _ _, hIH.out.next⟩
          go_wp2_with fail
          refine (advance_c p x.t x.now r (by omega) _ _ ob).mono ?_
          rintro e w4 ⟨rfl, ot, e4⟩
          have et := ebx.trans e4
          have hMq := hid (hMH.out.mono (Nat.le_succ k))
          clear ob
          have hnx := hNI.out.next
          have hq0 := hNI.out.full.ok.n0
          have hq1 := hNI.out.full.ok.n1
          have hq5 := hNI.out.full.ok.len
          have hwL : IntKind.u64.wrap (L + 1) = (r.advance x.t x.now).next := by rw [IntWalk.u64_in _ (by omega)]; exact hnx
          have hb9 : ((r.advance x.t x.now).next != (r.advance x.t x.now).next) = false := by simp
          have hb8 : decide ((5 : Int) < ((r.advance x.t x.now).l.length : Int)) = false := decide_eq_false (by omega)
          go_wp2_with fail
          refine Calls.mono (state_c p (r.advance x.t x.now) (by omega) _ _ ot) ?_
          rintro e ws ⟨vs, rfl, os, es9⟩
          obtain ⟨A6, c6, rfl, hm6, hc6⟩ := (sl_rd os).form
          have hl6 : (r.advance x.t x.now).l.length ≤ 9223372036854775807 := by omega
          have osH := hid os
          clear ot os
          go_wp2_with fail
          go_loopw [129] (fun j wq => ∃ m : Nat, j = .int .i64 m ∧ m ≤ (r.advance x.t x.now).l.length ∧ Own wq (sl 54 leaseE (.slice A6 (r.advance x.t x.now).l.length c6) (r.advance x.t x.now).l :: regC p (r.advance x.t x.now) :: pts w2.heap.size (.map es clk) :: pts wr.heap.size (.cells #[.int .i64 x.kind, .int .u64 x.t, .int .u64 x.lease, .int .u64 x.now] 30 (0, 0)) :: [base w w.heap.size]) ∧ Ext w wq) (fun j _ => (r.advance x.t x.now).l.length - (intOf j).toNat)
          case atStart => exact ⟨0, rfl, Nat.zero_le _, osH.out, et.trans es9⟩
          case round =>
            obtain ⟨m, rfl, hmk, oq, eq⟩ := hrel
            have oqH := hid oq
            by_cases hm7 : m < (r.advance x.t x.now).l.length
            · obtain ⟨y, hy⟩ : ∃ y, (r.advance x.t x.now).l[m]? = some y := ⟨_, List.getElem?_eq_getElem hm7⟩
              obtain ⟨g6, cap6, hv6, hgl6, _, hn6, hcap6, d0, d1, d2, _, _, _⟩ := sl_get oq hy
              simp only [Value.slice.injEq] at hv6
              obtain ⟨rfl, _, rfl⟩ := hv6
              have hym := List.mem_of_getElem? hy
              have hyl := hNI.out.full.ok.lt y hym
              have hy0 := (hNI.out.full.each y hym).1
              have hlk := gone_look (Own.pick 3 (oq.alloc (.cells #[.int .u64 y.id, .int .u64 y.time, .int .u64 y.until_] 54))) hMq.out (wf_u64 (x := y.id) (by omega) (by omega)) (fun h => (hNI.out.apart _ h).2 y hym rfl)
              have hle : decide (L < y.id) = false := decide_eq_false (by omega)
              clear oq hy hym
              go_wp2
              go_roundw
              case rel => exact ⟨m + 1, by go_num, by omega, oqH.out.allocd, eq.alloc _⟩
              case measure => simp [intOf]; omega
            · clear oq
              go_wp2
              go_roundw
              case rel => exact ⟨k + 1, (r.advance x.t x.now), L, es, clk, D, by go_num, by omega, rfl, hNI.out, hMq.out, (Own.pick 2 oqH.out.drop).drop, eq⟩
              case measure => simp [intOf]; omega
        by_cases kk1 : x.kind = 1
        · skip
          have hb0 : (x.kind == 0) = false := by rw [kk1]; rfl
          have hb1 : (x.kind == 1) = true := by rw [kk1]; rfl
          have hb2 : (x.kind == 2) = false := by rw [kk1]; rfl
          have hb3 : (x.kind == 3) = false := by rw [kk1]; rfl
          clear kk1
          have hNI : Hid (NumI (r.renew x.t x.lease x.now).1 D L) := hid ⟨hIH.out.full.renew _ _ _ hx0, hIH.out.apart.renew _ _ _, by rw [renew_next]; exact hIH.out.next⟩
          go_wp2_with fail
          refine Calls.mono (renew_c p x.t x.lease x.now r hx0 _ _ ob) ?_
          rintro e w4 ⟨rfl, ot, e4⟩
          have et := ebx.trans e4
          have hMq := hid (hMH.out.mono (Nat.le_succ k))
          clear ob
          have hnx := hNI.out.next
          have hq0 := hNI.out.full.ok.n0
          have hq1 := hNI.out.full.ok.n1
          have hq5 := hNI.out.full.ok.len
          have hwL : IntKind.u64.wrap (L + 1) = (r.renew x.t x.lease x.now).1.next := by rw [IntWalk.u64_in _ (by omega)]; exact hnx
          have hb9 : ((r.renew x.t x.lease x.now).1.next != (r.renew x.t x.lease x.now).1.next) = false := by simp
          have hb8 : decide ((5 : Int) < ((r.renew x.t x.lease x.now).1.l.length : Int)) = false := decide_eq_false (by omega)
          go_wp2_with fail
          refine Calls.mono (state_c p (r.renew x.t x.lease x.now).1 (by omega) _ _ ot) ?_
          rintro e ws ⟨vs, rfl, os, es9⟩
          obtain ⟨A6, c6, rfl, hm6, hc6⟩ := (sl_rd os).form
          have hl6 : (r.renew x.t x.lease x.now).1.l.length ≤ 9223372036854775807 := by omega
          have osH := hid os
          clear ot os
          go_wp2_with fail
          go_loopw [129] (fun j wq => ∃ m : Nat, j = .int .i64 m ∧ m ≤ (r.renew x.t x.lease x.now).1.l.length ∧ Own wq (sl 54 leaseE (.slice A6 (r.renew x.t x.lease x.now).1.l.length c6) (r.renew x.t x.lease x.now).1.l :: regC p (r.renew x.t x.lease x.now).1 :: pts w2.heap.size (.map es clk) :: pts wr.heap.size (.cells #[.int .i64 x.kind, .int .u64 x.t, .int .u64 x.lease, .int .u64 x.now] 30 (0, 0)) :: [base w w.heap.size]) ∧ Ext w wq) (fun j _ => (r.renew x.t x.lease x.now).1.l.length - (intOf j).toNat)
          case atStart => exact ⟨0, rfl, Nat.zero_le _, osH.out, et.trans es9⟩
          case round =>
            obtain ⟨m, rfl, hmk, oq, eq⟩ := hrel
            have oqH := hid oq
            by_cases hm7 : m < (r.renew x.t x.lease x.now).1.l.length
            · obtain ⟨y, hy⟩ : ∃ y, (r.renew x.t x.lease x.now).1.l[m]? = some y := ⟨_, List.getElem?_eq_getElem hm7⟩
              obtain ⟨g6, cap6, hv6, hgl6, _, hn6, hcap6, d0, d1, d2, _, _, _⟩ := sl_get oq hy
              simp only [Value.slice.injEq] at hv6
              obtain ⟨rfl, _, rfl⟩ := hv6
              have hym := List.mem_of_getElem? hy
              have hyl := hNI.out.full.ok.lt y hym
              have hy0 := (hNI.out.full.each y hym).1
              have hlk := gone_look (Own.pick 3 (oq.alloc (.cells #[.int .u64 y.id, .int .u64 y.time, .int .u64 y.until_] 54))) hMq.out (wf_u64 (x := y.id) (by omega) (by omega)) (fun h => (hNI.out.apart _ h).2 y hym rfl)
              have hle : decide (L < y.id) = false := decide_eq_false (by omega)
              clear oq hy hym
              go_wp2
              go_roundw
              case rel => exact ⟨m + 1, by go_num, by omega, oqH.out.allocd, eq.alloc _⟩
              case measure => simp [intOf]; omega
            · clear oq
              go_wp2
              go_roundw
              case rel => exact ⟨k + 1, (r.renew x.t x.lease x.now).1, L, es, clk, D, by go_num, by omega, rfl, hNI.out, hMq.out, (Own.pick 2 oqH.out.drop).drop, eq⟩
              case measure => simp [intOf]; omega
        by_cases kk2 : x.kind = 2
        · skip
          have hb0 : (x.kind == 0) = false := by rw [kk2]; rfl
          have hb1 : (x.kind == 1) = false := by rw [kk2]; rfl
          have hb2 : (x.kind == 2) = true := by rw [kk2]; rfl
          have hb3 : (x.kind == 3) = false := by rw [kk2]; rfl
          clear kk2
          have hrc := hid (release_c p x.t r (by omega) _ _ ob)
          clear ob
          by_cases h0 : (r.release x.t).2 = 0
          · have hNI : Hid (NumI (r.release x.t).1 (D.put (.int .u64 x.t) (.lit (.bool true))) L) := hid ⟨hIH.out.full.release _, gone_put (hIH.out.apart.released hIH.out.full.ok h0), by rw [release_next]; exact hIH.out.next⟩
            have hrb : ((r.release x.t).2 == 0) = true := by simpa using h0
            clear h0
            go_wp2_with fail
            refine Calls.mono hrc.out ?_
            rintro e w4 ⟨rfl, o4, e4⟩
            have m1 := (Own.pick 2 o4).cell (i := 1) (v := .int .u64 x.t) rfl
            have mz := (Own.pick 2 o4).lt
            go_wp2_with (first | (at_mapUpdate; refine wpList_mapUpdate_own _ rfl _ _ _ 58 rfl 23 4 law64 Try.underlying58 RB w2.heap.size k D rfl (own_map (Own.pick 1 o4) hMH.out) (by unfold maxLen; omega) _ _ _ rfl rfl (keyOf_int_mk Try.underlying23 hxw.t) _ [] (plainElem_bool Try.underlying4 true) ?_; intro w5 hown5 hgrow5) | fail)
            obtain ⟨es5, clk5, hM5, o5⟩ := map_turn (Own.pick 1 o4) hown5 hgrow5
            have ot := o5.swap
            have et := (ebx.trans e4).trans (ext_grown hgrow5)
            have hMq : Hid (GMap es5 clk5 (k + 1) (D.put (.int .u64 x.t) (.lit (.bool true)))) := hid hM5
            clear o4 o5 m1 hown5 hgrow5 hM5
            have hnx := hNI.out.next
            have hq0 := hNI.out.full.ok.n0
            have hq1 := hNI.out.full.ok.n1
            have hq5 := hNI.out.full.ok.len
            have hwL : IntKind.u64.wrap (L + 1) = (r.release x.t).1.next := by rw [IntWalk.u64_in _ (by omega)]; exact hnx
            have hb9 : ((r.release x.t).1.next != (r.release x.t).1.next) = false := by simp
            have hb8 : decide ((5 : Int) < ((r.release x.t).1.l.length : Int)) = false := decide_eq_false (by omega)
            go_wp2_with fail
            refine Calls.mono (state_c p (r.release x.t).1 (by omega) _ _ ot) ?_
            rintro e ws ⟨vs, rfl, os, es9⟩
            obtain ⟨A6, c6, rfl, hm6, hc6⟩ := (sl_rd os).form
            have hl6 : (r.release x.t).1.l.length ≤ 9223372036854775807 := by omega
            have osH := hid os
            clear ot os
            go_wp2_with fail
            go_loopw [129] (fun j wq => ∃ m : Nat, j = .int .i64 m ∧ m ≤ (r.release x.t).1.l.length ∧ Own wq (sl 54 leaseE (.slice A6 (r.release x.t).1.l.length c6) (r.release x.t).1.l :: regC p (r.release x.t).1 :: pts w2.heap.size (.map es5 clk5) :: pts wr.heap.size (.cells #[.int .i64 x.kind, .int .u64 x.t, .int .u64 x.lease, .int .u64 x.now] 30 (0, 0)) :: [base w w.heap.size]) ∧ Ext w wq) (fun j _ => (r.release x.t).1.l.length - (intOf j).toNat)
            case atStart => exact ⟨0, rfl, Nat.zero_le _, osH.out, et.trans es9⟩
            case round =>
              obtain ⟨m, rfl, hmk, oq, eq⟩ := hrel
              have oqH := hid oq
              by_cases hm7 : m < (r.release x.t).1.l.length
              · obtain ⟨y, hy⟩ : ∃ y, (r.release x.t).1.l[m]? = some y := ⟨_, List.getElem?_eq_getElem hm7⟩
                obtain ⟨g6, cap6, hv6, hgl6, _, hn6, hcap6, d0, d1, d2, _, _, _⟩ := sl_get oq hy
                simp only [Value.slice.injEq] at hv6
                obtain ⟨rfl, _, rfl⟩ := hv6
                have hym := List.mem_of_getElem? hy
                have hyl := hNI.out.full.ok.lt y hym
                have hy0 := (hNI.out.full.each y hym).1
                have hlk := gone_look (Own.pick 3 (oq.alloc (.cells #[.int .u64 y.id, .int .u64 y.time, .int .u64 y.until_] 54))) hMq.out (wf_u64 (x := y.id) (by omega) (by omega)) (fun h => (hNI.out.apart _ h).2 y hym rfl)
                have hle : decide (L < y.id) = false := decide_eq_false (by omega)
                clear oq hy hym
                go_wp2
                go_roundw
                case rel => exact ⟨m + 1, by go_num, by omega, oqH.out.allocd, eq.alloc _⟩
                case measure => simp [intOf]; omega
              · clear oq
                go_wp2
                go_roundw
                case rel => exact ⟨k + 1, (r.release x.t).1, L, es5, clk5, (D.put (.int .u64 x.t) (.lit (.bool true))), by go_num, by omega, rfl, hNI.out, hMq.out, (Own.pick 2 oqH.out.drop).drop, eq⟩
                case measure => simp [intOf]; omega
          have hNI : Hid (NumI (r.release x.t).1 D L) := hid ⟨hIH.out.full.release _, hIH.out.apart.release _, by rw [release_next]; exact hIH.out.next⟩
          have hrb : ((r.release x.t).2 == 0) = false := by simpa using h0
          clear h0
          go_wp2_with fail
          refine Calls.mono hrc.out ?_
          rintro e w4 ⟨rfl, ot, e4⟩
          have et := ebx.trans e4
          have hMq := hid (hMH.out.mono (Nat.le_succ k))
          have hnx := hNI.out.next
          have hq0 := hNI.out.full.ok.n0
          have hq1 := hNI.out.full.ok.n1
          have hq5 := hNI.out.full.ok.len
          have hwL : IntKind.u64.wrap (L + 1) = (r.release x.t).1.next := by rw [IntWalk.u64_in _ (by omega)]; exact hnx
          have hb9 : ((r.release x.t).1.next != (r.release x.t).1.next) = false := by simp
          have hb8 : decide ((5 : Int) < ((r.release x.t).1.l.length : Int)) = false := decide_eq_false (by omega)
          go_wp2_with fail
          refine Calls.mono (state_c p (r.release x.t).1 (by omega) _ _ ot) ?_
          rintro e ws ⟨vs, rfl, os, es9⟩
          obtain ⟨A6, c6, rfl, hm6, hc6⟩ := (sl_rd os).form
          have hl6 : (r.release x.t).1.l.length ≤ 9223372036854775807 := by omega
          have osH := hid os
          clear ot os
          go_wp2_with fail
          go_loopw [129] (fun j wq => ∃ m : Nat, j = .int .i64 m ∧ m ≤ (r.release x.t).1.l.length ∧ Own wq (sl 54 leaseE (.slice A6 (r.release x.t).1.l.length c6) (r.release x.t).1.l :: regC p (r.release x.t).1 :: pts w2.heap.size (.map es clk) :: pts wr.heap.size (.cells #[.int .i64 x.kind, .int .u64 x.t, .int .u64 x.lease, .int .u64 x.now] 30 (0, 0)) :: [base w w.heap.size]) ∧ Ext w wq) (fun j _ => (r.release x.t).1.l.length - (intOf j).toNat)
          case atStart => exact ⟨0, rfl, Nat.zero_le _, osH.out, et.trans es9⟩
          case round =>
            obtain ⟨m, rfl, hmk, oq, eq⟩ := hrel
            have oqH := hid oq
            by_cases hm7 : m < (r.release x.t).1.l.length
            · obtain ⟨y, hy⟩ : ∃ y, (r.release x.t).1.l[m]? = some y := ⟨_, List.getElem?_eq_getElem hm7⟩
              obtain ⟨g6, cap6, hv6, hgl6, _, hn6, hcap6, d0, d1, d2, _, _, _⟩ := sl_get oq hy
              simp only [Value.slice.injEq] at hv6
              obtain ⟨rfl, _, rfl⟩ := hv6
              have hym := List.mem_of_getElem? hy
              have hyl := hNI.out.full.ok.lt y hym
              have hy0 := (hNI.out.full.each y hym).1
              have hlk := gone_look (Own.pick 3 (oq.alloc (.cells #[.int .u64 y.id, .int .u64 y.time, .int .u64 y.until_] 54))) hMq.out (wf_u64 (x := y.id) (by omega) (by omega)) (fun h => (hNI.out.apart _ h).2 y hym rfl)
              have hle : decide (L < y.id) = false := decide_eq_false (by omega)
              clear oq hy hym
              go_wp2
              go_roundw
              case rel => exact ⟨m + 1, by go_num, by omega, oqH.out.allocd, eq.alloc _⟩
              case measure => simp [intOf]; omega
            · clear oq
              go_wp2
              go_roundw
              case rel => exact ⟨k + 1, (r.release x.t).1, L, es, clk, D, by go_num, by omega, rfl, hNI.out, hMq.out, (Own.pick 2 oqH.out.drop).drop, eq⟩
              case measure => simp [intOf]; omega
        by_cases kk3 : x.kind = 0
        · skip
          have hb0 : (x.kind == 0) = true := by rw [kk3]; rfl
          have hb1 : (x.kind == 1) = false := by rw [kk3]; rfl
          have hb2 : (x.kind == 2) = false := by rw [kk3]; rfl
          have hb3 : (x.kind == 3) = false := by rw [kk3]; rfl
          clear kk3
          have hrc := hid (register_c p x.t x.lease x.now r hx0 (by omega) hn1 (by omega) _ _ ob)
          clear ob
          by_cases h0 : (r.register x.t x.lease x.now).2.2 = 0
          · obtain ⟨f1, f2, f3⟩ := register_new hIH.out.full.ok h0
            have hNI : Hid (NumI (r.register x.t x.lease x.now).1 D r.next) := hid ⟨hIH.out.full.register _ _ _ hx0, hIH.out.apart.register _ _ _, f2.symm⟩
            have hwL0 : IntKind.u64.wrap (L + 1) = r.next := by rw [IntWalk.u64_in _ (by have := hIH.out.next; omega)]; exact hIH.out.next
            have f1H := hid f1
            have f3H := hid f3
            have h0H := hid h0
            clear h0 f1 f2 f3
            go_wp2_with fail
            refine Calls.mono hrc.out ?_
            rintro e w4 ⟨he, o4, e4⟩
            rw [f1H.out, h0H.out] at he
            subst he
            have m1 := (Own.pick 2 o4).cell (i := 1) (v := .int .u64 x.t) rfl
            have m3 := (Own.pick 2 o4).cell (i := 3) (v := .int .u64 x.now) rfl
            have mz := (Own.pick 2 o4).lt
            go_wp2_with fail
            refine Calls.mono (check_c p r.next x.now _ _ _ o4) ?_
            rintro e w5 ⟨he, ot, e5⟩
            rw [f3H.out] at he
            subst he
            have n1 := (Own.pick 2 ot).cell (i := 1) (v := .int .u64 x.t) rfl
            have nz := (Own.pick 2 ot).lt
            have et := (ebx.trans e4).trans e5
            have hMq := hid (hMH.out.mono (Nat.le_succ k))
            clear o4 m1 m3
            have hnx := hNI.out.next
            have hq0 := hNI.out.full.ok.n0
            have hq1 := hNI.out.full.ok.n1
            have hq5 := hNI.out.full.ok.len
            have hwL : IntKind.u64.wrap (r.next + 1) = (r.register x.t x.lease x.now).1.next := by rw [IntWalk.u64_in _ (by omega)]; exact hnx
            have hb9 : ((r.register x.t x.lease x.now).1.next != (r.register x.t x.lease x.now).1.next) = false := by simp
            have hb8 : decide ((5 : Int) < ((r.register x.t x.lease x.now).1.l.length : Int)) = false := decide_eq_false (by omega)
            go_wp2_with fail
            refine Calls.mono (state_c p (r.register x.t x.lease x.now).1 (by omega) _ _ ot) ?_
            rintro e ws ⟨vs, rfl, os, es9⟩
            obtain ⟨A6, c6, rfl, hm6, hc6⟩ := (sl_rd os).form
            have hl6 : (r.register x.t x.lease x.now).1.l.length ≤ 9223372036854775807 := by omega
            have osH := hid os
            clear ot os
            go_wp2_with fail
            go_loopw [129] (fun j wq => ∃ m : Nat, j = .int .i64 m ∧ m ≤ (r.register x.t x.lease x.now).1.l.length ∧ Own wq (sl 54 leaseE (.slice A6 (r.register x.t x.lease x.now).1.l.length c6) (r.register x.t x.lease x.now).1.l :: regC p (r.register x.t x.lease x.now).1 :: pts w2.heap.size (.map es clk) :: pts wr.heap.size (.cells #[.int .i64 x.kind, .int .u64 x.t, .int .u64 x.lease, .int .u64 x.now] 30 (0, 0)) :: [base w w.heap.size]) ∧ Ext w wq) (fun j _ => (r.register x.t x.lease x.now).1.l.length - (intOf j).toNat)
            case atStart => exact ⟨0, rfl, Nat.zero_le _, osH.out, et.trans es9⟩
            case round =>
              obtain ⟨m, rfl, hmk, oq, eq⟩ := hrel
              have oqH := hid oq
              by_cases hm7 : m < (r.register x.t x.lease x.now).1.l.length
              · obtain ⟨y, hy⟩ : ∃ y, (r.register x.t x.lease x.now).1.l[m]? = some y := ⟨_, List.getElem?_eq_getElem hm7⟩
                obtain ⟨g6, cap6, hv6, hgl6, _, hn6, hcap6, d0, d1, d2, _, _, _⟩ := sl_get oq hy
                simp only [Value.slice.injEq] at hv6
                obtain ⟨rfl, _, rfl⟩ := hv6
                have hym := List.mem_of_getElem? hy
                have hyl := hNI.out.full.ok.lt y hym
                have hy0 := (hNI.out.full.each y hym).1
                have hlk := gone_look (Own.pick 3 (oq.alloc (.cells #[.int .u64 y.id, .int .u64 y.time, .int .u64 y.until_] 54))) hMq.out (wf_u64 (x := y.id) (by omega) (by omega)) (fun h => (hNI.out.apart _ h).2 y hym rfl)
                have hle : decide (r.next < y.id) = false := decide_eq_false (by omega)
                clear oq hy hym
                go_wp2
                go_roundw
                case rel => exact ⟨m + 1, by go_num, by omega, oqH.out.allocd, eq.alloc _⟩
                case measure => simp [intOf]; omega
              · clear oq
                go_wp2
                go_roundw
                case rel => exact ⟨k + 1, (r.register x.t x.lease x.now).1, r.next, es, clk, D, by go_num, by omega, rfl, hNI.out, hMq.out, (Own.pick 2 oqH.out.drop).drop, eq⟩
                case measure => simp [intOf]; omega
          obtain ⟨f1, f2⟩ := register_bad h0
          have hNI : Hid (NumI (r.register x.t x.lease x.now).1 D L) := hid ⟨hIH.out.full.register _ _ _ hx0, hIH.out.apart.register _ _ _, by rw [f2]; exact hIH.out.next⟩
          have f1H := hid f1
          have hrb : ((r.register x.t x.lease x.now).2.2 == 0) = false := by simpa using h0
          have hrb2 : ((r.register x.t x.lease x.now).2.2 != 0) = true := by simpa using h0
          clear h0 f1 f2
          go_wp2_with fail
          refine Calls.mono hrc.out ?_
          rintro e w4 ⟨he, ot, e4⟩
          rw [f1H.out] at he
          subst he
          have et := ebx.trans e4
          have hMq := hid (hMH.out.mono (Nat.le_succ k))
          have hnx := hNI.out.next
          have hq0 := hNI.out.full.ok.n0
          have hq1 := hNI.out.full.ok.n1
          have hq5 := hNI.out.full.ok.len
          have hwL : IntKind.u64.wrap (L + 1) = (r.register x.t x.lease x.now).1.next := by rw [IntWalk.u64_in _ (by omega)]; exact hnx
          have hb9 : ((r.register x.t x.lease x.now).1.next != (r.register x.t x.lease x.now).1.next) = false := by simp
          have hb8 : decide ((5 : Int) < ((r.register x.t x.lease x.now).1.l.length : Int)) = false := decide_eq_false (by omega)
          go_wp2_with fail
          refine Calls.mono (state_c p (r.register x.t x.lease x.now).1 (by omega) _ _ ot) ?_
          rintro e ws ⟨vs, rfl, os, es9⟩
          obtain ⟨A6, c6, rfl, hm6, hc6⟩ := (sl_rd os).form
          have hl6 : (r.register x.t x.lease x.now).1.l.length ≤ 9223372036854775807 := by omega
          have osH := hid os
          clear ot os
          go_wp2_with fail
          go_loopw [129] (fun j wq => ∃ m : Nat, j = .int .i64 m ∧ m ≤ (r.register x.t x.lease x.now).1.l.length ∧ Own wq (sl 54 leaseE (.slice A6 (r.register x.t x.lease x.now).1.l.length c6) (r.register x.t x.lease x.now).1.l :: regC p (r.register x.t x.lease x.now).1 :: pts w2.heap.size (.map es clk) :: pts wr.heap.size (.cells #[.int .i64 x.kind, .int .u64 x.t, .int .u64 x.lease, .int .u64 x.now] 30 (0, 0)) :: [base w w.heap.size]) ∧ Ext w wq) (fun j _ => (r.register x.t x.lease x.now).1.l.length - (intOf j).toNat)
          case atStart => exact ⟨0, rfl, Nat.zero_le _, osH.out, et.trans es9⟩
          case round =>
            obtain ⟨m, rfl, hmk, oq, eq⟩ := hrel
            have oqH := hid oq
            by_cases hm7 : m < (r.register x.t x.lease x.now).1.l.length
            · obtain ⟨y, hy⟩ : ∃ y, (r.register x.t x.lease x.now).1.l[m]? = some y := ⟨_, List.getElem?_eq_getElem hm7⟩
              obtain ⟨g6, cap6, hv6, hgl6, _, hn6, hcap6, d0, d1, d2, _, _, _⟩ := sl_get oq hy
              simp only [Value.slice.injEq] at hv6
              obtain ⟨rfl, _, rfl⟩ := hv6
              have hym := List.mem_of_getElem? hy
              have hyl := hNI.out.full.ok.lt y hym
              have hy0 := (hNI.out.full.each y hym).1
              have hlk := gone_look (Own.pick 3 (oq.alloc (.cells #[.int .u64 y.id, .int .u64 y.time, .int .u64 y.until_] 54))) hMq.out (wf_u64 (x := y.id) (by omega) (by omega)) (fun h => (hNI.out.apart _ h).2 y hym rfl)
              have hle : decide (L < y.id) = false := decide_eq_false (by omega)
              clear oq hy hym
              go_wp2
              go_roundw
              case rel => exact ⟨m + 1, by go_num, by omega, oqH.out.allocd, eq.alloc _⟩
              case measure => simp [intOf]; omega
            · clear oq
              go_wp2
              go_roundw
              case rel => exact ⟨k + 1, (r.register x.t x.lease x.now).1, L, es, clk, D, by go_num, by omega, rfl, hNI.out, hMq.out, (Own.pick 2 oqH.out.drop).drop, eq⟩
              case measure => simp [intOf]; omega
        · skip
          have hb3 : (x.kind == 3) = false := by simpa using kk0
          have hb1 : (x.kind == 1) = false := by simpa using kk1
          have hb2 : (x.kind == 2) = false := by simpa using kk2
          have hb0 : (x.kind == 0) = false := by simpa using kk3
          clear kk0 kk1 kk2 kk3
          have hNI := hIH
          have ot := ob
          have et := ebx
          have hMq := hid (hMH.out.mono (Nat.le_succ k))
          clear ob
          have hnx := hNI.out.next
          have hq0 := hNI.out.full.ok.n0
          have hq1 := hNI.out.full.ok.n1
          have hq5 := hNI.out.full.ok.len
          have hwL : IntKind.u64.wrap (L + 1) = r.next := by rw [IntWalk.u64_in _ (by omega)]; exact hnx
          have hb9 : (r.next != r.next) = false := by simp
          have hb8 : decide ((5 : Int) < (r.l.length : Int)) = false := decide_eq_false (by omega)
          go_wp2_with fail
          refine Calls.mono (state_c p r (by omega) _ _ ot) ?_
          rintro e ws ⟨vs, rfl, os, es9⟩
          obtain ⟨A6, c6, rfl, hm6, hc6⟩ := (sl_rd os).form
          have hl6 : r.l.length ≤ 9223372036854775807 := by omega
          have osH := hid os
          clear ot os
          go_wp2_with fail
          go_loopw [129] (fun j wq => ∃ m : Nat, j = .int .i64 m ∧ m ≤ r.l.length ∧ Own wq (sl 54 leaseE (.slice A6 r.l.length c6) r.l :: regC p r :: pts w2.heap.size (.map es clk) :: pts wr.heap.size (.cells #[.int .i64 x.kind, .int .u64 x.t, .int .u64 x.lease, .int .u64 x.now] 30 (0, 0)) :: [base w w.heap.size]) ∧ Ext w wq) (fun j _ => r.l.length - (intOf j).toNat)
          case atStart => exact ⟨0, rfl, Nat.zero_le _, osH.out, et.trans es9⟩
          case round =>
            obtain ⟨m, rfl, hmk, oq, eq⟩ := hrel
            have oqH := hid oq
            by_cases hm7 : m < r.l.length
            · obtain ⟨y, hy⟩ : ∃ y, r.l[m]? = some y := ⟨_, List.getElem?_eq_getElem hm7⟩
              obtain ⟨g6, cap6, hv6, hgl6, _, hn6, hcap6, d0, d1, d2, _, _, _⟩ := sl_get oq hy
              simp only [Value.slice.injEq] at hv6
              obtain ⟨rfl, _, rfl⟩ := hv6
              have hym := List.mem_of_getElem? hy
              have hyl := hNI.out.full.ok.lt y hym
              have hy0 := (hNI.out.full.each y hym).1
              have hlk := gone_look (Own.pick 3 (oq.alloc (.cells #[.int .u64 y.id, .int .u64 y.time, .int .u64 y.until_] 54))) hMq.out (wf_u64 (x := y.id) (by omega) (by omega)) (fun h => (hNI.out.apart _ h).2 y hym rfl)
              have hle : decide (L < y.id) = false := decide_eq_false (by omega)
              clear oq hy hym
              go_wp2
              go_roundw
              case rel => exact ⟨m + 1, by go_num, by omega, oqH.out.allocd, eq.alloc _⟩
              case measure => simp [intOf]; omega
            · clear oq
              go_wp2
              go_roundw
              case rel => exact ⟨k + 1, r, L, es, clk, D, by go_num, by omega, rfl, hNI.out, hMq.out, (Own.pick 2 oqH.out.drop).drop, eq⟩
              case measure => simp [intOf]; omega
      · have hb2 : decide (k < 60) = false := decide_eq_false h60
        skip
        clear ok
        go_wp2_with (first | (at_range; refine wpList_range_own _ rfl _ 58 rfl 23 4 law64 Try.underlying58 RB w2.heap.size k D rfl (own_map (Own.pick 1 okH.out) hMH.out) ?_; intro w5 hrg hg5 hs5) | fail)
        obtain ⟨y5, hy5⟩ : ∃ y, w5.heap[wr.heap.size]? = some y := ⟨_, Array.getElem?_eq_getElem (by omega)⟩
        have o5H := hid (Own.grow okH.out hy5 (fun j hj => hg5.block j hj (by simp)) hs5)
        have e5 := ek.trans (ext_grown hg5)
        go_frame
        go_loopw [17] (fun _ wq => ∃ (left : Lit → Bool) (cnt : Nat) (y : Obj), wq.ranges Try.prog 23 RB w2.heap.size wr.heap.size k D left cnt ∧ Own wq (pts wr.heap.size y :: regC p r :: pts w2.heap.size (.map es clk) :: [base w w.heap.size]) ∧ Ext w wq ∧ ∀ kl, left kl = true → Maps.has D kl = true) (fun _ wq => wq.rangeLeft w2.heap.size wr.heap.size)
        case atStart => exact ⟨_, _, y5, hrg, o5H.out, e5, fun kl h => h⟩
        case round =>
          obtain ⟨left, cnt, y, hrq, oq, eq, hleft⟩ := hrel
          have oqH := hid oq
          clear oq
          go_wp2_with (first | (at_next; refine wpList_next_ranges _ rfl _ rfl 23 law64 RB (Value.int .u64) (fun c : Value => c) key_inv (fun v _ _ => ⟨v, rfl⟩) w2.heap.size _ k D _ _ rfl hrq ?_ ?_) | fail)
          · intro _ _
            go_wp2
            go_ret
            exact ⟨rfl, below_of_own (Own.pick 3 oqH.out) eq⟩
          · intro xk c kl ya yb w6 cnt6 hkey hlk hv hat hrg6 hlt6 hg6 hs6 hen
            have hkl : kl = .int .u64 xk := by
              obtain ⟨x', hx', hkl, _⟩ := Maps.keyOf_int_inv Try.underlying23 hkey
              cases hx'
              exact hkl
            subst hkl
            have hgn : GoneB D xk := hleft _ hlk
            obtain ⟨_, _, _, _, _, _, _, _, _, hy6, _⟩ := id hrg6
            have o6 := oqH.out.turn hy6 (fun j hj hne => hg6.block j hj (fun e => hne (Option.some.inj e)))
            have o6H := hid o6
            have hleftH := hid hleft
            have hrqH := hid hrq
            have hrg6H := hid hrg6
            clear o6 hleft hrq hrg6 hat hv
            go_wp2_with fail
            refine Calls.mono (check_c p xk 0 r _ _ (Own.pick 1 o6H.out)) ?_
            rintro e w7 ⟨he, o7, e7⟩
            rw [check_none (fun y hy => (hIH.out.apart xk hgn).2 y hy)] at he
            subst he
            have o7H := hid (Own.pick 1 o7)
            clear o7
            have hrg7 := hid (ranges_same hrg6H.out ((Own.pick 2 o7H.out).get.trans (Own.pick 2 o6H.out).get.symm) (o7H.out.get.trans o6H.out.get.symm))
            go_wp2
            go_roundw
            case rel => exact ⟨_, cnt6, _, hrg7.out, o7H.out, (eq.trans (ext_grown hg6)).trans e7, fun z hz => hleftH.out z (by simp at hz; exact hz.1)⟩
            case measure => rw [hrg7.out.left_eq, hrqH.out.left_eq]; exact hlt6
    · have hb1 : decide (k < acts.length) = false := decide_eq_false hlt
      skip
      clear ok
      go_wp2_with (first | (at_range; refine wpList_range_own _ rfl _ 58 rfl 23 4 law64 Try.underlying58 RB w2.heap.size k D rfl (own_map (Own.pick 1 okH.out) hMH.out) ?_; intro w5 hrg hg5 hs5) | fail)
      obtain ⟨y5, hy5⟩ : ∃ y, w5.heap[wr.heap.size]? = some y := ⟨_, Array.getElem?_eq_getElem (by omega)⟩
      have o5H := hid (Own.grow okH.out hy5 (fun j hj => hg5.block j hj (by simp)) hs5)
      have e5 := ek.trans (ext_grown hg5)
      go_frame
      go_loopw [17] (fun _ wq => ∃ (left : Lit → Bool) (cnt : Nat) (y : Obj), wq.ranges Try.prog 23 RB w2.heap.size wr.heap.size k D left cnt ∧ Own wq (pts wr.heap.size y :: regC p r :: pts w2.heap.size (.map es clk) :: [base w w.heap.size]) ∧ Ext w wq ∧ ∀ kl, left kl = true → Maps.has D kl = true) (fun _ wq => wq.rangeLeft w2.heap.size wr.heap.size)
      case atStart => exact ⟨_, _, y5, hrg, o5H.out, e5, fun kl h => h⟩
      case round =>
        obtain ⟨left, cnt, y, hrq, oq, eq, hleft⟩ := hrel
        have oqH := hid oq
        clear oq
        go_wp2_with (first | (at_next; refine wpList_next_ranges _ rfl _ rfl 23 law64 RB (Value.int .u64) (fun c : Value => c) key_inv (fun v _ _ => ⟨v, rfl⟩) w2.heap.size _ k D _ _ rfl hrq ?_ ?_) | fail)
        · intro _ _
          go_wp2
          go_ret
          exact ⟨rfl, below_of_own (Own.pick 3 oqH.out) eq⟩
        · intro xk c kl ya yb w6 cnt6 hkey hlk hv hat hrg6 hlt6 hg6 hs6 hen
          have hkl : kl = .int .u64 xk := by
            obtain ⟨x', hx', hkl, _⟩ := Maps.keyOf_int_inv Try.underlying23 hkey
            cases hx'
            exact hkl
          subst hkl
          have hgn : GoneB D xk := hleft _ hlk
          obtain ⟨_, _, _, _, _, _, _, _, _, hy6, _⟩ := id hrg6
          have o6 := oqH.out.turn hy6 (fun j hj hne => hg6.block j hj (fun e => hne (Option.some.inj e)))
          have o6H := hid o6
          have hleftH := hid hleft
          have hrqH := hid hrq
          have hrg6H := hid hrg6
          clear o6 hleft hrq hrg6 hat hv
          go_wp2_with fail
          refine Calls.mono (check_c p xk 0 r _ _ (Own.pick 1 o6H.out)) ?_
          rintro e w7 ⟨he, o7, e7⟩
          rw [check_none (fun y hy => (hIH.out.apart xk hgn).2 y hy)] at he
          subst he
          have o7H := hid (Own.pick 1 o7)
          clear o7
          have hrg7 := hid (ranges_same hrg6H.out ((Own.pick 2 o7H.out).get.trans (Own.pick 2 o6H.out).get.symm) (o7H.out.get.trans o6H.out.get.symm))
          go_wp2
          go_roundw
          case rel => exact ⟨_, cnt6, _, hrg7.out, o7H.out, (eq.trans (ext_grown hg6)).trans e7, fun z hz => hleftH.out z (by simp at hz; exact hz.1)⟩
          case measure => rw [hrg7.out.left_eq, hrqH.out.left_eq]; exact hlt6
theorem snapNumbers_row (v : Value) (acts : List SAct) (w : World) (hrd : Rd w actE v acts) (hp : ∀ x ∈ acts, x.Wf) :
    Calls Try.prog 6 #[v] w fun e w' => e = .returned (.bool true) ∧ Below w.heap.size w w' := snapNumbers_walk v acts w hrd hp
end Go.Proofs.Ytkgflckfphecjaa
