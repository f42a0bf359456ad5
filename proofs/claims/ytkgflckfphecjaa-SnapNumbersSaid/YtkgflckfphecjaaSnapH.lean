/- A registry of leases: Register. -/
import Derived.Test.YtkgflckfphecjaaSnapG
namespace Go.Proofs.Ytkgflckfphecjaa
open Go.RowKit Go.Sl Go.Scree

def RegisterSays (p : Nat) (r : Reg) (t lease now : Int) (w : World) (F : List Chunk) : Prop :=
  Calls Try.prog 13 #[.pointer (some ⟨p, 0, none⟩), .int .u64 t, .int .u64 lease, .int .u64 now] w fun e w' => e = .returned (.tuple #[.int .u64 (r.register t lease now).2.1, .int .i64 (r.register t lease now).2.2]) ∧ Own w' (regC p (r.register t lease now).1 :: F) ∧ Ext w w'

theorem register_range (p : Nat) (t lease now : Int) (r : Reg) (h0 : 0 ≤ now) (w : World) (F : List Chunk) (o : Own w (regC p r :: F)) (h : timeB t = false ∨ untilB lease now = false ∨ r.next = 1099511627776) : RegisterSays p r t lease now w F := by
  have hR : r.register t lease now = (r, 0, 3) := by simp [Reg.register, h]
  unfold RegisterSays
  rw [hR]
  have oH := hid o
  obtain ⟨lv, o2⟩ := regC_open o
  have c2 := o2.cell (i := 2) (v := .int .u64 r.next) rfl
  clear hR o o2
  have hu : untilB lease now = true ∨ untilB lease now = false := by cases untilB lease now <;> simp
  rcases hu with hu | hu
  · have hT : timeB t = false ∨ timeB t = true ∧ r.next = 1099511627776 := by
      cases ht : timeB t
      · exact .inl rfl
      · exact .inr ⟨rfl, by simpa [ht, hu] using h⟩
    have huH := hid hu
    clear h hu
    rcases hT with hT | ⟨hT, hN⟩
    · go_enter Try.func13, Try.ntmps13
      go_wp2_with fail
      refine (until_yes lease now _ h0 huH.out).mono ?_
      rintro e w1 ⟨rfl, rfl⟩
      go_wp2_with fail
      refine (time_c t _).mono ?_
      rintro e w1 ⟨rfl, rfl⟩
      go_wp2
      go_ret2
      exact ⟨rfl, oH.out, Ext.refl _⟩
    · have hb : (r.next == 1099511627776) = true := by simpa using hN
      clear hN
      go_enter Try.func13, Try.ntmps13
      go_wp2_with fail
      refine (until_yes lease now _ h0 huH.out).mono ?_
      rintro e w1 ⟨rfl, rfl⟩
      go_wp2_with fail
      refine (time_c t _).mono ?_
      rintro e w1 ⟨rfl, rfl⟩
      go_wp2
      go_ret2
      exact ⟨rfl, oH.out, Ext.refl _⟩
  · have hT : timeB t = false ∨ timeB t = true := by cases timeB t <;> simp
    have huH := hid hu
    clear h hu
    rcases hT with hT | hT
    all_goals
      go_enter Try.func13, Try.ntmps13
      go_wp2_with fail
      refine (until_no lease now _ h0 huH.out).mono ?_
      rintro e w1 ⟨⟨v, rfl⟩, rfl⟩
      go_wp2_with fail
      refine (time_c t _).mono ?_
      rintro e w1 ⟨rfl, rfl⟩
      go_wp2
      go_ret2
      exact ⟨rfl, oH.out, Ext.refl _⟩

set_option maxHeartbeats 1600000 in
theorem register_goes (p : Nat) (t lease now : Int) (r : Reg) (h0 : 0 ≤ now) (hn0 : 0 ≤ r.next) (hn1 : r.next ≤ 1099511627776) (hlen : r.l.length ≤ 1000) (w : World) (F : List Chunk) (o : Own w (regC p r :: F)) (h : ¬ (timeB t = false ∨ untilB lease now = false ∨ r.next = 1099511627776)) : RegisterSays p r t lease now w F := by
  have hT : timeB t = true := by cases ht : timeB t <;> simp_all
  have hu : untilB lease now = true := by cases ht : untilB lease now <;> simp_all
  have hN : r.next ≠ 1099511627776 := fun e => h (.inr (.inr e))
  have hb : (r.next == 1099511627776) = false := by simpa using hN
  have hlt : r.next < 1099511627776 := by omega
  have huH := hid hu
  have oH := hid o
  obtain ⟨lv, o2⟩ := regC_open o
  have c1 := o2.cell (i := 1) (v := .int .u64 r.safe) rfl
  have c2 := o2.cell (i := 2) (v := .int .u64 r.next) rfl
  unfold RegisterSays
  by_cases hs : t < r.safe
  · have hR : r.register t lease now = (r, 0, 26) := by simp [Reg.register, h, hs]
    rw [hR]
    have hd : decide (t < r.safe) = true := by simpa using hs
    clear hR o o2 h hu hN
    go_enter Try.func13, Try.ntmps13
    go_wp2_with fail
    refine (until_yes lease now _ h0 huH.out).mono ?_
    rintro e w1 ⟨rfl, rfl⟩
    go_wp2_with fail
    refine (time_c t _).mono ?_
    rintro e w1 ⟨rfl, rfl⟩
    go_wp2
    go_ret2
    exact ⟨rfl, oH.out, Ext.refl _⟩
  · have hd : decide (t < r.safe) = false := by simpa using hs
    have hdr := drop_c p now r w F o
    have hlen2 : (r.drop now).l.length ≤ 1000 := Nat.le_trans (List.length_filter_le _ _) hlen
    have hR : r.register t lease now = if (r.drop now).l.length = 5 then (r.drop now, 0, 4) else ({ r.drop now with l := (r.drop now).l ++ [⟨(r.drop now).next, t, now + lease⟩], next := (r.drop now).next + 1 }, (r.drop now).next, 0) := by
      simp only [Reg.register, h, hs, if_false]
      rfl
    rw [hR]
    have hqn : (r.drop now).next = r.next := rfl
    have hq0 : 0 ≤ (r.drop now).next := hn0
    have hq1 : (r.drop now).next < 1099511627776 := hlt
    clear hR hqn
    generalize r.drop now = q at *
    have hdrH := hid hdr
    clear hdr o o2 h hu hN
    by_cases h5 : q.l.length = 5
    · have hb5 : ((q.l.length : Int) == 5) = true := by rw [beq_iff_eq]; omega
      rw [if_pos h5]
      clear h5
      go_enter Try.func13, Try.ntmps13
      go_wp2_with fail
      refine (until_yes lease now _ h0 huH.out).mono ?_
      rintro e w1 ⟨rfl, rfl⟩
      go_wp2_with fail
      refine (time_c t _).mono ?_
      rintro e w1 ⟨rfl, rfl⟩
      go_wp2_with fail
      refine hdrH.out.mono ?_
      rintro e w2 ⟨rfl, o3, e3⟩
      obtain ⟨lv2, o4⟩ := regC_open o3
      have d0 := o4.cell (i := 0) (v := lv2) rfl
      obtain ⟨a, cap, rfl, hm, hc⟩ := (sl_rd o4.swap).form
      have o3H := hid o3
      clear o3 o4
      go_wp2
      go_ret2
      exact ⟨rfl, o3H.out, e3⟩
    · have hb5 : ((q.l.length : Int) == 5) = false := by rw [beq_eq_false_iff_ne]; omega
      rw [if_neg h5]
      clear h5
      obtain ⟨i0, hi0, hz0, hz1, hz2⟩ := info_parts infoHeld
      go_enter Try.func13, Try.ntmps13
      go_wp2_with fail
      refine (until_yes lease now _ h0 huH.out).mono ?_
      rintro e w1 ⟨rfl, rfl⟩
      go_wp2_with fail
      refine (time_c t _).mono ?_
      rintro e w1 ⟨rfl, rfl⟩
      go_wp2_with fail
      refine hdrH.out.mono ?_
      rintro e w2 ⟨rfl, o3, e3⟩
      obtain ⟨lv2, o4⟩ := regC_open o3
      have d0 := o4.cell (i := 0) (v := lv2) rfl
      have d2 := o4.cell (i := 2) (v := .int .u64 q.next) rfl
      have f0 := o4.free 0
      have f2 := o4.free 2
      have hp := o4.lt
      obtain ⟨a, cap, rfl, hm, hc⟩ := (sl_rd o4.swap).form
      have o4H := hid o4
      clear o3 o4
      have o5 := (o4H.out.set (i := 2) (.int .u64 (q.next + 1))).swap
      go_wp2_with (refine wpList_append_slc rfl _ _ _ rfl 67 i0 _ 3 24 Try.underlying60 hi0 hz0 hz1 hz2 rfl (by omega) _ _ _ rfl (Own.allocd o5) ⟨w2.heap.size, 0, none⟩ 1 1 [.int .u64 q.next, .int .u64 t, .int .u64 (now + lease)] rfl rfl ?c1 ?c2 ?c3 ?c4 ?_)
      case c1 => exact cells_new' (by simp [World.setCell]) _ _ _
      case c2 => simp [Value.oneCell']
      case c3 => unfold maxLen; omega
      case c4 => omega
      intro v3 w3 o6 e6 _
      have o7 := sl_of (E := leaseE) (q.l ++ [⟨q.next, t, now + lease⟩]) o6 (by simp) (by simp [leaseE, Enc.flat])
      obtain ⟨A3, n3, k3, rfl⟩ := sl_shape o7
      have o8 := o7.swap
      have g0 := o8.cell (i := 0) (v := .slice a q.l.length cap) rfl
      have g1 := o8.free 0
      have o8H := hid o8
      clear o5 o6 o7 o8
      go_wp2
      go_ret2
      exact ⟨rfl, regC_close (r := { q with l := q.l ++ [⟨q.next, t, now + lease⟩], next := q.next + 1 }) (o8H.out.set (i := 0) (.slice A3 n3 k3)), (e3.trans (((((Ext.refl _).set _ _).alloc _).trans e6))).set _ _⟩

theorem register_c (p : Nat) (t lease now : Int) (r : Reg) (h0 : 0 ≤ now) (hn0 : 0 ≤ r.next) (hn1 : r.next ≤ 1099511627776) (hlen : r.l.length ≤ 1000) (w : World) (F : List Chunk) (o : Own w (regC p r :: F)) : RegisterSays p r t lease now w F := by
  by_cases h : timeB t = false ∨ untilB lease now = false ∨ r.next = 1099511627776
  · exact register_range p t lease now r h0 w F o h
  · exact register_goes p t lease now r h0 hn0 hn1 hlen w F o h
end Go.Proofs.Ytkgflckfphecjaa
