/- The document's registry: Register, Release. -/
import Derived.Test.YtkgflckfphecjaaRefA
namespace Go.Proofs.Ytkgflckfphecjaa
open Go.RowKit Go.Sl Go.Scree

/-- The cells of an owned slice, from a place on. -/
theorem sl_cells {α : Type} {T : TypeId} {E : Enc α} {w : World} {F : List Chunk} {g n cap : Nat} {xs : List α} (o : Own w (sl T E (.slice (some ⟨g, 0, none⟩) n cap) xs :: F)) (q : Nat) : ∀ j u, ((E.flat xs).drop q)[j]? = some u → w.cell? ((⟨g, q, none⟩ : Addr).add j) = some u := by
  intro j u hu
  obtain ⟨hl, h⟩ := slc_open o
  rcases h with ⟨h, _⟩ | ⟨g', cap', cur, h, hn, hc, hs, htk, o'⟩
  · cases h
  · simp only [Value.slice.injEq, Option.some.injEq, Addr.mk.injEq] at h
    obtain ⟨⟨rfl, _, _⟩, rfl, rfl⟩ := h
    have hadd : (⟨g, q, none⟩ : Addr).add j = ⟨g, q + j, none⟩ := by unfold Addr.add; split <;> simp_all
    rw [hadd, cell_of_row w g _ cur T (0, 0) o'.get]
    rw [← htk, List.getElem?_drop, List.getElem?_take] at hu
    split at hu
    · simpa using hu
    · cases hu

def XRegisterSays (p : Nat) (r : Reg) (t lease now : Int) (w : World) (F : List Chunk) : Prop :=
  Calls Try.prog 14 #[.pointer (some ⟨p, 0, none⟩), .int .u64 t, .int .u64 lease, .int .u64 now] w fun e w' => e = .returned (.tuple #[.int .u64 (r.register t lease now).2.1, .int .i64 (r.register t lease now).2.2]) ∧ Own w' (regX p (r.register t lease now).1 :: F) ∧ Ext w w'

theorem xregister_range (p : Nat) (t lease now : Int) (r : Reg) (h0 : 0 ≤ now) (w : World) (F : List Chunk) (o : Own w (regX p r :: F)) (h : timeB t = false ∨ untilB lease now = false ∨ r.next = 1099511627776) : XRegisterSays p r t lease now w F := by
  have hR : r.register t lease now = (r, 0, 3) := by simp [Reg.register, h]
  unfold XRegisterSays
  rw [hR]
  have oH := hid o
  obtain ⟨lv, o2⟩ := regX_open o
  have c2 := o2.cell (i := 2) (v := .int .u64 r.next) rfl
  have hp := o2.lt
  clear hR o o2
  by_cases t1 : t < 1
  · have d1 : decide (t < 1) = true := decide_eq_true t1
    clear h
    go_enter Try.func14, Try.ntmps14
    go_wp2
    go_ret2
    exact ⟨rfl, oH.out, Ext.refl _⟩
  have d1 : decide (t < 1) = false := decide_eq_false t1
  by_cases t2 : (1099511627776 : Int) < t
  · have d2 : decide ((1099511627776 : Int) < t) = true := decide_eq_true t2
    clear h
    go_enter Try.func14, Try.ntmps14
    go_wp2
    go_ret2
    exact ⟨rfl, oH.out, Ext.refl _⟩
  have d2 : decide ((1099511627776 : Int) < t) = false := decide_eq_false t2
  have hT : timeB t = true := by simp [timeB]; omega
  have hu := xends_c lease now h0
  cases hu2 : untilB lease now
  · rw [hu2] at hu
    have huH := hid hu
    clear h hu hu2
    go_enter Try.func14, Try.ntmps14
    go_wp2_with fail
    refine (huH.out _).mono ?_
    rintro e w1 ⟨rfl, rfl⟩
    go_wp2
    go_ret2
    exact ⟨rfl, oH.out, Ext.refl _⟩
  · rw [hu2] at hu
    have huH := hid hu
    have hN : r.next = 1099511627776 := by simpa [hT, hu2] using h
    have hb : (r.next == 1099511627776) = true := by simpa using hN
    clear h hu hu2 hN
    go_enter Try.func14, Try.ntmps14
    go_wp2_with fail
    refine (huH.out _).mono ?_
    rintro e w1 ⟨rfl, rfl⟩
    go_wp2
    go_ret2
    exact ⟨rfl, oH.out, Ext.refl _⟩

set_option maxHeartbeats 3200000 in
theorem xregister_goes (p : Nat) (t lease now : Int) (r : Reg) (h0 : 0 ≤ now) (hn0 : 0 ≤ r.next) (hn1 : r.next ≤ 1099511627776) (hlen : r.l.length ≤ 4 ∨ r.l.length ≤ 1000) (w : World) (F : List Chunk) (o : Own w (regX p r :: F)) (hg5 : (r.l.filter (livesB now)).length ≤ 5) (h : ¬ (timeB t = false ∨ untilB lease now = false ∨ r.next = 1099511627776)) : XRegisterSays p r t lease now w F := by
  have hlen : r.l.length ≤ 1000 := by omega
  have hT : timeB t = true := by cases ht : timeB t <;> simp_all
  have hu : untilB lease now = true := by cases ht : untilB lease now <;> simp_all
  have hN : r.next ≠ 1099511627776 := fun e => h (.inr (.inr e))
  have hb : (r.next == 1099511627776) = false := by simpa using hN
  have hlt : r.next < 1099511627776 := by omega
  have ht0 : 0 < t ∧ t ≤ 1099511627776 := by simpa [timeB] using hT
  have d1 : decide (t < 1) = false := decide_eq_false (by omega)
  have d2 : decide ((1099511627776 : Int) < t) = false := decide_eq_false (by omega)
  have hu2 := xends_c lease now h0
  rw [hu] at hu2
  have huH := hid hu2
  have hlv := xlive_c now p r hlen w F o
  obtain ⟨⟨u1, u2⟩, u3, u4⟩ : (0 < lease ∧ lease ≤ 1099511627776) ∧ now ≤ 1099511627776 ∧ now + lease ≤ 1099511627776 := by simpa [untilB, timeB] using hu
  have oH := hid o
  obtain ⟨lv, o2⟩ := regX_open o
  have c1 := o2.cell (i := 1) (v := .int .u64 r.safe) rfl
  have c2 := o2.cell (i := 2) (v := .int .u64 r.next) rfl
  have hp := o2.lt
  unfold XRegisterSays
  by_cases hs : t < r.safe
  · have hR : r.register t lease now = (r, 0, 26) := by simp [Reg.register, h, hs]
    rw [hR]
    have hd : decide (t < r.safe) = true := decide_eq_true hs
    clear hR o o2 h hu hu2 hN hlv hT
    go_enter Try.func14, Try.ntmps14
    go_wp2_with fail
    refine (huH.out _).mono ?_
    rintro e w1 ⟨rfl, rfl⟩
    go_wp2
    go_ret2
    exact ⟨rfl, oH.out, Ext.refl _⟩
  · have hd : decide (t < r.safe) = false := decide_eq_false hs
    have hR : r.register t lease now = if (r.drop now).l.length = 5 then (r.drop now, 0, 4) else ({ r.drop now with l := (r.drop now).l ++ [⟨(r.drop now).next, t, now + lease⟩], next := (r.drop now).next + 1 }, (r.drop now).next, 0) := by
      simp only [Reg.register, h, hs, if_false]
      rfl
    rw [hR]
    have hql : (r.drop now).l = r.l.filter (livesB now) := rfl
    have hqs : (r.drop now).safe = r.safe := rfl
    have hqn : (r.drop now).next = r.next := rfl
    rw [← hql] at hlv hg5
    have hq0 : 0 ≤ (r.drop now).next := hn0
    have hq1 : (r.drop now).next < 1099511627776 := hlt
    have hqsH := hid hqs
    have hqnH := hid hqn
    generalize r.drop now = q at *
    have hlvH := hid hlv
    clear hlv hR hql hqs hqn o o2 h hu hu2 hN hT
    obtain ⟨i0, hi0, hz0, hz1, hz2⟩ := info_parts infoX
    have h55 : (q.l.length = 5 ∧ decide ((5 : Int) ≤ (q.l.length : Int)) = true) ∨ (¬ q.l.length = 5 ∧ decide ((5 : Int) ≤ (q.l.length : Int)) = false) := by
      by_cases h5 : q.l.length = 5
      · exact .inl ⟨h5, decide_eq_true (by omega)⟩
      · exact .inr ⟨h5, decide_eq_false (by omega)⟩
    rcases h55 with ⟨h5, hb5⟩ | ⟨h5, hb5⟩
    all_goals
      first | rw [if_pos h5] | rw [if_neg h5]
      have hl5 : q.l.length ≤ 5 := hg5
      clear h5 hg5
      go_enter Try.func14, Try.ntmps14
      go_wp2_with fail
      refine (huH.out _).mono ?_
      rintro e w1 ⟨rfl, rfl⟩
      go_wp2_with fail
      refine hlvH.out.mono ?_
      rintro e w1 ⟨v1, rfl, o1, e1⟩
      obtain ⟨a, cap, rfl, hm, hc⟩ := (sl_rd o1).form
      obtain ⟨lv2, o2⟩ := regX_open o1.swap
      have b0 := o2.cell (i := 0) (v := lv2) rfl
      have f0 := o2.free 0
      have f2 := o2.free 2
      have b2 := o2.cell (i := 2) (v := .int .u64 r.next) rfl
      have hp := o2.lt
      obtain ⟨A2, n2, k2, rfl⟩ := sl_shape o2.swap
      have o3 := o2.set (i := 0) (.slice a q.l.length cap)
      have o4 := Own.swap (Own.swap o3).drop
      rw [← hqsH.out, ← hqnH.out] at o4
      have o4H := hid o4
      clear c1 c2 o1 o2 o3 o4
    · go_wp2
      go_ret2
      exact ⟨rfl, regX_close o4H.out.swap, e1.set _ _⟩
    · rw [← hqnH.out] at b2 ⊢
      have hwr : IntKind.u64.wrap (now + lease) = now + lease := IntWalk.u64_in _ (by omega)
      have hw2 : IntKind.u64.wrap (q.next + 1) = q.next + 1 := IntWalk.u64_in _ (by omega)
      have hw3 : IntKind.u64.wrap (q.next + 1 - 1) = q.next := by rw [IntWalk.u64_in _ (by omega)]; omega
      have o5 := o4H.out
      go_wp2_with fail
      go_region_law (first | (refine step_append_slc rfl _ _ _ rfl 70 i0 _ 3 24 Try.underlying46 hi0 hz0 hz1 hz2 rfl (by omega) _ _ _ rfl (Own.allocd (Own.drew o5)) ⟨w1.heap.size, 0, none⟩ 1 1 [.int .u64 q.next, .int .u64 t, .int .u64 (now + lease)] rfl rfl (cells_new' (by simp [World.setCell]) _ _ _) (by simp [Value.oneCell']) (by unfold maxLen; omega) (by omega) (by omega) ?_; intro A3 k3 w3 o4 e4; have g0 := Own.cell (i := 0) (v := .slice a q.l.length cap) (Own.swap o4) rfl; have g1 := Own.free (Own.swap o4) 0; have g2 := Own.cell (i := 2) (v := .int .u64 q.next) (Own.swap o4) rfl; have g3 := Own.free (Own.swap o4) 2))
      all_goals
        have o6 := sl_of (E := leaseE) (q.l ++ [⟨q.next, t, now + lease⟩]) o4 (by simp) (by simp [leaseE, Enc.flat])
        have o7 := ((Own.swap o6).set (i := 0) (.slice A3 (q.l.length + 1) k3)).set (i := 2) (.int .u64 (q.next + 1))
        have o7H := hid o7
        clear o4 o5 o6 o7
        go_wp2
        go_ret2
        exact ⟨rfl, regX_close (r := { q with l := q.l ++ [⟨q.next, t, now + lease⟩], next := q.next + 1 }) o7H.out, ((((((e1.set _ _).drew).alloc _).trans e4).set _ _).set _ _)⟩

theorem xregister_c (p : Nat) (t lease now : Int) (r : Reg) (h0 : 0 ≤ now) (hn0 : 0 ≤ r.next) (hn1 : r.next ≤ 1099511627776) (hlen : r.l.length ≤ 5) (w : World) (F : List Chunk) (o : Own w (regX p r :: F)) : XRegisterSays p r t lease now w F := by
  by_cases h : timeB t = false ∨ untilB lease now = false ∨ r.next = 1099511627776
  · exact xregister_range p t lease now r h0 w F o h
  · exact xregister_goes p t lease now r h0 hn0 hn1 (by omega) w F o (Nat.le_trans (List.length_filter_le _ _) hlen) h

set_option maxHeartbeats 3200000 in
theorem xrelease_c (p : Nat) (id : Int) (r : Reg) (hlen : r.l.length ≤ 1000) (w : World) (F : List Chunk) (o : Own w (regX p r :: F)) :
    Calls Try.prog 18 #[.pointer (some ⟨p, 0, none⟩), .int .u64 id] w fun e w' => e = .returned (.int .i64 (r.release id).2) ∧ Own w' (regX p (r.release id).1 :: F) ∧ Ext w w' := by
  have hf := xplace_c p id r w F o
  obtain ⟨lv, o2⟩ := regX_open o
  obtain ⟨A0, n0, cap, rfl⟩ := sl_shape o2.swap
  have oH := hid o
  have o2H := hid o2
  clear o o2
  cases hfd : r.find id with
  | none =>
    rw [find_none hfd] at hf
    have hR : r.release id = (r, 10) := by simp [Reg.release, hfd]
    rw [hR]
    have hfH := hid hf
    clear hf hfd hR
    go_enter Try.func18, Try.ntmps18
    go_wp2_with fail
    refine hfH.out.mono ?_
    rintro e w1 ⟨rfl, rfl⟩
    go_wp2
    go_ret
    exact ⟨rfl, oH.out, Ext.refl _⟩
  | some k =>
    obtain ⟨hi, x, hx, _⟩ := find_some hfd
    rw [hi] at hf
    have hR : r.release id = ({ r with l := r.l.eraseIdx k }, 0) := by simp [Reg.release, hfd]
    rw [hR]
    have hfH := hid hf
    have hk := (List.getElem?_eq_some_iff.1 hx).1
    have o2 := o2H.out
    rcases sl_form o2.swap with ⟨_, h0⟩ | ⟨g, k0, hv, hn, hcm⟩
    · rw [h0] at hk; simp at hk
    simp only [Value.slice.injEq] at hv
    obtain ⟨rfl, rfl, rfl⟩ := hv
    have b0 := o2.cell (i := 0) (v := .slice (some ⟨g, 0, none⟩) r.l.length cap) rfl
    have hp := o2.lt
    obtain ⟨i0, hi0, hz0, hz1, hz2⟩ := info_parts infoX
    have hcl : cap ≤ 9223372036854775807 := by simpa [maxLen] using hcm
    have hkl : k < 9223372036854775807 := by omega
    have hkc : k ≤ cap := by omega
    have hk1 : k + 1 ≤ r.l.length := hk
    have e0 := sl_empty 70 leaseE (o2.alloc (.cells #[] 70))
    have e0H := hid e0
    have hw1 : IntKind.i64.wrap ((k : Int) + 1) = (k : Int) + 1 := IntWalk.i64_in _ (by omega)
    have hk2 : (0 : Int) ≤ (k : Int) + 1 := by omega
    have hk3 : (k : Int) + 1 ≤ (r.l.length : Int) := by omega
    have hk0 : (0 : Int) ≤ (k : Int) := by omega
    have hk4 : k ≤ r.l.length := by omega
    have hdn : decide ((k : Int) < 0) = false := decide_eq_false (by omega)
    clear hf hfd hR hx hi o2 e0
    by_cases hck : cap = k + 1
    all_goals
      go_enter Try.func18, Try.ntmps18
      go_wp2_with fail
      refine hfH.out.mono ?_
      rintro e w1 ⟨rfl, rfl⟩
      go_wp2_with (refine wpList_append_slc rfl _ _ _ rfl 70 i0 _ 3 24 Try.underlying46 hi0 hz0 hz1 hz2 rfl (by omega) _ _ _ rfl e0H.out _ _ _ (leaseE.flat (r.l.take k)) rfl ?c0 ?c1 ?c2 ?c3 ?c4 ?_)
      case c0 => rw [Enc.flat_len, List.length_take, Nat.min_eq_left hk4]; rfl
      case c1 =>
        intro j u hu
        rw [← leaseE.flat_take, List.getElem?_take] at hu
        split at hu
        · exact sl_cells (Own.pick 2 e0H.out) 0 j u (by simpa using hu)
        · cases hu
      case c2 => exact Enc.flat_one _ _
      case c3 => simp only [List.length_nil]; unfold maxLen; omega
      case c4 => simp only [List.length_nil]; omega
      intro v3 w3 o3 e3 _
      have o4 := sl_of (E := leaseE) (r.l.take k) o3 (by simp; omega) (by simp [Enc.flat])
      obtain ⟨A3, n3, k3, rfl⟩ := sl_shape o4
      have b1 := (Own.pick 1 o4).cell (i := 0) rfl
      have o4H := hid o4
      clear o3 o4 b0
      have hl3 : (leaseE.flat (r.l.drop (k + 1))).length = (r.l.length - (k + 1)) * 3 := by rw [Enc.flat_len, List.length_drop]; rfl
      have hlt : (r.l.take k).length = k := by rw [List.length_take, Nat.min_eq_left hk4]
      go_wp2_with (refine wpList_append_slc rfl _ _ _ rfl 70 i0 _ 3 24 Try.underlying46 hi0 hz0 hz1 hz2 rfl (by omega) _ _ _ rfl o4H.out _ (r.l.length - (k + 1)) _ (leaseE.flat (r.l.drop (k + 1))) rfl hl3 ?d1 ?d2 ?d3 ?d4 ?_)
      case d1 =>
        intro j u hu
        first
        | (rw [← leaseE.flat_drop] at hu; exact sl_cells (Own.pick 2 o4H.out) ((k + 1) * 3) j u hu)
        | (rw [List.drop_of_length_le (by omega)] at hu; simp [Enc.flat] at hu)
      case d2 => exact Enc.flat_one _ _
      case d3 => rw [hlt]; unfold maxLen; omega
      case d4 => rw [hlt]; omega
      intro v5 w5 o5 e5 _
      have o6 := sl_of (E := leaseE) (r.l.eraseIdx k) o5 (by rw [List.length_eraseIdx, if_pos hk]; omega) (by rw [List.eraseIdx_eq_take_drop_succ]; simp [Enc.flat])
      obtain ⟨A5, n5, k5, rfl⟩ := sl_shape o6
      have o7 := o6.swap
      have b2 := o7.cell (i := 0) rfl
      have f2 := o7.free 0
      have o7H := hid o7
      clear o5 o6 o7 b1 hl3 hlt
      go_wp2
      go_ret
      exact ⟨rfl, Own.drop (Own.swap (regX_close (r := { r with l := r.l.eraseIdx k }) (o7H.out.set (i := 0) (.slice A5 n5 k5)))), ((((Ext.refl _).alloc _).trans e3).trans e5).set _ _⟩
end Go.Proofs.Ytkgflckfphecjaa
