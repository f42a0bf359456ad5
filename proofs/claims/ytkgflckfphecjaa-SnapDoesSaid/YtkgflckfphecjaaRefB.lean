/- The document's registry: Check, Reads, Renew, Release, Advance. -/
import Derived.Test.YtkgflckfphecjaaRefA
namespace Go.Proofs.Ytkgflckfphecjaa
open Go.RowKit Go.Sl Go.Scree

theorem xcheck_c (p : Nat) (id now : Int) (r : Reg) (w : World) (F : List Chunk) (o : Own w (regX p r :: F)) :
    Calls Try.prog 42 #[.pointer (some ⟨p, 0, none⟩), .int .u64 id, .int .u64 now] w fun e w' => e = .returned (.tuple #[.int .u64 (r.check id now).1, .int .i64 (r.check id now).2]) ∧ Own w' (regX p r :: F) ∧ Ext w w' := by
  have hf := xplace_c p id r w F o
  obtain ⟨lv, o2⟩ := regX_open o
  obtain ⟨a, cap, rfl, hm, hc⟩ := (sl_rd o2.swap).form
  have b0 := o2.cell (i := 0) (v := .slice a r.l.length cap) rfl
  have hp := o2.lt
  have oH := hid o
  have o2H := hid o2
  clear o o2
  cases hfd : r.find id with
  | none =>
    rw [find_none hfd] at hf
    have hR : r.check id now = (0, 10) := by simp [Reg.check, hfd]
    rw [hR]
    have hfH := hid hf
    clear hf hfd hR
    go_enter Try.func42, Try.ntmps42
    go_wp2_with fail
    refine hfH.out.mono ?_
    rintro e w1 ⟨rfl, rfl⟩
    go_wp2
    go_ret2
    exact ⟨rfl, oH.out, Ext.refl _⟩
  | some k =>
    obtain ⟨hi, x, hx, _⟩ := find_some hfd
    rw [hi] at hf
    have hR : r.check id now = if livesB now x = false then (0, 25) else (x.time, 0) := by simp [Reg.check, hfd, hx]
    rw [hR]
    have hfH := hid hf
    obtain ⟨g, cap', hv, hgl, hk, hn, hcap, d0, d1, d2, f0, f1, f2⟩ := sl_get o2H.out.swap hx
    simp only [Value.slice.injEq] at hv
    obtain ⟨rfl, _, rfl⟩ := hv
    clear hf hfd hR hx hi f0 f1 f2 hcap
    by_cases hl : now < x.until_
    · have hd : decide (x.until_ ≤ now) = false := decide_eq_false (by omega)
      rw [if_neg (by simp [livesB, hl])]
      go_enter Try.func42, Try.ntmps42
      go_wp2_with fail
      refine hfH.out.mono ?_
      rintro e w1 ⟨rfl, rfl⟩
      go_wp2
      go_ret2
      exact ⟨rfl, oH.out, Ext.refl _⟩
    · have hd : decide (x.until_ ≤ now) = true := decide_eq_true (by omega)
      rw [if_pos (by simp [livesB, hl])]
      go_enter Try.func42, Try.ntmps42
      go_wp2_with fail
      refine hfH.out.mono ?_
      rintro e w1 ⟨rfl, rfl⟩
      go_wp2
      go_ret2
      exact ⟨rfl, oH.out, Ext.refl _⟩

theorem any_filter (r : Reg) (t now : Int) : (r.l.filter (livesB now)).any (fun h => h.time == t) = r.l.any (fun h => h.time == t && livesB now h) := by
  rw [List.any_filter]
  congr 1
  funext x
  rw [Bool.and_comm]

set_option maxHeartbeats 1600000 in
theorem xreads_c (p : Nat) (t now : Int) (r : Reg) (hlen : r.l.length ≤ 1000) (w : World) (F : List Chunk) (o : Own w (regX p r :: F)) :
    Calls Try.prog 43 #[.pointer (some ⟨p, 0, none⟩), .int .u64 t, .int .u64 now] w fun e w' => e = .returned (.int .i64 (r.reads t now)) ∧ Own w' (regX p r :: F) ∧ Ext w w' := by
  have hlv := xlive_c now p r hlen w F o
  have hR : r.reads t now = if (r.l.filter (livesB now)).any (fun h => h.time == t) = true then 0 else if t < r.safe then 26 else 0 := by
    rw [any_filter]
    unfold Reg.reads
    by_cases h1 : r.safe ≤ t
    · have h2 : ¬ t < r.safe := by omega
      simp [h1, h2]
    · have h2 : t < r.safe := by omega
      simp [h1, h2]
  have hRH := hid hR
  have hL1 : (r.l.filter (livesB now)).length ≤ 1000 := Nat.le_trans (List.length_filter_le _ _) hlen
  generalize r.reads t now = R at *
  generalize r.l.filter (livesB now) = L at *
  have hlvH := hid hlv
  clear hlv o hR
  go_enter Try.func43, Try.ntmps43
  go_wp2_with fail
  refine hlvH.out.mono ?_
  rintro e w1 ⟨v1, rfl, o1, e1⟩
  obtain ⟨a, cap, rfl, hm, hc⟩ := (sl_rd o1).form
  have o1H := hid o1
  clear o1
  go_wp2_with fail
  go_loop [8] (fun i => ∃ k : Nat, i = .int .i64 k ∧ k ≤ L.length ∧ ∀ x ∈ L.take k, (x.time == t) = false) (fun i => L.length - (intOf i).toNat)
  case atStart => exact ⟨0, rfl, Nat.zero_le _, by simp⟩
  case round =>
    obtain ⟨k, rfl, hk, hno⟩ := hrel
    have hnoH := hid hno
    clear hno
    by_cases hlt : k < L.length
    · obtain ⟨x, hx⟩ : ∃ x, L[k]? = some x := ⟨_, List.getElem?_eq_getElem hlt⟩
      obtain ⟨g, cap', hv, hgl, _, hn, hcap, d0, d1, d2, _, _, _⟩ := sl_get o1H.out hx
      simp only [Value.slice.injEq] at hv
      obtain ⟨rfl, _, rfl⟩ := hv
      have hxH := hid hx
      clear hx
      have hq : (x.time == t) = true ∨ (x.time == t) = false := by cases (x.time == t) <;> simp
      rcases hq with hq | hq
      · have hqH := hid hq
        go_wp2
        go_ret
        refine ⟨?_, o1H.out.drop, e1⟩
        rw [hRH.out, if_pos (List.any_eq_true.2 ⟨x, List.mem_of_getElem? hxH.out, hqH.out⟩)]
        rfl
      · have hqH := hid hq
        go_wp2
        go_round
        case rel => exact ⟨k + 1, by go_num, by omega, take_no hnoH.out hxH.out hqH.out⟩
        case measure => simp [intOf]; omega
    · have hany : L.any (fun h => h.time == t) = false := by
        rw [List.any_eq_false]
        intro y hy
        have := hnoH.out y (by rw [List.take_of_length_le (by omega)]; exact hy)
        rw [this]; simp
      have hR2 : Hid (R = if t < r.safe then 26 else 0) := hid (by rw [hRH.out, hany]; simp)
      obtain ⟨lv, o2⟩ := regX_open o1H.out.drop
      have b1 := o2.cell (i := 1) (v := .int .u64 r.safe) rfl
      have hp := o2.lt
      clear hany o2
      by_cases hs : t < r.safe
      · have hd : decide (t < r.safe) = true := decide_eq_true hs
        have hR3 : Hid (R = 26) := hid (by rw [hR2.out, if_pos hs])
        go_wp2
        go_ret
        exact ⟨by rw [hR3.out]; rfl, o1H.out.drop, e1⟩
      · have hd : decide (t < r.safe) = false := decide_eq_false hs
        have hR3 : Hid (R = 0) := hid (by rw [hR2.out, if_neg hs])
        go_wp2
        go_ret
        exact ⟨by rw [hR3.out]; rfl, o1H.out.drop, e1⟩

set_option maxHeartbeats 1600000 in
theorem xrenew_c (p : Nat) (id lease now : Int) (r : Reg) (h0 : 0 ≤ now) (w : World) (F : List Chunk) (o : Own w (regX p r :: F)) :
    Calls Try.prog 16 #[.pointer (some ⟨p, 0, none⟩), .int .u64 id, .int .u64 lease, .int .u64 now] w fun e w' => e = .returned (.int .i64 (r.renew id lease now).2) ∧ Own w' (regX p (r.renew id lease now).1 :: F) ∧ Ext w w' := by
  have hf := xplace_c p id r w F o
  obtain ⟨lv, o2⟩ := regX_open o
  obtain ⟨a, cap, rfl, hm, hc⟩ := (sl_rd o2.swap).form
  have b0 := o2.cell (i := 0) (v := .slice a r.l.length cap) rfl
  have hp := o2.lt
  have oH := hid o
  have o2H := hid o2
  clear o o2
  cases hfd : r.find id with
  | none =>
    rw [find_none hfd] at hf
    have hR : r.renew id lease now = (r, 10) := by simp [Reg.renew, hfd]
    rw [hR]
    have hfH := hid hf
    clear hf hfd hR
    go_enter Try.func16, Try.ntmps16
    go_wp2_with fail
    refine hfH.out.mono ?_
    rintro e w1 ⟨rfl, rfl⟩
    go_wp2
    go_ret
    exact ⟨rfl, oH.out, Ext.refl _⟩
  | some k =>
    obtain ⟨hi, x, hx, _⟩ := find_some hfd
    rw [hi] at hf
    have hR : r.renew id lease now = if livesB now x = false then (r, 25) else if untilB lease now = false then (r, 3) else ({ r with l := r.l.set k { x with until_ := max x.until_ (now + lease) } }, 0) := by simp [Reg.renew, hfd, hx]
    rw [hR]
    have hfH := hid hf
    obtain ⟨g, cap', hv, hgl, hk, hn, hcap, d0, d1, d2, f0, f1, f2⟩ := sl_get o2H.out.swap hx
    simp only [Value.slice.injEq] at hv
    obtain ⟨rfl, _, rfl⟩ := hv
    have hxH := hid hx
    clear hf hfd hR hx hi hcap
    by_cases hl : now < x.until_
    · have hd : decide (x.until_ ≤ now) = false := decide_eq_false (by omega)
      rw [if_neg (by simp [livesB, hl])]
      cases hu : untilB lease now
      · rw [if_pos rfl]
        have hu2 := xends_c lease now h0
        rw [hu] at hu2
        have hu2H := hid hu2
        clear hu hu2
        go_enter Try.func16, Try.ntmps16
        go_wp2_with fail
        refine hfH.out.mono ?_
        rintro e w1 ⟨rfl, rfl⟩
        go_wp2_with fail
        refine (hu2H.out _).mono ?_
        rintro e w1 ⟨rfl, rfl⟩
        go_wp2
        go_ret
        exact ⟨rfl, oH.out, Ext.refl _⟩
      · rw [if_neg (by simp)]
        have hu2 := xends_c lease now h0
        rw [hu] at hu2
        have hu2H := hid hu2
        simp only [untilB, timeB, Bool.and_eq_true, decide_eq_true_eq] at hu
        obtain ⟨⟨u1, u2⟩, u3, u4⟩ := hu
        clear hu2
        by_cases hg : x.until_ < now + lease
        · have hd2 : decide (x.until_ < now + lease) = true := decide_eq_true hg
          have hmx : Hid (max x.until_ (now + lease) = now + lease) := hid (by omega)
          go_enter Try.func16, Try.ntmps16
          go_wp2_with fail
          refine hfH.out.mono ?_
          rintro e w1 ⟨rfl, rfl⟩
          go_wp2_with fail
          refine (hu2H.out _).mono ?_
          rintro e w1 ⟨rfl, rfl⟩
          go_wp2
          go_ret
          refine ⟨rfl, ?_, (Ext.refl _).set _ _⟩
          have o4 := sl_field (j := 2) o2H.out.swap hxH.out (by decide) { x with until_ := now + lease } (.int .u64 (now + lease)) rfl
          rw [hmx.out]
          exact regX_close (r := { r with l := r.l.set k { x with until_ := now + lease } }) o4.swap
        · have hd2 : decide (x.until_ < now + lease) = false := decide_eq_false hg
          have hmx : Hid (max x.until_ (now + lease) = x.until_) := hid (by omega)
          go_enter Try.func16, Try.ntmps16
          go_wp2_with fail
          refine hfH.out.mono ?_
          rintro e w1 ⟨rfl, rfl⟩
          go_wp2_with fail
          refine (hu2H.out _).mono ?_
          rintro e w1 ⟨rfl, rfl⟩
          go_wp2
          go_ret
          refine ⟨rfl, ?_, Ext.refl _⟩
          rw [hmx.out]
          have hs : r.l.set k x = r.l := by
            obtain ⟨hk', rfl⟩ := List.getElem?_eq_some_iff.1 hxH.out
            exact List.set_getElem_self hk'
          have e : ({ r with l := r.l.set k { x with until_ := x.until_ } } : Reg) = r := by
            have : ({ x with until_ := x.until_ } : Lease) = x := rfl
            rw [this, hs]
          rw [e]
          exact oH.out
    · have hd : decide (x.until_ ≤ now) = true := decide_eq_true (by omega)
      rw [if_pos (by simp [livesB, hl])]
      go_enter Try.func16, Try.ntmps16
      go_wp2_with fail
      refine hfH.out.mono ?_
      rintro e w1 ⟨rfl, rfl⟩
      go_wp2
      go_ret
      exact ⟨rfl, oH.out, Ext.refl _⟩

set_option maxHeartbeats 1600000 in
theorem xadvance_c (p : Nat) (want now : Int) (r : Reg) (hlen : r.l.length ≤ 1000) (w : World) (F : List Chunk) (o : Own w (regX p r :: F)) :
    Calls Try.prog 20 #[.pointer (some ⟨p, 0, none⟩), .int .u64 want, .int .u64 now] w fun e w' => e = .returned (.int .u64 (r.advance want now).safe) ∧ Own w' (regX p (r.advance want now) :: F) ∧ Ext w w' := by
  have hlv := xlive_c now p r hlen w F o
  have hR : r.advance want now = { r.drop now with safe := max (r.drop now).safe (least (min want 1099511627776) (r.drop now).l) } := rfl
  have hql : (r.drop now).l = r.l.filter (livesB now) := rfl
  have hqs : (r.drop now).safe = r.safe := rfl
  have hqn : (r.drop now).next = r.next := rfl
  rw [hR]
  rw [← hql] at hlv
  have hlen2 : (r.drop now).l.length ≤ 1000 := Nat.le_trans (List.length_filter_le _ _) hlen
  have hqsH := hid hqs
  have hqnH := hid hqn
  generalize r.drop now = q at *
  have hlvH := hid hlv
  obtain ⟨lv0, o0⟩ := regX_open o
  clear hlv hR hql hqs hqn o
  go_enter Try.func20, Try.ntmps20
  go_wp2_with fail
  refine hlvH.out.mono ?_
  rintro e w1 ⟨v1, rfl, o1, e1⟩
  obtain ⟨a, cap, rfl, hm, hc⟩ := (sl_rd o1).form
  obtain ⟨lv, o2⟩ := regX_open o1.swap
  have b0 := o2.cell (i := 0) (v := lv) rfl
  have f0 := o2.free 0
  have hp := o2.lt
  obtain ⟨A2, n2, k2, rfl⟩ := sl_shape o2.swap
  have o3 := o2.set (i := 0) (.slice a q.l.length cap)
  have o4 := Own.swap (Own.swap o3).drop
  rw [← hqsH.out, ← hqnH.out] at o4
  have o4H := hid o4
  clear o0 o1 o2 o3 o4
  have hw : (decide ((1099511627776 : Int) < want) = true ∧ Hid (min want 1099511627776 = 1099511627776)) ∨ (decide ((1099511627776 : Int) < want) = false ∧ Hid (min want 1099511627776 = want)) := by
    by_cases h : 1099511627776 < want
    · exact .inl ⟨decide_eq_true h, hid (by omega)⟩
    · exact .inr ⟨decide_eq_false h, hid (by omega)⟩
  rcases hw with ⟨hd, hmn⟩ | ⟨hd, hmn⟩
  all_goals
    go_wp2
    go_loop [1, 7] (fun m i => ∃ k : Nat, i = .int .i64 k ∧ k ≤ q.l.length ∧ m = .int .u64 (least (min want 1099511627776) (q.l.take k))) (fun _ i => q.l.length - (intOf i).toNat)
    case atStart => exact ⟨0, rfl, Nat.zero_le _, by simp [least, hmn.out]⟩
    case round =>
      obtain ⟨k, rfl, hk, rfl⟩ := hrel
      have ok := o4H.out
      have c0 := ok.swap.cell (i := 0) (v := .slice a q.l.length cap) rfl
      have hp := ok.swap.lt
      by_cases hlt : k < q.l.length
      · obtain ⟨x, hx⟩ : ∃ x, q.l[k]? = some x := ⟨_, List.getElem?_eq_getElem hlt⟩
        obtain ⟨g, cap', hv, hgl, _, hn, hcap, d0, d1, d2, _, _, _⟩ := sl_get ok hx
        simp only [Value.slice.injEq] at hv
        obtain ⟨rfl, _, rfl⟩ := hv
        have hls : Hid (least (min want 1099511627776) (q.l.take (k + 1)) = min (least (min want 1099511627776) (q.l.take k)) x.time) := hid (least_snoc _ hx)
        generalize least (min want 1099511627776) (q.l.take k) = m at *
        clear ok hx
        by_cases hc : x.time < m
        · have hdc : decide (x.time < m) = true := decide_eq_true hc
          go_wp2
          go_round
          case rel => exact ⟨k + 1, by go_num, by omega, by rw [hls.out, Int.min_eq_right (by omega)]⟩
          case measure => simp [intOf]; omega
        · have hdc : decide (x.time < m) = false := decide_eq_false hc
          go_wp2
          go_round
          case rel => exact ⟨k + 1, by go_num, by omega, by rw [hls.out, Int.min_eq_left (by omega)]⟩
          case measure => simp [intOf]; omega
      · obtain rfl : k = q.l.length := by omega
        have c1 := ok.swap.cell (i := 1) (v := .int .u64 q.safe) rfl
        have f1 := ok.swap.free 1
        rw [List.take_length]
        generalize hmm : least (min want 1099511627776) q.l = m at *
        have hmH := hid hmm
        clear ok hmm
        by_cases hc : q.safe < m
        · have hdc : decide (q.safe < m) = true := decide_eq_true hc
          go_wp2
          go_ret
          have hmm := hmH.out
          subst hmm
          rw [Int.max_eq_right (by omega)]
          exact ⟨rfl, regX_close (r := { q with safe := _ }) (o4H.out.swap.set (i := 1) (.int .u64 _)), (e1.set _ _).set _ _⟩
        · have hdc : decide (q.safe < m) = false := decide_eq_false hc
          go_wp2
          go_ret
          have hmm := hmH.out
          subst hmm
          rw [Int.max_eq_left (by omega)]
          exact ⟨rfl, regX_close (r := { q with safe := _ }) o4H.out.swap, e1.set _ _⟩
end Go.Proofs.Ytkgflckfphecjaa
