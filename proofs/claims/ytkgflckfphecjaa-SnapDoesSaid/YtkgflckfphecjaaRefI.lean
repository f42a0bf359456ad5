/- The document's Live and Reads, with the registry laid open. -/
import Derived.Test.YtkgflckfphecjaaRefB
namespace Go.Proofs.Ytkgflckfphecjaa
open Go.RowKit Go.Sl Go.Scree

set_option maxHeartbeats 1600000 in
theorem xlive_o (now : Int) (p : Nat) (lv : Value) (r : Reg) (hlen : r.l.length ≤ 1000) (w : World) (F : List Chunk) (o2 : Own w (pts p (.cells #[lv, .int .u64 r.safe, .int .u64 r.next] 50 (0, 0)) :: sl 70 leaseE lv r.l :: F)) :
    Calls Try.prog 34 #[.pointer (some ⟨p, 0, none⟩), .int .u64 now] w fun e w' => ∃ v', e = .returned v' ∧ Own w' (sl 70 leaseE v' (r.l.filter (livesB now)) :: pts p (.cells #[lv, .int .u64 r.safe, .int .u64 r.next] 50 (0, 0)) :: sl 70 leaseE lv r.l :: F) ∧ Ext w w' := by
  obtain ⟨a, cap, rfl, hm, hc⟩ := (sl_rd o2.swap).form
  have o2H := hid o2
  obtain ⟨i0, hi0, hz0, hz1, hz2⟩ := info_parts infoX
  clear o2
  go_enter Try.func34, Try.ntmps34
  go_wp2_with fail
  go_loopw [5, 6] (fun out i wr => ∃ k : Nat, i = .int .i64 k ∧ k ≤ r.l.length ∧ Own wr (sl 70 leaseE out ((r.l.take k).filter (livesB now)) :: pts p (.cells #[.slice a r.l.length cap, .int .u64 r.safe, .int .u64 r.next] 50 (0, 0)) :: sl 70 leaseE (.slice a r.l.length cap) r.l :: F) ∧ Ext w wr) (fun _ i wr => r.l.length - (intOf i).toNat)
  case atStart => exact ⟨0, rfl, Nat.zero_le _, sl_empty _ _ (o2H.out.alloc _), (Ext.refl _).alloc _⟩
  case round =>
    obtain ⟨k, rfl, hk, ok, ek⟩ := hrel
    obtain ⟨A1, n1, k1, rfl⟩ := sl_shape ok
    have okH := hid ok
    have b0 := ok.swap.cell (i := 0) (v := .slice a r.l.length cap) rfl
    have hp := ok.swap.lt
    by_cases hlt : k < r.l.length
    · obtain ⟨x, hx⟩ : ∃ x, r.l[k]? = some x := ⟨_, List.getElem?_eq_getElem hlt⟩
      obtain ⟨g, cap', hv, hgl, _, hn, hcap, d0, d1, d2, _, _, _⟩ := sl_get (ok.pick 2) hx
      simp only [Value.slice.injEq] at hv
      obtain ⟨rfl, _, rfl⟩ := hv
      have hxH := hid hx
      clear ok hx
      by_cases hlv : now < x.until_
      · have hd : decide (now < x.until_) = true := decide_eq_true hlv
        have hl2 : ((r.l.take k).filter (livesB now)).length ≤ 1000 := Nat.le_trans (List.length_filter_le _ _) (by simp; omega)
        go_wp2_with (refine wpList_append_slc rfl _ _ _ rfl 70 i0 _ 3 24 Try.underlying46 hi0 hz0 hz1 hz2 rfl (by omega) _ _ _ rfl (Own.allocd okH.out) ⟨wr.heap.size, 0, none⟩ 1 1 [.int .u64 x.id, .int .u64 x.time, .int .u64 x.until_] rfl rfl ?c1 ?c2 ?c3 ?c4 ?_)
        case c1 => exact cells_new wr _ _ _
        case c2 => simp [Value.oneCell']
        case c3 => unfold maxLen; omega
        case c4 => omega
        intro v3 w3 o3 e3 _
        have o4 := sl_of (E := leaseE) ((r.l.take k).filter (livesB now) ++ [x]) o3 (by simp) (by simp [leaseE, Enc.flat])
        obtain ⟨A3, n3, k3, rfl⟩ := sl_shape o4
        have o4H := hid o4
        have hq : livesB now x = true := by simp [livesB, hlv]
        have hqH := hid hq
        clear o3 o4 hq
        go_wp2
        go_roundw
        case rel => exact ⟨k + 1, by go_num, by omega, by rw [filter_take_yes hxH.out hqH.out]; exact o4H.out, ek.trans (((Ext.refl _).alloc _).trans e3)⟩
        case measure => simp [intOf]; omega
      · have hd : decide (now < x.until_) = false := decide_eq_false hlv
        have hq : livesB now x = false := by simp [livesB, hlv]
        have hqH := hid hq
        clear hq
        go_wp2
        go_roundw
        case rel => exact ⟨k + 1, by go_num, by omega, by rw [filter_take_no hxH.out hqH.out]; exact okH.out, ek⟩
        case measure => simp [intOf]; omega
    · clear ok
      go_wp2
      go_ret
      refine ⟨_, rfl, ?_, ek⟩
      have := okH.out
      rw [List.take_of_length_le (by omega)] at this
      exact this

set_option maxHeartbeats 1600000 in
theorem xreads_o (p : Nat) (lv : Value) (t now : Int) (r : Reg) (hlen : r.l.length ≤ 1000) (w : World) (F : List Chunk) (o : Own w (pts p (.cells #[lv, .int .u64 r.safe, .int .u64 r.next] 50 (0, 0)) :: sl 70 leaseE lv r.l :: F)) :
    Calls Try.prog 43 #[.pointer (some ⟨p, 0, none⟩), .int .u64 t, .int .u64 now] w fun e w' => e = .returned (.int .i64 (r.reads t now)) ∧ Own w' (pts p (.cells #[lv, .int .u64 r.safe, .int .u64 r.next] 50 (0, 0)) :: sl 70 leaseE lv r.l :: F) ∧ Ext w w' := by
  have hlv := xlive_o now p lv r hlen w F o
  have hR : r.reads t now = if (r.l.filter (livesB now)).any (fun h => h.time == t) = true then 0 else if t < r.safe then 26 else 0 := by
    rw [any_filter]
    unfold Reg.reads
    by_cases h1 : r.safe ≤ t
    · have h2 : ¬ t < r.safe := by omega
      simp [h1, h2]
    · have h2 : t < r.safe := by omega
      simp [h1, h2]
  have hRH := hid hR
  have hL1 : (r.l.filter (livesB now)).length ≤ 1000 := Nat.le_trans (List.length_filter_le _ _) hlen
  generalize r.reads t now = R at *
  generalize r.l.filter (livesB now) = L at *
  have hlvH := hid hlv
  clear hlv o hR
  go_enter Try.func43, Try.ntmps43
  go_wp2_with fail
  refine hlvH.out.mono ?_
  rintro e w1 ⟨v1, rfl, o1, e1⟩
  obtain ⟨a, cap, rfl, hm, hc⟩ := (sl_rd o1).form
  have o1H := hid o1
  clear o1
  go_wp2_with fail
  go_loop [8] (fun i => ∃ k : Nat, i = .int .i64 k ∧ k ≤ L.length ∧ ∀ x ∈ L.take k, (x.time == t) = false) (fun i => L.length - (intOf i).toNat)
  case atStart => exact ⟨0, rfl, Nat.zero_le _, by simp⟩
  case round =>
    obtain ⟨k, rfl, hk, hno⟩ := hrel
    have hnoH := hid hno
    clear hno
    by_cases hlt : k < L.length
    · obtain ⟨x, hx⟩ : ∃ x, L[k]? = some x := ⟨_, List.getElem?_eq_getElem hlt⟩
      obtain ⟨g, cap', hv, hgl, _, hn, hcap, d0, d1, d2, _, _, _⟩ := sl_get o1H.out hx
      simp only [Value.slice.injEq] at hv
      obtain ⟨rfl, _, rfl⟩ := hv
      have hxH := hid hx
      clear hx
      have hq : (x.time == t) = true ∨ (x.time == t) = false := by cases (x.time == t) <;> simp
      rcases hq with hq | hq
      · have hqH := hid hq
        go_wp2
        go_ret
        refine ⟨?_, o1H.out.drop, e1⟩
        rw [hRH.out, if_pos (List.any_eq_true.2 ⟨x, List.mem_of_getElem? hxH.out, hqH.out⟩)]
        rfl
      · have hqH := hid hq
        go_wp2
        go_round
        case rel => exact ⟨k + 1, by go_num, by omega, take_no hnoH.out hxH.out hqH.out⟩
        case measure => simp [intOf]; omega
    · have hany : L.any (fun h => h.time == t) = false := by
        rw [List.any_eq_false]
        intro y hy
        have := hnoH.out y (by rw [List.take_of_length_le (by omega)]; exact hy)
        rw [this]; simp
      have hR2 : Hid (R = if t < r.safe then 26 else 0) := hid (by rw [hRH.out, hany]; simp)
      have o2 := o1H.out.drop
      have b1 := o2.cell (i := 1) (v := .int .u64 r.safe) rfl
      have hp := o2.lt
      clear hany o2
      by_cases hs : t < r.safe
      · have hd : decide (t < r.safe) = true := decide_eq_true hs
        have hR3 : Hid (R = 26) := hid (by rw [hR2.out, if_pos hs])
        go_wp2
        go_ret
        exact ⟨by rw [hR3.out]; rfl, o1H.out.drop, e1⟩
      · have hd : decide (t < r.safe) = false := decide_eq_false hs
        have hR3 : Hid (R = 0) := hid (by rw [hR2.out, if_neg hs])
        go_wp2
        go_ret
        exact ⟨by rw [hR3.out]; rfl, o1H.out.drop, e1⟩

end Go.Proofs.Ytkgflckfphecjaa
