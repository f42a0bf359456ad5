/- A registry of leases: Load, where it comes to a registry. -/
import Derived.Test.YtkgflckfphecjaaSnapJ
namespace Go.Proofs.Ytkgflckfphecjaa
open Go.RowKit Go.Sl Go.Scree

def LoadYes (l : List Lease) (safe next : Int) (D F : List Chunk) (w : World) (e : Ending) (w' : World) : Prop :=
  ∃ p, e = .returned (.tuple #[.pointer (some ⟨p, 0, none⟩), .int .i64 0]) ∧ Own w' (regC p ⟨l, safe, next⟩ :: (D ++ F)) ∧ Ext w w'

/-- The end of Load, from its loop on, is told by the loop's law: the guard has said no by then. -/
theorem loadGood_parts {l : List Lease} {safe next : Int} (hg : loadGood l safe next = true) : leasesGood l = true ∧ decide ((1099511627776 : Int) < safe) = false ∧ timeB next = true ∧ (l.length = 0 ∨ ∃ y, l[l.length - 1]? = some y ∧ y.id < next) ∧ l.length ≤ 5 := by
  simp only [loadGood, Bool.and_eq_true, Bool.or_eq_true, decide_eq_true_eq] at hg
  obtain ⟨h1, h2, h3, h4⟩ := hg
  refine ⟨h1, by simpa using h2, h3, ?_, ?_⟩
  · rcases h4 with h4 | h4
    · exact .inl h4
    · by_cases h0 : l.length = 0
      · exact .inl h0
      · obtain ⟨y, hy⟩ : ∃ y, l[l.length - 1]? = some y := ⟨_, List.getElem?_eq_getElem (by omega)⟩
        refine .inr ⟨y, hy, ?_⟩
        simpa [List.getD, hy] using h4
  · simp only [leasesGood, Bool.and_eq_true, decide_eq_true_eq] at h1
    exact h1.1


set_option maxRecDepth 20000 in
set_option maxHeartbeats 3200000 in
theorem load_yes {D : List Chunk} (v : Value) (l : List Lease) (safe next : Int) (hrd : Gives D fun w => Rd w leaseE v l) (hnn : ∀ x ∈ l, 0 ≤ x.until_) (hg : loadGood l safe next = true) (w : World) (F : List Chunk) (o : Own w (D ++ F)) :
    Calls Try.prog 22 #[v, .int .u64 safe, .int .u64 next] w (LoadYes l safe next D F w) := by
  have hc := colLeases_c v l hrd hnn w F o
  have hH := hid hrd
  obtain ⟨a, cap, rfl, hm, hcap⟩ := (hrd w F o).form
  obtain ⟨t1, t2, t3, t4, t5⟩ := loadGood_parts hg
  have hl : l.length ≤ 9223372036854775807 := by simpa [maxLen] using hm
  have hcH := hid hc
  obtain ⟨i0, hi0, hz0, hz1, hz2⟩ := info_parts infoHeld
  clear hc hrd o
  rcases t4 with t4 | ⟨y, hy, hlt⟩
  · have hlp : decide (0 < l.length) = false := decide_eq_false (by omega)
    clear t4
    go_enter Try.func22, Try.ntmps22
    go_wp2_with fail
    refine hcH.out.mono ?_
    rintro e w1 ⟨he, o1, e1⟩
    obtain ⟨s, rfl⟩ := colSays l he
    rw [if_pos t1]
    have o1H := hid o1
    clear t1 o1
    go_wp2_with fail
    refine (time_c next _).mono ?_
    rintro e w2 ⟨rfl, rfl⟩
    go_wp2_with fail
    go_loopw [51] (fun i wr => ∃ k : Nat, i = .int .i64 k ∧ k ≤ l.length ∧ Own wr (regC w1.heap.size ⟨l.take k, safe, next⟩ :: (D ++ F)) ∧ Ext w wr) (fun i _ => l.length - (intOf i).toNat)
    case atStart => exact ⟨0, rfl, Nat.zero_le _, regC_close (r := ⟨[], safe, next⟩) (sl_nil _ _ (o1H.out.alloc _)).swap, e1.alloc _⟩
    case round =>
      obtain ⟨k, rfl, hk, ok, ek⟩ := hrel
      have okH := hid ok
      by_cases hlt : k < l.length
      · obtain ⟨x, hx⟩ : ∃ x, l[k]? = some x := ⟨_, List.getElem?_eq_getElem hlt⟩
        rcases hH.out wr _ (Own.exch [_] D ok) with ⟨_, hxs⟩ | ⟨g, off, cap', hv, h1, h2, hcell⟩
        · rw [hxs] at hx; simp at hx
        obtain ⟨rfl, rfl⟩ : a = some ⟨g, off, none⟩ ∧ cap = cap' := by simpa using hv
        obtain ⟨c0, c1, c2⟩ := rd_lease hcell hx
        have hgl : g < wr.heap.size := World.block_lt_of_cell? wr _ c0
        have hxH := hid hx
        obtain ⟨lv, o2⟩ := regC_open ok
        obtain ⟨A2, n2, k2, rfl⟩ := sl_shape o2.swap
        have d0 := o2.cell (i := 0) (v := .slice A2 n2 k2) rfl
        have f0 := o2.free 0
        have hp := o2.lt
        have o3 := (Own.swap o2).alloc (.cells #[.int .u64 x.id, .int .u64 x.time, .int .u64 x.until_] 54)
        have hkl : (l.take k).length = k := by simp; omega
        have hw1 : (wr.alloc (.cells #[.int .u64 x.id, .int .u64 x.time, .int .u64 x.until_] 54)).heap.size = wr.heap.size + 1 := by simp
        clear hx ok hcell o2
        go_wp2_with fail
        go_region_law (first | (refine step_append_slc rfl _ _ _ rfl 67 i0 _ 3 24 Try.underlying60 hi0 hz0 hz1 hz2 rfl (by omega) _ _ _ rfl (Own.allocd (Own.drew (Own.swap o3))) ⟨wr.heap.size + 1, 0, none⟩ 1 1 [.int .u64 x.id, .int .u64 x.time, .int .u64 x.until_] rfl rfl (cells_new' (by simp) _ _ _) (by simp [Value.oneCell']) (by rw [hkl]; unfold maxLen; omega) (by rw [hkl]; omega) (by omega) ?_; intro A3 k3 w3 o4 e4; have g0 := Own.cell (i := 0) (v := .slice A2 n2 k2) (Own.pick 2 o4) rfl; have g1 := Own.free (Own.pick 2 o4) 0))
        all_goals
          have o5 := sl_of (E := leaseE) (l.take k ++ [x]) o4 (by simp) (by simp [leaseE, Enc.flat])
          rw [hkl] at o5
          have o6 := (Own.pick 2 o5).set (i := 0) (.slice A3 (k + 1) k3)
          have hs : l.take (k + 1) = l.take k ++ [x] := by
            obtain ⟨hk', rfl⟩ := List.getElem?_eq_some_iff.1 hxH.out
            rw [List.take_succ_eq_append_getElem hk']
          have hsH := hid hs
          have o7 := (regC_close (r := ⟨l.take k ++ [x], safe, next⟩) o6).swap.drop
          have o7H := hid (regC_close (r := ⟨l.take k ++ [x], safe, next⟩) o6)
          clear o4 o5 o6 hs o7
          go_wp2
          go_roundw
          case rel => exact ⟨k + 1, by go_num, by omega, by rw [hsH.out]; exact Own.drop (Own.swap o7H.out), (ek.trans (((((Ext.refl _).alloc _).alloc _).drew).trans e4)).set _ _⟩
          case measure => simp [intOf]; omega
      · obtain rfl : k = l.length := by omega
        rw [List.take_length] at okH
        clear ok
        go_wp2
        go_ret2
        exact ⟨_, rfl, okH.out, ek⟩
  · have hd : decide (next ≤ y.id) = false := decide_eq_false (by omega)
    have hl0 : 0 < l.length := by have := (List.getElem?_eq_some_iff.1 hy).1; omega
    have hlp : decide (0 < l.length) = true := decide_eq_true hl0
    have hw : IntKind.i64.wrap ((l.length : Int) - 1) = (l.length : Int) - 1 := IntWalk.i64_in _ (by omega)
    have hw0 : (0 : Int) ≤ (l.length : Int) - 1 := by omega
    have hwn : ((l.length : Int) - 1).toNat = l.length - 1 := by omega
    have hyH := hid hy
    clear hy hlt
    go_enter Try.func22, Try.ntmps22
    go_wp2_with fail
    refine hcH.out.mono ?_
    rintro e w1 ⟨he, o1, e1⟩
    obtain ⟨s, rfl⟩ := colSays l he
    rw [if_pos t1]
    rcases hH.out w1 F o1 with ⟨_, hxs⟩ | ⟨g0, off0, cap0, hv0, _, _, hcell0⟩
    · have := hyH.out; rw [hxs] at this; simp at this
    obtain ⟨rfl, rfl⟩ : a = some ⟨g0, off0, none⟩ ∧ cap = cap0 := by simpa using hv0
    obtain ⟨c00, _, _⟩ := rd_lease hcell0 hyH.out
    have o1H := hid o1
    clear hcell0 t1 o1
    go_wp2_with fail
    refine (time_c next _).mono ?_
    rintro e w2 ⟨rfl, rfl⟩
    go_wp2_with fail
    go_loopw [51] (fun i wr => ∃ k : Nat, i = .int .i64 k ∧ k ≤ l.length ∧ Own wr (regC w1.heap.size ⟨l.take k, safe, next⟩ :: (D ++ F)) ∧ Ext w wr) (fun i _ => l.length - (intOf i).toNat)
    case atStart => exact ⟨0, rfl, Nat.zero_le _, regC_close (r := ⟨[], safe, next⟩) (sl_nil _ _ (o1H.out.alloc _)).swap, e1.alloc _⟩
    case round =>
      obtain ⟨k, rfl, hk, ok, ek⟩ := hrel
      have okH := hid ok
      by_cases hlt : k < l.length
      · obtain ⟨x, hx⟩ : ∃ x, l[k]? = some x := ⟨_, List.getElem?_eq_getElem hlt⟩
        rcases hH.out wr _ (Own.exch [_] D ok) with ⟨_, hxs⟩ | ⟨g, off, cap', hv, h1, h2, hcell⟩
        · rw [hxs] at hx; simp at hx
        obtain ⟨⟨rfl, rfl⟩, rfl⟩ : (g = g0 ∧ off = off0) ∧ cap' = cap := by simpa [eq_comm] using hv
        obtain ⟨c0, c1, c2⟩ := rd_lease hcell hx
        have hgl : g < wr.heap.size := World.block_lt_of_cell? wr _ c0
        have hxH := hid hx
        obtain ⟨lv, o2⟩ := regC_open ok
        obtain ⟨A2, n2, k2, rfl⟩ := sl_shape o2.swap
        have d0 := o2.cell (i := 0) (v := .slice A2 n2 k2) rfl
        have f0 := o2.free 0
        have hp := o2.lt
        have o3 := (Own.swap o2).alloc (.cells #[.int .u64 x.id, .int .u64 x.time, .int .u64 x.until_] 54)
        have hkl : (l.take k).length = k := by simp; omega
        have hw1 : (wr.alloc (.cells #[.int .u64 x.id, .int .u64 x.time, .int .u64 x.until_] 54)).heap.size = wr.heap.size + 1 := by simp
        clear hx ok hcell o2
        go_wp2_with fail
        go_region_law (first | (refine step_append_slc rfl _ _ _ rfl 67 i0 _ 3 24 Try.underlying60 hi0 hz0 hz1 hz2 rfl (by omega) _ _ _ rfl (Own.allocd (Own.drew (Own.swap o3))) ⟨wr.heap.size + 1, 0, none⟩ 1 1 [.int .u64 x.id, .int .u64 x.time, .int .u64 x.until_] rfl rfl (cells_new' (by simp) _ _ _) (by simp [Value.oneCell']) (by rw [hkl]; unfold maxLen; omega) (by rw [hkl]; omega) (by omega) ?_; intro A3 k3 w3 o4 e4; have g0 := Own.cell (i := 0) (v := .slice A2 n2 k2) (Own.pick 2 o4) rfl; have g1 := Own.free (Own.pick 2 o4) 0))
        all_goals
          have o5 := sl_of (E := leaseE) (l.take k ++ [x]) o4 (by simp) (by simp [leaseE, Enc.flat])
          rw [hkl] at o5
          have o6 := (Own.pick 2 o5).set (i := 0) (.slice A3 (k + 1) k3)
          have hs : l.take (k + 1) = l.take k ++ [x] := by
            obtain ⟨hk', rfl⟩ := List.getElem?_eq_some_iff.1 hxH.out
            rw [List.take_succ_eq_append_getElem hk']
          have hsH := hid hs
          have o7 := (regC_close (r := ⟨l.take k ++ [x], safe, next⟩) o6).swap.drop
          have o7H := hid (regC_close (r := ⟨l.take k ++ [x], safe, next⟩) o6)
          clear o4 o5 o6 hs o7
          go_wp2
          go_roundw
          case rel => exact ⟨k + 1, by go_num, by omega, by rw [hsH.out]; exact Own.drop (Own.swap o7H.out), (ek.trans (((((Ext.refl _).alloc _).alloc _).drew).trans e4)).set _ _⟩
          case measure => simp [intOf]; omega
      · obtain rfl : k = l.length := by omega
        rw [List.take_length] at okH
        clear ok
        go_wp2
        go_ret2
        exact ⟨_, rfl, okH.out, ek⟩
end Go.Proofs.Ytkgflckfphecjaa
