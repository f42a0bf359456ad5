/- A registry of leases: Reads, leases, Live, State. -/
import Derived.Test.YtkgflckfphecjaaSnapC
import Derived.Deep.QuietTactic
import Derived.BigQuiet
namespace Go.Proofs.Ytkgflckfphecjaa
open Go.RowKit Go.Sl Go.Scree

theorem reads_tells (p q : Nat) (t now : Int) : Tells [stars [pts p (.cells #[.int .u64 t] 23 (0, 0)), pts q (.cells #[.int .u64 now] 23 (0, 0))]] 46 #[.pointer (some ⟨p, 0, none⟩), .pointer (some ⟨q, 0, none⟩)] (fun x => x.time == t && livesB now x) :=
  ⟨fun _ _ => by rfl, fun x w F o => reads1_c x.id x.time x.until_ t now p q w _ o (Own.cell (Own.stars o) rfl) (Own.cell (Own.swap (Own.stars o)) rfl)⟩

set_option maxHeartbeats 800000 in
theorem reads_c (p : Nat) (t now : Int) (r : Reg) (w : World) (F : List Chunk) (o : Own w (regC p r :: F)) :
    Calls Try.prog 28 #[.pointer (some ⟨p, 0, none⟩), .int .u64 t, .int .u64 now] w fun e w' => e = .returned (.int .i64 (r.reads t now)) ∧ Own w' (regC p r :: F) ∧ Ext w w' := by
  obtain ⟨lv, o2⟩ := regC_open o
  have c0 := o2.cell (i := 0) (v := lv) rfl
  have c1 := o2.cell (i := 1) (v := .int .u64 r.safe) rfl
  have hp := o2.lt
  have oH := hid o
  have o2H := hid o2
  obtain ⟨A1, n1, k1, rfl⟩ := sl_shape o2.swap
  by_cases hs : r.safe ≤ t
  · have hR : r.reads t now = 0 := by simp [Reg.reads, hs]
    rw [hR]
    have hd : decide (r.safe ≤ t) = true := by simpa using hs
    clear hR o o2
    go_enter Try.func28, Try.ntmps28
    go_wp2_with fail
    go_quiet (fail)
    go_wp2
    go_ret
    refine ⟨rfl, ?_, ?_⟩
    · have := oH.out
      exact Own.same ((this.allocd).allocd) (fun _ _ => rfl)
    · exact ⟨rfl, rfl, rfl, by simp; omega⟩
  · have hd : decide (r.safe ≤ t) = false := by simpa using hs
    have hR : r.reads t now = if r.l.any (fun h => h.time == t && livesB now h) = true then 0 else 26 := by
      simp only [Reg.reads, hs, false_or]
    rw [hR]
    clear hR o o2
    have hfalse : ¬ t ≥ r.safe := hs
    have o3 := ((o2H.out.alloc (.cells #[.int .u64 t] 23)).alloc (.cells #[.int .u64 now] 23)).drew
    have o4 := Own.pick 2 (Own.unstars (cs := [_, _]) o3.swap)
    have hc := containsFunc_c (D := [_, _]) (fun h => h.time == t && livesB now h) 46 _ (.slice A1 n1 k1) r.l (fun w F o => sl_rd o) ((reads_tells w.heap.size (w.alloc (.cells #[.int .u64 t] 23)).heap.size t now).cons _) _ o4
    have hsz : (w.alloc (.cells #[.int .u64 t] 23)).heap.size = w.heap.size + 1 := by simp
    rw [hsz] at hc
    cases hany : r.l.any (fun h => h.time == t && livesB now h)
    all_goals
      rw [hany] at hc
      have hcH := hid hc
      clear hc hany o3 o4 hsz hfalse hs
      go_enter Try.func28, Try.ntmps28
      go_wp2_with fail
      go_region_with (go_at_call 45; refine hcH.out.mono ?_; rintro e w1 ⟨rfl, o5, e5⟩)
      all_goals
        have o6 := (regC_close (Own.pick 2 o5)).swap.drop
        have o6H := hid o6
        clear o6 o5
        go_wp2
        go_ret
        exact ⟨rfl, o6H.out, ((((Ext.refl _).alloc _).alloc _).drew).trans e5⟩

end Go.Proofs.Ytkgflckfphecjaa
