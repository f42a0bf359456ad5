/- SnapLoads: the walk of the law. -/
import Derived.Test.YtkgflckfphecjaaSnapS
import Derived.Test.YtkgflckfphecjaaSnapO
import Derived.Test.YtkgflckfphecjaaOpenL
import Derived.Test.YtkgflckfphecjaaSnapK
import Derived.Test.YtkgflckfphecjaaRefF
import Derived.Test.YtkgflckfphecjaaRefG
import Derived.Deep.RegionHeld3
namespace Go.Proofs.Ytkgflckfphecjaa
open Go.RowKit Go.Sl Go.Scree

set_option maxRecDepth 20000 in
set_option maxHeartbeats 6400000 in
theorem snapLoads_walk (v : Value) (l : List Lease) (safe next : Int) (w : World) (hrd : Rd w leaseE v l) (hnn : ∀ x ∈ l, 0 ≤ x.until_) :
    Calls Try.prog 4 #[v, .int .u64 safe, .int .u64 next] w fun e w' => e = .returned (.bool true) ∧ Below w.heap.size w w' := by
  have hH := hid (rd_base hrd)
  obtain ⟨a, cap, rfl, hm, hcap⟩ := hrd.form
  have hl : l.length ≤ 9223372036854775807 := by simpa [maxLen] using hm
  have o0 := Own.start w
  have hnnH := hid hnn
  clear hrd hnn
  by_cases h40 : 40 < l.length
  · have d1 : decide (40 < l.length) = true := decide_eq_true h40
    have d2 : decide ((40 : Int) < (l.length : Int)) = true := decide_eq_true (by omega)
    go_enter Try.func4, Try.ntmps4
    go_wp2_with fail
    refine (awake_c _ _ o0).mono ?_
    rintro e w1 ⟨rfl, o1, e1⟩
    go_wp2
    go_ret
    exact ⟨rfl, below_of_own o1 e1⟩
  have d1 : decide (40 < l.length) = false := decide_eq_false h40
  have d2 : decide ((40 : Int) < (l.length : Int)) = false := decide_eq_false (by omega)
  cases hg : loadGood l safe next
  · go_enter Try.func4, Try.ntmps4
    go_wp2_with fail
    refine (awake_c _ _ o0).mono ?_
    rintro e w1 ⟨rfl, o1, e1⟩
    go_wp2_with fail
    refine Calls.mono (load_no (D := [base w w.heap.size]) _ l safe next hH.out hnnH.out hg w1 [] o1) ?_
    rintro e w2 ⟨rfl, o2, e2⟩
    go_wp2_with fail
    refine Calls.mono (own_c (D := [base w w.heap.size]) _ l hH.out (by omega) w2 [] o2) ?_
    rintro e w3 ⟨v3, rfl, o3, e3⟩
    obtain ⟨A3, n3, c3, rfl⟩ := sl_shape o3
    go_wp2_with fail
    refine Calls.mono (xload_c _ l safe next hnnH.out (by omega) w3 _ o3) ?_
    rintro e w4 (⟨hg2, _⟩ | ⟨_, rfl, o4, e4⟩)
    · rw [hg] at hg2; cases hg2
    go_wp2
    go_ret
    exact ⟨rfl, below_of_own o4.drop (((e1.trans e2).trans e3).trans e4)⟩
  · have hgH := hid hg
    clear hg
    go_enter Try.func4, Try.ntmps4
    go_wp2_with fail
    refine (awake_c _ _ o0).mono ?_
    rintro e w1 ⟨rfl, o1, e1⟩
    go_wp2_with fail
    refine Calls.mono (load_yes (D := [base w w.heap.size]) _ l safe next hH.out hnnH.out hgH.out w1 [] o1) ?_
    rintro e w2 ⟨p, rfl, o2, e2⟩
    go_wp2_with fail
    refine Calls.mono (own_c (D := [base w w.heap.size]) _ l hH.out (by omega) w2 [regC p ⟨l, safe, next⟩] (Own.swap o2)) ?_
    rintro e w3 ⟨v3, rfl, o3, e3⟩
    obtain ⟨A3, n3, c3, rfl⟩ := sl_shape o3
    go_wp2_with fail
    refine Calls.mono (xload_c _ l safe next hnnH.out (by omega) w3 _ o3) ?_
    rintro e w4 (⟨_, px, rfl, o4, e4⟩ | ⟨hg2, _⟩)
    · have o5 := Own.pick 3 o4
      go_wp2_with fail
      refine Calls.mono (state_c p ⟨l, safe, next⟩ (by simp only; omega) w4 _ o5) ?_
      rintro e w5 ⟨v5, rfl, o6, e5⟩
      obtain ⟨A5, n5, c5, rfl⟩ := sl_shape o6
      obtain ⟨lx, o7⟩ := regX_open (Own.pick 2 o6)
      have b0 := o7.cell (i := 0) (v := lx) rfl
      have b1 := o7.cell (i := 1) (v := .int .u64 safe) rfl
      have b2 := o7.cell (i := 2) (v := .int .u64 next) rfl
      have hp := o7.lt
      have o8 := (Own.pick 2 o7).drew
      have hlen : l.length ≤ 1000 := by omega
      have hr1 : Gives [sl 54 leaseE (.slice A5 n5 c5) l] fun w => Rd w leaseE (.slice A5 n5 c5) l := fun w F o => sl_rd o
      have o8H := hid o8
      clear o0 o1 o2 o3 o4 o5 o6 o7
      have e9 := (((((e1.trans e2).trans e3).trans e4).trans e5)).drew
      go_wp2_with fail
      go_region_held3 (fun W => W.cell? ⟨px, 0, none⟩ = some lx ∧ W.cell? ⟨px, 1, none⟩ = some (.int .u64 safe) ∧ W.cell? ⟨px, 2, none⟩ = some (.int .u64 next)) (first | exact ⟨b0, b1, b2⟩ | exact ⟨by assumption, by assumption, by assumption⟩) (first | (go_at_call 25; refine Calls.mono (own_c (D := [sl 54 leaseE (.slice A5 n5 c5) l]) _ l hr1 hlen _ _ o8H.out) ?_; rintro e w6 ⟨v6, rfl, p1, q1⟩; have d0 := Own.cell (i := 0) (v := lx) (Own.pick 2 p1) rfl; have d1 := Own.cell (i := 1) (v := .int .u64 safe) (Own.pick 2 p1) rfl; have d2 := Own.cell (i := 2) (v := .int .u64 next) (Own.pick 2 p1) rfl) | (go_at_call 26; refine Calls.mono (xsame_c (D := [_, _, _, _]) _ _ l l (fun w F o => sl_rd o) (fun w F o => sl_rd (Own.pick 3 o)) _ _ (by assumption)) ?_; rintro e w7 ⟨rfl, p2, q2⟩; have f0 := Own.cell (i := 0) (v := lx) (Own.pick 2 p2) rfl; have f1 := Own.cell (i := 1) (v := .int .u64 safe) (Own.pick 2 p2) rfl; have f2 := Own.cell (i := 2) (v := .int .u64 next) (Own.pick 2 p2) rfl))
      go_wp2
      go_ret
      exact ⟨rfl, below_of_own (Own.pick 6 p2) ((e9.trans q1).trans q2)⟩
    · rw [hgH.out] at hg2; cases hg2
theorem snapLoads_row (v : Value) (l : List Lease) (safe next : Int) (w : World) (hrd : Rd w leaseE v l) (hp : ∀ x ∈ l, x.Wf) (_ : (Lit.int .u64 safe).wf = true) (_ : (Lit.int .u64 next).wf = true) :
    Calls Try.prog 4 #[v, .int .u64 safe, .int .u64 next] w fun e w' => e = .returned (.bool true) ∧ Below w.heap.size w w' := snapLoads_walk v l safe next w hrd (fun x hx => u64_nonneg (hp x hx))
end Go.Proofs.Ytkgflckfphecjaa
