/- A registry of leases: Renew. -/
import Derived.Test.YtkgflckfphecjaaSnapG
namespace Go.Proofs.Ytkgflckfphecjaa
open Go.RowKit Go.Sl Go.Scree

attribute [local go_sem high] min_two max_two

def RenewSays (p : Nat) (r : Reg) (id lease now : Int) (w : World) (F : List Chunk) : Prop :=
  Calls Try.prog 15 #[.pointer (some ⟨p, 0, none⟩), .int .u64 id, .int .u64 lease, .int .u64 now] w fun e w' => e = .returned (.int .i64 (r.renew id lease now).2) ∧ Own w' (regC p (r.renew id lease now).1 :: F) ∧ Ext w w'

def UntilSays (lease now : Int) (u : Bool) : Prop := ∀ w, Calls Try.prog 30 #[.int .u64 lease, .int .u64 now] w fun e w' => (∃ v : Int, e = .returned (.tuple #[.int .u64 v, .bool u])) ∧ w = w'

set_option maxHeartbeats 1600000 in
theorem renew_c (p : Nat) (id lease now : Int) (r : Reg) (h0 : 0 ≤ now) (w : World) (F : List Chunk) (o : Own w (regC p r :: F)) : RenewSays p r id lease now w F := by
  unfold RenewSays
  have hf := find_c p id r w F o
  clear o
  have hU : UntilSays lease now (untilB lease now) := by
    intro w
    cases hu : untilB lease now
    · exact (until_no lease now w h0 hu).mono fun e w' h => h
    · exact (until_yes lease now w h0 hu).mono fun e w' ⟨he, hw⟩ => ⟨⟨_, he⟩, hw⟩
  cases hfd : r.find id with
  | none =>
    rw [find_none hfd] at hf
    have hR : r.renew id lease now = (r, 10) := by simp [Reg.renew, hfd]
    rw [hR]
    have hfH := hid hf
    clear hf hfd hR
    go_enter Try.func15, Try.ntmps15
    go_wp2_with fail
    refine hfH.out.mono ?_
    rintro e w1 ⟨rfl, o1, e1⟩
    go_wp2_with fail
    refine (hU _).mono ?_
    rintro e w2 ⟨⟨v, rfl⟩, rfl⟩
    go_wp2
    go_ret
    exact ⟨rfl, o1, e1⟩
  | some k =>
    obtain ⟨hi, x, hx, _⟩ := find_some hfd
    rw [hi] at hf
    have hR : r.renew id lease now = if livesB now x = false then (r, 25) else if untilB lease now = false then (r, 3) else ({ r with l := r.l.set k { x with until_ := max x.until_ (now + lease) } }, 0) := by simp [Reg.renew, hfd, hx]
    rw [hR]
    have hfH := hid hf
    have hxH := hid hx
    clear hf hfd hR hx hi
    by_cases hl : now < x.until_
    · have hd : decide (now < x.until_) = true := by simpa using hl
      rw [if_neg (by simp [livesB, hl])]
      cases hu : untilB lease now
      · rw [hu] at hU
        rw [if_pos rfl]
        clear hu
        go_enter Try.func15, Try.ntmps15
        go_wp2_with fail
        refine hfH.out.mono ?_
        rintro e w1 ⟨rfl, o1, e1⟩
        obtain ⟨lv, o2⟩ := regC_open o1
        have c0 := o2.cell (i := 0) (v := lv) rfl
        have hp := o2.lt
        obtain ⟨g, cap, rfl, hgl, hk, hn, hc, d0, d1, d2, f0, f1, f2⟩ := sl_get o2.swap hxH.out
        have o1H := hid o1
        clear o1 o2 f0 f1 f2 hc
        go_wp2_with fail
        refine (hU _).mono ?_
        rintro e w2 ⟨⟨v, rfl⟩, rfl⟩
        go_wp2
        go_ret
        exact ⟨rfl, o1H.out.allocd, e1.alloc _⟩
      · clear hU
        rw [if_neg (by simp)]
        have huH := hid hu
        clear hu
        go_enter Try.func15, Try.ntmps15
        go_wp2_with fail
        refine hfH.out.mono ?_
        rintro e w1 ⟨rfl, o1, e1⟩
        obtain ⟨lv, o2⟩ := regC_open o1
        have c0 := o2.cell (i := 0) (v := lv) rfl
        have hp := o2.lt
        obtain ⟨g, cap, rfl, hgl, hk, hn, hc, d0, d1, d2, f0, f1, f2⟩ := sl_get o2.swap hxH.out
        have o2H := hid o2
        clear o1 o2 hc
        go_wp2_with fail
        refine (until_yes lease now _ h0 huH.out).mono ?_
        rintro e w2 ⟨rfl, rfl⟩
        go_wp2_with fail
        refine (lives_c _ _ _ _ _ _ o2H.out).mono ?_
        rintro e w3 ⟨rfl, o3, e3⟩
        have c0 := o3.cell (i := 0) (v := .slice (some ⟨g, 0, none⟩) r.l.length cap) rfl
        have hp := o3.lt
        obtain ⟨g', cap', hv, hgl, hk, hn, hc, d0, d1, d2, f0, f1, f2⟩ := sl_get o3.swap hxH.out
        simp only [Value.slice.injEq, Option.some.injEq, Addr.mk.injEq] at hv
        obtain ⟨⟨rfl, _, _⟩, _, rfl⟩ := hv
        have o3H := hid o3
        clear o3 hc
        go_wp2_with fail
        go_region
        all_goals
          go_wp2
          go_ret
          refine ⟨rfl, ?_, ((e1.trans e3).drew).set _ _⟩
          have o4 := sl_field (j := 2) (Own.drew (o3H.out.swap)) hxH.out (by decide) { x with until_ := max x.until_ (now + lease) } (.int .u64 (max x.until_ (now + lease))) rfl
          exact regC_close (r := { r with l := r.l.set k { x with until_ := max x.until_ (now + lease) } }) (lv := .slice (some ⟨g, 0, none⟩) r.l.length cap) o4.swap
    · have hd : decide (now < x.until_) = false := by simpa using hl
      rw [if_pos (by simp [livesB, hl])]
      go_enter Try.func15, Try.ntmps15
      go_wp2_with fail
      refine hfH.out.mono ?_
      rintro e w1 ⟨rfl, o1, e1⟩
      obtain ⟨lv, o2⟩ := regC_open o1
      have c0 := o2.cell (i := 0) (v := lv) rfl
      have hp := o2.lt
      obtain ⟨g, cap, rfl, hgl, hk, hn, hc, d0, d1, d2, f0, f1, f2⟩ := sl_get o2.swap hxH.out
      have o1H := hid o1
      clear o1 o2 f0 f1 f2 hc
      go_wp2_with fail
      refine (hU _).mono ?_
      rintro e w2 ⟨⟨v, rfl⟩, rfl⟩
      go_wp2
      go_ret
      exact ⟨rfl, o1H.out.allocd, e1.alloc _⟩
end Go.Proofs.Ytkgflckfphecjaa
