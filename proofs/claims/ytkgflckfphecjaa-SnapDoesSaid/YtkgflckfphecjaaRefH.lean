/- The law's same. -/
import Derived.Test.YtkgflckfphecjaaSnapG
import Derived.Test.YtkgflckfphecjaaSnapE
import Derived.Test.YtkgflckfphecjaaRefB
import Derived.Test.YtkgflckfphecjaaRefF
import Derived.Test.YtkgflckfphecjaaRefI
import Derived.Deep.RegionHeld3
namespace Go.Proofs.Ytkgflckfphecjaa
open Go.RowKit Go.Sl Go.Scree

set_option maxRecDepth 20000 in
set_option maxHeartbeats 6400000 in
theorem same_c (p px : Nat) (t now : Int) (r : Reg) (hlen : r.l.length ≤ 1000) (w : World) (F : List Chunk) (o : Own w (regC p r :: regX px r :: F)) :
    Calls Try.prog 23 #[.pointer (some ⟨p, 0, none⟩), .pointer (some ⟨px, 0, none⟩), .int .u64 t, .int .u64 now] w fun e w' => e = .returned (.bool true) ∧ Own w' (regC p r :: regX px r :: F) ∧ Ext w w' := by
  have hl2 : (r.l.filter (livesB now)).length ≤ 1000 := Nat.le_trans (List.length_filter_le _ _) hlen
  go_enter Try.func23, Try.ntmps23
  go_wp2_with fail
  refine Calls.mono (state_c p r hlen _ _ o) ?_
  rintro e w1 ⟨v1, rfl, o1, e1⟩
  obtain ⟨A1, n1, c1, rfl⟩ := sl_shape o1
  go_wp2_with fail
  refine Calls.mono (check_c p t now r _ _ o1.swap) ?_
  rintro e w2 ⟨rfl, o2, e2⟩
  go_wp2_with fail
  refine Calls.mono (xcheck_c px t now r _ _ (Own.pick 2 o2)) ?_
  rintro e w3 ⟨rfl, o3, e3⟩
  obtain ⟨lx, o4⟩ := regX_open o3
  have b0 := o4.cell (i := 0) (v := lx) rfl
  have b1 := o4.cell (i := 1) (v := .int .u64 r.safe) rfl
  have b2 := o4.cell (i := 2) (v := .int .u64 r.next) rfl
  have hp := o4.lt
  have o8 := (Own.pick 3 o4).drew
  have o8H := hid o8
  clear o o1 o2 o3 o4 o8
  have e9 := ((e1.trans e2).trans e3).drew
  generalize hck : r.check t now = ck at *
  have hckH := hid hck
  clear hck
  go_wp2_with fail
  go_region_held3 (fun W => W.cell? ⟨px, 0, none⟩ = some lx ∧ W.cell? ⟨px, 1, none⟩ = some (.int .u64 r.safe) ∧ W.cell? ⟨px, 2, none⟩ = some (.int .u64 r.next)) (first | exact ⟨b0, b1, b2⟩ | exact ⟨by assumption, by assumption, by assumption⟩) (first
    | (go_at_call 25; refine Calls.mono (own_c (D := [_]) _ r.l (fun w F o => sl_rd o) hlen _ _ o8H.out) ?_; rintro e w6 ⟨v6, rfl, p1, q1⟩; have d0 := Own.cell (i := 0) (v := lx) (Own.pick 2 p1) rfl; have d1 := Own.cell (i := 1) (v := .int .u64 r.safe) (Own.pick 2 p1) rfl; have d2 := Own.cell (i := 2) (v := .int .u64 r.next) (Own.pick 2 p1) rfl)
    | (go_at_call 26; refine Calls.mono (xsame_c (D := [_, _, _, _]) _ _ r.l r.l (fun w F o => sl_rd o) (fun w F o => sl_rd (Own.pick 3 o)) _ _ p1) ?_; rintro e w7 ⟨rfl, p2, q2⟩; have f0 := Own.cell (i := 0) (v := lx) (Own.pick 2 p2) rfl; have f1 := Own.cell (i := 1) (v := .int .u64 r.safe) (Own.pick 2 p2) rfl; have f2 := Own.cell (i := 2) (v := .int .u64 r.next) (Own.pick 2 p2) rfl)
    | (go_at_call 28; refine Calls.mono (reads_c p t now r _ _ (Own.pick 4 p2)) ?_; rintro e w8 ⟨rfl, p3, q3⟩; have g0 := Own.cell (i := 0) (v := lx) (Own.pick 3 p3) rfl; have g1 := Own.cell (i := 1) (v := .int .u64 r.safe) (Own.pick 3 p3) rfl; have g2 := Own.cell (i := 2) (v := .int .u64 r.next) (Own.pick 3 p3) rfl)
    | (go_at_call 43; refine Calls.mono (xreads_o px lx t now r hlen _ _ (Own.pick 4 (Own.pick 4 p3))) ?_; rintro e w9 ⟨rfl, p4, q4⟩; have h0 := Own.cell (i := 0) (v := lx) (p4) rfl; have h1 := Own.cell (i := 1) (v := .int .u64 r.safe) (p4) rfl; have h2 := Own.cell (i := 2) (v := .int .u64 r.next) (p4) rfl)
    | (go_at_call 27; refine Calls.mono (live_c now p r hlen _ _ (Own.pick 2 p4)) ?_; rintro e w10 ⟨v10, rfl, p5, q5⟩; have i0 := Own.cell (i := 0) (v := lx) (Own.pick 2 p5) rfl; have i1 := Own.cell (i := 1) (v := .int .u64 r.safe) (Own.pick 2 p5) rfl; have i2 := Own.cell (i := 2) (v := .int .u64 r.next) (Own.pick 2 p5) rfl)
    | (go_at_call 25; refine Calls.mono (own_c (D := [_]) _ (r.l.filter (livesB now)) (fun w F o => sl_rd o) hl2 _ _ p5) ?_; rintro e w11 ⟨v11, rfl, p6, q6⟩; have j0 := Own.cell (i := 0) (v := lx) (Own.pick 3 p6) rfl; have j1 := Own.cell (i := 1) (v := .int .u64 r.safe) (Own.pick 3 p6) rfl; have j2 := Own.cell (i := 2) (v := .int .u64 r.next) (Own.pick 3 p6) rfl)
    | (go_at_call 34; refine Calls.mono (xlive_o now px lx r hlen _ _ (Own.pick 4 (Own.pick 4 p6))) ?_; rintro e w12 ⟨v12, rfl, p7, q7⟩; have k0 := Own.cell (i := 0) (v := lx) (Own.pick 1 p7) rfl; have k1 := Own.cell (i := 1) (v := .int .u64 r.safe) (Own.pick 1 p7) rfl; have k2 := Own.cell (i := 2) (v := .int .u64 r.next) (Own.pick 1 p7) rfl)
    | (go_at_call 26; refine Calls.mono (xsame_c (D := [_, _, _, _]) _ _ (r.l.filter (livesB now)) (r.l.filter (livesB now)) (fun w F o => sl_rd (Own.pick 3 o)) (fun w F o => sl_rd o) _ _ p7) ?_; rintro e w13 ⟨rfl, p8, q8⟩; have m0 := Own.cell (i := 0) (v := lx) (Own.pick 1 p8) rfl; have m1 := Own.cell (i := 1) (v := .int .u64 r.safe) (Own.pick 1 p8) rfl; have m2 := Own.cell (i := 2) (v := .int .u64 r.next) (Own.pick 1 p8) rfl))
  go_wp2
  go_ret
  have z := Own.pick 4 (regX_close (r := r) (Own.pick 2 (Own.pick 2 p8)))
  have z1 := (Own.pick 2 z).drop
  have z2 := (Own.pick 2 z1).drop
  have z3 := (Own.pick 2 z2).drop
  have z4 := (Own.pick 2 z3).drop
  have z5 := (Own.pick 2 z4).drop
  exact ⟨rfl, z5, ((((((((e9.trans q1).trans q2).trans q3).trans q4).trans q5).trans q6).trans q7).trans q8)⟩
end Go.Proofs.Ytkgflckfphecjaa
