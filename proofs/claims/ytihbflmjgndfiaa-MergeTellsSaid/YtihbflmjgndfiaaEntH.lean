/- Cursors in memory; the walk of first. -/
import Derived.Test.YtihbflmjgndfiaaEntR
import Derived.Test.YtihbflmjgndfiaaEntJ
namespace Go.Proofs.Ytihbflmjgndfiaa
open Go.RowKit Go.Sl Go.Scree

def curO (c : Cur) : Obj := .cells #[.int .i64 c.n, .slice c.A c.l.length c.c] 56 (0, 0)
def curC (c : Cur) : Chunk := pts c.p (curO c)
def curs (cs : List Cur) : Chunk := stars (cs.map curC)
def curE : Enc Cur := ⟨fun c => [.pointer (some ⟨c.p, 0, none⟩)], 1, fun _ => rfl, by simp [Value.oneCell'], by omega⟩

section
variable {w : World} {F : List Chunk} {cs ds : List Cur} {c : Cur}
theorem curs_open (o : Own w (curs (c :: cs) :: F)) : Own w (curC c :: curs cs :: F) := by
  have h := Own.stars o
  rw [List.map_cons, List.cons_append] at h
  have h2 := Own.perm (List.perm_append_comm (l₁ := [curC c]) (l₂ := cs.map curC ++ F)) h
  rw [List.append_assoc] at h2
  have h3 := Own.unstars h2
  have h4 : Own w (stars (cs.map curC) :: (F ++ [curC c])) := h3
  refine Own.perm ?_ h4
  show (curs cs :: (F ++ [curC c])).Perm (curC c :: curs cs :: F)
  have : (curs cs :: (F ++ [curC c])) = (curs cs :: F) ++ [curC c] := rfl
  rw [this]
  exact List.perm_append_comm
theorem curs_close (o : Own w (curC c :: curs cs :: F)) : Own w (curs (c :: cs) :: F) := by
  have h := Own.stars (Own.swap o)
  refine Own.unstars (cs := (c :: cs).map curC) ?_
  rw [List.map_cons, List.cons_append]
  exact Own.up _ h
theorem curs_perm (p : cs.Perm ds) (o : Own w (curs cs :: F)) : Own w (curs ds :: F) := by
  have h := Own.stars o
  exact Own.unstars (Own.perm ((p.map curC).append_right F) h)
theorem curs_nil (o : Own w F) : Own w (curs [] :: F) := Own.unstars (cs := []) o
theorem curs_get (o : Own w (curs cs :: F)) (h : c ∈ cs) : w.heap[c.p]? = some (curO c) := by
  obtain ⟨a, b, rfl⟩ := List.append_of_mem h
  have o2 := curs_perm (List.perm_middle (a := c) (l₁ := a) (l₂ := b)) o
  exact (curs_open o2).get
end

theorem cur_cells {w : World} {c : Cur} (h : w.heap[c.p]? = some (curO c)) : w.cell? ⟨c.p, 0, none⟩ = some (.int .i64 c.n) ∧ w.cell? ⟨c.p, 1, none⟩ = some (.slice c.A c.l.length c.c) := by
  simp [World.cell?, h, curO]
theorem rd_hd {w : World} {A : Option Addr} {n c : Nat} {x : Ent} {t : List Ent} (h : Rd w entE (.slice A n c) (x :: t)) :
    ∃ g off, A = some ⟨g, off, none⟩ ∧ w.cell? ⟨g, off, none⟩ = some (.string x.key) ∧ w.cell? ⟨g, off + 1, none⟩ = some (.int .u64 x.seq) ∧ w.cell? ⟨g, off + 2, none⟩ = some (.bool x.del) ∧ w.cell? ⟨g, off + 3, none⟩ = some (.string x.val) := by
  obtain ⟨g, off, rfl, _, hce⟩ := rd_ent h rfl (i := 0) (x := x) rfl
  have := hce 0 x rfl
  simp only [Nat.zero_mul, Nat.add_zero] at this
  exact ⟨g, off, rfl, this⟩

set_option maxRecDepth 20000 in
set_option maxHeartbeats 6400000 in
theorem first_c (c d : Cur) (w : World) (hc : w.heap[c.p]? = some (curO c)) (hd : w.heap[d.p]? = some (curO d)) (rc : Rd w entE (.slice c.A c.l.length c.c) c.l) (rd : Rd w entE (.slice d.A d.l.length d.c) d.l) (lc : c.l ≠ []) (ld : d.l ≠ []) :
    Calls Try.prog 25 #[.pointer (some ⟨c.p, 0, none⟩), .pointer (some ⟨d.p, 0, none⟩)] w fun e w' => e = .returned (.bool (firstB c d)) ∧ Kp w w' := by
  obtain ⟨p0, p1⟩ := cur_cells hc
  obtain ⟨q0, q1⟩ := cur_cells hd
  obtain ⟨cp, cn, cA, cc, cl⟩ := c
  obtain ⟨dp, dn, dA, dc, dl⟩ := d
  dsimp only at *
  cases cl with
  | nil => exact absurd rfl lc
  | cons x s =>
  cases dl with
  | nil => exact absurd rfl ld
  | cons y t =>
  obtain ⟨g, off, rfl, a0, a1, a2, a3⟩ := rd_hd rc
  obtain ⟨g2, off2, rfl, b0, b1, b2, b3⟩ := rd_hd rd
  have l1 : cp < w.heap.size := (Array.getElem?_eq_some_iff.1 hc).1
  have l2 : dp < w.heap.size := (Array.getElem?_eq_some_iff.1 hd).1
  obtain ⟨ns, hns⟩ : ∃ n, (x :: s).length = n := ⟨_, rfl⟩
  obtain ⟨nt, hnt⟩ : ∃ n, (y :: t).length = n := ⟨_, rfl⟩
  rw [hns] at p1; rw [hnt] at q1
  have ps : 0 < ns := by rw [← hns]; simp
  have pt : 0 < nt := by rw [← hnt]; simp
  have hB : Hid (firstB ⟨cp, cn, some ⟨g, off, none⟩, cc, x :: s⟩ ⟨dp, dn, some ⟨g2, off2, none⟩, dc, y :: t⟩ = (aheadB x y || (sameB x y && decide (cn < dn)))) := hid rfl
  clear rc rd hc hd lc ld hns hnt
  rcases ahead_tri x y with h | h | h
  · have hcm : cmpE x y = -1 := cmp_ahead h
    rw [h] at hB
    clear h
    go_enter Try.func25, Try.ntmps25
    go_wp2_with fail
    go_region_held3 (fun W => W.cell? ⟨g, off, none⟩ = some (.string x.key) ∧ W.cell? ⟨g, off + 1, none⟩ = some (.int .u64 x.seq) ∧ W.cell? ⟨g, off + 2, none⟩ = some (.bool x.del) ∧ W.cell? ⟨g, off + 3, none⟩ = some (.string x.val) ∧ W.cell? ⟨g2, off2, none⟩ = some (.string y.key) ∧ W.cell? ⟨g2, off2 + 1, none⟩ = some (.int .u64 y.seq) ∧ W.cell? ⟨g2, off2 + 2, none⟩ = some (.bool y.del) ∧ W.cell? ⟨g2, off2 + 3, none⟩ = some (.string y.val) ∧ W.cell? ⟨cp, 0, none⟩ = some (.int .i64 cn) ∧ W.cell? ⟨cp, 1, none⟩ = some (.slice (some ⟨g, off, none⟩) ns cc) ∧ W.cell? ⟨dp, 0, none⟩ = some (.int .i64 dn) ∧ W.cell? ⟨dp, 1, none⟩ = some (.slice (some ⟨g2, off2, none⟩) nt dc)) (first | exact ⟨⟨a0, a1, a2, a3⟩, ⟨b0, b1, b2, b3⟩, p0, p1, q0, q1⟩ | (and_intros <;> assumption)) (first | (go_at_call 27; refine (compare_c x y _).mono ?_; rintro e w1 ⟨rfl, k1⟩; have d0 := k1.cell a0; have d1 := k1.cell a1; have d2 := k1.cell a2; have d3 := k1.cell a3; have d4 := k1.cell b0; have d5 := k1.cell b1; have d6 := k1.cell b2; have d7 := k1.cell b3; have d8 := k1.cell p0; have d9 := k1.cell p1; have d10 := k1.cell q0; have d11 := k1.cell q1))
    have k2 := hid (((Kp.refl w).drew).trans k1)
    have z0 : cp < w1.heap.size := Nat.lt_of_lt_of_le l1 k1.ext.size
    have z1 : dp < w1.heap.size := Nat.lt_of_lt_of_le l2 k1.ext.size
    clear k1 d0 d1 d2 d3 d4 d5 d6 d7 d9 d11 a0 a1 a2 a3 b0 b1 b2 b3 p0 p1 q0 q1
    go_wp2_with fail
    go_quiet (fail)
    go_wp2
    go_ret
    exact ⟨by rw [hB.out]; rfl, k2.out.drewN _⟩
  · have hcm : cmpE x y = 0 := cmp_same h
    have h' : aheadB x y = false := by rw [same_left h]; exact aheadB_irrefl y
    rw [h, h'] at hB
    clear h h'
    rcases bool_cases (decide (cn < dn)) with hn | hn
    all_goals
      rw [hn] at hB
      have hni : decide ((cn : Int) < (dn : Int)) = decide (cn < dn) := by simp
      rw [hn] at hni
      go_enter Try.func25, Try.ntmps25
      go_wp2_with fail
      go_region_held3 (fun W => W.cell? ⟨g, off, none⟩ = some (.string x.key) ∧ W.cell? ⟨g, off + 1, none⟩ = some (.int .u64 x.seq) ∧ W.cell? ⟨g, off + 2, none⟩ = some (.bool x.del) ∧ W.cell? ⟨g, off + 3, none⟩ = some (.string x.val) ∧ W.cell? ⟨g2, off2, none⟩ = some (.string y.key) ∧ W.cell? ⟨g2, off2 + 1, none⟩ = some (.int .u64 y.seq) ∧ W.cell? ⟨g2, off2 + 2, none⟩ = some (.bool y.del) ∧ W.cell? ⟨g2, off2 + 3, none⟩ = some (.string y.val) ∧ W.cell? ⟨cp, 0, none⟩ = some (.int .i64 cn) ∧ W.cell? ⟨cp, 1, none⟩ = some (.slice (some ⟨g, off, none⟩) ns cc) ∧ W.cell? ⟨dp, 0, none⟩ = some (.int .i64 dn) ∧ W.cell? ⟨dp, 1, none⟩ = some (.slice (some ⟨g2, off2, none⟩) nt dc)) (first | exact ⟨⟨a0, a1, a2, a3⟩, ⟨b0, b1, b2, b3⟩, p0, p1, q0, q1⟩ | (and_intros <;> assumption)) (first | (go_at_call 27; refine (compare_c x y _).mono ?_; rintro e w1 ⟨rfl, k1⟩; have d0 := k1.cell a0; have d1 := k1.cell a1; have d2 := k1.cell a2; have d3 := k1.cell a3; have d4 := k1.cell b0; have d5 := k1.cell b1; have d6 := k1.cell b2; have d7 := k1.cell b3; have d8 := k1.cell p0; have d9 := k1.cell p1; have d10 := k1.cell q0; have d11 := k1.cell q1))
      have k2 := hid (((Kp.refl w).drew).trans k1)
      have z0 : cp < w1.heap.size := Nat.lt_of_lt_of_le l1 k1.ext.size
      have z1 : dp < w1.heap.size := Nat.lt_of_lt_of_le l2 k1.ext.size
      clear k1 d0 d1 d2 d3 d4 d5 d6 d7 d9 d11 a0 a1 a2 a3 b0 b1 b2 b3 p0 p1 q0 q1
      go_wp2_with fail
      go_quiet (fail)
      go_wp2
      go_ret
      exact ⟨by rw [hB.out]; rfl, k2.out.drewN _⟩
  · have hcm : cmpE x y = 1 := cmp_behind h
    have h1 : aheadB x y = false := aheadB_asymm h
    have h2 : sameB x y = false := by
      cases e : sameB x y with
      | false => rfl
      | true => rw [← same_left e, aheadB_irrefl] at h; cases h
    rw [h1, h2] at hB
    clear h h1 h2
    go_enter Try.func25, Try.ntmps25
    go_wp2_with fail
    go_region_held3 (fun W => W.cell? ⟨g, off, none⟩ = some (.string x.key) ∧ W.cell? ⟨g, off + 1, none⟩ = some (.int .u64 x.seq) ∧ W.cell? ⟨g, off + 2, none⟩ = some (.bool x.del) ∧ W.cell? ⟨g, off + 3, none⟩ = some (.string x.val) ∧ W.cell? ⟨g2, off2, none⟩ = some (.string y.key) ∧ W.cell? ⟨g2, off2 + 1, none⟩ = some (.int .u64 y.seq) ∧ W.cell? ⟨g2, off2 + 2, none⟩ = some (.bool y.del) ∧ W.cell? ⟨g2, off2 + 3, none⟩ = some (.string y.val) ∧ W.cell? ⟨cp, 0, none⟩ = some (.int .i64 cn) ∧ W.cell? ⟨cp, 1, none⟩ = some (.slice (some ⟨g, off, none⟩) ns cc) ∧ W.cell? ⟨dp, 0, none⟩ = some (.int .i64 dn) ∧ W.cell? ⟨dp, 1, none⟩ = some (.slice (some ⟨g2, off2, none⟩) nt dc)) (first | exact ⟨⟨a0, a1, a2, a3⟩, ⟨b0, b1, b2, b3⟩, p0, p1, q0, q1⟩ | (and_intros <;> assumption)) (first | (go_at_call 27; refine (compare_c x y _).mono ?_; rintro e w1 ⟨rfl, k1⟩; have d0 := k1.cell a0; have d1 := k1.cell a1; have d2 := k1.cell a2; have d3 := k1.cell a3; have d4 := k1.cell b0; have d5 := k1.cell b1; have d6 := k1.cell b2; have d7 := k1.cell b3; have d8 := k1.cell p0; have d9 := k1.cell p1; have d10 := k1.cell q0; have d11 := k1.cell q1))
    have k2 := hid (((Kp.refl w).drew).trans k1)
    have z0 : cp < w1.heap.size := Nat.lt_of_lt_of_le l1 k1.ext.size
    have z1 : dp < w1.heap.size := Nat.lt_of_lt_of_le l2 k1.ext.size
    clear k1 d0 d1 d2 d3 d4 d5 d6 d7 d9 d11 a0 a1 a2 a3 b0 b1 b2 b3 p0 p1 q0 q1
    go_wp2_with fail
    go_quiet (fail)
    go_wp2
    go_ret
    exact ⟨by rw [hB.out]; rfl, k2.out.drewN _⟩
end Go.Proofs.Ytihbflmjgndfiaa
