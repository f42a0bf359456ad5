/- The walk of slices.BinarySearchFunc at entries: where the entries that are ahead of one end. -/
import Derived.Test.YtihbflmjgndfiaaEntC
import Derived.Deep.LoopGhost
namespace Go.Proofs.Ytihbflmjgndfiaa
open Go.RowKit Go.Sl Go.Scree

/-- So many entries are ahead of t. -/
def Place (l : List Ent) (t : Ent) (i : Nat) : Prop := i ≤ l.length ∧ (∀ j x, j < i → l[j]? = some x → aheadB x t = true) ∧ ∀ j x, i ≤ j → l[j]? = some x → aheadB x t = false

set_option maxRecDepth 20000 in
set_option maxHeartbeats 3200000 in
theorem search_c (v : Value) (l : List Ent) (t : Ent) (w : World) (h : Rd w entE v l) (hr : Row l) (hn : l.length ≤ 1000000) :
    Calls Try.prog 31 #[v, entV t, .func (.func 27) #[] #[]] w fun e w' => ∃ (i : Nat) (b : Bool), e = .returned (.tuple #[.int .i64 i, .bool b]) ∧ Place l t i ∧ Kp w w' := by
  obtain ⟨A, c, rfl, hm, hc⟩ := h.form
  have hH := hid h
  have hrH := hid hr
  obtain ⟨tk, tn, td, tv⟩ := t
  unfold entV
  have enters : ∀ args w, (callFunc 27 args).run Try.prog w = .ok (.enter 27 args) w := enters_of Try.func27 (by kernel_rfl) rfl
  clear h hm hc hr
  go_enter Try.func31, Try.ntmps31
  go_wp2_with fail
  go_loopw [9, 10] (fun a b wr => ∃ (lo hi : Nat), a = .int .i64 lo ∧ b = .int .i64 hi ∧ lo ≤ hi ∧ hi ≤ l.length ∧ (∀ j x, j < lo → l[j]? = some x → aheadB x ⟨tk, tn, td, tv⟩ = true) ∧ (∀ j x, hi ≤ j → l[j]? = some x → aheadB x ⟨tk, tn, td, tv⟩ = false) ∧ Kp (w.alloc (.cells #[.string tk, .int .u64 tn, .bool td, .string tv] 31 (0, 0))) wr) (fun a b _ => (intOf b).toNat - (intOf a).toNat)
  case atStart => exact ⟨0, l.length, rfl, rfl, Nat.zero_le _, Nat.le_refl _, fun j x hj => by omega, fun j x hj hx => by have := (List.getElem?_eq_some_iff.1 hx).1; omega, Kp.refl _⟩
  case round =>
    obtain ⟨lo, hi, rfl, rfl, hlh, hhi, h1, h2, k1⟩ := hrel
    have k1H := hid k1
    have h1H := hid h1
    have h2H := hid h2
    have t0 := k1.cell (p := ⟨w.heap.size, 0, none⟩) (v := .string tk) (by simp)
    have t1 := k1.cell (p := ⟨w.heap.size, 1, none⟩) (v := .int .u64 tn) (by simp)
    have t2 := k1.cell (p := ⟨w.heap.size, 2, none⟩) (v := .bool td) (by simp)
    have t3 := k1.cell (p := ⟨w.heap.size, 3, none⟩) (v := .string tv) (by simp)
    clear k1 h1 h2
    by_cases hlt : lo < hi
    · obtain ⟨m, hm⟩ : ∃ m, (lo + hi) / 2 = m := ⟨_, rfl⟩
      obtain ⟨x, hx⟩ : ∃ x, l[m]? = some x := ⟨_, List.getElem?_eq_getElem (by omega)⟩
      obtain ⟨g, off, rfl, _, hce⟩ := rd_ent (k1H.out.rd (((Kp.refl w).alloc _).rd hH.out)) rfl hx
      obtain ⟨a0, a1, a2, a3⟩ := hce _ _ hx
      have hxH := hid hx
      clear hce hx
      have hmid : m < l.length := by omega
      have hmi : ((lo : Int) + (hi : Int)) / 2 = (m : Int) := by omega
      have hmb : lo ≤ m ∧ m < hi := by omega
      have hmbH := hid hmb
      clear hm hmb
      rcases ahead_tri x ⟨tk, tn, td, tv⟩ with hc | hc | hc
      · have hcm : cmpE x ⟨tk, tn, td, tv⟩ = -1 := cmp_ahead hc
        have hcH := hid hc
        clear hc
        go_wp2_with fail
        go_region_held3 (fun W => W.cell? ⟨g, off + m * 4, none⟩ = some (.string x.key) ∧ W.cell? ⟨g, off + m * 4 + 1, none⟩ = some (.int .u64 x.seq) ∧ W.cell? ⟨g, off + m * 4 + 2, none⟩ = some (.bool x.del) ∧ W.cell? ⟨g, off + m * 4 + 3, none⟩ = some (.string x.val) ∧ W.cell? ⟨w.heap.size, 0, none⟩ = some (.string tk) ∧ W.cell? ⟨w.heap.size, 1, none⟩ = some (.int .u64 tn) ∧ W.cell? ⟨w.heap.size, 2, none⟩ = some (.bool td) ∧ W.cell? ⟨w.heap.size, 3, none⟩ = some (.string tv)) (first | exact ⟨a0, a1, a2, a3, t0, t1, t2, t3⟩ | (and_intros <;> assumption)) (first | (go_at_call 27; refine (compare_c x ⟨tk, tn, td, tv⟩ _).mono ?_; rintro e w1 ⟨rfl, k1⟩; have d0 := k1.cell a0; have d1 := k1.cell a1; have d2 := k1.cell a2; have d3 := k1.cell a3; have d4 := k1.cell t0; have d5 := k1.cell t1; have d6 := k1.cell t2; have d7 := k1.cell t3))
        have k2 := hid (k1H.out.drew.trans k1)
        clear k1 d0 d1 d2 d3 d4 d5 d6 d7 a0 a1 a2 a3 t0 t1 t2 t3
        go_wp2
        go_roundw
        case rel =>
          refine ⟨m + 1, hi, by go_num, rfl, hmbH.out.2, hhi, fun j y hj hy => ?_, h2H.out, k2.out⟩
          rcases Nat.lt_or_ge j m with h' | h'
          · exact aheadB_trans (row_lt hrH.out hy hxH.out h') hcH.out
          · obtain rfl : j = m := by omega
            rw [hxH.out] at hy
            obtain rfl := Option.some.inj hy
            exact hcH.out
        case measure => have := hmbH.out; simp [intOf]; omega
      · have hcm : cmpE x ⟨tk, tn, td, tv⟩ = 0 := cmp_same hc
        have hcH : Hid (aheadB x ⟨tk, tn, td, tv⟩ = false) := hid (by rw [same_left hc]; exact aheadB_irrefl _)
        clear hc
        go_wp2_with fail
        go_region_held3 (fun W => W.cell? ⟨g, off + m * 4, none⟩ = some (.string x.key) ∧ W.cell? ⟨g, off + m * 4 + 1, none⟩ = some (.int .u64 x.seq) ∧ W.cell? ⟨g, off + m * 4 + 2, none⟩ = some (.bool x.del) ∧ W.cell? ⟨g, off + m * 4 + 3, none⟩ = some (.string x.val) ∧ W.cell? ⟨w.heap.size, 0, none⟩ = some (.string tk) ∧ W.cell? ⟨w.heap.size, 1, none⟩ = some (.int .u64 tn) ∧ W.cell? ⟨w.heap.size, 2, none⟩ = some (.bool td) ∧ W.cell? ⟨w.heap.size, 3, none⟩ = some (.string tv)) (first | exact ⟨a0, a1, a2, a3, t0, t1, t2, t3⟩ | (and_intros <;> assumption)) (first | (go_at_call 27; refine (compare_c x ⟨tk, tn, td, tv⟩ _).mono ?_; rintro e w1 ⟨rfl, k1⟩; have d0 := k1.cell a0; have d1 := k1.cell a1; have d2 := k1.cell a2; have d3 := k1.cell a3; have d4 := k1.cell t0; have d5 := k1.cell t1; have d6 := k1.cell t2; have d7 := k1.cell t3))
        have k2 := hid (k1H.out.drew.trans k1)
        clear k1 d0 d1 d2 d3 d4 d5 d6 d7 a0 a1 a2 a3 t0 t1 t2 t3
        go_wp2
        go_roundw
        case rel =>
          refine ⟨lo, m, rfl, rfl, hmbH.out.1, by omega, h1H.out, fun j y hj hy => ?_, k2.out⟩
          have e2 := hcH.out
          rcases Nat.lt_or_ge m j with h' | h'
          · cases e3 : aheadB y ⟨tk, tn, td, tv⟩ with
            | false => rfl
            | true => rw [aheadB_trans (row_lt hrH.out hxH.out hy h') e3] at e2; cases e2
          · obtain rfl : j = m := by omega
            rw [hxH.out] at hy
            obtain rfl := Option.some.inj hy
            exact e2
        case measure => have := hmbH.out; simp [intOf]; omega
      · have hcm : cmpE x ⟨tk, tn, td, tv⟩ = 1 := cmp_behind hc
        have hcH := hid (aheadB_asymm hc)
        clear hc
        go_wp2_with fail
        go_region_held3 (fun W => W.cell? ⟨g, off + m * 4, none⟩ = some (.string x.key) ∧ W.cell? ⟨g, off + m * 4 + 1, none⟩ = some (.int .u64 x.seq) ∧ W.cell? ⟨g, off + m * 4 + 2, none⟩ = some (.bool x.del) ∧ W.cell? ⟨g, off + m * 4 + 3, none⟩ = some (.string x.val) ∧ W.cell? ⟨w.heap.size, 0, none⟩ = some (.string tk) ∧ W.cell? ⟨w.heap.size, 1, none⟩ = some (.int .u64 tn) ∧ W.cell? ⟨w.heap.size, 2, none⟩ = some (.bool td) ∧ W.cell? ⟨w.heap.size, 3, none⟩ = some (.string tv)) (first | exact ⟨a0, a1, a2, a3, t0, t1, t2, t3⟩ | (and_intros <;> assumption)) (first | (go_at_call 27; refine (compare_c x ⟨tk, tn, td, tv⟩ _).mono ?_; rintro e w1 ⟨rfl, k1⟩; have d0 := k1.cell a0; have d1 := k1.cell a1; have d2 := k1.cell a2; have d3 := k1.cell a3; have d4 := k1.cell t0; have d5 := k1.cell t1; have d6 := k1.cell t2; have d7 := k1.cell t3))
        have k2 := hid (k1H.out.drew.trans k1)
        clear k1 d0 d1 d2 d3 d4 d5 d6 d7 a0 a1 a2 a3 t0 t1 t2 t3
        go_wp2
        go_roundw
        case rel =>
          refine ⟨lo, m, rfl, rfl, hmbH.out.1, by omega, h1H.out, fun j y hj hy => ?_, k2.out⟩
          have e2 := hcH.out
          rcases Nat.lt_or_ge m j with h' | h'
          · cases e3 : aheadB y ⟨tk, tn, td, tv⟩ with
            | false => rfl
            | true => rw [aheadB_trans (row_lt hrH.out hxH.out hy h') e3] at e2; cases e2
          · obtain rfl : j = m := by omega
            rw [hxH.out] at hy
            obtain rfl := Option.some.inj hy
            exact e2
        case measure => have := hmbH.out; simp [intOf]; omega
    · obtain rfl : lo = hi := by omega
      have hP : Hid (Place l ⟨tk, tn, td, tv⟩ lo) := hid ⟨hhi, h1H.out, h2H.out⟩
      by_cases hlast : lo < l.length
      · obtain ⟨x, hx⟩ : ∃ x, l[lo]? = some x := ⟨_, List.getElem?_eq_getElem hlast⟩
        obtain ⟨g, off, rfl, _, hce⟩ := rd_ent (k1H.out.rd (((Kp.refl w).alloc _).rd hH.out)) rfl hx
        obtain ⟨a0, a1, a2, a3⟩ := hce _ _ hx
        have hc := h2H.out lo x (Nat.le_refl _) hx
        clear hce hx
        rcases ahead_tri x ⟨tk, tn, td, tv⟩ with hd | hd | hd
        · rw [hc] at hd; cases hd
        · have hcm : cmpE x ⟨tk, tn, td, tv⟩ = 0 := cmp_same hd
          clear hc hd
          go_wp2_with fail
          go_region_held3 (fun W => W.cell? ⟨g, off + lo * 4, none⟩ = some (.string x.key) ∧ W.cell? ⟨g, off + lo * 4 + 1, none⟩ = some (.int .u64 x.seq) ∧ W.cell? ⟨g, off + lo * 4 + 2, none⟩ = some (.bool x.del) ∧ W.cell? ⟨g, off + lo * 4 + 3, none⟩ = some (.string x.val) ∧ W.cell? ⟨w.heap.size, 0, none⟩ = some (.string tk) ∧ W.cell? ⟨w.heap.size, 1, none⟩ = some (.int .u64 tn) ∧ W.cell? ⟨w.heap.size, 2, none⟩ = some (.bool td) ∧ W.cell? ⟨w.heap.size, 3, none⟩ = some (.string tv)) (first | exact ⟨a0, a1, a2, a3, t0, t1, t2, t3⟩ | (and_intros <;> assumption)) (first | (go_at_call 27; refine (compare_c x ⟨tk, tn, td, tv⟩ _).mono ?_; rintro e w1 ⟨rfl, k1⟩; have d0 := k1.cell a0; have d1 := k1.cell a1; have d2 := k1.cell a2; have d3 := k1.cell a3; have d4 := k1.cell t0; have d5 := k1.cell t1; have d6 := k1.cell t2; have d7 := k1.cell t3))
          have k2 := hid (k1H.out.drew.trans k1)
          clear k1 d0 d1 d2 d3 d4 d5 d6 d7 a0 a1 a2 a3 t0 t1 t2 t3
          go_wp2
          go_ret2
          exact ⟨lo, true, rfl, hP.out, ((Kp.refl w).alloc _).trans k2.out⟩
        · have hcm : cmpE x ⟨tk, tn, td, tv⟩ = 1 := cmp_behind hd
          clear hc hd
          go_wp2_with fail
          go_region_held3 (fun W => W.cell? ⟨g, off + lo * 4, none⟩ = some (.string x.key) ∧ W.cell? ⟨g, off + lo * 4 + 1, none⟩ = some (.int .u64 x.seq) ∧ W.cell? ⟨g, off + lo * 4 + 2, none⟩ = some (.bool x.del) ∧ W.cell? ⟨g, off + lo * 4 + 3, none⟩ = some (.string x.val) ∧ W.cell? ⟨w.heap.size, 0, none⟩ = some (.string tk) ∧ W.cell? ⟨w.heap.size, 1, none⟩ = some (.int .u64 tn) ∧ W.cell? ⟨w.heap.size, 2, none⟩ = some (.bool td) ∧ W.cell? ⟨w.heap.size, 3, none⟩ = some (.string tv)) (first | exact ⟨a0, a1, a2, a3, t0, t1, t2, t3⟩ | (and_intros <;> assumption)) (first | (go_at_call 27; refine (compare_c x ⟨tk, tn, td, tv⟩ _).mono ?_; rintro e w1 ⟨rfl, k1⟩; have d0 := k1.cell a0; have d1 := k1.cell a1; have d2 := k1.cell a2; have d3 := k1.cell a3; have d4 := k1.cell t0; have d5 := k1.cell t1; have d6 := k1.cell t2; have d7 := k1.cell t3))
          have k2 := hid (k1H.out.drew.trans k1)
          clear k1 d0 d1 d2 d3 d4 d5 d6 d7 a0 a1 a2 a3 t0 t1 t2 t3
          go_wp2
          go_ret2
          exact ⟨lo, false, rfl, hP.out, ((Kp.refl w).alloc _).trans k2.out⟩
      · clear t0 t1 t2 t3
        go_wp2_with fail
        go_quiet (fail)
        go_wp2
        go_ret2
        exact ⟨lo, false, rfl, hP.out, ((Kp.refl w).alloc _).trans (k1H.out.drewN _)⟩
end Go.Proofs.Ytihbflmjgndfiaa
