/- The walks of compare, Row and screeref07.Ahead, screeref08.Row: entries in cells. -/
import Derived.Test.YtihbflmjgndfiaaProg
import Derived.Test.YtihbflmjgndfiaaSlk
import Derived.Test.YtihbflmjgndfiaaEntM
import Derived.Deep.RegionHeld3
import Derived.Deep.QuietTactic
import Derived.BigQuiet
namespace Go.Proofs.Ytihbflmjgndfiaa
open Go.RowKit Go.Sl Go.Scree

def entV (x : Ent) : Value := .agg #[.string x.key, .int .u64 x.seq, .bool x.del, .string x.val]
def entE : Enc Ent := ⟨fun x => [.string x.key, .int .u64 x.seq, .bool x.del, .string x.val], 4, fun _ => rfl, by simp [Value.oneCell'], by omega⟩

theorem bool_cases (b : Bool) : b = true ∨ b = false := by cases b <;> simp

set_option maxRecDepth 20000 in
set_option maxHeartbeats 1600000 in
theorem compare_c (a b : Ent) (w : World) : Calls Try.prog 27 #[entV a, entV b] w fun e w' => e = .returned (.int .i64 (cmpE a b)) ∧ Kp w w' := by
  obtain ⟨ak, an, ad, av⟩ := a
  obtain ⟨bk, bn, bd, bv⟩ := b
  unfold entV
  have k1 : Hid (Kp w ((w.alloc (.cells #[.string ak, .int .u64 an, .bool ad, .string av] 31 (0, 0))).alloc (.cells #[.string bk, .int .u64 bn, .bool bd, .string bv] 31 (0, 0)))) := hid (((Kp.refl w).alloc _).alloc _)
  rcases bool_cases (ltK ak bk) with h1 | h1
  · have hc : Hid (cmpE ⟨ak, an, ad, av⟩ ⟨bk, bn, bd, bv⟩ = -1) := hid (cmp_ahead (aheadB_iff.2 (.inl h1)))
    have g1 : Op.bytesLess ak.toList bk.toList = true := (less_ltK ak bk).trans h1
    go_enter Try.func27, Try.ntmps27
    go_wp2_with fail
    go_ret
    exact ⟨by rw [hc.out]; rfl, k1.out⟩
  · have g1 : Op.bytesLess ak.toList bk.toList = false := (less_ltK ak bk).trans h1
    by_cases hk : ak = bk
    · subst hk
      rcases Int.lt_trichotomy an bn with hs | hs | hs
      · have hc : Hid (cmpE ⟨ak, an, ad, av⟩ ⟨ak, bn, bd, bv⟩ = 1) := hid (cmp_behind (aheadB_iff.2 (.inr ⟨rfl, hs⟩)))
        have g3 : ¬ (bn < an) := by omega
        have g4 : ¬ (an = bn) := by omega
        clear h1
        go_enter Try.func27, Try.ntmps27
        go_wp2_with fail
        go_ret
        exact ⟨by rw [hc.out]; rfl, k1.out⟩
      · have hc : Hid (cmpE ⟨ak, an, ad, av⟩ ⟨ak, bn, bd, bv⟩ = 0) := hid (cmp_same (sameB_iff.2 ⟨rfl, hs⟩))
        subst hs
        clear h1
        go_enter Try.func27, Try.ntmps27
        go_wp2_with fail
        go_ret
        exact ⟨by rw [hc.out]; rfl, k1.out⟩
      · have hc : Hid (cmpE ⟨ak, an, ad, av⟩ ⟨ak, bn, bd, bv⟩ = -1) := hid (cmp_ahead (aheadB_iff.2 (.inr ⟨rfl, hs⟩)))
        clear h1
        go_enter Try.func27, Try.ntmps27
        go_wp2_with fail
        go_ret
        exact ⟨by rw [hc.out]; rfl, k1.out⟩
    · have hc : Hid (cmpE ⟨ak, an, ad, av⟩ ⟨bk, bn, bd, bv⟩ = 1) := hid (cmp_behind (aheadB_iff.2 (.inl (by
        rcases ltK_tri ak bk with h | h | h
        · rw [h1] at h; cases h
        · exact absurd h hk
        · exact h))))
      have g2 : (ak.toList == bk.toList) = false := eqK_false.2 hk
      clear h1 hk
      go_enter Try.func27, Try.ntmps27
      go_wp2_with fail
      go_ret
      exact ⟨by rw [hc.out]; rfl, k1.out⟩

theorem rd_ent {w : World} {v : Value} {xs : List Ent} {A : Option Addr} {n c : Nat} (h : Rd w entE v xs) (hv : v = .slice A n c) {i : Nat} {x : Ent} (hx : xs[i]? = some x) :
    ∃ g off, A = some ⟨g, off, none⟩ ∧ n = xs.length ∧ ∀ i x, xs[i]? = some x → w.cell? ⟨g, off + i * 4, none⟩ = some (.string x.key) ∧ w.cell? ⟨g, off + i * 4 + 1, none⟩ = some (.int .u64 x.seq) ∧ w.cell? ⟨g, off + i * 4 + 2, none⟩ = some (.bool x.del) ∧ w.cell? ⟨g, off + i * 4 + 3, none⟩ = some (.string x.val) := by
  subst hv
  rcases h with ⟨_, rfl⟩ | ⟨g, off, cap, hv, h1, h2, hc⟩
  · simp at hx
  · simp only [Value.slice.injEq] at hv
    exact ⟨g, off, hv.1, hv.2.1, fun i x hx => ⟨hc i x hx 0 _ rfl, hc i x hx 1 _ rfl, hc i x hx 2 _ rfl, hc i x hx 3 _ rfl⟩⟩

set_option maxRecDepth 20000 in
set_option maxHeartbeats 3200000 in
theorem row_c (v : Value) (l : List Ent) (w : World) (h : Rd w entE v l) : Calls Try.prog 19 #[v] w fun e w' => e = .returned (.bool (rowB l)) ∧ Kp w w' := by
  obtain ⟨A, c, rfl, hm, hc⟩ := h.form
  have hl : l.length ≤ 9223372036854775807 := by simpa [maxLen] using hm
  have hH := hid h
  clear h hm hc
  go_enter Try.func19, Try.ntmps19
  go_wp2_with fail
  go_loopw [3] (fun i wr => ∃ k m : Nat, i = .int .i64 m ∧ m = k + 1 ∧ k ≤ l.length ∧ Kp w wr ∧ ∀ j a b, j < k → l[j]? = some a → l[j + 1]? = some b → aheadB a b = true) (fun i wr => l.length + 1 - (intOf i).toNat)
  case atStart => exact ⟨0, 1, rfl, rfl, by omega, Kp.refl _, fun j a b hj => by omega⟩
  case round =>
    obtain ⟨k, m, rfl, hm, hk, kr, hg⟩ := hrel
    have kH := hid kr
    have gH := hid hg
    have hmH := hid hm
    have hw1 : IntKind.i64.wrap ((m : Int) - 1) = (k : Int) := by rw [IntWalk.i64_in _ (by omega)]; omega
    clear hg kr
    by_cases hlt : m < l.length
    · obtain ⟨a, ha⟩ : ∃ a, l[k]? = some a := ⟨_, List.getElem?_eq_getElem (by omega)⟩
      obtain ⟨b, hb⟩ : ∃ b, l[k + 1]? = some b := ⟨_, List.getElem?_eq_getElem (hm ▸ hlt)⟩
      have hkl : k < l.length := by omega
      obtain ⟨g, off, rfl, _, hce⟩ := rd_ent (kH.out.rd hH.out) rfl ha
      obtain ⟨a0, a1, a2, a3⟩ := hce _ _ ha
      obtain ⟨b0, b1, b2, b3⟩ := hce _ _ hb
      rw [← hm] at b0 b1 b2 b3
      clear hm
      have haH := hid ha
      have hbH := hid hb
      clear hce ha hb
      rcases ahead_tri a b with hab | hab | hab
      · have habH := hid hab
        have hcm : cmpE a b = -1 := cmp_ahead hab
        clear hab
        go_wp2_with fail
        go_region_held3 (fun W => W.cell? ⟨g, off + k * 4, none⟩ = some (.string a.key) ∧ W.cell? ⟨g, off + k * 4 + 1, none⟩ = some (.int .u64 a.seq) ∧ W.cell? ⟨g, off + k * 4 + 2, none⟩ = some (.bool a.del) ∧ W.cell? ⟨g, off + k * 4 + 3, none⟩ = some (.string a.val) ∧ W.cell? ⟨g, off + m * 4, none⟩ = some (.string b.key) ∧ W.cell? ⟨g, off + m * 4 + 1, none⟩ = some (.int .u64 b.seq) ∧ W.cell? ⟨g, off + m * 4 + 2, none⟩ = some (.bool b.del) ∧ W.cell? ⟨g, off + m * 4 + 3, none⟩ = some (.string b.val)) (first | exact ⟨a0, a1, a2, a3, b0, b1, b2, b3⟩ | (and_intros <;> assumption)) (first | (go_at_call 27; refine (compare_c a b _).mono ?_; rintro e w1 ⟨rfl, k1⟩; have d0 := k1.cell a0; have d1 := k1.cell a1; have d2 := k1.cell a2; have d3 := k1.cell a3; have d4 := k1.cell b0; have d5 := k1.cell b1; have d6 := k1.cell b2; have d7 := k1.cell b3))
        have k2 := hid (kH.out.drew.trans k1)
        clear k1 d0 d1 d2 d3 d4 d5 d6 d7 a0 a1 a2 a3 b0 b1 b2 b3
        go_wp2_with fail
        go_roundw
        case rel =>
          refine ⟨m, m + 1, by go_num, rfl, by omega, k2.out, fun j x y hj hx hy => ?_⟩
          rcases Nat.lt_or_ge j k with h' | h'
          · exact gH.out j x y h' hx hy
          · obtain rfl : j = k := by have := hmH.out; omega
            rw [haH.out] at hx; rw [hbH.out] at hy
            obtain rfl := Option.some.inj hx
            obtain rfl := Option.some.inj hy
            exact habH.out
        case measure => simp [intOf]; omega
      · have hcm : cmpE a b = 0 := cmp_same hab
        have hbad : Hid (rowB l = false) := hid (row_bad haH.out hbH.out (by rw [same_left hab]; exact aheadB_irrefl b))
        clear hab
        go_wp2_with fail
        go_region_held3 (fun W => W.cell? ⟨g, off + k * 4, none⟩ = some (.string a.key) ∧ W.cell? ⟨g, off + k * 4 + 1, none⟩ = some (.int .u64 a.seq) ∧ W.cell? ⟨g, off + k * 4 + 2, none⟩ = some (.bool a.del) ∧ W.cell? ⟨g, off + k * 4 + 3, none⟩ = some (.string a.val) ∧ W.cell? ⟨g, off + m * 4, none⟩ = some (.string b.key) ∧ W.cell? ⟨g, off + m * 4 + 1, none⟩ = some (.int .u64 b.seq) ∧ W.cell? ⟨g, off + m * 4 + 2, none⟩ = some (.bool b.del) ∧ W.cell? ⟨g, off + m * 4 + 3, none⟩ = some (.string b.val)) (first | exact ⟨a0, a1, a2, a3, b0, b1, b2, b3⟩ | (and_intros <;> assumption)) (first | (go_at_call 27; refine (compare_c a b _).mono ?_; rintro e w1 ⟨rfl, k1⟩; have d0 := k1.cell a0; have d1 := k1.cell a1; have d2 := k1.cell a2; have d3 := k1.cell a3; have d4 := k1.cell b0; have d5 := k1.cell b1; have d6 := k1.cell b2; have d7 := k1.cell b3))
        have k2 := hid (kH.out.drew.trans k1)
        clear k1 d0 d1 d2 d3 d4 d5 d6 d7 a0 a1 a2 a3 b0 b1 b2 b3
        go_wp2_with fail
        go_ret
        exact ⟨by rw [hbad.out]; rfl, k2.out⟩
      · have hcm : cmpE a b = 1 := cmp_behind hab
        have hbad : Hid (rowB l = false) := hid (row_bad haH.out hbH.out (aheadB_asymm hab))
        clear hab
        go_wp2_with fail
        go_region_held3 (fun W => W.cell? ⟨g, off + k * 4, none⟩ = some (.string a.key) ∧ W.cell? ⟨g, off + k * 4 + 1, none⟩ = some (.int .u64 a.seq) ∧ W.cell? ⟨g, off + k * 4 + 2, none⟩ = some (.bool a.del) ∧ W.cell? ⟨g, off + k * 4 + 3, none⟩ = some (.string a.val) ∧ W.cell? ⟨g, off + m * 4, none⟩ = some (.string b.key) ∧ W.cell? ⟨g, off + m * 4 + 1, none⟩ = some (.int .u64 b.seq) ∧ W.cell? ⟨g, off + m * 4 + 2, none⟩ = some (.bool b.del) ∧ W.cell? ⟨g, off + m * 4 + 3, none⟩ = some (.string b.val)) (first | exact ⟨a0, a1, a2, a3, b0, b1, b2, b3⟩ | (and_intros <;> assumption)) (first | (go_at_call 27; refine (compare_c a b _).mono ?_; rintro e w1 ⟨rfl, k1⟩; have d0 := k1.cell a0; have d1 := k1.cell a1; have d2 := k1.cell a2; have d3 := k1.cell a3; have d4 := k1.cell b0; have d5 := k1.cell b1; have d6 := k1.cell b2; have d7 := k1.cell b3))
        have k2 := hid (kH.out.drew.trans k1)
        clear k1 d0 d1 d2 d3 d4 d5 d6 d7 a0 a1 a2 a3 b0 b1 b2 b3
        go_wp2_with fail
        go_ret
        exact ⟨by rw [hbad.out]; rfl, k2.out⟩
    · have hgood : Hid (rowB l = true) := hid (rowB_iff.2 (row_of_adj fun i a b ha hb => gH.out i a b (by have := (List.getElem?_eq_some_iff.1 hb).1; omega) ha hb))
      clear hm
      go_wp2_with fail
      go_ret
      exact ⟨by rw [hgood.out]; rfl, kH.out⟩
end Go.Proofs.Ytihbflmjgndfiaa
