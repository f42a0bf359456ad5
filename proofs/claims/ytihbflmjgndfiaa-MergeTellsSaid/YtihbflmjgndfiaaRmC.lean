/- The walk of screeref08.Seen. -/
import Derived.Test.YtihbflmjgndfiaaRmB
namespace Go.Proofs.Ytihbflmjgndfiaa
open Go.RowKit Go.Sl Go.Scree

set_option maxRecDepth 20000 in
set_option maxHeartbeats 6400000 in
theorem xseen_c (v : Value) (l : List Ent) (seq : Int) (w : World) (h : Rd w entE v l) (hn : l.length ≤ 1000000) :
    Calls Try.prog 18 #[v, .int .u64 seq] w fun e w' => ∃ v', e = .returned (.tuple #[v', .int .i64 (errP l)]) ∧ Own w' [sl 31 entE v' (seenP l seq), base w w.heap.size] ∧ Ext w w' := by
  obtain ⟨A, c, rfl, hm, hc⟩ := h.form
  have hH := hid h
  obtain ⟨i0, hi0, hz0, hz1, hz2⟩ := info_parts infoEnt
  clear h hm hc
  rcases bool_cases (rowB l) with hr | hr
  · unfold seenP errP
    rw [if_pos hr, if_pos hr]
    go_enter Try.func18, Try.ntmps18
    go_wp2_with fail
    refine (xrow_c _ _ _ hH.out).mono ?_
    rintro e w1 ⟨rfl, k1⟩
    have k1H := hid k1
    have hrH := hid (rowB_iff.1 hr)
    have o1 := hid (sl_empty' 31 entE (k1.base.alloc (.cells #[] 31 (0, 0))))
    clear k1
    go_wp2_with fail
    clear hr
    go_loopw [6, 7] (fun s i wr => ∃ (k : Nat) (out : List Ent) (d : Option ByteArray), i = .int .i64 k ∧ k ≤ l.length ∧ out.length ≤ k ∧ DInv seq (l.take k) d ∧ out ++ seenGo seq d (l.drop k) = seenGo seq none l ∧ Own wr [sl 31 entE s out, base w w.heap.size] ∧ Ext w wr) (fun _ i _ => l.length - (intOf i).toNat)
    case atStart => exact ⟨0, [], none, rfl, Nat.zero_le _, Nat.le_refl _, DInv.start seq, rfl, o1.out, (k1H.out.alloc _).ext⟩
    case round =>
      obtain ⟨k, out, d, rfl, hk, hol, hdi, hs, ok, ek⟩ := hrel
      obtain ⟨A1, n1, c1, rfl⟩ := sl_shape ok
      have okH := hid ok
      have hsH := hid hs
      have dH := hid hdi
      clear ok hs hdi
      by_cases hlt : k < l.length
      · obtain ⟨x, hx⟩ : ∃ x, l[k]? = some x := ⟨_, List.getElem?_eq_getElem hlt⟩
        have hxH := hid hx
        have kWr := hid (kp_of1 okH.out ek)
        obtain ⟨g0, off0, rfl, _, hce0⟩ := rd_ent (kWr.out.rd hH.out) rfl hx
        obtain ⟨e0, e1, e2, e3⟩ := hce0 _ _ hx
        have hsnk : Hid (l.take (k + 1) = l.take k ++ [x]) := hid (by
          obtain ⟨hk', e⟩ := List.getElem?_eq_some_iff.1 hx
          rw [List.take_succ_eq_append_getElem hk', e])
        obtain ⟨wo, hwo⟩ : ∃ wo, wo = wr := ⟨_, rfl⟩
        subst hwo
        have hfirst := hid (dH.out.first (row_before hrH.out hx))
        have hbef := hid (row_before hrH.out hx)
        clear hx hce0
        have hstep : Hid (∃ d', DInv seq (l.take (k + 1)) d' ∧ ((((decide (x.seq ≤ seq) && !x.del) && !(l.take k).any (covB seq x)) = true) → (out ++ [x]) ++ seenGo seq d' (l.drop (k + 1)) = seenGo seq none l) ∧ ((((decide (x.seq ≤ seq) && !x.del) && !(l.take k).any (covB seq x)) = false) → out ++ seenGo seq d' (l.drop (k + 1)) = seenGo seq none l)) := hid (by
          rw [hsnk.out]
          by_cases hc : seq < x.seq ∨ d = some x.key
          · refine ⟨d, dH.out.skip hc, fun h => ?_, fun _ => seen_skip hsH.out hxH.out hc⟩
            exfalso
            simp only [Bool.and_eq_true, decide_eq_true_eq, Bool.not_eq_true'] at h
            rcases hc with hc | hc
            · omega
            · have := hfirst.out.1 hc; rw [h.2] at this; cases this
          · have h1 : x.seq ≤ seq := by
              apply Classical.byContradiction; intro h; exact hc (.inl (by omega))
            have h2 : (l.take k).any (covB seq x) = false := by
              cases e : (l.take k).any (covB seq x) with
              | false => rfl
              | true => exact absurd (.inr (hfirst.out.2 e)) hc
            refine ⟨some x.key, dH.out.next hbef.out h1, fun h => ?_, fun h => ?_⟩
            · simp only [Bool.and_eq_true, Bool.not_eq_true'] at h
              exact seen_take hsH.out hxH.out hc h.1.2
            · rw [h2] at h
              simp only [decide_eq_true h1, Bool.true_and, Bool.not_false, Bool.and_true, Bool.not_eq_false'] at h
              exact seen_gone hsH.out hxH.out hc h)
        rcases bool_cases (decide (x.seq ≤ seq)) with hq1 | hq1
        all_goals rcases bool_cases x.del with hq2 | hq2
        all_goals
          have hq1H := hid hq1
          have hq2H := hid hq2
          have hgl0 : g0 < wo.heap.size := World.block_lt_of_cell? wo _ e0
          rw [hq2] at e2
          clear hq2
          go_wp2_with fail
          clear hq1 e0 e1 e2 e3 hgl0
          go_loopw [8, 9] (fun cv j wr => ∃ m : Nat, j = .int .i64 m ∧ m ≤ k ∧ cv = .bool ((decide (x.seq ≤ seq) && !x.del) && !(l.take m).any (covB seq x)) ∧ Kp wo wr) (fun _ j _ => k - (intOf j).toNat)
          case atStart => exact ⟨0, rfl, Nat.zero_le _, by rw [hq1H.out, hq2H.out]; rfl, Kp.refl _⟩
          case round =>
            obtain ⟨m, rfl, hmk, rfl, kr⟩ := hrel
            have krH := hid kr
            clear kr
            by_cases hml : m < k
            · obtain ⟨y, hy⟩ : ∃ y, l[m]? = some y := ⟨_, List.getElem?_eq_getElem (by omega)⟩
              obtain ⟨g, off, hA, _, hce⟩ := rd_ent (krH.out.rd (kWr.out.rd hH.out)) rfl hy
              obtain ⟨rfl, rfl⟩ : g0 = g ∧ off0 = off := by simpa using hA
              obtain ⟨b0, b1, b2, b3⟩ := hce _ _ hy
              obtain ⟨a0, a1, a2, a3⟩ := hce _ _ hxH.out
              have hsn := hid (any_take (p := covB seq x) hy)
              have hgl : g0 < wr.heap.size := World.block_lt_of_cell? wr _ b0
              have hml2 : m < l.length := by omega
              clear hce hy hA
              have hcov : Hid (covB seq x y = ((y.key.toList == x.key.toList) && decide (y.seq ≤ seq))) := hid rfl
              rw [hq1H.out, hq2H.out]
              rcases bool_cases ((l.take m).any (covB seq x)) with hc1 | hc1
              · rw [hc1] at hsn ⊢
                clear hc1
                go_wp2_with fail
                go_quiet (fail)
                go_wp2
                go_roundw
                case rel => exact ⟨m + 1, by go_num, by omega, by rw [hsn.out]; rfl, krH.out.drewN nq⟩
                case measure => simp [intOf]; omega
              · rw [hc1] at hsn ⊢
                clear hc1
                rcases bool_cases (y.key.toList == x.key.toList) with h1 | h1
                · rcases bool_cases (decide (y.seq ≤ seq)) with h2 | h2
                  all_goals
                    rw [h1, h2] at hcov
                    have h2i : decide (seq < y.seq) = !decide (y.seq ≤ seq) := by
                      rw [← decide_not]; congr 1; simp
                    rw [h2] at h2i
                    clear h2
                    go_wp2_with fail
                    go_quiet (fail)
                    go_wp2
                    go_roundw
                    case rel => exact ⟨m + 1, by go_num, by omega, by rw [hsn.out, hcov.out]; rfl, krH.out.drewN nq⟩
                    case measure => simp [intOf]; omega
                · rw [h1] at hcov
                  go_wp2_with fail
                  go_quiet (fail)
                  go_wp2
                  go_roundw
                  case rel => exact ⟨m + 1, by go_num, by omega, by rw [hsn.out, hcov.out]; rfl, krH.out.drewN nq⟩
                  case measure => simp [intOf]; omega
            · obtain rfl : m = k := by omega
              obtain ⟨d', q1, q2, q3⟩ := hstep.out
              have q1H := hid q1
              obtain ⟨g, off, hA, _, hce⟩ := rd_ent (krH.out.rd (kWr.out.rd hH.out)) rfl hxH.out
              obtain ⟨rfl, rfl⟩ : g0 = g ∧ off0 = off := by simpa using hA
              obtain ⟨a0, a1, a2, a3⟩ := hce _ _ hxH.out
              clear hce hA
              have okr := hid (krH.out.own okH.out)
              rcases bool_cases ((decide (x.seq ≤ seq) && !x.del) && !(l.take m).any (covB seq x)) with hB | hB
              · have f1 := hid (q2 hB)
                rw [hB]
                clear hB q1 q2 q3
                go_wp2_with (refine wpList_append_rd rfl _ _ _ rfl i0 _ 4 48 Try.underlying26 hi0 hz0 hz1 hz2 rfl rfl rfl okr.out.allocd rfl (rd_new (xs := [x]) (by simp) rfl (by simp [maxLen]) (by simp [entE, Enc.flat])) (by simp [maxLen]; omega) (by simp; omega) ?_)
                intro v3 w3 o3 e3 _
                obtain ⟨A3, n3, c3, rfl⟩ := sl_shape o3
                have o3H := hid o3
                clear o3
                go_wp2
                go_roundw
                case rel => exact ⟨m + 1, out ++ [x], d', by go_num, by omega, by simp; omega, q1H.out, f1.out, o3H.out, ((ek.trans krH.out.ext).alloc _).trans e3⟩
                case measure => simp [intOf]; omega
              · have f1 := hid (q3 hB)
                rw [hB]
                clear hB q1 q2 q3
                go_wp2_with fail
                go_roundw
                case rel => exact ⟨m + 1, out, d', by go_num, by omega, by omega, q1H.out, f1.out, okr.out, ek.trans krH.out.ext⟩
                case measure => simp [intOf]; omega
      · obtain rfl : k = l.length := by omega
        have he := hid (seen_end hsH.out)
        go_wp2_with fail
        go_ret2
        refine ⟨_, rfl, ?_, ek⟩
        rw [← he.out]
        exact okH.out
  · unfold seenP errP
    rw [if_neg (by rw [hr]; simp), if_neg (by rw [hr]; simp)]
    go_enter Try.func18, Try.ntmps18
    go_wp2_with fail
    refine (xrow_c _ _ _ hH.out).mono ?_
    rintro e w1 ⟨rfl, k1⟩
    go_wp2_with fail
    go_ret2
    exact ⟨_, rfl, sl_nil _ _ k1.base, k1.ext⟩
end Go.Proofs.Ytihbflmjgndfiaa
