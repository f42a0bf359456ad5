/- The walk of Newest. -/
import Derived.Test.YtihbflmjgndfiaaEntC
import Derived.Test.YtihbflmjgndfiaaEntN
namespace Go.Proofs.Ytihbflmjgndfiaa
open Go.RowKit Go.Sl Go.Scree

set_option maxRecDepth 20000 in
set_option maxHeartbeats 3200000 in
theorem newest_c (v : Value) (l : List Ent) (least : Int) (w : World) (h : Rd w entE v l) (hn : l.length ≤ 1000000) :
    Calls Try.prog 21 #[v, .int .u64 least] w fun e w' => ∃ v', e = .returned (.tuple #[v', .int .i64 (errP l)]) ∧ Own w' [sl 31 entE v' (newestP l least), base w w.heap.size] ∧ Ext w w' := by
  obtain ⟨A, c, rfl, hm, hc⟩ := h.form
  have hH := hid h
  obtain ⟨i0, hi0, hz0, hz1, hz2⟩ := info_parts infoEnt
  clear h hm hc
  rcases bool_cases (rowB l) with hr | hr
  · unfold newestP errP
    rw [if_pos hr, if_pos hr]
    go_enter Try.func21, Try.ntmps21
    go_wp2_with fail
    refine (row_c _ _ _ hH.out).mono ?_
    rintro e w1 ⟨rfl, k1⟩
    have k1H := hid k1
    clear k1
    go_wp2_with fail
    clear hr
    go_loopw [6, 14] (fun s i wr => ∃ (k : Nat) (out : List Ent), i = .int .i64 k ∧ k ≤ l.length ∧ out.length ≤ k ∧ out ++ newestGo least (backP l k) (l.drop k) = newestGo least none l ∧ Own wr [sl 31 entE s out, base w w.heap.size] ∧ Ext w wr) (fun _ i _ => l.length - (intOf i).toNat)
    case atStart => exact ⟨0, [], rfl, Nat.zero_le _, Nat.le_refl _, rfl, sl_nil _ _ k1H.out.base, k1H.out.ext⟩
    case round =>
      obtain ⟨k, out, rfl, hk, hol, hs, ok, ek⟩ := hrel
      obtain ⟨A1, n1, c1, rfl⟩ := sl_shape ok
      have okH := hid ok
      have hsH := hid hs
      clear ok hs
      by_cases hlt : k < l.length
      · obtain ⟨x, hx⟩ : ∃ x, l[k]? = some x := ⟨_, List.getElem?_eq_getElem hlt⟩
        obtain ⟨g, off, rfl, _, hce⟩ := rd_ent ((kp_of1 okH.out ek).rd hH.out) rfl hx
        obtain ⟨a0, a1, a2, a3⟩ := hce _ _ hx
        have hxH := hid hx
        obtain ⟨xk, xn, xd, xv⟩ := x
        by_cases h0 : k = 0
        · have f1 := hid (newest_take hsH.out hxH.out (by simp [backP, h0, hidB]))
          have hg1 : decide (0 < k) = false := by simp [h0]
          have hg2 : decide ((0 : Int) < (k : Int)) = false := by simp [h0]
          clear hce hx h0
          go_wp2_with fail
          go_quiet (fail)
          go_wp2_with (refine wpList_append_rd rfl _ _ _ rfl i0 _ 4 48 Try.underlying26 hi0 hz0 hz1 hz2 rfl rfl rfl ((okH.out.allocd.drewN nq).allocd) rfl (rd_new (xs := [⟨xk, xn, xd, xv⟩]) (by simp [World.drewN]) rfl (by simp [maxLen]) (by simp [entE, Enc.flat])) (by simp [maxLen]; omega) (by simp; omega) ?_)
          intro v3 w3 o3 e3 _
          obtain ⟨A3, n3, c3, rfl⟩ := sl_shape o3
          have o3H := hid o3
          clear o3
          go_wp2
          go_roundw
          case rel => exact ⟨k + 1, out ++ [⟨xk, xn, xd, xv⟩], by go_num, by omega, by simp; omega, f1.out, o3H.out, (((ek.alloc _).drewN nq).alloc _).trans e3⟩
          case measure => simp [intOf]; omega
        · obtain ⟨y, hy⟩ : ∃ y, l[k - 1]? = some y := ⟨_, List.getElem?_eq_getElem (by omega)⟩
          have hbk : backP l k = some y := by simp [backP, h0, hy]
          obtain ⟨b0, b1, b2, b3⟩ := hce _ _ hy
          obtain ⟨j, hj⟩ : ∃ j, k - 1 = j := ⟨_, rfl⟩
          rw [hj] at b0 b1 b2 b3
          have hw1 : IntKind.i64.wrap ((k : Int) - 1) = (j : Int) := by rw [IntWalk.i64_in _ (by omega)]; omega
          have hjl : j < l.length := by omega
          have hg1 : decide (0 < k) = true := by simp; omega
          have hg2 : decide ((0 : Int) < (k : Int)) = true := by simp; omega
          obtain ⟨yk, yn, yd, yv⟩ := y
          have hgl : g < wr.heap.size := World.block_lt_of_cell? wr _ b0
          clear hce hx hy hj b2 b3
          by_cases hyk : yk = xk
          · subst hyk
            rcases bool_cases (decide (yn ≤ least)) with hyn | hyn
            · have f1 := hid (newest_skip hsH.out hxH.out (by rw [hbk]; simp only [hidB, hyn, eqK_iff.2 rfl, Bool.and_true]))
              clear hbk
              go_wp2_with fail
              go_quiet (fail)
              go_wp2
              go_roundw
              case rel => exact ⟨k + 1, out, by go_num, by omega, by omega, f1.out, okH.out.allocd.drewN nq, (ek.alloc _).drewN nq⟩
              case measure => simp [intOf]; omega
            · have f1 := hid (newest_take hsH.out hxH.out (by rw [hbk]; simp only [hidB, hyn, Bool.and_false]))
              clear hbk
              go_wp2_with fail
              go_quiet (fail)
              go_wp2_with (refine wpList_append_rd rfl _ _ _ rfl i0 _ 4 48 Try.underlying26 hi0 hz0 hz1 hz2 rfl rfl rfl ((okH.out.allocd.drewN nq).allocd) rfl (rd_new (xs := [⟨yk, xn, xd, xv⟩]) (by simp [World.drewN]) rfl (by simp [maxLen]) (by simp [entE, Enc.flat])) (by simp [maxLen]; omega) (by simp; omega) ?_)
              intro v3 w3 o3 e3 _
              obtain ⟨A3, n3, c3, rfl⟩ := sl_shape o3
              have o3H := hid o3
              clear o3
              go_wp2
              go_roundw
              case rel => exact ⟨k + 1, out ++ [⟨yk, xn, xd, xv⟩], by go_num, by omega, by simp; omega, f1.out, o3H.out, (((ek.alloc _).drewN nq).alloc _).trans e3⟩
              case measure => simp [intOf]; omega
          · have g2 : (yk.toList == xk.toList) = false := eqK_false.2 hyk
            have f1 := hid (newest_take hsH.out hxH.out (by rw [hbk]; simp only [hidB, eqK_false.2 hyk, Bool.false_and]))
            clear hbk hyk
            go_wp2_with fail
            go_quiet (fail)
            go_wp2_with (refine wpList_append_rd rfl _ _ _ rfl i0 _ 4 48 Try.underlying26 hi0 hz0 hz1 hz2 rfl rfl rfl ((okH.out.allocd.drewN nq).allocd) rfl (rd_new (xs := [⟨xk, xn, xd, xv⟩]) (by simp [World.drewN]) rfl (by simp [maxLen]) (by simp [entE, Enc.flat])) (by simp [maxLen]; omega) (by simp; omega) ?_)
            intro v3 w3 o3 e3 _
            obtain ⟨A3, n3, c3, rfl⟩ := sl_shape o3
            have o3H := hid o3
            clear o3
            go_wp2
            go_roundw
            case rel => exact ⟨k + 1, out ++ [⟨xk, xn, xd, xv⟩], by go_num, by omega, by simp; omega, f1.out, o3H.out, (((ek.alloc _).drewN nq).alloc _).trans e3⟩
            case measure => simp [intOf]; omega
      · obtain rfl : k = l.length := by omega
        have he := hid (newest_end hsH.out)
        go_wp2_with fail
        go_ret2
        refine ⟨_, rfl, ?_, ek⟩
        rw [← he.out]
        exact okH.out
  · unfold newestP errP
    rw [if_neg (by rw [hr]; simp), if_neg (by rw [hr]; simp)]
    go_enter Try.func21, Try.ntmps21
    go_wp2_with fail
    refine (row_c _ _ _ hH.out).mono ?_
    rintro e w1 ⟨rfl, k1⟩
    go_wp2_with fail
    go_ret2
    exact ⟨_, rfl, sl_nil _ _ k1.base, k1.ext⟩
end Go.Proofs.Ytihbflmjgndfiaa
