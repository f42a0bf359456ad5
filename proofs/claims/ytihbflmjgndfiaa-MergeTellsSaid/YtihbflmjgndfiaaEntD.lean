/- The walk of Seen. -/
import Derived.Test.YtihbflmjgndfiaaEntC
import Derived.Test.YtihbflmjgndfiaaEntN
namespace Go.Proofs.Ytihbflmjgndfiaa
open Go.RowKit Go.Sl Go.Scree

set_option maxRecDepth 20000 in
set_option maxHeartbeats 3200000 in
theorem seen_c (v : Value) (l : List Ent) (seq : Int) (w : World) (h : Rd w entE v l) (hn : l.length ≤ 1000000) :
    Calls Try.prog 17 #[v, .int .u64 seq] w fun e w' => ∃ v', e = .returned (.tuple #[v', .int .i64 (errP l)]) ∧ Own w' [sl 31 entE v' (seenP l seq), base w w.heap.size] ∧ Ext w w' := by
  obtain ⟨A, c, rfl, hm, hc⟩ := h.form
  have hH := hid h
  obtain ⟨i0, hi0, hz0, hz1, hz2⟩ := info_parts infoEnt
  clear h hm hc
  rcases bool_cases (rowB l) with hr | hr
  · unfold seenP errP
    rw [if_pos hr, if_pos hr]
    go_enter Try.func17, Try.ntmps17
    go_wp2_with fail
    refine (row_c _ _ _ hH.out).mono ?_
    rintro e w1 ⟨rfl, k1⟩
    have k1H := hid k1
    clear k1
    go_wp2_with fail
    clear hr
    go_loopw [6, 7, 8, 16] (fun s d a i wr => ∃ (k : Nat) (out : List Ent) (done : ByteArray) (any : Bool), i = .int .i64 k ∧ k ≤ l.length ∧ d = .string done ∧ a = .bool any ∧ out.length ≤ k ∧ out ++ seenGo seq (dueP any done) (l.drop k) = seenGo seq none l ∧ Own wr [sl 31 entE s out, base w w.heap.size] ∧ Ext w wr) (fun _ _ _ i _ => l.length - (intOf i).toNat)
    case atStart => exact ⟨0, [], _, false, rfl, Nat.zero_le _, rfl, rfl, Nat.le_refl _, rfl, sl_nil _ _ k1H.out.base, k1H.out.ext⟩
    case round =>
      obtain ⟨k, out, done, any, rfl, hk, rfl, rfl, hol, hs, ok, ek⟩ := hrel
      obtain ⟨A1, n1, c1, rfl⟩ := sl_shape ok
      have okH := hid ok
      have hsH := hid hs
      clear ok hs
      by_cases hlt : k < l.length
      · obtain ⟨x, hx⟩ : ∃ x, l[k]? = some x := ⟨_, List.getElem?_eq_getElem hlt⟩
        obtain ⟨g, off, rfl, _, hce⟩ := rd_ent ((kp_of1 okH.out ek).rd hH.out) rfl hx
        obtain ⟨a0, a1, a2, a3⟩ := hce _ _ hx
        have hxH := hid hx
        clear hce hx
        obtain ⟨xk, xn, xd, xv⟩ := x
        by_cases hs : seq < xn
        · go_wp2_with fail
          go_roundw
          case rel => exact ⟨k + 1, out, done, any, by go_num, by omega, rfl, rfl, by omega, seen_skip hsH.out hxH.out (.inl hs), okH.out.allocd, ek.alloc _⟩
          case measure => simp [intOf]; omega
        · cases any with
          | false =>
            have nd : ¬ (seq < xn ∨ dueP false done = some xk) := by simp [dueP, hs]
            cases xd with
            | true =>
              have f1 := hid (seen_gone hsH.out hxH.out nd rfl)
              clear nd
              go_wp2_with fail
              go_roundw
              case rel => exact ⟨k + 1, out, xk, true, by go_num, by omega, rfl, rfl, by omega, f1.out, okH.out.allocd, ek.alloc _⟩
              case measure => simp [intOf]; omega
            | false =>
              have f1 := hid (seen_take hsH.out hxH.out nd rfl)
              clear nd
              go_wp2_with (refine wpList_append_rd rfl _ _ _ rfl i0 _ 4 48 Try.underlying26 hi0 hz0 hz1 hz2 rfl rfl rfl okH.out.allocd.allocd rfl (rd_new (xs := [⟨xk, xn, false, xv⟩]) (by simp) rfl (by simp [maxLen]) (by simp [entE, Enc.flat])) (by simp [maxLen]; omega) (by simp; omega) ?_)
              intro v3 w3 o3 e3 _
              obtain ⟨A3, n3, c3, rfl⟩ := sl_shape o3
              have o3H := hid o3
              clear o3
              go_wp2
              go_roundw
              case rel => exact ⟨k + 1, out ++ [⟨xk, xn, false, xv⟩], xk, true, by go_num, by omega, rfl, rfl, by simp; omega, f1.out, o3H.out, ((ek.alloc _).alloc _).trans e3⟩
              case measure => simp [intOf]; omega
          | true =>
            by_cases hk2 : xk = done
            · subst hk2
              go_wp2_with fail
              go_roundw
              case rel => exact ⟨k + 1, out, xk, true, by go_num, by omega, rfl, rfl, by omega, seen_skip hsH.out hxH.out (.inr rfl), okH.out.allocd, ek.alloc _⟩
              case measure => simp [intOf]; omega
            · have g2 : (xk.toList == done.toList) = false := eqK_false.2 hk2
              have hk3 := hid hk2
              clear hk2
              have nd : ¬ (seq < xn ∨ dueP true done = some xk) := by simp only [dueP, if_pos, not_or]; exact ⟨hs, fun h => hk3.out (Option.some.inj h).symm⟩
              cases xd with
              | true =>
                have f1 := hid (seen_gone hsH.out hxH.out nd rfl)
                clear nd
                go_wp2_with fail
                go_roundw
                case rel => exact ⟨k + 1, out, xk, true, by go_num, by omega, rfl, rfl, by omega, f1.out, okH.out.allocd, ek.alloc _⟩
                case measure => simp [intOf]; omega
              | false =>
                have f1 := hid (seen_take hsH.out hxH.out nd rfl)
                clear nd
                go_wp2_with (refine wpList_append_rd rfl _ _ _ rfl i0 _ 4 48 Try.underlying26 hi0 hz0 hz1 hz2 rfl rfl rfl okH.out.allocd.allocd rfl (rd_new (xs := [⟨xk, xn, false, xv⟩]) (by simp) rfl (by simp [maxLen]) (by simp [entE, Enc.flat])) (by simp [maxLen]; omega) (by simp; omega) ?_)
                intro v3 w3 o3 e3 _
                obtain ⟨A3, n3, c3, rfl⟩ := sl_shape o3
                have o3H := hid o3
                clear o3
                go_wp2
                go_roundw
                case rel => exact ⟨k + 1, out ++ [⟨xk, xn, false, xv⟩], xk, true, by go_num, by omega, rfl, rfl, by simp; omega, f1.out, o3H.out, ((ek.alloc _).alloc _).trans e3⟩
                case measure => simp [intOf]; omega
  
      · obtain rfl : k = l.length := by omega
        have he := hid (seen_end hsH.out)
        go_wp2_with fail
        go_ret2
        refine ⟨_, rfl, ?_, ek⟩
        rw [← he.out]
        exact okH.out
  · unfold seenP errP
    rw [if_neg (by rw [hr]; simp), if_neg (by rw [hr]; simp)]
    go_enter Try.func17, Try.ntmps17
    go_wp2_with fail
    refine (row_c _ _ _ hH.out).mono ?_
    rintro e w1 ⟨rfl, k1⟩
    go_wp2_with fail
    go_ret2
    exact ⟨_, rfl, sl_nil _ _ k1.base, k1.ext⟩
end Go.Proofs.Ytihbflmjgndfiaa
