/- The walks of screeref08.Newest and Seen. -/
import Derived.Test.YtihbflmjgndfiaaRmA
import Derived.Test.YtihbflmjgndfiaaRmM
namespace Go.Proofs.Ytihbflmjgndfiaa
open Go.RowKit Go.Sl Go.Scree

theorem any_take {α : Type} {p : α → Bool} {l : List α} {k : Nat} {x : α} (h : l[k]? = some x) : (l.take (k + 1)).any p = ((l.take k).any p || p x) := by
  obtain ⟨hk, rfl⟩ := List.getElem?_eq_some_iff.1 h
  rw [List.take_succ_eq_append_getElem hk, List.any_append]; simp

set_option maxRecDepth 20000 in
set_option maxHeartbeats 6400000 in
theorem xnewest_c (v : Value) (l : List Ent) (least : Int) (w : World) (h : Rd w entE v l) (hn : l.length ≤ 1000000) :
    Calls Try.prog 22 #[v, .int .u64 least] w fun e w' => ∃ v', e = .returned (.tuple #[v', .int .i64 (errP l)]) ∧ Own w' [sl 31 entE v' (newestP l least), base w w.heap.size] ∧ Ext w w' := by
  obtain ⟨A, c, rfl, hm, hc⟩ := h.form
  have hH := hid h
  obtain ⟨i0, hi0, hz0, hz1, hz2⟩ := info_parts infoEnt
  clear h hm hc
  rcases bool_cases (rowB l) with hr | hr
  · unfold newestP errP
    rw [if_pos hr, if_pos hr]
    go_enter Try.func22, Try.ntmps22
    go_wp2_with fail
    refine (xrow_c _ _ _ hH.out).mono ?_
    rintro e w1 ⟨rfl, k1⟩
    have k1H := hid k1
    have hrH := hid (rowB_iff.1 hr)
    have o1 := hid (sl_empty' 31 entE (k1.base.alloc (.cells #[] 31 (0, 0))))
    clear k1
    go_wp2_with fail
    clear hr
    go_loopw [6, 7] (fun s i wr => ∃ (k : Nat) (out : List Ent), i = .int .i64 k ∧ k ≤ l.length ∧ out.length ≤ k ∧ out ++ newestGo least (backP l k) (l.drop k) = newestGo least none l ∧ Own wr [sl 31 entE s out, base w w.heap.size] ∧ Ext w wr) (fun _ i _ => l.length - (intOf i).toNat)
    case atStart => exact ⟨0, [], rfl, Nat.zero_le _, Nat.le_refl _, rfl, o1.out, (k1H.out.alloc _).ext⟩
    case round =>
      obtain ⟨k, out, rfl, hk, hol, hs, ok, ek⟩ := hrel
      obtain ⟨A1, n1, c1, rfl⟩ := sl_shape ok
      have okH := hid ok
      have hsH := hid hs
      clear ok hs
      by_cases hlt : k < l.length
      · obtain ⟨x, hx⟩ : ∃ x, l[k]? = some x := ⟨_, List.getElem?_eq_getElem hlt⟩
        have hxH := hid hx
        have kWr := hid (kp_of1 okH.out ek)
        obtain ⟨wo, hwo⟩ : ∃ wo, wo = wr := ⟨_, rfl⟩
        subst hwo
        clear hx
        go_wp2_with fail
        go_loopw [8, 9] (fun cv j wr => ∃ m : Nat, j = .int .i64 m ∧ m ≤ k ∧ cv = .bool ((l.take m).any (covB least x)) ∧ Kp wo wr) (fun _ j _ => k - (intOf j).toNat)
        case atStart => exact ⟨0, rfl, Nat.zero_le _, rfl, Kp.refl _⟩
        case round =>
          obtain ⟨m, rfl, hmk, rfl, kr⟩ := hrel
          have krH := hid kr
          clear kr
          by_cases hml : m < k
          · obtain ⟨y, hy⟩ : ∃ y, l[m]? = some y := ⟨_, List.getElem?_eq_getElem (by omega)⟩
            obtain ⟨g, off, rfl, _, hce⟩ := rd_ent (krH.out.rd (kWr.out.rd hH.out)) rfl hy
            obtain ⟨b0, b1, b2, b3⟩ := hce _ _ hy
            obtain ⟨a0, a1, a2, a3⟩ := hce _ _ hxH.out
            have hsn := hid (any_take (p := covB least x) hy)
            have hgl : g < wr.heap.size := World.block_lt_of_cell? wr _ b0
            have hml2 : m < l.length := by omega
            clear hce hy
            have hcov : Hid (covB least x y = ((y.key.toList == x.key.toList) && decide (y.seq ≤ least))) := hid rfl
            rcases bool_cases ((l.take m).any (covB least x)) with hc1 | hc1
            · rw [hc1] at hsn ⊢
              clear hc1
              go_wp2_with fail
              go_quiet (fail)
              go_wp2
              go_roundw
              case rel => exact ⟨m + 1, by go_num, by omega, by rw [hsn.out]; rfl, krH.out.drewN nq⟩
              case measure => simp [intOf]; omega
            · rw [hc1] at hsn ⊢
              clear hc1
              rcases bool_cases (y.key.toList == x.key.toList) with h1 | h1
              · rcases bool_cases (decide (y.seq ≤ least)) with h2 | h2
                all_goals
                  rw [h1, h2] at hcov
                  go_wp2_with fail
                  go_quiet (fail)
                  go_wp2
                  go_roundw
                  case rel => exact ⟨m + 1, by go_num, by omega, by rw [hsn.out, hcov.out]; rfl, krH.out.drewN nq⟩
                  case measure => simp [intOf]; omega
              · rw [h1] at hcov
                go_wp2_with fail
                go_quiet (fail)
                go_wp2
                go_roundw
                case rel => exact ⟨m + 1, by go_num, by omega, by rw [hsn.out, hcov.out]; rfl, krH.out.drewN nq⟩
                case measure => simp [intOf]; omega
          · obtain rfl : m = k := by omega
            have hch := cov_hid hrH.out (least := least) hxH.out
            rw [hch]
            clear hch
            obtain ⟨g, off, rfl, _, hce⟩ := rd_ent (krH.out.rd (kWr.out.rd hH.out)) rfl hxH.out
            obtain ⟨a0, a1, a2, a3⟩ := hce _ _ hxH.out
            clear hce
            have okr := hid (krH.out.own okH.out)
            rcases bool_cases (hidB (backP l m) least x) with hh | hh
            · have f1 := hid (newest_skip hsH.out hxH.out hh)
              rw [hh]
              clear hh
              go_wp2_with fail
              go_roundw
              case rel => exact ⟨m + 1, out, by go_num, by omega, by omega, f1.out, okr.out, ek.trans krH.out.ext⟩
              case measure => simp [intOf]; omega
            · have f1 := hid (newest_take hsH.out hxH.out hh)
              rw [hh]
              clear hh
              go_wp2_with (refine wpList_append_rd rfl _ _ _ rfl i0 _ 4 48 Try.underlying26 hi0 hz0 hz1 hz2 rfl rfl rfl okr.out.allocd rfl (rd_new (xs := [x]) (by simp) rfl (by simp [maxLen]) (by simp [entE, Enc.flat])) (by simp [maxLen]; omega) (by simp; omega) ?_)
              intro v3 w3 o3 e3 _
              obtain ⟨A3, n3, c3, rfl⟩ := sl_shape o3
              have o3H := hid o3
              clear o3
              go_wp2
              go_roundw
              case rel => exact ⟨m + 1, out ++ [x], by go_num, by omega, by simp; omega, f1.out, o3H.out, ((ek.trans krH.out.ext).alloc _).trans e3⟩
              case measure => simp [intOf]; omega
      · obtain rfl : k = l.length := by omega
        have he := hid (newest_end hsH.out)
        go_wp2_with fail
        go_ret2
        refine ⟨_, rfl, ?_, ek⟩
        rw [← he.out]
        exact okH.out
  · unfold newestP errP
    rw [if_neg (by rw [hr]; simp), if_neg (by rw [hr]; simp)]
    go_enter Try.func22, Try.ntmps22
    go_wp2_with fail
    refine (xrow_c _ _ _ hH.out).mono ?_
    rintro e w1 ⟨rfl, k1⟩
    go_wp2_with fail
    go_ret2
    exact ⟨_, rfl, sl_nil _ _ k1.base, k1.ext⟩
end Go.Proofs.Ytihbflmjgndfiaa
