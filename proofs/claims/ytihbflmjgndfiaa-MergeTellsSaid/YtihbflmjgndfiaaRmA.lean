/- The walks of screeref07.Ahead, screeref08.Row, Between. -/
import Derived.Test.YtihbflmjgndfiaaEntC
namespace Go.Proofs.Ytihbflmjgndfiaa
open Go.RowKit Go.Sl Go.Scree

set_option maxHeartbeats 1600000 in
theorem xahead_c (a b : Ent) (w : World) : Calls Try.prog 32 #[.string a.key, .int .u64 a.seq, .string b.key, .int .u64 b.seq] w fun e w' => e = .returned (.bool (aheadB a b)) ∧ w' = w := by
  have hb : Hid (aheadB a b = (Op.bytesLess a.key.toList b.key.toList || (a.key.toList == b.key.toList && decide (b.seq < a.seq)))) := hid (by rw [less_ltK]; rfl)
  rcases bool_cases (Op.bytesLess a.key.toList b.key.toList) with h1 | h1
  · rw [h1] at hb
    go_enter Try.func32, Try.ntmps32
    go_wp2_with fail
    go_ret
    exact ⟨by rw [hb.out]; rfl, rfl⟩
  · rw [h1] at hb
    rcases bool_cases (a.key.toList == b.key.toList) with h2 | h2
    · rw [h2] at hb
      rcases bool_cases (decide (b.seq < a.seq)) with h3 | h3
      all_goals
        rw [h3] at hb
        go_enter Try.func32, Try.ntmps32
        go_wp2_with fail
        go_ret
        exact ⟨by rw [hb.out]; rfl, rfl⟩
    · rw [h2] at hb
      go_enter Try.func32, Try.ntmps32
      go_wp2_with fail
      go_ret
      exact ⟨by rw [hb.out]; rfl, rfl⟩

set_option maxRecDepth 20000 in
set_option maxHeartbeats 3200000 in
theorem xrow_c (v : Value) (l : List Ent) (w : World) (h : Rd w entE v l) : Calls Try.prog 20 #[v] w fun e w' => e = .returned (.bool (rowB l)) ∧ Kp w w' := by
  obtain ⟨A, c, rfl, hm, hc⟩ := h.form
  have hl : l.length ≤ 9223372036854775807 := by simpa [maxLen] using hm
  have hH := hid h
  clear h hm hc
  go_enter Try.func20, Try.ntmps20
  go_wp2_with fail
  go_loopw [3] (fun i wr => ∃ k : Nat, i = .int .i64 k ∧ (k = 0 ∨ k < l.length) ∧ Kp w wr ∧ ∀ j a b, j < k → l[j]? = some a → l[j + 1]? = some b → aheadB a b = true) (fun i _ => l.length - (intOf i).toNat)
  case atStart => exact ⟨0, rfl, .inl rfl, Kp.refl _, fun j a b hj => by omega⟩
  case round =>
    obtain ⟨k, rfl, hk, kr, hg⟩ := hrel
    have kH := hid kr
    have gH := hid hg
    obtain ⟨m, hm⟩ : ∃ m, k + 1 = m := ⟨_, rfl⟩
    have hmi : (k : Int) + 1 = (m : Int) := by omega
    have hmw : IntKind.i64.wrap (m : Int) = (m : Int) := IntWalk.i64_in _ (by omega)
    have hmH := hid hm
    clear hg kr
    by_cases hlt : m < l.length
    · obtain ⟨a, ha⟩ : ∃ a, l[k]? = some a := ⟨_, List.getElem?_eq_getElem (by omega)⟩
      obtain ⟨b, hb⟩ : ∃ b, l[k + 1]? = some b := ⟨_, List.getElem?_eq_getElem (hm ▸ hlt)⟩
      have hkl : k < l.length := by omega
      obtain ⟨g, off, rfl, _, hce⟩ := rd_ent (kH.out.rd hH.out) rfl ha
      obtain ⟨a0, a1, a2, a3⟩ := hce _ _ ha
      obtain ⟨b0, b1, b2, b3⟩ := hce _ _ hb
      rw [hm] at b0 b1 b2 b3
      have haH := hid ha
      have hbH := hid hb
      have hgl : g < wr.heap.size := World.block_lt_of_cell? wr _ a0
      clear hce ha hb a2 a3 b2 b3 hm
      have hahd := bool_cases (aheadB a b)
      rcases hahd with hab | hab
      · have habH := hid hab
        go_wp2_with fail
        go_quiet ((go_at_call 32; refine Calls.quiet_of_same (xahead_c a b _)))
        go_wp2
        go_roundw
        case rel =>
          refine ⟨m, by go_num, .inr hlt, kH.out.drewN nq, fun j x y hj hx hy => ?_⟩
          rcases Nat.lt_or_ge j k with h' | h'
          · exact gH.out j x y h' hx hy
          · obtain rfl : j = k := by have := hmH.out; omega
            rw [haH.out] at hx; rw [hbH.out] at hy
            obtain rfl := Option.some.inj hx
            obtain rfl := Option.some.inj hy
            exact habH.out
        case measure => have := hmH.out; simp [intOf]; omega
      · have hbad : Hid (rowB l = false) := hid (row_bad haH.out hbH.out hab)
        go_wp2_with fail
        go_quiet ((go_at_call 32; refine Calls.quiet_of_same (xahead_c a b _)))
        go_wp2
        go_ret
        exact ⟨by rw [hbad.out]; rfl, kH.out.drewN nq⟩
    · have hgood : Hid (rowB l = true) := hid (rowB_iff.2 (row_of_adj fun i a b ha hb => gH.out i a b (by have := (List.getElem?_eq_some_iff.1 hb).1; omega) ha hb))
      clear hm
      go_wp2_with fail
      go_ret
      exact ⟨by rw [hgood.out]; rfl, kH.out⟩

set_option maxRecDepth 20000 in
set_option maxHeartbeats 3200000 in
theorem xbetween_c (v : Value) (l : List Ent) (lo hi : ByteArray) (w : World) (h : Rd w entE v l) (hn : l.length ≤ 1000000) :
    Calls Try.prog 24 #[v, .string lo, .string hi] w fun e w' => ∃ v', e = .returned (.tuple #[v', .int .i64 (errP l)]) ∧ Own w' [sl 31 entE v' (betweenP l lo hi), base w w.heap.size] ∧ Ext w w' := by
  obtain ⟨A, c, rfl, hm, hc⟩ := h.form
  have hH := hid h
  obtain ⟨i0, hi0, hz0, hz1, hz2⟩ := info_parts infoEnt
  clear h hm hc
  rcases bool_cases (rowB l) with hr | hr
  · unfold betweenP errP
    rw [if_pos hr, if_pos hr]
    go_enter Try.func24, Try.ntmps24
    go_wp2_with fail
    refine (xrow_c _ _ _ hH.out).mono ?_
    rintro e w1 ⟨rfl, k1⟩
    have k1H := hid k1
    have o1 := hid (sl_empty' 31 entE (k1.base.alloc (.cells #[] 31 (0, 0))))
    clear k1
    go_wp2_with fail
    clear hr
    go_loopw [8, 9] (fun s i wr => ∃ (k : Nat) (out : List Ent), i = .int .i64 k ∧ k ≤ l.length ∧ out = (l.take k).filter (fun x => !outB lo hi x) ∧ Own wr [sl 31 entE s out, base w w.heap.size] ∧ Ext w wr) (fun _ i _ => l.length - (intOf i).toNat)
    case atStart => exact ⟨0, [], rfl, Nat.zero_le _, rfl, o1.out, (k1H.out.alloc _).ext⟩
    case round =>
      obtain ⟨k, out, rfl, hk, hs, ok, ek⟩ := hrel
      obtain ⟨A1, n1, c1, rfl⟩ := sl_shape ok
      have okH := hid ok
      have hsH := hid hs
      have hol : out.length ≤ l.length := by rw [hs]; exact Nat.le_trans (List.length_filter_le _ _) (by rw [List.length_take]; omega)
      clear ok hs
      by_cases hlt : k < l.length
      · obtain ⟨x, hx⟩ : ∃ x, l[k]? = some x := ⟨_, List.getElem?_eq_getElem hlt⟩
        obtain ⟨g, off, rfl, _, hce⟩ := rd_ent ((kp_of1 okH.out ek).rd hH.out) rfl hx
        obtain ⟨a0, a1, a2, a3⟩ := hce _ _ hx
        have hsn : Hid (l.take (k + 1) = l.take k ++ [x]) := hid (by
          obtain ⟨hk', e⟩ := List.getElem?_eq_some_iff.1 hx
          rw [List.take_succ_eq_append_getElem hk', e])
        clear hce hx
        have hob : Hid (outB lo hi x = (Op.bytesLess x.key.toList lo.toList || (!decide (hi.size = 0) && !Op.bytesLess x.key.toList hi.toList))) := hid (by
          unfold outB
          rw [less_ltK, less_ltK]
          have : nilK hi = decide (hi.size = 0) := by
            unfold nilK
            rw [Lib.toList_data]
            cases hi with | mk d => cases d with | mk l => cases l <;> simp [ByteArray.size]
          rw [this])
        rcases bool_cases (Op.bytesLess x.key.toList lo.toList) with h1 | h1
        · rw [h1] at hob
          have hout := hid hob.out
          go_wp2_with fail
          go_roundw
          case rel => exact ⟨k + 1, out, by go_num, by omega, by rw [hsn.out, List.filter_append, ← hsH.out]; simp [hout.out], okH.out, ek⟩
          case measure => simp [intOf]; omega
        · rw [h1] at hob
          by_cases hz : hi.size = 0
          · have hout : Hid (outB lo hi x = false) := hid (by rw [hob.out]; simp [hz])
            go_wp2_with (refine wpList_append_rd rfl _ _ _ rfl i0 _ 4 48 Try.underlying26 hi0 hz0 hz1 hz2 rfl rfl rfl okH.out.allocd rfl (rd_new (xs := [x]) (by simp) rfl (by simp [maxLen]) (by simp [entE, Enc.flat])) (by simp [maxLen]; omega) (by simp; omega) ?_)
            intro v3 w3 o3 e3 _
            obtain ⟨A3, n3, c3, rfl⟩ := sl_shape o3
            have o3H := hid o3
            clear o3
            go_wp2
            go_roundw
            case rel => exact ⟨k + 1, out ++ [x], by go_num, by omega, by rw [hsn.out, List.filter_append, ← hsH.out]; simp [hout.out], o3H.out, (ek.alloc _).trans e3⟩
            case measure => simp [intOf]; omega
          · rcases bool_cases (Op.bytesLess x.key.toList hi.toList) with h3 | h3
            · have hout : Hid (outB lo hi x = false) := hid (by rw [hob.out, h3]; simp)
              go_wp2_with (refine wpList_append_rd rfl _ _ _ rfl i0 _ 4 48 Try.underlying26 hi0 hz0 hz1 hz2 rfl rfl rfl okH.out.allocd rfl (rd_new (xs := [x]) (by simp) rfl (by simp [maxLen]) (by simp [entE, Enc.flat])) (by simp [maxLen]; omega) (by simp; omega) ?_)
              intro v3 w3 o3 e3 _
              obtain ⟨A3, n3, c3, rfl⟩ := sl_shape o3
              have o3H := hid o3
              clear o3
              go_wp2
              go_roundw
              case rel => exact ⟨k + 1, out ++ [x], by go_num, by omega, by rw [hsn.out, List.filter_append, ← hsH.out]; simp [hout.out], o3H.out, (ek.alloc _).trans e3⟩
              case measure => simp [intOf]; omega
            · have hout : Hid (outB lo hi x = true) := hid (by rw [hob.out, h3]; simp [hz])
              go_wp2_with fail
              go_roundw
              case rel => exact ⟨k + 1, out, by go_num, by omega, by rw [hsn.out, List.filter_append, ← hsH.out]; simp [hout.out], okH.out, ek⟩
              case measure => simp [intOf]; omega
      · obtain rfl : k = l.length := by omega
        go_wp2_with fail
        go_ret2
        refine ⟨_, rfl, ?_, ek⟩
        have := okH.out
        rw [hsH.out, List.take_length] at this
        exact this
  · unfold betweenP errP
    rw [if_neg (by rw [hr]; simp), if_neg (by rw [hr]; simp)]
    go_enter Try.func24, Try.ntmps24
    go_wp2_with fail
    refine (xrow_c _ _ _ hH.out).mono ?_
    rintro e w1 ⟨rfl, k1⟩
    go_wp2_with fail
    go_ret2
    exact ⟨_, rfl, sl_nil _ _ k1.base, k1.ext⟩
end Go.Proofs.Ytihbflmjgndfiaa
