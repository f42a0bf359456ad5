/- The walk of MergeParts. -/
import Derived.Test.YtihbflmjgndfiaaMNew
import Derived.Test.YtihbflmjgndfiaaEntQb
import Derived.Test.YtihbflmjgndfiaaSlf
namespace Go.Proofs.Ytihbflmjgndfiaa
open Go.RowKit Go.Sl Go.Scree

set_option maxRecDepth 20000 in
set_option maxHeartbeats 6400000 in
theorem mergeParts_row (v : Value) (l : List Ent) (k m : ByteArray) (W : World) (hr : Rd W entE v l) (hp : ∀ x ∈ l, x.Wf) (w1 : k.size ≤ 140737488351232) (w2 : m.size ≤ 140737488351232) :
    Calls Try.prog 8 #[v, .string k, .string m] W fun e W' => e = .returned (.bool true) ∧ Below W.heap.size W W' := by
  obtain ⟨A, c, rfl, _, _⟩ := hr.form
  have rH := hid hr
  obtain ⟨i0, hi0, hz0, hz1, hz2⟩ := info_parts infoEnt
  clear hr hp w1 w2
  go_enter Try.func8, Try.ntmps8
  go_wp2_with fail
  refine (awake_c _).mono ?_
  rintro e wa ⟨rfl, ka⟩
  have kaH := hid ka
  clear ka
  go_wp2_with fail
  refine (large_c _ [⟨A, l.length, c, l⟩] _ (rd_new rfl rfl (by simp [maxLen]) rfl) (fun r hr => by rw [List.mem_singleton.1 hr]; exact (kaH.out.alloc _).rd rH.out)).mono ?_
  intro e wb hb
  obtain ⟨b, rfl, kb, hs⟩ := hb
  have kbH := hid ((kaH.out.alloc _).trans kb)
  clear kb
  cases b with
  | true =>
    clear hs
    go_wp2_with fail
    go_ret
    exact ⟨rfl, below_kp kbH.out⟩
  | false =>
    have hlen3 : l.length ≤ 300 := by
      have := (hs rfl).2
      simp [listsOf] at this; omega
    have hlen : l.length ≤ 1000000 := by omega
    have hlenH := hid hlen
    have hlen3H := hid hlen3
    clear hs hlen hlen3
    by_cases hk3 : (300 : Int) < (k.size : Int)
    · go_wp2_with fail
      go_ret
      exact ⟨rfl, below_kp kbH.out⟩
    by_cases hm3 : (300 : Int) < (m.size : Int)
    · go_wp2_with fail
      go_ret
      exact ⟨rfl, below_kp kbH.out⟩
    rcases bool_cases k.toList.isEmpty with hke | hke
    · go_wp2_with fail
      go_ret
      exact ⟨rfl, below_kp kbH.out⟩
    have hkH : Hid (nilK k = false) := hid hke
    go_wp2_with fail
    refine (between_c _ l ⟨#[]⟩ k _ (kbH.out.rd rH.out) hlenH.out).mono ?_
    rintro e wc ⟨va, rfl, oa, ea⟩
    have ra := sl_rd oa
    obtain ⟨Aa, ca, rfl, _, _⟩ := ra.form
    have raH := hid ra
    have kac := hid (kp_of1 oa ea)
    have kcH := hid (kbH.out.trans kac.out)
    clear oa ea ra
    rcases bool_cases (rowB l) with hrow | hrow
    · have he : errP l = 0 := if_pos hrow
      have heH := hid he
      have hrowH := hid (rowB_iff.1 hrow)
      rw [he]
      clear he hrow
      go_wp2_with fail
      refine (between_c _ l k ⟨#[]⟩ _ (kcH.out.rd rH.out) hlenH.out).mono ?_
      rintro e wd ⟨vb, rfl, ob, eb⟩
      have rb := sl_rd ob
      obtain ⟨Ab, cb, rfl, _, _⟩ := rb.form
      have rbH := hid rb
      have kbd := hid (kp_of1 ob eb)
      have kdH := hid (kcH.out.trans kbd.out)
      rw [heH.out]
      clear ob eb rb
      go_wp2_with fail
      refine (between_c _ l k m _ (kdH.out.rd rH.out) hlenH.out).mono ?_
      rintro e we ⟨vc, rfl, oc, ec⟩
      have rc := sl_rd oc
      obtain ⟨Ac, cc, rfl, hcl, _⟩ := rc.form
      have rcH := hid rc
      have kce := hid (kp_of1 oc ec)
      have keH := hid (kdH.out.trans kce.out)
      rw [heH.out]
      have hcl' : (betweenP l k m).length ≤ 9223372036854775807 := by simpa [maxLen] using hcl
      have hin := hid (fun x (hx : x ∈ betweenP l k m) => between_in hx)
      have hcrow : Hid (rowB (betweenP l k m) = true) := hid (rowB_iff.2 between_row)
      clear oc ec rc hcl
      generalize betweenP l k m = s at *
      go_wp2_with fail
      go_loopw [69] (fun i wr => ∃ j : Nat, i = .int .i64 j ∧ j ≤ s.length ∧ Kp we wr) (fun i _ => s.length - (intOf i).toNat)
      case atStart => exact ⟨0, rfl, Nat.zero_le _, Kp.refl _⟩
      case round =>
        obtain ⟨j, rfl, hj, kr⟩ := hrel
        have krH := hid kr
        clear kr
        by_cases hlt : j < s.length
        · obtain ⟨x, hx⟩ : ∃ x, s[j]? = some x := ⟨_, List.getElem?_eq_getElem hlt⟩
          obtain ⟨g, off, rfl, _, hce⟩ := rd_ent (krH.out.rd rcH.out) rfl hx
          obtain ⟨a0, a1, a2, a3⟩ := hce _ _ hx
          have ho := hin.out x (List.mem_of_getElem? hx)
          clear hce hx
          unfold outB at ho
          rw [Bool.or_eq_false_iff, Bool.and_eq_false_iff] at ho
          obtain ⟨ho1, ho2⟩ := ho
          have g1 : Op.bytesLess x.key.toList k.toList = false := (less_ltK _ _).trans ho1
          clear ho1
          rcases bool_cases m.toList.isEmpty with hme | hme
          · clear ho2
            go_wp2_with fail
            go_roundw
            case rel => exact ⟨j + 1, by go_num, by omega, krH.out⟩
            case measure => simp [intOf]; omega
          · have g2 : Op.bytesLess x.key.toList m.toList = true := by
              rw [less_ltK]
              rcases ho2 with h | h
              · unfold nilK at h; rw [hme] at h; cases h
              · simpa using h
            clear ho2
            go_wp2_with fail
            go_roundw
            case rel => exact ⟨j + 1, by go_num, by omega, krH.out⟩
            case measure => simp [intOf]; omega
        · obtain rfl : j = s.length := by omega
          have hparts := hid (parts hrowH.out hkH.out)
          have hal := hid (between_len l ⟨#[]⟩ k)
          have hbl := hid (between_len l k ⟨#[]⟩)
          have raX := hid ((kbd.out.trans (kce.out.trans krH.out)).rd raH.out)
          have rbX := hid ((kce.out.trans krH.out).rd rbH.out)
          clear raH rbH
          generalize betweenP l ⟨#[]⟩ k = pa at *
          generalize betweenP l k ⟨#[]⟩ = pb at *
          go_wp2_with (refine wpList_append_rd_g rfl _ _ _ rfl i0 _ 4 48 Try.underlying26 hi0 hz0 hz1 hz2 rfl rfl rfl (sl_empty' 31 entE ((Own.start wr).alloc (.cells #[] 31 (0, 0)))) rfl (((Kp.refl wr).alloc _).rd raX.out) ?q1 ?q2 ?_)
          case q1 => have h1 := hal.out; have h2 := hlen3H.out; simp [maxLen]; omega
          case q2 => have h1 := hal.out; have h2 := hlen3H.out; simp; omega
          intro v3 w3 o3 e3 _
          obtain ⟨A3, n3, c3, rfl⟩ := sl_shape o3
          have k3H := hid (kp_of1 o3 (((Ext.refl wr).alloc _).trans e3))
          have o3H := hid o3
          clear o3 e3
          go_wp2_with (refine wpList_append_rd_g rfl _ _ _ rfl i0 _ 4 48 Try.underlying26 hi0 hz0 hz1 hz2 rfl rfl rfl o3H.out rfl (k3H.out.rd rbX.out) ?q3 ?q4 ?_)
          case q3 => have h1 := hal.out; have h2 := hlen3H.out; have h3 := hbl.out; simp [maxLen]; omega
          case q4 => have h1 := hal.out; have h2 := hlen3H.out; have h3 := hbl.out; simp; omega
          intro v4 w4 o4 e4 _
          obtain ⟨A4, n4, c4, rfl⟩ := sl_shape o4
          have k4H := hid (kp_of1 o4 (k3H.out.ext.trans e4))
          have r4 := sl_rd o4
          rw [hparts.out] at r4
          have r4H := hid r4
          clear o4 e4 r4
          go_wp2_with fail
          refine (same_c _ _ l _ r4H.out ((keH.out.trans (krH.out.trans k4H.out)).rd rH.out)).mono ?_
          rintro e w5 ⟨rfl, k5⟩
          have k5H := hid k5
          clear k5
          go_wp2_with fail
          refine (row_c _ s _ ((krH.out.trans (k4H.out.trans k5H.out)).rd rcH.out)).mono ?_
          rintro e w6 ⟨rfl, k6⟩
          rw [hcrow.out]
          have kall := hid (keH.out.trans (krH.out.trans (k4H.out.trans (k5H.out.trans k6))))
          clear k6
          go_wp2_with fail
          go_ret
          exact ⟨rfl, below_kp kall.out⟩
    · have he : errP l = 2 := if_neg (by rw [hrow]; simp)
      have heH := hid he
      rw [he]
      clear he
      go_wp2_with fail
      refine (between_c _ l k ⟨#[]⟩ _ (kcH.out.rd rH.out) hlenH.out).mono ?_
      rintro e wd ⟨vb, rfl, ob, eb⟩
      obtain ⟨Ab, nb, cb, rfl⟩ := sl_shape ob
      have kdH := hid (kcH.out.trans (kp_of1 ob eb))
      rw [heH.out]
      clear ob eb
      go_wp2_with fail
      refine (between_c _ l k m _ (kdH.out.rd rH.out) hlenH.out).mono ?_
      rintro e we ⟨vc, rfl, oc, ec⟩
      obtain ⟨Ac, nc, cc, rfl⟩ := sl_shape oc
      have keH := hid (kdH.out.trans (kp_of1 oc ec))
      rw [heH.out]
      clear oc ec
      go_wp2_with fail
      refine (row_c _ _ _ (keH.out.rd rH.out)).mono ?_
      rintro e wf ⟨rfl, kf⟩
      rw [hrow]
      have kfH := hid (keH.out.trans kf)
      clear kf
      go_wp2_with fail
      go_ret
      exact ⟨rfl, below_kp kfH.out⟩
end Go.Proofs.Ytihbflmjgndfiaa
