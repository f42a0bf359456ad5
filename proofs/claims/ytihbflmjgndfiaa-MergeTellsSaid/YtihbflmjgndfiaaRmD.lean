/- The walk of screeref08.with. -/
import Derived.Test.YtihbflmjgndfiaaRmA
import Derived.Test.YtihbflmjgndfiaaSlh
import Derived.Test.YtihbflmjgndfiaaEntP
namespace Go.Proofs.Ytihbflmjgndfiaa
open Go.RowKit Go.Sl Go.Scree

theorem with_eq {x : Ent} : ∀ {l : List Ent} {k : Nat}, k ≤ l.length → (∀ j y, j < k → l[j]? = some y → aheadB y x = true) → (∀ y, l[k]? = some y → aheadB y x = false) →
    withE l x = if (l[k]?.map fun y => sameB y x) = some true then l else l.take k ++ x :: l.drop k
  | [], k, hk, _, _ => by
    obtain rfl : k = 0 := by simpa using hk
    simp [withE]
  | a :: l, 0, _, _, h => by
    have h0 := h a rfl
    unfold withE
    rw [if_neg (by rw [h0]; simp)]
    by_cases hs : sameB a x = true
    · rw [if_pos hs]; simp [hs]
    · rw [if_neg hs]; simp [hs]
  | a :: l, k + 1, hk, h1, h2 => by
    have ha := h1 0 a (by omega) rfl
    unfold withE
    rw [if_pos ha, with_eq (l := l) (k := k) (by simpa using hk) (fun j y hj hy => h1 (j + 1) y (by omega) (by simpa using hy)) (fun y hy => h2 y (by simpa using hy))]
    simp only [List.getElem?_cons_succ]
    split <;> simp

set_option maxRecDepth 20000 in
set_option maxHeartbeats 6400000 in
theorem xwith_c (v : Value) (l : List Ent) (x : Ent) (w : World) (h : Rd w entE v l) (hn : l.length ≤ 1000000) :
    Calls Try.prog 30 #[v, entV x] w fun e w' => ∃ v', e = .returned v' ∧ Rd w' entE v' (withE l x) ∧ Kp w w' := by
  obtain ⟨A, c, rfl, hm, hc⟩ := h.form
  have hH := hid h
  obtain ⟨i0, hi0, hz0, hz1, hz2⟩ := info_parts infoEnt
  have hcm : Hid (c ≤ maxLen) := hid (by
    rcases h with ⟨⟨_, cap, hv, hm⟩, _⟩ | ⟨_, _, cap, hv, _, hm, _⟩
    · simp only [Value.slice.injEq] at hv; obtain ⟨_, _, rfl⟩ := hv; exact hm
    · simp only [Value.slice.injEq] at hv; obtain ⟨_, _, rfl⟩ := hv; exact hm)
  obtain ⟨xk, xn, xd, xv⟩ := x
  unfold entV
  have hlc : l.length ≤ c := hc
  clear h hm hc
  go_enter Try.func30, Try.ntmps30
  go_wp2_with fail
  go_loopw [5] (fun iv wr => ∃ k : Nat, iv = .int .i64 k ∧ k ≤ l.length ∧ Kp (w.alloc (.cells #[.string xk, .int .u64 xn, .bool xd, .string xv] 31 (0, 0))) wr ∧ ∀ j y, j < k → l[j]? = some y → aheadB y ⟨xk, xn, xd, xv⟩ = true) (fun iv _ => l.length - (intOf iv).toNat)
  case atStart => exact ⟨0, rfl, Nat.zero_le _, Kp.refl _, fun j y hj => by omega⟩
  case round =>
    obtain ⟨k, rfl, hk, kr, hg⟩ := hrel
    have krH := hid kr
    have gH := hid hg
    have t0 := kr.cell (p := ⟨w.heap.size, 0, none⟩) (v := .string xk) (by simp)
    have t1 := kr.cell (p := ⟨w.heap.size, 1, none⟩) (v := .int .u64 xn) (by simp)
    have t2 := kr.cell (p := ⟨w.heap.size, 2, none⟩) (v := .bool xd) (by simp)
    have t3 := kr.cell (p := ⟨w.heap.size, 3, none⟩) (v := .string xv) (by simp)
    have tl := World.block_lt_of_cell? wr _ t0
    have kall := hid (((Kp.refl w).alloc (.cells #[.string xk, .int .u64 xn, .bool xd, .string xv] 31 (0, 0))).trans kr)
    clear kr hg
    by_cases hlt : k < l.length
    · obtain ⟨y, hy⟩ : ∃ y, l[k]? = some y := ⟨_, List.getElem?_eq_getElem hlt⟩
      have hrw := kall.out.rd hH.out
      obtain ⟨g, off, rfl, _, hce⟩ := rd_ent hrw rfl hy
      obtain ⟨a0, a1, a2, a3⟩ := hce _ _ hy
      have hyH := hid hy
      have hgl : g < wr.heap.size := World.block_lt_of_cell? wr _ a0
      have hd1 : decide (k < l.length) = true := by simp [hlt]
      clear hce hy hrw
      rcases bool_cases (aheadB y ⟨xk, xn, xd, xv⟩) with hab | hab
      · have habH := hid hab
        go_wp2_with fail
        go_quiet ((go_at_call 32; refine Calls.quiet_of_same (xahead_c y ⟨xk, xn, xd, xv⟩ _)))
        go_wp2
        go_roundw
        case rel =>
          refine ⟨k + 1, by go_num, by omega, krH.out.drewN nq, fun j z hj hz => ?_⟩
          rcases Nat.lt_or_ge j k with h' | h'
          · exact gH.out j z h' hz
          · obtain rfl : j = k := by omega
            rw [hyH.out] at hz
            obtain rfl := Option.some.inj hz
            exact habH.out
        case measure => simp [intOf]; omega
      · have hwe := hid (with_eq (x := ⟨xk, xn, xd, xv⟩) (l := l) (k := k) hk gH.out (fun z hz => by rw [hyH.out] at hz; rw [← Option.some.inj hz]; exact hab))
        go_wp2_with fail
        go_quiet ((go_at_call 32; refine Calls.quiet_of_same (xahead_c y ⟨xk, xn, xd, xv⟩ _)))
        generalize hwq : wr.drewN nq = wq
        have kq : Kp wr wq := by rw [← hwq]; exact (Kp.refl wr).drewN nq
        have kqH := hid (kall.out.trans kq)
        have a0' := kq.cell a0
        have a1' := kq.cell a1
        have t0' := kq.cell t0
        have t1' := kq.cell t1
        have t2' := kq.cell t2
        have t3' := kq.cell t3
        have hgl' := kq.lt hgl
        have tl' := kq.lt tl
        clear hwq kq a0 a1 a2 a3 t0 t1 t2 t3 hgl tl
        rcases bool_cases (y.key.toList == xk.toList) with h1 | h1
        · rcases bool_cases (y.seq == xn) with h2 | h2
          · have hs : sameB y ⟨xk, xn, xd, xv⟩ = true := sameB_iff.2 ⟨eqK_iff.1 h1, by simpa using h2⟩
            have hwe2 : Hid (withE l ⟨xk, xn, xd, xv⟩ = l) := hid (by rw [hwe.out, hyH.out]; simp [hs])
            clear hs
            go_wp2_with fail
            go_quiet (fail)
            go_wp2
            go_ret
            exact ⟨_, rfl, by rw [hwe2.out]; exact (kqH.out.drewN _).rd hH.out, kqH.out.drewN _⟩
          · have hs : sameB y ⟨xk, xn, xd, xv⟩ = false := by
              cases e : sameB y ⟨xk, xn, xd, xv⟩ with
              | false => rfl
              | true => have := (sameB_iff.1 e).2; dsimp only at this; rw [this] at h2; simp at h2
            rw [hyH.out] at hwe
            simp only [Option.map_some, hs] at hwe
            have hwe' : Hid (withE l ⟨xk, xn, xd, xv⟩ = l.take k ++ ⟨xk, xn, xd, xv⟩ :: l.drop k) := hid (by have := hwe.out; simpa using this)
            clear hs hwe
            have hwe := hwe'
            clear hwe'
            go_wp2_with fail
            go_quiet (fail)
            generalize hwz : World.drewN wq _ = wz
            have kz : Kp wq wz := by rw [← hwz]; exact (Kp.refl wq).drewN _
            have kqH := hid (kqH.out.trans kz)
            have t0' := kz.cell t0'
            have t1' := kz.cell t1'
            have t2' := kz.cell t2'
            have t3' := kz.cell t3'
            clear hwz kz a0' a1' hgl' tl'
            go_wp2_with (refine wpList_append_rd rfl _ _ _ rfl i0 _ 4 48 Try.underlying26 hi0 hz0 hz1 hz2 rfl rfl rfl (sl_empty' 31 entE ((Own.start wz).alloc (.cells #[] 31 (0, 0)))) rfl (((Kp.refl wz).alloc _).rd (rd_take (kqH.out.rd hH.out) k hk)) ?q1 ?q2 ?_)
            case q1 => simp [maxLen]; omega
            case q2 => simp; omega
            intro v3 w3 o3 e3 _
            obtain ⟨A3, n3, c3, rfl⟩ := sl_shape o3
            have k3H := hid (kp_of1 o3 (((Ext.refl wz).alloc _).trans e3))
            have o3H := hid o3
            have s0 := k3H.out.cell t0'
            have s1 := k3H.out.cell t1'
            have s2 := k3H.out.cell t2'
            have s3 := k3H.out.cell t3'
            clear o3 e3 t0' t1' t2' t3'
            go_wp2_with (refine wpList_append_rd rfl _ _ _ rfl i0 _ 4 48 Try.underlying26 hi0 hz0 hz1 hz2 rfl rfl rfl o3H.out.allocd rfl (rd_new (xs := [⟨xk, xn, xd, xv⟩]) (by simp) rfl (by simp [maxLen]) (by simp [entE, Enc.flat])) ?q3 ?q4 ?_)
            case q3 => simp [maxLen]; omega
            case q4 => simp; omega
            intro v4 w4 o4 e4 _
            obtain ⟨A4, n4, c4, rfl⟩ := sl_shape o4
            have k4H := hid (kp_of1 o4 ((k3H.out.ext.alloc _).trans e4))
            have o4H := hid o4
            clear o4 e4 s0 s1 s2 s3
            by_cases hkc : k = c
            · subst hkc
              have hRD : Rd wz entE (.slice (some ⟨g, off, none⟩) 0 0) (l.drop k) := by
                have hd : l.drop k = [] := List.drop_eq_nil_of_le (by
                  rcases hH.out with ⟨_, h⟩ | ⟨_, _, cap, hv, h1, _⟩
                  · simp [h]
                  · simp only [Value.slice.injEq] at hv; obtain ⟨_, _, rfl⟩ := hv; exact h1)
                rw [hd]
                exact rd_gone (by simp [maxLen])
              go_wp2_with (refine wpList_append_rd rfl _ _ _ rfl i0 _ 4 48 Try.underlying26 hi0 hz0 hz1 hz2 rfl rfl rfl o4H.out rfl (k4H.out.rd hRD) ?q5 ?q6 ?_)
              case q5 => simp [maxLen]; omega
              case q6 => simp; omega
              intro v5 w5 o5 e5 _
              obtain ⟨A5, n5, c5, rfl⟩ := sl_shape o5
              have r5 := hid (sl_rd o5)
              have k5H := hid (kqH.out.trans (kp_of1 o5 (k4H.out.ext.trans e5)))
              clear o5 e5
              go_wp2
              go_ret
              refine ⟨_, rfl, ?_, k5H.out⟩
              have := r5.out
              try simp only [List.nil_append, List.append_assoc, List.cons_append] at this
              rw [hwe.out]
              exact this
            · have hRD : Rd wz entE (.slice (some ⟨g, off + k * 4, none⟩) (l.length - k) (c - k)) (l.drop k) := rd_drop (kqH.out.rd hH.out) k hk
              go_wp2_with (refine wpList_append_rd rfl _ _ _ rfl i0 _ 4 48 Try.underlying26 hi0 hz0 hz1 hz2 rfl rfl rfl o4H.out rfl (k4H.out.rd hRD) ?q5 ?q6 ?_)
              case q5 => simp [maxLen]; omega
              case q6 => simp; omega
              intro v5 w5 o5 e5 _
              obtain ⟨A5, n5, c5, rfl⟩ := sl_shape o5
              have r5 := hid (sl_rd o5)
              have k5H := hid (kqH.out.trans (kp_of1 o5 (k4H.out.ext.trans e5)))
              clear o5 e5
              go_wp2
              go_ret
              refine ⟨_, rfl, ?_, k5H.out⟩
              have := r5.out
              try simp only [List.nil_append, List.append_assoc, List.cons_append] at this
              rw [hwe.out]
              exact this
        · have hs : sameB y ⟨xk, xn, xd, xv⟩ = false := by
            cases e : sameB y ⟨xk, xn, xd, xv⟩ with
            | false => rfl
            | true => have := (sameB_iff.1 e).1; dsimp only at this; have e1 : eqK y.key xk = true := eqK_iff.2 this; unfold eqK at e1; rw [e1] at h1; cases h1
          rw [hyH.out] at hwe
          simp only [Option.map_some, hs] at hwe
          have hwe' : Hid (withE l ⟨xk, xn, xd, xv⟩ = l.take k ++ ⟨xk, xn, xd, xv⟩ :: l.drop k) := hid (by have := hwe.out; simpa using this)
          clear hs hwe
          have hwe := hwe'
          clear hwe'
          go_wp2_with fail
          go_quiet (fail)
          generalize hwz : World.drewN wq _ = wz
          have kz : Kp wq wz := by rw [← hwz]; exact (Kp.refl wq).drewN _
          have kqH := hid (kqH.out.trans kz)
          have t0' := kz.cell t0'
          have t1' := kz.cell t1'
          have t2' := kz.cell t2'
          have t3' := kz.cell t3'
          clear hwz kz a0' a1' hgl' tl'
          go_wp2_with (refine wpList_append_rd rfl _ _ _ rfl i0 _ 4 48 Try.underlying26 hi0 hz0 hz1 hz2 rfl rfl rfl (sl_empty' 31 entE ((Own.start wz).alloc (.cells #[] 31 (0, 0)))) rfl (((Kp.refl wz).alloc _).rd (rd_take (kqH.out.rd hH.out) k hk)) ?q1 ?q2 ?_)
          case q1 => simp [maxLen]; omega
          case q2 => simp; omega
          intro v3 w3 o3 e3 _
          obtain ⟨A3, n3, c3, rfl⟩ := sl_shape o3
          have k3H := hid (kp_of1 o3 (((Ext.refl wz).alloc _).trans e3))
          have o3H := hid o3
          have s0 := k3H.out.cell t0'
          have s1 := k3H.out.cell t1'
          have s2 := k3H.out.cell t2'
          have s3 := k3H.out.cell t3'
          clear o3 e3 t0' t1' t2' t3'
          go_wp2_with (refine wpList_append_rd rfl _ _ _ rfl i0 _ 4 48 Try.underlying26 hi0 hz0 hz1 hz2 rfl rfl rfl o3H.out.allocd rfl (rd_new (xs := [⟨xk, xn, xd, xv⟩]) (by simp) rfl (by simp [maxLen]) (by simp [entE, Enc.flat])) ?q3 ?q4 ?_)
          case q3 => simp [maxLen]; omega
          case q4 => simp; omega
          intro v4 w4 o4 e4 _
          obtain ⟨A4, n4, c4, rfl⟩ := sl_shape o4
          have k4H := hid (kp_of1 o4 ((k3H.out.ext.alloc _).trans e4))
          have o4H := hid o4
          clear o4 e4 s0 s1 s2 s3
          by_cases hkc : k = c
          · subst hkc
            have hRD : Rd wz entE (.slice (some ⟨g, off, none⟩) 0 0) (l.drop k) := by
              have hd : l.drop k = [] := List.drop_eq_nil_of_le (by
                rcases hH.out with ⟨_, h⟩ | ⟨_, _, cap, hv, h1, _⟩
                · simp [h]
                · simp only [Value.slice.injEq] at hv; obtain ⟨_, _, rfl⟩ := hv; exact h1)
              rw [hd]
              exact rd_gone (by simp [maxLen])
            go_wp2_with (refine wpList_append_rd rfl _ _ _ rfl i0 _ 4 48 Try.underlying26 hi0 hz0 hz1 hz2 rfl rfl rfl o4H.out rfl (k4H.out.rd hRD) ?q5 ?q6 ?_)
            case q5 => simp [maxLen]; omega
            case q6 => simp; omega
            intro v5 w5 o5 e5 _
            obtain ⟨A5, n5, c5, rfl⟩ := sl_shape o5
            have r5 := hid (sl_rd o5)
            have k5H := hid (kqH.out.trans (kp_of1 o5 (k4H.out.ext.trans e5)))
            clear o5 e5
            go_wp2
            go_ret
            refine ⟨_, rfl, ?_, k5H.out⟩
            have := r5.out
            try simp only [List.nil_append, List.append_assoc, List.cons_append] at this
            rw [hwe.out]
            exact this
          · have hRD : Rd wz entE (.slice (some ⟨g, off + k * 4, none⟩) (l.length - k) (c - k)) (l.drop k) := rd_drop (kqH.out.rd hH.out) k hk
            go_wp2_with (refine wpList_append_rd rfl _ _ _ rfl i0 _ 4 48 Try.underlying26 hi0 hz0 hz1 hz2 rfl rfl rfl o4H.out rfl (k4H.out.rd hRD) ?q5 ?q6 ?_)
            case q5 => simp [maxLen]; omega
            case q6 => simp; omega
            intro v5 w5 o5 e5 _
            obtain ⟨A5, n5, c5, rfl⟩ := sl_shape o5
            have r5 := hid (sl_rd o5)
            have k5H := hid (kqH.out.trans (kp_of1 o5 (k4H.out.ext.trans e5)))
            clear o5 e5
            go_wp2
            go_ret
            refine ⟨_, rfl, ?_, k5H.out⟩
            have := r5.out
            try simp only [List.nil_append, List.append_assoc, List.cons_append] at this
            rw [hwe.out]
            exact this
    · have hkl : k = l.length := by omega
      have hd1 : decide (k < l.length) = false := by simp [hkl]
      have hwe0 := with_eq (x := ⟨xk, xn, xd, xv⟩) (l := l) (k := k) hk gH.out (fun z hz => by have := (List.getElem?_eq_some_iff.1 hz).1; omega)
      have hwe : Hid (withE l ⟨xk, xn, xd, xv⟩ = l.take k ++ ⟨xk, xn, xd, xv⟩ :: l.drop k) := hid (by rw [hwe0, List.getElem?_eq_none (by omega)]; simp)
      have hklH := hid hkl
      clear hwe0 hkl
      go_wp2_with fail
      go_quiet (fail)
      generalize hwq : wr.drewN nq = wq
      have kq : Kp wr wq := by rw [← hwq]; exact (Kp.refl wr).drewN nq
      have kqH := hid (kall.out.trans kq)
      have t0' := kq.cell t0
      have t1' := kq.cell t1
      have t2' := kq.cell t2
      have t3' := kq.cell t3
      clear hwq kq t0 t1 t2 t3 tl
      go_wp2_with fail
      go_quiet (fail)
      generalize hwz : World.drewN wq _ = wz
      have kz : Kp wq wz := by rw [← hwz]; exact (Kp.refl wq).drewN _
      have kqH := hid (kqH.out.trans kz)
      have t0' := kz.cell t0'
      have t1' := kz.cell t1'
      have t2' := kz.cell t2'
      have t3' := kz.cell t3'
      clear hwz kz
      have hdn : l.drop k = [] := List.drop_eq_nil_of_le (by have := hklH.out; omega)
      have hn0 : l.length - k = 0 := by have := hklH.out; omega
      have hdnH := hid hdn
      clear hdn
      go_wp2_with (refine wpList_append_rd rfl _ _ _ rfl i0 _ 4 48 Try.underlying26 hi0 hz0 hz1 hz2 rfl rfl rfl (sl_empty' 31 entE ((Own.start wz).alloc (.cells #[] 31 (0, 0)))) rfl (((Kp.refl wz).alloc _).rd (rd_take (kqH.out.rd hH.out) k hk)) ?q1 ?q2 ?_)
      case q1 => simp [maxLen]; omega
      case q2 => simp; omega
      intro v3 w3 o3 e3 _
      obtain ⟨A3, n3, c3, rfl⟩ := sl_shape o3
      have k3H := hid (kp_of1 o3 (((Ext.refl wz).alloc _).trans e3))
      have o3H := hid o3
      have s0 := k3H.out.cell t0'
      have s1 := k3H.out.cell t1'
      have s2 := k3H.out.cell t2'
      have s3 := k3H.out.cell t3'
      clear o3 e3 t0' t1' t2' t3'
      go_wp2_with (refine wpList_append_rd rfl _ _ _ rfl i0 _ 4 48 Try.underlying26 hi0 hz0 hz1 hz2 rfl rfl rfl o3H.out.allocd rfl (rd_new (xs := [⟨xk, xn, xd, xv⟩]) (by simp) rfl (by simp [maxLen]) (by simp [entE, Enc.flat])) ?q3 ?q4 ?_)
      case q3 => simp [maxLen]; omega
      case q4 => simp; omega
      intro v4 w4 o4 e4 _
      obtain ⟨A4, n4, c4, rfl⟩ := sl_shape o4
      have k4H := hid (kp_of1 o4 ((k3H.out.ext.alloc _).trans e4))
      have o4H := hid o4
      clear o4 e4 s0 s1 s2 s3
      cases A with
      | none =>
        have hRD : Rd wz entE (.slice none 0 (c - k)) (l.drop k) := by
          rw [hdnH.out]; exact rd_gone (by have := hcm.out; omega)
        go_wp2_with (refine wpList_append_rd rfl _ _ _ rfl i0 _ 4 48 Try.underlying26 hi0 hz0 hz1 hz2 rfl rfl rfl o4H.out rfl (k4H.out.rd hRD) ?q5 ?q6 ?_)
        case q5 => simp [maxLen]; omega
        case q6 => simp; omega
        intro v5 w5 o5 e5 _
        obtain ⟨A5, n5, c5, rfl⟩ := sl_shape o5
        have r5 := hid (sl_rd o5)
        have k5H := hid (kqH.out.trans (kp_of1 o5 (k4H.out.ext.trans e5)))
        clear o5 e5
        go_wp2
        go_ret
        refine ⟨_, rfl, ?_, k5H.out⟩
        have := r5.out
        try simp only [List.nil_append, List.append_assoc, List.cons_append] at this
        rw [hwe.out]
        exact this
      | some ad =>
        by_cases hkc : k = c
        · subst hkc
          have hRD : Rd wz entE (.slice (some ad) 0 0) (l.drop k) := by
            rw [hdnH.out]; exact rd_gone (by simp [maxLen])
          go_wp2_with (refine wpList_append_rd rfl _ _ _ rfl i0 _ 4 48 Try.underlying26 hi0 hz0 hz1 hz2 rfl rfl rfl o4H.out rfl (k4H.out.rd hRD) ?q5 ?q6 ?_)
          case q5 => simp [maxLen]; omega
          case q6 => simp; omega
          intro v5 w5 o5 e5 _
          obtain ⟨A5, n5, c5, rfl⟩ := sl_shape o5
          have r5 := hid (sl_rd o5)
          have k5H := hid (kqH.out.trans (kp_of1 o5 (k4H.out.ext.trans e5)))
          clear o5 e5
          go_wp2
          go_ret
          refine ⟨_, rfl, ?_, k5H.out⟩
          have := r5.out
          try simp only [List.nil_append, List.append_assoc, List.cons_append] at this
          rw [hwe.out]
          exact this
        · have hRD : Rd wz entE (.slice (some (ad.add (k * 4))) 0 (c - k)) (l.drop k) := by
            rw [hdnH.out]; exact rd_gone (by have := hcm.out; omega)
          go_wp2_with (refine wpList_append_rd rfl _ _ _ rfl i0 _ 4 48 Try.underlying26 hi0 hz0 hz1 hz2 rfl rfl rfl o4H.out rfl (k4H.out.rd hRD) ?q5 ?q6 ?_)
          case q5 => simp [maxLen]; omega
          case q6 => simp; omega
          intro v5 w5 o5 e5 _
          obtain ⟨A5, n5, c5, rfl⟩ := sl_shape o5
          have r5 := hid (sl_rd o5)
          have k5H := hid (kqH.out.trans (kp_of1 o5 (k4H.out.ext.trans e5)))
          clear o5 e5
          go_wp2
          go_ret
          refine ⟨_, rfl, ?_, k5H.out⟩
          have := r5.out
          try simp only [List.nil_append, List.append_assoc, List.cons_append] at this
          rw [hwe.out]
          exact this
end Go.Proofs.Ytihbflmjgndfiaa
