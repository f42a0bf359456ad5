/- The walk of screeref08.Get. -/
import Derived.Test.YtihbflmjgndfiaaRmA
import Derived.Test.YtihbflmjgndfiaaRmM
import Derived.Test.YtihbflmjgndfiaaEntG
namespace Go.Proofs.Ytihbflmjgndfiaa
open Go.RowKit Go.Sl Go.Scree

theorem fold_snoc {key : ByteArray} {seq : Int} {l : List Ent} {j : Nat} {x : Ent} {b : Option Ent} (h : l[j]? = some x) : (l.take (j + 1)).foldl (getE key seq) b = getE key seq ((l.take j).foldl (getE key seq) b) x := by
  obtain ⟨hk, e⟩ := List.getElem?_eq_some_iff.1 h
  rw [List.take_succ_eq_append_getElem hk, e, List.foldl_append]; rfl

set_option maxRecDepth 20000 in
set_option maxHeartbeats 6400000 in
theorem xget_c (v : Value) (rs : List RowV) (key : ByteArray) (seq : Int) (w : World) (h : RdR w v rs) :
    Calls Try.prog 15 #[v, .string key, .int .u64 seq] w fun e w' => e = .returned (.tuple #[entV (bestV (getP (listsOf rs) key seq)), .bool (getP (listsOf rs) key seq).isSome]) ∧ Kp w w' := by
  obtain ⟨A, c, rfl, hm, hc⟩ := h.out.form
  have hl : rs.length ≤ 9223372036854775807 := by simpa [maxLen] using hm
  have hH := hid h
  clear h hm hc
  go_enter Try.func15, Try.ntmps15
  go_wp2_with fail
  go_loopw [9, 10] (fun f i wr => ∃ (k : Nat), i = .int .i64 k ∧ k ≤ rs.length ∧ f = .bool (getP ((listsOf rs).take k) key seq).isSome ∧ Own wr [pts (w.heap.size + 1) (.cells (bestC (getP ((listsOf rs).take k) key seq)) 31 (0, 0)), pts w.heap.size (.cells (bestC none) 31 (0, 0)), base w w.heap.size] ∧ Ext w wr) (fun _ i _ => rs.length - (intOf i).toNat)
  case atStart =>
    refine ⟨0, rfl, Nat.zero_le _, rfl, ?_, ((Ext.refl w).alloc _).alloc _⟩
    show Own ((w.alloc (.cells (bestC none) 31 (0, 0))).alloc (.cells (bestC none) 31 (0, 0))) [pts (w.heap.size + 1) (.cells (bestC none) 31 (0, 0)), pts w.heap.size (.cells (bestC none) 31 (0, 0)), base w w.heap.size]
    have o := ((Own.start w).alloc (.cells (bestC none) 31 (0, 0))).alloc (.cells (bestC none) 31 (0, 0))
    simpa using o
  case round =>
    obtain ⟨k, rfl, hk, rfl, ok, ek⟩ := hrel
    obtain ⟨b, hb⟩ : ∃ b, getP ((listsOf rs).take k) key seq = b := ⟨_, rfl⟩
    rw [hb] at ok
    have okH := hid ok
    have hbH := hid hb
    rw [hb]
    clear hb ok
    by_cases hlt : k < rs.length
    · obtain ⟨r, hx⟩ : ∃ r, rs[k]? = some r := ⟨_, List.getElem?_eq_getElem hlt⟩
      have kp := hid (kp_of (cs := [_, _]) okH.out ek)
      have hxH := hid hx
      have hrd := hid ((hH.out.keep kp.out).mem hx)
      have hsm := hid (hH.out.small r (List.mem_of_getElem? hx))
      have hstep := hid (getP_take (rows := listsOf rs) (k := k) (l := r.l) (by simp [listsOf, hx]) key seq)
      obtain ⟨g, off, rfl, _, hcell, hgl⟩ := (hH.out.keep kp.out).at hx
      clear hx
      rcases bool_cases (rowB r.l) with hr | hr
      · have hrH := hid (rowB_iff.1 hr)
        go_wp2_with fail
        refine (xrow_c _ _ _ hrd.out).mono ?_
        rintro e w1 ⟨rfl, k1⟩
        have k1H := hid k1
        clear k1
        go_wp2_with fail
        clear hr hcell hgl
        have o1 := hid (k1H.out.own okH.out)
        have e1 := hid (ek.trans k1H.out.ext)
        go_loopw [9, 11] (fun f jv wr => ∃ (j : Nat) (q : Option Ent), jv = .int .i64 j ∧ j ≤ r.l.length ∧ q = (r.l.take j).foldl (getE key seq) b ∧ f = .bool q.isSome ∧ Own wr [pts (w.heap.size + 1) (.cells (bestC q) 31 (0, 0)), pts w.heap.size (.cells (bestC none) 31 (0, 0)), base w w.heap.size] ∧ Ext w wr) (fun _ jv _ => r.l.length - (intOf jv).toNat)
        case atStart => exact ⟨0, b, rfl, Nat.zero_le _, rfl, rfl, o1.out, e1.out⟩
        case round =>
          obtain ⟨j, q, rfl, hj, hq, rfl, ok2, ek2⟩ := hrel
          have ok2H := hid ok2
          have hqH := hid hq
          have kp2 := hid (kp_of (cs := [_, _]) ok2 ek2)
          clear ok2 hq
          obtain ⟨g5, off5, hA5, _, hcell, hgl⟩ := (hH.out.keep kp2.out).at hxH.out
          have hrd2 := hid ((hH.out.keep kp2.out).mem hxH.out)
          have hnl := hid (Rdr_len hrd2.out)
          have hsl := hsm.out
          obtain ⟨rA, rn, rc, rl⟩ := r
          dsimp only at hrd2 hcell hnl hj hxH hqH hsl hstep hrH
          obtain rfl : rn = rl.length := hnl.out
          obtain ⟨rfl, rfl⟩ : g = g5 ∧ off = off5 := by simpa using hA5
          by_cases hjl : j < rl.length
          · obtain ⟨x, hx⟩ : ∃ x, rl[j]? = some x := ⟨_, List.getElem?_eq_getElem hjl⟩
            obtain ⟨g3, off3, rfl, _, hce⟩ := rd_ent hrd2.out rfl hx
            obtain ⟨a0, a1, a2, a3⟩ := hce _ _ hx
            have hsn := hid (fold_snoc (key := key) (seq := seq) (b := b) hx)
            have b0 := Own.cell (i := 0) (v := .string (bestV q).key) ok2H.out rfl
            have b1 := Own.cell (i := 1) (v := .int .u64 (bestV q).seq) ok2H.out rfl
            have b2 := Own.cell (i := 2) (v := .bool (bestV q).del) ok2H.out rfl
            have b3 := Own.cell (i := 3) (v := .string (bestV q).val) ok2H.out rfl
            have f0 := ok2H.out.free 0
            have f1 := ok2H.out.free 1
            have f2 := ok2H.out.free 2
            have f3 := ok2H.out.free 3
            have hz := ok2H.out.lt
            clear hce hx hA5
            obtain ⟨xk, xn, xd, xv⟩ := x
            dsimp only at a0 a1 a2 a3
            have oA := ok2H.out.allocd (x := (.cells #[.string xk, .int .u64 xn, .bool xd, .string xv] 31 (0, 0)))
            have F0 := oA.free 0
            have F1 := oA.free 1
            have F2 := oA.free 2
            have F3 := oA.free 3
            clear oA
            rcases bool_cases (xk.toList == key.toList) with h1 | h1
            · rcases bool_cases (decide (xn ≤ seq)) with h2 | h2
              · have hok : Hid (ofKey key seq ⟨xk, xn, xd, xv⟩ = true) := hid (ofKey_iff.2 ⟨eqK_iff.1 h1, of_decide_eq_true h2⟩)
                cases q with
                | none =>
                  have hE : Hid (getE key seq none ⟨xk, xn, xd, xv⟩ = some ⟨xk, xn, xd, xv⟩) := hid (by unfold getE; rw [if_pos hok.out])
                  have oT : Hid (Own (((((wr.setCell ⟨w.heap.size + 1, 0, none⟩ (.string xk)).setCell ⟨w.heap.size + 1, 1, none⟩ (.int .u64 xn)).setCell ⟨w.heap.size + 1, 2, none⟩ (.bool xd)).setCell ⟨w.heap.size + 1, 3, none⟩ (.string xv)).alloc (.cells #[.string xk, .int .u64 xn, .bool xd, .string xv] 31 (0, 0))) [pts (w.heap.size + 1) (.cells (bestC (some ⟨xk, xn, xd, xv⟩)) 31 (0, 0)), pts w.heap.size (.cells (bestC none) 31 (0, 0)), base w w.heap.size]) := hid (Own.allocd (x := (.cells #[.string xk, .int .u64 xn, .bool xd, .string xv] 31 (0, 0))) ((((ok2H.out.set (i := 0) (.string xk)).set (i := 1) (.int .u64 xn)).set (i := 2) (.bool xd)).set (i := 3) (.string xv)))
                  have eT : Hid (Ext w (((((wr.setCell ⟨w.heap.size + 1, 0, none⟩ (.string xk)).setCell ⟨w.heap.size + 1, 1, none⟩ (.int .u64 xn)).setCell ⟨w.heap.size + 1, 2, none⟩ (.bool xd)).setCell ⟨w.heap.size + 1, 3, none⟩ (.string xv)).alloc (.cells #[.string xk, .int .u64 xn, .bool xd, .string xv] 31 (0, 0)))) := hid (((((ek2.set ⟨w.heap.size + 1, 0, none⟩ (.string xk)).set ⟨w.heap.size + 1, 1, none⟩ (.int .u64 xn)).set ⟨w.heap.size + 1, 2, none⟩ (.bool xd)).set ⟨w.heap.size + 1, 3, none⟩ (.string xv)).alloc (.cells #[.string xk, .int .u64 xn, .bool xd, .string xv] 31 (0, 0)))
                  go_wp2_with fail
                  go_roundw
                  case rel => exact ⟨j + 1, some ⟨xk, xn, xd, xv⟩, by go_num, by omega, by rw [hsn.out, ← hqH.out, hE.out], rfl, oT.out, eT.out⟩
                  case measure => simp [intOf]; omega
                | some y =>
                  obtain ⟨yk, yn, yd, yv⟩ := y
                  simp only [bestV, Option.getD_some] at b0 b1 b2 b3
                  rcases bool_cases (decide (yn < xn)) with h3 | h3
                  · have hE : Hid (getE key seq (some ⟨yk, yn, yd, yv⟩) ⟨xk, xn, xd, xv⟩ = some ⟨xk, xn, xd, xv⟩) := hid (by unfold getE; rw [if_pos hok.out]; exact if_pos (of_decide_eq_true h3))
                    have oT : Hid (Own (((((wr.setCell ⟨w.heap.size + 1, 0, none⟩ (.string xk)).setCell ⟨w.heap.size + 1, 1, none⟩ (.int .u64 xn)).setCell ⟨w.heap.size + 1, 2, none⟩ (.bool xd)).setCell ⟨w.heap.size + 1, 3, none⟩ (.string xv)).alloc (.cells #[.string xk, .int .u64 xn, .bool xd, .string xv] 31 (0, 0))) [pts (w.heap.size + 1) (.cells (bestC (some ⟨xk, xn, xd, xv⟩)) 31 (0, 0)), pts w.heap.size (.cells (bestC none) 31 (0, 0)), base w w.heap.size]) := hid (Own.allocd (x := (.cells #[.string xk, .int .u64 xn, .bool xd, .string xv] 31 (0, 0))) ((((ok2H.out.set (i := 0) (.string xk)).set (i := 1) (.int .u64 xn)).set (i := 2) (.bool xd)).set (i := 3) (.string xv)))
                    have eT : Hid (Ext w (((((wr.setCell ⟨w.heap.size + 1, 0, none⟩ (.string xk)).setCell ⟨w.heap.size + 1, 1, none⟩ (.int .u64 xn)).setCell ⟨w.heap.size + 1, 2, none⟩ (.bool xd)).setCell ⟨w.heap.size + 1, 3, none⟩ (.string xv)).alloc (.cells #[.string xk, .int .u64 xn, .bool xd, .string xv] 31 (0, 0)))) := hid (((((ek2.set ⟨w.heap.size + 1, 0, none⟩ (.string xk)).set ⟨w.heap.size + 1, 1, none⟩ (.int .u64 xn)).set ⟨w.heap.size + 1, 2, none⟩ (.bool xd)).set ⟨w.heap.size + 1, 3, none⟩ (.string xv)).alloc (.cells #[.string xk, .int .u64 xn, .bool xd, .string xv] 31 (0, 0)))
                    go_wp2_with fail
                    go_roundw
                    case rel => exact ⟨j + 1, some ⟨xk, xn, xd, xv⟩, by go_num, by omega, by rw [hsn.out, ← hqH.out, hE.out], rfl, oT.out, eT.out⟩
                    case measure => simp [intOf]; omega
                  · have hE : Hid (getE key seq (some ⟨yk, yn, yd, yv⟩) ⟨xk, xn, xd, xv⟩ = some ⟨yk, yn, yd, yv⟩) := hid (by unfold getE; rw [if_pos hok.out]; exact if_neg (of_decide_eq_false h3))
                    go_wp2_with fail
                    go_roundw
                    case rel => exact ⟨j + 1, _, by go_num, by omega, by rw [hsn.out, ← hqH.out, hE.out], rfl, ok2H.out.allocd, ek2.alloc _⟩
                    case measure => simp [intOf]; omega
              · have hE : Hid (getE key seq q ⟨xk, xn, xd, xv⟩ = q) := hid (by unfold getE; rw [if_neg]; intro h; have := (ofKey_iff.1 h).2; dsimp only at this; rw [decide_eq_true this] at h2; cases h2)
                go_wp2_with fail
                go_roundw
                case rel => exact ⟨j + 1, _, by go_num, by omega, by rw [hsn.out, ← hqH.out, hE.out], rfl, ok2H.out.allocd, ek2.alloc _⟩
                case measure => simp [intOf]; omega
            · have hE : Hid (getE key seq q ⟨xk, xn, xd, xv⟩ = q) := hid (by
                unfold getE; rw [if_neg]; intro h
                have e1 : eqK xk key = true := eqK_iff.2 (ofKey_iff.1 h).1
                unfold eqK at e1; rw [e1] at h1; cases h1)
              go_wp2_with fail
              go_roundw
              case rel => exact ⟨j + 1, _, by go_num, by omega, by rw [hsn.out, ← hqH.out, hE.out], rfl, ok2H.out.allocd, ek2.alloc _⟩
              case measure => simp [intOf]; omega
          · obtain rfl : j = rl.length := by omega
            have hqq : Hid (q = getStep key seq b rl) := hid (by have := hqH.out; rw [List.take_length, getE_row hrH.out] at this; exact this)
            clear hA5
            go_wp2_with fail
            go_roundw
            case rel => exact ⟨k + 1, by go_num, by omega, by rw [hstep.out, hbH.out, ← hqq.out], by rw [hstep.out, hbH.out, ← hqq.out]; exact ok2H.out, ek2⟩
            case measure => simp [intOf]; omega
      · go_wp2_with fail
        refine (xrow_c _ _ _ hrd.out).mono ?_
        rintro e w1 ⟨rfl, k1⟩
        have k1H := hid k1
        clear k1
        go_wp2_with fail
        go_roundw
        case rel => exact ⟨k + 1, by go_num, by omega, by rw [hstep.out, getStep_bad hr, hbH.out], by rw [hstep.out, getStep_bad hr, hbH.out]; exact k1H.out.own okH.out, ek.trans k1H.out.ext⟩
        case measure => simp [intOf]; omega
    · obtain rfl : k = rs.length := by omega
      have hfull : Hid (getP (listsOf rs) key seq = b) := hid (by have := hbH.out; rwa [List.take_of_length_le (by simp [listsOf])] at this)
      have b0 := Own.cell (i := 0) (v := .string (bestV b).key) okH.out rfl
      have b1 := Own.cell (i := 1) (v := .int .u64 (bestV b).seq) okH.out rfl
      have b2 := Own.cell (i := 2) (v := .bool (bestV b).del) okH.out rfl
      have b3 := Own.cell (i := 3) (v := .string (bestV b).val) okH.out rfl
      have hz := okH.out.lt
      have c0 := Own.cell (i := 0) (v := .string ⟨#[]⟩) okH.out.swap rfl
      have c1 := Own.cell (i := 1) (v := .int .u64 0) okH.out.swap rfl
      have c2 := Own.cell (i := 2) (v := .bool false) okH.out.swap rfl
      have c3 := Own.cell (i := 3) (v := .string ⟨#[]⟩) okH.out.swap rfl
      have f0 := okH.out.swap.free 0
      have f1 := okH.out.swap.free 1
      have f2 := okH.out.swap.free 2
      have f3 := okH.out.swap.free 3
      have hz2 := okH.out.swap.lt
      go_wp2_with fail
      have o2 := (((okH.out.swap.set (i := 0) (.string (bestV b).key)).set (i := 1) (.int .u64 (bestV b).seq)).set (i := 2) (.bool (bestV b).del)).set (i := 3) (.string (bestV b).val)
      have d0 := Own.cell (i := 0) (v := .string (bestV b).key) o2 rfl
      have d1 := Own.cell (i := 1) (v := .int .u64 (bestV b).seq) o2 rfl
      have d2 := Own.cell (i := 2) (v := .bool (bestV b).del) o2 rfl
      have d3 := Own.cell (i := 3) (v := .string (bestV b).val) o2 rfl
      have e2 := (((ek.set ⟨w.heap.size, 0, none⟩ (.string (bestV b).key)).set ⟨w.heap.size, 1, none⟩ (.int .u64 (bestV b).seq)).set ⟨w.heap.size, 2, none⟩ (.bool (bestV b).del)).set ⟨w.heap.size, 3, none⟩ (.string (bestV b).val)
      generalize hW : World.setCell _ ⟨w.heap.size, 3, none⟩ _ = W at *
      clear hW
      clear b0 b1 b2 b3 c0 c1 c2 c3
      (try simp only [Exit.inBlock, Exit.then])
      refine bodyPost_ret (by simp [results, Try.results15, go_sem, d0, d1, d2, d3]; rfl) rfl ?_
      refine ⟨?_, kp_of (cs := [_, _]) o2.swap e2⟩
      rw [hfull.out]
      rfl
end Go.Proofs.Ytihbflmjgndfiaa
