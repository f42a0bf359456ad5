/- The walk of Get. -/
import Derived.Test.YtihbflmjgndfiaaEntR
import Derived.Test.YtihbflmjgndfiaaEntS
import Derived.Test.YtihbflmjgndfiaaEntGm
import Derived.Laws.ResultCell
import Derived.Handy
namespace Go.Proofs.Ytihbflmjgndfiaa
open Go.RowKit Go.Sl Go.Scree

def bestV (b : Option Ent) : Ent := b.getD zeroEnt
def bestC (b : Option Ent) : Array Value := #[.string (bestV b).key, .int .u64 (bestV b).seq, .bool (bestV b).del, .string (bestV b).val]

set_option maxRecDepth 20000 in
set_option maxHeartbeats 6400000 in
theorem get_c (v : Value) (rs : List RowV) (key : ByteArray) (seq : Int) (w : World) (h : RdR w v rs) :
    Calls Try.prog 14 #[v, .string key, .int .u64 seq] w fun e w' => e = .returned (.tuple #[entV (bestV (getP (listsOf rs) key seq)), .bool (getP (listsOf rs) key seq).isSome]) ∧ Kp w w' := by
  obtain ⟨A, c, rfl, hm, hc⟩ := h.out.form
  have hl : rs.length ≤ 9223372036854775807 := by simpa [maxLen] using hm
  have hH := hid h
  clear h hm hc
  go_enter Try.func14, Try.ntmps14
  go_wp2_with fail
  go_loopw [9, 16] (fun f i wr => ∃ (k : Nat), i = .int .i64 k ∧ k ≤ rs.length ∧ f = .bool (getP ((listsOf rs).take k) key seq).isSome ∧ Own wr [pts (w.heap.size + 1) (.cells (bestC (getP ((listsOf rs).take k) key seq)) 31 (0, 0)), pts w.heap.size (.cells (bestC none) 31 (0, 0)), base w w.heap.size] ∧ Ext w wr) (fun _ i _ => rs.length - (intOf i).toNat)
  case atStart =>
    refine ⟨0, rfl, Nat.zero_le _, rfl, ?_, ((Ext.refl w).alloc _).alloc _⟩
    show Own ((w.alloc (.cells (bestC none) 31 (0, 0))).alloc (.cells (bestC none) 31 (0, 0))) [pts (w.heap.size + 1) (.cells (bestC none) 31 (0, 0)), pts w.heap.size (.cells (bestC none) 31 (0, 0)), base w w.heap.size]
    have o := ((Own.start w).alloc (.cells (bestC none) 31 (0, 0))).alloc (.cells (bestC none) 31 (0, 0))
    simpa using o
  case round =>
    obtain ⟨k, rfl, hk, rfl, ok, ek⟩ := hrel
    have hgetE : ∃ b, getP ((listsOf rs).take k) key seq = b := ⟨_, rfl⟩
    obtain ⟨b, hb⟩ := hgetE
    rw [hb] at ok
    have okH := hid ok
    have hbH := hid hb
    rw [hb]
    clear hb ok
    by_cases hlt : k < rs.length
    · obtain ⟨r, hx⟩ : ∃ r, rs[k]? = some r := ⟨_, List.getElem?_eq_getElem hlt⟩
      have kp := hid (kp_of (cs := [_, _]) okH.out ek)
      obtain ⟨g, off, rfl, _, hcell, hgl⟩ := (hH.out.keep kp.out).at hx
      have hrd := hid ((hH.out.keep kp.out).mem hx)
      have hsm := hid (hH.out.small r (List.mem_of_getElem? hx))
      have hstep := hid (getP_take (rows := listsOf rs) (k := k) (l := r.l) (by simp [listsOf, hx]) key seq)
      have hnl := hid (Rdr_len hrd.out)
      clear hx
      obtain ⟨rA, rn, rc, rl⟩ := r
      dsimp only at hrd hsm hstep hnl hcell
      obtain rfl : rn = rl.length := hnl.out
      rcases bool_cases (rowB rl) with hr | hr
      · go_wp2_with fail
        refine (row_c _ _ _ hrd.out).mono ?_
        rintro e w1 ⟨rfl, k1⟩
        have k1H := hid k1
        clear k1
        go_wp2_with fail
        refine (search_c _ rl ⟨key, seq, false, ⟨#[]⟩⟩ _ (k1H.out.rd hrd.out) (rowB_iff.1 hr) hsm.out).mono ?_
        rintro e w2 ⟨i, bb, rfl, hp, k2⟩
        have k2H := hid (k1H.out.trans k2)
        have o2H := hid (k2H.out.own okH.out)
        have b0 := Own.cell (i := 0) (v := .string (bestV b).key) o2H.out rfl
        have b1 := Own.cell (i := 1) (v := .int .u64 (bestV b).seq) o2H.out rfl
        have b2 := Own.cell (i := 2) (v := .bool (bestV b).del) o2H.out rfl
        have b3 := Own.cell (i := 3) (v := .string (bestV b).val) o2H.out rfl
        have f0 := o2H.out.free 0
        have f1 := o2H.out.free 1
        have f2 := o2H.out.free 2
        have f3 := o2H.out.free 3
        have hz := o2H.out.lt
        have hf := find_place hp.2.1 hp.2.2
        have hil := hp.1
        clear k2 hp
        by_cases hi : i < rl.length
        · obtain ⟨x, hx⟩ : ∃ x, rl[i]? = some x := ⟨_, List.getElem?_eq_getElem hi⟩
          obtain ⟨g2, off2, rfl, _, hce⟩ := rd_ent (k2H.out.rd hrd.out) rfl hx
          obtain ⟨a0, a1, a2, a3⟩ := hce _ _ hx
          have hg2 : g2 < w2.heap.size := World.block_lt_of_cell? w2 _ a0
          obtain ⟨xk, xn, xd, xv⟩ := x
          by_cases hkey : xk = key
          · subst hkey
            have hcand : Hid (candP rl xk seq = some ⟨xk, xn, xd, xv⟩) := hid (by unfold candP; rw [hf, hx]; simp [eqK_iff.2 rfl])
            have hrH := hid hr
            clear hce hx hf
            cases b with
            | none =>
              go_wp2_with fail
              go_quiet (fail)
              go_wp2
              go_roundw
              case rel => exact ⟨k + 1, by go_num, by omega, by rw [hstep.out, hbH.out, getStep_first hrH.out hcand.out]; rfl, by rw [hstep.out, hbH.out, getStep_first hrH.out hcand.out]; exact (((((o2H.out.drewN _).set _).set _).set _).set _), (((((ek.trans k2H.out.ext).drewN _).set _ _).set _ _).set _ _).set _ _⟩
              case measure => simp [intOf]; omega
            | some y =>
              obtain ⟨yk, yn, yd, yv⟩ := y
              simp only [bestV, Option.getD_some] at b0 b1 b2 b3
              rcases bool_cases (decide (yn < xn)) with hs | hs
              · have hsH := hid (of_decide_eq_true hs)
                go_wp2_with fail
                go_quiet (fail)
                go_wp2
                go_roundw
                case rel => exact ⟨k + 1, by go_num, by omega, by rw [hstep.out, hbH.out, getStep_more hrH.out hcand.out hsH.out]; rfl, by rw [hstep.out, hbH.out, getStep_more hrH.out hcand.out hsH.out]; exact (((((o2H.out.drewN _).set _).set _).set _).set _), (((((ek.trans k2H.out.ext).drewN _).set _ _).set _ _).set _ _).set _ _⟩
                case measure => simp [intOf]; omega
              · have hsH := hid (show xn ≤ yn from by have := of_decide_eq_false hs; omega)
                go_wp2_with fail
                go_quiet (fail)
                go_wp2
                go_roundw
                case rel => exact ⟨k + 1, by go_num, by omega, by rw [hstep.out, hbH.out, getStep_less hcand.out hsH.out] <;> rfl, by rw [hstep.out, hbH.out, getStep_less hcand.out hsH.out]; exact o2H.out.drewN _, (ek.trans k2H.out.ext).drewN _⟩
                case measure => simp [intOf]; omega
          · have hcand : Hid (candP rl key seq = none) := hid (by unfold candP; rw [hf, hx]; simp [eqK_false.2 hkey])
            have g3 : (xk.toList == key.toList) = false := eqK_false.2 hkey
            clear hce hx hf hkey
            go_wp2_with fail
            go_quiet (fail)
            go_wp2
            go_roundw
            case rel => exact ⟨k + 1, by go_num, by omega, by rw [hstep.out, hbH.out, getStep_none hcand.out], by rw [hstep.out, hbH.out, getStep_none hcand.out]; exact o2H.out.drewN _, (ek.trans k2H.out.ext).drewN _⟩
            case measure => simp [intOf]; omega
        · have hcand : Hid (candP rl key seq = none) := hid (by unfold candP; rw [hf, List.getElem?_eq_none (by omega)])
          clear hf
          go_wp2_with fail
          go_quiet (fail)
          go_wp2
          go_roundw
          case rel => exact ⟨k + 1, by go_num, by omega, by rw [hstep.out, hbH.out, getStep_none hcand.out], by rw [hstep.out, hbH.out, getStep_none hcand.out]; exact o2H.out.drewN _, (ek.trans k2H.out.ext).drewN _⟩
          case measure => simp [intOf]; omega
      · go_wp2_with fail
        refine (row_c _ _ _ hrd.out).mono ?_
        rintro e w1 ⟨rfl, k1⟩
        have k1H := hid k1
        clear k1
        go_wp2_with fail
        go_roundw
        case rel => exact ⟨k + 1, by go_num, by omega, by rw [hstep.out, getStep_bad hr, hbH.out], by rw [hstep.out, getStep_bad hr, hbH.out]; exact k1H.out.own okH.out, ek.trans k1H.out.ext⟩
        case measure => simp [intOf]; omega
    · obtain rfl : k = rs.length := by omega
      have hfull : Hid (getP (listsOf rs) key seq = b) := hid (by have := hbH.out; rwa [List.take_of_length_le (by simp [listsOf])] at this)
      have b0 := Own.cell (i := 0) (v := .string (bestV b).key) okH.out rfl
      have b1 := Own.cell (i := 1) (v := .int .u64 (bestV b).seq) okH.out rfl
      have b2 := Own.cell (i := 2) (v := .bool (bestV b).del) okH.out rfl
      have b3 := Own.cell (i := 3) (v := .string (bestV b).val) okH.out rfl
      have hz := okH.out.lt
      have c0 := Own.cell (i := 0) (v := .string ⟨#[]⟩) okH.out.swap rfl
      have c1 := Own.cell (i := 1) (v := .int .u64 0) okH.out.swap rfl
      have c2 := Own.cell (i := 2) (v := .bool false) okH.out.swap rfl
      have c3 := Own.cell (i := 3) (v := .string ⟨#[]⟩) okH.out.swap rfl
      have f0 := okH.out.swap.free 0
      have f1 := okH.out.swap.free 1
      have f2 := okH.out.swap.free 2
      have f3 := okH.out.swap.free 3
      have hz2 := okH.out.swap.lt
      go_wp2_with fail
      have o2 := (((okH.out.swap.set (i := 0) (.string (bestV b).key)).set (i := 1) (.int .u64 (bestV b).seq)).set (i := 2) (.bool (bestV b).del)).set (i := 3) (.string (bestV b).val)
      have d0 := Own.cell (i := 0) (v := .string (bestV b).key) o2 rfl
      have d1 := Own.cell (i := 1) (v := .int .u64 (bestV b).seq) o2 rfl
      have d2 := Own.cell (i := 2) (v := .bool (bestV b).del) o2 rfl
      have d3 := Own.cell (i := 3) (v := .string (bestV b).val) o2 rfl
      have e2 := (((ek.set ⟨w.heap.size, 0, none⟩ (.string (bestV b).key)).set ⟨w.heap.size, 1, none⟩ (.int .u64 (bestV b).seq)).set ⟨w.heap.size, 2, none⟩ (.bool (bestV b).del)).set ⟨w.heap.size, 3, none⟩ (.string (bestV b).val)
      generalize hW : World.setCell _ ⟨w.heap.size, 3, none⟩ _ = W at *
      clear hW
      clear b0 b1 b2 b3 c0 c1 c2 c3
      (try simp only [Exit.inBlock, Exit.then])
      refine bodyPost_ret (by simp [results, Try.results14, go_sem, d0, d1, d2, d3]; rfl) rfl ?_
      refine ⟨?_, kp_of (cs := [_, _]) o2.swap e2⟩
      rw [hfull.out]
      rfl
end Go.Proofs.Ytihbflmjgndfiaa
