/- The walk of MergeNewest. -/
import Derived.Test.YtihbflmjgndfiaaEntX
import Derived.Test.YtihbflmjgndfiaaEntQ
import Derived.Test.YtihbflmjgndfiaaEntO
namespace Go.Proofs.Ytihbflmjgndfiaa
open Go.RowKit Go.Sl Go.Scree

theorem below_kp {w w' : World} (k : Kp w w') : Below w.heap.size w w' := ⟨k.ext.os, k.ext.tape, k.ext.output, k.ext.size, fun _ h => k.same _ h⟩
theorem max_ge (a b : Int) : a ≤ (if b < a then a else b) := by split <;> omega

set_option maxRecDepth 20000 in
set_option maxHeartbeats 6400000 in
theorem mergeNewest_row (v : Value) (l : List Ent) (least seq : Int) (W : World) (hr : Rd W entE v l) (hp : ∀ x ∈ l, x.Wf) (w1 : (Lit.int .u64 least).wf = true) (w2 : (Lit.int .u64 seq).wf = true) :
    Calls Try.prog 6 #[v, .int .u64 least, .int .u64 seq] W fun e W' => e = .returned (.bool true) ∧ Below W.heap.size W W' := by
  obtain ⟨A, c, rfl, _, _⟩ := hr.form
  have rH := hid hr
  clear hr hp w1 w2
  go_enter Try.func6, Try.ntmps6
  go_wp2_with fail
  refine (awake_c _).mono ?_
  rintro e wa ⟨rfl, ka⟩
  have kaH := hid ka
  clear ka
  go_wp2_with fail
  refine (large_c _ [⟨A, l.length, c, l⟩] _ (rd_new rfl rfl (by simp [maxLen]) rfl) (fun r hr => by rw [List.mem_singleton.1 hr]; exact (kaH.out.alloc _).rd rH.out)).mono ?_
  intro e wb hb
  obtain ⟨b, rfl, kb, hs⟩ := hb
  have kbH := hid ((kaH.out.alloc _).trans kb)
  clear kb
  cases b with
  | true =>
    clear hs
    go_wp2_with fail
    go_ret
    exact ⟨rfl, below_kp kbH.out⟩
  | false =>
    have hlen : l.length ≤ 1000000 := by
      have := (hs rfl).2
      simp [listsOf] at this; omega
    have hlenH := hid hlen
    clear hs hlen
    go_wp2_with fail
    refine (newest_c _ l least _ (kbH.out.rd rH.out) hlenH.out).mono ?_
    rintro e wc ⟨vn, rfl, oc, ec⟩
    obtain ⟨An, nn, cn, rfl⟩ := sl_shape oc
    have rn := hid (sl_rd oc)
    have kbc := hid (kp_of1 oc ec)
    have kcH := hid (kbH.out.trans kbc.out)
    clear oc ec
    rcases bool_cases (rowB l) with hrow | hrow
    · have he : errP l = 0 := if_pos hrow
      have hrowH := hid (rowB_iff.1 hrow)
      rw [he]
      clear he
      by_cases hls : ¬ seq < least
      · have hM : Hid (least ≤ seq) := hid (by omega)
        go_wp2_with fail
        refine (seen_c _ l seq _ (kcH.out.rd rH.out) hlenH.out).mono ?_
        rintro e wd ⟨va, rfl, od, ed⟩
        obtain ⟨Aa, na, ca, rfl⟩ := sl_shape od
        have rsa := hid (sl_rd od)
        have kcd := hid (kp_of1 od ed)
        have he : errP l = 0 := if_pos (rowB_iff.2 hrowH.out)
        rw [he]
        clear od ed he
        go_wp2_with fail
        have hN := hid (newest_row (least := least) hrowH.out)
        have hNl := hid (Nat.le_trans (newest_len l least) hlenH.out)
        refine (seen_c _ (newestP l least) seq _ (kcd.out.rd rn.out) hNl.out).mono ?_
        rintro e we ⟨vb, rfl, oe, ee⟩
        obtain ⟨Ab, nb, cb, rfl⟩ := sl_shape oe
        have rsb := sl_rd oe
        rw [seen_newest hrowH.out hM.out] at rsb
        have rsbH := hid rsb
        have kde := hid (kp_of1 oe ee)
        have he : errP (newestP l least) = 0 := if_pos (rowB_iff.2 hN.out)
        rw [he]
        clear oe ee he rsb
        go_wp2_with fail
        refine (newest_c _ (newestP l least) least _ ((kcd.out.trans kde.out).rd rn.out) hNl.out).mono ?_
        rintro e wf ⟨vc, rfl, of, ef⟩
        obtain ⟨Ac, nc, cc, rfl⟩ := sl_shape of
        have rnn := sl_rd of
        rw [newest_newest hrowH.out] at rnn
        have rnnH := hid rnn
        have kef := hid (kp_of1 of ef)
        have he : errP (newestP l least) = 0 := if_pos (rowB_iff.2 hN.out)
        rw [he]
        clear of ef he rnn
        go_wp2_with fail
        refine (same_c _ _ (seenP l seq) _ ((kde.out.trans kef.out).rd rsa.out) (kef.out.rd rsbH.out)).mono ?_
        rintro e wg ⟨rfl, kg⟩
        have kgH := hid kg
        clear kg
        go_wp2_with fail
        refine (same_c _ _ (newestP l least) _ ((kcd.out.trans (kde.out.trans (kef.out.trans kgH.out))).rd rn.out) (kgH.out.rd rnnH.out)).mono ?_
        rintro e wh ⟨rfl, kh⟩
        have khH := hid kh
        clear kh
        go_wp2_with fail
        refine (row_c _ (newestP l least) _ ((kcd.out.trans (kde.out.trans (kef.out.trans (kgH.out.trans khH.out)))).rd rn.out)).mono ?_
        rintro e wi ⟨rfl, ki⟩
        rw [rowB_iff.2 hN.out]
        have kall := hid (kcH.out.trans (kcd.out.trans (kde.out.trans (kef.out.trans (kgH.out.trans (khH.out.trans ki))))))
        clear ki
        go_wp2_with fail
        go_ret
        exact ⟨rfl, below_kp kall.out⟩
      · have hM : Hid (least ≤ least) := hid (by omega)
        go_wp2_with fail
        refine (seen_c _ l least _ (kcH.out.rd rH.out) hlenH.out).mono ?_
        rintro e wd ⟨va, rfl, od, ed⟩
        obtain ⟨Aa, na, ca, rfl⟩ := sl_shape od
        have rsa := hid (sl_rd od)
        have kcd := hid (kp_of1 od ed)
        have he : errP l = 0 := if_pos (rowB_iff.2 hrowH.out)
        rw [he]
        clear od ed he
        go_wp2_with fail
        have hN := hid (newest_row (least := least) hrowH.out)
        have hNl := hid (Nat.le_trans (newest_len l least) hlenH.out)
        refine (seen_c _ (newestP l least) least _ (kcd.out.rd rn.out) hNl.out).mono ?_
        rintro e we ⟨vb, rfl, oe, ee⟩
        obtain ⟨Ab, nb, cb, rfl⟩ := sl_shape oe
        have rsb := sl_rd oe
        rw [seen_newest hrowH.out hM.out] at rsb
        have rsbH := hid rsb
        have kde := hid (kp_of1 oe ee)
        have he : errP (newestP l least) = 0 := if_pos (rowB_iff.2 hN.out)
        rw [he]
        clear oe ee he rsb
        go_wp2_with fail
        refine (newest_c _ (newestP l least) least _ ((kcd.out.trans kde.out).rd rn.out) hNl.out).mono ?_
        rintro e wf ⟨vc, rfl, of, ef⟩
        obtain ⟨Ac, nc, cc, rfl⟩ := sl_shape of
        have rnn := sl_rd of
        rw [newest_newest hrowH.out] at rnn
        have rnnH := hid rnn
        have kef := hid (kp_of1 of ef)
        have he : errP (newestP l least) = 0 := if_pos (rowB_iff.2 hN.out)
        rw [he]
        clear of ef he rnn
        go_wp2_with fail
        refine (same_c _ _ (seenP l least) _ ((kde.out.trans kef.out).rd rsa.out) (kef.out.rd rsbH.out)).mono ?_
        rintro e wg ⟨rfl, kg⟩
        have kgH := hid kg
        clear kg
        go_wp2_with fail
        refine (same_c _ _ (newestP l least) _ ((kcd.out.trans (kde.out.trans (kef.out.trans kgH.out))).rd rn.out) (kgH.out.rd rnnH.out)).mono ?_
        rintro e wh ⟨rfl, kh⟩
        have khH := hid kh
        clear kh
        go_wp2_with fail
        refine (row_c _ (newestP l least) _ ((kcd.out.trans (kde.out.trans (kef.out.trans (kgH.out.trans khH.out)))).rd rn.out)).mono ?_
        rintro e wi ⟨rfl, ki⟩
        rw [rowB_iff.2 hN.out]
        have kall := hid (kcH.out.trans (kcd.out.trans (kde.out.trans (kef.out.trans (kgH.out.trans (khH.out.trans ki))))))
        clear ki
        go_wp2_with fail
        go_ret
        exact ⟨rfl, below_kp kall.out⟩
    · have he : errP l = 2 := if_neg (by rw [hrow]; simp)
      rw [he]
      clear he
      go_wp2_with fail
      refine (row_c _ _ _ (kcH.out.rd rH.out)).mono ?_
      rintro e wd ⟨rfl, kd⟩
      rw [hrow]
      have kdH := hid (kcH.out.trans kd)
      clear kd
      go_wp2_with fail
      go_ret
      exact ⟨rfl, below_kp kdH.out⟩
end Go.Proofs.Ytihbflmjgndfiaa
