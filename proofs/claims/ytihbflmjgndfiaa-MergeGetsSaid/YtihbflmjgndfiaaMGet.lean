/- The walk of MergeGets. -/
import Derived.Test.YtihbflmjgndfiaaMGrp
namespace Go.Proofs.Ytihbflmjgndfiaa
open Go.RowKit Go.Sl Go.Scree

def hasK (key : ByteArray) (l : List Ent) : Bool := l.any fun y => eqK y.key key
theorem hasK_take {key : ByteArray} {l : List Ent} {k : Nat} {y : Ent} (h : l[k]? = some y) : hasK key (l.take (k + 1)) = (hasK key (l.take k) || eqK y.key key) := by
  obtain ⟨hk, rfl⟩ := List.getElem?_eq_some_iff.1 h
  unfold hasK
  rw [List.take_succ_eq_append_getElem hk, List.any_append]; simp
theorem gets_end {rows : List (List Ent)} (h : goodR rows = true) (key : ByteArray) (seq : Int) : hasK key (seenP (allP rows) seq) = ((getP rows key seq).isSome && !(bestV (getP rows key seq)).del) := by
  cases hg : getP rows key seq with
  | none =>
    simp only [Option.isSome_none, Bool.false_and]
    unfold hasK
    rw [List.any_eq_false]
    intro y hy hk
    have := (gets_seen h key seq y).1 ⟨hy, eqK_iff.1 hk⟩
    rw [hg] at this; cases this.1
  | some x =>
    have hx : bestV (some x) = x := rfl
    rw [hx]
    simp only [Option.isSome_some, Bool.true_and]
    cases hd : x.del with
    | false =>
      obtain ⟨h1, h2⟩ := (gets_seen h key seq x).2 ⟨hg, hd⟩
      simp only [Bool.not_false]
      unfold hasK
      rw [List.any_eq_true]
      exact ⟨x, h1, eqK_iff.2 h2⟩
    | true =>
      simp only [Bool.not_true]
      unfold hasK
      rw [List.any_eq_false]
      intro y hy hk
      obtain ⟨h1, h2⟩ := (gets_seen h key seq y).1 ⟨hy, eqK_iff.1 hk⟩
      rw [hg] at h1
      obtain rfl := Option.some.inj h1
      rw [hd] at h2; cases h2

set_option maxRecDepth 20000 in
set_option maxHeartbeats 6400000 in
theorem mergeGets_row (v : Value) (rs : List RowV) (key : ByteArray) (seq : Int) (W : World) (hr : Rd W rowE v rs) (hp : ∀ r ∈ rs, RowOk W r) (w1 : key.size ≤ 140737488351232) (w2 : (Lit.int .u64 seq).wf = true) :
    Calls Try.prog 7 #[v, .string key, .int .u64 seq] W fun e W' => e = .returned (.bool true) ∧ Below W.heap.size W W' := by
  obtain ⟨A, c, rfl, hm, hc⟩ := hr.form
  have hl : rs.length ≤ 9223372036854775807 := by simpa [maxLen] using hm
  have rH := hid hr
  have pH := hid hp
  clear hr hp w1 w2 hm
  go_enter Try.func7, Try.ntmps7
  go_wp2_with fail
  refine (awake_c _).mono ?_
  rintro e wa ⟨rfl, ka⟩
  have kaH := hid ka
  clear ka
  go_wp2_with fail
  refine (large_c _ rs _ (kaH.out.rd rH.out) (fun r hr => kaH.out.rd (pH.out r hr).1)).mono ?_
  intro e wb hb
  obtain ⟨b, rfl, kb, hs⟩ := hb
  have kbH := hid (kaH.out.trans kb)
  clear kb
  cases b with
  | true =>
    clear hs
    go_wp2_with fail
    go_ret
    exact ⟨rfl, below_kp kbH.out⟩
  | false =>
    have hlen : rs.length ≤ 30 := (hs rfl).1
    have htot : Hid (totR (listsOf rs) ≤ 300) := hid (hs rfl).2
    have hRdr : ∀ w', Kp W w' → RdR w' (.slice A rs.length c) rs := fun w' k => ⟨k.rd rH.out, fun r hr => k.rd (pH.out r hr).1, fun r hr => by
      have h1 := htot.out
      obtain ⟨i, hi⟩ := List.getElem?_of_mem hr
      have h2 := totR_take (rows := listsOf rs) (k := i) (r := r.l) (by simp [listsOf, hi])
      have h3 := totR_take_le (listsOf rs) (i + 1)
      omega⟩
    have hRH := hid hRdr
    clear hs hRdr
    by_cases hk3 : (300 : Int) < (key.size : Int)
    · go_wp2_with fail
      go_ret
      exact ⟨rfl, below_kp kbH.out⟩
    go_wp2_with fail
    refine (all_c _ rs _ (hRH.out _ kbH.out) (by omega) (by have := htot.out; omega)).mono ?_
    intro e wc hsay
    rcases bool_cases (goodR (listsOf rs)) with hg | hg
    · obtain ⟨v1, rfl, r1, k1⟩ := all_rd hsay hg
      obtain ⟨A1, c1, rfl, _, _⟩ := r1.form
      have r1H := hid r1
      have kcH := hid (kbH.out.trans k1)
      have hgH := hid hg
      have hal : Hid ((allP (listsOf rs)).length ≤ 1000000) := hid (by have := allP_len (listsOf rs); have := htot.out; omega)
      clear hsay hg r1 k1
      go_wp2_with fail
      refine (seen_c _ (allP (listsOf rs)) seq _ r1H.out hal.out).mono ?_
      rintro e wd ⟨vs, rfl, od, ed⟩
      have rs0 := sl_rd od
      obtain ⟨As, cs, rfl, hsm, _⟩ := rs0.form
      have rsH := hid rs0
      have kdH := hid (kcH.out.trans (kp_of1 od ed))
      have he : errP (allP (listsOf rs)) = 0 := if_pos (rowB_iff.2 (allP_row hgH.out))
      rw [he]
      have hsl : (seenP (allP (listsOf rs)) seq).length ≤ 9223372036854775807 := by simpa [maxLen] using hsm
      clear od ed he rs0 hsm
      go_wp2_with fail
      refine (get_c _ rs key seq _ (hRH.out _ kdH.out)).mono ?_
      rintro e we ⟨rfl, ke⟩
      have hend := hid (gets_end hgH.out key seq)
      have hmid := hid (fun y => gets_seen hgH.out key seq y)
      have rsH2 := hid (ke.rd rsH.out)
      have keH := hid (kdH.out.trans ke)
      clear ke
      generalize seenP (allP (listsOf rs)) seq = s at *
      generalize getP (listsOf rs) key seq = g at *
      obtain ⟨X, hX⟩ : ∃ X, bestV g = X := ⟨_, rfl⟩
      rw [hX] at hend ⊢
      have hXH := hid hX
      clear hX
      obtain ⟨xk, xn, xd, xv⟩ := X
      unfold entV
      go_wp2_with fail
      go_loopw [13, 49] (fun f i wr => ∃ k : Nat, i = .int .i64 k ∧ k ≤ s.length ∧ f = .bool (hasK key (s.take k)) ∧ Kp (we.alloc (.cells #[.string xk, .int .u64 xn, .bool xd, .string xv] 31 (0, 0))) wr) (fun _ i _ => s.length - (intOf i).toNat)
      case atStart => exact ⟨0, rfl, Nat.zero_le _, rfl, Kp.refl _⟩
      case round =>
        obtain ⟨k, rfl, hk, rfl, kr⟩ := hrel
        have krH := hid kr
        have c0 := kr.cell (p := ⟨we.heap.size, 0, none⟩) (v := .string xk) (by simp)
        have c1 := kr.cell (p := ⟨we.heap.size, 1, none⟩) (v := .int .u64 xn) (by simp)
        have c2 := kr.cell (p := ⟨we.heap.size, 2, none⟩) (v := .bool xd) (by simp)
        have c3 := kr.cell (p := ⟨we.heap.size, 3, none⟩) (v := .string xv) (by simp)
        have hbl := World.block_lt_of_cell? wr _ c0
        clear kr
        by_cases hlt : k < s.length
        · obtain ⟨y, hy⟩ : ∃ y, s[k]? = some y := ⟨_, List.getElem?_eq_getElem hlt⟩
          obtain ⟨g3, off3, rfl, _, hce⟩ := rd_ent ((((Kp.refl we).alloc _).trans krH.out).rd rsH2.out) rfl hy
          obtain ⟨a0, a1, a2, a3⟩ := hce _ _ hy
          have hyH := hid hy
          have hstep := hid (hasK_take (key := key) hy)
          clear hce hy
          by_cases hkey : y.key = key
          · have hgy := ((hmid.out y).1 ⟨List.mem_of_getElem? hyH.out, hkey⟩).1
            have hyX : y = ⟨xk, xn, xd, xv⟩ := by rw [← hXH.out, hgy]; rfl
            subst hyX
            have hkey' : xk = key := hkey
            subst hkey'
            have hne : ∀ w : World, (binOp .neq 31 (.agg #[.string xk, .int .u64 xn, .bool xd, .string xv]) (.agg #[.string xk, .int .u64 xn, .bool xd, .string xv])).run Try.prog w = .ok (.bool false) w := ent_neq ⟨xk, xn, xd, xv⟩
            clear hgy hkey
            dsimp only at a0 a1 a2 a3
            go_wp2_with fail
            go_roundw
            case rel => exact ⟨k + 1, by go_num, by omega, by rw [hstep.out, eqK_iff.2 rfl, Bool.or_true], krH.out.alloc _⟩
            case measure => simp [intOf]; omega
          · have g3' : (y.key.toList == key.toList) = false := eqK_false.2 hkey
            have hkF := hid (eqK_false.2 hkey)
            clear hkey
            go_wp2_with fail
            go_roundw
            case rel => exact ⟨k + 1, by go_num, by omega, by rw [hstep.out, hkF.out, Bool.or_false], krH.out.alloc _⟩
            case measure => simp [intOf]; omega
        · obtain rfl : k = s.length := by omega
          have hfin : hasK key (s.take s.length) = (g.isSome && !xd) := by rw [List.take_length]; exact hend.out
          rw [hfin]
          have kall := hid (keH.out.trans (((Kp.refl we).alloc _).trans krH.out))
          cases hgs : g.isSome with
          | false =>
            simp only [Bool.false_and]
            go_wp2_with fail
            go_ret
            exact ⟨rfl, below_kp kall.out⟩
          | true =>
            cases xd with
            | false =>
              simp only [Bool.true_and, Bool.not_false]
              go_wp2_with fail
              go_ret
              exact ⟨rfl, below_kp kall.out⟩
            | true =>
              simp only [Bool.true_and, Bool.not_true]
              go_wp2_with fail
              go_ret
              exact ⟨rfl, below_kp kall.out⟩
    · obtain ⟨rfl, k1⟩ := all_bad hsay hg
      have kcH := hid (kbH.out.trans k1)
      clear hsay hg k1
      go_wp2_with fail
      go_ret
      exact ⟨rfl, below_kp kcH.out⟩
end Go.Proofs.Ytihbflmjgndfiaa
