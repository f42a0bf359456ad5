/- The walk of MergeHas. -/
import Derived.Test.YtihbflmjgndfiaaMNew
import Derived.Test.YtihbflmjgndfiaaHasB
namespace Go.Proofs.Ytihbflmjgndfiaa
open Go.RowKit Go.Sl Go.Scree Go.Maps

def preL (rs : List RowV) (i : Nat) : List Ent := ((listsOf rs).take i).flatten
theorem preL_next {rs : List RowV} {i : Nat} {r : RowV} (h : rs[i]? = some r) : preL rs (i + 1) = preL rs i ++ r.l := by
  have h2 : (listsOf rs)[i]? = some r.l := by simp [listsOf, h]
  obtain ⟨hk, e⟩ := List.getElem?_eq_some_iff.1 h2
  unfold preL
  rw [List.take_succ_eq_append_getElem hk, e, List.flatten_append]; simp
theorem preL_all (rs : List RowV) : preL rs rs.length = (listsOf rs).flatten := by
  unfold preL; rw [List.take_of_length_le (by simp [listsOf])]
theorem take_snoc {α : Type} {l : List α} {j : Nat} {x : α} (h : l[j]? = some x) : l.take (j + 1) = l.take j ++ [x] := by
  obtain ⟨hk, rfl⟩ := List.getElem?_eq_some_iff.1 h
  exact List.take_succ_eq_append_getElem hk

set_option maxRecDepth 20000 in
set_option maxHeartbeats 12800000 in
theorem mergeHas_row (v : Value) (rs : List RowV) (W : World) (hr : Rd W rowE v rs) (hp : ∀ r ∈ rs, RowOz W r) :
    Calls Try.prog 5 #[v] W fun e W' => e = .returned (.bool true) ∧ Below W.heap.size W W' := by
  have hmm := @run_makeMap Try.prog
  obtain ⟨A, c, rfl, hm, _⟩ := hr.form
  have hl : rs.length ≤ 9223372036854775807 := by simpa [maxLen] using hm
  have rH := hid hr
  have pH := hid hp
  clear hr hp hm
  go_enter Try.func5, Try.ntmps5
  go_wp2_with fail
  refine (awake_c _).mono ?_
  rintro e wa ⟨rfl, ka⟩
  have kaH := hid ka
  clear ka
  go_wp2_with fail
  refine (large_c _ rs _ (kaH.out.rd rH.out) (fun r hr => kaH.out.rd (pH.out r hr).1)).mono ?_
  intro e wb hb
  obtain ⟨b, rfl, kb, hs⟩ := hb
  have kbH := hid (kaH.out.trans kb)
  clear kb
  cases b with
  | true =>
    clear hs
    go_wp2_with fail
    go_ret
    exact ⟨rfl, below_kp kbH.out⟩
  | false =>
    have hlen : rs.length ≤ 30 := (hs rfl).1
    have htot : Hid (totR (listsOf rs) ≤ 300) := hid (hs rfl).2
    have hsml : ∀ r ∈ rs, r.l.length ≤ 300 := fun r hr => by
      have h1 := htot.out
      obtain ⟨i, hi⟩ := List.getElem?_of_mem hr
      have h2 := totR_take (rows := listsOf rs) (k := i) (r := r.l) (by simp [listsOf, hi])
      have h3 := totR_take_le (listsOf rs) (i + 1)
      omega
    have hsmH := hid hsml
    have hRdr : ∀ w', Kp W w' → RdR w' (.slice A rs.length c) rs := fun w' k => ⟨k.rd rH.out, fun r hr => k.rd (pH.out r hr).1, fun r hr => by have := hsmH.out r hr; omega⟩
    have hRH := hid hRdr
    clear hs hRdr hsml
    go_wp2_with fail
    refine (all_c _ rs _ (hRH.out _ kbH.out) (by omega) (by have := htot.out; omega)).mono ?_
    intro e wc hsay
    rcases bool_cases (goodR (listsOf rs)) with hg | hg
    · obtain ⟨v1, rfl, r1, k1⟩ := all_rd hsay hg
      obtain ⟨A1, c1, rfl, hal, _⟩ := r1.form
      have hal' : (allP (listsOf rs)).length ≤ 9223372036854775807 := by simpa [maxLen] using hal
      have r1H := hid r1
      have kcH := hid (kbH.out.trans k1)
      have hgH := hid hg
      have hmem := hid (fun x (hx : x ∈ allP (listsOf rs)) => (allP_mem hgH.out x).1 hx)
      have hfold : Hid (allP (listsOf rs) = (listsOf rs).flatten.foldl withE []) := hid rfl
      clear hsay hg r1 k1 hal
      generalize allP (listsOf rs) = al at *
      obtain ⟨hm0, om⟩ := map_made (P := Try.prog) (k := 42) (R := RE) (Own.start wc)
      have omH := hid om
      have hm0H := hid hm0
      clear om hm0
      go_wp2_with fail
      go_loopw [27] (fun iv wr => ∃ (i : Nat) (es : Array MapEntry) (clk : Nat) (D : DataW Unit), iv = .int .i64 i ∧ i ≤ rs.length ∧ HasD D (preL rs i) ∧ HMap es clk (300 * i) D ∧ Own wr [pts wc.heap.size (.map es clk), base wc wc.heap.size] ∧ Ext wc wr) (fun iv _ => rs.length - (intOf iv).toNat)
      case atStart => exact ⟨0, _, _, _, rfl, Nat.zero_le _, HasD.start, hm0H.out, omH.out, (Ext.refl wc).alloc _⟩
      case round =>
        obtain ⟨i, es, clk, D, rfl, hi, hD, hM, ok, ek⟩ := hrel
        have okH := hid ok
        have hDH := hid hD
        have hMH := hid hM
        clear ok hD hM
        by_cases hlt : i < rs.length
        · obtain ⟨r, hx⟩ : ∃ r, rs[i]? = some r := ⟨_, List.getElem?_eq_getElem hlt⟩
          have kw := hid (kcH.out.trans (kp_of1 okH.out ek))
          obtain ⟨g, off, rfl, _, hcell, hgl⟩ := (hRH.out _ kw.out).at hx
          have hrmem := List.mem_of_getElem? hx
          have hrd := hid ((pH.out r hrmem).1)
          have hrz := hid ((pH.out r hrmem).2)
          have hr3 := hsmH.out r hrmem
          have hnext := hid (preL_next hx)
          have hnl := hid (Rdr_len hrd.out)
          clear hx hrmem
          obtain ⟨rA, rn, rc, rl⟩ := r
          dsimp only at hrd hrz hr3 hnext hnl hcell
          obtain rfl : rn = rl.length := hnl.out
          go_wp2_with fail
          go_loopw [35] (fun jv wr => ∃ (j : Nat) (es : Array MapEntry) (clk : Nat) (D : DataW Unit), jv = .int .i64 j ∧ j ≤ rl.length ∧ HasD D (preL rs i ++ rl.take j) ∧ HMap es clk (300 * i + j) D ∧ Own wr [pts wc.heap.size (.map es clk), base wc wc.heap.size] ∧ Ext wc wr) (fun jv _ => rl.length - (intOf jv).toNat)
          case atStart => exact ⟨0, es, clk, D, rfl, Nat.zero_le _, by rw [List.take_zero, List.append_nil]; exact hDH.out, hMH.out, okH.out, ek⟩
          case round =>
            obtain ⟨j, es2, clk2, D2, rfl, hj, hD2, hM2, ok2, ek2⟩ := hrel
            have ok2H := hid ok2
            have hD2H := hid hD2
            have hM2H := hid hM2
            clear ok2 hD2 hM2
            by_cases hjl : j < rl.length
            · obtain ⟨x, hx⟩ : ∃ x, rl[j]? = some x := ⟨_, List.getElem?_eq_getElem hjl⟩
              have kw2 := hid (kcH.out.trans (kp_of1 ok2H.out ek2))
              obtain ⟨g3, off3, rfl, _, hce⟩ := rd_ent (kw2.out.rd hrd.out) rfl hx
              obtain ⟨a0, a1, a2, a3⟩ := hce _ _ hx
              have hxz := hid (hrz.out x (List.mem_of_getElem? hx))
              have hsn := hid (take_snoc hx)
              clear hce hx
              have ob := hid (ok2H.out.allocd (x := .cells #[.string x.key, .int .u64 x.seq, .bool x.del, .string x.val] 31 (0, 0)))
              obtain ⟨y, hlk⟩ := look_has ob.out hM2H.out hD2H.out hxz.out
              rcases bool_cases ((preL rs i ++ rl.take j).any fun y => sameB y x) with hany | hany
              · have hskip := hid (hD2H.out.skip hxz.out hany)
                rw [hany] at hlk
                clear hany
                unfold idV entV at hlk
                go_wp2_with fail
                go_roundw
                case rel => exact ⟨j + 1, es2, clk2, D2, by go_num, by omega, by rw [hsn.out, ← List.append_assoc]; exact hskip.out, ⟨hM2H.out.1, by have := hM2H.out.2.1; omega, hM2H.out.2.2⟩, ob.out.allocd, (ek2.alloc _).alloc _⟩
                case measure => simp [intOf]; omega
              · have htidy := (own_map ob.out hM2H.out).tidy lawI
                have hpush := hid (hD2H.out.push htidy hxz.out hany)
                rw [hany] at hlk
                clear hany htidy
                unfold idV entV at hlk
                have hkey := hid (id_key x hxz.out.id.1 hxz.out.id.2)
                unfold idV at hkey
                have hval := hid (RE_ent x)
                unfold entV at hval
                have ob2 := hid (ob.out.allocd (x := .cells #[.string y.key, .int .u64 y.seq, .bool y.del, .string y.val] 31 (0, 0)))
                go_wp2_with (first | (at_mapUpdate; refine wpList_mapUpdate_own _ rfl _ _ _ 40 rfl 42 31 lawI Try.underlying40 RE wc.heap.size (300 * i + j) D2 rfl (own_map ob2.out hM2H.out) (by unfold maxLen; omega) _ _ _ rfl rfl hkey.out _ [] hval.out ?_; intro w5 hown5 hgrow5) | fail)
                obtain ⟨es5, clk5, hM5, o5⟩ := map_turn ob2.out hown5 hgrow5
                have e5 := hid (((ek2.alloc _).alloc _).trans (ext_grown hgrow5))
                have hM5H := hid hM5
                have o5H := hid o5
                clear hown5 hgrow5 hM5 o5
                go_wp2
                go_roundw
                case rel => exact ⟨j + 1, es5, clk5, _, by go_num, by omega, by rw [hsn.out, ← List.append_assoc]; exact hpush.out, hM5H.out, o5H.out, e5.out⟩
                case measure => simp [intOf]; omega
            · obtain rfl : j = rl.length := by omega
              have hD3 : Hid (HasD D2 (preL rs (i + 1))) := hid (by have := hD2H.out; rw [List.take_length] at this; rw [hnext.out]; exact this)
              go_wp2_with fail
              go_roundw
              case rel => exact ⟨i + 1, es2, clk2, D2, by go_num, by omega, hD3.out, ⟨hM2H.out.1, by have := hM2H.out.2.1; omega, hM2H.out.2.2⟩, ok2H.out, ek2⟩
              case measure => simp [intOf]; omega
        · obtain rfl : i = rs.length := by omega
          rw [preL_all] at hDH
          have hsz : Maps.size D = al.length := by rw [hfold.out]; exact hDH.out.size
          have hlenm : ∀ ty, (Builtin.len_ #[40] ty #[.map (some wc.heap.size)]).run Try.prog wr = .ok (.int .i64 (al.length : Nat)) wr := fun ty => by
            rw [← hsz]; exact (own_map okH.out hMH.out).len Try.underlying40 ty
          clear hsz
          have kwL := hid (kcH.out.trans (kp_of1 okH.out ek))
          have r1w := hid ((kp_of1 okH.out ek).rd r1H.out)
          obtain ⟨wL, hwL⟩ : ∃ wL, wL = wr := ⟨_, rfl⟩
          subst hwL
          go_wp2_with fail
          go_loopw [67] (fun iv wr => ∃ k : Nat, iv = .int .i64 k ∧ k ≤ al.length ∧ Kp wL wr) (fun iv _ => al.length - (intOf iv).toNat)
          case atStart => exact ⟨0, rfl, Nat.zero_le _, Kp.refl _⟩
          case round =>
            obtain ⟨k, rfl, hk2, kr⟩ := hrel
            have krH := hid kr
            clear kr
            by_cases hlt : k < al.length
            · obtain ⟨x, hx⟩ : ∃ x, al[k]? = some x := ⟨_, List.getElem?_eq_getElem hlt⟩
              obtain ⟨g, off, rfl, _, hce⟩ := rd_ent (krH.out.rd r1w.out) rfl hx
              obtain ⟨a0, a1, a2, a3⟩ := hce _ _ hx
              have hfx := hid (hmem.out x (List.mem_of_getElem? hx))
              clear hce hx
              have hlk : ∀ n, (Instr.lookup 40 (.map (some wc.heap.size)) (.agg #[.string x.key, .int .u64 x.seq]) false).run Try.prog ((wr.alloc (.cells #[.string x.key, .int .u64 x.seq, .bool x.del, .string x.val] 31 (0, 0))).drewN n) = .ok (.agg #[.string x.key, .int .u64 x.seq, .bool x.del, .string x.val]) ((wr.alloc (.cells #[.string x.key, .int .u64 x.seq, .bool x.del, .string x.val] 31 (0, 0))).drewN n) := fun n => by
                have := look_first (((krH.out.own okH.out).allocd (x := .cells #[.string x.key, .int .u64 x.seq, .bool x.del, .string x.val] 31 (0, 0))).drewN n) hMH.out hDH.out hfx.out
                exact this
              have hne : ∀ w : World, (binOp .neq 31 (.agg #[.string x.key, .int .u64 x.seq, .bool x.del, .string x.val]) (.agg #[.string x.key, .int .u64 x.seq, .bool x.del, .string x.val])).run Try.prog w = .ok (.bool false) w := ent_neq x
              go_wp2_with fail
              go_quiet (fail)
              go_wp2
              go_roundw
              case rel => exact ⟨k + 1, by go_num, by omega, (krH.out.alloc _).drewN nq⟩
              case measure => simp [intOf]; omega
            · have kall := hid (kwL.out.trans krH.out)
              go_wp2_with fail
              go_ret
              exact ⟨rfl, below_kp kall.out⟩
    · obtain ⟨rfl, k1⟩ := all_bad hsay hg
      have kcH := hid (kbH.out.trans k1)
      clear hsay hg k1
      go_wp2_with fail
      go_ret
      exact ⟨rfl, below_kp kcH.out⟩
end Go.Proofs.Ytihbflmjgndfiaa
