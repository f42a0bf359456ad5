/- The walk of MergeSeen. -/
import Derived.Test.YtihbflmjgndfiaaMNew
import Derived.Test.YtihbflmjgndfiaaEntQd
import Derived.Test.YtihbflmjgndfiaaEntOz
import Derived.Test.YtihbflmjgndfiaaSlMap
import Derived.Maps.OwnSet
namespace Go.Proofs.Ytihbflmjgndfiaa
open Go.RowKit Go.Sl Go.Scree Go.Maps
open Go.WideMaps (keyOf_string_mk)

theorem lawS : Keyed Try.prog 9 := string_keyed Try.underlying9
noncomputable abbrev RU : Value → Option (DataW Unit × List MemPlace) := plainElem Try.prog 23
def kLit (k : ByteArray) : Lit := .string k.data.toList
theorem kLit_ne {a b : ByteArray} (h : a ≠ b) : kLit a ≠ kLit b := by
  intro e
  apply h
  unfold kLit at e
  have := Lit.string.inj e
  cases a; cases b
  simp only [ByteArray.mk.injEq]
  exact Array.toList_inj.1 this
/-- The map's datum after these entries. -/
structure NewD (D : DataW Unit) (L : List Ent) : Prop where
  map : IsMap D
  has : ∀ k, Maps.has D (kLit k) = L.any fun y => eqK y.key k
  at_ : ∀ y ∈ L, ∀ z, D.atKey (kLit y.key) z = .lit (.int .u64 y.seq)
theorem NewD.start : NewD (.map []) [] := ⟨isMap_empty, fun k => rfl, fun y hy => by simp at hy⟩
theorem NewD.push {D : DataW Unit} {s : List Ent} {k : Nat} {x : Ent} (h : NewD D (s.take k)) (hr : Rising s) (hx : s[k]? = some x) : NewD (D.put (kLit x.key) (.lit (.int .u64 x.seq))) (s.take (k + 1)) := by
  have hn := rising_new hr hx
  obtain ⟨hk, e⟩ := List.getElem?_eq_some_iff.1 hx
  have ht : s.take (k + 1) = s.take k ++ [x] := by rw [List.take_succ_eq_append_getElem hk, e]
  rw [ht]
  have hkey : WideAt.IsKeyLit (kLit x.key) := trivial
  refine ⟨h.map.put _ _, fun q => ?_, fun y hy z => ?_⟩
  · rw [List.any_append]
    by_cases e : q = x.key
    · subst e
      rw [has_put_same h.map hkey]; simp [eqK_iff.2 rfl]
    · rw [has_put_other (kLit_ne e), h.has q]
      have : eqK x.key q = false := eqK_false.2 (fun h => e h.symm)
      simp [this]
  · rcases List.mem_append.1 hy with hy | hy
    · rw [atKey_put_other (kLit_ne (hn y hy))]; exact h.at_ y hy z
    · obtain rfl := List.mem_singleton.1 hy
      exact atKey_put_same h.map hkey _ _

theorem look_seen {w : World} {F : List Chunk} {b : Nat} {es : Array MapEntry} {clk n : Nat} {D : DataW Unit} {L : List Ent} (o : Own w (pts b (.map es clk) :: F)) (m : MapIs Try.prog 9 RU es clk n D) (hD : NewD D L) {k : ByteArray} (hk : k.size ≤ maxLen) :
    ∃ c : Int, (Instr.lookup 47 (.map (some b)) (.string k) true).run Try.prog w = .ok (.tuple #[.int .u64 c, .bool (L.any fun y => eqK y.key k)]) w ∧ ∀ y ∈ L, y.key = k → c = y.seq := by
  obtain ⟨v, ps, hrun, hv⟩ := (own_map o m).look_ok lawS Try.underlying47 (z := .int .u64 0) (by rfl) (plainElem_int Try.underlying23 (by decide)) (keyOf_string_mk Try.underlying9 hk)
  obtain ⟨c, rfl, hc, _⟩ := plainElem_int_inv Try.underlying23 hv
  refine ⟨c, ?_, fun y hy e => ?_⟩
  · rw [← hD.has k]; exact hrun
  · have h1 := hD.at_ y hy (.lit (.int .u64 0))
    rw [e] at h1
    have h2 := congrArg Prod.fst hc
    dsimp only at h2
    simp only [kLit] at h1 h2
    rw [h1] at h2
    cases h2; rfl

set_option maxRecDepth 20000 in
set_option maxHeartbeats 12800000 in
theorem mergeSeen_row (v : Value) (l : List Ent) (seq later : Int) (W : World) (hr : Rd W entE v l) (hp : ∀ x ∈ l, x.Wz) (w1 : (Lit.int .u64 seq).wf = true) (w2 : (Lit.int .u64 later).wf = true) :
    Calls Try.prog 9 #[v, .int .u64 seq, .int .u64 later] W fun e W' => e = .returned (.bool true) ∧ Below W.heap.size W W' := by
  have hmm := @run_makeMap Try.prog
  obtain ⟨A, c, rfl, _, _⟩ := hr.form
  have rH := hid hr
  have zH := hid hp
  clear hr hp w1 w2
  go_enter Try.func9, Try.ntmps9
  go_wp2_with fail
  refine (awake_c _).mono ?_
  rintro e wa ⟨rfl, ka⟩
  have kaH := hid ka
  clear ka
  go_wp2_with fail
  refine (large_c _ [⟨A, l.length, c, l⟩] _ (rd_new rfl rfl (by simp [maxLen]) rfl) (fun r hr => by rw [List.mem_singleton.1 hr]; exact (kaH.out.alloc _).rd rH.out)).mono ?_
  intro e wb hb
  obtain ⟨b, rfl, kb, hs⟩ := hb
  have kbH := hid ((kaH.out.alloc _).trans kb)
  clear kb
  cases b with
  | true =>
    clear hs
    go_wp2_with fail
    go_ret
    exact ⟨rfl, below_kp kbH.out⟩
  | false =>
    have hlen : l.length ≤ 1000000 := by
      have := (hs rfl).2
      simp [listsOf] at this; omega
    have hlenH := hid hlen
    clear hs hlen
    by_cases h1 : seq < later
    · have hle : Hid (seq ≤ later) := hid (by omega)
      go_wp2_with fail
      refine (seen_c _ l seq _ (kbH.out.rd rH.out) hlenH.out).mono ?_
      rintro e wc ⟨va, rfl, oa, ea⟩
      have ra := sl_rd oa
      obtain ⟨sa, hsa⟩ : ∃ s, s = seenP l seq := ⟨_, rfl⟩
      rw [← hsa] at ra
      have hsaH := hid hsa
      clear hsa
      obtain ⟨Aa, ca, rfl, hla, _⟩ := ra.form
      have raH := hid ra
      have kac := hid (kp_of1 oa ea)
      have kcH := hid (kbH.out.trans kac.out)
      clear oa ea ra
      go_wp2_with fail
      refine (seen_c _ l later _ (kcH.out.rd rH.out) hlenH.out).mono ?_
      rintro e wd ⟨vb, rfl, ob, eb⟩
      have rb := sl_rd ob
      obtain ⟨sb, hsb⟩ : ∃ s, s = seenP l later := ⟨_, rfl⟩
      rw [← hsb] at rb
      have hsbH := hid hsb
      clear hsb
      obtain ⟨Ab, cb, rfl, hlb, _⟩ := rb.form
      have rbH := hid rb
      have kbd := hid (kp_of1 ob eb)
      have kdH := hid (kcH.out.trans kbd.out)
      clear ob eb rb
      rcases bool_cases (rowB l) with hrow | hrow
      · have he : errP l = 0 := if_pos hrow
        have hrowH := hid (rowB_iff.1 hrow)
        rw [he]
        clear he hrow
        have raD := hid (kbd.out.rd raH.out)
        have hla' : sa.length ≤ 9223372036854775807 := by simpa [maxLen] using hla
        have hlb' : sb.length ≤ 9223372036854775807 := by simpa [maxLen] using hlb
        have gB : Hid (∀ y ∈ sb, y.del = false ∧ y.seq ≤ later) := hid (by rw [hsbH.out]; exact seenP_good hrowH.out)
        have gA : Hid (∀ y ∈ sa, y.del = false ∧ y.seq ≤ seq) := hid (by rw [hsaH.out]; exact seenP_good hrowH.out)
        have iB : Hid (Rising sb) := hid (by rw [hsbH.out]; exact seenP_rising hrowH.out)
        have iA : Hid (Rising sa) := hid (by rw [hsaH.out]; exact seenP_rising hrowH.out)
        have mB : Hid (∀ x ∈ sb, x.Wz) := hid (fun x h => zH.out x (seenP_mem (by rw [hsbH.out] at h; exact h)))
        have mA : Hid (∀ x ∈ sa, x.Wz) := hid (fun x h => zH.out x (seenP_mem (by rw [hsaH.out] at h; exact h)))
        have hlat : Hid (∀ x y, x ∈ sa → y ∈ sb → y.key = x.key → x.seq ≤ y.seq) := hid (fun x y hx hy => seen_later hrowH.out hle.out (by rw [hsaH.out] at hx; exact hx) (by rw [hsbH.out] at hy; exact hy))
        have hlB : Hid (sb.length ≤ 1000000) := hid (by rw [hsbH.out]; exact Nat.le_trans (seen_len l later) hlenH.out)
        clear hla hlb raH hsaH hsbH
        obtain ⟨hm0, om⟩ := map_made (P := Try.prog) (k := 9) (R := RU) (Own.start wd)
        have omH := hid om
        have hm0H := hid hm0
        clear om hm0
        go_wp2_with fail
        go_loopw [52] (fun i wr => ∃ (k : Nat) (es : Array MapEntry) (clk : Nat) (D : DataW Unit), i = .int .i64 k ∧ k ≤ sb.length ∧ NewD D (sb.take k) ∧ MapIs Try.prog 9 RU es clk k D ∧ Own wr [pts wd.heap.size (.map es clk), base wd wd.heap.size] ∧ Ext wd wr) (fun i _ => sb.length - (intOf i).toNat)
        case atStart => exact ⟨0, _, _, _, rfl, Nat.zero_le _, NewD.start, hm0H.out, omH.out, (Ext.refl wd).alloc _⟩
        case round =>
          obtain ⟨k, es, clk, D, rfl, hk, hD, hM, ok, ek⟩ := hrel
          have okH := hid ok
          have hDH := hid hD
          have hMH := hid hM
          clear ok hD hM
          by_cases hlt : k < sb.length
          · obtain ⟨x, hx⟩ : ∃ x, sb[k]? = some x := ⟨_, List.getElem?_eq_getElem hlt⟩
            obtain ⟨g, off, rfl, _, hce⟩ := rd_ent ((kp_of1 okH.out ek).rd rbH.out) rfl hx
            obtain ⟨a0, a1, a2, a3⟩ := hce _ _ hx
            obtain ⟨hxd, hxn⟩ := gB.out x (List.mem_of_getElem? hx)
            obtain ⟨hxw, hxz, _⟩ := mB.out x (List.mem_of_getElem? hx)
            have hxH := hid hx
            have hpush := hid (hDH.out.push iB.out hx)
            obtain ⟨xk, xn, xd, xv⟩ := x
            dsimp only at hxd hxn hxw hxz a0 a1 a2 a3
            subst hxd
            have hb1 : decide (later < xn) = false := by simp; omega
            have hxwH := hid hxw
            have hxzH := hid hxz
            clear hxn hxw hxz
            by_cases h0 : k = 0
            · have hg1 : decide (0 < k) = false := by simp [h0]
              have hg2 : decide ((0 : Int) < (k : Int)) = false := by simp [h0]
              clear hce hx h0
              go_wp2_with fail
              go_quiet (fail)
              have ob := okH.out.allocd (x := (.cells #[.string xk, .int .u64 xn, .bool false, .string xv] 31 (0, 0))) |>.drewN nq
              go_wp2_with (first | (at_mapUpdate; refine wpList_mapUpdate_own _ rfl _ _ _ 47 rfl 9 23 lawS Try.underlying47 RU wd.heap.size k D rfl (own_map ob hMH.out) (by have := hlB.out; unfold maxLen; omega) _ _ _ rfl rfl (keyOf_string_mk Try.underlying9 hxzH.out) _ [] (plainElem_int Try.underlying23 hxwH.out) ?_; intro w5 hown5 hgrow5) | fail)
              obtain ⟨es5, clk5, hM5, o5⟩ := map_turn ob hown5 hgrow5
              have e5 := hid (((ek.alloc _).drewN nq).trans (ext_grown hgrow5))
              have hM5H := hid hM5
              have o5H := hid o5
              clear ob hown5 hgrow5 hM5 o5
              go_wp2
              go_roundw
              case rel => exact ⟨k + 1, es5, clk5, _, by go_num, by omega, hpush.out, hM5H.out, o5H.out, e5.out⟩
              case measure => simp [intOf]; omega
            · obtain ⟨y, hy⟩ : ∃ y, sb[k - 1]? = some y := ⟨_, List.getElem?_eq_getElem (by omega)⟩
              obtain ⟨b0, b1, b2, b3⟩ := hce _ _ hy
              obtain ⟨j, hj⟩ : ∃ j, k - 1 = j := ⟨_, rfl⟩
              have hlt2 := rising_adj iB.out (i := j) (by rw [← hj]; exact hy) (by rw [show j + 1 = k from by omega]; exact hx)
              rw [hj] at b0 b1 b2 b3
              have hw1 : IntKind.i64.wrap ((k : Int) - 1) = (j : Int) := by rw [IntWalk.i64_in _ (by omega)]; omega
              have hjl : j < sb.length := by omega
              have hg1 : decide (0 < k) = true := by simp; omega
              have hg2 : decide ((0 : Int) < (k : Int)) = true := by simp; omega
              obtain ⟨yk, yn, yd, yv⟩ := y
              have hgl : g < wr.heap.size := World.block_lt_of_cell? wr _ b0
              have g2 : Op.bytesLess yk.toList xk.toList = true := (less_ltK _ _).trans hlt2
              clear hce hx hy hj b1 b2 b3 hlt2
              go_wp2_with fail
              go_quiet (fail)
              have ob := okH.out.allocd (x := (.cells #[.string xk, .int .u64 xn, .bool false, .string xv] 31 (0, 0))) |>.drewN nq
              go_wp2_with (first | (at_mapUpdate; refine wpList_mapUpdate_own _ rfl _ _ _ 47 rfl 9 23 lawS Try.underlying47 RU wd.heap.size k D rfl (own_map ob hMH.out) (by have := hlB.out; unfold maxLen; omega) _ _ _ rfl rfl (keyOf_string_mk Try.underlying9 hxzH.out) _ [] (plainElem_int Try.underlying23 hxwH.out) ?_; intro w5 hown5 hgrow5) | fail)
              obtain ⟨es5, clk5, hM5, o5⟩ := map_turn ob hown5 hgrow5
              have e5 := hid (((ek.alloc _).drewN nq).trans (ext_grown hgrow5))
              have hM5H := hid hM5
              have o5H := hid o5
              clear ob hown5 hgrow5 hM5 o5
              go_wp2
              go_roundw
              case rel => exact ⟨k + 1, es5, clk5, _, by go_num, by omega, hpush.out, hM5H.out, o5H.out, e5.out⟩
              case measure => simp [intOf]; omega
          · obtain rfl : k = sb.length := by omega
            rw [List.take_length] at hDH
            have rA2 := hid ((kp_of1 okH.out ek).rd raD.out)
            have kWr := hid (kdH.out.trans (kp_of1 okH.out ek))
            obtain ⟨wL, hwL⟩ : ∃ wL, wL = wr := ⟨_, rfl⟩
            subst hwL
            go_wp2_with fail
            go_loopw [90] (fun i wr => ∃ k : Nat, i = .int .i64 k ∧ k ≤ sa.length ∧ Kp wL wr) (fun i _ => sa.length - (intOf i).toNat)
            case atStart => exact ⟨0, rfl, Nat.zero_le _, Kp.refl _⟩
            case round =>
              obtain ⟨k, rfl, hk2, kr⟩ := hrel
              have krH := hid kr
              clear kr
              by_cases hlt : k < sa.length
              · obtain ⟨x, hx⟩ : ∃ x, sa[k]? = some x := ⟨_, List.getElem?_eq_getElem hlt⟩
                obtain ⟨g, off, rfl, _, hce⟩ := rd_ent (krH.out.rd rA2.out) rfl hx
                obtain ⟨a0, a1, a2, a3⟩ := hce _ _ hx
                have hxm := hid (List.mem_of_getElem? hx)
                obtain ⟨hxd, hxn⟩ := gA.out x hxm.out
                obtain ⟨_, hxz, _⟩ := mA.out x hxm.out
                obtain ⟨xk, xn, xd, xv⟩ := x
                dsimp only at hxd hxn hxz a0 a1 a2 a3
                subst hxd
                have hb1 : decide (seq < xn) = false := by simp; omega
                have hxzH := hid hxz
                clear hxn hxz
                by_cases h0 : k = 0
                · have hg1 : decide (0 < k) = false := by simp [h0]
                  have hg2 : decide ((0 : Int) < (k : Int)) = false := by simp [h0]
                  clear hce hx h0
                  go_wp2_with fail
                  go_quiet (fail)
                  have oz := krH.out.own okH.out
                  obtain ⟨cv, hlk, hcv⟩ := look_seen (oz.allocd (x := (.cells #[.string xk, .int .u64 xn, .bool false, .string xv] 31 (0, 0))) |>.drewN nq) hMH.out hDH.out hxzH.out
                  have hcvH := hid hcv
                  clear oz hcv
                  rcases bool_cases (sb.any fun y => eqK y.key xk) with hany | hany
                  · have hc2 : decide (cv < xn) = false := by
                      obtain ⟨y, hy, hyk⟩ := List.any_eq_true.1 hany
                      have hyk' := eqK_iff.1 hyk
                      have h1 := hcvH.out y hy hyk'
                      have h2 := hlat.out _ y hxm.out hy hyk'
                      simp only [decide_eq_false_iff_not]
                      dsimp only at h2
                      omega
                    rw [hany] at hlk
                    clear hany
                    go_wp2_with fail
                    go_roundw
                    case rel => exact ⟨k + 1, by go_num, by omega, (krH.out.alloc _).drewN nq⟩
                    case measure => simp [intOf]; omega
                  · rw [hany] at hlk
                    clear hany
                    go_wp2_with fail
                    go_roundw
                    case rel => exact ⟨k + 1, by go_num, by omega, (krH.out.alloc _).drewN nq⟩
                    case measure => simp [intOf]; omega
                · obtain ⟨y, hy⟩ : ∃ y, sa[k - 1]? = some y := ⟨_, List.getElem?_eq_getElem (by omega)⟩
                  obtain ⟨b0, b1, b2, b3⟩ := hce _ _ hy
                  obtain ⟨j, hj⟩ : ∃ j, k - 1 = j := ⟨_, rfl⟩
                  have hlt2 := rising_adj iA.out (i := j) (by rw [← hj]; exact hy) (by rw [show j + 1 = k from by omega]; exact hx)
                  rw [hj] at b0 b1 b2 b3
                  have hw1 : IntKind.i64.wrap ((k : Int) - 1) = (j : Int) := by rw [IntWalk.i64_in _ (by omega)]; omega
                  have hjl : j < sa.length := by omega
                  have hg1 : decide (0 < k) = true := by simp; omega
                  have hg2 : decide ((0 : Int) < (k : Int)) = true := by simp; omega
                  obtain ⟨yk, yn, yd, yv⟩ := y
                  have hgl : g < wr.heap.size := World.block_lt_of_cell? wr _ b0
                  have g2 : Op.bytesLess yk.toList xk.toList = true := (less_ltK _ _).trans hlt2
                  clear hce hx hy hj b1 b2 b3 hlt2
                  go_wp2_with fail
                  go_quiet (fail)
                  have oz := krH.out.own okH.out
                  obtain ⟨cv, hlk, hcv⟩ := look_seen (oz.allocd (x := (.cells #[.string xk, .int .u64 xn, .bool false, .string xv] 31 (0, 0))) |>.drewN nq) hMH.out hDH.out hxzH.out
                  have hcvH := hid hcv
                  clear oz hcv
                  rcases bool_cases (sb.any fun y => eqK y.key xk) with hany | hany
                  · have hc2 : decide (cv < xn) = false := by
                      obtain ⟨y, hy, hyk⟩ := List.any_eq_true.1 hany
                      have hyk' := eqK_iff.1 hyk
                      have h1 := hcvH.out y hy hyk'
                      have h2 := hlat.out _ y hxm.out hy hyk'
                      simp only [decide_eq_false_iff_not]
                      dsimp only at h2
                      omega
                    rw [hany] at hlk
                    clear hany
                    go_wp2_with fail
                    go_roundw
                    case rel => exact ⟨k + 1, by go_num, by omega, (krH.out.alloc _).drewN nq⟩
                    case measure => simp [intOf]; omega
                  · rw [hany] at hlk
                    clear hany
                    go_wp2_with fail
                    go_roundw
                    case rel => exact ⟨k + 1, by go_num, by omega, (krH.out.alloc _).drewN nq⟩
                    case measure => simp [intOf]; omega
              · have kall := hid (kWr.out.trans krH.out)
                go_wp2_with fail
                go_ret
                exact ⟨rfl, below_kp kall.out⟩
      · have he : errP l = 2 := if_neg (by rw [hrow]; simp)
        rw [he]
        have hsa : sa = [] := by rw [hsaH.out]; exact if_neg (by rw [hrow]; simp)
        subst hsa
        clear he
        simp only [List.length_nil]
        go_wp2_with fail
        go_ret
        exact ⟨rfl, below_kp kdH.out⟩
    · by_cases h2 : later < seq
      · have hle : Hid (later ≤ seq) := hid (by omega)
        go_wp2_with fail
        refine (seen_c _ l later _ (kbH.out.rd rH.out) hlenH.out).mono ?_
        rintro e wc ⟨va, rfl, oa, ea⟩
        have ra := sl_rd oa
        obtain ⟨sa, hsa⟩ : ∃ s, s = seenP l later := ⟨_, rfl⟩
        rw [← hsa] at ra
        have hsaH := hid hsa
        clear hsa
        obtain ⟨Aa, ca, rfl, hla, _⟩ := ra.form
        have raH := hid ra
        have kac := hid (kp_of1 oa ea)
        have kcH := hid (kbH.out.trans kac.out)
        clear oa ea ra
        go_wp2_with fail
        refine (seen_c _ l seq _ (kcH.out.rd rH.out) hlenH.out).mono ?_
        rintro e wd ⟨vb, rfl, ob, eb⟩
        have rb := sl_rd ob
        obtain ⟨sb, hsb⟩ : ∃ s, s = seenP l seq := ⟨_, rfl⟩
        rw [← hsb] at rb
        have hsbH := hid hsb
        clear hsb
        obtain ⟨Ab, cb, rfl, hlb, _⟩ := rb.form
        have rbH := hid rb
        have kbd := hid (kp_of1 ob eb)
        have kdH := hid (kcH.out.trans kbd.out)
        clear ob eb rb
        rcases bool_cases (rowB l) with hrow | hrow
        · have he : errP l = 0 := if_pos hrow
          have hrowH := hid (rowB_iff.1 hrow)
          rw [he]
          clear he hrow
          have raD := hid (kbd.out.rd raH.out)
          have hla' : sa.length ≤ 9223372036854775807 := by simpa [maxLen] using hla
          have hlb' : sb.length ≤ 9223372036854775807 := by simpa [maxLen] using hlb
          have gB : Hid (∀ y ∈ sb, y.del = false ∧ y.seq ≤ seq) := hid (by rw [hsbH.out]; exact seenP_good hrowH.out)
          have gA : Hid (∀ y ∈ sa, y.del = false ∧ y.seq ≤ later) := hid (by rw [hsaH.out]; exact seenP_good hrowH.out)
          have iB : Hid (Rising sb) := hid (by rw [hsbH.out]; exact seenP_rising hrowH.out)
          have iA : Hid (Rising sa) := hid (by rw [hsaH.out]; exact seenP_rising hrowH.out)
          have mB : Hid (∀ x ∈ sb, x.Wz) := hid (fun x h => zH.out x (seenP_mem (by rw [hsbH.out] at h; exact h)))
          have mA : Hid (∀ x ∈ sa, x.Wz) := hid (fun x h => zH.out x (seenP_mem (by rw [hsaH.out] at h; exact h)))
          have hlat : Hid (∀ x y, x ∈ sa → y ∈ sb → y.key = x.key → x.seq ≤ y.seq) := hid (fun x y hx hy => seen_later hrowH.out hle.out (by rw [hsaH.out] at hx; exact hx) (by rw [hsbH.out] at hy; exact hy))
          have hlB : Hid (sb.length ≤ 1000000) := hid (by rw [hsbH.out]; exact Nat.le_trans (seen_len l seq) hlenH.out)
          clear hla hlb raH hsaH hsbH
          obtain ⟨hm0, om⟩ := map_made (P := Try.prog) (k := 9) (R := RU) (Own.start wd)
          have omH := hid om
          have hm0H := hid hm0
          clear om hm0
          go_wp2_with fail
          go_loopw [52] (fun i wr => ∃ (k : Nat) (es : Array MapEntry) (clk : Nat) (D : DataW Unit), i = .int .i64 k ∧ k ≤ sb.length ∧ NewD D (sb.take k) ∧ MapIs Try.prog 9 RU es clk k D ∧ Own wr [pts wd.heap.size (.map es clk), base wd wd.heap.size] ∧ Ext wd wr) (fun i _ => sb.length - (intOf i).toNat)
          case atStart => exact ⟨0, _, _, _, rfl, Nat.zero_le _, NewD.start, hm0H.out, omH.out, (Ext.refl wd).alloc _⟩
          case round =>
            obtain ⟨k, es, clk, D, rfl, hk, hD, hM, ok, ek⟩ := hrel
            have okH := hid ok
            have hDH := hid hD
            have hMH := hid hM
            clear ok hD hM
            by_cases hlt : k < sb.length
            · obtain ⟨x, hx⟩ : ∃ x, sb[k]? = some x := ⟨_, List.getElem?_eq_getElem hlt⟩
              obtain ⟨g, off, rfl, _, hce⟩ := rd_ent ((kp_of1 okH.out ek).rd rbH.out) rfl hx
              obtain ⟨a0, a1, a2, a3⟩ := hce _ _ hx
              obtain ⟨hxd, hxn⟩ := gB.out x (List.mem_of_getElem? hx)
              obtain ⟨hxw, hxz, _⟩ := mB.out x (List.mem_of_getElem? hx)
              have hxH := hid hx
              have hpush := hid (hDH.out.push iB.out hx)
              obtain ⟨xk, xn, xd, xv⟩ := x
              dsimp only at hxd hxn hxw hxz a0 a1 a2 a3
              subst hxd
              have hb1 : decide (seq < xn) = false := by simp; omega
              have hxwH := hid hxw
              have hxzH := hid hxz
              clear hxn hxw hxz
              by_cases h0 : k = 0
              · have hg1 : decide (0 < k) = false := by simp [h0]
                have hg2 : decide ((0 : Int) < (k : Int)) = false := by simp [h0]
                clear hce hx h0
                go_wp2_with fail
                go_quiet (fail)
                have ob := okH.out.allocd (x := (.cells #[.string xk, .int .u64 xn, .bool false, .string xv] 31 (0, 0))) |>.drewN nq
                go_wp2_with (first | (at_mapUpdate; refine wpList_mapUpdate_own _ rfl _ _ _ 47 rfl 9 23 lawS Try.underlying47 RU wd.heap.size k D rfl (own_map ob hMH.out) (by have := hlB.out; unfold maxLen; omega) _ _ _ rfl rfl (keyOf_string_mk Try.underlying9 hxzH.out) _ [] (plainElem_int Try.underlying23 hxwH.out) ?_; intro w5 hown5 hgrow5) | fail)
                obtain ⟨es5, clk5, hM5, o5⟩ := map_turn ob hown5 hgrow5
                have e5 := hid (((ek.alloc _).drewN nq).trans (ext_grown hgrow5))
                have hM5H := hid hM5
                have o5H := hid o5
                clear ob hown5 hgrow5 hM5 o5
                go_wp2
                go_roundw
                case rel => exact ⟨k + 1, es5, clk5, _, by go_num, by omega, hpush.out, hM5H.out, o5H.out, e5.out⟩
                case measure => simp [intOf]; omega
              · obtain ⟨y, hy⟩ : ∃ y, sb[k - 1]? = some y := ⟨_, List.getElem?_eq_getElem (by omega)⟩
                obtain ⟨b0, b1, b2, b3⟩ := hce _ _ hy
                obtain ⟨j, hj⟩ : ∃ j, k - 1 = j := ⟨_, rfl⟩
                have hlt2 := rising_adj iB.out (i := j) (by rw [← hj]; exact hy) (by rw [show j + 1 = k from by omega]; exact hx)
                rw [hj] at b0 b1 b2 b3
                have hw1 : IntKind.i64.wrap ((k : Int) - 1) = (j : Int) := by rw [IntWalk.i64_in _ (by omega)]; omega
                have hjl : j < sb.length := by omega
                have hg1 : decide (0 < k) = true := by simp; omega
                have hg2 : decide ((0 : Int) < (k : Int)) = true := by simp; omega
                obtain ⟨yk, yn, yd, yv⟩ := y
                have hgl : g < wr.heap.size := World.block_lt_of_cell? wr _ b0
                have g2 : Op.bytesLess yk.toList xk.toList = true := (less_ltK _ _).trans hlt2
                clear hce hx hy hj b1 b2 b3 hlt2
                go_wp2_with fail
                go_quiet (fail)
                have ob := okH.out.allocd (x := (.cells #[.string xk, .int .u64 xn, .bool false, .string xv] 31 (0, 0))) |>.drewN nq
                go_wp2_with (first | (at_mapUpdate; refine wpList_mapUpdate_own _ rfl _ _ _ 47 rfl 9 23 lawS Try.underlying47 RU wd.heap.size k D rfl (own_map ob hMH.out) (by have := hlB.out; unfold maxLen; omega) _ _ _ rfl rfl (keyOf_string_mk Try.underlying9 hxzH.out) _ [] (plainElem_int Try.underlying23 hxwH.out) ?_; intro w5 hown5 hgrow5) | fail)
                obtain ⟨es5, clk5, hM5, o5⟩ := map_turn ob hown5 hgrow5
                have e5 := hid (((ek.alloc _).drewN nq).trans (ext_grown hgrow5))
                have hM5H := hid hM5
                have o5H := hid o5
                clear ob hown5 hgrow5 hM5 o5
                go_wp2
                go_roundw
                case rel => exact ⟨k + 1, es5, clk5, _, by go_num, by omega, hpush.out, hM5H.out, o5H.out, e5.out⟩
                case measure => simp [intOf]; omega
            · obtain rfl : k = sb.length := by omega
              rw [List.take_length] at hDH
              have rA2 := hid ((kp_of1 okH.out ek).rd raD.out)
              have kWr := hid (kdH.out.trans (kp_of1 okH.out ek))
              obtain ⟨wL, hwL⟩ : ∃ wL, wL = wr := ⟨_, rfl⟩
              subst hwL
              go_wp2_with fail
              go_loopw [90] (fun i wr => ∃ k : Nat, i = .int .i64 k ∧ k ≤ sa.length ∧ Kp wL wr) (fun i _ => sa.length - (intOf i).toNat)
              case atStart => exact ⟨0, rfl, Nat.zero_le _, Kp.refl _⟩
              case round =>
                obtain ⟨k, rfl, hk2, kr⟩ := hrel
                have krH := hid kr
                clear kr
                by_cases hlt : k < sa.length
                · obtain ⟨x, hx⟩ : ∃ x, sa[k]? = some x := ⟨_, List.getElem?_eq_getElem hlt⟩
                  obtain ⟨g, off, rfl, _, hce⟩ := rd_ent (krH.out.rd rA2.out) rfl hx
                  obtain ⟨a0, a1, a2, a3⟩ := hce _ _ hx
                  have hxm := hid (List.mem_of_getElem? hx)
                  obtain ⟨hxd, hxn⟩ := gA.out x hxm.out
                  obtain ⟨_, hxz, _⟩ := mA.out x hxm.out
                  obtain ⟨xk, xn, xd, xv⟩ := x
                  dsimp only at hxd hxn hxz a0 a1 a2 a3
                  subst hxd
                  have hb1 : decide (later < xn) = false := by simp; omega
                  have hxzH := hid hxz
                  clear hxn hxz
                  by_cases h0 : k = 0
                  · have hg1 : decide (0 < k) = false := by simp [h0]
                    have hg2 : decide ((0 : Int) < (k : Int)) = false := by simp [h0]
                    clear hce hx h0
                    go_wp2_with fail
                    go_quiet (fail)
                    have oz := krH.out.own okH.out
                    obtain ⟨cv, hlk, hcv⟩ := look_seen (oz.allocd (x := (.cells #[.string xk, .int .u64 xn, .bool false, .string xv] 31 (0, 0))) |>.drewN nq) hMH.out hDH.out hxzH.out
                    have hcvH := hid hcv
                    clear oz hcv
                    rcases bool_cases (sb.any fun y => eqK y.key xk) with hany | hany
                    · have hc2 : decide (cv < xn) = false := by
                        obtain ⟨y, hy, hyk⟩ := List.any_eq_true.1 hany
                        have hyk' := eqK_iff.1 hyk
                        have h1 := hcvH.out y hy hyk'
                        have h2 := hlat.out _ y hxm.out hy hyk'
                        simp only [decide_eq_false_iff_not]
                        dsimp only at h2
                        omega
                      rw [hany] at hlk
                      clear hany
                      go_wp2_with fail
                      go_roundw
                      case rel => exact ⟨k + 1, by go_num, by omega, (krH.out.alloc _).drewN nq⟩
                      case measure => simp [intOf]; omega
                    · rw [hany] at hlk
                      clear hany
                      go_wp2_with fail
                      go_roundw
                      case rel => exact ⟨k + 1, by go_num, by omega, (krH.out.alloc _).drewN nq⟩
                      case measure => simp [intOf]; omega
                  · obtain ⟨y, hy⟩ : ∃ y, sa[k - 1]? = some y := ⟨_, List.getElem?_eq_getElem (by omega)⟩
                    obtain ⟨b0, b1, b2, b3⟩ := hce _ _ hy
                    obtain ⟨j, hj⟩ : ∃ j, k - 1 = j := ⟨_, rfl⟩
                    have hlt2 := rising_adj iA.out (i := j) (by rw [← hj]; exact hy) (by rw [show j + 1 = k from by omega]; exact hx)
                    rw [hj] at b0 b1 b2 b3
                    have hw1 : IntKind.i64.wrap ((k : Int) - 1) = (j : Int) := by rw [IntWalk.i64_in _ (by omega)]; omega
                    have hjl : j < sa.length := by omega
                    have hg1 : decide (0 < k) = true := by simp; omega
                    have hg2 : decide ((0 : Int) < (k : Int)) = true := by simp; omega
                    obtain ⟨yk, yn, yd, yv⟩ := y
                    have hgl : g < wr.heap.size := World.block_lt_of_cell? wr _ b0
                    have g2 : Op.bytesLess yk.toList xk.toList = true := (less_ltK _ _).trans hlt2
                    clear hce hx hy hj b1 b2 b3 hlt2
                    go_wp2_with fail
                    go_quiet (fail)
                    have oz := krH.out.own okH.out
                    obtain ⟨cv, hlk, hcv⟩ := look_seen (oz.allocd (x := (.cells #[.string xk, .int .u64 xn, .bool false, .string xv] 31 (0, 0))) |>.drewN nq) hMH.out hDH.out hxzH.out
                    have hcvH := hid hcv
                    clear oz hcv
                    rcases bool_cases (sb.any fun y => eqK y.key xk) with hany | hany
                    · have hc2 : decide (cv < xn) = false := by
                        obtain ⟨y, hy, hyk⟩ := List.any_eq_true.1 hany
                        have hyk' := eqK_iff.1 hyk
                        have h1 := hcvH.out y hy hyk'
                        have h2 := hlat.out _ y hxm.out hy hyk'
                        simp only [decide_eq_false_iff_not]
                        dsimp only at h2
                        omega
                      rw [hany] at hlk
                      clear hany
                      go_wp2_with fail
                      go_roundw
                      case rel => exact ⟨k + 1, by go_num, by omega, (krH.out.alloc _).drewN nq⟩
                      case measure => simp [intOf]; omega
                    · rw [hany] at hlk
                      clear hany
                      go_wp2_with fail
                      go_roundw
                      case rel => exact ⟨k + 1, by go_num, by omega, (krH.out.alloc _).drewN nq⟩
                      case measure => simp [intOf]; omega
                · have kall := hid (kWr.out.trans krH.out)
                  go_wp2_with fail
                  go_ret
                  exact ⟨rfl, below_kp kall.out⟩
        · have he : errP l = 2 := if_neg (by rw [hrow]; simp)
          rw [he]
          have hsa : sa = [] := by rw [hsaH.out]; exact if_neg (by rw [hrow]; simp)
          subst hsa
          clear he
          simp only [List.length_nil]
          go_wp2_with fail
          go_ret
          exact ⟨rfl, below_kp kdH.out⟩
      · have hle : Hid (seq ≤ seq) := hid (by omega)
        go_wp2_with fail
        refine (seen_c _ l seq _ (kbH.out.rd rH.out) hlenH.out).mono ?_
        rintro e wc ⟨va, rfl, oa, ea⟩
        have ra := sl_rd oa
        obtain ⟨sa, hsa⟩ : ∃ s, s = seenP l seq := ⟨_, rfl⟩
        rw [← hsa] at ra
        have hsaH := hid hsa
        clear hsa
        obtain ⟨Aa, ca, rfl, hla, _⟩ := ra.form
        have raH := hid ra
        have kac := hid (kp_of1 oa ea)
        have kcH := hid (kbH.out.trans kac.out)
        clear oa ea ra
        go_wp2_with fail
        refine (seen_c _ l seq _ (kcH.out.rd rH.out) hlenH.out).mono ?_
        rintro e wd ⟨vb, rfl, ob, eb⟩
        have rb := sl_rd ob
        obtain ⟨sb, hsb⟩ : ∃ s, s = seenP l seq := ⟨_, rfl⟩
        rw [← hsb] at rb
        have hsbH := hid hsb
        clear hsb
        obtain ⟨Ab, cb, rfl, hlb, _⟩ := rb.form
        have rbH := hid rb
        have kbd := hid (kp_of1 ob eb)
        have kdH := hid (kcH.out.trans kbd.out)
        clear ob eb rb
        rcases bool_cases (rowB l) with hrow | hrow
        · have he : errP l = 0 := if_pos hrow
          have hrowH := hid (rowB_iff.1 hrow)
          rw [he]
          clear he hrow
          have raD := hid (kbd.out.rd raH.out)
          have hla' : sa.length ≤ 9223372036854775807 := by simpa [maxLen] using hla
          have hlb' : sb.length ≤ 9223372036854775807 := by simpa [maxLen] using hlb
          have gB : Hid (∀ y ∈ sb, y.del = false ∧ y.seq ≤ seq) := hid (by rw [hsbH.out]; exact seenP_good hrowH.out)
          have gA : Hid (∀ y ∈ sa, y.del = false ∧ y.seq ≤ seq) := hid (by rw [hsaH.out]; exact seenP_good hrowH.out)
          have iB : Hid (Rising sb) := hid (by rw [hsbH.out]; exact seenP_rising hrowH.out)
          have iA : Hid (Rising sa) := hid (by rw [hsaH.out]; exact seenP_rising hrowH.out)
          have mB : Hid (∀ x ∈ sb, x.Wz) := hid (fun x h => zH.out x (seenP_mem (by rw [hsbH.out] at h; exact h)))
          have mA : Hid (∀ x ∈ sa, x.Wz) := hid (fun x h => zH.out x (seenP_mem (by rw [hsaH.out] at h; exact h)))
          have hlat : Hid (∀ x y, x ∈ sa → y ∈ sb → y.key = x.key → x.seq ≤ y.seq) := hid (fun x y hx hy => seen_later hrowH.out hle.out (by rw [hsaH.out] at hx; exact hx) (by rw [hsbH.out] at hy; exact hy))
          have hlB : Hid (sb.length ≤ 1000000) := hid (by rw [hsbH.out]; exact Nat.le_trans (seen_len l seq) hlenH.out)
          clear hla hlb raH hsaH hsbH
          obtain ⟨hm0, om⟩ := map_made (P := Try.prog) (k := 9) (R := RU) (Own.start wd)
          have omH := hid om
          have hm0H := hid hm0
          clear om hm0
          go_wp2_with fail
          go_loopw [52] (fun i wr => ∃ (k : Nat) (es : Array MapEntry) (clk : Nat) (D : DataW Unit), i = .int .i64 k ∧ k ≤ sb.length ∧ NewD D (sb.take k) ∧ MapIs Try.prog 9 RU es clk k D ∧ Own wr [pts wd.heap.size (.map es clk), base wd wd.heap.size] ∧ Ext wd wr) (fun i _ => sb.length - (intOf i).toNat)
          case atStart => exact ⟨0, _, _, _, rfl, Nat.zero_le _, NewD.start, hm0H.out, omH.out, (Ext.refl wd).alloc _⟩
          case round =>
            obtain ⟨k, es, clk, D, rfl, hk, hD, hM, ok, ek⟩ := hrel
            have okH := hid ok
            have hDH := hid hD
            have hMH := hid hM
            clear ok hD hM
            by_cases hlt : k < sb.length
            · obtain ⟨x, hx⟩ : ∃ x, sb[k]? = some x := ⟨_, List.getElem?_eq_getElem hlt⟩
              obtain ⟨g, off, rfl, _, hce⟩ := rd_ent ((kp_of1 okH.out ek).rd rbH.out) rfl hx
              obtain ⟨a0, a1, a2, a3⟩ := hce _ _ hx
              obtain ⟨hxd, hxn⟩ := gB.out x (List.mem_of_getElem? hx)
              obtain ⟨hxw, hxz, _⟩ := mB.out x (List.mem_of_getElem? hx)
              have hxH := hid hx
              have hpush := hid (hDH.out.push iB.out hx)
              obtain ⟨xk, xn, xd, xv⟩ := x
              dsimp only at hxd hxn hxw hxz a0 a1 a2 a3
              subst hxd
              have hb1 : decide (seq < xn) = false := by simp; omega
              have hxwH := hid hxw
              have hxzH := hid hxz
              clear hxn hxw hxz
              by_cases h0 : k = 0
              · have hg1 : decide (0 < k) = false := by simp [h0]
                have hg2 : decide ((0 : Int) < (k : Int)) = false := by simp [h0]
                clear hce hx h0
                go_wp2_with fail
                go_quiet (fail)
                have ob := okH.out.allocd (x := (.cells #[.string xk, .int .u64 xn, .bool false, .string xv] 31 (0, 0))) |>.drewN nq
                go_wp2_with (first | (at_mapUpdate; refine wpList_mapUpdate_own _ rfl _ _ _ 47 rfl 9 23 lawS Try.underlying47 RU wd.heap.size k D rfl (own_map ob hMH.out) (by have := hlB.out; unfold maxLen; omega) _ _ _ rfl rfl (keyOf_string_mk Try.underlying9 hxzH.out) _ [] (plainElem_int Try.underlying23 hxwH.out) ?_; intro w5 hown5 hgrow5) | fail)
                obtain ⟨es5, clk5, hM5, o5⟩ := map_turn ob hown5 hgrow5
                have e5 := hid (((ek.alloc _).drewN nq).trans (ext_grown hgrow5))
                have hM5H := hid hM5
                have o5H := hid o5
                clear ob hown5 hgrow5 hM5 o5
                go_wp2
                go_roundw
                case rel => exact ⟨k + 1, es5, clk5, _, by go_num, by omega, hpush.out, hM5H.out, o5H.out, e5.out⟩
                case measure => simp [intOf]; omega
              · obtain ⟨y, hy⟩ : ∃ y, sb[k - 1]? = some y := ⟨_, List.getElem?_eq_getElem (by omega)⟩
                obtain ⟨b0, b1, b2, b3⟩ := hce _ _ hy
                obtain ⟨j, hj⟩ : ∃ j, k - 1 = j := ⟨_, rfl⟩
                have hlt2 := rising_adj iB.out (i := j) (by rw [← hj]; exact hy) (by rw [show j + 1 = k from by omega]; exact hx)
                rw [hj] at b0 b1 b2 b3
                have hw1 : IntKind.i64.wrap ((k : Int) - 1) = (j : Int) := by rw [IntWalk.i64_in _ (by omega)]; omega
                have hjl : j < sb.length := by omega
                have hg1 : decide (0 < k) = true := by simp; omega
                have hg2 : decide ((0 : Int) < (k : Int)) = true := by simp; omega
                obtain ⟨yk, yn, yd, yv⟩ := y
                have hgl : g < wr.heap.size := World.block_lt_of_cell? wr _ b0
                have g2 : Op.bytesLess yk.toList xk.toList = true := (less_ltK _ _).trans hlt2
                clear hce hx hy hj b1 b2 b3 hlt2
                go_wp2_with fail
                go_quiet (fail)
                have ob := okH.out.allocd (x := (.cells #[.string xk, .int .u64 xn, .bool false, .string xv] 31 (0, 0))) |>.drewN nq
                go_wp2_with (first | (at_mapUpdate; refine wpList_mapUpdate_own _ rfl _ _ _ 47 rfl 9 23 lawS Try.underlying47 RU wd.heap.size k D rfl (own_map ob hMH.out) (by have := hlB.out; unfold maxLen; omega) _ _ _ rfl rfl (keyOf_string_mk Try.underlying9 hxzH.out) _ [] (plainElem_int Try.underlying23 hxwH.out) ?_; intro w5 hown5 hgrow5) | fail)
                obtain ⟨es5, clk5, hM5, o5⟩ := map_turn ob hown5 hgrow5
                have e5 := hid (((ek.alloc _).drewN nq).trans (ext_grown hgrow5))
                have hM5H := hid hM5
                have o5H := hid o5
                clear ob hown5 hgrow5 hM5 o5
                go_wp2
                go_roundw
                case rel => exact ⟨k + 1, es5, clk5, _, by go_num, by omega, hpush.out, hM5H.out, o5H.out, e5.out⟩
                case measure => simp [intOf]; omega
            · obtain rfl : k = sb.length := by omega
              rw [List.take_length] at hDH
              have rA2 := hid ((kp_of1 okH.out ek).rd raD.out)
              have kWr := hid (kdH.out.trans (kp_of1 okH.out ek))
              obtain ⟨wL, hwL⟩ : ∃ wL, wL = wr := ⟨_, rfl⟩
              subst hwL
              go_wp2_with fail
              go_loopw [90] (fun i wr => ∃ k : Nat, i = .int .i64 k ∧ k ≤ sa.length ∧ Kp wL wr) (fun i _ => sa.length - (intOf i).toNat)
              case atStart => exact ⟨0, rfl, Nat.zero_le _, Kp.refl _⟩
              case round =>
                obtain ⟨k, rfl, hk2, kr⟩ := hrel
                have krH := hid kr
                clear kr
                by_cases hlt : k < sa.length
                · obtain ⟨x, hx⟩ : ∃ x, sa[k]? = some x := ⟨_, List.getElem?_eq_getElem hlt⟩
                  obtain ⟨g, off, rfl, _, hce⟩ := rd_ent (krH.out.rd rA2.out) rfl hx
                  obtain ⟨a0, a1, a2, a3⟩ := hce _ _ hx
                  have hxm := hid (List.mem_of_getElem? hx)
                  obtain ⟨hxd, hxn⟩ := gA.out x hxm.out
                  obtain ⟨_, hxz, _⟩ := mA.out x hxm.out
                  obtain ⟨xk, xn, xd, xv⟩ := x
                  dsimp only at hxd hxn hxz a0 a1 a2 a3
                  subst hxd
                  have hb1 : decide (seq < xn) = false := by simp; omega
                  have hxzH := hid hxz
                  clear hxn hxz
                  by_cases h0 : k = 0
                  · have hg1 : decide (0 < k) = false := by simp [h0]
                    have hg2 : decide ((0 : Int) < (k : Int)) = false := by simp [h0]
                    clear hce hx h0
                    go_wp2_with fail
                    go_quiet (fail)
                    have oz := krH.out.own okH.out
                    obtain ⟨cv, hlk, hcv⟩ := look_seen (oz.allocd (x := (.cells #[.string xk, .int .u64 xn, .bool false, .string xv] 31 (0, 0))) |>.drewN nq) hMH.out hDH.out hxzH.out
                    have hcvH := hid hcv
                    clear oz hcv
                    rcases bool_cases (sb.any fun y => eqK y.key xk) with hany | hany
                    · have hc2 : decide (cv < xn) = false := by
                        obtain ⟨y, hy, hyk⟩ := List.any_eq_true.1 hany
                        have hyk' := eqK_iff.1 hyk
                        have h1 := hcvH.out y hy hyk'
                        have h2 := hlat.out _ y hxm.out hy hyk'
                        simp only [decide_eq_false_iff_not]
                        dsimp only at h2
                        omega
                      rw [hany] at hlk
                      clear hany
                      go_wp2_with fail
                      go_roundw
                      case rel => exact ⟨k + 1, by go_num, by omega, (krH.out.alloc _).drewN nq⟩
                      case measure => simp [intOf]; omega
                    · rw [hany] at hlk
                      clear hany
                      go_wp2_with fail
                      go_roundw
                      case rel => exact ⟨k + 1, by go_num, by omega, (krH.out.alloc _).drewN nq⟩
                      case measure => simp [intOf]; omega
                  · obtain ⟨y, hy⟩ : ∃ y, sa[k - 1]? = some y := ⟨_, List.getElem?_eq_getElem (by omega)⟩
                    obtain ⟨b0, b1, b2, b3⟩ := hce _ _ hy
                    obtain ⟨j, hj⟩ : ∃ j, k - 1 = j := ⟨_, rfl⟩
                    have hlt2 := rising_adj iA.out (i := j) (by rw [← hj]; exact hy) (by rw [show j + 1 = k from by omega]; exact hx)
                    rw [hj] at b0 b1 b2 b3
                    have hw1 : IntKind.i64.wrap ((k : Int) - 1) = (j : Int) := by rw [IntWalk.i64_in _ (by omega)]; omega
                    have hjl : j < sa.length := by omega
                    have hg1 : decide (0 < k) = true := by simp; omega
                    have hg2 : decide ((0 : Int) < (k : Int)) = true := by simp; omega
                    obtain ⟨yk, yn, yd, yv⟩ := y
                    have hgl : g < wr.heap.size := World.block_lt_of_cell? wr _ b0
                    have g2 : Op.bytesLess yk.toList xk.toList = true := (less_ltK _ _).trans hlt2
                    clear hce hx hy hj b1 b2 b3 hlt2
                    go_wp2_with fail
                    go_quiet (fail)
                    have oz := krH.out.own okH.out
                    obtain ⟨cv, hlk, hcv⟩ := look_seen (oz.allocd (x := (.cells #[.string xk, .int .u64 xn, .bool false, .string xv] 31 (0, 0))) |>.drewN nq) hMH.out hDH.out hxzH.out
                    have hcvH := hid hcv
                    clear oz hcv
                    rcases bool_cases (sb.any fun y => eqK y.key xk) with hany | hany
                    · have hc2 : decide (cv < xn) = false := by
                        obtain ⟨y, hy, hyk⟩ := List.any_eq_true.1 hany
                        have hyk' := eqK_iff.1 hyk
                        have h1 := hcvH.out y hy hyk'
                        have h2 := hlat.out _ y hxm.out hy hyk'
                        simp only [decide_eq_false_iff_not]
                        dsimp only at h2
                        omega
                      rw [hany] at hlk
                      clear hany
                      go_wp2_with fail
                      go_roundw
                      case rel => exact ⟨k + 1, by go_num, by omega, (krH.out.alloc _).drewN nq⟩
                      case measure => simp [intOf]; omega
                    · rw [hany] at hlk
                      clear hany
                      go_wp2_with fail
                      go_roundw
                      case rel => exact ⟨k + 1, by go_num, by omega, (krH.out.alloc _).drewN nq⟩
                      case measure => simp [intOf]; omega
                · have kall := hid (kWr.out.trans krH.out)
                  go_wp2_with fail
                  go_ret
                  exact ⟨rfl, below_kp kall.out⟩
        · have he : errP l = 2 := if_neg (by rw [hrow]; simp)
          rw [he]
          have hsa : sa = [] := by rw [hsaH.out]; exact if_neg (by rw [hrow]; simp)
          subst hsa
          clear he
          simp only [List.length_nil]
          go_wp2_with fail
          go_ret
          exact ⟨rfl, below_kp kdH.out⟩
end Go.Proofs.Ytihbflmjgndfiaa
