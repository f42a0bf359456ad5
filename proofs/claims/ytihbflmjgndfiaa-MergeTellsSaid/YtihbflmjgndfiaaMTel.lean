/- The walk of MergeTells. -/
import Derived.Test.YtihbflmjgndfiaaTelA
namespace Go.Proofs.Ytihbflmjgndfiaa
open Go.RowKit Go.Sl Go.Scree

theorem between_len' (l : List Ent) (lo hi : ByteArray) : (betweenP l lo hi).length ≤ l.length := by
  unfold betweenP
  split
  · exact List.length_filter_le _ _
  · simp

set_option maxRecDepth 20000 in
set_option maxHeartbeats 12800000 in
theorem mergeTells_row (v : Value) (rs : List RowV) (seq : Int) (lo hi : ByteArray) (W : World) (hr : Rd W rowE v rs) (hp : ∀ r ∈ rs, RowOk W r) (w1 : (Lit.int .u64 seq).wf = true) (w2 : lo.size ≤ 140737488351232) (w3 : hi.size ≤ 140737488351232) :
    Calls Try.prog 3 #[v, .int .u64 seq, .string lo, .string hi] W fun e W' => e = .returned (.bool true) ∧ Below W.heap.size W W' := by
  obtain ⟨A, c, rfl, hm, _⟩ := hr.form
  have hl : rs.length ≤ 9223372036854775807 := by simpa [maxLen] using hm
  have rH := hid hr
  have pH := hid hp
  obtain ⟨i0, hi0, hz0, hz1, hz2⟩ := info_parts infoEnt
  obtain ⟨j0, hj0, hy0, hy1, hy2⟩ := info_parts infoEnts
  clear hr hp w1 w2 w3 hm
  go_enter Try.func3, Try.ntmps3
  go_wp2_with fail
  refine (awake_c _).mono ?_
  rintro e wa ⟨rfl, ka⟩
  have kaH := hid ka
  clear ka
  go_wp2_with fail
  refine (large_c _ rs _ (kaH.out.rd rH.out) (fun r hr => kaH.out.rd (pH.out r hr).1)).mono ?_
  intro e wb hb
  obtain ⟨b, rfl, kb, hs⟩ := hb
  have kbH := hid (kaH.out.trans kb)
  clear kb
  cases b with
  | true =>
    clear hs
    go_wp2_with fail
    go_ret
    exact ⟨rfl, below_kp' kbH.out⟩
  | false =>
    have hlen : rs.length ≤ 30 := (hs rfl).1
    have htot : Hid (totR (listsOf rs) ≤ 300) := hid (hs rfl).2
    have hsml : ∀ r ∈ rs, r.l.length ≤ 300 := fun r hr => by
      have h1 := htot.out
      obtain ⟨i, hi⟩ := List.getElem?_of_mem hr
      have h2 := totR_take (rows := listsOf rs) (k := i) (r := r.l) (by simp [listsOf, hi])
      have h3 := totR_take_le (listsOf rs) (i + 1)
      omega
    have hsmH := hid hsml
    have hRdr : ∀ w', Kp W w' → RdR w' (.slice A rs.length c) rs := fun w' k => ⟨k.rd rH.out, fun r hr => k.rd (pH.out r hr).1, fun r hr => by have := hsmH.out r hr; omega⟩
    have hRH := hid hRdr
    clear hs hRdr hsml
    by_cases hk3 : (300 : Int) < (lo.size : Int)
    · go_wp2_with fail
      go_ret
      exact ⟨rfl, below_kp' kbH.out⟩
    by_cases hm3 : (300 : Int) < (hi.size : Int)
    · go_wp2_with fail
      go_ret
      exact ⟨rfl, below_kp' kbH.out⟩
    have oo := hid (inn_nil (Own.swap (Own.swap (sl_empty' 26 rowE ((Own.start wb).alloc (.cells #[] 26 (0, 0)))))))
    go_wp2_with fail
    go_loopw [9, 43] (fun ov iv wr => ∃ (k : Nat) (os : List RowV), iv = .int .i64 k ∧ k ≤ rs.length ∧ os.length = k ∧ listsOf os = (listsOf rs).take k ∧ Own wr [inn os, sl 26 rowE ov os, base wb wb.heap.size] ∧ Ext wb wr) (fun _ iv _ => rs.length - (intOf iv).toNat)
    case atStart => exact ⟨0, [], rfl, Nat.zero_le _, rfl, rfl, oo.out, (Ext.refl wb).alloc _⟩
    case round =>
      obtain ⟨k, os, rfl, hk, hol, hos, ok, ek⟩ := hrel
      obtain ⟨A1, n1, c1, rfl⟩ := sl_shape (Own.swap ok)
      have okH := hid ok
      have hosH := hid hos
      have kp := hid (kbH.out.trans (kp_of (cs := [_, _]) ok ek))
      clear ok hos
      by_cases hlt : k < rs.length
      · obtain ⟨r, hx⟩ : ∃ r, rs[k]? = some r := ⟨_, List.getElem?_eq_getElem hlt⟩
        obtain ⟨g, off, rfl, _, hcell, hgl⟩ := (hRH.out _ kp.out).at hx
        have hrd := hid ((hRH.out _ kp.out).mem hx)
        have hr3 := hsmH.out r (List.mem_of_getElem? hx)
        have hsnap : Hid ((listsOf rs).take (k + 1) = (listsOf rs).take k ++ [r.l]) := hid (take_snoc (by simp [listsOf, hx]))
        clear hx
        obtain ⟨rA, rn, rc, rl⟩ := r
        dsimp only at hrd hr3 hsnap hcell
        go_wp2_with (refine wpList_append_rd rfl _ _ _ rfl i0 _ 4 48 Try.underlying26 hi0 hz0 hz1 hz2 rfl rfl rfl (sl_empty' 31 entE (okH.out.alloc (.cells #[] 31 (0, 0)))) rfl (((Kp.refl wr).alloc _).rd hrd.out) ?q1 ?q2 ?_)
        case q1 => unfold maxLen; (try simp); omega
        case q2 => (try simp); omega
        intro v3 w3 o3 e3 _
        obtain ⟨A3, n3, c3, rfl⟩ := sl_shape o3
        have o4 := hid (Own.pick 1 (inn_snoc (r := ⟨A3, n3, c3, rl⟩) o3))
        have e4 := hid ((ek.alloc (.cells #[] 31 (0, 0))).trans e3)
        clear o3 e3
        go_wp2_with (refine wpList_append_rd rfl _ _ _ rfl j0 _ 1 24 Try.underlying22 hj0 hy0 hy1 hy2 rfl rfl rfl o4.out.allocd rfl (rd_new (xs := [⟨A3, n3, c3, rl⟩]) (by simp) rfl (by simp [maxLen]) (by simp [rowE, Enc.flat])) ?q3 ?q4 ?_)
        case q3 => unfold maxLen; (try simp); omega
        case q4 => (try simp); omega
        intro v5 w5 o5 e5 _
        obtain ⟨A5, n5, c5, rfl⟩ := sl_shape o5
        have o5H := hid (Own.swap o5)
        have e5H := hid ((e4.out.alloc _).trans e5)
        clear o5 e5
        go_wp2
        go_roundw
        case rel => exact ⟨k + 1, os ++ [⟨A3, n3, c3, rl⟩], by go_num, by omega, by simp [hol], by rw [hsnap.out, ← hosH.out]; simp [listsOf], o5H.out, e5H.out⟩
        case measure => simp [intOf]; omega
      · obtain rfl : k = rs.length := by omega
        have hlists : listsOf os = listsOf rs := by rw [hosH.out, List.take_of_length_le (by simp [listsOf])]
        have hlistsH := hid hlists
        have hdo := sl_rd (Own.swap okH.out)
        have hin := inn_rd okH.out
        have hsmo : ∀ r ∈ os, r.l.length ≤ 300 := fun r hr => by
          obtain ⟨i, hi⟩ := List.getElem?_of_mem hr
          have h1 : (listsOf os)[i]? = some r.l := by simp [listsOf, hi]
          rw [hlistsH.out] at h1
          simp only [listsOf, List.getElem?_map, Option.map_eq_some_iff] at h1
          obtain ⟨q, hq, he⟩ := h1
          rw [← he]; exact hsmH.out q (List.mem_of_getElem? hq)
        obtain ⟨A6, c6, hv6, _, _⟩ := hdo.form
        rw [hv6] at hdo
        have hRo : Hid (RdR wr (.slice A6 os.length c6) os) := hid ⟨hdo, hin, fun r hr => by have := hsmo r hr; omega⟩
        have hsmoH := hid hsmo
        rw [hv6]
        have holH := hid hol
        clear hdo hin hsmo hv6 hlists hol
        go_wp2_with fail
        refine (all_c _ os _ hRo.out (by have := holH.out; omega) (by rw [hlistsH.out]; have := htot.out; omega)).mono ?_
        intro e wc hsay
        obtain ⟨vc, rfl, rc0, kc⟩ := all_any hsay
        rw [hlistsH.out] at rc0 ⊢
        obtain ⟨Ac, cc, rfl, _, _⟩ := rc0.form
        have rcH := hid rc0
        have kcH := hid kc
        clear hsay rc0 kc
        go_wp2_with fail
        refine (xall_c _ rs _ (hRH.out _ (kp.out.trans kcH.out)) (by have := htot.out; omega)).mono ?_
        intro e wd hsay
        obtain ⟨vd, rfl, rd0, kd⟩ := xall_any hsay
        obtain ⟨Ad, cd, rfl, _, _⟩ := rd0.form
        have rdH := hid rd0
        have kdH := hid (kcH.out.trans kd)
        have rcD := hid (kd.rd rcH.out)
        clear hsay rd0 kd
        generalize errR (listsOf rs) = er at *
        generalize allR (listsOf rs) = al at *
        go_wp2_with fail
        refine (get_c _ os lo seq _ (hRo.out.keep kdH.out)).mono ?_
        rintro e we ⟨rfl, ke⟩
        rw [hlistsH.out]
        have keH := hid (kdH.out.trans ke)
        have k_de := hid ke
        clear ke
        generalize hgd : getP (listsOf rs) lo seq = gd at *
        obtain ⟨X, hX⟩ : ∃ X, bestV gd = X := ⟨_, rfl⟩
        rw [hX]
        obtain ⟨xk, xn, xd, xv⟩ := X
        have hv1 : entV ⟨xk, xn, xd, xv⟩ = .agg #[.string xk, .int .u64 xn, .bool xd, .string xv] := rfl
        rw [hv1]
        obtain ⟨is, his⟩ : ∃ q, gd.isSome = q := ⟨_, rfl⟩
        rw [his]
        have hgdH := hid hgd
        have hXH := hid hX
        have hisH := hid his
        clear hgd hX his
        go_wp2_with fail
        refine (xget_c _ rs lo seq _ (hRH.out _ ((kp.out.trans keH.out).alloc _))).mono ?_
        rintro e wf ⟨rfl, kf⟩
        rw [hgdH.out, hXH.out, hisH.out, hv1]
        clear hv1
        have kfH := hid (((Kp.refl we).alloc (.cells #[.string xk, .int .u64 xn, .bool xd, .string xv] 31 (0, 0))).trans kf)
        have c0 := kf.cell (p := ⟨we.heap.size, 0, none⟩) (v := .string xk) (by simp)
        have c1 := kf.cell (p := ⟨we.heap.size, 1, none⟩) (v := .int .u64 xn) (by simp)
        have c2 := kf.cell (p := ⟨we.heap.size, 2, none⟩) (v := .bool xd) (by simp)
        have c3 := kf.cell (p := ⟨we.heap.size, 3, none⟩) (v := .string xv) (by simp)
        have cl := World.block_lt_of_cell? wf _ c0
        clear kf
        have kg0 := hid (k_de.out.trans kfH.out)
        go_wp2_with fail
        refine (same_c _ _ al _ ((kg0.out.alloc (.cells #[.string xk, .int .u64 xn, .bool xd, .string xv] 31 (0, 0))).rd rcD.out) ((kg0.out.alloc (.cells #[.string xk, .int .u64 xn, .bool xd, .string xv] 31 (0, 0))).rd rdH.out)).mono ?_
        rintro e wg ⟨rfl, kg⟩
        have d0 := kg.cell (p := ⟨wf.heap.size, 0, none⟩) (v := .string xk) (by simp)
        have d1 := kg.cell (p := ⟨wf.heap.size, 1, none⟩) (v := .int .u64 xn) (by simp)
        have d2 := kg.cell (p := ⟨wf.heap.size, 2, none⟩) (v := .bool xd) (by simp)
        have d3 := kg.cell (p := ⟨wf.heap.size, 3, none⟩) (v := .string xv) (by simp)
        have kw := ((Kp.refl wf).alloc (.cells #[.string xk, .int .u64 xn, .bool xd, .string xv] 31 (0, 0))).trans kg
        have c0' := kw.cell c0
        have c1' := kw.cell c1
        have c2' := kw.cell c2
        have c3' := kw.cell c3
        have dl := World.block_lt_of_cell? wg _ d0
        have cl' := World.block_lt_of_cell? wg _ c0'
        have kR := hid (keH.out.trans (kfH.out.trans kw))
        have hne : ∀ w : World, (binOp .neq 31 (.agg #[.string xk, .int .u64 xn, .bool xd, .string xv]) (.agg #[.string xk, .int .u64 xn, .bool xd, .string xv])).run Try.prog w = .ok (.bool false) w := ent_neq ⟨xk, xn, xd, xv⟩
        clear kg kw c0 c1 c2 c3 cl
        focus
          go_wp2_with fail
          clear hne d0 d1 d2 d3 c0' c1' c2' c3' dl cl'
          have hRoG := hid (hRo.out.keep kR.out)
          have kG := hid (kp.out.trans kR.out)
          have hle := hid holH.out
          go_loopw [101] (fun iv wr => ∃ i : Nat, iv = .int .i64 i ∧ i ≤ os.length ∧ Kp wg wr) (fun iv _ => os.length - (intOf iv).toNat)
          case atStart => exact ⟨0, rfl, Nat.zero_le _, Kp.refl _⟩
          case round =>
            obtain ⟨i, rfl, hii, k0⟩ := hrel
            have K := hid k0
            clear k0
            by_cases hil : i < os.length
            · obtain ⟨ro, hxo⟩ : ∃ r, os[i]? = some r := ⟨_, List.getElem?_eq_getElem hil⟩
              obtain ⟨rr, hxr⟩ : ∃ r, rs[i]? = some r := ⟨_, List.getElem?_eq_getElem (by have := holH.out; omega)⟩
              have hsame : ro.l = rr.l := by
                have h1 : (listsOf os)[i]? = some ro.l := by simp [listsOf, hxo]
                have h2 : (listsOf rs)[i]? = some rr.l := by simp [listsOf, hxr]
                rw [hlistsH.out, h2] at h1
                exact (Option.some.inj h1).symm
              obtain ⟨go, offo, hAo, _, hco, hgo⟩ := hRoG.out.at hxo
              obtain ⟨g, off, hAr, _, hcr, hgr⟩ := (hRH.out _ kG.out).at hxr
              have hrdO := hid (hRoG.out.mem hxo)
              have hrdR := hid ((hRH.out _ kG.out).mem hxr)
              have hrl := hid (show rr.l.length ≤ 1000000 from by have := hsmH.out rr (List.mem_of_getElem? hxr); omega)
              obtain ⟨oA, on, oc, ol⟩ := ro
              obtain ⟨rA, rn, rc, rl⟩ := rr
              dsimp only at hsame hrdO hrdR hrl hco hcr
              subst hsame
              have hn1 := Rdr_len (r := ⟨oA, on, oc, ol⟩) hrdO.out
              have hn2 := Rdr_len (r := ⟨rA, rn, rc, ol⟩) hrdR.out
              dsimp only at hn1 hn2
              subst hn1
              subst hn2
              subst hAo
              subst hAr
              have hcO := hid hco
              have hgO := hid hgo
              have hcR := hid hcr
              have hgR := hid hgr
              have hc0 := K.out.cell hco
              have hg0 := K.out.lt hgo
              have hil2 : i < rs.length := by have := holH.out; omega
              clear hxo hxr hco hgo hcr hgr
              go_wp2_with fail
              refine (seen_c _ ol seq _ (K.out.rd hrdO.out) hrl.out).mono ?_
              rintro e x1 ⟨va, rfl, oa, ea⟩
              have ra := sl_rd oa
              obtain ⟨A7, c7, rfl, _, _⟩ := ra.form
              have raH := hid ra
              have oaH := hid oa
              have K1 := hid (K.out.trans (kp_of1 oa ea))
              have hc1 := K1.out.cell hcR.out
              have hg1 := K1.out.lt hgR.out
              clear oa ea ra
              go_wp2_with fail
              refine (xseen_c _ ol seq _ (K1.out.rd hrdR.out) hrl.out).mono ?_
              rintro e x2 ⟨vb, rfl, ob, eb⟩
              have rb := sl_rd ob
              obtain ⟨A8, c8, rfl, _, _⟩ := rb.form
              have rbH := hid rb
              have k12 := hid (kp_of1 ob eb)
              have K2 := hid (K1.out.trans k12.out)
              have ra2 := hid (k12.out.rd raH.out)
              have hc2 := K2.out.cell hcR.out
              have hg2 := K2.out.lt hgR.out
              clear ob eb rb hc1 hg1 raH
              generalize seenP ol seq = pl at *
              go_wp2_with fail
              go_region_held3 (fun V => V.cell? ⟨g, off + i, none⟩ = some (.slice rA ol.length rc)) (first | exact hc2 | assumption) (first | (go_at_call 16; refine (same_c _ _ pl x2.drew ra2.out rbH.out).mono ?_; rintro e y1 ⟨rfl, ky1⟩; have e1 := ky1.cell hc2) | (go_at_call 19; refine (row_c _ ol y1 ((K2.out.trans (Kp.trans ((Kp.refl x2).drew) ky1)).rd hrdO.out)).mono ?_; rintro e y2 ⟨rfl, ky2⟩; have e2 := ky2.cell e1) | (go_at_call 20; refine (xrow_c _ ol y2 ((K2.out.trans (Kp.trans ((Kp.refl x2).drew) (ky1.trans ky2))).rd hrdR.out)).mono ?_; rintro e y3 ⟨rfl, ky3⟩; have e3 := ky3.cell e2))
              have K3 := hid (K2.out.trans (Kp.trans ((Kp.refl x2).drew) (ky1.trans (ky2.trans ky3))))
              clear ky1 ky2 ky3 e1 e2 e3 hc2 hg2 hc0 hg0
              have hcln := K3.out.cell hcR.out
              have hgln := K3.out.lt hgR.out
              go_wp2_with fail
              refine (newest_c _ ol seq _ (K3.out.rd hrdO.out) hrl.out).mono ?_
              rintro e un ⟨va, rfl, oa, ea⟩
              have ra := sl_rd oa
              obtain ⟨An, cn, rfl, _, _⟩ := ra.form
              have raHn := hid ra
              have oaHn := hid oa
              have eaHn := hid ea
              have K1n := hid (K3.out.trans (kp_of1 oa ea))
              have hc1n := K1n.out.cell hcR.out
              have hg1n := K1n.out.lt hgR.out
              clear oa ea ra hcln hgln
              go_wp2_with fail
              refine (xnewest_c _ ol seq _ (K1n.out.rd hrdR.out) hrl.out).mono ?_
              rintro e vn ⟨vb, rfl, ob, eb⟩
              have rb := sl_rd ob
              obtain ⟨Bn, dn, rfl, _, _⟩ := rb.form
              have rbHn := hid rb
              have k12n := hid (kp_of1 ob eb)
              have K2n := hid (K1n.out.trans k12n.out)
              have ra2n := hid (k12n.out.rd raHn.out)
              clear ob eb rb hc1n hg1n raHn
              have hlpn : (newestP ol seq).length ≤ ol.length := by first | exact newest_len _ _ | exact between_len' _ _ _
              generalize newestP ol seq = pn at *
              go_wp2_with fail
              refine (same_c _ _ pn _ ra2n.out rbHn.out).mono ?_
              rintro e zn ⟨rfl, kzn⟩
              have K3n := hid (K2n.out.trans kzn)
              have kzHn := hid kzn
              clear kzn
              have hclb := K3n.out.cell hcR.out
              have hglb := K3n.out.lt hgR.out
              go_wp2_with fail
              refine (between_c _ ol lo hi _ (K3n.out.rd hrdO.out) hrl.out).mono ?_
              rintro e ub ⟨va, rfl, oa, ea⟩
              have ra := sl_rd oa
              obtain ⟨Ab, cb, rfl, _, _⟩ := ra.form
              have raHb := hid ra
              have oaHb := hid oa
              have eaHb := hid ea
              have K1b := hid (K3n.out.trans (kp_of1 oa ea))
              have hc1b := K1b.out.cell hcR.out
              have hg1b := K1b.out.lt hgR.out
              clear oa ea ra hclb hglb
              go_wp2_with fail
              refine (xbetween_c _ ol lo hi _ (K1b.out.rd hrdR.out) hrl.out).mono ?_
              rintro e vb ⟨vb, rfl, ob, eb⟩
              have rb := sl_rd ob
              obtain ⟨Bb, db, rfl, _, _⟩ := rb.form
              have rbHb := hid rb
              have k12b := hid (kp_of1 ob eb)
              have K2b := hid (K1b.out.trans k12b.out)
              have ra2b := hid (k12b.out.rd raHb.out)
              clear ob eb rb hc1b hg1b raHb
              have hlpb : (betweenP ol lo hi).length ≤ ol.length := by first | exact newest_len _ _ | exact between_len' _ _ _
              generalize betweenP ol lo hi = pb at *
              go_wp2_with fail
              refine (same_c _ _ pb _ ra2b.out rbHb.out).mono ?_
              rintro e zb ⟨rfl, kzb⟩
              have K3b := hid (K2b.out.trans kzb)
              have kzHb := hid kzb
              clear kzb
              have oP := hid (kzHb.out.own (k12b.out.own oaHb.out))
              have eP := hid (eaHb.out.trans (k12b.out.ext.trans kzHb.out.ext))
              have hpl5 : pb.length ≤ 9223372036854775807 := by have := hrl.out; omega
              obtain ⟨wz, hwz⟩ : ∃ wz, wz = wr := ⟨_, rfl⟩
              go_wp2_with fail
              go_loopw [194] (fun kv wr => ∃ (k : Nat) (PL : List Ent), kv = .int .i64 k ∧ k ≤ pb.length ∧ PL.length = pb.length ∧ Own wr [sl 31 entE (.slice Ab pb.length cb) PL, base zn zn.heap.size] ∧ Ext zn wr) (fun kv _ => pb.length - (intOf kv).toNat)
              case atStart => exact ⟨0, pb, rfl, Nat.zero_le _, rfl, oP.out, eP.out⟩
              case round =>
                obtain ⟨k, PL, rfl, hk, hPL, ok, ek⟩ := hrel
                have okH := hid ok
                have hPLH := hid hPL
                clear ok hPL
                by_cases hkl : k < pb.length
                · obtain ⟨x, hx⟩ : ∃ x, PL[k]? = some x := ⟨_, List.getElem?_eq_getElem (by rw [hPLH.out]; exact hkl)⟩
                  obtain ⟨pg, rfl⟩ : ∃ pg, Ab = some ⟨pg, 0, none⟩ := by
                    rcases sl_form okH.out with ⟨_, h⟩ | ⟨g', _, h, _⟩
                    · rw [h] at hx; simp at hx
                    · simp only [Value.slice.injEq] at h; exact ⟨g', h.1⟩
                  have hat := sl_at okH.out hx 0 _ rfl
                  have hnew := hid (sl_field okH.out hx (j := 0) entE.pos ⟨⟨#[63]⟩, x.seq, x.del, x.val⟩ (.string ⟨#[63]⟩) rfl)
                  simp only [entE, Nat.add_zero] at hat hnew
                  obtain ⟨hat0, hat1⟩ := hat
                  have hxH := hid hx
                  clear hx
                  go_wp2_with fail
                  go_roundw
                  case rel => exact ⟨k + 1, _, by go_num, by omega, by rw [List.length_set]; exact hPLH.out, hnew.out, ek.set _ _⟩
                  case measure => simp [intOf]; omega
                · have KE := hid (K3n.out.trans (kp_of1 okH.out ek))
                  have hcE := KE.out.cell hcR.out
                  have hgE := KE.out.lt hgR.out
                  go_wp2_with fail
                  refine (same_c _ _ ol _ (KE.out.rd hrdO.out) (KE.out.rd hrdR.out)).mono ?_
                  rintro e wy ⟨rfl, ky⟩
                  have KF := hid (KE.out.trans ky)
                  clear ky hcE hgE
                  go_wp2_with fail
                  go_roundw
                  case rel => exact ⟨i + 1, by go_num, by omega, KF.out⟩
                  case measure => simp [intOf]; omega
            · have hfin := hid (kG.out.trans K.out)
              go_wp2_with fail
              go_ret
              exact ⟨rfl, below_kp' hfin.out⟩
end Go.Proofs.Ytihbflmjgndfiaa
