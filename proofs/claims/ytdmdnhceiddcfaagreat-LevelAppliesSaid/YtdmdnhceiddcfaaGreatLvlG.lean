/- The walk of without. -/
import Derived.Test.YtdmdnhceiddcfaaGreatLvlF
import Derived.Deep.RegionLaw
set_option linter.all false
namespace Go.Proofs.YtdmdnhceiddcfaaGreat
open Go.RowKit Go.Sl Go.Scree

theorem VerO.same {w W0 : World} {p : Nat} {S : Nat → SlA} {V : VerM} {D : List Chunk} {a b : Lvls} (h : VerO w W0 p S { V with lv := a } D) (e : sameUp a b) : VerO w W0 p S { V with lv := b } D :=
  ⟨h.own, fun l hl => by have := h.rd l hl; dsimp only at this ⊢; rwa [e l hl] at this, fun l hl => by have := h.few l hl; dsimp only at this ⊢; rwa [e l hl] at this, h.ext⟩
theorem rid_part (lv : Lvls) (n k l : Nat) : (ridL lv n k l).Sublist (lv l) := by
  unfold ridL
  split
  · exact List.filter_sublist
  · exact List.Sublist.refl _
set_option maxRecDepth 20000 in
set_option maxHeartbeats 6400000 in
theorem without_c (W0 : World) (p : Nat) (S : Nat → SlA) (V : VerM) (D : List Chunk) (gv : SlA) (gone : List Nat) (w : World) (h : VerO w W0 p S V D) (hg : Rd W0 u64E gv.v gone) (hn : (filesM V.lv).Nodup) :
    Calls Tryz.prog 22 #[.pointer (some ⟨p, 0, none⟩), .slice gv.A gv.n gv.c] w fun e w' => Kp W0 w' ∧ ((e = .returned (.int .i64 10) ∧ goneP gone V.lv = none) ∨
      ∃ lv S' D', e = .returned (.int .i64 0) ∧ goneP gone V.lv = some lv ∧ VerO w' W0 p S' { V with lv := lv } D') := by
  obtain ⟨Ag, cg, hgv, hgm, _⟩ := hg.form
  have hgn : gv.n = gone.length := by
    unfold SlA.v at hgv
    simp only [Value.slice.injEq] at hgv
    exact hgv.2.1
  have hgH := hid hg
  unfold SlA.v at hgH
  obtain ⟨gA, gn, gc⟩ := gv
  dsimp only at hgn hgH ⊢
  subst hgn
  have hg63 : gone.length ≤ 9223372036854775807 := by simpa [maxLen] using hgm
  have hH := hid h
  have hnH := hid hn
  clear h hn hg hgv hgm
  go_enter Tryz.func22, Tryz.ntmps22
  go_wp2_with fail
  go_loopw [12] (fun i wr => ∃ (k : Nat) (lv : Lvls) (S1 : Nat → SlA) (D1 : List Chunk), k ≤ gone.length ∧ i = .int .i64 k ∧ VerO wr W0 p S1 { V with lv := lv } D1 ∧ goneP gone V.lv = goneP (gone.drop k) lv ∧ (filesM lv).Nodup) (fun i _ => gone.length - (intOf i).toNat)
  case atStart => exact ⟨0, V.lv, S, D, Nat.zero_le _, rfl, hH.out, rfl, hnH.out⟩
  case round =>
    clear hH hnH
    obtain ⟨k, lv, S1, D1, hk, rfl, hv, hgo, hnd⟩ := hrel
    have hvH := hid hv
    have hgoH := hid hgo
    have hndH := hid hnd
    clear hv hgo hnd
    by_cases hlt : k < gone.length
    · have hx : gone[k]? = some gone[k] := List.getElem?_eq_getElem hlt
      obtain ⟨g, off, rfl, _, c0⟩ := rd_num (hvH.out.base.rd hgH.out) rfl hx
      have hdr : Hid (gone.drop k = gone[k] :: gone.drop (k + 1)) := hid (List.drop_eq_getElem_cons hlt)
      generalize gone[k] = n at *
      clear hx
      have hlt' : (k : Int) < (gone.length : Int) := by omega
      have c00 := c0
      go_wp2_with fail
      have k0 := hid ((Kp.refl wr).alloc (.cells #[.int .u64 n] 32 (0, 0)))
      have hbx : Hid ((wr.alloc (.cells #[.int .u64 n] 32 (0, 0))).cell? ⟨wr.heap.size, 0, none⟩ = some (.int .u64 n)) := hid (cells_new wr [.int .u64 n] _ _ 0 _ rfl)
      obtain ⟨q, hq⟩ : ∃ q, wr.heap.size = q := ⟨_, rfl⟩
      rw [hq] at hbx
      rw [hq]
      have hqH := hid hq
      clear hq c0 c00
      go_loopw [7, 16] (fun fd i wr2 => ∃ (l : Nat) (S2 : Nat → SlA) (D2 : List Chunk), l ≤ 4 ∧ i = .int .i64 l ∧ fd = .bool (hasL lv n l) ∧ VerO wr2 W0 p S2 { V with lv := ridL lv n l } D2 ∧ wr2.cell? ⟨q, 0, none⟩ = some (.int .u64 n) ∧ p ≠ q) (fun _ i _ => 4 - (intOf i).toNat)
      case atStart => exact ⟨0, S1, D1, by omega, rfl, rfl, by rw [rid_zero]; exact hvH.out.kp k0.out, hbx.out, by have := hvH.out.own.lt; have := hqH.out; omega⟩
      case round =>
        clear hvH hbx k0
        obtain ⟨l, S2, D2, hl, rfl, rfl, hv2, hb2, hpq⟩ := hrel
        have hv2H := hid hv2
        have hb2H := hid hb2
        clear hv2 hb2
        by_cases hl4 : l < 4
        · have hl4' : (l : Int) < 4 := by omega
          have cl := hv2H.out.ver.lvl l hl4
          have hrd : Hid (Rd wr metaE (S2 l).v (lv l)) := hid (by have := hv2H.out.rdAt hl4; dsimp only at this; rwa [rid_at] at this)
          have hidx := hid (mindexFunc_c (fun m => m.file == n) 50 #[.pointer (some ⟨q, 0, none⟩)] (S2 l).v (lv l) wr hrd.out (without1_c wr q n hb2H.out))
          unfold SlA.v at hidx
          have hcs := idx_cases (fun m : MetaM => m.file == n) (lv l)
          have hsucc := hid (has_succ lv n hl4)
          have hany : Hid (decide (0 ≤ idxI (fun m : MetaM => m.file == n) (lv l)) = (lv l).any fun m => m.file == n) := hid (idx_any _ _)
          have hfew : (lv l).length ≤ 20000 := by have := hv2H.out.few l hl4; dsimp only at this; rwa [rid_at] at this
          rcases hcs with ⟨hm1, hno⟩ | ⟨j, x, hj, hxj, hxe, _⟩
          · have hrs : Hid (ridL lv n l = ridL lv n (l + 1)) := hid (rid_same hno)
            have hfl : Hid (hasL lv n (l + 1) = hasL lv n l) := hid (by rw [hsucc.out, ← hany.out, hm1]; simp)
            rw [hm1] at hidx
            clear hm1 hno
            go_wp2_with fail
            refine hidx.out.mono ?_
            rintro e w1 ⟨rfl, k1⟩
            have k1H := hid k1
            clear k1
            go_wp2_with fail
            go_roundw
            case rel => exact ⟨l + 1, S2, D2, by omega, by go_num, by rw [hfl.out], by rw [← hrs.out]; exact hv2H.out.kp k1H.out, k1H.out.cell hb2H.out, hpq⟩
            case measure => simp [intOf]; omega
          · have hfl : Hid (hasL lv n (l + 1) = true) := hid (by rw [hsucc.out, ← hany.out, hj]; simp)
            have hjl : j < (lv l).length := (List.getElem?_eq_some_iff.1 hxj).1
            have her : Hid ((lv l).eraseIdx j = (lv l).filter fun m => m.file != n) := hid (erase_filter (level_nodup hndH.out hl4) hxj (by simpa using hxe))
            rw [hj] at hidx
            have hj0 : (0 : Int) ≤ (j : Int) := by omega
            have hjw : IntKind.i64.wrap ((j : Int) + 1) = (j : Int) + 1 := IntWalk.i64_in _ (by omega)
            clear hj hxj hxe
            go_wp2_with fail
            refine hidx.out.mono ?_
            rintro e w1 ⟨rfl, k1⟩
            have k1H := hid k1
            have cl1 := k1.cell cl
            have hfz1 : w1.frozen? ⟨p, l, none⟩ = false := by
              have := (hv2H.out.kp k1).own
              exact this.free l
            have hpl : p < w1.heap.size := World.block_lt_of_cell? w1 _ cl1
            have hclo : Hid (Calls Tryz.prog 37 #[.slice (S2 l).A (S2 l).n (S2 l).c] w1.drew fun e w' => ∃ A n c, e = .returned (.slice A n c) ∧ Own w' [sl 43 metaE (.slice A n c) (lv l), base w1 w1.heap.size] ∧ Ext w1 w' ∧ w'.cell? ⟨p, l, none⟩ = some (.slice (S2 l).A (S2 l).n (S2 l).c) ∧ w'.frozen? ⟨p, l, none⟩ = false) := hid (by
              refine (mclone_c (S2 l).v (lv l) w1.drew (((Kp.refl w1).drew).rd (k1.rd hrd.out)) (by omega)).mono ?_
              rintro e w' ⟨v', he, o', x'⟩
              obtain ⟨A', n', c', rfl⟩ := sl_shape o'
              have kk : Kp w1 w' := ((Kp.refl w1).drew).trans (kp_of1 o' x')
              exact ⟨A', n', c', he, o', kk.ext, kk.cell cl1, kk.free hpl hfz1⟩)
            have hdel : Hid (∀ A nn c w2, Own w2 [sl 43 metaE (.slice A nn c) (lv l), base w1 w1.heap.size] → Ext w1 w2 → Calls Tryz.prog 51 #[.slice A nn c, .int .i64 j, .int .i64 (j + 1)] w2 fun e w' => ∃ A nn c, e = .returned (.slice A nn c) ∧ Own w' [sl 43 metaE (.slice A nn c) ((lv l).filter fun m => m.file != n), base w1 w1.heap.size] ∧ Ext w1 w' ∧ w'.cell? ⟨p, l, none⟩ = some (.slice (S2 l).A (S2 l).n (S2 l).c) ∧ w'.frozen? ⟨p, l, none⟩ = false) := hid (by
              intro A nn c w2 o x
              refine (mdelete_c j _ (lv l) hjl w2 o).mono ?_
              rintro e w' ⟨v', he, o', x'⟩
              obtain ⟨A', n', c', rfl⟩ := sl_shape o'
              have kk : Kp w1 w' := kp_of1 o' (x.trans x')
              rw [her.out] at o'
              exact ⟨A', n', c', he, o', kk.ext, kk.cell cl1, kk.free hpl hfz1⟩)
            clear k1 cl
            go_wp2_with fail
            go_region_law (first | (go_simp; go_at_call 37; refine hclo.out.mono ?_; rintro e w2 ⟨A2, n2, c2, rfl, o2, x2, cl2, fz2⟩) | (go_simp; go_at_call 51; refine (hdel.out A2 n2 c2 w2 o2 x2).mono ?_; rintro e w3 ⟨A3, n3, c3, rfl, o3, x3, cl3, fz3⟩))
            have hv3 := hid ((hv2H.out.kp k1H.out).turn hl4 (s := ⟨A3, n3, c3⟩) (kp_of1 o3 x3) o3 (Nat.le_trans (List.length_filter_le _ _) hfew))
            have hb3 : Hid ((w3.setCell ⟨p, l, none⟩ (.slice A3 n3 c3)).cell? ⟨q, 0, none⟩ = some (.int .u64 n)) := hid (by
              rw [World.cell?_of_block (w := w3) (a := ⟨q, 0, none⟩) (Go.RowKit.Below.heap_setCell _ _ _ _ (fun h => hpq h.symm))]
              exact (kp_of1 o3 x3).cell (k1H.out.cell hb2H.out))
            clear o2 x2 cl2 fz2 o3 x3 cl3 fz3 cl1 hfz1 hpl
            go_wp2_with fail
            go_roundw
            case rel => exact ⟨l + 1, _, _, by omega, by go_num, by rw [hfl.out], by have := hv3.out; dsimp only at this; rw [rid_upd] at this; exact this, hb3.out, hpq⟩
            case measure => simp [intOf]; omega
        · obtain rfl : l = 4 := by omega
          have hf4 := has_four lv n
          have hgd : Hid (goneP (gone.drop k) lv = if hasB lv n = true then goneP (gone.drop (k + 1)) (fun l => (lv l).filter fun m => m.file != n) else none) := hid (by rw [hdr.out]; rfl)
          have hv4 : Hid (VerO wr W0 p S2 { V with lv := fun l => (lv l).filter fun m => m.file != n } D2) := hid (hv2H.out.same fun l hl => rid_four lv n hl)
          have hbs := hid hv2H.out.base
          rcases bool_cases (hasB lv n) with hb | hb
          · rw [hb] at hf4 hgd
            have hgd2 : Hid (goneP gone V.lv = goneP (gone.drop (k + 1)) fun l => (lv l).filter fun m => m.file != n) := hid (by rw [hgoH.out, hgd.out, if_pos rfl])
            have hnd2 : Hid ((filesM fun l => (lv l).filter fun m => m.file != n).Nodup) := hid (hndH.out.sublist ((flat_sub (a := fun l => (lv l).filter fun m => m.file != n) (b := lv) fun l => List.filter_sublist).map _))
            clear hb hgd
            go_wp2_with fail
            go_roundw
            case rel => exact ⟨k + 1, _, S2, D2, by omega, by go_num, hv4.out, hgd2.out, hnd2.out⟩
            case measure => simp [intOf]; omega
          · rw [hb] at hf4 hgd
            have hgd2 : Hid (goneP gone V.lv = none) := hid (by rw [hgoH.out, hgd.out, if_neg (by simp)])
            clear hb hgd
            go_wp2_with fail
            go_ret
            exact ⟨hbs.out, .inl ⟨rfl, hgd2.out⟩⟩
    · obtain rfl : k = gone.length := by omega
      have hgd2 : Hid (goneP gone V.lv = some lv) := hid (by rw [hgoH.out, List.drop_length]; rfl)
      have hbs := hid hvH.out.base
      go_wp2_with fail
      go_ret
      exact ⟨hbs.out, .inr ⟨lv, S1, D1, rfl, hgd2.out, hvH.out⟩⟩
end Go.Proofs.YtdmdnhceiddcfaaGreat
