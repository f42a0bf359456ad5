/- The walk of WalFull. -/
import Derived.Test.YtfdpoocdfbdhpaaGreatDoorWtA
import Derived.Test.YtfdpoocdfbdhpaaGreatDoorFsCq
namespace Go.Proofs.YtfdpoocdfbdhpaaGreatDoor
open Go.RowKit Go.Sl Go.Scree Go.Maps Go.ChangeShapes Go.WideShapes

def u16E : Enc Int := ⟨fun n => [.int .u16 n], 1, fun _ => rfl, by simp [Value.oneCell'], by omega⟩
section
open Go.Deep
variable {H : Type} {enc : TypeId × Value → H} {w : World} {base : Nat} {spare : Nat → Bool} {held : Bool} {A : Option Addr} {len cap : Nat} {d : DataW H} {ps : List MemPlace}
theorem open_u16s (h : DataW.Trod enc Tryz.prog w base spare held 68 (.slice A len cap) d ps) : ∃ l : List Int, Rd w u16E (.slice A len cap) l ∧ ∀ x ∈ l, 0 ≤ x ∧ x ≤ 65535 := by
  obtain ⟨fuel, hf⟩ := h
  have key : len ≤ cap ∧ cap ≤ maxLen ∧ ∀ i, i < len → ∃ r : Int, (0 ≤ r ∧ r ≤ 65535) ∧ ∃ a, A = some a ∧ ∀ j u, (u16E.cells r)[j]? = some u → w.cell? (a.add (i * u16E.size + j)) = some u := by
    rcases open_slice1 Tryz.underlying68 (by kernel_rfl) hf with ⟨hcs, _⟩ | ⟨a, len', cap', m, n, V, D, Pl, hcs, _, h1, h2, hm, _, hi⟩
    · simp only [Value.cells, List.cons.injEq, Value.slice.injEq, and_true] at hcs
      obtain ⟨rfl, rfl, rfl⟩ := hcs
      exact ⟨Nat.le_refl _, by simp [maxLen], fun i h => by omega⟩
    · simp only [Value.cells, List.cons.injEq, Value.slice.injEq, and_true] at hcs
      obtain ⟨rfl, rfl, rfl⟩ := hcs
      refine ⟨h1, h2, fun i hil => ?_⟩
      obtain ⟨hcell, htr⟩ := hi i (by rw [hm]; split <;> omega)
      obtain ⟨q, hq, _, hw⟩ := DataW.trod_int Tryz.underlying69 htr
      have hV : V i = .int .u16 q := by simpa using hq
      rw [hV] at hcell
      refine ⟨q, bounds_u16 hw, a, rfl, fun j u hju => ?_⟩
      match j, hju with
      | 0, hju =>
        simp only [u16E, List.getElem?_cons_zero, Option.some.injEq] at hju
        subst hju
        simpa [u16E] using hcell
  obtain ⟨hl, hc, hi⟩ := key
  obtain ⟨rs, hr, _, hp⟩ := rd_choose (w := w) (E := u16E) (P := fun x => 0 ≤ x ∧ x ≤ 65535) A len cap hl hc hi
  exact ⟨rs, hr, hp⟩
end
theorem rd_u16 {w : World} {A : Option Addr} {n c j : Nat} {xs : List Int} {x : Int} (h : Rd w u16E (.slice A n c) xs) (hx : xs[j]? = some x) :
    ∃ g off, A = some ⟨g, off, none⟩ ∧ w.cell? ⟨g, off + j, none⟩ = some (.int .u16 x) ∧ g < w.heap.size := by
  rcases h with ⟨_, he⟩ | ⟨g, off, cap, hv, h1, h2, hc⟩
  · rw [he] at hx; simp at hx
  · simp only [Value.slice.injEq] at hv
    obtain ⟨rfl, rfl, rfl⟩ := hv
    have h3 := hc j x hx 0 _ rfl
    have h4 : w.cell? ⟨g, off + j, none⟩ = some (.int .u16 x) := by simpa [u16E] using h3
    exact ⟨g, off, rfl, h4, World.block_lt_of_cell? w _ h4⟩
theorem one_quota {nm : ByteArray} {b : List UInt8} {s : Nat} {q f n : Int} {lit dead : Bool} : (oneD nm b s q f lit dead).setQuota n = oneD nm b s (max n 0) f lit dead := rfl
theorem osz_c (p : Nat) (nm : ByteArray) (b : List UInt8) (s : Nat) (q f : Int) (lit dead : Bool) (w : World) (F : List Chunk) (hb : b.length ≤ 1000000) (o : Own w (diskC p (oneD nm b s q f lit dead) :: F)) :
    Calls Tryz.prog 38 #[.pointer (some ⟨p, 0, none⟩)] w fun e w' => e = .returned (.int .i64 b.length) ∧ Own w' (diskC p (oneD nm b s q f lit dead) :: F) ∧ Ext w w' := by
  have h := size_c p (oneD nm b s q f lit dead) w F (by rw [one_size]; exact bigN_of hb) o
  rw [one_size] at h
  exact h
set_option maxRecDepth 20000 in
set_option maxHeartbeats 12800000 in
theorem walFull_row (v : Value) (l : List ByteArray) (qv : Value) (qs : List Int) (W : World) (hr : Rd W strE v l) (hp : ∀ x ∈ l, x.size ≤ maxLen) (hqr : Rd W u16E qv qs) (hqp : ∀ x ∈ qs, 0 ≤ x ∧ x ≤ 65535) (hG : Gok W) :
    Calls Tryz.prog 8 #[v, qv] W fun e W' => e = .returned (.bool true) ∧ Below W.heap.size W W' := by
  have hGl := hid (Gl.base hG)
  obtain ⟨A, c, rfl, hlm, hlc⟩ := hr.form
  obtain ⟨qA, qc, rfl, hqm, hqc⟩ := hqr.form
  unfold maxLen at hlm hqm
  have rH := hid hr
  have pH := hid hp
  have qrH := hid hqr
  have qpH := hid hqp
  have aw := hid (awake_c W _ hGl.out (Own.start W))
  clear hr hp hG hqr hqp
  go_enter Tryz.func8, Tryz.ntmps8
  go_wp2_with fail
  refine aw.out.mono ?_
  rintro e w0 ⟨rfl, o0, e0⟩
  have o0H := hid o0
  clear o0 aw
  go_wp2_with fail
  refine (new_c w0 _ o0H.out).mono ?_
  rintro e w1 ⟨p, rfl, o1, e1⟩
  have h2 := wcreate_c p 0 _ (by decide) _ _ hGl.out (fbd_of (by decide) (by decide)) o1
  rw [one_create (by decide)] at h2
  unfold MadeSays at h2
  rw [if_pos rfl] at h2
  have g2 := hid h2
  have x1 := hid (e0.trans e1)
  clear h2 o1 o0H e0 e1
  go_wp2_with fail
  refine g2.out.mono ?_
  rintro e w2 ⟨q, rfl, o2, e2⟩
  have x2 := hid (x1.out.trans e2)
  have o2H := hid (Own.arr [1, 2, 0, 3] (sl_empty' 9 strE (o2.alloc (.cells #[] 9 (0, 0)))))
  obtain ⟨i0, hi0, hz0, hz1, hz2⟩ := info_parts infoStr
  clear o2 e2 g2 x1
  go_wp2_with fail
  go_loopw [8, 9] (fun u i wr => ∃ (k : Nat) (ws : List ByteArray) (qq : Int), i = .int .i64 k ∧ k ≤ l.length ∧ k ≤ 60 ∧ ws.length ≤ k ∧ (fr ws).length ≤ 8003 * k ∧ (∀ x ∈ ws, x.size ≤ 8000) ∧ Own wr [diskC p (oneD (walName 0) (fr ws) (fr ws).length qq 0 false false), logC q p (oneL 0 (fr ws)), sl 9 strE u ws, base W W.heap.size] ∧ Ext W wr) (fun _ i _ => l.length - (intOf i).toNat)
  case atStart => exact ⟨0, [], 1048576, rfl, Nat.zero_le _, Nat.zero_le _, Nat.le_refl _, Nat.le_refl _, by simp, o2H.out, x2.out.alloc _⟩
  case round =>
    obtain ⟨k, ws, qq, rfl, hk, hk60, hwk, hfl, hws, ok, ek⟩ := hrel
    have ok2 := Own.pick 2 ok
    obtain ⟨uA, un, uc, rfl⟩ := sl_shape ok2
    obtain ⟨hun, _, _⟩ := sl_n ok2
    have okH := hid ok
    have ekH := hid ek
    have hwsH := hid hws
    have hflH := hid hfl
    have hwkH := hid hwk
    have hunH := hid hun
    have hun2 : un ≤ 60 := by omega
    clear ok2 ek hws hun ok
    by_cases hlt : k < l.length ∧ k < 60
    · obtain ⟨hlt, hlt60⟩ := hlt
      obtain ⟨x, hx⟩ : ∃ x, l[k]? = some x := ⟨_, List.getElem?_eq_getElem hlt⟩
      have hxm := pH.out x (List.mem_of_getElem? hx)
      obtain ⟨g, off, rfl, c1, hg⟩ := rd_str (rd_here rH.out (Own.drops [_, _, _] okH.out)) hx
      have hki : (k : Int) < l.length := by omega
      have hki2 : (k : Int) < 60 := by omega
      have hxH2 := hid hx
      have hxz := Lib.size_eq x
      have hxzH := hid hxz
      have hxmH := hid hxm
      clear hx hxz hxm
      have hfl1 : Hid ((fr ws).length ≤ 1000000) := hid (by omega)
      have bdq := hid (fun qz => one_bd (nm := walName 0) (b := fr ws) (s := (fr ws).length) (q := qz) (f := 0) (lit := false) (dead := false) (bigN_of hfl1.out))
      rcases Nat.lt_or_ge k qs.length with hqk | hqk
      case' inl =>
        obtain ⟨z, hz⟩ : ∃ z, qs[k]? = some z := ⟨_, List.getElem?_eq_getElem hqk⟩
        obtain ⟨g2, off2, rfl, cq, hg2⟩ := rd_u16 (rd_here qrH.out (Own.drops [_, _, _] okH.out)) hz
        have hqi : (k : Int) < qs.length := by omega
        have hz16 := qpH.out z (List.mem_of_getElem? hz)
        have hzw : IntKind.i64.wrap z = z := by rw [IntKind.wrap_i64]; omega
        clear hz hz16
        go_wp2_with fail
        refine (quota_c p _ z wr _ okH.out).mono ?_
        rintro e w3 ⟨rfl, o3, e3⟩
        rw [one_quota] at o3
        obtain ⟨q2, hq2⟩ : ∃ q2, max z 0 = q2 := ⟨_, rfl⟩
        rw [hq2] at o3
        clear hq2
        have x3H := hid (ekH.out.trans e3)
        have o3H := hid o3
        clear o3 cq hg2
      case' inr =>
        have hqi : ¬ (k : Int) < qs.length := by omega
        obtain ⟨q2, hq2⟩ : ∃ q2, qq = q2 := ⟨_, rfl⟩
        rw [hq2] at okH
        clear hq2
        have o3H := okH
        have x3H := ekH
      all_goals
        clear hg hqk
        go_wp2_with fail
        refine (osz_c p _ _ _ _ _ _ _ _ _ hfl1.out o3H.out).mono ?_
        rintro e w4 ⟨rfl, o4, e4⟩
        have x4H := hid (x3H.out.trans e4)
        have had := wadd_c q p _ (oneL 0 (fr ws)) x (by show (0 : Nat) < _; decide) (bigN_of hfl1.out) hxmH.out w4 _ (hGl.out.cons _) (bdq.out _) o4
        have c4 := rd_str1 (rd_here rH.out (Own.drops [_, _, _] o4)) hxH2.out
        rw [one_add] at had
        clear o4 e4
        by_cases h8 : 8000 < x.data.toList.length
        · rw [if_pos h8] at had
          unfold AddSays at had
          have hadH := hid had
          have hx8 : (x.size : Int) > 8000 := by have := hxzH.out; omega
          clear had h8
          go_wp2_with fail
          refine hadH.out.mono ?_
          rintro e w5 ⟨rfl, o5, e5⟩
          have x5H := hid (x4H.out.trans e5)
          have o5H := hid o5
          clear o5 e5 c4 hadH
          go_wp2_with fail
          refine (osz_c p _ _ _ _ _ _ _ _ _ hfl1.out o5H.out).mono ?_
          rintro e w6 ⟨rfl, o6, e6⟩
          have x6H := hid (x5H.out.trans e6)
          have o6H := hid o6
          have c6 := rd_str1 (rd_here rH.out (Own.drops [_, _, _] o6)) hxH2.out
          have hbk := lbrk_c o6.swap
          rw [show (oneL 0 (fr ws)).broken = false from rfl] at hbk
          have hls := lsize_c o6.swap
          rw [show (oneL 0 (fr ws)).size = (fr ws).length from rfl] at hls
          have hbkH := hid hbk
          have hlsH := hid hls
          clear o6 e6 hbk hls
          go_wp2_with fail
          refine hbkH.out.mono ?_
          rintro e w7 ⟨rfl, rfl⟩
          go_wp2_with fail
          refine hlsH.out.mono ?_
          rintro e w8 ⟨rfl, rfl⟩
          go_wp2_with fail
          refine (osz_c p _ _ _ _ _ _ _ _ _ hfl1.out o6H.out).mono ?_
          rintro e w9 ⟨rfl, o9, e9⟩
          have o9H := hid o9
          clear o9 c6
          go_wp2_with fail
          go_roundw
          case rel => exact ⟨k + 1, ws, _, by go_num, by omega, by omega, by have := hwkH.out; omega, by have := hflH.out; omega, hwsH.out, o9H.out, x6H.out.trans e9⟩
          case measure => simp [intOf]; omega
        · rw [if_neg h8] at had
          have hx8 : ¬ (x.size : Int) > 8000 := by have := hxzH.out; omega
          have hfx := hid (frameB_small (t := x.data.toList) (by omega))
          have h8H : Hid (x.size ≤ 8000) := hid (by have := hxzH.out; omega)
          by_cases hqx : q2 < (((fr ws).length + (frameB x.data.toList).length : Nat) : Int)
          · rw [if_pos hqx] at had
            unfold AddSays at had
            have hadH := hid had
            clear had h8 hqx
            go_wp2_with fail
            refine hadH.out.mono ?_
            rintro e w5 ⟨rfl, o5, e5⟩
            have x5H := hid (x4H.out.trans e5)
            have o5H := hid o5
            clear o5 e5 c4 hadH
            go_wp2_with fail
            refine (osz_c p _ _ _ _ _ _ _ _ _ hfl1.out o5H.out).mono ?_
            rintro e w6 ⟨rfl, o6, e6⟩
            have x6H := hid (x5H.out.trans e6)
            have o6H := hid o6
            have c6 := rd_str1 (rd_here rH.out (Own.drops [_, _, _] o6)) hxH2.out
            have hbk := lbrk_c o6.swap
            rw [show (oneL 0 (fr ws)).broken = false from rfl] at hbk
            have hls := lsize_c o6.swap
            rw [show (oneL 0 (fr ws)).size = (fr ws).length from rfl] at hls
            have hbkH := hid hbk
            have hlsH := hid hls
            clear o6 e6 hbk hls
            go_wp2_with fail
            refine hbkH.out.mono ?_
            rintro e w7 ⟨rfl, rfl⟩
            go_wp2_with fail
            refine hlsH.out.mono ?_
            rintro e w8 ⟨rfl, rfl⟩
            go_wp2_with fail
            refine (osz_c p _ _ _ _ _ _ _ _ _ hfl1.out o6H.out).mono ?_
            rintro e w9 ⟨rfl, o9, e9⟩
            have o9H := hid o9
            clear o9 c6
            go_wp2_with fail
            go_roundw
            case rel => exact ⟨k + 1, ws, _, by go_num, by omega, by omega, by have := hwkH.out; omega, by have := hflH.out; omega, hwsH.out, o9H.out, x6H.out.trans e9⟩
            case measure => simp [intOf]; omega
          · rw [if_neg hqx] at had
            unfold AddSays at had
            have hadH := hid had
            have hfn : Hid ((fr ws ++ frameB x.data.toList).length ≤ 1000000) := hid (by rw [List.length_append]; have := hflH.out; have := hfx.out; omega)
            clear had h8 hqx
            go_wp2_with fail
            refine hadH.out.mono ?_
            rintro e w5 ⟨rfl, o5, e5⟩
            have x5H := hid (x4H.out.trans e5)
            have c5 := rd_str1 (rd_here rH.out (Own.drops [_, _, _] o5)) hxH2.out
            have o5H := hid (Own.pick 2 o5)
            clear o5 e5 c4 hadH
            go_wp2_with (refine wpList_append_slc rfl _ _ _ rfl 9 i0 _ 1 16 Tryz.underlying28 hi0 hz0 hz1 hz2 rfl (by omega) _ un (strE.flat ws) rfl (by have h := o5H.out.allocd (x := .cells #[.string x] 9 (0, 0)); unfold sl at h; rw [← hunH.out] at h; exact h) ⟨_, 0, none⟩ 1 1 [.string x] rfl rfl (cells_new _ _ _ _) (by simp [Value.oneCell']) (by unfold maxLen; omega) (by omega) ?_; intro v3 w6 o6 e6 _; obtain ⟨A3, n3, c3, rfl, o6H⟩ := slc_shape o6; clear o6)
            have o6 := Own.arr [1, 2, 0, 3] (sl_of (E := strE) (ws ++ [x]) o6H.out (by rw [hunH.out]; simp) (by rw [strE.flat_append]; rfl))
            have x6H := hid ((x5H.out.alloc _).trans e6)
            have c6 := rd_str1 (rd_here rH.out (Own.drops [_, _, _] o6)) hxH2.out
            have hbk := lbrk_c o6.swap
            rw [show (oneL 0 (fr ws ++ frameB x.data.toList)).broken = false from rfl] at hbk
            have hls := lsize_c o6.swap
            rw [show (oneL 0 (fr ws ++ frameB x.data.toList)).size = (fr ws ++ frameB x.data.toList).length from rfl] at hls
            have hbkH := hid hbk
            have hlsH := hid hls
            have o7H := hid o6
            clear o6 e6 hbk hls o6H c5
            go_wp2_with fail
            refine hbkH.out.mono ?_
            rintro e w7 ⟨rfl, rfl⟩
            go_wp2_with fail
            refine hlsH.out.mono ?_
            rintro e w8 ⟨rfl, rfl⟩
            go_wp2_with fail
            refine (osz_c p _ _ _ _ _ _ _ _ _ hfn.out o7H.out).mono ?_
            rintro e w9 ⟨rfl, o9, e9⟩
            have o9H := hid o9
            clear o9 c6
            go_wp2_with fail
            go_roundw
            case rel =>
              refine ⟨k + 1, ws ++ [x], q2, by go_num, by omega, by omega, ?_, ?_, ?_, ?_, x6H.out.trans e9⟩
              · rw [List.length_append, List.length_singleton]; have := hwkH.out; omega
              · rw [fr_snoc, List.length_append]; have := hflH.out; have := hfx.out; omega
              · intro y hy
                rcases List.mem_append.1 hy with hy | hy
                · exact hwsH.out y hy
                · rw [List.mem_singleton] at hy; subst hy; exact h8H.out
              · rw [fr_snoc]; exact o9H.out
            case measure => simp [intOf]; omega
    · have hk1 : ¬ (k : Int) < l.length ∨ ((k : Int) < l.length ∧ ¬ (k : Int) < 60) := by omega
      have r1 := wreplay_c p 0 (oneD (walName 0) (fr ws) (fr ws).length qq 0 false false) (by decide) wr _ ((hGl.out.cons _).cons _) (one_bd (bigN_of (n := (fr ws).length) (by omega))) okH.out
      rw [one_replay (by decide)] at r1
      unfold ReplaySays at r1
      dsimp only at r1
      have hall := allF_fr hwsH.out []
      rw [List.append_nil, allF_nil, List.append_nil] at hall
      rw [hall, strs_back] at r1
      have r1H := hid r1
      clear r1 hlt hall
      go_upto_region 21 with (fail)
      all_goals
        clear hk1
        go_wp2_with fail
        refine r1H.out.mono ?_
        rintro e w3 ⟨p5, rfl, o3, e3⟩
        obtain ⟨PA, pn, pc, rfl⟩ := sl_shape o3
        have x3H := hid (ekH.out.trans e3)
        have t1 := texts_c (sl_rd o3) (sl_rd (Own.pick 3 o3))
        rw [show decide (ws = ws) = true by simp] at t1
        have t1H := hid t1
        have o3H := hid o3
        clear o3 e3 t1 r1H
        go_wp2_with fail
        refine t1H.out.mono ?_
        rintro e w5 ⟨rfl, e5, k5⟩
        have x5H := hid (x3H.out.trans e5)
        have o5H := hid (k5.own o3H.out)
        clear k5 e5
        go_wp2
        go_ret
        exact ⟨rfl, below_of_own (Own.drops [_, _, _, _] o5H.out) x5H.out⟩
end Go.Proofs.YtfdpoocdfbdhpaaGreatDoor
