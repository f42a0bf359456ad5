/- The walk of WalTwo. -/
import Derived.Test.YtfdpoocdfbdhpaaGreatDoorWtA
import Derived.Test.YtfdpoocdfbdhpaaGreatDoorWalV
namespace Go.Proofs.YtfdpoocdfbdhpaaGreatDoor
open Go.RowKit Go.Sl Go.Scree Go.Maps Go.ChangeShapes Go.WideShapes

def boolE : Enc Bool := ⟨fun n => [.bool n], 1, fun _ => rfl, by simp [Value.oneCell'], by omega⟩
section
open Go.Deep
variable {H : Type} {enc : TypeId × Value → H} {w : World} {base : Nat} {spare : Nat → Bool} {held : Bool} {A : Option Addr} {len cap : Nat} {d : DataW H} {ps : List MemPlace}
theorem open_bools (h : DataW.Trod enc Tryz.prog w base spare held 43 (.slice A len cap) d ps) : ∃ l : List Bool, Rd w boolE (.slice A len cap) l ∧ True := by
  obtain ⟨fuel, hf⟩ := h
  have key : len ≤ cap ∧ cap ≤ maxLen ∧ ∀ i, i < len → ∃ r : Bool, True ∧ ∃ a, A = some a ∧ ∀ j u, (boolE.cells r)[j]? = some u → w.cell? (a.add (i * boolE.size + j)) = some u := by
    rcases open_slice1 Tryz.underlying43 (by kernel_rfl) hf with ⟨hcs, _⟩ | ⟨a, len', cap', m, n, V, D, Pl, hcs, _, h1, h2, hm, _, hi⟩
    · simp only [Value.cells, List.cons.injEq, Value.slice.injEq, and_true] at hcs
      obtain ⟨rfl, rfl, rfl⟩ := hcs
      exact ⟨Nat.le_refl _, by simp [maxLen], fun i h => by omega⟩
    · simp only [Value.cells, List.cons.injEq, Value.slice.injEq, and_true] at hcs
      obtain ⟨rfl, rfl, rfl⟩ := hcs
      refine ⟨h1, h2, fun i hil => ?_⟩
      obtain ⟨hcell, htr⟩ := hi i (by rw [hm]; split <;> omega)
      obtain ⟨q, hq, _⟩ := DataW.trod_bool Tryz.underlying4 htr
      have hV : V i = .bool q := by simpa using hq
      rw [hV] at hcell
      refine ⟨q, trivial, a, rfl, fun j u hju => ?_⟩
      match j, hju with
      | 0, hju =>
        simp only [boolE, List.getElem?_cons_zero, Option.some.injEq] at hju
        subst hju
        simpa [boolE] using hcell
  obtain ⟨hl, hc, hi⟩ := key
  obtain ⟨rs, hr, _, hp⟩ := rd_choose (w := w) (E := boolE) (P := fun _ => True) A len cap hl hc hi
  exact ⟨rs, hr, trivial⟩
end
theorem rd_bool {w : World} {A : Option Addr} {n c j : Nat} {xs : List Bool} {x : Bool} (h : Rd w boolE (.slice A n c) xs) (hx : xs[j]? = some x) :
    ∃ g off, A = some ⟨g, off, none⟩ ∧ w.cell? ⟨g, off + j, none⟩ = some (.bool x) ∧ g < w.heap.size := by
  rcases h with ⟨_, he⟩ | ⟨g, off, cap, hv, h1, h2, hc⟩
  · rw [he] at hx; simp at hx
  · simp only [Value.slice.injEq] at hv
    obtain ⟨rfl, rfl, rfl⟩ := hv
    have h3 := hc j x hx 0 _ rfl
    have h4 : w.cell? ⟨g, off + j, none⟩ = some (.bool x) := by simpa [boolE] using h3
    exact ⟨g, off, rfl, h4, World.block_lt_of_cell? w _ h4⟩
theorem all_fr {ws : List ByteArray} (h : ∀ x ∈ ws, x.size ≤ 8000) : strsOf (allF (fr ws)) = ws := by
  have := allF_fr h []
  rw [List.append_nil, allF_nil, List.append_nil] at this
  rw [this, strs_back]
set_option maxRecDepth 20000 in
set_option maxHeartbeats 25600000 in
theorem walTwo_row (v : Value) (l : List ByteArray) (bv : Value) (bs : List Bool) (W : World) (hr : Rd W strE v l) (hp : ∀ x ∈ l, x.size ≤ maxLen) (hbr : Rd W boolE bv bs) (_ht : True) (hG : Gok W) :
    Calls Tryz.prog 5 #[v, bv] W fun e W' => e = .returned (.bool true) ∧ Below W.heap.size W W' := by
  have hGl := hid (Gl.base hG)
  obtain ⟨A, c, rfl, hlm, hlc⟩ := hr.form
  obtain ⟨bA, bc, rfl, hbm, hbc⟩ := hbr.form
  unfold maxLen at hlm hbm
  have rH := hid hr
  have pH := hid hp
  have bH := hid hbr
  have aw := hid (awake_c W _ hGl.out (Own.start W))
  clear hr hp hG hbr
  go_enter Tryz.func5, Tryz.ntmps5
  go_wp2_with fail
  refine aw.out.mono ?_
  rintro e w0 ⟨rfl, o0, e0⟩
  have o0H := hid o0
  clear o0 aw
  go_wp2_with fail
  refine (new_c w0 _ o0H.out).mono ?_
  rintro e w1 ⟨p, rfl, o1, e1⟩
  have h2 := wcreate_c p 5 _ (by decide) _ _ hGl.out (fbd_of (by decide) (by decide)) o1
  rw [one_create (by decide)] at h2
  unfold MadeSays at h2
  rw [if_pos rfl] at h2
  have g2 := hid h2
  have x1 := hid (e0.trans e1)
  clear h2 o1 o0H e0 e1
  go_wp2_with fail
  refine g2.out.mono ?_
  rintro e w2 ⟨qa, rfl, o2, e2⟩
  have x2 := hid (x1.out.trans e2)
  have h3 := wcreate_c p 3 _ (by decide) _ _ (hGl.out.cons _) (one_bd (bigN_of (by decide))) o2
  rw [two_create] at h3
  unfold MadeSays at h3
  rw [if_pos rfl] at h3
  have g3 := hid h3
  clear o2 e2 g2 x1 h3
  go_wp2_with fail
  refine g3.out.mono ?_
  rintro e w3 ⟨qb, rfl, o3, e3⟩
  have x3 := hid (x2.out.trans e3)
  have o4 := sl_empty' 9 strE (o3.alloc (.cells #[] 9 (0, 0)))
  have o5 := sl_empty' 9 strE (o4.alloc (.cells #[] 9 (0, 0)))
  rw [show (w3.alloc (.cells #[] 9 (0, 0))).heap.size = w3.heap.size + 1 by simp] at o5
  have o5H := hid (Own.arr [2, 4, 3, 1, 0, 5] o5)
  obtain ⟨i0, hi0, hz0, hz1, hz2⟩ := info_parts infoStr
  clear o3 e3 g3 x2 o4 o5
  go_wp2_with fail
  go_loopw [10, 11, 12] (fun u v i wr => ∃ (k : Nat) (az cs : List ByteArray), i = .int .i64 k ∧ k ≤ l.length ∧ k ≤ 60 ∧ az.length ≤ k ∧ cs.length ≤ k ∧ (fr az).length + (fr cs).length ≤ 8003 * k ∧ (∀ x ∈ az, x.size ≤ 8000) ∧ (∀ x ∈ cs, x.size ≤ 8000) ∧ Own wr [diskC p (twoD (fr az) (fr cs)), logC qa p (oneL 5 (fr az)), logC qb p (oneL 3 (fr cs)), sl 9 strE u az, sl 9 strE v cs, base W W.heap.size] ∧ Ext W wr) (fun _ _ i _ => l.length - (intOf i).toNat)
  case atStart => exact ⟨0, [], [], rfl, Nat.zero_le _, Nat.zero_le _, Nat.le_refl _, Nat.le_refl _, Nat.le_refl _, by simp, by simp, o5H.out, (x3.out.alloc _).alloc _⟩
  case round =>
    obtain ⟨k, az, cs, rfl, hk, hk60, hak, hck, hfl, has, hcs, ok, ek⟩ := hrel
    have oka := Own.pick 3 ok
    obtain ⟨uA, un, uc, rfl⟩ := sl_shape oka
    obtain ⟨hun, _, _⟩ := sl_n oka
    have okc := Own.pick 4 ok
    obtain ⟨vA, vn, vc, rfl⟩ := sl_shape okc
    obtain ⟨hvn, _, _⟩ := sl_n okc
    have okH := hid ok
    have ekH := hid ek
    have hasH := hid has
    have hcsH := hid hcs
    have hflH := hid hfl
    have hakH := hid hak
    have hckH := hid hck
    have hunH := hid hun
    have hvnH := hid hvn
    have hun2 : un ≤ 60 := by omega
    have hvn2 : vn ≤ 60 := by omega
    have bd := hid (two_bd (a := fr az) (b := fr cs) (bigN_of (n := (fr az).length + (fr cs).length) (by omega)))
    have hq := hid (show (fr az).length + (fr cs).length + 8003 ≤ 1048576 by omega)
    clear oka okc ek has hcs hun hvn ok hfl hak hck
    by_cases hlt : k < l.length ∧ k < 60
    · obtain ⟨hlt, hlt60⟩ := hlt
      obtain ⟨x, hx⟩ : ∃ x, l[k]? = some x := ⟨_, List.getElem?_eq_getElem hlt⟩
      have hxm := pH.out x (List.mem_of_getElem? hx)
      obtain ⟨g, off, rfl, c1, hg⟩ := rd_str (rd_here rH.out (Own.drops [_, _, _, _, _] okH.out)) hx
      have hki : (k : Int) < l.length := by omega
      have hki2 : (k : Int) < 60 := by omega
      have hxH2 := hid hx
      have hxzH := hid (Lib.size_eq x)
      have hxmH := hid hxm
      clear hx hxm
      have hways : (∃ g2 off2, bA = some ⟨g2, off2, none⟩ ∧ (k : Int) < bs.length ∧ wr.cell? ⟨g2, off2 + k, none⟩ = some (.bool true)) ∨ (∃ g2 off2, bA = some ⟨g2, off2, none⟩ ∧ (k : Int) < bs.length ∧ wr.cell? ⟨g2, off2 + k, none⟩ = some (.bool false)) ∨ ¬ (k : Int) < bs.length := by
        by_cases hb : k < bs.length
        · obtain ⟨b, hbe⟩ : ∃ b, bs[k]? = some b := ⟨_, List.getElem?_eq_getElem hb⟩
          obtain ⟨g2, off2, rfl, cb, _⟩ := rd_bool (rd_here bH.out (Own.drops [_, _, _, _, _] okH.out)) hbe
          cases b
          · exact .inr (.inl ⟨g2, off2, rfl, by omega, cb⟩)
          · exact .inl ⟨g2, off2, rfl, by omega, cb⟩
        · exact .inr (.inr (by omega))
      rcases hways with ⟨g2, off2, rfl, hbi, cb⟩ | hways
      · have had := wadd_c qa p _ (oneL 5 (fr az)) x (by show (5 : Nat) < _; decide) (bigN_of (n := (fr az).length) (by have := hflH.out; omega)) hxmH.out wr _ (by repeat (first | exact hGl.out | refine Gl.cons ?_ _)) bd.out okH.out
        rw [two_add5 hq.out] at had
        by_cases h8 : 8000 < x.data.toList.length
        · rw [if_pos h8] at had
          unfold AddSays at had
          have hadH := hid had
          clear h8 had
          go_wp2_with fail
          refine hadH.out.mono ?_
          rintro e w3 ⟨rfl, o3, e3⟩
          have o3H := hid o3
          clear o3
          go_wp2_with fail
          go_roundw
          case rel => exact ⟨k + 1, az, cs, by go_num, by omega, by omega, by have := hakH.out; omega, by have := hckH.out; omega, by have := hflH.out; omega, hasH.out, hcsH.out, o3H.out, ekH.out.trans e3⟩
          case measure => simp [intOf]; omega
        · have hfx := hid (frameB_small (t := x.data.toList) (by omega))
          have h8H : Hid (x.size ≤ 8000) := hid (by have := hxzH.out; omega)
          rw [if_neg h8] at had
          unfold AddSays at had
          have hadH := hid had
          clear h8 had
          go_wp2_with fail
          refine hadH.out.mono ?_
          rintro e w3 ⟨rfl, o3, e3⟩
          have c3 := rd_str1 (rd_here rH.out (Own.drops [_, _, _, _, _] o3)) hxH2.out
          have o3H := hid (Own.pick 3 o3)
          clear o3
          go_wp2_with (refine wpList_append_slc rfl _ _ _ rfl 9 i0 _ 1 16 Tryz.underlying28 hi0 hz0 hz1 hz2 rfl (by omega) _ un (strE.flat az) rfl (by have h := o3H.out.allocd (x := .cells #[.string x] 9 (0, 0)); unfold sl at h; rw [← hunH.out] at h; exact h) ⟨_, 0, none⟩ 1 1 [.string x] rfl rfl (cells_new _ _ _ _) (by simp [Value.oneCell']) (by unfold maxLen; omega) (by omega) ?_; intro v3 w4 o4 e4 _; obtain ⟨A3, n3, c3, rfl, o4H⟩ := slc_shape o4; clear o4)
          go_roundw
          case rel =>
            refine ⟨k + 1, az ++ [x], cs, by go_num, by omega, by omega, ?_, by have := hckH.out; omega, ?_, ?_, hcsH.out, ?_, (((ekH.out.trans e3).alloc _).trans e4)⟩
            · rw [List.length_append, List.length_singleton]; have := hakH.out; omega
            · rw [fr_snoc, List.length_append]; have := hflH.out; have := hfx.out; omega
            · intro y hy
              rcases List.mem_append.1 hy with hy | hy
              · exact hasH.out y hy
              · rw [List.mem_singleton] at hy; subst hy; exact h8H.out
            · rw [fr_snoc]
              exact Own.arr [1, 2, 3, 0, 4, 5] (sl_of (E := strE) (az ++ [x]) o4H.out (by rw [hunH.out]; simp) (by rw [strE.flat_append]; rfl))
          case measure => simp [intOf]; omega
      · have okB : Own wr [diskC p (twoD (fr az) (fr cs)), logC qb p (oneL 3 (fr cs)), logC qa p (oneL 5 (fr az)), sl 9 strE (.slice uA un uc) az, sl 9 strE (.slice vA vn vc) cs, base W W.heap.size] := Own.arr [0, 2, 1, 3, 4, 5] okH.out
        have had := wadd_c qb p _ (oneL 3 (fr cs)) x (by show (3 : Nat) < _; decide) (bigN_of (n := (fr cs).length) (by have := hflH.out; omega)) hxmH.out wr _ (by repeat (first | exact hGl.out | refine Gl.cons ?_ _)) bd.out okB
        rw [two_add3 hq.out] at had
        clear okB
        have hfx := fun h => hid (frameB_small (t := x.data.toList) h)
        rcases hways with ⟨g2, off2, rfl, hbi, cb⟩ | hbi
        all_goals
          by_cases h8 : 8000 < x.data.toList.length
          · rw [if_pos h8] at had
            unfold AddSays at had
            have hadH := hid had
            clear h8 had hfx
            go_wp2_with fail
            refine hadH.out.mono ?_
            rintro e w3 ⟨rfl, o3, e3⟩
            have o3H := hid (Own.arr [0, 2, 1, 3, 4, 5] o3)
            clear o3
            go_wp2_with fail
            go_roundw
            case rel => exact ⟨k + 1, az, cs, by go_num, by omega, by omega, by have := hakH.out; omega, by have := hckH.out; omega, by have := hflH.out; omega, hasH.out, hcsH.out, o3H.out, ekH.out.trans e3⟩
            case measure => simp [intOf]; omega
          · have hfx2 := hfx (by omega)
            have h8H : Hid (x.size ≤ 8000) := hid (by have := hxzH.out; omega)
            rw [if_neg h8] at had
            unfold AddSays at had
            have hadH := hid had
            clear h8 had hfx
            go_wp2_with fail
            refine hadH.out.mono ?_
            rintro e w3 ⟨rfl, o3, e3⟩
            have c3 := rd_str1 (rd_here rH.out (Own.drops [_, _, _, _, _] o3)) hxH2.out
            have o3H := hid (Own.pick 4 o3)
            clear o3
            go_wp2_with (refine wpList_append_slc rfl _ _ _ rfl 9 i0 _ 1 16 Tryz.underlying28 hi0 hz0 hz1 hz2 rfl (by omega) _ vn (strE.flat cs) rfl (by have h := o3H.out.allocd (x := .cells #[.string x] 9 (0, 0)); unfold sl at h; rw [← hvnH.out] at h; exact h) ⟨_, 0, none⟩ 1 1 [.string x] rfl rfl (cells_new _ _ _ _) (by simp [Value.oneCell']) (by unfold maxLen; omega) (by omega) ?_; intro v3 w4 o4 e4 _; obtain ⟨A3, n3, c3, rfl, o4H⟩ := slc_shape o4; clear o4)
            go_roundw
            case rel =>
              refine ⟨k + 1, az, cs ++ [x], by go_num, by omega, by omega, by have := hakH.out; omega, ?_, ?_, hasH.out, ?_, ?_, (((ekH.out.trans e3).alloc _).trans e4)⟩
              · rw [List.length_append, List.length_singleton]; have := hckH.out; omega
              · rw [fr_snoc, List.length_append]; have := hflH.out; have := hfx2.out; omega
              · intro y hy
                rcases List.mem_append.1 hy with hy | hy
                · exact hcsH.out y hy
                · rw [List.mem_singleton] at hy; subst hy; exact h8H.out
              · rw [fr_snoc]
                exact Own.arr [1, 3, 2, 4, 0, 5] (sl_of (E := strE) (cs ++ [x]) o4H.out (by rw [hvnH.out]; simp) (by rw [strE.flat_append]; rfl))
            case measure => simp [intOf]; omega
    · have hk1 : ¬ (k : Int) < l.length ∨ ((k : Int) < l.length ∧ ¬ (k : Int) < 60) := by omega
      have r1 := wreplay_c p 5 (twoD (fr az) (fr cs)) (by decide) wr _ (by repeat (first | exact hGl.out | refine Gl.cons ?_ _)) bd.out okH.out
      rw [two_replay5] at r1
      unfold ReplaySays at r1
      dsimp only at r1
      rw [all_fr hasH.out] at r1
      have r1H := hid r1
      have bdR := hid (twoR_bd (a := fr az) (b := fr cs) (bigN_of (n := (fr az).length + (fr cs).length + 1) (by have := hflH.out; omega)))
      clear r1 hlt
      go_upto_region 17 with (fail)
      all_goals
        clear hk1
        go_wp2_with fail
        refine r1H.out.mono ?_
        rintro e w3 ⟨p5, rfl, o3, e3⟩
        obtain ⟨PA, pn, pc, rfl⟩ := sl_shape o3
        have x3H := hid (ekH.out.trans e3)
        have r2 := wreplay_c p 3 (twoD (fr az) (fr cs)) (by decide) w3 _ (by repeat (first | exact hGl.out | refine Gl.cons ?_ _)) bd.out o3.swap
        rw [two_replay3] at r2
        unfold ReplaySays at r2
        dsimp only at r2
        rw [all_fr hcsH.out] at r2
        have r2H := hid r2
        clear r2 o3 e3 r1H
        go_wp2_with fail
        refine r2H.out.mono ?_
        rintro e w4 ⟨p3, rfl, o4, e4⟩
        obtain ⟨QA, qn, qc, rfl⟩ := sl_shape o4
        have x4H := hid (x3H.out.trans e4)
        have t1 := texts_c (sl_rd (Own.pick 2 o4)) (sl_rd (Own.pick 5 o4))
        rw [show decide (az = az) = true by simp] at t1
        have t1H := hid t1
        have o4H := hid o4
        clear o4 e4 t1 r2H
        go_wp2_with fail
        refine t1H.out.mono ?_
        rintro e w5 ⟨rfl, e5, k5⟩
        have x5H := hid (x4H.out.trans e5)
        have o5H := hid (k5.own o4H.out)
        have t2 := texts_c (sl_rd o5H.out) (sl_rd (Own.pick 6 o5H.out))
        rw [show decide (cs = cs) = true by simp] at t2
        have t2H := hid t2
        clear t2 k5 e5 t1H
        go_wp2_with fail
        refine t2H.out.mono ?_
        rintro e w6 ⟨rfl, e6, k6⟩
        have x6H := hid (x5H.out.trans e6)
        have o6H := hid (k6.own o5H.out)
        have r3 := wremove_c p 3 (twoD (fr az) (fr cs)) (by decide) w6 _ (by repeat (first | exact hGl.out | refine Gl.cons ?_ _)) bd.out (Own.swap o6H.out)
        rw [two_rem] at r3
        unfold RemSays at r3
        have r3H := hid r3
        clear r3 k6 e6 t2H
        go_wp2_with fail
        refine r3H.out.mono ?_
        rintro e w7 ⟨rfl, o7, e7⟩
        have x7H := hid (x6H.out.trans e7)
        have r4 := wreplay_c p 5 (twoR (fr az) (fr cs)) (by decide) w7 _ (by repeat (first | exact hGl.out | refine Gl.cons ?_ _)) bdR.out o7
        rw [twoR_replay5] at r4
        unfold ReplaySays at r4
        dsimp only at r4
        rw [all_fr hasH.out] at r4
        have r4H := hid r4
        clear r4 o7 e7 r3H
        go_wp2_with fail
        refine r4H.out.mono ?_
        rintro e w8 ⟨p5', rfl, o8, e8⟩
        obtain ⟨RA, rn, rc, rfl⟩ := sl_shape o8
        have x8H := hid (x7H.out.trans e8)
        have r5 := wreplay_c p 3 (twoR (fr az) (fr cs)) (by decide) w8 _ (by repeat (first | exact hGl.out | refine Gl.cons ?_ _)) bdR.out o8.swap
        rw [twoR_replay3] at r5
        unfold ReplaySays at r5
        dsimp only at r5
        have r5H := hid r5
        clear r5 o8 e8 r4H
        go_wp2_with fail
        refine r5H.out.mono ?_
        rintro e w9 ⟨v9, rfl, o9, e9⟩
        have x9H := hid (x8H.out.trans e9)
        have nl : (namesOf (twoR (fr az) (fr cs)).now).filterMap walNumber = [5] := twoR_names
        have r6 := wnumbers1_c p (twoR (fr az) (fr cs)) w9 _ (by repeat (first | exact hGl.out | refine Gl.cons ?_ _)) (by rw [nl]; exact Nat.le_refl _) o9.swap
        rw [nl] at r6
        unfold NumbersSays at r6
        have r6H := hid r6
        clear r6 o9 e9 nl r5H
        go_wp2_with fail
        refine r6H.out.mono ?_
        rintro e w10 ⟨nv, rfl, o10, e10⟩
        have x10H := hid (x9H.out.trans e10)
        have t3 := texts_c (sl_rd (Own.pick 3 o10)) (sl_rd (Own.pick 8 o10))
        rw [show decide (az = az) = true by simp] at t3
        have t3H := hid t3
        have o10H := hid o10
        clear o10 e10 t3 r6H
        go_wp2_with fail
        refine t3H.out.mono ?_
        rintro e w11 ⟨rfl, e11, k11⟩
        have x11H := hid (x10H.out.trans e11)
        have o11 := k11.own o10H.out
        obtain ⟨ng, nc, rfl, cn, ng1⟩ := one_num o11
        have o11H := hid o11
        clear o11 e11 k11 t3H
        go_wp2
        go_ret
        exact ⟨rfl, below_of_own (Own.drops [_, _, _, _, _, _, _, _, _, _] o11H.out) x11H.out⟩
end Go.Proofs.YtfdpoocdfbdhpaaGreatDoor
