/- The walk of WalTail. -/
import Derived.Test.YtfdpoocdfbdhpaaGreatDoorWalO
import Derived.Test.YtfdpoocdfbdhpaaGreatDoorWalT
import Derived.Test.YtfdpoocdfbdhpaaGreatDoorSle
namespace Go.Proofs.YtfdpoocdfbdhpaaGreatDoor
open Go.RowKit Go.Sl Go.Scree Go.Maps

theorem bigN_of {n : Nat} (h : n ≤ 1000000) : n ≤ bigN := Nat.le_trans h (by unfold bigN; decide)
theorem strs_back (ws : List ByteArray) : strsOf (ws.map fun x => x.data.toList) = ws := by
  induction ws with
  | nil => rfl
  | cons x ws ih =>
    unfold strsOf at ih ⊢
    rw [List.map_cons, List.map_cons, ih]
theorem strs_app (a b : List (List UInt8)) : strsOf (a ++ b) = strsOf a ++ strsOf b := by unfold strsOf; rw [List.map_append]
theorem rd_str1 {w : World} {g off n c j : Nat} {xs : List ByteArray} {x : ByteArray} (h : Rd w strE (.slice (some ⟨g, off, none⟩) n c) xs) (hx : xs[j]? = some x) : w.cell? ⟨g, off + j, none⟩ = some (.string x) := by
  obtain ⟨g', off', he, hc, _⟩ := rd_str h hx
  simp only [Option.some.injEq, Addr.mk.injEq, and_true] at he
  obtain ⟨rfl, rfl⟩ := he
  exact hc
theorem and_cases {a b : Prop} [Decidable a] [Decidable b] (h : ¬ (a ∧ b)) : ¬ a ∨ (a ∧ ¬ b) := by
  by_cases ha : a
  · exact .inr ⟨ha, fun hb => h ⟨ha, hb⟩⟩
  · exact .inl ha
set_option maxRecDepth 20000 in
set_option maxHeartbeats 6400000 in
theorem walTail_row (v : Value) (l : List ByteArray) (tail : ByteArray) (W : World) (hr : Rd W strE v l) (hp : ∀ x ∈ l, x.size ≤ maxLen) (hs : tail.size ≤ 140737488351232) (hG : Gok W) :
    Calls Tryz.prog 6 #[v, .string tail] W fun e W' => e = .returned (.bool true) ∧ Below W.heap.size W W' := by
  have hGl := hid (Gl.base hG)
  obtain ⟨A, c, rfl, hlm, hlc⟩ := hr.form
  unfold maxLen at hlm
  have rH := hid hr
  have pH := hid hp
  have aw := hid (awake_c W _ hGl.out (Own.start W))
  clear hr hp hG
  go_enter Tryz.func6, Tryz.ntmps6
  go_wp2_with fail
  refine aw.out.mono ?_
  rintro e w0 ⟨rfl, o0, e0⟩
  have o0H := hid o0
  clear o0 aw
  by_cases hts : tail.size ≤ 8100
  · have hti : ¬ (tail.size : Int) > 8100 := by omega
    have htsH := hid hts
    clear hts hs
    go_wp2_with fail
    refine (new_c w0 _ o0H.out).mono ?_
    rintro e w1 ⟨p, rfl, o1, e1⟩
    have h2 := wcreate_c p 1 _ (by decide) _ _ hGl.out (fbd_of (by decide) (by decide)) o1
    rw [one_create (by decide)] at h2
    unfold MadeSays at h2
    rw [if_pos rfl] at h2
    have g2 := hid h2
    have x1 := hid (e0.trans e1)
    clear h2 o1 o0H e0 e1
    go_wp2_with fail
    refine g2.out.mono ?_
    rintro e w2 ⟨q, rfl, o2, e2⟩
    have x2 := hid (x1.out.trans e2)
    have o2H := hid (Own.arr [1, 2, 0, 3] (sl_empty' 9 strE (o2.alloc (.cells #[] 9 (0, 0)))))
    obtain ⟨i0, hi0, hz0, hz1, hz2⟩ := info_parts infoStr
    clear o2 e2 g2 x1
    go_wp2_with fail
    go_loopw [8, 9] (fun u i wr => ∃ (k : Nat) (ws : List ByteArray), i = .int .i64 k ∧ k ≤ l.length ∧ k ≤ 60 ∧ ws.length ≤ k ∧ (fr ws).length ≤ 8003 * k ∧ (∀ x ∈ ws, x.size ≤ 8000) ∧ Own wr [diskC p (oneD (walName 1) (fr ws) (fr ws).length 1048576 0 false false), logC q p (oneL 1 (fr ws)), sl 9 strE u ws, base W W.heap.size] ∧ Ext W wr) (fun _ i _ => l.length - (intOf i).toNat)
    case atStart => exact ⟨0, [], rfl, Nat.zero_le _, Nat.zero_le _, Nat.le_refl _, Nat.le_refl _, by simp, o2H.out, x2.out.alloc _⟩
    case round =>
      obtain ⟨k, ws, rfl, hk, hk60, hwk, hfl, hws, ok, ek⟩ := hrel
      have ok2 := Own.pick 2 ok
      obtain ⟨uA, un, uc, rfl⟩ := sl_shape ok2
      obtain ⟨hun, _, _⟩ := sl_n ok2
      have okH := hid ok
      have ekH := hid ek
      have hwsH := hid hws
      have hflH := hid hfl
      have hwkH := hid hwk
      have hunH := hid hun
      have hun2 : un ≤ 60 := by omega
      have bd := hid (one_bd (nm := walName 1) (b := fr ws) (s := (fr ws).length) (q := 1048576) (f := 0) (lit := false) (dead := false) (bigN_of (n := (fr ws).length) (by omega)))
      clear ok2 ek hws hun
      by_cases hlt : k < l.length ∧ k < 60
      · obtain ⟨hlt, hlt60⟩ := hlt
        obtain ⟨x, hx⟩ : ∃ x, l[k]? = some x := ⟨_, List.getElem?_eq_getElem hlt⟩
        have hxm := pH.out x (List.mem_of_getElem? hx)
        obtain ⟨g, off, rfl, c1, hg⟩ := rd_str (rd_here rH.out (Own.drops [_, _, _] okH.out)) hx
        have hki : (k : Int) < l.length := by omega
        have hki2 : (k : Int) < 60 := by omega
        have had := wadd_c q p _ (oneL 1 (fr ws)) x (by show (1 : Nat) < _; decide) (bigN_of (n := (fr ws).length) (by omega)) hxm wr _ (hGl.out.cons _) bd.out okH.out
        rw [one_add] at had
        have hxz := Lib.size_eq x
        have hxH2 := hid hx
        by_cases h8 : 8000 < x.data.toList.length
        · rw [if_pos h8] at had
          unfold AddSays at had
          have hadH := hid had
          clear h8 hxz hxm hx had
          go_wp2_with fail
          refine hadH.out.mono ?_
          rintro e w3 ⟨rfl, o3, e3⟩
          have o3H := hid o3
          clear o3
          go_wp2_with fail
          go_roundw
          case rel => exact ⟨k + 1, ws, by go_num, by omega, by omega, by have := hwkH.out; omega, by have := hflH.out; omega, hwsH.out, o3H.out, ekH.out.trans e3⟩
          case measure => simp [intOf]; omega
        · have hfx := frameB_small (t := x.data.toList) (by omega)
          rw [if_neg h8, if_neg (by omega)] at had
          unfold AddSays at had
          have hadH := hid had
          have h8H : Hid (x.size ≤ 8000) := hid (by omega)
          have hfxH := hid hfx
          clear h8 hxz hxm hx had hfx
          go_wp2_with fail
          refine hadH.out.mono ?_
          rintro e w3 ⟨rfl, o3, e3⟩
          have c3 := rd_str1 (rd_here rH.out (Own.drops [_, _, _] o3)) hxH2.out
          have o3H := hid (Own.pick 2 o3)
          clear o3
          go_wp2_with (refine wpList_append_slc rfl _ _ _ rfl 9 i0 _ 1 16 Tryz.underlying28 hi0 hz0 hz1 hz2 rfl (by omega) _ un (strE.flat ws) rfl (by have h := o3H.out.allocd (x := .cells #[.string x] 9 (0, 0)); unfold sl at h; rw [← hunH.out] at h; exact h) ⟨_, 0, none⟩ 1 1 [.string x] rfl rfl (cells_new _ _ _ _) (by simp [Value.oneCell']) (by unfold maxLen; omega) (by omega) ?_; intro v3 w4 o4 e4 _; obtain ⟨A3, n3, c3, rfl, o4H⟩ := slc_shape o4; clear o4)
          go_roundw
          case rel =>
            refine ⟨k + 1, ws ++ [x], by go_num, by omega, by omega, ?_, ?_, ?_, ?_, (((ekH.out.trans e3).alloc _).trans e4)⟩
            · rw [List.length_append, List.length_singleton]; have := hwkH.out; omega
            · rw [fr_snoc, List.length_append]; have := hflH.out; have := hfxH.out; omega
            · intro y hy
              rcases List.mem_append.1 hy with hy | hy
              · exact hwsH.out y hy
              · rw [List.mem_singleton] at hy; subst hy; exact h8H.out
            · rw [fr_snoc]
              exact Own.arr [1, 2, 0, 3] (sl_of (E := strE) (ws ++ [x]) o4H.out (by rw [hunH.out]; simp) (by rw [strE.flat_append]; rfl))
          case measure => simp [intOf]; omega
      · have g3 := hid (name_c 1 (by decide) wr (hGl.out _ (Own.drops [_, _, _] okH.out)))
        have hcc := and_cases hlt
        have hap := hid (fun w' (o' : Own w' (diskC p (oneD (walName 1) (fr ws) (fr ws).length 1048576 0 false false) :: [logC q p (oneL 1 (fr ws)), sl 9 strE (.slice uA un uc) ws, base W W.heap.size])) => append_c p _ (walName 1) tail w' _ (name_max 1) (by rw [one_size]; exact bigN_of (by have := hflH.out; omega)) (bigN_of (by have := htsH.out; omega)) o')
        rw [one_append] at hap
        unfold AppendSays at hap
        have hqd : ¬ (1048576 : Int) < (((fr ws).length + tail.data.toList.length : Nat) : Int) := by
          have := hflH.out; have := htsH.out; have := Lib.size_eq tail; omega
        rw [if_neg hqd] at hap
        have hk1 : ¬ (k : Int) < l.length ∨ ((k : Int) < l.length ∧ ¬ (k : Int) < 60) := by omega
        clear hqd hcc hlt
        go_upto_region 15 with (fail)
        all_goals
          go_wp2_with fail
          refine g3.out.mono ?_
          rintro e w3 ⟨rfl, k3⟩
          have o3H := hid (k3.own okH.out)
          have x3H := hid (ekH.out.trans k3.ext)
          clear k3
          go_wp2_with fail
          refine (hap.out _ o3H.out).mono ?_
          rintro e w4 ⟨rfl, o4, e4⟩
          have h5 := wreplay_c p 1 _ (by decide) w4 _ ((hGl.out.cons _).cons _) (one_bd (bigN_of (by rw [List.length_append]; have := hflH.out; have := htsH.out; have := Lib.size_eq tail; omega))) o4
          rw [one_replay (by decide), allF_fr hwsH.out] at h5
          unfold ReplaySays at h5
          dsimp only at h5
          rw [strs_app, strs_back] at h5
          have x4H := hid (x3H.out.trans e4)
          have h5H := hid h5
          clear h5 o4 e4
          have hcl : tail.data.toList = [] → strsOf (allF tail.data.toList) = [] := by intro he; rw [he, allF_nil]; rfl
          have hclH := hid hcl
          clear hcl
          generalize strsOf (allF tail.data.toList) = rest at h5H hclH
          go_wp2_with fail
          refine h5H.out.mono ?_
          rintro e w5 ⟨gv, rfl, o5, e5⟩
          obtain ⟨gA, gn, gc, rfl⟩ := sl_shape o5
          obtain ⟨hgn, hgc, hgm⟩ := sl_n o5
          rw [List.length_append] at hgn
          have hle : un ≤ gn := by rw [hgn, hunH.out]; omega
          have r1 := rd_take (sl_rd o5) un hle
          rw [show (ws ++ rest).take un = ws by rw [hunH.out, List.take_left]] at r1
          have r2 := sl_rd (Own.pick 3 o5)
          have ht := hid (texts_c r1 r2)
          rw [show decide (ws = ws) = true by simp] at ht
          have o5H := hid o5
          have x5H := hid (x4H.out.trans e5)
          have hte : (tail.toList = [] ∧ ((gn : Int) == (un : Int)) = true) ∨ ¬ tail.toList = [] := by
            by_cases he : tail.data.toList = []
            · refine .inl ⟨by rw [Lib.toList_data]; exact he, ?_⟩
              rw [hgn, hclH.out he, hunH.out]; simp
            · exact .inr (by rw [Lib.toList_data]; exact he)
          have hgi : (un : Int) ≤ gn := by omega
          unfold maxLen at hgm
          clear o5 r1 r2 hgn
          rcases hte with ⟨ht1, ht2⟩ | ht1
          · go_wp2_with fail
            refine ht.out.mono ?_
            rintro e w6 ⟨rfl, e6, k6⟩
            have o6H := hid (k6.own o5H.out)
            have x6H := hid (x5H.out.trans e6)
            clear k6
            go_wp2
            go_ret
            exact ⟨rfl, below_of_own (Own.drops [_, _, _, _] o6H.out) x6H.out⟩
          · go_wp2_with fail
            refine ht.out.mono ?_
            rintro e w6 ⟨rfl, e6, k6⟩
            have o6H := hid (k6.own o5H.out)
            have x6H := hid (x5H.out.trans e6)
            clear k6
            go_wp2
            go_ret
            exact ⟨rfl, below_of_own (Own.drops [_, _, _, _] o6H.out) x6H.out⟩
  · have hti : (tail.size : Int) > 8100 := by omega
    clear hts
    go_wp2_with fail
    go_ret
    exact ⟨rfl, below_of_own o0H.out e0⟩
end Go.Proofs.YtfdpoocdfbdhpaaGreatDoor
