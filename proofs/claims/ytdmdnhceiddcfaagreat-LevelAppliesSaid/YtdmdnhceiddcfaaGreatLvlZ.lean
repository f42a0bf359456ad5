/- slices.SortStableFunc at tables. -/
import Derived.Test.YtdmdnhceiddcfaaGreatLvlX
import Derived.Test.YtdmdnhceiddcfaaGreatLvlU
set_option linter.all false
namespace Go.Proofs.YtdmdnhceiddcfaaGreat
open Go.RowKit Go.Sl Go.Scree Go.Shelf

theorem low_ltOf (a b : MetaM) : ltOf lowF a b = ltK a.first b.first := low_lt a b
theorem lowSWO : Go.Sort.SWO (ltOf lowF) where
  irrefl x := by rw [low_ltOf]; exact ltK_irrefl _
  trans x y z h k := by rw [low_ltOf] at *; exact ltK_trans h k
  ntrans x y z h k := by
    rw [low_ltOf] at *
    exact UpF.trans (a := z) (b := y) (c := x) k h
theorem lowLays (blk off size : Nat) (w : World) : CmpLays Tryz.prog 56 #[] metaE.cells 5 lowF blk off size w := fun m os dk _ x y => lower_c x y _
/-- insertionSort puts a part in order. -/
theorem minsort_c {F : List Chunk} (g cap a b : Nat) (ys : List MetaM) (hab : a ≤ b) (hb : b ≤ ys.length) (hn : ys.length ≤ 1000000) (w : World) (L : Nat) (hL : L = ys.length) (o : Own w (sl 43 metaE (.slice (some ⟨g, 0, none⟩) L cap) ys :: F)) :
    Calls Tryz.prog 79 #[.slice (some ⟨g, 0, none⟩) L cap, .int .i64 a, .int .i64 b, .func (.func 56) #[] #[]] w fun e w' => e = .returned (.tuple #[]) ∧ ∃ zs W, Put ys zs W a b ∧ W.Perm (seg ys a b) ∧ Up W ∧ Own w' (sl 43 metaE (.slice (some ⟨g, 0, none⟩) L cap) zs :: F) ∧ Ext w w' := by
  subst hL
  obtain ⟨hH, hbk, _⟩ := own_holdsK o
  have h := AnyQ.insertionSortCmpFunc Lvl.mins 5 Tryz.isAgg43 Tryz.sizeOf43 metaE.cells metaE.len one_metaE lowF 56 #[] g 0 cap a b ys.toArray w lower_eg (lowLays g 0 _ w) hH hbk hab (by simpa using hb) (by simp; omega)
  refine h.mono ?_
  rintro e w' ⟨rfl, n, os, rfl⟩
  obtain ⟨hp, hs⟩ := Go.Sort.insertionSort_holds (lt := ltOf lowF) lowSWO ys.toArray a b hab (by simpa using hb)
  obtain ⟨W, h1, h2, h3⟩ := put_of_permIn hab hb hp
  obtain ⟨o2, e2⟩ := own_sortedK o (Go.Sort.insertionSort (ltOf lowF) ys.toArray a b) (by rw [hp.1]; simp) n os
  refine ⟨rfl, _, W, h1, h2, ?_, o2, e2⟩
  rw [h3]
  have hsz : (Go.Sort.insertionSort (ltOf lowF) ys.toArray a b).size = ys.length := by rw [hp.1]; simp
  refine List.pairwise_iff_getElem.2 fun i j hi hj hij => ?_
  rw [seg_len (by rw [Array.length_toList, hsz]; exact hb)] at hi hj
  have := hs (a + i) (a + j) (by omega) (by omega) (by omega)
  rw [low_ltOf, getElem!_pos _ (a + j) (by rw [hsz]; omega), getElem!_pos _ (a + i) (by rw [hsz]; omega)] at this
  simp only [seg, List.getElem_take, List.getElem_drop]
  simpa [UpF] using this
/-- symMerge puts two runs side by side in order. -/
theorem msymS_c {F : List Chunk} (g cap a m b : Nat) (ys : List MetaM) (ham : a < m) (hmb : m < b) (hb : b ≤ ys.length) (h1 : Up (seg ys a m)) (h2 : Up (seg ys m b)) (hn : ys.length ≤ 1000000) (w : World) (L : Nat) (hL : L = ys.length) (o : Own w (sl 43 metaE (.slice (some ⟨g, 0, none⟩) L cap) ys :: F)) :
    Calls Tryz.prog 87 #[.slice (some ⟨g, 0, none⟩) L cap, .int .i64 a, .int .i64 m, .int .i64 b, .func (.func 56) #[] #[]] w fun e w' => e = .returned (.tuple #[]) ∧ ∃ zs W, Put ys zs W a b ∧ zs.Perm ys ∧ Up W ∧ Own w' (sl 43 metaE (.slice (some ⟨g, 0, none⟩) L cap) zs :: F) ∧ Ext w w' := by
  have hp := seg_parts (ys := ys) (Nat.le_of_lt ham) (Nat.le_of_lt hmb)
  have l1 : (seg ys a m).length = m - a := seg_len (by omega)
  have l2 : (seg ys m b).length = b - m := seg_len hb
  have l0 : (ys.take a).length = a := by rw [List.length_take]; omega
  refine (msym_says F g cap L ((seg ys a m).length + (seg ys m b).length + 1) a m b (ys.take a) (seg ys a m) (seg ys m b) (ys.drop b) ys (by omega) hp l0.symm (by omega) (by omega) (by omega) (by omega) h1 h2 hn hL w o).mono ?_
  rintro e w' ⟨he, W, p, s, o', x'⟩
  refine ⟨he, _, W, ⟨rfl, by omega, hb, by rw [p.length_eq, List.length_append]; omega⟩, ?_, s, o', x'⟩
  conv => rhs; rw [hp]
  rw [← List.append_assoc (seg ys a m)]
  exact (p.append_right _).append_left _

set_option maxRecDepth 20000 in
set_option maxHeartbeats 6400000 in
theorem mstab_c {F : List Chunk} (g cap : Nat) (xs : List MetaM) (hn : xs.length ≤ 100000) (w : World) (o : Own w (sl 43 metaE (.slice (some ⟨g, 0, none⟩) xs.length cap) xs :: F)) :
    Calls Tryz.prog 65 #[.slice (some ⟨g, 0, none⟩) xs.length cap, .int .i64 xs.length, .func (.func 56) #[] #[]] w fun e w' => e = .returned (.tuple #[]) ∧ ∃ ys, Own w' (sl 43 metaE (.slice (some ⟨g, 0, none⟩) xs.length cap) ys :: F) ∧ Ext w w' ∧ ys.Perm xs ∧ Up ys := by
  have oH := hid o
  clear o
  generalize hL : xs.length = L at *
  have hLH := hid hL
  clear hL
  go_enter Tryz.func65, Tryz.ntmps65
  go_wp2_with fail
  go_loopw [7, 8] (fun s7 s8 wr => ∃ (a b : Nat) (ys : List MetaM), s7 = .int .i64 a ∧ s8 = .int .i64 b ∧ b = a + 20 ∧ a ≤ L ∧ ys.Perm xs ∧ RunsTo 20 ys a ∧ Own wr (sl 43 metaE (.slice (some ⟨g, 0, none⟩) L cap) ys :: F) ∧ Ext w wr) (fun s7 _ _ => L + 20 - (intOf s7).toNat)
  case atStart => exact ⟨0, 20, xs, rfl, rfl, rfl, Nat.zero_le _, List.Perm.refl _, .zero, oH.out, Ext.refl _⟩
  case round =>
    obtain ⟨a, b, ys, rfl, rfl, hb, haL, hp, hr, ok, ek⟩ := hrel
    have hbH := hid hb
    have hpH := hid hp
    have hrH := hid hr
    have hyl : Hid (ys.length = L) := hid (by rw [hp.length_eq]; exact hLH.out)
    have okH := hid ok
    have ekH := hid ek
    have hb6 : b ≤ 200000 := by omega
    clear hb hp hr ok ek
    by_cases hbL : b ≤ L
    · have hc := hid (minsort_c g cap a b ys (by have := hbH.out; omega) (by rw [hyl.out]; exact hbL) (by rw [hyl.out]; omega) wr L hyl.out.symm okH.out)
      go_wp2_with fail
      refine hc.out.mono ?_
      rintro e w2 ⟨rfl, zs, W, h1, h2, h3, o2, e2⟩
      have o2H := hid o2
      have hzl : zs.length = ys.length := (h1.perm h2).length_eq
      have hr2 : Hid (RunsTo 20 zs b) := hid (by
        have e := hbH.out
        have k1 := hrH.out.keep hzl (h1.take (Nat.le_refl _))
        have k2 := RunsTo.step k1 (by rw [hzl, hyl.out]; omega) (by rw [← e, h1.seg]; exact h3)
        rwa [← e] at k2)
      have hp2 := hid ((h1.perm h2).trans hpH.out)
      have hw : IntKind.i64.wrap ((b : Int) + 20) = ((b + 20 : Nat) : Int) := by rw [IntWalk.i64_in _ (by omega)]; omega
      clear o2 h1 h2 h3 hzl
      go_wp2_with fail
      go_roundw
      case rel => exact ⟨b, b + 20, zs, rfl, by go_num, rfl, hbL, hp2.out, hr2.out, o2H.out, ekH.out.trans e2⟩
      case measure => have := hbH.out; simp [intOf]; omega
    · have hc := hid (minsort_c g cap a L ys haL (by rw [hyl.out]; exact Nat.le_refl _) (by rw [hyl.out]; omega) wr L hyl.out.symm okH.out)
      go_wp2_with fail
      refine hc.out.mono ?_
      rintro e w2 ⟨rfl, zs, W, h1, h2, h3, o2, e2⟩
      have o2H := hid o2
      have hzl : zs.length = ys.length := (h1.perm h2).length_eq
      have hr2 : Hid (Runs 20 zs 0) := hid (by
        have e := hbH.out
        have k1 := hrH.out.keep hzl (h1.take (Nat.le_refl _))
        refine k1.join ?_
        rcases Nat.lt_or_ge a L with k | k
        · refine .last (by rw [hzl, hyl.out]; exact k) (by rw [hzl, hyl.out]; omega) ?_
          rw [hzl, hyl.out, h1.seg]; exact h3
        · exact .done (by rw [hzl, hyl.out]; exact k))
      have hp2 := hid ((h1.perm h2).trans hpH.out)
      clear o2 h1 h2 h3 hzl
      go_wp2_with fail
      go_loopw [6, 7, 8, 9] (fun s6 _ _ _ wr => ∃ (k : Nat) (ys : List MetaM), s6 = .int .i64 k ∧ 1 ≤ k ∧ k ≤ 2 * (L + 20) ∧ ys.Perm xs ∧ Runs k ys 0 ∧ Own wr (sl 43 metaE (.slice (some ⟨g, 0, none⟩) L cap) ys :: F) ∧ Ext w wr) (fun s6 _ _ _ _ => 2 * (L + 20) + 1 - (intOf s6).toNat)
      case atStart => exact ⟨20, zs, rfl, by omega, by omega, hp2.out, hr2.out, o2H.out, ekH.out.trans e2⟩
      case round =>
        clear hbL hb6 haL
        obtain ⟨k, ys, rfl, hk1, hk2, hp, hr, ok, ek⟩ := hrel
        have hpH := hid hp
        have hrH := hid hr
        have hyl : Hid (ys.length = L) := hid (by rw [hp.length_eq]; exact hLH.out)
        have okH := hid ok
        have ekH := hid ek
        clear hp hr ok ek
        by_cases hkL : k < L
        · obtain ⟨k2, hk2e⟩ : ∃ k2, 2 * k = k2 := ⟨_, rfl⟩
          have hw2 : IntKind.i64.wrap (2 * (k : Int)) = (k2 : Int) := by rw [IntWalk.i64_in _ (by omega)]; omega
          have hw2' : IntKind.i64.wrap ((k : Int) * 2) = (k2 : Int) := by rw [IntWalk.i64_in _ (by omega)]; omega
          have hk26 : k2 ≤ 1000000 := by omega
          have hk2H := hid hk2e
          clear hk2e
          go_wp2_with fail
          go_loopw [7, 8] (fun s7 s8 wr => ∃ (a b : Nat) (ys : List MetaM), s7 = .int .i64 a ∧ s8 = .int .i64 b ∧ b = a + k2 ∧ a ≤ L ∧ ys.Perm xs ∧ RunsTo k2 ys a ∧ Runs k ys a ∧ Own wr (sl 43 metaE (.slice (some ⟨g, 0, none⟩) L cap) ys :: F) ∧ Ext w wr) (fun s7 _ _ => L + 1 - (intOf s7).toNat)
          case atStart => exact ⟨0, k2, ys, rfl, rfl, by omega, Nat.zero_le _, hpH.out, .zero, hrH.out, okH.out, ekH.out⟩
          case round =>
            clear okH hrH hpH hyl ekH
            obtain ⟨a, b, ys, rfl, rfl, hb, haL, hp, ht, hr, ok, ek⟩ := hrel
            have hbH := hid hb
            have hpH := hid hp
            have htH := hid ht
            have hrH := hid hr
            have hyl : Hid (ys.length = L) := hid (by rw [hp.length_eq]; exact hLH.out)
            have okH := hid ok
            have ekH := hid ek
            have hb6 : b ≤ 2000000 := by omega
            obtain ⟨m, hm⟩ : ∃ m, a + k = m := ⟨_, rfl⟩
            have hwm : IntKind.i64.wrap ((a : Int) + (k : Int)) = (m : Int) := by rw [IntWalk.i64_in _ (by omega)]; omega
            have hmH := hid hm
            clear hb hp ht hr ok ek hm
            by_cases hbL : b ≤ L
            · have hc := hid (msymS_c g cap a m b ys (by have := hmH.out; omega) (by have := hmH.out; have := hbH.out; have := hk2H.out; omega) (by rw [hyl.out]; exact hbL) (by rw [← hmH.out]; exact (hrH.out.first (by rw [hyl.out]; have := hbH.out; have := hk2H.out; omega) (by omega)).1)
                (by
                  have e1 := (hrH.out.first (by rw [hyl.out]; have := hbH.out; have := hk2H.out; omega) (by omega)).2
                  have e2 := (e1.first (by rw [hyl.out]; have := hbH.out; have := hk2H.out; omega) (by omega)).1
                  rw [hmH.out] at e2
                  rwa [show b = m + k by have := hbH.out; have := hk2H.out; have := hmH.out; omega])
                (by rw [hyl.out]; omega) wr L hyl.out.symm okH.out)
              go_wp2_with fail
              refine hc.out.mono ?_
              rintro e w2 ⟨rfl, zs, W, h1, h2, h3, o2, e2⟩
              have o2H := hid o2
              have hzl : zs.length = ys.length := h2.length_eq
              have hr2 : Hid (RunsTo k2 zs b) := hid (by
                have e := hbH.out
                have k1 := htH.out.keep hzl (h1.take (Nat.le_refl _))
                have k2' := RunsTo.step k1 (by rw [hzl, hyl.out]; omega) (by rw [← e, h1.seg]; exact h3)
                rwa [← e] at k2')
              have hr3 : Hid (Runs k zs b) := hid (by
                have e1 := (hrH.out.first (by rw [hyl.out]; have := hbH.out; have := hk2H.out; omega) (by omega)).2
                have e2 := (e1.first (by rw [hyl.out]; have := hbH.out; have := hk2H.out; omega) (by omega)).2
                rw [show a + k + k = b by have := hbH.out; have := hk2H.out; omega] at e2
                exact e2.keep hzl (h1.drop (Nat.le_refl _)))
              have hp2 := hid (h2.trans hpH.out)
              have hw : IntKind.i64.wrap ((b : Int) + (k2 : Int)) = ((b + k2 : Nat) : Int) := by rw [IntWalk.i64_in _ (by omega)]; omega
              clear o2 h1 h2 h3 hzl
              go_wp2_with fail
              go_roundw
              case rel => exact ⟨b, b + k2, zs, rfl, by go_num, rfl, hbL, hp2.out, hr2.out, hr3.out, o2H.out, ekH.out.trans e2⟩
              case measure => have := hbH.out; have := hk2H.out; simp [intOf]; omega
            · by_cases hmL : m < L
              · have hc := hid (msymS_c g cap a m L ys (by have := hmH.out; omega) hmL (by rw [hyl.out]; exact Nat.le_refl _) (by rw [← hmH.out]; exact (hrH.out.first (by rw [hyl.out]; have := hmH.out; omega) (by omega)).1)
                  (by
                    have e1 := (hrH.out.first (by rw [hyl.out]; have := hmH.out; omega) (by omega)).2
                    have e2 := e1.one (by rw [hyl.out]; have := hbH.out; have := hk2H.out; omega) (by rw [hyl.out]; have := hmH.out; omega)
                    rwa [hmH.out, hyl.out] at e2)
                  (by rw [hyl.out]; omega) wr L hyl.out.symm okH.out)
                go_wp2_with fail
                refine hc.out.mono ?_
                rintro e w2 ⟨rfl, zs, W, h1, h2, h3, o2, e2⟩
                have o2H := hid o2
                have hzl : zs.length = ys.length := h2.length_eq
                have hr2 : Hid (Runs k2 zs 0) := hid (by
                  have k1 := htH.out.keep hzl (h1.take (Nat.le_refl _))
                  refine k1.join (.last (by rw [hzl, hyl.out]; have := hmH.out; omega) (by rw [hzl, hyl.out]; have := hbH.out; omega) ?_)
                  rw [hzl, hyl.out, h1.seg]; exact h3)
                have hp2 := hid (h2.trans hpH.out)
                clear o2 h1 h2 h3 hzl
                go_wp2_with fail
                go_roundw
                case rel => exact ⟨k2, zs, rfl, by have := hk2H.out; omega, by have := hk2H.out; omega, hp2.out, hr2.out, o2H.out, ekH.out.trans e2⟩
                case measure => have := hk2H.out; simp [intOf]; omega
              · have hr2 : Hid (Runs k2 ys 0) := hid (by
                  refine htH.out.join ?_
                  rcases Nat.lt_or_ge a L with h | h
                  · exact .last (by rw [hyl.out]; exact h) (by rw [hyl.out]; have := hbH.out; omega) (hrH.out.one (by rw [hyl.out]; have := hmH.out; omega) (by rw [hyl.out]; exact h))
                  · exact .done (by rw [hyl.out]; exact h))
                go_wp2_with fail
                go_roundw
                case rel => exact ⟨k2, ys, rfl, by have := hk2H.out; omega, by have := hk2H.out; omega, hpH.out, hr2.out, okH.out, ekH.out⟩
                case measure => have := hk2H.out; simp [intOf]; omega
        · go_wp2
          go_end0
          exact ⟨rfl, ys, okH.out, ekH.out, hpH.out, hrH.out.whole (by rw [hyl.out]; omega)⟩
theorem mins_nil (fv : Value) (w : World) : Calls Tryz.prog 79 #[.slice none 0 0, .int .i64 0, .int .i64 0, fv] w fun e w' => e = .returned (.tuple #[]) ∧ w' = w := by
  go_enter Tryz.func79, Tryz.ntmps79
  go_wp2_with fail
  go_loopw [8] (fun i wr => i = .int .i64 1 ∧ wr = w) (fun _ _ => 0)
  case atStart => exact ⟨rfl, rfl⟩
  case round =>
    obtain ⟨rfl, rfl⟩ := hrel
    go_wp2
    go_end0
    exact ⟨rfl, rfl⟩
theorem mstab_nil (w : World) : Calls Tryz.prog 65 #[.slice none 0 0, .int .i64 0, .func (.func 56) #[] #[]] w fun e w' => e = .returned (.tuple #[]) ∧ w' = w := by
  have hc := hid (fun fv => mins_nil fv w)
  go_enter Tryz.func65, Tryz.ntmps65
  go_wp2_with fail
  go_loopw [7, 8] (fun s7 s8 wr => s7 = .int .i64 0 ∧ s8 = .int .i64 20 ∧ wr = w) (fun _ _ _ => 0)
  case atStart => exact ⟨rfl, rfl, rfl⟩
  case round =>
    obtain ⟨rfl, rfl, rfl⟩ := hrel
    go_wp2_with fail
    refine (hc.out _).mono ?_
    rintro e w1 ⟨rfl, rfl⟩
    go_wp2_with fail
    go_loopw [6] (fun s6 wr => s6 = .int .i64 20 ∧ wr = w1) (fun _ _ => 0)
    case atStart => exact ⟨rfl, rfl⟩
    case round =>
      obtain ⟨rfl, rfl⟩ := hrel
      go_wp2
      go_end0
      exact ⟨rfl, rfl⟩
/-- What the other levels are sorted to. -/
theorem mstable_c {F : List Chunk} (v : Value) (xs : List MetaM) (hn : xs.length ≤ 100000) (w : World) (o : Own w (sl 43 metaE v xs :: F)) :
    Calls Tryz.prog 55 #[v, .func (.func 56) #[] #[]] w fun e w' => e = .returned (.tuple #[]) ∧ ∃ ys, Own w' (sl 43 metaE v ys :: F) ∧ Ext w w' ∧ ys.Perm xs ∧ Up ys := by
  rcases sl_form o with ⟨rfl, rfl⟩ | ⟨g, cap, rfl, hc, hm⟩
  · have hc := hid (mstab_nil w)
    have oH := hid o
    clear o
    go_enter Tryz.func55, Tryz.ntmps55
    go_wp2_with fail
    refine hc.out.mono ?_
    rintro e w1 ⟨rfl, rfl⟩
    go_wp2
    go_end0
    exact ⟨rfl, [], oH.out, Ext.refl _, List.Perm.refl _, List.Pairwise.nil⟩
  · have hc := hid (mstab_c g cap xs hn w o)
    clear o
    go_enter Tryz.func55, Tryz.ntmps55
    go_wp2_with fail
    refine hc.out.mono ?_
    rintro e w1 ⟨rfl, ys, o1, e1, p1, u1⟩
    have o1H := hid o1
    have p1H := hid p1
    have u1H := hid u1
    clear o1 p1 u1
    go_wp2
    go_end0
    exact ⟨rfl, ys, o1H.out, e1, p1H.out, u1H.out⟩
end Go.Proofs.YtdmdnhceiddcfaaGreat
