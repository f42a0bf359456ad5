/- slices.SortStableFunc at tables: swapRange, rotate. · slices.SortStableFunc at tables: rotate. -/
import Derived.Test.YtdmdnhceiddcfaaGreatLvlD
import Derived.BigRegion
set_option linter.all false
namespace Go.Proofs.YtdmdnhceiddcfaaGreat
open Go.RowKit Go.Sl Go.Scree

theorem lget_set2 {α : Type} {l : List α} {i k j : Nat} {x y : α} (hi : i < l.length) (hk : k < l.length) : ((l.set i y).set k x)[j]? = if j = k then some x else if j = i then some y else l[j]? := by
  by_cases h1 : j = k
  · subst h1; simp [hk]
  · rw [if_neg h1, List.getElem?_set, if_neg (fun h => h1 h.symm)]
    by_cases h2 : j = i
    · subst h2; simp [hi]
    · rw [if_neg h2, List.getElem?_set, if_neg (fun h => h2 h.symm)]
/-- So many elements from a on, and from b on, are exchanged. -/
def Swp2 {α : Type} (xs : List α) (a b k : Nat) (ys : List α) : Prop := ys.length = xs.length ∧ ∀ i, ys[i]? = if a ≤ i ∧ i < a + k then xs[b + (i - a)]? else if b ≤ i ∧ i < b + k then xs[a + (i - b)]? else xs[i]?
theorem Swp2.start {α : Type} (xs : List α) (a b : Nat) : Swp2 xs a b 0 xs := ⟨rfl, fun i => by rw [if_neg (by omega), if_neg (by omega)]⟩
theorem Swp2.step {α : Type} {xs ys : List α} {a b k n : Nat} (h : Swp2 xs a b k ys) (hk : k < n) (hab : a + n ≤ b) (hb : b + n ≤ xs.length) {x y : α} (hx : ys[a + k]? = some x) (hy : ys[b + k]? = some y) :
    Swp2 xs a b (k + 1) ((ys.set (a + k) y).set (b + k) x) := by
  obtain ⟨hl, hi⟩ := h
  have hx' : xs[a + k]? = some x := by rw [← hx, hi, if_neg (by omega), if_neg (by omega)]
  have hy' : xs[b + k]? = some y := by rw [← hy, hi, if_neg (by omega), if_neg (by omega)]
  refine ⟨by simp [hl], fun i => ?_⟩
  rw [lget_set2 (by omega) (by omega), hi]
  grind
theorem gr {α : Type} (L M : List α) (r : Nat) : (L ++ M)[L.length + r]? = M[r]? := by rw [List.getElem?_append_right (by omega), Nat.add_sub_cancel_left]
theorem gl {α : Type} (L M : List α) {r : Nat} (h : r < L.length) : (L ++ M)[r]? = L[r]? := List.getElem?_append_left h
theorem Swp2.parts {α : Type} {X A Y B Z ys : List α} {n : Nat} (h : Swp2 (X ++ (A ++ (Y ++ (B ++ Z)))) X.length (X.length + n + Y.length) n ys) (hA : A.length = n) (hB : B.length = n) : ys = X ++ (B ++ (Y ++ (A ++ Z))) := by
  obtain ⟨_, hi⟩ := h
  apply List.ext_getElem?
  intro i
  rw [hi]
  by_cases h1 : i < X.length
  · rw [if_neg (show ¬ (X.length ≤ i ∧ i < X.length + n) by omega), if_neg (show ¬ (X.length + n + Y.length ≤ i ∧ i < X.length + n + Y.length + n) by omega), gl _ _ h1, gl _ _ h1]
  · obtain ⟨r, rfl⟩ : ∃ r, i = X.length + r := ⟨i - X.length, by omega⟩
    by_cases h2 : r < n
    · rw [if_pos (show X.length ≤ X.length + r ∧ X.length + r < X.length + n by omega), gr, gl B _ (by omega)]
      rw [show X.length + n + Y.length + (X.length + r - X.length) = X.length + (A.length + (Y.length + r)) by omega, gr, gr, gr, gl B _ (by omega)]
    · obtain ⟨s, rfl⟩ : ∃ s, r = n + s := ⟨r - n, by omega⟩
      rw [if_neg (show ¬ (X.length ≤ X.length + (n + s) ∧ X.length + (n + s) < X.length + n) by omega)]
      have e1 : ∀ M : List α, (X ++ (B ++ M))[X.length + (n + s)]? = M[s]? := fun M => by rw [gr, ← hB, gr]
      have e2 : ∀ M : List α, (X ++ (A ++ M))[X.length + (n + s)]? = M[s]? := fun M => by rw [gr, ← hA, gr]
      by_cases h3 : s < Y.length
      · rw [if_neg (show ¬ (X.length + n + Y.length ≤ X.length + (n + s) ∧ X.length + (n + s) < X.length + n + Y.length + n) by omega), e1, e2, gl _ _ h3, gl _ _ h3]
      · obtain ⟨q, rfl⟩ : ∃ q, s = Y.length + q := ⟨s - Y.length, by omega⟩
        by_cases h4 : q < n
        · rw [if_pos (show X.length + n + Y.length ≤ X.length + (n + (Y.length + q)) ∧ X.length + (n + (Y.length + q)) < X.length + n + Y.length + n by omega)]
          rw [show X.length + (X.length + (n + (Y.length + q)) - (X.length + n + Y.length)) = X.length + q by omega, gr X, gl A _ (by omega), e1, gr, gl A _ (by omega)]
        · obtain ⟨u, rfl⟩ : ∃ u, q = n + u := ⟨q - n, by omega⟩
          rw [if_neg (show ¬ (X.length + n + Y.length ≤ X.length + (n + (Y.length + (n + u))) ∧ X.length + (n + (Y.length + (n + u))) < X.length + n + Y.length + n) by omega), e1, e2, gr, gr]
          rw [show (A ++ Z)[n + u]? = Z[u]? by rw [← hA, gr], show (B ++ Z)[n + u]? = Z[u]? by rw [← hB, gr]]

theorem sl_cells {w : World} {F : List Chunk} {g n cap : Nat} {xs : List MetaM} (o : Own w (sl 43 metaE (.slice (some ⟨g, 0, none⟩) n cap) xs :: F)) {i : Nat} {x : MetaM} (hx : xs[i]? = some x) :
    (w.cell? ⟨g, i * 5, none⟩ = some (.int .u64 x.file) ∧ w.cell? ⟨g, i * 5 + 1, none⟩ = some (.int .i64 x.size) ∧ w.cell? ⟨g, i * 5 + 2, none⟩ = some (.string x.first) ∧ w.cell? ⟨g, i * 5 + 3, none⟩ = some (.string x.last) ∧ w.cell? ⟨g, i * 5 + 4, none⟩ = some (.int .u64 x.seq)) ∧ w.frozen? ⟨g, i * 5, none⟩ = false ∧ w.frozen? ⟨g, i * 5 + 1, none⟩ = false ∧ w.frozen? ⟨g, i * 5 + 2, none⟩ = false ∧ w.frozen? ⟨g, i * 5 + 3, none⟩ = false ∧ w.frozen? ⟨g, i * 5 + 4, none⟩ = false := by
  have h := sl_at o hx
  have h0 := h 0 _ rfl
  have h1 := h 1 _ rfl
  have h2 := h 2 _ rfl
  have h3 := h 3 _ rfl
  have h4 := h 4 _ rfl
  simp only [metaE, Nat.add_zero] at h0 h1 h2 h3 h4
  exact ⟨⟨h0.1, h1.1, h2.1, h3.1, h4.1⟩, h0.2, h1.2, h2.2, h3.2, h4.2⟩

set_option maxRecDepth 20000 in
set_option maxHeartbeats 3200000 in
theorem mswapR_c {F : List Chunk} (g cap a b n : Nat) (fv : Value) (xs : List MetaM) (hn : xs.length ≤ 1000000) (hab : a + n ≤ b) (hb : b + n ≤ xs.length) (w : World) (o : Own w (sl 43 metaE (.slice (some ⟨g, 0, none⟩) xs.length cap) xs :: F)) :
    Calls Tryz.prog 103 #[.slice (some ⟨g, 0, none⟩) xs.length cap, .int .i64 a, .int .i64 b, .int .i64 n, fv] w fun e w' => e = .returned (.tuple #[]) ∧ ∃ ys, Swp2 xs a b n ys ∧ Own w' (sl 43 metaE (.slice (some ⟨g, 0, none⟩) xs.length cap) ys :: F) ∧ Ext w w' := by
  have oH := hid o
  clear o
  go_enter Tryz.func103, Tryz.ntmps103
  go_wp2
  go_loopw [10] (fun i wr => ∃ (k : Nat) (ys : List MetaM), k ≤ n ∧ i = .int .i64 k ∧ Swp2 xs a b k ys ∧ Own wr (sl 43 metaE (.slice (some ⟨g, 0, none⟩) xs.length cap) ys :: F) ∧ Ext w wr) (fun i wr => n - (intOf i).toNat)
  case atStart => exact ⟨0, xs, Nat.zero_le _, rfl, Swp2.start _ _ _, oH.out, Ext.refl _⟩
  case round =>
    obtain ⟨k, ys, hk, rfl, hs, ok, ek⟩ := hrel
    have hsH := hid hs
    have hyl : Hid (ys.length = xs.length) := hid hs.1
    have okH := hid ok
    have ekH := hid ek
    clear hs ok ek
    by_cases hlt : k < n
    · have h1 : a + k < xs.length := by omega
      have h2 : b + k < xs.length := by omega
      obtain ⟨x, hx⟩ : ∃ x, ys[a + k]? = some x := ⟨_, List.getElem?_eq_getElem (by rw [hyl.out]; exact h1)⟩
      obtain ⟨y, hy⟩ : ∃ y, ys[b + k]? = some y := ⟨_, List.getElem?_eq_getElem (by rw [hyl.out]; exact h2)⟩
      obtain ⟨⟨c0, c1, c2, c3, c4⟩, f0, f1, f2, f3, f4⟩ := sl_cells okH.out hx
      obtain ⟨⟨d0, d1, d2, d3, d4⟩, e0, e1, e2, e3, e4⟩ := sl_cells okH.out hy
      have hst := hid (hsH.out.step hlt hab hb hx hy)
      clear hx hy
      have w1 : IntKind.i64.wrap ((a : Int) + (k : Int)) = ((a + k : Nat) : Int) := by rw [IntWalk.i64_in _ (by omega)]; omega
      have w2 : IntKind.i64.wrap ((b : Int) + (k : Int)) = ((b + k : Nat) : Int) := by rw [IntWalk.i64_in _ (by omega)]; omega
      have hne : a + k ≠ b + k := by omega
      generalize hp : a + k = p at *
      generalize hq : b + k = q at *
      have hpH := hid hp
      have hqH := hid hq
      clear hp hq
      go_wp2_with fail
      go_region
      have o1 := sl_put okH.out p (by rw [hyl.out]; exact h1) y
      have o2 := sl_put o1 q (by rw [List.length_set, hyl.out]; exact h2) x
      have o3 := hid (o2.drew)
      clear o1 o2
      go_wp2
      go_roundw
      case rel => exact ⟨k + 1, _, by omega, by go_num, hst.out, o3.out, ((((((((((ekH.out.set _ _).set _ _).set _ _).set _ _).set _ _).set _ _).set _ _).set _ _).set _ _).set _ _).drew⟩
      case measure => simp [intOf]; omega
    · obtain rfl : k = n := by omega
      go_wp2
      go_end0
      exact ⟨rfl, ys, hsH.out, okH.out, ekH.out⟩
end Go.Proofs.YtdmdnhceiddcfaaGreat
namespace Go.Proofs.YtdmdnhceiddcfaaGreat
open Go.RowKit Go.Sl Go.Scree

/-- An exchange of two parts of one length. -/
theorem mswapP_c {F : List Chunk} (g cap a b n : Nat) (fv : Value) (X A Y B Z xs : List MetaM) (hxs : xs = X ++ (A ++ (Y ++ (B ++ Z)))) (ha : a = X.length) (hb : b = X.length + n + Y.length) (hA : A.length = n) (hB : B.length = n) (hn : xs.length ≤ 1000000)
    (w : World) (L : Nat) (hL : L = xs.length) (o : Own w (sl 43 metaE (.slice (some ⟨g, 0, none⟩) L cap) xs :: F)) :
    Calls Tryz.prog 103 #[.slice (some ⟨g, 0, none⟩) L cap, .int .i64 a, .int .i64 b, .int .i64 n, fv] w fun e w' => e = .returned (.tuple #[]) ∧ Own w' (sl 43 metaE (.slice (some ⟨g, 0, none⟩) L cap) (X ++ (B ++ (Y ++ (A ++ Z)))) :: F) ∧ Ext w w' := by
  subst hL
  have hl : xs.length = X.length + (n + (Y.length + (n + Z.length))) := by rw [hxs]; simp [hA, hB]
  refine (mswapR_c g cap a b n fv xs hn (by omega) (by omega) w o).mono ?_
  rintro e w' ⟨he, ys, hs, o', ex⟩
  subst ha; subst hb
  rw [hxs] at hs
  rw [hs.parts hA hB] at o'
  exact ⟨he, o', ex⟩

set_option maxRecDepth 20000 in
set_option maxHeartbeats 3200000 in
theorem mrotate_c {F : List Chunk} (g cap a m b : Nat) (fv : Value) (P U V Q xs : List MetaM) (hxs : xs = P ++ (U ++ (V ++ Q))) (ha : a = P.length) (hm : m = P.length + U.length) (hb : b = P.length + U.length + V.length) (hU : 0 < U.length) (hV : 0 < V.length) (hn : xs.length ≤ 1000000)
    (w : World) (L : Nat) (hL : L = xs.length) (o : Own w (sl 43 metaE (.slice (some ⟨g, 0, none⟩) L cap) xs :: F)) :
    Calls Tryz.prog 99 #[.slice (some ⟨g, 0, none⟩) L cap, .int .i64 a, .int .i64 m, .int .i64 b, fv] w fun e w' => e = .returned (.tuple #[]) ∧ Own w' (sl 43 metaE (.slice (some ⟨g, 0, none⟩) L cap) (P ++ (V ++ (U ++ Q))) :: F) ∧ Ext w w' := by
  have hl : xs.length = P.length + (U.length + (V.length + Q.length)) := by rw [hxs]; simp
  have oH := hid o
  have hxsH := hid hxs
  have hnH := hid hn
  have hLH := hid hL
  clear o hxs hn hL
  have w1 : IntKind.i64.wrap ((m : Int) - (a : Int)) = (U.length : Int) := by rw [IntWalk.i64_in _ (by have := hnH.out; omega)]; omega
  have w2 : IntKind.i64.wrap ((b : Int) - (m : Int)) = (V.length : Int) := by rw [IntWalk.i64_in _ (by have := hnH.out; omega)]; omega
  have haH := hid ha
  have hmH := hid hm
  have hbH := hid hb
  have hlH := hid hl
  clear ha hm hb hl
  go_enter Tryz.func99, Tryz.ntmps99
  go_wp2_with fail
  clear w1 w2
  go_loopw [10, 11] (fun i j wr => ∃ (A U' V' C ys : List MetaM), 0 < U'.length ∧ 0 < V'.length ∧ i = .int .i64 U'.length ∧ j = .int .i64 V'.length ∧ ys = P ++ (A ++ (U' ++ (V' ++ (C ++ Q)))) ∧ A ++ (V' ++ (U' ++ C)) = V ++ U ∧ A.length + U'.length = U.length ∧ Own wr (sl 43 metaE (.slice (some ⟨g, 0, none⟩) L cap) ys :: F) ∧ Ext w wr) (fun i j wr => (intOf i).toNat + (intOf j).toNat)
  case atStart => exact ⟨[], U, V, [], xs, hU, hV, rfl, rfl, by simpa using hxsH.out, by simp, by simp, oH.out, Ext.refl _⟩
  case round =>
    obtain ⟨A, U', V', C, ys, hU', hV', rfl, rfl, hys, hfin, hAU, ok, ek⟩ := hrel
    have hysl : ys.length = xs.length := by
      have h1 := congrArg List.length hfin
      have h2 := hlH.out
      rw [hys]
      simp only [List.length_append] at h1 ⊢
      omega
    have okH := hid ok
    have ekH := hid ek
    have hysH := hid hys
    have hfinH := hid hfin
    have hyslH := hid hysl
    have hAUH := hid hAU
    clear ok ek hys hfin hysl hAU
    have hbig : U'.length ≤ 1000000 ∧ V'.length ≤ 1000000 ∧ m ≤ 1000000 ∧ U'.length ≤ m := by
      have h1 := congrArg List.length hysH.out
      have h2 := hyslH.out
      have h3 := hnH.out
      have h4 := hmH.out
      have h5 := hAUH.out
      simp only [List.length_append] at h1
      omega
    obtain ⟨b1, b2, b3, b4⟩ := hbig
    have w3 : IntKind.i64.wrap ((m : Int) - (U'.length : Int)) = ((m - U'.length : Nat) : Int) := by rw [IntWalk.i64_in _ (by omega)]; omega
    rcases Nat.lt_trichotomy U'.length V'.length with h | h | h
    · -- j > i
      have e1 : ((U'.length : Int) != (V'.length : Int)) = true := by rw [bne_iff_ne]; omega
      have e2 : decide ((U'.length : Int) > (V'.length : Int)) = false := decide_eq_false (by omega)
      have e2' : ¬ (U'.length : Int) > (V'.length : Int) := by omega
      have w4 : IntKind.i64.wrap ((m : Int) + (V'.length : Int)) = ((m + V'.length : Nat) : Int) := by rw [IntWalk.i64_in _ (by omega)]; omega
      have w5 : IntKind.i64.wrap (((m + V'.length : Nat) : Int) - (U'.length : Int)) = ((m + V'.length - U'.length : Nat) : Int) := by rw [IntWalk.i64_in _ (by omega)]; omega
      have w5' : IntKind.i64.wrap ((m : Int) + (V'.length : Int) - (U'.length : Int)) = ((m + V'.length - U'.length : Nat) : Int) := by rw [IntWalk.i64_in _ (by omega)]; omega
      have w6 : IntKind.i64.wrap ((V'.length : Int) - (U'.length : Int)) = ((V'.length - U'.length : Nat) : Int) := by rw [IntWalk.i64_in _ (by omega)]; omega
      obtain ⟨V1, V2, hVe, hV1, hV2⟩ : ∃ V1 V2, V' = V1 ++ V2 ∧ V1.length = V'.length - U'.length ∧ V2.length = U'.length := ⟨V'.take (V'.length - U'.length), V'.drop (V'.length - U'.length), by simp, by simp, by simp; omega⟩
      have hc := hid (mswapP_c g cap (m - U'.length) (m + V'.length - U'.length) U'.length fv (P ++ A) U' V1 V2 (C ++ Q) ys (by rw [hysH.out, hVe]; simp) (by have := hmH.out; have := hAUH.out; simp; omega) (by have := hmH.out; have := hAUH.out; rw [hV1]; simp; omega) rfl hV2 (by rw [hyslH.out]; exact hnH.out) wr L (by rw [hyslH.out]; exact hLH.out) okH.out)
      have hfin2 : Hid ((A ++ (V1 ++ (V2 ++ (U' ++ C)))) = V ++ U) := hid (by rw [← hfinH.out, hVe]; simp)
      have hV1H := hid hV1
      have hV2H := hid hV2
      clear hVe hV1 hV2 b1 b2 b3 b4
      have hH := hid h
      clear h
      go_wp2_with fail
      refine hc.out.mono ?_
      rintro e w3 ⟨rfl, o3, e3⟩
      have o3H := hid o3
      clear o3
      go_wp2_with fail
      go_roundw
      case rel => have h := hH.out; exact ⟨A, V2, V1, U' ++ C, _, by rw [hV2H.out]; omega, by rw [hV1H.out]; omega, by rw [hV2H.out], by rw [hV1H.out], by simp, by rw [← hfin2.out], by rw [hV2H.out]; exact hAUH.out, o3H.out, ekH.out.trans e3⟩
      case measure => have h := hH.out; simp [intOf]; omega
    · -- the end
      have e1 : ((U'.length : Int) != (V'.length : Int)) = false := by rw [h]; simp
      have hc := hid (mswapP_c g cap (m - U'.length) m U'.length fv (P ++ A) U' [] V' (C ++ Q) ys (by rw [hysH.out]; simp) (by have := hmH.out; have := hAUH.out; simp; omega) (by have := hmH.out; have := hAUH.out; simp; omega) rfl h.symm (by rw [hyslH.out]; exact hnH.out) wr L (by rw [hyslH.out]; exact hLH.out) okH.out)
      clear b1 b2 b3 b4
      have hH := hid h
      clear h
      go_wp2_with fail
      refine hc.out.mono ?_
      rintro e w3 ⟨rfl, o3, e3⟩
      have o3H := hid o3
      clear o3
      go_wp2_with fail
      go_end0
      refine ⟨rfl, ?_, ekH.out.trans e3⟩
      have e4 : P ++ (V ++ (U ++ Q)) = P ++ A ++ (V' ++ ([] ++ (U' ++ (C ++ Q)))) := by
        have := congrArg (fun l => P ++ (l ++ Q)) hfinH.out
        simp only [List.append_assoc, List.nil_append] at this ⊢
        exact this.symm
      rw [e4]
      exact o3H.out
    · -- i > j
      have e1 : ((U'.length : Int) != (V'.length : Int)) = true := by rw [bne_iff_ne]; omega
      have e2 : decide ((U'.length : Int) > (V'.length : Int)) = true := decide_eq_true (by omega)
      have e2' : (U'.length : Int) > (V'.length : Int) := by omega
      have w6 : IntKind.i64.wrap ((U'.length : Int) - (V'.length : Int)) = ((U'.length - V'.length : Nat) : Int) := by rw [IntWalk.i64_in _ (by omega)]; omega
      obtain ⟨U1, U2, hUe, hU1, hU2⟩ : ∃ U1 U2, U' = U1 ++ U2 ∧ U1.length = V'.length ∧ U2.length = U'.length - V'.length := ⟨U'.take V'.length, U'.drop V'.length, by simp, by simp; omega, by simp⟩
      have hc := hid (mswapP_c g cap (m - U'.length) m V'.length fv (P ++ A) U1 U2 V' (C ++ Q) ys (by rw [hysH.out, hUe]; simp) (by have := hmH.out; have := hAUH.out; simp; omega) (by have := hmH.out; have := hAUH.out; rw [hU2]; simp; omega) hU1 rfl (by rw [hyslH.out]; exact hnH.out) wr L (by rw [hyslH.out]; exact hLH.out) okH.out)
      have hfin2 : Hid (((A ++ V') ++ (U1 ++ (U2 ++ C))) = V ++ U) := hid (by rw [← hfinH.out, hUe]; simp)
      have hU1H := hid hU1
      have hU2H := hid hU2
      clear hUe hU1 hU2 b1 b2 b3 b4
      have hH := hid h
      clear h
      go_wp2_with fail
      refine hc.out.mono ?_
      rintro e w3 ⟨rfl, o3, e3⟩
      have o3H := hid o3
      clear o3
      go_wp2_with fail
      go_roundw
      case rel => have h := hH.out; exact ⟨A ++ V', U2, U1, C, _, by rw [hU2H.out]; omega, by rw [hU1H.out]; omega, by rw [hU2H.out], by rw [hU1H.out], by simp, by rw [← hfin2.out], by have := hAUH.out; rw [hU2H.out]; simp; omega, o3H.out, ekH.out.trans e3⟩
      case measure => have h := hH.out; simp [intOf]; omega
end Go.Proofs.YtdmdnhceiddcfaaGreat
