/- slices.SortStableFunc at tables: symMerge where one row has one element. -/
import Derived.Test.YtdmdnhceiddcfaaGreatLvlS
import Derived.Test.YtdmdnhceiddcfaaGreatLvlU
set_option linter.all false
namespace Go.Proofs.YtdmdnhceiddcfaaGreat
open Go.RowKit Go.Sl Go.Scree

theorem low_lt (a b : MetaM) : decide (lowF a b < 0) = ltK a.first b.first := compare_lt _ _
theorem kp_grown (w : World) (q : Nat) (os : Array Obj) : Kp w (Go.Sort.grow (w.drewN q) os) :=
  ⟨⟨rfl, rfl, rfl, by rw [Go.Sort.size_grow]; show w.heap.size ≤ w.heap.size + _; omega⟩, fun k hk => Go.Sort.heap_grow_old _ _ hk⟩
theorem lower_k (a b : MetaM) (w : World) : Calls Tryz.prog 56 #[metaV a, metaV b] w fun e w' => e = .returned (.int .i64 (lowF a b)) ∧ Kp w w' :=
  (lower_c a b w).mono fun _ _ ⟨he, q, os, hw⟩ => ⟨he, hw ▸ kp_grown w q os⟩
theorem lower_eg : ∀ args w, (callFunc 56 args).run Tryz.prog w = .ok (.enter 56 args) w := enters_of Tryz.func56 (by kernel_rfl) rfl

theorem set_up {α : Type} (A B : List α) (x y : α) : ((A ++ (x :: y :: B)).set A.length y).set (A.length + 1) x = A ++ (y :: x :: B) := by
  rw [List.set_append_right _ _ (Nat.le_refl _), Nat.sub_self, List.set_append_right _ _ (by omega), Nat.add_sub_cancel_left]
  rfl
theorem set_dn {α : Type} (A B : List α) (x y : α) : ((A ++ (y :: x :: B)).set (A.length + 1) y).set A.length x = A ++ (x :: y :: B) := by
  rw [List.set_append_right _ _ (by omega), Nat.add_sub_cancel_left, List.set_append_right _ _ (Nat.le_refl _), Nat.sub_self]
  rfl
set_option maxRecDepth 20000 in
set_option maxHeartbeats 6400000 in
theorem msym1_c {F : List Chunk} (g cap a m b : Nat) (P V Q xs : List MetaM) (u : MetaM) (hxs : xs = P ++ (u :: (V ++ Q))) (ha : a = P.length) (hm : m = P.length + 1) (hb : b = P.length + 1 + V.length) (hV : V.Pairwise UpF) (hn : xs.length ≤ 1000000)
    (w : World) (L : Nat) (hL : L = xs.length) (o : Own w (sl 43 metaE (.slice (some ⟨g, 0, none⟩) L cap) xs :: F)) :
    Calls Tryz.prog 87 #[.slice (some ⟨g, 0, none⟩) L cap, .int .i64 a, .int .i64 m, .int .i64 b, .func (.func 56) #[] #[]] w fun e w' => e = .returned (.tuple #[]) ∧ ∃ W, W.Perm (u :: V) ∧ W.Pairwise UpF ∧ Own w' (sl 43 metaE (.slice (some ⟨g, 0, none⟩) L cap) (P ++ (W ++ Q)) :: F) ∧ Ext w w' := by
  have hl : xs.length = P.length + (1 + (V.length + Q.length)) := by rw [hxs]; simp; omega
  have oH := hid o
  have hxsH := hid hxs
  have hnH := hid hn
  have hLH := hid hL
  have haH := hid ha
  have hmH := hid hm
  have hbH := hid hb
  have hlH := hid hl
  have hVH := hid hV
  have eg := lower_eg
  have w1 : IntKind.i64.wrap ((m : Int) - (a : Int)) = 1 := by rw [IntWalk.i64_in _ (by omega)]; omega
  have e1 : ((1 : Int) == 1) = true := rfl
  clear o hxs hn hL ha hm hb hl hV
  go_enter Tryz.func87, Tryz.ntmps87
  go_wp2_with fail
  have hvx : Hid (∀ c, m ≤ c → c < b → xs[c]? = V[c - m]?) := hid (by
    intro c h1 h2
    have e1 := hmH.out; have e2 := hbH.out
    obtain ⟨d, rfl⟩ : ∃ d, c = P.length + (d + 1) := ⟨c - m, by omega⟩
    rw [hxsH.out, gr, List.getElem?_cons_succ, gl V _ (by omega), e1]
    congr 1; omega)
  have p1 : Hid (Falls (fun c => ltK (at' xs c).first u.first) m b) := hid (by
    intro c d h1 h2 h3 hp
    have e1 := hmH.out; have e2 := hbH.out
    have hc := hvx.out c h1 (by omega)
    have hd := hvx.out d (by omega) h3
    have hc' := at_some (xs := V) (i := c - m) (by omega)
    have hd' := at_some (xs := V) (i := d - m) (by omega)
    rw [hc'] at hc; rw [hd'] at hd
    dsimp only at hp ⊢
    rw [at_eq hd] at hp
    rw [at_eq hc]
    exact lt_of_up_lt (up_at hVH.out hc' hd' (by omega)) hp)
  go_loopw [10, 11] (fun i j wr => ∃ I J : Nat, i = .int .i64 I ∧ j = .int .i64 J ∧ Half (fun c => ltK (at' xs c).first u.first) m b I J ∧ Own wr (sl 43 metaE (.slice (some ⟨g, 0, none⟩) L cap) xs :: F) ∧ Ext w wr) (fun i j wr => (intOf j).toNat - (intOf i).toNat)
  case atStart => exact ⟨m, b, rfl, rfl, Half.start _ (by have := hmH.out; have := hbH.out; omega), oH.out, Ext.refl _⟩
  case round =>
    obtain ⟨I, J, rfl, rfl, hh, ok, ek⟩ := hrel
    have hhH := hid hh
    have okH := hid ok
    have ekH := hid ek
    have hJb : J ≤ b := hh.h3
    have hmI : m ≤ I := hh.h1
    have hJ6 : J ≤ 1000000 := by have := hbH.out; have := hlH.out; have := hnH.out; omega
    clear hh ok ek
    by_cases hsr : I < J
    · obtain ⟨C, hC⟩ : ∃ C, (I + J) / 2 = C := ⟨_, rfl⟩
      have hdv : ((I : Int) + (J : Int)) / 2 = (C : Int) := by omega
      have hCL : C < L := by have := hLH.out; have := hbH.out; have := hlH.out; omega
      have haL : a < L := by have := hLH.out; have := haH.out; have := hlH.out; omega
      have hx : xs[C]? = some (at' xs C) := at_some (by rw [← hLH.out]; exact hCL)
      have hy : xs[a]? = some u := by rw [hxsH.out, haH.out, show P.length = P.length + 0 from rfl, gr]; rfl
      obtain ⟨⟨c0, c1, c2, c3, c4⟩, _⟩ := sl_cells okH.out hx
      obtain ⟨⟨d0, d1, d2, d3, d4⟩, _⟩ := sl_cells okH.out hy
      have hup : Hid (ltK (at' xs C).first u.first = true → Half (fun c => ltK (at' xs c).first u.first) m b (C + 1) J) := hid (fun h => by have := hhH.out.up p1.out hsr (by rw [hC]; exact h); rwa [hC] at this)
      have hdn : Hid (ltK (at' xs C).first u.first = false → Half (fun c => ltK (at' xs c).first u.first) m b I C) := hid (fun h => by have := hhH.out.down p1.out hsr (by rw [hC]; exact h); rwa [hC] at this)
      have hIC : I ≤ C := by omega
      have hCJ : C < J := by omega
      have hCH := hid hC
      generalize at' xs C = x at *
      have hlow := low_lt x u
      have lowC := hid (fun w => lower_k x u w)
      have hbb := bool_cases (ltK x.first u.first)
      generalize ltK x.first u.first = bb at *
      generalize lowF x u = lf at *
      clear hx hy hC
      go_wp2_with fail
      go_region_held3 (fun W => (W.cell? ⟨g, C * 5, none⟩ = some (.int .u64 x.file) ∧ W.cell? ⟨g, C * 5 + 1, none⟩ = some (.int .i64 x.size) ∧ W.cell? ⟨g, C * 5 + 2, none⟩ = some (.string x.first) ∧ W.cell? ⟨g, C * 5 + 3, none⟩ = some (.string x.last) ∧ W.cell? ⟨g, C * 5 + 4, none⟩ = some (.int .u64 x.seq)) ∧ (W.cell? ⟨g, a * 5, none⟩ = some (.int .u64 u.file) ∧ W.cell? ⟨g, a * 5 + 1, none⟩ = some (.int .i64 u.size) ∧ W.cell? ⟨g, a * 5 + 2, none⟩ = some (.string u.first) ∧ W.cell? ⟨g, a * 5 + 3, none⟩ = some (.string u.last) ∧ W.cell? ⟨g, a * 5 + 4, none⟩ = some (.int .u64 u.seq))) (first | exact ⟨⟨c0, c1, c2, c3, c4⟩, d0, d1, d2, d3, d4⟩ | (and_intros <;> assumption)) (first | (go_at_call 56; refine (lowC.out _).mono ?_; rintro e w1 ⟨rfl, k1⟩; have q0 := k1.cell c0; have q1 := k1.cell c1; have q2 := k1.cell c2; have q3 := k1.cell c3; have q4 := k1.cell c4; have r0 := k1.cell d0; have r1 := k1.cell d1; have r2 := k1.cell d2; have r3 := k1.cell d3; have r4 := k1.cell d4))
      have k1H := hid k1
      clear k1 c0 c1 c2 c3 c4 d0 d1 d2 d3 d4 q0 q1 q2 q3 q4 r0 r1 r2 r3 r4
      rcases hbb with rfl | rfl
      · go_wp2_with fail
        go_roundw
        case rel => exact ⟨C + 1, J, by go_num, rfl, hup.out (by simp), k1H.out.own okH.out.drew, (ekH.out.drew).trans k1H.out.ext⟩
        case measure => simp [intOf]; omega
      · go_wp2_with fail
        go_roundw
        case rel => exact ⟨I, C, rfl, rfl, hdn.out (by simp), k1H.out.own okH.out.drew, (ekH.out.drew).trans k1H.out.ext⟩
        case measure => simp [intOf]; omega
    · have hIJ : I = J := by have := hhH.out.h2; omega
      subst hIJ
      obtain ⟨T, hT⟩ : ∃ T, I = m + T := ⟨I - m, by omega⟩
      have hTH := hid hT
      have hTV : Hid (T ≤ V.length) := hid (by have := hbH.out; have := hmH.out; omega)
      have hyes : Hid (∀ x ∈ V.take T, ltK x.first u.first = true) := hid (by
        intro x hx
        obtain ⟨i, hi, rfl⟩ := List.getElem_of_mem hx
        rw [List.length_take] at hi
        have h1 : ltK (at' xs (m + i)).first u.first = true := hhH.out.yes (m + i) (by omega) (by rw [hTH.out]; omega)
        have h2 := hvx.out (m + i) (by omega) (by rw [hTH.out] at hJb; omega)
        have h3 : V[i]? = some V[i] := List.getElem?_eq_getElem (by omega)
        rw [Nat.add_sub_cancel_left, h3] at h2
        rw [at_eq h2] at h1
        rw [List.getElem_take]; exact h1)
      have hno : Hid (∀ x ∈ V.drop T, ltK x.first u.first = false) := hid (by
        intro x hx
        obtain ⟨i, hi, rfl⟩ := List.getElem_of_mem hx
        rw [List.length_drop] at hi
        have e1 := hmH.out; have e2 := hbH.out
        have h1 : ltK (at' xs (m + (T + i))).first u.first = false := hhH.out.no (m + (T + i)) (by rw [hTH.out]; omega) (by omega)
        have h2 := hvx.out (m + (T + i)) (by omega) (by omega)
        have h3 : V[T + i]? = some V[T + i] := List.getElem?_eq_getElem (by omega)
        rw [Nat.add_sub_cancel_left, h3] at h2
        rw [at_eq h2] at h1
        rw [List.getElem_drop]; exact h1)
      have hI1 : IntKind.i64.wrap ((I : Int) - 1) = ((a + T : Nat) : Int) := by have := haH.out; have := hmH.out; rw [IntWalk.i64_in _ (by omega)]; omega
      clear hT hhH hsr p1
      go_wp2_with fail
      go_loopw [13] (fun k wr2 => ∃ t : Nat, t ≤ T ∧ k = .int .i64 ((a + t : Nat) : Int) ∧ Own wr2 (sl 43 metaE (.slice (some ⟨g, 0, none⟩) L cap) (P ++ (V.take t ++ (u :: (V.drop t ++ Q)))) :: F) ∧ Ext w wr2) (fun k _ => (a + T) - (intOf k).toNat)
      case atStart => exact ⟨0, Nat.zero_le _, rfl, by have := okH.out; rw [hxsH.out] at this; simpa using this, ekH.out⟩
      case round =>
        obtain ⟨t, htT, rfl, ok2, ek2⟩ := hrel
        have ok2H := hid ok2
        have ek2H := hid ek2
        clear ok2 ek2
        by_cases hlt : t < T
        · have hlt' : a + t < a + T := by omega
          have ht1 : t < V.length := by have := hTV.out; omega
          have hdr : V.drop t = V[t] :: V.drop (t + 1) := List.drop_eq_getElem_cons ht1
          have htk : V.take (t + 1) = V.take t ++ [V[t]] := List.take_succ_eq_append_getElem ht1
          generalize V[t] = y at *
          have hA : Hid ((P ++ V.take t).length = a + t) := hid (by rw [List.length_append, List.length_take, haH.out]; omega)
          have hys : P ++ (V.take t ++ (u :: (V.drop t ++ Q))) = (P ++ V.take t) ++ (u :: y :: (V.drop (t + 1) ++ Q)) := by rw [hdr]; simp
          have hx1 : (P ++ (V.take t ++ (u :: (V.drop t ++ Q))))[a + t]? = some u := by rw [hys, ← hA.out, show (P ++ V.take t).length = (P ++ V.take t).length + 0 from rfl, gr]; rfl
          have hy1 : (P ++ (V.take t ++ (u :: (V.drop t ++ Q))))[a + t + 1]? = some y := by rw [hys, ← hA.out, gr]; rfl
          have hys2 : Hid ((((P ++ (V.take t ++ (u :: (V.drop t ++ Q)))).set (a + t) y).set (a + t + 1) u) = P ++ (V.take (t + 1) ++ (u :: (V.drop (t + 1) ++ Q)))) := hid (by
            rw [hys, ← hA.out, set_up, htk]; simp)
          obtain ⟨⟨c0, c1, c2, c3, c4⟩, f0, f1, f2, f3, f4⟩ := sl_cells ok2H.out hx1
          obtain ⟨⟨d0, d1, d2, d3, d4⟩, e0, e1, e2, e3, e4⟩ := sl_cells ok2H.out hy1
          have hlen1 := (List.getElem?_eq_some_iff.1 hx1).1
          have hlen2 := (List.getElem?_eq_some_iff.1 hy1).1
          have hlen : Hid ((P ++ (V.take t ++ (u :: (V.drop t ++ Q)))).length = L) := hid (by rw [hys]; have h1 := hA.out; have h2 := hlH.out; have h3 := hLH.out; have h4 := haH.out; rw [List.length_append, h1]; simp; omega)
          have hL2 : a + t + 1 < L := by rw [← hlen.out]; exact hlen2
          have hL1 : a + t < L := by omega
          have l1 := hid hlen1
          have l2 := hid hlen2
          have hLbig : a + t + 1 ≤ 1000000 := by have := hLH.out; have := hnH.out; omega
          generalize hK : a + t = K at *
          have hKH := hid hK
          have hne : K ≠ K + 1 := by omega
          clear hx1 hy1 hdr htk hys hlen1 hlen2 hK
          go_wp2_with fail
          go_region
          have o1 := sl_put ok2H.out K l1.out y
          have o2 := sl_put o1 (K + 1) (by rw [List.length_set]; exact l2.out) u
          have o3 := hid (o2.drew)
          clear o1 o2
          go_wp2
          go_roundw
          case rel => exact ⟨t + 1, by omega, by rw [show a + (t + 1) = K + 1 by have := hKH.out; omega]; go_num, by rw [← hys2.out]; exact o3.out, ((((((((((ek2H.out.set _ _).set _ _).set _ _).set _ _).set _ _).set _ _).set _ _).set _ _).set _ _).set _ _).drew⟩
          case measure => have := hKH.out; simp [intOf]; omega
        · obtain rfl : t = T := by omega
          go_wp2
          refine bodyPost_ret (results_none rfl _ _ _) rfl ?_
          exact ⟨rfl, _, one_perm V u t, one_left hVH.out hyes.out hno.out, by simpa using ok2H.out, ek2H.out⟩
end Go.Proofs.YtdmdnhceiddcfaaGreat
