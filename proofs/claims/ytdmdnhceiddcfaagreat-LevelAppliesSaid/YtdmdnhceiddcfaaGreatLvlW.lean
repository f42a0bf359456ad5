/- slices.SortStableFunc at tables: symMerge where the second row has one element. -/
import Derived.Test.YtdmdnhceiddcfaaGreatLvlV
set_option linter.all false
namespace Go.Proofs.YtdmdnhceiddcfaaGreat
open Go.RowKit Go.Sl Go.Scree

set_option maxRecDepth 20000 in
set_option maxHeartbeats 6400000 in
theorem msym2_c {F : List Chunk} (g cap a m b : Nat) (P U Q xs : List MetaM) (v : MetaM) (hxs : xs = P ++ (U ++ (v :: Q))) (ha : a = P.length) (hm : m = P.length + U.length) (hb : b = P.length + U.length + 1) (h2 : 2 ≤ U.length) (hU : U.Pairwise UpF) (hn : xs.length ≤ 1000000)
    (w : World) (L : Nat) (hL : L = xs.length) (o : Own w (sl 43 metaE (.slice (some ⟨g, 0, none⟩) L cap) xs :: F)) :
    Calls Tryz.prog 87 #[.slice (some ⟨g, 0, none⟩) L cap, .int .i64 a, .int .i64 m, .int .i64 b, .func (.func 56) #[] #[]] w fun e w' => e = .returned (.tuple #[]) ∧ ∃ W, W.Perm (U ++ [v]) ∧ W.Pairwise UpF ∧ Own w' (sl 43 metaE (.slice (some ⟨g, 0, none⟩) L cap) (P ++ (W ++ Q)) :: F) ∧ Ext w w' := by
  have hl : xs.length = P.length + (U.length + (1 + Q.length)) := by rw [hxs]; simp; omega
  have oH := hid o
  have hxsH := hid hxs
  have hnH := hid hn
  have hLH := hid hL
  have haH := hid ha
  have hmH := hid hm
  have hbH := hid hb
  have hlH := hid hl
  have hUH := hid hU
  have eg := lower_eg
  have w1 : IntKind.i64.wrap ((m : Int) - (a : Int)) = ((m - a : Nat) : Int) := by rw [IntWalk.i64_in _ (by omega)]; omega
  have e1 : (((m - a : Nat) : Int) == 1) = false := by rw [beq_eq_false_iff_ne]; omega
  have w2 : IntKind.i64.wrap ((b : Int) - (m : Int)) = 1 := by rw [IntWalk.i64_in _ (by omega)]; omega
  have e2 : ((1 : Int) == 1) = true := rfl
  clear o hxs hn hL ha hm hb hl hU
  generalize m - a = ma at *
  go_enter Tryz.func87, Tryz.ntmps87
  go_wp2_with fail
  clear w1 e1 w2 e2
  have hux : Hid (∀ c, a ≤ c → c < m → xs[c]? = U[c - a]?) := hid (by
    intro c h1 h2
    have e1 := hmH.out; have e2 := haH.out
    obtain ⟨d, rfl⟩ : ∃ d, c = P.length + d := ⟨c - a, by omega⟩
    rw [hxsH.out, gr, gl U _ (by omega), e2]
    congr 1; omega)
  have p1 : Hid (Falls (fun c => !ltK v.first (at' xs c).first) a m) := hid (by
    intro c d h1 h2 h3 hp
    have e1 := hmH.out; have e2 := haH.out
    have hc := hux.out c h1 (by omega)
    have hd := hux.out d (by omega) h3
    have hc' := at_some (xs := U) (i := c - a) (by omega)
    have hd' := at_some (xs := U) (i := d - a) (by omega)
    rw [hc'] at hc; rw [hd'] at hd
    dsimp only at hp ⊢
    rw [at_eq hd] at hp
    rw [at_eq hc]
    have hcd := up_at hUH.out hc' hd' (by omega)
    cases k : ltK v.first (at' U (c - a)).first with
    | false => rfl
    | true => rw [lt_of_lt_up k hcd] at hp; exact hp)
  go_loopw [14, 15] (fun i j wr => ∃ I J : Nat, i = .int .i64 I ∧ j = .int .i64 J ∧ Half (fun c => !ltK v.first (at' xs c).first) a m I J ∧ Own wr (sl 43 metaE (.slice (some ⟨g, 0, none⟩) L cap) xs :: F) ∧ Ext w wr) (fun i j wr => (intOf j).toNat - (intOf i).toNat)
  case atStart => exact ⟨a, m, rfl, rfl, Half.start _ (by have := hmH.out; have := haH.out; omega), oH.out, Ext.refl _⟩
  case round =>
    obtain ⟨I, J, rfl, rfl, hh, ok, ek⟩ := hrel
    have hhH := hid hh
    have okH := hid ok
    have ekH := hid ek
    have hJb : J ≤ m := hh.h3
    have hmI : a ≤ I := hh.h1
    have hm6 : m ≤ 1000000 := by have := hmH.out; have := hlH.out; have := hnH.out; omega
    have hJ6 : J ≤ 1000000 := by omega
    clear hh ok ek
    by_cases hsr : I < J
    · obtain ⟨C, hC⟩ : ∃ C, (I + J) / 2 = C := ⟨_, rfl⟩
      have hdv : ((I : Int) + (J : Int)) / 2 = (C : Int) := by omega
      have hCL : C < L := by have := hLH.out; have := hmH.out; have := hlH.out; omega
      have hmL : m < L := by have := hLH.out; have := hmH.out; have := hlH.out; omega
      have hx : xs[C]? = some (at' xs C) := at_some (by rw [← hLH.out]; exact hCL)
      have hy : xs[m]? = some v := by rw [hxsH.out, hmH.out, gr, show U.length = U.length + 0 from rfl, gr]; rfl
      obtain ⟨⟨c0, c1, c2, c3, c4⟩, _⟩ := sl_cells okH.out hx
      obtain ⟨⟨d0, d1, d2, d3, d4⟩, _⟩ := sl_cells okH.out hy
      have hup : Hid (ltK v.first (at' xs C).first = false → Half (fun c => !ltK v.first (at' xs c).first) a m (C + 1) J) := hid (fun h => by have := hhH.out.up p1.out hsr (by rw [hC, h]; rfl); rwa [hC] at this)
      have hdn : Hid (ltK v.first (at' xs C).first = true → Half (fun c => !ltK v.first (at' xs c).first) a m I C) := hid (fun h => by have := hhH.out.down p1.out hsr (by rw [hC, h]; rfl); rwa [hC] at this)
      have hIC : I ≤ C := by omega
      have hCJ : C < J := by omega
      have hCH := hid hC
      generalize at' xs C = x at *
      have hlow := low_lt v x
      have lowC := hid (fun w => lower_k v x w)
      have hbb := bool_cases (ltK v.first x.first)
      generalize ltK v.first x.first = bb at *
      generalize lowF v x = lf at *
      clear hx hy hC
      go_wp2_with fail
      go_region_held3 (fun W => (W.cell? ⟨g, C * 5, none⟩ = some (.int .u64 x.file) ∧ W.cell? ⟨g, C * 5 + 1, none⟩ = some (.int .i64 x.size) ∧ W.cell? ⟨g, C * 5 + 2, none⟩ = some (.string x.first) ∧ W.cell? ⟨g, C * 5 + 3, none⟩ = some (.string x.last) ∧ W.cell? ⟨g, C * 5 + 4, none⟩ = some (.int .u64 x.seq)) ∧ (W.cell? ⟨g, m * 5, none⟩ = some (.int .u64 v.file) ∧ W.cell? ⟨g, m * 5 + 1, none⟩ = some (.int .i64 v.size) ∧ W.cell? ⟨g, m * 5 + 2, none⟩ = some (.string v.first) ∧ W.cell? ⟨g, m * 5 + 3, none⟩ = some (.string v.last) ∧ W.cell? ⟨g, m * 5 + 4, none⟩ = some (.int .u64 v.seq))) (first | exact ⟨⟨c0, c1, c2, c3, c4⟩, d0, d1, d2, d3, d4⟩ | (and_intros <;> assumption)) (first | (go_at_call 56; refine (lowC.out _).mono ?_; rintro e w1 ⟨rfl, k1⟩; have q0 := k1.cell c0; have q1 := k1.cell c1; have q2 := k1.cell c2; have q3 := k1.cell c3; have q4 := k1.cell c4; have r0 := k1.cell d0; have r1 := k1.cell d1; have r2 := k1.cell d2; have r3 := k1.cell d3; have r4 := k1.cell d4))
      have k1H := hid k1
      clear k1 c0 c1 c2 c3 c4 d0 d1 d2 d3 d4 q0 q1 q2 q3 q4 r0 r1 r2 r3 r4
      rcases hbb with rfl | rfl
      · go_wp2_with fail
        go_roundw
        case rel => exact ⟨I, C, rfl, rfl, hdn.out (by simp), k1H.out.own okH.out.drew, (ekH.out.drew).trans k1H.out.ext⟩
        case measure => simp [intOf]; omega
      · go_wp2_with fail
        go_roundw
        case rel => exact ⟨C + 1, J, by go_num, rfl, hup.out (by simp), k1H.out.own okH.out.drew, (ekH.out.drew).trans k1H.out.ext⟩
        case measure => simp [intOf]; omega
    · have hIJ : I = J := by have := hhH.out.h2; omega
      subst hIJ
      obtain ⟨T, hT⟩ : ∃ T, I = a + T := ⟨I - a, by omega⟩
      have hTH := hid hT
      have hTV : Hid (T ≤ U.length) := hid (by have := haH.out; have := hmH.out; omega)
      have hyes : Hid (∀ x ∈ U.take T, ltK v.first x.first = false) := hid (by
        intro x hx
        obtain ⟨i, hi, rfl⟩ := List.getElem_of_mem hx
        rw [List.length_take] at hi
        have h1 : (!ltK v.first (at' xs (a + i)).first) = true := hhH.out.yes (a + i) (by omega) (by rw [hTH.out]; omega)
        have h2 := hux.out (a + i) (by omega) (by rw [hTH.out] at hJb; omega)
        have h3 : U[i]? = some U[i] := List.getElem?_eq_getElem (by omega)
        rw [Nat.add_sub_cancel_left, h3] at h2
        rw [at_eq h2] at h1
        rw [List.getElem_take]; simpa using h1)
      have hno : Hid (∀ x ∈ U.drop T, ltK v.first x.first = true) := hid (by
        intro x hx
        obtain ⟨i, hi, rfl⟩ := List.getElem_of_mem hx
        rw [List.length_drop] at hi
        have e1 := hmH.out; have e2 := haH.out
        have h1 : (!ltK v.first (at' xs (a + (T + i))).first) = false := hhH.out.no (a + (T + i)) (by rw [hTH.out]; omega) (by omega)
        have h2 := hux.out (a + (T + i)) (by omega) (by omega)
        have h3 : U[T + i]? = some U[T + i] := List.getElem?_eq_getElem (by omega)
        rw [Nat.add_sub_cancel_left, h3] at h2
        rw [at_eq h2] at h1
        rw [List.getElem_drop]; simpa using h1)
      clear hT hhH hsr p1
      go_wp2_with fail
      go_loopw [17] (fun k wr2 => ∃ t : Nat, T ≤ t ∧ t ≤ U.length ∧ k = .int .i64 ((a + t : Nat) : Int) ∧ Own wr2 (sl 43 metaE (.slice (some ⟨g, 0, none⟩) L cap) (P ++ (U.take t ++ (v :: (U.drop t ++ Q)))) :: F) ∧ Ext w wr2) (fun k _ => (intOf k).toNat)
      case atStart => exact ⟨U.length, hTV.out, Nat.le_refl _, by have := hmH.out; have := haH.out; congr 1; omega, by have := okH.out; rw [hxsH.out] at this; simpa using this, ekH.out⟩
      case round =>
        obtain ⟨t1, htT, htU, rfl, ok2, ek2⟩ := hrel
        have ok2H := hid ok2
        have ek2H := hid ek2
        have htUH := hid htU
        clear ok2 ek2 htU
        by_cases hlt : T < t1
        · obtain ⟨t, rfl⟩ : ∃ t, t1 = t + 1 := ⟨t1 - 1, by omega⟩
          have ht1 : t < U.length := by have := htUH.out; omega
          have hdr : U.drop t = U[t] :: U.drop (t + 1) := List.drop_eq_getElem_cons ht1
          have htk : U.take (t + 1) = U.take t ++ [U[t]] := List.take_succ_eq_append_getElem ht1
          generalize U[t] = y at *
          have hA : Hid ((P ++ U.take t).length = a + t) := hid (by rw [List.length_append, List.length_take, haH.out]; omega)
          have hys : P ++ (U.take (t + 1) ++ (v :: (U.drop (t + 1) ++ Q))) = (P ++ U.take t) ++ (y :: v :: (U.drop (t + 1) ++ Q)) := by rw [htk]; simp
          have hx1 : (P ++ (U.take (t + 1) ++ (v :: (U.drop (t + 1) ++ Q))))[a + t]? = some y := by rw [hys, ← hA.out, show (P ++ U.take t).length = (P ++ U.take t).length + 0 from rfl, gr]; rfl
          have hy1 : (P ++ (U.take (t + 1) ++ (v :: (U.drop (t + 1) ++ Q))))[a + t + 1]? = some v := by rw [hys, ← hA.out, gr]; rfl
          have hys2 : Hid ((((P ++ (U.take (t + 1) ++ (v :: (U.drop (t + 1) ++ Q)))).set (a + t + 1) y).set (a + t) v) = P ++ (U.take t ++ (v :: (U.drop t ++ Q)))) := hid (by
            rw [hys, ← hA.out, set_dn, hdr]; simp)
          obtain ⟨⟨c0, c1, c2, c3, c4⟩, f0, f1, f2, f3, f4⟩ := sl_cells ok2H.out hx1
          obtain ⟨⟨d0, d1, d2, d3, d4⟩, e0, e1, e2, e3, e4⟩ := sl_cells ok2H.out hy1
          have hlen1 := (List.getElem?_eq_some_iff.1 hx1).1
          have hlen2 := (List.getElem?_eq_some_iff.1 hy1).1
          have hlen : Hid ((P ++ (U.take (t + 1) ++ (v :: (U.drop (t + 1) ++ Q)))).length = L) := hid (by rw [hys]; have h1 := hA.out; have h2 := hlH.out; have h3 := hLH.out; have h4 := haH.out; rw [List.length_append, h1]; simp; omega)
          have hL2 : a + t + 1 < L := by rw [← hlen.out]; exact hlen2
          have l1 := hid hlen1
          have l2 := hid hlen2
          have hLbig : a + t + 1 ≤ 1000000 := by have := hLH.out; have := hnH.out; omega
          have hgt : ((a + t + 1 : Nat) : Int) > (I : Int) := by have := hTH.out; omega
          rw [show a + (t + 1) = a + t + 1 from rfl]
          generalize hK : a + t = K at *
          have hKH := hid hK
          generalize hK1 : K + 1 = K1 at *
          have hK1H := hid hK1
          have hL1 : K < L := by omega
          have hne : K1 ≠ K := by omega
          have hw : IntKind.i64.wrap ((K1 : Int) - 1) = (K : Int) := by rw [IntWalk.i64_in _ (by omega)]; omega
          have hgd : decide ((K1 : Int) > (I : Int)) = true := decide_eq_true hgt
          clear hx1 hy1 hdr htk hys hlen1 hlen2 hK hK1
          go_wp2_with fail
          go_region
          have o1 := sl_put ok2H.out K1 l2.out y
          have o2 := sl_put o1 K (by rw [List.length_set]; exact l1.out) v
          have o3 := hid (o2.drew)
          clear o1 o2
          go_wp2
          go_roundw
          case rel => exact ⟨t, by omega, by omega, by rw [hKH.out], by rw [← hys2.out]; exact o3.out, ((((((((((ek2H.out.set _ _).set _ _).set _ _).set _ _).set _ _).set _ _).set _ _).set _ _).set _ _).set _ _).drew⟩
          case measure => have := hK1H.out; simp [intOf]; omega
        · obtain rfl : t1 = T := by omega
          have hgt : ¬ ((a + t1 : Nat) : Int) > (I : Int) := by have := hTH.out; omega
          have hgd : decide (((a + t1 : Nat) : Int) > (I : Int)) = false := decide_eq_false hgt
          rw [← hTH.out] at hgt hgd ⊢
          go_wp2
          refine bodyPost_ret (results_none rfl _ _ _) rfl ?_
          refine ⟨rfl, _, (one_perm U v t1).trans ?_, one_right hUH.out hyes.out hno.out, by simpa using ok2H.out, ek2H.out⟩
          exact (List.perm_append_singleton v U).symm
end Go.Proofs.YtdmdnhceiddcfaaGreat
