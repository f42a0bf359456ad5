/- slices.SortStableFunc at tables: symMerge. -/
import Derived.Test.YtdmdnhceiddcfaaGreatLvlW
set_option linter.all false
namespace Go.Proofs.YtdmdnhceiddcfaaGreat
open Go.RowKit Go.Sl Go.Scree

/-- What symMerge does to two rows side by side. -/
def SymSays (F : List Chunk) (g cap L k : Nat) : Prop := ∀ (a m b : Nat) (P U V Q xs : List MetaM), U.length + V.length < k → xs = P ++ (U ++ (V ++ Q)) → a = P.length → m = P.length + U.length → b = P.length + U.length + V.length → 0 < U.length → 0 < V.length → U.Pairwise UpF → V.Pairwise UpF → xs.length ≤ 1000000 → L = xs.length →
  ∀ w, Own w (sl 43 metaE (.slice (some ⟨g, 0, none⟩) L cap) xs :: F) →
  Calls Tryz.prog 87 #[.slice (some ⟨g, 0, none⟩) L cap, .int .i64 a, .int .i64 m, .int .i64 b, .func (.func 56) #[] #[]] w fun e w' => e = .returned (.tuple #[]) ∧ ∃ W, W.Perm (U ++ V) ∧ W.Pairwise UpF ∧ Own w' (sl 43 metaE (.slice (some ⟨g, 0, none⟩) L cap) (P ++ (W ++ Q)) :: F) ∧ Ext w w'
theorem lt_cases (X Y : Nat) : (X < Y ∧ decide (X < Y) = true) ∨ (Y ≤ X ∧ decide (X < Y) = false) := by
  rcases Nat.lt_or_ge X Y with h | h
  · exact .inl ⟨h, decide_eq_true h⟩
  · exact .inr ⟨h, decide_eq_false (by omega)⟩
theorem up_nil_left {V : List MetaM} {A : List MetaM} (h : A.length = 0) (hV : V.Pairwise UpF) : (A ++ V).Pairwise UpF := by
  obtain rfl := List.eq_nil_of_length_eq_zero h
  exact hV
theorem up_nil_right {V : List MetaM} {A : List MetaM} (h : A.length = 0) (hV : V.Pairwise UpF) : (V ++ A).Pairwise UpF := by
  obtain rfl := List.eq_nil_of_length_eq_zero h
  simpa using hV

set_option maxRecDepth 20000 in
set_option maxHeartbeats 12800000 in
theorem msym3_c {F : List Chunk} (g cap L k : Nat) (ih : SymSays F g cap L k) (a m b : Nat) (P U V Q xs : List MetaM) (hk : U.length + V.length < k + 1) (hxs : xs = P ++ (U ++ (V ++ Q))) (ha : a = P.length) (hm : m = P.length + U.length) (hb : b = P.length + U.length + V.length)
    (hu : 2 ≤ U.length) (hv : 2 ≤ V.length) (hU : U.Pairwise UpF) (hV : V.Pairwise UpF) (hn : xs.length ≤ 1000000) (hL : L = xs.length) (w : World) (o : Own w (sl 43 metaE (.slice (some ⟨g, 0, none⟩) L cap) xs :: F)) :
    Calls Tryz.prog 87 #[.slice (some ⟨g, 0, none⟩) L cap, .int .i64 a, .int .i64 m, .int .i64 b, .func (.func 56) #[] #[]] w fun e w' => e = .returned (.tuple #[]) ∧ ∃ W, W.Perm (U ++ V) ∧ W.Pairwise UpF ∧ Own w' (sl 43 metaE (.slice (some ⟨g, 0, none⟩) L cap) (P ++ (W ++ Q)) :: F) ∧ Ext w w' := by
  have hl : xs.length = P.length + (U.length + (V.length + Q.length)) := by rw [hxs]; simp
  obtain ⟨M, hM⟩ : ∃ M, (a + b) / 2 = M := ⟨_, rfl⟩
  have hua : m = a + U.length := by omega
  have hvb : b = m + V.length := by omega
  have hlb : b ≤ L := by omega
  have hb6 : b ≤ 1000000 := by omega
  have hmL : m < L := by omega
  obtain ⟨q, hq⟩ : ∃ q, M = a + (q + 1) := ⟨M - a - 1, by omega⟩
  have oH := hid o
  have hxsH := hid hxs
  have hnH := hid hn
  have hLH := hid hL
  have haH := hid ha
  have hlH := hid hl
  have hUH := hid hU
  have hVH := hid hV
  have ihH := hid ih
  have hkH := hid hk
  have huaH := hid hua
  have hvbH := hid hvb
  have hMH := hid hM
  have hqH := hid hq
  have eg := lower_eg
  have huH := hid hu
  have hvH := hid hv
  have w1 : IntKind.i64.wrap ((m : Int) - (a : Int)) = ((m - a : Nat) : Int) := by rw [IntWalk.i64_in _ (by omega)]; omega
  have e1 : (((m - a : Nat) : Int) == 1) = false := by rw [beq_eq_false_iff_ne]; omega
  have w2 : IntKind.i64.wrap ((b : Int) - (m : Int)) = ((b - m : Nat) : Int) := by rw [IntWalk.i64_in _ (by omega)]; omega
  have e2 : (((b - m : Nat) : Int) == 1) = false := by rw [beq_eq_false_iff_ne]; omega
  have hdv0 : ((a : Int) + (b : Int)) / 2 = (M : Int) := by omega
  have hab6 : a ≤ 1000000 := by omega
  have hm6 : m ≤ 1000000 := by omega
  have hM6 : M ≤ 1000000 := by omega
  obtain ⟨n, hnn⟩ : ∃ n, M + m = n := ⟨_, rfl⟩
  have hnnH := hid hnn
  have w3 : IntKind.i64.wrap ((M : Int) + (m : Int)) = (n : Int) := by rw [IntWalk.i64_in _ (by omega)]; omega
  have w4 : IntKind.i64.wrap ((n : Int) - 1) = ((n - 1 : Nat) : Int) := by rw [IntWalk.i64_in _ (by omega)]; omega
  have hux : Hid (∀ c, c < U.length → xs[a + c]? = U[c]?) := hid (by
    intro c h1
    rw [hxsH.out, haH.out, gr, gl U _ h1])
  have hvx : Hid (∀ c, c < V.length → xs[m + c]? = V[c]?) := hid (by
    intro c h1
    rw [hxsH.out, huaH.out, haH.out, Nat.add_assoc, gr, gr, gl V _ h1])
  obtain ⟨S0, R0, hcase⟩ : ∃ S0 R0 : Nat, (M < m ∧ S0 + b = n ∧ R0 = M ∧ IntKind.i64.wrap ((n : Int) - (b : Int)) = (S0 : Int)) ∨ (m ≤ M ∧ S0 = a ∧ R0 = m ∧ IntKind.i64.wrap ((n : Int) - (b : Int)) = IntKind.i64.wrap ((n : Int) - (b : Int))) := by
    rcases Nat.lt_or_ge M m with h | h
    · exact ⟨n - b, M, .inl ⟨h, by omega, rfl, by rw [IntWalk.i64_in _ (by omega)]; omega⟩⟩
    · exact ⟨a, m, .inr ⟨h, rfl, rfl, rfl⟩⟩
  have hS0a : a ≤ S0 := by rcases hcase with h | h <;> omega
  have hS0R : S0 ≤ R0 := by rcases hcase with h | h <;> omega
  have hR0m : R0 ≤ m := by rcases hcase with h | h <;> omega
  have hR0M : R0 ≤ M := by rcases hcase with h | h <;> omega
  have hS0b : n ≤ S0 + b := by rcases hcase with h | h <;> omega
  have hlo : Hid (S0 - a = 0 ∨ S0 - a + V.length = q + 1) := hid (by rcases hcase with h | h <;> omega)
  have hhi : Hid (R0 - a = U.length ∨ R0 - a = q + 1) := hid (by rcases hcase with h | h <;> omega)
  have p1 : Hid (Falls (symP U V q) (S0 - a) (R0 - a)) := hid (sym_falls hU hV (by omega) (by omega) (by omega))
  have hcm : decide (M < m) = true ∧ IntKind.i64.wrap ((n : Int) - (b : Int)) = (S0 : Int) ∧ R0 = M ∨ decide (M < m) = false ∧ S0 = a ∧ R0 = m := by
    rcases hcase with ⟨h, _, h2, h3⟩ | ⟨h, h1, h2, _⟩
    · exact .inl ⟨decide_eq_true h, h3, h2⟩
    · exact .inr ⟨decide_eq_false (by omega), h1, h2⟩
  clear o hxs hn hL ha hm hb hl hU hV ih hk hua hvb hM hq hu hv hcase hnn
  generalize m - a = ma at *
  generalize b - m = bm at *
  generalize hn1 : n - 1 = n1 at *
  have hn1H := hid hn1
  clear hn1
  go_enter Tryz.func87, Tryz.ntmps87
  rcases hcm with ⟨g1, g2, g3⟩ | ⟨g1, g2, g3⟩
  all_goals
    have g3H := hid g3
    have g2H := hid g2
    clear g3
    first | (have : S0 = a := g2; clear this g2) | skip
    go_wp2_with fail
    clear w1 e1 w2 e2 hdv0 w3 w4 g1
    go_loopw [20, 21] (fun i j wr => ∃ I J : Nat, i = .int .i64 I ∧ j = .int .i64 J ∧ S0 ≤ I ∧ I ≤ J ∧ J ≤ R0 ∧ Half (symP U V q) (S0 - a) (R0 - a) (I - a) (J - a) ∧ Own wr (sl 43 metaE (.slice (some ⟨g, 0, none⟩) L cap) xs :: F) ∧ Ext w wr) (fun i j wr => (intOf j).toNat - (intOf i).toNat)
    case atStart => exact ⟨S0, R0, by first | rfl | (rw [g2H.out]), by rw [g3H.out], Nat.le_refl _, hS0R, Nat.le_refl _, Half.start _ (by omega), oH.out, Ext.refl _⟩
    case round =>
      obtain ⟨I, J, rfl, rfl, hSI, hIJ, hJR, hh, ok, ek⟩ := hrel
      have hhH := hid hh
      have okH := hid ok
      have ekH := hid ek
      clear hh ok ek
      have hJ6 : J ≤ 1000000 := by omega
      have e1 := huaH.out
      have e2 := hvbH.out
      have e3 := hqH.out
      have e4 := hnnH.out
      have e5 := hn1H.out
      by_cases hsr : I < J
      · obtain ⟨C, hC⟩ : ∃ C, (I + J) / 2 = C := ⟨_, rfl⟩
        have hdv : ((I : Int) + (J : Int)) / 2 = (C : Int) := by omega
        obtain ⟨D, hD⟩ : ∃ D, n1 - C = D := ⟨_, rfl⟩
        have hwD : IntKind.i64.wrap ((n1 : Int) - (C : Int)) = (D : Int) := by rw [IntWalk.i64_in _ (by omega)]; omega
        have hCL : C < L := by omega
        have hDL : D < L := by omega
        have hx : xs[C]? = some (at' U (C - a)) := by
          have := hux.out (C - a) (by omega)
          rw [show a + (C - a) = C by omega] at this
          rw [this]
          exact at_some (by omega)
        have hy : xs[D]? = some (at' V (q - (C - a))) := by
          have := hvx.out (D - m) (by omega)
          rw [show m + (D - m) = D by omega, show D - m = q - (C - a) by omega] at this
          rw [this]
          exact at_some (by omega)
        obtain ⟨⟨c0, c1, c2, c3, c4⟩, _⟩ := sl_cells okH.out hx
        obtain ⟨⟨d0, d1, d2, d3, d4⟩, _⟩ := sl_cells okH.out hy
        have hmid : (I - a + (J - a)) / 2 = C - a := by omega
        have hup : Hid (ltK (at' V (q - (C - a))).first (at' U (C - a)).first = false → Half (symP U V q) (S0 - a) (R0 - a) (C + 1 - a) (J - a)) := hid (fun h => by
          have := hhH.out.up p1.out (by omega) (by rw [hmid]; unfold symP; rw [h]; rfl)
          rwa [hmid, show C - a + 1 = C + 1 - a by omega] at this)
        have hdn : Hid (ltK (at' V (q - (C - a))).first (at' U (C - a)).first = true → Half (symP U V q) (S0 - a) (R0 - a) (I - a) (C - a)) := hid (fun h => by
          have := hhH.out.down p1.out (by omega) (by rw [hmid]; unfold symP; rw [h]; rfl)
          rwa [hmid] at this)
        have hIC : I ≤ C := by omega
        have hCJ : C < J := by omega
        generalize at' U (C - a) = x at *
        generalize at' V (q - (C - a)) = y at *
        have hlow := low_lt y x
        have lowC := hid (fun w => lower_k y x w)
        have hbb := bool_cases (ltK y.first x.first)
        generalize ltK y.first x.first = bb at *
        generalize lowF y x = lf at *
        clear hx hy hC hD hmid e1 e2 e3 e4 e5
        go_wp2_with fail
        go_region_held3 (fun W => (W.cell? ⟨g, C * 5, none⟩ = some (.int .u64 x.file) ∧ W.cell? ⟨g, C * 5 + 1, none⟩ = some (.int .i64 x.size) ∧ W.cell? ⟨g, C * 5 + 2, none⟩ = some (.string x.first) ∧ W.cell? ⟨g, C * 5 + 3, none⟩ = some (.string x.last) ∧ W.cell? ⟨g, C * 5 + 4, none⟩ = some (.int .u64 x.seq)) ∧ (W.cell? ⟨g, D * 5, none⟩ = some (.int .u64 y.file) ∧ W.cell? ⟨g, D * 5 + 1, none⟩ = some (.int .i64 y.size) ∧ W.cell? ⟨g, D * 5 + 2, none⟩ = some (.string y.first) ∧ W.cell? ⟨g, D * 5 + 3, none⟩ = some (.string y.last) ∧ W.cell? ⟨g, D * 5 + 4, none⟩ = some (.int .u64 y.seq))) (first | exact ⟨⟨c0, c1, c2, c3, c4⟩, d0, d1, d2, d3, d4⟩ | (and_intros <;> assumption)) (first | (go_at_call 56; refine (lowC.out _).mono ?_; rintro e w1 ⟨rfl, k1⟩; have q0 := k1.cell c0; have q1 := k1.cell c1; have q2 := k1.cell c2; have q3 := k1.cell c3; have q4 := k1.cell c4; have r0 := k1.cell d0; have r1 := k1.cell d1; have r2 := k1.cell d2; have r3 := k1.cell d3; have r4 := k1.cell d4))
        have k1H := hid k1
        clear k1 c0 c1 c2 c3 c4 d0 d1 d2 d3 d4 q0 q1 q2 q3 q4 r0 r1 r2 r3 r4
        rcases hbb with rfl | rfl
        · go_wp2_with fail
          go_roundw
          case rel => exact ⟨I, C, rfl, rfl, hSI, hIC, by omega, hdn.out (by simp), k1H.out.own okH.out.drew, (ekH.out.drew).trans k1H.out.ext⟩
          case measure => simp [intOf]; omega
        · go_wp2_with fail
          go_roundw
          case rel => exact ⟨C + 1, J, by go_num, rfl, by omega, by omega, hJR, hup.out (by simp), k1H.out.own okH.out.drew, (ekH.out.drew).trans k1H.out.ext⟩
          case measure => simp [intOf]; omega
      · have hIJ : I = J := by omega
        subst hIJ
        obtain ⟨t, ht⟩ : ∃ t, I = a + t := ⟨I - a, by omega⟩
        obtain ⟨z, hz⟩ : ∃ z, M = I + z := ⟨M - I, by omega⟩
        obtain ⟨E, hE⟩ : ∃ E, n - I = E := ⟨_, rfl⟩
        have hwE : IntKind.i64.wrap ((n : Int) - (I : Int)) = (E : Int) := by rw [IntWalk.i64_in _ (by omega)]; omega
        have htU : t ≤ U.length := by omega
        have hzV : z ≤ V.length := by omega
        have hEm : E = m + z := by omega
        have hp : Hid ((∀ x ∈ U.take t, ∀ y ∈ V.drop z, UpF x y) ∧ ∀ x ∈ V.take z, ∀ y ∈ U.drop t, UpF x y) := hid (by
          refine sym_parts hUH.out hVH.out (q := q) (lo := S0 - a) (top := R0 - a) ?_ (by omega) (by omega) hzV hlo.out hhi.out
          have := hhH.out
          rwa [show I - a = t by omega] at this)
        obtain ⟨U1, hU1⟩ : ∃ U1, U.take t = U1 := ⟨_, rfl⟩
        obtain ⟨U2, hU2⟩ : ∃ U2, U.drop t = U2 := ⟨_, rfl⟩
        obtain ⟨V1, hV1⟩ : ∃ V1, V.take z = V1 := ⟨_, rfl⟩
        obtain ⟨V2, hV2⟩ : ∃ V2, V.drop z = V2 := ⟨_, rfl⟩
        have lU1 : U1.length = t := by rw [← hU1, List.length_take]; omega
        have lU2 : U2.length = U.length - t := by rw [← hU2, List.length_drop]
        have lV1 : V1.length = z := by rw [← hV1, List.length_take]; omega
        have lV2 : V2.length = V.length - z := by rw [← hV2, List.length_drop]
        rw [hU1, hU2, hV1, hV2] at hp
        have hUe : Hid (U = U1 ++ U2) := hid (by rw [← hU1, ← hU2, List.take_append_drop])
        have hVe : Hid (V = V1 ++ V2) := hid (by rw [← hV1, ← hV2, List.take_append_drop])
        have sU1 : Hid (U1.Pairwise UpF) := hid (by rw [← hU1]; exact hUH.out.sublist (List.take_sublist _ _))
        have sU2 : Hid (U2.Pairwise UpF) := hid (by rw [← hU2]; exact hUH.out.sublist (List.drop_sublist _ _))
        have sV1 : Hid (V1.Pairwise UpF) := hid (by rw [← hV1]; exact hVH.out.sublist (List.take_sublist _ _))
        have sV2 : Hid (V2.Pairwise UpF) := hid (by rw [← hV2]; exact hVH.out.sublist (List.drop_sublist _ _))
        have hxs4 : xs = P ++ (U1 ++ (U2 ++ (V1 ++ (V2 ++ Q)))) := by rw [hxsH.out, hUe.out, hVe.out]; simp
        have haP := haH.out
        have hlx := hlH.out
        have hLx := hLH.out
        have hkx := hkH.out
        have hux6 := huH.out
        have hvx6 := hvH.out
        have hMx := hMH.out
        have hnx := hnH.out
        have hrot : Hid (I < m → m < E → Calls Tryz.prog 99 #[.slice (some ⟨g, 0, none⟩) L cap, .int .i64 I, .int .i64 m, .int .i64 E, .func (.func 56) #[] #[]] wr fun e w' => e = .returned (.tuple #[]) ∧ Own w' (sl 43 metaE (.slice (some ⟨g, 0, none⟩) L cap) (P ++ (U1 ++ (V1 ++ (U2 ++ (V2 ++ Q))))) :: F) ∧ Ext wr w') := hid (fun h1 h2 => by
          refine (mrotate_c g cap I m E _ (P ++ U1) U2 V1 (V2 ++ Q) xs (by rw [hxs4]; simp) (by simp; omega) (by simp; omega) (by simp; omega) (by omega) (by omega) hnH.out wr L hLH.out okH.out).mono ?_
          rintro e w' ⟨he, o', x'⟩
          exact ⟨he, by simpa using o', x'⟩)
        have hno : Hid (¬ (I < m ∧ m < E) → Own wr (sl 43 metaE (.slice (some ⟨g, 0, none⟩) L cap) (P ++ (U1 ++ (V1 ++ (U2 ++ (V2 ++ Q))))) :: F)) := hid (fun h => by
          have e : U2 ++ (V1 ++ (V2 ++ Q)) = V1 ++ (U2 ++ (V2 ++ Q)) := by
            rcases Nat.eq_zero_or_pos U2.length with h1 | h1
            · rw [List.eq_nil_of_length_eq_zero h1]; rfl
            · rw [List.eq_nil_of_length_eq_zero (show V1.length = 0 by omega)]; rfl
          have := okH.out
          rw [hxs4, e] at this
          exact this)
        have hleft : Hid (a < I → I < M → ∀ w2, Own w2 (sl 43 metaE (.slice (some ⟨g, 0, none⟩) L cap) (P ++ (U1 ++ (V1 ++ (U2 ++ (V2 ++ Q))))) :: F) → Calls Tryz.prog 87 #[.slice (some ⟨g, 0, none⟩) L cap, .int .i64 a, .int .i64 I, .int .i64 M, .func (.func 56) #[] #[]] w2 fun e w' => e = .returned (.tuple #[]) ∧ ∃ W, W.Perm (U1 ++ V1) ∧ W.Pairwise UpF ∧ Own w' (sl 43 metaE (.slice (some ⟨g, 0, none⟩) L cap) (P ++ (W ++ (U2 ++ (V2 ++ Q)))) :: F) ∧ Ext w2 w') := hid (fun h1 h2 w2 o2 =>
          ihH.out a I M P U1 V1 (U2 ++ (V2 ++ Q)) _ (by omega) rfl (by omega) (by omega) (by omega) (by omega) (by omega) sU1.out sV1.out (by simp; omega) (by simp; omega) w2 o2)
        have hright : Hid (M < E → E < b → ∀ (W1 : List MetaM), W1.Perm (U1 ++ V1) → ∀ w2, Own w2 (sl 43 metaE (.slice (some ⟨g, 0, none⟩) L cap) (P ++ (W1 ++ (U2 ++ (V2 ++ Q)))) :: F) → Calls Tryz.prog 87 #[.slice (some ⟨g, 0, none⟩) L cap, .int .i64 M, .int .i64 E, .int .i64 b, .func (.func 56) #[] #[]] w2 fun e w' => e = .returned (.tuple #[]) ∧ ∃ W, W.Perm (U2 ++ V2) ∧ W.Pairwise UpF ∧ Own w' (sl 43 metaE (.slice (some ⟨g, 0, none⟩) L cap) (P ++ (W1 ++ (W ++ Q))) :: F) ∧ Ext w2 w') := hid (fun h1 h2 W1 pW w2 o2 => by
          have hW : W1.length = t + z := by rw [pW.length_eq]; simp; omega
          refine (ihH.out M E b (P ++ W1) U2 V2 Q _ (by omega) rfl (by simp; omega) (by simp; omega) (by simp; omega) (by omega) (by omega) sU2.out sV2.out (by simp; omega) (by simp; omega) w2 (by simpa using o2)).mono ?_
          rintro e w' ⟨he, W, p, s, o', x'⟩
          exact ⟨he, W, p, s, by simpa using o', x'⟩)
        have hend : Hid (∀ W1 W2 : List MetaM, W1.Perm (U1 ++ V1) → W2.Perm (U2 ++ V2) → W1.Pairwise UpF → W2.Pairwise UpF → (W1 ++ W2).Perm (U ++ V) ∧ (W1 ++ W2).Pairwise UpF) := hid (fun W1 W2 p1 p2 s1 s2 => by
          have hU0 := hUH.out
          have hV0 := hVH.out
          rw [hUe.out] at hU0
          rw [hVe.out] at hV0
          rw [hUe.out, hVe.out]
          exact halves hU0 hV0 hp.out.1 hp.out.2 p1 p2 s1 s2)
        have hs1 : Hid (¬ (a < I ∧ I < M) → (U1 ++ V1).Pairwise UpF) := hid (fun h => by
          rcases Nat.eq_zero_or_pos U1.length with h1 | h1
          · exact up_nil_left h1 sV1.out
          · exact up_nil_right (by omega) sU1.out)
        have hs2 : Hid (¬ (M < E ∧ E < b) → (U2 ++ V2).Pairwise UpF) := hid (fun h => by
          rcases Nat.eq_zero_or_pos U2.length with h1 | h1
          · exact up_nil_left h1 sV2.out
          · exact up_nil_right (by omega) sU2.out)
        have y1 : decide (I < m) = decide (M < E) := by rw [decide_eq_decide]; omega
        have y2 : decide (m < E) = decide (I < M) := by rw [decide_eq_decide]; omega
        rcases lt_cases M E with ⟨d1, f1⟩ | ⟨d1, f1⟩
        all_goals
          rcases lt_cases I M with ⟨d2, f2⟩ | ⟨d2, f2⟩
          all_goals
            rcases lt_cases a I with ⟨d3, f3⟩ | ⟨d3, f3⟩
            all_goals
              rcases lt_cases E b with ⟨d4, f4⟩ | ⟨d4, f4⟩
              all_goals first
                | (exfalso; omega)
                | (have x1 : Hid (I < m ∧ m < E ∨ ¬ (I < m ∧ m < E)) := hid (by omega)
                   have x2 : (I < m ↔ M < E) ∧ (m < E ↔ I < M) := by omega
                   have x2H := hid x2
                   rw [f1] at y1
                   rw [f2] at y2
                   clear hMx hnx ht hz hE htU hzV hEm lU1 lU2 lV1 lV2 hU1 hU2 hV1 hV2 hxs4 haP hlx hLx hkx hux6 hvx6 e1 e2 e3 e4 e5 hsr x2
                   clear hp p1 hlo hhi hux hvx hUe hVe sU1 sU2 sV1 sV2
                   have d1H := hid d1
                   have d2H := hid d2
                   have d3H := hid d3
                   have d4H := hid d4
                   clear d1 d2 d3 d4
                   go_wp2_with fail
                   first
                     | (have j1 : I < m ∧ m < E := by have h1 := d1H.out; have h2 := d2H.out; have h3 := d3H.out; have h4 := d4H.out; have h5 := x2H.out; omega
                        refine (hrot.out j1.1 j1.2).mono ?_
                        clear j1
                        rintro e w2 ⟨rfl, o2, x2⟩
                        have o2H := hid o2
                        have xtH := hid (ekH.out.trans x2)
                        clear o2 x2
                        go_wp2_with fail)
                     | (have o2H := hid (hno.out (by have h1 := d1H.out; have h2 := d2H.out; have h3 := d3H.out; have h4 := d4H.out; have h5 := x2H.out; omega))
                        have xtH := ekH)
                   first
                     | (have j1 : a < I ∧ I < M := by have h1 := d1H.out; have h2 := d2H.out; have h3 := d3H.out; have h4 := d4H.out; have h5 := x2H.out; omega
                        refine (hleft.out j1.1 j1.2 _ o2H.out).mono ?_
                        clear j1
                        rintro e w3 ⟨rfl, W1, q1, s1, o3, x3⟩
                        have o3H := hid o3
                        have xuH := hid (xtH.out.trans x3)
                        have q1H := hid q1
                        have s1H := hid s1
                        clear o3 x3 q1 s1
                        go_wp2_with fail)
                     | (obtain ⟨W1, hW1⟩ : ∃ W1, W1 = U1 ++ V1 := ⟨_, rfl⟩
                        have q1H := hid (show W1.Perm (U1 ++ V1) by rw [hW1])
                        have s1H := hid (show W1.Pairwise UpF by rw [hW1]; exact hs1.out (by have h1 := d1H.out; have h2 := d2H.out; have h3 := d3H.out; have h4 := d4H.out; have h5 := x2H.out; omega))
                        have o3 := o2H.out
                        rw [← List.append_assoc U1, ← hW1] at o3
                        have o3H := hid o3
                        have xuH := xtH
                        clear hW1 o3)
                   first
                     | (have j1 : M < E ∧ E < b := by have h1 := d1H.out; have h2 := d2H.out; have h3 := d3H.out; have h4 := d4H.out; have h5 := x2H.out; omega
                        refine (hright.out j1.1 j1.2 W1 q1H.out _ o3H.out).mono ?_
                        clear j1
                        rintro e w4 ⟨rfl, W2, q2, s2, o4, x4⟩
                        have o4H := hid o4
                        have xvH := hid (xuH.out.trans x4)
                        have q2H := hid q2
                        have s2H := hid s2
                        clear o4 x4 q2 s2
                        go_wp2_with fail)
                     | (obtain ⟨W2, hW2⟩ : ∃ W2, W2 = U2 ++ V2 := ⟨_, rfl⟩
                        have q2H := hid (show W2.Perm (U2 ++ V2) by rw [hW2])
                        have s2H := hid (show W2.Pairwise UpF by rw [hW2]; exact hs2.out (by have h1 := d1H.out; have h2 := d2H.out; have h3 := d3H.out; have h4 := d4H.out; have h5 := x2H.out; omega))
                        have o4 := o3H.out
                        rw [← List.append_assoc U2, ← hW2] at o4
                        have o4H := hid o4
                        have xvH := xuH
                        clear hW2 o4)
                   go_end0
                   obtain ⟨r1, r2⟩ := hend.out W1 W2 q1H.out q2H.out s1H.out s2H.out
                   exact ⟨rfl, W1 ++ W2, r1, r2, by simpa using o4H.out, xvH.out⟩)
theorem msym_says (F : List Chunk) (g cap L : Nat) : ∀ k, SymSays F g cap L k
  | 0 => fun _ _ _ _ _ _ _ _ h => absurd h (Nat.not_lt_zero _)
  | k + 1 => by
    intro a m b P U V Q xs hk hxs ha hm hb hu hv hU hV hn hL w o
    by_cases h1 : U.length = 1
    · match U, h1 with
      | [u], _ => exact msym1_c g cap a m b P V Q xs u hxs ha hm (by simpa using hb) hV hn w L hL o
    · by_cases h2 : V.length = 1
      · match V, h2 with
        | [v], _ => exact msym2_c g cap a m b P U Q xs v hxs ha hm hb (by omega) hU hn w L hL o
      · exact msym3_c g cap L k (msym_says F g cap L k) a m b P U V Q xs hk hxs ha hm hb (by omega) (by omega) hU hV hn hL w o
end Go.Proofs.YtdmdnhceiddcfaaGreat
