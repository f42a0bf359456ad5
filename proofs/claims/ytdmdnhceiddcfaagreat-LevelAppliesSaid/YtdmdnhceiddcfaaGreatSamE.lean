/- The walks of screeref12.SameMetas, SameNumbers, Same: where both sides are the same. · The walk of large. -/
import Derived.Test.YtdmdnhceiddcfaaGreatLvlL
import Derived.Laws.StructEq
set_option linter.all false
namespace Go.Proofs.YtdmdnhceiddcfaaGreat
open Go.RowKit Go.Sl Go.Scree

theorem fieldsMeta : ∃ fs, Tryz.prog.fieldsOf 43 = fs ∧ fs.toList.map (fun f => (f.name == "_", f.type, f.offset)) = [(false, 32, 0), (false, 3, 1), (false, 9, 2), (false, 9, 3), (false, 32, 4)] := ⟨_, rfl, by kernel_rfl⟩
theorem meta_equal (a : MetaM) (w : World) : (Op.equalIn 10000 43 (.agg #[.int .u64 a.file, .int .i64 a.size, .string a.first, .string a.last, .int .u64 a.seq]) (.agg #[.int .u64 a.file, .int .i64 a.size, .string a.first, .string a.last, .int .u64 a.seq])).run Tryz.prog w = .ok true w := by
  rw [run_equalIn_agg w 9999 _ _ _ (by kernel_rfl) (by kernel_rfl)]
  obtain ⟨fs, h, hf⟩ := fieldsMeta
  rw [h]
  clear h
  generalize fs.toList = l at hf
  obtain ⟨f0, l, rfl, h0, hf⟩ := List.map_eq_cons_iff.1 hf
  obtain ⟨f1, l, rfl, h1, hf⟩ := List.map_eq_cons_iff.1 hf
  obtain ⟨f2, l, rfl, h2, hf⟩ := List.map_eq_cons_iff.1 hf
  obtain ⟨f3, l, rfl, h3, hf⟩ := List.map_eq_cons_iff.1 hf
  obtain ⟨f4, l, rfl, h4, hf⟩ := List.map_eq_cons_iff.1 hf
  obtain rfl := List.map_eq_nil_iff.1 hf
  simp only [Prod.mk.injEq, beq_eq_false_iff_ne] at h0 h1 h2 h3 h4
  obtain ⟨n0, t0, o0⟩ := h0
  obtain ⟨n1, t1, o1⟩ := h1
  obtain ⟨n2, t2, o2⟩ := h2
  obtain ⟨n3, t3, o3⟩ := h3
  obtain ⟨n4, t4, o4⟩ := h4
  have u0 := Tryz.underlying9
  have u1 := Tryz.underlying32
  have u2 := Tryz.underlying3
  simp [Op.eqFields, n0, n1, n2, n3, n4, t0, t1, t2, t3, t4, o0, o1, o2, o3, o4, go_sem, u0, u1, u2]
theorem meta_neq (a : MetaM) (w : World) : (binOp .neq 43 (.agg #[.int .u64 a.file, .int .i64 a.size, .string a.first, .string a.last, .int .u64 a.seq]) (.agg #[.int .u64 a.file, .int .i64 a.size, .string a.first, .string a.last, .int .u64 a.seq])).run Tryz.prog w = .ok (.bool false) w := by
  rw [run_neq_struct, meta_equal]; rfl
set_option maxRecDepth 20000 in
set_option maxHeartbeats 3200000 in
theorem sameMetas_c (va vb : Value) (l : List MetaM) (w : World) (ha : Rd w metaE va l) (hb : Rd w metaE vb l) : Calls Tryz.prog 30 #[va, vb] w fun e w' => e = .returned (.bool true) ∧ Kp w w' := by
  obtain ⟨A, c, rfl, hm, hc⟩ := ha.form
  obtain ⟨B, d, rfl, _, hd⟩ := hb.form
  have hl : l.length ≤ 9223372036854775807 := by simpa [maxLen] using hm
  have haH := hid ha
  have hbH := hid hb
  clear ha hb hm hc hd
  go_enter Tryz.func30, Tryz.ntmps30
  go_wp2_with fail
  go_loopw [5] (fun i wr => ∃ k : Nat, i = .int .i64 k ∧ k ≤ l.length ∧ Kp w wr) (fun i _ => l.length - (intOf i).toNat)
  case atStart => exact ⟨0, rfl, Nat.zero_le _, Kp.refl _⟩
  case round =>
    obtain ⟨k, rfl, hk, kr⟩ := hrel
    have kH := hid kr
    clear kr
    by_cases hlt : k < l.length
    · obtain ⟨x, hx⟩ : ∃ x, l[k]? = some x := ⟨_, List.getElem?_eq_getElem hlt⟩
      obtain ⟨g, off, rfl, _, a0, a1, a2, a3, a4⟩ := rd_meta (kH.out.rd haH.out) rfl hx
      obtain ⟨g2, off2, rfl, _, b0, b1, b2, b3, b4⟩ := rd_meta (kH.out.rd hbH.out) rfl hx
      have hne := fun w => meta_neq x w
      clear hx
      go_wp2_with fail
      go_quiet (fail)
      go_wp2
      go_roundw
      case rel => exact ⟨k + 1, by go_num, by omega, kH.out.drewN nq⟩
      case measure => simp [intOf]; omega
    · clear haH hbH
      go_wp2_with fail
      go_ret
      exact ⟨rfl, kH.out⟩
set_option maxRecDepth 20000 in
set_option maxHeartbeats 3200000 in
theorem sameNumbers_c (va vb : Value) (l : List Nat) (w : World) (ha : Rd w u64E va l) (hb : Rd w u64E vb l) : Calls Tryz.prog 33 #[va, vb] w fun e w' => e = .returned (.bool true) ∧ Kp w w' := by
  obtain ⟨A, c, rfl, hm, hc⟩ := ha.form
  obtain ⟨B, d, rfl, _, hd⟩ := hb.form
  have hl : l.length ≤ 9223372036854775807 := by simpa [maxLen] using hm
  have haH := hid ha
  have hbH := hid hb
  clear ha hb hm hc hd
  go_enter Tryz.func33, Tryz.ntmps33
  go_wp2_with fail
  go_loopw [5] (fun i wr => ∃ k : Nat, i = .int .i64 k ∧ k ≤ l.length ∧ Kp w wr) (fun i _ => l.length - (intOf i).toNat)
  case atStart => exact ⟨0, rfl, Nat.zero_le _, Kp.refl _⟩
  case round =>
    obtain ⟨k, rfl, hk, kr⟩ := hrel
    have kH := hid kr
    clear kr
    by_cases hlt : k < l.length
    · obtain ⟨x, hx⟩ : ∃ x, l[k]? = some x := ⟨_, List.getElem?_eq_getElem hlt⟩
      obtain ⟨g, off, rfl, _, a0⟩ := rd_num (kH.out.rd haH.out) rfl hx
      obtain ⟨g2, off2, rfl, _, b0⟩ := rd_num (kH.out.rd hbH.out) rfl hx
      clear hx
      go_wp2_with fail
      go_quiet (fail)
      go_wp2
      go_roundw
      case rel => exact ⟨k + 1, by go_num, by omega, kH.out.drewN nq⟩
      case measure => simp [intOf]; omega
    · clear haH hbH
      go_wp2_with fail
      go_ret
      exact ⟨rfl, kH.out⟩
theorem rd_size {α : Type} {En : Enc α} {w : World} {s : SlA} {xs : List α} (h : Rd w En s.v xs) : s.n = xs.length := by
  obtain ⟨_, _, hv, _⟩ := h.form
  unfold SlA.v at hv
  simp only [Value.slice.injEq] at hv
  exact hv.2.1
set_option maxRecDepth 20000 in
set_option maxHeartbeats 3200000 in
theorem same_c (g g' : SlA) (S S' : Nat → SlA) (E : EditM) (w : World) (ha : EditR w g S E) (hb : EditR w g' S' E) : Calls Tryz.prog 17 #[editV g S E, editV g' S' E] w fun e w' => e = .returned (.bool true) ∧ Kp w w' := by
  have haH := hid ha
  have hbH := hid hb
  have o0 := hid (((Own.start w).alloc (.cells (editCells g S E) 34 (0, 0))).alloc (.cells (editCells g' S' E) 34 (0, 0)))
  have e0 := hid (((Ext.refl w).alloc (.cells (editCells g S E) 34 (0, 0))).alloc (.cells (editCells g' S' E) 34 (0, 0)))
  simp only [World.size_alloc] at o0
  clear ha hb
  unfold editV
  unfold editCells at o0 e0
  go_enter Tryz.func17, Tryz.ntmps17
  go_wp2_with fail
  obtain ⟨b1, hb1⟩ : ∃ b, w.heap.size = b := ⟨_, rfl⟩
  obtain ⟨b2, hb2⟩ : ∃ b, b1 + 1 = b := ⟨_, rfl⟩
  rw [hb1, hb2] at o0 ⊢
  have hE : ∀ wr, Ext w wr → True := fun _ _ => trivial
  clear hE hb2
  go_loopw [5] (fun i wr => ∃ k : Nat, i = .int .i64 k ∧ k ≤ 4 ∧ Own wr [pts b2 (.cells (editCells g' S' E) 34 (0, 0)), pts b1 (.cells (editCells g S E) 34 (0, 0)), Sl.base w w.heap.size] ∧ Ext w wr) (fun i _ => 4 - (intOf i).toNat)
  case atStart => exact ⟨0, rfl, Nat.zero_le _, by subst hb1; exact o0.out, e0.out⟩
  case round =>
    clear o0 e0 hb1
    obtain ⟨k, rfl, hk, o, e⟩ := hrel
    have kp : Kp w wr := kp_of (cs := [_, _]) o e
    have kH := hid kp
    have oH := hid o
    have eH := hid e
    clear e kp
    by_cases hlt : k < 4
    · have hlt' : (k : Int) < 4 := by omega
      have c1 : wr.cell? ⟨b1, 1 + k, none⟩ = some (.slice (S k).A (S k).n (S k).c) := (o.pick 1).cell (edit_at g S E hlt)
      have c2 : wr.cell? ⟨b2, 1 + k, none⟩ = some (.slice (S' k).A (S' k).n (S' k).c) := o.cell (edit_at g' S' E hlt)
      have hc : Hid (Calls Tryz.prog 30 #[.slice (S k).A (S k).n (S k).c, .slice (S' k).A (S' k).n (S' k).c] wr.drew fun e w' => e = .returned (.bool true) ∧ Kp wr w') := hid (by
        refine (sameMetas_c (S k).v (S' k).v (E.nw k) wr.drew ((kH.out.drew).rd (haH.out.nw k hlt)) ((kH.out.drew).rd (hbH.out.nw k hlt))).mono ?_
        rintro e w' ⟨h1, h2⟩
        exact ⟨h1, ((Kp.refl wr).drew).trans h2⟩)
      clear o
      go_wp2_with fail
      go_region_law (first
        | (go_simp; go_at_call 30; refine hc.out.mono ?_; rintro e w1 ⟨rfl, k1⟩))
      all_goals
        have o1 := hid (k1.own oH.out)
        have e1 := hid (eH.out.trans k1.ext)
        clear c1 c2 k1
        go_wp2_with fail
        go_roundw
        case rel => exact ⟨k + 1, by go_num, by omega, o1.out, e1.out⟩
        case measure => simp [intOf]; omega
    · have hk4 : k = 4 := by omega
      have c0 : wr.cell? ⟨b1, 0, none⟩ = some (.slice g.A g.n g.c) := (o.pick 1).cell (i := 0) rfl
      have c5 : wr.cell? ⟨b1, 5, none⟩ = some (.int .u64 E.next) := (o.pick 1).cell (i := 5) rfl
      have c6 : wr.cell? ⟨b1, 6, none⟩ = some (.int .u64 E.log) := (o.pick 1).cell (i := 6) rfl
      have c7 : wr.cell? ⟨b1, 7, none⟩ = some (.int .u64 E.seq) := (o.pick 1).cell (i := 7) rfl
      have d0 : wr.cell? ⟨b2, 0, none⟩ = some (.slice g'.A g'.n g'.c) := o.cell (i := 0) rfl
      have hc := hid (sameNumbers_c g.v g'.v E.gone wr (kH.out.rd haH.out.gone) (kH.out.rd hbH.out.gone))
      unfold SlA.v at hc
      clear o
      go_wp2_with fail
      refine hc.out.mono ?_
      rintro e w1 ⟨rfl, k1⟩
      have o1 := k1.own oH.out
      have c5 : w1.cell? ⟨b1, 5, none⟩ = some (.int .u64 E.next) := (o1.pick 1).cell (i := 5) rfl
      have c6 : w1.cell? ⟨b1, 6, none⟩ = some (.int .u64 E.log) := (o1.pick 1).cell (i := 6) rfl
      have c7 : w1.cell? ⟨b1, 7, none⟩ = some (.int .u64 E.seq) := (o1.pick 1).cell (i := 7) rfl
      have d5 : w1.cell? ⟨b2, 5, none⟩ = some (.int .u64 E.next) := o1.cell (i := 5) rfl
      have d6 : w1.cell? ⟨b2, 6, none⟩ = some (.int .u64 E.log) := o1.cell (i := 6) rfl
      have d7 : w1.cell? ⟨b2, 7, none⟩ = some (.int .u64 E.seq) := o1.cell (i := 7) rfl
      have k2 := hid (kH.out.trans k1)
      clear o1 k1
      go_wp2_with fail
      go_ret
      exact ⟨rfl, k2.out⟩
end Go.Proofs.YtdmdnhceiddcfaaGreat
namespace Go.Proofs.YtdmdnhceiddcfaaGreat
open Go.RowKit Go.Sl Go.Scree

/-- An edit's lists as they lie, however long. -/
structure EditW (w : World) (g : SlA) (S : Nat → SlA) (E : EditM) : Prop where
  gone : Rd w u64E g.v E.gone
  nw : ∀ l, l < 4 → Rd w metaE (S l).v (E.nw l)
theorem EditW.kp {w w' : World} {g : SlA} {S : Nat → SlA} {E : EditM} (h : EditW w g S E) (k : Kp w w') : EditW w' g S E := ⟨k.rd h.gone, fun l hl => k.rd (h.nw l hl)⟩
structure SmallE (E : EditM) : Prop where
  gone : E.gone.length ≤ 200
  nw : ∀ l, l < 4 → (E.nw l).length ≤ 40 ∧ ∀ m ∈ E.nw l, m.first.size ≤ 300 ∧ m.last.size ≤ 300
theorem EditW.r {w : World} {g : SlA} {S : Nat → SlA} {E : EditM} (h : EditW w g S E) (s : SmallE E) : EditR w g S E := ⟨h.gone, h.nw, fun l hl => Nat.le_trans (s.nw l hl).1 (by omega)⟩
theorem rd_long {α : Type} {En : Enc α} {w : World} {s : SlA} {xs : List α} (h : Rd w En s.v xs) : s.n = xs.length := by
  obtain ⟨_, _, hv, _⟩ := h.form
  unfold SlA.v at hv
  simp only [Value.slice.injEq] at hv
  exact hv.2.1
def LargeSays (w w' : World) (e : Ending) (E : EditM) : Prop := Kp w w' ∧ ∃ b : Bool, e = .returned (.bool b) ∧ (b = false → SmallE E)
set_option maxRecDepth 20000 in
set_option maxHeartbeats 6400000 in
theorem large_c (g : SlA) (S : Nat → SlA) (E : EditM) (w : World) (h : EditW w g S E) : Calls Tryz.prog 7 #[editV g S E] w fun e w' => LargeSays w w' e E := by
  have hH := hid h
  have o0 := hid ((Own.start w).alloc (.cells (editCells g S E) 34 (0, 0)))
  have e0 := hid ((Ext.refl w).alloc (.cells (editCells g S E) 34 (0, 0)))
  have k0 := hid ((Kp.refl w).alloc (.cells (editCells g S E) 34 (0, 0)))
  have hg := rd_long h.gone
  obtain ⟨gA, gn, gc⟩ := g
  dsimp only at hg
  subst hg
  clear h
  unfold editV
  unfold editCells at o0 e0 k0
  by_cases h200 : E.gone.length ≤ 200
  · have g1 : decide ((200 : Int) < E.gone.length) = false := decide_eq_false (by omega)
    have h2H := hid h200
    clear h200
    go_enter Tryz.func7, Tryz.ntmps7
    go_wp2_with fail
    obtain ⟨b1, hb1⟩ : ∃ b, w.heap.size = b := ⟨_, rfl⟩
    rw [hb1]
    go_loopw [9, 3] (fun i _ wr => ∃ l : Nat, i = .int .i64 l ∧ l ≤ 4 ∧ Own wr [pts b1 (.cells (editCells ⟨gA, E.gone.length, gc⟩ S E) 34 (0, 0)), Sl.base w w.heap.size] ∧ Ext w wr ∧ ∀ j, j < l → (E.nw j).length ≤ 40 ∧ ∀ m ∈ E.nw j, m.first.size ≤ 300 ∧ m.last.size ≤ 300) (fun i _ _ => 4 - (intOf i).toNat)
    case atStart => exact ⟨0, rfl, Nat.zero_le _, by subst hb1; exact o0.out, e0.out, fun j hj => by omega⟩
    case round =>
      clear o0 e0 k0 hb1
      obtain ⟨l, rfl, hl, o, e, hp⟩ := hrel
      have kH : Hid (Kp w wr) := hid (kp_of (cs := [_]) o e)
      have oH := hid o
      have eH := hid e
      have hpH := hid hp
      clear e hp
      by_cases hlt : l < 4
      · have hlt' : (l : Int) < 4 := by omega
        have c1 : wr.cell? ⟨b1, 1 + l, none⟩ = some (.slice (S l).A (S l).n (S l).c) := o.cell (edit_at _ S E hlt)
        have hn := rd_long (hH.out.nw l hlt)
        rw [hn] at c1
        obtain ⟨SA, hSA⟩ : ∃ A, (S l).A = A := ⟨_, rfl⟩
        have hSH := hid hSA
        have hnH := hid hn
        rw [hSA] at c1
        have c1H := hid c1
        clear hSA hn o
        by_cases h40 : (E.nw l).length ≤ 40
        · have g2 : decide ((40 : Int) < (E.nw l).length) = false := decide_eq_false (by omega)
          have h40H := hid h40
          clear h40
          go_wp2_with fail
          go_loopw [23, 4] (fun i _ wr' => ∃ k : Nat, i = .int .i64 k ∧ k ≤ (E.nw l).length ∧ wr' = wr ∧ ∀ j x, j < k → (E.nw l)[j]? = some x → x.first.size ≤ 300 ∧ x.last.size ≤ 300) (fun i _ _ => (E.nw l).length - (intOf i).toNat)
          case atStart => exact ⟨0, rfl, Nat.zero_le _, rfl, fun j x hj => by omega⟩
          case round =>
            obtain ⟨k, rfl, hk, rfl, hq⟩ := hrel
            have hqH := hid hq
            clear hq
            by_cases hlk : k < (E.nw l).length
            · have hlk' : (k : Int) < (E.nw l).length := by omega
              have hk9 : k < 1000 := by have := h40H.out; omega
              obtain ⟨x, hx⟩ : ∃ x, (E.nw l)[k]? = some x := ⟨_, List.getElem?_eq_getElem hlk⟩
              have hr := kH.out.rd (hH.out.nw l hlt)
              unfold SlA.v at hr
              rw [hnH.out] at hr
              obtain ⟨mg, off, hA, _, a0, a1, a2, a3, a4⟩ := rd_meta hr rfl hx
              rw [hSH.out] at hA
              subst hA
              have hxH := hid hx
              clear hr hx
              by_cases hs : x.first.size ≤ 300 ∧ x.last.size ≤ 300
              · have hsH := hid hs
                have g3 : decide ((300 : Int) < x.first.size) = false := decide_eq_false (by omega)
                have g4 : decide ((300 : Int) < x.last.size) = false := decide_eq_false (by omega)
                clear hs
                go_wp2_with fail
                go_roundw
                case rel =>
                  refine ⟨k + 1, by go_num, by omega, by trivial, fun j y hj hy => ?_⟩
                  rcases Nat.lt_or_ge j k with h' | h'
                  · exact hqH.out j y h' hy
                  · obtain rfl : j = k := by omega
                    rw [hxH.out] at hy
                    cases hy
                    exact hsH.out
                case measure => simp [intOf]; omega
              · have hd : decide ((300 : Int) < x.first.size) = true ∨ decide ((300 : Int) < x.first.size) = false ∧ decide ((300 : Int) < x.last.size) = true := by
                  by_cases h1 : x.first.size ≤ 300
                  · exact .inr ⟨decide_eq_false (by omega), decide_eq_true (by have : ¬ x.last.size ≤ 300 := fun h2 => hs ⟨h1, h2⟩; omega)⟩
                  · exact .inl (decide_eq_true (by omega))
                clear hs
                rcases hd with g3 | ⟨g3, g4⟩
                all_goals
                  go_wp2_with fail
                  go_ret
                  exact ⟨kH.out, true, rfl, fun h => nomatch h⟩
            · obtain rfl : k = (E.nw l).length := by omega
              have hll : Hid (∀ m ∈ E.nw l, m.first.size ≤ 300 ∧ m.last.size ≤ 300) := hid (fun m hm => by
                obtain ⟨j, hj, rfl⟩ := List.getElem_of_mem hm
                exact hqH.out j _ hj (List.getElem?_eq_getElem hj))
              go_wp2_with fail
              go_roundw
              case rel =>
                refine ⟨l + 1, by go_num, by omega, oH.out, eH.out, fun j hj => ?_⟩
                rcases Nat.lt_or_ge j l with h' | h'
                · exact hpH.out j h'
                · obtain rfl : j = l := by omega
                  exact ⟨h40H.out, hll.out⟩
              case measure => simp [intOf]; omega
        · have g2 : decide ((40 : Int) < (E.nw l).length) = true := decide_eq_true (by omega)
          go_wp2_with fail
          go_ret
          exact ⟨kH.out, true, rfl, fun h => nomatch h⟩
      · have hl4 : l = 4 := by omega
        go_wp2_with fail
        go_ret
        exact ⟨kH.out, false, rfl, fun _ => ⟨h2H.out, fun l hl => hpH.out l (by omega)⟩⟩
  · have g1 : decide ((200 : Int) < E.gone.length) = true := decide_eq_true (by omega)
    go_enter Tryz.func7, Tryz.ntmps7
    go_wp2_with fail
    go_ret
    exact ⟨k0.out, true, rfl, fun h => nomatch h⟩
/-- An edit in a list. -/
structure EdV where
  g : SlA
  S : Nat → SlA
  E : EditM
def edE : Enc EdV := ⟨fun x => (editCells x.g x.S x.E).toList, 8, fun _ => rfl, by intro x; simp [editCells, Value.oneCell'], by omega⟩
/-- What is known of the list of edits. -/
structure EdsR (w : World) (v : Value) (xs : List EdV) : Prop where
  rd : Rd w edE v xs
  inn : ∀ x ∈ xs, EditW w x.g x.S x.E
theorem EdsR.kp {w w' : World} {v : Value} {xs : List EdV} (h : EdsR w v xs) (k : Kp w w') : EdsR w' v xs := ⟨k.rd h.rd, fun x hx => (h.inn x hx).kp k⟩
theorem rd_ed {w : World} {v : Value} {xs : List EdV} {A : Option Addr} {n c : Nat} (h : Rd w edE v xs) (hv : v = .slice A n c) {i : Nat} {x : EdV} (hx : xs[i]? = some x) :
    ∃ g off, A = some ⟨g, off, none⟩ ∧ n = xs.length ∧ ∀ j u, (editCells x.g x.S x.E)[j]? = some u → w.cell? ⟨g, off + i * 8 + j, none⟩ = some u := by
  subst hv
  rcases h with ⟨_, rfl⟩ | ⟨g, off, cap, hv, h1, h2, hc⟩
  · simp at hx
  · simp only [Value.slice.injEq] at hv
    exact ⟨g, off, hv.1, hv.2.1, fun j u hu => hc i x hx j u (by rw [← Array.getElem?_toList] at hu; exact hu)⟩
end Go.Proofs.YtdmdnhceiddcfaaGreat
