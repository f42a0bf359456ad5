/- The document's Load. -/
import Derived.Test.YtkgflckfphecjaaRefC
import Derived.Test.YtkgflckfphecjaaRefD
import Derived.Test.YtkgflckfphecjaaSnapJ
namespace Go.Proofs.Ytkgflckfphecjaa
open Go.RowKit Go.Sl Go.Scree

/-- 'append' of nothing. -/
theorem wpList_append_none {P : Program} {w : World} {ops : Array Oper} {rest : List Oper} {o : Oper} {a : Act} {Q : Exit → Act → World → Prop} (hgd : o.guard = none) (s x : Operand) (t : TypeId)
    (ho : o.op = .call { callee := .builtin .append, args := #[s, x], argTypes := #[t, t] })
    (e : TypeId) (i : TypeInfo) (ht : P.underlying t = some (.slice e)) (hi : P.info? e = some i) (g n cap c : Nat) (hn : n ≤ cap) (hs : a.eval s = .slice (some ⟨g, 0, none⟩) n cap) (hx : a.eval x = .slice none 0 c)
    (h : wpList P ops Q rest (a.put o.dst (.slice (some ⟨g, 0, none⟩) n cap)) w) : wpList P ops Q (o :: rest) a w := by
  refine wpList_plain hgd fun K hK => ?_
  have hr : (Builtin.append_ #[t, t] o.type #[.slice (some ⟨g, 0, none⟩) n cap, .slice none 0 c]).run P w = .ok (.slice (some ⟨g, 0, none⟩) n cap) w := by
    simp [Builtin.append_, run_underlying ht, sizeOf, typeInfo, hi, Builtin.lenOf, Builtin.firstCells, loadCells, loadCellsFrom, hn, storeCells]
  unfold Oper.wp execOp
  simp only [ho, resolve, invoke, builtin, Sem.run_bind, Sem.run_pure, Result.andThen_ok, List.map_toArray, List.map_cons, List.map_nil, hs, hx, hr]
  exact hK _ _ h

theorem good_step {l : List Lease} (h : leasesGood l = true) {k : Nat} (hk : k + 1 < l.length) : (l.getD k ⟨0, 0, 0⟩).id < (l.getD (k + 1) ⟨0, 0, 0⟩).id := by
  simp only [leasesGood, Bool.and_eq_true, decide_eq_true_eq, List.all_eq_true, List.mem_range] at h
  have h2 := h.2 (k + 1) hk
  simp only [leaseOk, Bool.and_eq_true, Bool.or_eq_true, decide_eq_true_eq, Nat.add_sub_cancel] at h2
  rcases h2.2.2.2 with h3 | h3
  · simp at h3
  · exact h3
theorem good_le {l : List Lease} (h : leasesGood l = true) : ∀ (d j : Nat), j + d < l.length → (l.getD j ⟨0, 0, 0⟩).id ≤ (l.getD (j + d) ⟨0, 0, 0⟩).id := by
  intro d
  induction d with
  | zero => intro j _; simp
  | succ d ih =>
    intro j hj
    have h1 := ih j (by omega)
    have h2 := good_step h (k := j + d) (by omega)
    have e : j + (d + 1) = j + d + 1 := by omega
    rw [e]; omega
theorem loadGood_no {l : List Lease} {safe next : Int} {k : Nat} {x : Lease} (hx : l[k]? = some x) (h : next ≤ x.id) : loadGood l safe next = false := by
  have hk := (List.getElem?_eq_some_iff.1 hx).1
  cases hg : leasesGood l
  · simp [loadGood, hg]
  · have h1 := good_le hg (l.length - 1 - k) k (by omega)
    have e1 : k + (l.length - 1 - k) = l.length - 1 := by omega
    have e2 : l.getD k ⟨0, 0, 0⟩ = x := by simp [List.getD, hx]
    rw [e1, e2] at h1
    have h3 : ¬ (l.getD (l.length - 1) ⟨0, 0, 0⟩).id < next := by omega
    have h4 : ¬ l.length = 0 := by omega
    simp only [loadGood, decide_eq_false h3, decide_eq_false h4, Bool.or_false, Bool.and_false]
theorem loadGood_yes {l : List Lease} {safe next : Int} (hg : leasesGood l = true) (hs : safe ≤ 1099511627776) (hn : timeB next = true) (h : ∀ j x, j < l.length → l[j]? = some x → x.id < next) : loadGood l safe next = true := by
  have hl : l.length = 0 ∨ (l.getD (l.length - 1) ⟨0, 0, 0⟩).id < next := by
    by_cases h0 : l.length = 0
    · exact .inl h0
    · obtain ⟨y, hy⟩ : ∃ y, l[l.length - 1]? = some y := ⟨_, List.getElem?_eq_getElem (by omega)⟩
      right
      have e : l.getD (l.length - 1) ⟨0, 0, 0⟩ = y := by simp [List.getD, hy]
      rw [e]; exact h _ _ (by omega) hy
  simp only [loadGood, Bool.and_eq_true, Bool.or_eq_true, decide_eq_true_eq]
  exact ⟨hg, hs, hn, hl⟩

def XLoadSays (v : Value) (l : List Lease) (safe next : Int) (w : World) (F : List Chunk) (e : Ending) (w' : World) : Prop :=
  (loadGood l safe next = true ∧ ∃ p, e = .returned (.tuple #[.pointer (some ⟨p, 0, none⟩), .int .i64 0]) ∧ Own w' (regX p ⟨l, safe, next⟩ :: sl 70 leaseE v l :: F) ∧ Ext w w') ∨
  (loadGood l safe next = false ∧ e = .returned (.tuple #[.pointer none, .int .i64 2]) ∧ Own w' (sl 70 leaseE v l :: F) ∧ Ext w w')

set_option maxRecDepth 20000 in
set_option maxHeartbeats 3200000 in
theorem xload_c (v : Value) (l : List Lease) (safe next : Int) (hnn : ∀ x ∈ l, 0 ≤ x.until_) (hlen : l.length ≤ 1000) (w : World) (F : List Chunk) (o : Own w (sl 70 leaseE v l :: F)) :
    Calls Try.prog 24 #[v, .int .u64 safe, .int .u64 next] w (XLoadSays v l safe next w F) := by
  have hc := xleases_c (D := [sl 70 leaseE v l]) v l (fun w F o => sl_rd o) hnn w F o
  obtain ⟨A, n, c, rfl⟩ := sl_shape o
  have hcH := hid hc
  obtain ⟨i0, hi0, hz0, hz1, hz2⟩ := info_parts infoX
  clear hc o
  have t1 : (leasesGood l = false) ∨ leasesGood l = true := by cases leasesGood l <;> simp
  have t2 : decide ((1099511627776 : Int) < safe) = true ∨ decide ((1099511627776 : Int) < safe) = false := by cases decide ((1099511627776 : Int) < safe) <;> simp
  have t3 : decide (next < (1 : Int)) = true ∨ decide (next < (1 : Int)) = false := by cases decide (next < (1 : Int)) <;> simp
  have t4 : decide ((1099511627776 : Int) < next) = true ∨ decide ((1099511627776 : Int) < next) = false := by cases decide ((1099511627776 : Int) < next) <;> simp
  rcases t1 with t1 | t1
  · have hno : Hid (loadGood l safe next = false) := hid (by simp [loadGood, t1])
    go_enter Try.func24, Try.ntmps24
    go_wp2_with fail
    refine hcH.out.mono ?_
    rintro e w1 ⟨he, o1, e1⟩
    obtain ⟨s, rfl⟩ := colSays l he
    rw [if_neg (by rw [t1]; simp)]
    clear t1
    rcases t2 with t2 | t2
    all_goals
      go_wp2
      go_ret2
      exact .inr ⟨hno.out, rfl, o1, e1⟩
  rcases t2 with t2 | t2
  · have hno : Hid (loadGood l safe next = false) := hid (by have : ¬ safe ≤ 1099511627776 := by simpa using t2
                                                             simp [loadGood, this])
    go_enter Try.func24, Try.ntmps24
    go_wp2_with fail
    refine hcH.out.mono ?_
    rintro e w1 ⟨he, o1, e1⟩
    obtain ⟨s, rfl⟩ := colSays l he
    rw [if_pos t1]
    go_wp2
    go_ret2
    exact .inr ⟨hno.out, rfl, o1, e1⟩
  rcases t3 with t3 | t3
  · have hno : Hid (loadGood l safe next = false) := hid (by have h1 : next < 1 := by simpa using t3
                                                             have : ¬ 0 < next := by omega
                                                             simp [loadGood, timeB, this])
    go_enter Try.func24, Try.ntmps24
    go_wp2_with fail
    refine hcH.out.mono ?_
    rintro e w1 ⟨he, o1, e1⟩
    obtain ⟨s, rfl⟩ := colSays l he
    rw [if_pos t1]
    go_wp2
    go_ret2
    exact .inr ⟨hno.out, rfl, o1, e1⟩
  rcases t4 with t4 | t4
  · have hno : Hid (loadGood l safe next = false) := hid (by have : ¬ next ≤ 1099511627776 := by simpa using t4
                                                             simp [loadGood, timeB, this])
    go_enter Try.func24, Try.ntmps24
    go_wp2_with fail
    refine hcH.out.mono ?_
    rintro e w1 ⟨he, o1, e1⟩
    obtain ⟨s, rfl⟩ := colSays l he
    rw [if_pos t1]
    go_wp2
    go_ret2
    exact .inr ⟨hno.out, rfl, o1, e1⟩
  have hparts : Hid (leasesGood l = true ∧ safe ≤ 1099511627776 ∧ timeB next = true) := hid ⟨t1, by simpa using t2, by
    have h1 : ¬ next < 1 := by simpa using t3
    have h2 : next ≤ 1099511627776 := by simpa using t4
    simp [timeB, h2]; omega⟩
  go_enter Try.func24, Try.ntmps24
  go_wp2_with fail
  refine hcH.out.mono ?_
  rintro e w1 ⟨he, o1, e1⟩
  obtain ⟨s, rfl⟩ := colSays l he
  rw [if_pos t1]
  obtain ⟨rfl⟩ : n = l.length := by
    rcases sl_form o1 with ⟨h, h2⟩ | ⟨g, cap, h, _⟩
    · cases h; rw [h2]; rfl
    · cases h; rfl
  have o1H := hid o1
  clear t1 o1
  go_wp2_with fail
  go_loop [10] (fun i => ∃ k : Nat, i = .int .i64 k ∧ k ≤ l.length ∧ ∀ j x, j < k → l[j]? = some x → x.id < next) (fun i => l.length - (intOf i).toNat)
  case atStart => exact ⟨0, rfl, Nat.zero_le _, fun j x hj => by omega⟩
  case round =>
    obtain ⟨k, rfl, hk, hall⟩ := hrel
    have hallH := hid hall
    clear hall
    by_cases hlt : k < l.length
    · obtain ⟨x, hx⟩ : ∃ x, l[k]? = some x := ⟨_, List.getElem?_eq_getElem hlt⟩
      obtain ⟨g, cap', hv, hgl, _, hn, hcap, d0, d1, d2, _, _, _⟩ := sl_get o1H.out hx
      simp only [Value.slice.injEq] at hv
      obtain ⟨rfl, _, rfl⟩ := hv
      have hxH := hid hx
      clear hx
      by_cases hb : next ≤ x.id
      · have hd : decide (next ≤ x.id) = true := decide_eq_true hb
        have hno : Hid (loadGood l safe next = false) := hid (loadGood_no hxH.out hb)
        go_wp2
        go_ret2
        exact .inr ⟨hno.out, rfl, o1H.out, e1⟩
      · have hd : decide (next ≤ x.id) = false := decide_eq_false hb
        go_wp2
        go_round
        case rel => exact ⟨k + 1, by go_num, by omega, fun j y hj hy => by
          rcases Nat.lt_or_ge j k with h' | h'
          · exact hallH.out j y h' hy
          · obtain rfl : j = k := by omega
            rw [hxH.out] at hy
            obtain rfl := Option.some.inj hy
            omega⟩
        case measure => simp [intOf]; omega
    · have hyes : Hid (loadGood l safe next = true) := hid (loadGood_yes hparts.out.1 hparts.out.2.1 hparts.out.2.2 (fun j x hj hx => hallH.out j x (by omega) hx))
      have e0 := sl_empty 70 leaseE (o1H.out.alloc (.cells #[] 70))
      have e0H := hid e0
      clear e0
      rcases sl_form o1H.out with ⟨hv, hl0⟩ | ⟨g, cap, hv, hn, hcm⟩
      · simp only [Value.slice.injEq] at hv
        obtain ⟨rfl, _, rfl⟩ := hv
        subst hl0
        go_wp2_with (refine wpList_append_none rfl _ _ _ rfl 70 i0 Try.underlying46 hi0 w1.heap.size 0 0 0 (Nat.le_refl _) rfl rfl ?_)
        go_wp2
        go_ret2
        have oo := e0H.out.alloc (.cells #[.slice (some ⟨w1.heap.size, 0, none⟩) 0 0, .int .u64 safe, .int .u64 next] 50)
        have hz : (w1.alloc (.cells #[] 70)).heap.size = w1.heap.size + 1 := by simp
        rw [hz] at oo
        exact .inl ⟨hyes.out, _, rfl, regX_close (r := ⟨[], safe, next⟩) oo, (e1.alloc _).alloc _⟩
      · simp only [Value.slice.injEq] at hv
        obtain ⟨rfl, _, rfl⟩ := hv
        go_wp2_with (refine wpList_append_slc rfl _ _ _ rfl 70 i0 _ 3 24 Try.underlying46 hi0 hz0 hz1 hz2 rfl (by omega) _ _ _ rfl e0H.out _ _ _ (leaseE.flat l) rfl ?c0 ?c1 ?c2 ?c3 ?c4 ?_)
        case c0 => rw [Enc.flat_len]; rfl
        case c1 =>
          intro j u hu
          have h := sl_cells (Own.pick 1 e0H.out) 0 j u (by simpa using hu)
          have hadd : (⟨g, 0, none⟩ : Addr).add j = ⟨g, j, none⟩ := by unfold Addr.add; split <;> simp_all
          rw [hadd] at h
          exact h
        case c2 => exact Enc.flat_one _ _
        case c3 => unfold maxLen; omega
        case c4 => omega
        intro v3 w3 o3 e3 _
        have o4 := sl_of (E := leaseE) l o3 (by simp) (by simp [Enc.flat])
        obtain ⟨A3, n3, k3, rfl⟩ := sl_shape o4
        have o4H := hid o4
        clear o3 o4
        go_wp2
        go_ret2
        exact .inl ⟨hyes.out, _, rfl, regX_close (r := ⟨l, safe, next⟩) (o4H.out.alloc _), ((e1.alloc _).trans e3).alloc _⟩
end Go.Proofs.Ytkgflckfphecjaa
