/- The walks of screeref07.Same and Ahead, screeref08.Row, and large. -/
import Derived.Test.YtihbflmjgndfiaaEntR
import Derived.Laws.StructEq
namespace Go.Proofs.Ytihbflmjgndfiaa
open Go.RowKit Go.Sl Go.Scree

/-- The same entry. -/
def eqE (a b : Ent) : Bool := (a.key.toList == b.key.toList) && ((a.seq == b.seq) && ((a.del == b.del) && (a.val.toList == b.val.toList)))
theorem eqE_iff {a b : Ent} : eqE a b = true ↔ a = b := by
  obtain ⟨ak, an, ad, av⟩ := a
  obtain ⟨bk, bn, bd, bv⟩ := b
  have h1 := eqK_iff (a := ak) (b := bk)
  have h2 := eqK_iff (a := av) (b := bv)
  unfold eqK at h1 h2
  simp only [eqE, Bool.and_eq_true, h1, h2, beq_iff_eq, Ent.mk.injEq]
theorem fieldsEnt : ∃ fs, Try.prog.fieldsOf 31 = fs ∧ fs.toList.map (fun f => (f.name == "_", f.type, f.offset)) = [(false, 9, 0), (false, 23, 1), (false, 4, 2), (false, 9, 3)] := ⟨_, rfl, by kernel_rfl⟩
theorem ent_equal (a b : Ent) (w : World) : (Op.equalIn 10000 31 (entV a) (entV b)).run Try.prog w = .ok (eqE a b) w := by
  unfold entV
  rw [run_equalIn_agg w 9999 _ _ _ (by kernel_rfl) (by kernel_rfl)]
  obtain ⟨fs, h, hf⟩ := fieldsEnt
  rw [h]
  clear h
  generalize fs.toList = l at hf
  obtain ⟨f0, l, rfl, h0, hf⟩ := List.map_eq_cons_iff.1 hf
  obtain ⟨f1, l, rfl, h1, hf⟩ := List.map_eq_cons_iff.1 hf
  obtain ⟨f2, l, rfl, h2, hf⟩ := List.map_eq_cons_iff.1 hf
  obtain ⟨f3, l, rfl, h3, hf⟩ := List.map_eq_cons_iff.1 hf
  obtain rfl := List.map_eq_nil_iff.1 hf
  simp only [Prod.mk.injEq, beq_eq_false_iff_ne] at h0 h1 h2 h3
  obtain ⟨n0, t0, o0⟩ := h0
  obtain ⟨n1, t1, o1⟩ := h1
  obtain ⟨n2, t2, o2⟩ := h2
  obtain ⟨n3, t3, o3⟩ := h3
  have u0 := Try.underlying9
  have u1 := Try.underlying23
  have u2 := Try.underlying4
  simp [Op.eqFields, n0, n1, n2, n3, t0, t1, t2, t3, o0, o1, o2, o3, go_sem, u0, u1, u2]
  by_cases e0 : a.key.toList = b.key.toList <;> by_cases e1 : a.seq = b.seq <;> by_cases e2 : a.del = b.del <;> by_cases e3 : a.val.toList = b.val.toList <;> simp [eqE, e0, e1, e2, e3]

theorem ent_neq (a : Ent) (w : World) : (binOp .neq 31 (.agg #[.string a.key, .int .u64 a.seq, .bool a.del, .string a.val]) (.agg #[.string a.key, .int .u64 a.seq, .bool a.del, .string a.val])).run Try.prog w = .ok (.bool false) w := by
  rw [run_neq_struct]
  have h := ent_equal a a w
  unfold entV at h
  rw [h]
  have : eqE a a = true := eqE_iff.2 rfl
  rw [this]; rfl

set_option maxRecDepth 20000 in
set_option maxHeartbeats 3200000 in
/-- Same of two slices that read as one list. -/
theorem same_c (va vb : Value) (l : List Ent) (w : World) (ha : Rd w entE va l) (hb : Rd w entE vb l) : Calls Try.prog 16 #[va, vb] w fun e w' => e = .returned (.bool true) ∧ Kp w w' := by
  obtain ⟨A, c, rfl, hm, hc⟩ := ha.form
  obtain ⟨B, d, rfl, _, hd⟩ := hb.form
  have hl : l.length ≤ 9223372036854775807 := by simpa [maxLen] using hm
  have haH := hid ha
  have hbH := hid hb
  clear ha hb hm hc hd
  go_enter Try.func16, Try.ntmps16
  go_wp2_with fail
  go_loopw [5] (fun i wr => ∃ k : Nat, i = .int .i64 k ∧ k ≤ l.length ∧ Kp w wr) (fun i _ => l.length - (intOf i).toNat)
  case atStart => exact ⟨0, rfl, Nat.zero_le _, Kp.refl _⟩
  case round =>
    obtain ⟨k, rfl, hk, kr⟩ := hrel
    have kH := hid kr
    clear kr
    by_cases hlt : k < l.length
    · obtain ⟨x, hx⟩ : ∃ x, l[k]? = some x := ⟨_, List.getElem?_eq_getElem hlt⟩
      obtain ⟨g, off, rfl, _, hce⟩ := rd_ent (kH.out.rd haH.out) rfl hx
      obtain ⟨a0, a1, a2, a3⟩ := hce _ _ hx
      obtain ⟨g2, off2, rfl, _, hce2⟩ := rd_ent (kH.out.rd hbH.out) rfl hx
      obtain ⟨b0, b1, b2, b3⟩ := hce2 _ _ hx
      have hne : ∀ w : World, (binOp .neq 31 (.agg #[.string x.key, .int .u64 x.seq, .bool x.del, .string x.val]) (.agg #[.string x.key, .int .u64 x.seq, .bool x.del, .string x.val])).run Try.prog w = .ok (.bool false) w := ent_neq x
      clear hce hce2 hx
      go_wp2_with fail
      go_quiet (fail)
      go_wp2
      go_roundw
      case rel => exact ⟨k + 1, by go_num, by omega, kH.out.drewN nq⟩
      case measure => simp [intOf]; omega
    · clear haH hbH
      go_wp2_with fail
      go_ret
      exact ⟨rfl, kH.out⟩

def sizeOk (x : Ent) : Prop := x.key.size ≤ 300 ∧ x.val.size ≤ 300
/-- What is known where it isn't too much. -/
def Small (rs : List RowV) : Prop := rs.length ≤ 30 ∧ ((listsOf rs).map List.length).sum ≤ 300

def LargeSays (rs : List RowV) (w : World) (e : Ending) (w' : World) : Prop := ∃ b : Bool, e = .returned (.bool b) ∧ Kp w w' ∧ (b = false → Small rs)
theorem totR_take' {rows : List (List Ent)} {k : Nat} {r : List Ent} (h : rows[k]? = some r) : ((rows.take (k + 1)).map List.length).sum = ((rows.take k).map List.length).sum + r.length := by
  obtain ⟨hk, rfl⟩ := List.getElem?_eq_some_iff.1 h
  rw [List.take_succ_eq_append_getElem hk, List.map_append]
  generalize List.map List.length (List.take k rows) = m
  simp
set_option maxRecDepth 20000 in
set_option maxHeartbeats 6400000 in
theorem large_c (v : Value) (rs : List RowV) (w : World) (h : Rd w rowE v rs) (hin : ∀ r ∈ rs, Rd w entE (.slice r.A r.n r.c) r.l) : Calls Try.prog 11 #[v] w fun e w' => LargeSays rs w e w' := by
  obtain ⟨A, c, rfl, hm, hc⟩ := h.form
  have hl : rs.length ≤ 9223372036854775807 := by simpa [maxLen] using hm
  have hH := hid h
  have hiH := hid hin
  clear h hin hm hc
  go_enter Try.func11, Try.ntmps11
  go_wp2_with fail
  go_loopw [3, 8] (fun n i wr => ∃ (k : Nat) (q : Int), i = .int .i64 k ∧ n = .int .i64 q ∧ k ≤ rs.length ∧ Kp w wr ∧ (k ≤ 30 → q = (((listsOf rs).take k).map List.length).sum ∧ q ≤ 301 * k)) (fun _ i _ => rs.length - (intOf i).toNat)
  case atStart => exact ⟨0, 0, rfl, rfl, Nat.zero_le _, Kp.refl _, fun _ => ⟨rfl, by omega⟩⟩
  case round =>
    obtain ⟨k, q, rfl, rfl, hk, kr, hq⟩ := hrel
    have kH := hid kr
    have qH := hid hq
    clear kr hq
    by_cases hlt : k < rs.length
    · obtain ⟨r, hx⟩ : ∃ r, rs[k]? = some r := ⟨_, List.getElem?_eq_getElem hlt⟩
      have hrd := hid (kH.out.rd (hiH.out r (List.mem_of_getElem? hx)))
      have hget : Hid ((listsOf rs)[k]? = some r.l) := hid (by simp [listsOf, hx])
      obtain ⟨g, off, rfl, hcell, hgl⟩ : ∃ g off, A = some ⟨g, off, none⟩ ∧ w.cell? ⟨g, off + k, none⟩ = some (.slice r.A r.n r.c) ∧ g < w.heap.size := by
        rcases hH.out with ⟨_, rfl⟩ | ⟨g, off, cap, hv, h1, h2, hc⟩
        · simp at hlt
        · simp only [Value.slice.injEq] at hv
          have h3 := hc k r hx 0 _ rfl
          simp only [rowE, Nat.mul_one, Nat.add_zero] at h3
          exact ⟨g, off, hv.1, h3, World.block_lt_of_cell? w _ h3⟩
      have hcellw := hid hcell
      have hrw := hid (hiH.out r (List.mem_of_getElem? hx))
      have hcell' := kH.out.cell hcell
      have hgl' := kH.out.lt hgl
      have hnl := hid (Rdr_len hrd.out)
      clear hcell hgl hx
      obtain ⟨rA, rn, rc, rl⟩ := r
      dsimp only at hrd hget hnl hcell' hcellw hrw
      obtain rfl : rn = rl.length := hnl.out
      have hrl : rl.length ≤ 9223372036854775807 := by have := hrd.out.len; simpa [maxLen] using this
      obtain ⟨q2, hq2⟩ : ∃ q2, IntKind.i64.wrap (q + (rl.length : Int)) = q2 := ⟨_, rfl⟩
      go_wp2_with fail
      have hq2H := hid hq2
      clear hq2
      go_loopw [23] (fun j wr => ∃ m : Nat, j = .int .i64 m ∧ m ≤ rl.length ∧ m ≤ 301 ∧ Kp w wr) (fun j _ => rl.length - (intOf j).toNat)
      case atStart => exact ⟨0, rfl, Nat.zero_le _, by omega, kH.out⟩
      case round =>
        obtain ⟨m, rfl, hml, hm1, k2⟩ := hrel
        have k2H := hid k2
        have hcell2 := k2.cell hcellw.out
        clear k2
        by_cases hm : m < rl.length
        · by_cases h300 : (300 : Int) < (m : Int)
          · go_wp2_with fail
            go_ret
            exact ⟨true, rfl, k2H.out, fun h => by cases h⟩
          · obtain ⟨x, hx⟩ : ∃ x, rl[m]? = some x := ⟨_, List.getElem?_eq_getElem hm⟩
            obtain ⟨g3, off3, rfl, _, hce⟩ := rd_ent (k2H.out.rd hrw.out) rfl hx
            obtain ⟨a0, a1, a2, a3⟩ := hce _ _ hx
            clear hce hx
            by_cases hk3 : (300 : Int) < (x.key.size : Int)
            · go_wp2_with fail
              go_ret
              exact ⟨true, rfl, k2H.out, fun h => by cases h⟩
            · by_cases hv3 : (300 : Int) < (x.val.size : Int)
              · go_wp2_with fail
                go_ret
                exact ⟨true, rfl, k2H.out, fun h => by cases h⟩
              · go_wp2_with fail
                go_roundw
                case rel => exact ⟨m + 1, by go_num, by omega, by omega, k2H.out⟩
                case measure => simp [intOf]; omega
        · obtain rfl : m = rl.length := by omega
          go_wp2_with fail
          go_roundw
          case rel =>
            refine ⟨k + 1, q2, by go_num, rfl, by omega, k2H.out, fun h30 => ?_⟩
            obtain ⟨e1, e2⟩ := qH.out (by omega)
            have e3 := totR_take' hget.out
            rw [← hq2H.out, IntWalk.i64_in _ (by omega)]
            rw [e3]
            constructor
            · rw [e1]; simp
            · omega
          case measure => simp [intOf]; omega
    · obtain rfl : k = rs.length := by omega
      by_cases h30 : (30 : Int) < (rs.length : Int)
      · by_cases hq3 : (300 : Int) < q
        · go_wp2_with fail
          go_ret
          exact ⟨true, rfl, kH.out, fun h => by cases h⟩
        · go_wp2_with fail
          go_ret
          exact ⟨true, rfl, kH.out, fun h => by cases h⟩
      · by_cases hq3 : (300 : Int) < q
        · go_wp2_with fail
          go_ret
          exact ⟨true, rfl, kH.out, fun h => by cases h⟩
        · have hs : Hid (Small rs) := hid (by
            obtain ⟨e1, _⟩ := qH.out (by omega)
            rw [List.take_of_length_le (by simp [listsOf])] at e1
            exact ⟨by omega, by omega⟩)
          go_wp2_with fail
          go_ret
          exact ⟨false, rfl, kH.out, fun _ => hs.out⟩
end Go.Proofs.Ytihbflmjgndfiaa
