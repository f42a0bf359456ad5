/- The walks of slices.Clone, Between. -/
import Derived.Test.YtihbflmjgndfiaaEntB
import Derived.Test.YtihbflmjgndfiaaSle
import Derived.Lib.SliceRun
import Derived.Laws.Cover1
import Derived.Shelf.Abstract
namespace Go.Proofs.Ytihbflmjgndfiaa
open Go.RowKit Go.Sl Go.Scree

theorem clone_c (v : Value) (l : List Ent) (w : World) (h : Rd w entE v l) (hn : l.length ≤ 1000000) :
    Calls Try.prog 34 #[v] w fun e w' => ∃ v', e = .returned v' ∧ Own w' [sl 31 entE v' l, base w w.heap.size] ∧ Ext w w' := by
  obtain ⟨A, c, rfl, hm, hc⟩ := h.form
  have hH := hid h
  obtain ⟨i0, hi0, hz0, hz1, hz2⟩ := info_parts infoEnt
  have q22 : ∀ (w : World) (a : Option Addr) (n c n' c' : Nat), (binOp .eql 26 (.slice a n c) (.slice none n' c')).run Try.prog w = .ok (.bool a.isNone) w := fun w a n c n' c' => Lib.run_eql_slice_nil w _ _ a n c n' c' Try.underlying26
  cases A with
  | none =>
    have hl : Hid (l = []) := hid (by
      rcases h with ⟨_, h⟩ | ⟨_, _, _, hv, _⟩
      · exact h
      · simp at hv)
    clear h hm hc
    go_enter Try.func34, Try.ntmps34
    go_wp2_with fail
    go_ret
    refine ⟨_, rfl, ?_, Ext.refl _⟩
    rw [hl.out]
    exact sl_nil _ _ (Own.start w)
  | some a =>
    clear h hm hc
    go_enter Try.func34, Try.ntmps34
    go_wp2_with (refine wpList_append_rd rfl _ _ _ rfl i0 _ 4 48 Try.underlying26 hi0 hz0 hz1 hz2 rfl rfl rfl (sl_empty' 31 entE ((Own.start w).alloc (.cells #[] 31 (0, 0)))) rfl (((Kp.refl w).alloc _).rd hH.out) (by simp [maxLen]; omega) (by simp; omega) ?_)
    intro v' w' o1 e1 _
    go_wp2
    go_ret
    exact ⟨_, rfl, o1, ((Ext.refl w).alloc _).trans e1⟩

def nilK (a : ByteArray) : Bool := a.toList.isEmpty
/-- Does an entry lie outside? -/
def outB (lo hi : ByteArray) (x : Ent) : Bool := ltK x.key lo || (!nilK hi && !ltK x.key hi)

set_option maxRecDepth 20000 in
set_option maxHeartbeats 1600000 in
theorem between1_c (p q : Nat) (lo hi : ByteArray) (ts : TypeId) : ETells [pts q (.cells #[.string hi] ts (0, 0)), pts p (.cells #[.string lo] ts (0, 0))] 35 #[.pointer (some ⟨p, 0, none⟩), .pointer (some ⟨q, 0, none⟩)] (outB lo hi) := by
  refine ⟨enters_of Try.func35 (by kernel_rfl) rfl, fun x w F o => ?_⟩
  obtain ⟨xk, xn, xd, xv⟩ := x
  have c1 := o.swap.cell (i := 0) (v := .string lo) rfl
  have c2 := o.cell (i := 0) (v := .string hi) rfl
  have l1 := o.swap.lt
  have l2 := o.lt
  have oH := hid (o.allocd (x := .cells #[.string xk, .int .u64 xn, .bool xd, .string xv] 31 (0, 0)))
  clear o
  unfold entV
  have hb : Hid (outB lo hi ⟨xk, xn, xd, xv⟩ = (Op.bytesLess xk.toList lo.toList || (!hi.toList.isEmpty && !Op.bytesLess xk.toList hi.toList))) := hid (by
    rw [less_ltK, less_ltK]; rfl)
  rcases bool_cases (Op.bytesLess xk.toList lo.toList) with h1 | h1
  · rw [h1] at hb
    go_enter Try.func35, Try.ntmps35
    go_wp2_with fail
    go_ret
    exact ⟨by rw [hb.out]; rfl, oH.out, (Ext.refl _).alloc _⟩
  · rw [h1] at hb
    rcases bool_cases hi.toList.isEmpty with h2 | h2
    · rw [h2] at hb
      go_enter Try.func35, Try.ntmps35
      go_wp2_with fail
      go_ret
      exact ⟨by rw [hb.out]; rfl, oH.out, (Ext.refl _).alloc _⟩
    · rw [h2] at hb
      rcases bool_cases (Op.bytesLess xk.toList hi.toList) with h3 | h3
      all_goals
        rw [h3] at hb
        go_enter Try.func35, Try.ntmps35
        go_wp2_with fail
        go_ret
        exact ⟨by rw [hb.out]; rfl, oH.out, (Ext.refl _).alloc _⟩

/-- What Between tells. -/
def betweenP (l : List Ent) (lo hi : ByteArray) : List Ent := if rowB l = true then l.filter fun x => !outB lo hi x else []
def errP (l : List Ent) : Int := if rowB l = true then 0 else 2

theorem between_c (v : Value) (l : List Ent) (lo hi : ByteArray) (w : World) (h : Rd w entE v l) (hn : l.length ≤ 1000000) :
    Calls Try.prog 23 #[v, .string lo, .string hi] w fun e w' => ∃ v', e = .returned (.tuple #[v', .int .i64 (errP l)]) ∧ Own w' [sl 31 entE v' (betweenP l lo hi), base w w.heap.size] ∧ Ext w w' := by
  obtain ⟨A, c, rfl, hm, hc⟩ := h.form
  have hH := hid h
  clear h hm hc
  rcases bool_cases (rowB l) with hr | hr
  · unfold betweenP errP
    rw [if_pos hr, if_pos hr]
    go_enter Try.func23, Try.ntmps23
    have o0 := hid (((Own.start w).alloc (.cells #[.string lo] 9 (0, 0))).alloc (.cells #[.string hi] 9 (0, 0)))
    have k0 := hid (((Kp.refl w).alloc (.cells #[.string lo] 9 (0, 0))).alloc (.cells #[.string hi] 9 (0, 0)))
    go_wp2_with fail
    refine (row_c _ _ _ (k0.out.rd hH.out)).mono ?_
    rintro e w1 ⟨rfl, k1⟩
    have o1 := hid (k1.own o0.out)
    have k2 := hid (k0.out.trans k1)
    clear k1
    go_wp2_with fail
    refine (clone_c _ _ _ (k2.out.rd hH.out) hn).mono ?_
    rintro e w2 ⟨v', rfl, o2, e2⟩
    have o3 := hid (rebase1 o2 o1.out)
    have e3 := hid (k2.out.ext.trans e2)
    obtain ⟨A2, n2, c2, rfl⟩ := sl_shape o2
    clear o2 e2
    go_wp2_with fail
    refine (edeleteFunc_c (D := [pts (w.heap.size + 1) (.cells #[.string hi] 9 (0, 0)), pts w.heap.size (.cells #[.string lo] 9 (0, 0))]) (F := [base w w.heap.size]) (outB lo hi) 35 _ _ l (between1_c _ _ lo hi _) _ ?_).mono ?_
    · simpa using o3.out
    rintro e w4 ⟨v4, rfl, o4, e4⟩
    obtain ⟨A4, n4, c4, rfl⟩ := sl_shape o4
    have o4H := hid o4
    clear o4
    go_wp2
    go_ret2
    exact ⟨_, rfl, (Own.pick 0 o4H.out).sub (by simp), e3.out.trans e4⟩
  · unfold betweenP errP
    rw [if_neg (by rw [hr]; simp), if_neg (by rw [hr]; simp)]
    go_enter Try.func23, Try.ntmps23
    have k0 := hid (((Kp.refl w).alloc (.cells #[.string lo] 9 (0, 0))).alloc (.cells #[.string hi] 9 (0, 0)))
    go_wp2_with fail
    refine (row_c _ _ _ (k0.out.rd hH.out)).mono ?_
    rintro e w1 ⟨rfl, k1⟩
    go_wp2_with fail
    go_ret2
    exact ⟨_, rfl, sl_nil _ _ (k0.out.trans k1).base, (k0.out.trans k1).ext⟩
end Go.Proofs.Ytihbflmjgndfiaa
