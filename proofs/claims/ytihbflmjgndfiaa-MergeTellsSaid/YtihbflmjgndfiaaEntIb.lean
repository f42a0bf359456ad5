/- The walks of the heap's begin and pop. -/
import Derived.Test.YtihbflmjgndfiaaEntI
namespace Go.Proofs.Ytihbflmjgndfiaa
open Go.RowKit Go.Sl Go.Scree

theorem CurOk.perm {W : World} {cs ds : List Cur} (p : ds.Perm cs) (h : CurOk W cs) : CurOk W ds := fun c hc => h c (p.mem_iff.1 hc)

set_option maxRecDepth 20000 in
set_option maxHeartbeats 3200000 in
theorem begin_c (hb g cap : Nat) (W w : World) (F : List Chunk) (cs : List Cur) (o : HP hb g cap W F cs w) (hr : CurOk W cs) (hn : cs.length ≤ 1000000) :
    Calls Try.prog 26 #[.pointer (some ⟨hb, 0, none⟩)] w fun e w' => e = .returned (.tuple #[]) ∧ ∃ cs', cs'.Perm cs ∧ HOk firstB 0 cs' ∧ HP hb g cap W F cs' w' ∧ Ext w w' := by
  obtain ⟨h0, h1, hbl⟩ := o.cells
  have oH := hid o
  have rH := hid hr
  clear o hr
  have hq : ((cs.length : Int)).tdiv 2 = ((cs.length / 2 : Nat) : Int) := by
    rw [Int.tdiv_eq_ediv_of_nonneg (by omega)]; omega
  go_enter Try.func26, Try.ntmps26
  go_wp2_with fail
  go_loopw [2] (fun iv wr => ∃ (k : Nat) (ds : List Cur), iv = .int .i64 ((k : Int) - 1) ∧ k ≤ cs.length ∧ ds.Perm cs ∧ HOk firstB k ds ∧ HP hb g cap W F ds wr ∧ Ext w wr) (fun iv _ => (intOf iv + 1).toNat)
  case atStart =>
    exact ⟨cs.length / 2, cs, by go_num, by omega, List.Perm.refl _, HOk.half (by omega), oH.out, Ext.refl _⟩
  case round =>
    obtain ⟨k, ds, rfl, hk, hp, hok, ok, ek⟩ := hrel
    have pH := hid hp
    have okH := hid ok
    have hokH := hid hok
    clear hp hok ok
    cases k with
    | zero =>
      go_wp2_with fail
      go_returns
      exact ⟨rfl, ds, pH.out, hokH.out, okH.out, ek⟩
    | succ j =>
      have e : ((j + 1 : Nat) : Int) - 1 = (j : Int) := by omega
      rw [e]
      clear e
      go_wp2_with fail
      refine (down_c hb g cap j j W _ F ds okH.out (rH.out.perm pH.out) (HMid.start hokH.out) (Nat.le_refl _) (by rw [pH.out.length_eq]; exact hn) (by rw [pH.out.length_eq]; omega)).mono ?_
      rintro e w1 ⟨rfl, es, hp1, hok1, o1, e1⟩
      have p1 := hid (hp1.trans pH.out)
      have hok1H := hid hok1
      have o1H := hid o1
      clear hp1 hok1 o1
      go_wp2
      go_roundw
      case rel => exact ⟨j, es, by go_num, by omega, p1.out, hok1H.out, o1H.out, ek.trans e1⟩
      case measure => simp [intOf]

/-- The first one away: the last one in its place. -/
def popL (cs : List Cur) (z : Cur) : List Cur := (cs.set 0 z).take (cs.length - 1)
theorem popL_perm {cs : List Cur} {x z : Cur} {rest : List Cur} (h : cs = x :: rest) (hz : cs[cs.length - 1]? = some z) : (popL cs z).Perm rest := by
  subst h
  unfold popL
  cases hr : rest.reverse with
  | nil =>
    have : rest = [] := by simpa using hr
    subst this
    simp
  | cons y ys =>
    have e : rest = ys.reverse ++ [y] := by have := congrArg List.reverse hr; simpa using this
    subst e
    have hzy : z = y := by
      rw [List.length_cons, Nat.add_sub_cancel, List.getElem?_cons] at hz
      rw [if_neg (by simp)] at hz
      simp only [List.length_append, List.length_reverse, List.length_singleton, Nat.add_sub_cancel] at hz
      rw [List.getElem?_append_right (by simp)] at hz
      simpa using hz.symm
    subst hzy
    simp only [List.set_cons_zero, List.length_cons, List.length_append, List.length_reverse, List.length_singleton, Nat.add_sub_cancel, List.length_nil]
    rw [List.take_succ_cons, List.take_append_of_le_length (by simp), List.take_of_length_le (by simp)]
    exact (List.perm_append_comm (l₁ := [z]) (l₂ := ys.reverse))
theorem popL_ok {cs : List Cur} {z : Cur} (h : HOk firstB 0 cs) : HOk firstB 1 (popL cs z) := by
  refine h.tail fun j y hj hy => ?_
  unfold popL at hy
  rw [List.getElem?_take] at hy
  split at hy
  · rw [List.getElem?_set, if_neg (by omega)] at hy; exact hy
  · cases hy
end Go.Proofs.Ytihbflmjgndfiaa
