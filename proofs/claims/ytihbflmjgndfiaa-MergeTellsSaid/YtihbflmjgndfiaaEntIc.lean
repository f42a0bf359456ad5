/- The walk of the heap's pop. -/
import Derived.Test.YtihbflmjgndfiaaEntIb
namespace Go.Proofs.Ytihbflmjgndfiaa
open Go.RowKit Go.Sl Go.Scree

theorem HP.pop {hb g cap : Nat} {W w : World} {F : List Chunk} {x z : Cur} {rest : List Cur} (o : HP hb g cap W F (x :: rest) w) (hz : (x :: rest)[(x :: rest).length - 1]? = some z) :
    HP hb g cap W F (popL (x :: rest) z) ((w.setCell ⟨g, 0, none⟩ (.pointer (some ⟨z.p, 0, none⟩))).drew.setCell ⟨hb, 0, none⟩ (.slice (some ⟨g, 0, none⟩) rest.length cap)) := by
  have hp := popL_perm rfl hz
  have hl : (popL (x :: rest) z).length = rest.length := hp.length_eq
  have o1 := sl_put (Own.pick 2 o) 0 (by simp) z
  have o2 := sl_take o1 rest.length (by simp)
  have e : ((x :: rest).set 0 z).take rest.length = popL (x :: rest) z := by simp [popL]
  rw [e] at o2
  have o3 := Own.drop (curs_open (Own.swap o2))
  have o4 := curs_perm hp.symm o3
  have o5 := Own.set (i := 0) (Own.drew (Own.pick 2 o4)) (.slice (some ⟨g, 0, none⟩) rest.length cap)
  unfold HP
  rw [hl]
  have o6 := Own.swap o5
  simpa [put, curE, hC] using o6

set_option maxRecDepth 20000 in
set_option maxHeartbeats 3200000 in
theorem pop_c (hb g cap : Nat) (W w : World) (F : List Chunk) (x z : Cur) (rest : List Cur) (o : HP hb g cap W F (x :: rest) w) (hz : (x :: rest)[(x :: rest).length - 1]? = some z) (hk : HOk firstB 1 (popL (x :: rest) z)) (hr : CurOk W rest) (hn : rest.length ≤ 100000) :
    Calls Try.prog 28 #[.pointer (some ⟨hb, 0, none⟩)] w fun e w' => e = .returned (.tuple #[]) ∧ ∃ cs', cs'.Perm rest ∧ HOk firstB 0 cs' ∧ HP hb g cap W F cs' w' ∧ Ext w w' := by
  obtain ⟨h0, h1, hbl⟩ := o.cells
  obtain ⟨c0, f0, gl, _⟩ := o.at (i := 0) (x := x) rfl
  obtain ⟨c1, _⟩ := o.at hz
  have hpl := hid (popL_perm rfl hz)
  have hne : hb ≠ g := by
    rintro rfl
    rw [h0] at c0; cases c0
  have hcap : rest.length ≤ cap := by
    rcases sl_form (Own.pick 2 o) with ⟨h, _⟩ | ⟨g', cap', h, hh, _⟩
    · simp at h
    · simp only [Value.slice.injEq] at h
      obtain ⟨_, _, rfl⟩ := h
      simp at hh; omega
  have fr := (Own.swap o).free 0
  have oH := hid (o.pop hz)
  have kH := hid hk
  have rH := hid (hr.perm hpl.out)
  rw [List.length_cons] at h0
  rw [List.length_cons, Nat.add_sub_cancel] at c1
  have hw1 : IntKind.i64.wrap (((rest.length + 1 : Nat) : Int) - 1) = (rest.length : Int) := by rw [IntWalk.i64_in _ (by omega)]; omega
  obtain ⟨n1, hn1⟩ : ∃ n, rest.length + 1 = n := ⟨_, rfl⟩
  rw [hn1] at h0 hw1
  have hlt : rest.length < n1 := by omega
  have hlt0 : 0 < n1 := by omega
  have hnH := hid hn
  clear o hz hk hr
  go_enter Try.func28, Try.ntmps28
  go_wp2_with fail
  go_region
  go_wp2_with fail
  refine (down_c hb g cap 0 0 W _ F (popL (x :: rest) z) oH.out rH.out (HMid.start kH.out) (Nat.le_refl _) (by rw [hpl.out.length_eq]; have := hnH.out; omega) (Nat.zero_le _)).mono ?_
  rintro e w1 ⟨rfl, es, hp1, hok1, o1, e1⟩
  have p1 := hid (hp1.trans hpl.out)
  have hok1H := hid hok1
  have o1H := hid o1
  clear hp1 hok1 o1
  go_wp2
  go_returns
  exact ⟨rfl, es, p1.out, hok1H.out, o1H.out, ((((Ext.refl w).set _ _).drew).set _ _).trans e1⟩
end Go.Proofs.Ytihbflmjgndfiaa
