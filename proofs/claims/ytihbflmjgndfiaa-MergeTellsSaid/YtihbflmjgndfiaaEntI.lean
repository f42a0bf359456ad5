/- The walk of the heap's down. -/
import Derived.Test.YtihbflmjgndfiaaEntH
import Derived.BigRegion
import Derived.Deep.LoopGhost
import Derived.Handy
namespace Go.Proofs.Ytihbflmjgndfiaa
open Go.RowKit Go.Sl Go.Scree

def hC (hb : Nat) (lv : Value) : Chunk := pts hb (.cells #[lv, .func (.func 25) #[] #[]] 53 (0, 0))
/-- A heap of cursors, and all that was there ahead. -/
def HP (hb g cap : Nat) (W : World) (F : List Chunk) (cs : List Cur) (w : World) : Prop :=
  Own w (curs cs :: hC hb (.slice (some ⟨g, 0, none⟩) cs.length cap) :: sl 54 curE (.slice (some ⟨g, 0, none⟩) cs.length cap) cs :: base W W.heap.size :: F)
/-- Each cursor's rest is there, and there is some. -/
def CurOk (W : World) (cs : List Cur) : Prop := ∀ c ∈ cs, Rd W entE (.slice c.A c.l.length c.c) c.l ∧ c.l ≠ []

section
variable {hb g cap : Nat} {W w w' : World} {F : List Chunk} {cs : List Cur}
theorem HP.keep (o : HP hb g cap W F cs w) (k : Kp w w') : HP hb g cap W F cs w' := k.own o
theorem HP.cells (o : HP hb g cap W F cs w) : w.cell? ⟨hb, 0, none⟩ = some (.slice (some ⟨g, 0, none⟩) cs.length cap) ∧ w.cell? ⟨hb, 1, none⟩ = some (.func (.func 25) #[] #[]) ∧ hb < w.heap.size :=
  ⟨Own.cell (i := 0) (Own.swap o) rfl, Own.cell (i := 1) (Own.swap o) rfl, Own.lt (Own.swap o)⟩
theorem HP.at (o : HP hb g cap W F cs w) {i : Nat} {x : Cur} (hx : cs[i]? = some x) :
    w.cell? ⟨g, i, none⟩ = some (.pointer (some ⟨x.p, 0, none⟩)) ∧ w.frozen? ⟨g, i, none⟩ = false ∧ g < w.heap.size ∧ w.heap[x.p]? = some (curO x) := by
  have h := sl_at (Own.pick 2 o) hx 0 _ rfl
  simp only [curE, Nat.mul_one, Nat.add_zero] at h
  exact ⟨h.1, h.2, World.block_lt_of_cell? w _ h.1, curs_get o (List.mem_of_getElem? hx)⟩
theorem HP.rd (o : HP hb g cap W F cs w) (h : CurOk W cs) {x : Cur} (hx : x ∈ cs) : Rd w entE (.slice x.A x.l.length x.c) x.l :=
  rd_base (h x hx).1 w _ (Own.pick 3 o)
theorem HP.swap2 (o : HP hb g cap W F cs w) {i k : Nat} {x y : Cur} (hi : cs[i]? = some x) (hk : cs[k]? = some y) (hne : i ≠ k) :
    HP hb g cap W F ((cs.set i y).set k x) ((w.setCell ⟨g, i, none⟩ (.pointer (some ⟨y.p, 0, none⟩))).setCell ⟨g, k, none⟩ (.pointer (some ⟨x.p, 0, none⟩))) := by
  have h1 := (List.getElem?_eq_some_iff.1 hi).1
  have h2 := (List.getElem?_eq_some_iff.1 hk).1
  have o1 := sl_put (Own.pick 2 o) i h1 y
  have o2 := sl_put o1 k (by rw [List.length_set]; exact h2) x
  have o3 := Own.swap (Own.pick 2 (curs_perm (swap_perm hi hk hne).symm (Own.swap o2)))
  unfold HP
  rw [List.length_set, List.length_set]
  simpa [put, curE] using o3
end

set_option maxRecDepth 40000 in
set_option maxHeartbeats 12800000 in
theorem down_c (hb g cap s i0 : Nat) (W w : World) (F : List Chunk) (cs : List Cur) (o : HP hb g cap W F cs w) (hr : CurOk W cs) (hm : HMid firstB s i0 cs) (hs : s ≤ i0) (hn : cs.length ≤ 1000000) (hi0 : i0 ≤ cs.length) :
    Calls Try.prog 29 #[.pointer (some ⟨hb, 0, none⟩), .int .i64 i0] w fun e w' => e = .returned (.tuple #[]) ∧ ∃ cs', cs'.Perm cs ∧ HOk firstB s cs' ∧ HP hb g cap W F cs' w' ∧ Ext w w' := by
  have oH := hid o
  have rH := hid hr
  have mH := hid hm
  clear o hr hm
  go_enter Try.func29, Try.ntmps29
  go_wp2_with fail
  go_loopw [1] (fun iv wr => ∃ (i : Nat) (ds : List Cur), iv = .int .i64 i ∧ i ≤ cs.length ∧ s ≤ i ∧ ds.Perm cs ∧ HMid firstB s i ds ∧ HP hb g cap W F ds wr ∧ Ext w wr) (fun iv _ => cs.length - (intOf iv).toNat)
  case atStart => exact ⟨i0, cs, rfl, hi0, hs, List.Perm.refl _, mH.out, oH.out, Ext.refl _⟩
  case round =>
    obtain ⟨i, ds, rfl, hi, hsi, hp, hm, ok, ek⟩ := hrel
    have hlen : ds.length = cs.length := hp.length_eq
    have pH := hid hp
    have mH := hid hm
    have okH := hid ok
    have lH := hid hlen
    have rdH : Hid (CurOk W ds) := hid fun c hc => rH.out c (hp.mem_iff.1 hc)
    obtain ⟨h0, h1, hbl⟩ := ok.cells
    rw [hlen] at h0
    obtain ⟨m, hmm⟩ : ∃ m, 2 * i + 1 = m := ⟨_, rfl⟩
    obtain ⟨m2, hmm2⟩ : ∃ n, m + 1 = n := ⟨_, rfl⟩
    have hw1 : 2 * (i : Int) + 1 = (m : Int) := by omega
    have hw2 : (m : Int) + 1 = (m2 : Int) := by omega
    have hw3 : IntKind.i64.wrap (m2 : Int) = (m2 : Int) := IntWalk.i64_in _ (by omega)
    have hmmH := hid hmm
    have hmm2H := hid hmm2
    clear hp hm hlen ok
    by_cases hlt : m < cs.length
    · have hil : i < cs.length := by omega
      obtain ⟨x, hx_i'⟩ : ∃ x, ds[i]? = some x := ⟨_, List.getElem?_eq_getElem (by rw [lH.out]; omega)⟩
      have hx_i := hid hx_i'
      have n_i := hid (rdH.out x (List.mem_of_getElem? hx_i')).2
      clear hx_i'
      obtain ⟨x1, hx_m'⟩ : ∃ x, ds[m]? = some x := ⟨_, List.getElem?_eq_getElem (by rw [lH.out]; omega)⟩
      have hx_m := hid hx_m'
      have n_m := hid (rdH.out x1 (List.mem_of_getElem? hx_m')).2
      clear hx_m'
      clear h0 h1 hbl
      by_cases hlt2 : m2 < cs.length
      · obtain ⟨x2, hx_m2'⟩ : ∃ x, ds[m2]? = some x := ⟨_, List.getElem?_eq_getElem (by rw [lH.out]; omega)⟩
        have hx_m2 := hid hx_m2'
        have n_m2 := hid (rdH.out x2 (List.mem_of_getElem? hx_m2')).2
        clear hx_m2'
        have hb2 : decide (m2 < cs.length) = true := by simp [hlt2]
        obtain ⟨h0, h1, hbl⟩ := okH.out.cells
        rw [lH.out] at h0
        obtain ⟨c_m2, f_m2, gl_m2, u_m2'⟩ := okH.out.at hx_m2.out
        have r_m2 := hid (okH.out.rd rdH.out (List.mem_of_getElem? hx_m2.out))
        have u_m2 := hid u_m2'
        clear u_m2'
        obtain ⟨c_m, f_m, gl_m, u_m'⟩ := okH.out.at hx_m.out
        have r_m := hid (okH.out.rd rdH.out (List.mem_of_getElem? hx_m.out))
        have u_m := hid u_m'
        clear u_m'
        rcases bool_cases (firstB x2 x1) with hg | hg
        · have bH : Hid (HBest firstB i m2 ds) := hid (by have h := HBest.right (i := i) weak_first (x := x1) (y := x2) (by have := hx_m.out; rwa [← hmmH.out] at this) (by have := hx_m2.out; rwa [← hmm2H.out, ← hmmH.out] at this) hg; rwa [show 2 * i + 2 = m2 from by omega] at h)
          go_wp2_with fail
          go_region_held3 (fun V => V.cell? ⟨hb, 0, none⟩ = some (.slice (some ⟨g, 0, none⟩) cs.length cap) ∧ V.cell? ⟨hb, 1, none⟩ = some (.func (.func 25) #[] #[]) ∧ V.cell? ⟨g, m2, none⟩ = some (.pointer (some ⟨x2.p, 0, none⟩)) ∧ V.cell? ⟨g, m, none⟩ = some (.pointer (some ⟨x1.p, 0, none⟩))) (first | exact ⟨h0, h1, c_m2, c_m⟩ | (and_intros <;> assumption)) (first | (go_at_call 25; refine (first_c x2 x1 wr.drew u_m2.out u_m.out r_m2.out r_m.out n_m2.out n_m.out).mono ?_; rintro e w1 ⟨rfl, kk⟩; have d0 := kk.cell h0; have d1 := kk.cell h1; have d2 := kk.cell c_m2; have d3 := kk.cell c_m))
          clear d0 d1 d2 d3
          have q1 := hid ((Kp.refl wr).drew.trans kk)
          have o1 := hid (okH.out.keep q1.out)
          clear kk hg
          clear h0 h1 hbl c_m2 f_m2 gl_m2 u_m2 r_m2 c_m f_m gl_m u_m r_m
          obtain ⟨h0, h1, hbl⟩ := o1.out.cells
          rw [lH.out] at h0
          obtain ⟨c_m2, f_m2, gl_m2, u_m2'⟩ := o1.out.at hx_m2.out
          have r_m2 := hid (o1.out.rd rdH.out (List.mem_of_getElem? hx_m2.out))
          have u_m2 := hid u_m2'
          clear u_m2'
          obtain ⟨c_i, f_i, gl_i, u_i'⟩ := o1.out.at hx_i.out
          have r_i := hid (o1.out.rd rdH.out (List.mem_of_getElem? hx_i.out))
          have u_i := hid u_i'
          clear u_i'
          rcases bool_cases (firstB x2 x) with hf | hf
          · have hfH := hid hf
            go_wp2_with fail
            go_region_held3 (fun V => V.cell? ⟨hb, 0, none⟩ = some (.slice (some ⟨g, 0, none⟩) cs.length cap) ∧ V.cell? ⟨hb, 1, none⟩ = some (.func (.func 25) #[] #[]) ∧ V.cell? ⟨g, m2, none⟩ = some (.pointer (some ⟨x2.p, 0, none⟩)) ∧ V.cell? ⟨g, i, none⟩ = some (.pointer (some ⟨x.p, 0, none⟩))) (first | exact ⟨h0, h1, c_m2, c_i⟩ | (and_intros <;> assumption)) (first | (go_at_call 25; refine (first_c x2 x w1.drew u_m2.out u_i.out r_m2.out r_i.out n_m2.out n_i.out).mono ?_; rintro e w2 ⟨rfl, kk⟩; have d0 := kk.cell h0; have d1 := kk.cell h1; have d2 := kk.cell c_m2; have d3 := kk.cell c_i))
            clear d0 d1 d2 d3
            have q2 := hid (q1.out.trans ((Kp.refl w1).drew.trans kk))
            have o2 := hid (okH.out.keep q2.out)
            clear kk
            clear h0 h1 hbl c_m2 f_m2 gl_m2 u_m2 r_m2 c_i f_i gl_i u_i r_i
            obtain ⟨h0, h1, hbl⟩ := o2.out.cells
            rw [lH.out] at h0
            obtain ⟨c_m2, f_m2, gl_m2, u_m2'⟩ := o2.out.at hx_m2.out
            have r_m2 := hid (o2.out.rd rdH.out (List.mem_of_getElem? hx_m2.out))
            have u_m2 := hid u_m2'
            clear u_m2'
            obtain ⟨c_i, f_i, gl_i, u_i'⟩ := o2.out.at hx_i.out
            have r_i := hid (o2.out.rd rdH.out (List.mem_of_getElem? hx_i.out))
            have u_i := hid u_i'
            clear u_i'
            have e1 := hid ((swap_perm hx_i.out hx_m2.out (by omega)).trans pH.out)
            have e2 := hid (mH.out.step weak_first hsi bH.out hx_i.out hx_m2.out hfH.out)
            have e3 := hid (o2.out.swap2 hx_i.out hx_m2.out (by omega))
            have e4 := hid (((ek.trans q2.out.ext).set ⟨g, i, none⟩ (.pointer (some ⟨x2.p, 0, none⟩))).set ⟨g, m2, none⟩ (.pointer (some ⟨x.p, 0, none⟩)))
            go_wp2_with fail
            clear h1 u_m2 u_i r_m2 r_i n_m2 n_i hfH mH oH rH rdH bH hx_i hx_m2 q1 q2 o1 o2 pH lH hb2 ek okH
            go_region
            go_wp2
            go_roundw
            case rel => exact ⟨m2, _, rfl, by omega, by omega, e1.out, e2.out, Own.drew e3.out, e4.out.drew⟩
            case measure => simp [intOf]; omega
          · have hfH := hid hf
            go_wp2_with fail
            go_region_held3 (fun V => V.cell? ⟨hb, 0, none⟩ = some (.slice (some ⟨g, 0, none⟩) cs.length cap) ∧ V.cell? ⟨hb, 1, none⟩ = some (.func (.func 25) #[] #[]) ∧ V.cell? ⟨g, m2, none⟩ = some (.pointer (some ⟨x2.p, 0, none⟩)) ∧ V.cell? ⟨g, i, none⟩ = some (.pointer (some ⟨x.p, 0, none⟩))) (first | exact ⟨h0, h1, c_m2, c_i⟩ | (and_intros <;> assumption)) (first | (go_at_call 25; refine (first_c x2 x w1.drew u_m2.out u_i.out r_m2.out r_i.out n_m2.out n_i.out).mono ?_; rintro e w2 ⟨rfl, kk⟩; have d0 := kk.cell h0; have d1 := kk.cell h1; have d2 := kk.cell c_m2; have d3 := kk.cell c_i))
            clear d0 d1 d2 d3
            have q2 := hid (q1.out.trans ((Kp.refl w1).drew.trans kk))
            have o2 := hid (okH.out.keep q2.out)
            clear kk
            clear h0 h1 hbl c_m2 f_m2 gl_m2 u_m2 r_m2 c_i f_i gl_i u_i r_i
            go_wp2_with fail
            go_returns
            exact ⟨rfl, ds, pH.out, mH.out.stop weak_first bH.out hx_i.out hx_m2.out hfH.out, o2.out, ek.trans q2.out.ext⟩
        · have bH : Hid (HBest firstB i m ds) := hid (by have h := HBest.left (i := i) weak_first (x := x1) (by have := hx_m.out; rwa [← hmmH.out] at this) (fun y hy => by have := hx_m2.out; rw [← hmm2H.out, ← hmmH.out, hy] at this; rw [Option.some.inj this]; exact hg); rwa [show 2 * i + 1 = m from by omega] at h)
          go_wp2_with fail
          go_region_held3 (fun V => V.cell? ⟨hb, 0, none⟩ = some (.slice (some ⟨g, 0, none⟩) cs.length cap) ∧ V.cell? ⟨hb, 1, none⟩ = some (.func (.func 25) #[] #[]) ∧ V.cell? ⟨g, m2, none⟩ = some (.pointer (some ⟨x2.p, 0, none⟩)) ∧ V.cell? ⟨g, m, none⟩ = some (.pointer (some ⟨x1.p, 0, none⟩))) (first | exact ⟨h0, h1, c_m2, c_m⟩ | (and_intros <;> assumption)) (first | (go_at_call 25; refine (first_c x2 x1 wr.drew u_m2.out u_m.out r_m2.out r_m.out n_m2.out n_m.out).mono ?_; rintro e w1 ⟨rfl, kk⟩; have d0 := kk.cell h0; have d1 := kk.cell h1; have d2 := kk.cell c_m2; have d3 := kk.cell c_m))
          clear d0 d1 d2 d3
          have q1 := hid ((Kp.refl wr).drew.trans kk)
          have o1 := hid (okH.out.keep q1.out)
          clear kk hg
          clear h0 h1 hbl c_m2 f_m2 gl_m2 u_m2 r_m2 c_m f_m gl_m u_m r_m
          obtain ⟨h0, h1, hbl⟩ := o1.out.cells
          rw [lH.out] at h0
          obtain ⟨c_m, f_m, gl_m, u_m'⟩ := o1.out.at hx_m.out
          have r_m := hid (o1.out.rd rdH.out (List.mem_of_getElem? hx_m.out))
          have u_m := hid u_m'
          clear u_m'
          obtain ⟨c_i, f_i, gl_i, u_i'⟩ := o1.out.at hx_i.out
          have r_i := hid (o1.out.rd rdH.out (List.mem_of_getElem? hx_i.out))
          have u_i := hid u_i'
          clear u_i'
          rcases bool_cases (firstB x1 x) with hf | hf
          · have hfH := hid hf
            go_wp2_with fail
            go_region_held3 (fun V => V.cell? ⟨hb, 0, none⟩ = some (.slice (some ⟨g, 0, none⟩) cs.length cap) ∧ V.cell? ⟨hb, 1, none⟩ = some (.func (.func 25) #[] #[]) ∧ V.cell? ⟨g, m, none⟩ = some (.pointer (some ⟨x1.p, 0, none⟩)) ∧ V.cell? ⟨g, i, none⟩ = some (.pointer (some ⟨x.p, 0, none⟩))) (first | exact ⟨h0, h1, c_m, c_i⟩ | (and_intros <;> assumption)) (first | (go_at_call 25; refine (first_c x1 x w1.drew u_m.out u_i.out r_m.out r_i.out n_m.out n_i.out).mono ?_; rintro e w2 ⟨rfl, kk⟩; have d0 := kk.cell h0; have d1 := kk.cell h1; have d2 := kk.cell c_m; have d3 := kk.cell c_i))
            clear d0 d1 d2 d3
            have q2 := hid (q1.out.trans ((Kp.refl w1).drew.trans kk))
            have o2 := hid (okH.out.keep q2.out)
            clear kk
            clear h0 h1 hbl c_m f_m gl_m u_m r_m c_i f_i gl_i u_i r_i
            obtain ⟨h0, h1, hbl⟩ := o2.out.cells
            rw [lH.out] at h0
            obtain ⟨c_m, f_m, gl_m, u_m'⟩ := o2.out.at hx_m.out
            have r_m := hid (o2.out.rd rdH.out (List.mem_of_getElem? hx_m.out))
            have u_m := hid u_m'
            clear u_m'
            obtain ⟨c_i, f_i, gl_i, u_i'⟩ := o2.out.at hx_i.out
            have r_i := hid (o2.out.rd rdH.out (List.mem_of_getElem? hx_i.out))
            have u_i := hid u_i'
            clear u_i'
            have e1 := hid ((swap_perm hx_i.out hx_m.out (by omega)).trans pH.out)
            have e2 := hid (mH.out.step weak_first hsi bH.out hx_i.out hx_m.out hfH.out)
            have e3 := hid (o2.out.swap2 hx_i.out hx_m.out (by omega))
            have e4 := hid (((ek.trans q2.out.ext).set ⟨g, i, none⟩ (.pointer (some ⟨x1.p, 0, none⟩))).set ⟨g, m, none⟩ (.pointer (some ⟨x.p, 0, none⟩)))
            go_wp2_with fail
            clear h1 u_m u_i r_m r_i n_m n_i hfH mH oH rH rdH bH hx_i hx_m q1 q2 o1 o2 pH lH hb2 ek okH
            go_region
            go_wp2
            go_roundw
            case rel => exact ⟨m, _, rfl, by omega, by omega, e1.out, e2.out, Own.drew e3.out, e4.out.drew⟩
            case measure => simp [intOf]; omega
          · have hfH := hid hf
            go_wp2_with fail
            go_region_held3 (fun V => V.cell? ⟨hb, 0, none⟩ = some (.slice (some ⟨g, 0, none⟩) cs.length cap) ∧ V.cell? ⟨hb, 1, none⟩ = some (.func (.func 25) #[] #[]) ∧ V.cell? ⟨g, m, none⟩ = some (.pointer (some ⟨x1.p, 0, none⟩)) ∧ V.cell? ⟨g, i, none⟩ = some (.pointer (some ⟨x.p, 0, none⟩))) (first | exact ⟨h0, h1, c_m, c_i⟩ | (and_intros <;> assumption)) (first | (go_at_call 25; refine (first_c x1 x w1.drew u_m.out u_i.out r_m.out r_i.out n_m.out n_i.out).mono ?_; rintro e w2 ⟨rfl, kk⟩; have d0 := kk.cell h0; have d1 := kk.cell h1; have d2 := kk.cell c_m; have d3 := kk.cell c_i))
            clear d0 d1 d2 d3
            have q2 := hid (q1.out.trans ((Kp.refl w1).drew.trans kk))
            have o2 := hid (okH.out.keep q2.out)
            clear kk
            clear h0 h1 hbl c_m f_m gl_m u_m r_m c_i f_i gl_i u_i r_i
            go_wp2_with fail
            go_returns
            exact ⟨rfl, ds, pH.out, mH.out.stop weak_first bH.out hx_i.out hx_m.out hfH.out, o2.out, ek.trans q2.out.ext⟩
      · have bH : Hid (HBest firstB i m ds) := hid (by have h := HBest.left (i := i) weak_first (x := x1) (by have := hx_m.out; rwa [← hmmH.out] at this) (fun y hy => by have := (List.getElem?_eq_some_iff.1 hy).1; rw [lH.out] at this; omega); rwa [show 2 * i + 1 = m from by omega] at h)
        have hb2 : decide (m2 < cs.length) = false := by simp; omega
        obtain ⟨h0, h1, hbl⟩ := okH.out.cells
        rw [lH.out] at h0
        obtain ⟨c_m, f_m, gl_m, u_m'⟩ := okH.out.at hx_m.out
        have r_m := hid (okH.out.rd rdH.out (List.mem_of_getElem? hx_m.out))
        have u_m := hid u_m'
        clear u_m'
        obtain ⟨c_i, f_i, gl_i, u_i'⟩ := okH.out.at hx_i.out
        have r_i := hid (okH.out.rd rdH.out (List.mem_of_getElem? hx_i.out))
        have u_i := hid u_i'
        clear u_i'
        go_wp2_with fail
        go_quiet (fail)
        have q1 := hid ((Kp.refl wr).drewN nq)
        have o1 := hid (okH.out.keep q1.out)
        clear h0 h1 hbl c_m f_m gl_m u_m r_m c_i f_i gl_i u_i r_i
        generalize wr.drewN nq = w1 at *
        obtain ⟨h0, h1, hbl⟩ := o1.out.cells
        rw [lH.out] at h0
        obtain ⟨c_m, f_m, gl_m, u_m'⟩ := o1.out.at hx_m.out
        have r_m := hid (o1.out.rd rdH.out (List.mem_of_getElem? hx_m.out))
        have u_m := hid u_m'
        clear u_m'
        obtain ⟨c_i, f_i, gl_i, u_i'⟩ := o1.out.at hx_i.out
        have r_i := hid (o1.out.rd rdH.out (List.mem_of_getElem? hx_i.out))
        have u_i := hid u_i'
        clear u_i'
        rcases bool_cases (firstB x1 x) with hf | hf
        · have hfH := hid hf
          go_wp2_with fail
          go_region_held3 (fun V => V.cell? ⟨hb, 0, none⟩ = some (.slice (some ⟨g, 0, none⟩) cs.length cap) ∧ V.cell? ⟨hb, 1, none⟩ = some (.func (.func 25) #[] #[]) ∧ V.cell? ⟨g, m, none⟩ = some (.pointer (some ⟨x1.p, 0, none⟩)) ∧ V.cell? ⟨g, i, none⟩ = some (.pointer (some ⟨x.p, 0, none⟩))) (first | exact ⟨h0, h1, c_m, c_i⟩ | (and_intros <;> assumption)) (first | (go_at_call 25; refine (first_c x1 x w1.drew u_m.out u_i.out r_m.out r_i.out n_m.out n_i.out).mono ?_; rintro e w2 ⟨rfl, kk⟩; have d0 := kk.cell h0; have d1 := kk.cell h1; have d2 := kk.cell c_m; have d3 := kk.cell c_i))
          clear d0 d1 d2 d3
          have q2 := hid (q1.out.trans ((Kp.refl w1).drew.trans kk))
          have o2 := hid (okH.out.keep q2.out)
          clear kk
          clear h0 h1 hbl c_m f_m gl_m u_m r_m c_i f_i gl_i u_i r_i
          obtain ⟨h0, h1, hbl⟩ := o2.out.cells
          rw [lH.out] at h0
          obtain ⟨c_m, f_m, gl_m, u_m'⟩ := o2.out.at hx_m.out
          have r_m := hid (o2.out.rd rdH.out (List.mem_of_getElem? hx_m.out))
          have u_m := hid u_m'
          clear u_m'
          obtain ⟨c_i, f_i, gl_i, u_i'⟩ := o2.out.at hx_i.out
          have r_i := hid (o2.out.rd rdH.out (List.mem_of_getElem? hx_i.out))
          have u_i := hid u_i'
          clear u_i'
          have e1 := hid ((swap_perm hx_i.out hx_m.out (by omega)).trans pH.out)
          have e2 := hid (mH.out.step weak_first hsi bH.out hx_i.out hx_m.out hfH.out)
          have e3 := hid (o2.out.swap2 hx_i.out hx_m.out (by omega))
          have e4 := hid (((ek.trans q2.out.ext).set ⟨g, i, none⟩ (.pointer (some ⟨x1.p, 0, none⟩))).set ⟨g, m, none⟩ (.pointer (some ⟨x.p, 0, none⟩)))
          go_wp2_with fail
          clear h1 u_m u_i r_m r_i n_m n_i hfH mH oH rH rdH bH hx_i hx_m q1 q2 o1 o2 pH lH hb2 ek okH
          go_region
          go_wp2
          go_roundw
          case rel => exact ⟨m, _, rfl, by omega, by omega, e1.out, e2.out, Own.drew e3.out, e4.out.drew⟩
          case measure => simp [intOf]; omega
        · have hfH := hid hf
          go_wp2_with fail
          go_region_held3 (fun V => V.cell? ⟨hb, 0, none⟩ = some (.slice (some ⟨g, 0, none⟩) cs.length cap) ∧ V.cell? ⟨hb, 1, none⟩ = some (.func (.func 25) #[] #[]) ∧ V.cell? ⟨g, m, none⟩ = some (.pointer (some ⟨x1.p, 0, none⟩)) ∧ V.cell? ⟨g, i, none⟩ = some (.pointer (some ⟨x.p, 0, none⟩))) (first | exact ⟨h0, h1, c_m, c_i⟩ | (and_intros <;> assumption)) (first | (go_at_call 25; refine (first_c x1 x w1.drew u_m.out u_i.out r_m.out r_i.out n_m.out n_i.out).mono ?_; rintro e w2 ⟨rfl, kk⟩; have d0 := kk.cell h0; have d1 := kk.cell h1; have d2 := kk.cell c_m; have d3 := kk.cell c_i))
          clear d0 d1 d2 d3
          have q2 := hid (q1.out.trans ((Kp.refl w1).drew.trans kk))
          have o2 := hid (okH.out.keep q2.out)
          clear kk
          clear h0 h1 hbl c_m f_m gl_m u_m r_m c_i f_i gl_i u_i r_i
          go_wp2_with fail
          go_returns
          exact ⟨rfl, ds, pH.out, mH.out.stop weak_first bH.out hx_i.out hx_m.out hfH.out, o2.out, ek.trans q2.out.ext⟩
    · have hle : Hid (ds.length ≤ 2 * i + 1) := hid (by rw [lH.out]; omega)
      go_wp2_with fail
      go_returns
      exact ⟨rfl, ds, pH.out, mH.out.leaf hle.out, okH.out, ek⟩
end Go.Proofs.Ytihbflmjgndfiaa
