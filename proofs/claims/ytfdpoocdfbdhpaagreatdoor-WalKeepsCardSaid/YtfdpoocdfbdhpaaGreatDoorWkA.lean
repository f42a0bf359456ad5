/- The walk of WalKeeps. -/
import Derived.Test.YtfdpoocdfbdhpaaGreatDoorWtA
import Derived.Test.YtfdpoocdfbdhpaaGreatDoorWalT
import Derived.Deep.DeepCutAuto
import Derived.Deep.CutBlock
import Derived.Deep.LoopGhost
namespace Go.Scree
open Go.Lib
theorem keeps_law {l : List ByteArray} {k : Nat} {b : List UInt8} {s : Nat} (hk : k ≤ l.length) (hw : ∀ x ∈ l.take k, x.size ≤ 8000)
    (hb : (b = fr (l.take k) ∧ s = (fr (l.take k)).length) ∨ ∃ x, l[k]? = some x ∧ x.size ≤ 8000 ∧ b = fr (l.take k) ++ frameB x.data.toList ∧ s = (fr (l.take k)).length) (j : Nat) :
    ∃ m, k ≤ m ∧ m ≤ k + 1 ∧ m ≤ l.length ∧ allF (b.take (s + j)) = (l.take m).map fun y => y.data.toList := by
  rcases hb with ⟨rfl, rfl⟩ | ⟨x, hx, hxz, hb1, hb2⟩
  · refine ⟨k, Nat.le_refl _, Nat.le_succ _, hk, ?_⟩
    rw [List.take_of_length_le (by omega)]
    have := allF_fr hw []
    simpa [allF_nil] using this
  · obtain ⟨hkl, rfl⟩ := List.getElem?_eq_some_iff.1 hx
    rcases lit_kept hw hxz (.inr ⟨hb1, hb2⟩) j with h | h
    · exact ⟨k, Nat.le_refl _, Nat.le_succ _, hk, h⟩
    · refine ⟨k + 1, Nat.le_succ _, Nat.le_refl _, hkl, ?_⟩
      rw [h, List.take_succ_eq_append_getElem hkl]
def KeepAt (l : List ByteArray) (k : Nat) (b : List UInt8) (s : Nat) : Prop := k ≤ l.length ∧ (∀ x ∈ l.take k, x.size ≤ 8000) ∧
  ((b = fr (l.take k) ∧ s = (fr (l.take k)).length) ∨ ∃ x, l[k]? = some x ∧ x.size ≤ 8000 ∧ b = fr (l.take k) ++ frameB x.data.toList ∧ s = (fr (l.take k)).length)
end Go.Scree
namespace Go.Proofs.YtfdpoocdfbdhpaaGreatDoor
open Go.RowKit Go.Sl Go.Scree Go.Maps Go.ChangeShapes Go.WideShapes

section
open Go.Deep
variable {H : Type} {enc : TypeId × Value → H} {w : World} {base : Nat} {spare : Nat → Bool} {held : Bool} {A : Option Addr} {len cap : Nat} {d : DataW H} {ps : List MemPlace}
theorem open_ints' (h : DataW.Trod enc Tryz.prog w base spare held 29 (.slice A len cap) d ps) : ∃ l : List Int, Rd w intE (.slice A len cap) l := by
  obtain ⟨fuel, hf⟩ := h
  have key : len ≤ cap ∧ cap ≤ maxLen ∧ ∀ i, i < len → ∃ r : Int, True ∧ ∃ a, A = some a ∧ ∀ j u, (intE.cells r)[j]? = some u → w.cell? (a.add (i * intE.size + j)) = some u := by
    rcases open_slice1 Tryz.underlying29 (by kernel_rfl) hf with ⟨hcs, _⟩ | ⟨a, len', cap', m, n, V, D, Pl, hcs, _, h1, h2, hm, _, hi⟩
    · simp only [Value.cells, List.cons.injEq, Value.slice.injEq, and_true] at hcs
      obtain ⟨rfl, rfl, rfl⟩ := hcs
      exact ⟨Nat.le_refl _, by simp [maxLen], fun i h => by omega⟩
    · simp only [Value.cells, List.cons.injEq, Value.slice.injEq, and_true] at hcs
      obtain ⟨rfl, rfl, rfl⟩ := hcs
      refine ⟨h1, h2, fun i hil => ?_⟩
      obtain ⟨hcell, htr⟩ := hi i (by rw [hm]; split <;> omega)
      obtain ⟨q, hq, _, hw⟩ := DataW.trod_int Tryz.underlying3 htr
      have hV : V i = .int .i64 q := by simpa using hq
      rw [hV] at hcell
      refine ⟨q, trivial, a, rfl, fun j u hju => ?_⟩
      match j, hju with
      | 0, hju =>
        simp only [intE, List.getElem?_cons_zero, Option.some.injEq] at hju
        subst hju
        simpa [intE] using hcell
  obtain ⟨hl, hc, hi⟩ := key
  obtain ⟨rs, hr, _, _⟩ := rd_choose (w := w) (E := intE) (P := fun _ => True) A len cap hl hc hi
  exact ⟨rs, hr⟩

theorem open_intz (h : DataW.Trod enc Tryz.prog w base spare held 29 (.slice A len cap) d ps) : ∃ l : List Int, Rd w intE (.slice A len cap) l ∧ True := let ⟨l, h⟩ := open_ints' h; ⟨l, h, trivial⟩
end
set_option maxRecDepth 20000 in
set_option maxHeartbeats 12800000 in
theorem walKeeps_row (n : Int) (v : Value) (l : List ByteArray) (fz ch : Int) (kv : Value) (keep : List Int) (W : World) (hn : (Lit.int .u64 n).wf = true) (hr : Rd W strE v l) (hp : ∀ x ∈ l, x.size ≤ maxLen)
    (hfz : (Lit.int .u8 fz).wf = true) (hch : (Lit.int .i64 ch).wf = true) (hkr : Rd W intE kv keep) (_ht : True) (hG : Gok W) :
    Calls Tryz.prog 4 #[.int .u64 n, v, .int .u8 fz, .int .i64 ch, kv] W fun e W' => e = .returned (.bool true) ∧ Below W.heap.size W W' := by
  have hGl := hid (Gl.base hG)
  obtain ⟨A, c, rfl, hlm, hlc⟩ := hr.form
  obtain ⟨kA, kc, rfl, hkm, hkc⟩ := hkr.form
  unfold maxLen at hlm hkm
  obtain ⟨n0, n1⟩ := bounds_u64 hn
  obtain ⟨z0, z1⟩ := bounds_u8 hfz
  obtain ⟨nn, rfl⟩ : ∃ k : Nat, n = k := ⟨n.toNat, by omega⟩
  have rH := hid hr
  have kH := hid hkr
  have pH := hid hp
  have nH : Hid (nn < 18446744073709551616) := hid (by omega)
  have aw := hid (awake_c W _ hGl.out (Own.start W))
  clear hr hp hG hn hfz hch hkr n0 n1
  go_enter Tryz.func4, Tryz.ntmps4
  go_wp2_with fail
  refine aw.out.mono ?_
  rintro e w0 ⟨rfl, o0, e0⟩
  have o0H := hid o0
  clear o0 aw
  go_wp2_with fail
  refine (new_c w0 _ o0H.out).mono ?_
  rintro e w1 ⟨p, rfl, o1, e1⟩
  have h2 := wcreate_c p nn _ nH.out _ _ hGl.out (fbd_of (by decide) (by decide)) o1
  have x1 := hid (e0.trans e1)
  by_cases hbig : 1099511627776 < nn
  · have hc : wCreate FDisk.new nn = (FDisk.new, 1) := by unfold wCreate; rw [if_pos hbig]
    rw [hc] at h2
    unfold MadeSays at h2
    rw [if_neg (show ¬ ((1 : Int) = 0) by decide)] at h2
    have g2 := hid h2
    have hb : (nn : Int) > 1099511627776 := by omega
    clear h2 o1 o0H e0 e1 hc hbig
    go_wp2_with fail
    refine g2.out.mono ?_
    rintro e w2 ⟨rfl, o2, e2⟩
    have o2H := hid o2
    clear o2
    go_wp2_with fail
    go_ret
    exact ⟨rfl, below_of_own (Own.drop o2H.out) (x1.out.trans e2)⟩
  · have hle : Hid (nn ≤ 1099511627776) := hid (by omega)
    rw [one_create hle.out] at h2
    unfold MadeSays at h2
    rw [if_pos rfl] at h2
    have g2 := hid h2
    have nm40 := hid (name_max nn)
    clear h2 o1 o0H e0 e1 hbig
    go_wp2_with fail
    refine g2.out.mono ?_
    rintro e w2 ⟨q, rfl, o2, e2⟩
    have x2 := hid (x1.out.trans e2)
    have h3 := fuse_c p _ fz (by unfold topI; omega) _ _ o2
    rw [lit_fuse z0] at h3
    have g3 := hid h3
    clear o2 e2 g2 x1 h3
    go_wp2_with fail
    refine g3.out.mono ?_
    rintro e w3 ⟨rfl, o3, e3⟩
    have x3 := hid (x2.out.trans e3)
    have o3H := hid o3
    have z0H := hid z0
    clear o3 e3 x2 g3 z0 z1
    go_upto_block 0 with (fail)
    go_cut [14] (fun u wc => ∃ (k : Nat) (b : List UInt8) (s' : Nat) (f' : Int) (dead : Bool), u = .int .i64 k ∧ k ≤ 60 ∧ KeepAt l k b s' ∧ b.length ≤ 1000000 ∧ Own wc [diskC p (litD (walName nn) b s' f' dead), base W W.heap.size] ∧ Ext W wc)
    case first =>
      go_wp2_with fail
      go_loopw [14] (fun i wr => ∃ (k : Nat) (f' : Int), i = .int .i64 k ∧ k ≤ l.length ∧ k ≤ 60 ∧ 0 ≤ f' ∧ (∀ x ∈ l.take k, x.size ≤ 8000) ∧ (fr (l.take k)).length ≤ 8003 * k ∧ Own wr [diskC p (litD (walName nn) (fr (l.take k)) (fr (l.take k)).length f' false), logC q p (oneL nn (fr (l.take k))), base W W.heap.size] ∧ Ext W wr) (fun i _ => l.length - (intOf i).toNat)
      case atStart => exact ⟨0, fz, rfl, Nat.zero_le _, Nat.zero_le _, z0H.out, by simp, Nat.le_refl _, o3H.out, x3.out⟩
      case round =>
        obtain ⟨k, f', rfl, hk, hk60, hf0, hws, hfl, ok, ek⟩ := hrel
        have okH := hid ok
        have ekH := hid ek
        have hwsH := hid hws
        have hflH := hid hfl
        have hf0H := hid hf0
        clear ok ek hws hf0
        by_cases hlt : k < l.length ∧ k < 60
        · obtain ⟨hlt, hlt60⟩ := hlt
          have hx : l[k]? = some l[k] := List.getElem?_eq_getElem hlt
          have htk : l.take (k + 1) = l.take k ++ [l[k]] := List.take_succ_eq_append_getElem hlt
          obtain ⟨x, hxe⟩ : ∃ x, l[k] = x := ⟨_, rfl⟩
          rw [hxe] at hx htk
          have hxm := pH.out x (List.mem_of_getElem? hx)
          obtain ⟨g, off, rfl, c1, hg⟩ := rd_str (rd_here rH.out (Own.drops [_, _] okH.out)) hx
          have hki : (k : Int) < l.length := by omega
          have hki2 : (k : Int) < 60 := by omega
          have hxH := hid hx
          have htkH := hid htk
          clear hx htk hxe
          by_cases hbig : x.size ≤ 8000 ∧ keep.length ≤ 100
          · obtain ⟨h8, h100⟩ := hbig
            have h8i : ¬ (x.size : Int) > 8000 := by omega
            have h100i : ¬ (keep.length : Int) > 100 := by omega
            have had := wadd_c q p (litD (walName nn) (fr (l.take k)) (fr (l.take k)).length f' false) (oneL nn (fr (l.take k))) x nH.out (bigN_of (n := (fr (l.take k)).length) (by omega)) hxm wr _ hGl.out (one_bd (bigN_of (n := (fr (l.take k)).length) (by omega))) okH.out
            obtain ⟨b', s', f2, dead, l', e, hwe, hcase⟩ := lit_add (n := nn) (b := fr (l.take k)) (t := x.data.toList) (f := f') (by rw [← Lib.size_eq]; exact h8) hf0H.out (by omega)
            rw [show wAdd (litD (walName nn) (fr (l.take k)) (fr (l.take k)).length f' false) (oneL nn (fr (l.take k))) x.data.toList = _ from hwe] at had
            unfold AddSays at had
            dsimp only at had
            have hadH := hid had
            have hfx := hid (frame_size (t := x) h8)
            have h8H := hid h8
            clear had hwe hxm h8 h100
            rcases hcase with ⟨rfl, rfl, rfl, rfl, hf2, rfl⟩ | ⟨he, hb⟩
            · have hf2H := hid hf2
              clear hf2
              go_wp2_with fail
              refine hadH.out.mono ?_
              rintro e w4 ⟨rfl, o4, e4⟩
              have o4H := hid o4
              clear o4
              go_wp2_with fail
              go_roundw
              case rel =>
                refine ⟨k + 1, f2, by go_num, by omega, by omega, hf2H.out, ?_, ?_, ?_, ekH.out.trans e4⟩
                · rw [htkH.out]
                  intro y hy
                  rcases List.mem_append.1 hy with hy | hy
                  · exact hwsH.out y hy
                  · rw [List.mem_singleton] at hy; subst hy; exact h8H.out
                · rw [htkH.out, fr_snoc, List.length_append]; have := hflH.out; have := hfx.out; omega
                · rw [htkH.out, fr_snoc]; exact o4H.out
              case measure => simp [intOf]; omega
            · have heb : (e == 0) = false := by simpa using he
              have hbH := hid hb
              clear hb he
              go_wp2_with fail
              refine hadH.out.mono ?_
              rintro e' w4 ⟨rfl, o4, e4⟩
              have o4H := hid o4
              clear o4
              go_wp2_with fail
              go_meet
              case rel =>
                refine ⟨k, b', s', f2, dead, rfl, by omega, ⟨hk, hwsH.out, ?_⟩, ?_, o4H.out.swap.drop, ekH.out.trans e4⟩
                · rcases hbH.out with ⟨h1, h2⟩ | ⟨h1, h2⟩
                  · exact .inl ⟨h1, h2⟩
                  · exact .inr ⟨x, hxH.out, h8H.out, h1, h2⟩
                · have := hflH.out; have := hfx.out
                  rcases hbH.out with ⟨h1, h2⟩ | ⟨h1, h2⟩
                  · rw [h1]; omega
                  · rw [h1, List.length_append]; omega
          · have hbg : (x.size : Int) > 8000 ∨ (¬ (x.size : Int) > 8000 ∧ (keep.length : Int) > 100) := by omega
            clear hbig
            rcases hbg with h1 | ⟨h1, h2⟩
            · go_wp2_with fail
              go_ret
              exact ⟨rfl, below_of_own (Own.drops [_, _] okH.out) ekH.out⟩
            · go_wp2_with fail
              go_ret
              exact ⟨rfl, below_of_own (Own.drops [_, _] okH.out) ekH.out⟩
        · have hk1 : ¬ (k : Int) < l.length ∨ ((k : Int) < l.length ∧ ¬ (k : Int) < 60) := by omega
          clear hlt
          rcases hk1 with h1 | ⟨h1, h2⟩
          · go_wp2_with fail
            go_meet
            case rel => exact ⟨k, _, _, f', false, rfl, by omega, ⟨hk, hwsH.out, .inl ⟨rfl, rfl⟩⟩, by have := hflH.out; omega, okH.out.swap.drop, ekH.out⟩
          · go_wp2_with fail
            go_meet
            case rel => exact ⟨k, _, _, f', false, rfl, by omega, ⟨hk, hwsH.out, .inl ⟨rfl, rfl⟩⟩, by have := hflH.out; omega, okH.out.swap.drop, ekH.out⟩
    case rest =>
      obtain ⟨k, b, s', f', dead, rfl, hk60, ⟨hk, hws, hb⟩, hbl, oc, ec⟩ := hcut
      have h4 := crash_c p (litD (walName nn) b s' f' dead) ch (.slice kA keep.length kc) keep wc _ (one_bd (bigN_of hbl)) (fun w' o => rd_here kH.out o) oc
      rw [lit_crash] at h4
      obtain ⟨m, hm1, hm2, hm3, hall⟩ := keeps_law hk hws hb (leftOfF ⟨b, s'⟩ keep[0]?)
      have hbt : Hid ((b.take (s' + leftOfF ⟨b, s'⟩ keep[0]?)).length ≤ 1000000) := hid (Nat.le_trans (List.length_take_le' _ _) hbl)
      generalize b.take (s' + leftOfF ⟨b, s'⟩ keep[0]?) = b2 at h4 hall hbt
      have hallH := hid hall
      have h4H := hid h4
      have ecH := hid ec
      clear h4 hall oc ec hb hws
      go_wp2_with fail
      refine h4H.out.mono ?_
      rintro e w4 ⟨rfl, o4, e4⟩
      have h5 := wreplay_c p nn _ nH.out w4 _ hGl.out (one_bd (bigN_of hbt.out)) o4
      rw [one_replay hle.out, hallH.out] at h5
      unfold ReplaySays at h5
      dsimp only at h5
      rw [strs_back] at h5
      have h5H := hid h5
      have x4H := hid (ecH.out.trans e4)
      clear h5 o4 e4
      go_wp2_with fail
      refine h5H.out.mono ?_
      rintro e w5 ⟨gv, rfl, o5, e5⟩
      obtain ⟨gA, gn, gc, rfl⟩ := sl_shape o5
      obtain ⟨hgn, hgc, hgm⟩ := sl_n o5
      rw [List.length_take_of_le hm3] at hgn
      subst hgn
      have r0 := rd_here rH.out (Own.drops [_, _] o5)
      have r1 := rd_take r0 gn hm3
      have r2 := sl_rd o5
      have ht := hid (texts_c r2 r1)
      rw [show decide (l.take gn = l.take gn) = true by simp] at ht
      have o5H := hid o5
      have x5H := hid (x4H.out.trans e5)
      have i1 : ¬ (gn : Int) < k := by omega
      have i2 : ¬ (gn : Int) > k + 1 := by omega
      have i3 : ¬ (gn : Int) > l.length := by omega
      have i4 : IntKind.i64.wrap ((k : Int) + 1) = k + 1 := by rw [IntKind.wrap_i64]; omega
      have i5 : (gn : Int) ≤ l.length := by omega
      unfold maxLen at hgm
      clear o5 r0 r1 r2
      go_wp2_with fail
      refine ht.out.mono ?_
      rintro e w6 ⟨rfl, e6, k6⟩
      have o6H := hid (k6.own o5H.out)
      have x6H := hid (x5H.out.trans e6)
      clear k6
      go_wp2
      go_ret
      exact ⟨rfl, below_of_own (Own.drops [_, _] o6H.out) x6H.out⟩
end Go.Proofs.YtfdpoocdfbdhpaaGreatDoor
