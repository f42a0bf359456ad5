/- The walks of Size: a range over the directory. -/
import Derived.Test.YtfdpoocdfbdhpaaGreatDoorFsG
import Derived.Sort.MapsRangeIn
import Derived.Deep.QuietTactic
import Derived.BigQuiet
set_option linter.all false
namespace Go.Proofs.YtfdpoocdfbdhpaaGreatDoor
open Go.RowKit Go.Sl Go.Scree Go.Maps

theorem skey_inv : ∀ key kl, keyOf Tryz.prog 9 key = some kl → ∃ x, key = Value.string x := fun key kl h => Maps.keyOf_string_inv Tryz.underlying9 h
theorem skey_is {x : ByteArray} {kl : Lit} (h : keyOf Tryz.prog 9 (.string x) = some kl) : kl = keyK x := by
  simp [keyOf, Tryz.underlying9, mapKey] at h
  exact h.2.symm
theorem skey_same (a b : ByteArray) : (keyK a).sameKey (keyK b) = eqK a b := by
  unfold keyK Lit.sameKey eqK
  rw [Lib.toList_data, Lib.toList_data]
/-- What the step of a range over a directory brings. -/
theorem rg_entry {A : List Nat} {dir : Dir Nat} {D : DataW Unit} (hD : IsDir D (dmap (adr A) dir)) {x : ByteArray} {c : Option Nat} {y : DataW Unit × List MemPlace} (hh : Maps.has D (keyK x) = true) (hv : RP (ptrV c) = some y) (hat : ∀ zd, D.atKey (keyK x) zd = y.1) :
    ∃ i, dget dir x = some i ∧ c = some (adr A i) := by
  rw [hD.has, dget_map] at hh
  cases hg : dget dir x with
  | none => rw [hg] at hh; cases hh
  | some i =>
    refine ⟨i, rfl, ?_⟩
    have h1 := hD.at_ x (adr A i) .nil (by rw [dget_map, hg]; rfl)
    rw [hat .nil] at h1
    obtain ⟨y1, y2⟩ := y
    dsimp only at h1
    subst h1
    have h2 := RP_inv hv
    cases c with
    | none => cases h2
    | some b => simp only [ptrV, Value.pointer.injEq, Option.some.injEq, Addr.mk.injEq] at h2; rw [h2.1]
theorem sumLeft_le (d : Dir Nat) (g : Nat → Nat) (left : ByteArray → Bool) : sumLeft d g left ≤ (d.map fun p => g p.2).sum := by
  induction d with
  | nil => exact Nat.le_refl _
  | cons p d ih =>
    simp only [sumLeft, List.map_cons, List.sum_cons] at ih ⊢
    split <;> omega
theorem file_in {d : FDisk} (hk : FOk d) {name : ByteArray} {i : Nat} (h : dget d.now name = some i) : d.files[i]? = some (d.file i) ∧ (d.file i).sure ≤ (d.file i).b.length := by
  obtain ⟨f, h1, h2, h3⟩ := file_at hk h
  rw [h2]; exact ⟨h1, h3⟩

set_option maxRecDepth 20000 in
set_option maxHeartbeats 3200000 in
theorem size_x (p m s : Nat) (pv : Value) (A : List Nat) (d : FDisk) (w : World) (F : List Chunk) (hA : A.length = d.files.length) (hk : FOk d) (hb : d.size ≤ bigN) (o : Own w (DX p m s pv A d F)) :
    Calls Tryz.prog 38 #[.pointer (some ⟨p, 0, none⟩)] w fun e w' => e = .returned (.int .i64 d.size) ∧ Own w' (DX p m s pv A d F) ∧ Ext w w' := by
  have hbH := hid hb
  have c0 := (disk_cells o).1.1
  obtain ⟨es, clk, D, h1, h2, h3, o1⟩ := mapC_open (Own.swap o)
  have h1H := hid h1
  have h2H := hid h2
  have h3H := hid h3
  have o1H := hid o1
  have kH := hid hk
  have aH := hid hA
  clear o o1 hk hA h1 h2 h3 hb
  go_enter Tryz.func38, Tryz.ntmps38
  go_wp2_with (first | (at_range; refine wpList_range_own _ rfl _ 80 rfl 9 90 lawS Tryz.underlying80 RP m _ D rfl (own_map o1H.out h1H.out) ?_; intro w5 hrg hg5 hs5) | fail)
  obtain ⟨y5, hy5⟩ : ∃ y, w5.heap[w.heap.size]? = some y := ⟨_, Array.getElem?_eq_getElem (by omega)⟩
  have o5H := hid (Own.grow o1H.out hy5 (fun j hj => hg5.block j hj (by simp)) hs5)
  have e5 := ext_grown hg5
  go_frame
  go_loopw [3] (fun n wq => ∃ (left : Lit → Bool) (cnt : Nat) (y : Obj), n = .int .i64 (sumLeft d.now (fun i => (d.file i).b.length) (fun k => left (keyK k))) ∧ wq.ranges Tryz.prog 9 RP m w.heap.size (dmap (adr A) d.now).length D left cnt ∧ Own wq (pts w.heap.size y :: pts m (.map es clk) :: pts p (diskO m s pv d) :: mapC s (dmap (adr A) d.sure) :: sl 92 (chgE A) pv d.pending :: filesC A d.files :: F) ∧ Ext w wq ∧ ∀ kl, left kl = true → Maps.has D kl = true) (fun _ wq => wq.rangeLeft m w.heap.size)
  case atStart =>
    refine ⟨_, _, y5, ?_, hrg, o5H.out, e5, fun kl h => h⟩
    rw [sumLeft_all]
    · rfl
    · intro q hq
      rw [h2H.out.has, dget_map, (dget_mem kH.out.now.ok q.1 q.2).2 hq]; rfl
  case round =>
    obtain ⟨left, cnt, y, rfl, hrq, oq, eq, hleft⟩ := hrel
    have hsl : sumLeft d.now (fun i => (d.file i).b.length) (fun k => left (keyK k)) ≤ 1000000000000 := Nat.le_trans (sumLeft_le _ _ _) hbH.out
    have oqH := hid oq
    clear oq
    go_wp2_with (first | (at_next; refine wpList_next_ranges _ rfl _ rfl 9 lawS RP (Value.string) ptrV skey_inv (fun v _ h => RP_shape h) m _ _ D _ _ rfl hrq ?_ ?_) | fail)
    · intro _ hnone
      have hfin : sumLeft d.now (fun i => (d.file i).b.length) (fun k => left (keyK k)) = d.size := sumLeft_none fun q _ => hnone _
      have hfinH := hid hfin
      clear hfin
      go_wp2
      go_ret
      rw [hfinH.out]
      exact ⟨rfl, Own.swap (mapC_close (oqH.out.drop) h1H.out h2H.out h3H.out), eq⟩
    · intro xk c kl ya yb w6 cnt6 hkey hlk hv hat hrg6 hlt6 hg6 hs6 hen
      obtain rfl := skey_is hkey
      obtain ⟨i, hi, rfl⟩ := rg_entry (y := (ya, yb)) h2H.out (hleft _ hlk) hv hat
      obtain ⟨hfi, hfs⟩ := file_in kH.out hi
      have hstep : sumLeft d.now (fun i => (d.file i).b.length) (fun k => left (keyK k) && !(keyK k).sameKey (keyK xk)) = sumLeft d.now (fun i => (d.file i).b.length) (fun k => left (keyK k)) + (d.file i).b.length := sumLeft_step kH.out.now.ok hi hlk fun k => by rw [skey_same]
      have hsl2 : sumLeft d.now (fun i => (d.file i).b.length) (fun k => left (keyK k)) + (d.file i).b.length ≤ 1000000000000 := by rw [← hstep]; exact Nat.le_trans (sumLeft_le _ _ _) hbH.out
      have hstepH := hid hstep
      obtain ⟨_, _, _, _, _, _, _, _, _, hy6, _⟩ := id hrg6
      have o6 := oqH.out.turn hy6 (fun j hj hne => hg6.block j hj (fun e => hne (Option.some.inj e)))
      have o6H := hid o6
      obtain ⟨R, o7, _⟩ := filesC_pick aH.out hfi (Own.pick 5 o6)
      obtain ⟨fv, o8⟩ := fileC_open o7
      obtain ⟨fA, fn, fc, rfl⟩ := sl_shape o8.swap
      obtain ⟨hfn, _, _⟩ := sl_n o8.swap
      have a0 := o8.cell (i := 0) (v := .slice fA fn fc) rfl
      subst hfn
      have hleftH := hid hleft
      have hrqH := hid hrq
      have hrg6H := hid hrg6
      have hfsH := hid hfs
      clear o6 o7 o8 hleft hrq hrg6 hat hv hstep hfi hfs hlk hkey hi hy6
      simp only [ptrV] at hen ⊢
      generalize adr A i = a at *
      go_wp2
      go_roundw
      case rel => exact ⟨_, cnt6, _, by rw [hstepH.out]; go_num, hrg6H.out, o6H.out, eq.trans (ext_grown hg6), fun z hz => hleftH.out z (by simp at hz; exact hz.1)⟩
      case measure => rw [hrg6H.out.left_eq, hrqH.out.left_eq]; exact hlt6
theorem size_c (p : Nat) (d : FDisk) (w : World) (F : List Chunk) (hb : d.size ≤ bigN) (o : Own w (diskC p d :: F)) :
    Calls Tryz.prog 38 #[.pointer (some ⟨p, 0, none⟩)] w fun e w' => e = .returned (.int .i64 d.size) ∧ Own w' (diskC p d :: F) ∧ Ext w w' := by
  obtain ⟨m, s, pv, A, hA, hk, o⟩ := diskC_open o
  exact (size_x p m s pv A d w F hA hk hb o).mono fun e w' ⟨h1, h2, h3⟩ => ⟨h1, diskC_close hA hk h2, h3⟩

end Go.Proofs.YtfdpoocdfbdhpaaGreatDoor
