/- The walk of a change of a directory. -/
import Derived.Test.YtfdpoocdfbdhpaaGreatDoorFsC
import Derived.RegionTactic
import Derived.Deep.RegionHeld3
set_option linter.all false
namespace Go.Proofs.YtfdpoocdfbdhpaaGreatDoor
open Go.RowKit Go.Sl Go.Scree Go.Maps

def chgV (A : List Nat) (c : FChg) : Value := .agg #[.string c.src, .string c.dst, ptrV (c.f.map (adr A))]
def chgO (A : List Nat) (c : FChg) : Obj := .cells #[.string c.src, .string c.dst, ptrV (c.f.map (adr A))] 92 (0, 0)

theorem nil_toList {k : ByteArray} : k.toList.isEmpty = eqK k noName := by
  unfold eqK noName
  rw [show (ByteArray.mk #[]).toList = [] from by simp [Lib.toList_data]]
  cases k.toList <;> rfl

set_option maxRecDepth 20000 in
set_option maxHeartbeats 1600000 in
theorem do_c (A : List Nat) (c : FChg) (m : Nat) (dir : Dir Nat) (w : World) (F : List Chunk) (o : Own w (mapC m (dmap (adr A) dir) :: F)) (hs : c.src.size ≤ maxLen) (hd : c.dst.size ≤ maxLen) (hn : dir.length ≤ 60)
    (hc : c.f = none → (dget dir c.src).isSome = true) :
    Calls Tryz.prog 53 #[chgV A c, .map (some m)] w fun e w' => e = .returned (.tuple #[]) ∧ Own w' (mapC m (dmap (adr A) (c.act dir)) :: F) ∧ Ext w w' := by
  obtain ⟨src, dst, f⟩ := c
  dsimp only at hs hd hc
  have oB := o.alloc (.cells #[.string src, .string dst, ptrV (f.map (adr A))] 92 (0, 0))
  have oBH := hid oB.swap
  have oH := hid o
  have nH := hid hn
  unfold chgV
  dsimp only
  have hm60 : (dmap (adr A) dir).length < maxLen := by rw [dmap_len]; unfold maxLen; omega
  have m60 := hid hm60
  clear hm60 o oB hn
  cases f with
  | some i =>
    clear hc
    have hsH := hid hs
    have hdH := hid hd
    clear hs hd
    show Calls _ _ #[.agg #[.string src, .string dst, .pointer (some ⟨adr A i, 0, none⟩)], _] _ _
    have oB2 : Hid (Own (w.alloc (.cells #[.string src, .string dst, .pointer (some ⟨adr A i, 0, none⟩)] 92 (0, 0))) (mapC m (dmap (adr A) dir) :: F)) := hid (oBH.out.swap.drop)
    have fin : Hid (∀ w', Own w' (mapC m (dput (dmap (adr A) dir) dst (adr A i)) :: F) → Own w' (mapC m (dmap (adr A) (FChg.act ⟨src, dst, some i⟩ dir)) :: F)) := hid (fun w' o => by rw [dput_map] at o; exact o)
    generalize adr A i = a at *
    go_enter Tryz.func53, Tryz.ntmps53
    go_wp2_with (refine wpList_dput rfl _ _ _ rfl rfl rfl rfl oB2.out hdH.out m60.out ?_; intro w1 o1 e1; have o1H := hid o1; clear o1)
    go_end0
    exact ⟨rfl, fin.out _ o1H.out, ((Ext.refl _).alloc _).trans e1⟩
  | none =>
    obtain ⟨i, hi⟩ := Option.isSome_iff_exists.1 (hc rfl)
    have hi2 := hid hi
    clear hc hi
    show Calls _ _ #[.agg #[.string src, .string dst, .pointer none], _] _ _
    have oB2 : Hid (Own (w.alloc (.cells #[.string src, .string dst, .pointer none] 92 (0, 0))) (mapC m (dmap (adr A) dir) :: F)) := hid (oBH.out.swap.drop)
    have hsH := hid hs
    have hdH := hid hd
    clear hs hd
    rcases bool_cases dst.toList.isEmpty with h1 | h1
    · have fin : Hid (∀ w', Own w' (mapC m (ddel (dmap (adr A) dir) src) :: F) → Own w' (mapC m (dmap (adr A) (FChg.act ⟨src, dst, none⟩ dir)) :: F)) := hid (fun w' o => by
        rw [ddel_map] at o
        have : FChg.act ⟨src, dst, none⟩ dir = ddel dir src := by
          unfold FChg.act
          simp only [← nil_toList, h1, if_true]
        rw [this]; exact o)
      go_enter Tryz.func53, Tryz.ntmps53
      go_wp2_with (refine wpList_ddel rfl _ _ rfl rfl rfl oB2.out hsH.out ?_; intro w1 o1 e1; have o1H := hid o1; clear o1)
      go_end0
      exact ⟨rfl, fin.out _ o1H.out, ((Ext.refl _).alloc _).trans e1⟩
    · rcases bool_cases (dst.toList == src.toList) with h2 | h2
      · have fin : Hid (FChg.act ⟨src, dst, none⟩ dir = dir) := hid (by
          unfold FChg.act
          have h2' : eqK dst src = true := h2
          simp only [← nil_toList, h1, h2', if_true]; rfl)
        have h3 : (dst.toList != src.toList) = false := by simp [bne, h2]
        go_enter Tryz.func53, Tryz.ntmps53
        go_wp2_with fail
        go_end0
        rw [fin.out]
        exact ⟨rfl, oB2.out, (Ext.refl _).alloc _⟩
      · have h3 : (dst.toList != src.toList) = true := by simp [bne, h2]
        have fin : Hid (FChg.act ⟨src, dst, none⟩ dir = ddel (dput dir dst i) src) := hid (by
          unfold FChg.act
          have h2' : eqK dst src = false := h2
          simp only [← nil_toList, h1, h2', hi2.out]; rfl)
        have hgt : dget (dmap (adr A) dir) src = some (adr A i) := by rw [dget_map, hi2.out]; rfl
        have lk := look_one oB2.out hsH.out hgt
        have finH : Hid (∀ w', Own w' (mapC m (ddel (dput (dmap (adr A) dir) dst (adr A i)) src) :: F) → Own w' (mapC m (dmap (adr A) (FChg.act ⟨src, dst, none⟩ dir)) :: F)) := hid (fun w' o => by
          rw [dput_map, ddel_map] at o; rw [fin.out]; exact o)
        clear hgt
        have oB3 : Hid (Own (w.alloc (.cells #[.string src, .string dst, .pointer none] 92 (0, 0))) (mapC m (dmap (adr A) dir) :: pts w.heap.size (.cells #[.string src, .string dst, .pointer none] 92 (0, 0)) :: F)) := hid oBH.out
        generalize adr A i = a at *
        go_enter Tryz.func53, Tryz.ntmps53
        go_wp2_with (first
          | (refine wpList_dput rfl _ _ _ rfl rfl rfl rfl oB3.out hdH.out m60.out ?_; intro w1 o1 e1; have k0 := (Own.swap o1).cell (i := 0) (v := .string src) rfl; have o1H := hid (Own.drop (Own.swap o1)); clear o1)
          | (refine wpList_ddel rfl _ _ rfl rfl rfl o1H.out hsH.out ?_; intro w2 o2 e2; have o2H := hid o2; clear o2))
        go_end0
        exact ⟨rfl, finH.out _ o2H.out, (((Ext.refl _).alloc _).trans e1).trans e2⟩
end Go.Proofs.YtfdpoocdfbdhpaaGreatDoor
