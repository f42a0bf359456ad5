/- slices.Sort at numbers, slices.SortFunc at tables, by what is owned; newer, lower. -/
import Derived.Test.YtdmdnhceiddcfaaGreatLvlB
import Derived.Test.YtdmdnhceiddcfaaGreatSrtP
import Derived.Lib.AgreeW
import Derived.Shelf.SlSortCmp.NoneTotal
set_option linter.all false
namespace Go.Proofs.YtdmdnhceiddcfaaGreat
open Go.RowKit Go.Sl Go.Scree Go.Shelf
open Go.Sort (Holds HoldsK SWO SortedIn PermIn grow ltInt)

/-! ### Numbers -/
def u64I : Enc Int := ⟨fun x => [.int .u64 x], 1, fun _ => rfl, by simp [Value.oneCell'], by omega⟩
theorem u64_flat (xs : List Nat) : u64E.flat xs = u64I.flat (xs.map Int.ofNat) := by
  unfold Enc.flat
  rw [List.flatMap_map]
  rfl
theorem sl_u64 {w : World} {F : List Chunk} {T : TypeId} {v : Value} {xs : List Nat} : Own w (sl T u64E v xs :: F) ↔ Own w (sl T u64I v (xs.map Int.ofNat) :: F) := by
  unfold sl
  rw [u64_flat, List.length_map]
  rfl
theorem usort_c {F : List Chunk} (v : Value) (xs : List Nat) (hn : xs.length ≤ 1000000) (w : World) (o : Own w (sl 32 u64E v xs :: F)) :
    Calls Tryz.prog 43 #[v] w fun e w' => e = .returned (.tuple #[]) ∧ Own w' (sl 32 u64E v (xs.mergeSort fun a b => decide (a ≤ b)) :: F) ∧ Ext w w' := by
  rcases sl_form o with ⟨rfl, rfl⟩ | ⟨g, cap, rfl, hc, hm⟩
  · refine (u_Sort_int_nil none 0 w).mono ?_
    rintro e w' ⟨rfl, rfl⟩
    exact ⟨rfl, by rw [List.mergeSort_nil]; exact o, Ext.refl _⟩
  · have o1 := sl_u64.1 o
    obtain ⟨hH, hb, _⟩ := own_holds1 (enc := Value.int .u64) (fun _ => rfl) o1
    have hl : (xs.map Int.ofNat).length = xs.length := List.length_map _
    have h := u_slices_Sort_int g 0 cap (xs.map Int.ofNat) w hH hb (by rw [hl]; omega)
    rw [hl] at h
    refine h.mono ?_
    rintro e w' ⟨rfl, n, os, rfl⟩
    have hs : (xs.map Int.ofNat).mergeSort (fun x y => decide (x ≤ y)) = (xs.mergeSort fun a b => decide (a ≤ b)).map Int.ofNat :=
      (List.map_mergeSort fun a _ b _ => by simp).symm
    rw [hs]
    obtain ⟨o2, e2⟩ := own_sorted1 (enc := Value.int .u64) (fun _ => rfl) o1 ((xs.mergeSort fun a b => decide (a ≤ b)).map Int.ofNat) (by rw [List.length_map, List.length_mergeSort, hl]) n os
    exact ⟨rfl, sl_u64.2 o2, e2⟩

/-! ### Tables -/
def newF (a b : MetaM) : Int := if b.file < a.file then -1 else 1
def lowF (a b : MetaM) : Int := Lib.compareBytes a.first.data.toList b.first.data.toList
theorem cells_agg (x : MetaM) : Value.agg (metaE.cells x).toArray = metaV x := rfl
theorem two_grow (w : World) (x y : Obj) : ∃ q os, (w.alloc x).alloc y = grow (w.drewN q) os := ⟨0, #[x, y], by rw [Go.Sort.alloc_eq_grow, Go.Sort.alloc_eq_grow, Go.Sort.grow_grow]; rfl⟩
theorem newer_c (a b : MetaM) (w : World) : Calls Tryz.prog 54 #[metaV a, metaV b] w fun e w' => e = .returned (.int .i64 (newF a b)) ∧ ∃ q os, w' = grow (w.drewN q) os := by
  obtain ⟨an, az, af, al, aq⟩ := a
  obtain ⟨bn, bz, bf, bl, bq⟩ := b
  unfold metaV newF
  dsimp only
  by_cases h : bn < an
  · rw [if_pos h]
    have hi : (an : Int) > (bn : Int) := by omega
    have hd : decide ((an : Int) > (bn : Int)) = true := decide_eq_true hi
    clear h
    go_enter Tryz.func54, Tryz.ntmps54
    go_wp2_with fail
    go_ret
    exact ⟨rfl, two_grow _ _ _⟩
  · rw [if_neg h]
    have hi : ¬ (an : Int) > (bn : Int) := by omega
    have hd : decide ((an : Int) > (bn : Int)) = false := decide_eq_false hi
    clear h
    go_enter Tryz.func54, Tryz.ntmps54
    go_wp2_with fail
    go_ret
    exact ⟨rfl, two_grow _ _ _⟩
theorem scompare_l (a b : ByteArray) (w : World) : Calls Tryz.prog 66 #[.string a, .string b] w fun e w' => e = .returned (.int .i64 (Lib.compareBytes a.data.toList b.data.toList)) ∧ w' = w := Any.strings_Compare Lvl.compare a b w
theorem lower_c (a b : MetaM) (w : World) : Calls Tryz.prog 56 #[metaV a, metaV b] w fun e w' => e = .returned (.int .i64 (lowF a b)) ∧ ∃ q os, w' = grow (w.drewN q) os := by
  obtain ⟨an, az, af, al, aq⟩ := a
  obtain ⟨bn, bz, bf, bl, bq⟩ := b
  unfold metaV lowF
  dsimp only
  have hc := scompare_l af bf
  generalize Lib.compareBytes af.data.toList bf.data.toList = r at *
  go_enter Tryz.func56, Tryz.ntmps56
  go_wp2_with (first | (go_at_call 66; refine (hc _).mono ?_; rintro e w1 ⟨rfl, rfl⟩))
  go_ret
  exact ⟨rfl, two_grow _ _ _⟩
theorem new_lt (a b : MetaM) : ltOf newF a b = decide (b.file < a.file) := by
  unfold ltOf newF
  by_cases h : b.file < a.file <;> simp [h]
theorem newSWO : SWO (ltOf newF) where
  irrefl x := by rw [new_lt]; simp
  trans x y z h k := by rw [new_lt] at *; simp at *; omega
  ntrans x y z h k := by rw [new_lt] at *; simp at *; omega
theorem one_metaE : ∀ x, ∀ v ∈ metaE.cells x, v.oneCell' = true := metaE.one
theorem newLays (blk off size : Nat) (w : World) : CmpLays Tryz.prog 54 #[] metaE.cells 5 newF blk off size w := fun m os dk _ x y => newer_c x y _
theorem permIn_list {α : Type} [Inhabited α] {d d' : Array α} (h : PermIn 0 d.size d d') : d'.size = d.size ∧ d'.toList.Perm d.toList := by
  obtain ⟨h1, _, h3⟩ := h
  refine ⟨h1, ?_⟩
  rwa [← h1, Array.extract_size, h1, Array.extract_size] at h3
theorem sortedIn_list {α : Type} [Inhabited α] {lt : α → α → Bool} {d : Array α} {n : Nat} (hn : n = d.size) (h : SortedIn lt 0 n d) : d.toList.Pairwise fun a b => lt b a = false := by
  subst hn
  refine List.pairwise_iff_getElem.2 fun i j hi hj hij => ?_
  rw [Array.length_toList] at hi hj
  have := h i j (Nat.zero_le _) hij hj
  rw [getElem!_pos d j hj, getElem!_pos d i hi] at this
  simpa using this
/-- What the top is sorted to. -/
theorem msort_c {F : List Chunk} (v : Value) (xs : List MetaM) (hn : xs.length ≤ 1000000) (w : World) (o : Own w (sl 43 metaE v xs :: F)) :
    Calls Tryz.prog 53 #[v, .func (.func 54) #[] #[]] w fun e w' => e = .returned (.tuple #[]) ∧ ∃ ys, Own w' (sl 43 metaE v ys :: F) ∧ Ext w w' ∧ ys.Perm xs ∧ ys.Pairwise DownF := by
  have eg : ∀ args w, (callFunc 54 args).run Tryz.prog w = .ok (.enter 54 args) w := enters_of Tryz.func54 (by kernel_rfl) rfl
  rcases sl_form o with ⟨rfl, rfl⟩ | ⟨g, cap, rfl, hc, hm⟩
  · refine (AnyF.slices_SortFunc_none Lvl.msort none 0 (.func (.func 54) #[] #[]) w).mono ?_
    rintro e w' ⟨rfl, rfl⟩
    exact ⟨rfl, [], o, Ext.refl _, List.Perm.refl _, List.Pairwise.nil⟩
  · obtain ⟨hH, hb, _⟩ := own_holdsK o
    have h := AnyQ.slices_SortFunc Lvl.msort 5 Tryz.isAgg43 Tryz.sizeOf43 metaE.cells metaE.len one_metaE newF newSWO 54 #[] g 0 cap xs.toArray w eg (newLays g 0 _ w) hH hb (by simp; omega)
    refine h.mono ?_
    rintro e w' ⟨rfl, d', n, os, hp, hs, rfl⟩
    obtain ⟨h1, h2⟩ := permIn_list hp
    obtain ⟨o2, e2⟩ := own_sortedK o d' (by rw [h1]; simp) n os
    refine ⟨rfl, d'.toList, o2, e2, h2, (sortedIn_list h1.symm hs).imp fun {a b} k => ?_⟩
    rw [new_lt] at k
    simpa [DownF] using k
end Go.Proofs.YtdmdnhceiddcfaaGreat
