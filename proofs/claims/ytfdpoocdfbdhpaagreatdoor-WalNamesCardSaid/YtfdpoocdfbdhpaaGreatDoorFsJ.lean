/- The walk of List: the names, in order. -/
import Derived.Test.YtfdpoocdfbdhpaaGreatDoorFsI
import Derived.Test.YtfdpoocdfbdhpaaGreatDoorFsLay
import Derived.Sort.KeysCollected
set_option linter.all false
namespace Go.Proofs.YtfdpoocdfbdhpaaGreatDoor
open Go.RowKit Go.Sl Go.Scree Go.Maps Go.Sort Go.Shelf

def strE : Enc ByteArray := ⟨fun k => [.string k], 1, fun _ => rfl, by simp [Value.oneCell'], by omega⟩
theorem strE_flat (l : List ByteArray) : strE.flat l = (l.map fun k => k.data.toList).map Go.Proofs.encStr := by
  induction l with
  | nil => rfl
  | cons k l ih =>
    simp only [Enc.flat, List.flatMap_cons, List.map_cons] at ih ⊢
    rw [ih]; rfl
def namesOf (d : Dir Nat) : List ByteArray := d.map (·.1)
theorem names_sorted {d : Dir Nat} (h : DirOk d) : ((namesOf d).map fun k => k.data.toList).Pairwise fun a b => decide (a ≤ b) = true := by
  unfold namesOf
  rw [List.pairwise_map, List.pairwise_map]
  refine h.imp fun {a b} hab => ?_
  simp only [ltK, decide_eq_true_eq] at hab ⊢
  exact List.le_of_lt hab
theorem names_nodup {d : Dir Nat} (h : DirOk d) : ((namesOf d).map fun k => k.data.toList).Nodup := by
  unfold namesOf List.Nodup
  rw [List.pairwise_map, List.pairwise_map]
  refine h.imp fun {a b} hab e => ?_
  simp only [ltK, decide_eq_true_eq] at hab
  rw [e] at hab
  exact List.lt_irrefl _ hab
theorem names_mem {d : Dir Nat} {x : List UInt8} : x ∈ ((namesOf d).map fun k => k.data.toList) ↔ (dget d ⟨x.toArray⟩).isSome = true := by
  unfold namesOf
  constructor
  · intro h
    obtain ⟨k, hk, rfl⟩ := List.mem_map.1 h
    obtain ⟨q, hq, rfl⟩ := List.mem_map.1 hk
    have e : (⟨(q.1.data.toList).toArray⟩ : ByteArray) = q.1 := by cases q.1; simp
    rw [e]
    cases hg : dget d q.1 with
    | some i => rfl
    | none =>
      exfalso
      clear h hk e
      induction d with
      | nil => simp at hq
      | cons p d ih =>
        simp only [dget] at hg
        split at hg
        · cases hg
        · rename_i hne
          rcases List.mem_cons.1 hq with rfl | hq
          · exact hne (eqK_self _)
          · exact ih hq hg
  · intro h
    obtain ⟨i, hi⟩ := Option.isSome_iff_exists.1 h
    exact List.mem_map.2 ⟨_, List.mem_map.2 ⟨_, dget_in hi, rfl⟩, by simp⟩
theorem names_perm {w : World} {d : Dir Nat} {D : DataW Unit} {b n : Nat} (hD : IsDir D d) (hd : DirOk d) (hown : w.ownsMap Tryz.prog 9 RP b n D) : ((namesOf d).map fun k => k.data.toList).Perm (strKeys D) := by
  have ht := hown.tidy lawS
  obtain ⟨es, rfl, hp⟩ := ht
  refine perm_strKeys hp ?_ (names_nodup hd) (fun x => ?_)
  · obtain ⟨es', e, hko⟩ := hown.keysOf
    cases e
    intro p hp'
    obtain ⟨v, hv⟩ := hko p hp'
    obtain ⟨x, _, hx, _⟩ := Maps.keyOf_str Tryz.underlying9 hv
    exact ⟨x, hx⟩
  · rw [names_mem]
    have := hD.has ⟨x.toArray⟩
    rw [← this]; rfl
theorem names_order {d : Dir Nat} {ss : List (List UInt8)} (hd : DirOk d) (hp : ss.Perm ((namesOf d).map fun k => k.data.toList)) : ss.mergeSort (fun x y => decide (x ≤ y)) = (namesOf d).map fun k => k.data.toList := by
  have tr : ∀ a b c : List UInt8, decide (a ≤ b) = true → decide (b ≤ c) = true → decide (a ≤ c) = true := fun a b c h1 h2 => by simp only [decide_eq_true_eq] at *; exact List.le_trans h1 h2
  have to : ∀ a b : List UInt8, (decide (a ≤ b) || decide (b ≤ a)) = true := fun a b => by simp only [Bool.or_eq_true, decide_eq_true_eq]; exact List.le_total a b
  refine List.Perm.eq_of_pairwise (le := fun a b => decide (a ≤ b) = true) (fun a b _ _ h1 h2 => ?_) (List.pairwise_mergeSort tr to ss) (names_sorted hd) ((List.mergeSort_perm ss _).trans hp)
  simp only [decide_eq_true_eq] at h1 h2
  exact List.le_antisymm h1 h2
/-- A new block among those that a call has made. -/
theorem own_below {w w' : World} {F : List Chunk} {g : Nat} {x : Obj} (o : Own w F) (hb : Below w.heap.size w w') (hg : w'.heap[g]? = some x) (hge : w.heap.size ≤ g) : Own w' (pts g x :: F) := by
  obtain ⟨h, s, k⟩ := o
  have hn : ∀ b, w.heap.size ≤ b → h b = none := fun b hb => by
    cases hx : h b with
    | none => rfl
    | some y => have := k b y hx; rw [Array.getElem?_eq_none hb] at this; cases this
  refine ⟨fun b => if b = g then some x else h b, ⟨fun b => if b = g then some x else none, h, fun _ => rfl, s, fun b => ?_, fun b => ?_⟩, fun b y hy => ?_⟩
  · by_cases e : b = g
    · subst e; exact .inr (hn _ hge)
    · simp [e]
  · by_cases e : b = g <;> simp [e]
  · dsimp only at hy
    by_cases e : b = g
    · subst e; rw [if_pos rfl] at hy; rw [hg]; exact hy
    · rw [if_neg e] at hy
      have h1 := k b y hy
      rw [hb.block b (Array.getElem?_eq_some_iff.1 h1).1]; exact h1
theorem row_own {w w' : World} {F : List Chunk} {v : Value} {e size n base : Nat} {xs : List Value} (o : Own w F) (hb : Below w.heap.size w w') (h : w'.ownsRow base e size v n xs) (hge : w.heap.size ≤ base) : Own w' (slc e size v n xs :: F) := by
  obtain ⟨hl, h⟩ := h
  rcases h with ⟨rfl, rfl⟩ | ⟨g, cap, cur, rfl, hbg, hg, hnc, hcm, hcs, ht⟩
  · have : xs = [] := List.eq_nil_of_length_eq_zero (by simpa using hl)
    subst this
    exact slc_nil e size (o.same fun k hk => hb.block k hk)
  · have o2 := slc_mk (n := n) (cap := cap) (size := size) (own_below o hb hg (Nat.le_trans hge hbg)) hnc hcm hcs
    rw [ht] at o2; exact o2
theorem sorts_c (m : Nat) : AnyZ.SortsIn Tryz.prog Fsl.sorted_ren Fence.wide m :=
  ⟨fun blk off cap ss W hH hblk hsz => callsIn_wide.2 (AnyM.slices_Sort_string Fsl.sort blk off cap ss W hH hblk hsz),
   fun p cap W => callsIn_wide.2 (AnyM.slices_Sort_string_none Fsl.sort p cap W)⟩

set_option maxRecDepth 20000 in
set_option maxHeartbeats 3200000 in
theorem list_x (p m : Nat) (dir : Dir Nat) (w : World) (F : List Chunk) (hfew : dir.length ≤ 60) (o : Own w (mapC m dir :: F)) (c0 : w.cell? ⟨p, 0, none⟩ = some (.map (some m))) :
    Calls Tryz.prog 40 #[.pointer (some ⟨p, 0, none⟩)] w fun e w' => ∃ v, e = .returned v ∧ Own w' (sl 9 strE v (namesOf dir) :: mapC m dir :: F) ∧ Ext w w' := by
  obtain ⟨D, hown, hD, hd⟩ := mapC_own o
  have hsz : Maps.size D = dir.length := hD.size
  have hmax : Maps.size D ≤ maxLen := by rw [hsz]; unfold maxLen; omega
  have hbytes : Maps.size D * 16 ≤ 140737488355328 := by rw [hsz]; omega
  have hperm := hid (names_perm hD hd hown)
  have hdH := hid hd
  have oH := hid o
  have hbl := hown.lt
  refine (callsIn_wide (n := 6)).1 ?_
  have hseq : SeqGives Fence.wide 2 Tryz.prog 93 #[.pointer (some ⟨w.heap.size, 0, none⟩)] encStr (fun ss => ss.Perm (strKeys D)) (Maps.size D) (w.alloc (.cells #[.map (some m)] 80)) :=
    AnyZ.keys_gives (ρ := Fsl.keys_ren) { Fsl.keys with } Fence.wide _ trivial rfl (by omega) w.heap.size m dir.length D _ (by simp) (by simp) (by
      obtain ⟨es, clock, hb, Ft, hs, hD⟩ := hown
      exact ⟨es, clock, (Below.heap_alloc _ _ m hbl).trans hb, Ft, hs, hD⟩)
  have cK : ∀ mb W, CallsIn Fence.wide 5 Tryz.prog 70 #[.map mb] W fun e w' => e = .returned (.func (.func 93) #[] #[.pointer (some ⟨W.heap.size, 0, none⟩)]) ∧ w' = W.alloc (.cells #[.map mb] 80) := fun mb W => AnyZ.keys_in Fsl.keys Fence.wide 5 trivial rfl mb W
  have cS := AnyZ.sorted_in Fsl.sorted Fence.wide 5 trivial trivial trivial trivial rfl (by omega) (sorts_c _) (enters_of Tryz.func92 (by kernel_rfl) rfl) 93 #[.pointer (some ⟨w.heap.size, 0, none⟩)] trivial (enters_of Tryz.func93 (by kernel_rfl) rfl) _ _ hmax hbytes _ hseq
  change CallsIn _ _ Tryz.prog 69 _ _ _ at cS
  have hfK : Fence.wide.fn 70 := trivial
  have hfS : Fence.wide.fn 69 := trivial
  clear hseq hmax hbytes hown hD hsz hfew o hd hbl
  refine callsIn_of_wp Tryz.func40 rfl trivial ?_ rfl
  simp only [Tryz.ntmps40, List.size_toArray, List.length_cons, List.length_nil, Nat.reduceAdd, Nat.reduceSub, Array.replicate_succ, Array.replicate_zero, List.push_toArray, List.append_toArray, List.nil_append, List.cons_append]
  gi_wp2_with (first
    | (gi_at_call 70; refine (cK _ _).mono ?_; rintro e w' ⟨rfl, rfl⟩)
    | (gi_at_call 69; refine cS.mono ?_; rintro e w' ⟨v, ss, rfl, hS, hrow, hnil, hb⟩))
  go_ret
  refine ⟨v, rfl, ?_, ?_⟩
  · have o2 := row_own (oH.out.allocd (x := .cells #[.map (some m)] 80)) hb hrow (Nat.le_refl _)
    have hp2 := hS.trans hperm.out.symm
    refine sl_of (E := strE) (namesOf dir) o2 (by rw [hp2.length_eq, List.length_map]) ?_
    rw [names_order hdH.out hp2, strE_flat]
  · exact ((Ext.refl w).alloc _).trans ⟨hb.os, hb.tape, hb.output, hb.size⟩
theorem list_c (p : Nat) (d : FDisk) (w : World) (F : List Chunk) (o : Own w (diskC p d :: F)) :
    Calls Tryz.prog 40 #[.pointer (some ⟨p, 0, none⟩)] w fun e w' => ∃ v, e = .returned v ∧ Own w' (sl 9 strE v (namesOf d.now) :: diskC p d :: F) ∧ Ext w w' := by
  obtain ⟨m, s, pv, A, hA, hk, o⟩ := diskC_open o
  have hn : namesOf (dmap (adr A) d.now) = namesOf d.now := by unfold namesOf dmap; rw [List.map_map]; rfl
  have h := list_x p m (dmap (adr A) d.now) w _ (by rw [dmap_len]; exact hk.now.few) (Own.swap o) (disk_cells o).1.1
  rw [hn] at h
  exact h.mono fun e w' ⟨v, h1, h2, h3⟩ => ⟨v, h1, Own.swap (diskC_close hA hk (h2.arr [2, 1, 3, 4, 5, 0])), h3⟩
end Go.Proofs.YtfdpoocdfbdhpaaGreatDoor
