/- slices.IndexFunc, DeleteFunc, Clone at entries; Between. -/
import Derived.Test.YtihbflmjgndfiaaEntA
namespace Go.Proofs.Ytihbflmjgndfiaa
open Go.RowKit Go.Sl Go.Scree

/-- A place in a list, or -1. -/
def idxI {α : Type} (p : α → Bool) (xs : List α) : Int := match xs.findIdx? p with | some i => i | none => -1
theorem rd_ent4 {w : World} {g off : Nat} {xs : List Ent} (h : ∀ i x, xs[i]? = some x → ∀ j u, (entE.cells x)[j]? = some u → w.cell? ⟨g, off + i * entE.size + j, none⟩ = some u)
   {i : Nat} {x : Ent} (hx : xs[i]? = some x) : w.cell? ⟨g, off + i * 4, none⟩ = some (.string x.key) ∧ w.cell? ⟨g, off + i * 4 + 1, none⟩ = some (.int .u64 x.seq) ∧ w.cell? ⟨g, off + i * 4 + 2, none⟩ = some (.bool x.del) ∧ w.cell? ⟨g, off + i * 4 + 3, none⟩ = some (.string x.val) :=
  ⟨h i x hx 0 _ rfl, h i x hx 1 _ rfl, h i x hx 2 _ rfl, h i x hx 3 _ rfl⟩
theorem idxI_at {α : Type} {p : α → Bool} {xs : List α} {k : Nat} {x : α} (h : ∀ y ∈ xs.take k, p y = false) (hx : xs[k]? = some x) (hp : p x = true) : idxI p xs = k := by
  have : xs.findIdx? p = some k := by
    rw [List.findIdx?_eq_some_iff_getElem]
    obtain ⟨hk, rfl⟩ := List.getElem?_eq_some_iff.1 hx
    refine ⟨hk, hp, fun j hj => ?_⟩
    have := h xs[j] (by rw [List.mem_take_iff_getElem]; exact ⟨j, by omega, rfl⟩)
    simp [this]
  simp [idxI, this]
theorem idxI_none {α : Type} {p : α → Bool} {xs : List α} (h : ∀ y ∈ xs, p y = false) : idxI p xs = -1 := by
  have : xs.findIdx? p = none := List.findIdx?_eq_none_iff.2 h
  simp [idxI, this]
theorem take_no {α : Type} {p : α → Bool} {xs : List α} {k : Nat} {x : α} (h : ∀ y ∈ xs.take k, p y = false) (hx : xs[k]? = some x) (hp : p x = false) : ∀ y ∈ xs.take (k + 1), p y = false := by
  obtain ⟨hk, rfl⟩ := List.getElem?_eq_some_iff.1 hx
  intro y hy
  rw [List.take_succ_eq_append_getElem hk, List.mem_append, List.mem_singleton] at hy
  rcases hy with hy | rfl
  · exact h y hy
  · exact hp
/-- A function value that tells p of a lease, and leaves what D and any F have. -/
def ETells (D : List Chunk) (fid : Nat) (caps : Array Value) (p : Ent → Bool) : Prop :=
  (∀ args w, (callFunc fid args).run Try.prog w = .ok (.enter fid args) w) ∧
  ∀ (x : Ent) (w : World) (F : List Chunk), Own w (D ++ F) → Calls Try.prog fid (#[entV x] ++ caps) w fun e w' => e = .returned (.bool (p x)) ∧ Own w' (D ++ F) ∧ Ext w w'

set_option maxHeartbeats 800000 in
theorem eindexFunc_c {D F : List Chunk} (p : Ent → Bool) (fid : Nat) (caps : Array Value) (v : Value) (xs : List Ent) (hrd : Gives D fun w => Rd w entE v xs)
    (hf : ETells D fid caps p) (w : World) (o : Own w (D ++ F)) :
    Calls Try.prog 36 #[v, .func (.func fid) #[] caps] w fun e w' => e = .returned (.int .i64 (idxI p xs)) ∧ Own w' (D ++ F) ∧ Ext w w' := by
  have hH := hid hrd
  obtain ⟨a, cap, rfl, hm, hc⟩ := (hrd w F o).form
  clear hrd
  have hl : xs.length ≤ 9223372036854775807 := by simpa [maxLen] using hm
  have hfid := hf.1
  have hfH := hid hf.2
  clear hf
  have oH := hid o
  clear o
  go_enter Try.func36, Try.ntmps36
  go_wp2_with fail
  go_loopw [4, 5, 8] (fun _ _ i wr => ∃ k : Nat, k ≤ xs.length ∧ i = .int .i64 k ∧ Own wr (D ++ F) ∧ Ext w wr ∧ ∀ x ∈ xs.take k, p x = false) (fun _ _ i wr => xs.length - (intOf i).toNat)
  case atStart => exact ⟨0, Nat.zero_le _, rfl, oH.out, Ext.refl _, by simp⟩
  case round =>
    obtain ⟨k, hk, rfl, ok, ek, hp⟩ := hrel
    have okH := hid ok
    have hpH := hid hp
    clear hp
    by_cases hlt : k < xs.length
    · have hx : xs[k]? = some xs[k] := List.getElem?_eq_getElem hlt
      have hr := hH.out wr F ok
      rcases hr with ⟨hn, hxs⟩ | ⟨g, off, cap', hv, h1, h2, hcell⟩
      · subst hxs; simp at hlt
      · obtain ⟨rfl, rfl⟩ : a = some ⟨g, off, none⟩ ∧ cap = cap' := by simpa using hv
        obtain ⟨c0, c1, c2, c3⟩ := rd_ent4 hcell hx
        clear hcell
        have hpx : p xs[k] = true ∨ p xs[k] = false := by cases p xs[k] <;> simp
        generalize xs[k] = x at *
        have hxH := hid hx
        clear hx ok
        go_wp2_with fail
        refine (hfH.out x _ _ okH.out).mono ?_
        rintro e w1 ⟨rfl, o1, e1⟩
        have o1H := hid o1
        clear o1
        rcases hpx with hpx | hpx
        · go_wp2
          go_ret
          exact ⟨by rw [idxI_at hpH.out hxH.out hpx]; rfl, o1H.out, ek.trans e1⟩
        · go_wp2
          go_roundw
          case rel => exact ⟨k + 1, by omega, by go_num, o1H.out, ek.trans e1, take_no hpH.out hxH.out hpx⟩
          case measure => simp [intOf]; omega
    · go_wp2
      go_ret
      refine ⟨?_, okH.out, ek⟩
      rw [idxI_none (fun y hy => hpH.out y (by rw [List.take_of_length_le (by omega)]; exact hy))]
      rfl

theorem ETells.cons {D : List Chunk} {fid : Nat} {caps : Array Value} {p : Ent → Bool} (h : ETells D fid caps p) (c : Chunk) : ETells (c :: D) fid caps p :=
  ⟨h.1, fun x w F o => (h.2 x w (c :: F) (Own.back D o)).mono fun e w' ⟨he, o', ex⟩ => ⟨he, Own.up D o', ex⟩⟩
theorem efilter_all {α : Type} {p : α → Bool} {xs : List α} (h : ∀ y ∈ xs, p y = false) : xs.filter (fun y => !p y) = xs := List.filter_eq_self.2 fun y hy => by simp [h y hy]
theorem infoEnt : (Try.prog.info? 31).map (fun i => (i.zero, i.size, i.bytes)) = some (some (.agg #[.string ⟨#[]⟩, .int .u64 0, .bool false, .string ⟨#[]⟩]), 4, 48) := by kernel_rfl

/-- Half way: of the first b those that stay lie ahead, from b on all is as it was. -/
def EDelInv (p : Ent → Bool) (xs L : List Ent) (a b : Nat) : Prop := L.take a = (xs.take b).filter (fun x => !p x) ∧ L.drop b = xs.drop b
theorem EDelInv.start {p : Ent → Bool} {xs : List Ent} {k : Nat} (hk : k < xs.length) (hy : ∀ x, xs[k]? = some x → p x = true) (hn : ∀ y ∈ xs.take k, p y = false) : EDelInv p xs xs k (k + 1) := by
  refine ⟨?_, rfl⟩
  rw [List.take_succ_eq_append_getElem hk, List.filter_append, efilter_all hn]
  have := hy _ (List.getElem?_eq_getElem hk)
  simp [this]

theorem EDelInv.skip {p : Ent → Bool} {xs L : List Ent} {a b : Nat} {x : Ent} (h : EDelInv p xs L a b) (hx : L[b]? = some x) (hp : p x = true) : EDelInv p xs L a (b + 1) := by
  obtain ⟨h1, h2⟩ := h
  have hxs : xs[b]? = some x := by
    have := congrArg (fun l => l[0]?) h2
    simpa [List.getElem?_drop, hx] using this.symm
  obtain ⟨hb, rfl⟩ := List.getElem?_eq_some_iff.1 hxs
  refine ⟨?_, ?_⟩
  · rw [h1, List.take_succ_eq_append_getElem hb, List.filter_append]
    simp [hp]
  · rw [← List.drop_drop, h2, List.drop_drop]
theorem EDelInv.keep {p : Ent → Bool} {xs L : List Ent} {a b : Nat} {x : Ent} (h : EDelInv p xs L a b) (hx : L[b]? = some x) (hp : p x = false) (hab : a < b) : EDelInv p xs (L.set a x) (a + 1) (b + 1) := by
  obtain ⟨h1, h2⟩ := h
  have hxs : xs[b]? = some x := by
    have := congrArg (fun l => l[0]?) h2
    simpa [List.getElem?_drop, hx] using this.symm
  obtain ⟨hb, rfl⟩ := List.getElem?_eq_some_iff.1 hxs
  have hbL := (List.getElem?_eq_some_iff.1 hx).1
  refine ⟨?_, ?_⟩
  · rw [List.take_succ_eq_append_getElem hb, List.filter_append, ← h1, List.take_succ_eq_append_getElem (by rw [List.length_set]; omega), List.take_set_of_le (Nat.le_refl _)]
    simp [hp]
  · rw [List.drop_set_of_lt (by omega), ← List.drop_drop, h2, List.drop_drop]

set_option maxHeartbeats 1600000 in
theorem edeleteFunc_c {D F : List Chunk} (p : Ent → Bool) (fid : Nat) (caps : Array Value) (v : Value) (xs : List Ent)
    (hf : ETells D fid caps p) (w : World) (o : Own w (sl 31 entE v xs :: (D ++ F))) :
    Calls Try.prog 33 #[v, .func (.func fid) #[] caps] w fun e w' => ∃ v', e = .returned v' ∧ Own w' (sl 31 entE v' (xs.filter fun x => !p x) :: (D ++ F)) ∧ Ext w w' := by
  have hidx := eindexFunc_c p fid caps v xs (D := sl 31 entE v xs :: D) (F := F) (fun w F o => sl_rd o) (hf.cons _) w o
  have hi : idxI p xs = -1 ∧ (∀ y ∈ xs, p y = false) ∨ ∃ k : Nat, idxI p xs = k ∧ k < xs.length ∧ (∀ x, xs[k]? = some x → p x = true) ∧ ∀ y ∈ xs.take k, p y = false := by
    unfold idxI
    cases h : xs.findIdx? p with
    | none =>
      rw [List.findIdx?_eq_none_iff] at h
      exact .inl ⟨rfl, h⟩
    | some k =>
      rw [List.findIdx?_eq_some_iff_getElem] at h
      obtain ⟨hk, hp, hb⟩ := h
      refine .inr ⟨k, rfl, hk, fun x hx => ?_, fun y hy => ?_⟩
      · rw [List.getElem?_eq_getElem hk] at hx
        obtain rfl : xs[k] = x := by simpa using hx
        exact hp
      · rw [List.mem_take_iff_getElem] at hy
        obtain ⟨j, hj, rfl⟩ := hy
        simpa using hb j (by omega)
  have hfid := hf.1
  have hfH := hid hf.2
  clear hf
  rcases hi with ⟨hi, hno⟩ | ⟨k, hi, hk, hyes, hno⟩
  · rw [hi] at hidx
    have hidxH := hid hidx
    have hnoH := hid hno
    have oH := hid o
    clear hidx hi hno o
    have hl : ∃ a n cap, v = .slice a n cap := by
      rcases sl_form oH.out with ⟨rfl, _⟩ | ⟨g, cap, rfl, _⟩
      · exact ⟨_, _, _, rfl⟩
      · exact ⟨_, _, _, rfl⟩
    obtain ⟨a, n, cap, rfl⟩ := hl
    go_enter Try.func33, Try.ntmps33
    go_wp2_with fail
    refine hidxH.out.mono ?_
    rintro e w1 ⟨rfl, o1, e1⟩
    go_wp2
    go_ret
    refine ⟨_, rfl, ?_, e1⟩
    rw [efilter_all hnoH.out]
    exact o1
  · rw [hi] at hidx
    have hidxH := hid hidx
    have hnoH := hid hno
    have hyesH := hid hyes
    have oH := hid o
    clear hidx hi hno hyes o
    rcases sl_form oH.out with ⟨_, rfl⟩ | ⟨g, cap, rfl, hn, hc⟩
    · simp at hk
    have hneg : ((k : Int) == -1) = false := by simp
    have hcl : cap ≤ 9223372036854775807 := by simpa [maxLen] using hc
    go_enter Try.func33, Try.ntmps33
    go_wp2_with fail
    refine hidxH.out.mono ?_
    rintro e w1 ⟨rfl, o1, e1⟩
    have o1H := hid o1
    clear o1
    go_wp2_with fail
    go_loopw [5, 6] (fun i j wr => ∃ (a b : Nat) (L : List Ent), i = .int .i64 a ∧ j = .int .i64 b ∧ a < b ∧ b ≤ xs.length ∧ L.length = xs.length ∧ EDelInv p xs L a b ∧ Own wr (sl 31 entE (.slice (some ⟨g, 0, none⟩) L.length cap) L :: (D ++ F)) ∧ Ext w wr) (fun _ j wr => xs.length - (intOf j).toNat)
    case atStart => exact ⟨k, k + 1, xs, rfl, by go_num, by omega, by omega, rfl, EDelInv.start hk hyesH.out hnoH.out, o1H.out, e1⟩
    case round =>
      obtain ⟨a, b, L, rfl, rfl, hab, hb, hL, hinv, ok, ek⟩ := hrel
      have okH := hid ok
      have hinvH := hid hinv
      clear ok hinv
      have hLe := hid hL
      by_cases hlt : b < xs.length
      · obtain ⟨x, hx⟩ : ∃ x, L[b]? = some x := ⟨_, List.getElem?_eq_getElem (by omega)⟩
        have hcc := sl_at okH.out hx
        have hxH := hid hx
        have c0 := (hcc 0 _ rfl).1
        have c1 := (hcc 1 _ rfl).1
        have c2 := (hcc 2 _ rfl).1
        have c3 := (hcc 3 _ rfl).1
        simp only [entE, Nat.add_zero] at c0 c1 c2 c3
        have hgl : g < wr.heap.size := World.block_lt_of_cell? wr _ c0
        have hpx : p x = true ∨ p x = false := by cases p x <;> simp
        clear hcc hx hL
        go_wp2_with fail
        have oc := Own.exch [_, _] D (okH.out.alloc (.cells #[.string x.key, .int .u64 x.seq, .bool x.del, .string x.val] 31))
        refine (hfH.out x _ _ oc).mono ?_
        rintro e w2 ⟨rfl, o2, e2⟩
        have o3 := Own.exch D [_, _] o2
        have hb3 := o3.get
        have hs3 := o3.swap
        obtain ⟨y, hy⟩ : ∃ y, L[a]? = some y := ⟨_, List.getElem?_eq_getElem (by have := hLe.out; omega)⟩
        have hsa := sl_at (Own.swap o3) hy
        have o3H := hid o3
        have hz : wr.heap.size < w2.heap.size := o3.lt
        have b0 : w2.cell? ⟨wr.heap.size, 0, none⟩ = some (.string x.key) := by simp [World.cell?, hb3]
        have b1 : w2.cell? ⟨wr.heap.size, 1, none⟩ = some (.int .u64 x.seq) := by simp [World.cell?, hb3]
        have b2 : w2.cell? ⟨wr.heap.size, 2, none⟩ = some (.bool x.del) := by simp [World.cell?, hb3]
        have b3 : w2.cell? ⟨wr.heap.size, 3, none⟩ = some (.string x.val) := by simp [World.cell?, hb3]
        have a0 := hsa 0 _ rfl
        have a1 := hsa 1 _ rfl
        have a2 := hsa 2 _ rfl
        have a3 := hsa 3 _ rfl
        simp only [entE, Nat.add_zero] at a0 a1 a2 a3
        obtain ⟨a0, f0⟩ := a0
        obtain ⟨a1, f1⟩ := a1
        obtain ⟨a2, f2⟩ := a2
        obtain ⟨a3, f3⟩ := a3
        clear hsa hs3 hb3 o2 oc o3 c0 c1 c2 c3 hy
        rcases hpx with hpx | hpx
        · clear a0 a1 a2 a3 f0 f1 f2 f3 b0 b1 b2 b3
          go_wp2
          go_roundw
          case rel => exact ⟨a, b + 1, L, rfl, by go_num, by omega, by omega, hLe.out, hinvH.out.skip hxH.out hpx, o3H.out.drop, ek.trans (((Ext.refl _).alloc _).trans e2)⟩
          case measure => simp [intOf]; omega
        · go_wp2
          go_roundw
          case rel => exact ⟨a + 1, b + 1, L.set a x, by go_num, by go_num, by omega, by omega, by rw [List.length_set]; exact hLe.out, hinvH.out.keep hxH.out hpx hab, by rw [List.length_set]; exact sl_put (o3H.out.drop) a (by have := hLe.out; omega) x, ((((ek.trans (((Ext.refl _).alloc _).trans e2)).set _ _).set _ _).set _ _).set _ _⟩
          case measure => simp [intOf]; omega
      · obtain rfl : b = xs.length := by omega
        have hac : ¬ cap = a := by omega
        obtain ⟨i0, hi0, hz0, hz1, hz2⟩ := info_parts infoEnt
        go_wp2_with (refine wpList_clear_sl rfl _ _ rfl i0 _ Try.underlying26 hi0 hz0 rfl (by simp [Value.cells, Value.oneCell']) okH.out a a (xs.length - a) (cap - a) (some ⟨g, a * 4, none⟩) ?c1 (by have := hLe.out; omega) (Nat.le_refl _) (by have := hLe.out; omega) (fun _ => rfl) ?_)
        case c1 => rfl
        intro w2 o2 e2
        have o2H := hid o2
        clear o2
        go_wp2
        go_ret
        refine ⟨_, rfl, ?_, ek.trans e2⟩
        have hfl := hinvH.out.1
        rw [List.take_length] at hfl
        have := o2H.out
        rw [hfl] at this
        exact this
end Go.Proofs.Ytihbflmjgndfiaa
