/- The methods of a registry of leases, each once. -/
import Derived.Test.YtkgflckfphecjaaSnapD
namespace Go.Proofs.Ytkgflckfphecjaa
open Go.RowKit Go.Sl Go.Scree

def regC (p : Nat) (r : Reg) : Chunk := ex fun lv : Value => stars [pts p (.cells #[lv, .int .u64 r.safe, .int .u64 r.next] 62 (0, 0)), sl 67 leaseE lv r.l]
theorem regC_open {p : Nat} {r : Reg} {w : World} {F : List Chunk} (o : Own w (regC p r :: F)) : ∃ lv, Own w (pts p (.cells #[lv, .int .u64 r.safe, .int .u64 r.next] 62 (0, 0)) :: sl 67 leaseE lv r.l :: F) := by
  obtain ⟨lv, o⟩ := o.open
  exact ⟨lv, o.stars⟩
theorem regC_close {p : Nat} {r : Reg} {w : World} {F : List Chunk} {lv : Value} (o : Own w (pts p (.cells #[lv, .int .u64 r.safe, .int .u64 r.next] 62 (0, 0)) :: sl 67 leaseE lv r.l :: F)) : Own w (regC p r :: F) :=
  Own.close lv (Own.unstars (cs := [_, _]) o)

theorem find_tells (p : Nat) (id : Int) : Tells [pts p (.cells #[.int .u64 id] 23 (0, 0))] 50 #[.pointer (some ⟨p, 0, none⟩)] (fun x => x.id == id) :=
  ⟨fun _ _ => by rfl, fun x w F o => find1_c x.id x.time x.until_ id p w _ o (Own.cell o rfl)⟩
theorem drop_tells (p : Nat) (now : Int) : Tells [pts p (.cells #[.int .u64 now] 23 (0, 0))] 48 #[.pointer (some ⟨p, 0, none⟩)] (fun x => !livesB now x) :=
  ⟨fun _ _ => by rfl, fun x w F o => drop1_c x.id x.time x.until_ now p w _ o (Own.cell o rfl)⟩

theorem find_c (p : Nat) (id : Int) (r : Reg) (w : World) (F : List Chunk) (o : Own w (regC p r :: F)) :
    Calls Try.prog 35 #[.pointer (some ⟨p, 0, none⟩), .int .u64 id] w fun e w' => e = .returned (.int .i64 (idxI (fun x => x.id == id) r.l)) ∧ Own w' (regC p r :: F) ∧ Ext w w' := by
  obtain ⟨lv, o⟩ := regC_open o
  have c0 := o.cell (i := 0) (v := lv) rfl
  have hp := o.lt
  have oH := hid o
  clear o
  go_enter Try.func35, Try.ntmps35
  go_wp2_with fail
  have o2 := (oH.out.alloc (.cells #[.int .u64 id] 23)).pick 2
  refine (indexFunc_c (D := [_, _]) _ _ _ lv r.l (fun w F o => sl_rd o) ((find_tells w.heap.size id).cons _) _ o2).mono ?_
  rintro e w1 ⟨rfl, o3, e3⟩
  have o4 := regC_close (Own.pick 2 o3)
  go_wp2
  go_ret
  exact ⟨rfl, o4.swap.drop, ((Ext.refl _).alloc _).trans e3⟩

theorem drop_c (p : Nat) (now : Int) (r : Reg) (w : World) (F : List Chunk) (o : Own w (regC p r :: F)) :
    Calls Try.prog 32 #[.pointer (some ⟨p, 0, none⟩), .int .u64 now] w fun e w' => e = .returned (.tuple #[]) ∧ Own w' (regC p (r.drop now) :: F) ∧ Ext w w' := by
  obtain ⟨lv, o⟩ := regC_open o
  have c0 := o.cell (i := 0) (v := lv) rfl
  have hp := o.lt
  have oH := hid o
  clear o
  go_enter Try.func32, Try.ntmps32
  go_wp2_with fail
  have o2 := Own.swap ((oH.out.alloc (.cells #[.int .u64 now] 23)).pick 2)
  refine (deleteFunc_c (D := [_]) _ _ _ lv r.l (drop_tells w.heap.size now) _ (Own.swap o2)).mono ?_
  rintro e w1 ⟨v', rfl, o3, e3⟩
  obtain ⟨A1, n1, c1, rfl⟩ := sl_shape o3
  have o4 := Own.pick 2 o3
  have d0 := o4.cell (i := 0) (v := lv) rfl
  have f0 := o4.free 0
  have o4H := hid o4
  clear o4 o3 o2
  go_wp2
  go_end0
  refine ⟨rfl, ?_, (((Ext.refl _).alloc _).trans e3).set _ _⟩
  have o5 := (o4H.out.set (i := 0) (.slice A1 n1 c1)).swap.pick 2
  refine regC_close (lv := .slice A1 n1 c1) ?_
  simpa [Reg.drop] using (o5.drop).swap

theorem find_none {r : Reg} {id : Int} (h : r.find id = none) : idxI (fun x => x.id == id) r.l = -1 := by
  unfold Reg.find at h; simp [idxI, h]
theorem find_some {r : Reg} {id : Int} {k : Nat} (h : r.find id = some k) : idxI (fun x => x.id == id) r.l = k ∧ ∃ x, r.l[k]? = some x ∧ x.id = id := by
  unfold Reg.find at h
  refine ⟨by simp [idxI, h], ?_⟩
  rw [List.findIdx?_eq_some_iff_getElem] at h
  obtain ⟨hk, hp, _⟩ := h
  exact ⟨r.l[k], List.getElem?_eq_getElem hk, by simpa using hp⟩
theorem sl_get {w : World} {F : List Chunk} {T : TypeId} {v : Value} {xs : List Lease} (o : Own w (sl T leaseE v xs :: F)) {k : Nat} {x : Lease} (hx : xs[k]? = some x) :
    ∃ g cap, v = .slice (some ⟨g, 0, none⟩) xs.length cap ∧ g < w.heap.size ∧ k < xs.length ∧ xs.length ≤ cap ∧ cap ≤ maxLen ∧
      w.cell? ⟨g, k * 3, none⟩ = some (.int .u64 x.id) ∧ w.cell? ⟨g, k * 3 + 1, none⟩ = some (.int .u64 x.time) ∧ w.cell? ⟨g, k * 3 + 2, none⟩ = some (.int .u64 x.until_) ∧
      w.frozen? ⟨g, k * 3, none⟩ = false ∧ w.frozen? ⟨g, k * 3 + 1, none⟩ = false ∧ w.frozen? ⟨g, k * 3 + 2, none⟩ = false := by
  have hk := (List.getElem?_eq_some_iff.1 hx).1
  rcases sl_form o with ⟨_, rfl⟩ | ⟨g, cap, rfl, hn, hc⟩
  · simp at hk
  · have h := sl_at o hx
    have h0 := h 0 _ rfl
    have h1 := h 1 _ rfl
    have h2 := h 2 _ rfl
    exact ⟨g, cap, rfl, World.block_lt_of_cell? w _ h0.1, hk, hn, hc, h0.1, h1.1, h2.1, h0.2, h1.2, h2.2⟩

theorem check_c (p : Nat) (id now : Int) (r : Reg) (w : World) (F : List Chunk) (o : Own w (regC p r :: F)) :
    Calls Try.prog 29 #[.pointer (some ⟨p, 0, none⟩), .int .u64 id, .int .u64 now] w fun e w' => e = .returned (.tuple #[.int .u64 (r.check id now).1, .int .i64 (r.check id now).2]) ∧ Own w' (regC p r :: F) ∧ Ext w w' := by
  have hf := find_c p id r w F o
  clear o
  cases hfd : r.find id with
  | none =>
    rw [find_none hfd] at hf
    have hR : r.check id now = (0, 10) := by simp [Reg.check, hfd]
    rw [hR]
    have hfH := hid hf
    clear hf hfd hR
    go_enter Try.func29, Try.ntmps29
    go_wp2_with fail
    refine hfH.out.mono ?_
    rintro e w1 ⟨rfl, o1, e1⟩
    go_wp2
    go_ret2
    exact ⟨rfl, o1, e1⟩
  | some k =>
    obtain ⟨hi, x, hx, _⟩ := find_some hfd
    rw [hi] at hf
    have hg : r.l.getD k ⟨0, 0, 0⟩ = x := by simp [List.getD, hx]
    have hR : r.check id now = if livesB now x = false then (0, 25) else (x.time, 0) := by simp [Reg.check, hfd, hx]
    rw [hR]
    have hfH := hid hf
    have hxH := hid hx
    have hl : now < x.until_ ∨ ¬ now < x.until_ := Decidable.em _
    clear hf hfd hR hg hx hi
    have hRT : now < x.until_ → Hid ((if livesB now x = false then ((0 : Int), (25 : Int)) else (x.time, 0)) = (x.time, 0)) := fun h => hid (by simp [livesB, h])
    have hRF : ¬ now < x.until_ → Hid ((if livesB now x = false then ((0 : Int), (25 : Int)) else (x.time, 0)) = (0, 25)) := fun h => hid (by simp [livesB, h])
    generalize (if livesB now x = false then ((0 : Int), (25 : Int)) else (x.time, 0)) = R at *
    rcases hl with hl | hl
    all_goals
      first | (have HR := hRT hl; have hd : decide (now < x.until_) = true := by simpa using hl) | (have HR := hRF hl; have hd : decide (now < x.until_) = false := by simpa using hl)
      obtain rfl := HR.out
      clear HR hRT hRF
      go_enter Try.func29, Try.ntmps29
      go_wp2_with fail
      refine hfH.out.mono ?_
      rintro e w1 ⟨rfl, o1, e1⟩
      obtain ⟨lv, o2⟩ := regC_open o1
      have c0 := o2.cell (i := 0) (v := lv) rfl
      have hp := o2.lt
      obtain ⟨g, cap, rfl, hgl, hk, hn, hc, d0, d1, d2, f0, f1, f2⟩ := sl_get o2.swap hxH.out
      have o1H := hid o1
      clear o1 o2 f0 f1 f2 hc
      go_wp2
      go_ret2
      refine ⟨rfl, ?_, ?_⟩
      · have := o1H.out; (repeat (first | assumption | apply Own.allocd | apply Own.drew))
      · (repeat (first | assumption | apply Ext.alloc | apply Ext.drew))

end Go.Proofs.Ytkgflckfphecjaa
