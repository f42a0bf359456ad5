/- What stays true of a registry of leases, whatever is done. -/
import Derived.Test.YtkgflckfphecjaaSnapM
namespace Go.Scree

structure SAct where
  kind : Int
  t : Int
  lease : Int
  now : Int

def Reg.step (r : Reg) (a : SAct) (clock : Int) : Reg :=
  if a.kind = 0 then (r.register a.t a.lease clock).1
  else if a.kind = 1 then (r.renew a.t a.lease clock).1
  else if a.kind = 2 then (r.release a.t).1
  else if a.kind = 3 then r.advance a.t clock
  else r

structure Reg.Inv (r : Reg) (clock : Int) : Prop where
  ids : r.l.Pairwise (fun a b => a.id < b.id)
  lt : ∀ x ∈ r.l, x.id < r.next
  n0 : 1 ≤ r.next
  n1 : r.next ≤ 1099511627776
  len : r.l.length ≤ 5
  safe : ∀ x ∈ r.l, clock < x.until_ → r.safe ≤ x.time

theorem Reg.Inv.new (c : Int) : Reg.new.Inv c := ⟨by simp [Reg.new], by simp [Reg.new], by simp [Reg.new], by simp [Reg.new], by simp [Reg.new], by simp [Reg.new]⟩
theorem Reg.Inv.mono {r : Reg} {c d : Int} (h : r.Inv c) (hcd : c ≤ d) : r.Inv d := ⟨h.ids, h.lt, h.n0, h.n1, h.len, fun x hx hd => h.safe x hx (by omega)⟩
theorem Reg.Inv.drop {r : Reg} {c : Int} (h : r.Inv c) (d : Int) : (r.drop d).Inv c :=
  ⟨h.ids.filter _, fun x hx => h.lt x (List.mem_filter.1 hx).1, h.n0, h.n1, Nat.le_trans (List.length_filter_le _ _) h.len, fun x hx => h.safe x (List.mem_filter.1 hx).1⟩

theorem Reg.Inv.register {r : Reg} {c : Int} (h : r.Inv c) (t lease : Int) : (r.register t lease c).1.Inv c := by
  unfold Reg.register
  split
  · exact h
  rename_i h1
  split
  · exact h
  rename_i h2
  split
  · exact h.drop c
  rename_i h3
  have hd := h.drop c
  have hn : r.next ≠ 1099511627776 := fun e => h1 (.inr (.inr e))
  refine ⟨?_, ?_, ?_, ?_, ?_, ?_⟩
  · rw [List.pairwise_append]
    refine ⟨hd.ids, by simp, fun a ha b hb => ?_⟩
    obtain rfl := List.mem_singleton.1 hb
    exact hd.lt a ha
  · intro x hx
    rcases List.mem_append.1 hx with hx | hx
    · have := hd.lt x hx; show x.id < r.next + 1; simp only [Reg.drop] at this; omega
    · obtain rfl := List.mem_singleton.1 hx
      show r.next < r.next + 1; omega
  · have := h.n0; show 1 ≤ r.next + 1; omega
  · have := h.n1; show r.next + 1 ≤ 1099511627776; omega
  · have := hd.len; simp only [List.length_append, List.length_singleton]; omega
  · intro x hx hc
    rcases List.mem_append.1 hx with hx | hx
    · exact hd.safe x hx hc
    · obtain rfl := List.mem_singleton.1 hx
      show r.safe ≤ t; omega

theorem find_get {r : Reg} {id : Int} {k : Nat} (h : r.find id = some k) : ∃ hk : k < r.l.length, (r.l[k]).id = id := by
  unfold Reg.find at h
  rw [List.findIdx?_eq_some_iff_getElem] at h
  obtain ⟨hk, hp, _⟩ := h
  exact ⟨hk, by simpa using hp⟩

theorem pairwise_set {l : List Lease} {k : Nat} {y : Lease} (hk : k < l.length) (hy : y.id = (l[k]).id) (h : l.Pairwise (fun a b => a.id < b.id)) : (l.set k y).Pairwise (fun a b => a.id < b.id) := by
  have e : (l.set k y).map (·.id) = l.map (·.id) := by
    apply List.ext_getElem (by simp)
    intro i h1 h2
    simp only [List.getElem_map, List.getElem_set]
    split
    · rename_i e; subst e; exact hy
    · rfl
  have h2 : (l.map (·.id)).Pairwise (· < ·) := List.pairwise_map.2 h
  rw [← e] at h2
  exact List.pairwise_map.1 h2
theorem Reg.Inv.renew {r : Reg} {c : Int} (h : r.Inv c) (id lease : Int) : (r.renew id lease c).1.Inv c := by
  unfold Reg.renew
  cases hf : r.find id with
  | none => exact h
  | some k =>
    obtain ⟨hk, hid⟩ := find_get hf
    have hg : r.l.getD k ⟨0, 0, 0⟩ = r.l[k] := by simp [List.getD, hk]
    dsimp only
    rw [hg]
    split
    · exact h
    rename_i hl
    split
    · exact h
    refine ⟨pairwise_set hk rfl h.ids, ?_, h.n0, h.n1, by simpa using h.len, ?_⟩
    · intro x hx
      rcases List.mem_or_eq_of_mem_set hx with hx | rfl
      · exact h.lt x hx
      · exact h.lt r.l[k] (List.getElem_mem hk)
    · intro x hx hc
      rcases List.mem_or_eq_of_mem_set hx with hx | rfl
      · exact h.safe x hx hc
      · refine h.safe r.l[k] (List.getElem_mem hk) ?_
        simpa [livesB] using hl
theorem Reg.Inv.release {r : Reg} {c : Int} (h : r.Inv c) (id : Int) : (r.release id).1.Inv c := by
  unfold Reg.release
  cases hf : r.find id with
  | none => exact h
  | some k =>
    have hs : (r.l.eraseIdx k).Sublist r.l := List.eraseIdx_sublist _ _
    exact ⟨h.ids.sublist hs, fun x hx => h.lt x (hs.subset hx), h.n0, h.n1, Nat.le_trans hs.length_le h.len, fun x hx => h.safe x (hs.subset hx)⟩
theorem least_le (w : Int) (l : List Lease) : least w l ≤ w ∧ ∀ x ∈ l, least w l ≤ x.time := by
  unfold least
  induction l generalizing w with
  | nil => simp
  | cons y l ih =>
    obtain ⟨h1, h2⟩ := ih (min w y.time)
    refine ⟨by simp only [List.foldl_cons]; omega, fun x hx => ?_⟩
    rcases List.mem_cons.1 hx with rfl | hx
    · simp only [List.foldl_cons]; omega
    · exact h2 x hx
theorem Reg.Inv.advance {r : Reg} {c : Int} (h : r.Inv c) (want : Int) : (r.advance want c).Inv c := by
  have hd := h.drop c
  refine ⟨hd.ids, hd.lt, hd.n0, hd.n1, hd.len, fun x hx hc => ?_⟩
  have h1 := hd.safe x hx hc
  have h2 := (least_le (min want 1099511627776) (r.drop c).l).2 x hx
  show max r.safe _ ≤ x.time
  have h3 : (r.drop c).safe = r.safe := rfl
  omega
theorem Reg.Inv.step {r : Reg} {c : Int} (h : r.Inv c) (a : SAct) : (r.step a c).Inv c := by
  unfold Reg.step
  split
  · exact h.register _ _
  split
  · exact h.renew _ _
  split
  · exact h.release _
  split
  · exact h.advance _
  · exact h
theorem Reg.step_safe (r : Reg) (a : SAct) (c : Int) : r.safe ≤ (r.step a c).safe := by
  unfold Reg.step
  split
  · unfold Reg.register; repeat' split
    all_goals simp [Reg.drop]
  split
  · unfold Reg.renew
    cases r.find a.t with
    | none => simp
    | some k => dsimp only; split; · simp
                split <;> simp
  split
  · unfold Reg.release; repeat' split
    all_goals simp
  split
  · simp only [Reg.advance]; omega
  · simp

/-- A lease that is held is found by its number. -/
theorem Reg.Inv.find {r : Reg} {c : Int} (h : r.Inv c) {k : Nat} {x : Lease} (hx : r.l[k]? = some x) : r.find x.id = some k := by
  obtain ⟨hk, rfl⟩ := List.getElem?_eq_some_iff.1 hx
  unfold Reg.find
  rw [List.findIdx?_eq_some_iff_getElem]
  refine ⟨hk, by simp, fun j hj => ?_⟩
  have := (List.pairwise_iff_getElem.1 h.ids) j k (by omega) hk hj
  simp; omega
theorem Reg.Inv.tells {r : Reg} {c : Int} (h : r.Inv c) {x : Lease} (hx : x ∈ r.l.filter (livesB c)) : r.safe ≤ x.time ∧ r.reads x.time c = 0 ∧ r.check x.id c = (x.time, 0) := by
  obtain ⟨hm, hl⟩ := List.mem_filter.1 hx
  have hs : r.safe ≤ x.time := h.safe x hm (by simpa [livesB] using hl)
  refine ⟨hs, by simp [Reg.reads, hs], ?_⟩
  obtain ⟨k, hk⟩ := List.getElem?_of_mem hm
  simp [Reg.check, h.find hk, hk, hl]
end Go.Scree
