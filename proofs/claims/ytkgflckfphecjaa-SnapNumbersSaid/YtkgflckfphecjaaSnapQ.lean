/- What stays true of a registry of leases at any clock. -/
import Derived.Test.YtkgflckfphecjaaSnapP
namespace Go.Scree

structure Reg.Ok (r : Reg) : Prop where
  ids : r.l.Pairwise (fun a b => a.id < b.id)
  lt : ∀ x ∈ r.l, x.id < r.next
  n0 : 1 ≤ r.next
  n1 : r.next ≤ 1099511627776
  len : r.l.length ≤ 5

theorem Reg.Ok.new : Reg.new.Ok := ⟨by simp [Reg.new], by simp [Reg.new], by simp [Reg.new], by simp [Reg.new], by simp [Reg.new]⟩
theorem Reg.Ok.drop {r : Reg} (h : r.Ok) (d : Int) : (r.drop d).Ok :=
  ⟨h.ids.filter _, fun x hx => h.lt x (List.mem_filter.1 hx).1, h.n0, h.n1, Nat.le_trans (List.length_filter_le _ _) h.len⟩
theorem Reg.Ok.register {r : Reg} (h : r.Ok) (t lease c : Int) : (r.register t lease c).1.Ok := by
  unfold Reg.register
  split
  · exact h
  rename_i h1
  split
  · exact h
  split
  · exact h.drop c
  rename_i h3
  have hd := h.drop c
  have hn : r.next ≠ 1099511627776 := fun e => h1 (.inr (.inr e))
  refine ⟨?_, ?_, ?_, ?_, ?_⟩
  · rw [List.pairwise_append]
    refine ⟨hd.ids, by simp, fun a ha b hb => ?_⟩
    obtain rfl := List.mem_singleton.1 hb
    exact hd.lt a ha
  · intro x hx
    rcases List.mem_append.1 hx with hx | hx
    · have := hd.lt x hx; show x.id < r.next + 1; simp only [Reg.drop] at this; omega
    · obtain rfl := List.mem_singleton.1 hx
      show r.next < r.next + 1; omega
  · have := h.n0; show 1 ≤ r.next + 1; omega
  · have := h.n1; show r.next + 1 ≤ 1099511627776; omega
  · have := hd.len; simp only [List.length_append, List.length_singleton]; omega
theorem Reg.Ok.renew {r : Reg} (h : r.Ok) (id lease c : Int) : (r.renew id lease c).1.Ok := by
  unfold Reg.renew
  cases hf : r.find id with
  | none => exact h
  | some k =>
    obtain ⟨hk, hid⟩ := find_get hf
    have hg : r.l.getD k ⟨0, 0, 0⟩ = r.l[k] := by simp [List.getD, hk]
    dsimp only
    rw [hg]
    split
    · exact h
    split
    · exact h
    refine ⟨pairwise_set hk rfl h.ids, ?_, h.n0, h.n1, by simpa using h.len⟩
    intro x hx
    rcases List.mem_or_eq_of_mem_set hx with hx | rfl
    · exact h.lt x hx
    · exact h.lt r.l[k] (List.getElem_mem hk)
theorem Reg.Ok.release {r : Reg} (h : r.Ok) (id : Int) : (r.release id).1.Ok := by
  unfold Reg.release
  cases hf : r.find id with
  | none => exact h
  | some k =>
    have hs : (r.l.eraseIdx k).Sublist r.l := List.eraseIdx_sublist _ _
    exact ⟨h.ids.sublist hs, fun x hx => h.lt x (hs.subset hx), h.n0, h.n1, Nat.le_trans hs.length_le h.len⟩
theorem Reg.Ok.advance {r : Reg} (h : r.Ok) (want c : Int) : (r.advance want c).Ok :=
  let hd := h.drop c
  ⟨hd.ids, hd.lt, hd.n0, hd.n1, hd.len⟩
theorem Reg.Ok.find {r : Reg} (h : r.Ok) {k : Nat} {x : Lease} (hx : r.l[k]? = some x) : r.find x.id = some k := by
  obtain ⟨hk, rfl⟩ := List.getElem?_eq_some_iff.1 hx
  unfold Reg.find
  rw [List.findIdx?_eq_some_iff_getElem]
  refine ⟨hk, by simp, fun j hj => ?_⟩
  have := (List.pairwise_iff_getElem.1 h.ids) j k (by omega) hk hj
  simp; omega

def Reg.step3 (r : Reg) (a : SAct) : Reg :=
  if a.kind = 0 then (r.register a.t a.lease a.now).1
  else if a.kind = 2 then (r.release a.t).1
  else if a.kind = 3 then r.advance a.t a.now
  else r
theorem Reg.Ok.step3 {r : Reg} (h : r.Ok) (a : SAct) : (r.step3 a).Ok := by
  unfold Reg.step3
  split
  · exact h.register _ _ _
  split
  · exact h.release _
  split
  · exact h.advance _ _
  · exact h

/-- What renewing does, entry by entry. -/
def renewed (e id lease now : Int) (x : Lease) : Lease := if e = 0 ∧ x.id = id then { x with until_ := max x.until_ (now + lease) } else x
theorem renew_numbers (r : Reg) (id lease now : Int) : (r.renew id lease now).1.safe = r.safe ∧ (r.renew id lease now).1.next = r.next ∧ (r.renew id lease now).1.l.length = r.l.length := by
  unfold Reg.renew
  cases r.find id with
  | none => simp
  | some k =>
    dsimp only
    split
    · simp
    split <;> simp
theorem renew_error (r : Reg) (id lease now : Int) : (r.check id now).2 = 0 ∨ (r.renew id lease now).2 = (r.check id now).2 := by
  unfold Reg.renew Reg.check
  cases r.find id with
  | none => simp
  | some k =>
    dsimp only
    split
    · simp
    · simp
theorem renew_until (r : Reg) (id lease now : Int) (h : (r.renew id lease now).2 = 0) : untilB lease now = true := by
  unfold Reg.renew at h
  cases hf : r.find id with
  | none => rw [hf] at h; simp at h
  | some k =>
    rw [hf] at h
    dsimp only at h
    split at h
    · simp at h
    split at h
    · simp at h
    · rename_i h2; simpa using h2
theorem renew_entry {r : Reg} (hr : r.Ok) (id lease now : Int) {i : Nat} {x : Lease} (hx : r.l[i]? = some x) : (r.renew id lease now).1.l[i]? = some (renewed (r.renew id lease now).2 id lease now x) := by
  unfold Reg.renew renewed
  cases hf : r.find id with
  | none => simp [hx]
  | some k =>
    obtain ⟨hk, hid⟩ := find_get hf
    have hg : r.l.getD k ⟨0, 0, 0⟩ = r.l[k] := by simp [List.getD, hk]
    simp only [hg]
    by_cases h1 : livesB now r.l[k] = false
    · simp [h1, hx]
    by_cases h2 : untilB lease now = false
    · simp [h1, h2, hx]
    · rw [if_neg h1, if_neg h2]
      dsimp only
      obtain ⟨hi, rfl⟩ := List.getElem?_eq_some_iff.1 hx
      rw [List.getElem?_set]
      by_cases hki : k = i
      · subst hki
        simp [hid, hi]
      · have hne : r.l[i].id ≠ id := by
          intro e
          have h1 := hr.find hx
          rw [e] at h1
          rw [hf] at h1
          exact hki (by simpa using h1)
        rw [if_neg hki, if_neg (by simp [hne])]
        exact hx

theorem filter_again (now : Int) (l : List Lease) : (l.filter (livesB now)).filter (livesB now) = l.filter (livesB now) := by
  rw [List.filter_filter]; simp
theorem advance_again (r : Reg) (want now : Int) : ((r.advance want now).advance want now).safe = (r.advance want now).safe := by
  simp only [Reg.advance, Reg.drop, filter_again]
  omega
theorem advance_says (r : Reg) (want now : Int) : (r.advance want now).safe = max r.safe (least (min want 1099511627776) (r.l.filter (livesB now))) := rfl
/-- The four ways of registering. -/
def RoomSays (r : Reg) (t lease now : Int) (o : Reg × Int × Int) : Prop :=
  (o.2.2 = 0 ∧ (r.l.filter (livesB now)).length < 5 ∧ o.1.l.filter (livesB now) = r.l.filter (livesB now) ++ [⟨o.2.1, t, now + lease⟩] ∧ r.safe ≤ t ∧ untilB lease now = true) ∨
  (o.2.2 = 4 ∧ (r.l.filter (livesB now)).length = 5 ∧ o.1.l.filter (livesB now) = r.l.filter (livesB now) ∧ o.2.1 = 0) ∨ (o.2.2 = 26 ∧ t < r.safe ∧ o.2.1 = 0) ∨ (o.2.2 = 3 ∧ o.2.1 = 0 ∧ o.1.l.filter (livesB now) = r.l.filter (livesB now))
theorem register_room (r : Reg) (t lease now : Int) : RoomSays r t lease now (r.register t lease now) ∨ 5 < r.l.length := by
  by_cases hlen : 5 < r.l.length
  · exact .inr hlen
  refine .inl ?_
  have h5 : (r.l.filter (livesB now)).length ≤ 5 := Nat.le_trans (List.length_filter_le _ _) (by omega)
  by_cases h1 : timeB t = false ∨ untilB lease now = false ∨ r.next = 1099511627776
  · have e : r.register t lease now = (r, 0, 3) := by simp [Reg.register, h1]
    rw [e]; exact Or.inr (Or.inr (Or.inr ⟨rfl, rfl, rfl⟩))
  by_cases h2 : t < r.safe
  · have e : r.register t lease now = (r, 0, 26) := by simp [Reg.register, h1, h2]
    rw [e]; exact Or.inr (Or.inr (Or.inl ⟨rfl, h2, rfl⟩))
  by_cases h3 : (r.drop now).l.length = 5
  · have e : r.register t lease now = (r.drop now, 0, 4) := by simp only [Reg.register, h1, h2, h3, if_false, if_true]
    rw [e]; exact Or.inr (Or.inl ⟨rfl, h3, filter_again now r.l, rfl⟩)
  · have e : r.register t lease now = ({ r.drop now with l := (r.drop now).l ++ [⟨r.next, t, now + lease⟩], next := r.next + 1 }, r.next, 0) := by simp only [Reg.register, h1, h2, h3, if_false]
    have hu : untilB lease now = true := by
      cases hu : untilB lease now
      · exact absurd (.inr (.inl hu)) h1
      · rfl
    rw [e]
    refine Or.inl ⟨rfl, ?_, ?_, by omega, hu⟩
    · have : (r.drop now).l = r.l.filter (livesB now) := rfl
      rw [this] at h3; omega
    · show ((r.drop now).l ++ ([⟨r.next, t, now + lease⟩] : List Lease)).filter (livesB now) = _
      have hl : livesB now ⟨r.next, t, now + lease⟩ = true := by
        simp only [untilB, timeB, Bool.and_eq_true, decide_eq_true_eq] at hu
        simp only [livesB, decide_eq_true_eq]; omega
      rw [List.filter_append]
      simp only [Reg.drop, filter_again, List.filter_cons, hl, if_true, List.filter_nil]
end Go.Scree
