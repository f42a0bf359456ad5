/- A registry of leases that may be told and read back. -/
import Derived.Test.YtkgflckfphecjaaSnapQ
import Derived.Test.YtkgflckfphecjaaRefG
namespace Go.Scree
open Go.Proofs.Ytkgflckfphecjaa

structure Reg.Full (r : Reg) : Prop where
  ok : r.Ok
  each : ∀ x ∈ r.l, 0 < x.id ∧ 0 < x.time ∧ x.time ≤ 1099511627776 ∧ 0 ≤ x.until_ ∧ x.until_ ≤ 1099511627776
  safe : r.safe ≤ 1099511627776

theorem Reg.Full.new : Reg.new.Full := ⟨Reg.Ok.new, by simp [Reg.new], by simp [Reg.new]⟩
theorem Reg.Full.drop {r : Reg} (h : r.Full) (d : Int) : (r.drop d).Full := ⟨h.ok.drop d, fun x hx => h.each x (List.mem_filter.1 hx).1, h.safe⟩
theorem Reg.Full.register {r : Reg} (h : r.Full) (t lease c : Int) (hc : 0 ≤ c) : (r.register t lease c).1.Full := by
  refine ⟨h.ok.register t lease c, ?_, ?_⟩
  · unfold Reg.register
    split
    · exact h.each
    rename_i h1
    split
    · exact h.each
    split
    · exact (h.drop c).each
    intro x hx
    rcases List.mem_append.1 hx with hx | hx
    · exact (h.drop c).each x hx
    · obtain rfl := List.mem_singleton.1 hx
      have ht : timeB t = true := by cases e : timeB t <;> simp_all
      have hu : untilB lease c = true := by cases e : untilB lease c <;> simp_all
      simp only [timeB, untilB, Bool.and_eq_true, decide_eq_true_eq] at ht hu
      have hn := h.ok.n0
      refine ⟨?_, ht.1, ht.2, ?_, ?_⟩
      · show 0 < r.next; omega
      · show 0 ≤ c + lease; omega
      · show c + lease ≤ 1099511627776; omega
  · unfold Reg.register
    split
    · exact h.safe
    split
    · exact h.safe
    split
    · exact h.safe
    exact h.safe
theorem Reg.Full.renew {r : Reg} (h : r.Full) (id lease c : Int) (hc : 0 ≤ c) : (r.renew id lease c).1.Full := by
  refine ⟨h.ok.renew id lease c, ?_, ?_⟩
  · unfold Reg.renew
    cases hf : r.find id with
    | none => exact h.each
    | some k =>
      obtain ⟨hk, hid⟩ := find_get hf
      have hg : r.l.getD k ⟨0, 0, 0⟩ = r.l[k] := by simp [List.getD, hk]
      dsimp only
      rw [hg]
      split
      · exact h.each
      split
      · exact h.each
      rename_i hu
      have hu : untilB lease c = true := by cases e : untilB lease c <;> simp_all
      simp only [timeB, untilB, Bool.and_eq_true, decide_eq_true_eq] at hu
      intro x hx
      rcases List.mem_or_eq_of_mem_set hx with hx | rfl
      · exact h.each x hx
      · obtain ⟨a1, a2, a3, a4, a5⟩ := h.each r.l[k] (List.getElem_mem hk)
        refine ⟨a1, a2, a3, ?_, ?_⟩
        · show 0 ≤ max r.l[k].until_ (c + lease); omega
        · show max r.l[k].until_ (c + lease) ≤ 1099511627776; omega
  · unfold Reg.renew
    cases hf : r.find id with
    | none => exact h.safe
    | some k =>
      dsimp only
      split
      · exact h.safe
      split
      · exact h.safe
      exact h.safe
theorem Reg.Full.release {r : Reg} (h : r.Full) (id : Int) : (r.release id).1.Full := by
  refine ⟨h.ok.release id, ?_, ?_⟩
  · unfold Reg.release
    cases hf : r.find id with
    | none => exact h.each
    | some k => exact fun x hx => h.each x (List.mem_of_mem_eraseIdx hx)
  · unfold Reg.release
    cases hf : r.find id with
    | none => exact h.safe
    | some k => exact h.safe
theorem Reg.Full.advance {r : Reg} (h : r.Full) (want c : Int) : (r.advance want c).Full := by
  refine ⟨h.ok.advance want c, fun x hx => h.each x (List.mem_filter.1 hx).1, ?_⟩
  have h1 := (least_le (min want 1099511627776) (r.drop c).l).1
  have h2 := h.safe
  show max r.safe (least (min want 1099511627776) (r.drop c).l) ≤ 1099511627776
  omega

theorem Reg.Full.good {r : Reg} (h : r.Full) : loadGood r.l r.safe r.next = true := by
  have hn0 := h.ok.n0
  have hn1 := h.ok.n1
  refine loadGood_yes (leasesGood_yes h.ok.len ?_) h.safe ?_ ?_
  · intro j hj
    have hm : r.l.getD j ⟨0, 0, 0⟩ = r.l[j] := by simp [List.getD, hj]
    rw [hm]
    obtain ⟨a1, a2, a3, a4, a5⟩ := h.each r.l[j] (List.getElem_mem hj)
    have a6 := h.ok.lt r.l[j] (List.getElem_mem hj)
    simp only [leaseOk, timeB, Bool.and_eq_true, Bool.or_eq_true, decide_eq_true_eq, beq_iff_eq]
    refine ⟨⟨a1, by omega⟩, ⟨a2, a3⟩, a5, ?_⟩
    by_cases h0 : j = 0
    · exact .inl h0
    · right
      have hj1 : j - 1 < r.l.length := by omega
      have e : r.l.getD (j - 1) ⟨0, 0, 0⟩ = r.l[j - 1] := by simp [List.getD, hj1]
      rw [e]
      exact List.pairwise_iff_getElem.1 h.ok.ids (j - 1) j hj1 hj (by omega)
  · simp only [timeB, Bool.and_eq_true, decide_eq_true_eq]; omega
  · intro j x hj hx
    exact h.ok.lt x (List.mem_of_getElem? hx)
theorem Reg.Full.nn {r : Reg} (h : r.Full) : ∀ x ∈ r.l, 0 ≤ x.until_ := fun x hx => (h.each x hx).2.2.2.1
end Go.Scree
