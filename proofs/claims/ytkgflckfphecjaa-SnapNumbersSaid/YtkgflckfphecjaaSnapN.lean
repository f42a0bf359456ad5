/- Numbers of leases: plain laws. -/
import Derived.Test.YtkgflckfphecjaaSnapQ
namespace Go.Scree

/-- Numbers that are used up: below the next one, and no lease has them. -/
def Apart (g : Int → Prop) (r : Reg) : Prop := ∀ x, g x → x < r.next ∧ ∀ y ∈ r.l, y.id ≠ x

theorem Apart.drop {g : Int → Prop} {r : Reg} (h : Apart g r) (d : Int) : Apart g (r.drop d) := fun x hx => ⟨(h x hx).1, fun y hy => (h x hx).2 y (List.mem_filter.1 hy).1⟩
theorem Apart.register {g : Int → Prop} {r : Reg} (h : Apart g r) (t lease c : Int) : Apart g (r.register t lease c).1 := by
  unfold Reg.register
  split
  · exact h
  split
  · exact h
  split
  · exact h.drop c
  intro x hx
  obtain ⟨h1, h2⟩ := h x hx
  refine ⟨by show x < r.next + 1; omega, fun y hy => ?_⟩
  rcases List.mem_append.1 hy with hy | hy
  · exact (h.drop c x hx).2 y hy
  · obtain rfl := List.mem_singleton.1 hy
    show r.next ≠ x; omega
theorem Apart.renew {g : Int → Prop} {r : Reg} (h : Apart g r) (id lease c : Int) : Apart g (r.renew id lease c).1 := by
  unfold Reg.renew
  cases hf : r.find id with
  | none => exact h
  | some k =>
    obtain ⟨hk, hid⟩ := find_get hf
    have hg : r.l.getD k ⟨0, 0, 0⟩ = r.l[k] := by simp [List.getD, hk]
    dsimp only
    rw [hg]
    split
    · exact h
    split
    · exact h
    intro x hx
    refine ⟨(h x hx).1, fun y hy => ?_⟩
    rcases List.mem_or_eq_of_mem_set hy with hy | rfl
    · exact (h x hx).2 y hy
    · exact (h x hx).2 r.l[k] (List.getElem_mem hk)
theorem Apart.release {g : Int → Prop} {r : Reg} (h : Apart g r) (id : Int) : Apart g (r.release id).1 := by
  unfold Reg.release
  cases hf : r.find id with
  | none => exact h
  | some k => exact fun x hx => ⟨(h x hx).1, fun y hy => (h x hx).2 y (List.mem_of_mem_eraseIdx hy)⟩
theorem Apart.advance {g : Int → Prop} {r : Reg} (h : Apart g r) (want c : Int) : Apart g (r.advance want c) := fun x hx => ⟨(h x hx).1, fun y hy => (h x hx).2 y (List.mem_filter.1 hy).1⟩
theorem apart_released {r : Reg} (ok : r.Ok) {id : Int} (h0 : (r.release id).2 = 0) : id < (r.release id).1.next ∧ ∀ y ∈ (r.release id).1.l, y.id ≠ id := by
  unfold Reg.release at h0 ⊢
  cases hf : r.find id with
  | none => rw [hf] at h0; simp at h0
  | some k =>
    obtain ⟨hk, hid⟩ := find_get hf
    refine ⟨by rw [← hid]; exact ok.lt _ (List.getElem_mem hk), ?_⟩
    intro y hy e
    rw [List.mem_eraseIdx_iff_getElem] at hy
    obtain ⟨i, hi, hne, rfl⟩ := hy
    have hp := List.pairwise_iff_getElem.1 ok.ids
    rcases Nat.lt_or_gt_of_ne hne with hlt | hgt
    · have := hp i k hi hk hlt; omega
    · have := hp k i hk hi hgt; omega
theorem Apart.released {g : Int → Prop} {r : Reg} (h : Apart g r) (ok : r.Ok) {id : Int} (h0 : (r.release id).2 = 0) : Apart (fun x => g x ∨ x = id) (r.release id).1 := by
  intro x hx
  rcases hx with hx | rfl
  · exact h.release id x hx
  · exact apart_released ok h0
theorem release_next (r : Reg) (id : Int) : (r.release id).1.next = r.next := by
  unfold Reg.release
  cases r.find id <;> rfl
theorem renew_next (r : Reg) (id lease c : Int) : (r.renew id lease c).1.next = r.next := by
  unfold Reg.renew
  cases r.find id with
  | none => rfl
  | some k =>
    dsimp only
    split
    · rfl
    split
    · rfl
    rfl
theorem check_none {r : Reg} {id c : Int} (h : ∀ y ∈ r.l, y.id ≠ id) : r.check id c = (0, 10) := by
  have hf : r.find id = none := by
    unfold Reg.find
    rw [List.findIdx?_eq_none_iff]
    intro y hy
    simpa using h y hy
  simp [Reg.check, hf]
theorem register_bad {r : Reg} {t lease c : Int} (h : (r.register t lease c).2.2 ≠ 0) : (r.register t lease c).2.1 = 0 ∧ (r.register t lease c).1.next = r.next := by
  unfold Reg.register at h ⊢
  split
  · exact ⟨rfl, rfl⟩
  split
  · exact ⟨rfl, rfl⟩
  split
  · exact ⟨rfl, rfl⟩
  rename_i h1 h2 h3
  rw [if_neg h1, if_neg h2, if_neg h3] at h
  exact absurd rfl h
theorem register_new {r : Reg} (ok : r.Ok) {t lease c : Int} (h : (r.register t lease c).2.2 = 0) : (r.register t lease c).2.1 = r.next ∧ (r.register t lease c).1.next = r.next + 1 ∧ (r.register t lease c).1.check r.next c = (t, 0) := by
  unfold Reg.register at h ⊢
  split
  · rename_i h1; rw [if_pos h1] at h; simp at h
  rename_i h1
  rw [if_neg h1] at h
  split
  · rename_i h2; rw [if_pos h2] at h; simp at h
  rename_i h2
  rw [if_neg h2] at h
  split
  · rename_i h3; rw [if_pos h3] at h; simp at h
  refine ⟨rfl, rfl, ?_⟩
  have hu : untilB lease c = true := by cases e : untilB lease c <;> simp_all
  simp only [timeB, untilB, Bool.and_eq_true, decide_eq_true_eq] at hu
  have hf : List.findIdx? (fun x : Lease => x.id == r.next) ((r.drop c).l ++ [⟨r.next, t, c + lease⟩]) = some (r.drop c).l.length := by
    rw [List.findIdx?_append]
    have hn : List.findIdx? (fun x : Lease => x.id == r.next) (r.drop c).l = none := by
      rw [List.findIdx?_eq_none_iff]
      intro y hy
      have := (ok.drop c).lt y hy
      have e : (r.drop c).next = r.next := rfl
      rw [e] at this
      simp; omega
    rw [hn]
    simp
  simp only [Reg.check, Reg.find, hf]
  have hg : ((r.drop c).l ++ [(⟨r.next, t, c + lease⟩ : Lease)]).getD (r.drop c).l.length ⟨0, 0, 0⟩ = ⟨r.next, t, c + lease⟩ := by simp [List.getD]
  rw [hg]
  have hl : livesB c ⟨r.next, t, c + lease⟩ = true := by simp [livesB]; omega
  rw [if_neg (by rw [hl]; simp)]
end Go.Scree
