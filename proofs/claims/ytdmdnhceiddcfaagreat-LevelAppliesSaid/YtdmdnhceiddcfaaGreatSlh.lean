/- Parts of a slice that is read. -/
import Derived.Test.YtdmdnhceiddcfaaGreatSle
set_option linter.all false
namespace Go.Sl
open Go.RowKit
theorem rd_take {α : Type} {E : Enc α} {w : World} {A : Option Addr} {n c : Nat} {xs : List α} (h : Rd w E (.slice A n c) xs) (k : Nat) (hk : k ≤ n) : Rd w E (.slice A k c) (xs.take k) := by
  rcases h with ⟨⟨A', cap, hv, hc⟩, rfl⟩ | ⟨g, off, cap, hv, h1, h2, hc⟩
  · simp only [Value.slice.injEq] at hv
    obtain ⟨rfl, rfl, rfl⟩ := hv
    obtain rfl : k = 0 := by omega
    exact .inl ⟨⟨_, _, rfl, hc⟩, by simp⟩
  · simp only [Value.slice.injEq] at hv
    obtain ⟨rfl, rfl, rfl⟩ := hv
    refine .inr ⟨g, off, c, by rw [List.length_take, Nat.min_eq_left hk], by rw [List.length_take]; omega, h2, fun i x hx j u hu => ?_⟩
    rw [List.getElem?_take] at hx
    split at hx
    · exact hc i x hx j u hu
    · cases hx
theorem rd_drop {α : Type} {E : Enc α} {w : World} {g off : Nat} {n c : Nat} {xs : List α} (h : Rd w E (.slice (some ⟨g, off, none⟩) n c) xs) (k : Nat) (hk : k ≤ n) : Rd w E (.slice (some ⟨g, off + k * E.size, none⟩) (n - k) (c - k)) (xs.drop k) := by
  rcases h with ⟨⟨A', cap, hv, hc⟩, rfl⟩ | ⟨g', off', cap, hv, h1, h2, hc⟩
  · simp only [Value.slice.injEq] at hv
    obtain ⟨_, rfl, rfl⟩ := hv
    exact .inl ⟨⟨_, _, by rw [Nat.zero_sub], by omega⟩, by simp⟩
  · simp only [Value.slice.injEq, Option.some.injEq, Addr.mk.injEq] at hv
    obtain ⟨⟨rfl, rfl, _⟩, rfl, rfl⟩ := hv
    refine .inr ⟨g, off + k * E.size, c - k, by rw [List.length_drop], by rw [List.length_drop]; omega, by omega, fun i x hx j u hu => ?_⟩
    rw [List.getElem?_drop] at hx
    have := hc (k + i) x hx j u hu
    rwa [show off + (k + i) * E.size + j = off + k * E.size + i * E.size + j from by rw [Nat.add_mul]; omega] at this
theorem rd_gone {α : Type} {E : Enc α} {w : World} {A : Option Addr} {c : Nat} (h : c ≤ maxLen) : Rd w E (.slice A 0 c) ([] : List α) := .inl ⟨⟨A, c, rfl, h⟩, rfl⟩

end Go.Sl
