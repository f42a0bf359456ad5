/- Short bytes read back; frames: as plain lists. -/
import Derived.Test.YtdmdnhceiddcfaaGreatNumM
set_option linter.all false
namespace Go.Scree

/-- What num.Take reads, i bytes having made n. -/
def takeN : List UInt8 → Nat → Nat → Option (Nat × List UInt8)
  | [], _, _ => none
  | c :: r, i, n =>
    if 10 ≤ i ∨ 18446744073709551616 ≤ c.toNat % 128 * 2 ^ (7 * i) then none
    else if c.toNat < 128 then (if c.toNat = 0 ∧ 0 < i then none else some (n + c.toNat % 128 * 2 ^ (7 * i), r))
    else takeN r (i + 1) (n + c.toNat % 128 * 2 ^ (7 * i))
theorem takeN_rest : ∀ {l : List UInt8} {i n m : Nat} {r : List UInt8}, takeN l i n = some (m, r) → ∃ h, l = h ++ r ∧ 0 < h.length
  | [], _, _, _, _, h => by simp [takeN] at h
  | c :: l, i, n, m, r, h => by
    unfold takeN at h
    split at h
    · cases h
    · split at h
      · split at h
        · cases h
        · simp only [Option.some.injEq, Prod.mk.injEq] at h
          exact ⟨[c], by rw [← h.2]; rfl, by simp⟩
      · obtain ⟨h', e, _⟩ := takeN_rest h
        exact ⟨c :: h', by rw [e]; rfl, by simp⟩
theorem pow_split (i : Nat) : 2 ^ (7 * (i + 1)) = 128 * 2 ^ (7 * i) := by rw [Nat.mul_add, Nat.pow_add]; omega
/-- What was made short is read back. -/
theorem takeN_short : ∀ (k : Nat) (v : Nat) (i n : Nat) (r : List UInt8), v ≤ k → v * 2 ^ (7 * i) < 18446744073709551616 → (v = 0 → i = 0) → takeN (shortB v ++ r) i n = some (n + v * 2 ^ (7 * i), r)
  | k, v, i, n, r, hk, hv, h0 => by
    have hp : 0 < 2 ^ (7 * i) := Nat.two_pow_pos _
    have hi : i < 10 := by
      rcases Nat.lt_or_ge i 10 with h | h
      · exact h
      · have h1 : 2 ^ (7 * 10) ≤ 2 ^ (7 * i) := Nat.pow_le_pow_right (by omega) (by omega)
        have h2 : 0 < v := by
          rcases Nat.eq_zero_or_pos v with e | e
          · have := h0 e; omega
          · exact e
        have h3 : 1 * 2 ^ (7 * i) ≤ v * 2 ^ (7 * i) := Nat.mul_le_mul_right _ h2
        have h4 : (2 : Nat) ^ (7 * 10) = 1180591620717411303424 := by decide
        omega
    by_cases hlow : v < 128
    · rw [shortB_low hlow]
      have e : (UInt8.ofNat v).toNat = v := by simp; omega
      simp only [List.cons_append, List.nil_append, takeN, e]
      rw [Nat.mod_eq_of_lt hlow]
      rw [if_neg (by omega), if_pos hlow, if_neg (by omega)]
    · rw [shortB_high hlow]
      have e : (UInt8.ofNat (v % 128 + 128)).toNat = v % 128 + 128 := by simp; omega
      have e2 : (v % 128 + 128) % 128 = v % 128 := by omega
      have hd : v = 128 * (v / 128) + v % 128 := (Nat.div_add_mod v 128).symm
      have hm : v * 2 ^ (7 * i) = v / 128 * 2 ^ (7 * (i + 1)) + v % 128 * 2 ^ (7 * i) := by
        rw [pow_split]
        conv => lhs; rw [hd]
        rw [Nat.add_mul]
        congr 1
        rw [Nat.mul_comm 128, Nat.mul_assoc]
      simp only [List.cons_append, takeN, e, e2]
      rw [if_neg (by omega), if_neg (by omega)]
      cases k with
      | zero => omega
      | succ k =>
        rw [takeN_short k (v / 128) (i + 1) _ r (by omega) (by omega) (by omega)]
        rw [hm]
        congr 2; omega
theorem take_short {v : Nat} (h : v < 18446744073709551616) (r : List UInt8) : takeN (shortB v ++ r) 0 0 = some (v, r) := by
  have := takeN_short v v 0 0 r (Nat.le_refl _) (by simpa using h) (fun _ => rfl)
  simpa using this
/-- A beginning of short bytes says nothing. -/
theorem takeN_cut : ∀ (k : Nat) (v : Nat) (i n : Nat) (p : List UInt8), v ≤ k → p.length < (shortB v).length → p = (shortB v).take p.length → takeN p i n = none
  | _, _, _, _, [], _, _, _ => rfl
  | k, v, i, n, c :: p, hk, hl, hp => by
    by_cases hlow : v < 128
    · rw [shortB_low hlow] at hl
      simp at hl
    · rw [shortB_high hlow] at hl hp
      simp only [List.length_cons, List.take_succ_cons, List.cons.injEq] at hl hp
      obtain ⟨rfl, hp⟩ := hp
      have e : (UInt8.ofNat (v % 128 + 128)).toNat = v % 128 + 128 := by simp; omega
      unfold takeN
      split
      · rfl
      · rw [if_neg (by rw [e]; omega)]
        cases k with
        | zero => omega
        | succ k => exact takeN_cut k (v / 128) (i + 1) _ p (by omega) (by omega) hp
end Go.Scree
