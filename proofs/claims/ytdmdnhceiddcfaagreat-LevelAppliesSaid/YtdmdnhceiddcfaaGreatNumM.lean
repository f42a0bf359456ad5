/- Short bytes of a number, as plain lists. -/
set_option linter.all false
namespace Go.Scree

/-- A number's short bytes. -/
def shortB (n : Nat) : List UInt8 := if n < 128 then [UInt8.ofNat n] else UInt8.ofNat (n % 128 + 128) :: shortB (n / 128)
termination_by n
decreasing_by omega

theorem shortB_low {n : Nat} (h : n < 128) : shortB n = [UInt8.ofNat n] := by rw [shortB, if_pos h]
theorem shortB_high {n : Nat} (h : ¬ n < 128) : shortB n = UInt8.ofNat (n % 128 + 128) :: shortB (n / 128) := by rw [shortB, if_neg h]

theorem shortB_len (m : Nat) : ∀ n, n < 128 ^ (m + 1) → (shortB n).length ≤ m + 1 := by
  induction m with
  | zero => intro n h; rw [shortB_low (by simpa using h)]; simp
  | succ m ih =>
    intro n h
    by_cases hn : n < 128
    · rw [shortB_low hn]; simp
    · rw [shortB_high hn]
      have := ih (n / 128) (by rw [Nat.div_lt_iff_lt_mul (by omega)]; rw [Nat.pow_succ] at h; exact h)
      simp only [List.length_cons]; omega
theorem shortB_le {n : Nat} (h : n < 18446744073709551616) : (shortB n).length ≤ 10 := shortB_len 9 n (Nat.lt_trans h (by decide))
theorem shortB_pos (n : Nat) : 0 < (shortB n).length := by
  by_cases h : n < 128
  · rw [shortB_low h]; simp
  · rw [shortB_high h]; simp

end Go.Scree
