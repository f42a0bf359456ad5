/- The names of logs' files, without the program. -/
import Derived.Lib.ItoaNum
import Derived.Lib.ParseIntBCases
import Derived.Lib.Strings
set_option linter.all false
namespace Go.Scree
open Go.Lib

theorem parse_app : ∀ (l : List UInt8) (acc : Nat) (c : UInt8), parseUint10 acc (l ++ [c]) = match parseUint10 acc l with | .ok v => parseUint10 v [c] | e => e
  | [], acc, c => by simp [parseUint10]
  | x :: l, acc, c => by
    simp only [List.cons_append]
    rw [parseUint10, parseUint10]
    split
    · split
      · rfl
      · split
        · rfl
        · exact parse_app l _ c
    · rfl
theorem parse_digit {v k : Nat} (hk : k < 10) (h : v * 10 + k < 18446744073709551616) : parseUint10 v [UInt8.ofNat (48 + k)] = .ok (v * 10 + k) := by
  have e : (UInt8.ofNat (48 + k)).toNat = 48 + k := by rw [UInt8.toNat_ofNat']; omega
  rw [parseUint10, e, if_pos (by omega), if_neg (by omega), if_neg (by omega)]
  rw [parseUint10]
  congr 1
  omega
theorem parse_dec (u : Nat) (h : u < 18446744073709551616) : parseUint10 0 (decDigits u) = .ok u := by
  induction u using Nat.strongRecOn with
  | ind u ih =>
    rw [decDigits]
    split
    · rename_i h10
      have := parse_digit (v := 0) h10 (by omega)
      simpa using this
    · rename_i h10
      rw [parse_app, ih (u / 10) (by omega) (by omega)]
      dsimp only
      rw [parse_digit (Nat.mod_lt _ (by omega)) (by omega)]
      congr 1
      omega
theorem dec_digit {k : Nat} (h : k < 10) : decDigits k = [UInt8.ofNat (48 + k)] := by rw [decDigits, dif_pos h]
theorem dec_more {k : Nat} (h : ¬ k < 10) : decDigits k = decDigits (k / 10) ++ [UInt8.ofNat (48 + k % 10)] := by rw [decDigits, dif_neg h]
theorem dec_pos (u : Nat) : decDigits u ≠ [] := by
  rw [decDigits]; split <;> simp
theorem parseB_dec {u : Nat} (h : u < 18446744073709551616) : parseUintB 64 (decDigits u) = .ok u := by
  rw [parseUintB, if_neg (dec_pos u)]
  show parseUintM 18446744073709551615 0 _ = _
  rw [parseUintM_64, parse_dec u h]
theorem parseB_lt {l : List UInt8} {u : Nat} (h : parseUintB 64 l = .ok u) : u < 18446744073709551616 := by
  have := parseUintB_le h
  omega
theorem dec_inj {a b : Nat} (ha : a < 18446744073709551616) (hb : b < 18446744073709551616) (h : decDigits a = decDigits b) : a = b := by
  have h1 := parse_dec a ha
  rw [h, parse_dec b hb] at h1
  injection h1 with h1
  exact h1.symm
theorem dec_len {u : Nat} (h : u < 18446744073709551616) : (decDigits u).length ≤ 20 := by
  rw [decDigits_length]
  by_cases hu : u = 0
  · subst hu; rw [nDigits_small (by omega)]; omega
  · have := numDigits_eq u (by omega) h
    split at this <;> omega

def walPre : List UInt8 := [119, 97, 108, 46]
def walName (n : Nat) : ByteArray := if 1099511627776 < n then ⟨#[]⟩ else ⟨(walPre ++ decDigits n).toArray⟩
/-- The number that a name says. -/
def walNumber (s : ByteArray) : Option Nat :=
  match parseUintB 64 (trimPrefix s.data.toList walPre) with
  | .ok u => if hasPrefix s.data.toList walPre = true ∧ walName u = s then some u else none
  | _ => none
theorem walName_size (n : Nat) : (walName n).size ≤ 24 := by
  unfold walName
  split
  · simp [ByteArray.size]
  · rename_i h
    have := dec_len (u := n) (by omega)
    show (walPre ++ decDigits n).toArray.size ≤ 24
    rw [List.size_toArray, List.length_append]
    show 4 + _ ≤ _
    omega
theorem walName_list {n : Nat} (h : n ≤ 1099511627776) : (walName n).data.toList = walPre ++ decDigits n := by
  unfold walName
  rw [if_neg (by omega)]
theorem pre_app (l : List UInt8) : hasPrefix (walPre ++ l) walPre = true ∧ trimPrefix (walPre ++ l) walPre = l := by
  have h : hasPrefix (walPre ++ l) walPre = true := by simp [hasPrefix, walPre]
  refine ⟨h, ?_⟩
  unfold trimPrefix
  rw [if_pos h]
  rfl
theorem walNumber_name {n : Nat} (h : n ≤ 1099511627776) : walNumber (walName n) = some n := by
  unfold walNumber
  rw [walName_list h, (pre_app _).1, (pre_app _).2, parseB_dec (by omega)]
  simp
theorem walNumber_empty : walNumber ⟨#[]⟩ = none := by
  unfold walNumber
  have : hasPrefix (⟨#[]⟩ : ByteArray).data.toList walPre = false := rfl
  rw [this]
  split <;> simp
theorem walNumber_some {s : ByteArray} {n : Nat} (h : walNumber s = some n) : walName n = s ∧ n ≤ 1099511627776 := by
  have h0 := h
  unfold walNumber at h
  split at h
  · rename_i u hu
    split at h
    · rename_i hc
      injection h with h
      subst h
      refine ⟨hc.2, ?_⟩
      by_cases hn : u ≤ 1099511627776
      · exact hn
      · have e : walName u = ⟨#[]⟩ := by unfold walName; rw [if_pos (by omega)]
        rw [← hc.2, e, walNumber_empty] at h0
        cases h0
    · cases h
  · cases h
theorem walName_inj {a b : Nat} (ha : a ≤ 1099511627776) (hb : b ≤ 1099511627776) (h : walName a = walName b) : a = b := by
  have h1 := walNumber_name ha
  rw [h, walNumber_name hb] at h1
  injection h1 with h1
  exact h1.symm
end Go.Scree
