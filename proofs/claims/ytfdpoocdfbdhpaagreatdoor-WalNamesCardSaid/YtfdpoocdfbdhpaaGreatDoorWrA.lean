/- The walks of the document's Digits, Name (screeref06). -/
import Derived.Test.YtfdpoocdfbdhpaaGreatDoorWalA
import Derived.Test.YtfdpoocdfbdhpaaGreatDoorSld
import Derived.RegionCalls
import Derived.Deep.RegionHeld3
import Derived.IntWalk
set_option linter.all false
namespace Go.Proofs.YtfdpoocdfbdhpaaGreatDoor
open Go.RowKit Go.Sl Go.Scree
open Go.Lib hiding hid

theorem conv1 {W : World} {b : Nat} {x : Int} {c : UInt8} (hc : (c.toNat : Int) = x) (h : W.cell? ⟨b, 0, none⟩ = some (.int .u8 x)) : (convert 94 9 (.slice (some ⟨b, 0, none⟩) 1 1)).run Tryz.prog W = .ok (.string ⟨[c].toArray⟩) W := by
  refine run_bytes_str 94 9 5 Tryz.underlying94 Tryz.underlying5 Tryz.underlying9 ?_
  refine .inr ⟨b, 0, 1, rfl, by simp, by simp [maxLen], fun i y hy j u hu => ?_⟩
  cases i with
  | succ i => simp at hy
  | zero =>
    obtain rfl := Option.some.inj hy
    cases j with
    | succ j => simp [byteE] at hu
    | zero =>
      obtain rfl := Option.some.inj hu
      show W.cell? ⟨b, 0, none⟩ = _
      rw [h, hc]
theorem dig_byte (k : Nat) (h : k < 10) : ∃ (c : UInt8) (s : ByteArray), c = UInt8.ofNat (48 + k) ∧ (c.toNat : Int) = 48 + (k : Int) ∧ s = ⟨[c].toArray⟩ ∧ s.size = 1 := by
  refine ⟨_, _, rfl, ?_, rfl, rfl⟩
  have e : (UInt8.ofNat (48 + k)).toNat = 48 + k := by rw [UInt8.toNat_ofNat']; omega
  rw [e]; simp
theorem bs_snoc (l : List UInt8) (c : UInt8) : (⟨l.toArray⟩ ++ ⟨[c].toArray⟩ : ByteArray) = ⟨(l ++ [c]).toArray⟩ := by
  have h : (⟨l.toArray⟩ ++ ⟨[c].toArray⟩ : ByteArray).data = l.toArray ++ [c].toArray := ByteArray.data_append
  cases hb : (⟨l.toArray⟩ ++ ⟨[c].toArray⟩ : ByteArray) with
  | mk d =>
    rw [hb] at h
    dsimp only at h
    subst h
    congr 1
    apply Array.toList_inj.1
    simp
theorem cellA (W : World) (v : Value) (T : TypeId) : (W.alloc (.cells #[v] T (0, 0))).cell? ⟨W.heap.size, 0, none⟩ = some v := by simp
set_option maxRecDepth 20000 in
set_option maxHeartbeats 3200000 in
theorem digits_c (n : Nat) : n < 18446744073709551616 → ∀ w : World, Calls Tryz.prog 46 #[.int .u64 n] w fun e w' => e = .returned (.string ⟨(decDigits n).toArray⟩) ∧ Kp w w' := by
  induction n using Nat.strongRecOn with
  | ind n ih =>
    intro hn w
    obtain ⟨c, cs, hc1, hc2, hcs, hcz⟩ := dig_byte (n % 10) (Nat.mod_lt _ (by omega))
    have hcv : ∀ W b, W.cell? ⟨b, 0, none⟩ = some (.int .u8 (48 + ((n % 10 : Nat) : Int))) → (convert 94 9 (.slice (some ⟨b, 0, none⟩) 1 1)).run Tryz.prog W = .ok (.string cs) W := by
      intro W b hW; rw [hcs]; exact conv1 hc2 hW
    by_cases h : n < 10
    · have hd : Hid (⟨(decDigits n).toArray⟩ = cs) := hid (by rw [hcs, hc1, dec_digit h, Nat.mod_eq_of_lt h])
      have hm : n % 10 = n := Nat.mod_eq_of_lt h
      rw [hm] at hcv
      have hcv1 := hcv (w.alloc (.cells #[.int .u8 (48 + (n : Int))] 5 (0, 0))) w.heap.size (by simp)
      have hi : (n : Int) < 10 := by omega
      clear hcv hc1 hc2 hcs hm ih
      rw [hd.out]
      go_enter Tryz.func46, Tryz.ntmps46
      go_wp2
      go_ret
      exact ⟨rfl, (Kp.refl w).alloc _⟩
    · have hl : Hid ((decDigits (n / 10)).length ≤ 20) := hid (dec_len (by omega))
      have hq := hid (ih (n / 10) (by omega) (by omega))
      obtain ⟨sb, hsb⟩ : ∃ z : ByteArray, (⟨(decDigits (n / 10)).toArray⟩ : ByteArray) = z := ⟨_, rfl⟩
      have hd : Hid (⟨(decDigits n).toArray⟩ = sb ++ cs) := hid (by rw [hcs, hc1, dec_more h, ← hsb, bs_snoc])
      have hz2 : (sb.size : Int) ≤ 20 := by
        rw [← hsb]
        have := hl.out
        show ((decDigits (n / 10)).toArray.size : Int) ≤ _
        rw [List.size_toArray]; omega
      have hz3 : (cs.size : Int) = 1 := by omega
      have hz4 : ¬ 9223372036854775807 < sb.size + cs.size := by omega
      have hz5 : sb.size + cs.size ≤ 9223372036854775807 := by omega
      have hz6 : ¬ (9223372036854775807 : Int) < (sb.size : Int) + (cs.size : Int) := by omega
      rw [hsb] at hq
      have hi : ¬ (n : Int) < 10 := by omega
      have hdv0 : (n : Int) / 10 = ((n / 10 : Nat) : Int) := by omega
      have hdv : IntKind.u64.wrap (((n / 10 : Nat) : Int)) = ((n / 10 : Nat) : Int) := Go.IntWalk.u64_in _ (by omega)
      have hdv1 : IntKind.u64.wrap ((n : Int) / 10) = ((n / 10 : Nat) : Int) := by rw [hdv0, hdv]
      have hmd : (n : Int) % 10 = ((n % 10 : Nat) : Int) := by omega
      have hk10 : n % 10 < 10 := Nat.mod_lt _ (by omega)
      have htm : (n : Int).tmod 10 = ((n % 10 : Nat) : Int) := by rw [Int.tmod_eq_emod_of_nonneg (by omega)]; omega
      have hw3 : IntKind.u8.wrap (48 + ((n % 10 : Nat) : Int)) = 48 + ((n % 10 : Nat) : Int) := by simp only [IntKind.wrap, IntKind.bits, IntKind.signed]; simp; omega
      have hw1 : IntKind.u64.wrap (48 + ((n % 10 : Nat) : Int)) = 48 + ((n % 10 : Nat) : Int) := Go.IntWalk.u64_in _ (by omega)
      have hw2 : (48 + ((n % 10 : Nat) : Int)) % 256 = 48 + ((n % 10 : Nat) : Int) := by omega
      generalize n % 10 = k at *
      generalize n / 10 = m at *
      rw [hd.out]
      clear hd ih h hc1 hc2 hcs hsb hl hcz
      go_enter Tryz.func46, Tryz.ntmps46
      go_wp2_with fail
      have hcv0 := hcv (w.drew.alloc (.cells #[.int .u8 (48 + (k : Int))] 5 (0, 0))) w.heap.size (cellA w.drew _ _)
      go_region_law (first | (go_simp; go_at_call 46; refine (hq.out _).mono ?_; rintro e w1 ⟨rfl, k1⟩; have k1H := Go.Sl.hid k1; have hcv1 := hcv (w1.alloc (.cells #[.int .u8 (48 + (k : Int))] 5 (0, 0))) w1.heap.size (cellA w1 _ _); (try have hcv2 := hcv w1 w.heap.size (k1.cell (cellA w.drew (.int .u8 (48 + (k : Int))) 5)))))
      all_goals
        (try go_wp2)
        go_ret
        refine ⟨rfl, ?_⟩
        first | exact (((Kp.refl w).drew).trans k1H.out).alloc _ | exact (((Kp.refl w).drew).alloc _).trans k1H.out
end Go.Proofs.YtfdpoocdfbdhpaaGreatDoor
