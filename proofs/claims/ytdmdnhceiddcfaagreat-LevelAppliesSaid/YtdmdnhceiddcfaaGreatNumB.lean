/- The walk of num.Take. -/
import Derived.Test.YtdmdnhceiddcfaaGreatProg
import Derived.Test.YtdmdnhceiddcfaaGreatNumT
import Derived.Test.YtdmdnhceiddcfaaGreatSld
import Derived.WalkKit
import Derived.LoopTactic
import Derived.Lib.VarintBits
import Derived.Lib.Strings
import Derived.Laws.BitsAllLaws
import Derived.Deep.QuietTactic
import Derived.BigQuiet
import Derived.IntWalk
set_option linter.all false
namespace Go.Proofs.YtdmdnhceiddcfaaGreat
open Go.RowKit Go.Sl Go.Scree

def takeV (r : Option (Nat × List UInt8)) : Value :=
  match r with
  | none => .tuple #[.int .u64 0, .string ⟨#[]⟩, .bool false]
  | some (n, l) => .tuple #[.int .u64 n, .string ⟨l.toArray⟩, .bool true]
theorem extract_from' (s : ByteArray) (k : Nat) : s.extract k s.size = ⟨(s.data.toList.drop k).toArray⟩ := by
  have h : (s.extract k s.size).data.toList = s.data.toList.drop k := by rw [Lib.extract_data]; exact List.take_of_length_le (by rw [List.length_drop, Array.length_toList]; exact Nat.le_refl _)
  cases he : s.extract k s.size with
  | mk d => rw [he] at h; congr 1; exact Array.toList_inj.1 h
theorem takeN_cons (c : UInt8) (r : List UInt8) (i n : Nat) : takeN (c :: r) i n = if 10 ≤ i ∨ 18446744073709551616 ≤ c.toNat % 128 * 2 ^ (7 * i) then none else if c.toNat < 128 then (if c.toNat = 0 ∧ 0 < i then none else some (n + c.toNat % 128 * 2 ^ (7 * i), r)) else takeN r (i + 1) (n + c.toNat % 128 * 2 ^ (7 * i)) := rfl
theorem size_list' (b : ByteArray) : b.data.toList.length = b.size := by rw [Array.length_toList]; rfl
theorem andNot128_all : ∀ m : Fin 256, bits BinOp.andNot IntKind.u64 (m.val : Int) 128 = ((m.val % 128 : Nat) : Int) := by decide +kernel
theorem andNot128 {c : Nat} (h : c < 256) : bits BinOp.andNot IntKind.u64 (c : Int) 128 = ((c % 128 : Nat) : Int) := andNot128_all ⟨c, h⟩
theorem wrap_shl (low k : Nat) : IntKind.u64.wrap ((low : Int) * 2 ^ (7 * k)) = ((low * 2 ^ (7 * k) % 18446744073709551616 : Nat) : Int) := by
  have e : ((low : Int) * 2 ^ (7 * k)) = ((low * 2 ^ (7 * k) : Nat) : Int) := by push_cast; rfl
  rw [e]
  simp only [IntKind.wrap, IntKind.bits, IntKind.signed]
  simp
theorem over_ne {low k : Nat} (h : 18446744073709551616 ≤ low * 2 ^ (7 * k)) : low * 2 ^ (7 * k) % 18446744073709551616 / 2 ^ (7 * k) ≠ low := by
  have hp : 0 < 2 ^ (7 * k) := Nat.two_pow_pos _
  intro e
  have h1 : low * 2 ^ (7 * k) % 18446744073709551616 < 18446744073709551616 := Nat.mod_lt _ (by omega)
  have h2 := Nat.div_mul_le_self (low * 2 ^ (7 * k) % 18446744073709551616) (2 ^ (7 * k))
  rw [e] at h2
  omega
theorem or_sum {m low k : Nat} (hm : m < 2 ^ (7 * k)) (hv : low * 2 ^ (7 * k) < 18446744073709551616) (hk : k ≤ 9) : bits BinOp.or IntKind.u64 (m : Int) ((low * 2 ^ (7 * k) : Nat) : Int) = ((m + low * 2 ^ (7 * k) : Nat) : Int) := by
  have h63 : 2 ^ (7 * k) ≤ 2 ^ 63 := Nat.pow_le_pow_right (by omega) (by omega)
  have e63 : (2 : Nat) ^ 63 = 9223372036854775808 := by decide
  rw [u64_or_nat m _ (by omega) hv]
  congr 1
  rw [Nat.mul_comm, Nat.or_comm, ← Nat.two_pow_add_eq_or_of_lt hm, Nat.add_comm]
set_option maxRecDepth 20000 in
set_option maxHeartbeats 6400000 in
theorem ntake_c (s : ByteArray) (w : World) (F : List Chunk) (o : Own w F) (hs : s.size ≤ maxLen) :
    Calls Tryz.prog 60 #[.string s] w fun e w' => e = .returned (takeV (takeN s.data.toList 0 0)) ∧ Own w' F ∧ Ext w w' := by
  unfold maxLen at hs
  have oH := hid o
  clear o
  go_enter Tryz.func60, Tryz.ntmps60
  go_wp2
  go_loopw [5, 12] (fun n i wr => ∃ (k m : Nat), k ≤ s.size ∧ k ≤ 10 ∧ i = .int .i64 k ∧ n = .int .u64 m ∧ m < 2 ^ (7 * k) ∧ takeN s.data.toList 0 0 = takeN (s.data.toList.drop k) k m ∧ Own wr F ∧ Ext w wr) (fun _ i _ => s.size - (intOf i).toNat)
  case atStart => exact ⟨0, 0, Nat.zero_le _, Nat.zero_le _, rfl, rfl, by simp, rfl, oH.out, Ext.refl _⟩
  case round =>
    obtain ⟨k, m, hk, hk10, rfl, rfl, hm, ht, ok, ek⟩ := hrel
    have okH := hid ok
    have htH := hid ht
    have hmH := hid hm
    clear ok ht hm
    by_cases hlt : k < s.size
    · have hdrop : s.data.toList.drop k = s[k] :: s.data.toList.drop (k + 1) := List.drop_eq_getElem_cons (by simpa using hlt)
      have hc256 : s[k].toNat < 256 := s[k].toNat_lt
      have ht2 := htH.out
      rw [hdrop] at ht2
      clear htH hdrop
      obtain ⟨cb, hcb⟩ : ∃ c : UInt8, s[k] = c := ⟨_, rfl⟩
      rw [hcb] at ht2 hc256
      obtain ⟨c, hc⟩ : ∃ c : Nat, cb.toNat = c := ⟨_, rfl⟩
      have hcw : IntKind.u64.wrap (s[k].toNat : Int) = (c : Int) := by rw [hcb, hc]; exact Go.IntWalk.u64_in _ (by omega)
      rw [hc] at hc256
      have ha := andNot128 hc256
      rw [takeN_cons, hc] at ht2
      obtain ⟨low, hlow⟩ : ∃ l : Nat, c % 128 = l := ⟨_, rfl⟩
      rw [hlow] at ha ht2
      have hl128 : low < 128 := by omega
      have hcl : c < 128 → low = c := by omega
      have hclH := hid hcl
      by_cases h9 : k ≤ 9
      · have h7a : (0 : Int) ≤ 7 * (k : Int) := by omega
        have h7b : 7 * (k : Int) ≤ 64 := by omega
        have h7c : ¬ (64 : Int) ≤ 7 * (k : Int) := by omega
        have h7d : (7 * (k : Int)).toNat = 7 * k := by omega
        have hsh := wrap_shl low k
        obtain ⟨v, hv⟩ : ∃ v : Nat, low * 2 ^ (7 * k) % 18446744073709551616 = v := ⟨_, rfl⟩
        rw [hv] at hsh
        obtain ⟨u, hu⟩ : ∃ u : Nat, v / 2 ^ (7 * k) = u := ⟨_, rfl⟩
        have hsr : ((v : Int) / 2 ^ (7 * k)) = (u : Int) := by rw [← hu]; push_cast; rfl
        by_cases hov : 18446744073709551616 ≤ low * 2 ^ (7 * k)
        · have hne : u ≠ low := by rw [← hu, ← hv]; exact over_ne hov
          have q1 : ((u : Int) != (low : Int)) = true := by rw [bne_iff_ne]; omega
          have q2 : (u != low) = true := by rw [bne_iff_ne]; exact hne
          rw [if_pos (.inr hov)] at ht2
          have htH := hid ht2
          clear ht2 hov hv hu hne hcl hlow hc hcb
          go_wp2_with fail
          go_ret3
          rw [htH.out]
          exact ⟨rfl, okH.out, ek⟩
        · have hve : v = low * 2 ^ (7 * k) := by rw [← hv]; exact Nat.mod_eq_of_lt (by omega)
          have hue : u = low := by rw [← hu, hve]; exact Nat.mul_div_cancel _ (Nat.two_pow_pos _)
          obtain ⟨z, hz⟩ : ∃ z : Nat, m + low * 2 ^ (7 * k) = z := ⟨_, rfl⟩
          have hor : bits BinOp.or IntKind.u64 (m : Int) (v : Int) = (z : Int) := by rw [hve, ← hz]; exact or_sum hmH.out (by omega) h9
          rw [hz, if_neg (by omega)] at ht2
          have hzb : z < 2 ^ (7 * (k + 1)) := by
            rw [← hz, pow_split]
            have h1 := hmH.out
            have h2 : low * 2 ^ (7 * k) ≤ 127 * 2 ^ (7 * k) := Nat.mul_le_mul_right _ (by omega)
            omega
          have hzbH := hid hzb
          subst hue
          have htH := hid ht2
          clear ht2 hov hv hu hve hz hzb hcl hlow hc hcb
          by_cases h128 : c < 128
          · have hc1 : decide ((c : Int) < 128) = true := decide_eq_true (by omega)
            have htt := htH.out
            rw [if_pos h128] at htt
            clear htH
            by_cases hc0 : c = 0 ∧ 0 < k
            · have r1 : ((c : Int) == 0) = true := by rw [beq_iff_eq]; omega
              have r2 : decide ((0 : Int) < (k : Int)) = true := decide_eq_true (by omega)
              have r3 : 0 < k := hc0.2
              rw [if_pos hc0] at htt
              have htH := hid htt
              clear htt hc0
              go_wp2_with fail
              go_ret3
              rw [htH.out]
              exact ⟨rfl, okH.out, ek⟩
            · rw [if_neg hc0] at htt
              have htH := hid htt
              have hk1 : IntKind.i64.wrap ((k : Int) + 1) = (k : Int) + 1 := Go.IntWalk.i64_in _ (by omega)
              have hk2 : ((k : Int) + 1).toNat = k + 1 := by omega
              have hk3 : (0 : Int) ≤ (k : Int) + 1 := by omega
              have hk4 : (k : Int) + 1 ≤ (s.size : Int) := by omega
              have hex := hid (extract_from' s (k + 1))
              clear htt
              by_cases hcz : c = 0
              · have r1 : ((c : Int) == 0) = true := by rw [beq_iff_eq]; omega
                have r3 : ¬ 0 < k := fun h => hc0 ⟨hcz, h⟩
                have r2 : decide ((0 : Int) < (k : Int)) = false := decide_eq_false (by omega)
                clear hc0 hcz
                go_wp2_with fail
                go_quiet (fail)
                clear hk1 hk2
                go_wp2
                go_ret3
                rw [htH.out, hex.out]
                exact ⟨rfl, okH.out.drewN _, ek.drewN _⟩
              · have r1 : ((c : Int) == 0) = false := by rw [beq_eq_false_iff_ne]; omega
                clear hc0 hcz
                go_wp2_with fail
                go_quiet (fail)
                clear hk1 hk2
                go_wp2
                go_ret3
                rw [htH.out, hex.out]
                exact ⟨rfl, okH.out.drewN _, ek.drewN _⟩
          · have hc1 : decide ((c : Int) < 128) = false := decide_eq_false (by omega)
            have htt := htH.out
            rw [if_neg h128] at htt
            have htH2 := hid htt
            clear htt htH
            go_wp2_with fail
            go_roundw
            case rel => exact ⟨k + 1, z, by omega, by omega, by go_num, rfl, hzbH.out, htH2.out, okH.out, ek⟩
            case measure => simp only [intOf]; omega
      · have hk10' : k = 10 := by omega
        have h7c : (64 : Int) ≤ 7 * (k : Int) := by omega
        rw [if_pos (.inl (by omega))] at ht2
        have htH := hid ht2
        clear ht2 hcl hlow hc hcb hk10' h9
        go_wp2_with fail
        go_ret3
        rw [htH.out]
        exact ⟨rfl, okH.out, ek⟩
    · have hnil : s.data.toList.drop k = [] := List.drop_eq_nil_of_le (by rw [size_list']; omega)
      have ht2 := htH.out
      rw [hnil] at ht2
      have htH2 := hid ht2
      clear ht2 hnil htH
      go_wp2
      go_ret3
      rw [htH2.out]
      exact ⟨rfl, okH.out, ek⟩
end Go.Proofs.YtdmdnhceiddcfaaGreat
