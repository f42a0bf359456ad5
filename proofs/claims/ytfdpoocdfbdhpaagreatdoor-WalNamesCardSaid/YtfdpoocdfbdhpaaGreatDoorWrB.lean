/- The walks of the document's Name, Numbered, Number (logs' names). -/
import Derived.Test.YtfdpoocdfbdhpaaGreatDoorWrA
import Derived.Test.YtfdpoocdfbdhpaaGreatDoorWalE
import Derived.IntWalk
set_option linter.all false
namespace Go.Proofs.YtfdpoocdfbdhpaaGreatDoor
open Go.RowKit Go.Sl Go.Scree
open Go.Lib hiding hid

def digP : List UInt8 → Nat → Option Nat
  | [], n => some n
  | c :: r, n => if c.toNat < 48 ∨ 57 < c.toNat then none else digP r (n * 10 + (c.toNat - 48))
theorem digP_cons (c : UInt8) (r : List UInt8) (n : Nat) : digP (c :: r) n = if c.toNat < 48 ∨ 57 < c.toNat then none else digP r (n * 10 + (c.toNat - 48)) := rfl
/-- The number behind a beginning of a name. -/
def rnumP (pre s : ByteArray) : Option Nat :=
  if s.size ≤ pre.size ∨ pre.size + 13 < s.size ∨ s.extract 0 pre.size ≠ pre then none
  else match digP (s.data.toList.drop pre.size) 0 with
    | none => none
    | some n => if 1099511627776 < n ∨ pre ++ ⟨(decDigits n).toArray⟩ ≠ s then none else some n
theorem digP_app : ∀ (a b : List UInt8) (n m : Nat), digP a n = some m → digP (a ++ b) n = digP b m
  | [], b, n, m, h => by cases h; rfl
  | c :: a, b, n, m, h => by
    rw [digP_cons] at h
    rw [List.cons_append, digP_cons]
    split at h
    · cases h
    · rename_i hc
      rw [if_neg hc]
      exact digP_app a b _ m h
theorem digP_dec (n : Nat) : digP (decDigits n) 0 = some n := by
  induction n using Nat.strongRecOn with
  | ind n ih =>
    by_cases h : n < 10
    · rw [dec_digit h, digP_cons]
      have e : (UInt8.ofNat (48 + n)).toNat = 48 + n := by rw [UInt8.toNat_ofNat']; omega
      rw [e, if_neg (by omega)]
      show some _ = some _
      congr 1; omega
    · rw [dec_more h, digP_app _ _ 0 (n / 10) (ih (n / 10) (by omega)), digP_cons]
      have e : (UInt8.ofNat (48 + n % 10)).toNat = 48 + n % 10 := by rw [UInt8.toNat_ofNat']; omega
      rw [e, if_neg (by omega)]
      show some _ = some _
      congr 1; omega
theorem dec_len13 : ∀ (k n : Nat), n < 10 ^ (k + 1) → (decDigits n).length ≤ k + 1
  | 0, n, h => by rw [dec_digit (by simpa using h)]; simp
  | k + 1, n, h => by
    by_cases hn : n < 10
    · rw [dec_digit hn]; simp
    · rw [dec_more hn, List.length_append]
      have := dec_len13 k (n / 10) (by rw [Nat.div_lt_iff_lt_mul (by omega)]; rw [Nat.pow_succ] at h; exact h)
      simp; omega
theorem dec_lpos (n : Nat) : 0 < (decDigits n).length := List.length_pos_iff.2 (dec_pos n)
theorem cat_assoc (a : ByteArray) (l : List UInt8) : (a ++ ⟨l.toArray⟩ : ByteArray).data.toList = a.data.toList ++ l := by
  have h : (a ++ ⟨l.toArray⟩ : ByteArray).data = a.data ++ l.toArray := ByteArray.data_append
  rw [h]; simp
theorem or3 (a b : Prop) [Decidable a] [Decidable b] (c : Prop) [Decidable c] : a ∨ ¬ a ∧ b ∨ ¬ a ∧ ¬ b ∧ c ∨ ¬ a ∧ ¬ b ∧ ¬ c := by
  by_cases a <;> by_cases b <;> by_cases c <;> simp [*]
theorem two_ways (p : Prop) [Decidable p] : p ∨ ¬ p := by by_cases h : p; exact .inl h; exact .inr h
theorem extract_pre (s : ByteArray) (k : Nat) : (s.extract 0 k).data.toList = s.data.toList.take k := by rw [Lib.extract_data]; simp
set_option maxRecDepth 20000 in
set_option maxHeartbeats 6400000 in
theorem numbered_c (s pre : ByteArray) (hs : s.size ≤ 100) (hp : pre.size ≤ 100) (w : World) :
    Calls Tryz.prog 44 #[.string s, .string pre] w fun e w' => e = .returned (numV (rnumP pre s)) ∧ Kp w w' := by
  have hr : Hid (rnumP pre s = if s.size ≤ pre.size ∨ pre.size + 13 < s.size ∨ s.extract 0 pre.size ≠ pre then none
    else match digP (s.data.toList.drop pre.size) 0 with
    | none => none
    | some n => if 1099511627776 < n ∨ pre ++ ⟨(decDigits n).toArray⟩ ≠ s then none else some n) := hid rfl
  generalize rnumP pre s = res at *
  have hdg := hid digits_c
  have hw13 : IntKind.i64.wrap ((pre.size : Int) + 13) = (pre.size : Int) + 13 := Go.IntWalk.i64_in _ (by omega)
  have hno : Hid (∀ w', Kp w w' → res = none → Ending.returned (.tuple #[.int .u64 0, .bool false]) = Ending.returned (numV res) ∧ Kp w w') := hid (fun w' k h => by subst h; exact ⟨rfl, k⟩)
  rcases or3 (s.size ≤ pre.size) (pre.size + 13 < s.size) (s.extract 0 pre.size = pre) with h1 | ⟨h1, h2⟩ | ⟨h1, h2, h3⟩ | ⟨h1, h2, h3⟩
  · have hz := hid (hno.out w (Kp.refl w) (by rw [hr.out, if_pos (.inl h1)]))
    have d1 : decide (s.size ≤ pre.size) = true := decide_eq_true (by omega)
    go_enter Tryz.func44, Tryz.ntmps44
    go_wp2_with fail
    go_ret2
    exact hz.out
  · have hz := hid (hno.out w (Kp.refl w) (by rw [hr.out, if_pos (.inr (.inl h2))]))
    have d1 : decide (s.size ≤ pre.size) = false := decide_eq_false (by omega)
    have d2 : decide ((s.size : Int) > (pre.size : Int) + 13) = true := decide_eq_true (by omega)
    go_enter Tryz.func44, Tryz.ntmps44
    go_wp2_with fail
    go_ret2
    exact hz.out
  · have hr2 := hid (hr.out.trans (if_neg (by rintro (h | h | h); exact h1 h; exact h2 h; exact h h3)))
    have d1 : decide (s.size ≤ pre.size) = false := decide_eq_false (by omega)
    have d2 : decide ((s.size : Int) > (pre.size : Int) + 13) = false := decide_eq_false (by omega)
    have d3 : ((s.extract 0 pre.size).toList == pre.toList) = true := by rw [h3]; exact beq_self_eq_true _
    have hle : (pre.size : Int) ≤ (s.size : Int) := by omega
    have hle2 : pre.size ≤ s.size := by omega
    have hle3 : pre.size < s.size := by omega
    have h12 := hid (And.intro h1 h2)
    clear h1 h2 h3 hr
    go_enter Tryz.func44, Tryz.ntmps44
    go_wp2_with fail
    clear d1 d2 d3 hw13
    go_loopw [4, 5, 7, 8] (fun _ _ n i wr => ∃ (k m : Nat), i = .int .i64 k ∧ n = .int .u64 m ∧ pre.size ≤ k ∧ k ≤ s.size ∧ m < 10 ^ (k - pre.size) ∧ digP (s.data.toList.drop pre.size) 0 = digP (s.data.toList.drop k) m ∧ Kp w wr) (fun _ _ _ i _ => s.size - (intOf i).toNat)
    case atStart => exact ⟨pre.size, 0, rfl, rfl, Nat.le_refl _, by omega, by simp, rfl, Kp.refl _⟩
    case round =>
      obtain ⟨k, m, rfl, rfl, hk1, hk2, hm, hd, kr⟩ := hrel
      have krH := hid kr
      have hmH := hid hm
      clear kr hm
      by_cases hlt : k < s.size
      · have hlt' : (k : Int) < (s.size : Int) := by omega
        have hdrop : s.data.toList.drop k = s[k] :: s.data.toList.drop (k + 1) := List.drop_eq_getElem_cons (by simpa using hlt)
        have hc256 : s[k].toNat < 256 := s[k].toNat_lt
        rw [hdrop, digP_cons] at hd
        clear hdrop
        obtain ⟨c, hc⟩ : ∃ c : Nat, s[k].toNat = c := ⟨_, rfl⟩
        rw [hc] at hd hc256
        have hcv : (s[k].toNat : Int) = (c : Int) := by rw [hc]
        by_cases hbad : c < 48 ∨ 57 < c
        · rw [if_pos hbad] at hd
          have hz := hid (hno.out wr krH.out (by rw [hr2.out, hd]))
          have hdd : decide ((c : Int) < 48) = true ∨ decide ((c : Int) < 48) = false ∧ decide ((c : Int) > 57) = true := by
            simp only [decide_eq_true_eq, decide_eq_false_iff_not]; omega
          clear hd hbad hc
          rcases hdd with e1 | ⟨e1, e2⟩
          · go_wp2_with fail
            go_ret2
            exact hz.out
          · go_wp2_with fail
            go_ret2
            exact hz.out
        · rw [if_neg hbad] at hd
          have e1 : decide ((c : Int) < 48) = false := decide_eq_false (by omega)
          have e2 : decide ((c : Int) > 57) = false := decide_eq_false (by omega)
          have hp12 : 10 ^ (k - pre.size) ≤ 10 ^ 12 := Nat.pow_le_pow_right (by omega) (by have := h12.out; omega)
          have hp12' : (10 : Nat) ^ 12 = 1000000000000 := by decide
          have hm2 := hmH.out
          have hpow : 10 ^ (k + 1 - pre.size) = 10 ^ (k - pre.size) * 10 := by rw [show k + 1 - pre.size = (k - pre.size) + 1 by omega, Nat.pow_succ]
          obtain ⟨d, hdv⟩ : ∃ d : Nat, c - 48 = d := ⟨_, rfl⟩
          rw [hdv] at hd
          obtain ⟨m2, hm2v⟩ : ∃ z : Nat, m * 10 + d = z := ⟨_, rfl⟩
          rw [hm2v] at hd
          have hm2b : Hid (m2 < 10 ^ (k + 1 - pre.size)) := hid (by rw [hpow]; omega)
          have w1 : IntKind.u64.wrap ((m : Int) * 10) = (m : Int) * 10 := Go.IntWalk.u64_in _ (by omega)
          have w2 : IntKind.u8.wrap ((c : Int) - 48) = (d : Int) := by
            have : (c : Int) - 48 = (d : Int) := by omega
            rw [this]
            simp only [IntKind.wrap, IntKind.bits, IntKind.signed]
            simp; omega
          have w2' : ((c : Int) - 48) % 256 = (d : Int) := by omega
          have w3 : IntKind.u64.wrap (d : Int) = (d : Int) := Go.IntWalk.u64_in _ (by omega)
          have w4 : IntKind.u64.wrap ((m : Int) * 10 + (d : Int)) = (m2 : Int) := by rw [Go.IntWalk.u64_in _ (by omega)]; omega
          have hdH := hid hd
          clear hd hbad hc hp12 hp12' hm2 hpow hdv hm2v
          go_wp2_with fail
          go_roundw
          case rel => exact ⟨k + 1, m2, by go_num, rfl, by omega, by omega, hm2b.out, hdH.out, krH.out⟩
          case measure => simp only [intOf]; omega
      · have hnil : s.data.toList.drop k = [] := List.drop_eq_nil_of_le (by rw [Array.length_toList]; show s.size ≤ k; omega)
        rw [hnil] at hd
        have hr3 := hr2.out
        rw [hd] at hr3
        have hr4 : Hid (res = if 1099511627776 < m ∨ pre ++ ⟨(decDigits m).toArray⟩ ≠ s then none else some m) := hid hr3
        have dk : decide ((k : Int) < (s.size : Int)) = false := decide_eq_false (by omega)
        have dk2 : decide (k < s.size) = false := decide_eq_false (by omega)
        clear hd hnil hr3 hr2
        by_cases hbig : 1099511627776 < m
        · have hz := hid (hno.out wr krH.out (by rw [hr4.out, if_pos (.inl hbig)]))
          have e1 : decide ((m : Int) > 1099511627776) = true := decide_eq_true (by omega)
          have e2 : decide (1099511627776 < m) = true := decide_eq_true (by omega)
          clear hbig hr4
          go_wp2_with fail
          go_ret2
          exact hz.out
        · have e1 : decide ((m : Int) > 1099511627776) = false := decide_eq_false (by omega)
          have e2 : decide (1099511627776 < m) = false := decide_eq_false (by omega)
          have hc := hid (hdg.out m (by omega) wr)
          have hl : Hid ((decDigits m).length ≤ 20) := hid (dec_len (by omega))
          rcases two_ways (pre ++ ⟨(decDigits m).toArray⟩ = s) with he | he
          · have hz : Hid (res = some m) := hid (by rw [hr4.out, if_neg (by rintro (h | h); exact hbig h; exact h he)])
            obtain ⟨sb, hsb⟩ : ∃ z : ByteArray, (⟨(decDigits m).toArray⟩ : ByteArray) = z := ⟨_, rfl⟩
            have hz2 : sb.size ≤ 20 := by
              rw [← hsb]
              have := hl.out
              show (decDigits m).toArray.size ≤ _
              rw [List.size_toArray]; omega
            rw [hsb] at he hc
            have hne : ((pre ++ sb).toList == s.toList) = true := by rw [he]; exact beq_self_eq_true _
            have hz4 : ¬ 9223372036854775807 < pre.size + sb.size := by omega
            have heH := hid he
            clear hbig hr4 he hsb hl
            go_wp2_with fail
            refine hc.out.mono ?_
            rintro e w3 ⟨rfl, k3⟩
            have k3H := hid (krH.out.trans k3)
            clear k3
            go_wp2_with fail
            go_ret2
            rw [hz.out]
            exact ⟨rfl, k3H.out⟩
          · obtain ⟨sb, hsb⟩ : ∃ z : ByteArray, (⟨(decDigits m).toArray⟩ : ByteArray) = z := ⟨_, rfl⟩
            have hrn : Hid (res = none) := hid (by rw [hr4.out, if_pos (.inr he)])
            have hz2 : sb.size ≤ 20 := by
              rw [← hsb]
              have := hl.out
              show (decDigits m).toArray.size ≤ _
              rw [List.size_toArray]; omega
            rw [hsb] at he hc
            have hne : ((pre ++ sb).toList == s.toList) = false := eqK_false.2 he
            have hz4 : ¬ 9223372036854775807 < pre.size + sb.size := by omega
            clear hbig hr4 he hsb hl
            go_wp2_with fail
            refine hc.out.mono ?_
            rintro e w3 ⟨rfl, k3⟩
            have k3H := hid (krH.out.trans k3)
            clear k3
            go_wp2_with fail
            go_ret2
            exact hno.out _ k3H.out hrn.out
  · have hz := hid (hno.out w (Kp.refl w) (by rw [hr.out, if_pos (.inr (.inr h3))]))
    have d1 : decide (s.size ≤ pre.size) = false := decide_eq_false (by omega)
    have d2 : decide ((s.size : Int) > (pre.size : Int) + 13) = false := decide_eq_false (by omega)
    have d3 : ((s.extract 0 pre.size).toList == pre.toList) = false := eqK_false.2 h3
    have hle : (pre.size : Int) ≤ (s.size : Int) := by omega
    have hle2 : pre.size ≤ s.size := by omega
    have hle3 : pre.size < s.size := by omega
    clear h3
    go_enter Tryz.func44, Tryz.ntmps44
    go_wp2_with fail
    go_ret2
    exact hz.out
end Go.Proofs.YtfdpoocdfbdhpaaGreatDoor
