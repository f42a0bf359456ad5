/- Tables in cells; the walks of level.number, text, May, newer, lower. -/
import Derived.Test.YtdmdnhceiddcfaaGreatProg
import Derived.Test.YtdmdnhceiddcfaaGreatSlk
import Derived.Test.YtdmdnhceiddcfaaGreatLvlM
import Derived.Test.YtdmdnhceiddcfaaGreatU64
import Derived.Test.YtdmdnhceiddcfaaGreatLvlLay
import Derived.Deep.RegionHeld3
import Derived.Deep.QuietTactic
import Derived.BigQuiet
import Derived.Shelf.SlSorted.Search
set_option linter.all false
namespace Go.Proofs.YtdmdnhceiddcfaaGreat
open Go.RowKit Go.Sl Go.Scree

def metaV (x : MetaM) : Value := .agg #[.int .u64 x.file, .int .i64 x.size, .string x.first, .string x.last, .int .u64 x.seq]
def metaE : Enc MetaM := ⟨fun x => [.int .u64 x.file, .int .i64 x.size, .string x.first, .string x.last, .int .u64 x.seq], 5, fun _ => rfl, by simp [Value.oneCell'], by omega⟩

theorem lnumber_c (n : Nat) (w : World) : Calls Tryz.prog 45 #[.int .u64 n] w fun e w' => e = .returned (.bool (numB n)) ∧ w' = w := by
  by_cases h : 0 < n
  · have hi : decide ((n : Int) > 0) = true := decide_eq_true (by omega)
    have hi' : (n : Int) > 0 := by omega
    by_cases k : n ≤ 1099511627776
    · have e : numB n = true := by simp [numB, h, k]
      have ki : decide ((n : Int) ≤ 1099511627776) = true := decide_eq_true (by omega)
      have ki' : (n : Int) ≤ 1099511627776 := by omega
      rw [e]
      go_enter Tryz.func45, Tryz.ntmps45
      go_wp2
      go_ret
      exact ⟨rfl, rfl⟩
    · have e : numB n = false := by simp [numB, k]
      have ki : decide ((n : Int) ≤ 1099511627776) = false := decide_eq_false (by omega)
      have ki' : ¬ (n : Int) ≤ 1099511627776 := by omega
      rw [e]
      go_enter Tryz.func45, Tryz.ntmps45
      go_wp2
      go_ret
      exact ⟨rfl, rfl⟩
  · obtain rfl : n = 0 := by omega
    have e : numB 0 = false := rfl
    rw [e]
    go_enter Tryz.func45, Tryz.ntmps45
    go_wp2
    go_ret
    exact ⟨rfl, rfl⟩
theorem ltext_c (s : ByteArray) (w : World) : Calls Tryz.prog 46 #[.string s] w fun e w' => e = .returned (.bool (txtB s)) ∧ w' = w := by
  by_cases h : s.toList = []
  · have hs : s.size = 0 := by rw [Lib.toList_data] at h; show s.data.size = 0; rw [← Array.length_toList, h]; rfl
    have e : txtB s = false := by simp [txtB, hs]
    rw [e]
    go_enter Tryz.func46, Tryz.ntmps46
    go_wp2
    go_ret
    exact ⟨rfl, rfl⟩
  · have hs : 0 < s.size := by
      rcases Nat.eq_zero_or_pos s.size with k | k
      · refine absurd ?_ h
        rw [Lib.toList_data]
        exact List.eq_nil_of_length_eq_zero (by rw [Array.length_toList]; exact k)
      · exact k
    have hb : s.toList.isEmpty = false := by simpa using h
    by_cases k : s.size ≤ 100
    · have e : txtB s = true := by simp [txtB, hs, k]
      have ki : decide ((s.size : Int) ≤ 100) = true := decide_eq_true (by omega)
      have ki' : (s.size : Int) ≤ 100 := by omega
      rw [e]
      go_enter Tryz.func46, Tryz.ntmps46
      go_wp2
      go_ret
      exact ⟨rfl, rfl⟩
    · have e : txtB s = false := by simp [txtB, k]
      have ki : decide ((s.size : Int) ≤ 100) = false := decide_eq_false (by omega)
      have ki' : ¬ (s.size : Int) ≤ 100 := by omega
      rw [e]
      go_enter Tryz.func46, Tryz.ntmps46
      go_wp2
      go_ret
      exact ⟨rfl, rfl⟩
theorem leq_ltK (a b : ByteArray) : (Op.bytesLess a.toList b.toList || a.toList == b.toList) = !ltK b a := by
  rw [less_ltK]
  show (ltK a b || eqK a b) = _
  rcases ltK_tri a b with h | h | h
  · rw [h, ltK_asymm h]; rfl
  · subst h; rw [ltK_irrefl, eqK_iff.2 rfl]; rfl
  · rw [h, ltK_asymm h, eqK_false.2 (fun e => by subst e; rw [ltK_irrefl] at h; cases h)]; rfl
theorem geq_ltK (a b : ByteArray) : (!Op.bytesLess a.toList b.toList) = !ltK a b := by rw [less_ltK]
theorem pos_dec (n : Int) : decide (n > 0) = decide (0 < n) := rfl
set_option maxRecDepth 20000 in
set_option maxHeartbeats 1600000 in
theorem may_c (m : MetaM) (w : World) : Calls Tryz.prog 20 #[metaV m] w fun e w' => e = .returned (.bool (mayB m)) ∧ Kp w w' := by
  obtain ⟨n, z, a, b, q⟩ := m
  unfold metaV mayB
  dsimp only
  have k1 : Hid (Kp w (w.alloc (.cells #[.int .u64 n, .int .i64 z, .string a, .string b, .int .u64 q] 43 (0, 0)))) := hid ((Kp.refl w).alloc _)
  have c1 := lnumber_c n
  have c2 := ltext_c a
  have c3 := ltext_c b
  have c4 := lnumber_c q
  have hl := leq_ltK a b
  generalize numB n = b1 at *
  generalize txtB a = b2 at *
  generalize txtB b = b3 at *
  generalize numB q = b4 at *
  generalize ltK b a = b5 at *
  rcases bool_cases b1 with rfl | rfl
  · by_cases z1 : 0 < z
    · have z1' : z > 0 := z1
      have d1 : decide (0 < z) = true := decide_eq_true z1
      by_cases z2 : z ≤ 1099511627776
      · have d2 : decide (z ≤ 1099511627776) = true := decide_eq_true z2
        rw [d1, d2]
        rcases bool_cases b2 with rfl | rfl
        · rcases bool_cases b3 with rfl | rfl
          · rcases bool_cases b5 with rfl | rfl
            all_goals
              simp only [Bool.not_true, Bool.not_false] at hl
              rcases bool_cases b4 with rfl | rfl
              all_goals
                go_enter Tryz.func20, Tryz.ntmps20
                go_wp2_with (first | (go_at_call_of 45 (Value.int .u64 (n : Int)); refine (c1 _).mono ?_; rintro e w' ⟨rfl, rfl⟩) | (go_at_call_of 45 (Value.int .u64 (q : Int)); refine (c4 _).mono ?_; rintro e w' ⟨rfl, rfl⟩) | (go_at_call_of 46 (Value.string a); refine (c2 _).mono ?_; rintro e w' ⟨rfl, rfl⟩) | (go_at_call_of 46 (Value.string b); refine (c3 _).mono ?_; rintro e w' ⟨rfl, rfl⟩))
                go_ret
                exact ⟨by simp, k1.out⟩
          · 
            go_enter Tryz.func20, Tryz.ntmps20
            go_wp2_with (first | (go_at_call_of 45 (Value.int .u64 (n : Int)); refine (c1 _).mono ?_; rintro e w' ⟨rfl, rfl⟩) | (go_at_call_of 45 (Value.int .u64 (q : Int)); refine (c4 _).mono ?_; rintro e w' ⟨rfl, rfl⟩) | (go_at_call_of 46 (Value.string a); refine (c2 _).mono ?_; rintro e w' ⟨rfl, rfl⟩) | (go_at_call_of 46 (Value.string b); refine (c3 _).mono ?_; rintro e w' ⟨rfl, rfl⟩))
            go_ret
            exact ⟨by simp, k1.out⟩
        · 
          go_enter Tryz.func20, Tryz.ntmps20
          go_wp2_with (first | (go_at_call_of 45 (Value.int .u64 (n : Int)); refine (c1 _).mono ?_; rintro e w' ⟨rfl, rfl⟩) | (go_at_call_of 45 (Value.int .u64 (q : Int)); refine (c4 _).mono ?_; rintro e w' ⟨rfl, rfl⟩) | (go_at_call_of 46 (Value.string a); refine (c2 _).mono ?_; rintro e w' ⟨rfl, rfl⟩) | (go_at_call_of 46 (Value.string b); refine (c3 _).mono ?_; rintro e w' ⟨rfl, rfl⟩))
          go_ret
          exact ⟨by simp, k1.out⟩
      · have d2 : decide (z ≤ 1099511627776) = false := decide_eq_false z2
        rw [d1, d2]
        go_enter Tryz.func20, Tryz.ntmps20
        go_wp2_with (first | (go_at_call_of 45 (Value.int .u64 (n : Int)); refine (c1 _).mono ?_; rintro e w' ⟨rfl, rfl⟩) | (go_at_call_of 45 (Value.int .u64 (q : Int)); refine (c4 _).mono ?_; rintro e w' ⟨rfl, rfl⟩) | (go_at_call_of 46 (Value.string a); refine (c2 _).mono ?_; rintro e w' ⟨rfl, rfl⟩) | (go_at_call_of 46 (Value.string b); refine (c3 _).mono ?_; rintro e w' ⟨rfl, rfl⟩))
        go_ret
        exact ⟨by simp, k1.out⟩
    · have z1' : ¬ z > 0 := z1
      have d1 : decide (0 < z) = false := decide_eq_false z1
      rw [d1]
      go_enter Tryz.func20, Tryz.ntmps20
      go_wp2_with (first | (go_at_call_of 45 (Value.int .u64 (n : Int)); refine (c1 _).mono ?_; rintro e w' ⟨rfl, rfl⟩) | (go_at_call_of 45 (Value.int .u64 (q : Int)); refine (c4 _).mono ?_; rintro e w' ⟨rfl, rfl⟩) | (go_at_call_of 46 (Value.string a); refine (c2 _).mono ?_; rintro e w' ⟨rfl, rfl⟩) | (go_at_call_of 46 (Value.string b); refine (c3 _).mono ?_; rintro e w' ⟨rfl, rfl⟩))
      go_ret
      exact ⟨by simp, k1.out⟩
  · 
    go_enter Tryz.func20, Tryz.ntmps20
    go_wp2_with (first | (go_at_call_of 45 (Value.int .u64 (n : Int)); refine (c1 _).mono ?_; rintro e w' ⟨rfl, rfl⟩) | (go_at_call_of 45 (Value.int .u64 (q : Int)); refine (c4 _).mono ?_; rintro e w' ⟨rfl, rfl⟩) | (go_at_call_of 46 (Value.string a); refine (c2 _).mono ?_; rintro e w' ⟨rfl, rfl⟩) | (go_at_call_of 46 (Value.string b); refine (c3 _).mono ?_; rintro e w' ⟨rfl, rfl⟩))
    go_ret
    exact ⟨by simp, k1.out⟩
end Go.Proofs.YtdmdnhceiddcfaaGreat
