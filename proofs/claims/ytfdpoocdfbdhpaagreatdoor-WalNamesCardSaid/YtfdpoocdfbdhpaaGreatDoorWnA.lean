/- The walk of WalNames. -/
import Derived.Test.YtfdpoocdfbdhpaaGreatDoorWrB
import Derived.Test.YtfdpoocdfbdhpaaGreatDoorWalE
set_option linter.all false
namespace Go.Proofs.YtfdpoocdfbdhpaaGreatDoor
open Go.RowKit Go.Sl Go.Scree
open Go.Lib hiding hid

theorem rnumP_ok {pre : ByteArray} {n : Nat} (hp : pre.size ≤ 100) (hn : n ≤ 1099511627776) : rnumP pre (pre ++ ⟨(decDigits n).toArray⟩) = some n := by
  have hl1 := dec_lpos n
  have hl2 := dec_len13 12 n (by have : (10 : Nat) ^ (12 + 1) = 10000000000000 := by decide
                                 omega)
  have hL := cat_assoc pre (decDigits n)
  have hsz : (pre ++ ⟨(decDigits n).toArray⟩ : ByteArray).size = pre.size + (decDigits n).length := by
    have := congrArg List.length hL
    rw [Array.length_toList, List.length_append, Array.length_toList] at this
    exact this
  have hpl : pre.data.toList.length = pre.size := by rw [Array.length_toList]; rfl
  have hex : (pre ++ ⟨(decDigits n).toArray⟩ : ByteArray).extract 0 pre.size = pre := by
    have h := extract_pre (pre ++ ⟨(decDigits n).toArray⟩) pre.size
    rw [hL, ← hpl, List.take_left] at h
    rw [← hpl]
    cases he : (pre ++ ⟨(decDigits n).toArray⟩ : ByteArray).extract 0 pre.data.toList.length with
    | mk d =>
      rw [he] at h
      cases pre with
      | mk e => congr 1; exact Array.toList_inj.1 h
  unfold rnumP
  rw [if_neg (by rw [hsz, hex]; simp; omega), hL, ← hpl, List.drop_left, digP_dec]
  dsimp only
  rw [if_neg (by simp; omega)]
theorem rnumP_some {pre s : ByteArray} {n : Nat} (h : rnumP pre s = some n) : n ≤ 1099511627776 ∧ pre ++ ⟨(decDigits n).toArray⟩ = s := by
  unfold rnumP at h
  split at h
  · cases h
  · split at h
    · cases h
    · rename_i m hm
      split at h
      · cases h
      · rename_i hc
        injection h with h
        subst h
        exact ⟨Nat.le_of_not_lt fun hlt => hc (.inl hlt), Classical.byContradiction fun hne => hc (.inr hne)⟩
theorem wal_join {n : Nat} (h : n ≤ 1099511627776) : (⟨#[119, 97, 108, 46]⟩ ++ ⟨(decDigits n).toArray⟩ : ByteArray) = walName n := by
  rw [name_join]; unfold walName; rw [if_neg (by omega)]
theorem rnum_wal (s : ByteArray) : rnumP ⟨#[119, 97, 108, 46]⟩ s = walNumber s := by
  cases h : walNumber s with
  | some n =>
    obtain ⟨h1, h2⟩ := walNumber_some h
    rw [← h1, ← wal_join h2]
    exact rnumP_ok (by decide) h2
  | none =>
    cases h3 : rnumP ⟨#[119, 97, 108, 46]⟩ s with
    | none => rfl
    | some n =>
      obtain ⟨h1, h2⟩ := rnumP_some h3
      rw [← h2, wal_join h1, walNumber_name h1] at h
      cases h
set_option maxHeartbeats 1600000 in
theorem rname_c (n : Nat) (hn : n < 18446744073709551616) (w : World) : Calls Tryz.prog 13 #[.int .u64 n] w fun e w' => e = .returned (.string (walName n)) ∧ Kp w w' := by
  have hc := hid (digits_c n hn w)
  have hj := hid (name_join n)
  have hl : Hid ((decDigits n).length ≤ 20) := hid (dec_len hn)
  clear hn
  unfold walName
  by_cases h : 1099511627776 < n
  · rw [if_pos h]
    have hi : (n : Int) > 1099511627776 := by omega
    clear h
    go_enter Tryz.func13, Tryz.ntmps13
    go_wp2_with fail
    go_ret
    exact ⟨rfl, Kp.refl _⟩
  · rw [if_neg h]
    have hi : ¬ (n : Int) > 1099511627776 := by omega
    clear h
    go_enter Tryz.func13, Tryz.ntmps13
    go_wp2_with fail
    refine hc.out.mono ?_
    rintro e w' ⟨rfl, k⟩
    obtain ⟨sb, hsb⟩ : ∃ z : ByteArray, (⟨(decDigits n).toArray⟩ : ByteArray) = z := ⟨_, rfl⟩
    have hz2 : (sb.size : Int) ≤ 8388608 := by
      rw [← hsb]
      have := hl.out
      show ((decDigits n).toArray.size : Int) ≤ _
      rw [List.size_toArray]; omega
    rw [hsb] at hj ⊢
    clear hsb
    go_wp2
    go_ret
    rw [hj.out]
    exact ⟨rfl, k⟩
set_option maxHeartbeats 1600000 in
theorem rnumber_c (s : ByteArray) (hs : s.size ≤ 100) (w : World) : Calls Tryz.prog 11 #[.string s] w fun e w' => e = .returned (numV (walNumber s)) ∧ Kp w w' := by
  have hc := hid (numbered_c s ⟨#[119, 97, 108, 46]⟩ hs (by decide) w)
  rw [rnum_wal] at hc
  unfold numV at hc ⊢
  generalize walNumber s = o at *
  clear hs
  go_enter Tryz.func11, Tryz.ntmps11
  go_wp2_with fail
  refine hc.out.mono ?_
  rintro e w' ⟨rfl, k⟩
  go_wp2
  go_ret2
  exact ⟨rfl, k⟩
set_option maxRecDepth 20000 in
set_option maxHeartbeats 6400000 in
theorem walNames_row (n : Int) (s : ByteArray) (W : World) (hn : (Lit.int .u64 n).wf = true) (hs : s.size ≤ 140737488351232) (hG : Gok W) :
    Calls Tryz.prog 3 #[.int .u64 n, .string s] W fun e W' => e = .returned (.bool true) ∧ Below W.heap.size W W' := by
  have hn0 : 0 ≤ n ∧ n < 18446744073709551616 := by
    simp [Lit.wf, IntKind.min, IntKind.max, IntKind.signed, IntKind.bits] at hn
    omega
  obtain ⟨m, rfl⟩ : ∃ m : Nat, n = m := ⟨n.toNat, by omega⟩
  have hm : m < 18446744073709551616 := by omega
  have hGl := hid (Gl.base hG)
  have aw := hid (awake_c W _ hGl.out (Own.start W))
  clear hn hn0 hG
  have hend : Hid (∀ w', Kp W w' → Below W.heap.size W w') := hid (fun w' k => ⟨k.ext.os, k.ext.tape, k.ext.output, k.ext.size, k.same⟩)
  go_enter Tryz.func3, Tryz.ntmps3
  go_wp2_with fail
  refine aw.out.mono ?_
  rintro e w0 ⟨rfl, o0, e0⟩
  have k0 := hid (kp_of0 o0 e0)
  clear o0 e0 aw
  by_cases hsz : s.size ≤ 100
  · have hi : ¬ (s.size : Int) > 100 := by omega
    have hi2 : ¬ 100 < s.size := by omega
    have h1 := hid (fun w (k : Kp W w) => number_c s (by omega) w (hGl.out w k.base))
    have h2 := hid (fun w => rnumber_c s hsz w)
    have h3 := hid (fun w (k : Kp W w) => name_c m hm w (hGl.out w k.base))
    have h4 := hid (fun w => rname_c m hm w)
    have h5 := hid (fun w (k : Kp W w) => number_c (walName m) (Nat.le_trans (walName_size m) (by omega)) w (hGl.out w k.base))
    have hval : Hid ((m ≤ 1099511627776 ∧ walNumber (walName m) = some m) ∨ (¬ m ≤ 1099511627776 ∧ walNumber (walName m) = none)) := hid (by
      by_cases h : m ≤ 1099511627776
      · exact .inl ⟨h, walNumber_name h⟩
      · refine .inr ⟨h, ?_⟩
        have e : walName m = ⟨#[]⟩ := by unfold walName; rw [if_pos (by omega)]
        rw [e, walNumber_empty])
    unfold numV at h1 h2 h5
    generalize walNumber s = o at *
    generalize walNumber (walName m) = o2 at *
    generalize walName m = nm at *
    clear hs
    go_wp2_with fail
    refine (h1.out w0 k0.out).mono ?_
    rintro e w1 ⟨rfl, k1⟩
    have k1H := hid (k0.out.trans k1)
    clear k1 h1
    go_wp2_with fail
    refine (h2.out w1).mono ?_
    rintro e w2 ⟨rfl, k2⟩
    have k2H := hid (k1H.out.trans k2)
    clear k2 h2
    go_wp2_with fail
    refine (h3.out w2 k2H.out).mono ?_
    rintro e w3 ⟨rfl, k3⟩
    have k3H := hid (k2H.out.trans k3)
    clear k3
    go_wp2_with fail
    refine (h5.out w3 k3H.out).mono ?_
    rintro e w4 ⟨rfl, k4⟩
    have k4H := hid (k3H.out.trans k4)
    clear k4 h5
    go_wp2_with fail
    refine (h3.out w4 k4H.out).mono ?_
    rintro e w5 ⟨rfl, k5⟩
    have k5H := hid (k4H.out.trans k5)
    clear k5 h3
    go_wp2_with fail
    refine (h4.out w5).mono ?_
    rintro e w6 ⟨rfl, k6⟩
    have k6H := hid (k5H.out.trans k6)
    clear k6 h4
    rcases hval.out with ⟨hle, rfl⟩ | ⟨hle, rfl⟩
    · have d1 : decide ((m : Int) ≤ 1099511627776) = true := decide_eq_true (by omega)
      have d2 : decide (m ≤ 1099511627776) = true := decide_eq_true hle
      clear hval hle
      go_wp2_with fail
      go_ret
      exact ⟨rfl, hend.out _ k6H.out⟩
    · have d1 : decide ((m : Int) ≤ 1099511627776) = false := decide_eq_false (by omega)
      have d2 : decide (m ≤ 1099511627776) = false := decide_eq_false hle
      clear hval hle
      go_wp2_with fail
      go_ret
      exact ⟨rfl, hend.out _ k6H.out⟩
  · have hi : (s.size : Int) > 100 := by omega
    have hi2 : 100 < s.size := by omega
    clear hsz
    go_wp2_with fail
    go_ret
    exact ⟨rfl, hend.out _ k0.out⟩
end Go.Proofs.YtfdpoocdfbdhpaaGreatDoor
