/- The walks of the document's May, Meets, New, Level, has. -/
import Derived.Test.YtdmdnhceiddcfaaGreatLvlL
set_option linter.all false
namespace Go.Proofs.YtdmdnhceiddcfaaGreat
open Go.RowKit Go.Sl Go.Scree

theorem bool_ways (b : Bool) : b = false ∨ b = true := by cases b <;> simp
theorem may_chain (n : Nat) (z : Int) (a b : ByteArray) (q : Nat) : mayB ⟨n, z, a, b, q⟩ = (decide ((n : Int) ≥ 1) && (decide ((n : Int) ≤ 1099511627776) && (decide (z ≥ 1) && (decide (z ≤ 1099511627776) && (decide ((a.size : Int) ≥ 1) && (decide ((a.size : Int) ≤ 100) && (decide ((b.size : Int) ≥ 1) && (decide ((b.size : Int) ≤ 100) && ((Op.bytesLess a.toList b.toList || a.toList == b.toList) && (decide ((q : Int) ≥ 1) && decide ((q : Int) ≤ 1099511627776))))))))))) := by
  rw [leq_ltK]
  unfold mayB numB txtB
  dsimp only
  generalize ltK b a = c
  rw [Bool.eq_iff_iff]
  simp only [Bool.and_eq_true, decide_eq_true_eq]
  constructor
  · rintro ⟨⟨⟨⟨⟨⟨⟨h1, h2⟩, h3⟩, h4⟩, h5, h6⟩, h7, h8⟩, h9⟩, h10, h11⟩
    exact ⟨by omega, by omega, by omega, h4, by omega, by omega, by omega, by omega, h9, by omega, by omega⟩
  · rintro ⟨h1, h2, h3, h4, h5, h6, h7, h8, h9, h10, h11⟩
    exact ⟨⟨⟨⟨⟨⟨⟨by omega, by omega⟩, by omega⟩, h4⟩, by omega, by omega⟩, by omega, by omega⟩, h9⟩, by omega, by omega⟩
set_option maxRecDepth 20000 in
set_option maxHeartbeats 6400000 in
theorem rmay_c (m : MetaM) (w : World) : Calls Tryz.prog 26 #[metaV m] w fun e w' => e = .returned (.bool (mayB m)) ∧ Kp w w' := by
  obtain ⟨n, z, a, b, q⟩ := m
  rw [may_chain]
  unfold metaV
  dsimp only
  have k1 : Hid (Kp w (w.alloc (.cells #[.int .u64 n, .int .i64 z, .string a, .string b, .int .u64 q] 43 (0, 0)))) := hid ((Kp.refl w).alloc _)
  rcases bool_ways (decide ((n : Int) ≥ 1)) with h | h1
  · rw [h, Bool.false_and]
    go_enter Tryz.func26, Tryz.ntmps26
    go_wp2_with fail
    go_ret
    exact ⟨rfl, k1.out⟩
  rw [h1, Bool.true_and]
  rcases bool_ways (decide ((n : Int) ≤ 1099511627776)) with h | h2
  · rw [h, Bool.false_and]
    go_enter Tryz.func26, Tryz.ntmps26
    go_wp2_with fail
    go_ret
    exact ⟨rfl, k1.out⟩
  rw [h2, Bool.true_and]
  rcases bool_ways (decide (z ≥ 1)) with h | h3
  · rw [h, Bool.false_and]
    go_enter Tryz.func26, Tryz.ntmps26
    go_wp2_with fail
    go_ret
    exact ⟨rfl, k1.out⟩
  rw [h3, Bool.true_and]
  rcases bool_ways (decide (z ≤ 1099511627776)) with h | h4
  · rw [h, Bool.false_and]
    go_enter Tryz.func26, Tryz.ntmps26
    go_wp2_with fail
    go_ret
    exact ⟨rfl, k1.out⟩
  rw [h4, Bool.true_and]
  rcases bool_ways (decide ((a.size : Int) ≥ 1)) with h | h5
  · rw [h, Bool.false_and]
    go_enter Tryz.func26, Tryz.ntmps26
    go_wp2_with fail
    go_ret
    exact ⟨rfl, k1.out⟩
  rw [h5, Bool.true_and]
  rcases bool_ways (decide ((a.size : Int) ≤ 100)) with h | h6
  · rw [h, Bool.false_and]
    go_enter Tryz.func26, Tryz.ntmps26
    go_wp2_with fail
    go_ret
    exact ⟨rfl, k1.out⟩
  rw [h6, Bool.true_and]
  rcases bool_ways (decide ((b.size : Int) ≥ 1)) with h | h7
  · rw [h, Bool.false_and]
    go_enter Tryz.func26, Tryz.ntmps26
    go_wp2_with fail
    go_ret
    exact ⟨rfl, k1.out⟩
  rw [h7, Bool.true_and]
  rcases bool_ways (decide ((b.size : Int) ≤ 100)) with h | h8
  · rw [h, Bool.false_and]
    go_enter Tryz.func26, Tryz.ntmps26
    go_wp2_with fail
    go_ret
    exact ⟨rfl, k1.out⟩
  rw [h8, Bool.true_and]
  rcases bool_ways (Op.bytesLess a.toList b.toList || a.toList == b.toList) with h | h9
  · rw [h, Bool.false_and]
    go_enter Tryz.func26, Tryz.ntmps26
    go_wp2_with fail
    go_ret
    exact ⟨rfl, k1.out⟩
  rw [h9, Bool.true_and]
  rcases bool_ways (decide ((q : Int) ≥ 1)) with h | h10
  · rw [h, Bool.false_and]
    go_enter Tryz.func26, Tryz.ntmps26
    go_wp2_with fail
    go_ret
    exact ⟨rfl, k1.out⟩
  rw [h10, Bool.true_and]
  rcases bool_ways (decide ((q : Int) ≤ 1099511627776)) with h | h11
  · rw [h]
    go_enter Tryz.func26, Tryz.ntmps26
    go_wp2_with fail
    go_ret
    exact ⟨rfl, k1.out⟩
  rw [h11]
  go_enter Tryz.func26, Tryz.ntmps26
  go_wp2_with fail
  go_ret
  exact ⟨rfl, k1.out⟩
theorem rmeets_c (m : MetaM) (a b : ByteArray) (w : World) : Calls Tryz.prog 29 #[metaV m, .string a, .string b] w fun e w' => e = .returned (.bool (meetB a b m)) ∧ Kp w w' := by
  obtain ⟨n, z, x, y, q⟩ := m
  unfold metaV meetB
  dsimp only
  have k1 : Hid (Kp w (w.alloc (.cells #[.int .u64 n, .int .i64 z, .string x, .string y, .int .u64 q] 43 (0, 0)))) := hid ((Kp.refl w).alloc _)
  have h1 := less_ltK y a
  have h2 := less_ltK b x
  rcases bool_cases (ltK y a) with e | e
  · rw [e] at h1 ⊢
    clear h2
    go_enter Tryz.func29, Tryz.ntmps29
    go_wp2_with fail
    go_ret
    exact ⟨by simp, k1.out⟩
  · rw [e] at h1 ⊢
    rcases bool_cases (ltK b x) with f | f
    all_goals
      rw [f] at h2 ⊢
      go_enter Tryz.func29, Tryz.ntmps29
      go_wp2_with fail
      go_ret
      exact ⟨by simp, k1.out⟩
theorem rnew_c (w : World) : Calls Tryz.prog 6 #[] w fun e w' => ∃ p S, e = .returned (.pointer (some ⟨p, 0, none⟩)) ∧ VerR w' p S newV ∧ Kp w w' := by
  go_enter Tryz.func6, Tryz.ntmps6
  go_wp2_with fail
  go_ret
  refine ⟨w.heap.size, fun _ => ⟨none, 0, 0⟩, rfl, ?_, (Kp.refl w).alloc _⟩
  have o := (Own.start w).alloc (.cells (verCells (fun _ => ⟨none, 0, 0⟩) newV) 63 (0, 0))
  exact ⟨fun l hl => o.cell (ver_at _ _ hl), o.cell (i := 4) rfl, o.cell (i := 5) rfl, o.cell (i := 6) rfl, fun l hl => .inl ⟨⟨none, 0, rfl, by simp [maxLen]⟩, rfl⟩, fun l hl => by simp [newV]⟩
theorem rlevel_c (p : Nat) (S : Nat → SlA) (V : VerM) (l : Int) (w : World) (h : VerR w p S V) :
    Calls Tryz.prog 32 #[.pointer (some ⟨p, 0, none⟩), .int .i64 l] w fun e w' => (∃ s : SlA, e = .returned (.slice s.A s.n s.c) ∧ Rd w metaE s.v (levelM V.lv l)) ∧ w' = w := by
  unfold levelM
  by_cases h0 : l < 0
  · rw [if_neg (by omega)]
    have d0 : decide (l < 0) = true := decide_eq_true h0
    clear h
    go_enter Tryz.func32, Tryz.ntmps32
    go_wp2_with fail
    go_ret
    exact ⟨⟨nilA, rfl, rd_nilA w⟩, rfl⟩
  · have d0 : decide (l < 0) = false := decide_eq_false h0
    by_cases h4 : l > 3
    · rw [if_neg (by omega)]
      have d4 : decide (l > 3) = true := decide_eq_true h4
      clear h
      go_enter Tryz.func32, Tryz.ntmps32
      go_wp2_with fail
      go_ret
      exact ⟨⟨nilA, rfl, rd_nilA w⟩, rfl⟩
    · rw [if_pos (by omega)]
      obtain ⟨k, rfl⟩ : ∃ k : Nat, l = k := ⟨l.toNat, by omega⟩
      rw [Int.toNat_natCast]
      have hk : k < 4 := by omega
      have d4 : decide ((k : Int) > 3) = false := decide_eq_false h4
      have d4' : decide ((3 : Int) < (k : Int)) = false := decide_eq_false h4
      have hc := h.lvl k hk
      have hrd := hid (h.rd k hk)
      have hk' : (k : Int) < 4 := by omega
      clear h h0
      go_enter Tryz.func32, Tryz.ntmps32
      go_wp2_with fail
      go_ret
      exact ⟨⟨S k, rfl, hrd.out⟩, rfl⟩
theorem has_no {lv : Lvls} {n : Nat} (h : ∀ l, l < 4 → ∀ x ∈ lv l, x.file ≠ n) : hasB lv n = false := by
  unfold hasB
  rw [List.any_eq_false]
  intro x hx
  obtain ⟨l, hl, hm⟩ := mem_flat.1 hx
  simpa using h l hl x hm
theorem has_yes {lv : Lvls} {n l : Nat} (hl : l < 4) {x : MetaM} (hx : x ∈ lv l) (he : x.file = n) : hasB lv n = true := List.any_eq_true.2 ⟨x, mem_flat.2 ⟨l, hl, hx⟩, by simpa using he⟩
set_option maxRecDepth 20000 in
set_option maxHeartbeats 6400000 in
theorem rhas_c (p : Nat) (S : Nat → SlA) (V : VerM) (n : Nat) (w : World) (h : VerR w p S V) :
    Calls Tryz.prog 27 #[.pointer (some ⟨p, 0, none⟩), .int .u64 n] w fun e w' => e = .returned (.bool (hasB V.lv n)) ∧ w' = w := by
  have hH := hid h
  have hno := hid (@has_no V.lv n)
  have hyes := hid (fun l hl x => @has_yes V.lv n l hl x)
  generalize hasB V.lv n = B at *
  clear h
  go_enter Tryz.func27, Tryz.ntmps27
  go_wp2_with fail
  go_loopw [5] (fun i wr => ∃ k : Nat, i = .int .i64 k ∧ k ≤ 4 ∧ wr = w ∧ ∀ l, l < k → ∀ x ∈ V.lv l, x.file ≠ n) (fun i _ => 4 - (intOf i).toNat)
  case atStart => exact ⟨0, rfl, by omega, rfl, fun l hl => by omega⟩
  case round =>
    obtain ⟨k, rfl, hk, hw, hp⟩ := hrel
    have hw' := hw.symm
    subst hw'
    have hpH := hid hp
    clear hp hw
    by_cases hlt : k < 4
    · have hlt' : (k : Int) < 4 := by omega
      have hc := hH.out.lvl k hlt
      have hrd := hid (hH.out.rd k hlt)
      rw [rd_n hrd.out] at hc
      have hfew := hH.out.few k hlt
      have hy := hid (fun x hx he => hyes.out k hlt x hx he)
      have hst : Hid ((∀ x ∈ V.lv k, x.file ≠ n) → ∀ l, l < k + 1 → ∀ x ∈ V.lv l, x.file ≠ n) := hid (fun h l hl => by
        rcases (by omega : l < k ∨ l = k) with e | rfl
        · exact hpH.out l e
        · exact h)
      unfold SlA.v at hrd
      generalize V.lv k = xs at *
      rw [rd_n (s := ⟨(S k).A, (S k).n, (S k).c⟩) hrd.out] at hrd
      generalize hA : (S k).A = sA at *
      have hx63 : xs.length ≤ 9223372036854775807 := by omega
      have hAH := hid hA
      clear hA
      go_wp2_with fail
      go_loopw [6] (fun i wr => ∃ j : Nat, i = .int .i64 j ∧ j ≤ xs.length ∧ wr = w ∧ ∀ x ∈ xs.take j, x.file ≠ n) (fun i _ => xs.length - (intOf i).toNat)
      case atStart => exact ⟨0, rfl, Nat.zero_le _, rfl, by simp⟩
      case round =>
        obtain ⟨j, rfl, hj, hw, hq⟩ := hrel
        have hw' := hw.symm
        subst hw'
        have hqH := hid hq
        clear hq hw
        by_cases hjl : j < xs.length
        · have hx : xs[j]? = some xs[j] := List.getElem?_eq_getElem hjl
          obtain ⟨g, off, rfl, _, d0, d1, d2, d3, d4⟩ := rd_meta hrd.out rfl hx
          have hjl' : (j : Int) < (xs.length : Int) := by omega
          have hxm := hid (List.mem_of_getElem? hx)
          have htk := hid (List.take_succ_eq_append_getElem hjl)
          generalize xs[j] = x at *
          clear hx
          by_cases he : x.file = n
          · have hb := hy.out x hxm.out he
            have eb : ((x.file : Int) == (n : Int)) = true := by rw [he]; simp
            have eb' : (x.file == n) = true := by rw [he]; simp
            have hbH := hid hb
            clear he hb
            go_wp2_with fail
            go_ret
            exact ⟨by rw [hbH.out]; rfl, rfl⟩
          · have eb : ((x.file : Int) == (n : Int)) = false := by rw [beq_eq_false_iff_ne]; omega
            have eb' : (x.file == n) = false := by rw [beq_eq_false_iff_ne]; exact he
            have heH := hid he
            clear he
            go_wp2_with fail
            go_roundw
            case rel =>
              refine ⟨j + 1, by go_num, by omega, by first | rfl | trivial, fun y hy => ?_⟩
              rw [htk.out] at hy
              rcases List.mem_append.1 hy with h | h
              · exact hqH.out y h
              · obtain rfl := List.mem_singleton.1 h; exact heH.out
            case measure => simp [intOf]; omega
        · have hdone := hid (hst.out (fun x hx => hqH.out x (by rw [List.take_of_length_le (by omega)]; exact hx)))
          have dj : decide (j < xs.length) = false := decide_eq_false hjl
          clear hjl
          go_wp2_with fail
          go_roundw
          case rel => exact ⟨k + 1, by go_num, by omega, by first | rfl | trivial, hdone.out⟩
          case measure => simp [intOf]; omega
    · obtain rfl : k = 4 := by omega
      have hbH := hid (hno.out hpH.out)
      go_wp2_with fail
      go_ret
      exact ⟨by rw [hbH.out]; rfl, rfl⟩
end Go.Proofs.YtdmdnhceiddcfaaGreat
