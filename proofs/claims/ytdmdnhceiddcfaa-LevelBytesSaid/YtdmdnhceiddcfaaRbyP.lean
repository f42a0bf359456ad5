/- The document's short bytes read back: as plain lists. · The walks of the document's Short, Text. · The walk of the document's Take. · The walks of the document's reader: a number, a text. · The walk of the document's Encode. · The document's Decode, in plain Lean: it is the program's. · The walk of the document's Decode. -/
import Derived.Test.YtdmdnhceiddcfaaNumT
import Derived.Test.YtdmdnhceiddcfaaProg
import Derived.Test.YtdmdnhceiddcfaaNumA
import Derived.Test.YtdmdnhceiddcfaaNumB
import Derived.Test.YtdmdnhceiddcfaaSlu
import Derived.Test.YtdmdnhceiddcfaaSle
import Derived.Test.YtdmdnhceiddcfaaEntM
import Derived.Test.YtdmdnhceiddcfaaEncR
import Derived.Test.YtdmdnhceiddcfaaRlvA
import Derived.Deep.CutBlock
import Derived.Deep.DeepCutAuto
import Derived.Deep.CutRange
import Derived.Test.YtdmdnhceiddcfaaLbkP
set_option linter.all false
namespace Go.Scree

/-- What the document's Take reads: i bytes having made n, of place p. -/
def rtakeN (whole : List UInt8) : List UInt8 → Nat → Nat → Nat → Option (Nat × List UInt8)
  | [], _, _, _ => none
  | c :: r, i, n, p =>
    if 10 ≤ i then none
    else if c.toNat < 128 then (if shortB ((n + c.toNat % 128 * p) % 18446744073709551616) = whole.take (i + 1) then some ((n + c.toNat % 128 * p) % 18446744073709551616, r) else none)
    else rtakeN whole r (i + 1) ((n + c.toNat % 128 * p) % 18446744073709551616) (p * 128 % 18446744073709551616)
theorem rtakeN_cons (whole : List UInt8) (c : UInt8) (r : List UInt8) (i n p : Nat) : rtakeN whole (c :: r) i n p = if 10 ≤ i then none
    else if c.toNat < 128 then (if shortB ((n + c.toNat % 128 * p) % 18446744073709551616) = whole.take (i + 1) then some ((n + c.toNat % 128 * p) % 18446744073709551616, r) else none)
    else rtakeN whole r (i + 1) ((n + c.toNat % 128 * p) % 18446744073709551616) (p * 128 % 18446744073709551616) := rfl
def rtakeB (l : List UInt8) : Option (Nat × List UInt8) := rtakeN l l 0 0 1
theorem rtakeN_short : ∀ (k v i n V : Nat) (pre r : List UInt8), v ≤ k → pre.length = i → n + v * 2 ^ (7 * i) = V → V < 18446744073709551616 → shortB V = pre ++ shortB v → (v = 0 → i = 0) → rtakeN (pre ++ (shortB v ++ r)) (shortB v ++ r) i n (2 ^ (7 * i)) = some (V, r)
  | k, v, i, n, V, pre, r, hk, hp, hV, hlt, hs, h0 => by
    have hpp : 0 < 2 ^ (7 * i) := Nat.two_pow_pos _
    have hi : i < 10 := by
      rcases Nat.lt_or_ge i 10 with h | h
      · exact h
      · have h1 : 2 ^ (7 * 10) ≤ 2 ^ (7 * i) := Nat.pow_le_pow_right (by omega) (by omega)
        have h2 : 0 < v := by
          rcases Nat.eq_zero_or_pos v with e | e
          · have := h0 e; omega
          · exact e
        have h3 : 1 * 2 ^ (7 * i) ≤ v * 2 ^ (7 * i) := Nat.mul_le_mul_right _ h2
        have h4 : (2 : Nat) ^ (7 * 10) = 1180591620717411303424 := by decide
        omega
    by_cases hlow : v < 128
    · have hsl := shortB_low hlow
      rw [hsl] at hs ⊢
      have e : (UInt8.ofNat v).toNat = v := by simp; omega
      rw [List.cons_append, List.nil_append, rtakeN_cons, e, Nat.mod_eq_of_lt hlow, hV, Nat.mod_eq_of_lt hlt, if_neg (by omega), if_pos hlow, if_pos]
      rw [hs, ← hp, List.take_append, List.take_of_length_le (by omega)]
      simp
    · have hsl := shortB_high hlow
      rw [hsl] at hs ⊢
      have e : (UInt8.ofNat (v % 128 + 128)).toNat = v % 128 + 128 := by simp; omega
      have e2 : (v % 128 + 128) % 128 = v % 128 := by omega
      have hd : v = 128 * (v / 128) + v % 128 := (Nat.div_add_mod v 128).symm
      have hm : v * 2 ^ (7 * i) = v / 128 * 2 ^ (7 * (i + 1)) + v % 128 * 2 ^ (7 * i) := by
        rw [pow_split]
        conv => lhs; rw [hd]
        rw [Nat.add_mul]
        congr 1
        rw [Nat.mul_comm 128, Nat.mul_assoc]
      have hq : 2 ^ (7 * (i + 1)) < 18446744073709551616 := by
        have h1 : 1 * 2 ^ (7 * (i + 1)) ≤ v / 128 * 2 ^ (7 * (i + 1)) := Nat.mul_le_mul_right _ (by omega)
        omega
      have hn1 : n + v % 128 * 2 ^ (7 * i) < 18446744073709551616 := by omega
      have hq2 : 2 ^ (7 * i) * 128 = 2 ^ (7 * (i + 1)) := by rw [pow_split, Nat.mul_comm]
      rw [List.cons_append, rtakeN_cons, e, e2, if_neg (by omega), if_neg (by omega), hq2, Nat.mod_eq_of_lt hq, Nat.mod_eq_of_lt hn1]
      cases k with
      | zero => omega
      | succ k =>
        have := rtakeN_short k (v / 128) (i + 1) (n + v % 128 * 2 ^ (7 * i)) V (pre ++ [UInt8.ofNat (v % 128 + 128)]) r (by omega) (by simp [hp]) (by omega) hlt (by rw [hs]; simp) (by omega)
        rw [List.append_assoc] at this
        exact this
/-- What was made short is read back. -/
theorem rtake_short {v : Nat} (h : v < 18446744073709551616) (r : List UInt8) : rtakeB (shortB v ++ r) = some (v, r) :=
  rtakeN_short v v 0 0 v [] r (Nat.le_refl _) rfl (by simp) h rfl (fun _ => rfl)
theorem rtakeN_rest : ∀ {whole l : List UInt8} {i n p m : Nat} {r : List UInt8}, rtakeN whole l i n p = some (m, r) → r.length < l.length ∧ m < 18446744073709551616
  | _, [], _, _, _, _, _, h => by simp [rtakeN] at h
  | whole, c :: l, i, n, p, m, r, h => by
    rw [rtakeN_cons] at h
    split at h
    · cases h
    · split at h
      · split at h
        · simp only [Option.some.injEq, Prod.mk.injEq] at h
          obtain ⟨rfl, rfl⟩ := h
          exact ⟨by simp, Nat.mod_lt _ (by omega)⟩
        · cases h
      · obtain ⟨h1, h2⟩ := rtakeN_rest h
        exact ⟨by simp; omega, h2⟩
end Go.Scree
namespace Go.Proofs.Ytdmdnhceiddcfaa
open Go.RowKit Go.Sl Go.Scree

set_option maxRecDepth 20000 in
set_option maxHeartbeats 3200000 in
theorem rshort_c (n : Nat) (hn : n < 18446744073709551616) (w : World) :
    Calls Try.prog 50 #[.int .u64 n] w fun e w' => e = .returned (.string ⟨(shortB n).toArray⟩) ∧ Kp w w' := by
  have hnH := hid hn
  clear hn
  obtain ⟨i0, hi0, hz0, hz1, hz2⟩ := info_parts infoU8
  have o0 := hid (sl_empty' 5 byteE ((Own.start w).alloc (.cells #[] 5 (0, 0))))
  have x0 := hid ((Ext.refl w).alloc (.cells #[] 5 (0, 0)))
  go_enter Try.func50, Try.ntmps50
  go_wp2_with fail
  go_loopw [0, 3] (fun m b wr => ∃ (k : Nat) (l : List UInt8), m = .int .u64 k ∧ k ≤ n ∧ l ++ shortB k = shortB n ∧ Own wr [sl 5 byteE b l, base w w.heap.size] ∧ Ext w wr) (fun m b wr => (intOf m).toNat)
  case atStart => exact ⟨n, [], rfl, Nat.le_refl _, rfl, o0.out, x0.out⟩
  case round =>
    clear o0 x0
    obtain ⟨k, l, rfl, hk, hs, ok, ek⟩ := hrel
    obtain ⟨A1, n1, k1, rfl⟩ := sl_shape ok
    have okH := hid ok
    have hsH := hid hs
    have hl10 : l.length ≤ 10 := by have := shortB_le hnH.out; rw [← hs, List.length_append] at this; omega
    clear ok hs
    by_cases hlt : k < 128
    · have dk : decide ((k : Int) > 127) = false := decide_eq_false (by omega)
      go_wp2_with (refine wpList_append_slc rfl _ _ _ rfl 5 i0 _ 1 1 Try.underlying83 hi0 hz0 hz1 hz2 rfl (by omega) _ _ _ rfl (Own.allocd okH.out) ⟨wr.heap.size, 0, none⟩ 1 1 [.int .u8 k] rfl rfl ?c1 ?c2 ?c3 ?c4 ?_)
      case c1 => exact cells_new wr _ _ _
      case c2 => simp [Value.oneCell']
      case c3 => unfold maxLen; omega
      case c4 => omega
      intro v3 w3 o3 e3 _
      have o4 := sl_of (E := byteE) (l ++ [UInt8.ofNat k]) o3 (by simp) (by simp [byteE, Enc.flat]; omega)
      go_wp2_with (refine wpList_bytes_str rfl _ _ _ _ rfl Try.underlying83 Try.underlying5 Try.underlying9 _ _ rfl (sl_rd o4) ?_)
      go_ret
      refine ⟨?_, kp_of1 o4 ((ek.alloc _).trans e3)⟩
      rw [← hsH.out, shortB_low hlt]
      rfl
    · have hn64 := hnH.out
      have dk : decide ((k : Int) > 127) = true := decide_eq_true (by omega)
      have hw1 : IntKind.u64.wrap ((k : Int) % 128 + 128) = (k : Int) % 128 + 128 := Go.IntWalk.u64_in _ (by omega)
      have hw3 : IntKind.u64.wrap ((k : Int) / 128) = (k : Int) / 128 := Go.IntWalk.u64_in _ (by omega)
      have hw2 : ((k : Int) % 128 + 128) % 256 = (k : Int) % 128 + 128 := by omega
      go_wp2_with (refine wpList_append_slc rfl _ _ _ rfl 5 i0 _ 1 1 Try.underlying83 hi0 hz0 hz1 hz2 rfl (by omega) _ _ _ rfl (Own.allocd okH.out) ⟨wr.heap.size, 0, none⟩ 1 1 [.int .u8 ((k : Int) % 128 + 128)] rfl rfl ?c1 ?c2 ?c3 ?c4 ?_)
      case c1 => exact cells_new wr _ _ _
      case c2 => simp [Value.oneCell']
      case c3 => unfold maxLen; omega
      case c4 => omega
      intro v3 w3 o3 e3 _
      have o4 := sl_of (E := byteE) (l ++ [UInt8.ofNat (k % 128 + 128)]) o3 (by simp) (by simp [byteE, Enc.flat]; omega)
      obtain ⟨A4, n4, k4, rfl⟩ := sl_shape o4
      have o4H := hid o4
      clear o3 o4
      go_wp2
      go_roundw
      case rel => exact ⟨k / 128, _, by go_num, by omega, by rw [← hsH.out, shortB_high hlt]; simp, o4H.out, (ek.alloc _).trans e3⟩
      case measure => simp [intOf]; omega
theorem rtxt_c (s : ByteArray) (hs : s.size ≤ 1000000) (w : World) :
    Calls Try.prog 51 #[.string s] w fun e w' => e = .returned (.string (⟨(shortB s.size).toArray⟩ ++ s)) ∧ Kp w w' := by
  have h1 := hid (rshort_c s.size (by omega) w)
  have hl := shortB_le (n := s.size) (by omega)
  have hsz : (⟨(shortB s.size).toArray⟩ : ByteArray).size ≤ 10 := by show (shortB s.size).toArray.size ≤ 10; rw [List.size_toArray]; exact hl
  go_enter Try.func51, Try.ntmps51
  go_wp2_with fail
  refine h1.out.mono ?_
  rintro e w1 ⟨rfl, k1⟩
  go_wp2_with fail
  go_ret
  exact ⟨rfl, k1⟩
end Go.Proofs.Ytdmdnhceiddcfaa
namespace Go.Proofs.Ytdmdnhceiddcfaa
open Go.RowKit Go.Sl Go.Scree

theorem extract_to' (s : ByteArray) (k : Nat) : s.extract 0 k = ⟨(s.data.toList.take k).toArray⟩ := by
  have h : (s.extract 0 k).data.toList = s.data.toList.take k := by rw [Lib.extract_data]; simp
  cases he : s.extract 0 k with
  | mk d => rw [he] at h; congr 1; exact Array.toList_inj.1 h
theorem wrap_nat (a : Nat) : IntKind.u64.wrap (a : Int) = ((a % 18446744073709551616 : Nat) : Int) := by
  simp only [IntKind.wrap, IntKind.bits, IntKind.signed]
  simp
theorem two_cases (p : Prop) [Decidable p] : p ∨ ¬p := by by_cases h : p; exact .inl h; exact .inr h
set_option maxRecDepth 20000 in
set_option maxHeartbeats 6400000 in
theorem rtake_c (s : ByteArray) (w : World) (hs : s.size ≤ maxLen) :
    Calls Try.prog 74 #[.string s] w fun e w' => e = .returned (takeV (rtakeB s.data.toList)) ∧ Kp w w' := by
  unfold maxLen at hs
  go_enter Try.func74, Try.ntmps74
  go_wp2
  go_loopw [5, 6, 7, 8] (fun n p i _ wr => ∃ (k m q : Nat), k ≤ s.size ∧ k ≤ 10 ∧ i = .int .i64 k ∧ n = .int .u64 m ∧ p = .int .u64 q ∧ rtakeB s.data.toList = rtakeN s.data.toList (s.data.toList.drop k) k m q ∧ Kp w wr) (fun _ _ i _ _ => s.size - (intOf i).toNat)
  case atStart => exact ⟨0, 0, 1, Nat.zero_le _, Nat.zero_le _, rfl, rfl, rfl, rfl, Kp.refl _⟩
  case round =>
    obtain ⟨k, m, q, hk, hk10, rfl, rfl, rfl, ht, ek⟩ := hrel
    have htH := hid ht
    have ekH := hid ek
    clear ht ek
    by_cases hlt : k < s.size
    · have hlt' : (k : Int) < (s.size : Int) := by omega
      have hdrop : s.data.toList.drop k = s[k] :: s.data.toList.drop (k + 1) := List.drop_eq_getElem_cons (by simpa using hlt)
      have hc256 : s[k].toNat < 256 := s[k].toNat_lt
      have ht2 := htH.out
      rw [hdrop, rtakeN_cons] at ht2
      clear htH hdrop
      by_cases h10 : k < 10
      · have h10' : (k : Int) < 10 := by omega
        obtain ⟨cb, hcb⟩ : ∃ c : UInt8, s[k] = c := ⟨_, rfl⟩
        rw [hcb] at ht2 hc256
        obtain ⟨c, hc⟩ : ∃ c : Nat, cb.toNat = c := ⟨_, rfl⟩
        have hcw : IntKind.u64.wrap (s[k].toNat : Int) = (c : Int) := by rw [hcb, hc]; exact Go.IntWalk.u64_in _ (by omega)
        rw [hc] at hc256 ht2
        rw [if_neg (by omega)] at ht2
        obtain ⟨low, hlow⟩ : ∃ l : Nat, c % 128 = l := ⟨_, rfl⟩
        rw [hlow] at ht2
        have hm0 : (c : Int) % 128 = (low : Int) := by omega
        obtain ⟨v, hv⟩ : ∃ v : Nat, low * q % 18446744073709551616 = v := ⟨_, rfl⟩
        obtain ⟨z, hz⟩ : ∃ z : Nat, (m + low * q) % 18446744073709551616 = z := ⟨_, rfl⟩
        obtain ⟨q2, hq2⟩ : ∃ z : Nat, q * 128 % 18446744073709551616 = z := ⟨_, rfl⟩
        rw [hz, hq2] at ht2
        have hm1 : IntKind.u64.wrap ((low : Int) * (q : Int)) = (v : Int) := by
          rw [← hv]
          have e : ((low : Int) * (q : Int)) = ((low * q : Nat) : Int) := by push_cast; rfl
          rw [e, wrap_nat]
        have hm2 : IntKind.u64.wrap ((m : Int) + (v : Int)) = (z : Int) := by
          rw [← hz, ← hv]
          rw [← Int.natCast_add, wrap_nat, Nat.add_mod_mod]
        have hm3 : IntKind.u64.wrap ((q : Int) * 128) = (q2 : Int) := by
          rw [← hq2]
          have e : ((q : Int) * 128) = ((q * 128 : Nat) : Int) := by push_cast; rfl
          rw [e, wrap_nat]
        have hz64 : z < 18446744073709551616 := by rw [← hz]; exact Nat.mod_lt _ (by omega)
        have hsh := hid (fun w => rshort_c z hz64 w)
        have htH := hid ht2
        clear ht2 hv hz hq2 hlow hc hcb hz64
        by_cases h128 : c < 128
        · have hc1 : decide ((c : Int) < 128) = true := decide_eq_true (by omega)
          have htt := htH.out
          rw [if_pos h128] at htt
          clear htH
          have hk1 : IntKind.i64.wrap ((k : Int) + 1) = (k : Int) + 1 := Go.IntWalk.i64_in _ (by omega)
          have hk2 : ((k : Int) + 1).toNat = k + 1 := by omega
          have hk3 : (0 : Int) ≤ (k : Int) + 1 := by omega
          have hk4 : (k : Int) + 1 ≤ (s.size : Int) := by omega
          have hex := hid (extract_from' s (k + 1))
          have hto := extract_to' s (k + 1)
          have hcs := two_cases (shortB z = s.data.toList.take (k + 1))
          rcases hcs with hcs | hcs
          · rw [if_pos hcs] at htt
            rw [← hcs] at hto
            have hne : (shortB z == (s.extract 0 (k + 1)).toList) = true := by rw [hto]; simp
            have htH := hid htt
            clear htt hto hcs
            go_wp2_with fail
            refine wp_region_kp (by kernel_rfl) (by kernel_rfl) ?_
            repeat (go_big_quiet_step ((go_at_call 50; exact kpw_of _ (hsh.out _))))
            refine wpQuiet_nil ?_
            intro _ hw'
            obtain ⟨⟨w7, k7⟩, rfl⟩ := hw'
            have k7H := hid (ekH.out.trans k7)
            clear k7
            go_wp2_with fail
            go_quiet (fail)
            clear hk1 hk2
            go_wp2
            go_ret3
            rw [htH.out, hex.out]
            exact ⟨rfl, k7H.out.drewN _⟩
          · rw [if_neg hcs] at htt
            have hne : (shortB z == (s.extract 0 (k + 1)).toList) = false := by
              rw [hto, beq_eq_false_iff_ne]
              intro h
              exact hcs (by simpa using h)
            have htH := hid htt
            clear htt hto hcs
            go_wp2_with fail
            refine wp_region_kp (by kernel_rfl) (by kernel_rfl) ?_
            repeat (go_big_quiet_step ((go_at_call 50; exact kpw_of _ (hsh.out _))))
            refine wpQuiet_nil ?_
            intro _ hw'
            obtain ⟨⟨w7, k7⟩, rfl⟩ := hw'
            have k7H := hid (ekH.out.trans k7)
            clear k7
            go_wp2_with fail
            go_ret3
            rw [htH.out]
            exact ⟨rfl, k7H.out⟩
        · have hc1 : decide ((c : Int) < 128) = false := decide_eq_false (by omega)
          have htt := htH.out
          rw [if_neg h128] at htt
          have htH2 := hid htt
          clear htt htH
          go_wp2_with fail
          go_roundw
          case rel => exact ⟨k + 1, z, q2, by omega, by omega, by go_num, rfl, rfl, htH2.out, ekH.out⟩
          case measure => simp only [intOf]; omega
      · obtain rfl : k = 10 := by omega
        rw [if_pos (by omega)] at ht2
        have htH := hid ht2
        clear ht2
        go_wp2_with fail
        go_ret3
        rw [htH.out]
        exact ⟨rfl, ekH.out⟩
    · have hnil : s.data.toList.drop k = [] := List.drop_eq_nil_of_le (by rw [size_list']; omega)
      have ht2 := htH.out
      rw [hnil] at ht2
      have htH2 := hid ht2
      have dk : decide ((k : Int) < (s.size : Int)) = false := decide_eq_false (by omega)
      clear ht2 hnil htH
      go_wp2_with fail
      go_ret3
      rw [htH2.out]
      exact ⟨rfl, ekH.out⟩
end Go.Proofs.Ytdmdnhceiddcfaa
namespace Go.Proofs.Ytdmdnhceiddcfaa
open Go.RowKit Go.Sl Go.Scree

def rnumR (s : RdS) : Nat × RdS :=
  match rtakeB s.1 with
  | none => (0, (s.1, true))
  | some (n, r) => if s.2 = true then (0, (s.1, true)) else (n, (r, s.2))
def rtextR (s : RdS) : ByteArray × RdS :=
  if (rnumR s).2.2 = true ∨ (rnumR s).2.1.length < (rnumR s).1 then (⟨#[]⟩, ((rnumR s).2.1, true)) else (⟨((rnumR s).2.1.take (rnumR s).1).toArray⟩, ((rnumR s).2.1.drop (rnumR s).1, (rnumR s).2.2))
/-- The document's reader holds these bytes yet. -/
def RinC (s : RdS) : Obj := .cells #[.string ⟨s.1.toArray⟩, .bool s.2] 100 (0, 0)
def RinO (w : World) (b : Nat) (s : RdS) (F : List Chunk) : Prop := Own w (pts b (.cells #[.string ⟨s.1.toArray⟩, .bool s.2] 100 (0, 0)) :: F)
theorem rnumR_len (s : RdS) : (rnumR s).2.1.length ≤ s.1.length := by
  unfold rnumR
  split
  · exact Nat.le_refl _
  · rename_i n r h
    split
    · exact Nat.le_refl _
    · exact Nat.le_of_lt (rtakeN_rest h).1
theorem rnumR_lt (s : RdS) : (rnumR s).1 < 18446744073709551616 := by
  unfold rnumR
  split
  · exact Nat.succ_pos _
  · rename_i n r h
    split
    · exact Nat.succ_pos _
    · exact (rtakeN_rest h).2
theorem rtextR_len (s : RdS) : (rtextR s).2.1.length ≤ s.1.length := by
  have h := rnumR_len s
  unfold rtextR
  split
  · exact h
  · show (List.drop _ _).length ≤ _
    rw [List.length_drop]; omega
set_option maxRecDepth 20000 in
set_option maxHeartbeats 3200000 in
theorem dnum_c (b : Nat) (s : RdS) (w : World) (F : List Chunk) (h : RinO w b s F) (hs : s.1.length ≤ 1000000) :
    Calls Try.prog 54 #[.pointer (some ⟨b, 0, none⟩)] w fun e w' => e = .returned (.int .u64 (rnumR s).1) ∧ RinO w' b (rnumR s).2 F ∧ Ext w w' := by
  obtain ⟨l, bad⟩ := s
  dsimp only at hs
  have c0 : w.cell? ⟨b, 0, none⟩ = some (.string ⟨l.toArray⟩) := Own.cell (i := 0) h rfl
  have ht := hid (rtake_c ⟨l.toArray⟩ w (by simp [ByteArray.size, maxLen]; omega))
  have h0 := hid h
  clear h hs
  have hx := bool_cases bad
  cases htk : rtakeB l with
  | none =>
    have hr : Hid (rnumR (l, bad) = (0, (l, true))) := hid (by unfold rnumR; rw [htk])
    have ht2 : Hid (Calls Try.prog 74 #[.string ⟨l.toArray⟩] w fun e w' => e = .returned (.tuple #[.int .u64 0, .string ⟨#[]⟩, .bool false]) ∧ RinO w' b (l, bad) F ∧ Ext w w') := hid (by
      refine ht.out.mono ?_
      rintro e w' ⟨he, k'⟩
      refine ⟨?_, k'.own h0.out, k'.ext⟩
      rw [he]
      show Ending.returned (takeV (rtakeB l)) = _
      rw [htk]; rfl)
    clear ht htk
    rcases hx with rfl | rfl
    all_goals
      go_enter Try.func54, Try.ntmps54
      go_wp2_with fail
      refine ht2.out.mono ?_
      rintro e w1 ⟨rfl, o1, e1⟩
      have d1 : w1.cell? ⟨b, 1, none⟩ = some (.bool _) := Own.cell (i := 1) o1 rfl
      have f1 : w1.frozen? ⟨b, 1, none⟩ = false := Own.free o1 1
      have o1H := hid o1
      clear o1
      go_wp2_with fail
      go_ret
      refine ⟨by rw [hr.out]; rfl, ?_, e1.set _ _⟩
      rw [hr.out]
      exact Own.set (i := 1) o1H.out (.bool true)
  | some p =>
    obtain ⟨n, r⟩ := p
    have ht2 : Hid (Calls Try.prog 74 #[.string ⟨l.toArray⟩] w fun e w' => e = .returned (.tuple #[.int .u64 n, .string ⟨r.toArray⟩, .bool true]) ∧ RinO w' b (l, bad) F ∧ Ext w w') := hid (by
      refine ht.out.mono ?_
      rintro e w' ⟨he, k'⟩
      refine ⟨?_, k'.own h0.out, k'.ext⟩
      rw [he]
      show Ending.returned (takeV (rtakeB l)) = _
      rw [htk]; rfl)
    have hr0 : Hid (rnumR (l, bad) = if bad = true then (0, (l, true)) else (n, (r, bad))) := hid (by unfold rnumR; rw [htk])
    clear ht htk
    rcases hx with rfl | rfl
    · have hr : Hid (rnumR (l, true) = (0, (l, true))) := hid (by rw [hr0.out, if_pos rfl])
      clear hr0
      go_enter Try.func54, Try.ntmps54
      go_wp2_with fail
      refine ht2.out.mono ?_
      rintro e w1 ⟨rfl, o1, e1⟩
      have d1 : w1.cell? ⟨b, 1, none⟩ = some (.bool true) := Own.cell (i := 1) o1 rfl
      have f1 : w1.frozen? ⟨b, 1, none⟩ = false := Own.free o1 1
      have o1H := hid o1
      clear o1
      go_wp2_with fail
      go_ret
      refine ⟨by rw [hr.out]; rfl, ?_, e1.set _ _⟩
      rw [hr.out]
      exact Own.set (i := 1) o1H.out (.bool true)
    · have hr : Hid (rnumR (l, false) = (n, (r, false))) := hid (by rw [hr0.out, if_neg (by simp)])
      clear hr0
      go_enter Try.func54, Try.ntmps54
      go_wp2_with fail
      refine ht2.out.mono ?_
      rintro e w1 ⟨rfl, o1, e1⟩
      have d0 : w1.cell? ⟨b, 0, none⟩ = some (.string ⟨l.toArray⟩) := Own.cell (i := 0) o1 rfl
      have d1 : w1.cell? ⟨b, 1, none⟩ = some (.bool false) := Own.cell (i := 1) o1 rfl
      have f0 : w1.frozen? ⟨b, 0, none⟩ = false := Own.free o1 0
      have o1H := hid o1
      clear o1
      go_wp2_with fail
      go_ret
      refine ⟨by rw [hr.out]; rfl, ?_, e1.set _ _⟩
      rw [hr.out]
      exact Own.set (i := 0) o1H.out (.string ⟨r.toArray⟩)
set_option maxRecDepth 20000 in
set_option maxHeartbeats 3200000 in
theorem dtext_c (b : Nat) (s : RdS) (w : World) (F : List Chunk) (h : RinO w b s F) (hs : s.1.length ≤ 1000000) :
    Calls Try.prog 55 #[.pointer (some ⟨b, 0, none⟩)] w fun e w' => e = .returned (.string (rtextR s).1) ∧ RinO w' b (rtextR s).2 F ∧ Ext w w' := by
  have hn := hid (dnum_c b s w F h hs)
  have hl := rnumR_len s
  have hm := rnumR_lt s
  have ht : Hid (rtextR s = if (rnumR s).2.2 = true ∨ (rnumR s).2.1.length < (rnumR s).1 then (⟨#[]⟩, ((rnumR s).2.1, true)) else (⟨((rnumR s).2.1.take (rnumR s).1).toArray⟩, ((rnumR s).2.1.drop (rnumR s).1, (rnumR s).2.2))) := hid rfl
  generalize rtextR s = tr at *
  generalize rnumR s = q at *
  obtain ⟨n, l, bad⟩ := q
  dsimp only at hn hl hm ht
  clear h
  have hx := bool_cases bad
  have hsz : (⟨l.toArray⟩ : ByteArray).size = l.length := by simp [ByteArray.size]
  have hw2 : IntKind.u64.wrap (l.length : Int) = l.length := Go.IntWalk.u64_in _ (by omega)
  by_cases hb : bad = true ∨ l.length < n
  · have hr := hid (ht.out.trans (if_pos hb))
    clear ht
    have hd : bad = true ∨ bad = false ∧ l.length < n := by
      rcases hx with rfl | rfl
      · exact .inl rfl
      · exact .inr ⟨rfl, by rcases hb with h | h; cases h; omega⟩
    clear hb hx
    rcases hd with rfl | ⟨rfl, d⟩
    all_goals
      go_enter Try.func55, Try.ntmps55
      go_wp2_with fail
      refine hn.out.mono ?_
      rintro e w1 ⟨rfl, o1, e1⟩
      have d0 : w1.cell? ⟨b, 0, none⟩ = some (.string ⟨l.toArray⟩) := Own.cell (i := 0) o1 rfl
      have d1 : w1.cell? ⟨b, 1, none⟩ = some (.bool _) := Own.cell (i := 1) o1 rfl
      have f1 : w1.frozen? ⟨b, 1, none⟩ = false := Own.free o1 1
      have o1H := hid o1
      clear o1
      go_wp2_with fail
      go_ret
      refine ⟨by rw [hr.out]; rfl, ?_, e1.set _ _⟩
      rw [hr.out]
      exact Own.set (i := 1) o1H.out (.bool true)
  · have hr := hid (ht.out.trans (if_neg hb))
    clear ht
    obtain rfl : bad = false := by rcases hx with rfl | rfl; exact absurd (.inl rfl) hb; rfl
    have d : ¬ l.length < n := fun h => hb (.inr h)
    have d2 : n ≤ l.length := by omega
    have hw : IntKind.i64.wrap (n : Int) = n := Go.IntWalk.i64_in _ (by omega)
    clear hb hx
    go_enter Try.func55, Try.ntmps55
    go_wp2_with fail
    refine hn.out.mono ?_
    rintro e w1 ⟨rfl, o1, e1⟩
    have d0 : w1.cell? ⟨b, 0, none⟩ = some (.string ⟨l.toArray⟩) := Own.cell (i := 0) o1 rfl
    have d1 : w1.cell? ⟨b, 1, none⟩ = some (.bool false) := Own.cell (i := 1) o1 rfl
    have f0 : w1.frozen? ⟨b, 0, none⟩ = false := Own.free o1 0
    have o1H := hid o1
    clear o1
    go_wp2_with fail
    have hx0 : (⟨l.toArray⟩ : ByteArray).extract 0 n = ⟨(l.take n).toArray⟩ := extract_head l n
    have hx1 : (⟨l.toArray⟩ : ByteArray).extract n l.length = ⟨(l.drop n).toArray⟩ := by
      have := extract_from' ⟨l.toArray⟩ n
      rw [hsz] at this
      exact this
    rw [hx0, hx1]
    go_ret
    refine ⟨by rw [hr.out]; rfl, ?_, e1.set _ _⟩
    rw [hr.out]
    exact Own.set (i := 0) o1H.out (.string ⟨(l.drop n).toArray⟩)
end Go.Proofs.Ytdmdnhceiddcfaa
namespace Go.Proofs.Ytdmdnhceiddcfaa
open Go.RowKit Go.Sl Go.Scree

theorem str_app (a b : List UInt8) : (⟨a.toArray⟩ : ByteArray) ++ ⟨b.toArray⟩ = ⟨(a ++ b).toArray⟩ := by
  have h : ((⟨a.toArray⟩ : ByteArray) ++ ⟨b.toArray⟩).data = a.toArray ++ b.toArray := ByteArray.data_append
  cases he : (⟨a.toArray⟩ : ByteArray) ++ ⟨b.toArray⟩ with
  | mk d => rw [he] at h; congr 1; rw [← List.append_toArray]; exact h
theorem str_self (s : ByteArray) : s = ⟨s.data.toList.toArray⟩ := by cases s; simp
theorem numW_le {n : Nat} (h : n ≤ 1099511627776) : (numW n).length ≤ 10 := shortB_le (by omega)
theorem textW_le {s : ByteArray} (h : s.size ≤ 100) : (textW s).length ≤ 110 := by
  unfold textW
  rw [List.length_append, size_list']
  have := shortB_le (n := s.size) (by omega)
  omega
theorem metaW_le {m : MetaM} (h : mayB m = true) : (metaW m).length ≤ 250 := by
  obtain ⟨⟨m1, m2⟩, ⟨m3, m4⟩, ⟨m5, m6⟩, ⟨m7, m8⟩, m9, m10, m11⟩ := may_parts h
  have h1 := numW_le m2
  have h2 := numW_le (n := m.size.toNat) (by omega)
  have h3 := textW_le m6
  have h4 := textW_le m8
  have h5 := numW_le m11
  unfold metaW
  simp only [List.length_append]
  omega
theorem rtxt2_c (s : ByteArray) (hs : s.size ≤ 1000000) (w : World) :
    Calls Try.prog 51 #[.string s] w fun e w' => e = .returned (.string ⟨(textW s).toArray⟩) ∧ Kp w w' := by
  refine (rtxt_c s hs w).mono ?_
  rintro e w' ⟨rfl, k⟩
  refine ⟨?_, k⟩
  have : (⟨(shortB s.size).toArray⟩ : ByteArray) ++ s = ⟨(textW s).toArray⟩ := by
    conv => lhs; rhs; rw [str_self s]
    rw [str_app]; rfl
  rw [this]
theorem allB_not {nw : Lvls} {l : Nat} (hl : l < 4) {m : MetaM} (hm : m ∈ nw l) (h : mayB m = false) : allB nw = false := by
  cases hb : allB nw with
  | false => rfl
  | true => have := List.all_eq_true.1 hb m (mem_flat.2 ⟨l, hl, hm⟩); rw [h] at this; cases this
set_option maxRecDepth 20000 in
set_option maxHeartbeats 12800000 in
theorem rencode_c (g : SlA) (S : Nat → SlA) (E : EditM) (w : World) (h : EditR w g S E) :
    Calls Try.prog 22 #[editV g S E] w fun e w' => EncSays w w' e E := by
  have hH := hid h
  have hgn := rd_len h.gone
  have o0 := (Own.start w).alloc (.cells (editCells g S E) 34 (0, 0))
  have k0 := hid ((Kp.refl w).alloc (.cells (editCells g S E) 34 (0, 0)))
  have e0 := o0.cell (i := 0) (v := .slice g.A g.n g.c) rfl
  have e5 := o0.cell (i := 5) (v := .int .u64 E.next) rfl
  have e6 := o0.cell (i := 6) (v := .int .u64 E.log) rfl
  have e7 := o0.cell (i := 7) (v := .int .u64 E.seq) rfl
  have elv : ∀ l, l < 4 → (w.alloc (.cells (editCells g S E) 34 (0, 0))).cell? ⟨w.heap.size, 1 + l, none⟩ = some (.slice (S l).A (E.nw l).length (S l).c) := fun l hl => by
    rw [← rd_len (h.nw l hl)]
    exact o0.cell (edit_at g S E hl)
  rw [hgn] at e0
  obtain ⟨gA, gn, gc⟩ := g
  dsimp only at hgn
  subst hgn
  clear h o0
  unfold editV
  have bad : Hid (∀ w', Kp w w' → encOk E = false → EncSays w w' (.returned (.tuple #[.string ⟨#[]⟩, .int .i64 2])) E) := hid (fun w' k h => ⟨k, by rw [h]; rfl⟩)
  by_cases hok : E.next ≤ 1099511627776 ∧ E.log ≤ 1099511627776 ∧ E.seq ≤ 1099511627776 ∧ E.gone.length ≤ 120
  · obtain ⟨b2, b3, b4, b5⟩ := hok
    have g2 : decide ((E.next : Int) > 1099511627776) = false := decide_eq_false (by omega)
    have g3 : decide ((E.log : Int) > 1099511627776) = false := decide_eq_false (by omega)
    have g4 : decide ((E.seq : Int) > 1099511627776) = false := decide_eq_false (by omega)
    have g5 : decide ((E.gone.length : Int) > 120) = false := decide_eq_false (by omega)
    have hwr : IntKind.u64.wrap (E.gone.length : Int) = E.gone.length := Go.IntWalk.u64_in _ (by omega)
    have b5H := hid b5
    have b2H := hid b2
    have b3H := hid b3
    have b4H := hid b4
    have l1 := numW_le b2
    have l2 := numW_le b3
    have l3 := numW_le b4
    have l4 := numW_le (n := E.gone.length) (by omega)
    unfold numW at l1 l2 l3 l4
    have hsh := hid (fun n hn w => rshort_c n hn w)
    go_enter Try.func22, Try.ntmps22
    go_upto_region 3 with fail
    obtain ⟨w0, hw0⟩ : ∃ w0, w0 = w.alloc (.cells (editCells ⟨gA, E.gone.length, gc⟩ S E) 34 (0, 0)) := ⟨_, rfl⟩
    have hw0' := hw0
    unfold editCells at hw0'
    rw [← hw0']
    rw [← hw0] at k0 e0 e5 e6 e7 elv
    clear hw0'
    generalize heb : w.heap.size = eb at *
    go_cut [4] from 28 to 44 (fun s4 wx => s4 = .string ⟨(((headL E).map numW).flatten).toArray⟩ ∧ Kp w0 wx)
    case first =>
      have e0u := fun u : KpW w0 => u.kp.cell e0
      have e5u := fun u : KpW w0 => u.kp.cell e5
      have e6u := fun u : KpW w0 => u.kp.cell e6
      have e7u := fun u : KpW w0 => u.kp.cell e7
      refine wp_region_kp (by kernel_rfl) (by kernel_rfl) ?_
      repeat (go_big_quiet_step ((go_at_call 50; exact kpw_of _ (hsh.out _ (by omega) _))))
      refine wpQuiet_nil ?_
      intro _ hw'
      obtain ⟨⟨w7, k7⟩, rfl⟩ := hw'
      have k7H := hid k7
      clear k7 e0u e5u e6u e7u
      (try go_wp2_with fail)
      go_meet
      case rel => exact ⟨by rw [str_app, str_app, str_app]; simp [headL, numW], k7H.out⟩
    case rest =>
    obtain ⟨rfl, kc⟩ := hcut
    have kcH := hid kc
    have e0H := hid e0
    have elH := hid elv
    have hl0 : Hid ((((headL E).map numW).flatten).length ≤ 40) := hid (by
      simp only [headL, List.map_cons, List.map_nil, List.flatten_cons, List.flatten_nil, List.length_append, List.length_nil]
      unfold numW
      omega)
    have hL0 : Hid (encW E = ((headL E).map numW).flatten ++ ((E.gone.map numW).flatten ++ (four.map fun l => levelW (E.nw l)).flatten)) := hid rfl
    generalize ((headL E).map numW).flatten = L at *
    clear kc g2 g3 g4 g5 hwr b2 b3 b4 b5 l1 l2 l3 l4 e0 e5 e6 e7 elv hw0 heb
    go_wp2_with fail
    go_loopw [2, 3, 4, 5] (fun _ _ s4 i wr => ∃ (k : Nat) (M : List UInt8), k ≤ E.gone.length ∧ i = .int .i64 k ∧ s4 = .string ⟨M.toArray⟩ ∧ Kp w0 wr ∧ M = L ++ ((E.gone.take k).map numW).flatten ∧ M.length ≤ 40 + 10 * k ∧ ∀ j x, j < k → E.gone[j]? = some x → x ≤ 1099511627776) (fun _ _ _ i _ => E.gone.length - (intOf i).toNat)
    case atStart => exact ⟨0, _, by omega, rfl, rfl, kcH.out, by simp, by have := hl0.out; omega, fun j x hj => by omega⟩
    case round =>
      clear kcH hl0
      obtain ⟨k, M, hk, rfl, rfl, kr, hM, hl, ha⟩ := hrel
      have krH := hid kr
      have hMH := hid hM
      have hlH := hid hl
      have haH := hid ha
      clear kr hM hl ha
      have c0 := krH.out.cell e0H.out
      by_cases hlt : k < E.gone.length
      · have hlt' : (k : Int) < E.gone.length := by omega
        have hk9 : k < 1000 := by have := b5H.out; omega
        obtain ⟨x, hx⟩ : ∃ x, E.gone[k]? = some x := ⟨_, List.getElem?_eq_getElem hlt⟩
        have hrg := (k0.out.trans krH.out).rd hH.out.gone
        unfold SlA.v at hrg
        obtain ⟨go, off, hA, _, a0⟩ := rd_num hrg rfl hx
        dsimp only at hA
        subst hA
        have hxH := hid hx
        clear hrg hx
        by_cases hbig : x ≤ 1099511627776
        · have g6 : decide ((x : Int) > 1099511627776) = false := decide_eq_false (by omega)
          have hw := hid (fun w => hsh.out x (by omega) w)
          have hbH := hid hbig
          have lx := numW_le hbig
          unfold numW at lx
          have lxH := hid lx
          have lM : M.length ≤ 11000 := by have := hlH.out; omega
          clear hbig
          go_wp2_with fail
          refine (hw.out _).mono ?_
          rintro e w3 ⟨rfl, k3⟩
          have k3H := hid (krH.out.trans k3)
          clear k3 hw a0 c0
          go_wp2_with fail
          rw [str_app]
          go_roundw
          case rel =>
            refine ⟨k + 1, _, by omega, by go_num, rfl, k3H.out, by rw [map_one numW hxH.out, hMH.out, List.append_assoc]; rfl, by have := hlH.out; have := lxH.out; rw [List.length_append]; omega, fun j y hj hy => ?_⟩
            rcases Nat.lt_or_ge j k with h' | h'
            · exact haH.out j y h' hy
            · obtain rfl : j = k := by omega
              rw [hxH.out] at hy
              cases hy
              exact hbH.out
          case measure => simp [intOf]; omega
        · have g6 : decide ((x : Int) > 1099511627776) = true := decide_eq_true (by omega)
          have hbd := hid (bad.out wr (k0.out.trans krH.out) (by
            have hng : E.gone.all (fun n => decide (n ≤ big40)) = false := by
              rw [List.all_eq_false]
              exact ⟨x, List.mem_of_getElem? hxH.out, fun h => hbig (of_decide_eq_true h)⟩
            unfold encOk
            rw [hng]
            simp))
          go_wp2_with fail
          refine bodyPost_ret (by simp [results, Try.results22, go_sem]; rfl) rfl ?_
          exact hbd.out
      · obtain rfl : k = E.gone.length := by omega
        have hga : Hid (E.gone.all (fun n => decide (n ≤ big40)) = true) := hid (by
          rw [List.all_eq_true]
          intro x hx
          obtain ⟨j, hj, rfl⟩ := List.getElem_of_mem hx
          exact decide_eq_true (haH.out j _ hj (List.getElem?_eq_getElem hj)))
        have hM2 : Hid (M = L ++ (E.gone.map numW).flatten) := hid (by rw [hMH.out, List.take_length])
        have hl2 : Hid (M.length ≤ 1240) := hid (by have := hlH.out; have := b5H.out; omega)
        clear hMH hlH haH
        go_wp2_with fail
        go_loopw [2, 3, 4, 6, 7, 8] (fun _ _ s4 i _ _ wr => ∃ (l : Nat) (N : List UInt8), l ≤ 4 ∧ i = .int .i64 l ∧ s4 = .string ⟨N.toArray⟩ ∧ Kp w0 wr ∧ N = M ++ ((four.take l).map fun l => levelW (E.nw l)).flatten ∧ N.length ≤ 1240 + 10000 * l ∧ ∀ j, j < l → (E.nw j).length ≤ 30 ∧ ∀ m ∈ E.nw j, mayB m = true) (fun _ _ _ i _ _ _ => 4 - (intOf i).toNat)
        case atStart => exact ⟨0, _, by omega, rfl, rfl, krH.out, by simp, by have := hl2.out; omega, fun j hj => by omega⟩
        case round =>
          clear krH hl2 c0
          obtain ⟨l, N, hl, rfl, rfl, kr, hN, hnl, ha⟩ := hrel
          have krH := hid kr
          have hNH := hid hN
          have hnlH := hid hnl
          have haH := hid ha
          clear kr hN hnl ha
          by_cases hlt : l < 4
          · have hlt' : (l : Int) < 4 := by omega
            have hl63 : l < 1000 := by omega
            have cl := elH.out l hlt
            have hrl := hid (hH.out.nw l hlt)
            have hxl : four[l]? = some l := by rcases (by omega : l = 0 ∨ l = 1 ∨ l = 2 ∨ l = 3) with rfl | rfl | rfl | rfl <;> rfl
            have hN1 := hid (map_one (fun l => levelW (E.nw l)) hxl)
            have hst : Hid ((E.nw l).length ≤ 30 → (∀ m ∈ E.nw l, mayB m = true) → ∀ j, j < l + 1 → (E.nw j).length ≤ 30 ∧ ∀ m ∈ E.nw j, mayB m = true) := hid (fun h1 h2 j hj => by
              rcases Nat.lt_or_ge j l with h' | h'
              · exact haH.out j h'
              · obtain rfl : j = l := by omega
                exact ⟨h1, h2⟩)
            have hb30 : Hid (30 < (E.nw l).length → encOk E = false) := hid (fun h => by
              have : fewB E.nw = false := by
                unfold fewB
                rw [List.all_eq_false]
                exact ⟨l, List.mem_of_getElem? hxl, fun h2 => by have := of_decide_eq_true h2; omega⟩
              unfold encOk
              rw [this, Bool.and_false])
            have hbm : Hid (∀ m ∈ E.nw l, mayB m = false → encOk E = false) := hid (fun m hm h => by
              unfold encOk
              rw [allB_not hlt hm h]
              rfl)
            unfold SlA.v at hrl
            rw [rd_n (s := ⟨(S l).A, (S l).n, (S l).c⟩) hrl.out] at hrl
            generalize hys : E.nw l = ys at *
            have hysH := hid hys
            obtain ⟨sA, hsA⟩ : ∃ sA, sA = S l := ⟨_, rfl⟩
            rw [← hsA] at cl hrl
            clear hys hsA hxl
            have clH := hid cl
            have cl := krH.out.cell clH.out
            by_cases h30 : ys.length ≤ 30
            · have g7 : decide ((ys.length : Int) > 30) = false := decide_eq_false (by omega)
              have g7' : decide (30 < ys.length) = false := decide_eq_false (by omega)
              have hwl : IntKind.u64.wrap (ys.length : Int) = ys.length := Go.IntWalk.u64_in _ (by omega)
              have hw := hid (fun w => hsh.out ys.length (by omega) w)
              have lx := numW_le (n := ys.length) (by omega)
              unfold numW at lx
              have lxH := hid lx
              have lN : N.length ≤ 50000 := by have := hnlH.out; omega
              have h30H := hid h30
              clear h30
              go_wp2_with fail
              refine (hw.out _).mono ?_
              rintro e w3 ⟨rfl, k3⟩
              have k3H := hid (krH.out.trans k3)
              clear k3 hw cl
              go_wp2_with fail
              rw [str_app]
              go_loopw [2, 3, 4, 7, 8] (fun _ _ s4 i _ wz => ∃ (j : Nat) (P : List UInt8), j ≤ ys.length ∧ i = .int .i64 j ∧ s4 = .string ⟨P.toArray⟩ ∧ Kp w0 wz ∧ P = N ++ (numW ys.length ++ ((ys.take j).map metaW).flatten) ∧ P.length ≤ 1250 + 10000 * l + 250 * j ∧ ∀ m ∈ ys.take j, mayB m = true) (fun _ _ _ i _ _ => ys.length - (intOf i).toNat)
              case atStart => exact ⟨0, _, by omega, rfl, rfl, k3H.out, by simp; rfl, by have := hnlH.out; have := lxH.out; rw [List.length_append]; omega, by simp⟩
              case round =>
                clear k3H lxH lx lN g7 g7' hwl
                obtain ⟨j, P, hj, rfl, rfl, kz, hP, hpl, ham⟩ := hrel
                have kzH := hid kz
                have hPH := hid hP
                have hplH := hid hpl
                have hamH := hid ham
                clear kz hP hpl ham
                have cl := kzH.out.cell clH.out
                by_cases hjl : j < ys.length
                · have hjl' : (j : Int) < ys.length := by omega
                  have hj9 : j < 1000 := by have := h30H.out; omega
                  obtain ⟨x, hx⟩ : ∃ x, ys[j]? = some x := ⟨_, List.getElem?_eq_getElem hjl⟩
                  obtain ⟨gq, offq, hAq, _, a0, a1, a2, a3, a4⟩ := rd_meta ((k0.out.trans kzH.out).rd hrl.out) rfl hx
                  have hxH := hid hx
                  have hmay := hid (fun w => rmay_c x w)
                  have hbx := hid (hbm.out x (List.mem_of_getElem? hx))
                  have hmx := hid (@may_parts x)
                  have htk := hid (take_one hx)
                  have hmo := hid (map_one metaW hx)
                  have hnb := hid ((Kp.refl wr).alloc (.cells #[.int .u64 x.file, .int .i64 x.size, .string x.first, .string x.last, .int .u64 x.seq] 56 (0, 0)))
                  have ob := (Own.nil wr).alloc (.cells #[.int .u64 x.file, .int .i64 x.size, .string x.first, .string x.last, .int .u64 x.seq] 56 (0, 0))
                  have f0 := ob.cell (i := 0) (v := .int .u64 x.file) rfl
                  have f1 := ob.cell (i := 1) (v := .int .i64 x.size) rfl
                  have f2 := ob.cell (i := 2) (v := .string x.first) rfl
                  have f3 := ob.cell (i := 3) (v := .string x.last) rfl
                  have f4 := ob.cell (i := 4) (v := .int .u64 x.seq) rfl
                  unfold metaV at hmay
                  rw [hAq] at cl
                  clear hx hAq ob
                  go_wp2_with fail
                  refine (hmay.out _).mono ?_
                  rintro e w3 ⟨rfl, k3⟩
                  have k3H := hid ((kzH.out.trans hnb.out).trans k3)
                  have f0 := k3.cell f0
                  have f1 := k3.cell f1
                  have f2 := k3.cell f2
                  have f3 := k3.cell f3
                  have f4 := k3.cell f4
                  clear k3 hnb a0 a1 a2 a3 a4 cl
                  rcases bool_ways (mayB x) with hm | hm
                  · rw [hm]
                    have hbd := hid (bad.out w3 (k0.out.trans k3H.out) (hbx.out hm))
                    go_wp2_with fail
                    refine bodyPost_ret (by simp [results, Try.results22, go_sem]; rfl) rfl ?_
                    exact hbd.out
                  · rw [hm]
                    obtain ⟨⟨m1, m2⟩, ⟨m3, m4⟩, ⟨m5, m6⟩, ⟨m7, m8⟩, m9, m10, m11⟩ := hmx.out hm
                    have hmH := hid hm
                    have hws : IntKind.u64.wrap x.size = x.size := Go.IntWalk.u64_in _ (by omega)
                    have h1 := hid (fun w => hsh.out x.file (by omega) w)
                    have h5 := hid (fun w => hsh.out x.seq (by omega) w)
                    have h2 := hid (fun w => hsh.out x.size.toNat (by omega) w)
                    have hsz : ((x.size.toNat : Nat) : Int) = x.size := Int.toNat_of_nonneg (by omega)
                    rw [hsz] at h2
                    have h3 := hid (fun w => rtxt2_c x.first (by omega) w)
                    have h4 := hid (fun w => rtxt2_c x.last (by omega) w)
                    have q1 := numW_le m2
                    have q2 := numW_le (n := x.size.toNat) (by omega)
                    have q3 := textW_le m6
                    have q4 := textW_le m8
                    have q5 := numW_le m11
                    unfold numW at q1 q2 q5
                    have hml := hid (metaW_le hm)
                    have hmw : Hid (metaW x = shortB x.file ++ (shortB x.size.toNat ++ (textW x.first ++ (textW x.last ++ shortB x.seq)))) := hid rfl
                    have lP : P.length ≤ 100000 := by have := hplH.out; have := h30H.out; omega
                    generalize textW x.first = t1 at *
                    generalize textW x.last = t2 at *
                    generalize shortB x.file = s1 at *
                    generalize shortB x.size.toNat = s2 at *
                    generalize shortB x.seq = s5 at *
                    have f0u := fun u : KpW w3 => u.kp.cell f0
                    have f1u := fun u : KpW w3 => u.kp.cell f1
                    have f2u := fun u : KpW w3 => u.kp.cell f2
                    have f3u := fun u : KpW w3 => u.kp.cell f3
                    have f4u := fun u : KpW w3 => u.kp.cell f4
                    clear hm m1 m2 m3 m4 m5 m6 m7 m8 m9 m10 m11 hsz hmay hbx hmx
                    go_wp2_with fail
                    refine wp_region_kp (by kernel_rfl) (by kernel_rfl) ?_
                    iterate 4 (go_big_quiet_step ((go_at_call 50; exact kpw_of _ (h1.out _))))
                    iterate 4 (go_big_quiet_step ((go_at_call 50; exact kpw_of _ (h2.out _))))
                    iterate 4 (go_big_quiet_step ((go_at_call 51; exact kpw_of _ (h3.out _))))
                    iterate 4 (go_big_quiet_step ((go_at_call 51; exact kpw_of _ (h4.out _))))
                    iterate 4 (go_big_quiet_step ((go_at_call 50; exact kpw_of _ (h5.out _))))
                    repeat (go_big_quiet_step (fail))
                    refine wpQuiet_nil ?_
                    intro _ hw'
                    obtain ⟨⟨w7, k7⟩, rfl⟩ := hw'
                    have k7H := hid (k3H.out.trans k7)
                    clear k7 f0u f1u f2u f3u f4u
                    go_wp2_with fail
                    simp only [str_app]
                    go_roundw
                    case rel =>
                      refine ⟨j + 1, _, by omega, by go_num, rfl, k7H.out, by rw [hmo.out, hmw.out, hPH.out]; simp only [List.append_assoc], ?_, ?_⟩
                      · have := hplH.out
                        have := hml.out
                        rw [hmw.out] at this
                        simp only [List.length_append] at this ⊢
                        omega
                      · intro m hm
                        rw [htk.out] at hm
                        rcases List.mem_append.1 hm with h | h
                        · exact hamH.out m h
                        · obtain rfl := List.mem_singleton.1 h; exact hmH.out
                    case measure => simp [intOf]; omega
                · obtain rfl : j = ys.length := by omega
                  have ham2 := hid (fun m hm => hamH.out m (by rw [List.take_length]; exact hm))
                  have hP2 : Hid (P = N ++ levelW ys) := hid (by rw [hPH.out, List.take_length]; rfl)
                  go_wp2_with fail
                  go_roundw
                  case rel =>
                    refine ⟨l + 1, _, by omega, by go_num, rfl, kzH.out, by rw [hN1.out, ← List.append_assoc, ← hNH.out, hP2.out], by have := hplH.out; have := h30H.out; omega, hst.out h30H.out ham2.out⟩
                  case measure => simp [intOf]; omega
            · have g7 : decide ((ys.length : Int) > 30) = true := decide_eq_true (by omega)
              have g7' : decide (30 < ys.length) = true := decide_eq_true (by omega)
              have hbd := hid (bad.out wr (k0.out.trans krH.out) (hb30.out (by omega)))
              go_wp2_with fail
              refine bodyPost_ret (by simp [results, Try.results22, go_sem]; rfl) rfl ?_
              exact hbd.out
          · obtain rfl : l = 4 := by omega
            have hN2 : Hid (encW E = N) := hid (by
              rw [hL0.out, hNH.out, hM2.out, List.append_assoc]
              rfl)
            have hok : Hid (encOk E = true) := hid (by
              have h1 : allB E.nw = true := List.all_eq_true.2 fun m hm => by
                obtain ⟨l, hl, hml⟩ := mem_flat.1 hm
                exact (haH.out l hl).2 m hml
              have h2 : fewB E.nw = true := by
                unfold fewB
                rw [List.all_eq_true]
                intro l hl
                exact decide_eq_true ((haH.out l (by simp [four] at hl; omega)).1)
              unfold encOk
              rw [h1, h2, hga.out, decide_eq_true (show E.next ≤ big40 from b2H.out), decide_eq_true (show E.log ≤ big40 from b3H.out), decide_eq_true (show E.seq ≤ big40 from b4H.out), decide_eq_true b5H.out]
              rfl)
            have hs : Hid (EncSays w wr (.returned (.tuple #[.string ⟨N.toArray⟩, .int .i64 0])) E) := hid ⟨k0.out.trans krH.out, by rw [hok.out, if_pos rfl, if_pos rfl, hN2.out]⟩
            have dl : decide ((4 : Int) < 4) = false := rfl
            go_wp2_with fail
            refine bodyPost_ret (by simp [results, Try.results22, go_sem]; rfl) rfl ?_
            exact hs.out
  · have hng : encOk E = false := by
      unfold encOk
      by_cases h1 : E.next ≤ 1099511627776
      · by_cases h2 : E.log ≤ 1099511627776
        · by_cases h3 : E.seq ≤ 1099511627776
          · have h4 : ¬ E.gone.length ≤ 120 := fun h => hok ⟨h1, h2, h3, h⟩
            rw [decide_eq_false h4]; simp
          · rw [decide_eq_false (show ¬ E.seq ≤ big40 from h3)]; simp
        · rw [decide_eq_false (show ¬ E.log ≤ big40 from h2)]; simp
      · rw [decide_eq_false (show ¬ E.next ≤ big40 from h1)]; simp
    have hbd := hid (bad.out _ k0.out hng)
    have hd : decide ((E.next : Int) > 1099511627776) = true ∨ decide ((E.next : Int) > 1099511627776) = false ∧ (decide ((E.log : Int) > 1099511627776) = true ∨ decide ((E.log : Int) > 1099511627776) = false ∧ (decide ((E.seq : Int) > 1099511627776) = true ∨ decide ((E.seq : Int) > 1099511627776) = false ∧ decide ((E.gone.length : Int) > 120) = true)) := by
      simp only [decide_eq_true_eq, decide_eq_false_iff_not]
      omega
    clear e0 e5 e6 e7 elv hng
    unfold editCells at hbd
    rcases hd with g2 | ⟨g2, g3 | ⟨g3, g4 | ⟨g4, g5⟩⟩⟩
    all_goals
      go_enter Try.func22, Try.ntmps22
      go_wp2_with fail
      refine bodyPost_ret (by simp [results, Try.results22, go_sem]; rfl) rfl ?_
      exact hbd.out
end Go.Proofs.Ytdmdnhceiddcfaa
namespace Go.Proofs.Ytdmdnhceiddcfaa
open Go.RowKit Go.Sl Go.Scree

def rnumsR : Nat → RdS → List Nat × RdS
  | 0, s => ([], s)
  | n + 1, s => ((rnumsR n s).1 ++ [(rnumR (rnumsR n s).2).1], (rnumR (rnumsR n s).2).2)
def rsizeR (b : Nat × RdS) : RdS := if 1099511627776 < b.1 then (b.2.1, true) else b.2
def rmetaR (s : RdS) : MetaM × RdS :=
  let a := rnumR s
  let b := rnumR a.2
  let c := rtextR (rsizeR b)
  let d := rtextR c.2
  let f := rnumR d.2
  (⟨a.1, ((b.1 % 2199023255552 : Nat) : Int), c.1, d.1, f.1⟩, f.2)
def rmetasR : Nat → RdS → List MetaM × RdS
  | 0, s => ([], s)
  | n + 1, s => ((rmetasR n s).1 ++ [(rmetaR (rmetasR n s).2).1], (rmetaR (rmetasR n s).2).2)
def rlevelR (s : RdS) : List MetaM × RdS := rmetasR (min (rnumR s).1 31) (rnumR s).2
def rlevelsR : Nat → RdS → List (List MetaM) × RdS
  | 0, s => ([], s)
  | n + 1, s => ((rlevelsR n s).1 ++ [(rlevelR (rlevelsR n s).2).1], (rlevelR (rlevelsR n s).2).2)
def rdecE (s : RdS) : EditM × RdS :=
  let a := rnumR s
  let b := rnumR a.2
  let c := rnumR b.2
  let n := rnumR c.2
  let g := rnumsR (min n.1 121) n.2
  let l := rlevelsR 4 g.2
  (⟨g.1, fun i => l.1.getD i [], a.1, b.1, c.1⟩, l.2)
def rdecP (l : List UInt8) : EditM × Int := if (rdecE (l, false)).2.2 = true ∨ encOk (rdecE (l, false)).1 = false ∨ encW (rdecE (l, false)).1 ≠ l then (nilE, 2) else ((rdecE (l, false)).1, 0)

theorem rnumR_short {x : Nat} (hx : x < 18446744073709551616) (r : List UInt8) : rnumR (numW x ++ r, false) = (x, (r, false)) := by
  unfold rnumR numW
  dsimp only
  rw [rtake_short hx r]
  dsimp only
  rw [if_neg (by simp)]
theorem rtextR_short {s : ByteArray} (h : s.size ≤ 100) (r : List UInt8) : rtextR (textW s ++ r, false) = (s, (r, false)) := by
  have e : rnumR (textW s ++ r, false) = (s.size, (s.data.toList ++ r, false)) := by
    have := rnumR_short (x := s.size) (by omega) (s.data.toList ++ r)
    unfold textW
    unfold numW at this
    rw [List.append_assoc]
    exact this
  have hl : s.data.toList.length = s.size := by rw [Array.length_toList]; rfl
  unfold rtextR
  rw [e]
  dsimp only
  rw [if_neg (by rw [List.length_append, hl]; simp)]
  rw [← hl, List.take_left, List.drop_left]
theorem rmetaR_short {m : MetaM} (h : mayB m = true) (r : List UInt8) : rmetaR (metaW m ++ r, false) = (m, (r, false)) := by
  obtain ⟨⟨h1, h2⟩, ⟨h3, h4⟩, ⟨h5, h6⟩, ⟨h7, h8⟩, h9, h10, h11⟩ := may_parts h
  unfold rmetaR metaW
  simp only [List.append_assoc]
  rw [rnumR_short (by omega)]
  dsimp only
  rw [rnumR_short (x := m.size.toNat) (by omega)]
  unfold rsizeR
  dsimp only
  rw [if_neg (by omega), rtextR_short h6]
  dsimp only
  rw [rtextR_short h8]
  dsimp only
  rw [rnumR_short (by omega)]
  have hz : ((m.size.toNat % 2199023255552 : Nat) : Int) = m.size := by rw [Nat.mod_eq_of_lt (by omega)]; exact Int.toNat_of_nonneg (by omega)
  rw [hz]
theorem rnums_part : ∀ (k : Nat) (l : List Nat) (r : List UInt8), (∀ m ∈ l, m < 18446744073709551616) → k ≤ l.length → rnumsR k ((l.map numW).flatten ++ r, false) = (l.take k, (((l.drop k).map numW).flatten ++ r, false))
  | 0, l, r, _, _ => by simp [rnumsR]
  | k + 1, l, r, h, hk => by
    have ih := rnums_part k l r h (by omega)
    unfold rnumsR
    rw [ih, List.drop_eq_getElem_cons (show k < l.length by omega), List.map_cons, List.flatten_cons, List.append_assoc]
    dsimp only
    rw [rnumR_short (h _ (List.getElem_mem _)), List.take_succ_eq_append_getElem (by omega)]
theorem rmetas_part : ∀ (k : Nat) (l : List MetaM) (r : List UInt8), (∀ m ∈ l, mayB m = true) → k ≤ l.length → rmetasR k ((l.map metaW).flatten ++ r, false) = (l.take k, (((l.drop k).map metaW).flatten ++ r, false))
  | 0, l, r, _, _ => by simp [rmetasR]
  | k + 1, l, r, h, hk => by
    have ih := rmetas_part k l r h (by omega)
    unfold rmetasR
    rw [ih, List.drop_eq_getElem_cons (show k < l.length by omega), List.map_cons, List.flatten_cons, List.append_assoc]
    dsimp only
    rw [rmetaR_short (h _ (List.getElem_mem _)), List.take_succ_eq_append_getElem (by omega)]
theorem rlevelR_short {l : List MetaM} (h : ∀ m ∈ l, mayB m = true) (h30 : l.length ≤ 30) (r : List UInt8) : rlevelR (levelW l ++ r, false) = (l, (r, false)) := by
  unfold rlevelR levelW
  rw [List.append_assoc, rnumR_short (by omega)]
  dsimp only
  rw [show min l.length 31 = l.length by omega, rmetas_part _ l r h (Nat.le_refl _)]
  simp
theorem rlevels_part : ∀ (k : Nat) (ls : List (List MetaM)) (r : List UInt8), (∀ l ∈ ls, (∀ m ∈ l, mayB m = true) ∧ l.length ≤ 30) → k ≤ ls.length → rlevelsR k ((ls.map levelW).flatten ++ r, false) = (ls.take k, (((ls.drop k).map levelW).flatten ++ r, false))
  | 0, l, r, _, _ => by simp [rlevelsR]
  | k + 1, l, r, h, hk => by
    have ih := rlevels_part k l r h (by omega)
    have := h _ (List.getElem_mem (show k < l.length by omega))
    unfold rlevelsR
    rw [ih, List.drop_eq_getElem_cons (show k < l.length by omega), List.map_cons, List.flatten_cons, List.append_assoc]
    dsimp only
    rw [rlevelR_short this.1 this.2, List.take_succ_eq_append_getElem (by omega)]
theorem rdecE_enc {E : EditM} (h : encOk E = true) : rdecE (encW E, false) = ({ E with nw := cut4 E.nw }, ([], false)) := by
  obtain ⟨h1, h2, h3, h4, h5, h6, h7⟩ := encOk_parts h
  have hm : ∀ l, l < 4 → ∀ m ∈ E.nw l, mayB m = true := fun l hl m hm => List.all_eq_true.1 h1 m (mem_flat.2 ⟨l, hl, hm⟩)
  unfold big40 at h2 h3 h4 h6
  have hlv := rlevels_part 4 (four.map E.nw) [] (by
    intro l hl
    obtain ⟨i, hi, rfl⟩ := List.mem_map.1 hl
    have : i < 4 := by simp [four] at hi; omega
    exact ⟨hm i this, h7 i this⟩) (by simp [four])
  rw [List.map_map] at hlv
  have hlv4 : rlevelsR 4 ((four.map fun l => levelW (E.nw l)).flatten ++ [], false) = (four.map E.nw, ([], false)) := hlv
  rw [List.append_nil] at hlv4
  have hg := rnums_part E.gone.length E.gone ((four.map fun l => levelW (E.nw l)).flatten) (fun m hm => by have := h6 m hm; omega) (Nat.le_refl _)
  rw [List.take_length, List.drop_length] at hg
  unfold rdecE encW
  simp only [headL, List.map_cons, List.map_nil, List.flatten_cons, List.flatten_nil, List.append_assoc, List.append_nil, List.nil_append]
  rw [rnumR_short (by omega)]
  dsimp only
  rw [rnumR_short (by omega)]
  dsimp only
  rw [rnumR_short (by omega)]
  dsimp only
  rw [rnumR_short (by omega)]
  dsimp only
  rw [show min E.gone.length 121 = E.gone.length by omega, hg]
  simp only [List.map_nil, List.flatten_nil, List.nil_append]
  rw [hlv4]
  rfl
theorem fewB_cut (nw : Lvls) : fewB (cut4 nw) = fewB nw := rfl
theorem encOk_cut (E : EditM) : encOk { E with nw := cut4 E.nw } = encOk E := by
  unfold encOk
  dsimp only
  rw [allB_cut, fewB_cut]
theorem lvW_cut (nw : Lvls) : (four.map fun l => levelW (cut4 nw l)) = four.map fun l => levelW (nw l) := rfl
theorem encW_cut (E : EditM) : encW { E with nw := cut4 E.nw } = encW E := by
  unfold encW headL
  dsimp only
  rw [lvW_cut]
theorem rdecP_eq (l : List UInt8) : rdecP l = decP l := by
  rcases decP_code (l := l) with hc | hc
  · obtain ⟨h1, h2⟩ := decP_back hc
    have h3 := rdecE_enc h1
    have h4 := decP_enc h1
    rw [h2] at h3 h4
    have h5 : encOk { (decP l).1 with nw := cut4 (decP l).1.nw } = true := by rw [encOk_cut]; exact h1
    have h6 : encW { (decP l).1 with nw := cut4 (decP l).1.nw } = l := by rw [encW_cut]; exact h2
    unfold rdecP
    rw [h3]
    dsimp only
    rw [if_neg (by rw [h5, h6]; simp)]
    exact h4.symm
  · have hd : decP l = (nilE, 2) := by
      unfold decP at hc ⊢
      split
      · rfl
      · rename_i h; rw [if_neg h] at hc; cases hc
    rw [hd]
    unfold rdecP
    split
    · rfl
    · rename_i h
      exfalso
      have h1 : encOk (rdecE (l, false)).1 = true := by
        cases hb : encOk (rdecE (l, false)).1 with
        | true => rfl
        | false => exact absurd (.inr (.inl hb)) h
      have h2 : encW (rdecE (l, false)).1 = l := Classical.byContradiction fun hn => h (.inr (.inr hn))
      have := decP_enc h1
      rw [h2, hd] at this
      have := congrArg Prod.snd this
      cases this
end Go.Proofs.Ytdmdnhceiddcfaa
namespace Go.Proofs.Ytdmdnhceiddcfaa
open Go.RowKit Go.Sl Go.Scree


theorem dnm {b : Nat} {s : RdS} {w w0 : World} {F : List Chunk} (h : Own w (pts b (RinC s) :: F)) (e : Ext w0 w) (hs : s.1.length ≤ 1000000) :
    Calls Try.prog 54 #[.pointer (some ⟨b, 0, none⟩)] w fun e w' => e = .returned (.int .u64 (rnumR s).1) ∧ Own w' (pts b (RinC (rnumR s).2) :: F) ∧ Ext w0 w' ∧ (rnumR s).2.1.length ≤ 1000000 ∧ (rnumR s).1 < 18446744073709551616 := by
  refine (dnum_c b s w F h hs).mono ?_
  rintro e1 w' ⟨h1, h2, h3⟩
  exact ⟨h1, h2, e.trans h3, Nat.le_trans (rnumR_len s) hs, rnumR_lt s⟩
theorem dtx {b : Nat} {s : RdS} {w w0 : World} {F : List Chunk} (h : Own w (pts b (RinC s) :: F)) (e : Ext w0 w) (hs : s.1.length ≤ 1000000) :
    Calls Try.prog 55 #[.pointer (some ⟨b, 0, none⟩)] w fun e w' => e = .returned (.string (rtextR s).1) ∧ Own w' (pts b (RinC (rtextR s).2) :: F) ∧ Ext w0 w' ∧ (rtextR s).2.1.length ≤ 1000000 := by
  refine (dtext_c b s w F h hs).mono ?_
  rintro e1 w' ⟨h1, h2, h3⟩
  exact ⟨h1, h2, e.trans h3, Nat.le_trans (rtextR_len s) hs⟩
/-- The numbers of the head, laid into the edit. -/
theorem ed_num {w : World} {b eb : Nat} {c : Obj} {g : SlA} {S : Nat → SlA} {E E' : EditM} {F : List Chunk} {i : Nat} {v : Value} (o : Own w (pts b c :: pts eb (edC g S E) :: F)) (he : (editCells g S E).setIfInBounds i v = editCells g S E') :
    Own (w.setCell ⟨eb, i, none⟩ v) (pts b c :: pts eb (edC g S E') :: F) := by
  have o2 := (o.swap).set (i := i) v
  unfold edC
  rw [he] at o2
  exact o2.swap
set_option maxRecDepth 20000 in
set_option maxHeartbeats 6400000 in
theorem rdecode_c (l : List UInt8) (hl : l.length ≤ 1000000) (w : World) :
    Calls Try.prog 24 #[.string ⟨l.toArray⟩] w fun e w' => DecSays w w' e (rdecP l) := by
  have hlH := hid hl
  have hdec : Hid (rdecP l = if (rdecE (l, false)).2.2 = true ∨ encOk (rdecE (l, false)).1 = false ∨ encW (rdecE (l, false)).1 ≠ l then (nilE, 2) else ((rdecE (l, false)).1, 0)) := hid rfl
  have hde : Hid (rdecE (l, false) = (let a := rnumR (l, false)
    let b := rnumR a.2
    let c := rnumR b.2
    let n := rnumR c.2
    let g := rnumsR (min n.1 121) n.2
    let l := rlevelsR 4 g.2
    (⟨g.1, fun i => l.1.getD i [], a.1, b.1, c.1⟩, l.2))) := hid rfl
  generalize rdecP l = res at *
  generalize rdecE (l, false) = dE at *
  have o0 := hid (((((Own.start w).alloc (.cells zeroE 34 (0, 0))).alloc (RinC (l, false))).alloc (edC nilA (fun _ => nilA) nilE)).swap)
  have e0 := hid ((((Ext.refl w).alloc (.cells zeroE 34 (0, 0))).alloc (RinC (l, false))).alloc (edC nilA (fun _ => nilA) nilE))
  simp only [World.size_alloc] at o0
  have hr0 := hid (dnm o0.out e0.out hl)
  unfold zeroE RinC edC at hr0
  clear o0 e0 hl
  generalize rnumR (l, false) = qa at *
  obtain ⟨na, sa⟩ := qa
  dsimp only at hde hr0
  go_enter Try.func24, Try.ntmps24
  go_wp2_with fail
  obtain ⟨rb, hrb⟩ : ∃ rb, w.heap.size = rb := ⟨_, rfl⟩
  obtain ⟨xb, hxb⟩ : ∃ xb, rb + 1 = xb := ⟨_, rfl⟩
  obtain ⟨eb, heb⟩ : ∃ eb, xb + 1 = eb := ⟨_, rfl⟩
  obtain ⟨F, hF⟩ : ∃ F, F = [pts rb (.cells zeroE 34 (0, 0)), Sl.base w w.heap.size] := ⟨_, rfl⟩
  have hr1 : Hid (Calls Try.prog 54 #[.pointer (some ⟨xb, 0, none⟩)] (((w.alloc (.cells #[.slice none 0 0, .slice none 0 0, .slice none 0 0, .slice none 0 0, .slice none 0 0, .int .u64 0, .int .u64 0, .int .u64 0] 34 (0, 0))).alloc (.cells #[.string ⟨l.toArray⟩, .bool false] 100 (0, 0))).alloc (.cells #[.slice none 0 0, .slice none 0 0, .slice none 0 0, .slice none 0 0, .slice none 0 0, .int .u64 0, .int .u64 0, .int .u64 0] 34 (0, 0))) fun e w' => e = .returned (.int .u64 na) ∧ Own w' (pts xb (RinC sa) :: pts eb (edC nilA (fun _ => nilA) nilE) :: F) ∧ Ext w w' ∧ sa.1.length ≤ 1000000 ∧ na < 18446744073709551616) := hid (by
    rw [hF, ← heb, ← hxb, ← hrb]; exact hr0.out)
  rw [hrb, hxb, heb]
  clear hr0 hxb heb
  refine hr1.out.mono ?_
  rintro e w1 ⟨rfl, o1, e1, l1, m1⟩
  have c1 : w1.cell? ⟨eb, 5, none⟩ = some (.int .u64 0) := (o1.pick 1).cell (i := 5) rfl
  have f1 : w1.frozen? ⟨eb, 5, none⟩ = false := (o1.pick 1).free 5
  have o1b : Own (w1.setCell ⟨eb, 5, none⟩ (.int .u64 na)) (pts xb (RinC sa) :: pts eb (edC nilA (fun _ => nilA) ⟨[], fun _ => [], na, 0, 0⟩) :: F) := ed_num o1 rfl
  have hr2 := hid (dnm o1b (e1.set _ _) l1)
  clear o1 o1b e1 l1 hr1
  generalize rnumR sa = qb at *
  obtain ⟨nb, sb⟩ := qb
  dsimp only at hde hr2
  go_wp2_with fail
  clear c1 f1
  refine hr2.out.mono ?_
  rintro e w2 ⟨rfl, o2, e2, l2, m2⟩
  have c1 : w2.cell? ⟨eb, 6, none⟩ = some (.int .u64 0) := (o2.pick 1).cell (i := 6) rfl
  have f1 : w2.frozen? ⟨eb, 6, none⟩ = false := (o2.pick 1).free 6
  have o2b : Own (w2.setCell ⟨eb, 6, none⟩ (.int .u64 nb)) (pts xb (RinC sb) :: pts eb (edC nilA (fun _ => nilA) ⟨[], fun _ => [], na, nb, 0⟩) :: F) := ed_num o2 rfl
  have hr3 := hid (dnm o2b (e2.set _ _) l2)
  clear o2 o2b e2 l2 hr2
  generalize rnumR sb = qc at *
  obtain ⟨nc, sc⟩ := qc
  dsimp only at hde hr3
  go_wp2_with fail
  clear c1 f1
  refine hr3.out.mono ?_
  rintro e w3 ⟨rfl, o3, e3, l3, m3⟩
  have c1 : w3.cell? ⟨eb, 7, none⟩ = some (.int .u64 0) := (o3.pick 1).cell (i := 7) rfl
  have f1 : w3.frozen? ⟨eb, 7, none⟩ = false := (o3.pick 1).free 7
  have o3b : Own (w3.setCell ⟨eb, 7, none⟩ (.int .u64 nc)) (pts xb (RinC sc) :: pts eb (edC nilA (fun _ => nilA) ⟨[], fun _ => [], na, nb, nc⟩) :: F) := ed_num o3 rfl
  have hr4 := hid (dnm o3b (e3.set _ _) l3)
  clear o3 o3b e3 l3 hr3
  generalize rnumR sc = qn at *
  obtain ⟨nn, s0⟩ := qn
  dsimp only at hde hr4
  go_wp2_with fail
  clear c1 f1
  refine hr4.out.mono ?_
  rintro e w4 ⟨rfl, o4, e4, l4, m4⟩
  have o5 : Hid (Own w4 (pts xb (RinC s0) :: pts eb (edC nilA (fun _ => nilA) ⟨[], fun _ => [], na, nb, nc⟩) :: sl 32 u64E nilA.v [] :: F)) := hid ((sl_nil 32 u64E o4).swap.perm (List.Perm.cons _ (List.Perm.swap _ _ _)))
  have e4H := hid e4
  have l4H := hid l4
  have m4H := hid m4
  clear o4 e4 l4 m4 hr4 m1 m2 m3
  obtain ⟨i0, hi0, hz0, hz1, hz2⟩ := info_parts infoU64
  go_upto_block 0 with fail
  go_cut [7] from 29 to 44 (fun _ wx => ∃ (acc : List Nat) (st : RdS) (g : SlA), Own wx (pts xb (RinC st) :: pts eb (edC g (fun _ => nilA) ⟨acc, fun _ => [], na, nb, nc⟩) :: sl 32 u64E g.v acc :: F) ∧ Ext w wx ∧ rnumsR (min nn 121) s0 = (acc, st) ∧ st.1.length ≤ 1000000)
  case first =>
    go_wp2_with fail
    go_loopw [7] (fun i wr => ∃ (k : Nat) (acc : List Nat) (st : RdS) (g : SlA), k ≤ nn ∧ k ≤ 121 ∧ i = .int .u64 k ∧ Own wr (pts xb (RinC st) :: pts eb (edC g (fun _ => nilA) ⟨acc, fun _ => [], na, nb, nc⟩) :: sl 32 u64E g.v acc :: F) ∧ Ext w wr ∧ rnumsR k s0 = (acc, st) ∧ acc.length = k ∧ st.1.length ≤ 1000000) (fun i _ => 121 - (intOf i).toNat)
    case atStart => exact ⟨0, [], s0, nilA, by omega, by omega, rfl, o5.out, e4H.out, rfl, rfl, l4H.out⟩
    case round =>
      clear o5 e4H l4H
      obtain ⟨k, acc, st, g, hk, hk121, rfl, ho, he, hn, ha, hs⟩ := hrel
      obtain ⟨gA, gn, gc⟩ := g
      have oH := hid ho
      have eH := hid he
      have hnH := hid hn
      have haH := hid ha
      have hsH := hid hs
      have gN : gn = acc.length := rd_count (s := ⟨gA, gn, gc⟩) (sl_rd (ho.pick 2))
      clear he hn ha hs
      subst gN
      by_cases hlt : k < nn ∧ k < 121
      · obtain ⟨hlt, h121⟩ := hlt
        have hlt' : (k : Int) < nn := by omega
        have h121' : (k : Int) < 121 := by omega
        have hn0 : Hid (rnumsR (k + 1) s0 = (acc ++ [(rnumR st).1], (rnumR st).2)) := hid (by unfold rnumsR; rw [hnH.out])
        have hrn : Hid (Calls Try.prog 54 #[.pointer (some ⟨xb, 0, none⟩)] wr.drew fun e w' => e = .returned (.int .u64 (rnumR st).1) ∧ Own w' (pts xb (RinC (rnumR st).2) :: pts eb (edC ⟨gA, acc.length, gc⟩ (fun _ => nilA) ⟨acc, fun _ => [], na, nb, nc⟩) :: sl 32 u64E (SlA.v ⟨gA, acc.length, gc⟩) acc :: F) ∧ Ext w w' ∧ (rnumR st).2.1.length ≤ 1000000 ∧ (rnumR st).1 < 18446744073709551616) := hid (dnm oH.out.drew (eH.out.drew) hsH.out)
        have c0 : wr.cell? ⟨eb, 0, none⟩ = some (.slice gA acc.length gc) := (ho.pick 1).cell (i := 0) rfl
        have ha1 : acc.length ≤ 1000 := by have := haH.out; omega
        generalize rnumR st = rn at *
        obtain ⟨rn1, rn2⟩ := rn
        dsimp only at hn0 hrn
        clear ho
        go_wp2_with fail
        go_region_law (first
          | (refine step_append_slc rfl _ _ _ rfl 32 i0 _ 1 8 Try.underlying29 hi0 hz0 hz1 hz2 rfl (by omega) _ _ _ rfl (Own.allocd (o6.pick 2)) ⟨w6.heap.size, 0, none⟩ 1 1 [.int .u64 rn1] rfl rfl (cells_new' (by simp) _ _ _) (by simp [Value.oneCell']) (by unfold maxLen; omega) (by omega) (by omega) ?_; intro A7 c7 w7 o7 e7; have f7 := Own.free (o7.pick 2) 0; have d7 := (o7.pick 2).cell (i := 0) (v := .slice gA acc.length gc) rfl)
          | (go_simp; go_at_call 54; refine hrn.out.mono ?_; rintro e w6 ⟨rfl, o6, e6, l6, m6⟩; have d6 : w6.cell? ⟨eb, 0, none⟩ = some (.slice gA acc.length gc) := (o6.pick 1).cell (i := 0) rfl; have n6 : (w6.alloc (.cells #[.int .u64 rn1] 32 (0, 0))).cell? ⟨eb, 0, none⟩ = some (.slice gA acc.length gc) := Own.cell (i := 0) ((Own.allocd o6).pick 1) rfl))
        all_goals
          have o8 := sl_of (E := u64E) (acc ++ [rn1]) o7 (by simp) (by simp [u64E, Enc.flat])
          have o9 : Hid (Own (w7.setCell ⟨eb, 0, none⟩ (.slice A7 (acc.length + 1) c7)) (pts xb (RinC rn2) :: pts eb (edC ⟨A7, acc.length + 1, c7⟩ (fun _ => nilA) ⟨acc ++ [rn1], fun _ => [], na, nb, nc⟩) :: sl 32 u64E (SlA.v ⟨A7, acc.length + 1, c7⟩) (acc ++ [rn1]) :: F)) := hid (Own.pick 2 (Own.set (i := 0) (o8.pick 2) (.slice A7 (acc.length + 1) c7)))
          have e9 := hid (((e6.alloc _).trans e7).set ⟨eb, 0, none⟩ (.slice A7 (acc.length + 1) c7))
          have l9 := hid l6
          clear o6 e6 l6 m6 d6 n6 o7 e7 f7 d7 o8 c0
          go_wp2_with fail
          go_roundw
          case rel => exact ⟨k + 1, acc ++ [rn1], rn2, ⟨A7, acc.length + 1, c7⟩, by omega, by omega, by go_num, o9.out, e9.out, hn0.out, by rw [List.length_append, haH.out]; rfl, l9.out⟩
          case measure => simp [intOf]; omega
      · have hmin : min nn 121 = k := by omega
        have hk3 : k = 121 ∧ (121 : Int) < nn ∨ decide (k < nn) = false := by
          by_cases hk1 : k < nn
          · exact .inl ⟨by omega, by omega⟩
          · exact .inr (decide_eq_false hk1)
        have hfin := hid (And.intro oH.out (And.intro eH.out (And.intro hnH.out hsH.out)))
        rw [← hmin] at hfin
        clear oH eH hnH haH hsH hlt ho
        rcases hk3 with ⟨rfl, hk3⟩ | hk3
        all_goals
          clear hmin
          go_wp2_with fail
          go_meet
          case rel => exact ⟨acc, st, ⟨gA, acc.length, gc⟩, hfin.out⟩
  case rest =>
  obtain ⟨acc, st, g, ho, he, hnn, hs⟩ := hcut
  clear o5 e4H l4H i0 hi0 hz0 hz1 hz2
  have hrdG : Hid (Gives ([sl 32 u64E g.v acc] ++ [Sl.base w w.heap.size]) fun w => Rd w u64E g.v acc) := hid (fun w F o => sl_rd o)
  have oD : Hid (Own wc (pts xb (RinC st) :: pts eb (edC g (fun _ => nilA) ⟨acc, fun _ => [], na, nb, nc⟩) :: ([sl 32 u64E g.v acc] ++ F))) := hid ho
  have eH := hid he
  have hsH := hid hs
  have hde2 : Hid (dE = (⟨acc, fun i => (rlevelsR 4 st).1.getD i [], na, nb, nc⟩, (rlevelsR 4 st).2)) := hid (by rw [hde.out, hnn])
  clear ho he hs hnn hde
  obtain ⟨i1, hi0, hz0, hz1, hz2⟩ := info_parts infoMeta
  go_upto_block 2 with fail
  go_cut [8, 6, 9, 10, 11] from 45 to 93 (fun _ _ _ _ _ wx => ∃ (S : Nat → SlA) (nw : Lvls) (st' : RdS) (D : List Chunk), Own wx (pts xb (RinC st') :: pts eb (edC g S ⟨acc, nw, na, nb, nc⟩) :: (D ++ F)) ∧ Ext w wx ∧ (∀ i, i < 4 → Gives (D ++ [Sl.base w w.heap.size]) fun w => Rd w metaE (S i).v (nw i)) ∧ (Gives (D ++ [Sl.base w w.heap.size]) fun w => Rd w u64E g.v acc) ∧ (∀ i, (nw i).length ≤ 31) ∧ dE = (⟨acc, nw, na, nb, nc⟩, st') ∧ st'.1.length ≤ 1000000)
  case first =>
    go_wp2_with fail
    go_loopw [8, 6, 9, 10, 11] (fun i _ _ _ _ wr => ∃ (l : Nat) (S : Nat → SlA) (nw : Lvls) (st' : RdS) (D : List Chunk), l ≤ 4 ∧ i = .int .i64 l ∧ Own wr (pts xb (RinC st') :: pts eb (edC g S ⟨acc, nw, na, nb, nc⟩) :: (D ++ F)) ∧ Ext w wr ∧ (∀ i, i < 4 → Gives (D ++ [Sl.base w w.heap.size]) fun w => Rd w metaE (S i).v (nw i)) ∧ (Gives (D ++ [Sl.base w w.heap.size]) fun w => Rd w u64E g.v acc) ∧ (∀ i, l ≤ i → S i = nilA ∧ nw i = []) ∧ (∀ i, (nw i).length ≤ 31) ∧ rlevelsR l st = ((List.range l).map nw, st') ∧ st'.1.length ≤ 1000000) (fun i _ _ _ _ _ => 4 - (intOf i).toNat)
    case atStart => exact ⟨0, fun _ => nilA, fun _ => [], st, _, by omega, rfl, oD.out, eH.out, fun i hi w F o => rd_nilA w, hrdG.out, fun i hi => ⟨rfl, rfl⟩, fun i => by simp, rfl, hsH.out⟩
    case round =>
      clear oD eH hsH hrdG
      obtain ⟨l, S, nw, st', D, hl, rfl, ho, he, hrd, hrg, hnil, h30, hlv, hs⟩ := hrel
      have oH := hid ho
      have eH := hid he
      have hrdH := hid hrd
      have hrgH := hid hrg
      have hnilH := hid hnil
      have h30H := hid h30
      have hlvH := hid hlv
      have hsH := hid hs
      clear ho he hrd hrg hnil h30 hlv hs
      by_cases hlt : l < 4
      · have hlt' : (l : Int) < 4 := by omega
        have hrn := hid (dnm oH.out eH.out hsH.out)
        have hlr : Hid (rlevelR st' = rmetasR (min (rnumR st').1 31) (rnumR st').2) := hid rfl
        have hl1 : Hid (rlevelsR (l + 1) st = ((List.range l).map nw ++ [(rlevelR st').1], (rlevelR st').2)) := hid (by unfold rlevelsR; rw [hlvH.out])
        generalize rnumR st' = qm at *
        obtain ⟨nm, s1⟩ := qm
        dsimp only at hrn hlr
        go_wp2_with fail
        refine hrn.out.mono ?_
        rintro e w6 ⟨rfl, o6, e6, l6, m6⟩
        have hupd : upd S l nilA = S := funext fun i => by
          by_cases e : i = l
          · subst e; rw [upd_at]; exact (hnilH.out i (Nat.le_refl _)).1.symm
          · exact upd_ne _ _ e
        have hupn : upd nw l [] = nw := funext fun i => by
          by_cases e : i = l
          · subst e; rw [upd_at]; exact (hnilH.out i (Nat.le_refl _)).2.symm
          · exact upd_ne _ _ e
        have o7 : Hid (Own w6 (pts xb (RinC s1) :: pts eb (edC g (upd S l nilA) ⟨acc, upd nw l [], na, nb, nc⟩) :: sl 56 metaE nilA.v [] :: (D ++ F))) := hid (by
          rw [hupd, hupn]
          exact (sl_nil 56 metaE o6).perm ((List.Perm.swap _ _ _).trans (List.Perm.cons _ (List.Perm.swap _ _ _))))
        have e7 := hid e6
        have l7 := hid l6
        have m7 := hid m6
        clear o6 e6 l6 m6 hupd hupn hrn oH eH hsH
        go_wp2_with fail
        go_loopw [9, 10, 11] (fun i _ _ wr => ∃ (k : Nat) (ms : List MetaM) (s2 : RdS) (cur : SlA), k ≤ nm ∧ k ≤ 31 ∧ i = .int .u64 k ∧ Own wr (pts xb (RinC s2) :: pts eb (edC g (upd S l cur) ⟨acc, upd nw l ms, na, nb, nc⟩) :: sl 56 metaE cur.v ms :: (D ++ F)) ∧ Ext w wr ∧ rmetasR k s1 = (ms, s2) ∧ ms.length = k ∧ s2.1.length ≤ 1000000) (fun i _ _ _ => 31 - (intOf i).toNat)
        case atStart => exact ⟨0, [], s1, nilA, by omega, by omega, rfl, o7.out, e7.out, rfl, rfl, l7.out⟩
        case round =>
          clear o7 e7 l7
          obtain ⟨k, ms, s2, cur, hk, hk31, rfl, ho, he, hn, ha, hs⟩ := hrel
          obtain ⟨cA, cn, cc⟩ := cur
          have oH := hid ho
          have eH := hid he
          have hnH := hid hn
          have haH := hid ha
          have hsH := hid hs
          have gN : cn = ms.length := rd_count (s := ⟨cA, cn, cc⟩) (sl_rd (ho.pick 2))
          clear he hn ha hs
          subst gN
          by_cases hlk : k < nm ∧ k < 31
          · obtain ⟨hlk, h31⟩ := hlk
            have hlk' : (k : Int) < nm := by omega
            have h31' : (k : Int) < 31 := by omega
            have hn0 : Hid (rmetasR (k + 1) s1 = (ms ++ [(rmetaR s2).1], (rmetaR s2).2)) := hid (by unfold rmetasR; rw [hnH.out])
            have hmr : Hid (rmetaR s2 = (let a := rnumR s2
              let b := rnumR a.2
              let c := rtextR (rsizeR b)
              let d := rtextR c.2
              let f := rnumR d.2
              (⟨a.1, ((b.1 % 2199023255552 : Nat) : Int), c.1, d.1, f.1⟩, f.2))) := hid rfl
            generalize rmetaR s2 = mr at *
            have oM := (oH.out.alloc (.cells #[.int .u64 0, .int .i64 0, .string ⟨#[]⟩, .string ⟨#[]⟩, .int .u64 0] 56 (0, 0))).swap
            have h1 := hid (dnm oM (eH.out.alloc (.cells #[.int .u64 0, .int .i64 0, .string ⟨#[]⟩, .string ⟨#[]⟩, .int .u64 0] 56 (0, 0))) hsH.out)
            clear oM oH eH hsH ho
            generalize rnumR s2 = qa at *
            obtain ⟨va, ta⟩ := qa
            dsimp only at hmr h1
            go_wp2_with fail
            obtain ⟨mb, hmb⟩ : ∃ mb, wr.heap.size = mb := ⟨_, rfl⟩
            rw [hmb] at h1 ⊢
            clear hmb
            refine h1.out.mono ?_
            rintro e w8 ⟨rfl, o8, e8, l8, m8⟩
            have g0 : w8.cell? ⟨mb, 0, none⟩ = some (.int .u64 0) := (o8.pick 1).cell (i := 0) rfl
            have f0 : w8.frozen? ⟨mb, 0, none⟩ = false := (o8.pick 1).free 0
            have o8b : Own (w8.setCell ⟨mb, 0, none⟩ (.int .u64 va)) (pts xb (RinC ta) :: pts mb (.cells #[.int .u64 va, .int .i64 0, .string ⟨#[]⟩, .string ⟨#[]⟩, .int .u64 0] 56 (0, 0)) :: pts eb (edC g (upd S l ⟨cA, ms.length, cc⟩) ⟨acc, upd nw l ms, na, nb, nc⟩) :: sl 56 metaE (SlA.v ⟨cA, ms.length, cc⟩) ms :: (D ++ F)) := Own.swap (Own.set (i := 0) (o8.pick 1) (.int .u64 va))
            have h2 := hid (dnm o8b (e8.set _ _) l8)
            clear h1 o8 o8b e8 l8
            generalize rnumR ta = qb at *
            obtain ⟨vb, tb⟩ := qb
            dsimp only at hmr h2
            go_wp2_with fail
            clear g0 f0
            refine h2.out.mono ?_
            rintro e w9 ⟨rfl, o9, e9, l9, m9⟩
            have o9H := hid o9
            have e9H := hid e9
            have l9H := hid l9
            have m9H := hid m9
            clear o9 e9 l9 m9 h2 m8
            have hrs : Hid (rsizeR (vb, tb) = if 1099511627776 < vb then (tb.1, true) else tb) := hid rfl
            generalize rsizeR (vb, tb) = tq at *
            go_upto_if 67 with fail
            go_cut [] from 66 to 70 (fun wx => Own wx (pts xb (RinC tq) :: pts mb (.cells #[.int .u64 va, .int .i64 0, .string ⟨#[]⟩, .string ⟨#[]⟩, .int .u64 0] 56 (0, 0)) :: pts eb (edC g (upd S l ⟨cA, ms.length, cc⟩) ⟨acc, upd nw l ms, na, nb, nc⟩) :: sl 56 metaE (SlA.v ⟨cA, ms.length, cc⟩) ms :: (D ++ F)) ∧ Ext w wx ∧ tq.1.length ≤ 1000000)
            case first =>
              have x1 : w9.cell? ⟨xb, 1, none⟩ = some (.bool tb.2) := o9H.out.cell (i := 1) rfl
              have y1 : w9.frozen? ⟨xb, 1, none⟩ = false := o9H.out.free 1
              have os := hid (o9H.out.set (i := 1) (.bool true))
              have es := hid (e9H.out.set ⟨xb, 1, none⟩ (.bool true))
              by_cases hbig : 1099511627776 < vb
              · have z : decide ((vb : Int) > 1099511627776) = true := decide_eq_true (by omega)
                have z' : decide (1099511627776 < vb) = true := decide_eq_true (by omega)
                have z2 : (1099511627776 : Int) < vb := by omega
                have ht : Hid (tq = (tb.1, true)) := hid (by rw [hrs.out, if_pos hbig])
                clear hbig
                go_wp2_with fail
                go_meet
                case rel => rw [ht.out]; exact ⟨os.out, es.out, l9H.out⟩
              · have z : decide ((vb : Int) > 1099511627776) = false := decide_eq_false (by omega)
                have z' : decide (1099511627776 < vb) = false := decide_eq_false (by omega)
                have z2 : ¬ (1099511627776 : Int) < vb := by omega
                have z3 : (vb : Int) ≤ 1099511627776 := by omega
                have ht : Hid (tq = tb) := hid (by rw [hrs.out, if_neg hbig])
                clear hbig
                go_wp2_with fail
                go_meet
                case rel => rw [ht.out]; exact ⟨o9H.out, e9H.out, l9H.out⟩
            case rest =>
            obtain ⟨o10, e10, l10⟩ := hcut
            clear o9H e9H l9H hrs
            obtain ⟨vz, hvz⟩ : ∃ vz : Nat, vb % 2199023255552 = vz := ⟨_, rfl⟩
            have hz1' : (vb : Int) % 2199023255552 = (vz : Int) := by omega
            have hz2' : IntKind.i64.wrap (vz : Int) = (vz : Int) := Go.IntWalk.i64_in _ (by omega)
            have hz3' : IntKind.i64.wrap ((vb : Int) % 2199023255552) = (vz : Int) := by rw [hz1', hz2']
            rw [hvz] at hmr
            clear hvz hz1' hz2'
            have g1 : wc.cell? ⟨mb, 1, none⟩ = some (.int .i64 0) := (o10.pick 1).cell (i := 1) rfl
            have f1 : wc.frozen? ⟨mb, 1, none⟩ = false := (o10.pick 1).free 1
            have o10b : Own (wc.setCell ⟨mb, 1, none⟩ (.int .i64 vz)) (pts xb (RinC tq) :: pts mb (.cells #[.int .u64 va, .int .i64 vz, .string ⟨#[]⟩, .string ⟨#[]⟩, .int .u64 0] 56 (0, 0)) :: pts eb (edC g (upd S l ⟨cA, ms.length, cc⟩) ⟨acc, upd nw l ms, na, nb, nc⟩) :: sl 56 metaE (SlA.v ⟨cA, ms.length, cc⟩) ms :: (D ++ F)) := Own.swap (Own.set (i := 1) (o10.pick 1) (.int .i64 vz))
            have h3 := hid (dtx o10b (e10.set _ _) l10)
            clear o10 o10b e10 l10
            generalize rtextR tq = qc at *
            obtain ⟨vc, tc⟩ := qc
            dsimp only at hmr h3
            go_wp2_with fail
            clear g1 f1
            refine h3.out.mono ?_
            rintro e w10 ⟨rfl, o11, e11, l11⟩
            have g1 : w10.cell? ⟨mb, 2, none⟩ = some (.string ⟨#[]⟩) := (o11.pick 1).cell (i := 2) rfl
            have f1 : w10.frozen? ⟨mb, 2, none⟩ = false := (o11.pick 1).free 2
            have o11b : Own (w10.setCell ⟨mb, 2, none⟩ (.string vc)) (pts xb (RinC tc) :: pts mb (.cells #[.int .u64 va, .int .i64 vz, .string vc, .string ⟨#[]⟩, .int .u64 0] 56 (0, 0)) :: pts eb (edC g (upd S l ⟨cA, ms.length, cc⟩) ⟨acc, upd nw l ms, na, nb, nc⟩) :: sl 56 metaE (SlA.v ⟨cA, ms.length, cc⟩) ms :: (D ++ F)) := Own.swap (Own.set (i := 2) (o11.pick 1) (.string vc))
            have h4 := hid (dtx o11b (e11.set _ _) l11)
            clear h3 o11 o11b e11 l11
            generalize rtextR tc = qd at *
            obtain ⟨vd, td⟩ := qd
            dsimp only at hmr h4
            go_wp2_with fail
            clear g1 f1
            refine h4.out.mono ?_
            rintro e w11 ⟨rfl, o12, e12, l12⟩
            have g1 : w11.cell? ⟨mb, 3, none⟩ = some (.string ⟨#[]⟩) := (o12.pick 1).cell (i := 3) rfl
            have f1 : w11.frozen? ⟨mb, 3, none⟩ = false := (o12.pick 1).free 3
            have o13 : Own (w11.setCell ⟨mb, 3, none⟩ (.string vd)) (pts xb (RinC td) :: pts mb (.cells #[.int .u64 va, .int .i64 vz, .string vc, .string vd, .int .u64 0] 56 (0, 0)) :: pts eb (edC g (upd S l ⟨cA, ms.length, cc⟩) ⟨acc, upd nw l ms, na, nb, nc⟩) :: sl 56 metaE (SlA.v ⟨cA, ms.length, cc⟩) ms :: (D ++ F)) := Own.swap (Own.set (i := 3) (o12.pick 1) (.string vd))
            have h5 := hid (dnm o13 (e12.set _ _) l12)
            clear h4 o12 e12 l12 o13
            generalize rnumR td = qf at *
            obtain ⟨vf, tf⟩ := qf
            dsimp only at hmr h5
            go_wp2_with fail
            clear g1 f1
            refine h5.out.mono ?_
            rintro e w12 ⟨rfl, o14, e14, l14, m14⟩
            have g4 : w12.cell? ⟨mb, 4, none⟩ = some (.int .u64 0) := (o14.pick 1).cell (i := 4) rfl
            have f4 : w12.frozen? ⟨mb, 4, none⟩ = false := (o14.pick 1).free 4
            have o15 : Hid (Own (w12.setCell ⟨mb, 4, none⟩ (.int .u64 vf)) (pts xb (RinC tf) :: pts mb (.cells #[.int .u64 va, .int .i64 vz, .string vc, .string vd, .int .u64 vf] 56 (0, 0)) :: pts eb (edC g (upd S l ⟨cA, ms.length, cc⟩) ⟨acc, upd nw l ms, na, nb, nc⟩) :: sl 56 metaE (SlA.v ⟨cA, ms.length, cc⟩) ms :: (D ++ F))) := hid (Own.swap (Own.set (i := 4) (o14.pick 1) (.int .u64 vf)))
            have e15 := hid (e14.set ⟨mb, 4, none⟩ (.int .u64 vf))
            have l15 := hid l14
            clear h5 o14 e14 l14 m14
            go_upto_region 27 with fail
            obtain ⟨w13, hw13⟩ : ∃ w', w' = w12.setCell ⟨mb, 4, none⟩ (.int .u64 vf) := ⟨_, rfl⟩
            rw [← hw13] at o15 e15 ⊢
            clear hw13 g4 f4
            have q0 : w13.cell? ⟨mb, 0, none⟩ = some (.int .u64 va) := (o15.out.pick 1).cell (i := 0) rfl
            have q1 : w13.cell? ⟨mb, 1, none⟩ = some (.int .i64 vz) := (o15.out.pick 1).cell (i := 1) rfl
            have q2 : w13.cell? ⟨mb, 2, none⟩ = some (.string vc) := (o15.out.pick 1).cell (i := 2) rfl
            have q3 : w13.cell? ⟨mb, 3, none⟩ = some (.string vd) := (o15.out.pick 1).cell (i := 3) rfl
            have q4 : w13.cell? ⟨mb, 4, none⟩ = some (.int .u64 vf) := (o15.out.pick 1).cell (i := 4) rfl
            have hea : (editCells g (upd S l ⟨cA, ms.length, cc⟩) ⟨acc, upd nw l ms, na, nb, nc⟩)[1 + l]? = some (.slice cA ms.length cc) := by
              have := edit_at g (upd S l ⟨cA, ms.length, cc⟩) ⟨acc, upd nw l ms, na, nb, nc⟩ hlt
              rw [upd_at] at this
              exact this
            have c5 : w13.cell? ⟨eb, 1 + l, none⟩ = some (.slice cA ms.length cc) := (o15.out.pick 2).cell hea
            have c6 : (w13.alloc (.cells #[.int .u64 va, .int .i64 vz, .string vc, .string vd, .int .u64 vf] 56 (0, 0))).cell? ⟨eb, 1 + l, none⟩ = some (.slice cA ms.length cc) := ((Own.allocd o15.out).pick 2).cell hea
            have hk3 : ms.length ≤ 1000 := by have := haH.out; omega
            have oA := hid (Own.allocd (x := .cells #[.int .u64 va, .int .i64 vz, .string vc, .string vd, .int .u64 vf] 56 (0, 0)) (Own.drew (o15.out.pick 3)))
            go_region_law (first
              | (refine step_append_slc rfl _ _ _ rfl 56 i1 _ 5 56 Try.underlying30 hi0 hz0 hz1 hz2 rfl (by omega) _ _ _ rfl oA.out ⟨w13.heap.size, 0, none⟩ 1 1 [.int .u64 va, .int .i64 vz, .string vc, .string vd, .int .u64 vf] rfl rfl (cells_new' (by simp) _ _ _) (by simp [Value.oneCell']) (by unfold maxLen; omega) (by omega) (by omega) ?_; intro A7 c7 w7 o7 e7; have f7 := Own.free (o7.pick 3) (1 + l); have d7 := (o7.pick 3).cell hea))
            all_goals
              have o8 := sl_of (E := metaE) (ms ++ [⟨va, vz, vc, vd, vf⟩]) o7 (by simp) (by simp [metaE, Enc.flat])
              have o9 : Hid (Own (w7.setCell ⟨eb, 1 + l, none⟩ (.slice A7 (ms.length + 1) c7)) (pts xb (RinC tf) :: pts eb (edC g (upd S l ⟨A7, ms.length + 1, c7⟩) ⟨acc, upd nw l (ms ++ [⟨va, vz, vc, vd, vf⟩]), na, nb, nc⟩) :: sl 56 metaE (SlA.v ⟨A7, ms.length + 1, c7⟩) (ms ++ [⟨va, vz, vc, vd, vf⟩]) :: (D ++ F))) := hid (by
                have oB := Own.set (i := 1 + l) (o8.pick 3) (.slice A7 (ms.length + 1) c7)
                rw [edit_set g (upd S l ⟨cA, ms.length, cc⟩) ⟨acc, upd nw l ms, na, nb, nc⟩ (upd nw l (ms ++ [⟨va, vz, vc, vd, vf⟩])) hlt ⟨A7, ms.length + 1, c7⟩, upd_upd] at oB
                exact Own.pick 2 (Own.drop (Own.pick 3 oB)))
              have e9 := hid ((((e15.out.drew).alloc _).trans e7).set ⟨eb, 1 + l, none⟩ (.slice A7 (ms.length + 1) c7))
              clear o7 e7 f7 d7 o8 c5 c6 q0 q1 q2 q3 q4 oA o15 e15
              go_wp2_with fail
              go_roundw
              case rel => exact ⟨k + 1, ms ++ [⟨va, vz, vc, vd, vf⟩], tf, ⟨A7, ms.length + 1, c7⟩, by omega, by omega, by go_num, o9.out, e9.out, by rw [hn0.out, hmr.out], by rw [List.length_append, haH.out]; rfl, l15.out⟩
              case measure => simp [intOf]; omega
          · have hk3 : k = 31 ∧ (31 : Int) < nm ∨ decide (k < nm) = false := by
              by_cases hk1 : k < nm
              · exact .inl ⟨by omega, by omega⟩
              · exact .inr (decide_eq_false hk1)
            have hmin : min nm 31 = k := by omega
            have hmm : Hid (rlevelR st' = (ms, s2)) := hid (by rw [hlr.out, hmin, hnH.out])
            have hm31 : Hid (ms.length ≤ 31) := hid (by rw [haH.out]; exact hk31)
            clear hlr hnH hlk haH hmin ho
            rcases hk3 with ⟨rfl, hk3⟩ | hk3
            all_goals
              go_wp2_with fail
              go_roundw
              case rel =>
                refine ⟨l + 1, upd S l ⟨cA, ms.length, cc⟩, upd nw l ms, s2, sl 56 metaE (SlA.v ⟨cA, ms.length, cc⟩) ms :: D, by omega, by go_num, oH.out, eH.out, fun i hi => ?_, Gives.more hrgH.out _, fun i hi => ?_, fun i => ?_, ?_, hsH.out⟩
                · by_cases e : i = l
                  · subst e
                    rw [upd_at, upd_at]
                    exact fun w F o => sl_rd o
                  · rw [upd_ne _ _ e, upd_ne _ _ e]
                    exact Gives.more (hrdH.out i hi) _
                · rw [upd_ne _ _ (by omega), upd_ne _ _ (by omega)]
                  exact hnilH.out i (by omega)
                · by_cases e : i = l
                  · subst e; rw [upd_at]; exact hm31.out
                  · rw [upd_ne _ _ e]; exact h30H.out i
                · rw [hl1.out, hmm.out, range_upd]
              case measure => simp [intOf]; omega
      · obtain rfl : l = 4 := by omega
        have hfn : (fun i => ((List.range 4).map nw).getD i []) = nw := funext fun i => by
          by_cases hi : i < 4
          · simp [List.getD, hi]
          · rw [(hnilH.out i (by omega)).2]
            simp [List.getD, hi]
        have hE : Hid (dE = (⟨acc, nw, na, nb, nc⟩, st')) := hid (by
          rw [hde2.out, hlvH.out, hfn])
        clear hfn hlt
        go_wp2_with fail
        go_meet
        case rel => exact ⟨S, nw, st', D, oH.out, eH.out, hrdH.out, hrgH.out, h30H.out, hE.out, hsH.out⟩
  case rest =>
  obtain ⟨S, nw, st', D, ho, he, hrd, hrg, h31, hE, hs⟩ := hcut
  clear oD eH hsH hrdG hde2 i1 hi0 hz0 hz1 hz2
  have hed : Hid (EdO wc w eb rb g S ⟨acc, nw, na, nb, nc⟩ (pts xb (RinC st') :: D)) := hid ⟨by
    have o := ho
    rw [hF] at o
    exact o.perm ((List.Perm.swap _ _ _).trans (List.Perm.cons _ (List.perm_middle (l₁ := pts xb (RinC st') :: D)))), fun i hi => Gives.more (hrd i hi) _, Gives.more hrg _, he⟩
  have xq1 : wc.cell? ⟨xb, 1, none⟩ = some (.bool st'.2) := ho.cell (i := 1) rfl
  obtain ⟨rest, badb⟩ := st'
  dsimp only at xq1
  have hER : Hid (EditR wc g S ⟨acc, nw, na, nb, nc⟩) := hid ⟨hed.out.rdG wc [] (by rw [List.append_nil]; exact hed.out.own.drop.drop), fun i hi => hed.out.rd i hi wc [] (by rw [List.append_nil]; exact hed.out.own.drop.drop), fun i hi => Nat.le_trans (h31 i) (by omega)⟩
  have henc := hid (rencode_c g S ⟨acc, nw, na, nb, nc⟩ wc hER.out)
  unfold EncSays editV at henc
  have hdd : Hid (res = if badb = true ∨ encOk ⟨acc, nw, na, nb, nc⟩ = false ∨ encW ⟨acc, nw, na, nb, nc⟩ ≠ l then (nilE, 2) else (⟨acc, nw, na, nb, nc⟩, 0)) := hid (by rw [hdec.out, hE])
  have h30N : Hid (∀ l, l < 4 → (nw l).length ≤ 1000) := hid (fun i hi => Nat.le_trans (h31 i) (by omega))
  have hxk := bool_cases (encOk ⟨acc, nw, na, nb, nc⟩)
  generalize encOk ⟨acc, nw, na, nb, nc⟩ = ok at *
  generalize encW ⟨acc, nw, na, nb, nc⟩ = el at *
  clear ho he hrd hrg h31 hE hs hER hdec hF
  have o := hed.out.own
  have q0 := o.cell (i := 0) (v := .slice g.A g.n g.c) rfl
  have q1 := o.cell (i := 1) (v := .slice (S 0).A (S 0).n (S 0).c) rfl
  have q2 := o.cell (i := 2) (v := .slice (S 1).A (S 1).n (S 1).c) rfl
  have q3 := o.cell (i := 3) (v := .slice (S 2).A (S 2).n (S 2).c) rfl
  have q4 := o.cell (i := 4) (v := .slice (S 3).A (S 3).n (S 3).c) rfl
  have q5 := o.cell (i := 5) (v := .int .u64 na) rfl
  have q6 := o.cell (i := 6) (v := .int .u64 nb) rfl
  have q7 := o.cell (i := 7) (v := .int .u64 nc) rfl
  clear o
  go_wp2_with fail
  refine henc.out.mono ?_
  rintro e w14 ⟨k14, rfl⟩
  have hedw := hid hed.out
  clear hed q0 q1 q2 q3 q4 q5 q6 q7 henc
  have hed := hid (hedw.out.kp k14)
  have xq1 := k14.cell xq1
  have o := hed.out.own
  have q0 := o.cell (i := 0) (v := .slice g.A g.n g.c) rfl
  have q1 := o.cell (i := 1) (v := .slice (S 0).A (S 0).n (S 0).c) rfl
  have q2 := o.cell (i := 2) (v := .slice (S 1).A (S 1).n (S 1).c) rfl
  have q3 := o.cell (i := 3) (v := .slice (S 2).A (S 2).n (S 2).c) rfl
  have q4 := o.cell (i := 4) (v := .slice (S 3).A (S 3).n (S 3).c) rfl
  have q5 := o.cell (i := 5) (v := .int .u64 na) rfl
  have q6 := o.cell (i := 6) (v := .int .u64 nb) rfl
  have q7 := o.cell (i := 7) (v := .int .u64 nc) rfl
  have r0 := o.swap.cell (i := 0) (v := .slice none 0 0) rfl
  have r1 := o.swap.cell (i := 1) (v := .slice none 0 0) rfl
  have r2 := o.swap.cell (i := 2) (v := .slice none 0 0) rfl
  have r3 := o.swap.cell (i := 3) (v := .slice none 0 0) rfl
  have r4 := o.swap.cell (i := 4) (v := .slice none 0 0) rfl
  have r5 := o.swap.cell (i := 5) (v := .int .u64 0) rfl
  have r6 := o.swap.cell (i := 6) (v := .int .u64 0) rfl
  have r7 := o.swap.cell (i := 7) (v := .int .u64 0) rfl
  have f0 := o.swap.free 0
  have f1 := o.swap.free 1
  have f2 := o.swap.free 2
  have f3 := o.swap.free 3
  have f4 := o.swap.free 4
  have f5 := o.swap.free 5
  have f6 := o.swap.free 6
  have f7 := o.swap.free 7
  clear o k14 hedw
  have hxb := bool_cases badb
  rcases hxb with rfl | rfl
  · have hrs : Hid (res = (nilE, 2)) := hid (by rw [hdd.out]; exact if_pos (.inl rfl))
    clear hdd
    rcases hxk with rfl | rfl
    · simp only [if_true]
      go_wp2_with fail
      change bodyPost Try.prog _ _ Exit.ret _ (put w14 rb 0 zeroE.toList)
      clear q0 q1 q2 q3 q4 q5 q6 q7 r0 r1 r2 r3 r4 r5 r6 r7 f0 f1 f2 f3 f4 f5 f6 f7 xq1
      obtain ⟨wz, hwz⟩ : ∃ wz, wz = put w14 rb 0 zeroE.toList := ⟨_, rfl⟩
      have z0 : wz.cell? ⟨rb, 0, none⟩ = some (.slice none 0 0) := by rw [hwz]; exact hed.out.zcells rfl
      have z1 : wz.cell? ⟨rb, 1, none⟩ = some (.slice none 0 0) := by rw [hwz]; exact hed.out.zcells rfl
      have z2 : wz.cell? ⟨rb, 2, none⟩ = some (.slice none 0 0) := by rw [hwz]; exact hed.out.zcells rfl
      have z3 : wz.cell? ⟨rb, 3, none⟩ = some (.slice none 0 0) := by rw [hwz]; exact hed.out.zcells rfl
      have z4 : wz.cell? ⟨rb, 4, none⟩ = some (.slice none 0 0) := by rw [hwz]; exact hed.out.zcells rfl
      have z5 : wz.cell? ⟨rb, 5, none⟩ = some (.int .u64 0) := by rw [hwz]; exact hed.out.zcells rfl
      have z6 : wz.cell? ⟨rb, 6, none⟩ = some (.int .u64 0) := by rw [hwz]; exact hed.out.zcells rfl
      have z7 : wz.cell? ⟨rb, 7, none⟩ = some (.int .u64 0) := by rw [hwz]; exact hed.out.zcells rfl
      have hto := hid hed.out.zkp
      rw [← hwz] at hto ⊢
      clear hwz
      refine bodyPost_ret (by simp [results, Try.results24, go_sem, z0, z1, z2, z3, z4, z5, z6, z7]; rfl) rfl ?_
      exact ⟨hto.out, nilA, fun _ => nilA, by rw [hrs.out]; rfl, by rw [hrs.out]; exact edr_nil _⟩
    · simp only [Bool.false_eq_true, if_false]
      go_wp2_with fail
      change bodyPost Try.prog _ _ Exit.ret _ (put w14 rb 0 zeroE.toList)
      clear q0 q1 q2 q3 q4 q5 q6 q7 r0 r1 r2 r3 r4 r5 r6 r7 f0 f1 f2 f3 f4 f5 f6 f7 xq1
      obtain ⟨wz, hwz⟩ : ∃ wz, wz = put w14 rb 0 zeroE.toList := ⟨_, rfl⟩
      have z0 : wz.cell? ⟨rb, 0, none⟩ = some (.slice none 0 0) := by rw [hwz]; exact hed.out.zcells rfl
      have z1 : wz.cell? ⟨rb, 1, none⟩ = some (.slice none 0 0) := by rw [hwz]; exact hed.out.zcells rfl
      have z2 : wz.cell? ⟨rb, 2, none⟩ = some (.slice none 0 0) := by rw [hwz]; exact hed.out.zcells rfl
      have z3 : wz.cell? ⟨rb, 3, none⟩ = some (.slice none 0 0) := by rw [hwz]; exact hed.out.zcells rfl
      have z4 : wz.cell? ⟨rb, 4, none⟩ = some (.slice none 0 0) := by rw [hwz]; exact hed.out.zcells rfl
      have z5 : wz.cell? ⟨rb, 5, none⟩ = some (.int .u64 0) := by rw [hwz]; exact hed.out.zcells rfl
      have z6 : wz.cell? ⟨rb, 6, none⟩ = some (.int .u64 0) := by rw [hwz]; exact hed.out.zcells rfl
      have z7 : wz.cell? ⟨rb, 7, none⟩ = some (.int .u64 0) := by rw [hwz]; exact hed.out.zcells rfl
      have hto := hid hed.out.zkp
      rw [← hwz] at hto ⊢
      clear hwz
      refine bodyPost_ret (by simp [results, Try.results24, go_sem, z0, z1, z2, z3, z4, z5, z6, z7]; rfl) rfl ?_
      exact ⟨hto.out, nilA, fun _ => nilA, by rw [hrs.out]; rfl, by rw [hrs.out]; exact edr_nil _⟩
  · rcases hxk with rfl | rfl
    · simp only [if_true]
      rcases two_cases (el = l) with hel | hel
      · have hrs : Hid (res = (⟨acc, nw, na, nb, nc⟩, 0)) := hid (by rw [hdd.out]; exact if_neg (by simp [hel]))
        have hst : (el == l) = true := by rw [hel]; exact beq_self_eq_true _
        clear hdd hel
        go_wp2_with fail
        change bodyPost Try.prog _ _ Exit.ret _ (put w14 rb 0 (editCells g S ⟨acc, nw, na, nb, nc⟩).toList)
        clear q0 q1 q2 q3 q4 q5 q6 q7 r0 r1 r2 r3 r4 r5 r6 r7 f0 f1 f2 f3 f4 f5 f6 f7 xq1
        obtain ⟨wz, hwz⟩ : ∃ wz, wz = put w14 rb 0 (editCells g S ⟨acc, nw, na, nb, nc⟩).toList := ⟨_, rfl⟩
        have z0 : wz.cell? ⟨rb, 0, none⟩ = some (.slice g.A g.n g.c) := by rw [hwz]; exact hed.out.cells rfl
        have z1 : wz.cell? ⟨rb, 1, none⟩ = some (.slice (S 0).A (S 0).n (S 0).c) := by rw [hwz]; exact hed.out.cells rfl
        have z2 : wz.cell? ⟨rb, 2, none⟩ = some (.slice (S 1).A (S 1).n (S 1).c) := by rw [hwz]; exact hed.out.cells rfl
        have z3 : wz.cell? ⟨rb, 3, none⟩ = some (.slice (S 2).A (S 2).n (S 2).c) := by rw [hwz]; exact hed.out.cells rfl
        have z4 : wz.cell? ⟨rb, 4, none⟩ = some (.slice (S 3).A (S 3).n (S 3).c) := by rw [hwz]; exact hed.out.cells rfl
        have z5 : wz.cell? ⟨rb, 5, none⟩ = some (.int .u64 na) := by rw [hwz]; exact hed.out.cells rfl
        have z6 : wz.cell? ⟨rb, 6, none⟩ = some (.int .u64 nb) := by rw [hwz]; exact hed.out.cells rfl
        have z7 : wz.cell? ⟨rb, 7, none⟩ = some (.int .u64 nc) := by rw [hwz]; exact hed.out.cells rfl
        have hto := hid (hed.out.told h30N.out)
        rw [← hwz] at hto ⊢
        clear hwz
        refine bodyPost_ret (by simp [results, Try.results24, go_sem, z0, z1, z2, z3, z4, z5, z6, z7]; rfl) rfl ?_
        exact ⟨hto.out.2, g, S, by rw [hrs.out]; rfl, by rw [hrs.out]; exact hto.out.1⟩
      · have hrs : Hid (res = (nilE, 2)) := hid (by rw [hdd.out]; exact if_pos (.inr (.inr hel)))
        have hst : (el == l) = false := by rw [beq_eq_false_iff_ne]; exact hel
        clear hdd hel
        go_wp2_with fail
        change bodyPost Try.prog _ _ Exit.ret _ (put w14 rb 0 zeroE.toList)
        clear q0 q1 q2 q3 q4 q5 q6 q7 r0 r1 r2 r3 r4 r5 r6 r7 f0 f1 f2 f3 f4 f5 f6 f7 xq1
        obtain ⟨wz, hwz⟩ : ∃ wz, wz = put w14 rb 0 zeroE.toList := ⟨_, rfl⟩
        have z0 : wz.cell? ⟨rb, 0, none⟩ = some (.slice none 0 0) := by rw [hwz]; exact hed.out.zcells rfl
        have z1 : wz.cell? ⟨rb, 1, none⟩ = some (.slice none 0 0) := by rw [hwz]; exact hed.out.zcells rfl
        have z2 : wz.cell? ⟨rb, 2, none⟩ = some (.slice none 0 0) := by rw [hwz]; exact hed.out.zcells rfl
        have z3 : wz.cell? ⟨rb, 3, none⟩ = some (.slice none 0 0) := by rw [hwz]; exact hed.out.zcells rfl
        have z4 : wz.cell? ⟨rb, 4, none⟩ = some (.slice none 0 0) := by rw [hwz]; exact hed.out.zcells rfl
        have z5 : wz.cell? ⟨rb, 5, none⟩ = some (.int .u64 0) := by rw [hwz]; exact hed.out.zcells rfl
        have z6 : wz.cell? ⟨rb, 6, none⟩ = some (.int .u64 0) := by rw [hwz]; exact hed.out.zcells rfl
        have z7 : wz.cell? ⟨rb, 7, none⟩ = some (.int .u64 0) := by rw [hwz]; exact hed.out.zcells rfl
        have hto := hid hed.out.zkp
        rw [← hwz] at hto ⊢
        clear hwz
        refine bodyPost_ret (by simp [results, Try.results24, go_sem, z0, z1, z2, z3, z4, z5, z6, z7]; rfl) rfl ?_
        exact ⟨hto.out, nilA, fun _ => nilA, by rw [hrs.out]; rfl, by rw [hrs.out]; exact edr_nil _⟩
    · have hrs : Hid (res = (nilE, 2)) := hid (by rw [hdd.out]; exact if_pos (.inr (.inl rfl)))
      simp only [Bool.false_eq_true, if_false]
      clear hdd
      go_wp2_with fail
      change bodyPost Try.prog _ _ Exit.ret _ (put w14 rb 0 zeroE.toList)
      clear q0 q1 q2 q3 q4 q5 q6 q7 r0 r1 r2 r3 r4 r5 r6 r7 f0 f1 f2 f3 f4 f5 f6 f7 xq1
      obtain ⟨wz, hwz⟩ : ∃ wz, wz = put w14 rb 0 zeroE.toList := ⟨_, rfl⟩
      have z0 : wz.cell? ⟨rb, 0, none⟩ = some (.slice none 0 0) := by rw [hwz]; exact hed.out.zcells rfl
      have z1 : wz.cell? ⟨rb, 1, none⟩ = some (.slice none 0 0) := by rw [hwz]; exact hed.out.zcells rfl
      have z2 : wz.cell? ⟨rb, 2, none⟩ = some (.slice none 0 0) := by rw [hwz]; exact hed.out.zcells rfl
      have z3 : wz.cell? ⟨rb, 3, none⟩ = some (.slice none 0 0) := by rw [hwz]; exact hed.out.zcells rfl
      have z4 : wz.cell? ⟨rb, 4, none⟩ = some (.slice none 0 0) := by rw [hwz]; exact hed.out.zcells rfl
      have z5 : wz.cell? ⟨rb, 5, none⟩ = some (.int .u64 0) := by rw [hwz]; exact hed.out.zcells rfl
      have z6 : wz.cell? ⟨rb, 6, none⟩ = some (.int .u64 0) := by rw [hwz]; exact hed.out.zcells rfl
      have z7 : wz.cell? ⟨rb, 7, none⟩ = some (.int .u64 0) := by rw [hwz]; exact hed.out.zcells rfl
      have hto := hid hed.out.zkp
      rw [← hwz] at hto ⊢
      clear hwz
      refine bodyPost_ret (by simp [results, Try.results24, go_sem, z0, z1, z2, z3, z4, z5, z6, z7]; rfl) rfl ?_
      exact ⟨hto.out, nilA, fun _ => nilA, by rw [hrs.out]; rfl, by rw [hrs.out]; exact edr_nil _⟩
end Go.Proofs.Ytdmdnhceiddcfaa
