/- The walks of strconv.FormatUint at base 10, wal.Name, wal.Number, wal.may. -/
import Derived.Test.YtfdpoocdfbdhpaaGreatDoorGlob
import Derived.Test.YtfdpoocdfbdhpaaGreatDoorWalM
import Derived.Test.YtfdpoocdfbdhpaaGreatDoorEntM
import Derived.Test.YtfdpoocdfbdhpaaGreatDoorWalLay
import Derived.Lib.ItoaMem
import Derived.Shelf.Small.Wraps
import Derived.BigCall
import Derived.BigGuard
set_option linter.all false
namespace Go.Proofs.YtfdpoocdfbdhpaaGreatDoor
open Go.RowKit Go.Sl Go.Scree Go.Sort Go.Shelf
open Go.Lib hiding hid

theorem small_l (i : Nat) (h : i < 100) (w : World) : Calls Tryz.prog 101 #[.int .i64 i] w fun e w' => e = .returned (.string ⟨(Lib.decDigits i).toArray⟩) ∧ w' = w := Any.internal_strconv_small Wal.small i h w
theorem numdg_l (u : Nat) (h1 : 1 ≤ u) (h2 : u < 18446744073709551616) (w : World) (htab : Lib.TabIs Tryz.prog w "internal/strconv.uint64pow10" .u64 Lib.pow10Tab) :
    Calls Tryz.prog 102 #[.int .u64 u] w fun e w' => e = .returned (.int .i64 (Lib.nDigits u)) ∧ w' = w := Any.internal_strconv_numDigits Wal.numdg u h1 h2 w htab
theorem fbase_l (blk off cap : Nat) (u : Nat) (d : Array UInt8) (w : World) (hH : Holds (fun (b : UInt8) => Value.int .u8 (b.toNat : Int)) w blk off d) (hu : u < 10 ^ d.size) (hu64 : u < 18446744073709551616) (hsz : d.size < 4611686018427387904) :
    Calls Tryz.prog 103 #[.slice (some ⟨blk, off, none⟩) d.size cap, .int .u64 u] w fun e w' =>
      e = .returned (.tuple #[]) ∧ ∃ (n v' : Nat) (dk : Array UInt8), w' = (putRow (fun (b : UInt8) => Value.int .u8 (b.toNat : Int)) w blk off dk).drewN n ∧ FmtInv d.size u 0 v' dk := Any.internal_strconv_formatBase10 Wal.fbase blk off cap u d w hH hu hu64 hsz
theorem cutp_l (s p : ByteArray) (w : World) :
    Calls Tryz.prog 42 #[.string s, .string p] w fun e w' => e = .returned (.tuple #[.string ⟨(Lib.trimPrefix s.data.toList p.data.toList).toArray⟩, .bool (Lib.hasPrefix s.data.toList p.data.toList)]) ∧ w' = w := Any.strings_CutPrefix Wal.cutp s p w

set_option maxHeartbeats 6400000 in
set_option maxRecDepth 100000 in
theorem fmt_c (u : Nat) (hu64 : u < 18446744073709551616) (w : World) (hG : Gok w) :
    Calls Tryz.prog 74 #[.int .u64 u, .int .i64 10] w fun e w' => e = .returned (.string ⟨(Lib.decDigits u).toArray⟩) ∧ Kp w w' := by
  by_cases hs : u < 100
  · have hsi : (u : Int) < 100 := by omega
    have hu : IntKind.i64.wrap (u : Int) = u := by rw [IntKind.wrap_i64]; omega
    go_enter Tryz.func74, Tryz.ntmps74
    go_wp2_with fail
    refine (small_l u hs w).mono ?_
    rintro e w' ⟨rfl, rfl⟩
    go_wp2
    go_ret
    exact ⟨rfl, Kp.refl _⟩
  · have hu1 : 1 ≤ u := by omega
    have hnd20 : Lib.nDigits u ≤ 20 := by have := Lib.numDigits_eq u hu1 hu64; split at this <;> omega
    have hal : Program.arrayLen Tryz.prog 140 = 24 := by simp [Program.arrayLen, Tryz.underlying140]
    have hsl : ∀ W, (Instr.sliceAt 140 (.pointer (some ⟨w.heap.size, 0, none⟩)) none (some (.int .i64 (Lib.nDigits u : Int))) none).run Tryz.prog W = .ok (.slice (some ⟨w.heap.size, 0, none⟩) (Lib.nDigits u) 24) W := fun W => by
      rw [run_sliceAt_array_h W 140 ⟨w.heap.size, 0, none⟩ (by simp [Program.arrayLen, Program.elem, Tryz.underlying140]) .i64 (Lib.nDigits u : Int) (by omega) (by rw [hal]; omega)]
      go_simp
    have hH0 := Lib.holds_zero0 w 140 (Lib.nDigits u) (by omega)
    have hfmt := fbase_l w.heap.size 0 24 u (Array.replicate (Lib.nDigits u) 0) (w.alloc (.cells Lib.zeros24 140)) hH0 (by rw [Array.size_replicate]; exact Lib.lt_pow_nDigits u) hu64 (by rw [Array.size_replicate]; omega)
    rw [Array.size_replicate] at hfmt
    have HH0 := hid hH0
    have htab := hid (Lib.tabIs_alloc hG.tab (.cells Lib.zeros24 140))
    have hfH := hid hfmt
    have iu : ¬ (u : Int) < 100 := by omega
    clear hH0 hal hfmt hG
    go_enter Tryz.func74, Tryz.ntmps74
    go_wp2_with fail
    refine (numdg_l u hu1 hu64 _ htab.out).mono ?_
    rintro e w' ⟨rfl, rfl⟩
    go_wp2_with fail
    refine hfH.out.mono ?_
    rintro e w' ⟨rfl, k, v', dk, rfl, hF⟩
    have hcv : (convert 94 9 (.slice (some ⟨w.heap.size, 0, none⟩) (Lib.nDigits u) 24)).run Tryz.prog ((putRow (fun (b : UInt8) => Value.int .u8 (b.toNat : Int)) (w.alloc (.cells Lib.zeros24 140)) w.heap.size 0 dk).drewN k) = .ok (.string ⟨(Lib.decDigits u).toArray⟩) ((putRow (fun (b : UInt8) => Value.int .u8 (b.toNat : Int)) (w.alloc (.cells Lib.zeros24 140)) w.heap.size 0 dk).drewN k) := by
      have h := run_convert_bytes_back (P := Tryz.prog) ((putRow (fun (b : UInt8) => Value.int .u8 (b.toNat : Int)) (w.alloc (.cells Lib.zeros24 140)) w.heap.size 0 dk).drewN k) 94 9 5 ⟨w.heap.size, 0, none⟩ 24 (Lib.decDigits u) Tryz.underlying94 Tryz.underlying5 Tryz.underlying9 (fun j hj => by
        rw [Lib.row_is_numeral hF j hj, Lib.add_plain, World.cell?_drewN]
        exact cell?_putRow (fun (b : UInt8) => Value.int .u8 (b.toNat : Int)) _ w.heap.size 0 _ dk HH0.out (by rw [hF.size, Array.size_replicate]) j (by rw [hF.size]; rw [Lib.decDigits_length] at hj; exact hj))
      rw [Lib.decDigits_length] at h
      exact h
    go_wp2
    go_ret
    obtain ⟨os, eo⟩ := Lib.fin_at w (.cells Lib.zeros24 140) dk k 0
    rw [eo]
    exact ⟨rfl, kp_grow w k os⟩

theorem fmtp_c (u : Nat) (hu64 : u < 18446744073709551616) (w : World) (hG : Gok w) :
    Calls Tryz.prog 45 #[.int .u64 u, .int .i64 10] w fun e w' => e = .returned (.string ⟨(Lib.decDigits u).toArray⟩) ∧ Kp w w' := by
  have hc := hid (fmt_c u hu64 w hG)
  clear hG
  go_enter Tryz.func45, Tryz.ntmps45
  go_wp2_with fail
  refine hc.out.mono ?_
  rintro e w' ⟨rfl, k⟩
  go_wp2
  go_ret
  exact ⟨rfl, k⟩

theorem name_join (u : Nat) : (⟨#[119, 97, 108, 46]⟩ ++ ⟨(decDigits u).toArray⟩ : ByteArray) = ⟨(walPre ++ decDigits u).toArray⟩ := by
  have h : (⟨#[119, 97, 108, 46]⟩ ++ ⟨(decDigits u).toArray⟩ : ByteArray).data = #[119, 97, 108, 46] ++ (decDigits u).toArray := ByteArray.data_append
  cases hb : (⟨#[119, 97, 108, 46]⟩ ++ ⟨(decDigits u).toArray⟩ : ByteArray) with
  | mk d =>
    rw [hb] at h
    dsimp only at h
    subst h
    congr 1
    apply Array.toList_inj.1
    simp [walPre]
set_option maxHeartbeats 1600000 in
theorem name_c (n : Nat) (hn : n < 18446744073709551616) (w : World) (hG : Gok w) :
    Calls Tryz.prog 12 #[.int .u64 n] w fun e w' => e = .returned (.string (walName n)) ∧ Kp w w' := by
  have hc := hid (fmtp_c n hn w hG)
  have hj := hid (name_join n)
  have hl : Hid ((decDigits n).length ≤ 20) := hid (dec_len hn)
  clear hG hn
  unfold walName
  by_cases h : 1099511627776 < n
  · rw [if_pos h]
    have hi : (n : Int) > 1099511627776 := by omega
    clear h
    go_enter Tryz.func12, Tryz.ntmps12
    go_wp2_with fail
    go_ret
    exact ⟨rfl, Kp.refl _⟩
  · rw [if_neg h]
    have hi : ¬ (n : Int) > 1099511627776 := by omega
    clear h
    go_enter Tryz.func12, Tryz.ntmps12
    go_wp2_with fail
    refine hc.out.mono ?_
    rintro e w' ⟨rfl, k⟩
    obtain ⟨sb, hsb⟩ : ∃ z : ByteArray, (⟨(decDigits n).toArray⟩ : ByteArray) = z := ⟨_, rfl⟩
    have hz2 : (sb.size : Int) ≤ 8388608 := by
      rw [← hsb]
      have := hl.out
      show ((decDigits n).toArray.size : Int) ≤ _
      rw [List.size_toArray]; omega
    rw [hsb] at hj ⊢
    clear hsb
    go_wp2
    go_ret
    rw [hj.out]
    exact ⟨rfl, k⟩

/-- What ParseUint tells. -/
def PuSays (l : List UInt8) (v : Nat) (er : Value) : Prop :=
  match parseUintB 64 l with
  | .ok u => v = u ∧ er = .nilIface
  | _ => ∃ N : Nat, er = .iface 136 (.pointer (some ⟨N, 0, none⟩))
theorem puint_c (s : ByteArray) (hs : s.size ≤ 281474976710656) (w : World) (hG : Gok w) :
    Calls Tryz.prog 43 #[.string s, .int .i64 10, .int .i64 64] w fun e w' => ∃ (v : Nat) (er : Value), e = .returned (.tuple #[.int .u64 v, er]) ∧ PuSays s.data.toList v er ∧ Kp w w' := by
  unfold PuSays
  rcases h : parseUintB 64 s.data.toList with u | _ | _
  · refine (Any.strconv_ParseUint_10_at64_ok Wal.puint s (by omega) u h w).mono ?_
    rintro e w' ⟨rfl, hw⟩
    refine ⟨u, _, rfl, ⟨rfl, rfl⟩, ?_⟩
    rcases hw with rfl | rfl
    · exact Kp.refl _
    · exact kp_bytes _ _ _
  · obtain ⟨t, p, hv⟩ := hG.syn
    refine (Any.strconv_ParseUint_10_at64_syntax_var Wal.puint s hs h t p w hv).mono ?_
    rintro e w' ⟨N, rfl, _, _, hb⟩
    exact ⟨0, _, rfl, ⟨N, rfl⟩, kp_below hb⟩
  · obtain ⟨t, p, hv⟩ := hG.rng
    refine (Any.strconv_ParseUint_10_at64_range_var Wal.puint s hs h t p w hv).mono ?_
    rintro e w' ⟨N, rfl, _, _, hb⟩
    exact ⟨18446744073709551615, _, rfl, ⟨N, rfl⟩, kp_below hb⟩
/-- What Number tells. -/
def numV (o : Option Nat) : Value := .tuple #[.int .u64 ((o.getD 0 : Nat) : Int), .bool o.isSome]
theorem trim_size (s : ByteArray) (p : List UInt8) : (⟨(Lib.trimPrefix s.data.toList p).toArray⟩ : ByteArray).size ≤ s.size := by
  show (Lib.trimPrefix s.data.toList p).toArray.size ≤ _
  rw [List.size_toArray]
  have := Lib.size_eq s
  unfold Lib.trimPrefix
  split
  · rw [List.length_drop]; omega
  · omega
theorem num_nopre {s : ByteArray} (h : Lib.hasPrefix s.data.toList walPre = false) : walNumber s = none := by
  unfold walNumber; rw [h]; split <;> simp
theorem num_ok (s : ByteArray) (u : Nat) (h : Lib.hasPrefix s.data.toList walPre = true) (hp : parseUintB 64 (Lib.trimPrefix s.data.toList walPre) = .ok u) : walNumber s = if walName u = s then some u else none := by
  unfold walNumber; rw [hp, h]; simp
theorem num_bad (s : ByteArray) (h : ∀ u, parseUintB 64 (Lib.trimPrefix s.data.toList walPre) ≠ .ok u) : walNumber s = none := by
  unfold walNumber
  split
  · rename_i u hu; exact absurd hu (h u)
  · rfl
set_option maxHeartbeats 3200000 in
set_option maxRecDepth 20000 in
theorem number_c (s : ByteArray) (hs : s.size ≤ 281474976710656) (w : World) (hG : Gok w) :
    Calls Tryz.prog 10 #[.string s] w fun e w' => e = .returned (numV (walNumber s)) ∧ Kp w w' := by
  have hGH := hid hG
  have hsz := hid (Nat.le_trans (trim_size s walPre) hs)
  have hpu := hid (fun w' hG' => puint_c ⟨(Lib.trimPrefix s.data.toList walPre).toArray⟩ hsz.out w' hG')
  have hcp := hid (cutp_l s ⟨#[119, 97, 108, 46]⟩ w)
  clear hG hs
  have hno := hid (@num_nopre s)
  have hok := hid (num_ok s)
  go_enter Tryz.func10, Tryz.ntmps10
  go_wp2_with fail
  refine hcp.out.mono ?_
  rintro e w1 ⟨rfl, rfl⟩
  go_wp2_with fail
  refine (hpu.out _ hGH.out).mono ?_
  rintro e w2 ⟨v, er, rfl, hpx, k2⟩
  have k2H := hid k2
  have hpxH := hid hpx
  clear k2 hpx
  cases hp : Lib.hasPrefix s.data.toList [119, 97, 108, 46] with
  | false =>
    have hn := hid (hno.out hp)
    go_wp2
    trace_state
    go_ret2
    rw [hn.out]
    exact ⟨rfl, k2H.out⟩
  | true =>
    have hokH := hid (fun u => hok.out u hp)
    rcases hq : parseUintB 64 (Lib.trimPrefix s.data.toList walPre) with u | _ | _
    · have hw := hid (hokH.out u hq)
      have hub := parseB_lt hq
      have hpy := hpxH.out
      unfold PuSays at hpy
      rw [hq] at hpy
      obtain ⟨rfl, rfl⟩ := hpy
      have hnm := hid (name_c v hub w2 (hGH.out.kp k2H.out))
      clear hq hub
      by_cases hs : walName v = s
      · subst hs
        rw [if_pos rfl] at hw
        go_wp2_with fail
        refine hnm.out.mono ?_
        rintro e w3 ⟨rfl, k3⟩
        have k3H := hid k3
        clear k3
        go_wp2
        go_ret2
        rw [hw.out]
        exact ⟨rfl, k2H.out.trans k3H.out⟩
      · rw [if_neg hs] at hw
        have hs' : ((walName v).toList == s.toList) = false := eqK_false.2 hs
        go_wp2_with fail
        refine hnm.out.mono ?_
        rintro e w3 ⟨rfl, k3⟩
        have k3H := hid k3
        clear k3
        go_wp2
        go_ret2
        rw [hw.out]
        exact ⟨rfl, k2H.out.trans k3H.out⟩
    · have hn := hid (num_bad s (fun u hu => by rw [hq] at hu; cases hu))
      have hpy := hpxH.out
      unfold PuSays at hpy
      rw [hq] at hpy
      obtain ⟨N, rfl⟩ := hpy
      clear hq
      go_wp2
      go_ret2
      rw [hn.out]
      exact ⟨rfl, k2H.out⟩
    · have hn := hid (num_bad s (fun u hu => by rw [hq] at hu; cases hu))
      have hpy := hpxH.out
      unfold PuSays at hpy
      rw [hq] at hpy
      obtain ⟨N, rfl⟩ := hpy
      clear hq
      go_wp2
      go_ret2
      rw [hn.out]
      exact ⟨rfl, k2H.out⟩
end Go.Proofs.YtfdpoocdfbdhpaaGreatDoor
