/- The walks of frame.Take and All. -/
import Derived.Test.YtfdpoocdfbdhpaaGreatDoorFrmA
import Derived.Laws.Cover1
set_option linter.all false
namespace Go.Proofs.YtfdpoocdfbdhpaaGreatDoor
open Go.RowKit Go.Sl Go.Scree

def ftakeV (s : List UInt8) : Value :=
  match takeF s with
  | none => .tuple #[.string ⟨#[]⟩, .string ⟨#[]⟩, .int .i64 (if s = [] then 10 else 2)]
  | some (t, r) => .tuple #[.string ⟨t.toArray⟩, .string ⟨r.toArray⟩, .int .i64 0]
theorem extract_upto' (s : ByteArray) (k : Nat) : s.extract 0 k = ⟨(s.data.toList.take k).toArray⟩ := by
  have h : (s.extract 0 k).data.toList = s.data.toList.take k := by rw [Lib.extract_data, List.drop_zero, Nat.sub_zero]
  cases he : s.extract 0 k with
  | mk d => rw [he] at h; congr 1; exact Array.toList_inj.1 h
theorem takeF_none1 {s : List UInt8} (h : takeN s 0 0 = none) : takeF s = none := by unfold takeF; rw [h]
theorem takeF_none2 {s r : List UInt8} {n : Nat} (h : takeN s 0 0 = some (n, r)) (hn : 8000 < n ∨ r.length ≤ n) : takeF s = none := by unfold takeF; rw [h]; exact if_pos hn
theorem takeF_none3 {s r : List UInt8} {n : Nat} (h : takeN s 0 0 = some (n, r)) (hn : ¬ (8000 < n ∨ r.length ≤ n)) (hm : r[n]? ≠ some (markB (r.take n))) : takeF s = none := by unfold takeF; rw [h]; dsimp only; rw [if_neg hn, if_neg hm]
theorem takeF_some4 {s r : List UInt8} {n : Nat} (h : takeN s 0 0 = some (n, r)) (hn : ¬ (8000 < n ∨ r.length ≤ n)) (hm : r[n]? = some (markB (r.take n))) : takeF s = some (r.take n, r.drop (n + 1)) := by unfold takeF; rw [h]; dsimp only; rw [if_neg hn, if_pos hm]

set_option maxRecDepth 20000 in
set_option maxHeartbeats 3200000 in
theorem ftake_c (s : ByteArray) (w : World) (F : List Chunk) (o : Own w F) (hs : s.size ≤ maxLen) :
    Calls Tryz.prog 80 #[.string s] w fun e w' => e = .returned (ftakeV s.data.toList) ∧ Own w' F ∧ Ext w w' := by
  have oH := hid o
  clear o
  by_cases h0 : s.data.toList = []
  · have he : s.toList.isEmpty = true := by rw [Lib.toList_data, h0]; rfl
    have hv : Hid (ftakeV s.data.toList = .tuple #[.string ⟨#[]⟩, .string ⟨#[]⟩, .int .i64 10]) := hid (by rw [h0]; rfl)
    clear hs h0
    go_enter Tryz.func80, Tryz.ntmps80
    go_wp2
    go_ret3
    rw [hv.out]
    exact ⟨rfl, oH.out, Ext.refl _⟩
  · have he : s.toList.isEmpty = false := by rw [Lib.toList_data]; cases hl : s.data.toList with
      | nil => exact absurd hl h0
      | cons a l => rfl
    have hcon := ntake_c s w F oH.out hs
    have bad : takeF s.data.toList = none → ftakeV s.data.toList = .tuple #[.string ⟨#[]⟩, .string ⟨#[]⟩, .int .i64 2] := fun h => by unfold ftakeV; rw [h, if_neg h0]
    have badH := hid bad
    clear bad h0
    cases ht : takeN s.data.toList 0 0 with
    | none =>
      rw [ht] at hcon
      have hcH := hid hcon
      have hv := hid (badH.out (takeF_none1 ht))
      clear ht hcon hs
      go_enter Tryz.func80, Tryz.ntmps80
      go_wp2_with fail
      refine hcH.out.mono ?_
      unfold takeV
      rintro e w1 ⟨rfl, o1, e1⟩
      have o1H := hid o1
      clear o1
      go_wp2_with fail
      go_ret3
      rw [hv.out]
      exact ⟨rfl, o1H.out, e1⟩
    | some q =>
      obtain ⟨n, r⟩ := q
      rw [ht] at hcon
      have hcH := hid hcon
      obtain ⟨hd, hdr, -⟩ := takeN_rest ht
      have hrl : r.length ≤ s.size := by rw [← size_list' s, hdr, List.length_append]; omega
      have htH := hid ht
      have hsm : s.size ≤ 9223372036854775807 := by unfold maxLen at hs; exact hs
      obtain ⟨rs, hrs⟩ : ∃ z : ByteArray, (⟨r.toArray⟩ : ByteArray) = z := ⟨_, rfl⟩
      have hrsd : r = rs.data.toList := by rw [← hrs]
      have hrz : r.length = rs.size := by rw [hrsd, size_list']
      have hrsm : rs.size ≤ maxLen := by rw [← hrz]; exact Nat.le_trans hrl hs
      have hrsmH := hid hrsm
      have hrsH := hid hrs
      have hrzH := hid hrz
      have hrdH := hid hrsd
      have hrs63 : rs.size ≤ 9223372036854775807 := by omega
      clear ht hcon hs hd hdr hrl hrs hrsd hrsm hsm hrz
      by_cases hbad : 8000 < n ∨ rs.size ≤ n
      · have hv := hid (badH.out (takeF_none2 htH.out (by rw [hrzH.out]; exact hbad)))
        by_cases hn : 8000 < n
        · have hn1 : decide ((8000 : Int) < (n : Int)) = true := decide_eq_true (by omega)
          clear hbad hn
          go_enter Tryz.func80, Tryz.ntmps80
          go_wp2_with fail
          refine hcH.out.mono ?_
          unfold takeV
          dsimp only
          rw [hrsH.out]
          rintro e w1 ⟨rfl, o1, e1⟩
          have o1H := hid o1
          clear o1
          go_wp2_with fail
          go_ret3
          rw [hv.out]
          exact ⟨rfl, o1H.out, e1⟩
        · have hn1 : decide ((8000 : Int) < (n : Int)) = false := decide_eq_false (by omega)
          have hn2 : rs.size ≤ n := by omega
          have hn3 : n ≤ 8000 := by omega
          have hw : IntKind.i64.wrap (n : Int) = (n : Int) := Go.IntWalk.i64_in _ (by omega)
          clear hbad hn
          go_enter Tryz.func80, Tryz.ntmps80
          go_wp2_with fail
          refine hcH.out.mono ?_
          unfold takeV
          dsimp only
          rw [hrsH.out]
          rintro e w1 ⟨rfl, o1, e1⟩
          have o1H := hid o1
          clear o1
          go_wp2_with fail
          go_ret3
          rw [hv.out]
          exact ⟨rfl, o1H.out, e1⟩
      · have hn1 : decide ((8000 : Int) < (n : Int)) = false := decide_eq_false (by omega)
        have hn2 : n < rs.size := by omega
        have hn3 : n ≤ 8000 := by omega
        have hn4 : ¬ rs.size ≤ n := by omega
        have hbadH := hid hbad
        clear hbad
        have hex := hid (extract_upto' rs n)
        go_enter Tryz.func80, Tryz.ntmps80
        go_wp2_with fail
        refine hcH.out.mono ?_
        unfold takeV
        dsimp only
        rw [hrsH.out]
        rintro e w1 ⟨rfl, o1, e1⟩
        have o1H := hid o1
        clear o1
        go_wp2_with fail
        rw [hex.out]
        obtain ⟨tx, htx⟩ : ∃ z : ByteArray, (⟨(rs.data.toList.take n).toArray⟩ : ByteArray) = z := ⟨_, rfl⟩
        have htd : rs.data.toList.take n = tx.data.toList := by rw [← htx]
        obtain ⟨mk, hmkv⟩ : ∃ m, markB tx.data.toList = m := ⟨_, rfl⟩
        have htz : tx.size ≤ maxLen := by
          rw [← size_list' tx, ← htd, List.length_take, size_list']
          exact Nat.le_trans (Nat.min_le_right _ _) hrsmH.out
        have hmkH : Hid (∀ w, Calls Tryz.prog 78 #[.string tx] w fun e w' => e = .returned (.int .u8 mk.toNat) ∧ w' = w) := hid (fun w => by
          have h := mark_c tx w htz
          rw [hmkv] at h; exact h)
        have hi1 : (0 : Int) ≤ (n : Int) := by omega
        have hi2 : (n : Int) < (rs.size : Int) := by omega
        have hget : rs.data.toList[n]? = some rs[n] := by rw [List.getElem?_eq_getElem (by rw [size_list']; exact hn2)]; rfl
        rw [htx]
        clear hex htz
        by_cases heq : rs[n] = mk
        · have q1 : ((rs[n].toNat : Int) != (mk.toNat : Int)) = false := by rw [heq]; simp
          have q2 : (rs[n].toNat != mk.toNat) = false := by rw [heq]; simp
          have hv : Hid (ftakeV s.data.toList = .tuple #[.string tx, .string ⟨(rs.data.toList.drop (n + 1)).toArray⟩, .int .i64 0]) := hid (by
            unfold ftakeV
            rw [takeF_some4 htH.out (by rw [hrzH.out]; exact hbadH.out) (by rw [hrdH.out, hget, heq, htd, hmkv])]
            dsimp only
            rw [hrdH.out, htx])
          have hw1 : IntKind.u64.wrap ((n : Int) + 1) = (n : Int) + 1 := Go.IntWalk.u64_in _ (by omega)
          have hw2 : ((n : Int) + 1).toNat = n + 1 := by omega
          have hw3 : (0 : Int) ≤ (n : Int) + 1 := by omega
          have hw4 : (n : Int) + 1 ≤ (rs.size : Int) := by omega
          have hex := hid (extract_from' rs (n + 1))
          clear heq htd hmkv hget htx
          go_quiet ((go_at_call 78; exact Calls.quiet_of_same (hmkH.out _)))
          go_wp2_with fail
          go_quiet (fail)
          clear hw1 hw2
          go_wp2
          go_ret3
          rw [hv.out, hex.out]
          exact ⟨rfl, (o1H.out.drewN _).drewN _, (e1.drewN _).drewN _⟩
        · have q0 : rs[n].toNat ≠ mk.toNat := fun h => heq (UInt8.toNat_inj.1 h)
          have q1 : ((rs[n].toNat : Int) != (mk.toNat : Int)) = true := by rw [bne_iff_ne]; omega
          have q2 : (rs[n].toNat != mk.toNat) = true := by rw [bne_iff_ne]; exact q0
          have hv := hid (badH.out (takeF_none3 htH.out (by rw [hrzH.out]; exact hbadH.out) (by rw [hrdH.out, hget, htd, hmkv]; simpa using heq)))
          clear heq htd hmkv hget htx q0
          go_quiet ((go_at_call 78; exact Calls.quiet_of_same (hmkH.out _)))
          go_wp2
          go_ret3
          rw [hv.out]
          exact ⟨rfl, o1H.out.drewN _, e1.drewN _⟩
end Go.Proofs.YtfdpoocdfbdhpaaGreatDoor
