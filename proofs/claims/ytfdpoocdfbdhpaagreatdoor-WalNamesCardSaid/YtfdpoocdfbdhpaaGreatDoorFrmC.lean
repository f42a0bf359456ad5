/- The walk of frame.All. -/
import Derived.Test.YtfdpoocdfbdhpaaGreatDoorFrmB
import Derived.Test.YtfdpoocdfbdhpaaGreatDoorFsJ
import Derived.WalkMore
import Derived.Deep.LoopGhost
set_option linter.all false
namespace Go.Proofs.YtfdpoocdfbdhpaaGreatDoor
open Go.RowKit Go.Sl Go.Scree

def strsOf (ts : List (List UInt8)) : List ByteArray := ts.map fun t => ⟨t.toArray⟩
def strSz (v : Value) : Nat := match v with | .string b => b.size | _ => 0
theorem infoStr : (Tryz.prog.info? 9).map (fun i => (i.zero, i.size, i.bytes)) = some (some (.string ⟨#[]⟩), 1, 16) := by kernel_rfl
theorem slc_shape {w : World} {F : List Chunk} {T : TypeId} {size n : Nat} {v : Value} {xs : List Value} (o : Own w (slc T size v n xs :: F)) : ∃ A m c, v = .slice A m c ∧ Go.RowKit.Hid (Own w (slc T size v n xs :: F)) := by
  obtain ⟨_, h⟩ := slc_open o
  rcases h with ⟨rfl, _⟩ | ⟨g, cap, cur, rfl, _⟩
  · exact ⟨_, _, _, rfl, hid o⟩
  · exact ⟨_, _, _, rfl, hid o⟩
set_option maxRecDepth 20000 in
set_option maxHeartbeats 3200000 in
theorem fall_c (s : ByteArray) (w : World) (F : List Chunk) (o : Own w F) (hs : s.size ≤ 1000000000000) :
    Calls Tryz.prog 56 #[.string s] w fun e w' => ∃ v c, e = .returned (.tuple #[v, .int .i64 c]) ∧ Own w' (sl 9 strE v (strsOf (allF s.data.toList)) :: F) ∧ Ext w w' := by
  have oH := hid o
  clear o
  obtain ⟨i0, hi0, hz0, hz1, hz2⟩ := info_parts infoStr
  go_enter Tryz.func56, Tryz.ntmps56
  go_wp2
  go_step3
  go_wp2
  go_step3
  go_wp2
  go_loopw [4, 5] (fun l r wr => ∃ (ts : List (List UInt8)) (rest : ByteArray), r = .string rest ∧ allF s.data.toList = ts ++ allF rest.data.toList ∧ ts.length + rest.size ≤ s.size ∧ Own wr (sl 9 strE l (strsOf ts) :: F) ∧ Ext w wr) (fun _ r _ => strSz r)
  case atStart => exact ⟨[], s, rfl, rfl, by simp, sl_nil _ _ oH.out, Ext.refl _⟩
  case round =>
    obtain ⟨ts, rest, rfl, hts, hsz, ok, ek⟩ := hrel
    obtain ⟨A1, n1, c1, rfl⟩ := sl_shape ok
    obtain ⟨hn1, _, _⟩ := sl_n ok
    have hn2 : n1 = ts.length := by rw [hn1]; simp [strsOf]
    have hn3 : n1 ≤ s.size := by omega
    have hn2H := hid hn2
    have hn1H := hid hn1
    have okH := hid ok
    have htsH := hid hts
    have hszH := hid hsz
    have hcon := ftake_c rest wr _ okH.out (by unfold maxLen; omega)
    clear ok hts hn1 hn2
    cases ht : takeF rest.data.toList with
    | none =>
      have hv : ftakeV rest.data.toList = .tuple #[.string ⟨#[]⟩, .string ⟨#[]⟩, .int .i64 (if rest.data.toList = [] then 10 else 2)] := by unfold ftakeV; rw [ht]
      rw [hv] at hcon
      have hfin := htsH.out
      rw [allF_none ht, List.append_nil] at hfin
      have hfH := hid hfin
      have hq : ∃ q : Int, (if rest.data.toList = [] then (10 : Int) else 2) = q ∧ (q == 0) = false := by
        split
        · exact ⟨10, rfl, rfl⟩
        · exact ⟨2, rfl, rfl⟩
      obtain ⟨q, hq1, hq2⟩ := hq
      rw [hq1] at hcon
      have hcH := hid hcon
      clear ht hv hcon hfin hq1
      go_wp2_with fail
      refine hcH.out.mono ?_
      rintro e w1 ⟨rfl, o1, e1⟩
      have o1H := hid o1
      clear o1
      go_wp2_with fail
      rw [Exit.noGoto_ret]
      go_ret2
      rw [hfH.out]
      exact ⟨_, _, rfl, o1H.out, ek.trans e1⟩
    | some q =>
      obtain ⟨tx, r⟩ := q
      have hv : ftakeV rest.data.toList = .tuple #[.string ⟨tx.toArray⟩, .string ⟨r.toArray⟩, .int .i64 0] := by unfold ftakeV; rw [ht]
      rw [hv] at hcon
      have hcH := hid hcon
      have hfin := htsH.out
      rw [allF_some ht] at hfin
      have hlen := takeF_len ht
      rw [size_list'] at hlen
      have hfH := hid hfin
      obtain ⟨tb, htb⟩ : ∃ z : ByteArray, (⟨tx.toArray⟩ : ByteArray) = z := ⟨_, rfl⟩
      obtain ⟨rb, hrb⟩ : ∃ z : ByteArray, (⟨r.toArray⟩ : ByteArray) = z := ⟨_, rfl⟩
      have hrz : r.length = rb.size := by rw [← size_list' rb, ← hrb]
      have hrd : r = rb.data.toList := by rw [← hrb]
      rw [htb, hrb] at hcH
      have htbH := hid htb
      have hrdH := hid hrd
      rw [hrz] at hlen
      clear ht hv hcon hfin hrb hrz hrd htb
      go_wp2_with fail
      refine hcH.out.mono ?_
      rintro e w1 ⟨rfl, o1, e1⟩
      have o1H := hid o1
      clear o1
      go_wp2_with (refine wpList_append_slc rfl _ _ _ rfl 9 i0 _ 1 16 Tryz.underlying28 hi0 hz0 hz1 hz2 rfl (by omega) _ n1 (strE.flat (strsOf ts)) rfl (by have h := o1H.out.allocd (x := .cells #[.string tb] 9 (0, 0)); unfold sl at h; rw [← hn1H.out] at h; exact h) ⟨_, 0, none⟩ 1 1 [.string tb] rfl rfl (cells_new _ _ _ _) (by simp [Value.oneCell']) (by unfold maxLen; omega) (by omega) ?_; intro v3 w3 o3 e3 _; obtain ⟨A3, n3, c3, rfl, o3H⟩ := slc_shape o3; clear o3)
      go_roundw
      case rel =>
        refine ⟨ts ++ [tx], rb, rfl, ?_, ?_, ?_, (((ek.trans e1).alloc _).trans e3)⟩
        · rw [hfH.out, hrdH.out]; simp
        · rw [List.length_append, List.length_singleton]; omega
        · exact sl_of (E := strE) (strsOf (ts ++ [tx])) o3H.out (by simp [strsOf]; exact hn2H.out) (by unfold strsOf; rw [List.map_append, strE.flat_append]; rw [← htbH.out]; rfl)
      case measure => simp only [strSz]; omega
end Go.Proofs.YtfdpoocdfbdhpaaGreatDoor
