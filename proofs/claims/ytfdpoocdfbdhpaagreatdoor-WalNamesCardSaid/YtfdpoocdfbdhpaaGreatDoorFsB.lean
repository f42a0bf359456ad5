/- A disk in memory; the walk of May. -/
import Derived.Test.YtfdpoocdfbdhpaaGreatDoorFsA
import Derived.Test.YtfdpoocdfbdhpaaGreatDoorFsN
import Derived.Test.YtfdpoocdfbdhpaaGreatDoorSld
import Derived.WalkKit
import Derived.LoopTactic
set_option linter.all false
namespace Go.Proofs.YtfdpoocdfbdhpaaGreatDoor
open Go.RowKit Go.Sl Go.Scree Go.Maps

/-- The block of a file, by its number. -/
def adr (A : List Nat) (i : Nat) : Nat := (A[i]?).getD 0
def diskO (m s : Nat) (pv : Value) (d : FDisk) : Obj := .cells #[.map (some m), .map (some s), pv, .int .i64 d.quota, .int .i64 d.fuse, .bool d.lit, .bool d.dead] 83 (0, 0)
def chgE (A : List Nat) : Enc FChg := ⟨fun c => [.string c.src, .string c.dst, ptrV (c.f.map (adr A))], 3, fun _ => rfl, by
  intro x v hv
  simp only [List.mem_cons, List.not_mem_nil, or_false] at hv
  rcases hv with rfl | rfl | rfl
  · rfl
  · rfl
  · cases x.f <;> rfl, by omega⟩
def fileC (a : Nat) (f : FFile) : Chunk := ex fun v : Value => stars [pts a (.cells #[v, .int .i64 f.sure] 96 (0, 0)), sl 5 byteE v f.b]
def fileCs (A : List Nat) (fs : List FFile) : List Chunk := List.zipWith fileC A fs
def filesC (A : List Nat) (fs : List FFile) : Chunk := stars (fileCs A fs)
def diskC (p : Nat) (d : FDisk) : Chunk := ex fun x : Nat × Nat × Value × List Nat => fact (x.2.2.2.length = d.files.length ∧ FOk d)
  (stars [pts p (diskO x.1 x.2.1 x.2.2.1 d), mapC x.1 (dmap (adr x.2.2.2) d.now), mapC x.2.1 (dmap (adr x.2.2.2) d.sure), sl 92 (chgE x.2.2.2) x.2.2.1 d.pending, filesC x.2.2.2 d.files])
section
variable {w : World} {F : List Chunk} {p a : Nat} {d : FDisk} {f : FFile}
theorem fileC_open (o : Own w (fileC a f :: F)) : ∃ v, Own w (pts a (.cells #[v, .int .i64 f.sure] 96 (0, 0)) :: sl 5 byteE v f.b :: F) := by
  obtain ⟨v, o⟩ := o.open
  exact ⟨v, o.stars⟩
theorem fileC_close {v : Value} (o : Own w (pts a (.cells #[v, .int .i64 f.sure] 96 (0, 0)) :: sl 5 byteE v f.b :: F)) : Own w (fileC a f :: F) :=
  Own.close v (Own.unstars (cs := [_, _]) o)
theorem diskC_open (o : Own w (diskC p d :: F)) : ∃ m s pv A, A.length = d.files.length ∧ FOk d ∧
    Own w (pts p (diskO m s pv d) :: mapC m (dmap (adr A) d.now) :: mapC s (dmap (adr A) d.sure) :: sl 92 (chgE A) pv d.pending :: filesC A d.files :: F) := by
  obtain ⟨⟨m, s, pv, A⟩, o⟩ := o.open
  obtain ⟨⟨h1, h2⟩, o⟩ := o.fact
  exact ⟨m, s, pv, A, h1, h2, o.stars⟩
theorem diskC_close {m s : Nat} {pv : Value} {A : List Nat} (h : A.length = d.files.length) (k : FOk d)
    (o : Own w (pts p (diskO m s pv d) :: mapC m (dmap (adr A) d.now) :: mapC s (dmap (adr A) d.sure) :: sl 92 (chgE A) pv d.pending :: filesC A d.files :: F)) : Own w (diskC p d :: F) :=
  Own.close (m, s, pv, A) (Own.pure ⟨h, k⟩ (Own.unstars (cs := [_, _, _, _, _]) o))
theorem diskC_ok (o : Own w (diskC p d :: F)) : FOk d := (diskC_open o).choose_spec.choose_spec.choose_spec.choose_spec.2.1
theorem diskC_lt (o : Own w (diskC p d :: F)) : p < w.heap.size := (diskC_open o).choose_spec.choose_spec.choose_spec.choose_spec.2.2.lt

/-- One file, taken out of all; what it becomes goes back. -/
theorem fileCs_pick : ∀ (A : List Nat) (fs : List FFile) (i : Nat) (f : FFile), A.length = fs.length → fs[i]? = some f →
    ∃ R, (fileCs A fs).Perm (fileC (adr A i) f :: R) ∧ ∀ g : FFile → FFile, (fileC (adr A i) (g f) :: R).Perm (fileCs A (fs.modify i g))
  | [], [], i, f, _, h => by simp at h
  | a :: A, x :: fs, 0, f, hl, h => by
    obtain rfl : x = f := by simpa using h
    exact ⟨fileCs A fs, List.Perm.refl _, fun g => by simp [fileCs, adr]⟩
  | a :: A, x :: fs, i + 1, f, hl, h => by
    obtain ⟨R, h1, h2⟩ := fileCs_pick A fs i f (by simpa using hl) (by simpa using h)
    refine ⟨fileC a x :: R, ?_, fun g => ?_⟩
    · have : adr (a :: A) (i + 1) = adr A i := by simp [adr]
      rw [this]
      exact (h1.cons (fileC a x)).trans (List.Perm.swap _ _ _)
    · have : adr (a :: A) (i + 1) = adr A i := by simp [adr]
      rw [this]
      exact (List.Perm.swap _ _ _).trans ((h2 g).cons (fileC a x))
  | [], _ :: _, _, _, hl, _ => by simp at hl
  | _ :: _, [], _, _, hl, _ => by simp at hl
theorem filesC_pick {A : List Nat} {fs : List FFile} {i : Nat} {f : FFile} (hl : A.length = fs.length) (h : fs[i]? = some f) (o : Own w (filesC A fs :: F)) :
    ∃ R, Own w (fileC (adr A i) f :: (R ++ F)) ∧ ∀ (g : FFile → FFile) (w' : World) (G : List Chunk), Own w' (fileC (adr A i) (g f) :: (R ++ G)) → Own w' (filesC A (fs.modify i g) :: G) := by
  obtain ⟨R, h1, h2⟩ := fileCs_pick A fs i f hl h
  refine ⟨R, Own.perm (h1.append_right F) o.stars, fun g w' G o' => Own.unstars (Own.perm ((h2 g).append_right G) (cs := (fileC (adr A i) (g f) :: R) ++ G) o')⟩
end

theorem mayB_small {k : ByteArray} (h : mayB k = true) : k.size ≤ 20 := by
  unfold mayB at h
  simp only [Bool.and_eq_true, decide_eq_true_eq] at h
  exact h.2.2
theorem take_snoc' (s : ByteArray) (k : Nat) (h : k < s.size) : s.data.toList.take (k + 1) = s.data.toList.take k ++ [s[k]] := by
  rw [List.take_succ_eq_append_getElem (by simpa using h)]; rfl
theorem may_no (s : ByteArray) (k : Nat) (h : k < s.size) (hb : mayByte s[k] = false) : mayB s = false := by
  unfold mayB
  have : s.data.toList.all mayByte = false := by
    rw [List.all_eq_false]
    refine ⟨s[k], ?_, by rw [hb]; simp⟩
    exact Array.getElem_mem_toList (xs := s.data) h
  rw [this]; rfl
theorem may_all {s : ByteArray} {k : Nat} (h : (s.data.toList.take k).all mayByte = true) (hk : s.size ≤ k) : s.data.toList.all mayByte = true := by
  rwa [List.take_of_length_le (by simpa using hk)] at h

set_option maxHeartbeats 1600000 in
theorem may_c (s : ByteArray) (w : World) (hs : s.size ≤ maxLen) :
    Calls Tryz.prog 75 #[.string s] w fun e w' => e = .returned (.bool (mayB s)) ∧ w' = w := by
  unfold maxLen at hs
  go_enter Tryz.func75, Tryz.ntmps75
  go_wp2
  go_loop [7] (fun i => ∃ k : Nat, k ≤ s.size ∧ i = .int .i64 k ∧ (s.data.toList.take k).all mayByte = true) (fun i => s.size - (intOf i).toNat)
  case atStart => exact ⟨0, Nat.zero_le _, rfl, by simp⟩
  case round =>
    obtain ⟨k, hk, rfl, ha⟩ := hrel
    have hA := hid ha
    clear ha
    by_cases hlt : k < s.size
    · have hts := hid (take_snoc' s k hlt)
      have hno := hid (may_no s k hlt)
      have hyes : Hid (mayByte s[k] = true → (s.data.toList.take (k + 1)).all mayByte = true) := hid (fun hb => by rw [hts.out, List.all_append, hA.out]; simp [hb])
      have hb : Hid (mayByte s[k] = ((decide (97 ≤ s[k].toNat) && decide (s[k].toNat ≤ 122)) || (decide (48 ≤ s[k].toNat) && decide (s[k].toNat ≤ 57)) || decide (s[k].toNat = 46))) := hid rfl
      clear hts
      go_wp2
      all_goals first
        | (go_round
           case rel =>
            refine ⟨k + 1, by omega, by go_num, hyes.out ?_⟩
            rw [hb.out]
            simp at *
            omega
           case measure => simp [intOf]; omega)
        | (go_ret
           have hv : mayByte s[k] = false := by
            rw [hb.out]
            simp at *
            omega
           rw [hno.out hv]
           exact ⟨rfl, rfl⟩)
    · have hall := hid (may_all hA.out (by omega))
      have hm : Hid (mayB s = (!s.toList.isEmpty && decide ((s.size : Int) ≤ 20))) := hid (by
        unfold mayB
        rw [hall.out, Bool.true_and]
        congr 1
        · unfold eqK noName; rw [show (ByteArray.mk #[]).toList = [] from by simp [Lib.toList_data]]
          cases s.toList <;> rfl
        · simp; omega)
      go_wp2
      all_goals
        go_ret
        refine ⟨?_, rfl⟩
        rw [hm.out]
        simp_all
end Go.Proofs.YtfdpoocdfbdhpaaGreatDoor
