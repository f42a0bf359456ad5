/- What stands under which name, one by one; files made sure one by one: in plain Lean. -/
import Derived.Test.YthnnpkmklkphaaaFsQ
namespace Go.Scree

def FDisk.strs (d : FDisk) : List ByteArray := d.conts.map fun p => ⟨p.2.toArray⟩
theorem strs_len (d : FDisk) : d.strs.length = d.now.length := by simp [FDisk.strs, FDisk.conts, dmap]
theorem conts_at {d : FDisk} (h : FOk d) {j : Nat} {nm : ByteArray} {bs : List UInt8} (hj : d.conts[j]? = some (nm, bs)) :
    (d.now.map (·.1))[j]? = some nm ∧ d.strs[j]? = some ⟨bs.toArray⟩ ∧ d.read nm = (bs, 0) := by
  refine ⟨?_, ?_, ?_⟩
  · rw [← conts_names, List.getElem?_map, hj]; rfl
  · unfold FDisk.strs; rw [List.getElem?_map, hj]; rfl
  · have hg : dget d.conts nm = some bs := (dget_mem (h.now.ok.map _) nm bs).2 (List.mem_of_getElem? hj)
    rw [read_conts, hg]
theorem conts_some {d : FDisk} {j : Nat} (h : j < d.now.length) : ∃ q, d.conts[j]? = some q := ⟨_, List.getElem?_eq_getElem (by simpa [FDisk.conts, dmap] using h)⟩
theorem same_conts {d e : FDisk} (h : e.conts = d.conts) : e.now.map (·.1) = d.now.map (·.1) ∧ e.strs = d.strs ∧ e.now.length = d.now.length := by
  refine ⟨by rw [← conts_names, h, conts_names], by unfold FDisk.strs; rw [h], ?_⟩
  have h1 := congrArg List.length h
  simpa [FDisk.conts, dmap] using h1

/-- Where the first j files have been made sure. -/
structure Firmed (d e : FDisk) (j : Nat) : Prop where
  now : e.now = d.now
  conts : e.conts = d.conts
  calm : Calm e
  firm : ∀ i, i < j → ∀ p, d.now[i]? = some p → (e.file p.2).sure = (e.file p.2).b.length
  total : total e.files = total d.files
  waits : e.pending = d.pending
theorem Firmed.start {d : FDisk} (h : Calm d) : Firmed d d 0 := ⟨rfl, rfl, h, fun i hi => by omega, rfl, rfl⟩
theorem total_sure : ∀ (l : List FFile) (i : Nat), total (l.modify i fun f => { f with sure := f.b.length }) = total l
  | [], i => by cases i <;> rfl
  | f :: l, 0 => by simp [total]
  | f :: l, i + 1 => by have := total_sure l i; simp only [total, List.modify_succ_cons, List.map_cons, List.sum_cons] at this ⊢; omega
theorem Firmed.step {d e : FDisk} {j : Nat} (hk : FOk e) (h : Firmed d e j) {nm : ByteArray} {i : Nat} (hj : d.now[j]? = some (nm, i)) : (e.sync nm).2 = 0 ∧ Firmed d (e.sync nm).1 (j + 1) := by
  have hg : dget e.now nm = some i := (dget_mem hk.now.ok nm i).2 (by rw [h.now]; exact List.mem_of_getElem? hj)
  have hs := sync_ok h.calm hg
  have hi : i < e.files.length := hk.now.lt _ (dget_in hg)
  have hf : ∀ q, FDisk.file { e with files := e.files.modify i fun f => { f with sure := f.b.length } } q = if q = i then { e.file i with sure := (e.file i).b.length } else e.file q := fun q => file_mod e i q _ hi
  rw [hs]
  refine ⟨rfl, ⟨h.now, ?_, h.calm, ?_, by rw [← h.total]; exact total_sure _ _, h.waits⟩⟩
  · rw [← h.conts]
    unfold FDisk.conts
    refine dmap_congr fun p _ => ?_
    rw [hf]
    split
    · rename_i e1; rw [e1]
    · rfl
  · intro q hq p hp
    rw [hf]
    split
    · rfl
    · rename_i hne
      by_cases e1 : q = j
      · subst e1
        rw [hj] at hp
        obtain rfl := Option.some.inj hp
        exact absurd rfl hne
      · exact h.firm q (by omega) p hp
theorem Firmed.stop {d e : FDisk} (h : Firmed d e d.now.length) : e.syncDir.2 = 0 ∧ Firm e.syncDir.1 ∧ e.syncDir.1.conts = d.conts ∧ Calm e.syncDir.1 := by
  rw [syncDir_ok h.calm]
  refine ⟨rfl, ⟨rfl, rfl, fun p hp => ?_⟩, h.conts, h.calm⟩
  dsimp only at hp
  rw [h.now] at hp
  obtain ⟨i, hi⟩ := List.getElem?_of_mem hp
  exact h.firm i (List.getElem?_eq_some_iff.1 hi).1 p hi
theorem Firmed.bd {d e : FDisk} {j N : Nat} (h : Firmed d e j) (hb : FBd d N) : FBd e N := ⟨by rw [h.total]; exact hb.bytes, by rw [h.waits]; exact hb.waits⟩
end Go.Scree
