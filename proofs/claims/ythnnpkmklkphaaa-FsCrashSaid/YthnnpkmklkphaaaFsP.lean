/- Acts on a disk, and what they keep, in plain Lean. -/
import Derived.Test.YthnnpkmklkphaaaFsN
namespace Go.Scree

structure FAct where
  kind : Int
  n : Int
  a : ByteArray
  b : ByteArray
  kA : Option Addr
  kc : Nat
  k : List Int
def FAct.large (x : FAct) : Bool := decide ((100 : Int) < x.a.size) || (decide ((1000 : Int) < x.b.size) || decide ((100 : Int) < x.k.length))
def FDisk.play (d : FDisk) (x : FAct) : FDisk × Int :=
  if x.kind = 0 then d.create x.a
  else if x.kind = 1 then d.append x.a x.b.data.toList
  else if x.kind = 2 then d.sync x.a
  else if x.kind = 3 then d.rename x.a x.b
  else if x.kind = 4 then d.remove x.a
  else if x.kind = 5 then d.syncDir
  else if x.kind = 6 then (d.setFuse x.n, 0)
  else if x.kind = 7 then (d.setQuota x.n, 0)
  else if x.kind = 8 then (d.crash x.n x.k, 0)
  else (d, 0)
theorem size_list (b : ByteArray) : b.data.toList.length = b.size := by rw [Array.length_toList]; rfl
theorem FOk.play {d : FDisk} (h : FOk d) (x : FAct) (hn : x.n ≤ topI) : FOk (d.play x).1 := by
  unfold FDisk.play
  split; exact h.create _
  split; exact h.append _ _
  split; exact h.sync _
  split; exact h.rename _ _
  split; exact h.remove _
  split; exact h.syncDir
  split; exact h.setFuse _ hn
  split; exact h.setQuota _
  split; exact h.crash _ _
  exact h
theorem FBd.setFuse {d : FDisk} {N : Nat} (h : FBd d N) (n : Int) : FBd (d.setFuse n) N := by
  unfold FDisk.setFuse
  split
  · exact h
  · exact h.of_same rfl rfl
theorem FBd.setQuota {d : FDisk} {N : Nat} (h : FBd d N) (n : Int) : FBd (d.setQuota n) N := h.of_same rfl rfl
theorem FBd.play {d : FDisk} {N : Nat} (ho : FOk d) (h : FBd d N) (x : FAct) (hb : x.b.size ≤ 1000) : FBd (d.play x).1 (N + 1000) := by
  unfold FDisk.play
  split; exact (h.create _).mono (by omega)
  split; exact (h.append _ _).mono (by rw [size_list]; omega)
  split; exact (h.sync _).mono (by omega)
  split; exact (h.rename _ _).mono (by omega)
  split; exact (h.remove _).mono (by omega)
  split; exact h.syncDir.mono (by omega)
  split; exact (h.setFuse _).mono (by omega)
  split; exact (h.setQuota _).mono (by omega)
  split; exact (FBd.crash ho h _ _).mono (by omega)
  exact h.mono (by omega)
/-- No fuse burns. -/
def Calm (d : FDisk) : Prop := d.dead = false ∧ d.lit = false
theorem Calm.burn {d : FDisk} (h : Calm d) : d.burn = (d, true) := by
  unfold FDisk.burn
  rw [h.1, h.2]; simp
theorem Calm.changes {d : FDisk} (h : Calm d) (c : FChg) : d.changes c = ({ d with now := c.act d.now, pending := d.pending ++ [c] }, 0) := by
  unfold FDisk.changes; rw [h.burn]
theorem Calm.create {d : FDisk} (h : Calm d) (name : ByteArray) : Calm (d.create name).1 := by
  unfold FDisk.create
  split; exact h
  split; exact h
  split; exact h
  rw [Calm.changes (d := { d with files := d.files ++ [⟨[], 0⟩] }) h]; exact h
theorem Calm.append {d : FDisk} (h : Calm d) (name : ByteArray) (b : List UInt8) : Calm (d.append name b).1 := by
  unfold FDisk.append
  split; exact h
  split; exact h
  rw [h.burn]; exact h
theorem Calm.sync {d : FDisk} (h : Calm d) (name : ByteArray) : Calm (d.sync name).1 := by
  unfold FDisk.sync
  split; exact h
  rw [h.burn]; exact h
theorem Calm.rename {d : FDisk} (h : Calm d) (s t : ByteArray) : Calm (d.rename s t).1 := by
  unfold FDisk.rename
  split; exact h
  split; exact h
  rw [h.changes]; exact h
theorem Calm.remove {d : FDisk} (h : Calm d) (name : ByteArray) : Calm (d.remove name).1 := by
  unfold FDisk.remove
  split; exact h
  rw [h.changes]; exact h
theorem Calm.syncDir {d : FDisk} (h : Calm d) : Calm d.syncDir.1 := by
  unfold FDisk.syncDir
  rw [h.burn]; exact h
theorem Calm.play {d : FDisk} (h : Calm d) (x : FAct) (hk : x.kind ≠ 6) : Calm (d.play x).1 := by
  unfold FDisk.play
  split; exact h.create _
  split; exact h.append _ _
  split; exact h.sync _
  split; exact h.rename _ _
  split; exact h.remove _
  split; exact h.syncDir
  split; exact h
  split; exact ⟨rfl, rfl⟩
  exact h
theorem quota_changes (d : FDisk) (c : FChg) : (d.changes c).1.quota = d.quota := by
  unfold FDisk.changes
  have := (burn_same d).2.2.2.2
  cases hb : d.burn with
  | mk e ok => rw [hb] at this; cases ok <;> exact this
theorem quota_play {d : FDisk} (x : FAct) (hk : x.kind ≠ 7) : (d.play x).1.quota = d.quota := by
  have hq := (burn_same d).2.2.2.2
  unfold FDisk.play
  split
  · unfold FDisk.create
    split; rfl
    split; rfl
    split; rfl
    exact quota_changes _ _
  split
  · unfold FDisk.append
    split; rfl
    split; rfl
    cases hb : d.burn with
    | mk e ok => rw [hb] at hq; cases ok <;> exact hq
  split
  · unfold FDisk.sync
    split; rfl
    cases hb : d.burn with
    | mk e ok => rw [hb] at hq; cases ok <;> exact hq
  split
  · unfold FDisk.rename
    split; rfl
    split; rfl
    exact quota_changes _ _
  split
  · unfold FDisk.remove
    split; rfl
    exact quota_changes _ _
  split
  · unfold FDisk.syncDir
    cases hb : d.burn with
    | mk e ok => rw [hb] at hq; cases ok <;> exact hq
  split
  · unfold FDisk.setFuse; split <;> rfl
  split <;> rfl

/-- What stands under which name. -/
def FDisk.conts (d : FDisk) : Dir (List UInt8) := dmap (fun i => (d.file i).b) d.now
theorem conts_names (d : FDisk) : d.conts.map (·.1) = d.now.map (·.1) := by simp [FDisk.conts, dmap]
theorem read_conts (d : FDisk) (name : ByteArray) : d.read name = match dget d.conts name with | none => ([], 10) | some b => (b, 0) := by
  unfold FDisk.read FDisk.conts
  rw [dget_map]
  cases dget d.now name <;> rfl

theorem file_get {d : FDisk} {i : Nat} {f : FFile} (h : d.files[i]? = some f) : d.file i = f := by unfold FDisk.file; rw [h]; rfl
theorem file_mod (d : FDisk) (i j : Nat) (g : FFile → FFile) (hi : i < d.files.length) : FDisk.file { d with files := d.files.modify i g } j = if j = i then g (d.file i) else d.file j := by
  unfold FDisk.file
  simp only [List.getElem?_modify]
  by_cases e : j = i
  · subst e
    simp [List.getElem?_eq_getElem hi]
  · rw [if_neg e]
    have : ¬ i = j := fun h => e h.symm
    simp only [this, if_false]
    cases d.files[j]? <;> rfl
/-- What a crash leaves under each name. -/
theorem crash_conts {d : FDisk} (h : FOk d) (n : Int) (keep : List Int) : (d.crash n keep).conts = (d.crashDir n).zipIdx.map fun p => (p.1.1, (cutF (d.file p.1.2) keep[p.2]?).b) := by
  apply List.ext_getElem?
  intro j
  unfold FDisk.conts dmap
  show ((renum (d.crashDir n)).map _)[j]? = _
  rw [List.getElem?_map, renum_at, List.getElem?_map, List.getElem?_zipIdx]
  cases hc : (d.crashDir n)[j]? with
  | none => simp
  | some p =>
    simp only [Option.map_some, Option.some.injEq, Nat.zero_add, Prod.mk.injEq, true_and]
    congr 1
    refine file_get ?_
    show (d.crashFiles n keep)[j]? = _
    unfold FDisk.crashFiles
    rw [List.getElem?_map, List.getElem?_zipIdx, hc]
    simp
/-- A crash that leaves the directory as it is, and of each file all. -/
theorem crash_same {d : FDisk} (h : FOk d) (n : Int) (keep : List Int) (hd : d.crashDir n = d.now) (hf : ∀ (j : Nat) (p : ByteArray × Nat), d.now[j]? = some p → (cutF (d.file p.2) keep[j]?).b = (d.file p.2).b) : (d.crash n keep).conts = d.conts := by
  rw [crash_conts h, hd]
  apply List.ext_getElem?
  intro j
  unfold FDisk.conts dmap
  rw [List.getElem?_map, List.getElem?_map, List.getElem?_zipIdx]
  cases hc : d.now[j]? with
  | none => simp
  | some p =>
    simp only [Option.map_some, Nat.zero_add, Option.some.injEq, Prod.mk.injEq, true_and]
    exact hf j p hc
theorem cut_all {f : FFile} {k : Option Int} (h : f.sure = f.b.length) : (cutF f k).b = f.b := by
  unfold cutF
  exact List.take_of_length_le (by omega)
theorem cut_much {f : FFile} {n : Int} (hs : f.sure ≤ f.b.length) (hn : (f.b.length : Int) ≤ n) : (cutF f (some n)).b = f.b := by
  unfold cutF
  refine List.take_of_length_le ?_
  show f.b.length ≤ f.sure + min n.toNat (f.b.length - f.sure)
  omega
/-- Nothing is loose. -/
def Firm (d : FDisk) : Prop := d.pending = [] ∧ d.sure = d.now ∧ ∀ p ∈ d.now, (d.file p.2).sure = (d.file p.2).b.length
theorem Firm.loose {d : FDisk} (h : Firm d) : d.pending.length = 0 ∧ d.loose = 0 := by
  refine ⟨by rw [h.1]; rfl, ?_⟩
  unfold FDisk.loose
  have : (d.now.map fun p => (d.file p.2).b.length - (d.file p.2).sure) = d.now.map fun _ => 0 := List.map_congr_left fun p hp => by rw [h.2.2 p hp]; omega
  rw [this]
  clear this h
  induction d.now with
  | nil => rfl
  | cons p l ih => simpa using ih
theorem firm_crash {d : FDisk} (h : FOk d) (n : Int) (keep : List Int) : Firm (d.crash n keep) := by
  refine ⟨rfl, rfl, fun p hp => ?_⟩
  obtain ⟨i, hi⟩ := mem_renum hp
  have : (d.crash n keep).file p.2 = cutF (d.file i) keep[p.2]? := by
    refine file_get ?_
    show (d.crashFiles n keep)[p.2]? = _
    unfold FDisk.crashFiles
    rw [List.getElem?_map, List.getElem?_zipIdx, hi]
    simp
  rw [this]; rfl
theorem Firm.crash {d : FDisk} (hk : FOk d) (h : Firm d) (n : Int) (keep : List Int) : (d.crash n keep).conts = d.conts := by
  refine crash_same hk n keep ?_ fun j p hp => cut_all (h.2.2 p (List.mem_of_getElem? hp))
  unfold FDisk.crashDir
  rw [h.1, h.2.1, List.take_nil]; rfl
/-- A crash that keeps all. -/
theorem crash_keeps {d : FDisk} (h : FOk d) (hb : FBd d 1000000) (n : Int) (keep : List Int) (hn : 1000000 ≤ n) (hk : ∀ j, j < d.now.length → keep[j]? = some 1073741824) : (d.crash n keep).conts = d.conts := by
  refine crash_same h n keep ?_ fun j p hp => ?_
  · unfold FDisk.crashDir
    have : min n.toNat d.pending.length = d.pending.length := by have := hb.waits; omega
    rw [this, List.take_length]
    exact h.hist.end_eq
  · have hj := (List.getElem?_eq_some_iff.1 hp).1
    rw [hk j hj]
    have hm := List.mem_of_getElem? hp
    have hi := h.now.lt p hm
    have hf := h.fit _ (List.getElem_mem hi)
    have he : d.file p.2 = d.files[p.2] := file_get (List.getElem?_eq_getElem hi)
    rw [he]
    refine cut_much hf ?_
    have h1 : d.files[p.2].b.length ≤ total d.files := by
      unfold total
      generalize hl : d.files = l at *
      clear he hf hl h hb
      have hmem := List.getElem_mem hi
      generalize l[p.2] = f at hmem
      clear hi
      induction l with
      | nil => simp at hmem
      | cons g l ih =>
        simp only [List.map_cons, List.sum_cons]
        rcases List.mem_cons.1 hmem with rfl | hmem
        · omega
        · have := ih hmem; omega
    have h2 := hb.bytes
    omega
end Go.Scree
