/- What each change of a disk keeps, in plain Lean. -/
import Derived.Test.YtfdpoocdfbdhpaaGreatDoorFsM
set_option linter.all false
namespace Go.Scree

theorem some_of_not_false {α : Type} {o : Option α} (h : ¬ o.isSome = false) : o.isSome = true := by cases o <;> simp_all
theorem burn_same (d : FDisk) : d.burn.1.files = d.files ∧ d.burn.1.now = d.now ∧ d.burn.1.sure = d.sure ∧ d.burn.1.pending = d.pending ∧ d.burn.1.quota = d.quota := by
  unfold FDisk.burn
  split
  · exact ⟨rfl, rfl, rfl, rfl, rfl⟩
  · split <;> exact ⟨rfl, rfl, rfl, rfl, rfl⟩
theorem FOk.of_same {d e : FDisk} (h : FOk d) (h1 : e.files = d.files) (h2 : e.now = d.now) (h3 : e.sure = d.sure) (h4 : e.pending = d.pending) (h5 : 0 ≤ e.quota) (h6 : e.lit = true → 0 ≤ e.fuse ∧ e.fuse ≤ topI) : FOk e := by
  refine ⟨?_, ?_, h6, h5⟩
  · rw [h1, h2, h3, h4]; exact h.hist
  · rw [h1]; exact h.fit
theorem FBd.of_same {d e : FDisk} {n : Nat} (h : FBd d n) (h1 : e.files = d.files) (h4 : e.pending = d.pending) : FBd e n := ⟨by rw [h1]; exact h.bytes, by rw [h4]; exact h.waits⟩
theorem FBd.mono {d : FDisk} {n m : Nat} (h : FBd d n) (k : n ≤ m) : FBd d m := ⟨Nat.le_trans h.bytes k, Nat.le_trans h.waits k⟩
theorem FOk.burn {d : FDisk} (h : FOk d) : FOk d.burn.1 := by
  obtain ⟨a, b, c, e, q⟩ := burn_same d
  refine h.of_same a b c e (by rw [q]; exact h.quota) ?_
  unfold FDisk.burn
  have hf := h.fuse
  split
  · exact hf
  · rename_i hn
    split
    · rename_i hl
      intro _
      have h1 := hf hl
      have h2 : d.fuse ≠ 0 := fun e => hn (.inr ⟨hl, e⟩)
      show 0 ≤ d.fuse - 1 ∧ d.fuse - 1 ≤ topI
      omega
    · exact hf
theorem FBd.burn {d : FDisk} {n : Nat} (h : FBd d n) : FBd d.burn.1 n := let ⟨a, _, _, e, _⟩ := burn_same d; h.of_same a e
theorem FOk.setQuota {d : FDisk} (h : FOk d) (n : Int) : FOk (d.setQuota n) := h.of_same rfl rfl rfl rfl (by simp only [FDisk.setQuota]; omega) h.fuse
theorem FOk.setFuse {d : FDisk} (h : FOk d) (n : Int) (hn : n ≤ topI) : FOk (d.setFuse n) := by
  unfold FDisk.setFuse
  split
  · exact h
  · exact h.of_same rfl rfl rfl rfl h.quota (fun hl => ⟨by simpa using hl, hn⟩)
theorem FOk.syncDir {d : FDisk} (h : FOk d) : FOk d.syncDir.1 := by
  unfold FDisk.syncDir
  have hb := h.burn
  cases hd : d.burn with
  | mk e ok =>
    rw [hd] at hb
    cases ok with
    | false => exact hb
    | true => exact ⟨⟨hb.now, rfl⟩, hb.fit, hb.fuse, hb.quota⟩
theorem FBd.syncDir {d : FDisk} {n : Nat} (h : FBd d n) : FBd d.syncDir.1 n := by
  unfold FDisk.syncDir
  have hb := h.burn
  cases hd : d.burn with
  | mk e ok =>
    rw [hd] at hb
    cases ok with
    | false => exact hb
    | true => exact ⟨hb.bytes, Nat.zero_le _⟩
theorem mem_modify {α : Type} {l : List α} {i : Nat} {g : α → α} {x : α} (h : x ∈ l.modify i g) : x ∈ l ∨ ∃ y ∈ l, x = g y := by
  obtain ⟨j, hj⟩ := List.getElem?_of_mem h
  rw [List.getElem?_modify] at hj
  cases hl : l[j]? with
  | none => rw [hl] at hj; simp at hj
  | some y =>
    have hm := List.mem_of_getElem? hl
    rw [hl] at hj
    by_cases e : i = j
    · simp only [e, if_true] at hj
      exact .inr ⟨y, hm, by simpa using hj.symm⟩
    · simp only [e, if_false] at hj
      exact .inl (by have : y = x := by simpa using hj
                     rw [← this]; exact hm)
theorem FOk.files {d : FDisk} (h : FOk d) (i : Nat) (g : FFile → FFile) (hg : ∀ f, f.sure ≤ f.b.length → (g f).sure ≤ (g f).b.length) : FOk { d with files := d.files.modify i g } := by
  refine ⟨?_, ?_, h.fuse, h.quota⟩
  · simpa using h.hist
  · intro f hf
    rcases mem_modify hf with hf | ⟨y, hy, rfl⟩
    · exact h.fit f hf
    · exact hg y (h.fit y hy)
theorem total_modify (g : FFile → FFile) (k : Nat) (hg : ∀ f, (g f).b.length ≤ f.b.length + k) : ∀ (l : List FFile) (i : Nat), total (l.modify i g) ≤ total l + k
  | [], i => by cases i <;> simp [total]
  | f :: l, 0 => by have := hg f; simp [total] at this ⊢; omega
  | f :: l, i + 1 => by have := total_modify g k hg l i; simp [total] at this ⊢; omega
theorem FOk.append {d : FDisk} (h : FOk d) (name : ByteArray) (b : List UInt8) : FOk (d.append name b).1 := by
  unfold FDisk.append
  split
  · exact h
  · split
    · exact h
    · have hb := h.burn
      cases hd : d.burn with
      | mk e ok =>
        rw [hd] at hb
        cases ok with
        | false => exact hb
        | true => exact hb.files _ _ fun f hf => by simp; omega
theorem FBd.append {d : FDisk} {n : Nat} (h : FBd d n) (name : ByteArray) (b : List UInt8) : FBd (d.append name b).1 (n + b.length) := by
  have h' : FBd d (n + b.length) := h.mono (by omega)
  unfold FDisk.append
  split
  · exact h'
  · split
    · exact h'
    · have hb := h.burn
      cases hd : d.burn with
      | mk e ok =>
        rw [hd] at hb
        cases ok with
        | false => exact hb.mono (by omega)
        | true =>
          rename_i i hi hq
          exact ⟨Nat.le_trans (total_modify _ b.length (fun f => by simp) _ i) (Nat.add_le_add_right hb.bytes _), Nat.le_trans hb.waits (by omega)⟩
theorem FOk.sync {d : FDisk} (h : FOk d) (name : ByteArray) : FOk (d.sync name).1 := by
  unfold FDisk.sync
  split
  · exact h
  · have hb := h.burn
    cases hd : d.burn with
    | mk e ok =>
      rw [hd] at hb
      cases ok with
      | false => exact hb
      | true => exact hb.files _ _ fun f hf => by simp
theorem FBd.sync {d : FDisk} {n : Nat} (h : FBd d n) (name : ByteArray) : FBd (d.sync name).1 n := by
  unfold FDisk.sync
  split
  · exact h
  · have hb := h.burn
    cases hd : d.burn with
    | mk e ok =>
      rw [hd] at hb
      cases ok with
      | false => exact hb
      | true =>
        rename_i i hi
        exact ⟨by have := total_modify (fun f => { f with sure := f.b.length }) 0 (fun f => by simp) e.files i
                  exact Nat.le_trans this hb.bytes, hb.waits⟩
theorem FOk.changes {d : FDisk} (h : FOk d) {c : FChg} (hc : c.fits d.now d.files.length) : FOk (d.changes c).1 := by
  unfold FDisk.changes
  have hb := h.burn
  obtain ⟨a1, a2, _, _, _⟩ := burn_same d
  cases hd : d.burn with
  | mk e ok =>
    rw [hd] at hb a1 a2
    cases ok with
    | false => exact hb
    | true =>
      dsimp only at a1 a2 ⊢
      exact ⟨hb.hist.snoc (by rw [a1, a2]; exact hc), hb.fit, hb.fuse, hb.quota⟩
theorem FBd.changes {d : FDisk} {n : Nat} (h : FBd d n) (c : FChg) : FBd (d.changes c).1 (n + 1) := by
  unfold FDisk.changes
  have hb := h.burn
  cases hd : d.burn with
  | mk e ok =>
    rw [hd] at hb
    cases ok with
    | false => exact hb.mono (by omega)
    | true => exact ⟨Nat.le_trans hb.bytes (by omega), by have := hb.waits; simp at this ⊢; omega⟩
theorem FOk.room {d : FDisk} (h : FOk d) : FOk { d with files := d.files ++ [⟨[], 0⟩] } := by
  refine ⟨?_, ?_, h.fuse, h.quota⟩
  · exact h.hist.mono (by simp)
  · intro f hf
    rcases List.mem_append.1 hf with hf | hf
    · exact h.fit f hf
    · rw [List.mem_singleton.1 hf]; simp
theorem FBd.room {d : FDisk} {n : Nat} (h : FBd d n) : FBd { d with files := d.files ++ [⟨[], 0⟩] } n := by
  refine ⟨?_, h.waits⟩
  have := h.bytes
  simp [total] at this ⊢; exact this
theorem create_fits {d : FDisk} (h : FOk d) {name : ByteArray} (h1 : mayB name = true) (h2 : (dget d.now name).isSome = false) (h3 : ¬ 60 ≤ d.now.length) : (FChg.mk noName name (some d.files.length)).fits d.now (d.files ++ [(⟨[], 0⟩ : FFile)]).length := by
  refine ⟨by simp, fun p hp e => ?_, by simpa using h2, by omega, h1, rfl⟩
  have := h.now.lt p hp
  omega
theorem FOk.create {d : FDisk} (h : FOk d) (name : ByteArray) : FOk (d.create name).1 := by
  unfold FDisk.create
  split
  · exact h
  · rename_i h1
    split
    · exact h
    · rename_i h2
      split
      · exact h
      · rename_i h3
        exact FOk.changes (d := { d with files := d.files ++ [⟨[], 0⟩] }) h.room (create_fits h (by simpa using h1) (by simpa using h2) h3)
theorem FBd.create {d : FDisk} {n : Nat} (h : FBd d n) (name : ByteArray) : FBd (d.create name).1 (n + 1) := by
  unfold FDisk.create
  split
  · exact h.mono (by omega)
  · split
    · exact h.mono (by omega)
    · split
      · exact h.mono (by omega)
      · exact FBd.changes (d := { d with files := d.files ++ [⟨[], 0⟩] }) h.room _
theorem FOk.rename {d : FDisk} (h : FOk d) (src dst : ByteArray) : FOk (d.rename src dst).1 := by
  unfold FDisk.rename
  split
  · exact h
  · rename_i h1
    split
    · exact h
    · rename_i h2
      exact h.changes (c := ⟨src, dst, none⟩) ⟨some_of_not_false h1, .inr (by simpa using h2)⟩
theorem FBd.rename {d : FDisk} {n : Nat} (h : FBd d n) (src dst : ByteArray) : FBd (d.rename src dst).1 (n + 1) := by
  unfold FDisk.rename
  split
  · exact h.mono (by omega)
  · split
    · exact h.mono (by omega)
    · exact h.changes _
theorem FOk.remove {d : FDisk} (h : FOk d) (name : ByteArray) : FOk (d.remove name).1 := by
  unfold FDisk.remove
  split
  · exact h
  · rename_i h1
    exact h.changes (c := ⟨name, noName, none⟩) ⟨some_of_not_false h1, .inl rfl⟩
theorem FBd.remove {d : FDisk} {n : Nat} (h : FBd d n) (name : ByteArray) : FBd (d.remove name).1 (n + 1) := by
  unfold FDisk.remove
  split
  · exact h.mono (by omega)
  · exact h.changes _

theorem mem_renum {m : Dir Nat} {p : ByteArray × Nat} (h : p ∈ renum m) : ∃ i, m[p.2]? = some (p.1, i) := by
  obtain ⟨q, hq, rfl⟩ := List.mem_map.1 h
  obtain ⟨⟨k, i⟩, j⟩ := q
  have := List.mem_zipIdx_iff_getElem?.1 hq
  exact ⟨i, this⟩
theorem renum_len (m : Dir Nat) : (renum m).length = m.length := by simp [renum]
theorem renum_at (m : Dir Nat) (j : Nat) : (renum m)[j]? = (m[j]?).map fun p => (p.1, j) := by
  simp [renum, List.getElem?_zipIdx]
  cases m[j]? <;> simp
theorem renum_names (m : Dir Nat) : (renum m).map (·.1) = m.map (·.1) := by
  apply List.ext_getElem?
  intro j
  simp only [List.getElem?_map, renum_at]
  cases m[j]? <;> rfl
theorem renum_ok {m : Dir Nat} (h : DirOk m) : DirOk (renum m) := by
  have h1 : (m.map (·.1)).Pairwise fun a b => ltK a b = true := by rw [List.pairwise_map]; exact h
  rw [← renum_names, List.pairwise_map] at h1
  exact h1
theorem Good.renum {n : Nat} {m : Dir Nat} (h : Good n m) : Good m.length (renum m) := by
  refine ⟨renum_ok h.ok, fun p hp q hq e => ?_, fun p hp => ?_, fun p hp => ?_, by rw [renum_len]; exact h.few⟩
  · obtain ⟨i, hi⟩ := mem_renum hp
    obtain ⟨j, hj⟩ := mem_renum hq
    rw [e, hj] at hi
    simp at hi
    exact Prod.ext hi.1.symm e
  · obtain ⟨i, hi⟩ := mem_renum hp
    exact (List.getElem?_eq_some_iff.1 hi).1
  · obtain ⟨i, hi⟩ := mem_renum hp
    exact h.names (p.1, i) (List.mem_of_getElem? hi)
theorem FOk.crashGood {d : FDisk} (h : FOk d) (n : Int) : Good d.files.length (d.crashDir n) := h.hist.take _
theorem crashFiles_len (d : FDisk) (n : Int) (keep : List Int) : (d.crashFiles n keep).length = (d.crashDir n).length := by simp [FDisk.crashFiles]
theorem FOk.crash {d : FDisk} (h : FOk d) (n : Int) (keep : List Int) : FOk (d.crash n keep) := by
  have hg := (h.crashGood n).renum
  refine ⟨?_, ?_, by simp [FDisk.crash], h.quota⟩
  · refine ⟨?_, rfl⟩
    show Good (d.crashFiles n keep).length _
    rw [crashFiles_len]; exact hg
  · intro f hf
    obtain ⟨p, _, rfl⟩ := List.mem_map.1 (show f ∈ d.crashFiles n keep from hf)
    exact Nat.le_refl _
theorem cutF_len (f : FFile) (k : Option Int) : (cutF f k).b.length ≤ f.b.length := by simp [cutF]; omega
theorem dir_nodup2 {n : Nat} {d : Dir Nat} (h : Good n d) : (d.map (·.2)).Nodup := by
  unfold List.Nodup
  rw [List.pairwise_map]
  have := h.ok
  refine (List.Pairwise.and_mem.1 this).imp fun {a b} hab e => ?_
  have := h.inj a hab.1 b hab.2.1 e
  rw [this] at hab
  have := hab.2.2
  rw [ltK_irrefl] at this; cases this
theorem total_range (fs : List FFile) : total fs = ((List.range fs.length).map fun i => ((fs[i]?).getD ⟨[], 0⟩).b.length).sum := by
  unfold total
  congr 1
  apply List.ext_getElem?
  intro i
  simp only [List.getElem?_map, List.getElem?_range]
  by_cases hi : i < fs.length
  · rw [List.getElem?_range hi]; simp [List.getElem?_eq_getElem hi]
  · rw [List.getElem?_eq_none (by omega), List.getElem?_eq_none (by simp; omega)]; rfl
theorem dir_total {d : FDisk} {m : Dir Nat} (h : Good d.files.length m) : (m.map fun p => (d.file p.2).b.length).sum ≤ total d.files := by
  rw [total_range]
  have h1 := sum_sub (h := fun i => (d.file i).b.length) (dir_nodup2 h) (r := List.range d.files.length) fun x hx => by
    obtain ⟨p, hp, rfl⟩ := List.mem_map.1 hx
    exact List.mem_range.2 (h.lt p hp)
  rw [List.map_map] at h1
  exact h1
theorem size_total {d : FDisk} (h : FOk d) : d.size ≤ total d.files := dir_total h.now
theorem zipIdx_total (g : (ByteArray × Nat) × Nat → FFile) (f : Nat → Nat) : ∀ (m : Dir Nat) (k : Nat), (∀ p, (g p).b.length ≤ f p.1.2) → total ((m.zipIdx k).map g) ≤ (m.map fun p => f p.2).sum
  | [], k, _ => by simp [total]
  | p :: m, k, hg => by
    have h1 := hg (p, k)
    have h2 := zipIdx_total g f m (k + 1) hg
    simp only [total, List.zipIdx_cons, List.map_cons, List.sum_cons] at h1 h2 ⊢
    omega
theorem FBd.crash {d : FDisk} {N : Nat} (h : FOk d) (hb : FBd d N) (n : Int) (keep : List Int) : FBd (d.crash n keep) N := by
  refine ⟨?_, Nat.zero_le _⟩
  have h1 := zipIdx_total (fun p => cutF (d.file p.1.2) keep[p.2]?) (fun i => (d.file i).b.length) (d.crashDir n) 0 fun p => cutF_len _ _
  exact Nat.le_trans h1 (Nat.le_trans (dir_total (h.crashGood n)) hb.bytes)
end Go.Scree
