/- The laws of a disk, in plain Lean: what was sure stays; who is dead; what is renamed. -/
import Derived.Test.YthnnpkmklkphaaaFsP
namespace Go.Scree

theorem size_le_total {d : FDisk} (h : FOk d) : d.size ≤ total d.files := size_total h
theorem dget_names {d : FDisk} (h : FOk d) {name : ByteArray} {i : Nat} (hg : dget d.now name = some i) : i < d.files.length := h.now.lt _ (dget_in hg)
theorem total_snoc (fs : List FFile) : total (fs ++ [⟨[], 0⟩]) = total fs := by simp [total]

/-- A file is made. -/
theorem create_ok {d : FDisk} (hc : Calm d) (hk : FOk d) {name : ByteArray} (h : (d.create name).2 = 0) :
    ∃ i, dget (d.create name).1.now name = some i ∧ (d.create name).1.file i = ⟨[], 0⟩ ∧ (d.create name).1.quota = d.quota ∧ total (d.create name).1.files = total d.files := by
  unfold FDisk.create at h ⊢
  split at h; cases h
  split at h; cases h
  split at h; cases h
  rename_i h1 h2 h3
  rw [if_neg h1, if_neg h2, if_neg h3] at *
  rw [Calm.changes (d := { d with files := d.files ++ [⟨[], 0⟩] }) hc]
  refine ⟨d.files.length, ?_, ?_, rfl, total_snoc _⟩
  · exact dget_put_same _ _ _
  · exact file_get (by show (d.files ++ [⟨[], 0⟩])[d.files.length]? = _; simp)
/-- Bytes are laid behind a file's. -/
theorem append_ok {d : FDisk} (hc : Calm d) (hk : FOk d) {name : ByteArray} {i : Nat} (hg : dget d.now name = some i) (b : List UInt8) (hq : ((total d.files + b.length : Nat) : Int) ≤ d.quota) :
    d.append name b = ({ d with files := d.files.modify i fun f => { f with b := f.b ++ b } }, 0) := by
  unfold FDisk.append
  rw [hg]
  dsimp only
  have := size_le_total hk
  rw [if_neg (by omega), hc.burn]
theorem sync_ok {d : FDisk} (hc : Calm d) {name : ByteArray} {i : Nat} (hg : dget d.now name = some i) : d.sync name = ({ d with files := d.files.modify i fun f => { f with sure := f.b.length } }, 0) := by
  unfold FDisk.sync
  rw [hg]
  dsimp only
  rw [hc.burn]
theorem syncDir_ok {d : FDisk} (hc : Calm d) : d.syncDir = ({ d with sure := d.now, pending := [] }, 0) := by
  unfold FDisk.syncDir
  rw [hc.burn]
/-- What stands under a name behind a crash. -/
theorem crash_read {d : FDisk} (hk : FOk d) (n : Int) (keep : List Int) {name : ByteArray} {i : Nat} (hp : d.pending = []) (hs : d.sure = d.now) (hg : dget d.now name = some i) :
    ∃ k, (d.crash n keep).read name = ((cutF (d.file i) k).b, 0) := by
  have hcd : d.crashDir n = d.now := by
    unfold FDisk.crashDir
    rw [hp, hs, List.take_nil]; rfl
  obtain ⟨j, hj⟩ := List.getElem?_of_mem (dget_in hg)
  refine ⟨keep[j]?, ?_⟩
  rw [read_conts]
  have h1 : dget (d.crash n keep).conts name = some (cutF (d.file i) keep[j]?).b := by
    refine (dget_mem ((hk.crash n keep).now.ok.map _) _ _).2 ?_
    show _ ∈ (d.crash n keep).conts
    rw [crash_conts hk, hcd]
    refine List.mem_of_getElem? (i := j) ?_
    rw [List.getElem?_map, List.getElem?_zipIdx, hj]
    simp
  rw [h1]
theorem cut_sure {b more : List UInt8} (k : Option Int) : ∃ t, t ≤ more.length ∧ (cutF ⟨b ++ more, b.length⟩ k).b = b ++ more.take t := by
  refine ⟨leftOfF ⟨b ++ more, b.length⟩ k, ?_, ?_⟩
  · unfold leftOfF
    split
    · omega
    · simp; omega
  · unfold cutF
    show (b ++ more).take (b.length + _) = _
    rw [List.take_append, List.take_of_length_le (by omega)]
    congr 2; omega
/-- WHAT WAS SURE STAYS. -/
def sure1 (d : FDisk) (name : ByteArray) : FDisk := (d.create name).1
def sure2 (d : FDisk) (name : ByteArray) (b : List UInt8) : FDisk := ((sure1 d name).append name b).1
def sure3 (d : FDisk) (name : ByteArray) (b : List UInt8) : FDisk := ((sure2 d name b).sync name).1
def sure4 (d : FDisk) (name : ByteArray) (b : List UInt8) : FDisk := (sure3 d name b).syncDir.1
def sure5 (d : FDisk) (name : ByteArray) (b more : List UInt8) : FDisk := ((sure4 d name b).append name more).1
theorem mod_len (fs : List FFile) (i : Nat) (g : FFile → FFile) : (fs.modify i g).length = fs.length := List.length_modify ..
theorem sure_law {d : FDisk} (hc : Calm d) (hk : FOk d) {name : ByteArray} (h : (d.create name).2 = 0) (b more : List UInt8) (hq : ((total d.files + b.length + more.length : Nat) : Int) ≤ d.quota) (n : Int) (keep : List Int) :
    ((sure1 d name).append name b).2 = 0 ∧ ((sure2 d name b).sync name).2 = 0 ∧ (sure3 d name b).syncDir.2 = 0 ∧ ((sure4 d name b).append name more).2 = 0 ∧
    ∃ t, t ≤ more.length ∧ ((sure5 d name b more).crash n keep).read name = (b ++ more.take t, 0) := by
  obtain ⟨i, g1, f1, q1, t1⟩ := create_ok hc hk h
  have c1 : Calm (sure1 d name) := hc.create name
  have k1 : FOk (sure1 d name) := hk.create name
  have i1 := dget_names k1 g1
  change dget (sure1 d name).now name = some i at g1
  change (sure1 d name).file i = _ at f1
  change (sure1 d name).quota = _ at q1
  change total (sure1 d name).files = _ at t1
  have a2 := append_ok c1 k1 g1 b (by rw [t1, q1]; omega)
  have e2 : sure2 d name b = { sure1 d name with files := (sure1 d name).files.modify i fun f => { f with b := f.b ++ b } } := by unfold sure2; rw [a2]
  have f2 : (sure2 d name b).file i = ⟨b, 0⟩ := by
    rw [e2, file_mod _ _ _ _ i1, if_pos rfl, f1]; simp
  have g2 : dget (sure2 d name b).now name = some i := by rw [e2]; exact g1
  have c2 : Calm (sure2 d name b) := c1.append name b
  have k2 : FOk (sure2 d name b) := k1.append name b
  have i2 := dget_names k2 g2
  have t2 : total (sure2 d name b).files ≤ total d.files + b.length := by
    rw [e2, ← t1]
    exact total_modify _ b.length (fun f => by simp) _ i
  have q2 : (sure2 d name b).quota = d.quota := by rw [e2]; exact q1
  have a3 := sync_ok c2 g2
  have e3 : sure3 d name b = { sure2 d name b with files := (sure2 d name b).files.modify i fun f => { f with sure := f.b.length } } := by unfold sure3; rw [a3]
  have f3 : (sure3 d name b).file i = ⟨b, b.length⟩ := by
    rw [e3, file_mod _ _ _ _ i2, if_pos rfl, f2]
  have g3 : dget (sure3 d name b).now name = some i := by rw [e3]; exact g2
  have c3 : Calm (sure3 d name b) := c2.sync name
  have k3 : FOk (sure3 d name b) := k2.sync name
  have t3 : total (sure3 d name b).files ≤ total d.files + b.length := by
    refine Nat.le_trans ?_ t2
    rw [e3]
    have := total_modify (fun f : FFile => { f with sure := f.b.length }) 0 (fun f => by simp) (sure2 d name b).files i
    exact this
  have q3 : (sure3 d name b).quota = d.quota := by rw [e3]; exact q2
  have a4 := syncDir_ok c3
  have e4 : sure4 d name b = { sure3 d name b with sure := (sure3 d name b).now, pending := [] } := by unfold sure4; rw [a4]
  have f4 : (sure4 d name b).file i = ⟨b, b.length⟩ := by rw [e4]; exact f3
  have g4 : dget (sure4 d name b).now name = some i := by rw [e4]; exact g3
  have c4 : Calm (sure4 d name b) := c3.syncDir
  have k4 : FOk (sure4 d name b) := k3.syncDir
  have i4 := dget_names k4 g4
  have t4 : total (sure4 d name b).files ≤ total d.files + b.length := by rw [e4]; exact t3
  have q4 : (sure4 d name b).quota = d.quota := by rw [e4]; exact q3
  have a5 := append_ok c4 k4 g4 more (by rw [q4]; omega)
  have e5 : sure5 d name b more = { sure4 d name b with files := (sure4 d name b).files.modify i fun f => { f with b := f.b ++ more } } := by unfold sure5; rw [a5]
  have f5 : (sure5 d name b more).file i = ⟨b ++ more, b.length⟩ := by
    rw [e5, file_mod _ _ _ _ i4, if_pos rfl, f4]
  have g5 : dget (sure5 d name b more).now name = some i := by rw [e5]; exact g4
  have k5 : FOk (sure5 d name b more) := k4.append name more
  refine ⟨by rw [a2], by rw [a3], by rw [a4], by rw [a5], ?_⟩
  obtain ⟨k, hr⟩ := crash_read k5 n keep (by rw [e5, e4]) (by rw [e5, e4]) g5
  rw [f5] at hr
  obtain ⟨t, ht, hcut⟩ := cut_sure (b := b) (more := more) k
  exact ⟨t, ht, by rw [hr, hcut]⟩

/-- Who is dead stays so, with all that it has. -/
theorem dead_burn {d : FDisk} (h : d.dead = true) : d.burn = (d, false) := by
  unfold FDisk.burn
  rw [if_pos (.inl h)]
  cases d; simp only at h; subst h; rfl
theorem dead_changes {d : FDisk} (h : d.dead = true) (c : FChg) : d.changes c = (d, 30) := by
  unfold FDisk.changes; rw [dead_burn h]
theorem dead_play {d : FDisk} (hk : FOk d) (h : d.dead = true) (x : FAct) (h8 : x.kind ≠ 8) :
    (d.play x).1.dead = true ∧ (d.play x).1.now = d.now ∧ (d.play x).1.size = d.size ∧ (0 ≤ x.kind → x.kind ≤ 5 → (d.play x).2 ≠ 0) := by
  unfold FDisk.play
  split
  · unfold FDisk.create
    split; exact ⟨h, rfl, rfl, by simp⟩
    split; exact ⟨h, rfl, rfl, by simp⟩
    split; exact ⟨h, rfl, rfl, by simp⟩
    rw [dead_changes (d := { d with files := d.files ++ [⟨[], 0⟩] }) h]
    refine ⟨h, rfl, ?_, by simp⟩
    unfold FDisk.size
    congr 1
    refine List.map_congr_left fun p hp => ?_
    have := hk.now.lt p hp
    unfold FDisk.file
    dsimp only
    rw [List.getElem?_append_left this]
  split
  · unfold FDisk.append
    split; exact ⟨h, rfl, rfl, by simp⟩
    split; exact ⟨h, rfl, rfl, by simp⟩
    rw [dead_burn h]; exact ⟨h, rfl, rfl, by simp⟩
  split
  · unfold FDisk.sync
    split; exact ⟨h, rfl, rfl, by simp⟩
    rw [dead_burn h]; exact ⟨h, rfl, rfl, by simp⟩
  split
  · unfold FDisk.rename
    split; exact ⟨h, rfl, rfl, by simp⟩
    split; exact ⟨h, rfl, rfl, by simp⟩
    rw [dead_changes h]; exact ⟨h, rfl, rfl, by simp⟩
  split
  · unfold FDisk.remove
    split; exact ⟨h, rfl, rfl, by simp⟩
    rw [dead_changes h]; exact ⟨h, rfl, rfl, by simp⟩
  split
  · unfold FDisk.syncDir
    rw [dead_burn h]; exact ⟨h, rfl, rfl, by simp⟩
  split
  · rename_i h6
    unfold FDisk.setFuse
    rw [if_pos h]
    exact ⟨h, rfl, rfl, fun _ h5 => by omega⟩
  split
  · rename_i h7
    exact ⟨h, rfl, rfl, fun _ h5 => by omega⟩
  · exact ⟨h, rfl, rfl, fun h0 h5 => by omega⟩
theorem burn_down {d : FDisk} (h : d.burn.2 = false) : d.burn.1.dead = true := by
  unfold FDisk.burn at h ⊢
  split
  · rfl
  · rename_i hn
    rw [if_neg hn] at h
    split at h <;> cases h
theorem down_changes {d : FDisk} (c : FChg) (h : (d.changes c).2 = 30) : (d.changes c).1.dead = true := by
  have hb := burn_down (d := d)
  unfold FDisk.changes at h ⊢
  cases hd : d.burn with
  | mk e ok =>
    rw [hd] at h hb
    cases ok with
    | false => exact hb rfl
    | true => cases h
theorem down_play {d : FDisk} (x : FAct) (h : (d.play x).2 = 30) : (d.play x).1.dead = true := by
  have hb := burn_down (d := d)
  unfold FDisk.play at h ⊢
  split at h
  · rename_i hx
    rw [if_pos hx]
    unfold FDisk.create at h ⊢
    split at h; cases h
    split at h; cases h
    split at h; cases h
    rename_i h1 h2 h3
    rw [if_neg h1, if_neg h2, if_neg h3]
    exact down_changes _ h
  rename_i n0
  rw [if_neg n0]
  split at h
  · rename_i hx
    rw [if_pos hx]
    unfold FDisk.append at h ⊢
    split at h; cases h
    split at h; cases h
    rename_i hq
    rw [if_neg hq]
    cases hd : d.burn with
    | mk e ok =>
      rw [hd] at h hb
      cases ok with
      | false => exact hb rfl
      | true => cases h
  rename_i n1
  rw [if_neg n1]
  split at h
  · rename_i hx
    rw [if_pos hx]
    unfold FDisk.sync at h ⊢
    split at h; cases h
    cases hd : d.burn with
    | mk e ok =>
      rw [hd] at h hb
      cases ok with
      | false => exact hb rfl
      | true => cases h
  rename_i n2
  rw [if_neg n2]
  split at h
  · rename_i hx
    rw [if_pos hx]
    unfold FDisk.rename at h ⊢
    split at h; cases h
    split at h; cases h
    rename_i h1 h2
    rw [if_neg h1, if_neg h2]
    exact down_changes _ h
  rename_i n3
  rw [if_neg n3]
  split at h
  · rename_i hx
    rw [if_pos hx]
    unfold FDisk.remove at h ⊢
    split at h; cases h
    rename_i h1
    rw [if_neg h1]
    exact down_changes _ h
  rename_i n4
  rw [if_neg n4]
  split at h
  · rename_i hx
    rw [if_pos hx]
    unfold FDisk.syncDir at h ⊢
    cases hd : d.burn with
    | mk e ok =>
      rw [hd] at h hb
      cases ok with
      | false => exact hb rfl
      | true => cases h
  split at h; cases h
  split at h; cases h
  split at h <;> cases h

/-- Who is renamed is there by the other name. -/
theorem rename_law {d : FDisk} (hk : FOk d) {a b : ByteArray} (h : (d.rename a b).2 = 0) :
    ∃ bs, d.read a = (bs, 0) ∧ (d.rename a b).1.read b = (bs, 0) ∧ ((d.rename a b).1.read a).2 = if a = b then 0 else 10 := by
  unfold FDisk.rename at h ⊢
  split at h; cases h
  split at h; cases h
  rename_i h1 h2
  rw [if_neg h1, if_neg h2]
  obtain ⟨i, hi⟩ := Option.isSome_iff_exists.1 (some_of_not_false h1)
  obtain ⟨e1, e2, e3, e4, _⟩ := burn_same d
  have hch : d.changes ⟨a, b, none⟩ = ({ d.burn.1 with now := FChg.act ⟨a, b, none⟩ d.burn.1.now, pending := d.burn.1.pending ++ [⟨a, b, none⟩] }, 0) := by
    unfold FDisk.changes at h ⊢
    cases hd : d.burn with
    | mk e ok =>
      rw [hd] at h
      cases ok with
      | false => cases h
      | true => rfl
  rw [hch]
  have hf : ∀ j, FDisk.file { d.burn.1 with now := FChg.act ⟨a, b, none⟩ d.burn.1.now, pending := d.burn.1.pending ++ [⟨a, b, none⟩] } j = d.file j := by
    intro j; unfold FDisk.file; dsimp only; rw [e1]
  have hb : eqK b noName = false := by
    refine eqK_false.2 ?_
    rintro rfl
    have : mayB noName = false := by
      unfold mayB; rw [eqK_self]; simp
    rw [this] at h2; exact h2 rfl
  refine ⟨(d.file i).b, by simp [FDisk.read, hi], ?_, ?_⟩
  · unfold FDisk.read
    dsimp only
    have : dget (FChg.act ⟨a, b, none⟩ d.burn.1.now) b = some i := by
      unfold FChg.act
      dsimp only
      rw [if_neg (by rw [hb]; simp), e2]
      by_cases hab : eqK b a = true
      · rw [if_pos hab, eqK_iff.1 hab]; exact hi
      · rw [if_neg hab, hi]
        dsimp only
        have hne : b ≠ a := fun e => hab (eqK_iff.2 e)
        rw [dget_del_other _ hne, dget_put_same]
    rw [this]
    dsimp only
    rw [hf]
  · unfold FDisk.read
    dsimp only
    by_cases hab : a = b
    · subst hab
      have : dget (FChg.act ⟨a, a, none⟩ d.burn.1.now) a = some i := by
        unfold FChg.act
        dsimp only
        rw [if_neg (by rw [hb]; simp), if_pos (eqK_self a), e2]; exact hi
      rw [this, if_pos rfl]
    · have : dget (FChg.act ⟨a, b, none⟩ d.burn.1.now) a = none := by
        unfold FChg.act
        dsimp only
        have hne : ¬ eqK b a = true := fun e => hab (eqK_iff.1 e).symm
        rw [if_neg (by rw [hb]; simp), if_neg hne, e2, hi]
        exact dget_del_same (hk.now.ok.put _ _) a
      rw [this, if_neg hab]
/-- What is laid behind is there. -/
theorem append_law {d : FDisk} (hk : FOk d) {a : ByteArray} {b : List UInt8} (h : (d.append a b).2 = 0) : (d.append a b).1.read a = ((d.read a).1 ++ b, 0) := by
  unfold FDisk.append at h ⊢
  cases hg : dget d.now a with
  | none => rw [hg] at h; cases h
  | some i =>
    rw [hg] at h
    dsimp only at h ⊢
    split at h; cases h
    rename_i hq
    rw [if_neg hq]
    obtain ⟨e1, e2, e3, e4, _⟩ := burn_same d
    cases hd : d.burn with
    | mk e ok =>
      rw [hd] at h e1 e2
      dsimp only at e1 e2
      cases ok with
      | false => cases h
      | true =>
        dsimp only
        have hi : i < e.files.length := by rw [e1]; exact hk.now.lt _ (dget_in hg)
        unfold FDisk.read
        dsimp only
        rw [e2, hg]
        dsimp only
        have h2 := file_mod e i i (fun f => { f with b := f.b ++ b }) hi
        rw [if_pos rfl] at h2
        have h3 : e.file i = d.file i := by unfold FDisk.file; rw [e1]
        rw [h3] at h2
        exact congrArg (fun f : FFile => (f.b, (0 : Int))) h2
end Go.Scree
