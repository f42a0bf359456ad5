/- A disk of files, in plain Lean: what each function of package fs does. Files go by their number in a list. -/
import Derived.Test.YtfdpoocdfbdhpaaGreatDoorDirN
set_option linter.all false
namespace Go.Scree

structure FFile where
  b : List UInt8
  sure : Nat
structure FChg where
  src : ByteArray
  dst : ByteArray
  f : Option Nat
structure FDisk where
  files : List FFile
  now : Dir Nat
  sure : Dir Nat
  pending : List FChg
  quota : Int
  fuse : Int
  lit : Bool
  dead : Bool

def noName : ByteArray := ⟨#[]⟩
def mayByte (c : UInt8) : Bool := (decide (97 ≤ c.toNat) && decide (c.toNat ≤ 122)) || (decide (48 ≤ c.toNat) && decide (c.toNat ≤ 57)) || decide (c.toNat = 46)
def mayB (name : ByteArray) : Bool := name.data.toList.all mayByte && (!eqK name noName && decide (name.size ≤ 20))
def FChg.act (c : FChg) (d : Dir Nat) : Dir Nat :=
  match c.f with
  | some i => dput d c.dst i
  | none =>
    if eqK c.dst noName = true then ddel d c.src
    else if eqK c.dst c.src = true then d
    else match dget d c.src with
      | some i => ddel (dput d c.dst i) c.src
      | none => d
def FDisk.new : FDisk := ⟨[], [], [], [], 1048576, 0, false, false⟩
def FDisk.file (d : FDisk) (i : Nat) : FFile := (d.files[i]?).getD ⟨[], 0⟩
def FDisk.size (d : FDisk) : Nat := (d.now.map fun p => (d.file p.2).b.length).sum
def FDisk.loose (d : FDisk) : Nat := (d.now.map fun p => (d.file p.2).b.length - (d.file p.2).sure).sum
/-- The disk behind, and whether the change may be. -/
def FDisk.burn (d : FDisk) : FDisk × Bool :=
  if d.dead = true ∨ d.lit = true ∧ d.fuse = 0 then ({ d with dead := true }, false)
  else if d.lit = true then ({ d with fuse := d.fuse - 1 }, true) else (d, true)
def FDisk.changes (d : FDisk) (c : FChg) : FDisk × Int :=
  match d.burn with
  | (d, false) => (d, 30)
  | (d, true) => ({ d with now := c.act d.now, pending := d.pending ++ [c] }, 0)
def FDisk.create (d : FDisk) (name : ByteArray) : FDisk × Int :=
  if mayB name = false then (d, 20)
  else if (dget d.now name).isSome = true then (d, 11)
  else if 60 ≤ d.now.length then (d, 4)
  else FDisk.changes { d with files := d.files ++ [⟨[], 0⟩] } ⟨noName, name, some d.files.length⟩
def FDisk.append (d : FDisk) (name : ByteArray) (b : List UInt8) : FDisk × Int :=
  match dget d.now name with
  | none => (d, 10)
  | some i =>
    if d.quota < (d.size + b.length : Nat) then (d, 12)
    else match d.burn with
      | (d, false) => (d, 30)
      | (d, true) => ({ d with files := d.files.modify i fun f => { f with b := f.b ++ b } }, 0)
def FDisk.sync (d : FDisk) (name : ByteArray) : FDisk × Int :=
  match dget d.now name with
  | none => (d, 10)
  | some i => match d.burn with
    | (d, false) => (d, 30)
    | (d, true) => ({ d with files := d.files.modify i fun f => { f with sure := f.b.length } }, 0)
def FDisk.rename (d : FDisk) (src dst : ByteArray) : FDisk × Int :=
  if (dget d.now src).isSome = false then (d, 10)
  else if mayB dst = false then (d, 20)
  else d.changes ⟨src, dst, none⟩
def FDisk.remove (d : FDisk) (name : ByteArray) : FDisk × Int :=
  if (dget d.now name).isSome = false then (d, 10) else d.changes ⟨name, noName, none⟩
def FDisk.syncDir (d : FDisk) : FDisk × Int :=
  match d.burn with
  | (d, false) => (d, 30)
  | (d, true) => ({ d with sure := d.now, pending := [] }, 0)
def FDisk.setQuota (d : FDisk) (n : Int) : FDisk := { d with quota := max n 0 }
def FDisk.setFuse (d : FDisk) (n : Int) : FDisk := if d.dead = true then d else { d with fuse := n, lit := decide (0 ≤ n) }
def FDisk.read (d : FDisk) (name : ByteArray) : List UInt8 × Int :=
  match dget d.now name with
  | none => ([], 10)
  | some i => ((d.file i).b, 0)
/-- How much a crash leaves of what isn't sure. -/
def leftOfF (f : FFile) (k : Option Int) : Nat := match k with | none => 0 | some n => min n.toNat (f.b.length - f.sure)
/-- What a crash leaves of a file. -/
def cutF (f : FFile) (k : Option Int) : FFile := ⟨f.b.take (f.sure + leftOfF f k), (f.b.take (f.sure + leftOfF f k)).length⟩
def replay (d : Dir Nat) (cs : List FChg) : Dir Nat := cs.foldl (fun d c => c.act d) d
def renum (m : Dir Nat) : Dir Nat := m.zipIdx.map fun p => (p.1.1, p.2)
/-- The directory that a crash leaves: the first n changes that wait are made. -/
def FDisk.crashDir (d : FDisk) (n : Int) : Dir Nat := replay d.sure (d.pending.take (min n.toNat d.pending.length))
def FDisk.crashFiles (d : FDisk) (n : Int) (keep : List Int) : List FFile := (d.crashDir n).zipIdx.map fun p => cutF (d.file p.1.2) keep[p.2]?
/-- A crash; of each file what was sure stays, and so many bytes more. All files are new ones. -/
def FDisk.crash (d : FDisk) (n : Int) (keep : List Int) : FDisk :=
  { d with files := d.crashFiles n keep, now := renum (d.crashDir n), sure := renum (d.crashDir n), pending := [], dead := false, lit := false, fuse := 0 }

/-- What holds of a directory at any time. -/
structure Good (n : Nat) (d : Dir Nat) : Prop where
  ok : DirOk d
  inj : ∀ p ∈ d, ∀ q ∈ d, p.2 = q.2 → p = q
  lt : ∀ p ∈ d, p.2 < n
  names : ∀ p ∈ d, mayB p.1 = true
  few : d.length ≤ 60
/-- The change may be made. -/
def FChg.fits (c : FChg) (d : Dir Nat) (n : Nat) : Prop :=
  match c.f with
  | some i => i < n ∧ (∀ p ∈ d, p.2 ≠ i) ∧ dget d c.dst = none ∧ d.length < 60 ∧ mayB c.dst = true ∧ c.src = noName
  | none => (dget d c.src).isSome = true ∧ (c.dst = noName ∨ mayB c.dst = true)
theorem Good.nil (n : Nat) : Good n [] := ⟨List.Pairwise.nil, by simp, by simp, by simp, by simp⟩
theorem Good.mono {n m : Nat} {d : Dir Nat} (h : Good n d) (hn : n ≤ m) : Good m d := ⟨h.ok, h.inj, fun p hp => Nat.lt_of_lt_of_le (h.lt p hp) hn, h.names, h.few⟩
theorem FChg.fits_mono {c : FChg} {d : Dir Nat} {n m : Nat} (h : c.fits d n) (hn : n ≤ m) : c.fits d m := by
  unfold FChg.fits at h ⊢
  split
  · rename_i i hi
    rw [hi] at h
    exact ⟨Nat.lt_of_lt_of_le h.1 hn, h.2⟩
  · rename_i hi
    rw [hi] at h; exact h
theorem act_good {c : FChg} {d : Dir Nat} {n : Nat} (h : Good n d) (hc : c.fits d n) : Good n (c.act d) := by
  unfold FChg.fits at hc
  unfold FChg.act
  split
  · rename_i i hi
    rw [hi] at hc
    obtain ⟨h1, h2, h3, h4, h5, _⟩ := hc
    refine ⟨h.ok.put _ _, fun p hp q hq e => ?_, fun p hp => ?_, fun p hp => ?_, ?_⟩
    · rcases dput_mem hp with rfl | hp' <;> rcases dput_mem hq with rfl | hq'
      · rfl
      · exact absurd e.symm (h2 q hq')
      · exact absurd e (h2 p hp')
      · exact h.inj p hp' q hq' e
    · rcases dput_mem hp with rfl | hp
      · exact h1
      · exact h.lt p hp
    · rcases dput_mem hp with rfl | hp
      · exact h5
      · exact h.names p hp
    · rw [dput_len _ h.ok, h3]; simp; omega
  · rename_i hi
    rw [hi] at hc
    obtain ⟨h1, h2⟩ := hc
    have hdel : ∀ {e : Dir Nat}, Good n e → Good n (ddel e c.src) := fun {e} he =>
      ⟨he.ok.del _, fun p hp q hq => he.inj p ((ddel_sub _ _).subset hp) q ((ddel_sub _ _).subset hq), fun p hp => he.lt p ((ddel_sub _ _).subset hp), fun p hp => he.names p ((ddel_sub _ _).subset hp), Nat.le_trans (ddel_sub e c.src).length_le he.few⟩
    split
    · exact hdel h
    · rename_i hne
      split
      · exact h
      · rename_i hns
        have hm : mayB c.dst = true := by
          rcases h2 with h2 | h2
          · exact absurd (eqK_iff.2 h2) hne
          · exact h2
        split
        · rename_i i hi
          have hin := dget_in hi
          have hds : c.dst ≠ c.src := fun e => hns (eqK_iff.2 e)
          refine ⟨(h.ok.put _ _).del _, fun p hp q hq e => ?_, fun p hp => ?_, fun p hp => ?_, ?_⟩
          · obtain ⟨hp, hps⟩ := ddel_mem (h.ok.put _ _) hp
            obtain ⟨hq, hqs⟩ := ddel_mem (h.ok.put _ _) hq
            rcases dput_mem hp with rfl | hp' <;> rcases dput_mem hq with rfl | hq'
            · rfl
            · exact absurd (congrArg Prod.fst (h.inj q hq' _ hin e.symm)) hqs
            · exact absurd (congrArg Prod.fst (h.inj p hp' _ hin e)) hps
            · exact h.inj p hp' q hq' e
          · rcases dput_mem ((ddel_sub _ _).subset hp) with rfl | hp
            · exact h.lt (c.src, i) hin
            · exact h.lt p hp
          · rcases dput_mem ((ddel_sub _ _).subset hp) with rfl | hp
            · exact hm
            · exact h.names p hp
          · have h3 := ddel_len (dput d c.dst i) c.src
            rw [dget_put_other d i (Ne.symm hds), hi] at h3
            have h4 := dput_len d h.ok c.dst i
            have h5 := h.few
            simp only [Option.isSome_some, if_true] at h3
            split at h4 <;> omega
        · exact h
/-- How the directory came to be. -/
def Hist (n : Nat) : Dir Nat → List FChg → Dir Nat → Prop
  | d, [], e => Good n d ∧ d = e
  | d, c :: cs, e => Good n d ∧ c.fits d n ∧ Hist n (c.act d) cs e
theorem Hist.start {n : Nat} : ∀ {cs : List FChg} {d e : Dir Nat}, Hist n d cs e → Good n d
  | [], _, _, h => h.1
  | _ :: _, _, _, h => h.1
theorem Hist.stop {n : Nat} : ∀ {cs : List FChg} {d e : Dir Nat}, Hist n d cs e → Good n e
  | [], _, _, h => h.2 ▸ h.1
  | _ :: _, _, _, h => Hist.stop h.2.2
theorem Hist.end_eq {n : Nat} : ∀ {cs : List FChg} {d e : Dir Nat}, Hist n d cs e → replay d cs = e
  | [], _, _, h => h.2
  | c :: cs, d, _, h => (Hist.end_eq h.2.2 : replay (c.act d) cs = _)
theorem Hist.mono {n m : Nat} (hn : n ≤ m) : ∀ {cs : List FChg} {d e : Dir Nat}, Hist n d cs e → Hist m d cs e
  | [], _, _, h => ⟨h.1.mono hn, h.2⟩
  | _ :: _, _, _, h => ⟨h.1.mono hn, FChg.fits_mono h.2.1 hn, Hist.mono hn h.2.2⟩
theorem Hist.take {n : Nat} : ∀ {cs : List FChg} {d e : Dir Nat} (k : Nat), Hist n d cs e → Good n (replay d (cs.take k))
  | [], _, _, k, h => by rw [List.take_nil]; exact h.1
  | _ :: _, _, _, 0, h => h.1
  | _ :: _, _, _, k + 1, h => Hist.take k h.2.2
theorem Hist.snoc {n : Nat} {c : FChg} : ∀ {cs : List FChg} {d e : Dir Nat}, Hist n d cs e → c.fits e n → Hist n d (cs ++ [c]) (c.act e)
  | [], _, _, h, hc => by obtain ⟨h, rfl⟩ := h; exact ⟨h, hc, act_good h hc, rfl⟩
  | _ :: _, _, _, h, hc => ⟨h.1, h.2.1, Hist.snoc h.2.2 hc⟩
/-- A change in the middle may be made. -/
theorem Hist.at_ {n : Nat} : ∀ {cs : List FChg} {d e : Dir Nat} {k : Nat} {c : FChg}, Hist n d cs e → cs[k]? = some c → c.fits (replay d (cs.take k)) n ∧ replay d (cs.take (k + 1)) = c.act (replay d (cs.take k))
  | [], _, _, _, _, _, hk => by simp at hk
  | _ :: _, _, _, 0, _, h, hk => by
    obtain rfl := Option.some.inj hk
    exact ⟨h.2.1, by simp [replay]⟩
  | _ :: cs, _, _, k + 1, _, h, hk => by
    have := Hist.at_ (k := k) h.2.2 (by simpa using hk)
    exact this
def total (fs : List FFile) : Nat := (fs.map fun f => f.b.length).sum
def topI : Int := 9223372036854775807
/-- What holds of a disk at any time. -/
structure FOk (d : FDisk) : Prop where
  hist : Hist d.files.length d.sure d.pending d.now
  fit : ∀ f ∈ d.files, f.sure ≤ f.b.length
  fuse : d.lit = true → 0 ≤ d.fuse ∧ d.fuse ≤ topI
  quota : 0 ≤ d.quota
/-- How large a disk may be. -/
structure FBd (d : FDisk) (n : Nat) : Prop where
  bytes : total d.files ≤ n
  waits : d.pending.length ≤ n
theorem FOk.now {d : FDisk} (h : FOk d) : Good d.files.length d.now := h.hist.stop
theorem FOk.sure {d : FDisk} (h : FOk d) : Good d.files.length d.sure := h.hist.start
theorem FOk.start : FOk FDisk.new := ⟨⟨Good.nil _, rfl⟩, by simp [FDisk.new], by simp [FDisk.new], by simp [FDisk.new]⟩
theorem FBd.start : FBd FDisk.new 0 := ⟨by simp [FDisk.new, total], by simp [FDisk.new]⟩
end Go.Scree
