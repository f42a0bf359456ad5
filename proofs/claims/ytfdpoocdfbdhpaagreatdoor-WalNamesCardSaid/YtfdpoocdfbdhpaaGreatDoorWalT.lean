/- A disk with one log, in plain Lean. · The story that awake plays, in plain Lean. · A disk with one log and a fuse, in plain Lean. -/
import Derived.Test.YtfdpoocdfbdhpaaGreatDoorWalP
import Derived.Test.YtfdpoocdfbdhpaaGreatDoorFsN
import Derived.KernelRfl
set_option linter.all false
namespace Go.Scree
open Go.Lib

theorem dec_bytes (u : Nat) : ∀ c ∈ decDigits u, 48 ≤ c.toNat ∧ c.toNat ≤ 57 := by
  induction u using Nat.strongRecOn with
  | ind u ih =>
    intro c hc
    have key : ∀ k, k < 10 → 48 ≤ (UInt8.ofNat (48 + k)).toNat ∧ (UInt8.ofNat (48 + k)).toNat ≤ 57 := fun k hk => by rw [UInt8.toNat_ofNat']; omega
    by_cases h : u < 10
    · rw [dec_digit h] at hc
      rw [List.mem_singleton] at hc
      subst hc
      exact key u h
    · rw [dec_more h, List.mem_append, List.mem_singleton] at hc
      rcases hc with hc | rfl
      · exact ih _ (by omega) c hc
      · exact key _ (Nat.mod_lt _ (by omega))
theorem dec_short (k : Nat) : ∀ u, u < 10 ^ (k + 1) → (decDigits u).length ≤ k + 1 := by
  induction k with
  | zero => intro u h; rw [dec_digit (by omega)]; simp
  | succ k ih =>
    intro u h
    by_cases h10 : u < 10
    · rw [dec_digit h10]; simp
    · rw [dec_more h10, List.length_append, List.length_singleton]
      have := ih (u / 10) (by rw [Nat.pow_succ] at h; omega)
      omega
theorem walName_may {n : Nat} (h : n ≤ 1099511627776) : mayB (walName n) = true := by
  have hl := walName_list h
  have hz : (walName n).size ≤ 20 := by
    rw [size_eq, hl, List.length_append]
    have := dec_short 12 n (by omega)
    show 4 + _ ≤ _
    omega
  unfold mayB
  rw [hl]
  have hne : eqK (walName n) noName = false := by
    rw [eqK_false]
    intro e
    rw [e] at hl
    have := congrArg List.length hl
    simp [noName, walPre] at this
  rw [hne]
  simp only [Bool.and_eq_true, List.all_eq_true, Bool.not_false, decide_eq_true_eq, true_and]
  refine ⟨fun c hc => ?_, hz⟩
  rcases List.mem_append.1 hc with hc | hc
  · simp only [walPre, List.mem_cons, List.not_mem_nil, or_false] at hc
    rcases hc with rfl | rfl | rfl | rfl <;> decide
  · have := dec_bytes n c hc
    unfold mayByte
    simp; omega

/-- A disk with one file. -/
def oneD (nm : ByteArray) (b : List UInt8) (s : Nat) (q f : Int) (lit dead : Bool) : FDisk := ⟨[⟨b, s⟩], [(nm, 0)], [(nm, 0)], [], q, f, lit, dead⟩
section
variable {nm : ByteArray} {b c : List UInt8} {s : Nat} {q f : Int} {lit dead : Bool}
theorem dget_one : dget [(nm, 0)] nm = some 0 := by simp [dget, eqK_self]
theorem one_read : (oneD nm b s q f lit dead).read nm = (b, 0) := by
  unfold FDisk.read
  rw [show (oneD nm b s q f lit dead).now = [(nm, 0)] from rfl, dget_one]
  rfl
theorem one_append : (oneD nm b s q f false false).append nm c = if q < ((b.length + c.length : Nat) : Int) then (oneD nm b s q f false false, 12) else (oneD nm (b ++ c) s q f false false, 0) := by
  unfold FDisk.append
  rw [show (oneD nm b s q f false false).now = [(nm, 0)] from rfl, dget_one]
  have hz : (oneD nm b s q f false false).size = b.length := by simp [FDisk.size, oneD, FDisk.file]
  rw [hz]
  rfl
theorem one_sync : (oneD nm b s q f false false).sync nm = (oneD nm b b.length q f false false, 0) := by
  unfold FDisk.sync
  rw [show (oneD nm b s q f false false).now = [(nm, 0)] from rfl, dget_one]
  rfl
theorem one_size : (oneD nm b s q f lit dead).size = b.length := by simp [FDisk.size, oneD, FDisk.file]
theorem one_total : total (oneD nm b s q f lit dead).files = b.length := by simp [total, oneD]
theorem one_bd {N : Nat} (h : b.length ≤ N) : FBd (oneD nm b s q f lit dead) N := ⟨by rw [one_total]; exact h, Nat.zero_le _⟩
end
theorem one_create {n : Nat} (h : n ≤ 1099511627776) : wCreate FDisk.new n = (oneD (walName n) [] 0 1048576 0 false false, 0) := by
  have hm := walName_may h
  unfold wCreate
  rw [if_neg (by omega)]
  have h1 : FDisk.new.create (walName n) = (⟨[⟨[], 0⟩], [(walName n, 0)], [], [⟨noName, walName n, some 0⟩], 1048576, 0, false, false⟩, 0) := by
    unfold FDisk.create
    rw [hm]
    simp [FDisk.new, dget, FDisk.changes, FDisk.burn, FChg.act, dput]
  rw [h1]
  rfl
/-- What a log with these texts is. -/
def fr (ws : List ByteArray) : List UInt8 := framesB (ws.map fun x => x.data.toList)
theorem fr_snoc (ws : List ByteArray) (x : ByteArray) : fr (ws ++ [x]) = fr ws ++ frameB x.data.toList := by
  unfold fr
  rw [List.map_append, List.map_singleton, framesB_snoc]
/-- The log ahead of a text. -/
def oneL (n : Nat) (b : List UInt8) : WLog := ⟨n, b.length, false⟩
theorem one_add {n : Nat} {b t : List UInt8} {q f : Int} : wAdd (oneD (walName n) b b.length q f false false) (oneL n b) t =
    if 8000 < t.length then ⟨oneD (walName n) b b.length q f false false, oneL n b, 5⟩
    else if q < ((b.length + (frameB t).length : Nat) : Int) then ⟨oneD (walName n) b b.length q f false false, oneL n b, 12⟩
    else ⟨oneD (walName n) (b ++ frameB t) (b ++ frameB t).length q f false false, oneL n (b ++ frameB t), 0⟩ := by
  unfold wAdd
  rw [show (oneL n b).broken = false from rfl, if_neg (by decide)]
  by_cases h : 8000 < t.length
  · rw [if_pos h, if_pos h]
  · rw [if_neg h, if_neg h, show (oneL n b).n = n from rfl, one_append]
    by_cases hq : q < ((b.length + (frameB t).length : Nat) : Int)
    · rw [if_pos hq, if_pos hq, if_neg (show ¬ ((12 : Int) = 0) by decide)]
      rfl
    · rw [if_neg hq, if_neg hq, if_pos rfl, one_sync, if_pos rfl]
      simp [oneL]
theorem one_replay {n : Nat} {b : List UInt8} {s : Nat} {q f : Int} {lit dead : Bool} (h : n ≤ 1099511627776) : wReplay (oneD (walName n) b s q f lit dead) n = (allF b, 0) := by
  unfold wReplay
  rw [if_neg (by omega), one_read, if_pos rfl]
theorem allF_fr {ws : List ByteArray} (h : ∀ x ∈ ws, x.size ≤ 8000) (r : List UInt8) : allF (fr ws ++ r) = (ws.map fun x => x.data.toList) ++ allF r := by
  unfold fr
  refine allF_frames (fun t ht => ?_) r
  obtain ⟨x, hx, rfl⟩ := List.mem_map.1 ht
  rw [← size_eq]; exact h x hx
end Go.Scree
namespace Go.Scree
open Go.Lib

abbrev n3 : ByteArray := ⟨#[119, 97, 108, 46, 51]⟩
abbrev n4 : ByteArray := ⟨#[119, 97, 108, 46, 52]⟩
abbrev n7 : ByteArray := ⟨#[119, 97, 108, 46, 55]⟩
abbrev n12 : ByteArray := ⟨#[119, 97, 108, 46, 49, 50]⟩
abbrev n012 : ByteArray := ⟨#[119, 97, 108, 46, 48, 49, 50]⟩
theorem dec_one {k : Nat} (h : k < 10) : decDigits k = [UInt8.ofNat (48 + k)] := by rw [decDigits, dif_pos h]
theorem nm3 : walName 3 = n3 := by unfold walName; rw [if_neg (by decide), dec_one (by decide)]; rfl
theorem nm4 : walName 4 = n4 := by unfold walName; rw [if_neg (by decide), dec_one (by decide)]; rfl
theorem nm7 : walName 7 = n7 := by unfold walName; rw [if_neg (by decide), dec_one (by decide)]; rfl
theorem nm12 : walName 12 = n12 := by
  unfold walName
  rw [if_neg (by decide), decDigits, dif_neg (by decide), dec_one (by decide)]; rfl
theorem nu3 : walNumber n3 = some 3 := by rw [← nm3]; exact walNumber_name (by decide)
theorem nu12 : walNumber n12 = some 12 := by rw [← nm12]; exact walNumber_name (by decide)
theorem nu012 : walNumber n012 = none := by
  cases h : walNumber n012 with
  | none => rfl
  | some n =>
    have h1 := (walNumber_some h)
    have h2 : parseUintB 64 (trimPrefix n012.data.toList walPre) = .ok 12 := by decide +kernel
    unfold walNumber at h
    rw [h2] at h
    dsimp only at h
    split at h
    · rename_i hc
      rw [nm12] at hc
      exact absurd hc.2 (by decide +kernel)
    · cases h
theorem frA : frameB [97] = [1, 97, 196] := by unfold frameB; rw [shortB_low (by decide)]; rfl
theorem frB : frameB [98] = [1, 98, 199] := by unfold frameB; rw [shortB_low (by decide)]; rfl
theorem frC : frameB [99] = [1, 99, 198] := by unfold frameB; rw [shortB_low (by decide)]; rfl
def L1 : FDisk := ⟨[⟨[], 0⟩], [(n3, 0)], [(n3, 0)], [], 1048576, 0, false, false⟩
def L2 : FDisk := ⟨[⟨[1, 97, 196], 3⟩], [(n3, 0)], [(n3, 0)], [], 1048576, 0, false, false⟩
def L3 : FDisk := ⟨[⟨[1, 97, 196, 1, 98, 199], 6⟩], [(n3, 0)], [(n3, 0)], [], 1048576, 0, false, false⟩
def L4 : FDisk := ⟨[⟨[1, 97, 196, 1, 98, 199], 6⟩], [(n3, 0)], [(n3, 0)], [], 1048576, 1, true, false⟩
def L5 : FDisk := ⟨[⟨[1, 97, 196, 1, 98, 199, 1, 99, 198], 6⟩], [(n3, 0)], [(n3, 0)], [], 1048576, 0, true, true⟩
def L6 : FDisk := ⟨[⟨[1, 97, 196, 1, 98, 199, 1, 99], 8⟩], [(n3, 0)], [(n3, 0)], [], 1048576, 0, false, false⟩
theorem s1 : wCreate FDisk.new 3 = (L1, 0) := by
  unfold wCreate
  rw [if_neg (by decide), nm3]
  kernel_rfl
theorem s2 : wAdd L1 (WLog.new 3) [97] = ⟨L2, ⟨3, 3, false⟩, 0⟩ := by
  unfold wAdd
  rw [if_neg (by decide), if_neg (by decide), frA, show walName (WLog.new 3).n = n3 from nm3]
  kernel_rfl
theorem s3 : wAdd L2 ⟨3, 3, false⟩ [98] = ⟨L3, ⟨3, 6, false⟩, 0⟩ := by
  unfold wAdd
  dsimp only
  rw [if_neg (by decide), if_neg (by decide), frB, nm3]
  kernel_rfl
theorem s4 : L3.setFuse 1 = L4 := by kernel_rfl
theorem s5 : wAdd L4 ⟨3, 6, false⟩ [99] = ⟨L5, ⟨3, 6, true⟩, 30⟩ := by
  unfold wAdd
  dsimp only
  rw [if_neg (by decide), if_neg (by decide), frC, nm3]
  kernel_rfl
theorem s6 : L5.crash 0 [2] = L6 := by kernel_rfl
theorem all2 : allF [1, 97, 196, 1, 98, 199] = [[97], [98]] := by
  have h := allF_frames (ts := [[97], [98]]) (by simp) []
  simpa [framesB, frA, frB, allF_nil] using h
theorem all3 : allF [1, 97, 196, 1, 98, 199, 1, 99] = [[97], [98]] := by
  have h := allF_frames (ts := [[97], [98]]) (by simp) [1, 99]
  have h2 : takeF [1, 99] = none := by
    have := takeF_cut (t := [99]) (k := 2) (by simp) (by rw [frC]; simp)
    simpa [frC] using this
  simpa [framesB, frA, frB, allF_none h2] using h
theorem s7 : wReplay L3 3 = ([[97], [98]], 0) := by
  unfold wReplay
  rw [if_neg (by decide), nm3]
  rw [show (L3.read n3) = ([1, 97, 196, 1, 98, 199], 0) by kernel_rfl]
  rw [if_pos rfl, all2]
theorem s8 : wReplay L6 3 = ([[97], [98]], 0) := by
  unfold wReplay
  rw [if_neg (by decide), nm3]
  rw [show (L6.read n3) = ([1, 97, 196, 1, 98, 199, 1, 99], 0) by kernel_rfl]
  rw [if_pos rfl, all3]
theorem s9 : wRemove L6 4 = (L6, 10) := by
  unfold wRemove
  rw [if_neg (by decide), nm4]
  kernel_rfl
end Go.Scree
namespace Go.Scree
open Go.Lib

/-- A disk with one file, that burns. -/
def litD (nm : ByteArray) (b : List UInt8) (s : Nat) (f : Int) (dead : Bool) : FDisk := oneD nm b s 1048576 f true dead
theorem lit_fuse {nm : ByteArray} {b : List UInt8} {s : Nat} {f : Int} (hf : 0 ≤ f) : (oneD nm b s 1048576 0 false false).setFuse f = litD nm b s f false := by
  unfold FDisk.setFuse litD oneD
  simp [hf]
theorem lit_append {nm : ByteArray} {b c : List UInt8} {s : Nat} {f : Int} (hq : b.length + c.length ≤ 1048576) : (litD nm b s f false).append nm c = if f = 0 then (litD nm b s f true, 30) else (litD nm (b ++ c) s (f - 1) false, 0) := by
  unfold FDisk.append litD
  rw [show (oneD nm b s 1048576 f true false).now = [(nm, 0)] from rfl, dget_one]
  dsimp only
  rw [one_size, if_neg (by show ¬ (1048576 : Int) < _; omega)]
  unfold FDisk.burn
  by_cases h : f = 0
  · rw [if_pos h, if_pos (Or.inr ⟨rfl, h⟩)]
    rfl
  · rw [if_neg h, if_neg (by simp [oneD, h]), if_pos (show (oneD nm b s 1048576 f true false).lit = true from rfl)]
    rfl
theorem lit_sync {nm : ByteArray} {b : List UInt8} {s : Nat} {f : Int} : (litD nm b s f false).sync nm = if f = 0 then (litD nm b s f true, 30) else (litD nm b b.length (f - 1) false, 0) := by
  unfold FDisk.sync litD
  rw [show (oneD nm b s 1048576 f true false).now = [(nm, 0)] from rfl, dget_one]
  dsimp only
  unfold FDisk.burn
  by_cases h : f = 0
  · rw [if_pos h, if_pos (Or.inr ⟨rfl, h⟩)]
    rfl
  · rw [if_neg h, if_neg (by simp [oneD, h]), if_pos (show (oneD nm b s 1048576 f true false).lit = true from rfl)]
    rfl
theorem lit_add {n : Nat} {b t : List UInt8} {f : Int} (ht : t.length ≤ 8000) (hf : 0 ≤ f) (hq : b.length + 8003 ≤ 1048576) :
    ∃ (b' : List UInt8) (s' : Nat) (f' : Int) (dead : Bool) (l' : WLog) (e : Int), wAdd (litD (walName n) b b.length f false) (oneL n b) t = ⟨litD (walName n) b' s' f' dead, l', e⟩ ∧
      ((e = 0 ∧ b' = b ++ frameB t ∧ s' = b'.length ∧ dead = false ∧ 0 ≤ f' ∧ l' = oneL n b') ∨ (e ≠ 0 ∧ ((b' = b ∧ s' = b.length) ∨ (b' = b ++ frameB t ∧ s' = b.length)))) := by
  have hfz := frameB_small ht
  unfold wAdd
  rw [show (oneL n b).broken = false from rfl, if_neg (show ¬ (false = true) by decide), if_neg (by omega), show (oneL n b).n = n from rfl, lit_append (by omega)]
  by_cases h0 : f = 0
  · rw [if_pos h0, if_neg (show ¬ ((30 : Int) = 0) by decide)]
    exact ⟨b, b.length, f, true, _, 30, rfl, .inr ⟨by decide, .inl ⟨rfl, rfl⟩⟩⟩
  · rw [if_neg h0, if_pos rfl]
    dsimp only
    rw [lit_sync]
    by_cases h1 : f - 1 = 0
    · rw [if_pos h1, if_neg (show ¬ ((30 : Int) = 0) by decide)]
      exact ⟨b ++ frameB t, b.length, f - 1, true, _, 30, rfl, .inr ⟨by decide, .inr ⟨rfl, rfl⟩⟩⟩
    · rw [if_neg h1, if_pos rfl]
      refine ⟨b ++ frameB t, (b ++ frameB t).length, f - 1 - 1, false, _, 0, rfl, .inl ⟨rfl, rfl, rfl, rfl, by omega, ?_⟩⟩
      simp [oneL]
theorem lit_crash {nm : ByteArray} {b : List UInt8} {s : Nat} {f : Int} {dead : Bool} (n : Int) (keep : List Int) :
    (litD nm b s f dead).crash n keep = oneD nm (b.take (s + leftOfF ⟨b, s⟩ keep[0]?)) (b.take (s + leftOfF ⟨b, s⟩ keep[0]?)).length 1048576 0 false false := by
  have h1 : (litD nm b s f dead).crashDir n = [(nm, 0)] := by
    unfold FDisk.crashDir litD oneD
    simp [replay]
  unfold FDisk.crash FDisk.crashFiles
  rw [h1]
  rfl
/-- What a crash may leave of the texts. -/
theorem lit_kept {ws : List ByteArray} {x : ByteArray} {b : List UInt8} {s : Nat} (hw : ∀ y ∈ ws, y.size ≤ 8000) (hx : x.size ≤ 8000) (hb : (b = fr ws ∧ s = (fr ws).length) ∨ (b = fr ws ++ frameB x.data.toList ∧ s = (fr ws).length)) (j : Nat) :
    allF (b.take (s + j)) = (ws.map fun y => y.data.toList) ∨ allF (b.take (s + j)) = ((ws ++ [x]).map fun y => y.data.toList) := by
  have hq : ∀ q ∈ (ws.map fun y => y.data.toList), q.length ≤ 8000 := by
    intro q hq
    obtain ⟨y, hy, rfl⟩ := List.mem_map.1 hq
    rw [← size_eq]; exact hw y hy
  rcases hb with ⟨rfl, rfl⟩ | ⟨rfl, rfl⟩
  · left
    rw [List.take_of_length_le (by omega)]
    have := allF_fr hw []
    simpa [allF_nil] using this
  · have e : (fr ws ++ frameB x.data.toList).take ((fr ws).length + j) = fr ws ++ (frameB x.data.toList).take j := by
      rw [List.take_length_add_append]
    rw [e, List.map_append, List.map_singleton]
    exact allF_keeps hq (by rw [← size_eq]; exact hx) j
end Go.Scree
