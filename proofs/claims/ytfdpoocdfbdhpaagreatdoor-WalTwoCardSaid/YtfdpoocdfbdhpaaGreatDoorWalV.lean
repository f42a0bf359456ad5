/- A disk with two logs, in plain Lean. -/
import Derived.Test.YtfdpoocdfbdhpaaGreatDoorWalT
import Derived.KernelRfl
namespace Go.Scree
open Go.Lib

abbrev n5 : ByteArray := ⟨#[119, 97, 108, 46, 53]⟩
theorem nm5 : walName 5 = n5 := by unfold walName; rw [if_neg (by decide), dec_one (by decide)]; rfl
/-- The log 5 with a, the log 3 with b. -/
def twoD (a b : List UInt8) : FDisk := ⟨[⟨a, a.length⟩, ⟨b, b.length⟩], [(n3, 1), (n5, 0)], [(n3, 1), (n5, 0)], [], 1048576, 0, false, false⟩
section
variable {a b : List UInt8}
theorem two_create : wCreate (oneD (walName 5) [] 0 1048576 0 false false) 3 = (twoD [] [], 0) := by
  unfold wCreate
  rw [if_neg (by decide), nm3, nm5]
  kernel_rfl
theorem two_get5 : dget [(n3, 1), (n5, 0)] n5 = some 0 := by kernel_rfl
theorem two_get3 : dget [(n3, 1), (n5, 0)] n3 = some 1 := by kernel_rfl
theorem two_size : (twoD a b).size = b.length + a.length := by simp [FDisk.size, twoD, FDisk.file]
theorem two_total : total (twoD a b).files = a.length + b.length := by simp [total, twoD]
theorem two_bd {N : Nat} (h : a.length + b.length ≤ N) : FBd (twoD a b) N := ⟨by rw [two_total]; exact h, Nat.zero_le _⟩
theorem two_add5 {t : List UInt8} (hq : a.length + b.length + 8003 ≤ 1048576) : wAdd (twoD a b) (oneL 5 a) t =
    if 8000 < t.length then ⟨twoD a b, oneL 5 a, 5⟩ else ⟨twoD (a ++ frameB t) b, oneL 5 (a ++ frameB t), 0⟩ := by
  unfold wAdd
  rw [show (oneL 5 a).broken = false from rfl, if_neg (show ¬ (false = true) by decide)]
  by_cases h : 8000 < t.length
  · rw [if_pos h, if_pos h]
  · have hf := frameB_small (t := t) (by omega)
    rw [if_neg h, if_neg h, show walName (oneL 5 a).n = n5 from nm5]
    have h1 : (twoD a b).append n5 (frameB t) = (⟨[⟨a ++ frameB t, a.length⟩, ⟨b, b.length⟩], [(n3, 1), (n5, 0)], [(n3, 1), (n5, 0)], [], 1048576, 0, false, false⟩, 0) := by
      unfold FDisk.append
      rw [show (twoD a b).now = [(n3, 1), (n5, 0)] from rfl, two_get5]
      dsimp only
      rw [two_size, if_neg (by show ¬ (1048576 : Int) < _; omega)]
      rfl
    rw [h1, if_pos rfl]
    have h2 : FDisk.sync ⟨[⟨a ++ frameB t, a.length⟩, ⟨b, b.length⟩], [(n3, 1), (n5, 0)], [(n3, 1), (n5, 0)], [], 1048576, 0, false, false⟩ n5 = (twoD (a ++ frameB t) b, 0) := by
      unfold FDisk.sync
      dsimp only
      rw [two_get5]
      rfl
    dsimp only
    rw [h2, if_pos rfl]
    simp [oneL]
theorem two_add3 {t : List UInt8} (hq : a.length + b.length + 8003 ≤ 1048576) : wAdd (twoD a b) (oneL 3 b) t =
    if 8000 < t.length then ⟨twoD a b, oneL 3 b, 5⟩ else ⟨twoD a (b ++ frameB t), oneL 3 (b ++ frameB t), 0⟩ := by
  unfold wAdd
  rw [show (oneL 3 b).broken = false from rfl, if_neg (show ¬ (false = true) by decide)]
  by_cases h : 8000 < t.length
  · rw [if_pos h, if_pos h]
  · have hf := frameB_small (t := t) (by omega)
    rw [if_neg h, if_neg h, show walName (oneL 3 b).n = n3 from nm3]
    have h1 : (twoD a b).append n3 (frameB t) = (⟨[⟨a, a.length⟩, ⟨b ++ frameB t, b.length⟩], [(n3, 1), (n5, 0)], [(n3, 1), (n5, 0)], [], 1048576, 0, false, false⟩, 0) := by
      unfold FDisk.append
      rw [show (twoD a b).now = [(n3, 1), (n5, 0)] from rfl, two_get3]
      dsimp only
      rw [two_size, if_neg (by show ¬ (1048576 : Int) < _; omega)]
      rfl
    rw [h1, if_pos rfl]
    have h2 : FDisk.sync ⟨[⟨a, a.length⟩, ⟨b ++ frameB t, b.length⟩], [(n3, 1), (n5, 0)], [(n3, 1), (n5, 0)], [], 1048576, 0, false, false⟩ n3 = (twoD a (b ++ frameB t), 0) := by
      unfold FDisk.sync
      dsimp only
      rw [two_get3]
      rfl
    dsimp only
    rw [h2, if_pos rfl]
    simp [oneL]
theorem two_replay5 : wReplay (twoD a b) 5 = (allF a, 0) := by
  unfold wReplay
  rw [if_neg (by decide), nm5]
  have h : (twoD a b).read n5 = (a, 0) := by
    unfold FDisk.read
    rw [show (twoD a b).now = [(n3, 1), (n5, 0)] from rfl, two_get5]
    rfl
  rw [h, if_pos rfl]
theorem two_replay3 : wReplay (twoD a b) 3 = (allF b, 0) := by
  unfold wReplay
  rw [if_neg (by decide), nm3]
  have h : (twoD a b).read n3 = (b, 0) := by
    unfold FDisk.read
    rw [show (twoD a b).now = [(n3, 1), (n5, 0)] from rfl, two_get3]
    rfl
  rw [h, if_pos rfl]
/-- Behind the removal of the log 3. -/
def twoR (a b : List UInt8) : FDisk := ⟨[⟨a, a.length⟩, ⟨b, b.length⟩], [(n5, 0)], [(n3, 1), (n5, 0)], [⟨n3, noName, none⟩], 1048576, 0, false, false⟩
theorem two_rem : wRemove (twoD a b) 3 = (twoR a b, 0) := by
  unfold wRemove
  rw [if_neg (by decide), nm3]
  unfold FDisk.remove
  rw [show (twoD a b).now = [(n3, 1), (n5, 0)] from rfl, two_get3]
  kernel_rfl
theorem twoR_bd {N : Nat} (h : a.length + b.length + 1 ≤ N) : FBd (twoR a b) N := ⟨by show total (twoD a b).files ≤ N; rw [two_total]; omega, by show 1 ≤ N; omega⟩
theorem twoR_replay5 : wReplay (twoR a b) 5 = (allF a, 0) := by
  unfold wReplay
  rw [if_neg (by decide), nm5]
  have h : (twoR a b).read n5 = (a, 0) := by
    unfold FDisk.read
    rw [show (twoR a b).now = [(n5, 0)] from rfl, show dget [(n5, 0)] n5 = some 0 by kernel_rfl]
    rfl
  rw [h, if_pos rfl]
theorem twoR_replay3 : wReplay (twoR a b) 3 = ([], 10) := by
  unfold wReplay
  rw [if_neg (by decide), nm3]
  have h : (twoR a b).read n3 = ([], 10) := by
    unfold FDisk.read
    rw [show (twoR a b).now = [(n5, 0)] from rfl, show dget [(n5, 0)] n3 = none by kernel_rfl]
  rw [h, if_neg (show ¬ ((10 : Int) = 0) by decide)]
theorem twoR_names : ((twoR a b).now.map (·.1)).filterMap walNumber = [5] := by
  show [n5].filterMap walNumber = [5]
  have : walNumber n5 = some 5 := by rw [← nm5]; exact walNumber_name (by decide)
  simp [this]
end
end Go.Scree
