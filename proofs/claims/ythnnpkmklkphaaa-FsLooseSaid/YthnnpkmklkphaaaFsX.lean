/- What the walks of FsCrash and FsLoose share. -/
import Derived.Test.YthnnpkmklkphaaaFsS
import Derived.Test.YthnnpkmklkphaaaFsQa
namespace Go.Proofs.Ythnnpkmklkphaaa
open Go.RowKit Go.Sl Go.Scree Go.Maps

theorem infoStr : (Try.prog.info? 9).map (fun i => (i.zero, i.size, i.bytes)) = some (some (.string ⟨#[]⟩), 1, 16) := by kernel_rfl
theorem infoInt : (Try.prog.info? 3).map (fun i => (i.zero, i.size, i.bytes)) = some (some (.int .i64 0), 1, 8) := by kernel_rfl
/-- A list of strings in memory: its j-th. -/
theorem str_at {w : World} {F : List Chunk} {T : TypeId} {Ad : Option Addr} {n c : Nat} {xs : List ByteArray} (o : Own w (sl T strE (.slice Ad n c) xs :: F)) {j : Nat} {x : ByteArray} (hx : xs[j]? = some x) :
    ∃ g, Ad = some ⟨g, 0, none⟩ ∧ w.cell? ⟨g, j, none⟩ = some (.string x) ∧ g < w.heap.size := by
  rcases sl_form o with ⟨_, h⟩ | ⟨g, cap, h, _, _⟩
  · rw [h] at hx; simp at hx
  · simp only [Value.slice.injEq] at h
    obtain ⟨rfl, rfl, rfl⟩ := h
    have h1 := (sl_at o hx 0 _ rfl).1
    have h2 : w.cell? ⟨g, j, none⟩ = some (.string x) := by simpa [strE] using h1
    exact ⟨g, rfl, h2, World.block_lt_of_cell? w _ h2⟩
theorem slc_shape {w : World} {F : List Chunk} {T : TypeId} {size n : Nat} {v : Value} {xs : List Value} (o : Own w (slc T size v n xs :: F)) : ∃ A m c, v = .slice A m c ∧ Go.RowKit.Hid (Own w (slc T size v n xs :: F)) := by
  obtain ⟨_, h⟩ := slc_open o
  rcases h with ⟨rfl, _⟩ | ⟨g, cap, cur, rfl, _⟩
  · exact ⟨_, _, _, rfl, hid o⟩
  · exact ⟨_, _, _, rfl, hid o⟩
def manyI (n : Nat) : List Int := List.replicate n 1073741824
theorem many_succ (n : Nat) : manyI (n + 1) = manyI n ++ [1073741824] := List.replicate_succ'
theorem many_at {n j : Nat} (h : j < n) : (manyI n)[j]? = some 1073741824 := by unfold manyI; rw [List.getElem?_replicate, if_pos h]
theorem namesOf_conts (d : FDisk) : namesOf d.now = d.now.map (·.1) := rfl
theorem names_len (d : FDisk) : (namesOf d.now).length = d.now.length := by simp [namesOf]
theorem read_len' {d : FDisk} (h : FOk d) (name : ByteArray) : (d.read name).1.length ≤ total d.files := by
  unfold FDisk.read
  cases hg : dget d.now name with
  | none => exact Nat.zero_le _
  | some i => exact Nat.le_trans (file_size hg) (size_total h)
end Go.Proofs.Ythnnpkmklkphaaa
