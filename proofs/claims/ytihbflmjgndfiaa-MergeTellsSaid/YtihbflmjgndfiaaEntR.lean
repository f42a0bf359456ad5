/- Rows of rows in memory. -/
import Derived.Test.YtihbflmjgndfiaaEntC
namespace Go.Proofs.Ytihbflmjgndfiaa
open Go.RowKit Go.Sl Go.Scree

/-- A row, and where it lies. -/
structure RowV where
  A : Option Addr
  n : Nat
  c : Nat
  l : List Ent
def RowV.v (r : RowV) : Value := .slice r.A r.n r.c
def rowE : Enc RowV := ⟨fun r => [.slice r.A r.n r.c], 1, fun _ => rfl, by simp [Value.oneCell'], by omega⟩
/-- A slice of slices reads as rows. -/
structure RdR (w : World) (v : Value) (rs : List RowV) : Prop where
  out : Rd w rowE v rs
  ins : ∀ r ∈ rs, Rd w entE (.slice r.A r.n r.c) r.l
  small : ∀ r ∈ rs, r.l.length ≤ 1000000
def listsOf (rs : List RowV) : List (List Ent) := rs.map (·.l)

theorem Rdr_len {w : World} {r : RowV} (h : Rd w entE (.slice r.A r.n r.c) r.l) : r.n = r.l.length := by
  rcases h with ⟨⟨A, cap, hv, _⟩, hl⟩ | ⟨g, off, cap, hv, _⟩
  · simp only [Value.slice.injEq] at hv; rw [hl]; exact hv.2.1
  · simp only [Value.slice.injEq] at hv; exact hv.2.1
theorem RdR.keep {w w' : World} {v : Value} {rs : List RowV} (h : RdR w v rs) (k : Kp w w') : RdR w' v rs := ⟨k.rd h.out, fun r hr => k.rd (h.ins r hr), h.small⟩
/-- The cell of a row's slice. -/
theorem RdR.at {w : World} {A : Option Addr} {n c : Nat} {rs : List RowV} (h : RdR w (.slice A n c) rs) {i : Nat} {r : RowV} (hx : rs[i]? = some r) :
    ∃ g off, A = some ⟨g, off, none⟩ ∧ n = rs.length ∧ w.cell? ⟨g, off + i, none⟩ = some (.slice r.A r.n r.c) ∧ g < w.heap.size := by
  rcases h.out with ⟨_, rfl⟩ | ⟨g, off, cap, hv, h1, h2, hc⟩
  · simp at hx
  · simp only [Value.slice.injEq] at hv
    have h3 := hc i r hx 0 _ rfl
    simp only [rowE, Nat.mul_one, Nat.add_zero] at h3
    exact ⟨g, off, hv.1, hv.2.1, h3, World.block_lt_of_cell? w _ h3⟩
theorem RdR.mem {w : World} {v : Value} {rs : List RowV} (h : RdR w v rs) {i : Nat} {r : RowV} (hx : rs[i]? = some r) : Rd w entE (.slice r.A r.n r.c) r.l := h.ins r (List.mem_of_getElem? hx)
end Go.Proofs.Ytihbflmjgndfiaa
