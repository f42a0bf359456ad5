/- A registry of leases: Load. -/
import Derived.Test.YtkgflckfphecjaaColA
import Derived.Test.YtkgflckfphecjaaSnapG
import Derived.Deep.RegionLaw
namespace Go.Proofs.Ytkgflckfphecjaa
open Go.RowKit Go.Sl Go.Scree

def loadGood (l : List Lease) (safe next : Int) : Bool := leasesGood l && (decide (safe ≤ 1099511627776) && (timeB next && (decide (l.length = 0) || decide ((l.getD (l.length - 1) ⟨0, 0, 0⟩).id < next))))

theorem colSays (l : List Lease) {e : Ending} (h : LeasesSays l e) : ∃ s : ByteArray, e = .returned (.tuple #[.string s, .int .i64 (if leasesGood l = true then 0 else 2)]) := ⟨_, h⟩

set_option maxRecDepth 20000 in
set_option maxHeartbeats 3200000 in
theorem load_no {D : List Chunk} (v : Value) (l : List Lease) (safe next : Int) (hrd : Gives D fun w => Rd w leaseE v l) (hnn : ∀ x ∈ l, 0 ≤ x.until_) (hg : loadGood l safe next = false) (w : World) (F : List Chunk) (o : Own w (D ++ F)) :
    Calls Try.prog 22 #[v, .int .u64 safe, .int .u64 next] w fun e w' => e = .returned (.tuple #[.pointer none, .int .i64 2]) ∧ Own w' (D ++ F) ∧ Ext w w' := by
  have hc := colLeases_c v l hrd hnn w F o
  have hH := hid hrd
  obtain ⟨a, cap, rfl, hm, hcap⟩ := (hrd w F o).form
  have hl : l.length ≤ 9223372036854775807 := by simpa [maxLen] using hm
  have hcH := hid hc
  clear hc hrd o
  have t1 : leasesGood l = false ∨ leasesGood l = true := by cases leasesGood l <;> simp
  have t2 : decide ((1099511627776 : Int) < safe) = true ∨ decide ((1099511627776 : Int) < safe) = false := by cases decide ((1099511627776 : Int) < safe) <;> simp
  have t3 : timeB next = false ∨ timeB next = true := by cases timeB next <;> simp
  rcases t1 with t1 | t1
  · go_enter Try.func22, Try.ntmps22
    go_wp2_with fail
    refine hcH.out.mono ?_
    rintro e w1 ⟨he, o1, e1⟩
    obtain ⟨s, rfl⟩ := colSays l he
    rw [if_neg (by rw [t1]; simp)]
    clear t1
    rcases t2 with t2 | t2
    all_goals
      go_wp2
      go_ret2
      exact ⟨rfl, o1, e1⟩
  rcases t2 with t2 | t2
  · go_enter Try.func22, Try.ntmps22
    go_wp2_with fail
    refine hcH.out.mono ?_
    rintro e w1 ⟨he, o1, e1⟩
    obtain ⟨s, rfl⟩ := colSays l he
    rw [if_pos t1]
    go_wp2
    go_ret2
    exact ⟨rfl, o1, e1⟩
  rcases t3 with t3 | t3
  · go_enter Try.func22, Try.ntmps22
    go_wp2_with fail
    refine hcH.out.mono ?_
    rintro e w1 ⟨he, o1, e1⟩
    obtain ⟨s, rfl⟩ := colSays l he
    rw [if_pos t1]
    go_wp2_with fail
    refine (time_c next _).mono ?_
    rintro e w2 ⟨rfl, rfl⟩
    go_wp2
    go_ret2
    exact ⟨rfl, o1, e1⟩
  have h0 : l.length ≠ 0 := by
    intro h0
    have : safe ≤ 1099511627776 := by simpa using t2
    simp [loadGood, t1, t3, this, h0] at hg
  obtain ⟨y, hy⟩ : ∃ y, l[l.length - 1]? = some y := ⟨_, List.getElem?_eq_getElem (by omega)⟩
  have hge : next ≤ y.id := by
    have h1 : safe ≤ 1099511627776 := by simpa using t2
    have h2 : ¬ y.id < next := by
      intro h2
      simp [loadGood, t1, t3, h1, h2, List.getD, hy] at hg
    omega
  have hd : decide (next ≤ y.id) = true := by simpa using hge
  have hlp : decide (0 < l.length) = true := by simp; omega
  have hw : IntKind.i64.wrap ((l.length : Int) - 1) = (l.length : Int) - 1 := IntWalk.i64_in _ (by omega)
  have hw0 : (0 : Int) ≤ (l.length : Int) - 1 := by omega
  have hwn : ((l.length : Int) - 1).toNat = l.length - 1 := by omega
  have hyH := hid hy
  clear hg hge h0 hy
  go_enter Try.func22, Try.ntmps22
  go_wp2_with fail
  refine hcH.out.mono ?_
  rintro e w1 ⟨he, o1, e1⟩
  obtain ⟨s, rfl⟩ := colSays l he
  rw [if_pos t1]
  rcases hH.out w1 F o1 with ⟨_, hxs⟩ | ⟨g, off, cap', hv, h1, h2, hcell⟩
  · have := hyH.out; rw [hxs] at this; simp at this
  obtain ⟨rfl, rfl⟩ : a = some ⟨g, off, none⟩ ∧ cap = cap' := by simpa using hv
  obtain ⟨c0, _, _⟩ := rd_lease hcell hyH.out
  clear hcell t1
  go_wp2_with fail
  refine (time_c next _).mono ?_
  rintro e w2 ⟨rfl, rfl⟩
  go_wp2
  go_ret2
  exact ⟨rfl, o1, e1⟩
end Go.Proofs.Ytkgflckfphecjaa
