/- The walks of the small functions of package snap and of the slices functions that it uses. -/
import Derived.Test.YtkgflckfphecjaaProg
import Derived.Test.YtkgflckfphecjaaSnapM
import Derived.Test.YtkgflckfphecjaaSlc
namespace Go.Proofs.Ytkgflckfphecjaa
open Go.RowKit Go.Sl Go.Scree

def leaseE : Enc Lease := ⟨fun x => [.int .u64 x.id, .int .u64 x.time, .int .u64 x.until_], 3, fun _ => rfl, by simp [Value.oneCell'], by omega⟩
theorem rd_lease {w : World} {g off : Nat} {xs : List Lease} (h : ∀ i x, xs[i]? = some x → ∀ j u, (leaseE.cells x)[j]? = some u → w.cell? ⟨g, off + i * leaseE.size + j, none⟩ = some u)
   {i : Nat} {x : Lease} (hx : xs[i]? = some x) : w.cell? ⟨g, off + i * 3, none⟩ = some (.int .u64 x.id) ∧ w.cell? ⟨g, off + i * 3 + 1, none⟩ = some (.int .u64 x.time) ∧ w.cell? ⟨g, off + i * 3 + 2, none⟩ = some (.int .u64 x.until_) :=
  ⟨h i x hx 0 _ rfl, h i x hx 1 _ rfl, h i x hx 2 _ rfl⟩

theorem idxI_at {α : Type} {p : α → Bool} {xs : List α} {k : Nat} {x : α} (h : ∀ y ∈ xs.take k, p y = false) (hx : xs[k]? = some x) (hp : p x = true) : idxI p xs = k := by
  have : xs.findIdx? p = some k := by
    rw [List.findIdx?_eq_some_iff_getElem]
    obtain ⟨hk, rfl⟩ := List.getElem?_eq_some_iff.1 hx
    refine ⟨hk, hp, fun j hj => ?_⟩
    have := h xs[j] (by rw [List.mem_take_iff_getElem]; exact ⟨j, by omega, rfl⟩)
    simp [this]
  simp [idxI, this]
theorem idxI_none {α : Type} {p : α → Bool} {xs : List α} (h : ∀ y ∈ xs, p y = false) : idxI p xs = -1 := by
  have : xs.findIdx? p = none := List.findIdx?_eq_none_iff.2 h
  simp [idxI, this]
theorem take_no {α : Type} {p : α → Bool} {xs : List α} {k : Nat} {x : α} (h : ∀ y ∈ xs.take k, p y = false) (hx : xs[k]? = some x) (hp : p x = false) : ∀ y ∈ xs.take (k + 1), p y = false := by
  obtain ⟨hk, rfl⟩ := List.getElem?_eq_some_iff.1 hx
  intro y hy
  rw [List.take_succ_eq_append_getElem hk, List.mem_append, List.mem_singleton] at hy
  rcases hy with hy | rfl
  · exact h y hy
  · exact hp

theorem time_c (n : Int) (w : World) : Calls Try.prog 31 #[.int .u64 n] w fun e w' => e = .returned (.bool (timeB n)) ∧ w = w' := by
  have hd : decide (0 < n) = true ∨ decide (0 < n) = false := by cases decide (0 < n) <;> simp
  rcases hd with hd | hd
  all_goals
    go_enter Try.func31, Try.ntmps31
    go_wp2
    go_ret
    exact ⟨by simp [timeB, hd], rfl⟩

theorem until_yes (lease now : Int) (w : World) (h0 : 0 ≤ now) (h : untilB lease now = true) : Calls Try.prog 30 #[.int .u64 lease, .int .u64 now] w fun e w' => e = .returned (.tuple #[.int .u64 (now + lease), .bool true]) ∧ w = w' := by
  simp only [untilB, timeB, Bool.and_eq_true, decide_eq_true_eq] at h
  obtain ⟨⟨h1, h2⟩, h3, h4⟩ := h
  have ht : timeB lease = true := by simp [timeB, h1, h2]
  go_enter Try.func30, Try.ntmps30
  go_wp2_with fail
  refine (time_c lease _).mono ?_
  rintro e w1 ⟨rfl, rfl⟩
  go_wp2
  go_ret2
  exact ⟨rfl, rfl⟩
def FalseBeside (e : Ending) : Prop := ∃ v : Int, e = .returned (.tuple #[.int .u64 v, .bool false])
theorem until_no (lease now : Int) (w : World) (h0 : 0 ≤ now) (h : untilB lease now = false) : Calls Try.prog 30 #[.int .u64 lease, .int .u64 now] w fun e w' => FalseBeside e ∧ w = w' := by
  by_cases ht : timeB lease = true
  · by_cases h1 : now ≤ 1099511627776
    · have h2 : ¬ now + lease ≤ 1099511627776 := by
        intro h2; simp [untilB, ht, h1, h2] at h
      simp only [timeB, Bool.and_eq_true, decide_eq_true_eq] at ht
      obtain ⟨h3, h4⟩ := ht
      have ht : timeB lease = true := by simp [timeB, h3, h4]
      have hd : decide (now + lease ≤ 1099511627776) = false := by simpa using h2
      clear h h2
      go_enter Try.func30, Try.ntmps30
      go_wp2_with fail
      refine (time_c lease _).mono ?_
      rintro e w1 ⟨rfl, rfl⟩
      go_wp2
      go_ret2
      exact ⟨⟨_, rfl⟩, rfl⟩
    · clear h
      go_enter Try.func30, Try.ntmps30
      go_wp2_with fail
      refine (time_c lease _).mono ?_
      rintro e w1 ⟨rfl, rfl⟩
      go_wp2
      go_ret2
      exact ⟨⟨_, rfl⟩, rfl⟩
  · have hf : timeB lease = false := by simpa using ht
    clear h ht
    go_enter Try.func30, Try.ntmps30
    go_wp2_with fail
    refine (time_c lease _).mono ?_
    rintro e w1 ⟨rfl, rfl⟩
    go_wp2
    go_ret2
    exact ⟨⟨_, rfl⟩, rfl⟩

theorem lives_c (a b c now : Int) (w : World) (F : List Chunk) (hF : Own w F) :
    Calls Try.prog 36 #[.agg #[.int .u64 a, .int .u64 b, .int .u64 c], .int .u64 now] w fun e w' => e = .returned (.bool (decide (now < c))) ∧ Own w' F ∧ Ext w w' := by
  go_enter Try.func36, Try.ntmps36
  go_wp2
  go_ret
  exact ⟨rfl, (hF.alloc _).drop, (Ext.refl _).alloc _⟩

theorem drop1_c (a b c now : Int) (p : Nat) (w : World) (F : List Chunk) (hF : Own w F) (hp : w.cell? ⟨p, 0, none⟩ = some (.int .u64 now)) :
    Calls Try.prog 48 #[.agg #[.int .u64 a, .int .u64 b, .int .u64 c], .pointer (some ⟨p, 0, none⟩)] w fun e w' => e = .returned (.bool (!decide (now < c))) ∧ Own w' F ∧ Ext w w' := by
  have hlt := World.block_lt_of_cell? w _ hp
  go_enter Try.func48, Try.ntmps48
  go_wp2_with fail
  refine (lives_c a b c now _ F ((hF.alloc _).drop)).mono ?_
  rintro e w1 ⟨rfl, h1, e1⟩
  go_wp2
  go_ret
  exact ⟨rfl, h1, ((Ext.refl _).alloc _).trans e1⟩

theorem find1_c (a b c id : Int) (p : Nat) (w : World) (F : List Chunk) (hF : Own w F) (hp : w.cell? ⟨p, 0, none⟩ = some (.int .u64 id)) :
    Calls Try.prog 50 #[.agg #[.int .u64 a, .int .u64 b, .int .u64 c], .pointer (some ⟨p, 0, none⟩)] w fun e w' => e = .returned (.bool (a == id)) ∧ Own w' F ∧ Ext w w' := by
  have hlt := World.block_lt_of_cell? w _ hp
  go_enter Try.func50, Try.ntmps50
  go_wp2
  go_ret
  exact ⟨rfl, (hF.alloc _).drop, (Ext.refl _).alloc _⟩

theorem state1_c (a b c now : Int) (w : World) (F : List Chunk) (hF : Own w F) :
    Calls Try.prog 40 #[.agg #[.int .u64 a, .int .u64 b, .int .u64 c], .int .u64 now] w fun e w' => e = .returned (.bool true) ∧ Own w' F ∧ Ext w w' := by
  go_enter Try.func40, Try.ntmps40
  go_wp2
  go_ret
  exact ⟨rfl, (hF.alloc _).drop, (Ext.refl _).alloc _⟩

theorem reads1_c (a b c t now : Int) (p q : Nat) (w : World) (F : List Chunk) (hF : Own w F) (hp : w.cell? ⟨p, 0, none⟩ = some (.int .u64 t)) (hq : w.cell? ⟨q, 0, none⟩ = some (.int .u64 now)) :
    Calls Try.prog 46 #[.agg #[.int .u64 a, .int .u64 b, .int .u64 c], .pointer (some ⟨p, 0, none⟩), .pointer (some ⟨q, 0, none⟩)] w fun e w' => e = .returned (.bool (b == t && decide (now < c))) ∧ Own w' F ∧ Ext w w' := by
  have hlt := World.block_lt_of_cell? w _ hp
  have hlt2 := World.block_lt_of_cell? w _ hq
  by_cases hb : b = t
  · have hb' : (b == t) = true := by simpa using hb
    have H : Hid ((b == t && decide (now < c)) = decide (now < c)) := hid (by rw [hb', Bool.true_and])
    clear hb
    go_enter Try.func46, Try.ntmps46
    go_wp2_with fail
    refine (lives_c a b c now _ F ((hF.alloc _).drop)).mono ?_
    rintro e w1 ⟨rfl, h1, e1⟩
    go_wp2
    go_ret
    exact ⟨by first | rfl | (rw [H.out]; rfl), h1, ((Ext.refl _).alloc _).trans e1⟩
  · have hb' : (b == t) = false := by simpa using hb
    clear hb
    have H : Hid ((b == t && decide (now < c)) = false) := hid (by rw [hb', Bool.false_and])
    go_enter Try.func46, Try.ntmps46
    go_wp2
    go_ret
    exact ⟨by first | rfl | (rw [H.out]; rfl), (hF.alloc _).drop, (Ext.refl _).alloc _⟩
end Go.Proofs.Ytkgflckfphecjaa
