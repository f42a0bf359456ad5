/- The document's Same; the law's own. -/
import Derived.Test.YtkgflckfphecjaaRefA
import Derived.Deep.RegionLaw
import Derived.Deep.RegionHeld3
import Derived.Deep.QuietTactic
namespace Go.Proofs.Ytkgflckfphecjaa
open Go.RowKit Go.Sl Go.Scree

theorem same_no {a b : List Lease} (h : a.length ≠ b.length) : decide (a = b) = false := decide_eq_false (fun e => h (by rw [e]))
theorem same_at {a b : List Lease} {k : Nat} {x y : Lease} (hx : a[k]? = some x) (hy : b[k]? = some y) (h : x ≠ y) : decide (a = b) = false := decide_eq_false (fun e => h (by subst e; rw [hx] at hy; exact Option.some.inj hy))
theorem same_yes {a b : List Lease} (hl : a.length = b.length) (h : ∀ j, j < a.length → a[j]? = b[j]?) : decide (a = b) = true := decide_eq_true (List.ext_getElem? fun j => by
  by_cases hj : j < a.length
  · exact h j hj
  · rw [List.getElem?_eq_none (by omega), List.getElem?_eq_none (by omega)])

set_option maxHeartbeats 3200000 in
theorem xsame_c {D : List Chunk} (va vb : Value) (a b : List Lease) (ha : Gives D fun w => Rd w leaseE va a) (hb : Gives D fun w => Rd w leaseE vb b) (w : World) (F : List Chunk) (o : Own w (D ++ F)) :
    Calls Try.prog 26 #[va, vb] w fun e w' => e = .returned (.bool (decide (a = b))) ∧ Own w' (D ++ F) ∧ Ext w w' := by
  have haH := hid ha
  have hbH := hid hb
  obtain ⟨A1, c1, rfl, hm1, hc1⟩ := (ha w F o).form
  obtain ⟨A2, c2, rfl, hm2, hc2⟩ := (hb w F o).form
  have hl1 : a.length ≤ 9223372036854775807 := by simpa [maxLen] using hm1
  have hl2 : b.length ≤ 9223372036854775807 := by simpa [maxLen] using hm2
  have oH := hid o
  clear ha hb o hm1 hm2
  by_cases hl : a.length = b.length
  · have hbl : ((a.length : Int) != (b.length : Int)) = false := by rw [hl]; simp
    have hlH := hid hl
    clear hl
    go_enter Try.func26, Try.ntmps26
    go_wp2_with fail
    go_loopw [5] (fun i wr => ∃ k : Nat, i = .int .i64 k ∧ k ≤ a.length ∧ (∀ j, j < k → a[j]? = b[j]?) ∧ Own wr (D ++ F) ∧ Ext w wr) (fun i _ => a.length - (intOf i).toNat)
    case atStart => exact ⟨0, rfl, Nat.zero_le _, fun j hj => by omega, oH.out, Ext.refl _⟩
    case round =>
      obtain ⟨k, rfl, hk, heq, ok, ek⟩ := hrel
      have okH := hid ok
      have heqH := hid heq
      clear heq
      by_cases hlt : k < a.length
      · obtain ⟨x, hx⟩ : ∃ x, a[k]? = some x := ⟨_, List.getElem?_eq_getElem hlt⟩
        have hltb : k < b.length := by rw [← hlH.out]; exact hlt
        obtain ⟨y, hy⟩ : ∃ y, b[k]? = some y := ⟨_, List.getElem?_eq_getElem hltb⟩
        rcases haH.out wr F ok with ⟨_, hxs⟩ | ⟨g1, off1, cap1, hv1, _, _, hcell1⟩
        · rw [hxs] at hx; simp at hx
        obtain ⟨rfl, rfl⟩ : A1 = some ⟨g1, off1, none⟩ ∧ c1 = cap1 := by simpa using hv1
        rcases hbH.out wr F ok with ⟨_, hys⟩ | ⟨g2, off2, cap2, hv2, _, _, hcell2⟩
        · rw [hys] at hy; simp at hy
        obtain ⟨rfl, rfl⟩ : A2 = some ⟨g2, off2, none⟩ ∧ c2 = cap2 := by simpa using hv2
        obtain ⟨p0, p1, p2⟩ := rd_lease hcell1 hx
        obtain ⟨q0, q1, q2⟩ := rd_lease hcell2 hy
        have hxH := hid hx
        have hyH := hid hy
        clear hx hy ok hcell1 hcell2
        by_cases hxy : x = y
        · go_wp2_with fail
          go_quiet (fail)
          go_wp2_with fail
          go_roundw
          case rel => exact ⟨k + 1, by go_num, by omega, fun j hj => by
            rcases Nat.lt_or_ge j k with h' | h'
            · exact heqH.out j h'
            · obtain rfl : j = k := by omega
              rw [hxH.out, hyH.out, hxy], okH.out.drewN _, ek.drewN _⟩
          case measure => simp [intOf]; omega
        · have hne : ((x.id == y.id) = false) ∨ ((x.id == y.id) = true ∧ (x.time == y.time) = false) ∨ ((x.id == y.id) = true ∧ (x.time == y.time) = true ∧ (x.until_ == y.until_) = false) := by
            by_cases e1 : x.id = y.id
            · by_cases e2 : x.time = y.time
              · refine .inr (.inr ⟨by simpa using e1, by simpa using e2, ?_⟩)
                rw [beq_eq_false_iff_ne]
                intro e3
                cases x; cases y
                simp only at e1 e2 e3
                subst e1; subst e2; subst e3
                exact hxy rfl
              · exact .inr (.inl ⟨by simpa using e1, by simpa using e2⟩)
            · exact .inl (by simpa using e1)
          have hno : Hid (decide (a = b) = false) := hid (same_at hxH.out hyH.out hxy)
          clear hxy
          rcases hne with n1 | ⟨n1, n2⟩ | ⟨n1, n2, n3⟩
          all_goals
            go_wp2_with fail
            go_quiet (fail)
            go_wp2_with fail
            go_ret
            exact ⟨by rw [hno.out]; rfl, okH.out.drewN _, ek.drewN _⟩
      · go_wp2
        go_ret
        exact ⟨by rw [same_yes hlH.out (fun j hj => heqH.out j (by omega))]; rfl, okH.out, ek⟩
  · have hbl : ((a.length : Int) != (b.length : Int)) = true := by rw [bne_iff_ne]; omega
    rw [same_no hl]
    clear hl
    go_enter Try.func26, Try.ntmps26
    go_wp2
    go_ret
    exact ⟨rfl, oH.out, Ext.refl _⟩
end Go.Proofs.Ytkgflckfphecjaa
