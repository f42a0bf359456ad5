/- Maps from numbers to bool, as sets of numbers. -/
import Derived.Test.YtdmdnhceiddcfaaProg
import Derived.Test.YtdmdnhceiddcfaaSlMap
import Derived.Maps.OwnSet
set_option linter.all false
namespace Go.Proofs.Ytdmdnhceiddcfaa
open Go.RowKit Go.Sl Go.Maps

theorem law64 : Keyed Try.prog 32 := int_keyed Try.underlying32
noncomputable abbrev RB : Value → Option (DataW Unit × List MemPlace) := plainElem Try.prog 4
theorem wf_n {x : Nat} (h : x ≤ 1099511627776) : (Lit.int .u64 x).wf = true := by
  simp [Lit.wf, IntKind.min, IntKind.max, IntKind.signed, IntKind.bits]
  omega
/-- A map's datum as a set of numbers. -/
structure SetB (D : DataW Unit) (L : List Nat) : Prop where
  map : IsMap D
  has : ∀ n : Nat, Maps.has D (.int .u64 n) = L.contains n
  at_ : ∀ n ∈ L, ∀ z, D.atKey (.int .u64 n) z = .lit (.bool true)
theorem SetB.start : SetB (.map []) [] := ⟨isMap_empty, fun _ => rfl, fun _ h => by cases h⟩
theorem SetB.push {D : DataW Unit} {L : List Nat} (h : SetB D L) (n : Nat) : SetB (D.put (.int .u64 n) (.lit (.bool true))) (n :: L) := by
  have hkey : WideAt.IsKeyLit (.int .u64 n) := trivial
  refine ⟨h.map.put _ _, fun q => ?_, fun y hy z => ?_⟩
  · rw [List.contains_cons]
    by_cases e : q = n
    · subst e
      rw [has_put_same h.map hkey]; simp
    · rw [has_put_other (by simpa using (fun h : (q : Int) = n => e (by omega))), h.has q]
      have : (q == n) = false := by simpa using e
      rw [this, Bool.false_or]
  · by_cases e : y = n
    · subst e; exact atKey_put_same h.map hkey _ _
    · rw [atKey_put_other (by simpa using (fun h : (y : Int) = n => e (by omega)))]
      rcases List.mem_cons.1 hy with h1 | h1
      · exact absurd h1 e
      · exact h.at_ y h1 z
/-- What is looked up. -/
theorem look_set {w : World} {F : List Chunk} {b : Nat} {es : Array MapEntry} {clk n : Nat} {D : DataW Unit} {L : List Nat} (o : Own w (pts b (.map es clk) :: F)) (m : MapIs Try.prog 32 RB es clk n D) (s : SetB D L) {x : Nat} (hx : x ≤ 1099511627776) :
    (Instr.lookup 61 (.map (some b)) (.int .u64 x) false).run Try.prog w = .ok (.bool (L.contains x)) w := by
  obtain ⟨v, ps, hrun, hv⟩ := (own_map o m).lookup law64 Try.underlying61 (z := .bool false) (by kernel_rfl) (plainElem_bool Try.underlying4 false) (keyOf_int_mk Try.underlying32 (wf_n hx))
  cases hc : L.contains x with
  | false =>
    rw [atKey_of_not_has (by rw [s.has, hc])] at hv
    have hb : v = .bool false := by
      cases v <;> simp [plainElem, Try.underlying4] at hv ⊢
      exact hv.1
    rw [hb] at hrun
    exact hrun
  | true =>
    rw [s.at_ x (by simpa using hc)] at hv
    have hb : v = .bool true := by
      cases v <;> simp [plainElem, Try.underlying4] at hv ⊢
      exact hv.1
    rw [hb] at hrun
    exact hrun
end Go.Proofs.Ytdmdnhceiddcfaa
