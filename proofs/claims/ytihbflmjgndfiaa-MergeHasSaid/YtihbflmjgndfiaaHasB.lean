/- The map that MergeHas fills: what it holds. -/
import Derived.Test.YtihbflmjgndfiaaHasA
import Derived.Test.YtihbflmjgndfiaaEntQc
import Derived.Test.YtihbflmjgndfiaaEntOz
namespace Go.Proofs.Ytihbflmjgndfiaa
open Go.RowKit Go.Sl Go.Scree Go.Maps

theorem _root_.Go.Scree.Ent.Wz.id {x : Ent} (h : x.Wz) : x.key.size ≤ maxLen ∧ (Lit.int .u64 x.seq).wf = true := ⟨h.2.1, h.1⟩
structure HasD (D : DataW Unit) (L : List Ent) : Prop where
  wz : ∀ y ∈ L, y.Wz
  has : ∀ x : Ent, x.Wz → Maps.has D (idL x) = L.any (fun y => sameB y x)
  at_ : ∀ y z, FirstIn L y → D.atKey (idL y) z = encE y
  size : Maps.size D = (L.foldl withE []).length
theorem HasD.start : HasD (.map []) [] := ⟨by simp, fun x _ => rfl, fun y z h => by have := firstIn_mem h; simp at this, rfl⟩
theorem fold_facts (L : List Ent) : Row (L.foldl withE []) ∧ ∀ x, x ∈ L.foldl withE [] ↔ FirstIn L x := by
  have := fold_with L [] [] List.Pairwise.nil (fun x => by simp [FirstIn]) (by simp)
  simpa using this
theorem withE_len_has {l : List Ent} {z : Ent} (hr : Row l) : (withE l z).length = if l.any (fun y => sameB y z) = true then l.length else l.length + 1 := by
  induction l with
  | nil => simp [withE]
  | cons y r ih =>
    have hr' := List.pairwise_cons.1 hr
    unfold withE
    by_cases h1 : aheadB y z = true
    · rw [if_pos h1, List.length_cons, ih hr'.2]
      simp only [List.any_cons, ahead_not_same h1, Bool.false_or, List.length_cons]
      split <;> rfl
    · rw [if_neg h1]
      by_cases h2 : sameB y z = true
      · rw [if_pos h2]; simp [h2]
      · rw [if_neg h2]
        have hzy : aheadB z y = true := by
          rcases ahead_tri y z with k | k | k
          · exact absurd k h1
          · exact absurd k h2
          · exact k
        have hn : (y :: r).any (fun u => sameB u z) = false := by
          rw [List.any_eq_false]
          intro u hu hs
          have hzu : aheadB z u = true := by
            rcases List.mem_cons.1 hu with rfl | hu
            · exact hzy
            · exact aheadB_trans hzy (hr'.1 u hu)
          have := ahead_not_same hzu
          rw [same_symm hs] at this; cases this
        rw [if_neg (by rw [hn]; simp)]; simp
theorem fold_any (L : List Ent) (x : Ent) : (L.foldl withE []).any (fun y => sameB y x) = L.any (fun y => sameB y x) := by
  have hf := (fold_facts L).2
  cases e : L.any (fun y => sameB y x) with
  | false =>
    rw [List.any_eq_false] at e ⊢
    exact fun y hy => e y (firstIn_mem ((hf y).1 hy))
  | true =>
    obtain ⟨y, hy, hs⟩ := List.any_eq_true.1 e
    obtain ⟨u, hu, hu2⟩ := firstIn_cover hy
    exact List.any_eq_true.2 ⟨u, (hf u).2 hu, same_trans hu2 hs⟩
theorem HasD.skip {D : DataW Unit} {L : List Ent} {x : Ent} (h : HasD D L) (hx : x.Wz) (ha : L.any (fun y => sameB y x) = true) : HasD D (L ++ [x]) := by
  refine ⟨fun y hy => (List.mem_append.1 hy).elim (h.wz y) (fun hy => by rw [List.mem_singleton.1 hy]; exact hx), fun q hq => ?_, fun y z hy => ?_, ?_⟩
  · rw [h.has q hq, List.any_append]
    cases e : sameB x q with
    | false => simp [e]
    | true =>
      obtain ⟨u, hu, hs⟩ := List.any_eq_true.1 ha
      have : L.any (fun y => sameB y q) = true := List.any_eq_true.2 ⟨u, hu, same_trans hs e⟩
      simp [this]
  · rcases firstIn_snoc.1 hy with hy | ⟨rfl, hn⟩
    · exact h.at_ y z hy
    · obtain ⟨u, hu, hs⟩ := List.any_eq_true.1 ha
      rw [hn u hu] at hs; cases hs
  · rw [List.foldl_append, List.foldl_cons, List.foldl_nil, withE_len_has (fold_facts L).1, fold_any, if_pos ha, h.size]
theorem HasD.push {D : DataW Unit} {L : List Ent} {x : Ent} (h : HasD D L) (ht : Tidy D) (hx : x.Wz) (ha : L.any (fun y => sameB y x) = false) : HasD (D.put (idL x) (encE x)) (L ++ [x]) := by
  have hn : ∀ y ∈ L, sameB y x = false := by
    rw [List.any_eq_false] at ha
    exact fun y hy => by simpa using ha y hy
  have hkey : WideAt.IsKeyLit (idL x) := trivial
  refine ⟨fun y hy => (List.mem_append.1 hy).elim (h.wz y) (fun hy => by rw [List.mem_singleton.1 hy]; exact hx), fun q hq => ?_, fun y z hy => ?_, ?_⟩
  · rw [List.any_append]
    cases e : sameB x q with
    | true =>
      rw [← idL_same e, has_put_same ht.isMap hkey]; simp [e]
    | false =>
      rw [has_put_other (fun he => by have := idL_inj hq.id hx.id he; rw [same_symm this] at e; cases e), h.has q hq]
      simp [e]
  · rcases firstIn_snoc.1 hy with hy | ⟨rfl, _⟩
    · have hym := firstIn_mem hy
      rw [atKey_put_other (fun he => by have := idL_inj (h.wz y hym).id hx.id he; rw [hn y hym] at this; cases this)]
      exact h.at_ y z hy
    · exact atKey_put_same ht.isMap hkey _ _
  · rw [size_put ht, h.has x hx, ha, List.foldl_append, List.foldl_cons, List.foldl_nil, withE_len_has (fold_facts L).1, fold_any, ha, h.size]
theorem zero31 (w : World) : (zeroValue 31).run Try.prog w = .ok (entV zeroEnt) w := by
  obtain ⟨i, hi, hz, _, _⟩ := info_parts infoEnt
  simp [zeroValue, typeInfo, hi, hz, entV, zeroEnt]
abbrev HMap (es : Array MapEntry) (clk n : Nat) (D : DataW Unit) : Prop := MapIs Try.prog 42 RE es clk n D
theorem look_has {w : World} {F : List Chunk} {b : Nat} {es : Array MapEntry} {clk n : Nat} {D : DataW Unit} {L : List Ent} (o : Own w (pts b (.map es clk) :: F)) (m : HMap es clk n D) (hD : HasD D L) {x : Ent} (hx : x.Wz) :
    ∃ y : Ent, (Instr.lookup 40 (.map (some b)) (idV x) true).run Try.prog w = .ok (.tuple #[entV y, .bool (L.any fun y => sameB y x)]) w := by
  obtain ⟨v, ps, hrun, hv⟩ := (own_map o m).look_ok lawI Try.underlying40 (zero31 w) (RE_ent zeroEnt) (id_key x hx.id.1 hx.id.2)
  rw [hD.has x hx] at hrun
  cases ha : L.any (fun y => sameB y x) with
  | true =>
    obtain ⟨u, hu, hs⟩ := List.any_eq_true.1 ha
    obtain ⟨y, hy, hys⟩ := firstIn_cover hu
    rw [← idL_same (same_trans hys hs), hD.at_ y _ hy] at hv
    exact ⟨y, by rw [hrun, ha, RE_inv hv]⟩
  | false =>
    rw [atKey_of_not_has (by rw [hD.has x hx]; exact ha)] at hv
    exact ⟨zeroEnt, by rw [hrun, ha, RE_inv hv]⟩
theorem look_first {w : World} {F : List Chunk} {b : Nat} {es : Array MapEntry} {clk n : Nat} {D : DataW Unit} {L : List Ent} (o : Own w (pts b (.map es clk) :: F)) (m : HMap es clk n D) (hD : HasD D L) {x : Ent} (hx : FirstIn L x) :
    (Instr.lookup 40 (.map (some b)) (idV x) false).run Try.prog w = .ok (entV x) w := by
  have hxz := hD.wz x (firstIn_mem hx)
  obtain ⟨v, ps, hrun, hv⟩ := (own_map o m).lookup lawI Try.underlying40 (zero31 w) (RE_ent zeroEnt) (id_key x hxz.id.1 hxz.id.2)
  rw [hD.at_ x _ hx] at hv
  rw [hrun, RE_inv hv]
end Go.Proofs.Ytihbflmjgndfiaa
