/- Directories in memory: a map from names to files; what is looked up, stored, deleted, counted. -/
import Derived.Test.YtfdpoocdfbdhpaaGreatDoorProg
import Derived.Test.YtfdpoocdfbdhpaaGreatDoorSlMap
import Derived.Test.YtfdpoocdfbdhpaaGreatDoorSle
import Derived.Test.YtfdpoocdfbdhpaaGreatDoorFsM
import Derived.Maps.OwnSet
import Derived.Maps.Views
import Derived.Maps.RangeWalk
import Derived.StringKeys
set_option linter.all false
namespace Go.Proofs.YtfdpoocdfbdhpaaGreatDoor
open Go.RowKit Go.Sl Go.Scree Go.Maps

theorem bool_cases (b : Bool) : b = true ∨ b = false := by cases b <;> simp
def ptrV : Option Nat → Value
  | none => .pointer none
  | some b => .pointer (some ⟨b, 0, none⟩)
def encP (b : Nat) : DataW Unit := .lit (.int .i64 b)
def RP (v : Value) : Option (DataW Unit × List MemPlace) :=
  match v with
  | .pointer none => some (.nil, [])
  | .pointer (some ⟨b, 0, none⟩) => some (encP b, [])
  | _ => none
theorem RP_some (b : Nat) : RP (.pointer (some ⟨b, 0, none⟩)) = some (encP b, []) := rfl
theorem RP_none : RP (.pointer none) = some (.nil, []) := rfl
theorem RP_shape {v : Value} {y : DataW Unit × List MemPlace} (h : RP v = some y) : ∃ c, v = ptrV c := by
  unfold RP at h
  split at h
  · exact ⟨none, rfl⟩
  · exact ⟨some _, rfl⟩
  · cases h
theorem RP_inv {v : Value} {b : Nat} {ps : List MemPlace} (h : RP v = some (encP b, ps)) : v = .pointer (some ⟨b, 0, none⟩) := by
  unfold RP at h
  split at h
  · simp [encP] at h
  · simp only [encP, Option.some.injEq, Prod.mk.injEq, DataW.lit.injEq, Lit.int.injEq, true_and] at h
    obtain ⟨h, _⟩ := h
    rw [Int.ofNat.inj h]
  · cases h
theorem RP_nil {v : Value} {ps : List MemPlace} (h : RP v = some (.nil, ps)) : v = .pointer none := by
  unfold RP at h
  split at h
  · rfl
  · simp [encP] at h
  · cases h

def keyK (k : ByteArray) : Lit := .string k.data.toList
theorem ba_inj {a b : ByteArray} (h : a.data.toList = b.data.toList) : a = b := by
  cases a; cases b
  simp only [ByteArray.mk.injEq]
  exact Array.toList_inj.1 h
theorem keyK_inj {a b : ByteArray} (h : keyK a = keyK b) : a = b := by
  simp only [keyK, Lit.string.injEq] at h
  exact ba_inj h
theorem keyK_is (k : ByteArray) : WideAt.IsKeyLit (keyK k) := trivial
theorem lawS : Keyed Tryz.prog 9 := string_keyed Tryz.underlying9
theorem key_of {k : ByteArray} (h : k.size ≤ maxLen) : keyOf Tryz.prog 9 (.string k) = some (keyK k) := WideMaps.keyOf_string_mk Tryz.underlying9 h
theorem zeroP (w : World) : (zeroValue 90).run Tryz.prog w = .ok (.pointer none) w := by
  have h : (Tryz.prog.info? 90).map (fun i => i.zero) = some (some (.pointer none)) := by kernel_rfl
  obtain ⟨i, hi, hz⟩ : ∃ i, Tryz.prog.info? 90 = some i ∧ i.zero = some (.pointer none) := by
    cases hi : Tryz.prog.info? 90 with
    | none => rw [hi] at h; cases h
    | some i => rw [hi] at h; exact ⟨i, rfl, Option.some.inj h⟩
  simp [zeroValue, typeInfo, hi, hz]

/-- A map's datum is a directory. -/
structure IsDir (D : DataW Unit) (d : Dir Nat) : Prop where
  has : ∀ k, Maps.has D (keyK k) = (dget d k).isSome
  at_ : ∀ k b z, dget d k = some b → D.atKey (keyK k) z = encP b
  size : Maps.size D = d.length
theorem IsDir.start : IsDir (.map []) [] := ⟨fun _ => rfl, fun _ _ _ h => by simp [dget] at h, rfl⟩
theorem IsDir.put {D : DataW Unit} {d : Dir Nat} (h : IsDir D d) (ht : Tidy D) (hd : DirOk d) (k : ByteArray) (b : Nat) : IsDir (D.put (keyK k) (encP b)) (dput d k b) := by
  refine ⟨fun q => ?_, fun q c z hq => ?_, ?_⟩
  · by_cases e : q = k
    · subst e; rw [has_put_same ht.isMap (keyK_is _), dget_put_same]; rfl
    · rw [has_put_other (fun he => e (keyK_inj he)), dget_put_other _ _ e, h.has]
  · by_cases e : q = k
    · subst e
      rw [dget_put_same] at hq
      obtain rfl := Option.some.inj hq
      exact atKey_put_same ht.isMap (keyK_is _) _ _
    · rw [dget_put_other _ _ e] at hq
      rw [atKey_put_other (fun he => e (keyK_inj he))]
      exact h.at_ q c z hq
  · rw [size_put ht, h.has, dput_len d hd, h.size]
theorem IsDir.del {D : DataW Unit} {d : Dir Nat} (h : IsDir D d) (ht : Tidy D) (hd : DirOk d) (k : ByteArray) : IsDir (D.del (keyK k)) (ddel d k) := by
  refine ⟨fun q => ?_, fun q c z hq => ?_, ?_⟩
  · by_cases e : q = k
    · subst e; rw [has_del_same, dget_del_same hd]; rfl
    · rw [has_del_other (fun he => e (keyK_inj he)), dget_del_other _ e, h.has]
  · by_cases e : q = k
    · subst e; rw [dget_del_same hd] at hq; cases hq
    · rw [dget_del_other _ e] at hq
      rw [atKey_del_other (fun he => e (keyK_inj he))]
      exact h.at_ q c z hq
  · have h1 := size_del (k := keyK k) ht
    have h2 := ddel_len d k
    rw [h.has, h.size] at h1
    omega

abbrev PMap (es : Array MapEntry) (clk n : Nat) (D : DataW Unit) : Prop := MapIs Tryz.prog 9 RP es clk n D
/-- A directory's block. -/
def mapC (b : Nat) (d : Dir Nat) : Chunk := ex fun x : Array MapEntry × Nat × DataW Unit => fact (PMap x.1 x.2.1 d.length x.2.2 ∧ IsDir x.2.2 d ∧ DirOk d) (pts b (.map x.1 x.2.1))
section
variable {w w' : World} {F : List Chunk} {b : Nat} {d : Dir Nat}
theorem mapC_open (o : Own w (mapC b d :: F)) : ∃ es clk D, PMap es clk d.length D ∧ IsDir D d ∧ DirOk d ∧ Own w (pts b (.map es clk) :: F) := by
  obtain ⟨⟨es, clk, D⟩, o⟩ := o.open
  obtain ⟨⟨h1, h2, h3⟩, o⟩ := o.fact
  exact ⟨es, clk, D, h1, h2, h3, o⟩
theorem mapC_close {es : Array MapEntry} {clk n : Nat} {D : DataW Unit} (o : Own w (pts b (.map es clk) :: F)) (h : PMap es clk n D) (hd : IsDir D d) (ho : DirOk d) : Own w (mapC b d :: F) := by
  refine Own.close (es, clk, D) (Own.pure ⟨⟨h.1, ?_, h.2.2⟩, hd, ho⟩ o)
  have := hd.size
  rw [h.2.2] at this
  simp only [size_eq, length_sorted, List.length_map, Array.length_toList] at this
  rw [← this]; exact Nat.le_refl _
theorem mapC_own (o : Own w (mapC b d :: F)) : ∃ D, w.ownsMap Tryz.prog 9 RP b d.length D ∧ IsDir D d ∧ DirOk d := by
  obtain ⟨es, clk, D, h1, h2, h3, o⟩ := mapC_open o
  exact ⟨D, own_map o h1, h2, h3⟩
theorem mapC_ok (o : Own w (mapC b d :: F)) : DirOk d := (mapC_own o).choose_spec.2.2
theorem mapC_lt (o : Own w (mapC b d :: F)) : b < w.heap.size := (mapC_own o).choose_spec.1.lt
theorem mapC_turn {n : Nat} {D : DataW Unit} {d' : Dir Nat} (o : Own w (mapC b d :: F)) (h : w'.ownsMap Tryz.prog 9 RP b n D) (g : w.grownBy w' (some b)) (hd : IsDir D d') (ho : DirOk d') : Own w' (mapC b d' :: F) := by
  obtain ⟨es, clk, D0, h1, h2, h3, o⟩ := mapC_open o
  obtain ⟨es', clk', m, o'⟩ := map_turn o h g
  exact mapC_close o' m hd ho
theorem mapC_made (o : Own w F) : Own (w.alloc (.map #[] 0)) (mapC w.heap.size [] :: F) := by
  obtain ⟨m, o⟩ := map_made (P := Tryz.prog) (k := 9) (R := RP) o
  exact mapC_close o m IsDir.start List.Pairwise.nil

theorem look_some (o : Own w (mapC b d :: F)) {k : ByteArray} {p : Nat} (hk : k.size ≤ maxLen) (h : dget d k = some p) : (Instr.lookup 80 (.map (some b)) (.string k) true).run Tryz.prog w = .ok (.tuple #[.pointer (some ⟨p, 0, none⟩), .bool true]) w := by
  obtain ⟨D, hw, hD, _⟩ := mapC_own o
  obtain ⟨v, ps, hrun, hv⟩ := hw.look_ok lawS Tryz.underlying80 (zeroP w) RP_none (key_of hk)
  rw [hD.at_ k p _ h] at hv
  rw [hrun, RP_inv hv, hD.has, h]; rfl
theorem look_none (o : Own w (mapC b d :: F)) {k : ByteArray} (hk : k.size ≤ maxLen) (h : dget d k = none) : (Instr.lookup 80 (.map (some b)) (.string k) true).run Tryz.prog w = .ok (.tuple #[.pointer none, .bool false]) w := by
  obtain ⟨D, hw, hD, _⟩ := mapC_own o
  obtain ⟨v, ps, hrun, hv⟩ := hw.look_ok lawS Tryz.underlying80 (zeroP w) RP_none (key_of hk)
  have hh : Maps.has D (keyK k) = false := by rw [hD.has, h]; rfl
  rw [atKey_of_not_has hh] at hv
  rw [hrun, RP_nil hv, hh]
theorem look_one (o : Own w (mapC b d :: F)) {k : ByteArray} {p : Nat} (hk : k.size ≤ maxLen) (h : dget d k = some p) : (Instr.lookup 80 (.map (some b)) (.string k) false).run Tryz.prog w = .ok (.pointer (some ⟨p, 0, none⟩)) w := by
  obtain ⟨D, hw, hD, _⟩ := mapC_own o
  obtain ⟨v, ps, hrun, hv⟩ := hw.lookup lawS Tryz.underlying80 (zeroP w) RP_none (key_of hk)
  rw [hD.at_ k p _ h] at hv
  rw [hrun, RP_inv hv]
theorem dir_len (o : Own w (mapC b d :: F)) (ty : TypeId) : (Builtin.len_ #[80] ty #[.map (some b)]).run Tryz.prog w = .ok (.int .i64 d.length) w := by
  obtain ⟨D, hw, hD, _⟩ := mapC_own o
  rw [hw.len Tryz.underlying80 ty, hD.size]
theorem dir_store (o : Own w (mapC b d :: F)) {k : ByteArray} (p : Nat) (hk : k.size ≤ maxLen) (hn : d.length < maxLen) :
    ∃ w', (Instr.mapUpdate 80 (.map (some b)) (.string k) (.pointer (some ⟨p, 0, none⟩))).run Tryz.prog w = .ok () w' ∧ Own w' (mapC b (dput d k p) :: F) ∧ Ext w w' := by
  obtain ⟨D, hw, hD, hok⟩ := mapC_own o
  obtain ⟨w', hrun, h2, g⟩ := hw.update lawS Tryz.underlying80 hn (key_of hk) (RP_some p)
  exact ⟨w', hrun, mapC_turn o h2 g (hD.put (hw.tidy lawS) hok k p) (hok.put k p), ext_grown g⟩
theorem dir_drop (o : Own w (mapC b d :: F)) {k : ByteArray} (hk : k.size ≤ maxLen) (ty : TypeId) :
    ∃ w', (Builtin.delete_ #[80, 9] ty #[.map (some b), .string k]).run Tryz.prog w = .ok (.tuple #[]) w' ∧ Own w' (mapC b (ddel d k) :: F) ∧ Ext w w' := by
  obtain ⟨D, hw, hD, hok⟩ := mapC_own o
  obtain ⟨w', hrun, h2, t⟩ := hw.drop lawS Tryz.underlying80 (key_of hk) ty
  exact ⟨w', hrun, mapC_turn o h2 t.grown (hD.del (hw.tidy lawS) hok k) (hok.del k), ext_grown t.grown⟩

theorem wpList_dput {ops : Array Oper} {rest : List Oper} {q : Oper} {a : Act} {Q : Exit → Act → World → Prop} (hg : q.guard = none) (m x v : Operand) (hop : q.op = Op.mapUpdate 80 m x v) {k : ByteArray} {p : Nat}
    (hm : a.eval m = .map (some b)) (hx : a.eval x = .string k) (hv : a.eval v = .pointer (some ⟨p, 0, none⟩)) (o : Own w (mapC b d :: F)) (hk : k.size ≤ maxLen) (hn : d.length < maxLen)
    (hK : ∀ w', Own w' (mapC b (dput d k p) :: F) → Ext w w' → wpList Tryz.prog ops Q rest (a.put q.dst undef) w') : wpList Tryz.prog ops Q (q :: rest) a w := by
  refine wpList_plain hg fun K' hK' => ?_
  obtain ⟨w', hrun, r1, r2⟩ := dir_store o p hk hn
  unfold Oper.wp
  simp [execOp, hop, hm, hx, hv, hrun, Result.andThen]
  exact hK' _ _ (hK w' r1 r2)
theorem wpList_ddel {ops : Array Oper} {rest : List Oper} {q : Oper} {a : Act} {Q : Exit → Act → World → Prop} (hg : q.guard = none) (m x : Operand) (hop : q.op = Op.call { callee := Callee.builtin Builtin.delete, args := #[m, x], argTypes := #[80, 9] }) {k : ByteArray}
    (hm : a.eval m = .map (some b)) (hx : a.eval x = .string k) (o : Own w (mapC b d :: F)) (hk : k.size ≤ maxLen)
    (hK : ∀ w', Own w' (mapC b (ddel d k) :: F) → Ext w w' → wpList Tryz.prog ops Q rest (a.put q.dst (.tuple #[])) w') : wpList Tryz.prog ops Q (q :: rest) a w := by
  refine wpList_plain hg fun K' hK' => ?_
  obtain ⟨w', hrun, r1, r2⟩ := dir_drop o hk q.type
  unfold Oper.wp
  simp [execOp, hop, resolve, invoke, builtin, hm, hx, hrun, Result.andThen]
  exact hK' _ _ (hK w' r1 r2)
end
end Go.Proofs.YtfdpoocdfbdhpaaGreatDoor
