/- A version that is being made; tables go. -/
import Derived.Test.YtdmdnhceiddcfaaGreatLvlE
import Derived.Test.YtdmdnhceiddcfaaGreatLvlZ
set_option linter.all false
namespace Go.Proofs.YtdmdnhceiddcfaaGreat
open Go.RowKit Go.Sl Go.Scree

def upd {α : Type} (f : Nat → α) (l : Nat) (x : α) : Nat → α := fun i => if i = l then x else f i
theorem upd_at {α : Type} (f : Nat → α) (l : Nat) (x : α) : upd f l x l = x := if_pos rfl
theorem upd_ne {α : Type} (f : Nat → α) {l i : Nat} (x : α) (h : i ≠ l) : upd f l x i = f i := if_neg h
def verCells (S : Nat → SlA) (V : VerM) : Array Value := #[.slice (S 0).A (S 0).n (S 0).c, .slice (S 1).A (S 1).n (S 1).c, .slice (S 2).A (S 2).n (S 2).c, .slice (S 3).A (S 3).n (S 3).c, .int .u64 V.next, .int .u64 V.log, .int .u64 V.seq]
def verC (p : Nat) (S : Nat → SlA) (V : VerM) : Chunk := pts p (.cells (verCells S V) 61 (0, 0))
theorem ver_at (S : Nat → SlA) (V : VerM) {l : Nat} (h : l < 4) : (verCells S V)[l]? = some (.slice (S l).A (S l).n (S l).c) := by
  rcases (by omega : l = 0 ∨ l = 1 ∨ l = 2 ∨ l = 3) with rfl | rfl | rfl | rfl <;> rfl
theorem ver_set (S : Nat → SlA) (V : VerM) (lv : Lvls) {l : Nat} (h : l < 4) (s : SlA) : (verCells S V).setIfInBounds l (.slice s.A s.n s.c) = verCells (upd S l s) { V with lv := lv } := by
  rcases (by omega : l = 0 ∨ l = 1 ∨ l = 2 ∨ l = 3) with rfl | rfl | rfl | rfl <;> rfl
/-- A version's own block, beside what its levels lie in. -/
structure VerO (w W0 : World) (p : Nat) (S : Nat → SlA) (V : VerM) (D : List Chunk) : Prop where
  own : Own w (verC p S V :: (D ++ [base W0 W0.heap.size]))
  rd : ∀ l, l < 4 → Gives (D ++ [base W0 W0.heap.size]) fun w => Rd w metaE (S l).v (V.lv l)
  few : ∀ l, l < 4 → (V.lv l).length ≤ 20000
  ext : Ext W0 w
theorem VerO.base {w W0 : World} {p : Nat} {S : Nat → SlA} {V : VerM} {D : List Chunk} (h : VerO w W0 p S V D) : Kp W0 w := kp_of (cs := verC p S V :: D) h.own h.ext
theorem VerO.rdAt {w W0 : World} {p : Nat} {S : Nat → SlA} {V : VerM} {D : List Chunk} (h : VerO w W0 p S V D) {l : Nat} (hl : l < 4) : Rd w metaE (S l).v (V.lv l) :=
  h.rd l hl w [] (by rw [List.append_nil]; exact h.own.drop)
theorem VerO.ver {w W0 : World} {p : Nat} {S : Nat → SlA} {V : VerM} {D : List Chunk} (h : VerO w W0 p S V D) : VerR w p S V :=
  ⟨fun l hl => h.own.cell (ver_at S V hl), h.own.cell (i := 4) rfl, h.own.cell (i := 5) rfl, h.own.cell (i := 6) rfl, fun l hl => h.rdAt hl, h.few⟩
theorem VerO.kp {w w' W0 : World} {p : Nat} {S : Nat → SlA} {V : VerM} {D : List Chunk} (h : VerO w W0 p S V D) (k : Kp w w') : VerO w' W0 p S V D := ⟨k.own h.own, h.rd, h.few, h.ext.trans k.ext⟩
/-- All four levels lie in what is owned. -/
def AllG (D : List Chunk) (S : Nat → SlA) (lv : Lvls) : Prop := ∀ l, l < 4 → Gives D fun w => Rd w metaE (S l).v (lv l)
theorem Gives.more {D : List Chunk} {φ : World → Prop} (h : Gives D φ) (c : Chunk) : Gives (c :: D) φ := fun w F o => h w F (Own.drop o)
theorem AllG.more {D : List Chunk} {S : Nat → SlA} {lv : Lvls} (h : AllG D S lv) (c : Chunk) : AllG (c :: D) S lv := fun l hl => Gives.more (h l hl) c
/-- A level turns: a slice that is owned stands in its place. -/
theorem VerO.turn {w W0 : World} {p : Nat} {S : Nat → SlA} {V : VerM} {D : List Chunk} (h : VerO w W0 p S V D) {w1 : World} {l : Nat} (hl : l < 4) {s : SlA} {xs : List MetaM} (k : Kp w w1) (o : Own w1 [sl 43 metaE s.v xs, Sl.base w w.heap.size]) (hx : xs.length ≤ 20000) :
    VerO (w1.setCell ⟨p, l, none⟩ (.slice s.A s.n s.c)) W0 p (upd S l s) { V with lv := upd V.lv l xs } (sl 43 metaE s.v xs :: D) := by
  have o1 := rebase1 o h.own
  have o2 := (o1.swap).set (i := l) (.slice s.A s.n s.c)
  refine ⟨?_, fun i hi => ?_, fun i hi => ?_, (h.ext.trans k.ext).set _ _⟩
  · unfold verC
    rw [← ver_set S V (upd V.lv l xs) hl s]
    exact o2
  · by_cases e : i = l
    · subst e
      show Gives _ fun w => Rd w metaE (upd S i s i).v (upd V.lv i xs i)
      rw [upd_at, upd_at]
      exact fun w F o => sl_rd o
    · show Gives _ fun w => Rd w metaE (upd S l s i).v (upd V.lv l xs i)
      rw [upd_ne _ _ e, upd_ne _ _ e]
      exact Gives.more (h.rd i hi) _
  · show (upd V.lv l xs i).length ≤ 20000
    by_cases e : i = l
    · subst e; rw [upd_at]; exact hx
    · rw [upd_ne _ _ e]; exact h.few i hi

theorem without1_c (w : World) (q n : Nat) (hc : w.cell? ⟨q, 0, none⟩ = some (.int .u64 n)) : Tells w 50 #[.pointer (some ⟨q, 0, none⟩)] (fun m => m.file == n) := by
  refine ⟨enters_of Tryz.func50 (by kernel_rfl) rfl, fun x w' k => ?_⟩
  have c1 := k.cell hc
  have hq : q < w'.heap.size := World.block_lt_of_cell? w' _ c1
  have kH := hid ((Kp.refl w').alloc (.cells #[.int .u64 x.file, .int .i64 x.size, .string x.first, .string x.last, .int .u64 x.seq] 43 (0, 0)))
  obtain ⟨xf, xz, xa, xb, xq⟩ := x
  unfold metaV
  dsimp only at kH ⊢
  clear k hc
  by_cases e : xf = n
  · subst e
    have eb : ((xf : Int) == (xf : Int)) = true := by simp
    have e2 : Hid ((xf == xf) = true) := hid (by simp)
    go_enter Tryz.func50, Tryz.ntmps50
    go_wp2_with fail
    go_ret
    exact ⟨by rw [e2.out]; rfl, kH.out⟩
  · have eb : ((xf : Int) == (n : Int)) = false := by rw [beq_eq_false_iff_ne]; omega
    have e2 : Hid ((xf == n) = false) := hid (by rw [beq_eq_false_iff_ne]; exact e)
    clear e
    go_enter Tryz.func50, Tryz.ntmps50
    go_wp2_with fail
    go_ret
    exact ⟨by rw [e2.out]; rfl, kH.out⟩
/-- In a row where each number is once, the place of one is all that goes. -/
theorem erase_filter {xs : List MetaM} {n k : Nat} {x : MetaM} (hn : (xs.map (·.file)).Nodup) (hx : xs[k]? = some x) (he : x.file = n) : xs.eraseIdx k = xs.filter fun m => m.file != n := by
  obtain ⟨hk, rfl⟩ := List.getElem?_eq_some_iff.1 hx
  rw [List.eraseIdx_eq_take_drop_succ]
  have hs : xs = xs.take k ++ (xs[k] :: xs.drop (k + 1)) := by rw [← List.drop_eq_getElem_cons hk, List.take_append_drop]
  have hne : ∀ m ∈ xs.take k ++ xs.drop (k + 1), (m.file != n) = true := by
    intro m hm
    have h2 : (xs.take k ++ (xs[k] :: xs.drop (k + 1))).map (·.file) = xs.map (·.file) := by rw [← hs]
    rw [← h2, List.map_append, List.map_cons, List.nodup_append, List.nodup_cons] at hn
    obtain ⟨_, ⟨h3, _⟩, h4⟩ := hn
    rw [bne_iff_ne]
    rintro e
    rcases List.mem_append.1 hm with h | h
    · exact h4 _ (List.mem_map_of_mem h) _ (by simp) (e.trans he.symm)
    · exact h3 (by rw [he, ← e]; exact List.mem_map_of_mem h)
  conv => rhs; rw [hs]
  rw [List.filter_append, List.filter_cons, if_neg (by simp [he]), ← List.filter_append]
  exact (List.filter_eq_self.2 hne).symm
theorem filter_none {xs : List MetaM} {n : Nat} (h : ∀ y ∈ xs, (y.file == n) = false) : xs.filter (fun m => m.file != n) = xs :=
  List.filter_eq_self.2 fun y hy => by simp [bne, h y hy]
/-- So many levels are rid of a number. -/
def ridL (lv : Lvls) (n k : Nat) : Lvls := fun l => if l < k then (lv l).filter fun m => m.file != n else lv l
theorem rid_zero (lv : Lvls) (n : Nat) : ridL lv n 0 = lv := rfl
theorem rid_four (lv : Lvls) (n : Nat) {l : Nat} (h : l < 4) : ridL lv n 4 l = (lv l).filter fun m => m.file != n := if_pos h
theorem rid_at (lv : Lvls) (n l : Nat) : ridL lv n l l = lv l := if_neg (by omega)
theorem rid_upd (lv : Lvls) (n l : Nat) : upd (ridL lv n l) l ((lv l).filter fun m => m.file != n) = ridL lv n (l + 1) := by
  funext i
  unfold upd ridL
  by_cases h : i = l
  · subst h; rw [if_pos rfl, if_pos (by omega)]
  · rw [if_neg h]
    by_cases h2 : i < l
    · rw [if_pos h2, if_pos (by omega)]
    · rw [if_neg h2, if_neg (by omega)]
theorem rid_same {lv : Lvls} {n l : Nat} (h : ∀ y ∈ lv l, (y.file == n) = false) : ridL lv n l = ridL lv n (l + 1) := by
  rw [← rid_upd, filter_none h]
  funext i
  unfold upd
  by_cases e : i = l
  · subst e; rw [if_pos rfl, rid_at]
  · rw [if_neg e]
/-- Has one of so many levels the number? -/
def hasL (lv : Lvls) (n k : Nat) : Bool := (four.take k).any fun l => (lv l).any fun m => m.file == n
theorem has_succ (lv : Lvls) (n : Nat) {k : Nat} (h : k < 4) : hasL lv n (k + 1) = (hasL lv n k || (lv k).any fun m => m.file == n) := by
  rcases (by omega : k = 0 ∨ k = 1 ∨ k = 2 ∨ k = 3) with rfl | rfl | rfl | rfl <;> simp [hasL, four, Bool.or_assoc]
theorem has_four (lv : Lvls) (n : Nat) : hasL lv n 4 = hasB lv n := by
  simp [hasL, hasB, flatM, four, List.any_append]
def sameUp (a b : Lvls) : Prop := ∀ l, l < 4 → a l = b l
theorem goneP_same : ∀ (ns : List Nat) {a b : Lvls}, sameUp a b → (goneP ns a = none ∧ goneP ns b = none) ∨ ∃ c d, goneP ns a = some c ∧ goneP ns b = some d ∧ sameUp c d
  | [], a, b, h => .inr ⟨a, b, rfl, rfl, h⟩
  | n :: r, a, b, h => by
    have hf : hasB a n = hasB b n := by
      simp only [hasB, flatM, four, List.flatMap_cons, List.flatMap_nil]
      rw [h 0 (by omega), h 1 (by omega), h 2 (by omega), h 3 (by omega)]
    simp only [goneP, hf]
    split
    · exact goneP_same r fun l hl => by rw [h l hl]
    · exact .inl ⟨rfl, rfl⟩
end Go.Proofs.YtdmdnhceiddcfaaGreat
