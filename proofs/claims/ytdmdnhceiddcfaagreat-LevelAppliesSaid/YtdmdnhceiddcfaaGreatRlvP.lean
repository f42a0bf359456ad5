/- The document's Apply, stage by stage: in plain Lean. -/
import Derived.Test.YtdmdnhceiddcfaaGreatLvlL
set_option linter.all false
namespace Go.Proofs.YtdmdnhceiddcfaaGreat
open Go.RowKit Go.Sl Go.Scree

theorem takeOne {α : Type} {xs : List α} {k : Nat} {x : α} (h : xs[k]? = some x) : xs.take (k + 1) = xs.take k ++ [x] := by
  obtain ⟨hk, rfl⟩ := List.getElem?_eq_some_iff.1 h
  exact List.take_succ_eq_append_getElem hk
theorem gone_snoc : ∀ (xs : List Nat) (n : Nat) (lv lv' : Lvls), goneP xs lv = some lv' → goneP (xs ++ [n]) lv = if hasB lv' n = true then some (fun l => (lv' l).filter fun m => m.file != n) else none
  | [], n, lv, lv', h => by
    obtain rfl : lv = lv' := by simpa [goneP] using h
    show goneP [n] lv = _
    unfold goneP
    split
    · unfold goneP; rfl
    · rfl
  | x :: xs, n, lv, lv', h => by
    unfold goneP at h
    show goneP (x :: (xs ++ [n])) lv = _
    unfold goneP
    split at h
    · rename_i hx
      rw [if_pos hx]
      exact gone_snoc xs n _ lv' h
    · cases h
theorem gone_none : ∀ (xs ys : List Nat) (lv : Lvls), goneP xs lv = none → goneP (xs ++ ys) lv = none
  | [], ys, lv, h => by simp [goneP] at h
  | x :: xs, ys, lv, h => by
    unfold goneP at h
    show goneP (x :: (xs ++ ys)) lv = none
    unfold goneP
    split
    · rename_i hx
      rw [if_pos hx] at h
      exact gone_none xs ys _ h
    · rfl
theorem gone_step {xs : List Nat} {k n : Nat} {lv lv' : Lvls} (hk : xs[k]? = some n) (h : goneP (xs.take k) lv = some lv') : (hasB lv' n = true → goneP (xs.take (k + 1)) lv = some fun l => (lv' l).filter fun m => m.file != n) ∧ (hasB lv' n = false → goneP xs lv = none) := by
  have ht : xs.take (k + 1) = xs.take k ++ [n] := takeOne hk
  have h1 := gone_snoc _ n lv lv' h
  rw [← ht] at h1
  refine ⟨fun hb => by rw [h1, if_pos hb], fun hb => ?_⟩
  rw [if_neg (by rw [hb]; simp)] at h1
  have := gone_none _ (xs.drop (k + 1)) lv h1
  rwa [List.take_append_drop] at this
def filtK (lv : Lvls) (n l : Nat) : Lvls := fun i => if i < l then (lv i).filter (fun m => m.file != n) else lv i
theorem filtK_start (lv : Lvls) (n : Nat) : filtK lv n 0 = lv := funext fun i => if_neg (by omega)
theorem filtK_at (lv : Lvls) (n l : Nat) : filtK lv n l l = lv l := if_neg (by omega)
theorem filtK_upd (lv : Lvls) (n l : Nat) : upd (filtK lv n l) l ((lv l).filter fun m => m.file != n) = filtK lv n (l + 1) := by
  funext i
  unfold upd filtK
  by_cases e : i = l
  · subst e; rw [if_pos rfl, if_pos (by omega)]
  · rw [if_neg e]
    by_cases h : i < l
    · rw [if_pos h, if_pos (by omega)]
    · rw [if_neg h, if_neg (by omega)]
theorem filtK_end (lv : Lvls) (n : Nat) {i : Nat} (h : i < 4) : filtK lv n 4 i = (lv i).filter fun m => m.file != n := if_pos h
theorem has_cong {a b : Lvls} (h : ∀ i, i < 4 → a i = b i) (n : Nat) : hasB a n = hasB b n := by
  unfold hasB flatM four
  simp only [List.flatMap_cons, List.flatMap_nil]
  rw [h 0 (by omega), h 1 (by omega), h 2 (by omega), h 3 (by omega)]
/-- So many levels have come, and so many tables of the next one. -/
def comeK (lv nw : Lvls) (l j : Nat) : Lvls := fun i => if i < l then (nw i).foldl (withM (i == 0)) (lv i) else if i = l then ((nw l).take j).foldl (withM (l == 0)) (lv l) else lv i
theorem comeK_start (lv nw : Lvls) : comeK lv nw 0 0 = lv := by
  funext i
  unfold comeK
  rw [if_neg (by omega)]
  split
  · rename_i h; subst h; rfl
  · rfl
theorem comeK_at (lv nw : Lvls) (l j : Nat) : comeK lv nw l j l = ((nw l).take j).foldl (withM (l == 0)) (lv l) := by unfold comeK; rw [if_neg (by omega), if_pos rfl]
theorem comeK_upd (lv nw : Lvls) {l j : Nat} {m : MetaM} (h : (nw l)[j]? = some m) : upd (comeK lv nw l j) l (withM (l == 0) (comeK lv nw l j l) m) = comeK lv nw l (j + 1) := by
  funext i
  by_cases e : i = l
  · subst e
    rw [upd_at, comeK_at, comeK_at, takeOne h, List.foldl_append]
    rfl
  · rw [upd_ne _ _ e]
    unfold comeK
    rw [if_neg e, if_neg e]
theorem comeK_next (lv nw : Lvls) (l : Nat) : comeK lv nw l (nw l).length = comeK lv nw (l + 1) 0 := by
  funext i
  unfold comeK
  rw [List.take_length]
  by_cases h : i < l
  · rw [if_pos h, if_pos (by omega)]
  · rw [if_neg h]
    by_cases e : i = l
    · subst e; rw [if_pos rfl, if_pos (by omega)]
    · rw [if_neg e, if_neg (by omega)]
      split
      · rename_i h2; subst h2; rfl
      · rfl
theorem comeK_end (lv nw : Lvls) {i : Nat} (h : i < 4) : comeK lv nw 4 0 i = comeP lv nw i := by unfold comeK comeP; rw [if_pos h]
/-- The files of the new ones that have come. -/
def newK (nw : Lvls) (l j : Nat) : List Nat := fileL nw l ++ ((nw l).take j).map (·.file)
theorem newK_next (nw : Lvls) {l : Nat} (h : l < 4) : newK nw l (nw l).length = newK nw (l + 1) 0 := by
  unfold newK
  rw [List.take_length, fileL_succ nw h]
  simp
theorem newK_succ (nw : Lvls) {l j : Nat} {m : MetaM} (h : (nw l)[j]? = some m) : newK nw l (j + 1) = newK nw l j ++ [m.file] := by
  unfold newK
  rw [takeOne h, List.map_append, List.append_assoc]; rfl
theorem newK_part (nw : Lvls) {l j : Nat} (hl : l < 4) {m : MetaM} (h : (nw l)[j]? = some m) : ∃ r, filesM nw = newK nw l j ++ m.file :: r := by
  obtain ⟨hj, rfl⟩ := List.getElem?_eq_some_iff.1 h
  have e : (nw l).map (·.file) = ((nw l).take j).map (·.file) ++ (nw l)[j].file :: ((nw l).drop (j + 1)).map (·.file) := by
    conv => lhs; rw [← List.take_append_drop j (nw l), List.drop_eq_getElem_cons hj]
    rw [List.map_append, List.map_cons]
  have hf : ∃ r, filesM nw = fileL nw (l + 1) ++ r := by
    have e4 : four.take 4 = four.take (l + 1) ++ (four.take 4).drop (l + 1) := by
      rcases (by omega : l = 0 ∨ l = 1 ∨ l = 2 ∨ l = 3) with rfl | rfl | rfl | rfl <;> rfl
    refine ⟨(((four.take 4).drop (l + 1)).flatMap nw).map (·.file), ?_⟩
    rw [← fileL_four]
    unfold fileL
    conv => lhs; rw [e4]
    rw [List.flatMap_append, List.map_append]
  obtain ⟨r, hr⟩ := hf
  rw [fileL_succ nw hl, e] at hr
  refine ⟨((nw l).drop (j + 1)).map (·.file) ++ r, ?_⟩
  rw [hr]
  unfold newK
  simp
theorem twice_snoc : ∀ (ns fs : List Nat) (n : Nat), twiceB fs (ns ++ [n]) = (twiceB fs ns || (fs ++ ns).contains n)
  | [], fs, n => by simp [twiceB]
  | x :: ns, fs, n => by
    show twiceB fs (x :: (ns ++ [n])) = _
    unfold twiceB
    rw [twice_snoc ns (fs ++ [x]) n]
    simp [Bool.or_assoc]
theorem twice_app : ∀ (ns rs fs : List Nat), twiceB fs ns = true → twiceB fs (ns ++ rs) = true
  | [], rs, fs, h => by cases h
  | x :: ns, rs, fs, h => by
    show twiceB fs (x :: (ns ++ rs)) = true
    unfold twiceB at h ⊢
    cases hc : fs.contains x with
    | true => rfl
    | false =>
      rw [hc, Bool.false_or] at h
      rw [Bool.false_or]
      exact twice_app ns rs _ h
theorem has_come (lv nw : Lvls) {l : Nat} (hl : l < 4) (j n : Nat) : hasB (comeK lv nw l j) n = (filesM lv ++ newK nw l j).contains n := by
  have hp : (filesM (comeK lv nw l j)).Perm (filesM lv ++ newK nw l j) := by
    have h1 : (flatM (comeK lv nw l j)).Perm (flatM fun i => lv i ++ (if i < l then nw i else if i = l then (nw l).take j else [])) := flat_perm fun i _ => by
      unfold comeK
      by_cases h : i < l
      · rw [if_pos h, if_pos h]; exact foldW_perm _ _ _
      · rw [if_neg h, if_neg h]
        by_cases e : i = l
        · subst e; rw [if_pos rfl, if_pos rfl]; exact foldW_perm _ _ _
        · rw [if_neg e, if_neg e, List.append_nil]
    have h2 := h1.trans (flat_app lv fun i => if i < l then nw i else if i = l then (nw l).take j else [])
    have h3 := h2.map (·.file)
    rw [List.map_append] at h3
    have e : (flatM fun i => if i < l then nw i else if i = l then (nw l).take j else []).map (·.file) = newK nw l j := by
      unfold newK fileL flatM
      rcases (by omega : l = 0 ∨ l = 1 ∨ l = 2 ∨ l = 3) with rfl | rfl | rfl | rfl <;> simp [four]
    rw [e] at h3
    exact h3
  have hb : hasB (comeK lv nw l j) n = (filesM (comeK lv nw l j)).contains n := by
    unfold hasB filesM
    induction flatM (comeK lv nw l j) with
    | nil => rfl
    | cons x xs ih =>
      rw [List.any_cons, List.map_cons, List.contains_cons, ih]
      congr 1
      rw [Bool.eq_iff_iff]
      rw [beq_iff_eq, beq_iff_eq]
      exact ⟨Eq.symm, Eq.symm⟩
  rw [hb, Bool.eq_iff_iff]
  simp only [List.contains_eq_mem, decide_eq_true_eq]
  exact hp.mem_iff
/-- What is wrong with the numbers, as the document says. -/
theorem num_form (V : VerM) (E : EditM) : (numOk E.next V.next && numOk E.log V.log && numOk E.seq V.seq) = !((decide (E.next ≠ 0) && decide (E.next < V.next)) || (decide (E.log ≠ 0) && decide (E.log < V.log)) || (decide (E.seq ≠ 0) && decide (E.seq < V.seq)) || decide (1099511627776 < E.next) || decide (1099511627776 < E.log) || decide (1099511627776 < E.seq)) := by
  unfold numOk
  generalize (1099511627776 : Nat) = M
  generalize E.next = a, E.log = b, E.seq = c, V.next = d, V.log = e, V.seq = f
  rw [Bool.eq_iff_iff]
  simp only [Bool.and_eq_true, Bool.or_eq_true, Bool.not_eq_true', beq_iff_eq, decide_eq_true_eq, Bool.or_eq_false_iff, Bool.and_eq_false_iff, decide_eq_false_iff_not]
  omega
end Go.Proofs.YtdmdnhceiddcfaaGreat
