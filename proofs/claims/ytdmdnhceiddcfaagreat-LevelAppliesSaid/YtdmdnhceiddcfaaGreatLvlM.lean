/- Tables in levels, edits, and what an edit makes of a version: in plain Lean. · What an edit makes of a version that edits made: in plain Lean. -/
import Derived.Test.YtdmdnhceiddcfaaGreatEntM
set_option linter.all false
namespace Go.Scree

structure MetaM where
  file : Nat
  size : Int
  first : ByteArray
  last : ByteArray
  seq : Nat

instance : Inhabited MetaM := ⟨⟨0, 0, ⟨#[]⟩, ⟨#[]⟩, 0⟩⟩
def txtB (s : ByteArray) : Bool := decide (0 < s.size) && decide (s.size ≤ 100)
def numB (n : Nat) : Bool := decide (0 < n) && decide (n ≤ 1099511627776)
def mayB (m : MetaM) : Bool := numB m.file && decide (0 < m.size) && decide (m.size ≤ 1099511627776) && txtB m.first && txtB m.last && !ltK m.last m.first && numB m.seq

abbrev Lvls := Nat → List MetaM
structure VerM where
  lv : Lvls
  next : Nat
  log : Nat
  seq : Nat
structure EditM where
  gone : List Nat
  nw : Lvls
  next : Nat
  log : Nat
  seq : Nat
def newV : VerM := ⟨fun _ => [], 1, 0, 0⟩
def four : List Nat := [0, 1, 2, 3]
def flatM (lv : Lvls) : List MetaM := four.flatMap lv
def filesM (lv : Lvls) : List Nat := (flatM lv).map (·.file)
def allB (nw : Lvls) : Bool := (flatM nw).all mayB
def hasB (lv : Lvls) (n : Nat) : Bool := (flatM lv).any fun m => m.file == n
/-- Tables go, one number behind the other. -/
def goneP : List Nat → Lvls → Option Lvls
  | [], lv => some lv
  | n :: r, lv => if hasB lv n = true then goneP r (fun l => (lv l).filter fun m => m.file != n) else none
/-- Is a number there twice? -/
def twiceB : List Nat → List Nat → Bool
  | _, [] => false
  | fs, n :: r => fs.contains n || twiceB (fs ++ [n]) r
def insM (p : MetaM → Bool) (m : MetaM) : List MetaM → List MetaM
  | [] => [m]
  | x :: l => if p x = true then x :: insM p m l else m :: x :: l
/-- One more, in a level's order. -/
def withM (top : Bool) (l : List MetaM) (m : MetaM) : List MetaM := insM (fun x => if top = true then decide (m.file < x.file) else !ltK m.first x.first) m l
def comeP (lv nw : Lvls) : Lvls := fun l => (nw l).foldl (withM (l == 0)) (lv l)
def told (n old : Nat) : Nat := if n = 0 then old else n
def numOk (n old : Nat) : Bool := n == 0 || (decide (old ≤ n) && decide (n ≤ 1099511627776))
def adjB : List MetaM → Bool
  | a :: b :: l => ltK a.last b.first && adjB (b :: l)
  | _ => true
def fewB (lv : Lvls) : Bool := four.all fun l => decide ((lv l).length ≤ 30)
def shapeB (lv : Lvls) : Bool := [1, 2, 3].all fun l => adjB (lv l)
/-- What comes of an edit: a version, or what is wrong. -/
def applyP (V : VerM) (E : EditM) : VerM ⊕ Int :=
  if allB E.nw = false then .inr 2 else
  match goneP E.gone V.lv with
  | none => .inr 10
  | some lv =>
    if twiceB (filesM lv) (filesM E.nw) = true then .inr 11 else
    if (numOk E.next V.next && numOk E.log V.log && numOk E.seq V.seq) = false then .inr 3 else
    if ((flatM E.nw).all fun m => decide (m.file < told E.next V.next) && decide (m.seq ≤ told E.seq V.seq)) = false then .inr 3 else
    if fewB (comeP lv E.nw) = false then .inr 4 else
    if shapeB (comeP lv E.nw) = false then .inr 1 else
    .inl ⟨comeP lv E.nw, told E.next V.next, told E.log V.log, told E.seq V.seq⟩

/-- A version that edits made. -/
structure VOk (V : VerM) : Prop where
  may : ∀ m ∈ flatM V.lv, mayB m = true
  once : (filesM V.lv).Nodup
  below : ∀ m ∈ flatM V.lv, m.file < V.next ∧ m.seq ≤ V.seq
  few : fewB V.lv = true
  shape : shapeB V.lv = true
  top : (V.lv 0).Pairwise fun a b => b.file < a.file
  next : V.next ≤ 1099511627776
  log : V.log ≤ 1099511627776
  seq : V.seq ≤ 1099511627776

theorem mem_flat {lv : Lvls} {m : MetaM} : m ∈ flatM lv ↔ ∃ l, l < 4 ∧ m ∈ lv l := by
  simp only [flatM, four, List.mem_flatMap, List.mem_cons, List.not_mem_nil, or_false]
  constructor
  · rintro ⟨l, h, k⟩
    exact ⟨l, by omega, k⟩
  · rintro ⟨l, h, k⟩
    exact ⟨l, by omega, k⟩
theorem newV_ok : VOk newV := by
  refine ⟨?_, ?_, ?_, rfl, rfl, List.Pairwise.nil, by decide, by decide, by decide⟩
  · intro m hm; simp [flatM, four, newV] at hm
  · simp [filesM, flatM, four, newV]
  · intro m hm; simp [flatM, four, newV] at hm
theorem numB_iff {n : Nat} : numB n = true ↔ 0 < n ∧ n ≤ 1099511627776 := by simp [numB]
theorem may_parts {m : MetaM} (h : mayB m = true) : (0 < m.file ∧ m.file ≤ 1099511627776) ∧ (0 < m.size ∧ m.size ≤ 1099511627776) ∧ (0 < m.first.size ∧ m.first.size ≤ 100) ∧ (0 < m.last.size ∧ m.last.size ≤ 100) ∧ ltK m.last m.first = false ∧ 0 < m.seq ∧ m.seq ≤ 1099511627776 := by
  simp only [mayB, numB, txtB, Bool.and_eq_true, decide_eq_true_eq, Bool.not_eq_true'] at h
  obtain ⟨⟨⟨⟨⟨⟨⟨h1, h2⟩, h3⟩, h4⟩, h5, h6⟩, h7, h8⟩, h9⟩, h10, h11⟩ := h
  exact ⟨⟨h1, h2⟩, ⟨h3, h4⟩, ⟨h5, h6⟩, ⟨h7, h8⟩, h9, h10, h11⟩

/-! ### Insertion -/
theorem insM_perm (p : MetaM → Bool) (m : MetaM) : ∀ l, (insM p m l).Perm (m :: l)
  | [] => List.Perm.refl _
  | x :: l => by
    unfold insM
    split
    · exact ((insM_perm p m l).cons x).trans (List.Perm.swap m x l)
    · exact List.Perm.refl _
theorem withM_perm (top : Bool) (l : List MetaM) (m : MetaM) : (withM top l m).Perm (m :: l) := insM_perm _ _ _
theorem foldW_perm (top : Bool) : ∀ (xs l : List MetaM), (xs.foldl (withM top) l).Perm (l ++ xs)
  | [], l => by simp
  | x :: xs, l => by
    rw [List.foldl_cons]
    refine (foldW_perm top xs _).trans ?_
    refine ((withM_perm top l x).append_right xs).trans ?_
    rw [List.cons_append]
    exact List.perm_middle.symm
theorem come_perm (lv nw : Lvls) (l : Nat) : (comeP lv nw l).Perm (lv l ++ nw l) := foldW_perm _ _ _
/-- Insertion keeps a list in order. -/
theorem insM_order {R : MetaM → MetaM → Prop} (tr : ∀ a b c, R a b → R b c → R a c) {p : MetaM → Bool} {m : MetaM} :
    ∀ {l : List MetaM}, l.Pairwise R → (∀ x ∈ l, p x = true → R x m) → (∀ x ∈ l, p x = false → R m x) → (insM p m l).Pairwise R
  | [], _, _, _ => by simp [insM]
  | x :: l, h, h1, h2 => by
    have hc := List.pairwise_cons.1 h
    unfold insM
    split
    · rename_i hp
      refine List.pairwise_cons.2 ⟨fun y hy => ?_, insM_order tr hc.2 (fun z hz => h1 z (List.mem_cons_of_mem _ hz)) (fun z hz => h2 z (List.mem_cons_of_mem _ hz))⟩
      rcases List.mem_cons.1 ((insM_perm p m l).mem_iff.1 hy) with rfl | hy
      · exact h1 x (by simp) hp
      · exact hc.1 y hy
    · rename_i hp
      have hx := h2 x (by simp) (by simpa using hp)
      refine List.pairwise_cons.2 ⟨fun y hy => ?_, h⟩
      rcases List.mem_cons.1 hy with rfl | hy
      · exact hx
      · exact tr _ _ _ hx (hc.1 y hy)
/-- Level 0: the newest first. -/
def DownF (a b : MetaM) : Prop := b.file ≤ a.file
/-- Another level: by the first key. -/
def UpF (a b : MetaM) : Prop := ltK b.first a.first = false
theorem UpF.trans {a b c : MetaM} (h : UpF a b) (k : UpF b c) : UpF a c := by
  unfold UpF at *
  rcases ltK_tri a.first b.first with h1 | h1 | h1
  · rcases ltK_tri b.first c.first with h2 | h2 | h2
    · exact ltK_asymm (ltK_trans h1 h2)
    · rw [← h2]; exact h
    · rw [h2] at k; cases k
  · rw [h1]; exact k
  · rw [h1] at h; cases h
theorem withT_order {l : List MetaM} (h : l.Pairwise DownF) (m : MetaM) : (withM true l m).Pairwise DownF := by
  refine insM_order (fun a b c h k => by unfold DownF at *; omega) h (fun x _ hx => ?_) (fun x _ hx => ?_)
  · have : m.file < x.file := by simpa using hx
    unfold DownF; omega
  · have : x.file ≤ m.file := by simpa using hx
    exact this
theorem withF_order {l : List MetaM} (h : l.Pairwise UpF) (m : MetaM) : (withM false l m).Pairwise UpF := by
  refine insM_order (fun a b c h k => h.trans k) h (fun x _ hx => ?_) (fun x _ hx => ?_)
  · simpa [UpF] using hx
  · have : ltK m.first x.first = true := by simpa using hx
    exact ltK_asymm this
theorem foldT_order : ∀ {xs l : List MetaM}, l.Pairwise DownF → (xs.foldl (withM true) l).Pairwise DownF
  | [], _, h => h
  | x :: xs, l, h => foldT_order (xs := xs) (withT_order h x)
theorem foldF_order : ∀ {xs l : List MetaM}, l.Pairwise UpF → (xs.foldl (withM false) l).Pairwise UpF
  | [], _, h => h
  | x :: xs, l, h => foldF_order (xs := xs) (withF_order h x)
/-- Lists of the same elements in an order that parts any two of them are one. -/
theorem same_of_perm {R : MetaM → MetaM → Prop} (irr : ∀ a, ¬ R a a) (tr : ∀ a b c, R a b → R b c → R a c) : ∀ {l m : List MetaM}, l.Pairwise R → m.Pairwise R → l.Perm m → l = m
  | [], m, _, _, h => (List.Perm.eq_nil h.symm).symm
  | x :: l, [], _, _, h => absurd (List.Perm.eq_nil h) (by simp)
  | x :: l, y :: m, hl, hm, h => by
    have hl' := List.pairwise_cons.1 hl
    have hm' := List.pairwise_cons.1 hm
    have e : x = y := by
      rcases List.mem_cons.1 (h.mem_iff.1 (by simp : x ∈ x :: l)) with e | e
      · exact e
      · rcases List.mem_cons.1 (h.mem_iff.2 (by simp : y ∈ y :: m)) with e2 | e2
        · exact e2.symm
        · exact absurd (tr _ _ _ (hm'.1 x e) (hl'.1 y e2)) (irr _)
    subst e
    rw [same_of_perm irr tr hl'.2 hm'.2 ((List.perm_cons x).1 h)]
def StrictF (a b : MetaM) : Prop := b.file < a.file
def StrictU (a b : MetaM) : Prop := ltK a.first b.first = true
theorem strictF_of {l : List MetaM} (h : l.Pairwise DownF) (n : (l.map (·.file)).Nodup) : l.Pairwise StrictF := by
  induction l with
  | nil => exact List.Pairwise.nil
  | cons x l ih =>
    have h' := List.pairwise_cons.1 h
    rw [List.map_cons, List.nodup_cons] at n
    refine List.pairwise_cons.2 ⟨fun y hy => ?_, ih h'.2 n.2⟩
    have h1 := h'.1 y hy
    have h2 : x.file ≠ y.file := fun e => n.1 (e ▸ List.mem_map_of_mem hy)
    unfold DownF at h1; unfold StrictF; omega
/-- Whatever sorts the top by file is the list that insertion makes. -/
theorem top_same {a b : List MetaM} (ha : a.Pairwise DownF) (hb : b.Pairwise DownF) (p : a.Perm b) (n : (a.map (·.file)).Nodup) : a = b :=
  same_of_perm (R := StrictF) (fun a h => by unfold StrictF at h; omega) (fun a b c h k => by unfold StrictF at *; omega) (strictF_of ha n) (strictF_of hb ((p.map _).nodup_iff.1 n)) p
/-- What lies apart lies in order. -/
theorem adj_pair {l : List MetaM} (h : adjB l = true) (hm : ∀ m ∈ l, ltK m.last m.first = false) : l.Pairwise fun a b => ltK a.last b.first = true := by
  induction l with
  | nil => exact List.Pairwise.nil
  | cons a l ih =>
    cases l with
    | nil => exact List.pairwise_singleton _ _
    | cons b l =>
      simp only [adjB, Bool.and_eq_true] at h
      have hi := ih h.2 fun m hm' => hm m (List.mem_cons_of_mem _ hm')
      refine List.pairwise_cons.2 ⟨fun y hy => ?_, hi⟩
      rcases List.mem_cons.1 hy with rfl | hy
      · exact h.1
      · have h1 := (List.pairwise_cons.1 hi).1 y hy
        have h2 := hm b (by simp)
        rcases ltK_tri b.first b.last with k | k | k
        · exact ltK_trans h.1 (ltK_trans k h1)
        · rw [← k] at h1; exact ltK_trans h.1 h1
        · rw [k] at h2; cases h2
theorem pair_adj : ∀ {l : List MetaM}, (l.Pairwise fun a b => ltK a.last b.first = true) → adjB l = true
  | [], _ => rfl
  | [_], _ => rfl
  | a :: b :: l, h => by
    have h' := List.pairwise_cons.1 h
    simp only [adjB, Bool.and_eq_true]
    exact ⟨h'.1 b (by simp), pair_adj h'.2⟩
theorem pair_strict {l : List MetaM} (h : l.Pairwise fun a b => ltK a.last b.first = true) (hm : ∀ m ∈ l, ltK m.last m.first = false) : l.Pairwise StrictU := by
  refine (List.pairwise_iff_getElem.2 fun i j hi hj hij => ?_)
  have h1 := List.pairwise_iff_getElem.1 h i j hi hj hij
  have h2 := hm l[i] (List.getElem_mem hi)
  unfold StrictU
  rcases ltK_tri l[i].first l[i].last with k | k | k
  · exact ltK_trans k h1
  · rw [k]; exact h1
  · rw [k] at h2; cases h2
theorem strictU_of {l m : List MetaM} (hl : l.Pairwise StrictU) (hm : m.Pairwise UpF) (p : l.Perm m) : m.Pairwise StrictU := by
  have irr : ∀ a b : MetaM, a ∈ l → b ∈ l → a.first = b.first → a = b := by
    intro a b ha hb e
    obtain ⟨i, hi, rfl⟩ := List.getElem_of_mem ha
    obtain ⟨j, hj, rfl⟩ := List.getElem_of_mem hb
    rcases Nat.lt_trichotomy i j with k | k | k
    · have := List.pairwise_iff_getElem.1 hl i j hi hj k
      unfold StrictU at this; rw [e, ltK_irrefl] at this; cases this
    · subst k; rfl
    · have := List.pairwise_iff_getElem.1 hl j i hj hi k
      unfold StrictU at this; rw [e, ltK_irrefl] at this; cases this
  have nd : l.Nodup := hl.imp fun {a b} h e => by subst e; unfold StrictU at h; rw [ltK_irrefl] at h; cases h
  have nm : m.Nodup := p.nodup_iff.1 nd
  refine List.pairwise_iff_getElem.2 fun i j hi hj hij => ?_
  have h1 := List.pairwise_iff_getElem.1 hm i j hi hj hij
  have h2 : m[i] ≠ m[j] := List.pairwise_iff_getElem.1 nm i j hi hj hij
  unfold UpF at h1; unfold StrictU
  rcases ltK_tri m[i].first m[j].first with k | k | k
  · exact k
  · exact absurd (irr _ _ (p.mem_iff.2 (List.getElem_mem hi)) (p.mem_iff.2 (List.getElem_mem hj)) k) h2
  · rw [k] at h1; cases h1
/-- Two lists of the same tables, both by the first key: if one lies apart, they are one. -/
theorem up_same {a b : List MetaM} (ha : a.Pairwise UpF) (hb : b.Pairwise UpF) (p : a.Perm b) (hm : ∀ m ∈ a, ltK m.last m.first = false) (h : adjB a = true) : a = b := by
  have hs := pair_strict (adj_pair h hm) hm
  exact same_of_perm (R := StrictU) (fun a h => by unfold StrictU at h; rw [ltK_irrefl] at h; cases h) (fun a b c h k => ltK_trans h k) hs (strictU_of hs hb p) p
theorem up_adj {a b : List MetaM} (ha : a.Pairwise UpF) (hb : b.Pairwise UpF) (p : a.Perm b) (hm : ∀ m ∈ a, ltK m.last m.first = false) : adjB a = adjB b := by
  cases h : adjB a with
  | true => rw [← up_same ha hb p hm h, h]
  | false =>
    cases k : adjB b with
    | false => rfl
    | true =>
      have := up_same hb ha p.symm (fun m h' => hm m (p.mem_iff.2 h')) k
      rw [this, h] at k; cases k
/-- A level of a version that is in shape is in order. -/
theorem VOk.up {V : VerM} (h : VOk V) {l : Nat} (h1 : 1 ≤ l) (h4 : l < 4) : (V.lv l).Pairwise fun a b => ltK a.last b.first = true := by
  have hs := h.shape
  simp only [shapeB, List.all_cons, List.all_nil, Bool.and_true, Bool.and_eq_true] at hs
  have ha : adjB (V.lv l) = true := by
    rcases (by omega : l = 1 ∨ l = 2 ∨ l = 3) with rfl | rfl | rfl
    · exact hs.1
    · exact hs.2.1
    · exact hs.2.2
  exact adj_pair ha fun m hm => (may_parts (h.may m (mem_flat.2 ⟨l, h4, hm⟩))).2.2.2.2.1
theorem VOk.upF {V : VerM} (h : VOk V) {l : Nat} (h1 : 1 ≤ l) (h4 : l < 4) : (V.lv l).Pairwise UpF :=
  (pair_strict (h.up h1 h4) fun m hm => (may_parts (h.may m (mem_flat.2 ⟨l, h4, hm⟩))).2.2.2.2.1).imp fun h => ltK_asymm h
end Go.Scree
namespace Go.Scree

theorem twice_nodup : ∀ {ns fs : List Nat}, twiceB fs ns = false → fs.Nodup → (fs ++ ns).Nodup
  | [], fs, _, h => by simpa using h
  | n :: r, fs, h, k => by
    simp only [twiceB, Bool.or_eq_false_iff] at h
    have hn : n ∉ fs := by
      have := h.1
      simp only [List.contains_eq_mem, decide_eq_false_iff_not] at this
      exact this
    have h1 : (fs ++ [n]).Nodup := by
      rw [List.nodup_append]
      refine ⟨k, by simp, fun a ha b hb e => ?_⟩
      rw [List.mem_singleton] at hb
      subst hb; subst e; exact hn ha
    have := twice_nodup h.2 h1
    rwa [List.append_assoc, List.singleton_append] at this
theorem flat_perm {a b : Lvls} (h : ∀ l, l < 4 → (a l).Perm (b l)) : (flatM a).Perm (flatM b) := by
  simp only [flatM, four, List.flatMap_cons, List.flatMap_nil, List.append_nil]
  exact (h 0 (by omega)).append ((h 1 (by omega)).append ((h 2 (by omega)).append (h 3 (by omega))))
theorem flat_app (a b : Lvls) : (flatM fun l => a l ++ b l).Perm (flatM a ++ flatM b) := by
  simp only [flatM, four, List.flatMap_cons, List.flatMap_nil, List.append_nil]
  generalize a 0 = a0, a 1 = a1, a 2 = a2, a 3 = a3, b 0 = b0, b 1 = b1, b 2 = b2, b 3 = b3
  have sw : ∀ x y z u : List MetaM, (x ++ y ++ (z ++ u)).Perm (x ++ z ++ (y ++ u)) := by
    intro x y z u
    simp only [List.append_assoc]
    refine List.Perm.append_left x ?_
    rw [← List.append_assoc, ← List.append_assoc]
    exact List.perm_append_comm.append_right u
  have s3 : (a2 ++ b2 ++ (a3 ++ b3)).Perm (a2 ++ a3 ++ (b2 ++ b3)) := sw _ _ _ _
  have s2 : (a1 ++ b1 ++ (a2 ++ b2 ++ (a3 ++ b3))).Perm (a1 ++ (a2 ++ a3) ++ (b1 ++ (b2 ++ b3))) := (s3.append_left _).trans (sw _ _ _ _)
  exact (s2.append_left _).trans (sw _ _ _ _)
theorem files_perm {a b : Lvls} (h : (flatM a).Perm (flatM b)) : (filesM a).Perm (filesM b) := h.map _
theorem come_flat (lv nw : Lvls) : (flatM (comeP lv nw)).Perm (flatM lv ++ flatM nw) := (flat_perm fun l _ => come_perm lv nw l).trans (flat_app lv nw)
theorem come_files (lv nw : Lvls) : (filesM (comeP lv nw)).Perm (filesM lv ++ filesM nw) := by
  have := (come_flat lv nw).map (fun m : MetaM => m.file)
  rwa [List.map_append] at this
/-- Each level of what is left is a part of what was there. -/
def Part (a b : Lvls) : Prop := ∀ l, (a l).Sublist (b l)
theorem flat_sub {a b : Lvls} (h : Part a b) : (flatM a).Sublist (flatM b) := by
  simp only [flatM, four, List.flatMap_cons, List.flatMap_nil, List.append_nil]
  exact (h 0).append ((h 1).append ((h 2).append (h 3)))
theorem gone_part : ∀ {ns : List Nat} {lv lv' : Lvls}, goneP ns lv = some lv' → Part lv' lv
  | [], lv, lv', h => by
    rw [goneP, Option.some.injEq] at h
    subst h; exact fun l => List.Sublist.refl _
  | n :: r, lv, lv', h => by
    rw [goneP] at h
    split at h
    · exact fun l => (gone_part h l).trans List.filter_sublist
    · cases h
theorem gone_keep : ∀ {ns : List Nat} {lv lv' : Lvls}, goneP ns lv = some lv' → ∀ l m, m ∈ lv l → m.file ∉ ns → m ∈ lv' l
  | [], lv, lv', h, l, m, hm, _ => by
    rw [goneP, Option.some.injEq] at h
    subst h; exact hm
  | n :: r, lv, lv', h, l, m, hm, hn => by
    rw [goneP] at h
    rw [List.mem_cons, not_or] at hn
    split at h
    · exact gone_keep h l m (List.mem_filter.2 ⟨hm, by simpa using hn.1⟩) hn.2
    · cases h
theorem gone_not : ∀ {ns : List Nat} {lv lv' : Lvls}, goneP ns lv = some lv' → ∀ l m, m ∈ lv' l → m.file ∉ ns
  | [], _, _, _, _, _, _ => by simp
  | n :: r, lv, lv', h, l, m, hm => by
    rw [goneP] at h
    split at h
    · rw [List.mem_cons, not_or]
      refine ⟨fun e => ?_, gone_not h l m hm⟩
      have := (gone_part h l).subset hm
      rw [List.mem_filter] at this
      simp [e] at this
    · cases h

/-- All that an accepted edit tells. -/
structure Came (V : VerM) (E : EditM) (W : VerM) where
  lv : Lvls
  all : allB E.nw = true
  gone : goneP E.gone V.lv = some lv
  once : twiceB (filesM lv) (filesM E.nw) = false
  nums : (numOk E.next V.next = true ∧ numOk E.log V.log = true) ∧ numOk E.seq V.seq = true
  below : ∀ m ∈ flatM E.nw, m.file < told E.next V.next ∧ m.seq ≤ told E.seq V.seq
  few : fewB (comeP lv E.nw) = true
  shape : shapeB (comeP lv E.nw) = true
  out : W = ⟨comeP lv E.nw, told E.next V.next, told E.log V.log, told E.seq V.seq⟩
theorem apply_came {V : VerM} {E : EditM} {W : VerM} (h : applyP V E = .inl W) : Nonempty (Came V E W) := by
  unfold applyP at h
  split at h
  · cases h
  · rename_i h1
    split at h
    · cases h
    · rename_i lv h2
      split at h
      · cases h
      · rename_i h3
        split at h
        · cases h
        · rename_i h4
          split at h
          · cases h
          · rename_i h5
            split at h
            · cases h
            · rename_i h6
              split at h
              · cases h
              · rename_i h7
                simp only [Bool.not_eq_false, Bool.and_eq_true] at h1 h4 h5 h6 h7
                refine ⟨⟨lv, h1, h2, by simpa using h3, h4, fun m hm => ?_, h6, h7, (Sum.inl.inj h).symm⟩⟩
                have := List.all_eq_true.1 h5 m hm
                simpa using this
theorem told_le {n old : Nat} (h : numOk n old = true) : old ≤ told n old := by
  unfold told
  simp only [numOk, Bool.or_eq_true, beq_iff_eq, Bool.and_eq_true, decide_eq_true_eq] at h
  split <;> omega
theorem told_top {n old : Nat} (h : numOk n old = true) (k : old ≤ 1099511627776) : told n old ≤ 1099511627776 := by
  unfold told
  simp only [numOk, Bool.or_eq_true, beq_iff_eq, Bool.and_eq_true, decide_eq_true_eq] at h
  split <;> omega
theorem all_mem {nw : Lvls} (h : allB nw = true) : ∀ m ∈ flatM nw, mayB m = true := List.all_eq_true.1 h
theorem part_mem {a b : Lvls} (h : Part a b) {m : MetaM} (hm : m ∈ flatM a) : m ∈ flatM b := (flat_sub h).subset hm
theorem came_nodup {V : VerM} (h : VOk V) {lv nw : Lvls} (p : Part lv V.lv) (t : twiceB (filesM lv) (filesM nw) = false) : (filesM lv ++ filesM nw).Nodup :=
  twice_nodup t (h.once.sublist ((flat_sub p).map _))
/-- The orders of the levels that come. -/
theorem came_top {V : VerM} (h : VOk V) {lv nw : Lvls} (p : Part lv V.lv) : (comeP lv nw 0).Pairwise DownF :=
  foldT_order ((h.top.sublist (p 0)).imp fun {a b} k => by unfold DownF; omega)
theorem came_up {V : VerM} (h : VOk V) {lv nw : Lvls} (p : Part lv V.lv) {l : Nat} (h1 : 1 ≤ l) (h4 : l < 4) : (comeP lv nw l).Pairwise UpF := by
  have e : (l == 0) = false := by simp; omega
  unfold comeP
  rw [e]
  exact foldF_order ((h.upF h1 h4).sublist (p l))
theorem level_nodup {lv : Lvls} (h : (filesM lv).Nodup) {l : Nat} (h4 : l < 4) : ((lv l).map (·.file)).Nodup := by
  refine h.sublist ?_
  unfold filesM
  refine List.Sublist.map _ ?_
  rcases (by omega : l = 0 ∨ l = 1 ∨ l = 2 ∨ l = 3) with rfl | rfl | rfl | rfl
  all_goals simp only [flatM, four, List.flatMap_cons, List.flatMap_nil, List.append_nil]
  · exact List.sublist_append_left _ _
  · exact (List.sublist_append_left _ _).trans (List.sublist_append_right _ _)
  · exact ((List.sublist_append_left _ _).trans (List.sublist_append_right _ _)).trans (List.sublist_append_right _ _)
  · exact ((List.sublist_append_right _ _).trans (List.sublist_append_right _ _)).trans (List.sublist_append_right _ _)
theorem Came.part {V W : VerM} {E : EditM} (c : Came V E W) : Part c.lv V.lv := gone_part c.gone
theorem came_ok {V W : VerM} {E : EditM} (h : VOk V) (c : Came V E W) : VOk W := by
  have hmem : ∀ m, m ∈ flatM (comeP c.lv E.nw) ↔ m ∈ flatM c.lv ∨ m ∈ flatM E.nw := fun m => by rw [(come_flat _ _).mem_iff, List.mem_append]
  have hn := came_nodup h c.part c.once
  have hnf : (filesM (comeP c.lv E.nw)).Nodup := (come_files _ _).nodup_iff.2 hn
  rw [c.out]
  refine ⟨fun m hm => ?_, hnf, fun m hm => ?_, c.few, c.shape, ?_, told_top c.nums.1.1 h.next, told_top c.nums.1.2 h.log, told_top c.nums.2 h.seq⟩
  · rcases (hmem m).1 hm with k | k
    · exact h.may m (part_mem c.part k)
    · exact all_mem c.all m k
  · rcases (hmem m).1 hm with k | k
    · have := h.below m (part_mem c.part k)
      have h1 := told_le c.nums.1.1
      have h2 := told_le c.nums.2
      dsimp only
      omega
    · exact c.below m k
  · exact (strictF_of (came_top h c.part) (level_nodup hnf (by omega))).imp fun h => h
theorem apply_ok {V W : VerM} {E : EditM} (h : VOk V) (a : applyP V E = .inl W) : VOk W := let ⟨c⟩ := apply_came a; came_ok h c

/-- Whatever sorts the levels: it has room and shape as the insertion has, and is that if it has. -/
theorem sorted_same {V : VerM} (h : VOk V) {lv nw sv : Lvls} (p : Part lv V.lv) (ha : allB nw = true) (t : twiceB (filesM lv) (filesM nw) = false)
    (hp : ∀ l, l < 4 → (sv l).Perm (lv l ++ nw l)) (h0 : (sv 0).Pairwise DownF) (hu : ∀ l, 1 ≤ l → l < 4 → (sv l).Pairwise UpF) :
    fewB sv = fewB (comeP lv nw) ∧ shapeB sv = shapeB (comeP lv nw) ∧ (shapeB sv = true → ∀ l, l < 4 → sv l = comeP lv nw l) := by
  have hpp : ∀ l, l < 4 → (sv l).Perm (comeP lv nw l) := fun l hl => (hp l hl).trans (come_perm lv nw l).symm
  have hn := came_nodup h p t
  have hfs : (filesM sv).Nodup := (((flat_perm hpp).map _).trans (come_files _ _)).nodup_iff.2 hn
  have hm : ∀ l, l < 4 → ∀ m ∈ sv l, ltK m.last m.first = false := by
    intro l hl m hm
    have : m ∈ lv l ++ nw l := (hp l hl).mem_iff.1 hm
    have hmay : mayB m = true := by
      rcases List.mem_append.1 this with k | k
      · exact h.may m (part_mem p (mem_flat.2 ⟨l, hl, k⟩))
      · exact all_mem ha m (mem_flat.2 ⟨l, hl, k⟩)
    exact (may_parts hmay).2.2.2.2.1
  have hadj : ∀ l, 1 ≤ l → l < 4 → adjB (sv l) = adjB (comeP lv nw l) := fun l h1 h4 => up_adj (hu l h1 h4) (came_up h p h1 h4) (hpp l h4) (hm l h4)
  refine ⟨?_, ?_, fun hs l hl => ?_⟩
  · simp only [fewB, four, List.all_cons, List.all_nil]
    rw [(hpp 0 (by omega)).length_eq, (hpp 1 (by omega)).length_eq, (hpp 2 (by omega)).length_eq, (hpp 3 (by omega)).length_eq]
  · simp only [shapeB, List.all_cons, List.all_nil]
    rw [hadj 1 (by omega) (by omega), hadj 2 (by omega) (by omega), hadj 3 (by omega) (by omega)]
  · rcases Nat.eq_zero_or_pos l with rfl | h1
    · exact top_same h0 (came_top h p) (hpp 0 hl) (level_nodup hfs hl)
    · refine up_same (hu l h1 hl) (came_up h p h1 hl) (hpp l hl) (hm l hl) ?_
      simp only [shapeB, List.all_cons, List.all_nil, Bool.and_true, Bool.and_eq_true] at hs
      rcases (by omega : l = 1 ∨ l = 2 ∨ l = 3) with rfl | rfl | rfl
      · exact hs.1
      · exact hs.2.1
      · exact hs.2.2
/-- Nothing comes of no edit. -/
def noEdit : EditM := ⟨[], fun _ => [], 0, 0, 0⟩
theorem twice_nil (fs : List Nat) : twiceB fs [] = false := rfl
theorem apply_none {V : VerM} (h : VOk V) : applyP V noEdit = .inl V := by
  have e1 : flatM (fun _ => ([] : List MetaM)) = [] := rfl
  have e2 : comeP V.lv (fun _ => []) = V.lv := rfl
  simp only [applyP, noEdit, allB, e1, goneP, filesM, List.map_nil, twice_nil, numOk, told, List.all_nil, e2, h.few, h.shape]
  simp
end Go.Scree
