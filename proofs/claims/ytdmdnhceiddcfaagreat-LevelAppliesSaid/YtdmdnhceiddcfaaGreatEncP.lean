/- An edit's bytes, written and read: in plain Lean. -/
import Derived.Test.YtdmdnhceiddcfaaGreatNumT
import Derived.Test.YtdmdnhceiddcfaaGreatLvlM
import Derived.Test.YtdmdnhceiddcfaaGreatSl
set_option linter.all false
namespace Go.Proofs.YtdmdnhceiddcfaaGreat
open Go.RowKit Go.Sl Go.Scree

def nilE : EditM := ⟨[], fun _ => [], 0, 0, 0⟩
def numW (n : Nat) : List UInt8 := shortB n
def textW (s : ByteArray) : List UInt8 := shortB s.size ++ s.data.toList
def big40 : Nat := 1099511627776
def metaW (m : MetaM) : List UInt8 := numW m.file ++ (numW m.size.toNat ++ (textW m.first ++ (textW m.last ++ numW m.seq)))
def levelW (l : List MetaM) : List UInt8 := numW l.length ++ (l.map metaW).flatten
def headL (E : EditM) : List Nat := [E.next, E.log, E.seq, E.gone.length]
def encW (E : EditM) : List UInt8 := ((headL E).map numW).flatten ++ ((E.gone.map numW).flatten ++ (four.map fun l => levelW (E.nw l)).flatten)
def encOk (E : EditM) : Bool := allB E.nw && decide (E.next ≤ big40) && decide (E.log ≤ big40) && decide (E.seq ≤ big40) && decide (E.gone.length ≤ 120) && E.gone.all (fun n => decide (n ≤ big40)) && fewB E.nw
abbrev RdS := List UInt8 × Bool
def numR (most : Nat) (s : RdS) : Nat × RdS :=
  match takeN s.1 0 0 with
  | none => (0, (s.1, true))
  | some (n, r) => if s.2 = true ∨ most < n then (0, (s.1, true)) else (n, (r, s.2))
def textR (s : RdS) : ByteArray × RdS :=
  if (numR 100 s).2.2 = true ∨ (numR 100 s).2.1.length < (numR 100 s).1 then (⟨#[]⟩, ((numR 100 s).2.1, true)) else (⟨((numR 100 s).2.1.take (numR 100 s).1).toArray⟩, ((numR 100 s).2.1.drop (numR 100 s).1, (numR 100 s).2.2))
theorem numR_len (m : Nat) (s : RdS) : (numR m s).2.1.length ≤ s.1.length := by
  unfold numR
  split
  · exact Nat.le_refl _
  · rename_i n r h
    obtain ⟨p, hp, _⟩ := takeN_rest h
    split
    · exact Nat.le_refl _
    · show r.length ≤ _
      rw [hp, List.length_append]; omega
theorem numR_le (m : Nat) (s : RdS) : (numR m s).1 ≤ m := by
  unfold numR
  split
  · exact Nat.zero_le _
  · split
    · exact Nat.zero_le _
    · rename_i h; show _ ≤ m; omega
def numsR (most : Nat) : Nat → RdS → List Nat × RdS
  | 0, s => ([], s)
  | n + 1, s => ((numR most s).1 :: (numsR most n (numR most s).2).1, (numsR most n (numR most s).2).2)
def metaR (s : RdS) : MetaM × RdS :=
  let a := numR 1099511627776 s
  let b := numR 1099511627776 a.2
  let c := textR b.2
  let d := textR c.2
  let f := numR 1099511627776 d.2
  (⟨a.1, b.1, c.1, d.1, f.1⟩, f.2)
def metasR : Nat → RdS → List MetaM × RdS
  | 0, s => ([], s)
  | n + 1, s => ((metaR s).1 :: (metasR n (metaR s).2).1, (metasR n (metaR s).2).2)
def levelR (s : RdS) : List MetaM × RdS := metasR (numR 30 s).1 (numR 30 s).2
def levelsR : Nat → RdS → List (List MetaM) × RdS
  | 0, s => ([], s)
  | n + 1, s => ((levelR s).1 :: (levelsR n (levelR s).2).1, (levelsR n (levelR s).2).2)
def decE (s : RdS) : EditM × RdS :=
  let a := numR 1099511627776 s
  let b := numR 1099511627776 a.2
  let c := numR 1099511627776 b.2
  let n := numR 120 c.2
  let g := numsR 1099511627776 n.1 n.2
  let l := levelsR 4 g.2
  (⟨g.1, fun i => l.1.getD i [], a.1, b.1, c.1⟩, l.2)
def decP (l : List UInt8) : EditM × Int := if (decE (l, false)).2.2 = true ∨ (decE (l, false)).2.1 ≠ [] ∨ allB (decE (l, false)).1.nw = false then (nilE, 2) else ((decE (l, false)).1, 0)
theorem textR_len (s : RdS) : (textR s).2.1.length ≤ s.1.length := by
  have := numR_len 100 s
  unfold textR
  split
  · exact this
  · show ((numR 100 s).2.1.drop _).length ≤ _
    rw [List.length_drop]; omega
theorem nums_len (m : Nat) : ∀ (n : Nat) (s : RdS), (numsR m n s).1.length = n
  | 0, _ => rfl
  | n + 1, s => by simp only [numsR, List.length_cons, nums_len m n]
theorem metas_len : ∀ (n : Nat) (s : RdS), (metasR n s).1.length = n
  | 0, _ => rfl
  | n + 1, s => by simp only [metasR, List.length_cons, metas_len n]
theorem numR_short {x m : Nat} (h : x ≤ m) (hx : x < 18446744073709551616) (r : List UInt8) : numR m (numW x ++ r, false) = (x, (r, false)) := by
  unfold numR numW
  dsimp only
  rw [take_short hx r]
  dsimp only
  rw [if_neg (by simp; omega)]
theorem textR_short {s : ByteArray} (h : s.size ≤ 100) (r : List UInt8) : textR (textW s ++ r, false) = (s, (r, false)) := by
  have e : numR 100 (textW s ++ r, false) = (s.size, (s.data.toList ++ r, false)) := by
    have := numR_short (x := s.size) (m := 100) h (by omega) (s.data.toList ++ r)
    unfold textW
    unfold numW at this
    rw [List.append_assoc]
    exact this
  have hl : s.data.toList.length = s.size := by rw [Array.length_toList]; rfl
  unfold textR
  rw [e]
  dsimp only
  rw [if_neg (by rw [List.length_append, hl]; simp)]
  rw [← hl, List.take_left, List.drop_left]
theorem metaR_short {m : MetaM} (h : mayB m = true) (r : List UInt8) : metaR (metaW m ++ r, false) = (m, (r, false)) := by
  obtain ⟨⟨h1, h2⟩, ⟨h3, h4⟩, ⟨h5, h6⟩, ⟨h7, h8⟩, h9, h10, h11⟩ := may_parts h
  unfold metaR metaW
  simp only [List.append_assoc]
  rw [numR_short h2 (by omega)]
  dsimp only
  rw [numR_short (x := m.size.toNat) (by omega) (by omega)]
  dsimp only
  rw [textR_short h6]
  dsimp only
  rw [textR_short h8]
  dsimp only
  rw [numR_short h11 (by omega)]
  have hz : ((m.size.toNat : Nat) : Int) = m.size := Int.toNat_of_nonneg (by omega)
  rw [hz]
theorem metasR_short : ∀ (l : List MetaM) (r : List UInt8), (∀ m ∈ l, mayB m = true) → metasR l.length ((l.map metaW).flatten ++ r, false) = (l, (r, false))
  | [], r, _ => rfl
  | m :: l, r, h => by
    rw [List.map_cons, List.flatten_cons, List.append_assoc, List.length_cons]
    unfold metasR
    rw [metaR_short (h m (by simp))]
    dsimp only
    rw [metasR_short l r fun x hx => h x (by simp [hx])]
theorem numsR_short {k : Nat} (hk : k < 18446744073709551616) : ∀ (l : List Nat) (r : List UInt8), (∀ m ∈ l, m ≤ k) → numsR k l.length ((l.map numW).flatten ++ r, false) = (l, (r, false))
  | [], r, _ => rfl
  | m :: l, r, h => by
    have := h m (by simp)
    rw [List.map_cons, List.flatten_cons, List.append_assoc, List.length_cons]
    unfold numsR
    rw [numR_short this (by omega)]
    dsimp only
    rw [numsR_short hk l r fun x hx => h x (by simp [hx])]
theorem levelR_short {l : List MetaM} (h : ∀ m ∈ l, mayB m = true) (h30 : l.length ≤ 30) (r : List UInt8) : levelR (levelW l ++ r, false) = (l, (r, false)) := by
  unfold levelR levelW
  rw [List.append_assoc, numR_short h30 (by omega)]
  exact metasR_short l r h
theorem levelsR_short : ∀ (ls : List (List MetaM)) (r : List UInt8), (∀ l ∈ ls, (∀ m ∈ l, mayB m = true) ∧ l.length ≤ 30) → levelsR ls.length ((ls.map levelW).flatten ++ r, false) = (ls, (r, false))
  | [], r, _ => rfl
  | l :: ls, r, h => by
    have := h l (by simp)
    rw [List.map_cons, List.flatten_cons, List.append_assoc, List.length_cons]
    unfold levelsR
    rw [levelR_short this.1 this.2]
    dsimp only
    rw [levelsR_short ls r fun x hx => h x (by simp [hx])]
theorem encOk_parts {E : EditM} (h : encOk E = true) : allB E.nw = true ∧ E.next ≤ big40 ∧ E.log ≤ big40 ∧ E.seq ≤ big40 ∧ E.gone.length ≤ 120 ∧ (∀ n ∈ E.gone, n ≤ big40) ∧ ∀ l, l < 4 → (E.nw l).length ≤ 30 := by
  simp only [encOk, Bool.and_eq_true, decide_eq_true_eq] at h
  obtain ⟨⟨⟨⟨⟨⟨h1, h2⟩, h3⟩, h4⟩, h5⟩, h6⟩, h7⟩ := h
  refine ⟨h1, h2, h3, h4, h5, fun n hn => of_decide_eq_true (List.all_eq_true.1 h6 n hn), fun l hl => ?_⟩
  exact of_decide_eq_true (List.all_eq_true.1 h7 l (by simp [four]; omega))
def cut4 (nw : Lvls) : Lvls := fun i => (four.map nw).getD i []
theorem cut4_at (nw : Lvls) {i : Nat} (h : i < 4) : cut4 nw i = nw i := by
  rcases (by omega : i = 0 ∨ i = 1 ∨ i = 2 ∨ i = 3) with rfl | rfl | rfl | rfl <;> rfl
theorem decE_enc {E : EditM} (h : encOk E = true) (r : List UInt8) : decE (encW E ++ r, false) = ({ E with nw := cut4 E.nw }, (r, false)) := by
  obtain ⟨h1, h2, h3, h4, h5, h6, h7⟩ := encOk_parts h
  have hm : ∀ l, l < 4 → ∀ m ∈ E.nw l, mayB m = true := fun l hl m hm => List.all_eq_true.1 h1 m (mem_flat.2 ⟨l, hl, hm⟩)
  unfold big40 at h2 h3 h4 h6
  have hlv := levelsR_short (four.map E.nw) r (by
    intro l hl
    obtain ⟨i, hi, rfl⟩ := List.mem_map.1 hl
    have : i < 4 := by simp [four] at hi; omega
    exact ⟨hm i this, h7 i this⟩)
  rw [List.map_map] at hlv
  have hlv4 : levelsR 4 ((four.map fun l => levelW (E.nw l)).flatten ++ r, false) = (four.map E.nw, (r, false)) := hlv
  unfold decE encW
  simp only [headL, List.map_cons, List.map_nil, List.flatten_cons, List.flatten_nil, List.append_assoc, List.append_nil, List.nil_append]
  rw [numR_short h2 (by omega)]
  dsimp only
  rw [numR_short h3 (by omega)]
  dsimp only
  rw [numR_short h4 (by omega)]
  dsimp only
  rw [numR_short h5 (by omega)]
  dsimp only
  rw [numsR_short (by decide) E.gone _ h6]
  dsimp only
  rw [hlv4]
  rfl
theorem allB_cut (nw : Lvls) : allB (cut4 nw) = allB nw := rfl
theorem decP_enc {E : EditM} (h : encOk E = true) : decP (encW E) = ({ E with nw := cut4 E.nw }, 0) := by
  have := decE_enc h []
  rw [List.append_nil] at this
  unfold decP
  rw [this]
  dsimp only
  rw [if_neg (by rw [allB_cut, (encOk_parts h).1]; simp)]
theorem decP_more {E : EditM} (h : encOk E = true) {r : List UInt8} (hr : r ≠ []) : decP (encW E ++ r) = (nilE, 2) := by
  unfold decP
  rw [decE_enc h r]
  exact if_pos (.inr (.inl hr))
end Go.Proofs.YtdmdnhceiddcfaaGreat
