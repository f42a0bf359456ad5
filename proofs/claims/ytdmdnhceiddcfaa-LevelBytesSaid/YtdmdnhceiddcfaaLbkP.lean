/- What is decoded has just these bytes; a version's edit makes it of nothing: in plain Lean. -/
import Derived.Test.YtdmdnhceiddcfaaEncR
set_option linter.all false
namespace Go.Scree
theorem takeN_back : ∀ (l : List UInt8) (i n m : Nat) (r : List UInt8), takeN l i n = some (m, r) → ∃ v, m = n + v * 2 ^ (7 * i) ∧ l = shortB v ++ r ∧ (v = 0 → i = 0)
  | [], _, _, _, _, h => by simp [takeN] at h
  | c :: l, i, n, m, r, h => by
    unfold takeN at h
    split at h
    · cases h
    · split at h
      · rename_i hlow
        split at h
        · cases h
        · rename_i hz
          simp only [Option.some.injEq, Prod.mk.injEq] at h
          refine ⟨c.toNat, ?_, ?_, fun h0 => ?_⟩
          · rw [← h.1, Nat.mod_eq_of_lt hlow]
          · rw [shortB_low hlow, h.2]; simp
          · rcases Nat.eq_zero_or_pos i with e | e
            · exact e
            · exact absurd ⟨h0, e⟩ hz
      · rename_i hhigh
        obtain ⟨v, h1, h2, h3⟩ := takeN_back l (i + 1) _ m r h
        have hv : v ≠ 0 := fun e => by have := h3 e; omega
        have hc := c.toNat_lt
        refine ⟨c.toNat % 128 + 128 * v, ?_, ?_, fun h0 => by omega⟩
        · rw [h1, pow_split, Nat.add_mul, Nat.mul_assoc, Nat.mul_left_comm v 128]; omega
        · rw [shortB_high (by omega)]
          have e1 : (c.toNat % 128 + 128 * v) % 128 + 128 = c.toNat := by omega
          have e2 : (c.toNat % 128 + 128 * v) / 128 = v := by omega
          rw [e1, e2, List.cons_append, ← h2]
          simp
theorem take_back {l : List UInt8} {m : Nat} {r : List UInt8} (h : takeN l 0 0 = some (m, r)) : l = shortB m ++ r := by
  obtain ⟨v, h1, h2, _⟩ := takeN_back l 0 0 m r h
  have : v = m := by simpa using h1.symm
  rw [← this]; exact h2
end Go.Scree
namespace Go.Proofs.Ytdmdnhceiddcfaa
open Go.RowKit Go.Sl Go.Scree

theorem numR_back {m : Nat} {s : RdS} (h : (numR m s).2.2 = false) : s.2 = false ∧ (numR m s).1 ≤ m ∧ s.1 = numW (numR m s).1 ++ (numR m s).2.1 := by
  unfold numR at h ⊢
  cases ht : takeN s.1 0 0 with
  | none => rw [ht] at h; cases h
  | some x =>
    obtain ⟨n, r⟩ := x
    rw [ht] at h
    dsimp only at h ⊢
    split at h
    · cases h
    · rename_i hc
      rw [if_neg hc]
      refine ⟨h, by omega, take_back ht⟩
theorem textR_back {s : RdS} (h : (textR s).2.2 = false) : s.2 = false ∧ s.1 = textW (textR s).1 ++ (textR s).2.1 := by
  unfold textR at h ⊢
  split at h
  · cases h
  · rename_i hc
    rw [if_neg hc]
    have h2 : (numR 100 s).2.2 = false := h
    obtain ⟨h3, h4, h5⟩ := numR_back h2
    refine ⟨h3, ?_⟩
    have hl : ((numR 100 s).2.1.take (numR 100 s).1).length = (numR 100 s).1 := by rw [List.length_take]; omega
    have hs : (⟨((numR 100 s).2.1.take (numR 100 s).1).toArray⟩ : ByteArray).size = (numR 100 s).1 := by
      show (List.toArray _).size = _
      rw [List.size_toArray, hl]
    unfold textW
    rw [hs]
    conv => lhs; rw [h5]
    unfold numW
    rw [List.append_assoc]
    congr 1
    exact (List.take_append_drop _ _).symm
theorem metaR_back {s : RdS} (h : (metaR s).2.2 = false) : s.2 = false ∧ s.1 = metaW (metaR s).1 ++ (metaR s).2.1 := by
  unfold metaR at h ⊢
  dsimp only at h ⊢
  obtain ⟨f1, _, f3⟩ := numR_back h
  obtain ⟨d1, d2⟩ := textR_back f1
  obtain ⟨c1, c2⟩ := textR_back d1
  obtain ⟨b1, _, b3⟩ := numR_back c1
  obtain ⟨a1, _, a3⟩ := numR_back b1
  refine ⟨a1, ?_⟩
  unfold metaW
  dsimp only
  rw [Int.toNat_natCast]
  conv => lhs; rw [a3, b3, c2, d2, f3]
  simp only [List.append_assoc]
theorem numsR_back {m : Nat} : ∀ (n : Nat) (s : RdS), (numsR m n s).2.2 = false → s.2 = false ∧ (∀ x ∈ (numsR m n s).1, x ≤ m) ∧ s.1 = ((numsR m n s).1.map numW).flatten ++ (numsR m n s).2.1
  | 0, s, h => ⟨h, by simp [numsR], by simp [numsR]⟩
  | n + 1, s, h => by
    unfold numsR at h ⊢
    dsimp only at h ⊢
    obtain ⟨h1, h2, h3⟩ := numsR_back n _ h
    obtain ⟨g1, g2, g3⟩ := numR_back h1
    refine ⟨g1, fun x hx => ?_, ?_⟩
    · rcases List.mem_cons.1 hx with rfl | hx
      · exact g2
      · exact h2 x hx
    · rw [List.map_cons, List.flatten_cons, List.append_assoc, ← h3]
      exact g3
theorem metasR_back : ∀ (n : Nat) (s : RdS), (metasR n s).2.2 = false → s.2 = false ∧ s.1 = ((metasR n s).1.map metaW).flatten ++ (metasR n s).2.1
  | 0, s, h => ⟨h, by simp [metasR]⟩
  | n + 1, s, h => by
    unfold metasR at h ⊢
    dsimp only at h ⊢
    obtain ⟨h1, h3⟩ := metasR_back n _ h
    obtain ⟨g1, g3⟩ := metaR_back h1
    refine ⟨g1, ?_⟩
    rw [List.map_cons, List.flatten_cons, List.append_assoc, ← h3]
    exact g3
theorem levelR_back {s : RdS} (h : (levelR s).2.2 = false) : s.2 = false ∧ (levelR s).1.length ≤ 30 ∧ s.1 = levelW (levelR s).1 ++ (levelR s).2.1 := by
  unfold levelR at h ⊢
  obtain ⟨h1, h3⟩ := metasR_back _ _ h
  obtain ⟨g1, g2, g3⟩ := numR_back h1
  have hl := metas_len (numR 30 s).1 (numR 30 s).2
  refine ⟨g1, by rw [hl]; exact g2, ?_⟩
  unfold levelW
  rw [hl, List.append_assoc, ← h3]
  exact g3
theorem levelsR_back : ∀ (n : Nat) (s : RdS), (levelsR n s).2.2 = false → s.2 = false ∧ ((levelsR n s).1.length = n ∧ ∀ l ∈ (levelsR n s).1, l.length ≤ 30) ∧ s.1 = ((levelsR n s).1.map levelW).flatten ++ (levelsR n s).2.1
  | 0, s, h => ⟨h, ⟨rfl, by simp [levelsR]⟩, by simp [levelsR]⟩
  | n + 1, s, h => by
    unfold levelsR at h ⊢
    dsimp only at h ⊢
    obtain ⟨h1, ⟨h0, h2⟩, h3⟩ := levelsR_back n _ h
    obtain ⟨g1, g2, g3⟩ := levelR_back h1
    refine ⟨g1, ⟨by rw [List.length_cons, h0], fun l hl => ?_⟩, ?_⟩
    · rcases List.mem_cons.1 hl with rfl | hl
      · exact g2
      · exact h2 l hl
    · rw [List.map_cons, List.flatten_cons, List.append_assoc, ← h3]
      exact g3
theorem decE_back {s : RdS} (h : (decE s).2.2 = false) : s.1 = encW (decE s).1 ++ (decE s).2.1 ∧ (decE s).1.next ≤ big40 ∧ (decE s).1.log ≤ big40 ∧ (decE s).1.seq ≤ big40 ∧ (decE s).1.gone.length ≤ 120 ∧ (∀ n ∈ (decE s).1.gone, n ≤ big40) ∧ ∀ l, l < 4 → ((decE s).1.nw l).length ≤ 30 := by
  unfold decE at h ⊢
  dsimp only at h ⊢
  obtain ⟨l1, ⟨l2, l3⟩, l4⟩ := levelsR_back 4 _ h
  obtain ⟨g1, g2, g3⟩ := numsR_back _ _ l1
  obtain ⟨n1, n2, n3⟩ := numR_back g1
  obtain ⟨c1, c2, c3⟩ := numR_back n1
  obtain ⟨b1, b2, b3⟩ := numR_back c1
  obtain ⟨a1, a2, a3⟩ := numR_back b1
  have hgl := nums_len 1099511627776 (numR 120 (numR 1099511627776 (numR 1099511627776 (numR 1099511627776 s).2).2).2).1 (numR 120 (numR 1099511627776 (numR 1099511627776 (numR 1099511627776 s).2).2).2).2
  refine ⟨?_, a2, b2, c2, by rw [hgl]; exact n2, g2, fun l hl => ?_⟩
  · unfold encW headL
    dsimp only
    rw [hgl]
    simp only [List.map_cons, List.map_nil, List.flatten_cons, List.flatten_nil, List.append_assoc, List.append_nil]
    generalize hL : levelsR 4 _ = L at *
    obtain ⟨ls, t⟩ := L
    dsimp only at l2 l4 ⊢
    have e4 : (four.map fun l => levelW (ls.getD l [])) = ls.map levelW := by
      match ls, l2 with
      | [p, q, u, v], _ => rfl
    rw [e4, ← l4, ← g3, ← n3, ← c3, ← b3]
    exact a3
  · generalize hL : levelsR 4 _ = L at *
    obtain ⟨ls, t⟩ := L
    dsimp only at l2 l3 ⊢
    refine l3 _ ?_
    match ls, l2 with
    | [p, q, u, v], _ =>
      rcases (by omega : l = 0 ∨ l = 1 ∨ l = 2 ∨ l = 3) with rfl | rfl | rfl | rfl <;> simp
theorem decP_back {l : List UInt8} (h : (decP l).2 = 0) : encOk (decP l).1 = true ∧ encW (decP l).1 = l := by
  unfold decP at h ⊢
  split at h
  · exact absurd h (by decide)
  · rename_i hc
    rw [if_neg hc]
    dsimp only
    have h1 : (decE (l, false)).2.2 = false := by
      cases hb : (decE (l, false)).2.2 with
      | false => rfl
      | true => exact absurd (.inl hb) hc
    have h2 : (decE (l, false)).2.1 = [] := by
      cases hb : (decE (l, false)).2.1 with
      | nil => rfl
      | cons x y => exact absurd (.inr (.inl (by rw [hb]; simp))) hc
    have h3 : allB (decE (l, false)).1.nw = true := by
      cases hb : allB (decE (l, false)).1.nw with
      | true => rfl
      | false => exact absurd (.inr (.inr hb)) hc
    obtain ⟨e, p1, p2, p3, p4, p5, p6⟩ := decE_back h1
    rw [h2, List.append_nil] at e
    refine ⟨?_, e.symm⟩
    unfold encOk
    rw [h3, decide_eq_true p1, decide_eq_true p2, decide_eq_true p3, decide_eq_true p4]
    simp only [Bool.true_and, Bool.and_true, Bool.and_eq_true, List.all_eq_true, decide_eq_true_eq]
    refine ⟨p5, ?_⟩
    unfold fewB
    rw [List.all_eq_true]
    intro i hi
    exact decide_eq_true (p6 i (by simp [four] at hi; omega))
theorem decP_code {l : List UInt8} : (decP l).2 = 0 ∨ (decP l).2 = 2 := by
  unfold decP
  split
  · exact .inr rfl
  · exact .inl rfl
/-- A version's edit makes it of nothing. -/
theorem apply_again {E : EditM} {V : VerM} (h : applyP newV E = .inl V) : ∃ W, applyP newV (editOf V) = .inl W ∧ (∀ l, l < 4 → W.lv l = V.lv l) ∧ W.next = V.next ∧ W.log = V.log ∧ W.seq = V.seq := by
  have hV := apply_ok newV_ok h
  obtain ⟨c⟩ := apply_came h
  have en : V.next = told E.next 1 := congrArg VerM.next c.out
  have hn0 : V.next ≠ 0 := by
    rw [en]; unfold told; split <;> omega
  have hall : allB V.lv = true := List.all_eq_true.2 hV.may
  have hcome : ∀ l, l < 4 → comeP (fun _ => []) V.lv l = V.lv l := by
    intro l hl
    have hp : (comeP (fun _ => []) V.lv l).Perm (V.lv l) := by have := come_perm (fun _ => []) V.lv l; simpa using this
    have hpart : Part (fun _ => []) newV.lv := fun _ => List.Sublist.refl _
    rcases Nat.eq_zero_or_pos l with rfl | h1
    · have ht : (comeP (fun _ => []) V.lv 0).Pairwise DownF := came_top newV_ok hpart
      have hd : (V.lv 0).Pairwise DownF := hV.top.imp (fun h => by show _ ≤ _; omega)
      exact (top_same hd ht hp.symm (level_nodup hV.once (by omega))).symm
    · have hu : (comeP (fun _ => []) V.lv l).Pairwise UpF := came_up newV_ok hpart h1 hl
      exact (up_same (hV.upF h1 hl) hu hp.symm (fun m hm => (may_parts (hV.may m (mem_flat.2 ⟨l, hl, hm⟩))).2.2.2.2.1) (by
        have := hV.shape
        simp only [shapeB, List.all_cons, List.all_nil, Bool.and_true, Bool.and_eq_true] at this
        rcases (by omega : l = 1 ∨ l = 2 ∨ l = 3) with rfl | rfl | rfl
        · exact this.1
        · exact this.2.1
        · exact this.2.2)).symm
  have htw : twiceB (filesM newV.lv) (filesM V.lv) = false := by
    have key : ∀ (ns fs : List Nat), (fs ++ ns).Nodup → twiceB fs ns = false := by
      intro ns
      induction ns with
      | nil => intro fs _; rfl
      | cons n ns ih =>
        intro fs hd
        unfold twiceB
        have h2 : (fs ++ [n] ++ ns).Nodup := by simpa using hd
        rw [ih _ h2, Bool.or_false]
        rw [List.nodup_append] at hd
        have := hd.2.2
        cases hc : fs.contains n with
        | false => rfl
        | true => exact absurd rfl (this n (by simpa using hc) n (by simp))
    exact key (filesM V.lv) [] hV.once
  have hfew : fewB (comeP (fun _ => []) V.lv) = true := by
    rw [← hV.few]
    unfold fewB
    simp only [four, List.all_cons, List.all_nil]
    rw [hcome 0 (by omega), hcome 1 (by omega), hcome 2 (by omega), hcome 3 (by omega)]
  have hshape : shapeB (comeP (fun _ => []) V.lv) = true := by
    rw [← hV.shape]
    unfold shapeB
    simp only [List.all_cons, List.all_nil]
    rw [hcome 1 (by omega), hcome 2 (by omega), hcome 3 (by omega)]
  have t1 : told V.next 1 = V.next := by unfold told; rw [if_neg hn0]
  have t2 : ∀ n, told n 0 = n := by intro n; unfold told; split <;> omega
  refine ⟨⟨comeP (fun _ => []) V.lv, told V.next 1, told V.log 0, told V.seq 0⟩, ?_, hcome, t1, t2 _, t2 _⟩
  unfold applyP editOf
  dsimp only
  rw [hall, if_neg (by simp)]
  unfold goneP
  dsimp only
  rw [show (newV.lv) = (fun _ => []) from rfl] at htw ⊢
  rw [htw, if_neg (by simp)]
  have n1 : numOk V.next newV.next = true := by
    have := hV.next
    show (V.next == 0 || (decide (1 ≤ V.next) && decide (V.next ≤ 1099511627776))) = true
    rw [decide_eq_true this, decide_eq_true (show 1 ≤ V.next by omega)]; simp
  have n2 : numOk V.log newV.log = true := by
    have := hV.log
    show (V.log == 0 || (decide (0 ≤ V.log) && decide (V.log ≤ 1099511627776))) = true
    rw [decide_eq_true this]; simp
  have n3 : numOk V.seq newV.seq = true := by
    have := hV.seq
    show (V.seq == 0 || (decide (0 ≤ V.seq) && decide (V.seq ≤ 1099511627776))) = true
    rw [decide_eq_true this]; simp
  rw [n1, n2, n3, if_neg (by simp)]
  have hb : ((flatM V.lv).all fun m => decide (m.file < told V.next newV.next) && decide (m.seq ≤ told V.seq newV.seq)) = true := by
    rw [List.all_eq_true]
    intro m hm
    have := hV.below m hm
    rw [show newV.next = 1 from rfl, show newV.seq = 0 from rfl, t1, t2, decide_eq_true this.1, decide_eq_true this.2]
    rfl
  rw [hb, if_neg (by simp), hfew, if_neg (by simp), hshape, if_neg (by simp)]
  rfl
theorem edr_cong {w : World} {g : SlA} {S : Nat → SlA} {E E' : EditM} (h : EditR w g S E) (hg : E'.gone = E.gone) (hl : ∀ l, l < 4 → E'.nw l = E.nw l) : EditR w g S E' :=
  ⟨by rw [hg]; exact h.gone, fun l h4 => by rw [hl l h4]; exact h.nw l h4, fun l h4 => by rw [hl l h4]; exact h.few l h4⟩
end Go.Proofs.Ytdmdnhceiddcfaa
