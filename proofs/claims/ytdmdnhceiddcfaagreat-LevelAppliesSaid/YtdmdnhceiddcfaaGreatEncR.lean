/- The reader of package level. · The walk of Decode. · What is encoded is decoded to the same: in plain Lean. -/
import Derived.Test.YtdmdnhceiddcfaaGreatLvlQ
import Derived.Test.YtdmdnhceiddcfaaGreatNumB
import Derived.Test.YtdmdnhceiddcfaaGreatNumT
import Derived.Test.YtdmdnhceiddcfaaGreatEncA
set_option linter.all false
namespace Go.Proofs.YtdmdnhceiddcfaaGreat
open Go.RowKit Go.Sl Go.Scree

/-- The reader holds these bytes yet. -/
def RdO (w : World) (b : Nat) (s : RdS) (F : List Chunk) : Prop := Own w (pts b (.cells #[.string ⟨s.1.toArray⟩, .bool s.2] 89 (0, 0)) :: F)
set_option maxRecDepth 20000 in
set_option maxHeartbeats 3200000 in
theorem rnumber_c (b : Nat) (s : RdS) (m : Nat) (M : Int) (hM : M = m) (w : World) (F : List Chunk) (h : RdO w b s F) (hs : s.1.length ≤ 1000000) :
    Calls Tryz.prog 41 #[.pointer (some ⟨b, 0, none⟩), .int .u64 M] w fun e w' => e = .returned (.int .u64 (numR m s).1) ∧ RdO w' b (numR m s).2 F ∧ Ext w w' := by
  obtain ⟨l, bad⟩ := s
  subst hM
  dsimp only at hs
  have c0 : w.cell? ⟨b, 0, none⟩ = some (.string ⟨l.toArray⟩) := Own.cell (i := 0) h rfl
  have ht := hid (ntake_c ⟨l.toArray⟩ w _ h (by simp [ByteArray.size, maxLen]; omega))
  clear h hs
  have hx := bool_cases bad
  cases htk : takeN l 0 0 with
  | none =>
    have hr : Hid (numR m (l, bad) = (0, (l, true))) := hid (by unfold numR; rw [htk])
    have ht2 : Hid (Calls Tryz.prog 60 #[.string ⟨l.toArray⟩] w fun e w' => e = .returned (.tuple #[.int .u64 0, .string ⟨#[]⟩, .bool false]) ∧ RdO w' b (l, bad) F ∧ Ext w w') := hid (by
      refine ht.out.mono ?_
      rintro e w' ⟨he, o', e'⟩
      refine ⟨?_, o', e'⟩
      rw [he]
      show Ending.returned (takeV (takeN l 0 0)) = _
      rw [htk]; rfl)
    clear ht htk
    rcases hx with rfl | rfl
    all_goals
      go_enter Tryz.func41, Tryz.ntmps41
      go_wp2_with fail
      refine ht2.out.mono ?_
      rintro e w1 ⟨rfl, o1, e1⟩
      have d1 : w1.cell? ⟨b, 1, none⟩ = some (.bool _) := Own.cell (i := 1) o1 rfl
      have f1 : w1.frozen? ⟨b, 1, none⟩ = false := Own.free o1 1
      have o1H := hid o1
      clear o1
      go_wp2_with fail
      go_ret
      refine ⟨by rw [hr.out]; rfl, ?_, e1.set _ _⟩
      rw [hr.out]
      exact Own.set (i := 1) o1H.out (.bool true)
  | some p =>
    obtain ⟨n, r⟩ := p
    have ht2 : Hid (Calls Tryz.prog 60 #[.string ⟨l.toArray⟩] w fun e w' => e = .returned (.tuple #[.int .u64 n, .string ⟨r.toArray⟩, .bool true]) ∧ RdO w' b (l, bad) F ∧ Ext w w') := hid (by
      refine ht.out.mono ?_
      rintro e w' ⟨he, o', e'⟩
      refine ⟨?_, o', e'⟩
      rw [he]
      show Ending.returned (takeV (takeN l 0 0)) = _
      rw [htk]; rfl)
    have hr0 : Hid (numR m (l, bad) = if bad = true ∨ m < n then (0, (l, true)) else (n, (r, bad))) := hid (by unfold numR; rw [htk])
    clear ht htk
    by_cases hb : bad = true ∨ m < n
    · have hr : Hid (numR m (l, bad) = (0, (l, true))) := hid (by rw [hr0.out, if_pos hb])
      clear hr0
      have hd : bad = true ∨ bad = false ∧ m < n := by
        rcases hx with rfl | rfl
        · exact .inl rfl
        · exact .inr ⟨rfl, by rcases hb with h | h; cases h; omega⟩
      clear hb hx
      rcases hd with rfl | ⟨rfl, d⟩
      all_goals
        go_enter Tryz.func41, Tryz.ntmps41
        go_wp2_with fail
        refine ht2.out.mono ?_
        rintro e w1 ⟨rfl, o1, e1⟩
        have d1 : w1.cell? ⟨b, 1, none⟩ = some (.bool _) := Own.cell (i := 1) o1 rfl
        have f1 : w1.frozen? ⟨b, 1, none⟩ = false := Own.free o1 1
        have o1H := hid o1
        clear o1
        go_wp2_with fail
        go_ret
        refine ⟨by rw [hr.out]; rfl, ?_, e1.set _ _⟩
        rw [hr.out]
        exact Own.set (i := 1) o1H.out (.bool true)
    · have hr : Hid (numR m (l, bad) = (n, (r, bad))) := hid (by rw [hr0.out, if_neg hb])
      clear hr0
      obtain rfl : bad = false := by rcases hx with rfl | rfl; exact absurd (.inl rfl) hb; rfl
      have d : ¬ m < n := fun h => hb (.inr h)
      clear hb hx
      go_enter Tryz.func41, Tryz.ntmps41
      go_wp2_with fail
      refine ht2.out.mono ?_
      rintro e w1 ⟨rfl, o1, e1⟩
      have d0 : w1.cell? ⟨b, 0, none⟩ = some (.string ⟨l.toArray⟩) := Own.cell (i := 0) o1 rfl
      have d1 : w1.cell? ⟨b, 1, none⟩ = some (.bool false) := Own.cell (i := 1) o1 rfl
      have f0 : w1.frozen? ⟨b, 0, none⟩ = false := Own.free o1 0
      have o1H := hid o1
      clear o1
      go_wp2_with fail
      go_ret
      refine ⟨by rw [hr.out]; rfl, ?_, e1.set _ _⟩
      rw [hr.out]
      exact Own.set (i := 0) o1H.out (.string ⟨r.toArray⟩)
theorem extract_head (l : List UInt8) (n : Nat) : (⟨l.toArray⟩ : ByteArray).extract 0 n = ⟨(l.take n).toArray⟩ := by
  have h : ((⟨l.toArray⟩ : ByteArray).extract 0 n).data.toList = l.take n := by rw [Lib.extract_data]; simp
  cases he : (⟨l.toArray⟩ : ByteArray).extract 0 n with
  | mk d => rw [he] at h; congr 1; exact Array.toList_inj.1 h
set_option maxRecDepth 20000 in
set_option maxHeartbeats 3200000 in
theorem rtext_c (b : Nat) (s : RdS) (w : World) (F : List Chunk) (h : RdO w b s F) (hs : s.1.length ≤ 1000000) :
    Calls Tryz.prog 42 #[.pointer (some ⟨b, 0, none⟩)] w fun e w' => e = .returned (.string (textR s).1) ∧ RdO w' b (textR s).2 F ∧ Ext w w' := by
  have hn := hid (rnumber_c b s 100 100 rfl w F h hs)
  have hl := numR_len 100 s
  have hm := numR_le 100 s
  have ht : Hid (textR s = if (numR 100 s).2.2 = true ∨ (numR 100 s).2.1.length < (numR 100 s).1 then (⟨#[]⟩, ((numR 100 s).2.1, true)) else (⟨((numR 100 s).2.1.take (numR 100 s).1).toArray⟩, ((numR 100 s).2.1.drop (numR 100 s).1, (numR 100 s).2.2))) := hid rfl
  generalize textR s = tr at *
  generalize numR 100 s = q at *
  obtain ⟨n, l, bad⟩ := q
  dsimp only at hn hl hm ht
  clear h
  have hx := bool_cases bad
  have hw : IntKind.i64.wrap (n : Int) = n := Go.IntWalk.i64_in _ (by omega)
  have hsz : (⟨l.toArray⟩ : ByteArray).size = l.length := by simp [ByteArray.size]
  by_cases hb : bad = true ∨ l.length < n
  · have hr := hid (ht.out.trans (if_pos hb))
    clear ht
    have hd : bad = true ∨ bad = false ∧ l.length < n := by
      rcases hx with rfl | rfl
      · exact .inl rfl
      · exact .inr ⟨rfl, by rcases hb with h | h; cases h; omega⟩
    clear hb hx
    rcases hd with rfl | ⟨rfl, d⟩
    all_goals
      go_enter Tryz.func42, Tryz.ntmps42
      go_wp2_with fail
      refine hn.out.mono ?_
      rintro e w1 ⟨rfl, o1, e1⟩
      have d0 : w1.cell? ⟨b, 0, none⟩ = some (.string ⟨l.toArray⟩) := Own.cell (i := 0) o1 rfl
      have d1 : w1.cell? ⟨b, 1, none⟩ = some (.bool _) := Own.cell (i := 1) o1 rfl
      have f1 : w1.frozen? ⟨b, 1, none⟩ = false := Own.free o1 1
      have o1H := hid o1
      clear o1
      go_wp2_with fail
      go_ret
      refine ⟨by rw [hr.out]; rfl, ?_, e1.set _ _⟩
      rw [hr.out]
      exact Own.set (i := 1) o1H.out (.bool true)
  · have hr := hid (ht.out.trans (if_neg hb))
    clear ht
    obtain rfl : bad = false := by rcases hx with rfl | rfl; exact absurd (.inl rfl) hb; rfl
    have d : ¬ l.length < n := fun h => hb (.inr h)
    have d2 : n ≤ l.length := by omega
    clear hb hx
    go_enter Tryz.func42, Tryz.ntmps42
    go_wp2_with fail
    refine hn.out.mono ?_
    rintro e w1 ⟨rfl, o1, e1⟩
    have d0 : w1.cell? ⟨b, 0, none⟩ = some (.string ⟨l.toArray⟩) := Own.cell (i := 0) o1 rfl
    have d1 : w1.cell? ⟨b, 1, none⟩ = some (.bool false) := Own.cell (i := 1) o1 rfl
    have f0 : w1.frozen? ⟨b, 0, none⟩ = false := Own.free o1 0
    have o1H := hid o1
    clear o1
    go_wp2_with fail
    have hx0 : (⟨l.toArray⟩ : ByteArray).extract 0 n = ⟨(l.take n).toArray⟩ := extract_head l n
    have hx1 : (⟨l.toArray⟩ : ByteArray).extract n l.length = ⟨(l.drop n).toArray⟩ := by
      have := extract_from' ⟨l.toArray⟩ n
      rw [hsz] at this
      exact this
    rw [hx0, hx1]
    go_ret
    refine ⟨by rw [hr.out]; rfl, ?_, e1.set _ _⟩
    rw [hr.out]
    exact Own.set (i := 0) o1H.out (.string ⟨(l.drop n).toArray⟩)
end Go.Proofs.YtdmdnhceiddcfaaGreat
namespace Go.Proofs.YtdmdnhceiddcfaaGreat
open Go.RowKit Go.Sl Go.Scree

def DecSays (w w' : World) (e : Ending) (r : EditM × Int) : Prop := Kp w w' ∧ ∃ g S, e = .returned (.tuple #[editV g S r.1, .int .i64 r.2]) ∧ EditR w' g S r.1
section
variable {w W0 : World} {eb rb : Nat} {g : SlA} {S : Nat → SlA} {E : EditM} {D : List Chunk}
theorem EdO.zcells (h : EdO w W0 eb rb g S E D) {i : Nat} {v : Value} (hv : zeroE[i]? = some v) : (put w rb 0 zeroE.toList).cell? ⟨rb, i, none⟩ = some v := by
  have o := own_put zeroE.toList (o := 0) h.own.swap
  refine o.cell ?_
  have e : over zeroE 0 zeroE.toList = zeroE := rfl
  rw [e]
  exact hv
theorem EdO.zkp (h : EdO w W0 eb rb g S E D) : Kp W0 (put w rb 0 zeroE.toList) := kp_of ((own_put zeroE.toList (o := 0) h.own.swap).drop.drop) (ext_put zeroE.toList rb 0 h.ext)
end
theorem edr_nil (w : World) : EditR w nilA (fun _ => nilA) nilE := ⟨.inl ⟨⟨none, 0, rfl, by simp [maxLen]⟩, rfl⟩, fun _ _ => rd_nilA w, fun _ _ => by simp [nilE]⟩
theorem upd_upd {α : Type} (f : Nat → α) (l : Nat) (x y : α) : upd (upd f l x) l y = upd f l y := by
  funext i
  unfold upd
  split <;> rfl
theorem range_upd {α : Type} (f : Nat → α) (l : Nat) (x : α) : (List.range (l + 1)).map (upd f l x) = (List.range l).map f ++ [x] := by
  rw [List.range_succ, List.map_append, List.map_cons, List.map_nil, upd_at]
  congr 1
  refine List.map_congr_left fun i hi => upd_ne _ _ ?_
  rw [List.mem_range] at hi
  omega
theorem rd_count {α : Type} {En : Enc α} {w : World} {s : SlA} {xs : List α} (h : Rd w En s.v xs) : s.n = xs.length := by
  obtain ⟨_, _, hv, _⟩ := h.form
  unfold SlA.v at hv
  simp only [Value.slice.injEq] at hv
  exact hv.2.1
def rdC (s : RdS) : Obj := .cells #[.string ⟨s.1.toArray⟩, .bool s.2] 89 (0, 0)
def edC (g : SlA) (S : Nat → SlA) (E : EditM) : Obj := .cells (editCells g S E) 34 (0, 0)
theorem rnum {b : Nat} {s : RdS} (m : Nat) (M : Int) (hM : M = m) {w w0 : World} {F : List Chunk} (h : Own w (pts b (rdC s) :: F)) (e : Ext w0 w) (hs : s.1.length ≤ 1000000) :
    Calls Tryz.prog 41 #[.pointer (some ⟨b, 0, none⟩), .int .u64 M] w fun e w' => e = .returned (.int .u64 (numR m s).1) ∧ Own w' (pts b (rdC (numR m s).2) :: F) ∧ Ext w0 w' ∧ (numR m s).2.1.length ≤ 1000000 ∧ (numR m s).1 ≤ m := by
  refine (rnumber_c b s m M hM w F h hs).mono ?_
  rintro e1 w' ⟨h1, h2, h3⟩
  exact ⟨h1, h2, e.trans h3, Nat.le_trans (numR_len m s) hs, numR_le m s⟩
theorem rtxt {b : Nat} {s : RdS} {w w0 : World} {F : List Chunk} (h : Own w (pts b (rdC s) :: F)) (e : Ext w0 w) (hs : s.1.length ≤ 1000000) :
    Calls Tryz.prog 42 #[.pointer (some ⟨b, 0, none⟩)] w fun e w' => e = .returned (.string (textR s).1) ∧ Own w' (pts b (rdC (textR s).2) :: F) ∧ Ext w0 w' ∧ (textR s).2.1.length ≤ 1000000 := by
  refine (rtext_c b s w F h hs).mono ?_
  rintro e1 w' ⟨h1, h2, h3⟩
  exact ⟨h1, h2, e.trans h3, Nat.le_trans (textR_len s) hs⟩
set_option maxRecDepth 20000 in
set_option maxHeartbeats 6400000 in
theorem decode_c (l : List UInt8) (hl : l.length ≤ 1000000) (w : World) :
    Calls Tryz.prog 15 #[.string ⟨l.toArray⟩] w fun e w' => DecSays w w' e (decP l) := by
  have hlH := hid hl
  have hdec : Hid (decP l = if (decE (l, false)).2.2 = true ∨ (decE (l, false)).2.1 ≠ [] ∨ allB (decE (l, false)).1.nw = false then (nilE, 2) else ((decE (l, false)).1, 0)) := hid rfl
  have hde : Hid (decE (l, false) = (let a := numR 1099511627776 (l, false)
    let b := numR 1099511627776 a.2
    let c := numR 1099511627776 b.2
    let n := numR 120 c.2
    let g := numsR 1099511627776 n.1 n.2
    let l := levelsR 4 g.2
    (⟨g.1, fun i => l.1.getD i [], a.1, b.1, c.1⟩, l.2))) := hid rfl
  generalize decP l = res at *
  generalize decE (l, false) = dE at *
  have o0 := hid ((((Own.start w).alloc (.cells zeroE 34 (0, 0))).alloc (rdC (l, false))))
  have e0 := hid (((Ext.refl w).alloc (.cells zeroE 34 (0, 0))).alloc (rdC (l, false)))
  simp only [World.size_alloc] at o0
  have hr0 := hid (rnum 1099511627776 1099511627776 rfl o0.out e0.out hl)
  unfold zeroE rdC at hr0
  clear o0 e0 hl
  generalize numR 1099511627776 (l, false) = qa at *
  obtain ⟨na, sa⟩ := qa
  dsimp only at hde hr0
  go_enter Tryz.func15, Tryz.ntmps15
  go_wp2_with fail
  obtain ⟨rb, hrb⟩ : ∃ rb, w.heap.size = rb := ⟨_, rfl⟩
  obtain ⟨xb, hxb⟩ : ∃ xb, rb + 1 = xb := ⟨_, rfl⟩
  obtain ⟨F, hF⟩ : ∃ F, F = [pts rb (.cells zeroE 34 (0, 0)), Sl.base w w.heap.size] := ⟨_, rfl⟩
  have hr1 : Hid (Calls Tryz.prog 41 #[.pointer (some ⟨xb, 0, none⟩), .int .u64 1099511627776] ((w.alloc (.cells #[.slice none 0 0, .slice none 0 0, .slice none 0 0, .slice none 0 0, .slice none 0 0, .int .u64 0, .int .u64 0, .int .u64 0] 34 (0, 0))).alloc (.cells #[.string ⟨l.toArray⟩, .bool false] 89 (0, 0))) fun e w' => e = .returned (.int .u64 na) ∧ Own w' (pts xb (rdC sa) :: F) ∧ Ext w w' ∧ sa.1.length ≤ 1000000 ∧ na ≤ 1099511627776) := hid (by
    rw [hF, ← hxb, ← hrb]; exact hr0.out)
  rw [hrb, hxb]
  clear hr0 hxb
  refine hr1.out.mono ?_
  rintro e w1 ⟨rfl, o1, e1, l1, m1⟩
  have hr2 := hid (rnum 1099511627776 1099511627776 rfl o1 e1 l1)
  clear o1 e1 l1 hr1
  generalize numR 1099511627776 sa = qb at *
  obtain ⟨nb, sb⟩ := qb
  dsimp only at hde hr2
  go_wp2_with fail
  refine hr2.out.mono ?_
  rintro e w2 ⟨rfl, o2, e2, l2, m2⟩
  have hr3 := hid (rnum 1099511627776 1099511627776 rfl o2 e2 l2)
  clear o2 e2 l2 hr2
  generalize numR 1099511627776 sb = qc at *
  obtain ⟨nc, sc⟩ := qc
  dsimp only at hde hr3
  go_wp2_with fail
  refine hr3.out.mono ?_
  rintro e w3 ⟨rfl, o3, e3, l3, m3⟩
  have o4 := Own.swap (o3.alloc (edC nilA (fun _ => nilA) ⟨[], fun _ => [], na, nb, nc⟩))
  have hr4 := hid (rnum 120 120 rfl o4 (e3.alloc (edC nilA (fun _ => nilA) ⟨[], fun _ => [], na, nb, nc⟩)) l3)
  unfold edC editCells nilA at hr4
  clear o3 e3 l3 o4 hr3
  generalize numR 120 sc = qn at *
  obtain ⟨nn, s0⟩ := qn
  dsimp only at hde hr4
  go_wp2_with fail
  refine hr4.out.mono ?_
  rintro e w4 ⟨rfl, o4, e4, l4, m4⟩
  obtain ⟨eb, heb⟩ : ∃ eb, w3.heap.size = eb := ⟨_, rfl⟩
  rw [heb] at o4 ⊢
  clear heb hr4
  have o5 : Hid (Own w4 (pts xb (rdC s0) :: pts eb (edC nilA (fun _ => nilA) ⟨[], fun _ => [], na, nb, nc⟩) :: sl 32 u64E nilA.v [] :: F)) := hid ((sl_nil 32 u64E o4).swap.perm (List.Perm.cons _ (List.Perm.swap _ _ _)))
  have e4H := hid e4
  have l4H := hid l4
  have m4H := hid m4
  have hwr : IntKind.u64.wrap (nn : Int) = nn := Go.IntWalk.u64_in _ (by omega)
  clear o4 e4 l4 m4
  obtain ⟨i0, hi0, hz0, hz1, hz2⟩ := info_parts infoU64
  go_wp2_with fail
  go_loopw [20] (fun i wr => ∃ (k : Nat) (acc : List Nat) (st : RdS) (g : SlA), k ≤ nn ∧ i = .int .u64 k ∧ Own wr (pts xb (rdC st) :: pts eb (edC g (fun _ => nilA) ⟨acc, fun _ => [], na, nb, nc⟩) :: sl 32 u64E g.v acc :: F) ∧ Ext w wr ∧ numsR 1099511627776 nn s0 = (acc ++ (numsR 1099511627776 (nn - k) st).1, (numsR 1099511627776 (nn - k) st).2) ∧ acc.length = k ∧ st.1.length ≤ 1000000) (fun i _ => nn - (intOf i).toNat)
  case atStart => exact ⟨0, [], s0, nilA, by omega, rfl, o5.out, e4H.out, by simp, rfl, l4H.out⟩
  case round =>
    clear o5 e4H l4H
    obtain ⟨k, acc, st, g, hk, rfl, ho, he, hn, ha, hs⟩ := hrel
    obtain ⟨gA, gn, gc⟩ := g
    have oH := hid ho
    have eH := hid he
    have hnH := hid hn
    have haH := hid ha
    have hsH := hid hs
    have gN : gn = acc.length := rd_count (s := ⟨gA, gn, gc⟩) (sl_rd (ho.pick 2))
    clear he hn ha hs
    subst gN
    by_cases hlt : k < nn
    · have hk9 : k < 1000 := by have := m4H.out; omega
      have hn0 : Hid ((numsR 1099511627776 (nn - k) st).1 = (numR 1099511627776 st).1 :: (numsR 1099511627776 (nn - (k + 1)) (numR 1099511627776 st).2).1 ∧ (numsR 1099511627776 (nn - k) st).2 = (numsR 1099511627776 (nn - (k + 1)) (numR 1099511627776 st).2).2) := hid (by
        obtain ⟨d, hd⟩ : ∃ d, nn - k = d + 1 := ⟨nn - k - 1, by omega⟩
        have hd2 : nn - (k + 1) = d := by omega
        rw [hd, hd2]
        exact ⟨rfl, rfl⟩)
      have hrn : Hid (Calls Tryz.prog 41 #[.pointer (some ⟨xb, 0, none⟩), .int .u64 1099511627776] wr.drew fun e w' => e = .returned (.int .u64 (numR 1099511627776 st).1) ∧ Own w' (pts xb (rdC (numR 1099511627776 st).2) :: pts eb (edC ⟨gA, acc.length, gc⟩ (fun _ => nilA) ⟨acc, fun _ => [], na, nb, nc⟩) :: sl 32 u64E (SlA.v ⟨gA, acc.length, gc⟩) acc :: F) ∧ Ext w w' ∧ (numR 1099511627776 st).2.1.length ≤ 1000000 ∧ (numR 1099511627776 st).1 ≤ 1099511627776) := hid (rnum 1099511627776 1099511627776 rfl oH.out.drew (eH.out.drew) hsH.out)
      have c0 : wr.cell? ⟨eb, 0, none⟩ = some (.slice gA acc.length gc) := (ho.pick 1).cell (i := 0) rfl
      have ha1 : acc.length ≤ 1000 := by have := haH.out; omega
      clear ho
      go_wp2_with fail
      go_region_law (first
        | (refine step_append_slc rfl _ _ _ rfl 32 i0 _ 1 8 Tryz.underlying29 hi0 hz0 hz1 hz2 rfl (by omega) _ _ _ rfl (Own.allocd (o6.pick 2)) ⟨w6.heap.size, 0, none⟩ 1 1 [.int .u64 (numR 1099511627776 st).1] rfl rfl (cells_new' (by simp) _ _ _) (by simp [Value.oneCell']) (by unfold maxLen; omega) (by omega) (by omega) ?_; intro A7 c7 w7 o7 e7; have f7 := Own.free (o7.pick 2) 0; have d7 := (o7.pick 2).cell (i := 0) (v := .slice gA acc.length gc) rfl)
        | (go_simp; go_at_call 41; refine hrn.out.mono ?_; rintro e w6 ⟨rfl, o6, e6, l6, m6⟩; have d6 : w6.cell? ⟨eb, 0, none⟩ = some (.slice gA acc.length gc) := (o6.pick 1).cell (i := 0) rfl; have n6 : (w6.alloc (.cells #[.int .u64 (numR 1099511627776 st).1] 32 (0, 0))).cell? ⟨eb, 0, none⟩ = some (.slice gA acc.length gc) := Own.cell (i := 0) ((Own.allocd o6).pick 1) rfl))
      all_goals
        have o8 := sl_of (E := u64E) (acc ++ [(numR 1099511627776 st).1]) o7 (by simp) (by simp [u64E, Enc.flat])
        have o9 : Hid (Own (w7.setCell ⟨eb, 0, none⟩ (.slice A7 (acc.length + 1) c7)) (pts xb (rdC (numR 1099511627776 st).2) :: pts eb (edC ⟨A7, acc.length + 1, c7⟩ (fun _ => nilA) ⟨acc ++ [(numR 1099511627776 st).1], fun _ => [], na, nb, nc⟩) :: sl 32 u64E (SlA.v ⟨A7, acc.length + 1, c7⟩) (acc ++ [(numR 1099511627776 st).1]) :: F)) := hid (Own.pick 2 (Own.set (i := 0) (o8.pick 2) (.slice A7 (acc.length + 1) c7)))
        have e9 := hid (((e6.alloc _).trans e7).set ⟨eb, 0, none⟩ (.slice A7 (acc.length + 1) c7))
        have l9 := hid l6
        clear o6 e6 l6 m6 d6 n6 o7 e7 f7 d7 o8 c0
        go_wp2_with fail
        go_roundw
        case rel => exact ⟨k + 1, acc ++ [(numR 1099511627776 st).1], (numR 1099511627776 st).2, ⟨A7, acc.length + 1, c7⟩, by omega, by go_num, o9.out, e9.out, by rw [hnH.out, hn0.out.1, hn0.out.2]; simp, by rw [List.length_append, haH.out]; rfl, l9.out⟩
        case measure => simp [intOf]; omega
    · obtain rfl : k = nn := by omega
      have hnn : Hid (numsR 1099511627776 k s0 = (acc, st)) := hid (by rw [hnH.out, Nat.sub_self]; simp [numsR])
      have hrdG : Hid (Gives ([sl 32 u64E (SlA.v ⟨gA, acc.length, gc⟩) acc] ++ [Sl.base w w.heap.size]) fun w => Rd w u64E (SlA.v ⟨gA, acc.length, gc⟩) acc) := hid (fun w F o => sl_rd o)
      have oD : Hid (Own wr (pts xb (rdC st) :: pts eb (edC ⟨gA, acc.length, gc⟩ (fun _ => nilA) ⟨acc, fun _ => [], na, nb, nc⟩) :: ([sl 32 u64E (SlA.v ⟨gA, acc.length, gc⟩) acc] ++ F))) := oH
      obtain ⟨g, hg⟩ : ∃ g : SlA, g = ⟨gA, acc.length, gc⟩ := ⟨_, rfl⟩
      rw [← hg] at hrdG oD
      have hde2 : Hid (dE = (⟨acc, fun i => (levelsR 4 st).1.getD i [], na, nb, nc⟩, (levelsR 4 st).2)) := hid (by rw [hde.out, hnn.out])
      clear ho oH hnH haH hde hg hlt hi0 hz0 hz1 hz2 i0 hnn
      obtain ⟨i1, hi0, hz0, hz1, hz2⟩ := info_parts infoMeta
      go_wp2_with fail
      go_loopw [30] (fun i wr => ∃ (l : Nat) (S : Nat → SlA) (nw : Lvls) (st' : RdS) (D : List Chunk), l ≤ 4 ∧ i = .int .i64 l ∧ Own wr (pts xb (rdC st') :: pts eb (edC g S ⟨acc, nw, na, nb, nc⟩) :: (D ++ F)) ∧ Ext w wr ∧ (∀ i, i < 4 → Gives (D ++ [Sl.base w w.heap.size]) fun w => Rd w metaE (S i).v (nw i)) ∧ (Gives (D ++ [Sl.base w w.heap.size]) fun w => Rd w u64E g.v acc) ∧ (∀ i, l ≤ i → S i = nilA ∧ nw i = []) ∧ (∀ i, (nw i).length ≤ 30) ∧ levelsR 4 st = ((List.range l).map nw ++ (levelsR (4 - l) st').1, (levelsR (4 - l) st').2) ∧ st'.1.length ≤ 1000000) (fun i _ => 4 - (intOf i).toNat)
      case atStart => exact ⟨0, fun _ => nilA, fun _ => [], st, _, by omega, rfl, oD.out, eH.out, fun i hi w F o => rd_nilA w, hrdG.out, fun i hi => ⟨rfl, rfl⟩, fun i => by simp, by simp, hsH.out⟩
      case round =>
        clear oD eH hsH hrdG
        obtain ⟨l, S, nw, st', D, hl, rfl, ho, he, hrd, hrg, hnil, h30, hlv, hs⟩ := hrel
        have oH := hid ho
        have eH := hid he
        have hrdH := hid hrd
        have hrgH := hid hrg
        have hnilH := hid hnil
        have h30H := hid h30
        have hlvH := hid hlv
        have hsH := hid hs
        clear ho he hrd hrg hnil h30 hlv hs
        by_cases hlt : l < 4
        · have hlt' : (l : Int) < 4 := by omega
          have hrn := hid (rnum 30 30 rfl oH.out eH.out hsH.out)
          have hlr : Hid (levelR st' = metasR (numR 30 st').1 (numR 30 st').2) := hid rfl
          have hl1 : Hid ((levelsR (4 - l) st').1 = (levelR st').1 :: (levelsR (4 - (l + 1)) (levelR st').2).1 ∧ (levelsR (4 - l) st').2 = (levelsR (4 - (l + 1)) (levelR st').2).2) := hid (by
            obtain ⟨d, hd⟩ : ∃ d, 4 - l = d + 1 := ⟨4 - l - 1, by omega⟩
            have hd2 : 4 - (l + 1) = d := by omega
            rw [hd, hd2]
            exact ⟨rfl, rfl⟩)
          generalize numR 30 st' = qm at *
          obtain ⟨nm, s1⟩ := qm
          dsimp only at hrn hlr
          go_wp2_with fail
          refine hrn.out.mono ?_
          rintro e w6 ⟨rfl, o6, e6, l6, m6⟩
          have hupd : upd S l nilA = S := funext fun i => by
            by_cases e : i = l
            · subst e; rw [upd_at]; exact (hnilH.out i (Nat.le_refl _)).1.symm
            · exact upd_ne _ _ e
          have hupn : upd nw l [] = nw := funext fun i => by
            by_cases e : i = l
            · subst e; rw [upd_at]; exact (hnilH.out i (Nat.le_refl _)).2.symm
            · exact upd_ne _ _ e
          have o7 : Hid (Own w6 (pts xb (rdC s1) :: pts eb (edC g (upd S l nilA) ⟨acc, upd nw l [], na, nb, nc⟩) :: sl 43 metaE nilA.v [] :: (D ++ F))) := hid (by
            rw [hupd, hupn]
            exact (sl_nil 43 metaE o6).perm ((List.Perm.swap _ _ _).trans (List.Perm.cons _ (List.Perm.swap _ _ _))))
          have e7 := hid e6
          have l7 := hid l6
          have m7 := hid m6
          clear o6 e6 l6 m6 hupd hupn hrn oH eH hsH
          go_wp2_with fail
          go_loopw [35] (fun i wr => ∃ (k : Nat) (ms : List MetaM) (s2 : RdS) (cur : SlA), k ≤ nm ∧ i = .int .u64 k ∧ Own wr (pts xb (rdC s2) :: pts eb (edC g (upd S l cur) ⟨acc, upd nw l ms, na, nb, nc⟩) :: sl 43 metaE cur.v ms :: (D ++ F)) ∧ Ext w wr ∧ metasR nm s1 = (ms ++ (metasR (nm - k) s2).1, (metasR (nm - k) s2).2) ∧ ms.length = k ∧ s2.1.length ≤ 1000000) (fun i _ => nm - (intOf i).toNat)
          case atStart => exact ⟨0, [], s1, nilA, by omega, rfl, o7.out, e7.out, by simp, rfl, l7.out⟩
          case round =>
            clear o7 e7 l7
            obtain ⟨k, ms, s2, cur, hk, rfl, ho, he, hn, ha, hs⟩ := hrel
            obtain ⟨cA, cn, cc⟩ := cur
            have oH := hid ho
            have eH := hid he
            have hnH := hid hn
            have haH := hid ha
            have hsH := hid hs
            have gN : cn = ms.length := rd_count (s := ⟨cA, cn, cc⟩) (sl_rd (ho.pick 2))
            clear ho he hn ha hs
            subst gN
            by_cases hlk : k < nm
            · have hk9 : k < 1000 := by have := m7.out; omega
              have hms : Hid ((metasR (nm - k) s2).1 = (metaR s2).1 :: (metasR (nm - (k + 1)) (metaR s2).2).1 ∧ (metasR (nm - k) s2).2 = (metasR (nm - (k + 1)) (metaR s2).2).2) := hid (by
                obtain ⟨d, hd⟩ : ∃ d, nm - k = d + 1 := ⟨nm - k - 1, by omega⟩
                have hd2 : nm - (k + 1) = d := by omega
                rw [hd, hd2]
                exact ⟨rfl, rfl⟩)
              have hmr : Hid (metaR s2 = (let a := numR 1099511627776 s2
                let b := numR 1099511627776 a.2
                let c := textR b.2
                let d := textR c.2
                let f := numR 1099511627776 d.2
                (⟨a.1, b.1, c.1, d.1, f.1⟩, f.2))) := hid rfl
              generalize metaR s2 = mr at *
              have h1 := hid (rnum 1099511627776 1099511627776 rfl oH.out eH.out hsH.out)
              clear oH eH hsH
              generalize numR 1099511627776 s2 = qa at *
              obtain ⟨va, ta⟩ := qa
              dsimp only at hmr h1
              go_wp2_with fail
              refine h1.out.mono ?_
              rintro e w8 ⟨rfl, o8, e8, l8, m8⟩
              have h2 := hid (rnum 1099511627776 1099511627776 rfl o8 e8 l8)
              clear h1 o8 e8 l8
              generalize numR 1099511627776 ta = qb at *
              obtain ⟨vb, tb⟩ := qb
              dsimp only at hmr h2
              go_wp2_with fail
              refine h2.out.mono ?_
              rintro e w9 ⟨rfl, o9, e9, l9, m9⟩
              have hwb : IntKind.i64.wrap (vb : Int) = vb := Go.IntWalk.i64_in _ (by omega)
              have o10 : Own (w9.alloc (.cells #[.int .u64 va, .int .i64 vb, .string ⟨#[]⟩, .string ⟨#[]⟩, .int .u64 0] 43 (0, 0))) (pts xb (rdC tb) :: pts w9.heap.size (.cells #[.int .u64 va, .int .i64 vb, .string ⟨#[]⟩, .string ⟨#[]⟩, .int .u64 0] 43 (0, 0)) :: pts eb (edC g (upd S l ⟨cA, ms.length, cc⟩) ⟨acc, upd nw l ms, na, nb, nc⟩) :: sl 43 metaE (SlA.v ⟨cA, ms.length, cc⟩) ms :: (D ++ F)) := (o9.alloc _).swap
              have h3 := hid (rtxt o10 (e9.alloc _) l9)
              clear h2 o9 e9 l9 o10
              generalize textR tb = qc at *
              obtain ⟨vc, tc⟩ := qc
              dsimp only at hmr h3
              go_wp2_with fail
              obtain ⟨mb, hmb⟩ : ∃ mb, w9.heap.size = mb := ⟨_, rfl⟩
              rw [hmb] at h3 ⊢
              refine h3.out.mono ?_
              rintro e w10 ⟨rfl, o11, e11, l11⟩
              have h4 := hid (rtxt o11 e11 l11)
              clear h3 o11 e11 l11
              generalize textR tc = qd at *
              obtain ⟨vd, td⟩ := qd
              dsimp only at hmr h4
              go_wp2_with fail
              refine h4.out.mono ?_
              rintro e w11 ⟨rfl, o12, e12, l12⟩
              have g2 : w11.cell? ⟨mb, 2, none⟩ = some (.string ⟨#[]⟩) := (o12.pick 1).cell (i := 2) rfl
              have g3 : w11.cell? ⟨mb, 3, none⟩ = some (.string ⟨#[]⟩) := (o12.pick 1).cell (i := 3) rfl
              have f2 : w11.frozen? ⟨mb, 2, none⟩ = false := (o12.pick 1).free 2
              have f3 : w11.frozen? ⟨mb, 3, none⟩ = false := (o12.pick 1).free 3
              have o13 : Own ((w11.setCell ⟨mb, 2, none⟩ (.string vc)).setCell ⟨mb, 3, none⟩ (.string vd)) (pts xb (rdC td) :: pts mb (.cells #[.int .u64 va, .int .i64 vb, .string vc, .string vd, .int .u64 0] 43 (0, 0)) :: pts eb (edC g (upd S l ⟨cA, ms.length, cc⟩) ⟨acc, upd nw l ms, na, nb, nc⟩) :: sl 43 metaE (SlA.v ⟨cA, ms.length, cc⟩) ms :: (D ++ F)) := Own.swap (Own.set (i := 3) (Own.set (i := 2) (o12.pick 1) (.string vc)) (.string vd))
              have h5 := hid (rnum 1099511627776 1099511627776 rfl o13 ((e12.set _ _).set _ _) l12)
              clear h4 o12 e12 l12 o13
              generalize numR 1099511627776 td = qf at *
              obtain ⟨vf, tf⟩ := qf
              dsimp only at hmr h5
              go_wp2_with fail
              clear g2 g3 f2 f3
              refine h5.out.mono ?_
              rintro e w12 ⟨rfl, o14, e14, l14, m14⟩
              have g4 : w12.cell? ⟨mb, 4, none⟩ = some (.int .u64 0) := (o14.pick 1).cell (i := 4) rfl
              have f4 : w12.frozen? ⟨mb, 4, none⟩ = false := (o14.pick 1).free 4
              have o15 : Hid (Own (w12.setCell ⟨mb, 4, none⟩ (.int .u64 vf)) (pts xb (rdC tf) :: pts mb (.cells #[.int .u64 va, .int .i64 vb, .string vc, .string vd, .int .u64 vf] 43 (0, 0)) :: pts eb (edC g (upd S l ⟨cA, ms.length, cc⟩) ⟨acc, upd nw l ms, na, nb, nc⟩) :: sl 43 metaE (SlA.v ⟨cA, ms.length, cc⟩) ms :: (D ++ F))) := hid (Own.swap (Own.set (i := 4) (o14.pick 1) (.int .u64 vf)))
              have e15 := hid (e14.set ⟨mb, 4, none⟩ (.int .u64 vf))
              have l15 := hid l14
              clear h5 o14 e14 l14 m14
              go_wp2_with fail
              obtain ⟨w13, hw13⟩ : ∃ w', w' = w12.setCell ⟨mb, 4, none⟩ (.int .u64 vf) := ⟨_, rfl⟩
              rw [← hw13] at o15 e15 ⊢
              clear hw13 g4 f4
              have q0 : w13.cell? ⟨mb, 0, none⟩ = some (.int .u64 va) := (o15.out.pick 1).cell (i := 0) rfl
              have q1 : w13.cell? ⟨mb, 1, none⟩ = some (.int .i64 vb) := (o15.out.pick 1).cell (i := 1) rfl
              have q2 : w13.cell? ⟨mb, 2, none⟩ = some (.string vc) := (o15.out.pick 1).cell (i := 2) rfl
              have q3 : w13.cell? ⟨mb, 3, none⟩ = some (.string vd) := (o15.out.pick 1).cell (i := 3) rfl
              have q4 : w13.cell? ⟨mb, 4, none⟩ = some (.int .u64 vf) := (o15.out.pick 1).cell (i := 4) rfl
              have hea : (editCells g (upd S l ⟨cA, ms.length, cc⟩) ⟨acc, upd nw l ms, na, nb, nc⟩)[1 + l]? = some (.slice cA ms.length cc) := by
                have := edit_at g (upd S l ⟨cA, ms.length, cc⟩) ⟨acc, upd nw l ms, na, nb, nc⟩ hlt
                rw [upd_at] at this
                exact this
              have c5 : w13.cell? ⟨eb, 1 + l, none⟩ = some (.slice cA ms.length cc) := (o15.out.pick 2).cell hea
              have c6 : (w13.alloc (.cells #[.int .u64 va, .int .i64 vb, .string vc, .string vd, .int .u64 vf] 43 (0, 0))).cell? ⟨eb, 1 + l, none⟩ = some (.slice cA ms.length cc) := ((Own.allocd o15.out).pick 2).cell hea
              have hk3 : ms.length ≤ 1000 := by have := haH.out; omega
              have oA := hid (Own.allocd (x := .cells #[.int .u64 va, .int .i64 vb, .string vc, .string vd, .int .u64 vf] 43 (0, 0)) (Own.drew (o15.out.pick 3)))
              go_region_law (first
                | (refine step_append_slc rfl _ _ _ rfl 43 i1 _ 5 56 Tryz.underlying30 hi0 hz0 hz1 hz2 rfl (by omega) _ _ _ rfl oA.out ⟨w13.heap.size, 0, none⟩ 1 1 [.int .u64 va, .int .i64 vb, .string vc, .string vd, .int .u64 vf] rfl rfl (cells_new' (by simp) _ _ _) (by simp [Value.oneCell']) (by unfold maxLen; omega) (by omega) (by omega) ?_; intro A7 c7 w7 o7 e7; have f7 := Own.free (o7.pick 3) (1 + l); have d7 := (o7.pick 3).cell hea))
              all_goals
                have o8 := sl_of (E := metaE) (ms ++ [⟨va, vb, vc, vd, vf⟩]) o7 (by simp) (by simp [metaE, Enc.flat])
                have o9 : Hid (Own (w7.setCell ⟨eb, 1 + l, none⟩ (.slice A7 (ms.length + 1) c7)) (pts xb (rdC tf) :: pts eb (edC g (upd S l ⟨A7, ms.length + 1, c7⟩) ⟨acc, upd nw l (ms ++ [⟨va, vb, vc, vd, vf⟩]), na, nb, nc⟩) :: sl 43 metaE (SlA.v ⟨A7, ms.length + 1, c7⟩) (ms ++ [⟨va, vb, vc, vd, vf⟩]) :: (D ++ F))) := hid (by
                  have oB := Own.set (i := 1 + l) (o8.pick 3) (.slice A7 (ms.length + 1) c7)
                  rw [edit_set g (upd S l ⟨cA, ms.length, cc⟩) ⟨acc, upd nw l ms, na, nb, nc⟩ (upd nw l (ms ++ [⟨va, vb, vc, vd, vf⟩])) hlt ⟨A7, ms.length + 1, c7⟩, upd_upd] at oB
                  exact Own.pick 2 (Own.drop (Own.pick 3 oB)))
                have e9 := hid ((((e15.out.drew).alloc _).trans e7).set ⟨eb, 1 + l, none⟩ (.slice A7 (ms.length + 1) c7))
                clear o7 e7 f7 d7 o8 c5 c6 q0 q1 q2 q3 q4 oA o15 e15
                go_wp2_with fail
                go_roundw
                case rel =>
                  refine ⟨k + 1, ms ++ [⟨va, vb, vc, vd, vf⟩], tf, ⟨A7, ms.length + 1, c7⟩, by omega, by go_num, o9.out, e9.out, ?_, by rw [List.length_append, haH.out]; rfl, l15.out⟩
                  rw [hnH.out, hms.out.1, hms.out.2, hmr.out]
                  simp
                case measure => simp [intOf]; omega
            · obtain rfl : k = nm := by omega
              have hmm : Hid (levelR st' = (ms, s2)) := hid (by rw [hlr.out, hnH.out, Nat.sub_self]; simp [metasR])
              have hm30 : Hid (ms.length ≤ 30) := hid (by rw [haH.out]; exact m7.out)
              clear hlr hnH hlk haH
              go_wp2_with fail
              go_roundw
              case rel =>
                refine ⟨l + 1, upd S l ⟨cA, ms.length, cc⟩, upd nw l ms, s2, sl 43 metaE (SlA.v ⟨cA, ms.length, cc⟩) ms :: D, by omega, by go_num, oH.out, eH.out, fun i hi => ?_, Gives.more hrgH.out _, fun i hi => ?_, fun i => ?_, ?_, hsH.out⟩
                · by_cases e : i = l
                  · subst e
                    rw [upd_at, upd_at]
                    exact fun w F o => sl_rd o
                  · rw [upd_ne _ _ e, upd_ne _ _ e]
                    exact Gives.more (hrdH.out i hi) _
                · rw [upd_ne _ _ (by omega), upd_ne _ _ (by omega)]
                  exact hnilH.out i (by omega)
                · by_cases e : i = l
                  · subst e; rw [upd_at]; exact hm30.out
                  · rw [upd_ne _ _ e]; exact h30H.out i
                · rw [hlvH.out, hl1.out.1, hl1.out.2, hmm.out, range_upd]
                  simp
              case measure => simp [intOf]; omega
        · have hl4 : l = 4 := by omega
          have hfn : (fun i => ((List.range 4).map nw).getD i []) = nw := funext fun i => by
            by_cases hi : i < 4
            · simp [List.getD, hi]
            · rw [(hnilH.out i (by omega)).2]
              simp [List.getD, hi]
          have hE : Hid (dE = (⟨acc, nw, na, nb, nc⟩, st')) := hid (by
            rw [hde2.out, hlvH.out, hl4, Nat.sub_self]
            simp only [levelsR, List.append_nil]
            rw [hfn])
          have hed : Hid (EdO wr w eb rb g S ⟨acc, nw, na, nb, nc⟩ (pts xb (rdC st') :: D)) := hid ⟨by
            have o := oH.out
            rw [hF] at o
            exact o.perm ((List.Perm.swap _ _ _).trans (List.Perm.cons _ (List.perm_middle (l₁ := pts xb (rdC st') :: D)))), fun i hi => Gives.more (hrdH.out i hi) _, Gives.more hrgH.out _, eH.out⟩
          have xq0 : wr.cell? ⟨xb, 0, none⟩ = some (.string ⟨st'.1.toArray⟩) := oH.out.cell (i := 0) rfl
          have xq1 : wr.cell? ⟨xb, 1, none⟩ = some (.bool st'.2) := oH.out.cell (i := 1) rfl
          obtain ⟨rest, badb⟩ := st'
          dsimp only at xq0 xq1
          have hER : Hid (EditR wr g S ⟨acc, nw, na, nb, nc⟩) := hid ⟨hed.out.rdG wr [] (by rw [List.append_nil]; exact hed.out.own.drop.drop), fun i hi => hed.out.rd i hi wr [] (by rw [List.append_nil]; exact hed.out.own.drop.drop), fun i hi => Nat.le_trans (h30H.out i) (by omega)⟩
          have hall := hid (all_c g S ⟨acc, nw, na, nb, nc⟩ wr hER.out)
          have hx := bool_cases (allB nw)
          generalize hab : allB nw = ab at *
          have habH := hid hab
          unfold editV at hall
          have hdd : Hid (res = if badb = true ∨ rest ≠ [] ∨ ab = false then (nilE, 2) else (⟨acc, nw, na, nb, nc⟩, 0)) := hid (by rw [hdec.out, hE.out, ← habH.out])
          have h30N : Hid (∀ l, l < 4 → (nw l).length ≤ 1000) := hid (fun i hi => Nat.le_trans (h30H.out i) (by omega))
          clear hab hde2 hfn hE hER hlvH hnilH h30H hrdH hrgH hF oH
          have o := hed.out.own
          have q0 := o.cell (i := 0) (v := .slice g.A g.n g.c) rfl
          have q1 := o.cell (i := 1) (v := .slice (S 0).A (S 0).n (S 0).c) rfl
          have q2 := o.cell (i := 2) (v := .slice (S 1).A (S 1).n (S 1).c) rfl
          have q3 := o.cell (i := 3) (v := .slice (S 2).A (S 2).n (S 2).c) rfl
          have q4 := o.cell (i := 4) (v := .slice (S 3).A (S 3).n (S 3).c) rfl
          have q5 := o.cell (i := 5) (v := .int .u64 na) rfl
          have q6 := o.cell (i := 6) (v := .int .u64 nb) rfl
          have q7 := o.cell (i := 7) (v := .int .u64 nc) rfl
          have r0 := o.swap.cell (i := 0) (v := .slice none 0 0) rfl
          have r1 := o.swap.cell (i := 1) (v := .slice none 0 0) rfl
          have r2 := o.swap.cell (i := 2) (v := .slice none 0 0) rfl
          have r3 := o.swap.cell (i := 3) (v := .slice none 0 0) rfl
          have r4 := o.swap.cell (i := 4) (v := .slice none 0 0) rfl
          have r5 := o.swap.cell (i := 5) (v := .int .u64 0) rfl
          have r6 := o.swap.cell (i := 6) (v := .int .u64 0) rfl
          have r7 := o.swap.cell (i := 7) (v := .int .u64 0) rfl
          have f0 := o.swap.free 0
          have f1 := o.swap.free 1
          have f2 := o.swap.free 2
          have f3 := o.swap.free 3
          have f4 := o.swap.free 4
          have f5 := o.swap.free 5
          have f6 := o.swap.free 6
          have f7 := o.swap.free 7
          clear o
          by_cases hA : badb = true ∨ rest ≠ []
          · have hrs : Hid (res = (nilE, 2)) := hid (by rw [hdd.out]; exact if_pos (by rcases hA with h | h; exact .inl h; exact .inr (.inl h)))
            have d : badb = true ∨ badb = false ∧ ∃ x r, rest = x :: r := by
              cases badb with
              | true => exact .inl rfl
              | false =>
                cases rest with
                | nil => rcases hA with h | h; cases h; exact absurd rfl h
                | cons x r => exact .inr ⟨rfl, x, r, rfl⟩
            clear hA hdd hall habH hx
            rcases d with rfl | ⟨rfl, x, r, rfl⟩
            all_goals
              go_wp2_with fail
              change bodyPost Tryz.prog _ _ Exit.ret _ (put wr rb 0 zeroE.toList)
              clear q0 q1 q2 q3 q4 q5 q6 q7 r0 r1 r2 r3 r4 r5 r6 r7 f0 f1 f2 f3 f4 f5 f6 f7 xq0 xq1
              obtain ⟨wz, hwz⟩ : ∃ wz, wz = put wr rb 0 zeroE.toList := ⟨_, rfl⟩
              have z0 : wz.cell? ⟨rb, 0, none⟩ = some (.slice none 0 0) := by rw [hwz]; exact hed.out.zcells rfl
              have z1 : wz.cell? ⟨rb, 1, none⟩ = some (.slice none 0 0) := by rw [hwz]; exact hed.out.zcells rfl
              have z2 : wz.cell? ⟨rb, 2, none⟩ = some (.slice none 0 0) := by rw [hwz]; exact hed.out.zcells rfl
              have z3 : wz.cell? ⟨rb, 3, none⟩ = some (.slice none 0 0) := by rw [hwz]; exact hed.out.zcells rfl
              have z4 : wz.cell? ⟨rb, 4, none⟩ = some (.slice none 0 0) := by rw [hwz]; exact hed.out.zcells rfl
              have z5 : wz.cell? ⟨rb, 5, none⟩ = some (.int .u64 0) := by rw [hwz]; exact hed.out.zcells rfl
              have z6 : wz.cell? ⟨rb, 6, none⟩ = some (.int .u64 0) := by rw [hwz]; exact hed.out.zcells rfl
              have z7 : wz.cell? ⟨rb, 7, none⟩ = some (.int .u64 0) := by rw [hwz]; exact hed.out.zcells rfl
              have hto := hid hed.out.zkp
              rw [← hwz] at hto ⊢
              clear hwz
              refine bodyPost_ret (by simp [results, Tryz.results15, go_sem, z0, z1, z2, z3, z4, z5, z6, z7]; rfl) rfl ?_
              exact ⟨hto.out, nilA, fun _ => nilA, by rw [hrs.out]; rfl, by rw [hrs.out]; exact edr_nil _⟩
          · obtain rfl : badb = false := by cases badb with | false => rfl | true => exact absurd (.inl rfl) hA
            obtain rfl : rest = [] := by cases rest with | nil => rfl | cons x r => exact absurd (.inr (by simp)) hA
            clear q0 q1 q2 q3 q4 q5 q6 q7 r0 r1 r2 r3 r4 r5 r6 r7 f0 f1 f2 f3 f4 f5 f6 f7 hA
            have o := hed.out.own
            have q0 := o.cell (i := 0) (v := .slice g.A g.n g.c) rfl
            have q1 := o.cell (i := 1) (v := .slice (S 0).A (S 0).n (S 0).c) rfl
            have q2 := o.cell (i := 2) (v := .slice (S 1).A (S 1).n (S 1).c) rfl
            have q3 := o.cell (i := 3) (v := .slice (S 2).A (S 2).n (S 2).c) rfl
            have q4 := o.cell (i := 4) (v := .slice (S 3).A (S 3).n (S 3).c) rfl
            have q5 := o.cell (i := 5) (v := .int .u64 na) rfl
            have q6 := o.cell (i := 6) (v := .int .u64 nb) rfl
            have q7 := o.cell (i := 7) (v := .int .u64 nc) rfl
            clear o
            have hedw := hid hed.out
            clear hed
            rcases hx with rfl | rfl
            · have hrs : Hid (res = (⟨acc, nw, na, nb, nc⟩, 0)) := hid (by rw [hdd.out]; exact if_neg (by simp))
              go_wp2_with fail
              refine hall.out.mono ?_
              rintro e w14 ⟨rfl, k14⟩
              have hed := hid (hedw.out.kp k14)
              have o := hed.out.own
              clear q0 q1 q2 q3 q4 q5 q6 q7
              have q0 := o.cell (i := 0) (v := .slice g.A g.n g.c) rfl
              have q1 := o.cell (i := 1) (v := .slice (S 0).A (S 0).n (S 0).c) rfl
              have q2 := o.cell (i := 2) (v := .slice (S 1).A (S 1).n (S 1).c) rfl
              have q3 := o.cell (i := 3) (v := .slice (S 2).A (S 2).n (S 2).c) rfl
              have q4 := o.cell (i := 4) (v := .slice (S 3).A (S 3).n (S 3).c) rfl
              have q5 := o.cell (i := 5) (v := .int .u64 na) rfl
              have q6 := o.cell (i := 6) (v := .int .u64 nb) rfl
              have q7 := o.cell (i := 7) (v := .int .u64 nc) rfl
              have r0 := o.swap.cell (i := 0) (v := .slice none 0 0) rfl
              have r1 := o.swap.cell (i := 1) (v := .slice none 0 0) rfl
              have r2 := o.swap.cell (i := 2) (v := .slice none 0 0) rfl
              have r3 := o.swap.cell (i := 3) (v := .slice none 0 0) rfl
              have r4 := o.swap.cell (i := 4) (v := .slice none 0 0) rfl
              have r5 := o.swap.cell (i := 5) (v := .int .u64 0) rfl
              have r6 := o.swap.cell (i := 6) (v := .int .u64 0) rfl
              have r7 := o.swap.cell (i := 7) (v := .int .u64 0) rfl
              have f0 := o.swap.free 0
              have f1 := o.swap.free 1
              have f2 := o.swap.free 2
              have f3 := o.swap.free 3
              have f4 := o.swap.free 4
              have f5 := o.swap.free 5
              have f6 := o.swap.free 6
              have f7 := o.swap.free 7
              clear o k14
              go_wp2_with fail
              change bodyPost Tryz.prog _ _ Exit.ret _ (put w14 rb 0 (editCells g S ⟨acc, nw, na, nb, nc⟩).toList)
              clear q0 q1 q2 q3 q4 q5 q6 q7 r0 r1 r2 r3 r4 r5 r6 r7 f0 f1 f2 f3 f4 f5 f6 f7 xq0 xq1
              obtain ⟨wz, hwz⟩ : ∃ wz, wz = put w14 rb 0 (editCells g S ⟨acc, nw, na, nb, nc⟩).toList := ⟨_, rfl⟩
              have z0 : wz.cell? ⟨rb, 0, none⟩ = some (.slice g.A g.n g.c) := by rw [hwz]; exact hed.out.cells rfl
              have z1 : wz.cell? ⟨rb, 1, none⟩ = some (.slice (S 0).A (S 0).n (S 0).c) := by rw [hwz]; exact hed.out.cells rfl
              have z2 : wz.cell? ⟨rb, 2, none⟩ = some (.slice (S 1).A (S 1).n (S 1).c) := by rw [hwz]; exact hed.out.cells rfl
              have z3 : wz.cell? ⟨rb, 3, none⟩ = some (.slice (S 2).A (S 2).n (S 2).c) := by rw [hwz]; exact hed.out.cells rfl
              have z4 : wz.cell? ⟨rb, 4, none⟩ = some (.slice (S 3).A (S 3).n (S 3).c) := by rw [hwz]; exact hed.out.cells rfl
              have z5 : wz.cell? ⟨rb, 5, none⟩ = some (.int .u64 na) := by rw [hwz]; exact hed.out.cells rfl
              have z6 : wz.cell? ⟨rb, 6, none⟩ = some (.int .u64 nb) := by rw [hwz]; exact hed.out.cells rfl
              have z7 : wz.cell? ⟨rb, 7, none⟩ = some (.int .u64 nc) := by rw [hwz]; exact hed.out.cells rfl
              have hto := hid (hed.out.told h30N.out)
              rw [← hwz] at hto ⊢
              clear hwz
              refine bodyPost_ret (by simp [results, Tryz.results15, go_sem, z0, z1, z2, z3, z4, z5, z6, z7]; rfl) rfl ?_
              exact ⟨hto.out.2, g, S, by rw [hrs.out]; rfl, by rw [hrs.out]; exact hto.out.1⟩
            · have hrs : Hid (res = (nilE, 2)) := hid (by rw [hdd.out]; exact if_pos (.inr (.inr rfl)))
              go_wp2_with fail
              refine hall.out.mono ?_
              rintro e w14 ⟨rfl, k14⟩
              have hed := hid (hedw.out.kp k14)
              have o := hed.out.own
              clear q0 q1 q2 q3 q4 q5 q6 q7
              have q0 := o.cell (i := 0) (v := .slice g.A g.n g.c) rfl
              have q1 := o.cell (i := 1) (v := .slice (S 0).A (S 0).n (S 0).c) rfl
              have q2 := o.cell (i := 2) (v := .slice (S 1).A (S 1).n (S 1).c) rfl
              have q3 := o.cell (i := 3) (v := .slice (S 2).A (S 2).n (S 2).c) rfl
              have q4 := o.cell (i := 4) (v := .slice (S 3).A (S 3).n (S 3).c) rfl
              have q5 := o.cell (i := 5) (v := .int .u64 na) rfl
              have q6 := o.cell (i := 6) (v := .int .u64 nb) rfl
              have q7 := o.cell (i := 7) (v := .int .u64 nc) rfl
              have r0 := o.swap.cell (i := 0) (v := .slice none 0 0) rfl
              have r1 := o.swap.cell (i := 1) (v := .slice none 0 0) rfl
              have r2 := o.swap.cell (i := 2) (v := .slice none 0 0) rfl
              have r3 := o.swap.cell (i := 3) (v := .slice none 0 0) rfl
              have r4 := o.swap.cell (i := 4) (v := .slice none 0 0) rfl
              have r5 := o.swap.cell (i := 5) (v := .int .u64 0) rfl
              have r6 := o.swap.cell (i := 6) (v := .int .u64 0) rfl
              have r7 := o.swap.cell (i := 7) (v := .int .u64 0) rfl
              have f0 := o.swap.free 0
              have f1 := o.swap.free 1
              have f2 := o.swap.free 2
              have f3 := o.swap.free 3
              have f4 := o.swap.free 4
              have f5 := o.swap.free 5
              have f6 := o.swap.free 6
              have f7 := o.swap.free 7
              clear o k14
              go_wp2_with fail
              change bodyPost Tryz.prog _ _ Exit.ret _ (put w14 rb 0 zeroE.toList)
              clear q0 q1 q2 q3 q4 q5 q6 q7 r0 r1 r2 r3 r4 r5 r6 r7 f0 f1 f2 f3 f4 f5 f6 f7 xq0 xq1
              obtain ⟨wz, hwz⟩ : ∃ wz, wz = put w14 rb 0 zeroE.toList := ⟨_, rfl⟩
              have z0 : wz.cell? ⟨rb, 0, none⟩ = some (.slice none 0 0) := by rw [hwz]; exact hed.out.zcells rfl
              have z1 : wz.cell? ⟨rb, 1, none⟩ = some (.slice none 0 0) := by rw [hwz]; exact hed.out.zcells rfl
              have z2 : wz.cell? ⟨rb, 2, none⟩ = some (.slice none 0 0) := by rw [hwz]; exact hed.out.zcells rfl
              have z3 : wz.cell? ⟨rb, 3, none⟩ = some (.slice none 0 0) := by rw [hwz]; exact hed.out.zcells rfl
              have z4 : wz.cell? ⟨rb, 4, none⟩ = some (.slice none 0 0) := by rw [hwz]; exact hed.out.zcells rfl
              have z5 : wz.cell? ⟨rb, 5, none⟩ = some (.int .u64 0) := by rw [hwz]; exact hed.out.zcells rfl
              have z6 : wz.cell? ⟨rb, 6, none⟩ = some (.int .u64 0) := by rw [hwz]; exact hed.out.zcells rfl
              have z7 : wz.cell? ⟨rb, 7, none⟩ = some (.int .u64 0) := by rw [hwz]; exact hed.out.zcells rfl
              have hto := hid hed.out.zkp
              rw [← hwz] at hto ⊢
              clear hwz
              refine bodyPost_ret (by simp [results, Tryz.results15, go_sem, z0, z1, z2, z3, z4, z5, z6, z7]; rfl) rfl ?_
              exact ⟨hto.out, nilA, fun _ => nilA, by rw [hrs.out]; rfl, by rw [hrs.out]; exact edr_nil _⟩
end Go.Proofs.YtdmdnhceiddcfaaGreat
namespace Go.Proofs.YtdmdnhceiddcfaaGreat
open Go.RowKit Go.Sl Go.Scree

theorem edr_cut {w : World} {g : SlA} {S : Nat → SlA} {E : EditM} (h : EditR w g S { E with nw := cut4 E.nw }) : EditR w g S E :=
  ⟨h.gone, fun l hl => by have := h.nw l hl; dsimp only at this; rwa [cut4_at _ hl] at this, fun l hl => by have := h.few l hl; dsimp only at this; rwa [cut4_at _ hl] at this⟩
end Go.Proofs.YtdmdnhceiddcfaaGreat
