/- The walk of Pick. -/
import Derived.Test.YtdmdnhceiddcfaaLvlQ
set_option linter.all false
namespace Go.Proofs.Ytdmdnhceiddcfaa
open Go.RowKit Go.Sl Go.Scree

/-- What Pick tells. -/
def PickSays (w w' : World) (e : Ending) (r : PickM × Int) : Prop := Kp w w' ∧ ∃ sF sI : SlA, e = .returned (.tuple #[.agg #[.int .i64 r.1.level, .slice sF.A sF.n sF.c, .slice sI.A sI.n sI.c, .bool r.1.bottom], .int .i64 r.2]) ∧ Rd w' metaE sF.v r.1.from ∧ Rd w' metaE sI.v r.1.into
theorem rd_nilA (w : World) : Rd w metaE nilA.v ([] : List MetaM) := .inl ⟨⟨none, 0, rfl, by simp [maxLen]⟩, rfl⟩
theorem pick_bad {V : VerM} {l k : Int} (h : l < 0 ∨ 2 < l ∨ k < 0) : pickP V l k = (noPick, 1) := by unfold pickP; rw [if_pos h]
theorem pick_none {V : VerM} {l k : Int} (h : ¬ (l < 0 ∨ 2 < l ∨ k < 0)) (e : V.lv l.toNat = []) : pickP V l k = (noPick, 10) := by
  unfold pickP; rw [if_neg h, if_pos (by rw [e]; rfl)]
def lenV : Value → Nat
  | .slice _ n _ => n
  | _ => 0
def leftV (n : Nat) : Value → Value → Nat
  | .bool true, v => n + 2 - lenV v
  | _, _ => 0
theorem rd_n {w : World} {s : SlA} {xs : List MetaM} (h : Rd w metaE s.v xs) : s.n = xs.length := by
  obtain ⟨_, _, hv, _⟩ := h.form
  unfold SlA.v at hv
  simp only [Value.slice.injEq] at hv
  exact hv.2.1
/-- Where the range grows, how far it is. -/
structure Grow (V : VerM) (n q : Nat) (gr : Bool) (F : List MetaM) (N0 : Nat) : Prop where
  sub : F ⊆ V.lv n
  pos : 0 < F.length
  few : F.length ≤ (V.lv n).length
  yes : gr = true → n = 0 ∧ F.length ≤ N0 ∧ ∃ fuel, growP (V.lv 0) fuel F = fromP V.lv n q ∧ N0 < F.length + fuel
  no : gr = false → F = fromP V.lv n q
theorem Grow.step {V : VerM} {n q N0 : Nat} {F : List MetaM} (h : Grow V n q true F N0) (hV : VOk V) (hN : (V.lv 0).length = N0) : Grow V n q (decide (F.length < (meetL (V.lv 0) (spanP F)).length)) (meetL (V.lv 0) (spanP F)) N0 := by
  obtain ⟨rfl, h1, fuel, h2, h3⟩ := h.yes rfl
  have hw : ∀ m ∈ V.lv 0, ltK m.last m.first = false := fun m hm => (may_parts (hV.may m (mem_flat.2 ⟨0, by omega, hm⟩))).2.2.2.2.1
  have hml : (meetL (V.lv 0) (spanP F)).length ≤ N0 := by rw [← hN]; exact List.length_filter_le _ _
  obtain ⟨f, rfl⟩ : ∃ f, fuel = f + 1 := ⟨fuel - 1, by omega⟩
  unfold growP at h2
  refine ⟨List.filter_sublist.subset, meet_pos h.sub hw h.pos, List.length_filter_le _ _, fun hg => ?_, fun hg => ?_⟩
  · have hlt : F.length < (meetL (V.lv 0) (spanP F)).length := of_decide_eq_true hg
    rw [if_pos hlt] at h2
    exact ⟨rfl, hml, f, h2, by omega⟩
  · have hlt : ¬ F.length < (meetL (V.lv 0) (spanP F)).length := of_decide_eq_false hg
    rw [if_neg hlt] at h2
    exact h2
def botK (lv : Lvls) (n : Nat) (r : ByteArray × ByteArray) (b : Nat) : Bool := (List.range b).all fun i => decide (i < n + 2) || (meetL (lv i) r).isEmpty
theorem botK_start (lv : Lvls) (n : Nat) (r : ByteArray × ByteArray) : botK lv n r (n + 2) = true := by
  unfold botK
  rw [List.all_eq_true]
  intro i hi
  rw [List.mem_range] at hi
  simp [hi]
theorem botK_succ (lv : Lvls) (n : Nat) (r : ByteArray × ByteArray) {b : Nat} (h : n + 2 ≤ b) : botK lv n r (b + 1) = (botK lv n r b && (meetL (lv b) r).isEmpty) := by
  unfold botK
  rw [List.range_succ, List.all_append]
  have hd : decide (b < n + 2) = false := decide_eq_false (by omega)
  simp only [List.all_cons, List.all_nil, Bool.and_true, hd, Bool.false_or]
def pkCells (l : Int) (sF sI : SlA) (b : Bool) : List Value := [.int .i64 l, .slice sF.A sF.n sF.c, .slice sI.A sI.n sI.c, .bool b]
/-- The pick is told: all its cells lie in the other block. -/
theorem PkO.cells {w W0 : World} {pb rb : Nat} {l : Int} {sF sI : SlA} {b : Bool} {F I : List MetaM} {tp : TypeId} {D : List Chunk} (h : PkO w W0 pb rb l sF sI b F I tp D) {i : Nat} {v : Value} (hv : (pkCells l sF sI b)[i]? = some v) :
    (put w rb 0 (pkCells l sF sI b)).cell? ⟨rb, i, none⟩ = some v := by
  have o := own_put (pkCells l sF sI b) (o := 0) h.own.swap
  refine o.cell ?_
  have e : over #[.int .i64 0, .slice none 0 0, .slice none 0 0, .bool false] 0 (pkCells l sF sI b) = (pkCells l sF sI b).toArray := rfl
  rw [e, List.getElem?_toArray]
  exact hv
theorem PkO.told {w W0 : World} {pb rb : Nat} {l : Int} {sF sI : SlA} {b : Bool} {F I : List MetaM} {tp : TypeId} {D : List Chunk} (h : PkO w W0 pb rb l sF sI b F I tp D) :
    Kp W0 (put w rb 0 (pkCells l sF sI b)) ∧ Rd (put w rb 0 (pkCells l sF sI b)) metaE sF.v F ∧ Rd (put w rb 0 (pkCells l sF sI b)) metaE sI.v I := by
  have o := (own_put (pkCells l sF sI b) (o := 0) h.own.swap).drop.drop
  have e := ext_put (pkCells l sF sI b) rb 0 h.ext
  exact ⟨kp_of o e, h.rdF _ [] (by simpa using o), h.rdI _ [] (by simpa using o)⟩
set_option maxRecDepth 20000 in
set_option maxHeartbeats 6400000 in
theorem pick_c (p : Nat) (S : Nat → SlA) (V : VerM) (l k : Int) (w : World) (h : VerR w p S V) (hV : VOk V) (hk : k ≤ 9223372036854775807) :
    Calls Try.prog 16 #[.pointer (some ⟨p, 0, none⟩), .int .i64 l, .int .i64 k] w fun e w' => PickSays w w' e (pickP V l k) := by
  have hH := hid h
  have hVH := hid hV
  have kz := hid ((Kp.refl w).alloc (.cells #[.int .i64 0, .slice none 0 0, .slice none 0 0, .bool false] 41 (0, 0)))
  clear h hV
  by_cases hbad : l < 0 ∨ 2 < l ∨ k < 0
  · have hr := hid (@pick_bad V l k hbad)
    have d1 : decide (l < 0) = true ∨ decide (l < 0) = false ∧ (decide (l > 2) = true ∨ decide (l > 2) = false ∧ decide (k < 0) = true) := by
      rcases hbad with h | h | h
      · exact .inl (decide_eq_true h)
      · by_cases h0 : l < 0
        · exact .inl (decide_eq_true h0)
        · exact .inr ⟨decide_eq_false h0, .inl (decide_eq_true (by omega))⟩
      · by_cases h0 : l < 0
        · exact .inl (decide_eq_true h0)
        · by_cases h2 : l > 2
          · exact .inr ⟨decide_eq_false h0, .inl (decide_eq_true h2)⟩
          · exact .inr ⟨decide_eq_false h0, .inr ⟨decide_eq_false h2, decide_eq_true h⟩⟩
    clear hbad
    rcases d1 with d1 | ⟨d1, d2 | ⟨d2, d3⟩⟩
    all_goals
      go_enter Try.func16, Try.ntmps16
      go_wp2_with fail
      refine bodyPost_ret (by simp [results, Try.results16, go_sem]; rfl) rfl ?_
      exact ⟨kz.out, nilA, nilA, by rw [hr.out]; rfl, by rw [hr.out]; exact rd_nilA _, by rw [hr.out]; exact rd_nilA _⟩
  · have hnone := hid (@pick_none V l k hbad)
    have hgood : Hid ((V.lv l.toNat).isEmpty = false → pickP V l k = (⟨l, fromP V.lv l.toNat k.toNat, meetL (V.lv (l.toNat + 1)) (spanP (fromP V.lv l.toNat k.toNat)), bottomP V.lv l.toNat (spanP (fromP V.lv l.toNat k.toNat ++ meetL (V.lv (l.toNat + 1)) (spanP (fromP V.lv l.toNat k.toNat))))⟩, 0)) := hid (fun h => by unfold pickP; rw [if_neg hbad, if_neg (by rw [h]; simp)])
    obtain ⟨n, rfl⟩ : ∃ n : Nat, l = n := ⟨l.toNat, by omega⟩
    obtain ⟨q, rfl⟩ : ∃ q : Nat, k = q := ⟨k.toNat, by omega⟩
    have hn : n ≤ 2 := by omega
    have dn0 : decide ((n : Int) < 0) = false := decide_eq_false (by omega)
    have dq0 : decide ((q : Int) < 0) = false := decide_eq_false (by omega)
    have dn : decide ((n : Int) > 2) = false := decide_eq_false (by omega)
    have dn' : decide ((2 : Int) < (n : Int)) = false := decide_eq_false (by omega)
    have hn4 : (n : Int) < 4 := by omega
    rw [Int.toNat_natCast] at hnone
    rw [Int.toNat_natCast, Int.toNat_natCast] at hgood
    have cl0 := hH.out.lvl n (by omega)
    have hrd := hid (hH.out.rd n (by omega))
    have hlen : Hid ((V.lv n).length ≤ 30) := hid (by
      have := hVH.out.few
      simp only [fewB, four, List.all_cons, List.all_nil, Bool.and_true, Bool.and_eq_true, decide_eq_true_eq] at this
      rcases (by omega : n = 0 ∨ n = 1 ∨ n = 2) with rfl | rfl | rfl
      · exact this.1
      · exact this.2.1
      · exact this.2.2.1)
    have hSn : (S n).n = (V.lv n).length := by
      obtain ⟨_, _, hv, _⟩ := hrd.out.form
      unfold SlA.v at hv
      simp only [Value.slice.injEq] at hv
      exact hv.2.1
    rw [hSn] at cl0
    have hpl : p < w.heap.size := World.block_lt_of_cell? w _ cl0
    have hpn : p ≠ w.heap.size := by omega
    have hpn1 : p ≠ w.heap.size + 1 := by omega
    clear hbad
    rcases Nat.eq_zero_or_pos (V.lv n).length with h0 | h0
    · have hr := hid (hnone.out (List.eq_nil_of_length_eq_zero h0))
      rw [h0] at cl0
      clear h0 hSn
      go_enter Try.func16, Try.ntmps16
      go_wp2_with fail
      refine bodyPost_ret (by simp [results, Try.results16, go_sem]; rfl) rfl ?_
      exact ⟨kz.out, nilA, nilA, by rw [hr.out]; rfl, by rw [hr.out]; exact rd_nilA _, by rw [hr.out]; exact rd_nilA _⟩
    · have hr := hid (hgood.out (by rw [List.isEmpty_eq_false_iff]; exact List.ne_nil_of_length_pos h0))
      obtain ⟨r, hrr⟩ : ∃ r, q % (V.lv n).length = r := ⟨_, rfl⟩
      have hrl : r < (V.lv n).length := by rw [← hrr]; exact Nat.mod_lt _ h0
      have htm : Int.tmod (q : Int) ((V.lv n).length : Int) = (r : Int) := by rw [Int.tmod_eq_emod_of_nonneg (by omega), ← hrr]; rfl
      obtain ⟨x, hx⟩ : ∃ x, (V.lv n)[r]? = some x := ⟨_, List.getElem?_eq_getElem hrl⟩
      have hfp : Hid (fromP V.lv n q = if n = 0 then growP (V.lv 0) (V.lv 0).length [x] else [x]) := hid (by unfold fromP; rw [hrr, hx])
      have hrd1 := hrd.out
      unfold SlA.v at hrd1
      obtain ⟨g, off, hA, _, a0, a1, a2, a3, a4⟩ := rd_meta hrd1 rfl hx
      have hgl : g < w.heap.size := World.block_lt_of_cell? w _ a0
      have hgn : g ≠ w.heap.size := by omega
      have hgn1 : g ≠ w.heap.size + 1 := by omega
      have hx1 : Hid ([x] ⊆ V.lv n) := hid (by intro y hy; rw [List.mem_singleton] at hy; subst hy; exact List.mem_of_getElem? hx)
      have e0 : (((V.lv n).length : Int) == 0) = false := by rw [beq_eq_false_iff_ne]; omega
      have e0' : ((V.lv n).length == 0) = false := by rw [beq_eq_false_iff_ne]; omega
      have hrH := hid hrr
      have hne0 : ¬ ((V.lv n).length : Int) = 0 := by omega
      rw [hA] at cl0
      generalize hN : (V.lv n).length = N at *
      have hNH := hid hN
      clear hN hSn hrr hrd1 hx hA h0
      go_enter Try.func16, Try.ntmps16
      go_wp2_with fail
      go_region
      have v1 : Hid (PkO ((((w.alloc (.cells #[.int .i64 0, .slice none 0 0, .slice none 0 0, .bool false] 41 (0, 0))).alloc (.cells #[.int .i64 n, .slice (some ⟨w.heap.size + 1 + 1, 0, none⟩) 1 1, .slice none 0 0, .bool true] 41 (0, 0))).alloc (.cells #[.int .u64 x.file, .int .i64 x.size, .string x.first, .string x.last, .int .u64 x.seq] 56 (0, 0))).drew) w (w.heap.size + 1) w.heap.size n ⟨some ⟨w.heap.size + 1 + 1, 0, none⟩, 1, 1⟩ nilA true [x] [] 41 [sl 56 metaE (SlA.v ⟨some ⟨w.heap.size + 1 + 1, 0, none⟩, 1, 1⟩) [x]]) := hid (by
        have o := ((((Own.start w).alloc (.cells #[.int .i64 0, .slice none 0 0, .slice none 0 0, .bool false] 41 (0, 0))).alloc (.cells #[.int .i64 n, .slice (some ⟨w.heap.size + 1 + 1, 0, none⟩) 1 1, .slice none 0 0, .bool true] 41 (0, 0))).alloc (.cells #[.int .u64 x.file, .int .i64 x.size, .string x.first, .string x.last, .int .u64 x.seq] 56 (0, 0))).drew
        simp only [World.size_alloc] at o
        have o2 := sl_built 56 metaE [x] o (n := 1) rfl (by simp [maxLen]) rfl
        refine ⟨?_, fun w F o => sl_rd o, fun w F o => rd_nilA w, ((((Ext.refl w).alloc _).alloc _).alloc _).drew⟩
        exact (Own.pick 2 (Own.pick 2 o2)))
      obtain ⟨w5, hw5⟩ : ∃ w5, w5 = ((((w.alloc (.cells #[.int .i64 0, .slice none 0 0, .slice none 0 0, .bool false] 41 (0, 0))).alloc (.cells #[.int .i64 n, .slice (some ⟨w.heap.size + 1 + 1, 0, none⟩) 1 1, .slice none 0 0, .bool true] 41 (0, 0))).alloc (.cells #[.int .u64 x.file, .int .i64 x.size, .string x.first, .string x.last, .int .u64 x.seq] 56 (0, 0))).drew) := ⟨_, rfl⟩
      rw [← hw5] at v1 ⊢
      obtain ⟨rb, hrb⟩ : ∃ rb, w.heap.size = rb := ⟨_, rfl⟩
      obtain ⟨pb, hpb⟩ : ∃ pb, rb + 1 = pb := ⟨_, rfl⟩
      rw [hrb, hpb] at v1
      rw [hrb, hpb]
      clear a0 a1 a2 a3 a4 cl0 hgl hgn hgn1 hpl hpn hpn1 hw5 hrb hpb htm hrl e0 e0' hne0 kz
      have hbn := bool_cases ((n : Int) == 0)
      have hg0 : Hid (Grow V n q ((n : Int) == 0) [x] (V.lv 0).length) := hid ⟨hx1.out, by simp, List.length_pos_of_mem (hx1.out (List.mem_singleton_self x)), fun h => by
        have hn0 : n = 0 := by simpa using h
        subst hn0
        have h1 := List.length_pos_of_mem (hx1.out (List.mem_singleton_self x))
        exact ⟨rfl, h1, (V.lv 0).length, by rw [hfp.out, if_pos rfl], by simp⟩, fun h => by
        have hn0 : n ≠ 0 := by simpa using h
        rw [hfp.out, if_neg hn0]⟩
      clear hbn
      go_wp2_with fail
      have hmeet : Hid (∀ (l : Int) (m : Nat), l = m → m < 4 → ∀ (r : ByteArray × ByteArray) (w1 : World), Kp w w1 → Calls Try.prog 19 #[.pointer (some ⟨p, 0, none⟩), .int .i64 l, .string r.1, .string r.2] w1 fun e w' => ∃ A n c, e = .returned (.slice A n c) ∧ n = (meetL (V.lv m) r).length ∧ Own w' [sl 56 metaE (.slice A n c) (meetL (V.lv m) r), base w1 w1.heap.size] ∧ Ext w1 w') := hid (fun l m e hm r w1 k => by
        subst e
        refine (meet_c p S V m r.1 r.2 w1 (hH.out.kp k)).mono ?_
        rintro e w' ⟨v', he, o', x'⟩
        obtain ⟨A', n', c', rfl⟩ := sl_shape o'
        have hq : meetM V.lv (m : Int) r.1 r.2 = meetL (V.lv m) r := by unfold meetM meetL; rw [levelM_at _ hm]
        rw [hq] at o'
        exact ⟨A', n', c', he, rd_n (s := ⟨A', n', c'⟩) (sl_rd o'), o', x'⟩)
      go_loopw [9, 10, 11, 12] (fun s9 _ _ s12 wr => ∃ (gr : Bool) (F : List MetaM) (sF : SlA) (D : List Chunk), s9 = .bool gr ∧ lenV s12 ≤ F.length ∧ PkO wr w pb rb n sF nilA true F [] 41 D ∧ Grow V n q gr F (V.lv 0).length) (fun s9 _ _ s12 _ => leftV (V.lv 0).length s9 s12)
      case atStart => exact ⟨_, [x], _, _, rfl, Nat.zero_le _, v1.out, hg0.out⟩
      case round =>
        clear v1 hg0
        obtain ⟨gr, F, sF, D, rfl, hle, hv, hG⟩ := hrel
        have hvH := hid hv
        have hGH := hid hG
        have c1 : wr.cell? ⟨pb, 1, none⟩ = some (.slice sF.A sF.n sF.c) := hv.own.cell (i := 1) rfl
        have fp : wr.frozen? ⟨pb, 1, none⟩ = false := hv.own.free 1
        have lpb : pb < wr.heap.size := hv.own.lt
        have hsp := hid (span_c (.slice sF.A sF.n sF.c) F wr hv.from hG.pos)
        have hnF := hid (rd_n hv.from)
        have hleH := hid hle
        clear hv hG hle
        cases gr with
        | true =>
          go_wp2_with fail
          refine hsp.out.mono ?_
          rintro e w1 ⟨rfl, k1⟩
          have k1H := hid k1
          have c1' := k1.cell c1
          have fp1 := k1.free lpb fp
          have lp1 : pb < w1.heap.size := Nat.lt_of_lt_of_le lpb (by have := k1.ext.size; omega)
          clear k1 c1 fp lpb
          go_wp2_with fail
          refine (hmeet.out 0 0 rfl (by omega) (spanP F) w1 (hvH.out.base.trans k1H.out)).mono ?_
          rintro e w2 ⟨A2, n2, c2, rfl, hn2, o2, e2⟩
          have k2H := hid (kp_of1 o2 e2)
          have c12 := k2H.out.cell c1'
          have fp2 := k2H.out.free lp1 fp1
          have vt := hid ((hvH.out.kp k1H.out).turnF (s := ⟨A2, n2, c2⟩) k2H.out o2)
          have hn2H := hid hn2
          clear o2 e2 c1' fp1 hn2
          go_wp2_with fail
          go_roundw
          case rel =>
            refine ⟨_, _, _, _, rfl, by rw [← hn2H.out]; exact Nat.le_refl _, vt.out, ?_⟩
            rw [hn2H.out, hnF.out]
            exact hGH.out.step hVH.out rfl
          case measure =>
            obtain ⟨_, h1, _⟩ := hGH.out.yes rfl
            have h2 := hleH.out
            have h3 : n2 ≤ (V.lv 0).length := by rw [hn2H.out]; exact List.length_filter_le _ _
            have h4 := hnF.out
            rcases bool_cases (decide (sF.n < n2)) with hd | hd
            · rw [hd]
              have := of_decide_eq_true hd
              show (V.lv 0).length + 2 - n2 < (V.lv 0).length + 2 - lenV u12
              omega
            · rw [hd]
              show 0 < (V.lv 0).length + 2 - lenV u12
              omega
        | false =>
          obtain rfl : F = fromP V.lv n q := hGH.out.no rfl
          have hfew := hid hGH.out.few
          have hpos := hid hGH.out.pos
          clear hGH hleH
          go_wp2_with fail
          refine hsp.out.mono ?_
          rintro e w1 ⟨rfl, k1⟩
          have k1H := hid k1
          have fp1 := k1.free lpb (hvH.out.own.free 2)
          have lp1 : pb < w1.heap.size := Nat.lt_of_lt_of_le lpb (by have := k1.ext.size; omega)
          have c12 := k1.cell (hvH.out.own.cell (i := 2) (v := .slice none 0 0) rfl)
          clear k1 c1 fp lpb hsp
          go_wp2_with fail
          refine (hmeet.out ((n : Int) + 1) (n + 1) (by omega) (by omega) (spanP (fromP V.lv n q)) w1 (hvH.out.base.trans k1H.out)).mono ?_
          rintro e w2 ⟨A2, n2, c2, rfl, hn2, o2, e2⟩
          have k2H := hid (kp_of1 o2 e2)
          have fp2 := k2H.out.free lp1 fp1
          have c22 := k2H.out.cell c12
          have vt := hid ((hvH.out.kp k1H.out).turnI (s := ⟨A2, n2, c2⟩) k2H.out o2)
          have hfi : Hid ((meetL (V.lv (n + 1)) (spanP (fromP V.lv n q))).length ≤ 20000) := hid (Nat.le_trans (List.length_filter_le _ _) (hH.out.few (n + 1) (by omega)))
          clear o2 e2 fp1 hn2 c12
          go_wp2_with fail
          obtain ⟨w3, hw3⟩ : ∃ w3, w3 = w2.setCell ⟨pb, 2, none⟩ (.slice A2 n2 c2) := ⟨_, rfl⟩
          rw [← hw3] at vt ⊢
          have c31 : w3.cell? ⟨pb, 1, none⟩ = some (.slice sF.A sF.n sF.c) := vt.out.own.cell (i := 1) rfl
          have c32 : w3.cell? ⟨pb, 2, none⟩ = some (.slice A2 n2 c2) := vt.out.own.cell (i := 2) rfl
          clear hw3 c22 fp2 lp1
          obtain ⟨i0, hi0, hz0, hz1, hz2⟩ := info_parts infoMeta
          have hclo : Hid (Calls Try.prog 43 #[.slice sF.A sF.n sF.c] w3.drew fun e w' => ∃ A m c, e = .returned (.slice A m c) ∧ Own w' [sl 56 metaE (.slice A m c) (fromP V.lv n q), base w3 w3.heap.size] ∧ Ext w3 w' ∧ w'.cell? ⟨pb, 2, none⟩ = some (.slice A2 n2 c2) ∧ Rd w' metaE (.slice A2 n2 c2) (meetL (V.lv (n + 1)) (spanP (fromP V.lv n q)))) := hid (by
            have h1 := hfew.out
            have h2 := hlen.out
            have h3 := hNH.out
            refine (mclone_c (.slice sF.A sF.n sF.c) (fromP V.lv n q) w3.drew (((Kp.refl w3).drew).rd vt.out.from) (by omega)).mono ?_
            rintro e w' ⟨v', he, o', x'⟩
            obtain ⟨A', n', c', rfl⟩ := sl_shape o'
            have kk : Kp w3 w' := ((Kp.refl w3).drew).trans (kp_of1 o' x')
            exact ⟨A', n', c', he, o', kk.ext, kk.cell c32, kk.rd vt.out.into⟩)
          have hsp2 : Hid (∀ A n1 c w6 (xs : List MetaM), Own w6 [sl 56 metaE (.slice A n1 c) (fromP V.lv n q ++ xs), base w3 w3.heap.size] → Calls Try.prog 42 #[.slice A n1 c] w6 fun e w' => e = .returned (.tuple #[.string (spanP (fromP V.lv n q ++ xs)).1, .string (spanP (fromP V.lv n q ++ xs)).2]) ∧ Kp w6 w') := hid (fun A n1 c w6 xs o6 => span_c (.slice A n1 c) _ w6 (sl_rd o6) (by rw [List.length_append]; have := hpos.out; omega))
          have hs1 : (fromP V.lv n q).length + (meetL (V.lv (n + 1)) (spanP (fromP V.lv n q))).length ≤ 100000 := by
            have h1 := hfew.out
            have h2 := hlen.out
            have h3 := hNH.out
            have h4 := hfi.out
            omega
          go_wp2_with fail
          go_region_law (first
            | (refine step_append_rd rfl _ _ _ rfl i0 _ 5 56 Try.underlying30 hi0 hz0 hz1 hz2 rfl rfl rfl o4 rfl rd4 (by unfold maxLen; omega) (by omega) ?_; intro A5 n5 c5 w5 o5 x5)
            | (go_simp; go_at_call 43; refine hclo.out.mono ?_; rintro e w4 ⟨A4, n4, c4, rfl, o4, x4, ce4, rd4⟩)
            | (go_simp; go_at_call 42; refine (hsp2.out A5 n5 c5 w5 _ o5).mono ?_; rintro e w6 ⟨rfl, k6⟩))
          all_goals
            have k56 : Kp w3 w6 := (kp_of1 o5 (x4.trans x5)).trans k6
            have v6 : Hid (PkO w6 w pb rb n sF ⟨A2, n2, c2⟩ true (fromP V.lv n q) (meetL (V.lv (n + 1)) (spanP (fromP V.lv n q))) 41 _) := hid (vt.out.kp k56)
            clear o4 x4 ce4 rd4 o5 x5 k6 k56 hclo hsp2 hs1 c31 c32 i0 hi0 hz0 hz1 hz2
            generalize spanP (fromP V.lv n q ++ meetL (V.lv (n + 1)) (spanP (fromP V.lv n q))) = R at *
            have hb0 := botK_start V.lv n R
            go_wp2_with fail
            go_loopw [15] (fun s15 wr => ∃ (b : Nat) (D : List Chunk), s15 = .int .i64 b ∧ n + 2 ≤ b ∧ b ≤ 4 ∧ PkO wr w pb rb n sF ⟨A2, n2, c2⟩ (botK V.lv n R b) (fromP V.lv n q) (meetL (V.lv (n + 1)) (spanP (fromP V.lv n q))) 41 D) (fun i _ => 4 - (intOf i).toNat)
            case atStart => exact ⟨n + 2, _, by go_num, by omega, by omega, by rw [hb0]; exact v6.out⟩
            case round =>
              clear hb0 v6
              obtain ⟨b, D', rfl, hb1, hb2, hvb⟩ := hrel
              have hvbH := hid hvb
              clear hvb
              by_cases hlt : b < 4
              · have hlt' : (b : Int) < 4 := by omega
                have hs := botK_succ V.lv n R hb1
                have c3 : wr.cell? ⟨pb, 3, none⟩ = some (.bool (botK V.lv n R b)) := hvbH.out.own.cell (i := 3) rfl
                have f3 : wr.frozen? ⟨pb, 3, none⟩ = false := hvbH.out.own.free 3
                have lp : pb < wr.heap.size := hvbH.out.own.lt
                have hvt := hid (hvbH.out.turnB (botK V.lv n R (b + 1)))
                rcases bool_cases (botK V.lv n R b) with hk0 | hk0
                · rw [hk0, Bool.true_and] at hs
                  rw [hk0] at c3
                  go_wp2_with fail
                  refine (hmeet.out b b rfl hlt R wr hvbH.out.base).mono ?_
                  rintro e w7 ⟨A7, n7, c7, rfl, hn7, o7, e7⟩
                  have k7 := kp_of1 o7 e7
                  have c3' := k7.cell c3
                  have f3' := k7.free lp f3
                  have hvt7 := hid ((hvbH.out.kp k7).turnB (botK V.lv n R (b + 1)))
                  have hz : (meetL (V.lv b) R).isEmpty = ((n7 : Int) == 0) := by
                    rw [hn7]
                    cases meetL (V.lv b) R with
                    | nil => rfl
                    | cons x l =>
                      rw [List.isEmpty_cons]
                      symm
                      rw [beq_eq_false_iff_ne, List.length_cons]
                      omega
                  rw [hz] at hs
                  rw [hs] at hvt7
                  clear hn7 o7 e7 k7 c3 f3 hvt hz
                  go_wp2_with fail
                  go_roundw
                  case rel => exact ⟨b + 1, _, by go_num, by omega, by omega, by rw [hs]; exact hvt7.out⟩
                  case measure => simp [intOf]; omega
                · rw [hk0, Bool.false_and] at hs
                  rw [hk0] at c3
                  rw [hs] at hvt
                  go_wp2_with fail
                  go_roundw
                  case rel => exact ⟨b + 1, _, by go_num, by omega, by omega, by rw [hs]; exact hvt.out⟩
                  case measure => simp [intOf]; omega
              · obtain rfl : b = 4 := by omega
                have hbk : botK V.lv n R 4 = bottomP V.lv n R := rfl
                rw [hbk] at hvbH
                generalize bottomP V.lv n R = bt at *
                have o := hvbH.out.own
                have q0 := o.cell (i := 0) (v := .int .i64 n) rfl
                have q1 := o.cell (i := 1) (v := .slice sF.A sF.n sF.c) rfl
                have q2 := o.cell (i := 2) (v := .slice A2 n2 c2) rfl
                have q3 := o.cell (i := 3) (v := .bool bt) rfl
                have r0 := o.swap.cell (i := 0) (v := .int .i64 0) rfl
                have r1 := o.swap.cell (i := 1) (v := .slice none 0 0) rfl
                have r2 := o.swap.cell (i := 2) (v := .slice none 0 0) rfl
                have r3 := o.swap.cell (i := 3) (v := .bool false) rfl
                have f0 := o.swap.free 0
                have f1 := o.swap.free 1
                have f2 := o.swap.free 2
                have f3 := o.swap.free 3
                clear o hbk
                go_wp2_with fail
                change bodyPost Try.prog _ _ Exit.ret _ (put wr rb 0 (pkCells n sF ⟨A2, n2, c2⟩ bt))
                clear q0 q1 q2 q3 r0 r1 r2 r3 f0 f1 f2 f3
                obtain ⟨wz, hwz⟩ : ∃ wz, wz = put wr rb 0 (pkCells n sF ⟨A2, n2, c2⟩ bt) := ⟨_, rfl⟩
                have z0 : wz.cell? ⟨rb, 0, none⟩ = some (.int .i64 n) := by rw [hwz]; exact hvbH.out.cells rfl
                have z1 : wz.cell? ⟨rb, 1, none⟩ = some (.slice sF.A sF.n sF.c) := by rw [hwz]; exact hvbH.out.cells rfl
                have z2 : wz.cell? ⟨rb, 2, none⟩ = some (.slice A2 n2 c2) := by rw [hwz]; exact hvbH.out.cells rfl
                have z3 : wz.cell? ⟨rb, 3, none⟩ = some (.bool bt) := by rw [hwz]; exact hvbH.out.cells rfl
                have hto := hid hvbH.out.told
                rw [← hwz] at hto ⊢
                clear hwz
                refine bodyPost_ret (by simp [results, Try.results16, go_sem, z0, z1, z2, z3]; rfl) rfl ?_
                exact ⟨hto.out.1, sF, ⟨A2, n2, c2⟩, by rw [hr.out], by rw [hr.out]; exact hto.out.2.1, by rw [hr.out]; exact hto.out.2.2⟩
end Go.Proofs.Ytdmdnhceiddcfaa
