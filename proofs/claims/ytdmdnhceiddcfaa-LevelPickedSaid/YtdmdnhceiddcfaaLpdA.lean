/- What is picked has every table of its two levels that may have a key of it: in plain Lean; and the walk of LevelPicked. -/
import Derived.Test.YtdmdnhceiddcfaaLnuA
import Derived.Test.YtdmdnhceiddcfaaMapB
import Derived.Deep.CutBlock
import Derived.Deep.DeepCutAuto
set_option linter.all false
namespace Go.Proofs.Ytdmdnhceiddcfaa
open Go.RowKit Go.Sl Go.Scree Go.Maps

theorem meet_sub (xs : List MetaM) (r : ByteArray × ByteArray) : (meetL xs r).Sublist xs := List.filter_sublist
theorem meet_up {xs f : List MetaM} (h : f.Sublist xs) (hw : ∀ m ∈ xs, ltK m.last m.first = false) : f.Sublist (meetL xs (spanP f)) := by
  have e : f.filter (meetB (spanP f).1 (spanP f).2) = f := List.filter_eq_self.2 fun m hm => span_meets hm (hw m (h.subset hm))
  have := h.filter (meetB (spanP f).1 (spanP f).2)
  rw [e] at this
  exact this
theorem grow_closed {xs : List MetaM} (hw : ∀ m ∈ xs, ltK m.last m.first = false) : ∀ (fuel : Nat) (f : List MetaM), f.Sublist xs → xs.length < f.length + fuel → (growP xs fuel f).Sublist xs ∧ meetL xs (spanP (growP xs fuel f)) = growP xs fuel f ∧ f.length ≤ (growP xs fuel f).length
  | 0, f, h, hl => absurd h.length_le (by omega)
  | n + 1, f, h, hl => by
    have hu := meet_up h hw
    unfold growP
    split
    · rename_i hlt
      obtain ⟨h1, h2, h3⟩ := grow_closed hw n (meetL xs (spanP f)) (meet_sub _ _) (by omega)
      exact ⟨h1, h2, by omega⟩
    · rename_i hlt
      have e : f = meetL xs (spanP f) := hu.eq_of_length_le (by omega)
      rw [← e]
      exact ⟨h, e.symm, Nat.le_refl _⟩
theorem ok_last {V : VerM} (hV : VOk V) {l : Nat} (hl : l < 4) : ∀ m ∈ V.lv l, ltK m.last m.first = false := fun m hm => (may_parts (hV.may m (mem_flat.2 ⟨l, hl, hm⟩))).2.2.2.2.1
theorem ok_file {V : VerM} (hV : VOk V) {l : Nat} (hl : l < 4) : ∀ m ∈ V.lv l, m.file ≤ 1099511627776 := fun m hm => (may_parts (hV.may m (mem_flat.2 ⟨l, hl, hm⟩))).1.2
/-- What is picked of a level, whole. -/
theorem from_closed {V : VerM} (hV : VOk V) {n : Nat} (hn : n < 4) (k : Nat) (h0 : V.lv n ≠ []) : 0 < (fromP V.lv n k).length ∧ (fromP V.lv n k).Sublist (V.lv n) ∧ (n = 0 → meetL (V.lv 0) (spanP (fromP V.lv n k)) = fromP V.lv n k) := by
  have hp : 0 < (V.lv n).length := List.length_pos_iff.2 h0
  obtain ⟨x, hx⟩ : ∃ x, (V.lv n)[k % (V.lv n).length]? = some x := ⟨_, List.getElem?_eq_getElem (Nat.mod_lt _ hp)⟩
  have hs : [x].Sublist (V.lv n) := List.singleton_sublist.2 (List.mem_of_getElem? hx)
  unfold fromP
  rw [hx]
  dsimp only
  split
  · rename_i e
    subst e
    obtain ⟨h1, h2, h3⟩ := grow_closed (ok_last hV hn) (V.lv 0).length [x] hs (by simp)
    exact ⟨Nat.lt_of_lt_of_le (by simp) h3, h1, fun _ => h2⟩
  · rename_i e
    exact ⟨by simp, hs, fun h => absurd h e⟩
theorem span_app {f : List MetaM} (h : 0 < f.length) (i : List MetaM) : spanP (f ++ i) = i.foldl stepS (spanP f) := by
  cases f with
  | nil => simp at h
  | cons x l => unfold spanP; dsimp only [List.cons_append]; rw [← List.cons_append, List.foldl_append]; rfl
theorem step_at {xs : List MetaM} {k : Nat} {x : MetaM} (h : xs[k]? = some x) (r : ByteArray × ByteArray) : (xs.take (k + 1)).foldl stepS r = stepS ((xs.take k).foldl stepS r) x := by
  obtain ⟨hk, rfl⟩ := List.getElem?_eq_some_iff.1 h
  rw [List.take_succ_eq_append_getElem hk, List.foldl_append]
  rfl
/-- The files of the first so many. -/
def fileK (xs : List MetaM) (k : Nat) (L : List Nat) : List Nat := ((xs.take k).map (·.file)).reverse ++ L
theorem fileK_succ {xs : List MetaM} {k : Nat} {x : MetaM} (h : xs[k]? = some x) (L : List Nat) : fileK xs (k + 1) L = x.file :: fileK xs k L := by
  obtain ⟨hk, rfl⟩ := List.getElem?_eq_some_iff.1 h
  unfold fileK
  rw [List.take_succ_eq_append_getElem hk, List.map_append, List.reverse_append]
  rfl
theorem fileK_mem {xs : List MetaM} {x : MetaM} (h : x ∈ xs) (L : List Nat) : (fileK xs xs.length L).contains x.file = true := by
  unfold fileK
  rw [List.take_length]
  simp only [List.contains_eq_mem, List.mem_append, List.mem_reverse, List.mem_map, decide_eq_true_eq]
  exact .inl ⟨x, h, rfl⟩
theorem fileK_old {xs : List MetaM} {n : Nat} (k : Nat) {L : List Nat} (h : L.contains n = true) : (fileK xs k L).contains n = true := by
  unfold fileK
  simp only [List.contains_eq_mem, List.mem_append, decide_eq_true_eq] at h ⊢
  exact .inr h
theorem fileK_len (xs : List MetaM) (k : Nat) (L : List Nat) : (fileK xs k L).length ≤ xs.length + L.length := by
  unfold fileK
  simp only [List.length_append, List.length_reverse, List.length_map, List.length_take]
  omega
/-- A table below that meets. -/
def belK (lv : Lvls) (n : Nat) (r : ByteArray × ByteArray) (b j : Nat) : Bool := !botK lv n r b || ((lv b).take j).any (meetB r.1 r.2)
theorem belK_start (lv : Lvls) (n : Nat) (r : ByteArray × ByteArray) (b : Nat) : belK lv n r b 0 = !botK lv n r b := by unfold belK; simp
theorem belK_succ (lv : Lvls) (n : Nat) (r : ByteArray × ByteArray) (b : Nat) {j : Nat} {x : MetaM} (h : (lv b)[j]? = some x) : belK lv n r b (j + 1) = (belK lv n r b j || meetB r.1 r.2 x) := by
  obtain ⟨hk, rfl⟩ := List.getElem?_eq_some_iff.1 h
  unfold belK
  rw [List.take_succ_eq_append_getElem hk, List.any_append]
  simp [Bool.or_assoc]
theorem any_filter {α : Type} (p : α → Bool) (xs : List α) : xs.any p = !(xs.filter p).isEmpty := by
  induction xs with
  | nil => rfl
  | cons x xs ih =>
    rw [List.any_cons, List.filter_cons, ih]
    cases p x <;> simp
theorem belK_end (lv : Lvls) (n : Nat) (r : ByteArray × ByteArray) {b : Nat} (h : n + 2 ≤ b) : belK lv n r b (lv b).length = !botK lv n r (b + 1) := by
  unfold belK
  rw [List.take_length, botK_succ lv n r h, any_filter]
  unfold meetL
  cases botK lv n r b <;> simp

theorem lmeets_c (fb lb : Nat) (m : MetaM) (a b : ByteArray) (w : World) (h1 : w.cell? ⟨fb, 0, none⟩ = some (.string a)) (h2 : w.cell? ⟨lb, 0, none⟩ = some (.string b)) :
    Calls Try.prog 31 #[.agg #[.int .u64 m.file, .int .i64 m.size, .string m.first, .string m.last, .int .u64 m.seq], .pointer (some ⟨fb, 0, none⟩), .pointer (some ⟨lb, 0, none⟩)] w fun e w' => e = .returned (.bool (meetB a b m)) ∧ Kp w w' := by
  obtain ⟨n, z, x, y, q⟩ := m
  unfold meetB
  dsimp only
  have k1 : Hid (Kp w (w.alloc (.cells #[.int .u64 n, .int .i64 z, .string x, .string y, .int .u64 q] 56 (0, 0)))) := hid ((Kp.refl w).alloc _)
  have hf : fb < w.heap.size := World.block_lt_of_cell? w _ h1
  have hl : lb < w.heap.size := World.block_lt_of_cell? w _ h2
  have g1 := geq_ltK y a
  have g2 := leq_ltK x b
  rcases bool_cases (ltK y a) with e | e
  · rw [e] at g1 ⊢
    rw [Bool.not_true] at g1
    clear g2
    go_enter Try.func31, Try.ntmps31
    go_wp2_with fail
    go_ret
    exact ⟨by simp, k1.out⟩
  · rw [e] at g1 ⊢
    rw [Bool.not_false] at g1
    rcases bool_cases (ltK b x) with f | f
    · rw [f] at g2 ⊢
      rw [Bool.not_true] at g2
      go_enter Try.func31, Try.ntmps31
      go_wp2_with fail
      go_ret
      exact ⟨by simp, k1.out⟩
    · rw [f] at g2 ⊢
      rw [Bool.not_false] at g2
      go_enter Try.func31, Try.ntmps31
      go_wp2_with fail
      go_ret
      exact ⟨by simp, k1.out⟩
def bs (w : World) : Chunk := Sl.base w w.heap.size
/-- The map, and the range's two ends, beside all that was there. -/
structure PdO (w w0 : World) (mb fb lb : Nat) (es : Array MapEntry) (clk : Nat) (D : DataW Unit) (L : List Nat) (r : ByteArray × ByteArray) (G : List Chunk) : Prop where
  own : Own w (pts mb (.map es clk) :: pts fb (.cells #[.string r.1] 9 (0, 0)) :: pts lb (.cells #[.string r.2] 9 (0, 0)) :: G)
  ext : Ext w0 w
  map : MapIs Try.prog 32 RB es clk L.length D
  set : SetB D L
section
variable {w w0 w1 : World} {mb fb lb : Nat} {es : Array MapEntry} {clk : Nat} {D : DataW Unit} {L : List Nat} {r : ByteArray × ByteArray} {G : List Chunk} {c : Chunk}
theorem PdO.base (h : PdO w w0 mb fb lb es clk D L r [bs w0]) : Kp w0 w := kp_of (cs := [_, _, _]) h.own h.ext
theorem PdO.base2 (h : PdO w w0 mb fb lb es clk D L r [c, bs w0]) : Kp w0 w := kp_of (cs := [_, _, _, _]) h.own h.ext
theorem PdO.alloc (h : PdO w w0 mb fb lb es clk D L r G) (o : Obj) : PdO (w.alloc o) w0 mb fb lb es clk D L r (pts w.heap.size o :: G) :=
  ⟨Own.pick 3 (Own.pick 3 (Own.pick 3 (h.own.alloc o))), h.ext.alloc o, h.map, h.set⟩
theorem PdO.drop (h : PdO w w0 mb fb lb es clk D L r (c :: G)) : PdO w w0 mb fb lb es clk D L r G := ⟨(Own.pick 3 h.own).drop, h.ext, h.map, h.set⟩
theorem PdO.kp (h : PdO w w0 mb fb lb es clk D L r G) (k : Kp w w1) : PdO w1 w0 mb fb lb es clk D L r G := ⟨k.own h.own, h.ext.trans k.ext, h.map, h.set⟩
theorem PdO.first (h : PdO w w0 mb fb lb es clk D L r G) : w.cell? ⟨fb, 0, none⟩ = some (.string r.1) := (Own.pick 1 h.own).cell rfl
theorem PdO.last (h : PdO w w0 mb fb lb es clk D L r G) : w.cell? ⟨lb, 0, none⟩ = some (.string r.2) := (Own.pick 2 h.own).cell rfl
theorem PdO.at4 {q i : Nat} {cs : Array Value} {T : TypeId} {v : Value} (h : PdO w w0 mb fb lb es clk D L r (pts q (.cells cs T (0, 0)) :: G)) (hv : cs[i]? = some v) : w.cell? ⟨q, i, none⟩ = some v := (Own.pick 3 h.own).cell hv
theorem PdO.turn (h : PdO w w0 mb fb lb es clk D L r G) (a b : ByteArray) : PdO ((w.setCell ⟨fb, 0, none⟩ (.string a)).setCell ⟨lb, 0, none⟩ (.string b)) w0 mb fb lb es clk D L (a, b) G := by
  have o1 := (Own.pick 1 h.own).set (i := 0) (.string a)
  have o2 := (Own.pick 2 o1).set (i := 0) (.string b)
  exact ⟨Own.pick 2 (Own.pick 1 o2), (h.ext.set _ _).set _ _, h.map, h.set⟩
theorem PdO.put (h : PdO w w0 mb fb lb es clk D L r G) {n : Nat} (hown : w1.ownsMap Try.prog 32 RB mb (L.length + 1) (D.put (.int .u64 n) (.lit (.bool true)))) (g : w.grownBy w1 (some mb)) :
    ∃ es' clk', PdO w1 w0 mb fb lb es' clk' (D.put (.int .u64 n) (.lit (.bool true))) (n :: L) r G := by
  obtain ⟨es5, clk5, hM5, o5⟩ := map_turn h.own hown g
  exact ⟨es5, clk5, o5, h.ext.trans (ext_grown g), hM5, h.set.push n⟩
theorem PdO.look (h : PdO w w0 mb fb lb es clk D L r G) {x : Nat} (hx : x ≤ 1099511627776) : (Instr.lookup 61 (.map (some mb)) (.int .u64 x) false).run Try.prog w = .ok (.bool (L.contains x)) w := look_set h.own h.map h.set hx
theorem PdO.nes {q : Nat} {o : Obj} (h : PdO w w0 mb fb lb es clk D L r (pts q o :: G)) : fb ≠ lb ∧ fb ≠ q ∧ lb ≠ q ∧ (fb < w.heap.size ∧ lb < w.heap.size ∧ q < w.heap.size) :=
  ⟨h.own.drop.ne, h.own.drop.swap.drop.ne, h.own.drop.drop.ne, h.own.drop.lt, h.own.drop.drop.lt, h.own.drop.drop.drop.lt⟩
theorem PdO.start (w2 : World) (a b : ByteArray) : PdO (((w2.alloc (.map #[] 0)).alloc (.cells #[.string a] 9 (0, 0))).alloc (.cells #[.string b] 9 (0, 0))).drew w2 w2.heap.size (w2.heap.size + 1) (w2.heap.size + 1 + 1) #[] 0 (.map []) [] (a, b) [bs w2] := by
  obtain ⟨hM, oM⟩ := map_made (Own.start w2) (P := Try.prog) (k := 32) (R := RB)
  have o3 := ((oM.alloc (.cells #[.string a] 9 (0, 0))).alloc (.cells #[.string b] 9 (0, 0))).drew
  simp only [World.size_alloc] at o3
  exact ⟨Own.pick 2 (Own.pick 1 o3), ((((Ext.refl w2).alloc _).alloc _).alloc _).drew, hM, SetB.start⟩
end
theorem PdO.start' (w2 : World) (a b : ByteArray) : PdO (((w2.alloc (.map #[] 0)).alloc (.cells #[.string b] 9 (0, 0))).alloc (.cells #[.string a] 9 (0, 0))).drew w2 w2.heap.size (w2.heap.size + 1 + 1) (w2.heap.size + 1) #[] 0 (.map []) [] (a, b) [bs w2] := by
  obtain ⟨hM, oM⟩ := map_made (Own.start w2) (P := Try.prog) (k := 32) (R := RB)
  have o3 := ((oM.alloc (.cells #[.string b] 9 (0, 0))).alloc (.cells #[.string a] 9 (0, 0))).drew
  simp only [World.size_alloc] at o3
  exact ⟨Own.pick 2 o3, ((((Ext.refl w2).alloc _).alloc _).alloc _).drew, hM, SetB.start⟩
theorem pick_cases (V : VerM) (l k : Int) : (∃ c : Int, pickP V l k = (noPick, c) ∧ (c != 0) = true) ∨ ∃ n q : Nat, l = n ∧ n ≤ 2 ∧ V.lv n ≠ [] ∧ pickP V l k = (⟨n, fromP V.lv n q, meetL (V.lv (n + 1)) (spanP (fromP V.lv n q)), bottomP V.lv n (spanP (fromP V.lv n q ++ meetL (V.lv (n + 1)) (spanP (fromP V.lv n q))))⟩, 0) := by
  unfold pickP
  by_cases hb : l < 0 ∨ 2 < l ∨ k < 0
  · rw [if_pos hb]
    exact .inl ⟨1, rfl, rfl⟩
  · rw [if_neg hb]
    by_cases h0 : (V.lv l.toNat).isEmpty = true
    · rw [if_pos h0]
      exact .inl ⟨10, rfl, rfl⟩
    · rw [if_neg h0]
      refine .inr ⟨l.toNat, k.toNat, by omega, by omega, fun h => h0 (by rw [h]; rfl), ?_⟩
      rw [show ((l.toNat : Nat) : Int) = l by omega]
set_option maxRecDepth 20000 in
set_option maxHeartbeats 12800000 in
theorem pickedLaw_c (v : Value) (xs : List EdV) (l k : Int) (w : World) (h : EdsR w v xs) (hk : k ≤ 9223372036854775807) :
    Calls Try.prog 6 #[v, .int .i64 l, .int .i64 k] w fun e w' => e = .returned (.bool true) ∧ Kp w w' := by
  obtain ⟨A, ca, rfl, hm, hca⟩ := h.rd.form
  have hl : xs.length ≤ 9223372036854775807 := by simpa [maxLen] using hm
  have hH := hid h
  have haw := hid (awake_c w)
  have hkH := hid hk
  clear h hm hca hk
  go_enter Try.func6, Try.ntmps6
  go_wp2_with fail
  refine haw.out.mono ?_
  rintro e w1 ⟨rfl, k1⟩
  have k1H := hid k1
  clear haw k1
  go_wp2_with fail
  refine (lnew_c w1).mono ?_
  rintro e w2 ⟨p0, S0, rfl, v0, k2⟩
  have v0H := hid v0
  have k2H := hid (k1H.out.trans k2)
  clear v0 k2 k1H
  go_upto_block 0 with (fail)
  go_cut [7] (fun q wc => ∃ (p : Nat) (S : Nat → SlA) (V : VerM), q = .pointer (some ⟨p, 0, none⟩) ∧ VerR wc p S V ∧ VOk V ∧ Kp w wc)
  case first =>
    go_wp2_with fail
    go_loopw [6, 7, 8] (fun _ q i wr => ∃ (k p : Nat) (S : Nat → SlA) (V : VerM), i = .int .i64 k ∧ (k ≤ xs.length ∧ k ≤ 40) ∧ q = .pointer (some ⟨p, 0, none⟩) ∧ VerR wr p S V ∧ VOk V ∧ Kp w wr) (fun _ _ i _ => xs.length - (intOf i).toNat)
    case atStart => exact ⟨0, p0, S0, newV, rfl, ⟨Nat.zero_le _, Nat.zero_le _⟩, rfl, v0H.out, newV_ok, k2H.out⟩
    case round =>
      clear v0H k2H
      obtain ⟨k, p, S, V, rfl, ⟨hk, hk40⟩, rfl, hv, hok, kr⟩ := hrel
      have hvH := hid hv
      have hokH := hid hok
      have krH := hid kr
      clear hv hok kr
      by_cases hlt : k < xs.length ∧ k < 40
      · obtain ⟨hlt, h40⟩ := hlt
        have hlt' : (k : Int) < xs.length := by omega
        have h40' : (k : Int) < 40 := by omega
        obtain ⟨x, hx⟩ : ∃ x, xs[k]? = some x := ⟨_, List.getElem?_eq_getElem hlt⟩
        obtain ⟨g, off, rfl, _, hce⟩ := rd_ed (hH.out.kp krH.out).rd rfl hx
        have hin := hid ((hH.out.kp krH.out).inn x (List.mem_of_getElem? hx))
        have hceH := hid hce
        clear hx hce
        obtain ⟨xg, xS, xE⟩ := x
        have a0 : wr.cell? ⟨g, off + k * 8, none⟩ = some (.slice xg.A xg.n xg.c) := hceH.out 0 (.slice xg.A xg.n xg.c) rfl
        have a1 := hceH.out 1 (.slice (xS 0).A (xS 0).n (xS 0).c) rfl
        have a2 := hceH.out 2 (.slice (xS 1).A (xS 1).n (xS 1).c) rfl
        have a3 := hceH.out 3 (.slice (xS 2).A (xS 2).n (xS 2).c) rfl
        have a4 := hceH.out 4 (.slice (xS 3).A (xS 3).n (xS 3).c) rfl
        have a5 := hceH.out 5 (.int .u64 xE.next) rfl
        have a6 := hceH.out 6 (.int .u64 xE.log) rfl
        have a7 := hceH.out 7 (.int .u64 xE.seq) rfl
        have hlg := hid (large_c xg xS xE wr hin.out)
        unfold editV at hlg
        go_wp2_with fail
        refine hlg.out.mono ?_
        rintro e w3 ⟨k3, b, rfl, hb⟩
        cases b with
        | true =>
          go_wp2_with fail
          go_ret
          exact ⟨rfl, krH.out.trans k3⟩
        | false =>
          have hsm := hb rfl
          have k3H := hid (krH.out.trans k3)
          have b0 := k3.cell a0
          have b1 := k3.cell a1
          have b2 := k3.cell a2
          have b3 := k3.cell a3
          have b4 := k3.cell a4
          have b5 := k3.cell a5
          have b6 := k3.cell a6
          have b7 := k3.cell a7
          have hv3 := hid (hvH.out.kp k3)
          have hap := hid (apply_c p S V xg xS xE w3 hv3.out hokH.out ((hin.out.kp k3).r hsm))
          unfold editV at hap
          clear hb k3 a0 a1 a2 a3 a4 a5 a6 a7 hsm hlg
          cases hr : applyP V xE with
          | inr cd =>
            rw [hr] at hap
            clear hr
            go_wp2_with fail
            refine hap.out.mono ?_
            rintro e w4 ⟨k4, rfl⟩
            have hv4 := hid (hv3.out.kp k4)
            have k4H := hid (k3H.out.trans k4)
            clear k4 hap b0 b1 b2 b3 b4 b5 b6 b7
            go_wp2_with fail
            go_roundw
            case rel => exact ⟨k + 1, p, S, V, by go_num, ⟨by omega, by omega⟩, rfl, hv4.out, hokH.out, k4H.out⟩
            case measure => simp [intOf]; omega
          | inl W =>
            rw [hr] at hap
            have hWok := hid (apply_ok hokH.out hr)
            clear hr
            go_wp2_with fail
            refine hap.out.mono ?_
            rintro e w4 ⟨k4, p2, S2, rfl, v4⟩
            have hw4 := hid v4
            have k4H := hid (k3H.out.trans k4)
            clear k4 hap b0 b1 b2 b3 b4 b5 b6 b7 v4
            go_wp2_with fail
            go_roundw
            case rel => exact ⟨k + 1, p2, S2, W, by go_num, ⟨by omega, by omega⟩, rfl, hw4.out, hWok.out, k4H.out⟩
            case measure => simp [intOf]; omega
      · have hk3 : k = 40 ∧ (40 : Int) < xs.length ∨ decide (k < xs.length) = false := by
          by_cases hk1 : k < xs.length
          · exact .inl ⟨by omega, by omega⟩
          · exact .inr (decide_eq_false hk1)
        clear hlt hH
        rcases hk3 with ⟨rfl, hk3⟩ | hk3
        all_goals
          go_wp2_with fail
          (try go_wp2_with fail)
          go_meet
          case rel => exact ⟨p, S, V, rfl, hvH.out, hokH.out, krH.out⟩
  case rest =>
    obtain ⟨p, S, V, rfl, hv, hok, kc⟩ := hcut
    have hvH := hid hv
    have hokH := hid hok
    have kcH := hid kc
    clear hv hok kc v0H k2H hH
    have hpk := hid (pick_c p S V l k wc hvH.out hokH.out hkH.out)
    rcases pick_cases V l k with ⟨c, hp, hc⟩ | ⟨n, q, rfl, hn, h0, hp⟩
    · rw [hp] at hpk
      unfold PickSays noPick at hpk
      clear hp
      go_wp2_with fail
      refine hpk.out.mono ?_
      rintro e w1 ⟨k1, ⟨FA, Fn, Fc⟩, ⟨IA, In, Ic⟩, rfl, rF, rI⟩
      obtain rfl : Fn = 0 := rd_n rF
      obtain rfl : In = 0 := rd_n rI
      have k1H := hid (kcH.out.trans k1)
      clear rF rI k1 hpk
      dsimp only
      go_wp2_with fail
      go_ret
      exact ⟨rfl, k1H.out.alloc _⟩
    · rw [hp] at hpk
      unfold PickSays at hpk
      clear hp
      obtain ⟨hF0, hFs, hFc⟩ := from_closed hokH.out (by omega) q h0
      have hsp := span_app hF0 (meetL (V.lv (n + 1)) (spanP (fromP V.lv n q)))
      have hIs := meet_sub (V.lv (n + 1)) (spanP (fromP V.lv n q))
      have hIm : Hid (∀ m ∈ meetL (V.lv (n + 1)) (spanP (fromP V.lv n q)), meetB (spanP (fromP V.lv n q)).1 (spanP (fromP V.lv n q)).2 m = true) := hid (fun m hm => (List.mem_filter.1 hm).2)
      have hIc : Hid (∀ m ∈ V.lv (n + 1), meetB (spanP (fromP V.lv n q)).1 (spanP (fromP V.lv n q)).2 m = true → m ∈ meetL (V.lv (n + 1)) (spanP (fromP V.lv n q))) := hid (fun m hm h => List.mem_filter.2 ⟨hm, h⟩)
      have hFcH : Hid (n = 0 → ∀ m ∈ V.lv 0, meetB (spanP (fromP V.lv n q)).1 (spanP (fromP V.lv n q)).2 m = true → m ∈ fromP V.lv n q) := hid (fun e m hm h => by rw [← hFc e]; exact List.mem_filter.2 ⟨hm, h⟩)
      have hbt : Hid (bottomP V.lv n (spanP (fromP V.lv n q ++ meetL (V.lv (n + 1)) (spanP (fromP V.lv n q)))) = botK V.lv n (spanP (fromP V.lv n q ++ meetL (V.lv (n + 1)) (spanP (fromP V.lv n q)))) 4) := hid rfl
      have hFf : Hid (∀ m ∈ fromP V.lv n q, m.file ≤ 1099511627776) := hid (fun m hm => ok_file hokH.out (by omega) m (hFs.subset hm))
      have hIf : Hid (∀ m ∈ meetL (V.lv (n + 1)) (spanP (fromP V.lv n q)), m.file ≤ 1099511627776) := hid (fun m hm => ok_file hokH.out (by omega) m (hIs.subset hm))
      have hFl : Hid ((fromP V.lv n q).length ≤ 20000) := hid (Nat.le_trans hFs.length_le (hvH.out.few n (by omega)))
      have hIl : Hid ((meetL (V.lv (n + 1)) (spanP (fromP V.lv n q))).length ≤ 20000) := hid (Nat.le_trans hIs.length_le (hvH.out.few (n + 1) (by omega)))
      rw [hsp] at hbt hpk
      generalize hI : meetL (V.lv (n + 1)) (spanP (fromP V.lv n q)) = I at *
      generalize hF : fromP V.lv n q = F at *
      clear hFs hIs hFc hsp h0
      have hIH := hid hI
      have hFH := hid hF
      clear hI hF
      generalize hB : bottomP V.lv n (I.foldl stepS (spanP F)) = bt at *
      have hBH := hid hB
      clear hB
      go_wp2_with fail
      refine hpk.out.mono ?_
      rintro e w1 ⟨k1, ⟨FA, Fn, Fc⟩, ⟨IA, In, Ic⟩, rfl, rF, rI⟩
      obtain rfl : Fn = F.length := rd_n rF
      obtain rfl : In = I.length := rd_n rI
      have k1H := hid (kcH.out.trans k1)
      have hv1 := hid (hvH.out.kp k1)
      unfold SlA.v at rF rI
      dsimp only at rF rI ⊢
      obtain ⟨x0, hx0⟩ : ∃ x, F[0]? = some x := ⟨_, List.getElem?_eq_getElem hF0⟩
      obtain ⟨g, off, rfl, _, a0, a1, a2, a3, a4⟩ := rd_meta rF rfl hx0
      rw [Nat.zero_mul, Nat.add_zero] at a0 a1 a2 a3 a4
      have hgl : g < w1.heap.size := World.block_lt_of_cell? w1 _ a0
      have hs0 : Hid (spanK F 0 = (x0.first, x0.last)) := hid (by
        cases F with
        | nil => simp at hx0
        | cons y l => simp at hx0; subst hx0; rfl)
      have rFH := hid rF
      have rIH := hid rI
      have hF0' : (0 : Int) < (F.length : Int) := by omega
      have e0 : ((F.length : Int) == 0) = false := by rw [beq_eq_false_iff_ne]; omega
      have e0' : (F.length == 0) = false := by rw [beq_eq_false_iff_ne]; omega
      have hl63 : F.length ≤ 9223372036854775807 := by have := hFl.out; omega
      have hi63 : I.length ≤ 9223372036854775807 := by have := hIl.out; omega
      have hmm := @run_makeMap Try.prog
      have k2H : Hid (Kp w1 (w1.alloc (.cells #[.int .i64 n, .slice (some ⟨g, off, none⟩) F.length Fc, .slice IA I.length Ic, .bool bt] 41 (0, 0)))) := hid ((Kp.refl w1).alloc _)
      have o2 := (Own.start w1).alloc (.cells #[.int .i64 n, .slice (some ⟨g, off, none⟩) F.length Fc, .slice IA I.length Ic, .bool bt] 41 (0, 0))
      have p0 := o2.cell (i := 0) (v := .int .i64 n) rfl
      have p1 := o2.cell (i := 1) (v := .slice (some ⟨g, off, none⟩) F.length Fc) rfl
      have p2 := o2.cell (i := 2) (v := .slice IA I.length Ic) rfl
      have p3 := o2.cell (i := 3) (v := .bool bt) rfl
      clear rF rI k1 hpk hx0 o2
      go_wp2_with fail
      obtain ⟨w2, hw2⟩ : ∃ w2, w2 = w1.alloc (.cells #[.int .i64 n, .slice (some ⟨g, off, none⟩) F.length Fc, .slice IA I.length Ic, .bool bt] 41 (0, 0)) := ⟨_, rfl⟩
      have hs2 : w2.heap.size = w1.heap.size + 1 := by rw [hw2, World.size_alloc]
      rw [← hw2] at k2H p0 p1 p2 p3 ⊢
      have b2 := k2H.out.cell a2
      have b3 := k2H.out.cell a3
      rw [← hs2]
      generalize hpb : w1.heap.size = pb at *
      have hpbl : pb < w2.heap.size := by omega
      have hgl2 : g < w2.heap.size := by omega
      have hv2 := hid (hv1.out.kp k2H.out)
      have rF2 := hid (k2H.out.rd rFH.out)
      have rI2 := hid (k2H.out.rd rIH.out)
      have k02 := hid (k1H.out.trans k2H.out)
      clear a0 a1 a2 a3 a4 hw2 hs2 hpb hgl k2H rFH rIH hv1 k1H
      have hp0 : pb ≠ w2.heap.size := by omega
      have hp1 : pb ≠ w2.heap.size + 1 := by omega
      have hp2 : pb ≠ w2.heap.size + 1 + 1 := by omega
      have hg0 : g ≠ w2.heap.size := by omega
      have hg1 : g ≠ w2.heap.size + 1 := by omega
      have hg2 : g ≠ w2.heap.size + 1 + 1 := by omega
      have hp3 : pb < w2.heap.size + 1 := by omega
      have hp4 : pb < w2.heap.size + 1 + 1 := by omega
      have hp5 : pb < w2.heap.size + 1 + 1 + 1 := by omega
      have hg3 : g < w2.heap.size + 1 := by omega
      have hg4 : g < w2.heap.size + 1 + 1 := by omega
      have hg5 : g < w2.heap.size + 1 + 1 + 1 := by omega
      go_cut [14, 15] (fun s14 s15 w3 => ∃ fb lb : Nat, s14 = .pointer (some ⟨fb, 0, none⟩) ∧ s15 = .pointer (some ⟨lb, 0, none⟩) ∧ PdO w3 w2 w2.heap.size fb lb #[] 0 (.map []) [] (x0.first, x0.last) [bs w2])
      case first =>
        go_region
        all_goals
          (try go_wp2_with fail)
          go_meet
          case rel => first | exact ⟨_, _, rfl, rfl, PdO.start w2 x0.first x0.last⟩ | exact ⟨_, _, rfl, rfl, PdO.start' w2 x0.first x0.last⟩
      case rest =>
      obtain ⟨fb, lb, rfl, rfl, v0'⟩ := hcut
      have v0 := hid v0'
      obtain ⟨w3, hw3⟩ : ∃ x : World, x = wc := ⟨_, rfl⟩
      subst hw3
      clear v0' hp0 hp1 hp2 hp3 hp4 hp5 hg0 hg1 hg2 hg3 hg4 hg5 hpbl hgl2 b2 b3
      generalize w2.heap.size = mb at v0 ⊢
      have p0H := hid p0
      have p1H := hid p1
      have p2H := hid p2
      have p3H := hid p3
      have q1 := v0.out.base.cell p1
      clear p0 p1 p2 p3
      have v1 : Hid (PdO w3 w2 mb fb lb #[] 0 (.map []) (fileK F 0 []) (spanK F 0) [bs w2]) := hid (by rw [hs0.out]; exact v0.out)
      have hmin := run_minK
      have hmax := run_maxK
      clear v0
      go_wp2_with fail
      go_loopw [104] (fun i wr => ∃ (j : Nat) (es : Array MapEntry) (clk : Nat) (D : DataW Unit), i = .int .i64 j ∧ j ≤ F.length ∧ PdO wr w2 mb fb lb es clk D (fileK F j []) (spanK F j) [bs w2]) (fun i _ => F.length - (intOf i).toNat)
      case atStart => exact ⟨0, _, _, _, rfl, Nat.zero_le _, v1.out⟩
      case round =>
        obtain ⟨j, es, clk, D, rfl, hj, hv⟩ := hrel
        have hvH := hid hv
        clear hv v1 q1
        obtain ⟨wa, hwa⟩ : ∃ x : World, x = wr := ⟨_, rfl⟩
        subst hwa
        by_cases hjl : j < F.length
        · have hx : F[j]? = some F[j] := List.getElem?_eq_getElem hjl
          obtain ⟨g', off', hA', _, d0, d1, d2, d3, d4⟩ := rd_meta (hvH.out.base.rd rF2.out) rfl hx
          simp only [Option.some.injEq, Addr.mk.injEq, and_true] at hA'
          obtain ⟨rfl, rfl⟩ := hA'
          have hbig := hid (hFf.out _ (List.mem_of_getElem? hx))
          have hsu := hid (fileK_succ hx [])
          have hsp := hid (spanK_succ hx)
          have hjl' : (j : Int) < (F.length : Int) := by omega
          have hlen : Hid ((fileK F j []).length ≤ 100000) := hid (by have := fileK_len F j []; have := hFl.out; simp only [List.length_nil] at *; omega)
          generalize F[j] = x at *
          clear hx
          have va := hid (hvH.out.alloc (.cells #[.int .u64 x.file, .int .i64 x.size, .string x.first, .string x.last, .int .u64 x.seq] 56 (0, 0)))
          go_wp2_with (first | (at_mapUpdate; refine wpList_mapUpdate_own _ rfl _ _ _ 61 rfl 32 4 law64 Try.underlying61 RB mb (fileK F j []).length D rfl (own_map va.out.own va.out.map) (by have := hlen.out; unfold maxLen; omega) _ _ _ rfl rfl (keyOf_int_mk Try.underlying32 (wf_n hbig.out)) _ [] (plainElem_bool Try.underlying4 true) ?_; intro w8 hown8 hgrow8) | fail)
          obtain ⟨es8, clk8, hm8⟩ := va.out.put hown8 hgrow8
          rw [← hsu.out] at hm8
          have hm8H := hid hm8
          generalize wa.heap.size = qb at *
          have c1 := hm8.first
          have c2 := hm8.last
          have m2 := hm8.at4 (i := 2) (v := .string x.first) rfl
          have m3 := hm8.at4 (i := 3) (v := .string x.last) rfl
          have f1 := (Own.pick 1 hm8.own).free 0
          have f2 := (Own.pick 2 hm8.own).free 0
          obtain ⟨n1, n2, n3, n4, n5, n6⟩ := hm8.nes
          clear hown8 hgrow8 hm8 d0 d1 d2 d3 d4
          go_wp2_with fail
          go_region
          have vt := hid (((hm8H.out.turn (minK (spanK F j).1 x.first) (maxK (spanK F j).2 x.last)).kp ((Kp.refl _).drew)).drop)
          rw [← hsp.out] at vt
          clear c1 c2 m2 m3 f1 f2
          go_wp2_with fail
          go_roundw
          case rel => first | exact ⟨j + 1, _, _, _, by go_num, by omega, vt.out⟩ | exact ⟨j + 1, by go_num, by omega, _, _, _, vt.out⟩
          case measure => simp [intOf]; omega
        · obtain rfl : j = F.length := by omega
          have hvF := hvH.out
          rw [spanK_len] at hvF
          have hvFH := hid hvF
          have hFin : Hid (∀ x ∈ F, (fileK F F.length []).contains x.file = true) := hid (fun x hx => fileK_mem hx [])
          have hLl : Hid ((fileK F F.length []).length ≤ 20000) := hid (by have := fileK_len F F.length []; have := hFl.out; simp only [List.length_nil] at *; omega)
          generalize fileK F F.length [] = LF at *
          have hlev : Hid (∀ (l : Int) (m : Nat), l = m → m < 4 → ∀ (w1 : World), Kp w2 w1 → Calls Try.prog 29 #[.pointer (some ⟨p, 0, none⟩), .int .i64 l] w1 fun e w' => ∃ A c, e = .returned (.slice A (V.lv m).length c) ∧ Rd w' metaE (.slice A (V.lv m).length c) (V.lv m) ∧ Kp w1 w') := hid (fun l m e hm w1 k => by
            subst e
            refine (level_c p S V m w1 (hv2.out.kp k)).mono ?_
            rintro e w' ⟨v', he, o', x'⟩
            rw [levelM_at _ hm] at o'
            obtain ⟨A', n', c', rfl⟩ := sl_shape o'
            obtain rfl : n' = (V.lv m).length := rd_n (s := ⟨A', n', c'⟩) (sl_rd o')
            exact ⟨A', c', he, sl_rd o', kp_of1 o' x'⟩)
          have hfew := hid (fun m hm => Nat.le_trans (hv2.out.few m hm) (show 20000 ≤ 9223372036854775807 by omega))
          have hlf := hid (fun m hm => ok_file (l := m) hokH.out hm)
          have hbel := belK_start
          have k02b := hid hvFH.out.base
          clear hvF hvH hs0
          go_upto_if 122 with fail
          go_cut [] (fun wc => PdO wc w2 mb fb lb es clk D LF (spanP F) [bs w2])
          case first =>
            by_cases hn0 : n = 0
            · subst hn0
              have hn0 : (0 : Nat) = 0 := rfl
              have z0 : (((0 : Nat) : Int) == 0) = true := rfl
              have hin : Hid (∀ m ∈ V.lv 0, meetB (spanP F).1 (spanP F).2 m = true → LF.contains m.file = true) := hid (fun m hm h => hFin.out m (hFcH.out hn0 m hm h))
              have hl0 := hid (hlev.out 0 0 rfl (by omega))
              have hy63 := hfew.out 0 (by omega)
              have hyf := hid (hlf.out 0 (by omega))
              generalize V.lv 0 = ys at hin hl0 hy63 hyf
              go_wp2_with fail
              refine (hl0.out _ k02b.out).mono ?_
              rintro e w4 ⟨A4, c4, rfl, r4, k4⟩
              have r4H := hid r4
              have v4 := hid (hvFH.out.kp k4)
              clear r4 k4
              go_wp2_with fail
              go_loopw [126] (fun i wq => ∃ j : Nat, i = .int .i64 j ∧ j ≤ ys.length ∧ Kp w4 wq) (fun i _ => ys.length - (intOf i).toNat)
              case atStart => exact ⟨0, rfl, Nat.zero_le _, Kp.refl _⟩
              case round =>
                obtain ⟨j, rfl, hj, kj⟩ := hrel
                have kjH := hid kj
                clear kj
                obtain ⟨wq, hwq⟩ : ∃ x : World, x = wr := ⟨_, rfl⟩
                subst hwq
                by_cases hjl : j < ys.length
                · have hx : ys[j]? = some ys[j] := List.getElem?_eq_getElem hjl
                  obtain ⟨gq, offq, rfl, _, d0, d1, d2, d3, d4⟩ := rd_meta (kjH.out.rd r4H.out) rfl hx
                  have hxm := List.mem_of_getElem? hx
                  have hxi := hid (hin.out _ hxm)
                  have hxf := hid (hyf.out _ hxm)
                  have hjl' : (j : Int) < (ys.length : Int) := by omega
                  generalize ys[j] = x at *
                  clear hx hxm
                  have vb := hid ((v4.out.kp kjH.out).alloc (.cells #[.int .u64 x.file, .int .i64 x.size, .string x.first, .string x.last, .int .u64 x.seq] 56 (0, 0)))
                  have kb := hid (kjH.out.alloc (.cells #[.int .u64 x.file, .int .i64 x.size, .string x.first, .string x.last, .int .u64 x.seq] 56 (0, 0)))
                  have hcl := hid (fun w1 (k : Kp (wq.alloc (.cells #[.int .u64 x.file, .int .i64 x.size, .string x.first, .string x.last, .int .u64 x.seq] 56 (0, 0))) w1) => lmeets_c fb lb x (spanP F).1 (spanP F).2 w1 (k.cell vb.out.first) (k.cell vb.out.last))
                  have hbb := bool_cases (meetB (spanP F).1 (spanP F).2 x)
                  go_wp2_with fail
                  refine (hcl.out _ (Kp.refl _)).mono ?_
                  rintro e w5 ⟨rfl, k5⟩
                  have v5 := hid (vb.out.kp k5)
                  have k5H := hid (kb.out.trans k5)
                  have m0 := v5.out.at4 (i := 0) (v := .int .u64 x.file) rfl
                  have lk := v5.out.look hxf.out
                  generalize wq.heap.size = qb at *
                  clear k5 hcl d0 d1 d2 d3 d4
                  rcases hbb with hb | hb
                  · rw [hxi.out hb] at lk
                    rw [hb]
                    go_wp2_with fail
                    go_roundw
                    case rel => exact ⟨j + 1, by go_num, by omega, k5H.out⟩
                    case measure => simp [intOf]; omega
                  · rw [hb]
                    go_wp2_with fail
                    go_roundw
                    case rel => exact ⟨j + 1, by go_num, by omega, k5H.out⟩
                    case measure => simp [intOf]; omega
                · obtain rfl : j = ys.length := by omega
                  have vf := hid (v4.out.kp kjH.out)
                  go_wp2_with fail
                  go_meet
                  case rel => exact vf.out
            · have z0 : ((n : Int) == 0) = false := by rw [beq_eq_false_iff_ne]; omega
              go_wp2_with fail
              go_meet
              case rel => exact hvFH.out
          case rest =>
          have vcH := hid hcut
          have q2 := vcH.out.base.cell p2H.out
          have vc0 : Hid (PdO wc w2 mb fb lb es clk D (fileK I 0 LF) (spanP F) [bs w2]) := vcH
          clear hcut hvFH hFin hFcH k02b
          go_wp2_with fail
          go_loopw [144] (fun i wr => ∃ (j : Nat) (es : Array MapEntry) (clk : Nat) (D : DataW Unit), i = .int .i64 j ∧ j ≤ I.length ∧ PdO wr w2 mb fb lb es clk D (fileK I j LF) (spanP F) [bs w2]) (fun i _ => I.length - (intOf i).toNat)
          case atStart => exact ⟨0, _, _, _, rfl, Nat.zero_le _, vc0.out⟩
          case round =>
            clear vc0 vcH q2
            obtain ⟨j, es, clk, D, rfl, hj, hv⟩ := hrel
            have hvH := hid hv
            clear hv
            obtain ⟨wa, hwa⟩ : ∃ x : World, x = wr := ⟨_, rfl⟩
            subst hwa
            by_cases hjl : j < I.length
            · have hx : I[j]? = some I[j] := List.getElem?_eq_getElem hjl
              obtain ⟨gi, offi, rfl, _, d0, d1, d2, d3, d4⟩ := rd_meta (hvH.out.base.rd rI2.out) rfl hx
              have hbig := hid (hIf.out _ (List.mem_of_getElem? hx))
              have him := hid (hIm.out _ (List.mem_of_getElem? hx))
              have hsu := hid (fileK_succ hx LF)
              have hjl' : (j : Int) < (I.length : Int) := by omega
              have hlen : Hid ((fileK I j LF).length ≤ 100000) := hid (by have := fileK_len I j LF; have := hIl.out; have := hLl.out; omega)
              generalize I[j] = x at *
              clear hx
              have va := hid (hvH.out.alloc (.cells #[.int .u64 x.file, .int .i64 x.size, .string x.first, .string x.last, .int .u64 x.seq] 56 (0, 0)))
              go_wp2_with (first | (at_mapUpdate; refine wpList_mapUpdate_own _ rfl _ _ _ 61 rfl 32 4 law64 Try.underlying61 RB mb (fileK I j LF).length D rfl (own_map va.out.own va.out.map) (by have := hlen.out; unfold maxLen; omega) _ _ _ rfl rfl (keyOf_int_mk Try.underlying32 (wf_n hbig.out)) _ [] (plainElem_bool Try.underlying4 true) ?_; intro w8 hown8 hgrow8; obtain ⟨es8, clk8, hm8⟩ := va.out.put hown8 hgrow8; have m0 := hm8.at4 (i := 0) (v := .int .u64 x.file) rfl; have m1 := hm8.at4 (i := 1) (v := .int .i64 x.size) rfl; have m2 := hm8.at4 (i := 2) (v := .string x.first) rfl; have m3 := hm8.at4 (i := 3) (v := .string x.last) rfl; have m4 := hm8.at4 (i := 4) (v := .int .u64 x.seq) rfl; have hcl := hid (lmeets_c fb lb x (spanP F).1 (spanP F).2 w8 hm8.first hm8.last); rw [← hsu.out] at hm8; have hm8H := hid hm8; rw [him.out] at hcl; clear hown8 hgrow8 hm8) | fail)
              refine hcl.out.mono ?_
              rintro e w9 ⟨rfl, k9⟩
              have v9 := hid ((hm8H.out.kp k9).drop)
              clear k9 m0 m1 m2 m3 m4 hcl
              go_wp2_with fail
              go_roundw
              case rel => first | exact ⟨j + 1, _, _, _, by go_num, by omega, v9.out⟩ | exact ⟨j + 1, by go_num, by omega, _, _, _, v9.out⟩
              case measure => simp [intOf]; omega
            · obtain rfl : j = I.length := by omega
              have hin0 : Hid (∀ m ∈ V.lv (n + 1), meetB (spanP F).1 (spanP F).2 m = true → (fileK I I.length LF).contains m.file = true) := hid (fun m hm h => fileK_mem (hIc.out m hm h) LF)
              have hl0 := hid (hlev.out ((n : Int) + 1) (n + 1) (by omega) (by omega))
              have hy63 := hfew.out (n + 1) (by omega)
              have hyf := hid (hlf.out (n + 1) (by omega))
              generalize fileK I I.length LF = LI at *
              generalize V.lv (n + 1) = ys at hin0 hl0 hy63 hyf
              have hin := hin0
              clear hin0
              have hn4 : (n : Int) < 4 := by omega
              go_wp2_with fail
              refine (hl0.out _ hvH.out.base).mono ?_
              rintro e w4 ⟨A4, c4, rfl, r4, k4⟩
              have r4H := hid r4
              have v4 := hid (hvH.out.kp k4)
              clear r4 k4 hvH hl0
              go_wp2_with fail
              go_loopw [161] (fun i wq => ∃ j : Nat, i = .int .i64 j ∧ j ≤ ys.length ∧ Kp w4 wq) (fun i _ => ys.length - (intOf i).toNat)
              case atStart => exact ⟨0, rfl, Nat.zero_le _, Kp.refl _⟩
              case round =>
                obtain ⟨j, rfl, hj, kj⟩ := hrel
                have kjH := hid kj
                clear kj
                obtain ⟨wq, hwq⟩ : ∃ x : World, x = wr := ⟨_, rfl⟩
                subst hwq
                by_cases hjl : j < ys.length
                · have hx : ys[j]? = some ys[j] := List.getElem?_eq_getElem hjl
                  obtain ⟨gq, offq, rfl, _, d0, d1, d2, d3, d4⟩ := rd_meta (kjH.out.rd r4H.out) rfl hx
                  have hxm := List.mem_of_getElem? hx
                  have hxi := hid (hin.out _ hxm)
                  have hxf := hid (hyf.out _ hxm)
                  have hjl' : (j : Int) < (ys.length : Int) := by omega
                  generalize ys[j] = x at *
                  clear hx hxm
                  have vb := hid ((v4.out.kp kjH.out).alloc (.cells #[.int .u64 x.file, .int .i64 x.size, .string x.first, .string x.last, .int .u64 x.seq] 56 (0, 0)))
                  have kb := hid (kjH.out.alloc (.cells #[.int .u64 x.file, .int .i64 x.size, .string x.first, .string x.last, .int .u64 x.seq] 56 (0, 0)))
                  have hcl := hid (fun w1 (k : Kp (wq.alloc (.cells #[.int .u64 x.file, .int .i64 x.size, .string x.first, .string x.last, .int .u64 x.seq] 56 (0, 0))) w1) => lmeets_c fb lb x (spanP F).1 (spanP F).2 w1 (k.cell vb.out.first) (k.cell vb.out.last))
                  have hbb := bool_cases (meetB (spanP F).1 (spanP F).2 x)
                  go_wp2_with fail
                  refine (hcl.out _ (Kp.refl _)).mono ?_
                  rintro e w5 ⟨rfl, k5⟩
                  have v5 := hid (vb.out.kp k5)
                  have k5H := hid (kb.out.trans k5)
                  have m0 := v5.out.at4 (i := 0) (v := .int .u64 x.file) rfl
                  have lk := v5.out.look hxf.out
                  generalize wq.heap.size = qb at *
                  clear k5 hcl d0 d1 d2 d3 d4
                  rcases hbb with hb | hb
                  · rw [hxi.out hb] at lk
                    rw [hb]
                    go_wp2_with fail
                    go_roundw
                    case rel => exact ⟨j + 1, by go_num, by omega, k5H.out⟩
                    case measure => simp [intOf]; omega
                  · rw [hb]
                    go_wp2_with fail
                    go_roundw
                    case rel => exact ⟨j + 1, by go_num, by omega, k5H.out⟩
                    case measure => simp [intOf]; omega
                · obtain rfl : j = ys.length := by omega
                  have vf := hid (v4.out.kp kjH.out)
                  clear kjH hin hyf r4H hIc hFf hIm hIf hlf hy63
                  have q2 := vf.out.base.cell p2H.out
                  have vf0 : Hid (PdO wq w2 mb fb lb es clk D LI ((I.take 0).foldl stepS (spanP F)) [bs w2]) := vf
                  clear vf
                  go_wp2_with fail
                  go_loopw [179] (fun i wr => ∃ j : Nat, i = .int .i64 j ∧ j ≤ I.length ∧ PdO wr w2 mb fb lb es clk D LI ((I.take j).foldl stepS (spanP F)) [bs w2]) (fun i _ => I.length - (intOf i).toNat)
                  case atStart => exact ⟨0, rfl, Nat.zero_le _, vf0.out⟩
                  case round =>
                    clear vf0 q2
                    obtain ⟨j, rfl, hj, hv⟩ := hrel
                    have hvH := hid hv
                    clear hv
                    obtain ⟨wa, hwa⟩ : ∃ x : World, x = wr := ⟨_, rfl⟩
                    subst hwa
                    by_cases hjl : j < I.length
                    · have hx : I[j]? = some I[j] := List.getElem?_eq_getElem hjl
                      obtain ⟨gi, offi, rfl, _, d0, d1, d2, d3, d4⟩ := rd_meta (hvH.out.base.rd rI2.out) rfl hx
                      have hsp := hid (step_at hx (spanP F))
                      have hjl' : (j : Int) < (I.length : Int) := by omega
                      generalize I[j] = x at *
                      clear hx
                      generalize (I.take j).foldl stepS (spanP F) = r at *
                      have hm8 := hvH.out.alloc (.cells #[.int .u64 x.file, .int .i64 x.size, .string x.first, .string x.last, .int .u64 x.seq] 56 (0, 0))
                      have hm8H := hid hm8
                      clear hm8
                      go_wp2_with fail
                      obtain ⟨w8, hw8⟩ : ∃ w8, w8 = wa.alloc (.cells #[.int .u64 x.file, .int .i64 x.size, .string x.first, .string x.last, .int .u64 x.seq] 56 (0, 0)) := ⟨_, rfl⟩
                      rw [← hw8] at hm8H ⊢
                      generalize wa.heap.size = qb at *
                      have c1 := hm8H.out.first
                      have c2 := hm8H.out.last
                      have m2 := hm8H.out.at4 (i := 2) (v := .string x.first) rfl
                      have m3 := hm8H.out.at4 (i := 3) (v := .string x.last) rfl
                      have f1 := (Own.pick 1 hm8H.out.own).free 0
                      have f2 := (Own.pick 2 hm8H.out.own).free 0
                      obtain ⟨n1, n2, n3, n4, n5, n6⟩ := hm8H.out.nes
                      clear d0 d1 d2 d3 d4 hw8
                      go_region
                      have vt := hid (((hm8H.out.turn (minK r.1 x.first) (maxK r.2 x.last)).kp ((Kp.refl _).drew)).drop)
                      have vt2 : Hid (PdO _ w2 mb fb lb es clk D LI ((I.take (j + 1)).foldl stepS (spanP F)) [bs w2]) := hid (by rw [hsp.out]; exact vt.out)
                      clear c1 c2 m2 m3 f1 f2 vt
                      go_wp2_with fail
                      go_roundw
                      case rel => exact ⟨j + 1, by go_num, by omega, vt2.out⟩
                      case measure => simp [intOf]; omega
                    · obtain rfl : j = I.length := by omega
                      have hvR := hvH.out
                      rw [List.take_length] at hvR
                      have hbs := botK_start V.lv n (I.foldl stepS (spanP F))
                      generalize I.foldl stepS (spanP F) = R at *
                      have hvRH := hid hvR
                      clear hvR hvH
                      go_wp2_with fail
                      go_loopw [27, 28] (fun s27 s28 wr => ∃ b : Nat, s28 = .int .i64 b ∧ n + 2 ≤ b ∧ b ≤ 4 ∧ s27 = .bool (!botK V.lv n R b) ∧ PdO wr w2 mb fb lb es clk D LI R [bs w2]) (fun _ s28 _ => 4 - (intOf s28).toNat)
                      case atStart => exact ⟨n + 2, by go_num, by omega, by omega, by rw [hbs]; rfl, hvRH.out⟩
                      case round =>
                        clear hbs hvRH
                        obtain ⟨b, rfl, hb1, hb2, rfl, hv⟩ := hrel
                        have hvH := hid hv
                        clear hv
                        by_cases hlt : b < 4
                        · have hlt' : (b : Int) < 4 := by omega
                          have hl0 := hid (hlev.out b b rfl hlt)
                          have hy63 := hfew.out b hlt
                          have hbe := hid (belK_end V.lv n R hb1)
                          have hbsu := hid (fun j x => @belK_succ V.lv n R b j x)
                          have hb0 : Hid (belK V.lv n R b 0 = !botK V.lv n R b) := hid (belK_start V.lv n R b)
                          have hvl := hid (rfl : (V.lv b).length = (V.lv b).length)
                          obtain ⟨ys, hys⟩ : ∃ ys, ys = V.lv b := ⟨_, rfl⟩
                          rw [← hys] at hl0 hy63 hbe hbsu
                          clear hvl hys
                          go_wp2_with fail
                          refine (hl0.out _ hvH.out.base).mono ?_
                          rintro e w4 ⟨A4, c4, rfl, r4, k4⟩
                          have r4H := hid r4
                          have v4 := hid (hvH.out.kp k4)
                          clear r4 k4 hvH hl0
                          go_wp2_with fail
                          go_loopw [27, 202] (fun s27 i wq => ∃ j : Nat, i = .int .i64 j ∧ j ≤ ys.length ∧ s27 = .bool (belK V.lv n R b j) ∧ Kp w4 wq) (fun _ i _ => ys.length - (intOf i).toNat)
                          case atStart => exact ⟨0, rfl, Nat.zero_le _, by rw [hb0.out], Kp.refl _⟩
                          case round =>
                            clear hb0
                            obtain ⟨j, rfl, hj, rfl, kj⟩ := hrel
                            have kjH := hid kj
                            clear kj
                            obtain ⟨wq, hwq⟩ : ∃ x : World, x = wr := ⟨_, rfl⟩
                            subst hwq
                            by_cases hjl : j < ys.length
                            · have hx : ys[j]? = some ys[j] := List.getElem?_eq_getElem hjl
                              obtain ⟨gq, offq, rfl, _, d0, d1, d2, d3, d4⟩ := rd_meta (kjH.out.rd r4H.out) rfl hx
                              have hsu := hid (hbsu.out j _ hx)
                              have hjl' : (j : Int) < (ys.length : Int) := by omega
                              generalize ys[j] = x at *
                              clear hx
                              have vb := hid ((v4.out.kp kjH.out).alloc (.cells #[.int .u64 x.file, .int .i64 x.size, .string x.first, .string x.last, .int .u64 x.seq] 56 (0, 0)))
                              have kb := hid (kjH.out.alloc (.cells #[.int .u64 x.file, .int .i64 x.size, .string x.first, .string x.last, .int .u64 x.seq] 56 (0, 0)))
                              have hcl := hid (fun w1 (k : Kp (wq.alloc (.cells #[.int .u64 x.file, .int .i64 x.size, .string x.first, .string x.last, .int .u64 x.seq] 56 (0, 0))) w1) => lmeets_c fb lb x R.1 R.2 w1 (k.cell vb.out.first) (k.cell vb.out.last))
                              have hbb := bool_cases (belK V.lv n R b j)
                              generalize belK V.lv n R b j = bb at *
                              rcases hbb with rfl | rfl
                              · rw [Bool.true_or] at hsu
                                clear hcl
                                go_wp2_with fail
                                go_roundw
                                case rel => exact ⟨j + 1, by go_num, by omega, by rw [hsu.out], kb.out⟩
                                case measure => simp [intOf]; omega
                              · rw [Bool.false_or] at hsu
                                go_wp2_with fail
                                refine (hcl.out _ (Kp.refl _)).mono ?_
                                rintro e w5 ⟨rfl, k5⟩
                                have k5H := hid (kb.out.trans k5)
                                clear k5 hcl d0 d1 d2 d3 d4
                                go_wp2_with fail
                                go_roundw
                                case rel => exact ⟨j + 1, by go_num, by omega, by rw [hsu.out], k5H.out⟩
                                case measure => simp [intOf]; omega
                            · obtain rfl : j = ys.length := by omega
                              rw [hbe.out]
                              have vz := hid (v4.out.kp kjH.out)
                              clear kjH hbe hbsu r4H v4
                              go_wp2_with fail
                              go_roundw
                              case rel => exact ⟨b + 1, by go_num, by omega, by omega, rfl, vz.out⟩
                              case measure => simp [intOf]; omega
                        · obtain rfl : b = 4 := by omega
                          have q3 := hvH.out.base.cell p3H.out
                          have kend := hid (k02.out.trans hvH.out.base)
                          rw [← hbt.out]
                          cases bt
                          all_goals
                            go_wp2_with fail
                            go_ret
                            exact ⟨rfl, kend.out⟩
theorem levelPicked_row (v : Value) (xs : List EdV) (l k : Int) (W : World) (hr : Rd W edE v xs) (hp : ∀ x ∈ xs, EditW W x.g x.S x.E) (_ : (Lit.int .i64 l).wf = true) (hk : (Lit.int .i64 k).wf = true) :
    Calls Try.prog 6 #[v, .int .i64 l, .int .i64 k] W fun e W' => e = .returned (.bool true) ∧ Below W.heap.size W W' := by
  have hk2 : k ≤ 9223372036854775807 := by
    simp [Lit.wf, IntKind.min, IntKind.max, IntKind.signed, IntKind.bits] at hk
    omega
  refine (pickedLaw_c v xs l k W ⟨hr, hp⟩ hk2).mono ?_
  rintro e w' ⟨h1, h2⟩
  exact ⟨h1, ⟨h2.ext.os, h2.ext.tape, h2.ext.output, h2.ext.size, h2.same⟩⟩
end Go.Proofs.Ytdmdnhceiddcfaa
