/- The walk of awake. -/
import Derived.Test.YtihbflmjgndfiaaEntK
import Derived.Test.YtihbflmjgndfiaaEntD
import Derived.Test.YtihbflmjgndfiaaEntE
import Derived.Test.YtihbflmjgndfiaaEntG
import Derived.Test.YtihbflmjgndfiaaEntL
import Derived.Test.YtihbflmjgndfiaaEntW
namespace Go.Proofs.Ytihbflmjgndfiaa
open Go.RowKit Go.Sl Go.Scree

theorem betweenW : betweenP [a9, a4, b3, c1] kB kC = [b3] := by
  have hn : nilK kC = false := by
    unfold nilK
    rw [Lib.toList_data]; rfl
  unfold betweenP
  rw [if_pos (rowB_iff.2 rowAll)]
  simp [outB, hn, a9, a4, b3, c1, abL, ltK_irrefl, bcL]

theorem rdr_new {w : World} {b n : Nat} {T : TypeId} {fr : Nat × Nat} {cs : Array Value} {rs : List RowV} (hb : w.heap.size = b) (hn : n = rs.length) (hm : n ≤ maxLen) (hc : cs.toList = rowE.flat rs) (hin : ∀ r ∈ rs, Rd w entE (.slice r.A r.n r.c) r.l) (hs : ∀ r ∈ rs, r.l.length ≤ 1000000) : RdR (w.alloc (.cells cs T fr)) (.slice (some ⟨b, 0, none⟩) n n) rs :=
  ⟨rd_new hb hn hm hc, fun r hr => ((Kp.refl w).alloc _).rd (hin r hr), hs⟩
theorem rd_shape {α : Type} {E : Enc α} {w : World} {v : Value} {xs : List α} {n : Nat} (h : Rd w E v xs) (hn : xs.length = n) : ∃ A c, v = .slice A n c := by
  obtain ⟨A, c, rfl, _⟩ := h.form
  exact ⟨A, c, by rw [hn]⟩
theorem all_kp {rs : List RowV} {w w' : World} {e : Ending} (h : AllSays rs w e w') : Kp w w' := by
  obtain ⟨v', out, _, o, ex, _⟩ := h
  exact kp_of1 o ex
theorem all_rd {rs : List RowV} {w w' : World} {e : Ending} (h : AllSays rs w e w') (hg : goodR (listsOf rs) = true) : ∃ v', e = .returned (.tuple #[v', .int .i64 0]) ∧ Rd w' entE v' (allP (listsOf rs)) ∧ Kp w w' := by
  have hk := all_kp h
  obtain ⟨v', out, rfl, o, ex, h1, _⟩ := h
  have he := (h1 hg).unique (isAll_allP hg)
  subst he
  exact ⟨v', by rw [if_pos hg], sl_rd o, hk⟩
theorem all_bad {rs : List RowV} {w w' : World} {e : Ending} (h : AllSays rs w e w') (hg : goodR (listsOf rs) = false) : e = .returned (.tuple #[.slice none 0 0, .int .i64 2]) ∧ Kp w w' := by
  have hk := all_kp h
  obtain ⟨v', out, rfl, o, ex, _, h1⟩ := h
  obtain ⟨_, rfl⟩ := h1 hg
  exact ⟨by rw [if_neg (by rw [hg]; simp)], hk⟩

set_option maxRecDepth 20000 in
set_option maxHeartbeats 12800000 in
theorem awake_c (w : World) : Calls Try.prog 10 #[] w fun e w' => e = .returned (.bool true) ∧ Kp w w' := by
  go_enter Try.func10, Try.ntmps10
  go_wp2_with fail
  have ra0 : Rd (w.alloc (.cells #[.string ⟨#[97]⟩, .int .u64 9, .bool false, .string ⟨#[]⟩, .string ⟨#[98]⟩, .int .u64 3, .bool false, .string ⟨#[]⟩] 31 (0, 0))) entE (.slice (some ⟨w.heap.size, 0, none⟩) 2 2) [a9, b3] := rd_new rfl rfl (by simp [maxLen]) rfl
  have ra := hid (((Kp.refl _).alloc (.cells #[.string ⟨#[97]⟩, .int .u64 4, .bool false, .string ⟨#[]⟩, .string ⟨#[98]⟩, .int .u64 3, .bool true, .string ⟨#[]⟩, .string ⟨#[99]⟩, .int .u64 1, .bool false, .string ⟨#[]⟩] 31 (0, 0))).rd ra0)
  have rb : Rd ((w.alloc (.cells #[.string ⟨#[97]⟩, .int .u64 9, .bool false, .string ⟨#[]⟩, .string ⟨#[98]⟩, .int .u64 3, .bool false, .string ⟨#[]⟩] 31 (0, 0))).alloc (.cells #[.string ⟨#[97]⟩, .int .u64 4, .bool false, .string ⟨#[]⟩, .string ⟨#[98]⟩, .int .u64 3, .bool true, .string ⟨#[]⟩, .string ⟨#[99]⟩, .int .u64 1, .bool false, .string ⟨#[]⟩] 31 (0, 0))) entE (.slice (some ⟨w.heap.size + 1, 0, none⟩) 3 3) [a4, b3d, c1] := rd_new (by simp) rfl (by simp [maxLen]) rfl
  have k0 := hid (((Kp.refl w).alloc (.cells #[.string ⟨#[97]⟩, .int .u64 9, .bool false, .string ⟨#[]⟩, .string ⟨#[98]⟩, .int .u64 3, .bool false, .string ⟨#[]⟩] 31 (0, 0))).alloc (.cells #[.string ⟨#[97]⟩, .int .u64 4, .bool false, .string ⟨#[]⟩, .string ⟨#[98]⟩, .int .u64 3, .bool true, .string ⟨#[]⟩, .string ⟨#[99]⟩, .int .u64 1, .bool false, .string ⟨#[]⟩] 31 (0, 0)))
  have rbH := hid rb
  have hsz : ((w.alloc (.cells #[.string ⟨#[97]⟩, .int .u64 9, .bool false, .string ⟨#[]⟩, .string ⟨#[98]⟩, .int .u64 3, .bool false, .string ⟨#[]⟩] 31 (0, 0))).alloc (.cells #[.string ⟨#[97]⟩, .int .u64 4, .bool false, .string ⟨#[]⟩, .string ⟨#[98]⟩, .int .u64 3, .bool true, .string ⟨#[]⟩, .string ⟨#[99]⟩, .int .u64 1, .bool false, .string ⟨#[]⟩] 31 (0, 0))).heap.size = w.heap.size + 1 + 1 := by simp
  generalize (w.alloc (.cells #[.string ⟨#[97]⟩, .int .u64 9, .bool false, .string ⟨#[]⟩, .string ⟨#[98]⟩, .int .u64 3, .bool false, .string ⟨#[]⟩] 31 (0, 0))).alloc (.cells #[.string ⟨#[97]⟩, .int .u64 4, .bool false, .string ⟨#[]⟩, .string ⟨#[98]⟩, .int .u64 3, .bool true, .string ⟨#[]⟩, .string ⟨#[99]⟩, .int .u64 1, .bool false, .string ⟨#[]⟩] 31 (0, 0)) = w1 at *
  clear ra0 rb
  have hszH := hid hsz
  clear hsz
  have hrows : ∀ w2, Kp w1 w2 → ∀ r ∈ [(⟨some ⟨w.heap.size, 0, none⟩, 2, 2, [a9, b3]⟩ : RowV), ⟨some ⟨w.heap.size + 1, 0, none⟩, 3, 3, [a4, b3d, c1]⟩], Rd w2 entE (.slice r.A r.n r.c) r.l := by
    intro w2 k r hr
    simp only [List.mem_cons, List.not_mem_nil, or_false] at hr
    rcases hr with rfl | rfl
    · exact k.rd ra.out
    · exact k.rd rbH.out
  have hrH := hid hrows
  clear hrows
  refine (all_c _ [⟨some ⟨w.heap.size, 0, none⟩, 2, 2, [a9, b3]⟩, ⟨some ⟨w.heap.size + 1, 0, none⟩, 3, 3, [a4, b3d, c1]⟩] _ (rdr_new hszH.out rfl (by simp [maxLen]) rfl (hrH.out _ (Kp.refl _)) (by simp)) (by simp) (by simp [listsOf, totR])).mono ?_
  intro e w2 hsay
  obtain ⟨v2, rfl, r2, k2⟩ := all_rd hsay goodW
  have h2 : allP (listsOf [(⟨some ⟨w.heap.size, 0, none⟩, 2, 2, [a9, b3]⟩ : RowV), ⟨some ⟨w.heap.size + 1, 0, none⟩, 3, 3, [a4, b3d, c1]⟩]) = [a9, a4, b3, c1] := allW
  rw [h2] at r2
  obtain ⟨A2, c2, rfl⟩ := rd_shape (n := 4) r2 rfl
  have r2H := hid r2
  have k2H := hid (((Kp.refl w1).alloc _).trans k2)
  clear r2 k2 hsay h2
  go_wp2_with fail
  refine (seen_c _ [a9, a4, b3, c1] 5 _ r2H.out (by simp)).mono ?_
  rintro e w3 ⟨v3, rfl, o3, e3⟩
  have r3 := sl_rd o3
  rw [seenW] at r3
  obtain ⟨A3, c3, rfl⟩ := rd_shape (n := 3) r3 rfl
  have r3H := hid r3
  have k3H := hid (kp_of1 o3 e3)
  have he3 : errP [a9, a4, b3, c1] = 0 := if_pos (rowB_iff.2 rowAll)
  rw [he3]
  clear r3 o3 e3
  go_wp2_with fail
  refine (newest_c _ [a9, a4, b3, c1] 9 _ (k3H.out.rd r2H.out) (by simp)).mono ?_
  rintro e w4 ⟨v4, rfl, o4, e4⟩
  have r4 := sl_rd o4
  rw [newestW] at r4
  obtain ⟨A4, c4, rfl⟩ := rd_shape (n := 3) r4 rfl
  have r4H := hid r4
  have k4H := hid (k3H.out.trans (kp_of1 o4 e4))
  have k34H := hid (kp_of1 o4 e4)
  rw [he3]
  clear r4 o4 e4
  go_wp2_with fail
  refine (between_c _ [a9, a4, b3, c1] kB kC _ (k4H.out.rd r2H.out) (by simp)).mono ?_
  rintro e w5 ⟨v5, rfl, o5, e5⟩
  have r5 := sl_rd o5
  rw [betweenW] at r5
  obtain ⟨A5, c5, rfl⟩ := rd_shape (n := 1) r5 rfl
  have k45H := hid (kp_of1 o5 e5)
  have k5H := hid (k4H.out.trans k45H.out)
  rw [he3]
  clear r5 o5 e5
  go_wp2_with fail
  refine (get_c _ [⟨some ⟨w.heap.size, 0, none⟩, 2, 2, [a9, b3]⟩, ⟨some ⟨w.heap.size + 1, 0, none⟩, 3, 3, [a4, b3d, c1]⟩] kA 8 _ (rdr_new rfl rfl (by simp [maxLen]) rfl (hrH.out _ (k2H.out.trans k5H.out)) (by simp))).mono ?_
  rintro e w6 ⟨rfl, k6⟩
  have hget : getP (listsOf [(⟨some ⟨w.heap.size, 0, none⟩, 2, 2, [a9, b3]⟩ : RowV), ⟨some ⟨w.heap.size + 1, 0, none⟩, 3, 3, [a4, b3d, c1]⟩]) kA 8 = some a4 := getW
  rw [hget]
  have hv : entV (bestV (some a4)) = .agg #[.string ⟨#[97]⟩, .int .u64 4, .bool false, .string ⟨#[]⟩] := rfl
  rw [hv, Option.isSome_some]
  have m56 := hid (((Kp.refl w5).alloc (.cells #[.slice (some ⟨w.heap.size, 0, none⟩) 2 2, .slice (some ⟨w.heap.size + 1, 0, none⟩) 3 3] 26 (0, 0))).trans k6)
  have k6H := hid (k5H.out.trans m56.out)
  clear k6 hget hv
  go_wp2_with fail
  have rb0 := rd_new (w := w6.alloc (.cells #[.string ⟨#[97]⟩, .int .u64 4, .bool false, .string ⟨#[]⟩] 31 (0, 0))) (b := w6.heap.size + 1) (T := 31) (E := entE) (fr := (0, 0)) (cs := #[.string ⟨#[98]⟩, .int .u64 0, .bool false, .string ⟨#[]⟩, .string ⟨#[97]⟩, .int .u64 0, .bool false, .string ⟨#[]⟩]) (xs := [b0, a0]) (n := 2) (by simp) rfl (by simp [maxLen]) rfl
  refine (all_c _ [⟨some ⟨w6.heap.size + 1, 0, none⟩, 2, 2, [b0, a0]⟩] _ (rdr_new (by simp) rfl (by simp [maxLen]) rfl (fun r hr => by rw [List.mem_singleton.1 hr]; exact rb0) (by simp)) (by simp) (by simp [listsOf, totR])).mono ?_
  intro e w7 hsay
  obtain ⟨rfl, k7⟩ := all_bad hsay badW
  have m67 := hid ((((((Kp.refl w6).alloc _).alloc _).alloc _).trans k7))
  have k7H := hid (k6H.out.trans m67.out)
  have kbx := (((Kp.refl (w6.alloc (.cells #[.string ⟨#[97]⟩, .int .u64 4, .bool false, .string ⟨#[]⟩] 31 (0, 0)))).alloc _).alloc _).trans k7
  have y1 := kbx.cell (p := ⟨w6.heap.size, 1, none⟩) (v := .int .u64 4) (by simp)
  clear k7 kbx hsay rb0
  obtain ⟨g2, off2, rfl, _, hc2⟩ := rd_ent (k7H.out.rd r2H.out) rfl (i := 1) (x := a4) rfl
  have l1 := (hc2 1 _ rfl).2.1
  have l2 := (hc2 2 _ rfl).2.2.1
  obtain ⟨g3, off3, rfl, _, hc3⟩ := rd_ent ((k34H.out.trans (k45H.out.trans (m56.out.trans m67.out))).rd r3H.out) rfl (i := 0) (x := a4) rfl
  have s1 := (hc3 0 _ rfl).2.1
  obtain ⟨g4, off4, rfl, _, hc4⟩ := rd_ent ((k45H.out.trans (m56.out.trans m67.out)).rd r4H.out) rfl (i := 0) (x := a9) rfl
  have n1 := (hc4 0 _ rfl).2.1
  simp only [Nat.zero_mul, Nat.add_zero, a4, a9, b3, Nat.one_mul] at l1 l2 s1 n1
  have gl1 := World.block_lt_of_cell? w7 _ l1
  have gl2 := World.block_lt_of_cell? w7 _ s1
  have gl3 := World.block_lt_of_cell? w7 _ n1
  have gl4 := World.block_lt_of_cell? w7 _ y1
  clear hc2 hc3 hc4
  go_wp2_with fail
  refine (row_c _ [a9, b3] _ ((k2H.out.trans k7H.out).rd ra.out)).mono ?_
  rintro e w8 ⟨rfl, k8⟩
  rw [rowB_iff.2 rowAB]
  have k8H := hid (k7H.out.trans k8)
  clear k8
  go_wp2_with fail
  refine (row_c _ [] _ (.inl ⟨⟨none, 0, rfl, by simp [maxLen]⟩, rfl⟩)).mono ?_
  rintro e w9 ⟨rfl, k9⟩
  have hn : rowB [] = true := rowB_iff.2 List.Pairwise.nil
  rw [hn]
  have k9H := hid (k0.out.trans (k2H.out.trans (k8H.out.trans k9)))
  clear k9 hn
  go_wp2_with fail
  go_ret
  exact ⟨rfl, k9H.out⟩
end Go.Proofs.Ytihbflmjgndfiaa
