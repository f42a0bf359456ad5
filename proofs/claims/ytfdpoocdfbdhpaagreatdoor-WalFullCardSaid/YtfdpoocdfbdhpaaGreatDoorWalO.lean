/- Arguments that are rows of texts; the walk of texts (chapter 06). -/
import Derived.Test.YtfdpoocdfbdhpaaGreatDoorWalE
import Derived.Test.YtfdpoocdfbdhpaaGreatDoorOpen
import Derived.ProofKit
import Derived.OpenShut
import Derived.ShutString
import Derived.ChangeOld
import Derived.SizedLaws
namespace Go.Proofs.YtfdpoocdfbdhpaaGreatDoor
open Go.ChangeShapes Go.WideShapes Go.ChangeAt Go.RowKit Go.Sl Go.Scree Go.Deep

theorem rd_here {α : Type} {W w : World} {E : Enc α} {v : Value} {xs : List α} (h : Rd W E v xs) (o : Own w [base W W.heap.size]) : Rd w E v xs := rd_base h w [] o
theorem rd_str {w : World} {A : Option Addr} {n c j : Nat} {xs : List ByteArray} {x : ByteArray} (h : Rd w strE (.slice A n c) xs) (hx : xs[j]? = some x) :
    ∃ g off, A = some ⟨g, off, none⟩ ∧ w.cell? ⟨g, off + j, none⟩ = some (.string x) ∧ g < w.heap.size := by
  rcases h with ⟨_, he⟩ | ⟨g, off, cap, hv, h1, h2, hc⟩
  · rw [he] at hx; simp at hx
  · simp only [Value.slice.injEq] at hv
    obtain ⟨rfl, rfl, rfl⟩ := hv
    have h3 := hc j x hx 0 _ rfl
    have h4 : w.cell? ⟨g, off + j, none⟩ = some (.string x) := by simpa [strE] using h3
    exact ⟨g, off, rfl, h4, World.block_lt_of_cell? w _ h4⟩
theorem rd_n {α : Type} {w : World} {E : Enc α} {A : Option Addr} {n c : Nat} {xs : List α} (h : Rd w E (.slice A n c) xs) : n = xs.length ∧ n ≤ maxLen ∧ n ≤ c := by
  obtain ⟨a, cap, hv, h1, h2⟩ := h.form
  simp only [Value.slice.injEq] at hv
  obtain ⟨rfl, rfl, rfl⟩ := hv
  exact ⟨rfl, h1, h2⟩
section
variable {H : Type} {enc : TypeId × Value → H} {w : World} {base : Nat} {spare : Nat → Bool} {held : Bool} {A : Option Addr} {len cap : Nat} {d : DataW H} {ps : List MemPlace}
theorem open_strs (h : DataW.Trod enc Tryz.prog w base spare held 28 (.slice A len cap) d ps) : ∃ l : List ByteArray, Rd w strE (.slice A len cap) l ∧ ∀ x ∈ l, x.size ≤ maxLen := by
  obtain ⟨fuel, hf⟩ := h
  have key : len ≤ cap ∧ cap ≤ maxLen ∧ ∀ i, i < len → ∃ r : ByteArray, r.size ≤ maxLen ∧ ∃ a, A = some a ∧ ∀ j u, (strE.cells r)[j]? = some u → w.cell? (a.add (i * strE.size + j)) = some u := by
    rcases open_slice1 Tryz.underlying28 (by kernel_rfl) hf with ⟨hcs, _⟩ | ⟨a, len', cap', m, n, V, D, Pl, hcs, _, h1, h2, hm, _, hi⟩
    · simp only [Value.cells, List.cons.injEq, Value.slice.injEq, and_true] at hcs
      obtain ⟨rfl, rfl, rfl⟩ := hcs
      exact ⟨Nat.le_refl _, by simp [maxLen], fun i h => by omega⟩
    · simp only [Value.cells, List.cons.injEq, Value.slice.injEq, and_true] at hcs
      obtain ⟨rfl, rfl, rfl⟩ := hcs
      refine ⟨h1, h2, fun i hil => ?_⟩
      obtain ⟨hcell, htr⟩ := hi i (by rw [hm]; split <;> omega)
      obtain ⟨q, hq, _, hw⟩ := DataW.trod_string Tryz.underlying9 htr
      have hV : V i = .string q := by simpa using hq
      rw [hV] at hcell
      refine ⟨q, hw, a, rfl, fun j u hju => ?_⟩
      match j, hju with
      | 0, hju =>
        simp only [strE, List.getElem?_cons_zero, Option.some.injEq] at hju
        subst hju
        simpa [strE] using hcell
  obtain ⟨hl, hc, hi⟩ := key
  obtain ⟨rs, hr, _, hp⟩ := rd_choose (w := w) (E := strE) (P := fun x => x.size ≤ maxLen) A len cap hl hc hi
  exact ⟨rs, hr, hp⟩
end
set_option maxRecDepth 20000 in
set_option maxHeartbeats 1600000 in
theorem texts_c {A B : Option Addr} {n m c e : Nat} {xs ys : List ByteArray} {w : World} (ha : Rd w strE (.slice A n c) xs) (hb : Rd w strE (.slice B m e) ys) :
    Calls Tryz.prog 20 #[.slice A n c, .slice B m e] w fun r w' => r = .returned (.bool (decide (xs = ys))) ∧ Ext w w' ∧ Kp w w' := by
  obtain ⟨rfl, hn1, _⟩ := rd_n ha
  obtain ⟨rfl, hm1, _⟩ := rd_n hb
  have haH := hid ha
  have hbH := hid hb
  unfold maxLen at hn1 hm1
  clear ha hb
  by_cases hl : xs.length = ys.length
  · have hle : ((xs.length : Int) == (ys.length : Int)) = true := by simp [hl]
    have hle2 : (xs.length == ys.length) = true := by simp [hl]
    have hlH := hid hl
    clear hl
    go_enter Tryz.func20, Tryz.ntmps20
    go_wp2_with fail
    go_loopw [13] (fun i wr => ∃ k : Nat, i = .int .i64 k ∧ k ≤ xs.length ∧ xs.take k = ys.take k ∧ Kp w wr) (fun i _ => xs.length - (intOf i).toNat)
    case atStart => exact ⟨0, rfl, Nat.zero_le _, rfl, Kp.refl _⟩
    case round =>
      obtain ⟨k, rfl, hk, ht, kw⟩ := hrel
      have htH := hid ht
      have kwH := hid kw
      clear ht kw
      by_cases hlt : k < xs.length
      · have hx : xs[k]? = some xs[k] := List.getElem?_eq_getElem hlt
        have hlt2 : k < ys.length := by rw [← hlH.out]; exact hlt
        have hy : ys[k]? = some (ys[k]'hlt2) := List.getElem?_eq_getElem hlt2
        have hx1 : xs.take (k + 1) = xs.take k ++ [xs[k]] := List.take_succ_eq_append_getElem hlt
        have hy1 : ys.take (k + 1) = ys.take k ++ [ys[k]'hlt2] := List.take_succ_eq_append_getElem hlt2
        obtain ⟨x, hxe⟩ : ∃ x, xs[k] = x := ⟨_, rfl⟩
        obtain ⟨y, hye⟩ : ∃ y, ys[k]'hlt2 = y := ⟨_, rfl⟩
        rw [hxe] at hx hx1
        rw [hye] at hy hy1
        obtain ⟨g, off, rfl, c1, hg⟩ := rd_str (kwH.out.rd haH.out) hx
        obtain ⟨g2, off2, rfl, c2, hg2⟩ := rd_str (kwH.out.rd hbH.out) hy
        have hx1H := hid hx1
        have hy1H := hid hy1
        have hxH := hid hx
        have hyH := hid hy
        have hki : (k : Int) < xs.length := by omega
        clear hx1 hy1 hx hy hxe hye
        have hki3 : (k : Int) < ys.length := by omega

        by_cases hxy : x = y
        · have g1 : (x.toList == y.toList) = true := by rw [hxy]; simp
          have hxyH := hid hxy
          clear hxy
          go_wp2_with fail
          go_quiet (fail)
          go_wp2
          go_roundw
          case rel => exact ⟨k + 1, by go_num, by omega, by rw [hx1H.out, hy1H.out, htH.out, hxyH.out], kwH.out.drewN nq⟩
          case measure => simp [intOf]; omega
        · have g1 : (x.toList == y.toList) = false := eqK_false.2 hxy
          have hd : Hid (decide (xs = ys) = false) := hid (by
            simp only [decide_eq_false_iff_not]
            rintro rfl
            rw [hxH.out] at hyH
            exact hxy (Option.some.inj hyH.out))
          clear hxy
          go_wp2_with fail
          go_quiet (fail)
          go_wp2
          go_ret
          rw [hd.out]
          exact ⟨rfl, (kwH.out.drewN nq).ext, kwH.out.drewN nq⟩
      · have hki : ¬ (k : Int) < xs.length := by omega
        have hd : Hid (decide (xs = ys) = true) := hid (by
          have hke : k = xs.length := by omega
          have := htH.out
          rw [hke, List.take_length, hlH.out, List.take_length] at this
          simp [this])
        clear hlt
        go_wp2_with fail
        go_ret
        rw [hd.out]
        exact ⟨rfl, kwH.out.ext, kwH.out⟩
  · have hle : ((xs.length : Int) == (ys.length : Int)) = false := by simp; omega
    have hle2 : (xs.length == ys.length) = false := by simpa using hl
    have hd : Hid (decide (xs = ys) = false) := hid (by simp only [decide_eq_false_iff_not]; rintro rfl; exact hl rfl)
    clear hl
    go_enter Tryz.func20, Tryz.ntmps20
    go_wp2_with fail
    go_ret
    rw [hd.out]
    exact ⟨rfl, Ext.refl _, Kp.refl _⟩
end Go.Proofs.YtfdpoocdfbdhpaaGreatDoor
