/- What Crash needs: slices.Clone of bytes; changes that may be made have small names. -/
import Derived.Test.YtfdpoocdfbdhpaaGreatDoorFsJ
import Derived.Test.YtfdpoocdfbdhpaaGreatDoorSlh
import Derived.Lib.SliceRun
import Derived.Laws.Cover1
set_option linter.all false
namespace Go.Proofs.YtfdpoocdfbdhpaaGreatDoor
open Go.RowKit Go.Sl Go.Scree Go.Maps

theorem bclone_c (v : Value) (l : List UInt8) (w : World) (h : Rd w byteE v l) (hn : l.length ≤ bigN) :
    Calls Tryz.prog 54 #[v] w fun e w' => ∃ v', e = .returned v' ∧ Own w' [sl 5 byteE v' l, base w w.heap.size] ∧ Ext w w' := by
  obtain ⟨A, c, rfl, hm, hc⟩ := h.form
  have hH := hid h
  obtain ⟨i0, hi0, hz0, hz1, hz2⟩ := info_parts infoU8
  have q22 : ∀ (w : World) (a : Option Addr) (n c n' c' : Nat), (binOp .eql 94 (.slice a n c) (.slice none n' c')).run Tryz.prog w = .ok (.bool a.isNone) w := fun w a n c n' c' => Lib.run_eql_slice_nil w _ _ a n c n' c' Tryz.underlying94
  cases A with
  | none =>
    have hl : Hid (l = []) := hid (by
      rcases h with ⟨_, h⟩ | ⟨_, _, _, hv, _⟩
      · exact h
      · simp at hv)
    clear h hm hc
    go_enter Tryz.func54, Tryz.ntmps54
    go_wp2_with fail
    go_ret
    refine ⟨_, rfl, ?_, Ext.refl _⟩
    rw [hl.out]
    exact sl_nil _ _ (Own.start w)
  | some a =>
    have hn2 : l.length ≤ 1000000000000 := hn
    clear h hm hc hn
    go_enter Tryz.func54, Tryz.ntmps54
    go_wp2_with (refine wpList_append_rd rfl _ _ _ rfl i0 _ 1 1 Tryz.underlying94 hi0 hz0 hz1 hz2 rfl rfl rfl (sl_empty' 5 byteE ((Own.start w).alloc (.cells #[] 5 (0, 0)))) rfl (((Kp.refl w).alloc _).rd hH.out) (by simp only [List.length_nil, maxLen]; omega) (by simp only [List.length_nil]; omega) ?_)
    intro v' w' o1 e1 _
    go_wp2
    go_ret
    exact ⟨_, rfl, o1, ((Ext.refl w).alloc _).trans e1⟩

theorem small_of_fits {c : FChg} {d : Dir Nat} {n : Nat} (h : Go.Scree.Good n d) (hc : c.fits d n) : c.src.size ≤ maxLen ∧ c.dst.size ≤ maxLen ∧ (c.f = none → (dget d c.src).isSome = true) := by
  unfold FChg.fits at hc
  have h0 : noName.size ≤ maxLen := Nat.zero_le _
  have hm : ∀ k, mayB k = true → k.size ≤ maxLen := fun k hk => Nat.le_trans (mayB_small hk) (by simp [maxLen])
  cases hf : c.f with
  | some i =>
    rw [hf] at hc
    exact ⟨by rw [hc.2.2.2.2.2]; exact h0, hm _ hc.2.2.2.2.1, fun e => by cases e⟩
  | none =>
    rw [hf] at hc
    obtain ⟨i, hi⟩ := Option.isSome_iff_exists.1 hc.1
    refine ⟨hm _ (h.names _ (dget_in hi)), ?_, fun _ => hc.1⟩
    rcases hc.2 with e | e
    · rw [e]; exact h0
    · exact hm _ e
/-- The j-th change that waits, made behind those ahead of it. -/
theorem replay_step {d : FDisk} (hk : FOk d) {j : Nat} {c : FChg} (hj : d.pending[j]? = some c) :
    (c.src.size ≤ maxLen ∧ c.dst.size ≤ maxLen ∧ (c.f = none → (dget (replay d.sure (d.pending.take j)) c.src).isSome = true)) ∧ replay d.sure (d.pending.take (j + 1)) = c.act (replay d.sure (d.pending.take j)) ∧ (replay d.sure (d.pending.take j)).length ≤ 60 := by
  have hg := hk.hist.take j
  obtain ⟨h1, h2⟩ := hk.hist.at_ hj
  exact ⟨small_of_fits hg h1, h2, hg.few⟩
theorem dput_set : ∀ {d : Dir Nat} (hd : DirOk d) {k : Nat} {name : ByteArray} {v v' : Nat}, d[k]? = some (name, v) → dput d name v' = d.set k (name, v')
  | [], _, k, _, _, _, h => by simp at h
  | p :: d, _, 0, name, v, v', h => by
    obtain rfl : p = (name, v) := by simpa using h
    unfold dput
    have : ltK name name = false := ltK_irrefl name
    simp [this, eqK_self]
  | p :: d, hd, k + 1, name, v, v', h => by
    have hp := List.pairwise_cons.1 hd
    have hm : (name, v) ∈ d := List.mem_of_getElem? (by simpa using h)
    have hlt : ltK p.1 name = true := hp.1 _ hm
    unfold dput
    rw [if_pos hlt, dput_set hp.2 (by simpa using h)]
    rfl
end Go.Proofs.YtfdpoocdfbdhpaaGreatDoor
