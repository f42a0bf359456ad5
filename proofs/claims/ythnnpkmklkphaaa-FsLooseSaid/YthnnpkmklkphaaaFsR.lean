/- The walks of large and play. -/
import Derived.Test.YthnnpkmklkphaaaFsW
import Derived.Test.YthnnpkmklkphaaaFsQ
namespace Go.Proofs.Ythnnpkmklkphaaa
open Go.RowKit Go.Sl Go.Scree Go.Maps

def actL (x : FAct) : List Value := [.int .i64 x.kind, .int .i64 x.n, .string x.a, .string x.b, .slice x.kA x.k.length x.kc]
def actV (x : FAct) : Value := .agg #[.int .i64 x.kind, .int .i64 x.n, .string x.a, .string x.b, .slice x.kA x.k.length x.kc]
def actE : Enc FAct := ⟨actL, 5, fun _ => rfl, by simp [actL, Value.oneCell'], by omega⟩

set_option maxRecDepth 20000 in
set_option maxHeartbeats 1600000 in
theorem large_c (x : FAct) (w : World) (F : List Chunk) (o : Own w F) :
    Calls Try.prog 10 #[actV x] w fun e w' => e = .returned (.bool x.large) ∧ Own w' F ∧ Ext w w' := by
  obtain ⟨kind, n, a, b, kA, kc, k⟩ := x
  unfold actV FAct.large
  dsimp only
  have oH := hid (o.allocd (x := .cells #[.int .i64 kind, .int .i64 n, .string a, .string b, .slice kA k.length kc] 29 (0, 0)))
  clear o
  rcases bool_cases (decide ((100 : Int) < a.size)) with h1 | h1
  · rw [h1]
    go_enter Try.func10, Try.ntmps10
    go_wp2
    go_ret
    exact ⟨rfl, oH.out, (Ext.refl _).alloc _⟩
  · rcases bool_cases (decide ((1000 : Int) < b.size)) with h2 | h2
    · rw [h1, h2]
      go_enter Try.func10, Try.ntmps10
      go_wp2
      go_ret
      exact ⟨rfl, oH.out, (Ext.refl _).alloc _⟩
    · rcases bool_cases (decide ((100 : Int) < k.length)) with h3 | h3
      all_goals
        rw [h1, h2, h3]
        go_enter Try.func10, Try.ntmps10
        go_wp2
        go_ret
        exact ⟨rfl, oH.out, (Ext.refl _).alloc _⟩

def PlaySays (p : Nat) (d : FDisk) (x : FAct) (w : World) (F : List Chunk) (r : FDisk × Int) : Prop :=
  Calls Try.prog 11 #[.pointer (some ⟨p, 0, none⟩), actV x] w fun e w' => e = .returned (.int .i64 r.2) ∧ Own w' (diskC p r.1 :: F) ∧ Ext w w'
theorem bigN_le {n : Nat} (h : n ≤ 1000000) : n ≤ bigN := Nat.le_trans h (by decide)

set_option maxRecDepth 20000 in
set_option maxHeartbeats 12800000 in
theorem play_c (p : Nat) (d : FDisk) (x : FAct) (w : World) (F : List Chunk) (hk : FOk d) (hb : FBd d 1000000) (hl : x.large = false) (hn : x.n ≤ topI) (hr : ∀ w', Own w' F → Rd w' intE (.slice x.kA x.k.length x.kc) x.k) (o : Own w (diskC p d :: F)) :
    PlaySays p d x w F (d.play x) := by
  have hsz : d.size ≤ bigN := bigN_le (Nat.le_trans (size_total hk) hb.bytes)
  have hwt : d.pending.length ≤ bigN := bigN_le hb.waits
  have hbd : FBd d bigN := hb.mono (bigN_le (Nat.le_refl _))
  obtain ⟨kind, n, a, b, kA, kc, k⟩ := x
  dsimp only at hn hr
  have hab : a.size ≤ maxLen ∧ b.size ≤ bigN ∧ b.size ≤ maxLen := by
    simp only [FAct.large, Bool.or_eq_false_iff, decide_eq_false_iff_not] at hl
    refine ⟨by unfold maxLen; omega, bigN_le (by omega), by unfold maxLen; omega⟩
  obtain ⟨ha, hbb, hbm⟩ := hab
  have oB := hid ((o.alloc (.cells #[.int .i64 kind, .int .i64 n, .string a, .string b, .slice kA k.length kc] 29 (0, 0))).swap)
  have box := hid oB
  unfold PlaySays actV
  dsimp only
  clear hl hk hb o
  by_cases k0 : kind = 0
  · subst k0
    have hp : d.play ⟨0, n, a, b, kA, kc, k⟩ = d.create a := rfl
    rw [hp]
    have hc := create_c p d a _ _ ha hwt oB.out
    unfold CreateSays at hc
    have hcH := hid hc
    clear hc hp hn hr ha hbb hbm hsz hwt hbd oB 
    go_enter Try.func11, Try.ntmps11
    go_wp2_with fail
    refine hcH.out.mono ?_
    rintro e w1 ⟨rfl, o1, e1⟩
    have o1H := hid o1.swap.drop
    clear o1
    go_wp2
    go_ret
    exact ⟨rfl, o1H.out, ((Ext.refl _).alloc _).trans e1⟩
  by_cases k1 : kind = 1
  · subst k1
    have hp : d.play ⟨1, n, a, b, kA, kc, k⟩ = d.append a b.data.toList := rfl
    rw [hp]
    have hc := append_c p d a b _ _ ha hsz hbb oB.out
    unfold AppendSays at hc
    have hcH := hid hc
    clear hc hp hn hr ha hbb hbm hsz hwt hbd oB k0
    go_enter Try.func11, Try.ntmps11
    go_wp2_with fail
    refine hcH.out.mono ?_
    rintro e w1 ⟨rfl, o1, e1⟩
    have o1H := hid o1.swap.drop
    clear o1
    go_wp2
    go_ret
    exact ⟨rfl, o1H.out, ((Ext.refl _).alloc _).trans e1⟩
  by_cases k2 : kind = 2
  · subst k2
    have hp : d.play ⟨2, n, a, b, kA, kc, k⟩ = d.sync a := rfl
    rw [hp]
    have hc := sync_c p d a _ _ ha oB.out
    unfold SyncSays at hc
    have hcH := hid hc
    clear hc hp hn hr ha hbb hbm hsz hwt hbd oB k0 k1
    go_enter Try.func11, Try.ntmps11
    go_wp2_with fail
    refine hcH.out.mono ?_
    rintro e w1 ⟨rfl, o1, e1⟩
    have o1H := hid o1.swap.drop
    clear o1
    go_wp2
    go_ret
    exact ⟨rfl, o1H.out, ((Ext.refl _).alloc _).trans e1⟩
  by_cases k3 : kind = 3
  · subst k3
    have hp : d.play ⟨3, n, a, b, kA, kc, k⟩ = d.rename a b := rfl
    rw [hp]
    have hc := rename_c p d a b _ _ ha hbm hwt oB.out
    unfold RenameSays at hc
    have hcH := hid hc
    clear hc hp hn hr ha hbb hbm hsz hwt hbd oB k0 k1 k2
    go_enter Try.func11, Try.ntmps11
    go_wp2_with fail
    refine hcH.out.mono ?_
    rintro e w1 ⟨rfl, o1, e1⟩
    have o1H := hid o1.swap.drop
    clear o1
    go_wp2
    go_ret
    exact ⟨rfl, o1H.out, ((Ext.refl _).alloc _).trans e1⟩
  by_cases k4 : kind = 4
  · subst k4
    have hp : d.play ⟨4, n, a, b, kA, kc, k⟩ = d.remove a := rfl
    rw [hp]
    have hc := remove_c p d a _ _ ha hwt oB.out
    unfold RemoveSays at hc
    have hcH := hid hc
    clear hc hp hn hr ha hbb hbm hsz hwt hbd oB k0 k1 k2 k3
    go_enter Try.func11, Try.ntmps11
    go_wp2_with fail
    refine hcH.out.mono ?_
    rintro e w1 ⟨rfl, o1, e1⟩
    have o1H := hid o1.swap.drop
    clear o1
    go_wp2
    go_ret
    exact ⟨rfl, o1H.out, ((Ext.refl _).alloc _).trans e1⟩
  by_cases k5 : kind = 5
  · subst k5
    have hp : d.play ⟨5, n, a, b, kA, kc, k⟩ = d.syncDir := rfl
    rw [hp]
    have hc := syncDir_c p d _ _ oB.out
    unfold SyncDirSays at hc
    have hcH := hid hc
    clear hc hp hn hr ha hbb hbm hsz hwt hbd oB k0 k1 k2 k3 k4
    go_enter Try.func11, Try.ntmps11
    go_wp2_with fail
    refine hcH.out.mono ?_
    rintro e w1 ⟨rfl, o1, e1⟩
    have o1H := hid o1.swap.drop
    clear o1
    go_wp2
    go_ret
    exact ⟨rfl, o1H.out, ((Ext.refl _).alloc _).trans e1⟩
  by_cases k6 : kind = 6
  · subst k6
    have hp : d.play ⟨6, n, a, b, kA, kc, k⟩ = (d.setFuse n, 0) := rfl
    rw [hp]
    have hc := fuse_c p d n hn _ _ oB.out
    have hcH := hid hc
    clear hc hp hn hr ha hbb hbm hsz hwt hbd oB k0 k1 k2 k3 k4 k5
    go_enter Try.func11, Try.ntmps11
    go_wp2_with fail
    refine hcH.out.mono ?_
    rintro e w1 ⟨rfl, o1, e1⟩
    have o1H := hid o1.swap.drop
    clear o1
    go_wp2
    go_ret
    exact ⟨rfl, o1H.out, ((Ext.refl _).alloc _).trans e1⟩
  by_cases k7 : kind = 7
  · subst k7
    have hp : d.play ⟨7, n, a, b, kA, kc, k⟩ = (d.setQuota n, 0) := rfl
    rw [hp]
    have hc := quota_c p d n _ _ oB.out
    have hcH := hid hc
    clear hc hp hn hr ha hbb hbm hsz hwt hbd oB k0 k1 k2 k3 k4 k5 k6
    go_enter Try.func11, Try.ntmps11
    go_wp2_with fail
    refine hcH.out.mono ?_
    rintro e w1 ⟨rfl, o1, e1⟩
    have o1H := hid o1.swap.drop
    clear o1
    go_wp2
    go_ret
    exact ⟨rfl, o1H.out, ((Ext.refl _).alloc _).trans e1⟩
  by_cases k8 : kind = 8
  · subst k8
    have hp : d.play ⟨8, n, a, b, kA, kc, k⟩ = (d.crash n k, 0) := rfl
    rw [hp]
    have hc := crash_c p d n (.slice kA k.length kc) k _ _ hbd (fun w' o => hr w' o.drop) oB.out
    have hcH := hid hc
    clear hc hp hn hr ha hbb hbm hsz hwt hbd oB k0 k1 k2 k3 k4 k5 k6 k7
    go_enter Try.func11, Try.ntmps11
    go_wp2_with fail
    refine hcH.out.mono ?_
    rintro e w1 ⟨rfl, o1, e1⟩
    have o1H := hid o1.swap.drop
    clear o1
    go_wp2
    go_ret
    exact ⟨rfl, o1H.out, ((Ext.refl _).alloc _).trans e1⟩
  have hp : d.play ⟨kind, n, a, b, kA, kc, k⟩ = (d, 0) := by simp [FDisk.play, k0, k1, k2, k3, k4, k5, k6, k7, k8]
  rw [hp]
  have b0 : (kind == 0) = false := by simpa using k0
  have b1 : (kind == 1) = false := by simpa using k1
  have b2 : (kind == 2) = false := by simpa using k2
  have b3 : (kind == 3) = false := by simpa using k3
  have b4 : (kind == 4) = false := by simpa using k4
  have b5 : (kind == 5) = false := by simpa using k5
  have b6 : (kind == 6) = false := by simpa using k6
  have b7 : (kind == 7) = false := by simpa using k7
  have b8 : (kind == 8) = false := by simpa using k8
  clear hp hn hr ha hbb hbm hsz hwt hbd k0 k1 k2 k3 k4 k5 k6 k7 k8
  go_enter Try.func11, Try.ntmps11
  go_wp2
  go_ret
  exact ⟨rfl, oB.out.swap.drop, (Ext.refl _).alloc _⟩
end Go.Proofs.Ythnnpkmklkphaaa
