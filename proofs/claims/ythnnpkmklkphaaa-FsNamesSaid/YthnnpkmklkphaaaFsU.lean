/- The walk of FsNames. -/
import Derived.Test.YthnnpkmklkphaaaFsS
import Derived.WalkLawsBesides
namespace Go.Proofs.Ythnnpkmklkphaaa
open Go.RowKit Go.Sl Go.Scree Go.Maps

theorem bs_append (l : List UInt8) (b : ByteArray) : (⟨(l ++ b.data.toList).toArray⟩ : ByteArray) = ⟨l.toArray⟩ ++ b := by
  have h : (⟨l.toArray⟩ ++ b : ByteArray).data = l.toArray ++ b.data := ByteArray.data_append
  cases hb : (⟨l.toArray⟩ ++ b : ByteArray) with
  | mk d =>
    rw [hb] at h
    dsimp only at h
    subst h
    congr 1
    apply Array.toList_inj.1
    simp
theorem read_len {d : FDisk} (h : FOk d) (name : ByteArray) : (d.read name).1.length ≤ total d.files := by
  unfold FDisk.read
  cases hg : dget d.now name with
  | none => exact Nat.zero_le _
  | some i => exact Nat.le_trans (file_size hg) (size_total h)
def boxO (x : FAct) : Obj := .cells #[.int .i64 x.kind, .int .i64 x.n, .string x.a, .string x.b, .slice x.kA x.k.length x.kc] 29 (0, 0)
theorem box_cells {w : World} {q : Nat} {x : FAct} {F : List Chunk} (o : Own w (pts q (.cells #[.int .i64 x.kind, .int .i64 x.n, .string x.a, .string x.b, .slice x.kA x.k.length x.kc] 29 (0, 0)) :: F)) :
    w.cell? ⟨q, 0, none⟩ = some (.int .i64 x.kind) ∧ w.cell? ⟨q, 1, none⟩ = some (.int .i64 x.n) ∧ w.cell? ⟨q, 2, none⟩ = some (.string x.a) ∧ w.cell? ⟨q, 3, none⟩ = some (.string x.b) ∧ w.cell? ⟨q, 4, none⟩ = some (.slice x.kA x.k.length x.kc) :=
  ⟨o.cell rfl, o.cell rfl, o.cell rfl, o.cell rfl, o.cell rfl⟩
set_option maxRecDepth 20000 in
set_option maxHeartbeats 12800000 in
theorem fsNames_row (v : Value) (l : List FAct) (W : World) (hr : Rd W actE v l) (hp : ∀ x ∈ l, ActOk W x) :
    Calls Try.prog 5 #[v] W fun e W' => e = .returned (.bool true) ∧ Below W.heap.size W W' := by
  obtain ⟨A, c, rfl, _, _⟩ := hr.form
  have rH := hid hr
  have pH := hid hp
  clear hr hp
  go_enter Try.func5, Try.ntmps5
  go_wp2_with fail
  refine (awake_c W _ (Own.start W)).mono ?_
  rintro e wa ⟨rfl, oa, ea⟩
  have oaH := hid oa
  clear oa
  go_wp2_with fail
  refine (new_c wa _ oaH.out).mono ?_
  rintro e wb ⟨p, rfl, ob, eb⟩
  have obH := hid ob
  have ebH := hid (ea.trans eb)
  clear ob ea eb oaH
  go_wp2_with fail
  go_loopw [4] (fun i wq => ∃ (k : Nat) (d : FDisk), i = .int .i64 k ∧ k ≤ l.length ∧ k ≤ 100 ∧ FBd d (1000 * k) ∧ Own wq [diskC p d, base W W.heap.size] ∧ Ext W wq) (fun i _ => l.length - (intOf i).toNat)
  case atStart => exact ⟨0, FDisk.new, rfl, Nat.zero_le _, Nat.zero_le _, FBd.start, obH.out, ebH.out⟩
  case round =>
    obtain ⟨k, d, rfl, hkl, hk100, hbd, oq, eq⟩ := hrel
    have oqH := hid oq
    have bH := hid hbd
    clear oq hbd
    by_cases hlt : k < l.length ∧ k < 100
    · obtain ⟨hlt, hlt100⟩ := hlt
      obtain ⟨x, hx⟩ : ∃ x, l[k]? = some x := ⟨_, List.getElem?_eq_getElem hlt⟩
      obtain ⟨g, off, rfl, a0, a1, a2, a3, a4, hg⟩ := act_at (rd_here rH.out oqH.out.drop) hx
      have hxm := pH.out x (List.mem_of_getElem? hx)
      have hxH := hid hxm
      have oB := hid (Own.alloc oqH.out (.cells #[.int .i64 x.kind, .int .i64 x.n, .string x.a, .string x.b, .slice x.kA x.k.length x.kc] 29 (0, 0)))
      have hl := hid (large_c x _ _ oB.out)
      clear hx hxm
      rcases bool_cases x.large with hxl | hxl
      · rw [hxl] at hl
        go_wp2_with fail
        refine hl.out.mono ?_
        rintro e wc ⟨rfl, oc, ec⟩
        have ocH := hid oc
        clear oc
        go_wp2_with fail
        go_ret
        exact ⟨rfl, below_of_own (Own.drop (Own.drop ocH.out)) ((eq.alloc _).trans ec)⟩
      · obtain ⟨s1, s2, s3⟩ := act_small hxl
        have hxlH := hid hxl
        rw [hxl] at hl
        clear hxl
        go_wp2_with fail
        refine hl.out.mono ?_
        rintro e wc ⟨rfl, oc, ec⟩
        have oc2 := hid (Own.swap oc)
        have ecH := hid ((eq.alloc _).trans ec)
        have kd := diskC_ok oc2.out
        have kdH := hid kd
        clear a0 a1 a2 a3 a4 eq ec oc hl oqH oB kd
        obtain ⟨b0, b1, b2, b3, b4⟩ := box_cells oc2.out.swap
        by_cases h7 : x.kind = 7
        · have h7b : (x.kind == 7) = true := by simpa using h7
          clear h7
          go_wp2_with fail
          go_roundw
          case rel => exact ⟨k + 1, d, by go_num, by omega, by omega, bH.out.mono (by omega), oc2.out.swap.drop, ecH.out⟩
          case measure => simp only [intOf]; omega
        have h7b : (x.kind == 7) = false := by simpa using h7
        -- read
        have hna : x.a.size ≤ maxLen := by unfold maxLen; omega
        have hnb : x.b.size ≤ maxLen := by unfold maxLen; omega
        have hnaH := hid hna
        have hnbH := hid hnb
        obtain ⟨⟨bs, had⟩, hrd⟩ : ∃ q, d.read x.a = q := ⟨_, rfl⟩
        have hre := read_c p d x.a wc _ hna oc2.out
        rw [hrd] at hre
        have hreH := hid hre
        have hbsl : bs.length ≤ 100000 := by
          have h1 := read_len kdH.out x.a
          rw [hrd] at h1
          exact Nat.le_trans h1 (Nat.le_trans bH.out.bytes (by omega))
        have hrdH := hid hrd
        clear hna hnb hre hrd h7
        go_wp2_with fail
        refine hreH.out.mono ?_
        rintro e w' ⟨rfl, rfl⟩
        clear hreH
        -- play
        have hpl := play_c p d x _ _ kdH.out (bH.out.mono (by omega)) hxlH.out hxH.out.1 (fun w' o => rd_here hxH.out.2 o.drop) oc2.out
        unfold PlaySays at hpl
        obtain ⟨r, hr⟩ : ∃ r, (d.play x).2 = r := ⟨_, rfl⟩
        rw [hr] at hpl
        have hplH := hid hpl
        have hrH := hid hr
        have bk := hid ((FBd.play kdH.out bH.out x s2).mono (m := 1000 * (k + 1)) (by omega))
        clear hpl hr
        go_wp2_with fail
        refine hplH.out.mono ?_
        rintro e we ⟨rfl, oe, ee⟩
        have kf := hid (diskC_ok oe)
        have oeH := hid oe
        have eeH := hid (ecH.out.trans ee)
        have hq : (d.play x).1.size ≤ 100000 := Nat.le_trans (size_total kf.out) (Nat.le_trans bk.out.bytes (by omega))
        have hrn := hid (fun h3 : x.kind = 3 => rename_law (d := d) (a := x.a) (b := x.b) kdH.out)
        have hap := hid (fun h1 : x.kind = 1 => append_law (d := d) (a := x.a) (b := x.b.data.toList) kdH.out)
        have hp3 : Hid (x.kind = 3 → d.play x = d.rename x.a x.b) := hid (fun h => by simp [FDisk.play, h])
        have hp1 : Hid (x.kind = 1 → d.play x = d.append x.a x.b.data.toList) := hid (fun h => by simp [FDisk.play, h])
        clear oe ee hplH oc2 ecH b0 b1 b2 b3 b4
        -- what is read of it behind
        have hread3 : Hid (x.kind = 3 → r = 0 → had = 0 ∧ (d.play x).1.read x.b = (bs, 0) ∧ ((d.play x).1.read x.a).2 = if x.a = x.b then 0 else 10) := hid (fun h3 h0 => by
          have h5 := hp3.out h3
          have h6 := hrn.out h3 (by rw [← h5, hrH.out]; exact h0)
          obtain ⟨b', q1, q2, q3⟩ := h6
          rw [hrdH.out] at q1
          simp only [Prod.mk.injEq] at q1
          obtain ⟨rfl, rfl⟩ := q1
          rw [h5]
          exact ⟨rfl, q2, q3⟩)
        have hread1 : Hid (x.kind = 1 → r = 0 → (d.play x).1.read x.a = (bs ++ x.b.data.toList, 0)) := hid (fun h1 h0 => by
          have h5 := hp1.out h1
          have h6 := hap.out h1 (by rw [← h5, hrH.out]; exact h0)
          rw [h5, h6, hrdH.out])
        clear hp3 hp1 hrn hap hrdH hrH
        generalize (d.play x).1 = d' at *
        -- list
        go_wp2_with fail
        refine (list_c p d' _ _ oeH.out).mono ?_
        rintro e wf ⟨v1, rfl, of, ef⟩
        obtain ⟨A1, n1, c1, rfl⟩ := sl_shape of
        obtain ⟨hn1, _, _⟩ := sl_n of
        have hn60 : n1 ≤ 60 := by rw [hn1]; unfold namesOf; rw [List.length_map]; exact kf.out.now.few
        have hn1H := hid hn1
        have ofH := hid of
        have efH := hid (eeH.out.trans ef)
        clear hn1 of ef oeH eeH
        go_wp2_with fail
        obtain ⟨wo, rfl⟩ : ∃ wo : World, wo = wr := ⟨_, rfl⟩
        go_loopw [53] (fun i wq => ∃ j : Nat, i = .int .i64 j ∧ j ≤ n1 ∧ Own wq (sl 9 strE (.slice A1 n1 c1) (namesOf d'.now) :: diskC p d' :: pts wo.heap.size (.cells #[.int .i64 x.kind, .int .i64 x.n, .string x.a, .string x.b, .slice x.kA x.k.length x.kc] 29 (0, 0)) :: [base W W.heap.size]) ∧ Ext W wq) (fun i _ => n1 - (intOf i).toNat)
        case atStart => exact ⟨0, rfl, Nat.zero_le _, ofH.out, efH.out⟩
        case round =>
          obtain ⟨j, rfl, hj, oj, ej⟩ := hrel
          have ojH := hid oj
          clear oj
          by_cases hjn : j < n1
          · obtain ⟨⟨nm, id⟩, hat⟩ : ∃ q, d'.now[j]? = some q := ⟨_, List.getElem?_eq_getElem (by have h := hn1H.out; unfold namesOf at h; rw [List.length_map] at h; omega)⟩
            obtain ⟨g2, rfl⟩ : ∃ g, A1 = some ⟨g, 0, none⟩ := by
              rcases sl_form ojH.out with ⟨_, h⟩ | ⟨g, cap, h, _, _⟩
              · have := names_at hat; rw [h] at this; simp at this
              · simp only [Value.slice.injEq] at h; exact ⟨g, h.1⟩
            have hm := kf.out.now.names _ (List.mem_of_getElem? hat)
            have k0 : wr.cell? ⟨g2, j, none⟩ = some (.string nm) := by have := (sl_at ojH.out (names_at hat) 0 _ rfl).1; simpa [strE] using this
            have hms := hid (fun w => may_is hm w (Nat.le_trans (mayB_small hm) (by simp [maxLen])))
            cases j with
            | zero =>
              clear hm hat
              go_wp2_with fail
              go_quiet ((go_at_call 22; exact Calls.quiet_of_same (hms.out _)))
              go_wp2
              go_roundw
              case rel => exact ⟨1, by go_num, by omega, ojH.out.drewN _, ej.drewN _⟩
              case measure => simp only [intOf]; omega
            | succ i =>
              obtain ⟨⟨nm2, id2⟩, hat2⟩ : ∃ q, d'.now[i]? = some q := ⟨_, List.getElem?_eq_getElem (by have h := (List.getElem?_eq_some_iff.1 hat).1; omega)⟩
              have k1 : wr.cell? ⟨g2, i, none⟩ = some (.string nm2) := by have := (sl_at ojH.out (names_at hat2) 0 _ rfl).1; simpa [strE] using this
              have hlt2 : Op.bytesLess nm2.toList nm.toList = true := by
                rw [less_ltK]
                have h1 := List.pairwise_iff_getElem.1 kf.out.now.ok i (i + 1) (List.getElem?_eq_some_iff.1 hat2).1 (List.getElem?_eq_some_iff.1 hat).1 (by omega)
                rw [(List.getElem?_eq_some_iff.1 hat2).2, (List.getElem?_eq_some_iff.1 hat).2] at h1
                exact h1
              have hw1 : IntKind.i64.wrap ((i : Int) + 1 - 1) = (i : Int) := by rw [Int.add_sub_cancel]; exact Go.IntWalk.i64_in _ (by omega)
              have hw2 : IntKind.i64.wrap (i : Int) = (i : Int) := Go.IntWalk.i64_in _ (by omega)
              clear hm hat hat2
              go_wp2_with fail
              go_quiet ((go_at_call 22; exact Calls.quiet_of_same (hms.out _)))
              clear hw1 hw2 hlt2 k0 k1
              go_wp2
              go_roundw
              case rel => exact ⟨i + 2, by go_num, by omega, ojH.out.drewN _, ej.drewN _⟩
              case measure => simp only [intOf]; omega
          · have hje : j = n1 := by omega
            subst hje
            clear hjn hj
            have hsz := hid (size_c p d' _ _ (bigN_le (by omega)) (Own.swap ojH.out))
            go_wp2_with fail
            refine hsz.out.mono ?_
            rintro e wg ⟨rfl, og, eg⟩
            have ogH := hid og
            have egH := hid (ej.trans eg)
            obtain ⟨b0, b1, b2, b3, b4⟩ := box_cells (Own.pick 2 og)
            clear og eg hsz ojH
            have fin : Hid (Own wg [diskC p d', base W W.heap.size]) := hid (ogH.out.sub (by simp))
            by_cases h3 : x.kind = 3 ∧ r = 0
            · obtain ⟨h3, hr0⟩ := h3
              subst hr0
              obtain ⟨rfl, q2, q3⟩ := hread3.out h3 rfl
              have h3b : (x.kind == 3) = true := by simpa using h3
              have h1b : (x.kind == 1) = false := by rw [h3]; rfl
              have hr1 := read_c p d' x.b wg _ hnbH.out ogH.out
              rw [q2] at hr1
              have hr1H := hid hr1
              have hr2 := read_c p d' x.a wg _ hnaH.out ogH.out
              rw [q3] at hr2
              have hne : Hid ((⟨bs.toArray⟩ : ByteArray) = ⟨bs.toArray⟩) := hid rfl
              by_cases hab : x.a = x.b
              · rw [if_pos hab] at hr2
                have habt : (x.a.toList == x.b.toList) = true := by rw [hab]; simp
                have hr2H := hid hr2
                clear hr1 hr2 q2 q3 h3 hab hread3 hread1
                generalize (d'.read x.a).1 = zs at *
                go_wp2_with fail
                refine (hr1H.out).mono ?_
                rintro e w' ⟨rfl, rfl⟩
                go_wp2_with fail
                refine (hr2H.out).mono ?_
                rintro e w' ⟨rfl, rfl⟩
                go_wp2_with fail
                go_roundw
                case rel => exact ⟨k + 1, d', by go_num, by omega, by omega, bk.out, fin.out, egH.out⟩
                case measure => simp only [intOf]; omega
              · rw [if_neg hab] at hr2
                have habt : (x.a.toList == x.b.toList) = false := eqK_false.2 hab
                have hr2H := hid hr2
                clear hr1 hr2 q2 q3 h3 hab hread3 hread1
                generalize (d'.read x.a).1 = zs at *
                go_wp2_with fail
                refine (hr1H.out).mono ?_
                rintro e w' ⟨rfl, rfl⟩
                go_wp2_with fail
                refine (hr2H.out).mono ?_
                rintro e w' ⟨rfl, rfl⟩
                go_wp2_with fail
                go_roundw
                case rel => exact ⟨k + 1, d', by go_num, by omega, by omega, bk.out, fin.out, egH.out⟩
                case measure => simp only [intOf]; omega
            · clear hread3
              by_cases h1 : x.kind = 1 ∧ r = 0
              · obtain ⟨h1, hr0⟩ := h1
                subst hr0
                have q1 := hread1.out h1 rfl
                have hr1 := read_c p d' x.a wg _ hnaH.out ogH.out
                rw [q1] at hr1
                have e1 : (⟨(bs ++ x.b.data.toList).toArray⟩ : ByteArray) = ⟨bs.toArray⟩ ++ x.b := bs_append bs x.b
                dsimp only at hr1
                rw [e1] at hr1
                have hr1H := hid hr1
                have h1b : (x.kind == 1) = true := by simpa using h1
                have h3b : (x.kind == 3) = false := by rw [h1]; rfl
                clear hr1 e1 q1 h1 h3 hread1
                go_wp2_with fail
                refine (hr1H.out).mono ?_
                rintro e w' ⟨rfl, rfl⟩
                go_wp2_with fail
                go_roundw
                case rel => exact ⟨k + 1, d', by go_num, by omega, by omega, bk.out, fin.out, egH.out⟩
                case measure => simp only [intOf]; omega
              · have h3b : (x.kind == 3 && r == 0) = false := by
                  simp only [Bool.and_eq_false_iff, beq_eq_false_iff_ne]; omega
                have h1b : (x.kind == 1 && r == 0) = false := by
                  simp only [Bool.and_eq_false_iff, beq_eq_false_iff_ne]; omega
                clear h1 h3 hread1
                rcases bool_cases (r == 0) with hr | hr
                · have h3c : (x.kind == 3) = false := by simpa [hr] using h3b
                  have h1c : (x.kind == 1) = false := by simpa [hr] using h1b
                  clear h3b h1b
                  go_wp2_with fail
                  go_roundw
                  case rel => exact ⟨k + 1, d', by go_num, by omega, by omega, bk.out, fin.out, egH.out⟩
                  case measure => simp only [intOf]; omega
                · clear h3b h1b
                  go_wp2_with fail
                  all_goals
                    go_roundw
                    case rel => exact ⟨k + 1, d', by go_num, by omega, by omega, bk.out, fin.out, egH.out⟩
                    case measure => simp only [intOf]; omega
    · have hem : k < l.length ∨ ¬ k < l.length := Classical.em _
      have hor : ¬ k < l.length ∨ ¬ k < 100 := by omega
      rcases hem with hem | hem
      all_goals
        go_wp2_with fail
        go_ret
        exact ⟨rfl, below_of_own (Own.drop oqH.out) eq⟩
end Go.Proofs.Ythnnpkmklkphaaa
