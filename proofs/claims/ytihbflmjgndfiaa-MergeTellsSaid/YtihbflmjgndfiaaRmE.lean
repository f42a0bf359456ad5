/- The walk of screeref08.All. -/
import Derived.Test.YtihbflmjgndfiaaRmD
import Derived.Test.YtihbflmjgndfiaaEntR
namespace Go.Proofs.Ytihbflmjgndfiaa
open Go.RowKit Go.Sl Go.Scree

def preL (rs : List RowV) (i : Nat) : List Ent := ((listsOf rs).take i).flatten
theorem preL_next {rs : List RowV} {i : Nat} {r : RowV} (h : rs[i]? = some r) : preL rs (i + 1) = preL rs i ++ r.l := by
  have h2 : (listsOf rs)[i]? = some r.l := by simp [listsOf, h]
  obtain ⟨hk, e⟩ := List.getElem?_eq_some_iff.1 h2
  unfold preL
  rw [List.take_succ_eq_append_getElem hk, e, List.flatten_append]; simp
theorem preL_all (rs : List RowV) : preL rs rs.length = (listsOf rs).flatten := by
  unfold preL; rw [List.take_of_length_le (by simp [listsOf])]
theorem preL_len (rs : List RowV) (i : Nat) : (preL rs i).length ≤ totR (listsOf rs) := by
  have e : (listsOf rs).flatten = preL rs i ++ ((listsOf rs).drop i).flatten := by
    unfold preL
    rw [← List.flatten_append, List.take_append_drop]
  have : totR (listsOf rs) = (listsOf rs).flatten.length := by simp [totR, List.length_flatten]
  rw [this, e, List.length_append]; omega
theorem take_snoc {α : Type} {l : List α} {j : Nat} {x : α} (h : l[j]? = some x) : l.take (j + 1) = l.take j ++ [x] := by
  obtain ⟨hk, rfl⟩ := List.getElem?_eq_some_iff.1 h
  exact List.take_succ_eq_append_getElem hk
theorem withE_len2 (l : List Ent) (x : Ent) : (withE l x).length ≤ l.length + 1 := by
  induction l with
  | nil => simp [withE]
  | cons y r ih => unfold withE; split <;> (try split) <;> simp <;> omega
theorem fold_len2 (m : List Ent) : ∀ l : List Ent, (m.foldl withE l).length ≤ l.length + m.length := by
  induction m with
  | nil => intro l; simp
  | cons x m ih => intro l; have := ih (withE l x); have := withE_len2 l x; simp only [List.foldl_cons, List.length_cons]; omega

def XAllSays (rs : List RowV) (w : World) (e : Ending) (w' : World) : Prop :=
  ∃ v', e = .returned (.tuple #[v', .int .i64 (if goodR (listsOf rs) = true then 0 else 2)]) ∧ Rd w' entE v' (if goodR (listsOf rs) = true then allP (listsOf rs) else []) ∧ Kp w w'

set_option maxRecDepth 20000 in
set_option maxHeartbeats 6400000 in
theorem xall_c (v : Value) (rs : List RowV) (w : World) (h : RdR w v rs) (ht : totR (listsOf rs) ≤ 100000) :
    Calls Try.prog 13 #[v] w fun e w' => XAllSays rs w e w' := by
  obtain ⟨A, c, rfl, hm, hc⟩ := h.out.form
  have hl : rs.length ≤ 9223372036854775807 := by simpa [maxLen] using hm
  have hH := hid h
  have htH := hid ht
  clear h hm hc ht
  go_enter Try.func13, Try.ntmps13
  have k0 := hid ((Kp.refl w).alloc (.cells #[] 31 (0, 0)))
  have r0 : Hid (Rd (w.alloc (.cells #[] 31 (0, 0))) entE (.slice (some ⟨w.heap.size, 0, none⟩) 0 0) ([] : List Ent)) := hid (.inl ⟨⟨_, _, rfl, by simp [maxLen]⟩, rfl⟩)
  go_wp2_with fail
  go_loopw [5] (fun iv wr => ∃ i : Nat, iv = .int .i64 i ∧ i ≤ rs.length ∧ Kp (w.alloc (.cells #[] 31 (0, 0))) wr ∧ ∀ (j : Nat) (r : List Ent), j < i → (listsOf rs)[j]? = some r → rowB r = true) (fun iv _ => rs.length - (intOf iv).toNat)
  case atStart => exact ⟨0, rfl, Nat.zero_le _, Kp.refl _, fun j r hj => by omega⟩
  case round =>
    obtain ⟨i, rfl, hi, kr, hgd⟩ := hrel
    have krH := hid kr
    have gdH := hid hgd
    clear kr hgd
    by_cases hlt : i < rs.length
    · obtain ⟨r, hx⟩ : ∃ r, rs[i]? = some r := ⟨_, List.getElem?_eq_getElem hlt⟩
      have kw := hid (k0.out.trans krH.out)
      obtain ⟨g, off, rfl, _, hcell, hgl⟩ := (hH.out.keep kw.out).at hx
      have hrd := hid ((hH.out.keep kw.out).mem hx)
      have hget : Hid ((listsOf rs)[i]? = some r.l) := hid (by simp [listsOf, hx])
      clear hx
      obtain ⟨rA, rn, rc, rl⟩ := r
      dsimp only at hrd hget hcell
      rcases bool_cases (rowB rl) with hr | hr
      · have hrH := hid hr
        go_wp2_with fail
        refine (xrow_c _ _ _ hrd.out).mono ?_
        rintro e w1 ⟨rfl, k1⟩
        have k1H := hid (krH.out.trans k1)
        clear k1
        go_wp2_with fail
        go_roundw
        case rel =>
          refine ⟨i + 1, by go_num, by omega, k1H.out, fun j q hj hq => ?_⟩
          rcases Nat.lt_or_ge j i with h' | h'
          · exact gdH.out j q h' hq
          · obtain rfl : j = i := by omega
            rw [hget.out] at hq
            rw [← Option.some.inj hq]; exact hrH.out
        case measure => simp [intOf]; omega
      · have hbad := hid (goodR_bad hget.out hr)
        go_wp2_with fail
        refine (xrow_c _ _ _ hrd.out).mono ?_
        rintro e w1 ⟨rfl, k1⟩
        have k2 := hid (kw.out.trans k1)
        clear k1
        go_wp2_with fail
        go_ret2
        exact ⟨.slice none 0 0, by rw [hbad.out]; rfl, by rw [hbad.out]; exact .inl ⟨⟨_, _, rfl, by simp [maxLen]⟩, rfl⟩, k2.out⟩
    · obtain rfl : i = rs.length := by omega
      have hG : Hid (goodR (listsOf rs) = true) := hid (by
        unfold goodR
        rw [List.all_eq_true]
        intro q hq
        obtain ⟨j, hj⟩ := List.getElem?_of_mem hq
        exact gdH.out j q (by have := (List.getElem?_eq_some_iff.1 hj).1; simpa [listsOf] using this) hj)
      have rr := hid (krH.out.rd r0.out)
      have kw := hid (k0.out.trans krH.out)
      go_wp2_with fail
      go_loopw [4, 6] (fun ov iv wr => ∃ i : Nat, iv = .int .i64 i ∧ i ≤ rs.length ∧ Rd wr entE ov ((preL rs i).foldl withE []) ∧ Kp w wr) (fun _ iv _ => rs.length - (intOf iv).toNat)
      case atStart => exact ⟨0, rfl, Nat.zero_le _, rr.out, kw.out⟩
      case round =>
        obtain ⟨i, rfl, hi2, hrd, kr2⟩ := hrel
        obtain ⟨A1, c1, rfl, _, _⟩ := hrd.form
        have rdH := hid hrd
        have kr2H := hid kr2
        clear hrd kr2
        by_cases hlt2 : i < rs.length
        · obtain ⟨r, hx⟩ : ∃ r, rs[i]? = some r := ⟨_, List.getElem?_eq_getElem hlt2⟩
          have hrow := hid ((hH.out.keep kr2H.out).mem hx)
          have hnext := hid (preL_next hx)
          have hxH := hid hx
          have hpl := hid (preL_len rs i)
          have hpl2 := hid (preL_len rs (i + 1))
          obtain ⟨wo, hwo⟩ : ∃ wo, wo = wr := ⟨_, rfl⟩
          subst hwo
          clear hx
          go_wp2_with fail
          go_loopw [4, 7] (fun ov jv wr => ∃ j : Nat, jv = .int .i64 j ∧ j ≤ r.l.length ∧ Rd wr entE ov ((preL rs i ++ r.l.take j).foldl withE []) ∧ Kp wo wr) (fun _ jv _ => r.l.length - (intOf jv).toNat)
          case atStart => exact ⟨0, rfl, Nat.zero_le _, by rw [List.take_zero, List.append_nil]; exact rdH.out, Kp.refl _⟩
          case round =>
            obtain ⟨j, rfl, hj, hrd3, kr3⟩ := hrel
            obtain ⟨L, hL⟩ : ∃ L, (preL rs i ++ r.l.take j).foldl withE [] = L := ⟨_, rfl⟩
            rw [hL] at hrd3
            have hLH := hid hL
            clear hL
            obtain ⟨A2, c2, rfl, _, _⟩ := hrd3.form
            have rd3H := hid hrd3
            have kr3H := hid kr3
            clear hrd3 kr3
            obtain ⟨g, off, rfl, _, hcell, hgl⟩ := (hH.out.keep (kr2H.out.trans kr3H.out)).at hxH.out
            have hrd4 := hid ((hH.out.keep (kr2H.out.trans kr3H.out)).mem hxH.out)
            have hnl := hid (Rdr_len hrd4.out)
            obtain ⟨rA, rn, rc, rl⟩ := r
            dsimp only at hrd4 hcell hnl hnext hj hxH hrow hLH
            obtain rfl : rn = rl.length := hnl.out
            have hrl : rl.length ≤ 100000 := by
              have h2 := hpl2.out
              have h3 := htH.out
              rw [hnext.out, List.length_append] at h2
              omega
            by_cases hjl : j < rl.length
            · obtain ⟨x, hx⟩ : ∃ x, rl[j]? = some x := ⟨_, List.getElem?_eq_getElem hjl⟩
              obtain ⟨g3, off3, rfl, _, hce⟩ := rd_ent hrd4.out rfl hx
              obtain ⟨a0, a1, a2, a3⟩ := hce _ _ hx
              have hsn := hid (take_snoc hx)
              have hgl3 : g3 < wr.heap.size := World.block_lt_of_cell? wr _ a0
              have hlen : L.length ≤ 1000000 := by
                have h1 := fold_len2 (preL rs i ++ rl.take j) []
                rw [hLH.out] at h1
                have h2 := hpl2.out
                have h3 := htH.out
                rw [hnext.out, List.length_append] at h2
                simp only [List.length_nil, List.length_append, List.length_take] at h1
                omega
              have hlenH := hid hlen
              clear hce hx hlen
              go_wp2_with fail
              refine (xwith_c _ _ x _ rd3H.out hlenH.out).mono ?_
              rintro e w5 ⟨v5, rfl, r5, k5⟩
              obtain ⟨A5, c5, rfl, _, _⟩ := r5.form
              have r5H := hid r5
              have k5H := hid (kr3H.out.trans k5)
              clear r5 k5
              go_wp2_with fail
              go_roundw
              case rel =>
                refine ⟨j + 1, by go_num, by omega, ?_, k5H.out⟩
                rw [hsn.out, ← List.append_assoc, List.foldl_append, List.foldl_cons, List.foldl_nil, hLH.out]
                exact r5H.out
              case measure => simp [intOf]; omega
            · obtain rfl : j = rl.length := by omega
              have hfin : Hid (Rd wr entE (.slice A2 L.length c2) ((preL rs (i + 1)).foldl withE [])) := hid (by have h1 := rd3H.out; have h2 := hLH.out; rw [List.take_length] at h2; rw [hnext.out, h2]; exact h1)
              go_wp2_with fail
              go_roundw
              case rel => exact ⟨i + 1, by go_num, by omega, hfin.out, kr2H.out.trans kr3H.out⟩
              case measure => simp [intOf]; omega
        · obtain rfl : i = rs.length := by omega
          have hfin := rdH.out
          rw [preL_all] at hfin
          have hfinH := hid hfin
          clear hfin
          go_wp2_with fail
          go_ret2
          refine ⟨_, by rw [hG.out]; rfl, ?_, kr2H.out⟩
          rw [hG.out]
          have := hfinH.out
          rw [preL_all]
          exact this
end Go.Proofs.Ytihbflmjgndfiaa
