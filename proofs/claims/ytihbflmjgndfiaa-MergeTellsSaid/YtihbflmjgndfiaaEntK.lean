/- The walk of All. -/
import Derived.Test.YtihbflmjgndfiaaEntIc
import Derived.Test.YtihbflmjgndfiaaEntKm
namespace Go.Proofs.Ytihbflmjgndfiaa
open Go.RowKit Go.Sl Go.Scree

theorem infoCurp : (Try.prog.info? 54).map (fun i => (i.zero, i.size, i.bytes)) = some (some (.pointer none), 1, 8) := by kernel_rfl

def AllSays (rs : List RowV) (w : World) (e : Ending) (w' : World) : Prop :=
  ∃ v' out, e = .returned (.tuple #[v', .int .i64 (if goodR (listsOf rs) = true then 0 else 2)]) ∧ Own w' [sl 31 entE v' out, base w w.heap.size] ∧ Ext w w' ∧ (goodR (listsOf rs) = true → IsAll (listsOf rs) out) ∧ (goodR (listsOf rs) = false → out = [] ∧ v' = .slice none 0 0)

theorem HP.setc {hb g cap : Nat} {W w : World} {F : List Chunk} {x : Cur} {rest : List Cur} (o : HP hb g cap W F (x :: rest) w) (A' : Option Addr) (k' : Nat) (l' : List Ent) :
    HP hb g cap W F (⟨x.p, x.n, A', k', l'⟩ :: rest) (w.setCell ⟨x.p, 1, none⟩ (.slice A' l'.length k')) := by
  have o1 := (curs_open o).set (i := 1) (.slice A' l'.length k')
  exact curs_close (c := ⟨x.p, x.n, A', k', l'⟩) o1
theorem rd_tail {w : World} {g off n c : Nat} {x : Ent} {t : List Ent} (h : Rd w entE (.slice (some ⟨g, off, none⟩) n c) (x :: t)) : Rd w entE (.slice (some ⟨g, off + 4, none⟩) t.length (c - 1)) t := by
  rcases h with ⟨_, h⟩ | ⟨g', off', cap, hv, h1, h2, hc⟩
  · cases h
  · simp only [Value.slice.injEq, Option.some.injEq, Addr.mk.injEq] at hv
    obtain ⟨⟨rfl, rfl, _⟩, rfl, rfl⟩ := hv
    simp only [List.length_cons] at h1
    refine .inr ⟨g, off + 4, c - 1, rfl, by omega, by omega, fun i y hy j u hu => ?_⟩
    have := hc (i + 1) y (by simpa using hy) j u hu
    rwa [show off + (i + 1) * entE.size + j = off + 4 + i * entE.size + j from by simp only [entE]; omega] at this
theorem pushE_add {out : List Ent} {x y : Ent} (h : out.getLast? = some y) (k : sameB y x = false) : pushE out x = out ++ [x] := by
  unfold pushE; rw [h]; exact if_neg (by rw [k]; simp)
theorem pushE_no {out : List Ent} {x y : Ent} (h : out.getLast? = some y) (k : sameB y x = true) : pushE out x = out := by
  unfold pushE; rw [h]; exact if_pos k

theorem begin0_c (hb c : Nat) (A : Option Addr) (w : World) (h0 : w.cell? ⟨hb, 0, none⟩ = some (.slice A 0 c)) : Calls Try.prog 26 #[.pointer (some ⟨hb, 0, none⟩)] w fun e w' => e = .returned (.tuple #[]) ∧ w' = w := by
  go_enter Try.func26, Try.ntmps26
  go_wp2_with fail
  go_loopw [2] (fun iv wr => iv = .int .i64 (-1) ∧ wr = w) (fun _ _ => 0)
  case atStart => exact ⟨rfl, rfl⟩
  case round =>
    obtain ⟨rfl, rfl⟩ := hrel
    go_wp2_with fail
    go_returns
    exact ⟨rfl, rfl⟩

set_option maxRecDepth 20000 in
set_option maxHeartbeats 12800000 in
theorem all_c (v : Value) (rs : List RowV) (w : World) (h : RdR w v rs) (hk : rs.length ≤ 100000) (ht : totR (listsOf rs) ≤ 1000000) :
    Calls Try.prog 12 #[v] w fun e w' => AllSays rs w e w' := by
  obtain ⟨A, c, rfl, hm, hc⟩ := h.out.form
  have hl : rs.length ≤ 9223372036854775807 := by simpa [maxLen] using hm
  have hH := hid h
  obtain ⟨i0, hi0, hz0, hz1, hz2⟩ := info_parts infoEnt
  obtain ⟨j0, hj0, hy0, hy1, hy2⟩ := info_parts infoCurp
  obtain ⟨hb, hhb⟩ : ∃ hb, w.heap.size = hb := ⟨_, rfl⟩
  have hhbH := hid hhb
  have htH := hid ht
  clear h hm hc hhb ht
  go_enter Try.func12, Try.ntmps12
  go_wp2_with fail
  go_loopw [14] (fun iv wr => ∃ (k : Nat) (cs : List Cur) (lv : Value), iv = .int .i64 k ∧ k ≤ rs.length ∧ Built (listsOf rs) k cs ∧ CurOk w cs ∧ Own wr [curs cs, hC w.heap.size lv, sl 54 curE lv cs, base w w.heap.size] ∧ Ext w wr) (fun iv _ => rs.length - (intOf iv).toNat)
  case atStart =>
    refine ⟨0, [], .slice none 0 0, rfl, Nat.zero_le _, Built.start _, fun c hc => by simp at hc, ?_, (Ext.refl w).alloc _⟩
    have o := (Own.start w).alloc (.cells #[.slice none 0 0, .func (.func 25) #[] #[]] 53 (0, 0))
    exact curs_nil (Own.swap (sl_nil 54 curE o))
  case round =>
    obtain ⟨k, cs, lv, rfl, hk1, hb1, hco, ok, ek⟩ := hrel
    have okH := hid ok
    have hbH := hid hb1
    have hcoH := hid hco
    obtain ⟨A1, n1, c1, rfl⟩ := sl_shape (Own.pick 2 ok)
    have h0 := (Own.swap ok).cell (i := 0) (v := .slice A1 n1 c1) rfl
    have f0 := (Own.swap ok).free 0
    have hbl := (Own.swap ok).lt
    clear ok hb1 hco
    by_cases hlt : k < rs.length
    · obtain ⟨r, hx⟩ : ∃ r, rs[k]? = some r := ⟨_, List.getElem?_eq_getElem hlt⟩
      have kp := hid (kp_of (cs := [_, _, _]) okH.out ek)
      obtain ⟨g, off, rfl, _, hcell, hgl⟩ := (hH.out.keep kp.out).at hx
      have hrw := hid (hH.out.mem hx)
      have hrd := hid ((hH.out.keep kp.out).mem hx)
      have hget : Hid ((listsOf rs)[k]? = some r.l) := hid (by simp [listsOf, hx])
      have hnl := hid (Rdr_len hrd.out)
      clear hx
      obtain ⟨rA, rn, rc, rl⟩ := r
      dsimp only at hrd hrw hget hnl hcell
      obtain rfl : rn = rl.length := hnl.out
      rcases bool_cases (rowB rl) with hr | hr
      · go_wp2_with fail
        refine (row_c _ _ _ hrd.out).mono ?_
        rintro e w1 ⟨rfl, k1⟩
        have o1 := hid (k1.own okH.out)
        have ek1 := hid (ek.trans k1.ext)
        have h0' := k1.cell h0
        have f0' := k1.free hbl f0
        have hbl' := k1.lt hbl
        clear k1 h0 f0 hbl hcell
        by_cases hemp : rl.length = 0
        · have hnil : Hid ((listsOf rs)[k]? = some []) := hid (by have := List.eq_nil_of_length_eq_zero hemp; rw [← this]; exact hget.out)
          go_wp2_with fail
          go_roundw
          case rel => exact ⟨k + 1, cs, _, by go_num, by omega, hbH.out.skip hnil.out, hcoH.out, o1.out, ek1.out⟩
          case measure => simp [intOf]; omega
        · have hpos : 0 < rl.length := by omega
          have hne : Hid (rl ≠ []) := hid (by rintro rfl; simp at hemp)
          have hrH := hid hr
          have o2 := curs_close (c := ⟨w1.heap.size, k, rA, rc, rl⟩) (o1.out.alloc (curO ⟨w1.heap.size, k, rA, rc, rl⟩))
          have o3 := hid (Own.pick 2 (curs_perm (List.perm_append_comm (l₁ := [_]) (l₂ := cs)) o2))
          clear o2
          go_wp2_with (refine wpList_append_rd rfl _ _ _ rfl j0 _ 1 8 Try.underlying51 hj0 hy0 hy1 hy2 rfl rfl rfl o3.out.allocd rfl (rd_new (xs := [⟨w1.heap.size, k, rA, rc, rl⟩]) (by simp) rfl (by simp [maxLen]) (by simp [curE, Enc.flat])) ?q1 ?q2 ?_)
          case q1 => have := hbH.out.len; simp [maxLen]; omega
          case q2 => have := hbH.out.len; simp; omega
          intro v3 w3 o4 e4 _
          obtain ⟨A3, n3, c3, rfl⟩ := sl_shape o4
          have o5 := Own.pick 2 o4
          have h0 := o5.cell (i := 0) (v := .slice A1 n1 c1) rfl
          have f0 := o5.free 0
          have hbl := o5.lt
          have o6 := hid (Own.pick 2 (o5.set (i := 0) (.slice A3 n3 c3)))
          have e6 := hid ((((ek1.out.alloc _).alloc _).trans e4).set ⟨w.heap.size, 0, none⟩ (.slice A3 n3 c3))
          clear o4 o5 e4 h0' f0' hbl'
          go_wp2
          go_roundw
          case rel => exact ⟨k + 1, cs ++ [⟨w1.heap.size, k, rA, rc, rl⟩], .slice A3 n3 c3, by go_num, by omega, hbH.out.push hget.out hne.out hrH.out _ _ _, fun c hc => (List.mem_append.1 hc).elim (hcoH.out c) (fun h => by rw [List.mem_singleton.1 h]; exact ⟨hrw.out, hne.out⟩), o6.out, e6.out⟩
          case measure => simp [intOf]; omega
      · have hbad := hid (goodR_bad hget.out hr)
        go_wp2_with fail
        refine (row_c _ _ _ hrd.out).mono ?_
        rintro e w1 ⟨rfl, k1⟩
        have k2 := hid (kp.out.trans k1)
        clear k1
        go_wp2_with fail
        go_ret2
        refine ⟨_, [], by rw [hbad.out]; rfl, sl_nil _ _ k2.out.base, k2.out.ext, fun h => ?_, fun _ => ⟨rfl, rfl⟩⟩
        rw [hbad.out] at h; cases h
    · obtain rfl : k = rs.length := by omega
      have hB : Hid (Built (listsOf rs) (listsOf rs).length cs) := hid (by have := hbH.out; rwa [show rs.length = (listsOf rs).length from by simp [listsOf]] at this)
      have hG := hid (goodR_of hB.out)
      have hbeg : Hid (Calls Try.prog 26 #[.pointer (some ⟨w.heap.size, 0, none⟩)] wr fun e w' => e = .returned (.tuple #[]) ∧ ∃ (cs' : List Cur) (lv : Value), cs'.Perm cs ∧ HOk firstB 0 cs' ∧ Own w' [curs cs', hC w.heap.size lv, sl 54 curE lv cs', base w w.heap.size] ∧ Ext wr w') := hid (by
        have hlen := hB.out.len
        simp only [listsOf, List.length_map] at hlen
        rcases sl_form (Own.pick 2 okH.out) with ⟨hv, rfl⟩ | ⟨g, cap, hv, hcap, _⟩
        · simp only [Value.slice.injEq] at hv
          obtain ⟨rfl, rfl, rfl⟩ := hv
          refine (begin0_c w.heap.size 0 none wr h0).mono ?_
          rintro e w' ⟨rfl, rfl⟩
          exact ⟨rfl, [], _, List.Perm.refl _, HOk.half (by simp), okH.out, Ext.refl _⟩
        · simp only [Value.slice.injEq] at hv
          obtain ⟨rfl, rfl, rfl⟩ := hv
          refine (begin_c w.heap.size g c1 w wr [] cs okH.out hcoH.out (by omega)).mono ?_
          rintro e w' ⟨rfl, cs', hp, hok, o', e'⟩
          refine ⟨rfl, cs', .slice (some ⟨g, 0, none⟩) cs.length c1, hp, hok, ?_, e'⟩
          have := o'
          unfold HP at this
          rwa [hp.length_eq] at this)
      clear h0 f0 hbl
      go_wp2_with fail
      refine hbeg.out.mono ?_
      rintro e w1 ⟨rfl, cs1, lv1, hp1, hk1, o1, e1⟩
      have o1H := hid o1
      have hk1H := hid hk1
      have m1 := hid (hB.out.inv.perm hp1.symm)
      have co1 := hid (hcoH.out.perm hp1)
      have tot1 : Hid (totC cs1 ≤ 1000000) := hid (by
        have h1 := totC_perm hp1
        have h2 := hB.out.tot
        have h3 := htH.out
        rw [List.take_length] at h2
        omega)
      have len1 : Hid (cs1.length ≤ 100000) := hid (by
        have hlen := hB.out.len
        simp only [listsOf, List.length_map] at hlen
        rw [hp1.length_eq]; omega)
      have e1H := hid (ek.trans e1)
      clear o1 hk1 hp1 e1 ek okH hbH hcoH hB hbeg
      go_wp2_with fail
      go_loopg [7] (totC cs1 + 1) (fun gg ov wq => ∃ (cs : List Cur) (out : List Ent) (lv : Value), MInv (listsOf rs) cs out ∧ HOk firstB 0 cs ∧ CurOk w cs ∧ out.length + totC cs ≤ 1000000 ∧ totC cs < gg ∧ cs.length ≤ 100000 ∧ Own wq [curs cs, hC w.heap.size lv, sl 54 curE lv cs, base w w.heap.size, sl 31 entE ov out] ∧ Ext w wq)
      case atStart => exact ⟨cs1, [], lv1, m1.out, hk1H.out, co1.out, by have := tot1.out; simpa using this, by omega, len1.out, Own.pick 0 (Own.exch [_] [_, _, _, _] (F := []) (sl_nil 31 entE o1H.out)), e1H.out⟩
      case round =>
        obtain ⟨cs, out, lv, hmi, hho, hco, htot, hgg, hcl, ok, ek⟩ := hrel
        obtain ⟨A4, n4, c4, rfl⟩ := sl_shape (Own.pick 4 ok)
        obtain rfl : n4 = out.length := by
          rcases sl_form (Own.pick 4 ok) with ⟨h, h2⟩ | ⟨_, _, h, _⟩
          · simp only [Value.slice.injEq] at h; rw [h2]; exact h.2.1
          · simp only [Value.slice.injEq] at h; exact h.2.1
        cases cs with
        | nil =>
          have hlv : ∃ A c, lv = .slice A 0 c := by
            rcases sl_form (Own.pick 2 ok) with ⟨h, _⟩ | ⟨g, cap, h, _⟩
            · exact ⟨_, _, h⟩
            · exact ⟨_, _, h⟩
          obtain ⟨A5, c5, rfl⟩ := hlv
          have h0 := (Own.swap ok).cell (i := 0) (v := .slice A5 0 c5) rfl
          have okH := hid ok
          have hall := hid (hmi.done (goodR_rows hG.out))
          clear ok hmi
          go_wp2_with fail
          go_ret2
          refine ⟨_, out, by rw [hG.out]; rfl, Own.swap (Own.drop (Own.drop (Own.drop okH.out))), ek, fun _ => hall.out, fun h => ?_⟩
          rw [hG.out] at h; cases h
        | cons x0 rest =>
          obtain ⟨g, cap, hlv, _, _⟩ : ∃ g cap, lv = .slice (some ⟨g, 0, none⟩) (x0 :: rest).length cap ∧ True ∧ True := by
            rcases sl_form (Own.pick 2 ok) with ⟨_, h⟩ | ⟨g, cap, h, _⟩
            · cases h
            · exact ⟨g, cap, h, trivial, trivial⟩
          subst hlv
          have hp : HP w.heap.size g cap w [sl 31 entE (.slice A4 out.length c4) out] (x0 :: rest) wr := ok
          have hpH := hid hp
          obtain ⟨h0, _, hbl⟩ := hp.cells
          obtain ⟨p0, _, gl, hcur⟩ := hp.at (i := 0) (x := x0) rfl
          obtain ⟨cc0, cc1⟩ := cur_cells hcur
          have hcl0 : x0.p < wr.heap.size := (Array.getElem?_eq_some_iff.1 hcur).1
          have hrd := hp.rd hco (List.mem_cons_self ..)
          have hleast : ∀ d ∈ rest, leC x0 d := fun d hd => by
            obtain ⟨j, hj⟩ := List.getElem?_of_mem hd
            exact firstB_false.1 (hho.least weak_first (m := x0) rfl (j + 1) d (by simpa using hj))
          have hne0 := (hco x0 (List.mem_cons_self ..)).2
          have hcoT : CurOk w rest := fun c hc => hco c (List.mem_cons_of_mem _ hc)
          have hrdw := (hco x0 (List.mem_cons_self ..)).1
          have hcapx : x0.l.length ≤ x0.c ∧ x0.c ≤ maxLen := by
            rcases hrdw with ⟨⟨A, cap, hv, hm⟩, hl⟩ | ⟨g, off, cap, hv, h1, h2, _⟩
            · exact absurd hl hne0
            · simp only [Value.slice.injEq] at hv; obtain ⟨_, _, rfl⟩ := hv; exact ⟨h1, h2⟩
          obtain ⟨xp, xn, xA, xc, xl⟩ := x0
          dsimp only at *
          cases xl with
          | nil => exact absurd rfl hne0
          | cons x t =>
          obtain ⟨go, off, rfl, b0, b1, b2, b3⟩ := rd_hd hrd
          have hgl2 : go < wr.heap.size := World.block_lt_of_cell? wr _ b0
          have hstep := hid (hmi.step (goodR_rows hG.out) rfl hleast)
          have hbel := hid (hmi.below)
          have hhoH := hid hho
          have hcoTH := hid hcoT
          have hrdwH := hid hrdw
          obtain ⟨xk, xs, xd, xv⟩ := x
          obtain ⟨nl, hnl⟩ : ∃ n, (rest.length + 1) = n := ⟨_, rfl⟩
          obtain ⟨nt, hnt⟩ : ∃ n, (t.length + 1) = n := ⟨_, rfl⟩
          simp only [List.length_cons] at h0 cc1 hcapx
          rw [hnl] at h0
          rw [hnt] at cc1 hcapx
          have hcapm : xc ≤ 9223372036854775807 := by have := hcapx.2; simpa [maxLen] using this
          have hcap1 : nt ≤ xc := hcapx.1
          have hnl0 : 0 < nl := by omega
          have hnt0 : 0 < nt := by omega
          have hnlH := hid hnl
          have hntH := hid hnt
          clear hnl hnt hmi hho hco hp ok hrd hcur hleast hne0 hcoT hrdw hcapx
          by_cases hout : out = []
          · subst hout
            rw [List.length_nil] at hpH
            have hpush : Hid (pushE [] ⟨xk, xs, xd, xv⟩ = [] ++ [⟨xk, xs, xd, xv⟩]) := hid rfl
            have hol : Hid (([] ++ [(⟨xk, xs, xd, xv⟩ : Ent)]).length + totC (⟨xp, xn, some ⟨go, off, none⟩, xc, ⟨xk, xs, xd, xv⟩ :: t⟩ :: rest) ≤ 1000001) := hid (by have := htot; simp at this ⊢; omega)
            go_wp2_with fail
            go_quiet (fail)
            have q2 := hid (((Kp.refl wr).alloc (.cells #[.string xk, .int .u64 xs, .bool xd, .string xv] 31 (0, 0))).drewN nq)
            have d0 : ((wr.alloc (.cells #[.string xk, .int .u64 xs, .bool xd, .string xv] 31 (0, 0))).drewN nq).cell? ⟨wr.heap.size, 0, none⟩ = some (.string xk) := by simp
            have d1 : ((wr.alloc (.cells #[.string xk, .int .u64 xs, .bool xd, .string xv] 31 (0, 0))).drewN nq).cell? ⟨wr.heap.size, 1, none⟩ = some (.int .u64 xs) := by simp
            have d2 : ((wr.alloc (.cells #[.string xk, .int .u64 xs, .bool xd, .string xv] 31 (0, 0))).drewN nq).cell? ⟨wr.heap.size, 2, none⟩ = some (.bool xd) := by simp
            have d3 : ((wr.alloc (.cells #[.string xk, .int .u64 xs, .bool xd, .string xv] 31 (0, 0))).drewN nq).cell? ⟨wr.heap.size, 3, none⟩ = some (.string xv) := by simp
            generalize (wr.alloc (.cells #[.string xk, .int .u64 xs, .bool xd, .string xv] 31 (0, 0))).drewN nq = w2 at *
            clear h0 hbl p0 gl cc0 cc1 hcl0 b0 b1 b2 b3 hgl2
            have oo := hid (Own.pick 4 (q2.out.own hpH.out))
            go_wp2_with (refine wpList_append_rd rfl _ _ _ rfl i0 _ 4 48 Try.underlying26 hi0 hz0 hz1 hz2 rfl rfl rfl oo.out.allocd rfl (rd_new (xs := [⟨xk, xs, xd, xv⟩]) (by simp) rfl (by simp [maxLen]) (by simp [entE, Enc.flat])) ?q1 ?q2 ?_)
            case q1 => simp [maxLen]; try omega
            case q2 => simp; try omega
            intro v3 w3 o4 e4 _
            obtain ⟨A3, n3, c3, rfl⟩ := sl_shape o4
            have o5 := hid (Own.exch [_] [_, _, _, _] (F := []) o4)
            have e5 := hid (ek.trans ((q2.out.ext.alloc _).trans e4))
            clear o4 e4 d0 d1 d2 d3
            have hp3 : HP w.heap.size g cap w [sl 31 entE (.slice A3 n3 c3) ([] ++ [(⟨xk, xs, xd, xv⟩ : Ent)])] (⟨xp, xn, some ⟨go, off, none⟩, xc, ⟨xk, xs, xd, xv⟩ :: t⟩ :: rest) w3 := o5.out
            obtain ⟨p0, _, gl, hcur⟩ := hp3.at (i := 0) rfl
            obtain ⟨cc0, cc1⟩ := cur_cells hcur
            have hcl0 : xp < w3.heap.size := (Array.getElem?_eq_some_iff.1 hcur).1
            have hfz : w3.frozen? ⟨xp, 1, none⟩ = false := by simp [World.frozen?, hcur, curO]
            dsimp only at cc1
            simp only [List.length_cons] at cc1
            rw [hntH.out] at cc1
            have hp3H := hid hp3
            clear hcur hp3
            cases t with
            | nil =>
              obtain rfl : nt = 1 := by have := hntH.out; simpa using this.symm
              obtain ⟨z, hz⟩ : ∃ z, (⟨xp, xn, some ⟨go, off, none⟩, xc, ⟨xk, xs, xd, xv⟩ :: []⟩ :: rest)[(⟨xp, xn, some ⟨go, off, none⟩, xc, ⟨xk, xs, xd, xv⟩ :: []⟩ :: rest).length - 1]? = some z := ⟨_, List.getElem?_eq_getElem (by simp)⟩
              have hst : Hid (MInv (listsOf rs) rest ([] ++ [(⟨xk, xs, xd, xv⟩ : Ent)])) := hid (by have := hstep.out none 0; rw [hpush.out] at this; simpa [tailC] using this)
              have htt : Hid (totC rest + 1 = totC (⟨xp, xn, some ⟨go, off, none⟩, xc, ⟨xk, xs, xd, xv⟩ :: []⟩ :: rest)) := hid (by simp [totC]; omega)
              by_cases hx1 : xc = 1
              · have o6 := hid (hp3H.out.setc (some ⟨go, off, none⟩) 0 [])
                obtain ⟨z2, hz2⟩ : ∃ z, ((⟨xp, xn, (some ⟨go, off, none⟩), 0, []⟩ : Cur) :: rest)[((⟨xp, xn, (some ⟨go, off, none⟩), 0, []⟩ : Cur) :: rest).length - 1]? = some z := ⟨_, List.getElem?_eq_getElem (by simp)⟩
                have hz2H := hid hz2
                have hkk : Hid (HOk firstB 1 (popL ((⟨xp, xn, (some ⟨go, off, none⟩), 0, []⟩ : Cur) :: rest) z2)) := hid (show HOk firstB 1 (popL (⟨xp, xn, some ⟨go, off, none⟩, xc, ⟨xk, xs, xd, xv⟩ :: []⟩ :: rest) z2) from popL_ok hhoH.out)
                clear hz hz2
                go_wp2_with fail
                refine (pop_c w.heap.size g cap w _ _ _ z2 rest o6.out hz2H.out hkk.out hcoTH.out (by have := hnlH.out; simp only [List.length_cons] at hcl; omega)).mono ?_
                rintro e w7 ⟨rfl, cs7, p7, hok7, o7, e7⟩
                have p7H := hid p7
                have o7H := hid o7
                have hok7H := hid hok7
                clear p7 o7 hok7
                go_wp2
                go_roundg (totC (⟨xp, xn, some ⟨go, off, none⟩, xc, ⟨xk, xs, xd, xv⟩ :: []⟩ :: rest))
                case measure => omega
                case rel => exact ⟨cs7, [] ++ [(⟨xk, xs, xd, xv⟩ : Ent)], .slice (some ⟨g, 0, none⟩) cs7.length cap, hst.out.perm p7H.out.symm, hok7H.out, hcoTH.out.perm p7H.out, by have h1 := totC_perm p7H.out; have h2 := htt.out; have h3 := hol.out; omega, by have h1 := totC_perm p7H.out; have h2 := htt.out; omega, by have h1 := p7H.out.length_eq; simp only [List.length_cons] at hcl; omega, o7H.out, (e5.out.set _ _).trans e7⟩
              · have o6 := hid (hp3H.out.setc (some ⟨go, off + 4, none⟩) (xc - 1) [])
                obtain ⟨z2, hz2⟩ : ∃ z, ((⟨xp, xn, (some ⟨go, off + 4, none⟩), (xc - 1), []⟩ : Cur) :: rest)[((⟨xp, xn, (some ⟨go, off + 4, none⟩), (xc - 1), []⟩ : Cur) :: rest).length - 1]? = some z := ⟨_, List.getElem?_eq_getElem (by simp)⟩
                have hz2H := hid hz2
                have hkk : Hid (HOk firstB 1 (popL ((⟨xp, xn, (some ⟨go, off + 4, none⟩), (xc - 1), []⟩ : Cur) :: rest) z2)) := hid (show HOk firstB 1 (popL (⟨xp, xn, some ⟨go, off, none⟩, xc, ⟨xk, xs, xd, xv⟩ :: []⟩ :: rest) z2) from popL_ok hhoH.out)
                clear hz hz2
                go_wp2_with fail
                refine (pop_c w.heap.size g cap w _ _ _ z2 rest o6.out hz2H.out hkk.out hcoTH.out (by have := hnlH.out; simp only [List.length_cons] at hcl; omega)).mono ?_
                rintro e w7 ⟨rfl, cs7, p7, hok7, o7, e7⟩
                have p7H := hid p7
                have o7H := hid o7
                have hok7H := hid hok7
                clear p7 o7 hok7
                go_wp2
                go_roundg (totC (⟨xp, xn, some ⟨go, off, none⟩, xc, ⟨xk, xs, xd, xv⟩ :: []⟩ :: rest))
                case measure => omega
                case rel => exact ⟨cs7, [] ++ [(⟨xk, xs, xd, xv⟩ : Ent)], .slice (some ⟨g, 0, none⟩) cs7.length cap, hst.out.perm p7H.out.symm, hok7H.out, hcoTH.out.perm p7H.out, by have h1 := totC_perm p7H.out; have h2 := htt.out; have h3 := hol.out; omega, by have h1 := totC_perm p7H.out; have h2 := htt.out; omega, by have h1 := p7H.out.length_eq; simp only [List.length_cons] at hcl; omega, o7H.out, (e5.out.set _ _).trans e7⟩
            | cons t1 t2 =>
              have hx1 : ¬ xc = 1 := by have := hntH.out; simp only [List.length_cons] at this; omega
              have hnt2 : ¬ nt = 1 := by have := hntH.out; simp only [List.length_cons] at this; omega
              have hnt3 : ¬ nt - 1 = 0 := by have := hntH.out; simp only [List.length_cons] at this; omega
              have o6 := hid (hp3H.out.setc (some ⟨go, off + 4, none⟩) (xc - 1) (t1 :: t2))
              have hlen1 : (t1 :: t2).length = nt - 1 := by have := hntH.out; omega
              rw [hlen1] at o6
              have hst : Hid (MInv (listsOf rs) (⟨xp, xn, some ⟨go, off + 4, none⟩, xc - 1, t1 :: t2⟩ :: rest) ([] ++ [(⟨xk, xs, xd, xv⟩ : Ent)])) := hid (by have := hstep.out (some ⟨go, off + 4, none⟩) (xc - 1); rw [hpush.out] at this; simpa [tailC] using this)
              have htt : Hid (totC (⟨xp, xn, some ⟨go, off + 4, none⟩, xc - 1, t1 :: t2⟩ :: rest) + 1 = totC (⟨xp, xn, some ⟨go, off, none⟩, xc, ⟨xk, xs, xd, xv⟩ :: t1 :: t2⟩ :: rest)) := hid (by simp [totC]; omega)
              have hkk : Hid (HOk firstB 1 (⟨xp, xn, some ⟨go, off + 4, none⟩, xc - 1, t1 :: t2⟩ :: rest)) := hid (hhoH.out.tail fun j y hj hy => by cases j with | zero => omega | succ j => simpa using hy)
              have hco2 : Hid (CurOk w (⟨xp, xn, some ⟨go, off + 4, none⟩, xc - 1, t1 :: t2⟩ :: rest)) := hid (fun c hc => by
                rcases List.mem_cons.1 hc with rfl | hc
                · exact ⟨rd_tail hrdwH.out, by simp⟩
                · exact hcoTH.out c hc)
              clear hlen1
              go_wp2_with fail
              refine (down_c w.heap.size g cap 0 0 w _ _ (⟨xp, xn, some ⟨go, off + 4, none⟩, xc - 1, t1 :: t2⟩ :: rest) o6.out hco2.out (HMid.start hkk.out) (Nat.le_refl _) (by simp only [List.length_cons] at hcl ⊢; omega) (Nat.zero_le _)).mono ?_
              rintro e w7 ⟨rfl, cs7, p7, hok7, o7, e7⟩
              have p7H := hid p7
              have o7H := hid o7
              have hok7H := hid hok7
              clear p7 o7 hok7
              go_wp2
              go_roundg (totC (⟨xp, xn, some ⟨go, off, none⟩, xc, ⟨xk, xs, xd, xv⟩ :: t1 :: t2⟩ :: rest))
              case measure => omega
              case rel => exact ⟨cs7, [] ++ [(⟨xk, xs, xd, xv⟩ : Ent)], .slice (some ⟨g, 0, none⟩) cs7.length cap, hst.out.perm p7H.out.symm, hok7H.out, hco2.out.perm p7H.out, by have h1 := totC_perm p7H.out; have h2 := htt.out; have h3 := hol.out; omega, by have h1 := totC_perm p7H.out; have h2 := htt.out; omega, by have h1 := p7H.out.length_eq; simp only [List.length_cons] at hcl h1; omega, o7H.out, (e5.out.set _ _).trans e7⟩
          · obtain ⟨y, hly⟩ : ∃ y, out.getLast? = some y := ⟨_, List.getLast?_eq_some_getLast hout⟩
            obtain ⟨jl, hjl⟩ : ∃ j, out.length - 1 = j := ⟨_, rfl⟩
            have hpo : 0 < out.length := List.length_pos_iff.2 hout
            have hyat : out[jl]? = some y := by rw [← hjl, ← List.getLast?_eq_getElem?]; exact hly
            have hjlt : jl < out.length := by omega
            obtain ⟨go2, rfl⟩ : ∃ g2, A4 = some ⟨g2, 0, none⟩ := by
              rcases sl_form (Own.pick 4 hpH.out) with ⟨_, h2⟩ | ⟨g2, _, h, _⟩
              · exact absurd h2 hout
              · simp only [Value.slice.injEq] at h; exact ⟨g2, h.1⟩
            have hwj : IntKind.i64.wrap ((out.length : Int) - 1) = (jl : Int) := by rw [IntWalk.i64_in _ (by omega)]; omega
            have hlz1 : ((out.length : Int) == 0) = false := by simp; omega
            have hlz2 : ¬ out.length = 0 := by omega
            have hlz3 : (out.length == 0) = false := by simp; omega
            have q1 := hid ((Kp.refl wr).alloc (.cells #[.string xk, .int .u64 xs, .bool xd, .string xv] 31 (0, 0)))
            have hys := sl_at (Own.pick 4 (q1.out.own hpH.out)) hyat
            have y0 := (hys 0 _ rfl).1
            have y1 := (hys 1 _ rfl).1
            have y2 := (hys 2 _ rfl).1
            have y3 := (hys 3 _ rfl).1
            simp only [entE, Nat.add_zero] at y0 y1 y2 y3
            have d0 : (wr.alloc (.cells #[.string xk, .int .u64 xs, .bool xd, .string xv] 31 (0, 0))).cell? ⟨wr.heap.size, 0, none⟩ = some (.string xk) := by simp
            have d1 : (wr.alloc (.cells #[.string xk, .int .u64 xs, .bool xd, .string xv] 31 (0, 0))).cell? ⟨wr.heap.size, 1, none⟩ = some (.int .u64 xs) := by simp
            have d2 : (wr.alloc (.cells #[.string xk, .int .u64 xs, .bool xd, .string xv] 31 (0, 0))).cell? ⟨wr.heap.size, 2, none⟩ = some (.bool xd) := by simp
            have d3 : (wr.alloc (.cells #[.string xk, .int .u64 xs, .bool xd, .string xv] 31 (0, 0))).cell? ⟨wr.heap.size, 3, none⟩ = some (.string xv) := by simp
            have hyb := hbel.out y (List.mem_of_getElem? hyat) _ (List.mem_cons_self ..) ⟨xk, xs, xd, xv⟩ (List.mem_cons_self ..)
            have hlyH := hid hly
            clear hys hyat hly hjl
            rcases ahead_tri y ⟨xk, xs, xd, xv⟩ with hc | hc | hc
            · have hcm : cmpE y ⟨xk, xs, xd, xv⟩ = -1 := cmp_ahead hc
              have hpush : Hid (pushE out ⟨xk, xs, xd, xv⟩ = out ++ [⟨xk, xs, xd, xv⟩]) := hid (pushE_add hlyH.out (ahead_not_same hc))
              have hol : Hid ((out ++ [(⟨xk, xs, xd, xv⟩ : Ent)]).length + totC (⟨xp, xn, some ⟨go, off, none⟩, xc, ⟨xk, xs, xd, xv⟩ :: t⟩ :: rest) ≤ 1000001) := hid (by have := htot; simp at this ⊢; omega)
              clear hc hyb
              go_wp2_with fail
              generalize wr.alloc (.cells #[.string xk, .int .u64 xs, .bool xd, .string xv] 31 (0, 0)) = w1 at *
              go_region_held3 (fun V => V.cell? ⟨go2, jl * 4, none⟩ = some (.string y.key) ∧ V.cell? ⟨go2, jl * 4 + 1, none⟩ = some (.int .u64 y.seq) ∧ V.cell? ⟨go2, jl * 4 + 2, none⟩ = some (.bool y.del) ∧ V.cell? ⟨go2, jl * 4 + 3, none⟩ = some (.string y.val) ∧ V.cell? ⟨wr.heap.size, 0, none⟩ = some (.string xk) ∧ V.cell? ⟨wr.heap.size, 1, none⟩ = some (.int .u64 xs) ∧ V.cell? ⟨wr.heap.size, 2, none⟩ = some (.bool xd) ∧ V.cell? ⟨wr.heap.size, 3, none⟩ = some (.string xv)) (first | exact ⟨⟨y0, y1, y2, y3⟩, d0, d1, d2, d3⟩ | (and_intros <;> assumption)) (first | (go_at_call 27; refine (compare_c y ⟨xk, xs, xd, xv⟩ _).mono ?_; rintro e w2 ⟨rfl, kk⟩; have f0 := kk.cell y0; have f1 := kk.cell y1; have f2 := kk.cell y2; have f3 := kk.cell y3; have f4 := kk.cell d0; have f5 := kk.cell d1; have f6 := kk.cell d2; have f7 := kk.cell d3))
              have q2 := hid (q1.out.trans ((Kp.refl w1).drew.trans kk))
              clear kk f0 f1 f2 f3 y0 y1 y2 y3 d0 d1 d2 d3 q1
              have d0 := f4
              have d1 := f5
              have d2 := f6
              have d3 := f7
              clear f4 f5 f6 f7 hlz1 hlz2 hlz3
              clear h0 hbl p0 gl cc0 cc1 hcl0 b0 b1 b2 b3 hgl2
              have oo := hid (Own.pick 4 (q2.out.own hpH.out))
              go_wp2_with (refine wpList_append_rd rfl _ _ _ rfl i0 _ 4 48 Try.underlying26 hi0 hz0 hz1 hz2 rfl rfl rfl oo.out.allocd rfl (rd_new (xs := [⟨xk, xs, xd, xv⟩]) (by simp) rfl (by simp [maxLen]) (by simp [entE, Enc.flat])) ?q1 ?q2 ?_)
              case q1 => simp [maxLen]; try omega
              case q2 => simp; try omega
              intro v3 w3 o4 e4 _
              obtain ⟨A3, n3, c3, rfl⟩ := sl_shape o4
              have o5 := hid (Own.exch [_] [_, _, _, _] (F := []) o4)
              have e5 := hid (ek.trans ((q2.out.ext.alloc _).trans e4))
              clear o4 e4 d0 d1 d2 d3
              have hp3 : HP w.heap.size g cap w [sl 31 entE (.slice A3 n3 c3) (out ++ [(⟨xk, xs, xd, xv⟩ : Ent)])] (⟨xp, xn, some ⟨go, off, none⟩, xc, ⟨xk, xs, xd, xv⟩ :: t⟩ :: rest) w3 := o5.out
              obtain ⟨p0, _, gl, hcur⟩ := hp3.at (i := 0) rfl
              obtain ⟨cc0, cc1⟩ := cur_cells hcur
              have hcl0 : xp < w3.heap.size := (Array.getElem?_eq_some_iff.1 hcur).1
              have hfz : w3.frozen? ⟨xp, 1, none⟩ = false := by simp [World.frozen?, hcur, curO]
              dsimp only at cc1
              simp only [List.length_cons] at cc1
              rw [hntH.out] at cc1
              have hp3H := hid hp3
              clear hcur hp3
              cases t with
              | nil =>
                obtain rfl : nt = 1 := by have := hntH.out; simpa using this.symm
                obtain ⟨z, hz⟩ : ∃ z, (⟨xp, xn, some ⟨go, off, none⟩, xc, ⟨xk, xs, xd, xv⟩ :: []⟩ :: rest)[(⟨xp, xn, some ⟨go, off, none⟩, xc, ⟨xk, xs, xd, xv⟩ :: []⟩ :: rest).length - 1]? = some z := ⟨_, List.getElem?_eq_getElem (by simp)⟩
                have hst : Hid (MInv (listsOf rs) rest (out ++ [(⟨xk, xs, xd, xv⟩ : Ent)])) := hid (by have := hstep.out none 0; rw [hpush.out] at this; simpa [tailC] using this)
                have htt : Hid (totC rest + 1 = totC (⟨xp, xn, some ⟨go, off, none⟩, xc, ⟨xk, xs, xd, xv⟩ :: []⟩ :: rest)) := hid (by simp [totC]; omega)
                by_cases hx1 : xc = 1
                · have o6 := hid (hp3H.out.setc (some ⟨go, off, none⟩) 0 [])
                  obtain ⟨z2, hz2⟩ : ∃ z, ((⟨xp, xn, (some ⟨go, off, none⟩), 0, []⟩ : Cur) :: rest)[((⟨xp, xn, (some ⟨go, off, none⟩), 0, []⟩ : Cur) :: rest).length - 1]? = some z := ⟨_, List.getElem?_eq_getElem (by simp)⟩
                  have hz2H := hid hz2
                  have hkk : Hid (HOk firstB 1 (popL ((⟨xp, xn, (some ⟨go, off, none⟩), 0, []⟩ : Cur) :: rest) z2)) := hid (show HOk firstB 1 (popL (⟨xp, xn, some ⟨go, off, none⟩, xc, ⟨xk, xs, xd, xv⟩ :: []⟩ :: rest) z2) from popL_ok hhoH.out)
                  clear hz hz2
                  go_wp2_with fail
                  refine (pop_c w.heap.size g cap w _ _ _ z2 rest o6.out hz2H.out hkk.out hcoTH.out (by have := hnlH.out; simp only [List.length_cons] at hcl; omega)).mono ?_
                  rintro e w7 ⟨rfl, cs7, p7, hok7, o7, e7⟩
                  have p7H := hid p7
                  have o7H := hid o7
                  have hok7H := hid hok7
                  clear p7 o7 hok7
                  go_wp2
                  go_roundg (totC (⟨xp, xn, some ⟨go, off, none⟩, xc, ⟨xk, xs, xd, xv⟩ :: []⟩ :: rest))
                  case measure => omega
                  case rel => exact ⟨cs7, out ++ [(⟨xk, xs, xd, xv⟩ : Ent)], .slice (some ⟨g, 0, none⟩) cs7.length cap, hst.out.perm p7H.out.symm, hok7H.out, hcoTH.out.perm p7H.out, by have h1 := totC_perm p7H.out; have h2 := htt.out; have h3 := hol.out; omega, by have h1 := totC_perm p7H.out; have h2 := htt.out; omega, by have h1 := p7H.out.length_eq; simp only [List.length_cons] at hcl; omega, o7H.out, (e5.out.set _ _).trans e7⟩
                · have o6 := hid (hp3H.out.setc (some ⟨go, off + 4, none⟩) (xc - 1) [])
                  obtain ⟨z2, hz2⟩ : ∃ z, ((⟨xp, xn, (some ⟨go, off + 4, none⟩), (xc - 1), []⟩ : Cur) :: rest)[((⟨xp, xn, (some ⟨go, off + 4, none⟩), (xc - 1), []⟩ : Cur) :: rest).length - 1]? = some z := ⟨_, List.getElem?_eq_getElem (by simp)⟩
                  have hz2H := hid hz2
                  have hkk : Hid (HOk firstB 1 (popL ((⟨xp, xn, (some ⟨go, off + 4, none⟩), (xc - 1), []⟩ : Cur) :: rest) z2)) := hid (show HOk firstB 1 (popL (⟨xp, xn, some ⟨go, off, none⟩, xc, ⟨xk, xs, xd, xv⟩ :: []⟩ :: rest) z2) from popL_ok hhoH.out)
                  clear hz hz2
                  go_wp2_with fail
                  refine (pop_c w.heap.size g cap w _ _ _ z2 rest o6.out hz2H.out hkk.out hcoTH.out (by have := hnlH.out; simp only [List.length_cons] at hcl; omega)).mono ?_
                  rintro e w7 ⟨rfl, cs7, p7, hok7, o7, e7⟩
                  have p7H := hid p7
                  have o7H := hid o7
                  have hok7H := hid hok7
                  clear p7 o7 hok7
                  go_wp2
                  go_roundg (totC (⟨xp, xn, some ⟨go, off, none⟩, xc, ⟨xk, xs, xd, xv⟩ :: []⟩ :: rest))
                  case measure => omega
                  case rel => exact ⟨cs7, out ++ [(⟨xk, xs, xd, xv⟩ : Ent)], .slice (some ⟨g, 0, none⟩) cs7.length cap, hst.out.perm p7H.out.symm, hok7H.out, hcoTH.out.perm p7H.out, by have h1 := totC_perm p7H.out; have h2 := htt.out; have h3 := hol.out; omega, by have h1 := totC_perm p7H.out; have h2 := htt.out; omega, by have h1 := p7H.out.length_eq; simp only [List.length_cons] at hcl; omega, o7H.out, (e5.out.set _ _).trans e7⟩
              | cons t1 t2 =>
                have hx1 : ¬ xc = 1 := by have := hntH.out; simp only [List.length_cons] at this; omega
                have hnt2 : ¬ nt = 1 := by have := hntH.out; simp only [List.length_cons] at this; omega
                have hnt3 : ¬ nt - 1 = 0 := by have := hntH.out; simp only [List.length_cons] at this; omega
                have o6 := hid (hp3H.out.setc (some ⟨go, off + 4, none⟩) (xc - 1) (t1 :: t2))
                have hlen1 : (t1 :: t2).length = nt - 1 := by have := hntH.out; omega
                rw [hlen1] at o6
                have hst : Hid (MInv (listsOf rs) (⟨xp, xn, some ⟨go, off + 4, none⟩, xc - 1, t1 :: t2⟩ :: rest) (out ++ [(⟨xk, xs, xd, xv⟩ : Ent)])) := hid (by have := hstep.out (some ⟨go, off + 4, none⟩) (xc - 1); rw [hpush.out] at this; simpa [tailC] using this)
                have htt : Hid (totC (⟨xp, xn, some ⟨go, off + 4, none⟩, xc - 1, t1 :: t2⟩ :: rest) + 1 = totC (⟨xp, xn, some ⟨go, off, none⟩, xc, ⟨xk, xs, xd, xv⟩ :: t1 :: t2⟩ :: rest)) := hid (by simp [totC]; omega)
                have hkk : Hid (HOk firstB 1 (⟨xp, xn, some ⟨go, off + 4, none⟩, xc - 1, t1 :: t2⟩ :: rest)) := hid (hhoH.out.tail fun j y hj hy => by cases j with | zero => omega | succ j => simpa using hy)
                have hco2 : Hid (CurOk w (⟨xp, xn, some ⟨go, off + 4, none⟩, xc - 1, t1 :: t2⟩ :: rest)) := hid (fun c hc => by
                  rcases List.mem_cons.1 hc with rfl | hc
                  · exact ⟨rd_tail hrdwH.out, by simp⟩
                  · exact hcoTH.out c hc)
                clear hlen1
                go_wp2_with fail
                refine (down_c w.heap.size g cap 0 0 w _ _ (⟨xp, xn, some ⟨go, off + 4, none⟩, xc - 1, t1 :: t2⟩ :: rest) o6.out hco2.out (HMid.start hkk.out) (Nat.le_refl _) (by simp only [List.length_cons] at hcl ⊢; omega) (Nat.zero_le _)).mono ?_
                rintro e w7 ⟨rfl, cs7, p7, hok7, o7, e7⟩
                have p7H := hid p7
                have o7H := hid o7
                have hok7H := hid hok7
                clear p7 o7 hok7
                go_wp2
                go_roundg (totC (⟨xp, xn, some ⟨go, off, none⟩, xc, ⟨xk, xs, xd, xv⟩ :: t1 :: t2⟩ :: rest))
                case measure => omega
                case rel => exact ⟨cs7, out ++ [(⟨xk, xs, xd, xv⟩ : Ent)], .slice (some ⟨g, 0, none⟩) cs7.length cap, hst.out.perm p7H.out.symm, hok7H.out, hco2.out.perm p7H.out, by have h1 := totC_perm p7H.out; have h2 := htt.out; have h3 := hol.out; omega, by have h1 := totC_perm p7H.out; have h2 := htt.out; omega, by have h1 := p7H.out.length_eq; simp only [List.length_cons] at hcl h1; omega, o7H.out, (e5.out.set _ _).trans e7⟩
            · have hcm : cmpE y ⟨xk, xs, xd, xv⟩ = 0 := cmp_same hc
              have hpush : Hid (pushE out ⟨xk, xs, xd, xv⟩ = out) := hid (pushE_no hlyH.out hc)
              have hol : Hid (out.length + totC (⟨xp, xn, some ⟨go, off, none⟩, xc, ⟨xk, xs, xd, xv⟩ :: t⟩ :: rest) ≤ 1000001) := hid (by omega)
              clear hc hyb
              go_wp2_with fail
              generalize wr.alloc (.cells #[.string xk, .int .u64 xs, .bool xd, .string xv] 31 (0, 0)) = w1 at *
              go_region_held3 (fun V => V.cell? ⟨go2, jl * 4, none⟩ = some (.string y.key) ∧ V.cell? ⟨go2, jl * 4 + 1, none⟩ = some (.int .u64 y.seq) ∧ V.cell? ⟨go2, jl * 4 + 2, none⟩ = some (.bool y.del) ∧ V.cell? ⟨go2, jl * 4 + 3, none⟩ = some (.string y.val) ∧ V.cell? ⟨wr.heap.size, 0, none⟩ = some (.string xk) ∧ V.cell? ⟨wr.heap.size, 1, none⟩ = some (.int .u64 xs) ∧ V.cell? ⟨wr.heap.size, 2, none⟩ = some (.bool xd) ∧ V.cell? ⟨wr.heap.size, 3, none⟩ = some (.string xv)) (first | exact ⟨⟨y0, y1, y2, y3⟩, d0, d1, d2, d3⟩ | (and_intros <;> assumption)) (first | (go_at_call 27; refine (compare_c y ⟨xk, xs, xd, xv⟩ _).mono ?_; rintro e w2 ⟨rfl, kk⟩; have f0 := kk.cell y0; have f1 := kk.cell y1; have f2 := kk.cell y2; have f3 := kk.cell y3; have f4 := kk.cell d0; have f5 := kk.cell d1; have f6 := kk.cell d2; have f7 := kk.cell d3))
              have q2 := hid (q1.out.trans ((Kp.refl w1).drew.trans kk))
              clear kk f0 f1 f2 f3 y0 y1 y2 y3 d0 d1 d2 d3 q1
              have d0 := f4
              have d1 := f5
              have d2 := f6
              have d3 := f7
              clear f4 f5 f6 f7 hlz1 hlz2 hlz3
              clear h0 hbl p0 gl cc0 cc1 hcl0 b0 b1 b2 b3 hgl2
              clear d0 d1 d2 d3
              have o5 := hid (q2.out.own hpH.out)
              have e5 := hid (ek.trans q2.out.ext)
              have hp3 : HP w.heap.size g cap w [sl 31 entE (.slice (some ⟨go2, 0, none⟩) out.length c4) (out)] (⟨xp, xn, some ⟨go, off, none⟩, xc, ⟨xk, xs, xd, xv⟩ :: t⟩ :: rest) w2 := o5.out
              obtain ⟨p0, _, gl, hcur⟩ := hp3.at (i := 0) rfl
              obtain ⟨cc0, cc1⟩ := cur_cells hcur
              have hcl0 : xp < w2.heap.size := (Array.getElem?_eq_some_iff.1 hcur).1
              have hfz : w2.frozen? ⟨xp, 1, none⟩ = false := by simp [World.frozen?, hcur, curO]
              dsimp only at cc1
              simp only [List.length_cons] at cc1
              rw [hntH.out] at cc1
              have hp3H := hid hp3
              clear hcur hp3
              cases t with
              | nil =>
                obtain rfl : nt = 1 := by have := hntH.out; simpa using this.symm
                obtain ⟨z, hz⟩ : ∃ z, (⟨xp, xn, some ⟨go, off, none⟩, xc, ⟨xk, xs, xd, xv⟩ :: []⟩ :: rest)[(⟨xp, xn, some ⟨go, off, none⟩, xc, ⟨xk, xs, xd, xv⟩ :: []⟩ :: rest).length - 1]? = some z := ⟨_, List.getElem?_eq_getElem (by simp)⟩
                have hst : Hid (MInv (listsOf rs) rest (out)) := hid (by have := hstep.out none 0; rw [hpush.out] at this; simpa [tailC] using this)
                have htt : Hid (totC rest + 1 = totC (⟨xp, xn, some ⟨go, off, none⟩, xc, ⟨xk, xs, xd, xv⟩ :: []⟩ :: rest)) := hid (by simp [totC]; omega)
                by_cases hx1 : xc = 1
                · have o6 := hid (hp3H.out.setc (some ⟨go, off, none⟩) 0 [])
                  obtain ⟨z2, hz2⟩ : ∃ z, ((⟨xp, xn, (some ⟨go, off, none⟩), 0, []⟩ : Cur) :: rest)[((⟨xp, xn, (some ⟨go, off, none⟩), 0, []⟩ : Cur) :: rest).length - 1]? = some z := ⟨_, List.getElem?_eq_getElem (by simp)⟩
                  have hz2H := hid hz2
                  have hkk : Hid (HOk firstB 1 (popL ((⟨xp, xn, (some ⟨go, off, none⟩), 0, []⟩ : Cur) :: rest) z2)) := hid (show HOk firstB 1 (popL (⟨xp, xn, some ⟨go, off, none⟩, xc, ⟨xk, xs, xd, xv⟩ :: []⟩ :: rest) z2) from popL_ok hhoH.out)
                  clear hz hz2
                  go_wp2_with fail
                  refine (pop_c w.heap.size g cap w _ _ _ z2 rest o6.out hz2H.out hkk.out hcoTH.out (by have := hnlH.out; simp only [List.length_cons] at hcl; omega)).mono ?_
                  rintro e w7 ⟨rfl, cs7, p7, hok7, o7, e7⟩
                  have p7H := hid p7
                  have o7H := hid o7
                  have hok7H := hid hok7
                  clear p7 o7 hok7
                  go_wp2
                  go_roundg (totC (⟨xp, xn, some ⟨go, off, none⟩, xc, ⟨xk, xs, xd, xv⟩ :: []⟩ :: rest))
                  case measure => omega
                  case rel => exact ⟨cs7, out, .slice (some ⟨g, 0, none⟩) cs7.length cap, hst.out.perm p7H.out.symm, hok7H.out, hcoTH.out.perm p7H.out, by have h1 := totC_perm p7H.out; have h2 := htt.out; have h3 := hol.out; omega, by have h1 := totC_perm p7H.out; have h2 := htt.out; omega, by have h1 := p7H.out.length_eq; simp only [List.length_cons] at hcl; omega, o7H.out, (e5.out.set _ _).trans e7⟩
                · have o6 := hid (hp3H.out.setc (some ⟨go, off + 4, none⟩) (xc - 1) [])
                  obtain ⟨z2, hz2⟩ : ∃ z, ((⟨xp, xn, (some ⟨go, off + 4, none⟩), (xc - 1), []⟩ : Cur) :: rest)[((⟨xp, xn, (some ⟨go, off + 4, none⟩), (xc - 1), []⟩ : Cur) :: rest).length - 1]? = some z := ⟨_, List.getElem?_eq_getElem (by simp)⟩
                  have hz2H := hid hz2
                  have hkk : Hid (HOk firstB 1 (popL ((⟨xp, xn, (some ⟨go, off + 4, none⟩), (xc - 1), []⟩ : Cur) :: rest) z2)) := hid (show HOk firstB 1 (popL (⟨xp, xn, some ⟨go, off, none⟩, xc, ⟨xk, xs, xd, xv⟩ :: []⟩ :: rest) z2) from popL_ok hhoH.out)
                  clear hz hz2
                  go_wp2_with fail
                  refine (pop_c w.heap.size g cap w _ _ _ z2 rest o6.out hz2H.out hkk.out hcoTH.out (by have := hnlH.out; simp only [List.length_cons] at hcl; omega)).mono ?_
                  rintro e w7 ⟨rfl, cs7, p7, hok7, o7, e7⟩
                  have p7H := hid p7
                  have o7H := hid o7
                  have hok7H := hid hok7
                  clear p7 o7 hok7
                  go_wp2
                  go_roundg (totC (⟨xp, xn, some ⟨go, off, none⟩, xc, ⟨xk, xs, xd, xv⟩ :: []⟩ :: rest))
                  case measure => omega
                  case rel => exact ⟨cs7, out, .slice (some ⟨g, 0, none⟩) cs7.length cap, hst.out.perm p7H.out.symm, hok7H.out, hcoTH.out.perm p7H.out, by have h1 := totC_perm p7H.out; have h2 := htt.out; have h3 := hol.out; omega, by have h1 := totC_perm p7H.out; have h2 := htt.out; omega, by have h1 := p7H.out.length_eq; simp only [List.length_cons] at hcl; omega, o7H.out, (e5.out.set _ _).trans e7⟩
              | cons t1 t2 =>
                have hx1 : ¬ xc = 1 := by have := hntH.out; simp only [List.length_cons] at this; omega
                have hnt2 : ¬ nt = 1 := by have := hntH.out; simp only [List.length_cons] at this; omega
                have hnt3 : ¬ nt - 1 = 0 := by have := hntH.out; simp only [List.length_cons] at this; omega
                have o6 := hid (hp3H.out.setc (some ⟨go, off + 4, none⟩) (xc - 1) (t1 :: t2))
                have hlen1 : (t1 :: t2).length = nt - 1 := by have := hntH.out; omega
                rw [hlen1] at o6
                have hst : Hid (MInv (listsOf rs) (⟨xp, xn, some ⟨go, off + 4, none⟩, xc - 1, t1 :: t2⟩ :: rest) (out)) := hid (by have := hstep.out (some ⟨go, off + 4, none⟩) (xc - 1); rw [hpush.out] at this; simpa [tailC] using this)
                have htt : Hid (totC (⟨xp, xn, some ⟨go, off + 4, none⟩, xc - 1, t1 :: t2⟩ :: rest) + 1 = totC (⟨xp, xn, some ⟨go, off, none⟩, xc, ⟨xk, xs, xd, xv⟩ :: t1 :: t2⟩ :: rest)) := hid (by simp [totC]; omega)
                have hkk : Hid (HOk firstB 1 (⟨xp, xn, some ⟨go, off + 4, none⟩, xc - 1, t1 :: t2⟩ :: rest)) := hid (hhoH.out.tail fun j y hj hy => by cases j with | zero => omega | succ j => simpa using hy)
                have hco2 : Hid (CurOk w (⟨xp, xn, some ⟨go, off + 4, none⟩, xc - 1, t1 :: t2⟩ :: rest)) := hid (fun c hc => by
                  rcases List.mem_cons.1 hc with rfl | hc
                  · exact ⟨rd_tail hrdwH.out, by simp⟩
                  · exact hcoTH.out c hc)
                clear hlen1
                go_wp2_with fail
                refine (down_c w.heap.size g cap 0 0 w _ _ (⟨xp, xn, some ⟨go, off + 4, none⟩, xc - 1, t1 :: t2⟩ :: rest) o6.out hco2.out (HMid.start hkk.out) (Nat.le_refl _) (by simp only [List.length_cons] at hcl ⊢; omega) (Nat.zero_le _)).mono ?_
                rintro e w7 ⟨rfl, cs7, p7, hok7, o7, e7⟩
                have p7H := hid p7
                have o7H := hid o7
                have hok7H := hid hok7
                clear p7 o7 hok7
                go_wp2
                go_roundg (totC (⟨xp, xn, some ⟨go, off, none⟩, xc, ⟨xk, xs, xd, xv⟩ :: t1 :: t2⟩ :: rest))
                case measure => omega
                case rel => exact ⟨cs7, out, .slice (some ⟨g, 0, none⟩) cs7.length cap, hst.out.perm p7H.out.symm, hok7H.out, hco2.out.perm p7H.out, by have h1 := totC_perm p7H.out; have h2 := htt.out; have h3 := hol.out; omega, by have h1 := totC_perm p7H.out; have h2 := htt.out; omega, by have h1 := p7H.out.length_eq; simp only [List.length_cons] at hcl h1; omega, o7H.out, (e5.out.set _ _).trans e7⟩
            · rw [hyb] at hc; cases hc
end Go.Proofs.Ytihbflmjgndfiaa
