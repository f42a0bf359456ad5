/- The walk of the document's Apply. -/
import Derived.Test.YtdmdnhceiddcfaaGreatRlvB
import Derived.Test.YtdmdnhceiddcfaaGreatRlvP
import Derived.Deep.CutBlock
import Derived.Deep.DeepCutAuto
import Derived.Deep.CutRange
set_option linter.all false
namespace Go.Proofs.YtdmdnhceiddcfaaGreat
open Go.RowKit Go.Sl Go.Scree

def rverC (p : Nat) (S : Nat → SlA) (V : VerM) : Chunk := pts p (.cells (verCells S V) 63 (0, 0))
/-- A document's version's own block, beside what its levels lie in. -/
structure RvO (Z : SlA → List MetaM → Prop) (w W0 : World) (p : Nat) (S : Nat → SlA) (V : VerM) (D : List Chunk) : Prop where
  own : Own w (rverC p S V :: (D ++ [base W0 W0.heap.size]))
  rd : ∀ l, l < 4 → Gives (D ++ [base W0 W0.heap.size]) fun w => Rd w metaE (S l).v (V.lv l)
  few : ∀ l, l < 4 → (V.lv l).length ≤ 20000
  ext : Ext W0 w
  old : ∀ l, l < 4 → Gives D (fun w => Rd w metaE (S l).v (V.lv l)) ∨ Z (S l) (V.lv l)
section
variable {Z : SlA → List MetaM → Prop} {w w' W0 : World} {p : Nat} {S : Nat → SlA} {V : VerM} {D : List Chunk}
theorem RvO.base (h : RvO Z w W0 p S V D) : Kp W0 w := kp_of (cs := rverC p S V :: D) h.own h.ext
theorem RvO.rdAt (h : RvO Z w W0 p S V D) {l : Nat} (hl : l < 4) : Rd w metaE (S l).v (V.lv l) :=
  h.rd l hl w [] (by rw [List.append_nil]; exact h.own.drop)
theorem RvO.ver (h : RvO Z w W0 p S V D) : VerR w p S V :=
  ⟨fun l hl => h.own.cell (ver_at S V hl), h.own.cell (i := 4) rfl, h.own.cell (i := 5) rfl, h.own.cell (i := 6) rfl, fun l hl => h.rdAt hl, h.few⟩
theorem RvO.kp (h : RvO Z w W0 p S V D) (k : Kp w w') : RvO Z w' W0 p S V D := ⟨k.own h.own, h.rd, h.few, h.ext.trans k.ext, h.old⟩
theorem RvO.turn (h : RvO Z w W0 p S V D) {w1 : World} {l : Nat} (hl : l < 4) {s : SlA} {xs : List MetaM} (k : Kp w w1) (o : Own w1 [sl 43 metaE s.v xs, Sl.base w w.heap.size]) (hx : xs.length ≤ 20000) :
    RvO Z (w1.setCell ⟨p, l, none⟩ (.slice s.A s.n s.c)) W0 p (upd S l s) { V with lv := upd V.lv l xs } (sl 43 metaE s.v xs :: D) := by
  have o1 := rebase1 o h.own
  have o2 := (o1.swap).set (i := l) (.slice s.A s.n s.c)
  refine ⟨?_, fun i hi => ?_, fun i hi => ?_, (h.ext.trans k.ext).set _ _, fun i hi => ?_⟩
  · unfold rverC
    rw [← ver_set S V (upd V.lv l xs) hl s]
    exact o2
  · by_cases e : i = l
    · subst e
      show Gives _ fun w => Rd w metaE (upd S i s i).v (upd V.lv i xs i)
      rw [upd_at, upd_at]
      exact fun w F o => sl_rd o
    · show Gives _ fun w => Rd w metaE (upd S l s i).v (upd V.lv l xs i)
      rw [upd_ne _ _ e, upd_ne _ _ e]
      exact Gives.more (h.rd i hi) _
  · show (upd V.lv l xs i).length ≤ 20000
    by_cases e : i = l
    · subst e; rw [upd_at]; exact hx
    · rw [upd_ne _ _ e]; exact h.few i hi
  · by_cases e : i = l
    · subst e
      refine .inl ?_
      show Gives _ fun w => Rd w metaE (upd S i s i).v (upd V.lv i xs i)
      rw [upd_at, upd_at]
      exact fun w F o => sl_rd o
    · show Gives _ (fun w => Rd w metaE (upd S l s i).v (upd V.lv l xs i)) ∨ Z (upd S l s i) (upd V.lv l xs i)
      rw [upd_ne _ _ e, upd_ne _ _ e]
      rcases h.old i hi with h | h
      · exact .inl (Gives.more h _)
      · exact .inr h
theorem RvO.cong (h : RvO Z w W0 p S V D) {lv : Lvls} (e : ∀ i, i < 4 → V.lv i = lv i) : RvO Z w W0 p S { V with lv := lv } D :=
  ⟨h.own, fun l hl => by have := h.rd l hl; rwa [e l hl] at this, fun l hl => by have := h.few l hl; rwa [e l hl] at this, h.ext, fun l hl => by have := h.old l hl; rwa [e l hl] at this⟩
end
theorem rd_num_n {w : World} {s : SlA} {xs : List Nat} (h : Rd w u64E s.v xs) : s.n = xs.length := by
  obtain ⟨_, _, hv, _⟩ := h.form
  unfold SlA.v at hv
  simp only [Value.slice.injEq] at hv
  exact hv.2.1
theorem ok_last2 {V : VerM} (hV : VOk V) {l : Nat} (hl : l < 4) : ∀ m ∈ V.lv l, ltK m.last m.first = false := fun m hm => (may_parts (hV.may m (mem_flat.2 ⟨l, hl, hm⟩))).2.2.2.2.1
def okN (N Q : Nat) (m : MetaM) : Bool := decide (m.file < N) && decide (m.seq ≤ Q)
theorem all_of {nw : Lvls} {f : MetaM → Bool} (h : ∀ l, l < 4 → ∀ m ∈ nw l, f m = true) : (flatM nw).all f = true := List.all_eq_true.2 fun m hm => by
  obtain ⟨l, hl, hml⟩ := mem_flat.1 hm
  exact h l hl m hml
theorem all_no {nw : Lvls} {f : MetaM → Bool} {l : Nat} (hl : l < 4) {m : MetaM} (hm : m ∈ nw l) (h : f m = false) : (flatM nw).all f = false := by
  cases hb : (flatM nw).all f with
  | false => rfl
  | true => have := List.all_eq_true.1 hb m (mem_flat.2 ⟨l, hl, hm⟩); rw [h] at this; cases this
theorem RvO.setNext {Z : SlA → List MetaM → Prop} {w W0 : World} {p : Nat} {S : Nat → SlA} {V : VerM} {D : List Chunk} (h : RvO Z w W0 p S V D) (n : Nat) : RvO Z (w.setCell ⟨p, 4, none⟩ (.int .u64 n)) W0 p S { V with next := n } D := ⟨h.own.set _, h.rd, h.few, h.ext.set _ _, h.old⟩
theorem RvO.setLog {Z : SlA → List MetaM → Prop} {w W0 : World} {p : Nat} {S : Nat → SlA} {V : VerM} {D : List Chunk} (h : RvO Z w W0 p S V D) (n : Nat) : RvO Z (w.setCell ⟨p, 5, none⟩ (.int .u64 n)) W0 p S { V with log := n } D := ⟨h.own.set _, h.rd, h.few, h.ext.set _ _, h.old⟩
theorem RvO.setSeq {Z : SlA → List MetaM → Prop} {w W0 : World} {p : Nat} {S : Nat → SlA} {V : VerM} {D : List Chunk} (h : RvO Z w W0 p S V D) (n : Nat) : RvO Z (w.setCell ⟨p, 6, none⟩ (.int .u64 n)) W0 p S { V with seq := n } D := ⟨h.own.set _, h.rd, h.few, h.ext.set _ _, h.old⟩
theorem num_ways (n v : Nat) : (((n : Int) != 0) = true ∧ decide (n < v) = true ∧ (decide (n ≠ 0) && decide (n < v)) = true) ∨ (((n : Int) != 0) = false ∧ (decide (n ≠ 0) && decide (n < v)) = false) ∨ (((n : Int) != 0) = true ∧ decide (n < v) = false ∧ (decide (n ≠ 0) && decide (n < v)) = false) := by
  by_cases h : n = 0
  · right; left; subst h; exact ⟨rfl, by simp⟩
  · have h1 : ((n : Int) != 0) = true := by rw [bne_iff_ne]; omega
    by_cases k : n < v
    · exact .inl ⟨h1, decide_eq_true k, by simp [h, k]⟩
    · exact .inr (.inr ⟨h1, decide_eq_false k, by simp [k]⟩)
theorem big_ways (n : Nat) : (decide ((n : Int) > 1099511627776) = true ∧ decide (1099511627776 < n) = true) ∨ (decide ((n : Int) > 1099511627776) = false ∧ decide (1099511627776 < n) = false) := by
  by_cases h : 1099511627776 < n
  · exact .inl ⟨decide_eq_true (by omega), decide_eq_true h⟩
  · exact .inr ⟨decide_eq_false (by omega), decide_eq_false h⟩
theorem allB_of {nw : Lvls} (h : ∀ l, l < 4 → ∀ m ∈ nw l, mayB m = true) : allB nw = true := List.all_eq_true.2 fun m hm => by
  obtain ⟨l, hl, hml⟩ := mem_flat.1 hm
  exact h l hl m hml
theorem allB_no {nw : Lvls} {l : Nat} (hl : l < 4) {m : MetaM} (hm : m ∈ nw l) (h : mayB m = false) : allB nw = false := by
  cases hb : allB nw with
  | false => rfl
  | true => have := List.all_eq_true.1 hb m (mem_flat.2 ⟨l, hl, hm⟩); rw [h] at this; cases this
/-- What the document's Apply tells: where its levels lie, too. -/
def RApplyO (Z : SlA → List MetaM → Prop) (w w' : World) (e : Ending) (r : VerM ⊕ Int) : Prop := Kp w w' ∧ match r with
  | .inr c => e = .returned (.tuple #[.pointer none, .int .i64 c])
  | .inl W => ∃ p S D w0, e = .returned (.tuple #[.pointer (some ⟨p, 0, none⟩), .int .i64 0]) ∧ Kp w w0 ∧ RvO Z w' w0 p S W D
/-- What of a body lies behind so many statements. -/
def tailAt : Nat → Code → Code
  | 0, c => c
  | n + 1, .seq _ b => tailAt n b
  | _, c => c
theorem wp_code_eq {P : Program} {C C' : Code} {Q : Exit → Act → World → Prop} {a : Act} {w : World} (e : C' = C) (h : C'.wp P Q a w) : C.wp P Q a w := e ▸ h
/- The document's Apply: from the look at the numbers of what is new on. -/
set_option maxRecDepth 20000 in
set_option maxHeartbeats 12800000 in
theorem rapply_b9 (Z : SlA → List MetaM → Prop) (pv : Nat) (S : Nat → SlA) (V : VerM) (g : SlA) (SE : Nat → SlA) (E : EditM) (w w0 : World) (res : VerM ⊕ Int) (eb p : Nat) (wc : World) (S3 : Nat → SlA) (lv : Lvls) (D3 : List Chunk) {v1 v2 v4 v5 v6 v7 v9 v10 v11 v12 v13 v14 v15 v16 v17 v18 v19 v20 v21 v22 v23 v24 v25 v26 v27 v28 v29 v30 v31 v32 v33 v34 v35 v36 v37 v38 v39 v40 v41 v42 v43 v44 v45 v46 v47 v48 v49 v50 v51 v52 v53 v54 v55 v56 v57 v58 v59 v60 v61 v62 v63 v64 v65 v66 v67 v68 v69 v70 v71 v72 v73 v74 v75 v76 v77 v78 v79 v80 v81 v82 v83 v84 v85 v86 v87 v88 v89 v90 v91 v92 v93 v94 v95 v96 v97 v98 v99 v100 v101 v102 v103 v104 v105 v106 v107 v108 v109 v110 v111 v112 v113 v114 v115 v116 v117 v118 v119 v120 v121 v122 v123 v124 v125 v126 v127 v128 v129 v130 v131 v132 v133 v134 v135 v136 v137 v138 v139 v140 v141 v142 v143 v144 v145 v146 v147 v148 v149 v150 v151 v152 v153 v154 v155 v156 v157 v158 v159 v160 v161 v162 v163 v164 v165 v166 v167 v168 v169 v170 v171 v172 v173 v174 v175 v176 v177 v178 v179 v180 v181 v182 v183 v184 v185 v186 v187 v188 v189 v190 v191 v192 v193 v194 v195 v196 v197 v198 v199 v200 v201 v202 v203 v204 v205 v206 v207 v208 v209 v210 v211 v212 v213 v214 v215 v216 v217 v218 v219 v220 v221 v222 v223 v224 v225 v226 v227 v228 v229 v230 v231 v232 v233 v234 v235 v236 v237 v238 v239 v240 v241 v242 v243 v244 v245 v246 v247 v248 v249 v250 v251 v252 v253 v254 v255 v256 v257 v258 v259 v260 v261 v262 v263 v264 v265 v266 v267 v268 v269 v270 v271 v272 v273 v274 v275 v276 v277 v278 v279 v280 v281 v282 v283 v284 v285 v286 v287 v288 v289 v290 v291 v292 v293 v294 v295 v296 v297 v298 v299 v300 v301 v302 v303 v304 v305 v306 v307 v308 v309 v310 v311 v312 v313 v314 v315 v316 v317 v318 v319 v320 v321 v322 v323 v324 v325 v326 v327 v328 v329 v330 v331 v332 v333 v334 v335 v336 v337 v338 v339 v340 v341 v342 v343 v344 v345 v346 v347 v348 v349 v350 v351 v352 : Value}
    (hHH : Hid (VerR w pv S V)) (hVH : Hid (VOk V)) (hEH : Hid (EditR w g SE E)) (hglH : Hid (E.gone.length ≤ 100000)) (k0 : Hid (Kp w w0)) (eH : Hid (w0.cell? ⟨eb, 0, none⟩ = some (.slice g.A E.gone.length g.c) ∧ w0.cell? ⟨eb, 5, none⟩ = some (.int .u64 E.next) ∧ w0.cell? ⟨eb, 6, none⟩ = some (.int .u64 E.log) ∧ w0.cell? ⟨eb, 7, none⟩ = some (.int .u64 E.seq))) (elH : Hid (∀ l, l < 4 → w0.cell? ⟨eb, 1 + l, none⟩ = some (.slice (SE l).A (E.nw l).length (SE l).c))) (hallH : Hid (allB E.nw = true)) (hres : Hid (applyP V E = res)) (hgoH : Hid (goneP E.gone V.lv = some lv)) (htwH : Hid (twiceB (filesM lv) (filesM E.nw) = false)) (hnumH : Hid ((numOk E.next V.next && numOk E.log V.log && numOk E.seq V.seq) = true)) (hvH : Hid (RvO Z wc w0 p S3 { V with lv := comeP lv E.nw, next := told E.next V.next, log := told E.log V.log, seq := told E.seq V.seq } D3)) :
    Code.wp Tryz.prog (tailAt 9 (Tryz.f10.body.getD .skip)) (bodyPost Tryz.prog Tryz.f10 fun e w' => RApplyO Z w w' e res) ⟨#[.pointer (some ⟨pv, 0, none⟩), v1, v2, .pointer (some ⟨eb, 0, none⟩), v4, v5, v6, v7, .pointer (some ⟨p, 0, none⟩), v9, v10, v11, v12, v13, v14, v15, v16, v17, v18, v19, v20, v21, v22, v23, v24, v25, v26, v27, v28, v29, v30, v31, v32, v33, v34, v35, v36, v37, v38, v39, v40, v41, v42, v43, v44, v45, v46, v47, v48, v49, v50, v51, v52, v53, v54, v55, v56, v57, v58, v59, v60, v61, v62, v63, v64, v65, v66, v67, v68, v69, v70, v71, v72, v73, v74, v75, v76, v77, v78, v79, v80, v81, v82, v83, v84, v85, v86, v87, v88, v89, v90, v91, v92, v93, v94, v95, v96, v97, v98, v99, v100, v101, v102, v103, v104, v105, v106, v107, v108, v109, v110, v111, v112, v113, v114, v115, v116, v117, v118, v119, v120, v121, v122, v123, v124, v125, v126, v127, v128, v129, v130, v131, v132, v133, v134, v135, v136, v137, v138, v139, v140, v141, v142, v143, v144, v145, v146, v147, v148, v149, v150, v151, v152, v153, v154, v155, v156, v157, v158, v159, v160, v161, v162, v163, v164, v165, v166, v167, v168, v169, v170, v171, v172, v173, v174, v175, v176, v177, v178, v179, v180, v181, v182, v183, v184, v185, v186, v187, v188, v189, v190, v191, v192, v193, v194, v195, v196, v197, v198, v199, v200, v201, v202, v203, v204, v205, v206, v207, v208, v209, v210, v211, v212, v213, v214, v215, v216, v217, v218, v219, v220, v221, v222, v223, v224, v225, v226, v227, v228, v229, v230, v231, v232, v233, v234, v235, v236, v237, v238, v239, v240, v241, v242, v243, v244, v245, v246, v247, v248, v249, v250, v251, v252, v253, v254, v255, v256, v257, v258, v259, v260, v261, v262, v263, v264, v265, v266, v267, v268, v269, v270, v271, v272, v273, v274, v275, v276, v277, v278, v279, v280, v281, v282, v283, v284, v285, v286, v287, v288, v289, v290, v291, v292, v293, v294, v295, v296, v297, v298, v299, v300, v301, v302, v303, v304, v305, v306, v307, v308, v309, v310, v311, v312, v313, v314, v315, v316, v317, v318, v319, v320, v321, v322, v323, v324, v325, v326, v327, v328, v329, v330, v331, v332, v333, v334, v335, v336, v337, v338, v339, v340, v341, v342, v343, v344, v345, v346, v347, v348, v349, v350, v351, v352], []⟩ wc := by
    conv => arg 2; whnf
    have r5 := hid (fun lv : Lvls => @apply_below V E lv)
    rw [hres.out] at r5
    have r6 := hid (fun lv : Lvls => @apply_shape V E lv)
    rw [hres.out] at r6
    go_upto_block 14 with fail
    go_cut [15, 16] from 249 to 289 (fun _ _ wx => ((flatM E.nw).all (okN (told E.next V.next) (told E.seq V.seq))) = true ∧ RvO Z wx w0 p S3 { V with lv := comeP lv E.nw, next := told E.next V.next, log := told E.log V.log, seq := told E.seq V.seq } D3)
    case first =>
      go_wp2_with fail
      go_loopw [4, 5, 15] (fun _ _ i wr => ∃ k : Nat, i = .int .i64 k ∧ k ≤ 4 ∧ RvO Z wr w0 p S3 { V with lv := comeP lv E.nw, next := told E.next V.next, log := told E.log V.log, seq := told E.seq V.seq } D3 ∧ ∀ l, l < k → ∀ m ∈ E.nw l, okN (told E.next V.next) (told E.seq V.seq) m = true) (fun _ _ i _ => 4 - (intOf i).toNat)
      case atStart => exact ⟨0, rfl, by omega, hvH.out, fun l hl => by omega⟩
      case round =>
        clear hvH
        obtain ⟨k, rfl, hk, hv, hp⟩ := hrel
        have hvH := hid hv
        have hpH := hid hp
        clear hv hp
        by_cases hlt : k < 4
        · have hlt' : (k : Int) < 4 := by omega
          have el := hvH.out.base.cell (elH.out k hlt)
          have hfew := hEH.out.few k hlt
          have hst : Hid ((∀ m ∈ E.nw k, okN (told E.next V.next) (told E.seq V.seq) m = true) → ∀ l, l < k + 1 → ∀ m ∈ E.nw l, okN (told E.next V.next) (told E.seq V.seq) m = true) := hid (fun h l hl => by
            rcases (by omega : l < k ∨ l = k) with e | rfl
            · exact hpH.out l e
            · exact h)
          have hno := hid (fun m hm => @all_no E.nw (okN (told E.next V.next) (told E.seq V.seq)) k hlt m hm)
          have hrd0 := hid (k0.out.rd (hEH.out.nw k hlt))
          unfold SlA.v at hrd0
          rw [rd_n (s := ⟨(SE k).A, (SE k).n, (SE k).c⟩) hrd0.out] at hrd0
          have hr5 : Hid ((flatM E.nw).all (okN (told E.next V.next) (told E.seq V.seq)) = false → res = .inr 3) := hid (fun h => r5.out lv hallH.out hgoH.out htwH.out hnumH.out h)
          generalize E.nw k = ys at *
          generalize hA : SE k = sA at *
          have hAH := hid hA
          clear hA
          have hy63 : ys.length ≤ 9223372036854775807 := by omega
          go_wp2_with fail
          go_loopw [4, 5, 16] (fun _ _ i wr => ∃ j : Nat, i = .int .i64 j ∧ j ≤ ys.length ∧ RvO Z wr w0 p S3 { V with lv := comeP lv E.nw, next := told E.next V.next, log := told E.log V.log, seq := told E.seq V.seq } D3 ∧ wr.cell? ⟨eb, 1 + k, none⟩ = some (.slice sA.A ys.length sA.c) ∧ ∀ m ∈ ys.take j, okN (told E.next V.next) (told E.seq V.seq) m = true) (fun _ _ i _ => ys.length - (intOf i).toNat)
          case atStart => exact ⟨0, rfl, Nat.zero_le _, hvH.out, el, by simp⟩
          case round =>
            clear el hvH
            obtain ⟨j, rfl, hj, hv, el, hq⟩ := hrel
            have hvH := hid hv
            have hqH := hid hq
            clear hv hq
            have c4 := hvH.out.ver.next
            have c6 := hvH.out.ver.seq
            dsimp only at c4 c6
            by_cases hjl : j < ys.length
            · have hx : ys[j]? = some ys[j] := List.getElem?_eq_getElem hjl
              obtain ⟨gq, offq, hAq, _, d0, d1, d2, d3, d4⟩ := rd_meta (hvH.out.base.rd hrd0.out) rfl hx
              have hjl' : (j : Int) < (ys.length : Int) := by omega
              have hxm := hid (List.mem_of_getElem? hx)
              have htk := hid (List.take_succ_eq_append_getElem hjl)
              generalize ys[j] = x at *
              clear hx
              have elH2 := hid el
              rw [hAq] at el
              generalize told E.next V.next = NN at *
              generalize told E.seq V.seq = QQ at *
              by_cases h1 : x.file < NN
              · have z1 : decide ((x.file : Int) ≥ (NN : Int)) = false := decide_eq_false (by omega)
                have z1' : decide (NN ≤ x.file) = false := decide_eq_false (by omega)
                by_cases h2 : x.seq ≤ QQ
                · have z2 : decide ((x.seq : Int) > (QQ : Int)) = false := decide_eq_false (by omega)
                  have z2' : decide (QQ < x.seq) = false := decide_eq_false (by omega)
                  have hmH : Hid (okN NN QQ x = true) := hid (by unfold okN; rw [decide_eq_true h1, decide_eq_true h2]; rfl)
                  clear h1 h2
                  go_wp2_with fail
                  go_quiet (fail)
                  go_wp2_with fail
                  go_roundw
                  case rel =>
                    refine ⟨j + 1, by go_num, by omega, hvH.out.kp ((Kp.refl _).drewN _), ((Kp.refl _).drewN _).cell elH2.out, fun y hy => ?_⟩
                    rw [htk.out] at hy
                    rcases List.mem_append.1 hy with h | h
                    · exact hqH.out y h
                    · obtain rfl := List.mem_singleton.1 h; exact hmH.out
                  case measure => simp [intOf]; omega
                · have z2 : decide ((x.seq : Int) > (QQ : Int)) = true := decide_eq_true (by omega)
                  have z2' : decide (QQ < x.seq) = true := decide_eq_true (by omega)
                  have hr : Hid (res = .inr 3) := hid (hr5.out (hno.out x hxm.out (by unfold okN; rw [decide_eq_false h2, Bool.and_false])))
                  clear h1 h2
                  go_wp2_with fail
                  go_quiet (fail)
                  go_wp2_with fail
                  go_ret2
                  exact ⟨k0.out.trans (hvH.out.base.trans ((Kp.refl _).drewN _)), by rw [hr.out]; rfl⟩
              · have z1 : decide ((x.file : Int) ≥ (NN : Int)) = true := decide_eq_true (by omega)
                have z1' : decide (NN ≤ x.file) = true := decide_eq_true (by omega)
                have hr : Hid (res = .inr 3) := hid (hr5.out (hno.out x hxm.out (by unfold okN; rw [decide_eq_false h1, Bool.false_and])))
                clear h1
                go_wp2_with fail
                go_quiet (fail)
                go_wp2_with fail
                go_ret2
                exact ⟨k0.out.trans (hvH.out.base.trans ((Kp.refl _).drewN _)), by rw [hr.out]; rfl⟩
            · have hdone := hid (hst.out (fun x hx => hqH.out x (by rw [List.take_of_length_le (by omega)]; exact hx)))
              have dj : decide (j < ys.length) = false := decide_eq_false hjl
              clear hjl
              go_wp2_with fail
              go_roundw
              case rel => exact ⟨k + 1, by go_num, by omega, hvH.out, hdone.out⟩
              case measure => simp [intOf]; omega
        · obtain rfl : k = 4 := by omega
          have hall2 := hid (all_of hpH.out)
          go_wp2_with fail
          go_meet
          case rel => exact ⟨hall2.out, hvH.out⟩
    case rest =>
    obtain ⟨hbe, hv⟩ := hcut
    clear hvH
    have hvH := hid hv
    have hr6 : Hid (res = if shapeE (comeP lv E.nw) = 0 then .inl ⟨comeP lv E.nw, told E.next V.next, told E.log V.log, told E.seq V.seq⟩ else .inr (shapeE (comeP lv E.nw))) := hid (r6.out lv hallH.out hgoH.out htwH.out hnumH.out hbe)
    clear hv hbe
    have hup : Hid (∀ l, 1 ≤ l → l < 4 → (comeP lv E.nw l).Pairwise UpF) := hid (fun l h1 h4 => came_up hVH.out (gone_part hgoH.out) h1 h4)
    have hml : Hid (∀ l, l < 4 → ∀ m ∈ comeP lv E.nw l, ltK m.last m.first = false) := hid (fun l hl m hm => by
      have h1 := (come_perm lv E.nw l).mem_iff.1 hm
      rcases List.mem_append.1 h1 with h | h
      · exact ok_last2 hVH.out hl m ((gone_part hgoH.out l).subset h)
      · exact (may_parts (List.all_eq_true.1 hallH.out m (mem_flat.2 ⟨l, hl, h⟩))).2.2.2.2.1)
    have hfs : Hid (∀ k, k < 4 → 30 < (comeP lv E.nw k).length → shapeE (comeP lv E.nw) = 4) := hid (fun k hk h => few_split hk h)
    have hcvl : Hid (∀ k, k < 4 → (comeP lv E.nw k).length ≤ 20000) := hid (fun k hk => hvH.out.few k hk)
    generalize comeP lv E.nw = cv at *
    generalize told E.next V.next = NN at *
    generalize told E.log V.log = LL at *
    generalize told E.seq V.seq = QQ at *
    clear r5 r6
    go_upto_block 18 with fail
    go_cut [17] from 290 to 301 (fun _ wx => fewB cv = true ∧ RvO Z wx w0 p S3 { V with lv := cv, next := NN, log := LL, seq := QQ } D3)
    case first =>
      go_wp2_with fail
      go_loopw [4, 5, 17] (fun _ _ i wr => ∃ k : Nat, i = .int .i64 k ∧ k ≤ 4 ∧ RvO Z wr w0 p S3 { V with lv := cv, next := NN, log := LL, seq := QQ } D3 ∧ ∀ l, l < k → (cv l).length ≤ 30) (fun _ _ i _ => 4 - (intOf i).toNat)
      case atStart => exact ⟨0, rfl, by omega, hvH.out, fun l hl => by omega⟩
      case round =>
        clear hvH
        obtain ⟨k, rfl, hk, hv, hp⟩ := hrel
        have hvH := hid hv
        have hpH := hid hp
        clear hv hp
        by_cases hlt : k < 4
        · have hlt' : (k : Int) < 4 := by omega
          have cl := hvH.out.ver.lvl k hlt
          have hrw := hid (hvH.out.rdAt hlt)
          dsimp only at hrw
          rw [rd_n hrw.out] at cl
          by_cases h30 : (cv k).length ≤ 30
          · have z : decide (((cv k).length : Int) > 30) = false := decide_eq_false (by omega)
            have z' : decide (30 < (cv k).length) = false := decide_eq_false (by omega)
            have hst : Hid (∀ l, l < k + 1 → (cv l).length ≤ 30) := hid (fun l hl => by
              rcases (by omega : l < k ∨ l = k) with e | rfl
              · exact hpH.out l e
              · exact h30)
            clear h30 hrw
            go_wp2_with fail
            go_roundw
            case rel => exact ⟨k + 1, by go_num, by omega, hvH.out, hst.out⟩
            case measure => simp [intOf]; omega
          · have z : decide (((cv k).length : Int) > 30) = true := decide_eq_true (by omega)
            have z' : decide (30 < (cv k).length) = true := decide_eq_true (by omega)
            have hr : Hid (res = .inr 4) := hid (by rw [hr6.out, hfs.out k hlt (by omega)]; rfl)
            clear h30 hrw
            go_wp2_with fail
            go_ret2
            exact ⟨k0.out.trans hvH.out.base, by rw [hr.out]; rfl⟩
        · obtain rfl : k = 4 := by omega
          have hf : Hid (fewB cv = true) := hid (by
            unfold fewB
            rw [List.all_eq_true]
            intro l hl
            exact decide_eq_true (hpH.out l (by simp [four] at hl; omega)))
          go_wp2_with fail
          go_meet
          case rel => exact ⟨hf.out, hvH.out⟩
    case rest =>
    obtain ⟨hfew, hv⟩ := hcut
    clear hvH
    have hvH := hid hv
    have hr7 : Hid (res = if shapeB cv = false then .inr 1 else .inl ⟨cv, NN, LL, QQ⟩) := hid (by
      rw [hr6.out]
      unfold shapeE
      rw [hfew]
      cases shapeB cv <;> rfl)
    clear hv hfew hr6
    go_upto_block 20 with fail
    go_cut [18, 19, 20] from 302 to 351 (fun _ _ _ wx => shapeB cv = true ∧ RvO Z wx w0 p S3 { V with lv := cv, next := NN, log := LL, seq := QQ } D3)
    case first =>
      go_wp2_with fail
      go_loopw [4, 5, 18] (fun _ _ i wr => ∃ k : Nat, i = .int .i64 k ∧ 1 ≤ k ∧ k ≤ 4 ∧ RvO Z wr w0 p S3 { V with lv := cv, next := NN, log := LL, seq := QQ } D3 ∧ ∀ l, 1 ≤ l → l < k → adjB (cv l) = true) (fun _ _ i _ => 4 - (intOf i).toNat)
      case atStart => exact ⟨1, rfl, by omega, by omega, hvH.out, fun l hl => by omega⟩
      case round =>
        clear hvH
        obtain ⟨k, rfl, hk1, hk, hv, hp⟩ := hrel
        have hvH := hid hv
        have hpH := hid hp
        clear hv hp
        by_cases hlt : k < 4
        · have hlt' : (k : Int) < 4 := by omega
          have hst : Hid (adjB (cv k) = true → ∀ l, 1 ≤ l → l < k + 1 → adjB (cv l) = true) := hid (fun h l h1 hl => by
            rcases (by omega : l < k ∨ l = k) with e | rfl
            · exact hpH.out l h1 e
            · exact h)
          have hu := hid (hup.out k hk1 hlt)
          have hm := hid (hml.out k hlt)
          have hsb : Hid (adjB (cv k) = false → shapeB cv = false) := hid (fun h => by
            unfold shapeB
            cases hs : ([1, 2, 3].all fun l => adjB (cv l)) with
            | false => rfl
            | true =>
              have := List.all_eq_true.1 hs k (by simp; omega)
              rw [h] at this; cases this)
          have cl := hvH.out.ver.lvl k hlt
          have hrw := hid (hvH.out.rdAt hlt)
          have hcl := hcvl.out k hlt
          dsimp only at hrw
          rw [rd_n hrw.out] at cl
          unfold SlA.v at hrw
          rw [rd_n (s := ⟨(S3 k).A, (S3 k).n, (S3 k).c⟩) hrw.out] at hrw
          generalize hys : cv k = ys at hst hu hm hsb cl hrw hcl
          obtain ⟨sA, hsA⟩ : ∃ sA, sA = S3 k := ⟨_, rfl⟩
          rw [← hsA] at cl hrw
          clear hsA
          have hysH := hid hys
          clear hys
          have hy63 : ys.length ≤ 9223372036854775807 := by omega
          have kb := hid (Kp.refl wr)
          obtain ⟨wk, hwk⟩ : ∃ x : World, x = wr := ⟨_, rfl⟩
          subst hwk
          have clH := hid cl
          clear cl
          go_wp2_with fail
          go_loopw [4, 5, 19] (fun _ _ i wz => ∃ i' : Nat, i = .int .i64 i' ∧ i' ≤ ys.length ∧ Kp wk wz ∧ ∀ (a b : Nat) (x y : MetaM), a < i' → b < a → ys[a]? = some x → ys[b]? = some y → ltK y.last x.first = true) (fun _ _ i _ => ys.length - (intOf i).toNat)
          case atStart => exact ⟨0, rfl, Nat.zero_le _, kb.out, fun a b x y h => by omega⟩
          case round =>
            clear kb
            obtain ⟨i', rfl, hi, kz, hq⟩ := hrel
            have kzH := hid kz
            have hqH := hid hq
            clear kz hq
            have cl := kzH.out.cell clH.out
            by_cases hil : i' < ys.length
            · have hil' : (i' : Int) < (ys.length : Int) := by omega
              obtain ⟨x, hx⟩ : ∃ x, ys[i']? = some x := ⟨_, List.getElem?_eq_getElem hil⟩
              have hxH := hid hx
              have hst2 : Hid ((∀ b y, b < i' → ys[b]? = some y → ltK y.last x.first = true) → ∀ (a b : Nat) (x y : MetaM), a < i' + 1 → b < a → ys[a]? = some x → ys[b]? = some y → ltK y.last x.first = true) := hid (fun h a b x2 y2 ha hb h1 h2 => by
                rcases (by omega : a < i' ∨ a = i') with e | rfl
                · exact hqH.out a b x2 y2 e hb h1 h2
                · rw [hx] at h1
                  obtain rfl := Option.some.inj h1
                  exact h b y2 hb h2)
              clear hx
              go_wp2_with fail
              go_loopw [4, 5, 20] (fun _ _ i wz => ∃ j : Nat, i = .int .i64 j ∧ j ≤ i' ∧ Kp wk wz ∧ ∀ b y, b < j → ys[b]? = some y → ltK y.last x.first = true) (fun _ _ i _ => i' - (intOf i).toNat)
              case atStart => exact ⟨0, rfl, Nat.zero_le _, kzH.out, fun b y h => by omega⟩
              case round =>
                clear kzH cl
                obtain ⟨j, rfl, hj, kz, hq2⟩ := hrel
                have kzH := hid kz
                have hq2H := hid hq2
                clear kz hq2
                obtain ⟨wz, hwz⟩ : ∃ x : World, x = wr := ⟨_, rfl⟩
                subst hwz
                have cl := kzH.out.cell clH.out
                by_cases hjl : j < i'
                · have hjl' : (j : Int) < (i' : Int) := by omega
                  have hjy : (j : Int) < (ys.length : Int) := by omega
                  obtain ⟨y, hy⟩ : ∃ y, ys[j]? = some y := ⟨_, List.getElem?_eq_getElem (by omega)⟩
                  obtain ⟨gq, offq, hAq, _, d0, d1, d2, d3, d4⟩ := rd_meta (kzH.out.rd hrw.out) rfl hxH.out
                  obtain ⟨gq2, offq2, hAq2, _, f0, f1, f2, f3, f4⟩ := rd_meta (kzH.out.rd hrw.out) rfl hy
                  rw [hAq] at hAq2
                  simp only [Option.some.injEq, Addr.mk.injEq, and_true] at hAq2
                  obtain ⟨rfl, rfl⟩ := hAq2
                  rw [hAq] at cl
                  clear hAq
                  have hyH := hid hy
                  have clu := fun u : KpW wz => u.kp.cell cl
                  have d0u := fun u : KpW wz => u.kp.cell d0
                  have d1u := fun u : KpW wz => u.kp.cell d1
                  have d2u := fun u : KpW wz => u.kp.cell d2
                  have d3u := fun u : KpW wz => u.kp.cell d3
                  have d4u := fun u : KpW wz => u.kp.cell d4
                  have f2u := fun u : KpW wz => u.kp.cell f2
                  have f3u := fun u : KpW wz => u.kp.cell f3
                  have hmt := hid (fun w => rmeets_c x y.first y.last w)
                  have hmb : Hid (meetB y.first y.last x = !ltK y.last x.first) := hid (by
                    have h1 : ltK x.first y.first = false := by
                      obtain ⟨ha, ea⟩ := List.getElem?_eq_some_iff.1 hxH.out
                      obtain ⟨hb, eb⟩ := List.getElem?_eq_some_iff.1 hy
                      have := List.pairwise_iff_getElem.1 hu.out j i' hb ha hjl
                      rw [ea, eb] at this
                      exact this
                    have h2 : ltK x.last x.first = false := hm.out x (List.mem_of_getElem? hxH.out)
                    unfold meetB
                    rw [nlt_trans h1 h2]; rfl)
                  unfold metaV at hmt
                  rw [hmb.out] at hmt
                  clear hy hmb d0 d1 d2 d3 d4 f0 f1 f2 f3 f4
                  have hlw := bool_cases (ltK y.last x.first)
                  have hadj : Hid (ltK y.last x.first = false → adjB ys = false) := hid (fun h => by
                    cases hs : adjB ys with
                    | false => rfl
                    | true =>
                      have hpw := adj_pair hs hm.out
                      obtain ⟨ha, ea⟩ := List.getElem?_eq_some_iff.1 hxH.out
                      obtain ⟨hb, eb⟩ := List.getElem?_eq_some_iff.1 hyH.out
                      have := List.pairwise_iff_getElem.1 hpw j i' hb ha hjl
                      rw [ea, eb, h] at this
                      cases this)
                  rcases hlw with hb | hb
                  · rw [hb, Bool.not_true] at hmt
                    have hbH := hid hb
                    clear hb
                    go_wp2_with fail
                    refine wp_region_kp (by kernel_rfl) (by kernel_rfl) ?_
                    repeat (go_big_quiet_step ((go_at_call 29; exact kpw_of _ (hmt.out _))))
                    refine wpQuiet_nil ?_
                    intro _ hw'
                    obtain ⟨⟨w7, k7⟩, rfl⟩ := hw'
                    have k7H := hid (kzH.out.trans k7)
                    clear k7 cl clu d0u d1u d2u d3u d4u f2u f3u
                    go_wp2_with fail
                    go_roundw
                    case rel =>
                      refine ⟨j + 1, by go_num, by omega, k7H.out, fun b z hb hz => ?_⟩
                      rcases (by omega : b < j ∨ b = j) with e | rfl
                      · exact hq2H.out b z e hz
                      · rw [hyH.out] at hz
                        obtain rfl := Option.some.inj hz
                        exact hbH.out
                    case measure => simp [intOf]; omega
                  · rw [hb, Bool.not_false] at hmt
                    have hr : Hid (res = .inr 1) := hid (by rw [hr7.out, if_pos (hsb.out (hadj.out hb))])
                    clear hb
                    go_wp2_with fail
                    refine wp_region_kp (by kernel_rfl) (by kernel_rfl) ?_
                    repeat (go_big_quiet_step ((go_at_call 29; exact kpw_of _ (hmt.out _))))
                    refine wpQuiet_nil ?_
                    intro _ hw'
                    obtain ⟨⟨w7, k7⟩, rfl⟩ := hw'
                    have k7H := hid (kzH.out.trans k7)
                    clear k7 cl clu d0u d1u d2u d3u d4u f2u f3u
                    go_wp2_with fail
                    go_ret2
                    exact ⟨k0.out.trans (hvH.out.base.trans k7H.out), by rw [hr.out]; rfl⟩
                · obtain rfl : j = i' := by omega
                  have hq3 := hid (hst2.out hq2H.out)
                  clear hjl
                  go_wp2_with fail
                  go_roundw
                  case rel => exact ⟨j + 1, by go_num, by omega, kzH.out, hq3.out⟩
                  case measure => simp [intOf]; omega
            · obtain rfl : i' = ys.length := by omega
              have hadj : Hid (adjB ys = true) := hid (pair_adj (List.pairwise_iff_getElem.2 fun b a hb ha hba => hqH.out a b _ _ ha hba (List.getElem?_eq_getElem ha) (List.getElem?_eq_getElem hb)))
              have hq3 := hid (hst.out hadj.out)
              have hvz := hid (hvH.out.kp kzH.out)
              go_wp2_with fail
              go_roundw
              case rel => exact ⟨k + 1, by go_num, by omega, by omega, hvz.out, hq3.out⟩
              case measure => simp [intOf]; omega
        · obtain rfl : k = 4 := by omega
          have hs : Hid (shapeB cv = true) := hid (by
            unfold shapeB
            rw [List.all_eq_true]
            intro l hl
            exact hpH.out l (by simp at hl; omega) (by simp at hl; omega))
          go_wp2_with fail
          go_meet
          case rel => exact ⟨hs.out, hvH.out⟩
    case rest =>
    obtain ⟨hsh, hv⟩ := hcut
    clear hvH
    have hvH := hid hv
    have hr : Hid (res = .inl ⟨cv, NN, LL, QQ⟩) := hid (by rw [hr7.out, hsh, if_neg (by simp)])
    clear hv hsh
    go_wp2_with fail
    go_ret2
    exact ⟨k0.out.trans hvH.out.base, by rw [hr.out]; exact ⟨p, S3, D3, w0, rfl, k0.out, hvH.out⟩⟩
/- The document's Apply: from the numbers on. -/
set_option maxRecDepth 20000 in
set_option maxHeartbeats 12800000 in
theorem rapply_b5 (Z : SlA → List MetaM → Prop) (pv : Nat) (S : Nat → SlA) (V : VerM) (g : SlA) (SE : Nat → SlA) (E : EditM) (w w0 : World) (res : VerM ⊕ Int) (eb p : Nat) (wc : World) (S3 : Nat → SlA) (lv : Lvls) (D3 : List Chunk) {v1 v2 v4 v5 v6 v7 v9 v10 v11 v12 v13 v14 v15 v16 v17 v18 v19 v20 v21 v22 v23 v24 v25 v26 v27 v28 v29 v30 v31 v32 v33 v34 v35 v36 v37 v38 v39 v40 v41 v42 v43 v44 v45 v46 v47 v48 v49 v50 v51 v52 v53 v54 v55 v56 v57 v58 v59 v60 v61 v62 v63 v64 v65 v66 v67 v68 v69 v70 v71 v72 v73 v74 v75 v76 v77 v78 v79 v80 v81 v82 v83 v84 v85 v86 v87 v88 v89 v90 v91 v92 v93 v94 v95 v96 v97 v98 v99 v100 v101 v102 v103 v104 v105 v106 v107 v108 v109 v110 v111 v112 v113 v114 v115 v116 v117 v118 v119 v120 v121 v122 v123 v124 v125 v126 v127 v128 v129 v130 v131 v132 v133 v134 v135 v136 v137 v138 v139 v140 v141 v142 v143 v144 v145 v146 v147 v148 v149 v150 v151 v152 v153 v154 v155 v156 v157 v158 v159 v160 v161 v162 v163 v164 v165 v166 v167 v168 v169 v170 v171 v172 v173 v174 v175 v176 v177 v178 v179 v180 v181 v182 v183 v184 v185 v186 v187 v188 v189 v190 v191 v192 v193 v194 v195 v196 v197 v198 v199 v200 v201 v202 v203 v204 v205 v206 v207 v208 v209 v210 v211 v212 v213 v214 v215 v216 v217 v218 v219 v220 v221 v222 v223 v224 v225 v226 v227 v228 v229 v230 v231 v232 v233 v234 v235 v236 v237 v238 v239 v240 v241 v242 v243 v244 v245 v246 v247 v248 v249 v250 v251 v252 v253 v254 v255 v256 v257 v258 v259 v260 v261 v262 v263 v264 v265 v266 v267 v268 v269 v270 v271 v272 v273 v274 v275 v276 v277 v278 v279 v280 v281 v282 v283 v284 v285 v286 v287 v288 v289 v290 v291 v292 v293 v294 v295 v296 v297 v298 v299 v300 v301 v302 v303 v304 v305 v306 v307 v308 v309 v310 v311 v312 v313 v314 v315 v316 v317 v318 v319 v320 v321 v322 v323 v324 v325 v326 v327 v328 v329 v330 v331 v332 v333 v334 v335 v336 v337 v338 v339 v340 v341 v342 v343 v344 v345 v346 v347 v348 v349 v350 v351 v352 : Value}
    (hHH : Hid (VerR w pv S V)) (hVH : Hid (VOk V)) (hEH : Hid (EditR w g SE E)) (hglH : Hid (E.gone.length ≤ 100000)) (k0 : Hid (Kp w w0)) (eH : Hid (w0.cell? ⟨eb, 0, none⟩ = some (.slice g.A E.gone.length g.c) ∧ w0.cell? ⟨eb, 5, none⟩ = some (.int .u64 E.next) ∧ w0.cell? ⟨eb, 6, none⟩ = some (.int .u64 E.log) ∧ w0.cell? ⟨eb, 7, none⟩ = some (.int .u64 E.seq))) (elH : Hid (∀ l, l < 4 → w0.cell? ⟨eb, 1 + l, none⟩ = some (.slice (SE l).A (E.nw l).length (SE l).c))) (hallH : Hid (allB E.nw = true)) (hres : Hid (applyP V E = res)) (hgoH : Hid (goneP E.gone V.lv = some lv)) (htwH : Hid (twiceB (filesM lv) (filesM E.nw) = false)) (hvH : Hid (RvO Z wc w0 p S3 { V with lv := comeP lv E.nw } D3)) :
    Code.wp Tryz.prog (tailAt 5 (Tryz.f10.body.getD .skip)) (bodyPost Tryz.prog Tryz.f10 fun e w' => RApplyO Z w w' e res) ⟨#[.pointer (some ⟨pv, 0, none⟩), v1, v2, .pointer (some ⟨eb, 0, none⟩), v4, v5, v6, v7, .pointer (some ⟨p, 0, none⟩), v9, v10, v11, v12, v13, v14, v15, v16, v17, v18, v19, v20, v21, v22, v23, v24, v25, v26, v27, v28, v29, v30, v31, v32, v33, v34, v35, v36, v37, v38, v39, v40, v41, v42, v43, v44, v45, v46, v47, v48, v49, v50, v51, v52, v53, v54, v55, v56, v57, v58, v59, v60, v61, v62, v63, v64, v65, v66, v67, v68, v69, v70, v71, v72, v73, v74, v75, v76, v77, v78, v79, v80, v81, v82, v83, v84, v85, v86, v87, v88, v89, v90, v91, v92, v93, v94, v95, v96, v97, v98, v99, v100, v101, v102, v103, v104, v105, v106, v107, v108, v109, v110, v111, v112, v113, v114, v115, v116, v117, v118, v119, v120, v121, v122, v123, v124, v125, v126, v127, v128, v129, v130, v131, v132, v133, v134, v135, v136, v137, v138, v139, v140, v141, v142, v143, v144, v145, v146, v147, v148, v149, v150, v151, v152, v153, v154, v155, v156, v157, v158, v159, v160, v161, v162, v163, v164, v165, v166, v167, v168, v169, v170, v171, v172, v173, v174, v175, v176, v177, v178, v179, v180, v181, v182, v183, v184, v185, v186, v187, v188, v189, v190, v191, v192, v193, v194, v195, v196, v197, v198, v199, v200, v201, v202, v203, v204, v205, v206, v207, v208, v209, v210, v211, v212, v213, v214, v215, v216, v217, v218, v219, v220, v221, v222, v223, v224, v225, v226, v227, v228, v229, v230, v231, v232, v233, v234, v235, v236, v237, v238, v239, v240, v241, v242, v243, v244, v245, v246, v247, v248, v249, v250, v251, v252, v253, v254, v255, v256, v257, v258, v259, v260, v261, v262, v263, v264, v265, v266, v267, v268, v269, v270, v271, v272, v273, v274, v275, v276, v277, v278, v279, v280, v281, v282, v283, v284, v285, v286, v287, v288, v289, v290, v291, v292, v293, v294, v295, v296, v297, v298, v299, v300, v301, v302, v303, v304, v305, v306, v307, v308, v309, v310, v311, v312, v313, v314, v315, v316, v317, v318, v319, v320, v321, v322, v323, v324, v325, v326, v327, v328, v329, v330, v331, v332, v333, v334, v335, v336, v337, v338, v339, v340, v341, v342, v343, v344, v345, v346, v347, v348, v349, v350, v351, v352], []⟩ wc := by
    conv => arg 2; whnf
    have r4 := hid (fun lv : Lvls => @apply_num V E lv)
    rw [hres.out] at r4
    obtain ⟨bad, hbd⟩ : ∃ bad, bad = !(numOk E.next V.next && numOk E.log V.log && numOk E.seq V.seq) := ⟨_, rfl⟩
    have hbad : Hid (bad = ((((((decide (E.next ≠ 0) && decide (E.next < V.next)) || (decide (E.log ≠ 0) && decide (E.log < V.log))) || (decide (E.seq ≠ 0) && decide (E.seq < V.seq))) || decide (1099511627776 < E.next)) || decide (1099511627776 < E.log)) || decide (1099511627776 < E.seq))) := hid (by rw [hbd, num_form, Bool.not_not])
    have hbdH := hid hbd
    clear hbd
    conv => arg 4; zeta
    go_step
    go_step
    go_upto_region 34 with fail
    go_cut [224] from 170 to 224 (fun s wx => s = .bool bad ∧ RvO Z wx w0 p S3 { V with lv := comeP lv E.nw } D3)
    case first =>
      have kvx := k0.out.trans hvH.out.base
      have v4 := kvx.cell hHH.out.next
      have v5 := kvx.cell hHH.out.log
      have v6 := kvx.cell hHH.out.seq
      have q5 := hvH.out.base.cell eH.out.2.1
      have q6 := hvH.out.base.cell eH.out.2.2.1
      have q7 := hvH.out.base.cell eH.out.2.2.2
      clear kvx
      rcases num_ways E.next V.next with ⟨a1, b1, x1⟩ | ⟨a1, x1⟩ | ⟨a1, b1, x1⟩
      · have hbv := hid hbad.out
        rw [x1] at hbv
        (try simp only [Bool.true_or, Bool.or_true, Bool.false_or, Bool.or_false] at hbv)
        go_quiet (fail)
        (try go_wp2_with fail)
        go_meet
        case rel => exact ⟨by rw [hbv.out], hvH.out.kp ((Kp.refl _).drewN _)⟩
      all_goals
        rcases num_ways E.log V.log with ⟨a2, b2, x2⟩ | ⟨a2, x2⟩ | ⟨a2, b2, x2⟩
        · have hbv := hid hbad.out
          rw [x1, x2] at hbv
          (try simp only [Bool.true_or, Bool.or_true, Bool.false_or, Bool.or_false] at hbv)
          go_quiet (fail)
          (try go_wp2_with fail)
          go_meet
          case rel => exact ⟨by rw [hbv.out], hvH.out.kp ((Kp.refl _).drewN _)⟩
        all_goals
          rcases num_ways E.seq V.seq with ⟨a3, b3, x3⟩ | ⟨a3, x3⟩ | ⟨a3, b3, x3⟩
          · have hbv := hid hbad.out
            rw [x1, x2, x3] at hbv
            (try simp only [Bool.true_or, Bool.or_true, Bool.false_or, Bool.or_false] at hbv)
            go_quiet (fail)
            (try go_wp2_with fail)
            go_meet
            case rel => exact ⟨by rw [hbv.out], hvH.out.kp ((Kp.refl _).drewN _)⟩
          all_goals
            rcases big_ways E.next with ⟨m1, y1⟩ | ⟨m1, y1⟩
            · have hbv := hid hbad.out
              rw [x1, x2, x3, y1] at hbv
              (try simp only [Bool.true_or, Bool.or_true, Bool.false_or, Bool.or_false] at hbv)
              go_quiet (fail)
              (try go_wp2_with fail)
              go_meet
              case rel => exact ⟨by rw [hbv.out], hvH.out.kp ((Kp.refl _).drewN _)⟩
            rcases big_ways E.log with ⟨m2, y2⟩ | ⟨m2, y2⟩
            · have hbv := hid hbad.out
              rw [x1, x2, x3, y1, y2] at hbv
              (try simp only [Bool.true_or, Bool.or_true, Bool.false_or, Bool.or_false] at hbv)
              go_quiet (fail)
              (try go_wp2_with fail)
              go_meet
              case rel => exact ⟨by rw [hbv.out], hvH.out.kp ((Kp.refl _).drewN _)⟩
            rcases big_ways E.seq with ⟨m3, y3⟩ | ⟨m3, y3⟩
            all_goals
              have hbv := hid hbad.out
              rw [x1, x2, x3, y1, y2, y3] at hbv
              (try simp only [Bool.true_or, Bool.or_true, Bool.false_or, Bool.or_false] at hbv)
              go_quiet (fail)
              (try go_wp2_with fail)
              go_meet
              case rel => exact ⟨by rw [hbv.out], hvH.out.kp ((Kp.refl _).drewN _)⟩
    case rest =>
    obtain ⟨rfl, hv⟩ := hcut
    clear hvH hbad
    have hvH := hid hv
    clear hv
    rcases bool_ways bad with hb | hb
    case inr =>
      have hr : Hid (res = .inr 3) := hid (r4.out lv hallH.out hgoH.out htwH.out (by have := hbdH.out; rw [hb] at this; revert this; cases (numOk E.next V.next && numOk E.log V.log && numOk E.seq V.seq) <;> simp))
      rw [hb]
      clear hb
      go_wp2_with fail
      go_ret2
      exact ⟨k0.out.trans hvH.out.base, by rw [hr.out]; rfl⟩
    have hnumH : Hid ((numOk E.next V.next && numOk E.log V.log && numOk E.seq V.seq) = true) := hid (by have := hbdH.out; rw [hb] at this; revert this; cases (numOk E.next V.next && numOk E.log V.log && numOk E.seq V.seq) <;> simp)
    rw [hb]
    clear hb hbdH
    have q5 := hvH.out.base.cell eH.out.2.1
    go_upto_if 227 with fail
    go_cut [] from 225 to 232 (fun wx => RvO Z wx w0 p S3 { V with lv := comeP lv E.nw, next := told E.next V.next } D3)
    case first =>
      have c4 := hvH.out.ver.next
      have f4 := hvH.out.own.free 4
      have hs := hid (hvH.out.setNext E.next)
      by_cases h0 : E.next = 0
      · have z : ((E.next : Int) != 0) = false := by rw [h0]; rfl
        have ht : Hid (told E.next V.next = V.next) := hid (by unfold told; rw [if_pos h0])
        clear h0
        go_wp2_with fail
        go_meet
        case rel => rw [ht.out]; exact hvH.out
      · have z : ((E.next : Int) != 0) = true := by rw [bne_iff_ne]; omega
        have ht : Hid (told E.next V.next = E.next) := hid (by unfold told; rw [if_neg h0])
        clear h0
        go_wp2_with fail
        go_meet
        case rel => rw [ht.out]; exact hs.out
    case rest =>
    clear hvH q5
    have hvH := hid hcut
    clear hcut
    have q6 := hvH.out.base.cell eH.out.2.2.1
    go_upto_if 235 with fail
    go_cut [] from 233 to 240 (fun wx => RvO Z wx w0 p S3 { V with lv := comeP lv E.nw, next := told E.next V.next, log := told E.log V.log } D3)
    case first =>
      have c5 := hvH.out.ver.log
      have f5 := hvH.out.own.free 5
      have hs := hid (hvH.out.setLog E.log)
      by_cases h0 : E.log = 0
      · have z : ((E.log : Int) != 0) = false := by rw [h0]; rfl
        have ht : Hid (told E.log V.log = V.log) := hid (by unfold told; rw [if_pos h0])
        clear h0
        go_wp2_with fail
        go_meet
        case rel => rw [ht.out]; exact hvH.out
      · have z : ((E.log : Int) != 0) = true := by rw [bne_iff_ne]; omega
        have ht : Hid (told E.log V.log = E.log) := hid (by unfold told; rw [if_neg h0])
        clear h0
        go_wp2_with fail
        go_meet
        case rel => rw [ht.out]; exact hs.out
    case rest =>
    clear hvH q6
    have hvH := hid hcut
    clear hcut
    have q7 := hvH.out.base.cell eH.out.2.2.2
    go_upto_if 243 with fail
    go_cut [] from 241 to 248 (fun wx => RvO Z wx w0 p S3 { V with lv := comeP lv E.nw, next := told E.next V.next, log := told E.log V.log, seq := told E.seq V.seq } D3)
    case first =>
      have c6 := hvH.out.ver.seq
      have f6 := hvH.out.own.free 6
      have hs := hid (hvH.out.setSeq E.seq)
      by_cases h0 : E.seq = 0
      · have z : ((E.seq : Int) != 0) = false := by rw [h0]; rfl
        have ht : Hid (told E.seq V.seq = V.seq) := hid (by unfold told; rw [if_pos h0])
        clear h0
        go_wp2_with fail
        go_meet
        case rel => rw [ht.out]; exact hvH.out
      · have z : ((E.seq : Int) != 0) = true := by rw [bne_iff_ne]; omega
        have ht : Hid (told E.seq V.seq = E.seq) := hid (by unfold told; rw [if_neg h0])
        clear h0
        go_wp2_with fail
        go_meet
        case rel => rw [ht.out]; exact hs.out
    case rest =>
    clear hvH q7
    have hvH := hid hcut
    clear hcut
    rename_i K aK
    refine aK _ _ ?_
    refine wp_code_eq (C' := tailAt 9 (Tryz.f10.body.getD .skip)) (by kernel_rfl) ?_
    exact rapply_b9 Z pv S V g SE E w w0 res eb p wc S3 lv D3 hHH hVH hEH hglH k0 eH elH hallH hres hgoH htwH hnumH hvH
/- The document's Apply: from what is new on. -/
set_option maxRecDepth 20000 in
set_option maxHeartbeats 12800000 in
theorem rapply_b4 (Z : SlA → List MetaM → Prop) (pv : Nat) (S : Nat → SlA) (V : VerM) (g : SlA) (SE : Nat → SlA) (E : EditM) (w w0 : World) (res : VerM ⊕ Int) (eb p : Nat) (wc : World) (S2 : Nat → SlA) (lv : Lvls) (D2 : List Chunk) {v1 v2 v4 v5 v6 v7 v9 v10 v11 v12 v13 v14 v15 v16 v17 v18 v19 v20 v21 v22 v23 v24 v25 v26 v27 v28 v29 v30 v31 v32 v33 v34 v35 v36 v37 v38 v39 v40 v41 v42 v43 v44 v45 v46 v47 v48 v49 v50 v51 v52 v53 v54 v55 v56 v57 v58 v59 v60 v61 v62 v63 v64 v65 v66 v67 v68 v69 v70 v71 v72 v73 v74 v75 v76 v77 v78 v79 v80 v81 v82 v83 v84 v85 v86 v87 v88 v89 v90 v91 v92 v93 v94 v95 v96 v97 v98 v99 v100 v101 v102 v103 v104 v105 v106 v107 v108 v109 v110 v111 v112 v113 v114 v115 v116 v117 v118 v119 v120 v121 v122 v123 v124 v125 v126 v127 v128 v129 v130 v131 v132 v133 v134 v135 v136 v137 v138 v139 v140 v141 v142 v143 v144 v145 v146 v147 v148 v149 v150 v151 v152 v153 v154 v155 v156 v157 v158 v159 v160 v161 v162 v163 v164 v165 v166 v167 v168 v169 v170 v171 v172 v173 v174 v175 v176 v177 v178 v179 v180 v181 v182 v183 v184 v185 v186 v187 v188 v189 v190 v191 v192 v193 v194 v195 v196 v197 v198 v199 v200 v201 v202 v203 v204 v205 v206 v207 v208 v209 v210 v211 v212 v213 v214 v215 v216 v217 v218 v219 v220 v221 v222 v223 v224 v225 v226 v227 v228 v229 v230 v231 v232 v233 v234 v235 v236 v237 v238 v239 v240 v241 v242 v243 v244 v245 v246 v247 v248 v249 v250 v251 v252 v253 v254 v255 v256 v257 v258 v259 v260 v261 v262 v263 v264 v265 v266 v267 v268 v269 v270 v271 v272 v273 v274 v275 v276 v277 v278 v279 v280 v281 v282 v283 v284 v285 v286 v287 v288 v289 v290 v291 v292 v293 v294 v295 v296 v297 v298 v299 v300 v301 v302 v303 v304 v305 v306 v307 v308 v309 v310 v311 v312 v313 v314 v315 v316 v317 v318 v319 v320 v321 v322 v323 v324 v325 v326 v327 v328 v329 v330 v331 v332 v333 v334 v335 v336 v337 v338 v339 v340 v341 v342 v343 v344 v345 v346 v347 v348 v349 v350 v351 v352 : Value}
    (hHH : Hid (VerR w pv S V)) (hVH : Hid (VOk V)) (hEH : Hid (EditR w g SE E)) (hglH : Hid (E.gone.length ≤ 100000)) (k0 : Hid (Kp w w0)) (eH : Hid (w0.cell? ⟨eb, 0, none⟩ = some (.slice g.A E.gone.length g.c) ∧ w0.cell? ⟨eb, 5, none⟩ = some (.int .u64 E.next) ∧ w0.cell? ⟨eb, 6, none⟩ = some (.int .u64 E.log) ∧ w0.cell? ⟨eb, 7, none⟩ = some (.int .u64 E.seq))) (elH : Hid (∀ l, l < 4 → w0.cell? ⟨eb, 1 + l, none⟩ = some (.slice (SE l).A (E.nw l).length (SE l).c))) (hallH : Hid (allB E.nw = true)) (hres : Hid (applyP V E = res)) (hgoH : Hid (goneP E.gone V.lv = some lv)) (hvH : Hid (RvO Z wc w0 p S2 { V with lv := lv } D2)) :
    Code.wp Tryz.prog (tailAt 4 (Tryz.f10.body.getD .skip)) (bodyPost Tryz.prog Tryz.f10 fun e w' => RApplyO Z w w' e res) ⟨#[.pointer (some ⟨pv, 0, none⟩), v1, v2, .pointer (some ⟨eb, 0, none⟩), v4, v5, v6, v7, .pointer (some ⟨p, 0, none⟩), v9, v10, v11, v12, v13, v14, v15, v16, v17, v18, v19, v20, v21, v22, v23, v24, v25, v26, v27, v28, v29, v30, v31, v32, v33, v34, v35, v36, v37, v38, v39, v40, v41, v42, v43, v44, v45, v46, v47, v48, v49, v50, v51, v52, v53, v54, v55, v56, v57, v58, v59, v60, v61, v62, v63, v64, v65, v66, v67, v68, v69, v70, v71, v72, v73, v74, v75, v76, v77, v78, v79, v80, v81, v82, v83, v84, v85, v86, v87, v88, v89, v90, v91, v92, v93, v94, v95, v96, v97, v98, v99, v100, v101, v102, v103, v104, v105, v106, v107, v108, v109, v110, v111, v112, v113, v114, v115, v116, v117, v118, v119, v120, v121, v122, v123, v124, v125, v126, v127, v128, v129, v130, v131, v132, v133, v134, v135, v136, v137, v138, v139, v140, v141, v142, v143, v144, v145, v146, v147, v148, v149, v150, v151, v152, v153, v154, v155, v156, v157, v158, v159, v160, v161, v162, v163, v164, v165, v166, v167, v168, v169, v170, v171, v172, v173, v174, v175, v176, v177, v178, v179, v180, v181, v182, v183, v184, v185, v186, v187, v188, v189, v190, v191, v192, v193, v194, v195, v196, v197, v198, v199, v200, v201, v202, v203, v204, v205, v206, v207, v208, v209, v210, v211, v212, v213, v214, v215, v216, v217, v218, v219, v220, v221, v222, v223, v224, v225, v226, v227, v228, v229, v230, v231, v232, v233, v234, v235, v236, v237, v238, v239, v240, v241, v242, v243, v244, v245, v246, v247, v248, v249, v250, v251, v252, v253, v254, v255, v256, v257, v258, v259, v260, v261, v262, v263, v264, v265, v266, v267, v268, v269, v270, v271, v272, v273, v274, v275, v276, v277, v278, v279, v280, v281, v282, v283, v284, v285, v286, v287, v288, v289, v290, v291, v292, v293, v294, v295, v296, v297, v298, v299, v300, v301, v302, v303, v304, v305, v306, v307, v308, v309, v310, v311, v312, v313, v314, v315, v316, v317, v318, v319, v320, v321, v322, v323, v324, v325, v326, v327, v328, v329, v330, v331, v332, v333, v334, v335, v336, v337, v338, v339, v340, v341, v342, v343, v344, v345, v346, v347, v348, v349, v350, v351, v352], []⟩ wc := by
    conv => arg 2; whnf
    have r3 := hid (fun lv : Lvls => @apply_twice V E lv)
    rw [hres.out] at r3
    have hlvl : Hid (∀ l, l < 4 → (lv l).length ≤ 30) := hid (fun l hl => Nat.le_trans (gone_part hgoH.out l).length_le (vok_len hVH.out hl))
    obtain ⟨i0, hi0, hz0, hz1, hz2⟩ := info_parts infoMeta
    go_upto_block 10 with fail
    go_cut [13, 14] from 126 to 169 (fun _ _ wx => ∃ (S3 : Nat → SlA) (D3 : List Chunk), twiceB (filesM lv) (filesM E.nw) = false ∧ RvO Z wx w0 p S3 { V with lv := comeP lv E.nw } D3)
    case first =>
      go_wp2_with fail
      go_loopw [4, 5, 13] (fun _ _ i wr => ∃ (l : Nat) (S3 : Nat → SlA) (D3 : List Chunk), i = .int .i64 l ∧ l ≤ 4 ∧ twiceB (filesM lv) (newK E.nw l 0) = false ∧ RvO Z wr w0 p S3 { V with lv := comeK lv E.nw l 0 } D3) (fun _ _ i _ => 4 - (intOf i).toNat)
      case atStart => exact ⟨0, S2, D2, rfl, by omega, rfl, by rw [comeK_start]; exact hvH.out⟩
      case round =>
        clear hvH
        obtain ⟨l, S3, D3, rfl, hl, htw, hv⟩ := hrel
        have hvH := hid hv
        have htwH := hid htw
        clear hv htw
        obtain ⟨wq, hwq⟩ : ∃ x : World, x = wr := ⟨_, rfl⟩
        subst hwq
        by_cases hl4 : l < 4
        · have hl4' : (l : Int) < 4 := by omega
          have el0 := hid (elH.out l hl4)
          have hrd0 := hid (k0.out.rd (hEH.out.nw l hl4))
          have hfew := hEH.out.few l hl4
          have hnx := hid (newK_next E.nw hl4)
          have hcn := hid (comeK_next lv E.nw l)
          have hpart := hid (fun j m => @newK_part E.nw l j hl4 m)
          have hsucc := hid (fun j m => @newK_succ E.nw l j m)
          have hcu := hid (fun j m => @comeK_upd lv E.nw l j m)
          have hat := hid (comeK_at lv E.nw l)
          have hhc := hid (fun j n => has_come lv E.nw hl4 j n)
          have hll := hid (hlvl.out l hl4)
          unfold SlA.v at hrd0
          rw [rd_n (s := ⟨(SE l).A, (SE l).n, (SE l).c⟩) hrd0.out] at hrd0
          have hbz : ((l : Int) == 0) = (l == 0) := by cases l <;> simp; omega
          have hbzH := hid hbz
          clear hbz
          generalize hys : E.nw l = ys at *
          have hysH := hid hys
          clear hys
          obtain ⟨sA, hsA⟩ : ∃ sA, sA = SE l := ⟨_, rfl⟩
          rw [← hsA] at el0 hrd0
          clear hsA
          have hy63 : ys.length ≤ 9223372036854775807 := by omega
          have hv0 : Hid (RvO Z wq w0 p S3 { V with lv := comeK lv E.nw l 0 } D3) := hvH
          go_wp2_with fail
          go_loopw [4, 5, 14] (fun _ _ i wz => ∃ (j : Nat) (S4 : Nat → SlA) (D4 : List Chunk), i = .int .i64 j ∧ j ≤ ys.length ∧ twiceB (filesM lv) (newK E.nw l j) = false ∧ RvO Z wz w0 p S4 { V with lv := comeK lv E.nw l j } D4) (fun _ _ i _ => ys.length - (intOf i).toNat)
          case atStart => exact ⟨0, S3, D3, rfl, Nat.zero_le _, htwH.out, hv0.out⟩
          case round =>
            clear hv0 hvH htwH
            obtain ⟨j, S4, D4, rfl, hj, htw, hv⟩ := hrel
            have hvH := hid hv
            have htwH := hid htw
            clear hv htw
            obtain ⟨wz, hwz⟩ : ∃ x : World, x = wr := ⟨_, rfl⟩
            subst hwz
            have el := hvH.out.base.cell el0.out
            by_cases hjl : j < ys.length
            · have hx : ys[j]? = some ys[j] := List.getElem?_eq_getElem hjl
              obtain ⟨gq, offq, hAq, _, d0, d1, d2, d3, d4⟩ := rd_meta (hvH.out.base.rd hrd0.out) rfl hx
              rw [hAq] at el
              have hjl' : (j : Int) < (ys.length : Int) := by omega
              obtain ⟨x, hxe⟩ : ∃ x, x = ys[j] := ⟨_, rfl⟩
              rw [← hxe] at hx d0 d1 d2 d3 d4
              have hp1 := hid (hpart.out j x hx)
              have hs1 := hid (hsucc.out j x hx)
              have hu1 := hid (hcu.out j x hx)
              have hh1 := hid (hhc.out j x.file)
              have hhas := hid (rhas_c p S4 { V with lv := comeK lv E.nw l j } x.file wz hvH.out.ver)
              dsimp only at hhas
              rw [hh1.out] at hhas
              clear hx hxe
              go_wp2_with fail
              refine hhas.out.mono ?_
              rintro e w3 ⟨rfl, hw3⟩
              have hw3' := hw3.symm
              subst hw3'
              clear hhas
              rcases bool_ways ((filesM lv ++ newK E.nw l j).contains x.file) with hb | hb
              · have htw1 : Hid (twiceB (filesM lv) (newK E.nw l (j + 1)) = false) := hid (by rw [hs1.out, twice_snoc, htwH.out, hb]; rfl)
                rw [hb]
                clear hb
                have cl := hvH.out.ver.lvl l hl4
                have hrw := hid (hvH.out.rdAt hl4)
                dsimp only at hrw
                have hlen1 : Hid ((comeK lv E.nw l j l).length ≤ 2000) := hid (by
                  rw [comeK_at, (foldW_perm (l == 0) _ _).length_eq, List.length_append, List.length_take]
                  have := hll.out
                  omega)
                have hlen2 : Hid ((withM (l == 0) (comeK lv E.nw l j l) x).length ≤ 20000) := hid (by
                  rw [(withM_perm _ _ _).length_eq, List.length_cons]
                  have := hlen1.out
                  omega)
                rw [rd_n hrw.out] at cl
                have hwc := hid (rwith_c (S4 l).v (comeK lv E.nw l j l) x ((l : Int) == 0) wz.drew (((Kp.refl wz).drew).rd hrw.out) (by have := hlen1.out; omega))
                unfold SlA.v metaV at hwc
                rw [rd_n hrw.out, hbzH.out] at hwc
                have hpl : p < wz.heap.size := World.block_lt_of_cell? wz _ cl
                have fz := hvH.out.own.free l
                have hl63 : (comeK lv E.nw l j l).length ≤ 9223372036854775807 := by have := hlen1.out; omega
                generalize (comeK lv E.nw l j l).length = cn at *
                obtain ⟨zb, hzb⟩ : ∃ zb, zb = (l == 0) := ⟨_, rfl⟩
                have hz1' : ((l : Int) == 0) = zb := by rw [hzb]; exact hbzH.out
                rw [← hzb] at hwc hlen2 hu1
                have hzbH := hid hzb
                clear hzb
                go_wp2_with fail
                go_region_law (go_simp; go_at_call 28; refine hwc.out.mono ?_; rintro e w5 ⟨A5, n5, c5, rfl, o5, x5⟩; have cl5 := (kp_of1 o5 x5).cell cl; have fz5 := (kp_of1 o5 x5).free hpl fz)
                all_goals
                  have k5 : Kp wz w5 := ((Kp.refl wz).drew).trans (kp_of1 o5 x5)
                  have vt := hid (hvH.out.turn hl4 (s := ⟨A5, n5, c5⟩) k5 o5 hlen2.out)
                  have vt2 : Hid (RvO Z (w5.setCell ⟨p, l, none⟩ (.slice A5 n5 c5)) w0 p _ { V with lv := comeK lv E.nw l (j + 1) } _) := hid (by have := vt.out; dsimp only at this; rw [hu1.out] at this; exact this)
                  clear vt k5 cl5 fz5 o5 x5 cl fz
                  go_wp2_with fail
                  go_roundw
                  case rel => exact ⟨j + 1, _, _, by go_num, by omega, htw1.out, vt2.out⟩
                  case measure => simp [intOf]; omega
              · rw [hb]
                have hr : Hid (res = .inr 11) := hid (r3.out lv hallH.out hgoH.out (by
                  obtain ⟨r, hr⟩ := hp1.out
                  rw [hr, show newK E.nw l j ++ x.file :: r = (newK E.nw l j ++ [x.file]) ++ r by simp]
                  exact twice_app _ _ _ (by rw [twice_snoc, hb, Bool.or_true])))
                clear hb
                go_wp2_with fail
                go_ret2
                exact ⟨k0.out.trans hvH.out.base, by rw [hr.out]; rfl⟩
            · obtain rfl : j = ys.length := by omega
              have htw2 : Hid (twiceB (filesM lv) (newK E.nw (l + 1) 0) = false) := hid (by rw [← hnx.out]; exact htwH.out)
              have hv2 : Hid (RvO Z wz w0 p S4 { V with lv := comeK lv E.nw (l + 1) 0 } D4) := hid (by rw [← hcn.out]; exact hvH.out)
              go_wp2_with fail
              go_roundw
              case rel => exact ⟨l + 1, S4, D4, by go_num, by omega, htw2.out, hv2.out⟩
              case measure => simp [intOf]; omega
        · obtain rfl : l = 4 := by omega
          have htw4 : Hid (twiceB (filesM lv) (filesM E.nw) = false) := hid (by have := htwH.out; unfold newK at this; rw [fileL_four] at this; simpa using this)
          have hvC := hid (hvH.out.cong (fun i hi => comeK_end lv E.nw hi))
          go_wp2_with fail
          go_meet
          case rel => exact ⟨S3, D3, htw4.out, hvC.out⟩
    case rest =>
    obtain ⟨S3, D3, htw, hv⟩ := hcut
    clear hvH
    have hvH := hid hv
    have htwH := hid htw
    clear hv htw
    rename_i K aK
    refine aK _ _ ?_
    refine wp_code_eq (C' := tailAt 5 (Tryz.f10.body.getD .skip)) (by kernel_rfl) ?_
    exact rapply_b5 Z pv S V g SE E w w0 res eb p wc S3 lv D3 hHH hVH hEH hglH k0 eH elH hallH hres hgoH htwH hvH
/- The document's Apply: from what is gone on. -/
set_option maxRecDepth 20000 in
set_option maxHeartbeats 12800000 in
theorem rapply_b3 (Z : SlA → List MetaM → Prop) (pv : Nat) (S : Nat → SlA) (V : VerM) (g : SlA) (SE : Nat → SlA) (E : EditM) (w w0 : World) (res : VerM ⊕ Int) (eb p : Nat) (wc : World)  {v1 v2 v4 v5 v6 v7 v9 v10 v11 v12 v13 v14 v15 v16 v17 v18 v19 v20 v21 v22 v23 v24 v25 v26 v27 v28 v29 v30 v31 v32 v33 v34 v35 v36 v37 v38 v39 v40 v41 v42 v43 v44 v45 v46 v47 v48 v49 v50 v51 v52 v53 v54 v55 v56 v57 v58 v59 v60 v61 v62 v63 v64 v65 v66 v67 v68 v69 v70 v71 v72 v73 v74 v75 v76 v77 v78 v79 v80 v81 v82 v83 v84 v85 v86 v87 v88 v89 v90 v91 v92 v93 v94 v95 v96 v97 v98 v99 v100 v101 v102 v103 v104 v105 v106 v107 v108 v109 v110 v111 v112 v113 v114 v115 v116 v117 v118 v119 v120 v121 v122 v123 v124 v125 v126 v127 v128 v129 v130 v131 v132 v133 v134 v135 v136 v137 v138 v139 v140 v141 v142 v143 v144 v145 v146 v147 v148 v149 v150 v151 v152 v153 v154 v155 v156 v157 v158 v159 v160 v161 v162 v163 v164 v165 v166 v167 v168 v169 v170 v171 v172 v173 v174 v175 v176 v177 v178 v179 v180 v181 v182 v183 v184 v185 v186 v187 v188 v189 v190 v191 v192 v193 v194 v195 v196 v197 v198 v199 v200 v201 v202 v203 v204 v205 v206 v207 v208 v209 v210 v211 v212 v213 v214 v215 v216 v217 v218 v219 v220 v221 v222 v223 v224 v225 v226 v227 v228 v229 v230 v231 v232 v233 v234 v235 v236 v237 v238 v239 v240 v241 v242 v243 v244 v245 v246 v247 v248 v249 v250 v251 v252 v253 v254 v255 v256 v257 v258 v259 v260 v261 v262 v263 v264 v265 v266 v267 v268 v269 v270 v271 v272 v273 v274 v275 v276 v277 v278 v279 v280 v281 v282 v283 v284 v285 v286 v287 v288 v289 v290 v291 v292 v293 v294 v295 v296 v297 v298 v299 v300 v301 v302 v303 v304 v305 v306 v307 v308 v309 v310 v311 v312 v313 v314 v315 v316 v317 v318 v319 v320 v321 v322 v323 v324 v325 v326 v327 v328 v329 v330 v331 v332 v333 v334 v335 v336 v337 v338 v339 v340 v341 v342 v343 v344 v345 v346 v347 v348 v349 v350 v351 v352 : Value}
    (hHH : Hid (VerR w pv S V)) (hVH : Hid (VOk V)) (hEH : Hid (EditR w g SE E)) (hglH : Hid (E.gone.length ≤ 100000)) (k0 : Hid (Kp w w0)) (eH : Hid (w0.cell? ⟨eb, 0, none⟩ = some (.slice g.A E.gone.length g.c) ∧ w0.cell? ⟨eb, 5, none⟩ = some (.int .u64 E.next) ∧ w0.cell? ⟨eb, 6, none⟩ = some (.int .u64 E.log) ∧ w0.cell? ⟨eb, 7, none⟩ = some (.int .u64 E.seq))) (elH : Hid (∀ l, l < 4 → w0.cell? ⟨eb, 1 + l, none⟩ = some (.slice (SE l).A (E.nw l).length (SE l).c))) (hallH : Hid (allB E.nw = true)) (hres : Hid (applyP V E = res)) (hvH : Hid (RvO Z wc w0 p S V [])) :
    Code.wp Tryz.prog (tailAt 3 (Tryz.f10.body.getD .skip)) (bodyPost Tryz.prog Tryz.f10 fun e w' => RApplyO Z w w' e res) ⟨#[.pointer (some ⟨pv, 0, none⟩), v1, v2, .pointer (some ⟨eb, 0, none⟩), v4, v5, v6, v7, .pointer (some ⟨p, 0, none⟩), v9, v10, v11, v12, v13, v14, v15, v16, v17, v18, v19, v20, v21, v22, v23, v24, v25, v26, v27, v28, v29, v30, v31, v32, v33, v34, v35, v36, v37, v38, v39, v40, v41, v42, v43, v44, v45, v46, v47, v48, v49, v50, v51, v52, v53, v54, v55, v56, v57, v58, v59, v60, v61, v62, v63, v64, v65, v66, v67, v68, v69, v70, v71, v72, v73, v74, v75, v76, v77, v78, v79, v80, v81, v82, v83, v84, v85, v86, v87, v88, v89, v90, v91, v92, v93, v94, v95, v96, v97, v98, v99, v100, v101, v102, v103, v104, v105, v106, v107, v108, v109, v110, v111, v112, v113, v114, v115, v116, v117, v118, v119, v120, v121, v122, v123, v124, v125, v126, v127, v128, v129, v130, v131, v132, v133, v134, v135, v136, v137, v138, v139, v140, v141, v142, v143, v144, v145, v146, v147, v148, v149, v150, v151, v152, v153, v154, v155, v156, v157, v158, v159, v160, v161, v162, v163, v164, v165, v166, v167, v168, v169, v170, v171, v172, v173, v174, v175, v176, v177, v178, v179, v180, v181, v182, v183, v184, v185, v186, v187, v188, v189, v190, v191, v192, v193, v194, v195, v196, v197, v198, v199, v200, v201, v202, v203, v204, v205, v206, v207, v208, v209, v210, v211, v212, v213, v214, v215, v216, v217, v218, v219, v220, v221, v222, v223, v224, v225, v226, v227, v228, v229, v230, v231, v232, v233, v234, v235, v236, v237, v238, v239, v240, v241, v242, v243, v244, v245, v246, v247, v248, v249, v250, v251, v252, v253, v254, v255, v256, v257, v258, v259, v260, v261, v262, v263, v264, v265, v266, v267, v268, v269, v270, v271, v272, v273, v274, v275, v276, v277, v278, v279, v280, v281, v282, v283, v284, v285, v286, v287, v288, v289, v290, v291, v292, v293, v294, v295, v296, v297, v298, v299, v300, v301, v302, v303, v304, v305, v306, v307, v308, v309, v310, v311, v312, v313, v314, v315, v316, v317, v318, v319, v320, v321, v322, v323, v324, v325, v326, v327, v328, v329, v330, v331, v332, v333, v334, v335, v336, v337, v338, v339, v340, v341, v342, v343, v344, v345, v346, v347, v348, v349, v350, v351, v352], []⟩ wc := by
    conv => arg 2; whnf
    have r2 := hid (@apply_gone V E)
    rw [hres.out] at r2
    have hgn := hid (rd_num_n hEH.out.gone)
    have hg0 := hid (k0.out.rd hEH.out.gone)
    obtain ⟨gA, gn, gc⟩ := g
    dsimp only at hgn
    have hgn' := hgn.out
    subst hgn'
    clear hgn
    unfold SlA.v at hg0
    dsimp only at hg0
    have hg63 : E.gone.length ≤ 9223372036854775807 := by have := hglH.out; omega
    obtain ⟨i0, hi0, hz0, hz1, hz2⟩ := info_parts infoMeta
    go_upto_block 4 with fail
    go_cut [9, 10, 11, 12] from 61 to 125 (fun _ _ _ _ wx => ∃ (S2 : Nat → SlA) (lv : Lvls) (D2 : List Chunk), goneP E.gone V.lv = some lv ∧ RvO Z wx w0 p S2 { V with lv := lv } D2)
    case first =>
      go_wp2_with fail
      go_loopw [4, 5, 9] (fun _ _ i wr => ∃ (k : Nat) (S2 : Nat → SlA) (lv : Lvls) (D2 : List Chunk), i = .int .i64 k ∧ k ≤ E.gone.length ∧ goneP (E.gone.take k) V.lv = some lv ∧ RvO Z wr w0 p S2 { V with lv := lv } D2) (fun _ _ i _ => E.gone.length - (intOf i).toNat)
      case atStart => exact ⟨0, S, V.lv, [], rfl, Nat.zero_le _, rfl, hvH.out⟩
      case round =>
        clear hvH
        obtain ⟨k, S2, lv, D2, rfl, hk, hgo, hv⟩ := hrel
        have hvH := hid hv
        have hgoH := hid hgo
        clear hv hgo
        obtain ⟨wk, hwk⟩ : ∃ x : World, x = wr := ⟨_, rfl⟩
        subst hwk
        have c0 := hvH.out.base.cell eH.out.1
        by_cases hlt : k < E.gone.length
        · obtain ⟨n, hn⟩ : ∃ n, E.gone[k]? = some n := ⟨_, List.getElem?_eq_getElem hlt⟩
          obtain ⟨gg, goff, rfl, _, d0⟩ := rd_num (hvH.out.base.rd hg0.out) rfl hn
          have hlt' : (k : Int) < (E.gone.length : Int) := by omega
          have hst := hid (gone_step hn hgoH.out)
          have hnH := hid hn
          have hhas := hid (rhas_c p S2 { V with lv := lv } n wk hvH.out.ver)
          clear hn
          dsimp only at hhas
          go_wp2_with fail
          refine hhas.out.mono ?_
          rintro e w3 ⟨rfl, rfl⟩
          clear hhas
          rcases bool_ways (hasB lv n) with hb | hb
          · rw [hb]
            have hr := hid (r2.out hallH.out (hst.out.2 hb))
            clear hb
            go_wp2_with fail
            go_ret2
            exact ⟨k0.out.trans hvH.out.base, by rw [hr.out]; rfl⟩
          · rw [hb]
            have hgo1 := hid (hst.out.1 hb)
            clear hb hst
            have c0H := hid c0
            have d0H := hid d0
            clear c0 d0
            go_wp2_with fail
            go_loopw [10] (fun i wr => ∃ (l : Nat) (S3 : Nat → SlA) (D3 : List Chunk), i = .int .i64 l ∧ l ≤ 4 ∧ RvO Z wr w0 p S3 { V with lv := filtK lv n l } D3 ∧ wr.cell? ⟨eb, 0, none⟩ = some (.slice (some ⟨gg, goff, none⟩) E.gone.length gc) ∧ wr.cell? ⟨gg, goff + k, none⟩ = some (.int .u64 n)) (fun i _ => 4 - (intOf i).toNat)
            case atStart => exact ⟨0, S2, D2, rfl, by omega, by rw [filtK_start]; exact hvH.out, c0H.out, d0H.out⟩
            case round =>
              clear hvH c0H d0H
              obtain ⟨l, S3, D3, rfl, hl, hv, c0, dn⟩ := hrel
              have hvH := hid hv
              have c0H := hid c0
              have dnH := hid dn
              clear hv c0 dn
              obtain ⟨wq, hwq⟩ : ∃ x : World, x = wr := ⟨_, rfl⟩
              subst hwq
              by_cases hl4 : l < 4
              · have hl4' : (l : Int) < 4 := by omega
                have cl := hvH.out.ver.lvl l hl4
                have hry := hid (hvH.out.rdAt hl4)
                have hfew := hvH.out.few l hl4
                dsimp only at hry hfew
                rw [filtK_at] at hry hfew
                rw [rd_n hry.out] at cl
                have hfu := hid (filtK_upd lv n l)
                unfold SlA.v at hry
                rw [rd_n (s := ⟨(S3 l).A, (S3 l).n, (S3 l).c⟩) hry.out] at hry
                generalize lv l = ys at hry hfew cl hfu
                obtain ⟨sA, hsA⟩ : ∃ sA, sA = S3 l := ⟨_, rfl⟩
                rw [← hsA] at cl hry
                have clH := hid cl
                have hpl : p < wq.heap.size := World.block_lt_of_cell? wq _ cl
                have hy63 : ys.length ≤ 9223372036854775807 := by omega
                clear hsA cl
                go_wp2_with fail
                go_loopw [11, 12] (fun v jj wz => ∃ j : Nat, jj = .int .i64 j ∧ j ≤ ys.length ∧ Own wz [sl 43 metaE v ((ys.take j).filter fun m => m.file != n), base wq wq.heap.size] ∧ Ext wq wz) (fun _ jj _ => ys.length - (intOf jj).toNat)
                case atStart => exact ⟨0, rfl, Nat.zero_le _, by simpa using sl_empty' 43 metaE ((Own.start wq).alloc (.cells #[] 43 (0, 0))), (Ext.refl wq).alloc _⟩
                case round =>
                  obtain ⟨j, rfl, hj, oj, ej⟩ := hrel
                  obtain ⟨A2, n2, c2, rfl⟩ := sl_shape oj
                  have kj := hid (kp_of1 oj ej)
                  have ojH := hid oj
                  have ejH := hid ej
                  clear oj ej
                  obtain ⟨wz, hwz⟩ : ∃ x : World, x = wr := ⟨_, rfl⟩
                  subst hwz
                  have cl := kj.out.cell clH.out
                  have c0 := kj.out.cell c0H.out
                  have dn := kj.out.cell dnH.out
                  by_cases hjl : j < ys.length
                  · have hx : ys[j]? = some ys[j] := List.getElem?_eq_getElem hjl
                    obtain ⟨gq, offq, hAq, _, d0, d1, d2, d3, d4⟩ := rd_meta (kj.out.rd hry.out) rfl hx
                    rw [hAq] at cl
                    have hjl' : (j : Int) < (ys.length : Int) := by omega
                    have htk : Hid (ys.take (j + 1) = ys.take j ++ [ys[j]]) := hid (List.take_succ_eq_append_getElem hjl)
                    generalize ys[j] = x at *
                    clear hx
                    have hlf : (((ys.take j).filter fun m => m.file != n).length : Nat) ≤ 20000 := Nat.le_trans (List.length_filter_le _ _) (by rw [List.length_take]; omega)
                    by_cases he : x.file = n
                    · have e1 : ((x.file : Int) != (n : Int)) = false := by rw [he]; simp
                      have e2 : (x.file != n) = false := by rw [he]; simp
                      have hno : Hid ((ys.take (j + 1)).filter (fun m => m.file != n) = (ys.take j).filter fun m => m.file != n) := hid (by rw [htk.out, List.filter_append]; simp [he])
                      have o4H : Hid (Own wz [sl 43 metaE (.slice A2 n2 c2) ((ys.take (j + 1)).filter fun m => m.file != n), base wq wq.heap.size]) := hid (by rw [hno.out]; exact ojH.out)
                      clear he hno
                      go_wp2_with fail
                      go_quiet (fail)
                      go_wp2_with fail
                      go_roundw
                      case rel => exact ⟨j + 1, by go_num, by omega, o4H.out.drewN nq, ejH.out.drewN nq⟩
                      case measure => simp [intOf]; omega
                    · have e1 : ((x.file : Int) != (n : Int)) = true := by rw [bne_iff_ne]; omega
                      have e2 : (x.file != n) = true := by rw [bne_iff_ne]; exact he
                      have hyes : Hid ((ys.take (j + 1)).filter (fun m => m.file != n) = ((ys.take j).filter fun m => m.file != n) ++ [x]) := hid (by rw [htk.out, List.filter_append]; simp [he])
                      clear he
                      go_wp2_with fail
                      go_quiet (fail)
                      generalize hwy : World.drewN wz nq = wy
                      have oyH : Hid (Own wy [sl 43 metaE (.slice A2 n2 c2) ((ys.take j).filter fun m => m.file != n), base wq wq.heap.size]) := hid (by rw [← hwy]; exact ojH.out.drewN nq)
                      have eyH : Hid (Ext wq wy) := hid (by rw [← hwy]; exact ejH.out.drewN nq)
                      have ky : Kp wz wy := by rw [← hwy]; exact (Kp.refl wz).drewN nq
                      have cl' := ky.cell cl
                      have d0' := ky.cell d0
                      have d1' := ky.cell d1
                      have d2' := ky.cell d2
                      have d3' := ky.cell d3
                      have d4' := ky.cell d4
                      clear cl c0 dn d0 d1 d2 d3 d4 ky hwy ojH ejH
                      go_wp2_with (refine wpList_append_slc rfl _ _ _ rfl 43 i0 _ 5 56 Tryz.underlying30 hi0 hz0 hz1 hz2 rfl (by omega) _ _ _ rfl (Own.allocd oyH.out) ⟨wy.heap.size, 0, none⟩ 1 1 [.int .u64 x.file, .int .i64 x.size, .string x.first, .string x.last, .int .u64 x.seq] rfl rfl (cells_new' (by simp) _ _ _) ?c2 ?c3 ?c4 ?_)
                      case c2 => simp [Value.oneCell']
                      case c3 => unfold maxLen; omega
                      case c4 => omega
                      intro v3 w3 o3 e3 _
                      have o4 := sl_of (E := metaE) ((ys.take (j + 1)).filter fun m => m.file != n) o3 (by rw [hyes.out]; simp) (by rw [hyes.out]; simp [metaE, Enc.flat])
                      obtain ⟨A4, n4, k4, rfl⟩ := sl_shape o4
                      have o4H := hid o4
                      clear o3 o4 cl' d0' d1' d2' d3' d4'
                      go_wp2_with fail
                      go_roundw
                      case rel => exact ⟨j + 1, by go_num, by omega, o4H.out, (eyH.out.alloc _).trans e3⟩
                      case measure => simp [intOf]; omega
                  · have ho : Hid (Own wz [sl 43 metaE (SlA.v ⟨A2, n2, c2⟩) (ys.filter fun m => m.file != n), base wq wq.heap.size]) := hid (by have := ojH.out; rwa [List.take_of_length_le (by omega)] at this)
                    have vt := hid (hvH.out.turn hl4 kj.out ho.out (Nat.le_trans (List.length_filter_le _ _) hfew))
                    have vt2 : Hid (RvO Z (wz.setCell ⟨p, l, none⟩ (.slice A2 n2 c2)) w0 p _ { V with lv := filtK lv n (l + 1) } _) := hid (by have := vt.out; rw [hfu.out] at this; exact this)
                    have dj : decide (j < ys.length) = false := decide_eq_false hjl
                    have fz : wz.frozen? ⟨p, l, none⟩ = false := kj.out.free hpl (hvH.out.own.free l)
                    have c0t := hid (vt2.out.base.cell eH.out.1)
                    have dnt := hid (vt2.out.base.rd hg0.out)
                    obtain ⟨gg2, goff2, hA2, _, dn2⟩ := rd_num dnt.out rfl hnH.out
                    simp only [Option.some.injEq, Addr.mk.injEq, and_true] at hA2
                    obtain ⟨rfl, rfl⟩ := hA2
                    have dn2H := hid dn2
                    clear hjl vt ho dnt dn2 c0 dn
                    go_wp2_with fail
                    go_roundw
                    case rel => exact ⟨l + 1, _, _, by go_num, by omega, vt2.out, c0t.out, dn2H.out⟩
                    case measure => simp [intOf]; omega
              · obtain rfl : l = 4 := by omega
                have hvC := hid (hvH.out.cong (fun i hi => filtK_end lv n hi))
                go_wp2_with fail
                go_roundw
                case rel => exact ⟨k + 1, S3, _, D3, by go_num, by omega, hgo1.out, hvC.out⟩
                case measure => simp [intOf]; omega
        · obtain rfl : k = E.gone.length := by omega
          have hgo2 := hgoH.out
          rw [List.take_length] at hgo2
          have hgo3 := hid hgo2
          clear hgo2
          go_wp2_with fail
          go_meet
          case rel => exact ⟨S2, lv, D2, hgo3.out, hvH.out⟩
    case rest =>
    obtain ⟨S2, lv, D2, hgo, hv⟩ := hcut
    clear hvH
    have hvH := hid hv
    have hgoH := hid hgo
    clear hv hgo
    rename_i K aK
    refine aK _ _ ?_
    refine wp_code_eq (C' := tailAt 4 (Tryz.f10.body.getD .skip)) (by kernel_rfl) ?_
    exact rapply_b4 Z pv S V ⟨gA, E.gone.length, gc⟩ SE E w w0 res eb p wc S2 lv D2 hHH hVH hEH hglH k0 eH elH hallH hres hgoH hvH
set_option maxRecDepth 20000 in
set_option maxHeartbeats 25600000 in
theorem rapplyZ_c (Z : SlA → List MetaM → Prop) (pv : Nat) (S : Nat → SlA) (V : VerM) (g : SlA) (SE : Nat → SlA) (E : EditM) (w : World) (h : VerR w pv S V) (hZ : ∀ l, l < 4 → Z (S l) (V.lv l)) (hV : VOk V) (hE : EditR w g SE E) (hgl : E.gone.length ≤ 100000) :
    Calls Tryz.prog 10 #[.pointer (some ⟨pv, 0, none⟩), editV g SE E] w fun e w' => RApplyO Z w w' e (applyP V E) := by
  have hZH := hid hZ
  clear hZ
  have r1 := hid (@apply_form V E)
  obtain ⟨res, hre⟩ : ∃ r, applyP V E = r := ⟨_, rfl⟩
  have hres := hid hre
  rw [hre] at r1 ⊢
  clear hre
  have hHH := hid h
  have hVH := hid hV
  have hEH := hid hE
  have hglH := hid hgl
  have o0 := (Own.start w).alloc (.cells (editCells g SE E) 34 (0, 0))
  have k0 := hid ((Kp.refl w).alloc (.cells (editCells g SE E) 34 (0, 0)))
  have e0 := o0.cell (i := 0) (v := .slice g.A g.n g.c) rfl
  have e5 := o0.cell (i := 5) (v := .int .u64 E.next) rfl
  have e6 := o0.cell (i := 6) (v := .int .u64 E.log) rfl
  have e7 := o0.cell (i := 7) (v := .int .u64 E.seq) rfl
  have elv : ∀ l, l < 4 → (w.alloc (.cells (editCells g SE E) 34 (0, 0))).cell? ⟨w.heap.size, 1 + l, none⟩ = some (.slice (SE l).A (E.nw l).length (SE l).c) := fun l hl => by
    rw [← rd_n (hE.nw l hl)]
    exact o0.cell (edit_at g SE E hl)
  rw [rd_num_n hE.gone] at e0
  clear h hV hE hgl o0
  unfold editV
  go_enter Tryz.func10, Tryz.ntmps10
  go_upto_block 0 with fail
  obtain ⟨w0, hw0⟩ : ∃ w0, w0 = w.alloc (.cells (editCells g SE E) 34 (0, 0)) := ⟨_, rfl⟩
  have hw0' := hw0
  unfold editCells at hw0'
  rw [← hw0'] 
  rw [← hw0] at k0 e0 e5 e6 e7 elv
  clear hw0'
  generalize heb : w.heap.size = eb at *
  have eH := hid (And.intro e0 (And.intro e5 (And.intro e6 e7)))
  have elH := hid elv
  clear e0 e5 e6 e7 elv hw0 heb
  go_cut [6, 7] from 21 to 42 (fun _ _ wc => allB E.nw = true ∧ Kp w0 wc)
  case first =>
    go_wp2_with fail
    go_loopw [4, 5, 6] (fun _ _ i wr => ∃ k : Nat, i = .int .i64 k ∧ k ≤ 4 ∧ Kp w0 wr ∧ ∀ l, l < k → ∀ m ∈ E.nw l, mayB m = true) (fun _ _ i _ => 4 - (intOf i).toNat)
    case atStart => exact ⟨0, rfl, by omega, Kp.refl _, fun l hl => by omega⟩
    case round =>
      obtain ⟨k, rfl, hk, kr, hp⟩ := hrel
      have krH := hid kr
      have hpH := hid hp
      clear kr hp
      by_cases hlt : k < 4
      · have hlt' : (k : Int) < 4 := by omega
        have el := krH.out.cell (elH.out k hlt)
        have hrd := hid ((k0.out.trans krH.out).rd (hEH.out.nw k hlt))
        have hfew := hEH.out.few k hlt
        have hst : Hid ((∀ m ∈ E.nw k, mayB m = true) → ∀ l, l < k + 1 → ∀ m ∈ E.nw l, mayB m = true) := hid (fun h l hl => by
          rcases (by omega : l < k ∨ l = k) with e | rfl
          · exact hpH.out l e
          · exact h)
        have hno := hid (fun m hm => @allB_no E.nw k hlt m hm)
        unfold SlA.v at hrd
        rw [rd_n (s := ⟨(SE k).A, (SE k).n, (SE k).c⟩) hrd.out] at hrd
        have hR0 : Hid (Kp w0 w0) := hid (Kp.refl w0)
        have hrd0 := hid (k0.out.rd (hEH.out.nw k hlt))
        unfold SlA.v at hrd0
        rw [rd_n (s := ⟨(SE k).A, (SE k).n, (SE k).c⟩) hrd0.out] at hrd0
        generalize E.nw k = ys at *
        generalize hA : SE k = sA at *
        have hAH := hid hA
        clear hA
        have hy63 : ys.length ≤ 9223372036854775807 := by omega
        have elH2 := hid (fun (wz : World) (kz : Kp w0 wz) => (elH.out k hlt))
        clear elH2
        go_wp2_with fail
        go_loopw [4, 5, 7] (fun _ _ i wr => ∃ j : Nat, i = .int .i64 j ∧ j ≤ ys.length ∧ Kp w0 wr ∧ wr.cell? ⟨eb, 1 + k, none⟩ = some (.slice sA.A ys.length sA.c) ∧ ∀ m ∈ ys.take j, mayB m = true) (fun _ _ i _ => ys.length - (intOf i).toNat)
        case atStart => exact ⟨0, rfl, Nat.zero_le _, krH.out, el, by simp⟩
        case round =>
          clear el
          obtain ⟨j, rfl, hj, kq, el, hq⟩ := hrel
          have kqH := hid kq
          have hqH := hid hq
          clear kq hq
          by_cases hjl : j < ys.length
          · have hx : ys[j]? = some ys[j] := List.getElem?_eq_getElem hjl
            obtain ⟨gq, offq, hAq, _, d0, d1, d2, d3, d4⟩ := rd_meta (kqH.out.rd hrd0.out) rfl hx
            have hjl' : (j : Int) < (ys.length : Int) := by omega
            have hxm := hid (List.mem_of_getElem? hx)
            have htk := hid (List.take_succ_eq_append_getElem hjl)
            have hmay := hid (rmay_c ys[j])
            generalize ys[j] = x at *
            clear hx
            rw [hAq] at el
            unfold metaV at hmay
            go_wp2_with fail
            refine (hmay.out _).mono ?_
            rintro e w3 ⟨rfl, k3⟩
            have k3H := hid (kqH.out.trans k3)
            have el3 := hid (k3.cell el)
            clear k3 el d0 d1 d2 d3 d4 hmay
            rcases bool_ways (mayB x) with hm | hm
            · rw [hm]
              have hr := hid (r1.out (hno.out x hxm.out hm))
              go_wp2_with fail
              go_ret2
              exact ⟨k0.out.trans k3H.out, by rw [hr.out]; rfl⟩
            · rw [hm]
              have hmH := hid hm
              clear hm
              go_wp2_with fail
              go_roundw
              case rel =>
                refine ⟨j + 1, by go_num, by omega, k3H.out, by rw [hAq]; exact el3.out, fun y hy => ?_⟩
                rw [htk.out] at hy
                rcases List.mem_append.1 hy with h | h
                · exact hqH.out y h
                · obtain rfl := List.mem_singleton.1 h; exact hmH.out
              case measure => simp [intOf]; omega
          · have hdone := hid (hst.out (fun x hx => hqH.out x (by rw [List.take_of_length_le (by omega)]; exact hx)))
            have dj : decide (j < ys.length) = false := decide_eq_false hjl
            clear hjl
            go_wp2_with fail
            go_roundw
            case rel => exact ⟨k + 1, by go_num, by omega, kqH.out, hdone.out⟩
            case measure => simp [intOf]; omega
      · obtain rfl : k = 4 := by omega
        have hall := hid (allB_of hpH.out)
        go_wp2_with fail
        go_meet
        case rel => exact ⟨hall.out, krH.out⟩
  case rest =>
    obtain ⟨hall, kc⟩ := hcut
    have hallH := hid hall
    have kcH := hid kc
    clear hall kc
    have v0 := (k0.out.trans kcH.out).cell (hHH.out.lvl 0 (by omega))
    have v1 := (k0.out.trans kcH.out).cell (hHH.out.lvl 1 (by omega))
    have v2 := (k0.out.trans kcH.out).cell (hHH.out.lvl 2 (by omega))
    have v3 := (k0.out.trans kcH.out).cell (hHH.out.lvl 3 (by omega))
    have v4 := (k0.out.trans kcH.out).cell hHH.out.next
    have v5 := (k0.out.trans kcH.out).cell hHH.out.log
    have v6 := (k0.out.trans kcH.out).cell hHH.out.seq
    have vo : Hid (RvO Z (wc.alloc (.cells (verCells S V) 63 (0, 0))).drew w0 wc.heap.size S V []) := hid ⟨(rebase1 ((Own.start wc).alloc (.cells (verCells S V) 63 (0, 0))) kcH.out.base).drew, fun l hl => rd_base (k0.out.rd (hHH.out.rd l hl)), hHH.out.few, (kcH.out.ext.alloc _).drew, fun l hl => .inr (hZH.out l hl)⟩
    unfold verCells at vo
    go_upto_region 9 with fail
    go_cut [8] from 43 to 60 (fun s8 wx => ∃ p, s8 = .pointer (some ⟨p, 0, none⟩) ∧ RvO Z wx w0 p S V [])
    case first =>
      go_region
      all_goals
        (try go_wp2_with fail)
        go_meet
        case rel => exact ⟨_, rfl, vo.out⟩
    case rest =>
    obtain ⟨p, rfl, hv⟩ := hcut
    have hvH := hid hv
    clear hv vo v0 v1 v2 v3 v4 v5 v6
    rename_i K aK
    refine aK _ _ ?_
    refine wp_code_eq (C' := tailAt 3 (Tryz.f10.body.getD .skip)) (by kernel_rfl) ?_
    exact rapply_b3 Z pv S V g SE E w w0 res eb p wc hHH hVH hEH hglH k0 eH elH hallH hres hvH
theorem rapply_c (pv : Nat) (S : Nat → SlA) (V : VerM) (g : SlA) (SE : Nat → SlA) (E : EditM) (w : World) (h : VerR w pv S V) (hV : VOk V) (hE : EditR w g SE E) (hgl : E.gone.length ≤ 100000) :
    Calls Tryz.prog 10 #[.pointer (some ⟨pv, 0, none⟩), editV g SE E] w fun e w' => ApplySays w w' e (applyP V E) := by
  refine (rapplyZ_c (fun _ _ => True) pv S V g SE E w h (fun _ _ => trivial) hV hE hgl).mono ?_
  rintro e w' ⟨k, h2⟩
  refine ⟨k, ?_⟩
  revert h2
  cases applyP V E with
  | inr c => exact id
  | inl W => rintro ⟨p, S, D, w0, he, _, hv⟩; exact ⟨p, S, he, hv.ver⟩
end Go.Proofs.YtdmdnhceiddcfaaGreat
