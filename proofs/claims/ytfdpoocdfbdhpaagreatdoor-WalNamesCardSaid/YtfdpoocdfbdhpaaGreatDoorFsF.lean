/- The walk of Create. -/
import Derived.Test.YtfdpoocdfbdhpaaGreatDoorFsE
set_option linter.all false
namespace Go.Proofs.YtfdpoocdfbdhpaaGreatDoor
open Go.RowKit Go.Sl Go.Scree Go.Maps

theorem adr_old {A : List Nat} {a i : Nat} (h : i < A.length) : adr (A ++ [a]) i = adr A i := by
  unfold adr; rw [List.getElem?_append_left h]
theorem adr_new {A : List Nat} {a : Nat} : adr (A ++ [a]) A.length = a := by simp [adr]
theorem Hist.ids {n : Nat} : ∀ {cs : List FChg} {d e : Dir Nat}, Hist n d cs e → ∀ c ∈ cs, ∀ i, c.f = some i → i < n
  | [], _, _, _, c, hc, _, _ => by simp at hc
  | b :: cs, _, _, h, c, hc, i, hi => by
    rcases List.mem_cons.1 hc with rfl | hc
    · have := h.2.1
      unfold FChg.fits at this
      rw [hi] at this
      exact this.1
    · exact Hist.ids h.2.2 c hc i hi
def roomyD (d : FDisk) : FDisk := { d with files := d.files ++ [⟨[], 0⟩] }
theorem chgE_old {A : List Nat} {a : Nat} {cs : List FChg} (h : ∀ c ∈ cs, ∀ i, c.f = some i → i < A.length) : (chgE (A ++ [a])).flat cs = (chgE A).flat cs := by
  induction cs with
  | nil => rfl
  | cons c cs ih =>
    have h1 := ih fun b hb => h b (List.mem_cons_of_mem _ hb)
    have h2 : (chgE (A ++ [a])).cells c = (chgE A).cells c := by
      simp only [chgE]
      congr 3
      cases hf : c.f with
      | none => rfl
      | some i => simp [adr_old (h c (List.mem_cons_self ..) i hf)]
    simp only [Enc.flat, List.flatMap_cons] at h1 ⊢
    rw [h1, h2]
theorem room_own {p m s : Nat} {pv : Value} {A : List Nat} {d : FDisk} {w : World} {F : List Chunk} {a : Nat} (hA : A.length = d.files.length) (hk : FOk d) (o : Own w (fileC a ⟨[], 0⟩ :: DX p m s pv A d F)) :
    Own w (DX p m s pv (A ++ [a]) (roomyD d) F) := by
  have e1 : dmap (adr (A ++ [a])) d.now = dmap (adr A) d.now := dmap_congr fun q hq => adr_old (by rw [hA]; exact hk.now.lt q hq)
  have e2 : dmap (adr (A ++ [a])) d.sure = dmap (adr A) d.sure := dmap_congr fun q hq => adr_old (by rw [hA]; exact hk.sure.lt q hq)
  have e3 : sl 92 (chgE (A ++ [a])) pv d.pending = sl 92 (chgE A) pv d.pending := by
    unfold sl
    rw [chgE_old (A := A) (a := a) fun c hc i hi => by rw [hA]; exact Hist.ids hk.hist c hc i hi]
    rfl
  have o2 : Own w (filesC A d.files :: fileC a ⟨[], 0⟩ :: pts p (diskO m s pv d) :: mapC m (dmap (adr A) d.now) :: mapC s (dmap (adr A) d.sure) :: sl 92 (chgE A) pv d.pending :: F) := o.arr [5, 0, 1, 2, 3, 4]
  have o3 : Own w (filesC (A ++ [a]) (d.files ++ [⟨[], 0⟩]) :: pts p (diskO m s pv d) :: mapC m (dmap (adr A) d.now) :: mapC s (dmap (adr A) d.sure) :: sl 92 (chgE A) pv d.pending :: F) := by
    refine Own.unstars (cs := fileCs (A ++ [a]) (d.files ++ [⟨[], 0⟩])) ?_
    have : fileCs (A ++ [a]) (d.files ++ [⟨[], 0⟩]) = fileCs A d.files ++ [fileC a ⟨[], 0⟩] := by
      unfold fileCs
      rw [List.zipWith_append hA]; rfl
    rw [this, List.append_assoc]
    exact o2.stars
  unfold DX
  rw [show (roomyD d).now = d.now from rfl, show (roomyD d).sure = d.sure from rfl, show (roomyD d).pending = d.pending from rfl, e1, e2, e3]
  exact o3.arr [1, 2, 3, 4, 0]
theorem roomy_ok {d : FDisk} (h : FOk d) : FOk (roomyD d) := h.room

theorem may_is {s : ByteArray} {b : Bool} (h : mayB s = b) (w : World) (hs : s.size ≤ maxLen) : Calls Tryz.prog 75 #[.string s] w fun e w' => e = .returned (.bool b) ∧ w' = w := by
  subst h; exact may_c s w hs

/-- What is looked up by a name. -/
def FoundIs (m : Nat) (name : ByteArray) (w : World) (v : Value) (b : Bool) : Prop := (Instr.lookup 80 (.map (some m)) (.string name) true).run Tryz.prog w = .ok (.tuple #[v, .bool b]) w
theorem found_some {w : World} {F : List Chunk} {m : Nat} {A : List Nat} {dir : Dir Nat} {name : ByteArray} {i : Nat} (o : Own w (mapC m (dmap (adr A) dir) :: F)) (hn : name.size ≤ maxLen) (h : dget dir name = some i) : FoundIs m name w (.pointer (some ⟨adr A i, 0, none⟩)) true :=
  look_some o hn (by rw [dget_map, h]; rfl)
theorem found_none {w : World} {F : List Chunk} {m : Nat} {A : List Nat} {dir : Dir Nat} {name : ByteArray} (o : Own w (mapC m (dmap (adr A) dir) :: F)) (hn : name.size ≤ maxLen) (h : dget dir name = none) : FoundIs m name w (.pointer none) false :=
  look_none o hn (by rw [dget_map, h]; rfl)

def CreateSays (p : Nat) (d : FDisk) (name : ByteArray) (w : World) (F : List Chunk) (r : FDisk × Int) : Prop :=
  Calls Tryz.prog 48 #[.pointer (some ⟨p, 0, none⟩), .string name] w fun e w' => e = .returned (.int .i64 r.2) ∧ Own w' (diskC p r.1 :: F) ∧ Ext w w'
set_option maxRecDepth 20000 in
set_option maxHeartbeats 1600000 in
theorem create_c (p : Nat) (d : FDisk) (name : ByteArray) (w : World) (F : List Chunk) (hn : name.size ≤ maxLen) (hb : d.pending.length ≤ bigN) (o : Own w (diskC p d :: F)) : CreateSays p d name w F (d.create name) := by
  have oD := hid o
  obtain ⟨m, s, pv, A, hA, hk, o⟩ := diskC_open o
  obtain ⟨⟨c0, c1, c2, c3, c4, c5, c6⟩, fr⟩ := disk_cells o
  have o1 := Own.swap o
  have ln := dir_len o1
  rw [dmap_len] at ln
  have nH := hid hn
  have hf : ∃ v b, FoundIs m name w v b ∧ ((dget d.now name).isSome = b) := by
    cases hg : dget d.now name with
    | none => exact ⟨_, _, found_none o1 hn hg, rfl⟩
    | some i => exact ⟨_, _, found_some o1 hn hg, rfl⟩
  obtain ⟨v, b, lk, hv⟩ := hf
  unfold FoundIs at lk
  have oX := hid o
  have kH := hid hk
  have aH := hid hA
  have bH := hid hb
  clear o o1 c1 c2 c3 c4 c5 c6 fr hk hA hb
  rcases bool_cases (mayB name) with hm | hm
  · have hmc := fun w => may_is hm w hn
    have hcr : Hid (d.create name = if (dget d.now name).isSome = true then (d, 11) else if 60 ≤ d.now.length then (d, 4) else (roomyD d).changes ⟨noName, name, some d.files.length⟩) := hid (by
      unfold FDisk.create
      rw [if_neg (by rw [hm]; simp)]; rfl)
    have mH := hid hm
    have cH := hid hmc
    clear hm hmc hn
    cases b with
    | true =>
      have hc2 : d.create name = (d, 11) := by rw [hcr.out, if_pos hv]
      rw [hc2]
      unfold CreateSays
      clear hc2 hcr hv
      go_enter Tryz.func48, Tryz.ntmps48
      go_wp2_with fail
      refine (cH.out _).mono ?_
      rintro e w1 ⟨rfl, rfl⟩
      go_wp2
      go_ret
      exact ⟨rfl, oD.out, Ext.refl _⟩
    | false =>
      have hc2 : d.create name = if 60 ≤ d.now.length then (d, 4) else (roomyD d).changes ⟨noName, name, some d.files.length⟩ := by rw [hcr.out, if_neg (by rw [hv]; simp)]
      have hvH := hid hv
      clear hv hcr
      by_cases h60 : 60 ≤ d.now.length
      · rw [if_pos h60] at hc2
        rw [hc2]
        unfold CreateSays
        clear hc2
        go_enter Tryz.func48, Tryz.ntmps48
        go_wp2_with fail
        refine (cH.out _).mono ?_
        rintro e w1 ⟨rfl, rfl⟩
        go_wp2
        go_ret
        exact ⟨rfl, oD.out, Ext.refl _⟩
      · rw [if_neg h60] at hc2
        rw [hc2]
        have fits : Hid ((FChg.mk noName name (some d.files.length)).fits (roomyD d).now (roomyD d).files.length) := hid (create_fits kH.out mH.out hvH.out h60)
        have hnot : d.now.length < 60 := by omega
        have hfile := hid (room_own (a := w.heap.size) aH.out kH.out (fileC_close (f := ⟨[], 0⟩) (v := .slice none 0 0) (Own.swap (sl_nil 5 byteE (oX.out.alloc (.cells #[.slice none 0 0, .int .i64 0] 96 (0, 0)))))))
        have hcon := changes_c p m s pv (A ++ [w.heap.size]) ⟨noName, name, some d.files.length⟩ (roomyD d) _ _ (by simp [roomyD, aH.out]) (roomy_ok kH.out) fits.out (Nat.zero_le _) nH.out bH.out hfile.out
        unfold chgV at hcon
        have had : adr (A ++ [w.heap.size]) d.files.length = w.heap.size := by rw [← aH.out]; exact adr_new
        simp only [Option.map_some, had] at hcon
        have hconH := hid hcon
        unfold CreateSays
        clear hc2 hcon had h60
        go_enter Tryz.func48, Tryz.ntmps48
        go_wp2_with fail
        refine (cH.out _).mono ?_
        rintro e w1 ⟨rfl, rfl⟩
        go_wp2_with fail
        refine hconH.out.mono ?_
        rintro e w2 ⟨rfl, o2, e2⟩
        have o2H := hid o2
        clear o2
        go_wp2
        go_ret
        exact ⟨rfl, o2H.out, ((Ext.refl _).alloc _).trans e2⟩
  · have hc2 : d.create name = (d, 20) := by
      unfold FDisk.create
      rw [if_pos hm]
    rw [hc2]
    have cH := hid (fun w => may_is hm w hn)
    unfold CreateSays
    clear hc2 hm hn hv
    go_enter Tryz.func48, Tryz.ntmps48
    go_wp2_with fail
    refine (cH.out _).mono ?_
    rintro e w1 ⟨rfl, rfl⟩
    go_wp2
    go_ret
    exact ⟨rfl, oD.out, Ext.refl _⟩

end Go.Proofs.YtfdpoocdfbdhpaaGreatDoor
