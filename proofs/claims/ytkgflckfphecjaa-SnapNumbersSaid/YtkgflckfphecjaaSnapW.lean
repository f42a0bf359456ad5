/- The first calls of each law of the registry: all answer as the document fixes. -/
import Derived.Test.YtkgflckfphecjaaSnapK
import Derived.Test.YtkgflckfphecjaaSnapI
import Derived.Test.YtkgflckfphecjaaSnapH
import Derived.Test.YtkgflckfphecjaaSnapE
namespace Go.Proofs.Ytkgflckfphecjaa
open Go.RowKit Go.Sl Go.Scree

def reg1 : Reg := ⟨[⟨1, 5, 10⟩], 0, 2⟩
def reg2 : Reg := ⟨[⟨1, 5, 10⟩], 5, 2⟩
def reg3 : Reg := ⟨[⟨1, 5, 23⟩], 5, 2⟩
def reg4 : Reg := ⟨[], 9, 2⟩
def reg5 : Reg := ⟨[], 5, 2⟩
theorem aw1 : Reg.new.register 5 10 0 = (reg1, 1, 0) := by rfl
theorem aw2 : reg1.advance 9 3 = reg2 := by rfl
theorem aw3 : reg2.reads 4 3 = 26 := by rfl
theorem aw4 : reg2.check 1 9 = (5, 0) := by rfl
theorem aw5 : reg2.check 1 10 = (0, 25) := by rfl
theorem aw6 : reg2.renew 1 20 3 = (reg3, 0) := by rfl
theorem aw7 : reg3.advance 9 23 = reg4 := by rfl
theorem aw8 : loadGood reg3.l 5 2 = true := by rfl
theorem aw9 : loadGood [] 0 0 = false := by rfl
theorem aw10 : reg3.release 1 = (reg5, 0) := by rfl
theorem aw11 : reg5.release 1 = (reg5, 10) := by rfl
theorem aw12 : reg4.l.filter (livesB 0) = [] := by rfl

theorem rd_gives (v : Value) (l : List Lease) : Gives [sl 54 leaseE v l] fun w => Rd w leaseE v l := fun w F o => sl_rd o

set_option maxRecDepth 20000 in
set_option maxHeartbeats 3200000 in
theorem awake_c (w : World) (F : List Chunk) (o : Own w F) :
    Calls Try.prog 10 #[] w fun e w' => e = .returned (.bool true) ∧ Own w' F ∧ Ext w w' := by
  have oH := hid o
  clear o
  go_enter Try.func10, Try.ntmps10
  go_wp2_with fail
  refine (new_c _ F oH.out).mono ?_
  rintro e w1 ⟨p, rfl, o1, e1⟩
  go_wp2_with fail
  refine Calls.mono (register_c p 5 10 0 Reg.new (by decide) (by decide) (by decide) (by decide) _ F o1) ?_
  rw [aw1]
  rintro e w2 ⟨rfl, o2, e2⟩
  clear o1
  go_wp2_with fail
  refine (advance_c p 9 3 reg1 (by decide) _ F o2).mono ?_
  rw [aw2]
  rintro e w3 ⟨rfl, o3, e3⟩
  clear o2
  go_wp2_with fail
  refine (reads_c p 4 3 reg2 _ F o3).mono ?_
  rw [aw3]
  rintro e w4 ⟨rfl, o4, e4⟩
  clear o3
  go_wp2_with fail
  refine (check_c p 1 9 reg2 _ F o4).mono ?_
  rw [aw4]
  rintro e w5 ⟨rfl, o5, e5⟩
  clear o4
  go_wp2_with fail
  refine (check_c p 1 10 reg2 _ F o5).mono ?_
  rw [aw5]
  rintro e w6 ⟨rfl, o6, e6⟩
  clear o5
  go_wp2_with fail
  refine Calls.mono (renew_c p 1 20 3 reg2 (by decide) _ F o6) ?_
  rw [aw6]
  rintro e w7 ⟨rfl, o7, e7⟩
  clear o6
  go_wp2_with fail
  refine (state_c p reg3 (by decide) _ F o7).mono ?_
  rw [show reg3.safe = 5 from rfl, show reg3.next = 2 from rfl, show reg3.l = [⟨1, 5, 23⟩] from rfl]
  rintro e w8 ⟨v, rfl, o8, e8⟩
  clear o7
  have o8' := o8.swap
  go_wp2_with fail
  refine (advance_c p 9 23 reg3 (by decide) _ _ o8').mono ?_
  rw [aw7]
  rintro e w9 ⟨rfl, o9, e9⟩
  clear o8 o8'
  have o9' := o9.swap
  obtain ⟨A, n, c, rfl⟩ := sl_shape o9'
  go_wp2_with fail
  refine Calls.mono (load_yes (D := [_]) _ [⟨1, 5, 23⟩] 5 2 (rd_gives _ _) (by decide) aw8 _ _ o9') ?_
  rintro e w10 ⟨q, rfl, o10, e10⟩
  clear o9 o9'
  go_wp2_with fail
  refine (load_no (D := []) (.slice none 0 0) [] 0 0 (fun w F o => .inl ⟨⟨none, 0, rfl, by simp [maxLen]⟩, rfl⟩) (by simp) aw9 _ _ o10).mono ?_
  rintro e w11 ⟨rfl, o11, e11⟩
  clear o10
  obtain ⟨g, cap, hv, hgl, _, _, _, d0, d1, d2, _⟩ := sl_get (k := 0) (x := ⟨1, 5, 23⟩) (Own.pick 1 o11) rfl
  simp only [Value.slice.injEq] at hv
  obtain ⟨rfl, rfl, rfl⟩ := hv
  simp only [Nat.zero_mul, Nat.zero_add] at d0 d1 d2
  have r1 : reg4.safe = 9 := rfl
  have r2 : (([⟨1, 5, 23⟩] : List Lease).length : Int) = 1 := rfl
  have o11H := hid o11
  clear o11
  go_wp2_with fail
  refine (release_c q 1 reg3 (by decide) _ _ o11H.out).mono ?_
  rw [aw10]
  rintro e w12 ⟨rfl, o12, e12⟩
  go_wp2_with fail
  refine (release_c q 1 reg5 (by decide) _ _ o12).mono ?_
  rw [aw11]
  rintro e w13 ⟨rfl, o13, e13⟩
  have o14 := Own.pick 2 o13
  go_wp2_with fail
  refine (live_c 0 p reg4 (by decide) _ _ o14).mono ?_
  rw [aw12]
  rintro e w15 ⟨v2, rfl, o15, e15⟩
  rcases sl_form o15 with ⟨rfl, _⟩ | ⟨g2, cap2, rfl, _, _⟩
  all_goals
    have o16 := Own.drop (Own.drop (Own.drop (Own.drop o15)))
    have o16H := hid o16
    clear o16 o15 o14 o13 o12
    go_wp2
    go_ret
    exact ⟨rfl, o16H.out, ((((((((((((e1.trans e2).trans e3).trans e4).trans e5).trans e6).trans e7).trans e8).trans e9).trans e10).trans e11).trans e12).trans e13).trans e15⟩
end Go.Proofs.Ytkgflckfphecjaa
