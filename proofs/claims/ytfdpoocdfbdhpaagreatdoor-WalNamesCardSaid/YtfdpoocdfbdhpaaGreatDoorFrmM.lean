/- Frames, as plain lists. -/
import Derived.Test.YtfdpoocdfbdhpaaGreatDoorNumT
set_option linter.all false
namespace Go.Scree

def markB (l : List UInt8) : UInt8 := l.foldl (fun m c => m ^^^ c) 165
def frameB (t : List UInt8) : List UInt8 := shortB t.length ++ (t ++ [markB t])
def framesB (ts : List (List UInt8)) : List UInt8 := ts.flatMap frameB
/-- What frame.Take reads. -/
def takeF (s : List UInt8) : Option (List UInt8 × List UInt8) :=
  match takeN s 0 0 with
  | none => none
  | some (n, r) => if 8000 < n ∨ r.length ≤ n then none else if r[n]? = some (markB (r.take n)) then some (r.take n, r.drop (n + 1)) else none
theorem takeF_len {s t r : List UInt8} (h : takeF s = some (t, r)) : r.length < s.length := by
  unfold takeF at h
  split at h
  · cases h
  · rename_i n q hq
    obtain ⟨p, e, hp⟩ := takeN_rest hq
    split at h
    · cases h
    · split at h
      · simp only [Option.some.injEq, Prod.mk.injEq] at h
        rw [← h.2, e, List.length_drop, List.length_append]; omega
      · cases h
/-- What frame.All reads. -/
def allF (s : List UInt8) : List (List UInt8) :=
  match h : takeF s with
  | none => []
  | some (t, r) => t :: allF r
termination_by s.length
decreasing_by exact takeF_len h
theorem allF_none {s : List UInt8} (h : takeF s = none) : allF s = [] := by
  rw [allF]
  split
  · rfl
  · rename_i h2; rw [h] at h2; cases h2
theorem allF_some {s t r : List UInt8} (h : takeF s = some (t, r)) : allF s = t :: allF r := by
  rw [allF]
  split
  · rename_i h2; rw [h] at h2; cases h2
  · rename_i h2; rw [h] at h2; cases h2; rfl
theorem takeF_nil : takeF [] = none := rfl
theorem allF_nil : allF [] = [] := allF_none takeF_nil
theorem frameB_len (t : List UInt8) : (frameB t).length = (shortB t.length).length + t.length + 1 := by simp [frameB]; omega
theorem takeF_frame {t : List UInt8} (h : t.length ≤ 8000) (r : List UInt8) : takeF (frameB t ++ r) = some (t, r) := by
  unfold takeF frameB
  rw [List.append_assoc, List.append_assoc, take_short (by omega)]
  dsimp only
  rw [if_neg (by simp; omega)]
  have h1 : (t ++ ([markB t] ++ r)).take t.length = t := List.take_left
  have h2 : (t ++ ([markB t] ++ r))[t.length]? = some (markB t) := by simp
  have h3 : (t ++ ([markB t] ++ r)).drop (t.length + 1) = r := by
    rw [← List.append_assoc]
    exact List.drop_left' (by simp)
  rw [h1, h2, h3, if_pos rfl]
/-- No frame's bytes are a beginning of another one's. -/
theorem takeF_cut {t : List UInt8} {k : Nat} (h : t.length ≤ 8000) (hk : k < (frameB t).length) : takeF ((frameB t).take k) = none := by
  unfold takeF
  by_cases hs : k < (shortB t.length).length
  · have e : (frameB t).take k = (shortB t.length).take k := by unfold frameB; exact List.take_append_of_le_length (by omega)
    rw [e, takeN_cut t.length t.length 0 0 _ (Nat.le_refl _) (by rw [List.length_take]; omega) (by rw [List.length_take, Nat.min_eq_left (by omega)])]
  · have e : (frameB t).take k = shortB t.length ++ (t ++ [markB t]).take (k - (shortB t.length).length) := by
      unfold frameB
      rw [List.take_append, List.take_of_length_le (by omega)]
    rw [e, take_short (by omega)]
    dsimp only
    rw [if_pos]
    rw [frameB_len] at hk
    right
    rw [List.length_take]; omega
theorem allF_frames {ts : List (List UInt8)} (h : ∀ t ∈ ts, t.length ≤ 8000) (r : List UInt8) : allF (framesB ts ++ r) = ts ++ allF r := by
  induction ts with
  | nil => rfl
  | cons t ts ih =>
    have e : framesB (t :: ts) ++ r = frameB t ++ (framesB ts ++ r) := by simp [framesB, List.append_assoc]
    rw [e, allF_some (takeF_frame (h t (List.mem_cons_self ..)) _), ih fun q hq => h q (List.mem_cons_of_mem _ hq)]
    rfl
theorem framesB_snoc (ts : List (List UInt8)) (t : List UInt8) : framesB (ts ++ [t]) = framesB ts ++ frameB t := by simp [framesB]
/-- Texts, and a beginning of one more. -/
theorem allF_keeps {ts : List (List UInt8)} {t : List UInt8} (h : ∀ q ∈ ts, q.length ≤ 8000) (ht : t.length ≤ 8000) (k : Nat) : allF (framesB ts ++ (frameB t).take k) = ts ∨ allF (framesB ts ++ (frameB t).take k) = ts ++ [t] := by
  rw [allF_frames h]
  by_cases hk : k < (frameB t).length
  · left; rw [allF_none (takeF_cut ht hk)]; simp
  · right
    rw [List.take_of_length_le (by omega)]
    have := takeF_frame ht []
    rw [List.append_nil] at this
    rw [allF_some this, allF_nil]
theorem shortB_small {n : Nat} (h : n ≤ 8000) : (shortB n).length ≤ 2 := shortB_len 1 n (by omega)
theorem frameB_small {t : List UInt8} (h : t.length ≤ 8000) : (frameB t).length ≤ 8003 := by rw [frameB_len]; have := shortB_small h; omega
end Go.Scree
