/- What a registry of leases does, as plain functions on lists and numbers. -/
namespace Go.Scree

structure Lease where
  id : Int
  time : Int
  until_ : Int
  deriving DecidableEq

structure Reg where
  l : List Lease
  safe : Int
  next : Int

def MaxT : Int := 1099511627776
def timeB (n : Int) : Bool := decide (0 < n) && decide (n ≤ 1099511627776)
def livesB (now : Int) (x : Lease) : Bool := decide (now < x.until_)
def untilB (lease now : Int) : Bool := timeB lease && (decide (now ≤ 1099511627776) && decide (now + lease ≤ 1099511627776))
/-- A place in a list, or -1. -/
def idxI {α : Type} (p : α → Bool) (xs : List α) : Int := match xs.findIdx? p with | some i => i | none => -1

def Reg.drop (r : Reg) (now : Int) : Reg := { r with l := r.l.filter (livesB now) }
def Reg.new : Reg := ⟨[], 0, 1⟩
def Reg.find (r : Reg) (id : Int) : Option Nat := r.l.findIdx? (fun x => x.id == id)

/-- The registry behind, the number, the error. -/
def Reg.register (r : Reg) (t lease now : Int) : Reg × Int × Int :=
  if timeB t = false ∨ untilB lease now = false ∨ r.next = 1099511627776 then (r, 0, 3)
  else if t < r.safe then (r, 0, 26)
  else if (r.drop now).l.length = 5 then (r.drop now, 0, 4)
  else ({ r.drop now with l := (r.drop now).l ++ [⟨r.next, t, now + lease⟩], next := r.next + 1 }, r.next, 0)

def Reg.renew (r : Reg) (id lease now : Int) : Reg × Int :=
  match r.find id with
  | none => (r, 10)
  | some k =>
    let x := r.l.getD k ⟨0, 0, 0⟩
    if livesB now x = false then (r, 25)
    else if untilB lease now = false then (r, 3)
    else ({ r with l := r.l.set k { x with until_ := max x.until_ (now + lease) } }, 0)

def Reg.release (r : Reg) (id : Int) : Reg × Int :=
  match r.find id with
  | none => (r, 10)
  | some k => ({ r with l := r.l.eraseIdx k }, 0)

def Reg.check (r : Reg) (id now : Int) : Int × Int :=
  match r.find id with
  | none => (0, 10)
  | some k =>
    let x := r.l.getD k ⟨0, 0, 0⟩
    if livesB now x = false then (0, 25) else (x.time, 0)

def Reg.reads (r : Reg) (t now : Int) : Int :=
  if r.safe ≤ t ∨ r.l.any (fun h => h.time == t && livesB now h) = true then 0 else 26

def least (want : Int) (l : List Lease) : Int := l.foldl (fun a h => min a h.time) want

def Reg.advance (r : Reg) (want now : Int) : Reg :=
  { r.drop now with safe := max r.safe (least (min want 1099511627776) (r.drop now).l) }

/-- Are these leases that may be told? -/
def leasesOk (l : List Lease) : Bool := decide (l.length ≤ 5) && (l.all (fun x => timeB x.id && timeB x.time && decide (x.until_ ≤ 1099511627776)) && (List.range (l.length - 1)).all (fun i => decide ((l.getD i ⟨0,0,0⟩).id < (l.getD (i + 1) ⟨0,0,0⟩).id)))

end Go.Scree
