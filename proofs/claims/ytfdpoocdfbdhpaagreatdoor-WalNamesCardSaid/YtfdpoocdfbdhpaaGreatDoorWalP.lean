/- Logs on a disk, without the program. -/
import Derived.Test.YtfdpoocdfbdhpaaGreatDoorFsN
import Derived.Test.YtfdpoocdfbdhpaaGreatDoorFrmM
import Derived.Test.YtfdpoocdfbdhpaaGreatDoorWalM
set_option linter.all false
namespace Go.Scree
open Go.Lib

structure WLog where
  n : Nat
  size : Nat
  broken : Bool
def WLog.new (n : Nat) : WLog := ⟨n, 0, false⟩
def wMay (n : Nat) : Int := if 1099511627776 < n then 1 else 0
def wCreate (d : FDisk) (n : Nat) : FDisk × Int :=
  if 1099511627776 < n then (d, 1)
  else if (d.create (walName n)).2 = 0 then (d.create (walName n)).1.syncDir else d.create (walName n)
structure WAns where
  d : FDisk
  l : WLog
  e : Int
def wAdd (d : FDisk) (l : WLog) (t : List UInt8) : WAns :=
  if l.broken = true then ⟨d, l, 30⟩
  else if 8000 < t.length then ⟨d, l, 5⟩
  else if (d.append (walName l.n) (frameB t)).2 = 0 then
    if ((d.append (walName l.n) (frameB t)).1.sync (walName l.n)).2 = 0 then ⟨((d.append (walName l.n) (frameB t)).1.sync (walName l.n)).1, { l with size := l.size + (frameB t).length }, 0⟩
    else ⟨((d.append (walName l.n) (frameB t)).1.sync (walName l.n)).1, { l with broken := true }, ((d.append (walName l.n) (frameB t)).1.sync (walName l.n)).2⟩
  else ⟨(d.append (walName l.n) (frameB t)).1, { l with broken := !((d.append (walName l.n) (frameB t)).2 == 12) }, (d.append (walName l.n) (frameB t)).2⟩
def wReplay (d : FDisk) (n : Nat) : List (List UInt8) × Int :=
  if 1099511627776 < n then ([], 1)
  else if (d.read (walName n)).2 = 0 then (allF (d.read (walName n)).1, 0) else ([], (d.read (walName n)).2)
def wRemove (d : FDisk) (n : Nat) : FDisk × Int := if 1099511627776 < n then (d, 1) else d.remove (walName n)
def wNumbers (d : FDisk) : List Nat := ((d.now.map (·.1)).filterMap walNumber).mergeSort

end Go.Scree
