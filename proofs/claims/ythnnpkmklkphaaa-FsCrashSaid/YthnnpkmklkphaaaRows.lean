/-
  No cell of these rows narrows 'for every input' (looked for: loops, veiled, ifaces, maps, wideKeys, modest, calm, conditions, laid).
  DERIVED. THE GIVEN ROWS OF THIS SEAT. 5 by the template 'for every input the law returns true; each argument reads behind the call as it read before'; 0 by the template 'total and deterministic' (their statements: YthnnpkmklkphaaaTotals.lean).
  GIVEN WITH THE SEED: the statements are not yours to turn. If you find one false, say at which input.
  Laid BY PROGRAM, IN A SANDBOX (cutbox-rows.mjs): the forced cells as the released guide's own fill.sh prints them over the translation 32b7ce59ed49badc… (all of the seat's roots in one cut). By AI agents, Wed Nov 11 2026. No macro, syntax, notation, axiom, sorry.
-/
import Derived.Test.YthnnpkmklkphaaaChecked
import GoSem.Claim
import GoSem.ClaimJoined
import GoSem.ClaimMapViews
import Derived.JoinedTies
import Derived.KernelRfl
namespace Go.Proofs.Ythnnpkmklkphaaa
/- THE CELL 'sum', in the pinned program and in every row, IS THE sha256 OF THE DUMP (.gsa) THAT YthnnpkmklkphaaaProg.lean LOADS. Nothing in Lean hashes anything: it is a label: what it is worth is what the hold of that sum in a sandbox is worth. -/
noncomputable def Try.pinned : Pinned := { name := "ythnnpkmklkphaaa", sum := "32b7ce59ed49badc16896ff6fdb663ec0ba7e46e98f3f1e41b59c5bab37985a2", checked := Try.checked }
namespace Rows
def none {H : Type} : Left H := { results := [], args := [] }

/-- 'screelaw03.FsSure': WHATEVER THE INPUT: true; the input reads as it did. -/
def fsSureSpec : ChangeSpec := { name := "fsSure", fn := fun _ => fun
  | [d1, d2, d3, d4, d5, d6] => { results := [.lit (.bool true)], args := [d1, d2, d3, d4, d5, d6] }
  | _ => none }
def fsSureRow : OpenClaim := { program := "ythnnpkmklkphaaa", sum := "32b7ce59ed49badc16896ff6fdb663ec0ba7e46e98f3f1e41b59c5bab37985a2", func := "scree/screelaw03.FsSure", spec := "fsSure", inPlace := ["maps.clone"], unfollowed := true, recurses := true, apart := false }
def FsSureSaid : Prop := fsSureRow.holds Try.pinned (OpenSpec.ofChange fsSureSpec)

/-- ITS FALSE NEIGHBOUR: 'it returns false'. Refute it at one input. -/
def fsSureWrong : ChangeSpec := { name := "fsSure", fn := fun _ => fun
  | [d1, d2, d3, d4, d5, d6] => { results := [.lit (.bool false)], args := [d1, d2, d3, d4, d5, d6] }
  | _ => none }
def FsSureWrongFalsely : Prop := fsSureRow.holds Try.pinned (OpenSpec.ofChange fsSureWrong)

/-- 'screelaw03.FsDead': WHATEVER THE INPUT: true; the input reads as it did. -/
def fsDeadSpec : ChangeSpec := { name := "fsDead", fn := fun _ => fun
  | [d] => { results := [.lit (.bool true)], args := [d] }
  | _ => none }
def fsDeadRow : OpenClaim := { program := "ythnnpkmklkphaaa", sum := "32b7ce59ed49badc16896ff6fdb663ec0ba7e46e98f3f1e41b59c5bab37985a2", func := "scree/screelaw03.FsDead", spec := "fsDead", inPlace := ["maps.clone"], unfollowed := true, recurses := true, apart := false }
def FsDeadSaid : Prop := fsDeadRow.holds Try.pinned (OpenSpec.ofChange fsDeadSpec)

/-- ITS FALSE NEIGHBOUR: 'it returns false'. Refute it at one input. -/
def fsDeadWrong : ChangeSpec := { name := "fsDead", fn := fun _ => fun
  | [d] => { results := [.lit (.bool false)], args := [d] }
  | _ => none }
def FsDeadWrongFalsely : Prop := fsDeadRow.holds Try.pinned (OpenSpec.ofChange fsDeadWrong)

/-- 'screelaw03.FsNames': WHATEVER THE INPUT: true; the input reads as it did. -/
def fsNamesSpec : ChangeSpec := { name := "fsNames", fn := fun _ => fun
  | [d] => { results := [.lit (.bool true)], args := [d] }
  | _ => none }
def fsNamesRow : OpenClaim := { program := "ythnnpkmklkphaaa", sum := "32b7ce59ed49badc16896ff6fdb663ec0ba7e46e98f3f1e41b59c5bab37985a2", func := "scree/screelaw03.FsNames", spec := "fsNames", inPlace := ["maps.clone"], unfollowed := true, recurses := true, apart := false }
def FsNamesSaid : Prop := fsNamesRow.holds Try.pinned (OpenSpec.ofChange fsNamesSpec)

/-- ITS FALSE NEIGHBOUR: 'it returns false'. Refute it at one input. -/
def fsNamesWrong : ChangeSpec := { name := "fsNames", fn := fun _ => fun
  | [d] => { results := [.lit (.bool false)], args := [d] }
  | _ => none }
def FsNamesWrongFalsely : Prop := fsNamesRow.holds Try.pinned (OpenSpec.ofChange fsNamesWrong)

/-- 'screelaw03.FsCrash': WHATEVER THE INPUT: true; the input reads as it did. -/
def fsCrashSpec : ChangeSpec := { name := "fsCrash", fn := fun _ => fun
  | [d1, d2, d3] => { results := [.lit (.bool true)], args := [d1, d2, d3] }
  | _ => none }
def fsCrashRow : OpenClaim := { program := "ythnnpkmklkphaaa", sum := "32b7ce59ed49badc16896ff6fdb663ec0ba7e46e98f3f1e41b59c5bab37985a2", func := "scree/screelaw03.FsCrash", spec := "fsCrash", inPlace := ["maps.clone"], unfollowed := true, recurses := true, apart := false }
def FsCrashSaid : Prop := fsCrashRow.holds Try.pinned (OpenSpec.ofChange fsCrashSpec)

/-- ITS FALSE NEIGHBOUR: 'it returns false'. Refute it at one input. -/
def fsCrashWrong : ChangeSpec := { name := "fsCrash", fn := fun _ => fun
  | [d1, d2, d3] => { results := [.lit (.bool false)], args := [d1, d2, d3] }
  | _ => none }
def FsCrashWrongFalsely : Prop := fsCrashRow.holds Try.pinned (OpenSpec.ofChange fsCrashWrong)

/-- 'screelaw03.FsLoose': WHATEVER THE INPUT: true; the input reads as it did. -/
def fsLooseSpec : ChangeSpec := { name := "fsLoose", fn := fun _ => fun
  | [d] => { results := [.lit (.bool true)], args := [d] }
  | _ => none }
def fsLooseRow : OpenClaim := { program := "ythnnpkmklkphaaa", sum := "32b7ce59ed49badc16896ff6fdb663ec0ba7e46e98f3f1e41b59c5bab37985a2", func := "scree/screelaw03.FsLoose", spec := "fsLoose", inPlace := ["maps.clone"], unfollowed := true, recurses := true, apart := false }
def FsLooseSaid : Prop := fsLooseRow.holds Try.pinned (OpenSpec.ofChange fsLooseSpec)

/-- ITS FALSE NEIGHBOUR: 'it returns false'. Refute it at one input. -/
def fsLooseWrong : ChangeSpec := { name := "fsLoose", fn := fun _ => fun
  | [d] => { results := [.lit (.bool false)], args := [d] }
  | _ => none }
def FsLooseWrongFalsely : Prop := fsLooseRow.holds Try.pinned (OpenSpec.ofChange fsLooseWrong)

/- THE SECOND FORM. 'bulk': how many values and letters a reading holds, each counted each time it is reached (what is shared counts as often as it is met; a slice's spare places count too). A statement '..UptoSaid' is the law's where the arguments, and the package variables that the reading takes, are together of bulk at most 1048576: NARROWER than '..Said'. Prove '..Said' where nothing that the law and all that it calls make is longer than what came in: it says more and counts as full. Else prove '..UptoSaid'. A law counts once. -/
mutual
def uptoBulk {H : Type} : DataW H → Nat
  | .lit (.string bytes) => bytes.length + 1
  | .lit _ => 1
  | .nil => 1
  | .ptr d => uptoBulk d + 1
  | .slice elems spare => uptoBulkAll elems + uptoBulkAll spare + 1
  | .agg parts => uptoBulkAll parts + 1
  | .iface _ d => uptoBulk d + 1
  | .map entries => uptoBulkEntries entries + 1
  | .held _ => 1
def uptoBulkAll {H : Type} : List (DataW H) → Nat
  | [] => 0
  | d :: r => uptoBulk d + uptoBulkAll r
def uptoBulkEntries {H : Type} : List (Lit × DataW H) → Nat
  | [] => 0
  | x :: r => uptoBulkEntry x + uptoBulkEntries r
def uptoBulkEntry {H : Type} : Lit × DataW H → Nat
  | (.string bytes, d) => bytes.length + uptoBulk d + 1
  | (_, d) => uptoBulk d + 1
 end
def uptoSmall : (H : Type) → List (DataW H) → Bool := fun _ ds => decide (uptoBulkAll ds ≤ 1048576)
def OpenSpec.upto (s : _root_.Go.ChangeSpec) : _root_.Go.OpenSpec := { _root_.Go.OpenSpec.ofChange s with cond := some uptoSmall }

/-- 'screelaw03.FsSure', WHERE WHAT IT READS IS OF BULK AT MOST 1048576: true; the input reads as it did. -/
def fsSureUptoRow : OpenClaim := { program := "ythnnpkmklkphaaa", sum := "32b7ce59ed49badc16896ff6fdb663ec0ba7e46e98f3f1e41b59c5bab37985a2", func := "scree/screelaw03.FsSure", spec := "fsSure", inPlace := ["maps.clone"], unfollowed := true, recurses := true, apart := false, narrowed := true }
def FsSureUptoSaid : Prop := fsSureUptoRow.holds Try.pinned (OpenSpec.upto fsSureSpec)

/-- 'screelaw03.FsDead', WHERE WHAT IT READS IS OF BULK AT MOST 1048576: true; the input reads as it did. -/
def fsDeadUptoRow : OpenClaim := { program := "ythnnpkmklkphaaa", sum := "32b7ce59ed49badc16896ff6fdb663ec0ba7e46e98f3f1e41b59c5bab37985a2", func := "scree/screelaw03.FsDead", spec := "fsDead", inPlace := ["maps.clone"], unfollowed := true, recurses := true, apart := false, narrowed := true }
def FsDeadUptoSaid : Prop := fsDeadUptoRow.holds Try.pinned (OpenSpec.upto fsDeadSpec)

/-- 'screelaw03.FsNames', WHERE WHAT IT READS IS OF BULK AT MOST 1048576: true; the input reads as it did. -/
def fsNamesUptoRow : OpenClaim := { program := "ythnnpkmklkphaaa", sum := "32b7ce59ed49badc16896ff6fdb663ec0ba7e46e98f3f1e41b59c5bab37985a2", func := "scree/screelaw03.FsNames", spec := "fsNames", inPlace := ["maps.clone"], unfollowed := true, recurses := true, apart := false, narrowed := true }
def FsNamesUptoSaid : Prop := fsNamesUptoRow.holds Try.pinned (OpenSpec.upto fsNamesSpec)

/-- 'screelaw03.FsCrash', WHERE WHAT IT READS IS OF BULK AT MOST 1048576: true; the input reads as it did. -/
def fsCrashUptoRow : OpenClaim := { program := "ythnnpkmklkphaaa", sum := "32b7ce59ed49badc16896ff6fdb663ec0ba7e46e98f3f1e41b59c5bab37985a2", func := "scree/screelaw03.FsCrash", spec := "fsCrash", inPlace := ["maps.clone"], unfollowed := true, recurses := true, apart := false, narrowed := true }
def FsCrashUptoSaid : Prop := fsCrashUptoRow.holds Try.pinned (OpenSpec.upto fsCrashSpec)

/-- 'screelaw03.FsLoose', WHERE WHAT IT READS IS OF BULK AT MOST 1048576: true; the input reads as it did. -/
def fsLooseUptoRow : OpenClaim := { program := "ythnnpkmklkphaaa", sum := "32b7ce59ed49badc16896ff6fdb663ec0ba7e46e98f3f1e41b59c5bab37985a2", func := "scree/screelaw03.FsLoose", spec := "fsLoose", inPlace := ["maps.clone"], unfollowed := true, recurses := true, apart := false, narrowed := true }
def FsLooseUptoSaid : Prop := fsLooseUptoRow.holds Try.pinned (OpenSpec.upto fsLooseSpec)

end Rows
end Go.Proofs.Ythnnpkmklkphaaa
