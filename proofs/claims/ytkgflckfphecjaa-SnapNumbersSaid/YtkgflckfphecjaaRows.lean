/-
  No cell of these rows narrows 'for every input' (looked for: loops, veiled, ifaces, maps, wideKeys, modest, calm, conditions, laid).
  DERIVED. THE GIVEN ROWS OF THIS SEAT. 7 by the template 'for every input the law returns true; each argument reads behind the call as it read before'; 0 by the template 'total and deterministic' (their statements: YtkgflckfphecjaaTotals.lean).
  GIVEN WITH THE SEED: the statements are not yours to turn. If you find one false, say at which input.
  Laid BY PROGRAM, IN A SANDBOX (cutbox-rows.mjs): the forced cells as the released guide's own fill.sh prints them over the translation efd1c8390fa6d55d… (all of the seat's roots in one cut). By AI agents, Wed Nov 11 2026. No macro, syntax, notation, axiom, sorry.
-/
import Derived.Test.YtkgflckfphecjaaChecked
import GoSem.Claim
import GoSem.ClaimJoined
import GoSem.ClaimMapViews
import Derived.JoinedTies
import Derived.KernelRfl
namespace Go.Proofs.Ytkgflckfphecjaa
/- THE CELL 'sum', in the pinned program and in every row, IS THE sha256 OF THE DUMP (.gsa) THAT YtkgflckfphecjaaProg.lean LOADS. Nothing in Lean hashes anything: it is a label: what it is worth is what the hold of that sum in a sandbox is worth. -/
noncomputable def Try.pinned : Pinned := { name := "ytkgflckfphecjaa", sum := "efd1c8390fa6d55d6c8557d2c3b4cd3754c2748eaadb00e450f246c40e67e86d", checked := Try.checked }
namespace Rows
def none {H : Type} : Left H := { results := [], args := [] }

/-- 'screelaw16.SnapDoes': WHATEVER THE INPUT: true; the input reads as it did. -/
def snapDoesSpec : ChangeSpec := { name := "snapDoes", fn := fun _ => fun
  | [d1, d2, d3] => { results := [.lit (.bool true)], args := [d1, d2, d3] }
  | _ => none }
def snapDoesRow : OpenClaim := { program := "ytkgflckfphecjaa", sum := "efd1c8390fa6d55d6c8557d2c3b4cd3754c2748eaadb00e450f246c40e67e86d", func := "scree/screelaw16.SnapDoes", spec := "snapDoes", unfollowed := true, recurses := true, apart := false }
def SnapDoesSaid : Prop := snapDoesRow.holds Try.pinned (OpenSpec.ofChange snapDoesSpec)

/-- ITS FALSE NEIGHBOUR: 'it returns false'. Refute it at one input. -/
def snapDoesWrong : ChangeSpec := { name := "snapDoes", fn := fun _ => fun
  | [d1, d2, d3] => { results := [.lit (.bool false)], args := [d1, d2, d3] }
  | _ => none }
def SnapDoesWrongFalsely : Prop := snapDoesRow.holds Try.pinned (OpenSpec.ofChange snapDoesWrong)

/-- 'screelaw16.SnapLoads': WHATEVER THE INPUT: true; the input reads as it did. -/
def snapLoadsSpec : ChangeSpec := { name := "snapLoads", fn := fun _ => fun
  | [d1, d2, d3] => { results := [.lit (.bool true)], args := [d1, d2, d3] }
  | _ => none }
def snapLoadsRow : OpenClaim := { program := "ytkgflckfphecjaa", sum := "efd1c8390fa6d55d6c8557d2c3b4cd3754c2748eaadb00e450f246c40e67e86d", func := "scree/screelaw16.SnapLoads", spec := "snapLoads", unfollowed := true, recurses := true, apart := false }
def SnapLoadsSaid : Prop := snapLoadsRow.holds Try.pinned (OpenSpec.ofChange snapLoadsSpec)

/-- ITS FALSE NEIGHBOUR: 'it returns false'. Refute it at one input. -/
def snapLoadsWrong : ChangeSpec := { name := "snapLoads", fn := fun _ => fun
  | [d1, d2, d3] => { results := [.lit (.bool false)], args := [d1, d2, d3] }
  | _ => none }
def SnapLoadsWrongFalsely : Prop := snapLoadsRow.holds Try.pinned (OpenSpec.ofChange snapLoadsWrong)

/-- 'screelaw16.SnapSafe': WHATEVER THE INPUT: true; the input reads as it did. -/
def snapSafeSpec : ChangeSpec := { name := "snapSafe", fn := fun _ => fun
  | [d] => { results := [.lit (.bool true)], args := [d] }
  | _ => none }
def snapSafeRow : OpenClaim := { program := "ytkgflckfphecjaa", sum := "efd1c8390fa6d55d6c8557d2c3b4cd3754c2748eaadb00e450f246c40e67e86d", func := "scree/screelaw16.SnapSafe", spec := "snapSafe", unfollowed := true, recurses := true, apart := false }
def SnapSafeSaid : Prop := snapSafeRow.holds Try.pinned (OpenSpec.ofChange snapSafeSpec)

/-- ITS FALSE NEIGHBOUR: 'it returns false'. Refute it at one input. -/
def snapSafeWrong : ChangeSpec := { name := "snapSafe", fn := fun _ => fun
  | [d] => { results := [.lit (.bool false)], args := [d] }
  | _ => none }
def SnapSafeWrongFalsely : Prop := snapSafeRow.holds Try.pinned (OpenSpec.ofChange snapSafeWrong)

/-- 'screelaw16.SnapNumbers': WHATEVER THE INPUT: true; the input reads as it did. -/
def snapNumbersSpec : ChangeSpec := { name := "snapNumbers", fn := fun _ => fun
  | [d] => { results := [.lit (.bool true)], args := [d] }
  | _ => none }
def snapNumbersRow : OpenClaim := { program := "ytkgflckfphecjaa", sum := "efd1c8390fa6d55d6c8557d2c3b4cd3754c2748eaadb00e450f246c40e67e86d", func := "scree/screelaw16.SnapNumbers", spec := "snapNumbers", unfollowed := true, recurses := true, apart := false }
def SnapNumbersSaid : Prop := snapNumbersRow.holds Try.pinned (OpenSpec.ofChange snapNumbersSpec)

/-- ITS FALSE NEIGHBOUR: 'it returns false'. Refute it at one input. -/
def snapNumbersWrong : ChangeSpec := { name := "snapNumbers", fn := fun _ => fun
  | [d] => { results := [.lit (.bool false)], args := [d] }
  | _ => none }
def SnapNumbersWrongFalsely : Prop := snapNumbersRow.holds Try.pinned (OpenSpec.ofChange snapNumbersWrong)

/-- 'screelaw16.SnapAdvances': WHATEVER THE INPUT: true; the input reads as it did. -/
def snapAdvancesSpec : ChangeSpec := { name := "snapAdvances", fn := fun _ => fun
  | [d1, d2, d3] => { results := [.lit (.bool true)], args := [d1, d2, d3] }
  | _ => none }
def snapAdvancesRow : OpenClaim := { program := "ytkgflckfphecjaa", sum := "efd1c8390fa6d55d6c8557d2c3b4cd3754c2748eaadb00e450f246c40e67e86d", func := "scree/screelaw16.SnapAdvances", spec := "snapAdvances", unfollowed := true, recurses := true, apart := false }
def SnapAdvancesSaid : Prop := snapAdvancesRow.holds Try.pinned (OpenSpec.ofChange snapAdvancesSpec)

/-- ITS FALSE NEIGHBOUR: 'it returns false'. Refute it at one input. -/
def snapAdvancesWrong : ChangeSpec := { name := "snapAdvances", fn := fun _ => fun
  | [d1, d2, d3] => { results := [.lit (.bool false)], args := [d1, d2, d3] }
  | _ => none }
def SnapAdvancesWrongFalsely : Prop := snapAdvancesRow.holds Try.pinned (OpenSpec.ofChange snapAdvancesWrong)

/-- 'screelaw16.SnapRenews': WHATEVER THE INPUT: true; the input reads as it did. -/
def snapRenewsSpec : ChangeSpec := { name := "snapRenews", fn := fun _ => fun
  | [d1, d2, d3, d4] => { results := [.lit (.bool true)], args := [d1, d2, d3, d4] }
  | _ => none }
def snapRenewsRow : OpenClaim := { program := "ytkgflckfphecjaa", sum := "efd1c8390fa6d55d6c8557d2c3b4cd3754c2748eaadb00e450f246c40e67e86d", func := "scree/screelaw16.SnapRenews", spec := "snapRenews", unfollowed := true, recurses := true, apart := false }
def SnapRenewsSaid : Prop := snapRenewsRow.holds Try.pinned (OpenSpec.ofChange snapRenewsSpec)

/-- ITS FALSE NEIGHBOUR: 'it returns false'. Refute it at one input. -/
def snapRenewsWrong : ChangeSpec := { name := "snapRenews", fn := fun _ => fun
  | [d1, d2, d3, d4] => { results := [.lit (.bool false)], args := [d1, d2, d3, d4] }
  | _ => none }
def SnapRenewsWrongFalsely : Prop := snapRenewsRow.holds Try.pinned (OpenSpec.ofChange snapRenewsWrong)

/-- 'screelaw16.SnapRoom': WHATEVER THE INPUT: true; the input reads as it did. -/
def snapRoomSpec : ChangeSpec := { name := "snapRoom", fn := fun _ => fun
  | [d1, d2, d3, d4] => { results := [.lit (.bool true)], args := [d1, d2, d3, d4] }
  | _ => none }
def snapRoomRow : OpenClaim := { program := "ytkgflckfphecjaa", sum := "efd1c8390fa6d55d6c8557d2c3b4cd3754c2748eaadb00e450f246c40e67e86d", func := "scree/screelaw16.SnapRoom", spec := "snapRoom", unfollowed := true, recurses := true, apart := false }
def SnapRoomSaid : Prop := snapRoomRow.holds Try.pinned (OpenSpec.ofChange snapRoomSpec)

/-- ITS FALSE NEIGHBOUR: 'it returns false'. Refute it at one input. -/
def snapRoomWrong : ChangeSpec := { name := "snapRoom", fn := fun _ => fun
  | [d1, d2, d3, d4] => { results := [.lit (.bool false)], args := [d1, d2, d3, d4] }
  | _ => none }
def SnapRoomWrongFalsely : Prop := snapRoomRow.holds Try.pinned (OpenSpec.ofChange snapRoomWrong)

/- THE SECOND FORM. 'bulk': how many values and letters a reading holds, each counted each time it is reached (what is shared counts as often as it is met; a slice's spare places count too). A statement '..UptoSaid' is the law's where the arguments, and the package variables that the reading takes, are together of bulk at most 1048576: NARROWER than '..Said'. Prove '..Said' where nothing that the law and all that it calls make is longer than what came in: it says more and counts as full. Else prove '..UptoSaid'. A law counts once. -/
mutual
def uptoBulk {H : Type} : DataW H → Nat
  | .lit (.string bytes) => bytes.length + 1
  | .lit _ => 1
  | .nil => 1
  | .ptr d => uptoBulk d + 1
  | .slice elems spare => uptoBulkAll elems + uptoBulkAll spare + 1
  | .agg parts => uptoBulkAll parts + 1
  | .iface _ d => uptoBulk d + 1
  | .map entries => uptoBulkEntries entries + 1
  | .held _ => 1
def uptoBulkAll {H : Type} : List (DataW H) → Nat
  | [] => 0
  | d :: r => uptoBulk d + uptoBulkAll r
def uptoBulkEntries {H : Type} : List (Lit × DataW H) → Nat
  | [] => 0
  | x :: r => uptoBulkEntry x + uptoBulkEntries r
def uptoBulkEntry {H : Type} : Lit × DataW H → Nat
  | (.string bytes, d) => bytes.length + uptoBulk d + 1
  | (_, d) => uptoBulk d + 1
 end
def uptoSmall : (H : Type) → List (DataW H) → Bool := fun _ ds => decide (uptoBulkAll ds ≤ 1048576)
def OpenSpec.upto (s : _root_.Go.ChangeSpec) : _root_.Go.OpenSpec := { _root_.Go.OpenSpec.ofChange s with cond := some uptoSmall }

/-- 'screelaw16.SnapDoes', WHERE WHAT IT READS IS OF BULK AT MOST 1048576: true; the input reads as it did. -/
def snapDoesUptoRow : OpenClaim := { program := "ytkgflckfphecjaa", sum := "efd1c8390fa6d55d6c8557d2c3b4cd3754c2748eaadb00e450f246c40e67e86d", func := "scree/screelaw16.SnapDoes", spec := "snapDoes", unfollowed := true, recurses := true, apart := false, narrowed := true }
def SnapDoesUptoSaid : Prop := snapDoesUptoRow.holds Try.pinned (OpenSpec.upto snapDoesSpec)

/-- 'screelaw16.SnapLoads', WHERE WHAT IT READS IS OF BULK AT MOST 1048576: true; the input reads as it did. -/
def snapLoadsUptoRow : OpenClaim := { program := "ytkgflckfphecjaa", sum := "efd1c8390fa6d55d6c8557d2c3b4cd3754c2748eaadb00e450f246c40e67e86d", func := "scree/screelaw16.SnapLoads", spec := "snapLoads", unfollowed := true, recurses := true, apart := false, narrowed := true }
def SnapLoadsUptoSaid : Prop := snapLoadsUptoRow.holds Try.pinned (OpenSpec.upto snapLoadsSpec)

/-- 'screelaw16.SnapSafe', WHERE WHAT IT READS IS OF BULK AT MOST 1048576: true; the input reads as it did. -/
def snapSafeUptoRow : OpenClaim := { program := "ytkgflckfphecjaa", sum := "efd1c8390fa6d55d6c8557d2c3b4cd3754c2748eaadb00e450f246c40e67e86d", func := "scree/screelaw16.SnapSafe", spec := "snapSafe", unfollowed := true, recurses := true, apart := false, narrowed := true }
def SnapSafeUptoSaid : Prop := snapSafeUptoRow.holds Try.pinned (OpenSpec.upto snapSafeSpec)

/-- 'screelaw16.SnapNumbers', WHERE WHAT IT READS IS OF BULK AT MOST 1048576: true; the input reads as it did. -/
def snapNumbersUptoRow : OpenClaim := { program := "ytkgflckfphecjaa", sum := "efd1c8390fa6d55d6c8557d2c3b4cd3754c2748eaadb00e450f246c40e67e86d", func := "scree/screelaw16.SnapNumbers", spec := "snapNumbers", unfollowed := true, recurses := true, apart := false, narrowed := true }
def SnapNumbersUptoSaid : Prop := snapNumbersUptoRow.holds Try.pinned (OpenSpec.upto snapNumbersSpec)

/-- 'screelaw16.SnapAdvances', WHERE WHAT IT READS IS OF BULK AT MOST 1048576: true; the input reads as it did. -/
def snapAdvancesUptoRow : OpenClaim := { program := "ytkgflckfphecjaa", sum := "efd1c8390fa6d55d6c8557d2c3b4cd3754c2748eaadb00e450f246c40e67e86d", func := "scree/screelaw16.SnapAdvances", spec := "snapAdvances", unfollowed := true, recurses := true, apart := false, narrowed := true }
def SnapAdvancesUptoSaid : Prop := snapAdvancesUptoRow.holds Try.pinned (OpenSpec.upto snapAdvancesSpec)

/-- 'screelaw16.SnapRenews', WHERE WHAT IT READS IS OF BULK AT MOST 1048576: true; the input reads as it did. -/
def snapRenewsUptoRow : OpenClaim := { program := "ytkgflckfphecjaa", sum := "efd1c8390fa6d55d6c8557d2c3b4cd3754c2748eaadb00e450f246c40e67e86d", func := "scree/screelaw16.SnapRenews", spec := "snapRenews", unfollowed := true, recurses := true, apart := false, narrowed := true }
def SnapRenewsUptoSaid : Prop := snapRenewsUptoRow.holds Try.pinned (OpenSpec.upto snapRenewsSpec)

/-- 'screelaw16.SnapRoom', WHERE WHAT IT READS IS OF BULK AT MOST 1048576: true; the input reads as it did. -/
def snapRoomUptoRow : OpenClaim := { program := "ytkgflckfphecjaa", sum := "efd1c8390fa6d55d6c8557d2c3b4cd3754c2748eaadb00e450f246c40e67e86d", func := "scree/screelaw16.SnapRoom", spec := "snapRoom", unfollowed := true, recurses := true, apart := false, narrowed := true }
def SnapRoomUptoSaid : Prop := snapRoomUptoRow.holds Try.pinned (OpenSpec.upto snapRoomSpec)

end Rows
end Go.Proofs.Ytkgflckfphecjaa
