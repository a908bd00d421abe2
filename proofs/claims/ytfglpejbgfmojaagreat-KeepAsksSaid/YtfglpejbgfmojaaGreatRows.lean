/-
  No cell of these rows narrows 'for every input' (looked for: loops, veiled, ifaces, maps, wideKeys, modest, calm, conditions, laid).
  DERIVED. THE GIVEN ROWS OF THIS SEAT. 7 by the template 'for every input the law returns true; each argument reads behind the call as it read before'; 0 by the template 'total and deterministic' (their statements: YtfglpejbgfmojaaGreatTotals.lean).
  GIVEN WITH THE SEED: the statements are not yours to turn. If you find one false, say at which input.
  Laid BY PROGRAM, IN A SANDBOX (cutbox-rows.mjs): the forced cells as the released guide's own fill.sh prints them over the translation aee4abd25fe912b5… (all of the seat's roots in one cut). By AI agents, Wed Nov 11 2026. No macro, syntax, notation, axiom, sorry.
-/
import Derived.Test.YtfglpejbgfmojaaGreatChecked
import GoSem.Claim
import GoSem.ClaimJoined
import GoSem.ClaimMapViews
import Derived.JoinedTies
import Derived.KernelRfl
namespace Go.Proofs.YtfglpejbgfmojaaGreat
/- THE CELL 'sum', in the pinned program and in every row, IS THE sha256 OF THE DUMP (.gsa) THAT YtfglpejbgfmojaaGreatProg.lean LOADS. Nothing in Lean hashes anything: it is a label: what it is worth is what the hold of that sum in a sandbox is worth. -/
noncomputable def Tryz.pinned : Pinned := { name := "ytfglpejbgfmojaagreat", sum := "aee4abd25fe912b56be7f1cb4bf8da28a65d582e7d071ee7d3d79ac1a39d43db", checked := Tryz.checked }
namespace Rows
def none {H : Type} : Left H := { results := [], args := [] }

/-- 'tollerlaw15.KeepAsks': WHATEVER THE INPUT: true; the input reads as it did. -/
def keepAsksSpec : ChangeSpec := { name := "keepAsks", fn := fun _ => fun
  | [d1, d2, d3, d4, d5, d6, d7, d8, d9] => { results := [.lit (.bool true)], args := [d1, d2, d3, d4, d5, d6, d7, d8, d9] }
  | _ => none }
def keepAsksRow : OpenClaim := { program := "ytfglpejbgfmojaagreat", sum := "aee4abd25fe912b56be7f1cb4bf8da28a65d582e7d071ee7d3d79ac1a39d43db", func := "toller/tollerlaw15.KeepAsks", spec := "keepAsks", unfollowed := true, recurses := true, apart := false }
def KeepAsksSaid : Prop := keepAsksRow.holds Tryz.pinned (OpenSpec.ofChange keepAsksSpec)

/-- ITS FALSE NEIGHBOUR: 'it returns false'. Refute it at one input. -/
def keepAsksWrong : ChangeSpec := { name := "keepAsks", fn := fun _ => fun
  | [d1, d2, d3, d4, d5, d6, d7, d8, d9] => { results := [.lit (.bool false)], args := [d1, d2, d3, d4, d5, d6, d7, d8, d9] }
  | _ => none }
def KeepAsksWrongFalsely : Prop := keepAsksRow.holds Tryz.pinned (OpenSpec.ofChange keepAsksWrong)

/-- 'tollerlaw15.KeepMost': WHATEVER THE INPUT: true; the input reads as it did. -/
def keepMostSpec : ChangeSpec := { name := "keepMost", fn := fun _ => fun
  | [d1, d2, d3, d4, d5] => { results := [.lit (.bool true)], args := [d1, d2, d3, d4, d5] }
  | _ => none }
def keepMostRow : OpenClaim := { program := "ytfglpejbgfmojaagreat", sum := "aee4abd25fe912b56be7f1cb4bf8da28a65d582e7d071ee7d3d79ac1a39d43db", func := "toller/tollerlaw15.KeepMost", spec := "keepMost", unfollowed := true, recurses := true, apart := false }
def KeepMostSaid : Prop := keepMostRow.holds Tryz.pinned (OpenSpec.ofChange keepMostSpec)

/-- ITS FALSE NEIGHBOUR: 'it returns false'. Refute it at one input. -/
def keepMostWrong : ChangeSpec := { name := "keepMost", fn := fun _ => fun
  | [d1, d2, d3, d4, d5] => { results := [.lit (.bool false)], args := [d1, d2, d3, d4, d5] }
  | _ => none }
def KeepMostWrongFalsely : Prop := keepMostRow.holds Tryz.pinned (OpenSpec.ofChange keepMostWrong)

/-- 'tollerlaw15.KeepTwice': WHATEVER THE INPUT: true; the input reads as it did. -/
def keepTwiceSpec : ChangeSpec := { name := "keepTwice", fn := fun _ => fun
  | [d1, d2, d3, d4] => { results := [.lit (.bool true)], args := [d1, d2, d3, d4] }
  | _ => none }
def keepTwiceRow : OpenClaim := { program := "ytfglpejbgfmojaagreat", sum := "aee4abd25fe912b56be7f1cb4bf8da28a65d582e7d071ee7d3d79ac1a39d43db", func := "toller/tollerlaw15.KeepTwice", spec := "keepTwice", unfollowed := true, recurses := true, apart := false }
def KeepTwiceSaid : Prop := keepTwiceRow.holds Tryz.pinned (OpenSpec.ofChange keepTwiceSpec)

/-- ITS FALSE NEIGHBOUR: 'it returns false'. Refute it at one input. -/
def keepTwiceWrong : ChangeSpec := { name := "keepTwice", fn := fun _ => fun
  | [d1, d2, d3, d4] => { results := [.lit (.bool false)], args := [d1, d2, d3, d4] }
  | _ => none }
def KeepTwiceWrongFalsely : Prop := keepTwiceRow.holds Tryz.pinned (OpenSpec.ofChange keepTwiceWrong)

/-- 'tollerlaw15.KeepNothing': WHATEVER THE INPUT: true; the input reads as it did. -/
def keepNothingSpec : ChangeSpec := { name := "keepNothing", fn := fun _ => fun
  | [d1, d2, d3, d4] => { results := [.lit (.bool true)], args := [d1, d2, d3, d4] }
  | _ => none }
def keepNothingRow : OpenClaim := { program := "ytfglpejbgfmojaagreat", sum := "aee4abd25fe912b56be7f1cb4bf8da28a65d582e7d071ee7d3d79ac1a39d43db", func := "toller/tollerlaw15.KeepNothing", spec := "keepNothing", unfollowed := true, recurses := true, apart := false }
def KeepNothingSaid : Prop := keepNothingRow.holds Tryz.pinned (OpenSpec.ofChange keepNothingSpec)

/-- ITS FALSE NEIGHBOUR: 'it returns false'. Refute it at one input. -/
def keepNothingWrong : ChangeSpec := { name := "keepNothing", fn := fun _ => fun
  | [d1, d2, d3, d4] => { results := [.lit (.bool false)], args := [d1, d2, d3, d4] }
  | _ => none }
def KeepNothingWrongFalsely : Prop := keepNothingRow.holds Tryz.pinned (OpenSpec.ofChange keepNothingWrong)

/-- 'tollerlaw15.KeepSame': WHATEVER THE INPUT: true; the input reads as it did. -/
def keepSameSpec : ChangeSpec := { name := "keepSame", fn := fun _ => fun
  | [d1, d2, d3] => { results := [.lit (.bool true)], args := [d1, d2, d3] }
  | _ => none }
def keepSameRow : OpenClaim := { program := "ytfglpejbgfmojaagreat", sum := "aee4abd25fe912b56be7f1cb4bf8da28a65d582e7d071ee7d3d79ac1a39d43db", func := "toller/tollerlaw15.KeepSame", spec := "keepSame", unfollowed := true, recurses := true, apart := false }
def KeepSameSaid : Prop := keepSameRow.holds Tryz.pinned (OpenSpec.ofChange keepSameSpec)

/-- ITS FALSE NEIGHBOUR: 'it returns false'. Refute it at one input. -/
def keepSameWrong : ChangeSpec := { name := "keepSame", fn := fun _ => fun
  | [d1, d2, d3] => { results := [.lit (.bool false)], args := [d1, d2, d3] }
  | _ => none }
def KeepSameWrongFalsely : Prop := keepSameRow.holds Tryz.pinned (OpenSpec.ofChange keepSameWrong)

/-- 'tollerlaw15.KeepFull': WHATEVER THE INPUT: true; the input reads as it did. -/
def keepFullSpec : ChangeSpec := { name := "keepFull", fn := fun _ => fun
  | [d1, d2, d3, d4] => { results := [.lit (.bool true)], args := [d1, d2, d3, d4] }
  | _ => none }
def keepFullRow : OpenClaim := { program := "ytfglpejbgfmojaagreat", sum := "aee4abd25fe912b56be7f1cb4bf8da28a65d582e7d071ee7d3d79ac1a39d43db", func := "toller/tollerlaw15.KeepFull", spec := "keepFull", unfollowed := true, recurses := true, apart := false }
def KeepFullSaid : Prop := keepFullRow.holds Tryz.pinned (OpenSpec.ofChange keepFullSpec)

/-- ITS FALSE NEIGHBOUR: 'it returns false'. Refute it at one input. -/
def keepFullWrong : ChangeSpec := { name := "keepFull", fn := fun _ => fun
  | [d1, d2, d3, d4] => { results := [.lit (.bool false)], args := [d1, d2, d3, d4] }
  | _ => none }
def KeepFullWrongFalsely : Prop := keepFullRow.holds Tryz.pinned (OpenSpec.ofChange keepFullWrong)

/-- 'tollerlaw17.EnterLeaves': WHATEVER THE INPUT: true; the input reads as it did. -/
def enterLeavesSpec : ChangeSpec := { name := "enterLeaves", fn := fun _ => fun
  | [d1, d2] => { results := [.lit (.bool true)], args := [d1, d2] }
  | _ => none }
def enterLeavesRow : OpenClaim := { program := "ytfglpejbgfmojaagreat", sum := "aee4abd25fe912b56be7f1cb4bf8da28a65d582e7d071ee7d3d79ac1a39d43db", func := "toller/tollerlaw17.EnterLeaves", spec := "enterLeaves", unfollowed := true, recurses := true, apart := false }
def EnterLeavesSaid : Prop := enterLeavesRow.holds Tryz.pinned (OpenSpec.ofChange enterLeavesSpec)

/-- ITS FALSE NEIGHBOUR: 'it returns false'. Refute it at one input. -/
def enterLeavesWrong : ChangeSpec := { name := "enterLeaves", fn := fun _ => fun
  | [d1, d2] => { results := [.lit (.bool false)], args := [d1, d2] }
  | _ => none }
def EnterLeavesWrongFalsely : Prop := enterLeavesRow.holds Tryz.pinned (OpenSpec.ofChange enterLeavesWrong)

/- THE SECOND FORM. 'bulk': how many values and letters a reading holds, each counted each time it is reached (what is shared counts as often as it is met; a slice's spare places count too). A statement '..UptoSaid' is the law's where the arguments, and the package variables that the reading takes, are together of bulk at most 1048576: NARROWER than '..Said'. Prove '..Said' where nothing that the law and all that it calls make is longer than what came in: it says more and counts as full. Else prove '..UptoSaid'. A law counts once. -/
mutual
def uptoBulk {H : Type} : DataW H → Nat
  | .lit (.string bytes) => bytes.length + 1
  | .lit _ => 1
  | .nil => 1
  | .ptr d => uptoBulk d + 1
  | .slice elems spare => uptoBulkAll elems + uptoBulkAll spare + 1
  | .agg parts => uptoBulkAll parts + 1
  | .iface _ d => uptoBulk d + 1
  | .map entries => uptoBulkEntries entries + 1
  | .held _ => 1
def uptoBulkAll {H : Type} : List (DataW H) → Nat
  | [] => 0
  | d :: r => uptoBulk d + uptoBulkAll r
def uptoBulkEntries {H : Type} : List (Lit × DataW H) → Nat
  | [] => 0
  | x :: r => uptoBulkEntry x + uptoBulkEntries r
def uptoBulkEntry {H : Type} : Lit × DataW H → Nat
  | (.string bytes, d) => bytes.length + uptoBulk d + 1
  | (_, d) => uptoBulk d + 1
 end
def uptoSmall : (H : Type) → List (DataW H) → Bool := fun _ ds => decide (uptoBulkAll ds ≤ 1048576)
def OpenSpec.upto (s : _root_.Go.ChangeSpec) : _root_.Go.OpenSpec := { _root_.Go.OpenSpec.ofChange s with cond := some uptoSmall }

/-- 'tollerlaw15.KeepAsks', WHERE WHAT IT READS IS OF BULK AT MOST 1048576: true; the input reads as it did. -/
def keepAsksUptoRow : OpenClaim := { program := "ytfglpejbgfmojaagreat", sum := "aee4abd25fe912b56be7f1cb4bf8da28a65d582e7d071ee7d3d79ac1a39d43db", func := "toller/tollerlaw15.KeepAsks", spec := "keepAsks", unfollowed := true, recurses := true, apart := false, narrowed := true }
def KeepAsksUptoSaid : Prop := keepAsksUptoRow.holds Tryz.pinned (OpenSpec.upto keepAsksSpec)

/-- 'tollerlaw15.KeepMost', WHERE WHAT IT READS IS OF BULK AT MOST 1048576: true; the input reads as it did. -/
def keepMostUptoRow : OpenClaim := { program := "ytfglpejbgfmojaagreat", sum := "aee4abd25fe912b56be7f1cb4bf8da28a65d582e7d071ee7d3d79ac1a39d43db", func := "toller/tollerlaw15.KeepMost", spec := "keepMost", unfollowed := true, recurses := true, apart := false, narrowed := true }
def KeepMostUptoSaid : Prop := keepMostUptoRow.holds Tryz.pinned (OpenSpec.upto keepMostSpec)

/-- 'tollerlaw15.KeepTwice', WHERE WHAT IT READS IS OF BULK AT MOST 1048576: true; the input reads as it did. -/
def keepTwiceUptoRow : OpenClaim := { program := "ytfglpejbgfmojaagreat", sum := "aee4abd25fe912b56be7f1cb4bf8da28a65d582e7d071ee7d3d79ac1a39d43db", func := "toller/tollerlaw15.KeepTwice", spec := "keepTwice", unfollowed := true, recurses := true, apart := false, narrowed := true }
def KeepTwiceUptoSaid : Prop := keepTwiceUptoRow.holds Tryz.pinned (OpenSpec.upto keepTwiceSpec)

/-- 'tollerlaw15.KeepNothing', WHERE WHAT IT READS IS OF BULK AT MOST 1048576: true; the input reads as it did. -/
def keepNothingUptoRow : OpenClaim := { program := "ytfglpejbgfmojaagreat", sum := "aee4abd25fe912b56be7f1cb4bf8da28a65d582e7d071ee7d3d79ac1a39d43db", func := "toller/tollerlaw15.KeepNothing", spec := "keepNothing", unfollowed := true, recurses := true, apart := false, narrowed := true }
def KeepNothingUptoSaid : Prop := keepNothingUptoRow.holds Tryz.pinned (OpenSpec.upto keepNothingSpec)

/-- 'tollerlaw15.KeepSame', WHERE WHAT IT READS IS OF BULK AT MOST 1048576: true; the input reads as it did. -/
def keepSameUptoRow : OpenClaim := { program := "ytfglpejbgfmojaagreat", sum := "aee4abd25fe912b56be7f1cb4bf8da28a65d582e7d071ee7d3d79ac1a39d43db", func := "toller/tollerlaw15.KeepSame", spec := "keepSame", unfollowed := true, recurses := true, apart := false, narrowed := true }
def KeepSameUptoSaid : Prop := keepSameUptoRow.holds Tryz.pinned (OpenSpec.upto keepSameSpec)

/-- 'tollerlaw15.KeepFull', WHERE WHAT IT READS IS OF BULK AT MOST 1048576: true; the input reads as it did. -/
def keepFullUptoRow : OpenClaim := { program := "ytfglpejbgfmojaagreat", sum := "aee4abd25fe912b56be7f1cb4bf8da28a65d582e7d071ee7d3d79ac1a39d43db", func := "toller/tollerlaw15.KeepFull", spec := "keepFull", unfollowed := true, recurses := true, apart := false, narrowed := true }
def KeepFullUptoSaid : Prop := keepFullUptoRow.holds Tryz.pinned (OpenSpec.upto keepFullSpec)

/-- 'tollerlaw17.EnterLeaves', WHERE WHAT IT READS IS OF BULK AT MOST 1048576: true; the input reads as it did. -/
def enterLeavesUptoRow : OpenClaim := { program := "ytfglpejbgfmojaagreat", sum := "aee4abd25fe912b56be7f1cb4bf8da28a65d582e7d071ee7d3d79ac1a39d43db", func := "toller/tollerlaw17.EnterLeaves", spec := "enterLeaves", unfollowed := true, recurses := true, apart := false, narrowed := true }
def EnterLeavesUptoSaid : Prop := enterLeavesUptoRow.holds Tryz.pinned (OpenSpec.upto enterLeavesSpec)

end Rows
end Go.Proofs.YtfglpejbgfmojaaGreat
