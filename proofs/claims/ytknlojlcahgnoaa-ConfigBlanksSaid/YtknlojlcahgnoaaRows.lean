/-
  No cell of these rows narrows 'for every input' (looked for: loops, veiled, ifaces, maps, wideKeys, modest, calm, conditions, laid).
  DERIVED. THE GIVEN ROWS OF THIS SEAT. 4 by the template 'for every input the law returns true; each argument reads behind the call as it read before'; 0 by the template 'total and deterministic' (their statements: YtknlojlcahgnoaaTotals.lean).
  GIVEN WITH THE SEED: the statements are not yours to turn. If you find one false, say at which input.
  Laid BY PROGRAM, IN A SANDBOX (cutbox-rows.mjs): the forced cells as the released guide's own fill.sh prints them over the translation 4985e03426d53f37… (all of the seat's roots in one cut). By AI agents, Wed Nov 11 2026. No macro, syntax, notation, axiom, sorry.
-/
import Derived.Test.YtknlojlcahgnoaaChecked
import GoSem.Claim
import GoSem.ClaimJoined
import GoSem.ClaimMapViews
import Derived.JoinedTies
import Derived.KernelRfl
namespace Go.Proofs.Ytknlojlcahgnoaa
/- THE CELL 'sum', in the pinned program and in every row, IS THE sha256 OF THE DUMP (.gsa) THAT YtknlojlcahgnoaaProg.lean LOADS. Nothing in Lean hashes anything: it is a label: what it is worth is what the hold of that sum in a sandbox is worth. -/
noncomputable def Try.pinned : Pinned := { name := "ytknlojlcahgnoaa", sum := "4985e03426d53f377324e777f53b03abf03ab8a716f7a356c9884bdc72aa1cb3", checked := Try.checked }
namespace Rows
def none {H : Type} : Left H := { results := [], args := [] }

/-- 'tollerlaw12.ConfigBlanks': WHATEVER THE INPUT: true; the input reads as it did. -/
def configBlanksSpec : ChangeSpec := { name := "configBlanks", fn := fun _ => fun
  | [d1, d2, d3] => { results := [.lit (.bool true)], args := [d1, d2, d3] }
  | _ => none }
def configBlanksRow : OpenClaim := { program := "ytknlojlcahgnoaa", sum := "4985e03426d53f377324e777f53b03abf03ab8a716f7a356c9884bdc72aa1cb3", func := "toller/tollerlaw12.ConfigBlanks", spec := "configBlanks", unfollowed := true, recurses := true, apart := false }
def ConfigBlanksSaid : Prop := configBlanksRow.holds Try.pinned (OpenSpec.ofChange configBlanksSpec)

/-- ITS FALSE NEIGHBOUR: 'it returns false'. Refute it at one input. -/
def configBlanksWrong : ChangeSpec := { name := "configBlanks", fn := fun _ => fun
  | [d1, d2, d3] => { results := [.lit (.bool false)], args := [d1, d2, d3] }
  | _ => none }
def ConfigBlanksWrongFalsely : Prop := configBlanksRow.holds Try.pinned (OpenSpec.ofChange configBlanksWrong)

/-- 'tollerlaw12.ConfigMost': WHATEVER THE INPUT: true; the input reads as it did. -/
def configMostSpec : ChangeSpec := { name := "configMost", fn := fun _ => fun
  | [d1, d2] => { results := [.lit (.bool true)], args := [d1, d2] }
  | _ => none }
def configMostRow : OpenClaim := { program := "ytknlojlcahgnoaa", sum := "4985e03426d53f377324e777f53b03abf03ab8a716f7a356c9884bdc72aa1cb3", func := "toller/tollerlaw12.ConfigMost", spec := "configMost", inPlace := ["internal/abi.NoEscape", "internal/bytealg.MakeNoZero"], unfollowed := true, recurses := true, apart := false }
def ConfigMostSaid : Prop := configMostRow.holds Try.pinned (OpenSpec.ofChange configMostSpec)

/-- ITS FALSE NEIGHBOUR: 'it returns false'. Refute it at one input. -/
def configMostWrong : ChangeSpec := { name := "configMost", fn := fun _ => fun
  | [d1, d2] => { results := [.lit (.bool false)], args := [d1, d2] }
  | _ => none }
def ConfigMostWrongFalsely : Prop := configMostRow.holds Try.pinned (OpenSpec.ofChange configMostWrong)

/-- 'tollerlaw12.ConfigTwice': WHATEVER THE INPUT: true; the input reads as it did. -/
def configTwiceSpec : ChangeSpec := { name := "configTwice", fn := fun _ => fun
  | [d1, d2, d3] => { results := [.lit (.bool true)], args := [d1, d2, d3] }
  | _ => none }
def configTwiceRow : OpenClaim := { program := "ytknlojlcahgnoaa", sum := "4985e03426d53f377324e777f53b03abf03ab8a716f7a356c9884bdc72aa1cb3", func := "toller/tollerlaw12.ConfigTwice", spec := "configTwice", inPlace := ["internal/abi.NoEscape", "internal/bytealg.MakeNoZero"], unfollowed := true, recurses := true, apart := false }
def ConfigTwiceSaid : Prop := configTwiceRow.holds Try.pinned (OpenSpec.ofChange configTwiceSpec)

/-- ITS FALSE NEIGHBOUR: 'it returns false'. Refute it at one input. -/
def configTwiceWrong : ChangeSpec := { name := "configTwice", fn := fun _ => fun
  | [d1, d2, d3] => { results := [.lit (.bool false)], args := [d1, d2, d3] }
  | _ => none }
def ConfigTwiceWrongFalsely : Prop := configTwiceRow.holds Try.pinned (OpenSpec.ofChange configTwiceWrong)

/-- 'tollerlaw12.ConfigLacks': WHATEVER THE INPUT: true; the input reads as it did. -/
def configLacksSpec : ChangeSpec := { name := "configLacks", fn := fun _ => fun
  | [d1, d2] => { results := [.lit (.bool true)], args := [d1, d2] }
  | _ => none }
def configLacksRow : OpenClaim := { program := "ytknlojlcahgnoaa", sum := "4985e03426d53f377324e777f53b03abf03ab8a716f7a356c9884bdc72aa1cb3", func := "toller/tollerlaw12.ConfigLacks", spec := "configLacks", inPlace := ["internal/abi.NoEscape", "internal/bytealg.MakeNoZero"], unfollowed := true, recurses := true, apart := false }
def ConfigLacksSaid : Prop := configLacksRow.holds Try.pinned (OpenSpec.ofChange configLacksSpec)

/-- ITS FALSE NEIGHBOUR: 'it returns false'. Refute it at one input. -/
def configLacksWrong : ChangeSpec := { name := "configLacks", fn := fun _ => fun
  | [d1, d2] => { results := [.lit (.bool false)], args := [d1, d2] }
  | _ => none }
def ConfigLacksWrongFalsely : Prop := configLacksRow.holds Try.pinned (OpenSpec.ofChange configLacksWrong)

/- THE SECOND FORM. 'bulk': how many values and letters a reading holds, each counted each time it is reached (what is shared counts as often as it is met; a slice's spare places count too). A statement '..UptoSaid' is the law's where the arguments, and the package variables that the reading takes, are together of bulk at most 1048576: NARROWER than '..Said'. Prove '..Said' where nothing that the law and all that it calls make is longer than what came in: it says more and counts as full. Else prove '..UptoSaid'. A law counts once. -/
mutual
def uptoBulk {H : Type} : DataW H → Nat
  | .lit (.string bytes) => bytes.length + 1
  | .lit _ => 1
  | .nil => 1
  | .ptr d => uptoBulk d + 1
  | .slice elems spare => uptoBulkAll elems + uptoBulkAll spare + 1
  | .agg parts => uptoBulkAll parts + 1
  | .iface _ d => uptoBulk d + 1
  | .map entries => uptoBulkEntries entries + 1
  | .held _ => 1
def uptoBulkAll {H : Type} : List (DataW H) → Nat
  | [] => 0
  | d :: r => uptoBulk d + uptoBulkAll r
def uptoBulkEntries {H : Type} : List (Lit × DataW H) → Nat
  | [] => 0
  | x :: r => uptoBulkEntry x + uptoBulkEntries r
def uptoBulkEntry {H : Type} : Lit × DataW H → Nat
  | (.string bytes, d) => bytes.length + uptoBulk d + 1
  | (_, d) => uptoBulk d + 1
 end
def uptoSmall : (H : Type) → List (DataW H) → Bool := fun _ ds => decide (uptoBulkAll ds ≤ 1048576)
def OpenSpec.upto (s : _root_.Go.ChangeSpec) : _root_.Go.OpenSpec := { _root_.Go.OpenSpec.ofChange s with cond := some uptoSmall }

/-- 'tollerlaw12.ConfigBlanks', WHERE WHAT IT READS IS OF BULK AT MOST 1048576: true; the input reads as it did. -/
def configBlanksUptoRow : OpenClaim := { program := "ytknlojlcahgnoaa", sum := "4985e03426d53f377324e777f53b03abf03ab8a716f7a356c9884bdc72aa1cb3", func := "toller/tollerlaw12.ConfigBlanks", spec := "configBlanks", unfollowed := true, recurses := true, apart := false, narrowed := true }
def ConfigBlanksUptoSaid : Prop := configBlanksUptoRow.holds Try.pinned (OpenSpec.upto configBlanksSpec)

/-- 'tollerlaw12.ConfigMost', WHERE WHAT IT READS IS OF BULK AT MOST 1048576: true; the input reads as it did. -/
def configMostUptoRow : OpenClaim := { program := "ytknlojlcahgnoaa", sum := "4985e03426d53f377324e777f53b03abf03ab8a716f7a356c9884bdc72aa1cb3", func := "toller/tollerlaw12.ConfigMost", spec := "configMost", inPlace := ["internal/abi.NoEscape", "internal/bytealg.MakeNoZero"], unfollowed := true, recurses := true, apart := false, narrowed := true }
def ConfigMostUptoSaid : Prop := configMostUptoRow.holds Try.pinned (OpenSpec.upto configMostSpec)

/-- 'tollerlaw12.ConfigTwice', WHERE WHAT IT READS IS OF BULK AT MOST 1048576: true; the input reads as it did. -/
def configTwiceUptoRow : OpenClaim := { program := "ytknlojlcahgnoaa", sum := "4985e03426d53f377324e777f53b03abf03ab8a716f7a356c9884bdc72aa1cb3", func := "toller/tollerlaw12.ConfigTwice", spec := "configTwice", inPlace := ["internal/abi.NoEscape", "internal/bytealg.MakeNoZero"], unfollowed := true, recurses := true, apart := false, narrowed := true }
def ConfigTwiceUptoSaid : Prop := configTwiceUptoRow.holds Try.pinned (OpenSpec.upto configTwiceSpec)

/-- 'tollerlaw12.ConfigLacks', WHERE WHAT IT READS IS OF BULK AT MOST 1048576: true; the input reads as it did. -/
def configLacksUptoRow : OpenClaim := { program := "ytknlojlcahgnoaa", sum := "4985e03426d53f377324e777f53b03abf03ab8a716f7a356c9884bdc72aa1cb3", func := "toller/tollerlaw12.ConfigLacks", spec := "configLacks", inPlace := ["internal/abi.NoEscape", "internal/bytealg.MakeNoZero"], unfollowed := true, recurses := true, apart := false, narrowed := true }
def ConfigLacksUptoSaid : Prop := configLacksUptoRow.holds Try.pinned (OpenSpec.upto configLacksSpec)

end Rows
end Go.Proofs.Ytknlojlcahgnoaa
