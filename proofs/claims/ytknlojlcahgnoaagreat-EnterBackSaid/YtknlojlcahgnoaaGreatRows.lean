/-
  No cell of these rows narrows 'for every input' (looked for: loops, veiled, ifaces, maps, wideKeys, modest, calm, conditions, laid).
  DERIVED. THE GIVEN ROWS OF THIS SEAT. 7 by the template 'for every input the law returns true; each argument reads behind the call as it read before'; 0 by the template 'total and deterministic' (their statements: YtknlojlcahgnoaaGreatTotals.lean).
  GIVEN WITH THE SEED: the statements are not yours to turn. If you find one false, say at which input.
  Laid BY PROGRAM, IN A SANDBOX (cutbox-rows.mjs): the forced cells as the released guide's own fill.sh prints them over the translation 8e36eef2b5de0c33… (all of the seat's roots in one cut). By AI agents, Wed Nov 11 2026. No macro, syntax, notation, axiom, sorry.
-/
import Derived.Test.YtknlojlcahgnoaaGreatChecked
import GoSem.Claim
import GoSem.ClaimJoined
import GoSem.ClaimMapViews
import Derived.JoinedTies
import Derived.KernelRfl
namespace Go.Proofs.YtknlojlcahgnoaaGreat
/- THE CELL 'sum', in the pinned program and in every row, IS THE sha256 OF THE DUMP (.gsa) THAT YtknlojlcahgnoaaGreatProg.lean LOADS. Nothing in Lean hashes anything: it is a label: what it is worth is what the hold of that sum in a sandbox is worth. -/
noncomputable def Tryz.pinned : Pinned := { name := "ytknlojlcahgnoaagreat", sum := "8e36eef2b5de0c335224186f1f79fa3bbb4b6312c09fbb6ad5189558c59c1f45", checked := Tryz.checked }
namespace Rows
def none {H : Type} : Left H := { results := [], args := [] }

/-- 'tollerlaw12.ConfigParses': WHATEVER THE INPUT: true; the input reads as it did. -/
def configParsesSpec : ChangeSpec := { name := "configParses", fn := fun _ => fun
  | [d1, d2, d3, d4, d5, d6, d7] => { results := [.lit (.bool true)], args := [d1, d2, d3, d4, d5, d6, d7] }
  | _ => none }
def configParsesRow : OpenClaim := { program := "ytknlojlcahgnoaagreat", sum := "8e36eef2b5de0c335224186f1f79fa3bbb4b6312c09fbb6ad5189558c59c1f45", func := "toller/tollerlaw12.ConfigParses", spec := "configParses", unfollowed := true, recurses := true, apart := false }
def ConfigParsesSaid : Prop := configParsesRow.holds Tryz.pinned (OpenSpec.ofChange configParsesSpec)

/-- ITS FALSE NEIGHBOUR: 'it returns false'. Refute it at one input. -/
def configParsesWrong : ChangeSpec := { name := "configParses", fn := fun _ => fun
  | [d1, d2, d3, d4, d5, d6, d7] => { results := [.lit (.bool false)], args := [d1, d2, d3, d4, d5, d6, d7] }
  | _ => none }
def ConfigParsesWrongFalsely : Prop := configParsesRow.holds Tryz.pinned (OpenSpec.ofChange configParsesWrong)

/-- 'tollerlaw12.ConfigPrints': WHATEVER THE INPUT: true; the input reads as it did. -/
def configPrintsSpec : ChangeSpec := { name := "configPrints", fn := fun _ => fun
  | [d1, d2, d3, d4, d5, d6] => { results := [.lit (.bool true)], args := [d1, d2, d3, d4, d5, d6] }
  | _ => none }
def configPrintsRow : OpenClaim := { program := "ytknlojlcahgnoaagreat", sum := "8e36eef2b5de0c335224186f1f79fa3bbb4b6312c09fbb6ad5189558c59c1f45", func := "toller/tollerlaw12.ConfigPrints", spec := "configPrints", inPlace := ["internal/abi.NoEscape", "internal/bytealg.MakeNoZero"], unfollowed := true, recurses := true, apart := false }
def ConfigPrintsSaid : Prop := configPrintsRow.holds Tryz.pinned (OpenSpec.ofChange configPrintsSpec)

/-- ITS FALSE NEIGHBOUR: 'it returns false'. Refute it at one input. -/
def configPrintsWrong : ChangeSpec := { name := "configPrints", fn := fun _ => fun
  | [d1, d2, d3, d4, d5, d6] => { results := [.lit (.bool false)], args := [d1, d2, d3, d4, d5, d6] }
  | _ => none }
def ConfigPrintsWrongFalsely : Prop := configPrintsRow.holds Tryz.pinned (OpenSpec.ofChange configPrintsWrong)

/-- 'tollerlaw12.ConfigBack': WHATEVER THE INPUT: true; the input reads as it did. -/
def configBackSpec : ChangeSpec := { name := "configBack", fn := fun _ => fun
  | [d1, d2, d3, d4, d5] => { results := [.lit (.bool true)], args := [d1, d2, d3, d4, d5] }
  | _ => none }
def configBackRow : OpenClaim := { program := "ytknlojlcahgnoaagreat", sum := "8e36eef2b5de0c335224186f1f79fa3bbb4b6312c09fbb6ad5189558c59c1f45", func := "toller/tollerlaw12.ConfigBack", spec := "configBack", inPlace := ["internal/abi.NoEscape", "internal/bytealg.MakeNoZero"], unfollowed := true, recurses := true, apart := false }
def ConfigBackSaid : Prop := configBackRow.holds Tryz.pinned (OpenSpec.ofChange configBackSpec)

/-- ITS FALSE NEIGHBOUR: 'it returns false'. Refute it at one input. -/
def configBackWrong : ChangeSpec := { name := "configBack", fn := fun _ => fun
  | [d1, d2, d3, d4, d5] => { results := [.lit (.bool false)], args := [d1, d2, d3, d4, d5] }
  | _ => none }
def ConfigBackWrongFalsely : Prop := configBackRow.holds Tryz.pinned (OpenSpec.ofChange configBackWrong)

/-- 'tollerlaw17.EnterAsks': WHATEVER THE INPUT: true; the input reads as it did. -/
def enterAsksSpec : ChangeSpec := { name := "enterAsks", fn := fun _ => fun
  | [d1, d2, d3, d4, d5, d6, d7, d8, d9, d10] => { results := [.lit (.bool true)], args := [d1, d2, d3, d4, d5, d6, d7, d8, d9, d10] }
  | _ => none }
def enterAsksRow : OpenClaim := { program := "ytknlojlcahgnoaagreat", sum := "8e36eef2b5de0c335224186f1f79fa3bbb4b6312c09fbb6ad5189558c59c1f45", func := "toller/tollerlaw17.EnterAsks", spec := "enterAsks", unfollowed := true, recurses := true, apart := false }
def EnterAsksSaid : Prop := enterAsksRow.holds Tryz.pinned (OpenSpec.ofChange enterAsksSpec)

/-- ITS FALSE NEIGHBOUR: 'it returns false'. Refute it at one input. -/
def enterAsksWrong : ChangeSpec := { name := "enterAsks", fn := fun _ => fun
  | [d1, d2, d3, d4, d5, d6, d7, d8, d9, d10] => { results := [.lit (.bool false)], args := [d1, d2, d3, d4, d5, d6, d7, d8, d9, d10] }
  | _ => none }
def EnterAsksWrongFalsely : Prop := enterAsksRow.holds Tryz.pinned (OpenSpec.ofChange enterAsksWrong)

/-- 'tollerlaw17.EnterBack': WHATEVER THE INPUT: true; the input reads as it did. -/
def enterBackSpec : ChangeSpec := { name := "enterBack", fn := fun _ => fun
  | [d1, d2, d3, d4, d5] => { results := [.lit (.bool true)], args := [d1, d2, d3, d4, d5] }
  | _ => none }
def enterBackRow : OpenClaim := { program := "ytknlojlcahgnoaagreat", sum := "8e36eef2b5de0c335224186f1f79fa3bbb4b6312c09fbb6ad5189558c59c1f45", func := "toller/tollerlaw17.EnterBack", spec := "enterBack", unfollowed := true, recurses := true, apart := false }
def EnterBackSaid : Prop := enterBackRow.holds Tryz.pinned (OpenSpec.ofChange enterBackSpec)

/-- ITS FALSE NEIGHBOUR: 'it returns false'. Refute it at one input. -/
def enterBackWrong : ChangeSpec := { name := "enterBack", fn := fun _ => fun
  | [d1, d2, d3, d4, d5] => { results := [.lit (.bool false)], args := [d1, d2, d3, d4, d5] }
  | _ => none }
def EnterBackWrongFalsely : Prop := enterBackRow.holds Tryz.pinned (OpenSpec.ofChange enterBackWrong)

/-- 'tollerlaw17.EnterLate': WHATEVER THE INPUT: true; the input reads as it did. -/
def enterLateSpec : ChangeSpec := { name := "enterLate", fn := fun _ => fun
  | [d1, d2, d3, d4, d5, d6] => { results := [.lit (.bool true)], args := [d1, d2, d3, d4, d5, d6] }
  | _ => none }
def enterLateRow : OpenClaim := { program := "ytknlojlcahgnoaagreat", sum := "8e36eef2b5de0c335224186f1f79fa3bbb4b6312c09fbb6ad5189558c59c1f45", func := "toller/tollerlaw17.EnterLate", spec := "enterLate", unfollowed := true, recurses := true, apart := false }
def EnterLateSaid : Prop := enterLateRow.holds Tryz.pinned (OpenSpec.ofChange enterLateSpec)

/-- ITS FALSE NEIGHBOUR: 'it returns false'. Refute it at one input. -/
def enterLateWrong : ChangeSpec := { name := "enterLate", fn := fun _ => fun
  | [d1, d2, d3, d4, d5, d6] => { results := [.lit (.bool false)], args := [d1, d2, d3, d4, d5, d6] }
  | _ => none }
def EnterLateWrongFalsely : Prop := enterLateRow.holds Tryz.pinned (OpenSpec.ofChange enterLateWrong)

/-- 'tollerlaw17.EnterWrong': WHATEVER THE INPUT: true; the input reads as it did. -/
def enterWrongSpec : ChangeSpec := { name := "enterWrong", fn := fun _ => fun
  | [d1, d2, d3] => { results := [.lit (.bool true)], args := [d1, d2, d3] }
  | _ => none }
def enterWrongRow : OpenClaim := { program := "ytknlojlcahgnoaagreat", sum := "8e36eef2b5de0c335224186f1f79fa3bbb4b6312c09fbb6ad5189558c59c1f45", func := "toller/tollerlaw17.EnterWrong", spec := "enterWrong", unfollowed := true, recurses := true, apart := false }
def EnterWrongSaid : Prop := enterWrongRow.holds Tryz.pinned (OpenSpec.ofChange enterWrongSpec)

/-- ITS FALSE NEIGHBOUR: 'it returns false'. Refute it at one input. -/
def enterWrongWrong : ChangeSpec := { name := "enterWrong", fn := fun _ => fun
  | [d1, d2, d3] => { results := [.lit (.bool false)], args := [d1, d2, d3] }
  | _ => none }
def EnterWrongWrongFalsely : Prop := enterWrongRow.holds Tryz.pinned (OpenSpec.ofChange enterWrongWrong)

/- THE SECOND FORM. 'bulk': how many values and letters a reading holds, each counted each time it is reached (what is shared counts as often as it is met; a slice's spare places count too). A statement '..UptoSaid' is the law's where the arguments, and the package variables that the reading takes, are together of bulk at most 1048576: NARROWER than '..Said'. Prove '..Said' where nothing that the law and all that it calls make is longer than what came in: it says more and counts as full. Else prove '..UptoSaid'. A law counts once. -/
mutual
def uptoBulk {H : Type} : DataW H → Nat
  | .lit (.string bytes) => bytes.length + 1
  | .lit _ => 1
  | .nil => 1
  | .ptr d => uptoBulk d + 1
  | .slice elems spare => uptoBulkAll elems + uptoBulkAll spare + 1
  | .agg parts => uptoBulkAll parts + 1
  | .iface _ d => uptoBulk d + 1
  | .map entries => uptoBulkEntries entries + 1
  | .held _ => 1
def uptoBulkAll {H : Type} : List (DataW H) → Nat
  | [] => 0
  | d :: r => uptoBulk d + uptoBulkAll r
def uptoBulkEntries {H : Type} : List (Lit × DataW H) → Nat
  | [] => 0
  | x :: r => uptoBulkEntry x + uptoBulkEntries r
def uptoBulkEntry {H : Type} : Lit × DataW H → Nat
  | (.string bytes, d) => bytes.length + uptoBulk d + 1
  | (_, d) => uptoBulk d + 1
 end
def uptoSmall : (H : Type) → List (DataW H) → Bool := fun _ ds => decide (uptoBulkAll ds ≤ 1048576)
def OpenSpec.upto (s : _root_.Go.ChangeSpec) : _root_.Go.OpenSpec := { _root_.Go.OpenSpec.ofChange s with cond := some uptoSmall }

/-- 'tollerlaw12.ConfigParses', WHERE WHAT IT READS IS OF BULK AT MOST 1048576: true; the input reads as it did. -/
def configParsesUptoRow : OpenClaim := { program := "ytknlojlcahgnoaagreat", sum := "8e36eef2b5de0c335224186f1f79fa3bbb4b6312c09fbb6ad5189558c59c1f45", func := "toller/tollerlaw12.ConfigParses", spec := "configParses", unfollowed := true, recurses := true, apart := false, narrowed := true }
def ConfigParsesUptoSaid : Prop := configParsesUptoRow.holds Tryz.pinned (OpenSpec.upto configParsesSpec)

/-- 'tollerlaw12.ConfigPrints', WHERE WHAT IT READS IS OF BULK AT MOST 1048576: true; the input reads as it did. -/
def configPrintsUptoRow : OpenClaim := { program := "ytknlojlcahgnoaagreat", sum := "8e36eef2b5de0c335224186f1f79fa3bbb4b6312c09fbb6ad5189558c59c1f45", func := "toller/tollerlaw12.ConfigPrints", spec := "configPrints", inPlace := ["internal/abi.NoEscape", "internal/bytealg.MakeNoZero"], unfollowed := true, recurses := true, apart := false, narrowed := true }
def ConfigPrintsUptoSaid : Prop := configPrintsUptoRow.holds Tryz.pinned (OpenSpec.upto configPrintsSpec)

/-- 'tollerlaw12.ConfigBack', WHERE WHAT IT READS IS OF BULK AT MOST 1048576: true; the input reads as it did. -/
def configBackUptoRow : OpenClaim := { program := "ytknlojlcahgnoaagreat", sum := "8e36eef2b5de0c335224186f1f79fa3bbb4b6312c09fbb6ad5189558c59c1f45", func := "toller/tollerlaw12.ConfigBack", spec := "configBack", inPlace := ["internal/abi.NoEscape", "internal/bytealg.MakeNoZero"], unfollowed := true, recurses := true, apart := false, narrowed := true }
def ConfigBackUptoSaid : Prop := configBackUptoRow.holds Tryz.pinned (OpenSpec.upto configBackSpec)

/-- 'tollerlaw17.EnterAsks', WHERE WHAT IT READS IS OF BULK AT MOST 1048576: true; the input reads as it did. -/
def enterAsksUptoRow : OpenClaim := { program := "ytknlojlcahgnoaagreat", sum := "8e36eef2b5de0c335224186f1f79fa3bbb4b6312c09fbb6ad5189558c59c1f45", func := "toller/tollerlaw17.EnterAsks", spec := "enterAsks", unfollowed := true, recurses := true, apart := false, narrowed := true }
def EnterAsksUptoSaid : Prop := enterAsksUptoRow.holds Tryz.pinned (OpenSpec.upto enterAsksSpec)

/-- 'tollerlaw17.EnterBack', WHERE WHAT IT READS IS OF BULK AT MOST 1048576: true; the input reads as it did. -/
def enterBackUptoRow : OpenClaim := { program := "ytknlojlcahgnoaagreat", sum := "8e36eef2b5de0c335224186f1f79fa3bbb4b6312c09fbb6ad5189558c59c1f45", func := "toller/tollerlaw17.EnterBack", spec := "enterBack", unfollowed := true, recurses := true, apart := false, narrowed := true }
def EnterBackUptoSaid : Prop := enterBackUptoRow.holds Tryz.pinned (OpenSpec.upto enterBackSpec)

/-- 'tollerlaw17.EnterLate', WHERE WHAT IT READS IS OF BULK AT MOST 1048576: true; the input reads as it did. -/
def enterLateUptoRow : OpenClaim := { program := "ytknlojlcahgnoaagreat", sum := "8e36eef2b5de0c335224186f1f79fa3bbb4b6312c09fbb6ad5189558c59c1f45", func := "toller/tollerlaw17.EnterLate", spec := "enterLate", unfollowed := true, recurses := true, apart := false, narrowed := true }
def EnterLateUptoSaid : Prop := enterLateUptoRow.holds Tryz.pinned (OpenSpec.upto enterLateSpec)

/-- 'tollerlaw17.EnterWrong', WHERE WHAT IT READS IS OF BULK AT MOST 1048576: true; the input reads as it did. -/
def enterWrongUptoRow : OpenClaim := { program := "ytknlojlcahgnoaagreat", sum := "8e36eef2b5de0c335224186f1f79fa3bbb4b6312c09fbb6ad5189558c59c1f45", func := "toller/tollerlaw17.EnterWrong", spec := "enterWrong", unfollowed := true, recurses := true, apart := false, narrowed := true }
def EnterWrongUptoSaid : Prop := enterWrongUptoRow.holds Tryz.pinned (OpenSpec.upto enterWrongSpec)

end Rows
end Go.Proofs.YtknlojlcahgnoaaGreat
