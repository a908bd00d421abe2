/- A region that draws its order, whose operations read, and whose callees make memory but leave what was there: one walk, in the class of all worlds that have grown. -/
import Derived.Test.YtnlmbmbalmkiiaaGreatBase
import Derived.BigQuiet
namespace Go.Proofs.YtnlmbmbalmkiiaaGreat
open Go.RowKit
set_option linter.unusedVariables false

/-- a world that has grown -/
structure Grown (w : World) where
  at' : World
  ext : Ext w at'
instance grown_some (w : World) : Nonempty (Grown w) := ⟨⟨w, Ext.refl w⟩⟩
def grown (w : World) (s : Grown w) : World := s.at'
theorem grown_ext (w : World) (s : Grown w) : Ext w (grown w s) := s.ext
theorem grown_cell {w : World} {a : Addr} {v : Value} (h : w.cell? a = some v) (s : Grown w) : (grown w s).cell? a = some v := (grown_ext w s).keep h
theorem wp_region_grow {P : Program} {id : Nat} {Q : Exit → Act → World → Prop} {a : Act} {w : World} {l : List Oper} (hm : P.follows .mixedOrders = true) (hB : Region.lexB .any l.toArray = true)
    (h : wpQuiet P l.toArray (fun w' => ∃ s : Grown w, w' = grown w s) (fun a' => ∀ w', (∃ s : Grown w, w' = grown w s) → Q .normal a' w') l a) : (Code.region id l.toArray true).wp P Q a w :=
  wp_region_quiet (C := fun w' => ∃ s : Grown w, w' = grown w s) hm hB ⟨⟨w.drew, (Ext.refl w).drew⟩, rfl⟩ (by simpa using h)
/-- a callee that makes memory -/
theorem grow_call {P : Program} {f : FuncId} {args : Array Value} {w : World} {s : Grown w} {v : Value}
    (h : Calls P f args (grown w s) fun e w' => e = .returned v ∧ Ext (grown w s) w') : Calls P f args (grown w s) fun e w'' => e = .returned v ∧ ∃ s' : Grown w, w'' = grown w s' :=
  h.mono fun _ W ⟨he, hm⟩ => ⟨he, ⟨W, (grown_ext w s).trans hm⟩, rfl⟩
/-- .. that reads -/
theorem grow_same {P : Program} {f : FuncId} {args : Array Value} {w : World} {s : Grown w} {v : Value}
    (h : Calls P f args (grown w s) fun e w' => e = .returned v ∧ w' = grown w s) : Calls P f args (grown w s) fun e w'' => e = .returned v ∧ ∃ s' : Grown w, w'' = grown w s' :=
  h.mono fun _ W ⟨he, hm⟩ => ⟨he, s, hm⟩
end Go.Proofs.YtnlmbmbalmkiiaaGreat
