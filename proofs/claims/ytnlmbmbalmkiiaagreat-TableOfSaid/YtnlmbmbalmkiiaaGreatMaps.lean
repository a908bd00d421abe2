/- Maps: what the operations do to a block that is a map, whatever its elements. -/
import Derived.Test.YtnlmbmbalmkiiaaGreatBase
namespace Go.Proofs.YtnlmbmbalmkiiaaGreat
open Go.RowKit
set_option linter.unusedVariables false
set_option linter.unusedSimpArgs false

section
variable {P : Program} {t k e : TypeId} {d : TypeDesc}

theorem map_new_at (w : World) (o : Obj) : (w.alloc o).heap[w.heap.size]? = some o := (MapKept.heap_alloc w o).1

theorem set_new (w : World) (o o' : Obj) : ({ w.alloc o with heap := (w.alloc o).heap.setIfInBounds w.heap.size o' } : World) = w.alloc o' := by
  show ({ w with heap := (w.heap.push o).setIfInBounds w.heap.size o' } : World) = { w with heap := w.heap.push o' }
  congr 1
  apply Array.ext
  · simp
  · intro i h1 h2
    simp only [Array.size_setIfInBounds, Array.size_push] at h1
    rw [Array.getElem_setIfInBounds (by simpa using h1)]
    by_cases h : w.heap.size = i
    · subst h; simp
    · simp [h, Array.getElem_push, show i < w.heap.size by omega]

/-- a store of a new key into a map that stands at the world's end -/
theorem run_update_new (ht : P.underlying t = some (.map k e)) (hk : P.underlying k = some d) {key : Value} (hkey : MapKept.IsKey d key) {es : Array MapEntry} {c : Nat} (hnew : Instr.findNow d key es.toList 0 = some none) (w : World) (v : Value) :
    (Instr.mapUpdate t (.map (some w.heap.size)) key v).run P (w.alloc (.map es c)) = .ok () (w.alloc (.map (es.push ⟨key, v, c⟩) (c + 1))) := by
  have hb := map_new_at w (.map es c)
  simp [Instr.mapUpdate, run_underlying ht, MapKept.run_getObj_map hb, MapKept.run_checkKey hk hkey, MapKept.run_findKey hk hnew, MapKept.run_setObj_map _ hb, Result.andThen]
  exact set_new _ _ _

theorem run_lookup_yes (ht : P.underlying t = some (.map k e)) (hk : P.underlying k = some d) {key : Value} (hkey : MapKept.IsKey d key) {es : Array MapEntry} {c : Nat} {w : World} {b i : Nat} {v : Value}
    (hb : w.heap[b]? = some (.map es c)) (hf : Instr.findNow d key es.toList 0 = some (some (i, v))) :
    (Instr.lookup t (.map (some b)) key true).run P w = .ok (.tuple #[v, .bool true]) w ∧ (Instr.lookup t (.map (some b)) key false).run P w = .ok v w := by
  constructor <;> simp [Instr.lookup, run_underlying ht, MapKept.run_getObj_map hb, MapKept.run_checkKey hk hkey, MapKept.run_findKey hk hf, Result.andThen]

theorem run_lookup_no (ht : P.underlying t = some (.map k e)) (hk : P.underlying k = some d) {key : Value} (hkey : MapKept.IsKey d key) {es : Array MapEntry} {c : Nat} {w : World} {b : Nat} {z : Value}
    (hb : w.heap[b]? = some (.map es c)) (hz : (zeroValue e).run P w = .ok z w) (hf : Instr.findNow d key es.toList 0 = some none) :
    (Instr.lookup t (.map (some b)) key true).run P w = .ok (.tuple #[z, .bool false]) w ∧ (Instr.lookup t (.map (some b)) key false).run P w = .ok z w := by
  constructor <;> simp [Instr.lookup, run_underlying ht, MapKept.run_getObj_map hb, MapKept.run_checkKey hk hkey, MapKept.run_findKey hk hf, Result.andThen, hz]
end
end Go.Proofs.YtnlmbmbalmkiiaaGreat
