/- Walks: package kernel. -/
import Derived.Deep.RegionHeld3
import Derived.Test.YtknlojlcahgnoaaGreatCf10

namespace Go.Proofs.YtknlojlcahgnoaaGreat
open Go.RowKit
set_option linter.unusedVariables false
set_option linter.unusedSimpArgs false

theorem kl2 (W : World) (C : Array Value) (t : TypeId) : ((W.alloc (.map kernels 3)).alloc (.cells C t)).heap[W.heap.size]? = some (.map kernels 3) :=
  (heap_alloc_old (W.alloc (.map kernels 3)) (.cells C t) (by rw [World.size_alloc]; omega)).trans (map_new_at W _)
end Go.Proofs.YtknlojlcahgnoaaGreat
