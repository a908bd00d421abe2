/- The tree of prefixes in memory: maps from bytes to nodes; nodes. -/
import Derived.Test.YtknlojlcahgnoaaGreatCf2
import Derived.Test.YtknlojlcahgnoaaGreatCf7
import Derived.Test.YtknlojlcahgnoaaGreatCf3

namespace Go.Proofs.YtknlojlcahgnoaaGreat
open Go.RowKit
set_option linter.unusedVariables false
set_option linter.unusedSimpArgs false

abbrev Kids := List (UInt8 × Nat × Nat)
def kent (x : UInt8 × Nat × Nat) : MapEntry := ⟨.int .u8 (x.1.toNat : Int), .pointer (some ⟨x.2.1, 0, none⟩), x.2.2⟩
def kents (l : Kids) : Array MapEntry := (l.map kent).toArray
/-- block b is a map of these kids -/
def KMap (w : World) (b : Nat) (l : Kids) (c : Nat) : Prop := w.heap[b]? = some (.map (kents l) c)
theorem KMap.lt {w : World} {b c : Nat} {l : Kids} (h : KMap w b l c) : b < w.heap.size := lt_of_block h
theorem KMap.ext {w w' : World} {b c : Nat} {l : Kids} (h : KMap w b l c) (e : Ext w w') : KMap w' b l c := (e.block h.lt).trans h
theorem KMap.extB {w w' : World} {b c g : Nat} {l : Kids} (h : KMap w b l c) (e : ExtB g w w') (ne : b ≠ g) : KMap w' b l c := (e.block b h.lt ne).trans h
theorem KMap.other {w : World} {b c : Nat} {l : Kids} (h : KMap w b l c) {a : Addr} (ne : b ≠ a.block) (v : Value) : KMap (w.setCell a v) b l c := (Below.heap_setCell _ _ _ _ ne).trans h
theorem KMap.ne {w : World} {b c g : Nat} {l : Kids} {C : Array Value} {t : TypeId} (h : KMap w b l c) (k : Blk w g C t) : b ≠ g := fun e => by
  subst e
  have := (show w.heap[b]? = some (.map (kents l) c) from h).symm.trans (show w.heap[b]? = some (.cells C t) from k)
  cases this
theorem KMap.new (w : World) : KMap (w.alloc (.map #[] 0)) w.heap.size [] 0 := (MapKept.heap_alloc w _).1
section
variable {P : Program} {t k e : TypeId}
end

def Rl.cells (r : Rl) : Array Value := #[.string r.p, .int .u64 r.e, .int .u64 r.b, .int .u8 r.k]
def Nd.part (x : Nd) : ByteArray := ⟨(x.path.drop x.plen).toArray⟩
def Nd.rp (x : Nd) : Value := match x.rule with
  | some r => .pointer (some ⟨r.1, 0, none⟩)
  | none => .pointer none
def Nd.cells (x : Nd) (root : Nat) (many : Int) : Array Value := if x.a = root then #[.string x.part, x.rp, .map (some x.mb), .int .i64 many] else #[.string x.part, x.rp, .map (some x.mb)]
def Nd.ty (x : Nd) (root : Nat) : TypeId := if x.a = root then 210 else 208
/-- a tree in memory, from block lo on -/
structure TreeAt (w : World) (lo root : Nat) (many : Int) (ns : NSet) : Prop where
  trie : Trie root ns
  cells : ∀ x ∈ ns, Blk w x.a (x.cells root many) (x.ty root)
  maps : ∀ x ∈ ns, KMap w x.mb x.kids x.c
  rules : ∀ x ∈ ns, ∀ r, x.rule = some r → Blk w r.1 r.2.cells 37
  low : ∀ x ∈ ns, lo ≤ x.a ∧ lo ≤ x.mb
  len : ∀ x ∈ ns, x.path.length ≤ maxLen

theorem TreeAt.ext {w w' : World} {lo root : Nat} {many : Int} {ns : NSet} (h : TreeAt w lo root many ns) (e : Ext w w') : TreeAt w' lo root many ns :=
  ⟨h.trie, fun x hx => (h.cells x hx).ext e, fun x hx => (h.maps x hx).ext e, fun x hx r hr => (h.rules x hx r hr).ext e, h.low, h.len⟩
end Go.Proofs.YtknlojlcahgnoaaGreat
