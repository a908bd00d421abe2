/- Plain lemmas on integers, bits and 128-bit products: no program in sight. A world that holds all that another one held, and new blocks besides. The tree of prefixes, plainly. Walks: packages wide and num; the references 01 and 02. Plain sums that stop at their ends, and the three kernels, as functions on integers: no program in sight. -/
import Derived.WalkKit
import Derived.WalkSpells
import Derived.WalkLawsBesides
import Derived.ProofKit
import Derived.Lib.Hide
import Derived.Laws.EntriesVeiled
import Derived.Lib.ConvBytes
import Derived.Test.YtknlojlcahgnoaaGreatProg

namespace Go.Proofs.YtknlojlcahgnoaaGreat
open Go.RowKit

theorem wrap_u64 (n : Int) : IntKind.u64.wrap n = n % 18446744073709551616 := by
  simp [IntKind.wrap, IntKind.signed, IntKind.bits]
theorem wraps_u64 (n : Int) (h₀ : 0 ≤ n) (h₁ : n < 2 ^ 64) : IntKind.u64.wrap n = n := by rw [wrap_u64]; omega
theorem and_mask32 (a : Int) (h0 : 0 ≤ a) (h1 : a < 18446744073709551616) : bits .and .u64 a 4294967295 = a % 4294967296 :=
  bits_mask .u64 64 (by decide) wraps_u64 32 (by decide) a h0 h1
theorem or_join32 (x y : Int) (hx : 0 ≤ x) (hx' : x % 4294967296 = 0) (hx2 : x < 18446744073709551616) (hy : 0 ≤ y) (hy' : y < 4294967296) :
    bits .or .u64 x y = x + y :=
  bits_join .u64 64 (by decide) wraps_u64 32 x y hx hx' hx2 hy hy' (by omega)

theorem prod_lt (x y : Int) (hx : 0 ≤ x) (hy : 0 ≤ y) (hx' : x ≤ 4294967295) (hy' : y ≤ 4294967295) : 0 ≤ x * y ∧ x * y ≤ 18446744065119617025 := by
  refine ⟨Int.mul_nonneg hx hy, ?_⟩
  have := Int.mul_le_mul hx' hy' hy (by omega : (0:Int) ≤ 4294967295)
  omega
theorem prod_split (x1 x0 y1 y0 : Int) : (x1 * 4294967296 + x0) * (y1 * 4294967296 + y0) = (x1 * y1) * 18446744073709551616 + (x0 * y1) * 4294967296 + (x1 * y0) * 4294967296 + x0 * y0 := by
  simp only [Int.add_mul, Int.mul_add]
  have e1 : x1 * 4294967296 * (y1 * 4294967296) = (x1 * y1) * 18446744073709551616 := by
    rw [Int.mul_assoc, Int.mul_left_comm 4294967296 y1, ← Int.mul_assoc]; simp only [Int.reduceMul]
  have e2 : x1 * 4294967296 * y0 = (x1 * y0) * 4294967296 := by rw [Int.mul_right_comm]
  have e3 : x0 * (y1 * 4294967296) = (x0 * y1) * 4294967296 := by rw [Int.mul_assoc]
  omega

/-- THE PRODUCT OF 128 BITS by halves, in the walk's own spelling. -/
theorem mul_halves (a b : Int) (ha0 : 0 ≤ a) (ha1 : a < 18446744073709551616) (hb0 : 0 ≤ b) (hb1 : b < 18446744073709551616) :
    (IntKind.u64.wrap (IntKind.u64.wrap (IntKind.u64.wrap (a / 4294967296 * (b / 4294967296)) +
        IntKind.u64.wrap (IntKind.u64.wrap (a / 4294967296 * bits BinOp.and IntKind.u64 b 4294967295) +
          IntKind.u64.wrap (bits BinOp.and IntKind.u64 a 4294967295 * bits BinOp.and IntKind.u64 b 4294967295) / 4294967296) / 4294967296) +
      IntKind.u64.wrap (IntKind.u64.wrap (bits BinOp.and IntKind.u64 a 4294967295 * (b / 4294967296)) +
        bits BinOp.and IntKind.u64 (IntKind.u64.wrap (IntKind.u64.wrap (a / 4294967296 * bits BinOp.and IntKind.u64 b 4294967295) +
          IntKind.u64.wrap (bits BinOp.and IntKind.u64 a 4294967295 * bits BinOp.and IntKind.u64 b 4294967295) / 4294967296)) 4294967295) / 4294967296))
      = a * b / 18446744073709551616 ∧
    bits BinOp.or IntKind.u64 (IntKind.u64.wrap (IntKind.u64.wrap (IntKind.u64.wrap (bits BinOp.and IntKind.u64 a 4294967295 * (b / 4294967296)) +
        bits BinOp.and IntKind.u64 (IntKind.u64.wrap (IntKind.u64.wrap (a / 4294967296 * bits BinOp.and IntKind.u64 b 4294967295) +
          IntKind.u64.wrap (bits BinOp.and IntKind.u64 a 4294967295 * bits BinOp.and IntKind.u64 b 4294967295) / 4294967296)) 4294967295) * 4294967296))
      (bits BinOp.and IntKind.u64 (IntKind.u64.wrap (bits BinOp.and IntKind.u64 a 4294967295 * bits BinOp.and IntKind.u64 b 4294967295)) 4294967295)
      = a * b % 18446744073709551616 := by
  rw [and_mask32 a ha0 ha1, and_mask32 b hb0 hb1]
  have hab : a * b = (a / 4294967296 * (b / 4294967296)) * 18446744073709551616 + (a % 4294967296 * (b / 4294967296)) * 4294967296 +
      (a / 4294967296 * (b % 4294967296)) * 4294967296 + a % 4294967296 * (b % 4294967296) := by
    have := prod_split (a / 4294967296) (a % 4294967296) (b / 4294967296) (b % 4294967296)
    rw [← this]; congr 1 <;> omega
  obtain ⟨l1, u1⟩ := prod_lt (a / 4294967296) (b / 4294967296) (by omega) (by omega) (by omega) (by omega)
  obtain ⟨l2, u2⟩ := prod_lt (a % 4294967296) (b / 4294967296) (by omega) (by omega) (by omega) (by omega)
  obtain ⟨l3, u3⟩ := prod_lt (a / 4294967296) (b % 4294967296) (by omega) (by omega) (by omega) (by omega)
  obtain ⟨l4, u4⟩ := prod_lt (a % 4294967296) (b % 4294967296) (by omega) (by omega) (by omega) (by omega)
  rw [hab]
  generalize a / 4294967296 * (b / 4294967296) = p11 at *
  generalize a % 4294967296 * (b / 4294967296) = p01 at *
  generalize a / 4294967296 * (b % 4294967296) = p10 at *
  generalize a % 4294967296 * (b % 4294967296) = p00 at *
  simp only [wrap_u64]
  rw [and_mask32 _ (by omega) (by omega), and_mask32 _ (by omega) (by omega), or_join32 _ _ (by omega) (by omega) (by omega) (by omega) (by omega)]
  constructor <;> omega

end Go.Proofs.YtknlojlcahgnoaaGreat

namespace Go.Proofs.YtknlojlcahgnoaaGreat
open Go.RowKit

/-- what was there is as it was; there may be new blocks -/
def Ext (w w' : World) : Prop := Below w.heap.size w w'

theorem Ext.refl (w : World) : Ext w w := Below.refl _ _
theorem Ext.trans {a b c : World} (h : Ext a b) (k : Ext b c) : Ext a c := Below.trans h (Below.mono k h.size)
theorem Ext.alloc {a b : World} (h : Ext a b) (o : Obj) : Ext a (b.alloc o) := Below.alloc h h.size o
theorem Ext.drew {a b : World} (h : Ext a b) : Ext a b.drew := Below.drew h
theorem Ext.sz {a b : World} (h : Ext a b) : a.heap.size ≤ b.heap.size := h.size
theorem Ext.setCell {a b : World} (h : Ext a b) {p : Addr} (hp : a.heap.size ≤ p.block) (u : Value) : Ext a (b.setCell p u) := Below.setCell h hp u
theorem Ext.cells {W w1 : World} (hb : Ext W w1) : (∀ b o, b < W.heap.size → w1.cell? ⟨b, o, none⟩ = W.cell? ⟨b, o, none⟩) ∧ (∀ b o, b < W.heap.size → w1.frozen? ⟨b, o, none⟩ = W.frozen? ⟨b, o, none⟩) :=
  ⟨fun b o h => Below.cell hb (p := ⟨b, o, none⟩) h, fun b o h => Below.frozen hb (p := ⟨b, o, none⟩) h⟩
theorem Ext.cell {W w1 : World} (hb : Ext W w1) {b o : Nat} (h : b < W.heap.size) : w1.cell? ⟨b, o, none⟩ = W.cell? ⟨b, o, none⟩ := hb.cells.1 b o h
theorem Ext.block {W w1 : World} (hb : Ext W w1) {b : Nat} (h : b < W.heap.size) : w1.heap[b]? = W.heap[b]? := Below.block hb b h

theorem ret_int {k : IntKind} {a b : Int} (h : a = b) : Ending.returned (.int k a) = .returned (.int k b) := by rw [h]
theorem val_int {k : IntKind} {a b : Int} (h : a = b) : Value.int k a = .int k b := by rw [h]
theorem val_bool {a b : Bool} (h : a = b) : Value.bool a = .bool b := by rw [h]
theorem ret_str {a b : ByteArray} (h : a = b) : Ending.returned (.string a) = .returned (.string b) := by rw [h]
theorem ret_2 {a b c d : Value} (h : a = c) (h' : b = d) : Ending.returned (.tuple #[a, b]) = .returned (.tuple #[c, d]) := by rw [h, h']
theorem ret_3 {a b c d x y : Value} (h : a = c) (h' : b = d) (h'' : x = y) : Ending.returned (.tuple #[a, b, x]) = .returned (.tuple #[c, d, y]) := by rw [h, h', h'']
theorem ret_bool {a b : Bool} (h : a = b) : Ending.returned (.bool a) = .returned (.bool b) := by rw [h]

theorem Ext.keep {w w' : World} (h : Ext w w') {a : Addr} {v : Value} (c : w.cell? a = some v) : w'.cell? a = some v := by
  have hlt : a.block < w.heap.size := by
    unfold World.cell? at c
    rcases Nat.lt_or_ge a.block w.heap.size with h | h
    · exact h
    · rw [Array.getElem?_eq_none h] at c; cases c
  rw [Below.cell h hlt]; exact c
theorem cell_lt {w : World} {b o : Nat} {v : Value} (c : w.cell? ⟨b, o, none⟩ = some v) : b < w.heap.size := by
  unfold World.cell? at c
  rcases Nat.lt_or_ge b w.heap.size with h | h
  · exact h
  · simp [Array.getElem?_eq_none h] at c

/-- block b holds just these cells, and may be written -/
def Blk (w : World) (b : Nat) (C : Array Value) (t : TypeId) : Prop := w.heap[b]? = some (.cells C t)
theorem Blk.lt {w : World} {b : Nat} {C : Array Value} {t : TypeId} (h : Blk w b C t) : b < w.heap.size := lt_of_block h
theorem Blk.new (w : World) (C : Array Value) (t : TypeId) : Blk (w.alloc (.cells C t)) w.heap.size C t := (MapKept.heap_alloc w _).1
theorem Blk.new' (w : World) (C : Array Value) (t : TypeId) {b : Nat} (hb : b = w.heap.size) : Blk (w.alloc (.cells C t)) b C t := by subst hb; exact Blk.new w C t
theorem Blk.alloc {w : World} {b : Nat} {C : Array Value} {t : TypeId} (h : Blk w b C t) (o : Obj) : Blk (w.alloc o) b C t := ((MapKept.heap_alloc w o).2 b h.lt).trans h
theorem Blk.drew {w : World} {b : Nat} {C : Array Value} {t : TypeId} (h : Blk w b C t) : Blk w.drew b C t := h
theorem Blk.ext {w w' : World} {b : Nat} {C : Array Value} {t : TypeId} (h : Blk w b C t) (e : Ext w w') : Blk w' b C t := (e.block h.lt).trans h
theorem Blk.cell {w : World} {b : Nat} {C : Array Value} {t : TypeId} (h : Blk w b C t) (o : Nat) : w.cell? ⟨b, o, none⟩ = C[o]? := by simp [World.cell?, show w.heap[b]? = _ from h]
theorem Blk.free {w : World} {b : Nat} {C : Array Value} {t : TypeId} (h : Blk w b C t) (o : Nat) : w.frozen? ⟨b, o, none⟩ = false := by simp [World.frozen?, show w.heap[b]? = _ from h]
theorem Blk.set {w : World} {b : Nat} {C : Array Value} {t : TypeId} (h : Blk w b C t) (o : Nat) (v : Value) : Blk (w.setCell ⟨b, o, none⟩ v) b (C.setIfInBounds o v) t := by
  have hlt := h.lt
  have h' : w.heap[b] = .cells C t := by
    have := (Array.getElem?_eq_some_iff.1 (show w.heap[b]? = some (.cells C t) from h)).2
    exact this
  show (w.heap.modify b _)[b]? = _
  rw [Array.getElem?_eq_getElem (by simpa using hlt), Array.getElem_modify_self, h']
  simp
theorem Blk.other {w : World} {b : Nat} {C : Array Value} {t : TypeId} (h : Blk w b C t) {a : Addr} (ne : b ≠ a.block) (v : Value) : Blk (w.setCell a v) b C t := by
  show (w.setCell a v).heap[b]? = _
  rw [Below.heap_setCell _ _ _ _ ne]; exact h

theorem Blk.ne {w : World} {b c : Nat} {C D : Array Value} {t u : TypeId} (h : Blk w b C t) (k : Blk w c D u) (hs : C.size ≠ D.size) : b ≠ c := fun e => by
  subst e
  have := (show w.heap[b]? = some (.cells C t) from h).symm.trans (show w.heap[b]? = some (.cells D u) from k)
  simp at this
  exact hs (by rw [this.1])

/-- what was there is as it was but for block b; there may be new blocks -/
structure ExtB (b : Nat) (w w' : World) : Prop where
  os : w'.os = w.os
  tape : w'.tape = w.tape
  output : w'.output = w.output
  size : w.heap.size ≤ w'.heap.size
  block : ∀ k, k < w.heap.size → k ≠ b → w'.heap[k]? = w.heap[k]?
theorem ExtB.refl (b : Nat) (w : World) : ExtB b w w := ⟨rfl, rfl, rfl, Nat.le_refl _, fun _ _ _ => rfl⟩
theorem Ext.toB {w w' : World} (h : Ext w w') (b : Nat) : ExtB b w w' := ⟨Below.os h, Below.tape h, Below.output h, h.sz, fun k hk _ => Below.block h k hk⟩
theorem ExtB.trans {b : Nat} {x y z : World} (h : ExtB b x y) (k : ExtB b y z) : ExtB b x z :=
  ⟨k.os.trans h.os, k.tape.trans h.tape, k.output.trans h.output, Nat.le_trans h.size k.size, fun i hi hb => (k.block i (Nat.lt_of_lt_of_le hi h.size) hb).trans (h.block i hi hb)⟩
theorem ExtB.alloc {b : Nat} {x y : World} (h : ExtB b x y) (o : Obj) : ExtB b x (y.alloc o) := h.trans (((Ext.refl y).alloc o).toB b)
theorem ExtB.drew {b : Nat} {x y : World} (h : ExtB b x y) : ExtB b x y.drew := h.trans (((Ext.refl y).drew).toB b)
theorem ExtB.setCell {b : Nat} {x y : World} (h : ExtB b x y) (o : Nat) (v : Value) : ExtB b x (y.setCell ⟨b, o, none⟩ v) :=
  h.trans ⟨rfl, rfl, rfl, by simp [World.setCell], fun k _ hb => Below.heap_setCell _ _ _ _ hb⟩
theorem ExtB.setNew {b : Nat} {x y : World} (h : ExtB b x y) {a : Addr} (ha : x.heap.size ≤ a.block) (v : Value) : ExtB b x (y.setCell a v) :=
  ⟨h.os, h.tape, h.output, by simpa [World.setCell] using h.size, fun k hk hb => (Below.heap_setCell _ _ _ _ (by omega)).trans (h.block k hk hb)⟩
theorem Blk.extB {w w' : World} {c b : Nat} {C : Array Value} {t : TypeId} (h : Blk w c C t) (e : ExtB b w w') (ne : c ≠ b) : Blk w' c C t := (e.block c h.lt ne).trans h
/-- a block of one's own may be written -/
theorem Ext.own {x y z : World} {b : Nat} (h : Ext x y) (e : ExtB b y z) (hb : x.heap.size ≤ b) : Ext x z :=
  ⟨e.os.trans (Below.os h), e.tape.trans (Below.tape h), e.output.trans (Below.output h), Nat.le_trans h.sz e.size, fun k hk => (e.block k (Nat.lt_of_lt_of_le hk h.sz) (by omega)).trans (Below.block h k hk)⟩

/-- '[]byte(s)': a new row that holds the string's bytes. -/
theorem conv_bytes {P : Program} (w : World) (src dst e : TypeId) (s : ByteArray) (hs : P.underlying src = some .string) (hd : P.underlying dst = some (.slice e)) (he : P.underlying e = some (.int .u8)) :
    ∃ c w', (convert src dst (.string s)).run P w = .ok (.slice (some ⟨w.heap.size, 0, none⟩) s.size c) w' ∧ Ext w w' ∧ w'.heap.size = w.heap.size + 1 ∧
      s.size ≤ c ∧ ∀ j (h : j < s.data.toList.length), w'.cell? ⟨w.heap.size, 0 + j, none⟩ = some (.int .u8 (s.data.toList[j].toNat : Int)) := by
  refine ⟨_, _, Lib.run_convert_string_bytes w src dst e s hs hd he, ?_, Lib.bytesWorld_size _ _ _, ?_, ?_⟩
  · exact ⟨rfl, rfl, rfl, by rw [Lib.bytesWorld_size]; omega, fun k hk => Lib.bytesWorld_at_old _ _ _ _ hk⟩
  · exact grownCap_ge _ _ _ _
  · intro j h
    have hj : j < s.size := by show j < s.data.size; rw [← Array.length_toList]; exact h
    rw [Nat.zero_add, Lib.bytesWorld_cell _ _ _ _ hj]
    congr 3
    rw [List.getD_eq_getElem?_getD, List.getElem?_eq_getElem h, Option.getD_some]
end Go.Proofs.YtknlojlcahgnoaaGreat

namespace Go.Proofs.YtknlojlcahgnoaaGreat
set_option linter.unusedVariables false
set_option linter.unusedSimpArgs false

/-- a rule -/
structure Rl where
  p : ByteArray
  e : Int
  b : Int
  k : Int
/-- a node: its block, its map's, the bytes that lead to it, how many of them lead to its parent, its rule (and where it lies), and what goes on -/
structure Nd where
  a : Nat
  mb : Nat
  path : List UInt8
  plen : Nat
  rule : Option (Nat × Rl)
  kids : List (UInt8 × Nat × Nat)
  c : Nat

theorem nodup_map_inj {α β : Type} {f : α → β} : ∀ {l : List α}, (l.map f).Nodup → ∀ {x y : α}, x ∈ l → y ∈ l → f x = f y → x = y
  | [], _, x, _, hx, _, _ => by cases hx
  | z :: l, h, x, y, hx, hy, e => by
    rw [List.map_cons, List.nodup_cons] at h
    rcases List.mem_cons.1 hx with e1 | hx2 <;> rcases List.mem_cons.1 hy with e2 | hy2
    · exact e1.trans e2.symm
    · refine absurd ?_ h.1
      rw [← e1, e]
      exact List.mem_map_of_mem hy2
    · refine absurd ?_ h.1
      rw [← e2, ← e]
      exact List.mem_map_of_mem hx2
    · exact nodup_map_inj h.2 hx2 hy2 e
theorem pre_get {p q : List UInt8} (h : p <+: q) {i : Nat} (hi : i < p.length) : q[i]? = p[i]? := by
  obtain ⟨r, rfl⟩ := h
  rw [List.getElem?_append_left hi]
theorem pre_eq {p q r : List UInt8} (h1 : p <+: r) (h2 : q <+: r) (h : p.length = q.length) : p = q :=
  (List.prefix_of_prefix_length_le h1 h2 (by omega)).eq_of_length h

/-- a set of nodes -/
def NSet := Nd → Prop
instance nset_mem : Membership Nd NSet := ⟨fun s x => s x⟩

structure Trie (root : Nat) (ns : NSet) : Prop where
  inj : ∀ m ∈ ns, ∀ m' ∈ ns, m.a = m'.a → m = m'
  kid : ∀ n ∈ ns, ∀ x ∈ n.kids, ∃ m ∈ ns, m.a = x.2.1 ∧ m.plen = n.path.length ∧ n.path <+: m.path ∧ m.path[m.plen]? = some x.1
  keys : ∀ n ∈ ns, (n.kids.map (·.1)).Nodup
  par : ∀ m ∈ ns, m.path ≠ [] → ∃ n ∈ ns, ∃ x ∈ n.kids, x.2.1 = m.a
  top : ∀ m ∈ ns, m.path = [] → m.a = root
  root : ∃ r ∈ ns, r.a = root ∧ r.path = [] ∧ r.plen = 0
  map : ∀ m ∈ ns, ∀ m' ∈ ns, m.mb = m'.mb → m = m'
  nz : ∀ m ∈ ns, m.path ≠ [] → m.plen < m.path.length

section
variable {root : Nat} {ns : NSet}
/-- a node's parent, whole -/
theorem Trie.up (h : Trie root ns) {x : Nd} (hx : x ∈ ns) (hne : x.path ≠ []) : ∃ p ∈ ns, ∃ k ∈ p.kids, k.2.1 = x.a ∧ x.plen = p.path.length ∧ p.path <+: x.path ∧ x.path[p.path.length]? = some k.1 ∧ p.path.length < x.path.length := by
  obtain ⟨p, hp, k, hk, e⟩ := h.par x hx hne
  obtain ⟨m, hm, e1, e2, e3, e4⟩ := h.kid p hp k hk
  obtain rfl := h.inj m hm x hx (e1.trans e)
  rw [e2] at e4
  refine ⟨p, hp, k, hk, e, e2, e3, e4, ?_⟩
  rcases Nat.lt_or_ge p.path.length m.path.length with q | q
  · exact q
  · rw [List.getElem?_eq_none q] at e4; cases e4
theorem Trie.both (h : Trie root ns) : ∀ N, (∀ x ∈ ns, ∀ y ∈ ns, x.path.length ≤ N → x.path = y.path → x = y) ∧
    (∀ n ∈ ns, ∀ x ∈ ns, x.path.length ≤ N → n.path <+: x.path → n.path.length < x.path.length → ∃ k ∈ n.kids, x.path[n.path.length]? = some k.1 ∧ ∃ m ∈ ns, m.a = k.2.1 ∧ m.path <+: x.path ∧ n.path.length < m.path.length) := by
  intro N
  induction N with
  | zero =>
    refine ⟨fun x hx y hy hl e => ?_, fun n hn x hx hl _ hlt => by omega⟩
    have h1 : x.path = [] := List.eq_nil_of_length_eq_zero (by omega)
    exact h.inj x hx y hy ((h.top x hx h1).trans (h.top y hy (e ▸ h1)).symm)
  | succ N ih =>
    obtain ⟨ih1, ih2⟩ := ih
    have hdesc : ∀ n ∈ ns, ∀ x ∈ ns, x.path.length ≤ N + 1 → n.path <+: x.path → n.path.length < x.path.length → ∃ k ∈ n.kids, x.path[n.path.length]? = some k.1 ∧ ∃ m ∈ ns, m.a = k.2.1 ∧ m.path <+: x.path ∧ n.path.length < m.path.length := by
      intro n hn x hx hl hpre hlt
      obtain ⟨p, hp, k, hk, e1, e2, e3, e4, e5⟩ := h.up hx (fun q => by rw [q] at hlt; simp at hlt)
      rcases Nat.lt_trichotomy n.path.length p.path.length with q | q | q
      · obtain ⟨k', hk', f1, m, hm, f2, f3, f4⟩ := ih2 n hn p hp (by omega) (List.prefix_of_prefix_length_le hpre e3 (by omega)) q
        exact ⟨k', hk', (pre_get e3 q).trans f1, m, hm, f2, f3.trans e3, f4⟩
      · obtain rfl := ih1 p hp n hn (by omega) (pre_eq e3 hpre q.symm)
        exact ⟨k, hk, e4, x, hx, e1.symm, List.prefix_rfl, e5⟩
      · obtain ⟨k', hk', f1, m, hm, f2, f3, f4⟩ := ih2 p hp n hn (by omega) (List.prefix_of_prefix_length_le e3 hpre (by omega)) q
        have g1 : n.path[p.path.length]? = x.path[p.path.length]? := (pre_get hpre q).symm
        rw [g1, e4] at f1
        have hkk : k' = k := nodup_map_inj (h.keys p hp) hk' hk (by simpa using f1.symm)
        subst hkk
        obtain rfl := h.inj m hm x hx (f2.trans e1)
        have := f3.length_le
        omega
    refine ⟨fun x hx y hy hl e => ?_, hdesc⟩
    rcases Nat.lt_or_ge x.path.length (N + 1) with hq | hq
    · exact ih1 x hx y hy (by omega) e
    have hne : x.path ≠ [] := fun q => by rw [q] at hq; simp at hq
    obtain ⟨p, hp, k, hk, e1, e2, e3, e4, e5⟩ := h.up hx hne
    obtain ⟨p', hp', k', hk', e1', e2', e3', e4', e5'⟩ := h.up hy (e ▸ hne)
    rw [← e] at e3' e4' e5'
    rcases Nat.lt_trichotomy p.path.length p'.path.length with q | q | q
    · obtain ⟨j, hj, f1, m, hm, f2, f3, f4⟩ := ih2 p hp p' hp' (by omega) (List.prefix_of_prefix_length_le e3 e3' (by omega)) q
      rw [← pre_get e3' q, e4] at f1
      have hkk : j = k := nodup_map_inj (h.keys p hp) hj hk (by simpa using f1.symm)
      subst hkk
      obtain rfl := h.inj m hm x hx (f2.trans e1)
      have := f3.length_le
      omega
    · obtain rfl := ih1 p hp p' hp' (by omega) (pre_eq e3 e3' q)
      rw [e4] at e4'
      have hkk : k = k' := nodup_map_inj (h.keys p hp) hk hk' (by simpa using e4')
      subst hkk
      exact h.inj x hx y hy (e1.symm.trans e1')
    · obtain ⟨j, hj, f1, m, hm, f2, f3, f4⟩ := ih2 p' hp' p hp (by omega) (List.prefix_of_prefix_length_le e3' e3 (by omega)) q
      rw [← pre_get e3 q, e4'] at f1
      have hkk : j = k' := nodup_map_inj (h.keys p' hp') hj hk' (by simpa using f1.symm)
      subst hkk
      obtain rfl := h.inj m hm y hy (f2.trans e1')
      have := f3.length_le
      rw [← e] at this
      omega
theorem Trie.uniq (h : Trie root ns) {x y : Nd} (hx : x ∈ ns) (hy : y ∈ ns) (e : x.path = y.path) : x = y := (h.both x.path.length).1 x hx y hy (Nat.le_refl _) e
theorem Trie.desc (h : Trie root ns) {n x : Nd} (hn : n ∈ ns) (hx : x ∈ ns) (hpre : n.path <+: x.path) (hlt : n.path.length < x.path.length) :
    ∃ k ∈ n.kids, x.path[n.path.length]? = some k.1 ∧ ∃ m ∈ ns, m.a = k.2.1 ∧ m.path <+: x.path ∧ n.path.length < m.path.length := (h.both x.path.length).2 n hn x hx (Nat.le_refl _) hpre hlt

theorem Trie.rt (h : Trie root ns) {r : Nd} (hr : r ∈ ns) (e : r.a = root) : r.path = [] ∧ r.plen = 0 := by
  obtain ⟨q, hq, e1, e2, e3⟩ := h.root
  obtain rfl := h.inj q hq r hr (e1.trans e.symm)
  exact ⟨e2, e3⟩

/-- a node turned for another one, at the same place -/
def swap1 (ns : NSet) (n' : Nd) : NSet := fun x => (x ∈ ns ∧ x.a ≠ n'.a) ∨ x = n'
/-- a node whose rule is set -/
def ruleAt (n : Nd) (r : Nat × Rl) : Nd := { n with rule := some r }
theorem Trie.setRule (h : Trie root ns) {n : Nd} (hn : n ∈ ns) (r : Nat × Rl) : Trie root (swap1 ns (ruleAt n r)) := by
  have up : ∀ x ∈ ns, ∃ y ∈ swap1 ns (ruleAt n r), y.a = x.a ∧ y.path = x.path ∧ y.plen = x.plen ∧ y.kids = x.kids ∧ y.mb = x.mb := by
    intro x hx
    by_cases e : x.a = n.a
    · obtain rfl := h.inj x hx n hn e
      exact ⟨ruleAt x r, Or.inr rfl, rfl, rfl, rfl, rfl, rfl⟩
    · exact ⟨x, Or.inl ⟨hx, e⟩, rfl, rfl, rfl, rfl, rfl⟩
  have down : ∀ y ∈ swap1 ns (ruleAt n r), ∃ x ∈ ns, y.a = x.a ∧ y.path = x.path ∧ y.plen = x.plen ∧ y.kids = x.kids ∧ y.mb = x.mb := by
    rintro y (⟨hy, _⟩ | rfl)
    · exact ⟨y, hy, rfl, rfl, rfl, rfl, rfl⟩
    · exact ⟨n, hn, rfl, rfl, rfl, rfl, rfl⟩
  have one : ∀ x ∈ swap1 ns (ruleAt n r), ∀ y ∈ swap1 ns (ruleAt n r), x.a = y.a → x = y := by
    rintro x (⟨hx, ex⟩ | rfl) y (⟨hy, ey⟩ | rfl) e
    · exact h.inj x hx y hy e
    · exact absurd e ex
    · exact absurd e.symm ey
    · rfl
  refine ⟨one, ?_, ?_, ?_, ?_, ?_, ?_, ?_⟩
  · intro y hy k hk
    obtain ⟨x, hx, e1, e2, e3, e4, -⟩ := down y hy
    rw [e4] at hk
    obtain ⟨m, hm, f1, f2, f3, f4⟩ := h.kid x hx k hk
    obtain ⟨m', hm', g1, g2, g3, -, -⟩ := up m hm
    exact ⟨m', hm', g1.trans f1, by rw [g3, f2, e2], by rw [e2, g2]; exact f3, by rw [g2, g3]; exact f4⟩
  · intro y hy
    obtain ⟨x, hx, -, -, -, e4, -⟩ := down y hy
    rw [e4]; exact h.keys x hx
  · intro y hy hne
    obtain ⟨x, hx, e1, e2, -, -, -⟩ := down y hy
    obtain ⟨p, hp, k, hk, f⟩ := h.par x hx (by rw [← e2]; exact hne)
    obtain ⟨p', hp', -, -, -, g4, -⟩ := up p hp
    exact ⟨p', hp', k, by rw [g4]; exact hk, f.trans e1.symm⟩
  · intro y hy he
    obtain ⟨x, hx, e1, e2, -, -, -⟩ := down y hy
    exact e1.trans (h.top x hx (e2.symm.trans he))
  · obtain ⟨q, hq, e1, e2, e3⟩ := h.root
    obtain ⟨q', hq', g1, g2, g3, -, -⟩ := up q hq
    exact ⟨q', hq', g1.trans e1, g2.trans e2, g3.trans e3⟩
  · intro x hx y hy e
    obtain ⟨x', hx', a1, -, -, -, a5⟩ := down x hx
    obtain ⟨y', hy', b1, -, -, -, b5⟩ := down y hy
    have := h.map x' hx' y' hy' (a5.symm.trans (e.trans b5))
    exact one x hx y hy (a1.trans (this ▸ b1.symm))
  · intro y hy he
    obtain ⟨x, hx, -, e2, e3, -, -⟩ := down y hy
    rw [e2, e3]; exact h.nz x hx (e2 ▸ he)

/-- a node with one more kid -/
def kidAt (n : Nd) (c : UInt8) (a : Nat) : Nd := { n with kids := n.kids ++ [(c, a, n.c)], c := n.c + 1 }
/-- a new leaf below a node -/
def leafOf (n : Nd) (a mb : Nat) (s : List UInt8) : Nd := ⟨a, mb, n.path ++ s, n.path.length, none, [], 0⟩
def growLeaf (ns : NSet) (n : Nd) (a mb : Nat) (c : UInt8) (s : List UInt8) : NSet := fun x => (x ∈ ns ∧ x.a ≠ n.a) ∨ x = kidAt n c a ∨ x = leafOf n a mb (c :: s)
theorem Trie.addLeaf (h : Trie root ns) {n : Nd} (hn : n ∈ ns) {a mb : Nat} {c : UInt8} {s : List UInt8} (hno : ∀ k ∈ n.kids, k.1 ≠ c) (ha : ∀ m ∈ ns, m.a ≠ a) (hmb : ∀ m ∈ ns, m.mb ≠ mb) :
    Trie root (growLeaf ns n a mb c s) := by
  have up : ∀ x ∈ ns, ∃ y ∈ growLeaf ns n a mb c s, y.a = x.a ∧ y.path = x.path ∧ y.plen = x.plen ∧ (∀ k ∈ x.kids, k ∈ y.kids) ∧ y.mb = x.mb := by
    intro x hx
    by_cases e : x.a = n.a
    · obtain rfl := h.inj x hx n hn e
      exact ⟨kidAt x c a, Or.inr (Or.inl rfl), rfl, rfl, rfl, fun k hk => List.mem_append_left _ hk, rfl⟩
    · exact ⟨x, Or.inl ⟨hx, e⟩, rfl, rfl, rfl, fun k hk => hk, rfl⟩
  have down : ∀ y ∈ growLeaf ns n a mb c s, (∃ x ∈ ns, y.a = x.a ∧ y.path = x.path ∧ y.plen = x.plen ∧ y.mb = x.mb) ∨ y = leafOf n a mb (c :: s) := by
    rintro y (⟨hy, _⟩ | rfl | rfl)
    · exact Or.inl ⟨y, hy, rfl, rfl, rfl, rfl⟩
    · exact Or.inl ⟨n, hn, rfl, rfl, rfl, rfl⟩
    · exact Or.inr rfl
  have hna : n.a ≠ a := ha n hn
  have hL : leafOf n a mb (c :: s) ∈ growLeaf ns n a mb c s := Or.inr (Or.inr rfl)
  have one : ∀ x ∈ growLeaf ns n a mb c s, ∀ y ∈ growLeaf ns n a mb c s, x.a = y.a → x = y := by
    rintro x (⟨hx, ex⟩ | rfl | rfl) y (⟨hy, ey⟩ | rfl | rfl) e
    · exact h.inj x hx y hy e
    · exact absurd e ex
    · exact absurd e (ha x hx)
    · exact absurd e.symm ey
    · rfl
    · exact absurd e hna
    · exact absurd e.symm (ha y hy)
    · exact absurd e.symm hna
    · rfl
  refine ⟨one, ?_, ?_, ?_, ?_, ?_, ?_, ?_⟩
  · have old : ∀ x ∈ ns, ∀ k ∈ x.kids, ∃ m ∈ growLeaf ns n a mb c s, m.a = k.2.1 ∧ m.plen = x.path.length ∧ x.path <+: m.path ∧ m.path[m.plen]? = some k.1 := by
      intro x hx k hk
      obtain ⟨m, hm, f1, f2, f3, f4⟩ := h.kid x hx k hk
      obtain ⟨m', hm', g1, g2, g3, -, -⟩ := up m hm
      exact ⟨m', hm', g1.trans f1, by rw [g3, f2], by rw [g2]; exact f3, by rw [g2, g3]; exact f4⟩
    rintro y (⟨hy, _⟩ | rfl | rfl) k hk
    · exact old y hy k hk
    · rcases List.mem_append.1 hk with hk | hk
      · exact old n hn k hk
      · obtain rfl := List.mem_singleton.1 hk
        exact ⟨_, hL, rfl, rfl, List.prefix_append _ _, by simp [leafOf]⟩
    · cases hk
  · rintro y (⟨hy, _⟩ | rfl | rfl)
    · exact h.keys y hy
    · show (List.map (·.1) (n.kids ++ [(c, a, n.c)])).Nodup
      rw [List.map_append, List.nodup_append]
      refine ⟨h.keys n hn, by simp, fun x hx y hy e => ?_⟩
      obtain ⟨k, hk, rfl⟩ := List.mem_map.1 hx
      simp at hy
      exact hno k hk (e.trans hy)
    · exact List.nodup_nil
  · intro y hy hne
    rcases down y hy with ⟨x, hx, e1, e2, e3, e4⟩ | rfl
    · obtain ⟨p, hp, k, hk, f⟩ := h.par x hx (by rw [← e2]; exact hne)
      obtain ⟨p', hp', -, -, -, g4, -⟩ := up p hp
      exact ⟨p', hp', k, g4 k hk, f.trans e1.symm⟩
    · exact ⟨kidAt n c a, Or.inr (Or.inl rfl), (c, a, n.c), by simp [kidAt], rfl⟩
  · intro y hy he
    rcases down y hy with ⟨x, hx, e1, e2, e3, e4⟩ | rfl
    · exact e1.trans (h.top x hx (e2.symm.trans he))
    · simp [leafOf] at he
  · obtain ⟨q, hq, e1, e2, e3⟩ := h.root
    obtain ⟨q', hq', g1, g2, g3, -, -⟩ := up q hq
    exact ⟨q', hq', g1.trans e1, g2.trans e2, g3.trans e3⟩
  · intro x hx y hy e
    rcases down x hx with ⟨x', hx', a1, -, -, a4⟩ | rfl <;> rcases down y hy with ⟨y', hy', b1, -, -, b4⟩ | rfl
    · have := h.map x' hx' y' hy' (a4.symm.trans (e.trans b4))
      exact one x hx y hy (a1.trans (this ▸ b1.symm))
    · exact absurd (a4.symm.trans e) (hmb x' hx')
    · exact absurd (b4.symm.trans e.symm) (hmb y' hy')
    · rfl
  · intro y hy he
    rcases down y hy with ⟨x, hx, e1, e2, e3, e4⟩ | rfl
    · rw [e2, e3]; exact h.nz x hx (e2 ▸ he)
    · simp [leafOf]
end
end Go.Proofs.YtknlojlcahgnoaaGreat

namespace Go.Proofs.YtknlojlcahgnoaaGreat
open Go.RowKit
set_option linter.unusedVariables false
set_option linter.unusedSimpArgs false

theorem wide_parts (n : Int) (w : World) :
    Calls Tryz.prog 198 #[.int .u64 n] w fun e w' => e = .returned (.agg #[.int .u64 (bits BinOp.and IntKind.u64 n 4294967295), .int .u64 (n / 4294967296)]) ∧ Ext w w' := by
  go_enter Tryz.func198, Tryz.ntmps198
  go_wp2
  exact bodyPost_ret (v := .agg #[.int .u64 (bits BinOp.and IntKind.u64 n 4294967295), .int .u64 (n / 4294967296)]) (by simp [results, Tryz.results198, go_sem]) rfl ⟨rfl, (by repeat (first | with_reducible exact Ext.refl _ | with_reducible assumption | with_reducible refine Ext.alloc ?_ _ | with_reducible refine Ext.drew ?_ | (with_reducible refine Ext.setCell ?_ (by first | exact Nat.le_refl _ | (dsimp only; omega) | (simp; done) | (simp; omega)) _) | with_reducible refine Ext.trans ?_ (by with_reducible assumption)))⟩

set_option maxHeartbeats 400000 in
theorem wide_Mul (a b : Int) (w : World) (ha0 : 0 ≤ a) (ha1 : a < 18446744073709551616) (hb0 : 0 ≤ b) (hb1 : b < 18446744073709551616)  :
    Calls Tryz.prog 154 #[.int .u64 a, .int .u64 b] w fun e w' => e = .returned (.tuple #[.int .u64 (a * b / 18446744073709551616), .int .u64 (a * b % 18446744073709551616)]) ∧ Ext w w' := by
  obtain ⟨h1, h2⟩ := mul_halves a b ha0 ha1 hb0 hb1
  have H1 := Lib.hid h1
  have H2 := Lib.hid h2
  clear h1 h2
  go_enter Tryz.func154, Tryz.ntmps154
  go_wp2_with (go_at_call 198; refine (wide_parts _ _).mono ?_; rintro e w' ⟨rfl, hb⟩)
  rw [H1.out, H2.out]
  go_ret2
  exact ⟨rfl, (by repeat (first | with_reducible exact Ext.refl _ | with_reducible assumption | with_reducible refine Ext.alloc ?_ _ | with_reducible refine Ext.drew ?_ | (with_reducible refine Ext.setCell ?_ (by first | exact Nat.le_refl _ | (dsimp only; omega) | (simp; done) | (simp; omega)) _) | with_reducible refine Ext.trans ?_ (by with_reducible assumption)))⟩

/-- the product, or the end -/
def satMul (a b : Int) : Int := if a * b < 18446744073709551616 then a * b else 18446744073709551615
theorem satMul_lt {a b : Int} (h : a * b < 18446744073709551616) : satMul a b = a * b := if_pos h
theorem satMul_ge {a b : Int} (h : ¬ a * b < 18446744073709551616) : satMul a b = 18446744073709551615 := if_neg h

theorem num_Mul (a b : Int) (w : World) (ha0 : 0 ≤ a) (ha1 : a < 18446744073709551616) (hb0 : 0 ≤ b) (hb1 : b < 18446744073709551616)  :
    Calls Tryz.prog 105 #[.int .u64 a, .int .u64 b] w fun e w' => e = .returned (.int .u64 (satMul a b)) ∧ Ext w w' := by
  have hp : 0 ≤ a * b := Int.mul_nonneg ha0 hb0
  by_cases h : a * b < 18446744073709551616
  · have h1 : (a * b / 18446744073709551616 != 0) = false := by rw [bne_eq_false_iff_eq]; omega
    have h2 := Lib.hid (show a * b % 18446744073709551616 = a * b by omega)
    have h3 := Lib.hid h
    clear h
    go_enter Tryz.func105, Tryz.ntmps105
    go_wp2_with (go_at_call 154; refine (wide_Mul _ _ _ ha0 ha1 hb0 hb1).mono ?_; rintro e w' ⟨rfl, hb⟩)
    go_ret
    exact ⟨ret_int (by rw [satMul_lt h3.out, h2.out]), (by repeat (first | with_reducible exact Ext.refl _ | with_reducible assumption | with_reducible refine Ext.alloc ?_ _ | with_reducible refine Ext.drew ?_ | (with_reducible refine Ext.setCell ?_ (by first | exact Nat.le_refl _ | (dsimp only; omega) | (simp; done) | (simp; omega)) _) | with_reducible refine Ext.trans ?_ (by with_reducible assumption)))⟩
  · have h1 : (a * b / 18446744073709551616 != 0) = true := by rw [bne_iff_ne]; omega
    have h3 := Lib.hid h
    clear h
    go_enter Tryz.func105, Tryz.ntmps105
    go_wp2_with (go_at_call 154; refine (wide_Mul _ _ _ ha0 ha1 hb0 hb1).mono ?_; rintro e w' ⟨rfl, hb⟩)
    go_ret
    exact ⟨ret_int (by rw [satMul_ge (Int.not_lt.2 h3.out)]), (by repeat (first | with_reducible exact Ext.refl _ | with_reducible assumption | with_reducible refine Ext.alloc ?_ _ | with_reducible refine Ext.drew ?_ | (with_reducible refine Ext.setCell ?_ (by first | exact Nat.le_refl _ | (dsimp only; omega) | (simp; done) | (simp; omega)) _) | with_reducible refine Ext.trans ?_ (by with_reducible assumption)))⟩

end Go.Proofs.YtknlojlcahgnoaaGreat

namespace Go.Proofs.YtknlojlcahgnoaaGreat

def satAdd (a b : Int) : Int := if a + b < 18446744073709551616 then a + b else 18446744073709551615
def satSub (a b : Int) : Int := if b ≤ a then a - b else 0
def fitsB (a b c : Int) : Bool := decide (a + b ≤ c)
def divS (a b : Int) : Int := if b = 0 then 18446744073709551615 else a / b
def ceilS (a b : Int) : Int := if b = 0 then 18446744073709551615 else if a % b = 0 then a / b else a / b + 1

theorem satAdd_lt {a b : Int} (h : a + b < 18446744073709551616) : satAdd a b = a + b := if_pos h
theorem satAdd_ge {a b : Int} (h : ¬ a + b < 18446744073709551616) : satAdd a b = 18446744073709551615 := if_neg h
theorem satAdd_u (a b : Int) (ha : 0 ≤ a) (hb : 0 ≤ b) : 0 ≤ satAdd a b ∧ satAdd a b < 18446744073709551616 := by unfold satAdd; split <;> omega
theorem satSub_u (a b : Int) (ha : 0 ≤ a) (ha1 : a < 18446744073709551616) (hb : 0 ≤ b) : 0 ≤ satSub a b ∧ satSub a b ≤ a := by unfold satSub; split <;> omega
theorem ceilS_u (a b : Int) (ha : 0 ≤ a) (ha1 : a < 18446744073709551616) (hb : 0 ≤ b) : 0 ≤ ceilS a b ∧ ceilS a b < 18446744073709551616 := by
  unfold ceilS
  split
  · omega
  · have h1 := Int.ediv_nonneg ha hb
    have h2 := Int.ediv_le_self b ha
    split
    · omega
    · rename_i h3 h4
      have h5 : a / b < a ∨ a = 0 ∨ b = 1 := by
        by_cases h6 : a = 0
        · exact Or.inr (Or.inl h6)
        by_cases h7 : b = 1
        · exact Or.inr (Or.inr h7)
        left
        exact Int.ediv_lt_self_of_pos_of_ne_one (by omega) (by omega)
      rcases h5 with h | h | h
      · omega
      · subst h; simp at h4
      · subst h; simp at h4

/-- how full a state is -/
def kFill (k a b now cap : Int) : Int :=
  if k = 1 then satSub a now else if k = 2 then cap - min (satAdd a (satSub now b)) cap else if k = 3 then satSub a (satSub now b) else 0
/-- a state that is so full: its two numbers -/
def kOfA (k now cap fill : Int) : Int := if k = 1 then satAdd now fill else if k = 2 then satSub cap fill else if k = 3 then fill else 0
def kOfB (k now : Int) : Int := if k = 1 then 0 else if k = 2 then now else if k = 3 then now else 0
/-- may it come in -/
def kOk (k a b now cap x : Int) : Bool :=
  if k = 1 then fitsB (max a now - now) x cap else if k = 2 then decide (x ≤ min (satAdd a (satSub now b)) cap) else if k = 3 then fitsB (satSub a (satSub now b)) x cap else false
/-- what is kept then -/
def kNextA (k a b now cap x : Int) : Int :=
  if kOk k a b now cap x then (if k = 1 then satAdd (max a now) x else if k = 2 then min (satAdd a (satSub now b)) cap - x else if k = 3 then satSub a (satSub now b) + x else a) else a
def kNextB (k a b now cap x : Int) : Int :=
  if kOk k a b now cap x then (if k = 1 then 0 else if k = 2 then now else if k = 3 then now else b) else b
/-- how much later -/
def kRetry (f cap x : Int) : Bool := decide (x ≤ cap) && decide (cap < f + x)
def kWait (f cap x : Int) : Int := if kRetry f cap x then f - (cap - x) else 0

theorem kFill_u (k a b now cap : Int) (ha0 : 0 ≤ a) (ha1 : a < 18446744073709551616) (hb0 : 0 ≤ b) (hn0 : 0 ≤ now) (hn1 : now < 18446744073709551616) (hc0 : 0 ≤ cap) (hc1 : cap < 18446744073709551616) :
    0 ≤ kFill k a b now cap ∧ kFill k a b now cap < 18446744073709551616 := by
  have h1 := satSub_u a now ha0 ha1 hn0
  have h2 := satSub_u now b hn0 hn1 hb0
  have h3 := satAdd_u a (satSub now b) ha0 h2.1
  have h4 := satSub_u a (satSub now b) ha0 ha1 h2.1
  unfold kFill
  repeat' split
  all_goals omega
end Go.Proofs.YtknlojlcahgnoaaGreat
