/- A world that holds all that another one held, and new blocks besides. -/
import Derived.WalkKit
import Derived.WalkSpells
import Derived.WalkLawsBesides
import Derived.ProofKit
import Derived.Lib.Hide
import Derived.Laws.EntriesVeiled
import Derived.Lib.ConvBytes
import Derived.Test.YtnlmbmbalmkiiaaGreatPlain
namespace Go.Proofs.YtnlmbmbalmkiiaaGreat
open Go.RowKit

/-- what was there is as it was; there may be new blocks -/
def Ext (w w' : World) : Prop := Below w.heap.size w w'

theorem Ext.below {w w' : World} (h : Ext w w') : Below w.heap.size w w' := h
theorem Ext.refl (w : World) : Ext w w := Below.refl _ _
theorem Ext.trans {a b c : World} (h : Ext a b) (k : Ext b c) : Ext a c := Below.trans h (Below.mono k h.size)
theorem Ext.alloc {a b : World} (h : Ext a b) (o : Obj) : Ext a (b.alloc o) := Below.alloc h h.size o
theorem Ext.drew {a b : World} (h : Ext a b) : Ext a b.drew := Below.drew h
theorem Ext.sz {a b : World} (h : Ext a b) : a.heap.size ≤ b.heap.size := h.size
theorem Ext.setCell {a b : World} (h : Ext a b) {p : Addr} (hp : a.heap.size ≤ p.block) (u : Value) : Ext a (b.setCell p u) := Below.setCell h hp u
theorem Ext.cells {W w1 : World} (hb : Ext W w1) : (∀ b o, b < W.heap.size → w1.cell? ⟨b, o, none⟩ = W.cell? ⟨b, o, none⟩) ∧ (∀ b o, b < W.heap.size → w1.frozen? ⟨b, o, none⟩ = W.frozen? ⟨b, o, none⟩) :=
  ⟨fun b o h => Below.cell hb (p := ⟨b, o, none⟩) h, fun b o h => Below.frozen hb (p := ⟨b, o, none⟩) h⟩
theorem Ext.cell {W w1 : World} (hb : Ext W w1) {b o : Nat} (h : b < W.heap.size) : w1.cell? ⟨b, o, none⟩ = W.cell? ⟨b, o, none⟩ := hb.cells.1 b o h
theorem Ext.block {W w1 : World} (hb : Ext W w1) {b : Nat} (h : b < W.heap.size) : w1.heap[b]? = W.heap[b]? := Below.block hb b h

theorem ret_int {k : IntKind} {a b : Int} (h : a = b) : Ending.returned (.int k a) = .returned (.int k b) := by rw [h]
theorem val_int {k : IntKind} {a b : Int} (h : a = b) : Value.int k a = .int k b := by rw [h]
theorem val_bool {a b : Bool} (h : a = b) : Value.bool a = .bool b := by rw [h]
theorem val_str {a b : ByteArray} (h : a = b) : Value.string a = .string b := by rw [h]
theorem ret_str {a b : ByteArray} (h : a = b) : Ending.returned (.string a) = .returned (.string b) := by rw [h]
theorem ret_2 {a b c d : Value} (h : a = c) (h' : b = d) : Ending.returned (.tuple #[a, b]) = .returned (.tuple #[c, d]) := by rw [h, h']
theorem ret_3 {a b c d x y : Value} (h : a = c) (h' : b = d) (h'' : x = y) : Ending.returned (.tuple #[a, b, x]) = .returned (.tuple #[c, d, y]) := by rw [h, h', h'']
theorem ret_bool {a b : Bool} (h : a = b) : Ending.returned (.bool a) = .returned (.bool b) := by rw [h]

theorem Ext.keep {w w' : World} (h : Ext w w') {a : Addr} {v : Value} (c : w.cell? a = some v) : w'.cell? a = some v := by
  have hlt : a.block < w.heap.size := by
    unfold World.cell? at c
    rcases Nat.lt_or_ge a.block w.heap.size with h | h
    · exact h
    · rw [Array.getElem?_eq_none h] at c; cases c
  rw [Below.cell h hlt]; exact c
theorem cell_lt {w : World} {b o : Nat} {v : Value} (c : w.cell? ⟨b, o, none⟩ = some v) : b < w.heap.size := by
  unfold World.cell? at c
  rcases Nat.lt_or_ge b w.heap.size with h | h
  · exact h
  · simp [Array.getElem?_eq_none h] at c

/-- a scope in which the run jumps back to one label: the passes first; the first of them by the same law -/
theorem wp_scope_jumps2 {P : Program} {a : Act} {w : World} {Q : Exit → Act → World → Prop} {c rest : Code} (l : Nat) (J : Act → World → Prop) (μ : Act → World → Nat) (hf : findLabel c l = some (Code.skip.seq rest))
    (pass : ∀ a w, J a w → rest.wp P (Exit.jump l (fun a' w' => J a' w' ∧ μ a' w' < μ a w) Q) a w)
    (first : (∀ a w, J a w → rest.wp P (Exit.jump l J Q) a w) → c.wp P (Exit.jump l J Q) a w) : (Code.scope c).wp P Q a w :=
  wp_scope_jumps l J μ hf (first fun a w h => Code.wp_mono (fun e a' w' q => by
    cases e with
    | goto l' => exact ⟨q.1, q.2.1⟩
    | _ => exact q) (pass a w h)) fun a w h => wp_seq (wp_skip (pass a w h))

/-- block b holds just these cells, and may be written -/
def Blk (w : World) (b : Nat) (C : Array Value) (t : TypeId) : Prop := w.heap[b]? = some (.cells C t)
theorem Blk.lt {w : World} {b : Nat} {C : Array Value} {t : TypeId} (h : Blk w b C t) : b < w.heap.size := lt_of_block h
theorem Blk.new (w : World) (C : Array Value) (t : TypeId) : Blk (w.alloc (.cells C t)) w.heap.size C t := (MapKept.heap_alloc w _).1
theorem Blk.new' (w : World) (C : Array Value) (t : TypeId) {b : Nat} (hb : b = w.heap.size) : Blk (w.alloc (.cells C t)) b C t := by subst hb; exact Blk.new w C t
theorem Blk.alloc {w : World} {b : Nat} {C : Array Value} {t : TypeId} (h : Blk w b C t) (o : Obj) : Blk (w.alloc o) b C t := ((MapKept.heap_alloc w o).2 b h.lt).trans h
theorem Blk.drew {w : World} {b : Nat} {C : Array Value} {t : TypeId} (h : Blk w b C t) : Blk w.drew b C t := h
theorem Blk.ext {w w' : World} {b : Nat} {C : Array Value} {t : TypeId} (h : Blk w b C t) (e : Ext w w') : Blk w' b C t := (e.block h.lt).trans h
theorem Blk.cell {w : World} {b : Nat} {C : Array Value} {t : TypeId} (h : Blk w b C t) (o : Nat) : w.cell? ⟨b, o, none⟩ = C[o]? := by simp [World.cell?, show w.heap[b]? = _ from h]
theorem Blk.free {w : World} {b : Nat} {C : Array Value} {t : TypeId} (h : Blk w b C t) (o : Nat) : w.frozen? ⟨b, o, none⟩ = false := by simp [World.frozen?, show w.heap[b]? = _ from h]
theorem Blk.set {w : World} {b : Nat} {C : Array Value} {t : TypeId} (h : Blk w b C t) (o : Nat) (v : Value) : Blk (w.setCell ⟨b, o, none⟩ v) b (C.setIfInBounds o v) t := by
  have hlt := h.lt
  have h' : w.heap[b] = .cells C t := by
    have := (Array.getElem?_eq_some_iff.1 (show w.heap[b]? = some (.cells C t) from h)).2
    exact this
  show (w.heap.modify b _)[b]? = _
  rw [Array.getElem?_eq_getElem (by simpa using hlt), Array.getElem_modify_self, h']
  simp
theorem Blk.other {w : World} {b : Nat} {C : Array Value} {t : TypeId} (h : Blk w b C t) {a : Addr} (ne : b ≠ a.block) (v : Value) : Blk (w.setCell a v) b C t := by
  show (w.setCell a v).heap[b]? = _
  rw [Below.heap_setCell _ _ _ _ ne]; exact h

theorem Blk.ne {w : World} {b c : Nat} {C D : Array Value} {t u : TypeId} (h : Blk w b C t) (k : Blk w c D u) (hs : C.size ≠ D.size) : b ≠ c := fun e => by
  subst e
  have := (show w.heap[b]? = some (.cells C t) from h).symm.trans (show w.heap[b]? = some (.cells D u) from k)
  simp at this
  exact hs (by rw [this.1])

/-- what was there is as it was but for block b; there may be new blocks -/
structure ExtB (b : Nat) (w w' : World) : Prop where
  os : w'.os = w.os
  tape : w'.tape = w.tape
  output : w'.output = w.output
  size : w.heap.size ≤ w'.heap.size
  block : ∀ k, k < w.heap.size → k ≠ b → w'.heap[k]? = w.heap[k]?
theorem ExtB.refl (b : Nat) (w : World) : ExtB b w w := ⟨rfl, rfl, rfl, Nat.le_refl _, fun _ _ _ => rfl⟩
theorem Ext.toB {w w' : World} (h : Ext w w') (b : Nat) : ExtB b w w' := ⟨Below.os h, Below.tape h, Below.output h, h.sz, fun k hk _ => Below.block h k hk⟩
theorem ExtB.trans {b : Nat} {x y z : World} (h : ExtB b x y) (k : ExtB b y z) : ExtB b x z :=
  ⟨k.os.trans h.os, k.tape.trans h.tape, k.output.trans h.output, Nat.le_trans h.size k.size, fun i hi hb => (k.block i (Nat.lt_of_lt_of_le hi h.size) hb).trans (h.block i hi hb)⟩
theorem ExtB.alloc {b : Nat} {x y : World} (h : ExtB b x y) (o : Obj) : ExtB b x (y.alloc o) := h.trans (((Ext.refl y).alloc o).toB b)
theorem ExtB.drew {b : Nat} {x y : World} (h : ExtB b x y) : ExtB b x y.drew := h.trans (((Ext.refl y).drew).toB b)
theorem ExtB.setCell {b : Nat} {x y : World} (h : ExtB b x y) (o : Nat) (v : Value) : ExtB b x (y.setCell ⟨b, o, none⟩ v) :=
  h.trans ⟨rfl, rfl, rfl, by simp [World.setCell], fun k _ hb => Below.heap_setCell _ _ _ _ hb⟩
theorem ExtB.setNew {b : Nat} {x y : World} (h : ExtB b x y) {a : Addr} (ha : x.heap.size ≤ a.block) (v : Value) : ExtB b x (y.setCell a v) :=
  ⟨h.os, h.tape, h.output, by simpa [World.setCell] using h.size, fun k hk hb => (Below.heap_setCell _ _ _ _ (by omega)).trans (h.block k hk hb)⟩
theorem Blk.extB {w w' : World} {c b : Nat} {C : Array Value} {t : TypeId} (h : Blk w c C t) (e : ExtB b w w') (ne : c ≠ b) : Blk w' c C t := (e.block c h.lt ne).trans h
/-- a block of one's own may be written -/
theorem Ext.own {x y z : World} {b : Nat} (h : Ext x y) (e : ExtB b y z) (hb : x.heap.size ≤ b) : Ext x z :=
  ⟨e.os.trans (Below.os h), e.tape.trans (Below.tape h), e.output.trans (Below.output h), Nat.le_trans h.sz e.size, fun k hk => (e.block k (Nat.lt_of_lt_of_le hk h.sz) (by omega)).trans (Below.block h k hk)⟩

/-- '[]byte(s)': a new row that holds the string's bytes. -/
theorem conv_bytes {P : Program} (w : World) (src dst e : TypeId) (s : ByteArray) (hs : P.underlying src = some .string) (hd : P.underlying dst = some (.slice e)) (he : P.underlying e = some (.int .u8)) :
    ∃ c w', (convert src dst (.string s)).run P w = .ok (.slice (some ⟨w.heap.size, 0, none⟩) s.size c) w' ∧ Ext w w' ∧ w'.heap.size = w.heap.size + 1 ∧
      s.size ≤ c ∧ ∀ j (h : j < s.data.toList.length), w'.cell? ⟨w.heap.size, 0 + j, none⟩ = some (.int .u8 (s.data.toList[j].toNat : Int)) := by
  refine ⟨_, _, Lib.run_convert_string_bytes w src dst e s hs hd he, ?_, Lib.bytesWorld_size _ _ _, ?_, ?_⟩
  · exact ⟨rfl, rfl, rfl, by rw [Lib.bytesWorld_size]; omega, fun k hk => Lib.bytesWorld_at_old _ _ _ _ hk⟩
  · exact grownCap_ge _ _ _ _
  · intro j h
    have hj : j < s.size := by show j < s.data.size; rw [← Array.length_toList]; exact h
    rw [Nat.zero_add, Lib.bytesWorld_cell _ _ _ _ hj]
    congr 3
    rw [List.getD_eq_getElem?_getD, List.getElem?_eq_getElem h, Option.getD_some]
end Go.Proofs.YtnlmbmbalmkiiaaGreat
