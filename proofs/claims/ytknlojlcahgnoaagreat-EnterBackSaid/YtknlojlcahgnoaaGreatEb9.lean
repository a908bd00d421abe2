/- Slots, and maps of slots: what the operations do to a block that is such a map. No program in sight. Walks: tollerref09.Common, Less. -/
import Derived.BigQuiet
import Derived.Deep.DeepCutAuto
import Derived.Deep.CutRange
import Derived.Test.YtknlojlcahgnoaaGreatEb5
import Derived.Test.YtknlojlcahgnoaaGreatEb6

namespace Go.Proofs.YtknlojlcahgnoaaGreat
open Go.RowKit
set_option linter.unusedVariables false
set_option linter.unusedSimpArgs false

theorem Blk.drewN {w : World} {b : Nat} {C : Array Value} {t : TypeId} (h : Blk w b C t) (n : Nat) : Blk (w.drewN n) b C t := h
theorem Ext.drewNs (w : World) (n : Nat) : Ext w (w.drewN n) := ⟨rfl, rfl, rfl, Nat.le_refl _, fun _ _ => rfl⟩

structure Slot where
  key : ByteArray
  p : ByteArray
  e : Int
  b : Int
  rk : Int
  sk : Int
  sa : Int
  sb : Int

def Slot.cells (s : Slot) : Array Value := #[.string s.key, .string s.p, .int .u64 s.e, .int .u64 s.b, .int .u8 s.rk, .int .u8 s.sk, .int .u64 s.sa, .int .u64 s.sb]
def Slot.val (s : Slot) : Value := .agg s.cells
def slot0 : Slot := ⟨⟨#[]⟩, ⟨#[]⟩, 0, 0, 0, 0, 0, 0⟩

/-- a slot that the program may have -/
structure SlotOk (s : Slot) : Prop where
  key : s.key.size ≤ maxLen
  p : s.p.size ≤ maxLen
  e0 : 0 ≤ s.e
  e1 : s.e < 18446744073709551616
  b0 : 0 ≤ s.b
  b1 : s.b < 18446744073709551616
  rk0 : 0 ≤ s.rk
  rk1 : s.rk < 256
  sk0 : 0 ≤ s.sk
  sk1 : s.sk < 256
  sa0 : 0 ≤ s.sa
  sa1 : s.sa < 18446744073709551616
  sb0 : 0 ≤ s.sb
  sb1 : s.sb < 18446744073709551616

/-- the slots of a map, and when each was born -/
abbrev SMap := List (Slot × Nat)
def ent (x : Slot × Nat) : MapEntry := ⟨.string x.1.key, x.1.val, x.2⟩
def ents (l : SMap) : Array MapEntry := (l.map ent).toArray
def SMap.keys (l : SMap) : List ByteArray := l.map (·.1.key)
def SMap.look (l : SMap) (k : ByteArray) : Option Slot := (l.find? fun x => decide (x.1.key = k)).map (·.1)
def SMap.del (l : SMap) (k : ByteArray) : SMap := l.filter fun x => decide (x.1.key ≠ k)
def SMap.rep (l : SMap) (s : Slot) : SMap := l.map fun x => if x.1.key = s.key then (s, x.2) else x
def SMap.put (l : SMap) (s : Slot) (c : Nat) : SMap := if (l.look s.key).isSome then l.rep s else l ++ [(s, c)]
def SMap.putC (l : SMap) (s : Slot) (c : Nat) : Nat := if (l.look s.key).isSome then c else c + 1

theorem look_nil (k : ByteArray) : SMap.look [] k = none := rfl
theorem look_cons (x : Slot × Nat) (l : SMap) (k : ByteArray) : SMap.look (x :: l) k = if x.1.key = k then some x.1 else SMap.look l k := by
  unfold SMap.look
  rw [List.find?_cons]
  by_cases h : x.1.key = k <;> simp [h]
theorem look_key {l : SMap} {k : ByteArray} {s : Slot} (h : l.look k = some s) : s.key = k := by
  induction l with
  | nil => cases h
  | cons x l ih =>
    rw [look_cons] at h
    by_cases hk : x.1.key = k
    · rw [if_pos hk] at h; cases h; exact hk
    · rw [if_neg hk] at h; exact ih h
theorem look_none {l : SMap} {k : ByteArray} : l.look k = none ↔ ∀ x ∈ l, x.1.key ≠ k := by
  induction l with
  | nil => simp [look_nil]
  | cons x l ih =>
    rw [look_cons]
    by_cases hk : x.1.key = k
    · rw [if_pos hk]; simp [hk]
    · rw [if_neg hk, ih]; simp [hk]
theorem look_mem {l : SMap} {k : ByteArray} {s : Slot} (h : l.look k = some s) : ∃ n, (s, n) ∈ l := by
  induction l with
  | nil => cases h
  | cons x l ih =>
    rw [look_cons] at h
    by_cases hk : x.1.key = k
    · rw [if_pos hk] at h; cases h; exact ⟨x.2, List.mem_cons_self⟩
    · rw [if_neg hk] at h
      obtain ⟨n, hn⟩ := ih h
      exact ⟨n, List.mem_cons_of_mem _ hn⟩

theorem str_beq (a b : ByteArray) : (a == b) = decide (a = b) := by
  by_cases h : a = b
  · subst h; rw [decide_eq_true rfl]; exact (MapKept.bytes_beq a a).2 rfl
  · rw [decide_eq_false h]
    cases hb : a == b
    · rfl
    · exact absurd ((MapKept.bytes_beq a b).1 hb) h

theorem find_none {l : SMap} {k : ByteArray} (h : l.look k = none) (i : Nat) : Instr.findNow .string (.string k) (l.map ent) i = some none := by
  induction l generalizing i with
  | nil => rfl
  | cons x l ih =>
    rw [look_cons] at h
    by_cases hk : x.1.key = k
    · rw [if_pos hk] at h; cases h
    · rw [if_neg hk] at h
      have e : (k == x.1.key) = false := by rw [str_beq]; exact decide_eq_false (fun q => hk q.symm)
      simp [Instr.findNow, ent, Instr.sameNow, e]
      exact ih h (i + 1)
theorem find_some {l : SMap} {k : ByteArray} {s : Slot} (h : l.look k = some s) (i : Nat) : ∃ j n, l[j]? = some (s, n) ∧ Instr.findNow .string (.string k) (l.map ent) i = some (some (i + j, s.val)) := by
  induction l generalizing i with
  | nil => cases h
  | cons x l ih =>
    rw [look_cons] at h
    by_cases hk : x.1.key = k
    · rw [if_pos hk] at h
      cases h
      have e : (k == x.1.key) = true := by rw [str_beq]; exact decide_eq_true hk.symm
      exact ⟨0, x.2, rfl, by simp [Instr.findNow, ent, Instr.sameNow, e]⟩
    · rw [if_neg hk] at h
      obtain ⟨j, n, h1, h2⟩ := ih h (i + 1)
      have e : (k == x.1.key) = false := by rw [str_beq]; exact decide_eq_false (fun q => hk q.symm)
      exact ⟨j + 1, n, by simpa using h1, by simp [Instr.findNow, ent, Instr.sameNow, e]; rw [h2]; simp; omega⟩

theorem del_none {l : SMap} {k : ByteArray} (h : ∀ x ∈ l, x.1.key ≠ k) : l.del k = l := by
  unfold SMap.del
  rw [List.filter_eq_self]
  intro x hx
  simpa using h x hx
theorem erase_ents {l : SMap} {j n : Nat} {s : Slot} (hk : l.keys.Nodup) (h : l[j]? = some (s, n)) : (ents l).eraseIdxIfInBounds j = ents (l.del s.key) := by
  have key : ∀ (l : SMap) (j : Nat), l.keys.Nodup → l[j]? = some (s, n) → l.eraseIdx j = l.del s.key := by
    intro l
    induction l with
    | nil => intro j _ h; simp at h
    | cons x l ih =>
      intro j hk h
      have hk2 : x.1.key ∉ SMap.keys l ∧ (SMap.keys l).Nodup := by simpa [SMap.keys] using hk
      cases j with
      | zero =>
        have hx : x = (s, n) := by simpa using h
        subst hx
        have : ∀ x ∈ l, x.1.key ≠ s.key := fun x hx q => hk2.1 (by rw [← q]; exact List.mem_map_of_mem hx)
        have e : SMap.del ((s, n) :: l) s.key = l := by
          rw [show SMap.del ((s, n) :: l) s.key = SMap.del l s.key by simp [SMap.del], del_none this]
        rw [e]
        rfl
      | succ j =>
        have hj : l[j]? = some (s, n) := by simpa using h
        have hne : x.1.key ≠ s.key := fun q => hk2.1 (by rw [q]; exact List.mem_map_of_mem (f := fun x : Slot × Nat => x.1.key) (List.mem_of_getElem? hj))
        have e := ih j hk2.2 hj
        rw [show SMap.del (x :: l) s.key = x :: SMap.del l s.key by simp [SMap.del, hne], ← e]
        rfl
  have hj : j < l.length := by
    rcases Nat.lt_or_ge j l.length with q | q
    · exact q
    · rw [List.getElem?_eq_none q] at h; cases h
  rw [← key l j hk h]
  unfold ents Array.eraseIdxIfInBounds
  rw [dif_pos (by simpa using hj)]
  apply Array.ext'
  simp
  have em : ∀ (l : SMap) (j : Nat), (l.map ent).eraseIdx j = (l.eraseIdx j).map ent := by
    intro l
    induction l with
    | nil => intro j; rfl
    | cons x l ih => intro j; cases j with
      | zero => rfl
      | succ j => simp [ih]
  exact em l j
theorem modify_ents {l : SMap} {j n : Nat} {s s' : Slot} (hk : l.keys.Nodup) (h : l[j]? = some (s, n)) (hs : s.key = s'.key) :
    (ents l).modify j (fun e => { e with key := .string s'.key, val := s'.val }) = ents (l.rep s') := by
  have key : ∀ (l : SMap) (j : Nat), l.keys.Nodup → l[j]? = some (s, n) → (l.map ent).modify j (fun e => { e with key := .string s'.key, val := s'.val }) = (l.rep s').map ent := by
    intro l
    induction l with
    | nil => intro j _ h; simp at h
    | cons x l ih =>
      intro j hk h
      have hk2 : x.1.key ∉ SMap.keys l ∧ (SMap.keys l).Nodup := by simpa [SMap.keys] using hk
      cases j with
      | zero =>
        have hx : x = (s, n) := by simpa using h
        subst hx
        have h3 : ∀ x ∈ l, x.1.key ≠ s'.key := fun x hx q => hk2.1 (by show s.key ∈ _; rw [hs, ← q]; exact List.mem_map_of_mem hx)
        have e : SMap.rep l s' = l := by
          unfold SMap.rep
          conv => rhs; rw [← List.map_id l]
          apply List.map_congr_left
          intro x hx
          rw [if_neg (h3 x hx)]; rfl
        have e2 : SMap.rep ((s, n) :: l) s' = (s', n) :: SMap.rep l s' := by simp [SMap.rep, hs]
        rw [e2, e]
        simp [ent]
      | succ j =>
        have hj : l[j]? = some (s, n) := by simpa using h
        have hne : x.1.key ≠ s'.key := fun q => hk2.1 (by rw [q, ← hs]; exact List.mem_map_of_mem (f := fun x : Slot × Nat => x.1.key) (List.mem_of_getElem? hj))
        have e2 : SMap.rep (x :: l) s' = x :: SMap.rep l s' := by simp [SMap.rep, hne]
        rw [e2]
        simp [ih j hk2.2 hj]
  unfold ents
  apply Array.ext'
  rw [← key l j hk h]
  simp
theorem push_ents (l : SMap) (s : Slot) (c : Nat) : (ents l).push ⟨.string s.key, s.val, c⟩ = ents (l ++ [(s, c)]) := by simp [ents, ent]

/-- block b is a map of these slots -/
def MapIs (w : World) (b : Nat) (l : SMap) (c : Nat) : Prop := w.heap[b]? = some (.map (ents l) c)
theorem MapIs.lt {w : World} {b c : Nat} {l : SMap} (h : MapIs w b l c) : b < w.heap.size := lt_of_block h
theorem MapIs.ext {w w' : World} {b c : Nat} {l : SMap} (h : MapIs w b l c) (e : Ext w w') : MapIs w' b l c := (e.block h.lt).trans h
theorem MapIs.extB {w w' : World} {b c g : Nat} {l : SMap} (h : MapIs w b l c) (e : ExtB g w w') (ne : b ≠ g) : MapIs w' b l c := (e.block b h.lt ne).trans h
theorem MapIs.other {w : World} {b c : Nat} {l : SMap} (h : MapIs w b l c) {a : Addr} (ne : b ≠ a.block) (v : Value) : MapIs (w.setCell a v) b l c := (Below.heap_setCell _ _ _ _ ne).trans h
theorem MapIs.ne {w : World} {b c g : Nat} {l : SMap} {C : Array Value} {t : TypeId} (h : MapIs w b l c) (k : Blk w g C t) : b ≠ g := fun e => by
  subst e
  have := (show w.heap[b]? = some (.map (ents l) c) from h).symm.trans (show w.heap[b]? = some (.cells C t) from k)
  cases this

section
variable {P : Program} {t k e : TypeId}
theorem run_sdel (ht : P.underlying t = some (.map k e)) (hk : P.underlying k = some .string) {w : World} {b c : Nat} {l : SMap} (h : MapIs w b l c) (hd : l.keys.Nodup) (key : ByteArray) :
    ∃ w', (∀ ty, (Builtin.delete_ #[t, k] ty #[.map (some b), .string key]).run P w = .ok (.tuple #[]) w') ∧ MapIs w' b (l.del key) c ∧ ExtB b w w' := by
  have hb : w.heap[b]? = some (.map (ents l) c) := h
  have hkey : MapKept.IsKey .string (.string key) := trivial
  cases hl : l.look key with
  | none =>
    have hf : Instr.findNow .string (.string key) (ents l).toList 0 = some none := by simpa [ents] using find_none hl 0
    refine ⟨{ w with heap := w.heap.setIfInBounds b (.map (ents l) c) }, ?_, ?_, ⟨rfl, rfl, rfl, by simp, fun j _ hj => (MapKept.heap_set hb).2 j hj⟩⟩
    · intro ty
      simp [Builtin.delete_, run_underlying ht, MapKept.run_getObj_map hb, MapKept.run_checkKey hk hkey, MapKept.run_findKey hk hf, MapKept.run_setObj_map _ hb, Result.andThen]
    · rw [del_none (look_none.1 hl)]
      exact (MapKept.heap_set hb).1
  | some s =>
    obtain ⟨j, n, hj, hf⟩ := find_some hl 0
    have hf' : Instr.findNow .string (.string key) (ents l).toList 0 = some (some (j, s.val)) := by simpa [ents] using hf
    refine ⟨{ w with heap := w.heap.setIfInBounds b (.map ((ents l).eraseIdxIfInBounds j) c) }, ?_, ?_, ⟨rfl, rfl, rfl, by simp, fun j _ hj => (MapKept.heap_set hb).2 j hj⟩⟩
    · intro ty
      simp [Builtin.delete_, run_underlying ht, MapKept.run_getObj_map hb, MapKept.run_checkKey hk hkey, MapKept.run_findKey hk hf', MapKept.run_setObj_map _ hb, Result.andThen]
    · have := (MapKept.heap_set (o' := .map ((ents l).eraseIdxIfInBounds j) c) hb).1
      rw [erase_ents hd hj, look_key hl] at this
      unfold MapIs
      rw [erase_ents hd hj, look_key hl]
      exact this
theorem run_sput (ht : P.underlying t = some (.map k e)) (hk : P.underlying k = some .string) {w : World} {b c : Nat} {l : SMap} (h : MapIs w b l c) (hd : l.keys.Nodup) (s : Slot) :
    ∃ w', (Instr.mapUpdate t (.map (some b)) (.string s.key) s.val).run P w = .ok () w' ∧ MapIs w' b (l.put s c) (l.putC s c) ∧ ExtB b w w' := by
  have hb : w.heap[b]? = some (.map (ents l) c) := h
  have hkey : MapKept.IsKey .string (.string s.key) := trivial
  cases hl : l.look s.key with
  | none =>
    have hf : Instr.findNow .string (.string s.key) (ents l).toList 0 = some none := by simpa [ents] using find_none hl 0
    refine ⟨{ w with heap := w.heap.setIfInBounds b (.map ((ents l).push ⟨.string s.key, s.val, c⟩) (c + 1)) }, ?_, ?_, ⟨rfl, rfl, rfl, by simp, fun j _ hj => (MapKept.heap_set hb).2 j hj⟩⟩
    · simp [Instr.mapUpdate, run_underlying ht, MapKept.run_getObj_map hb, MapKept.run_checkKey hk hkey, MapKept.run_findKey hk hf, MapKept.run_setObj_map _ hb, Result.andThen]
    · have := (MapKept.heap_set (o' := .map ((ents l).push ⟨.string s.key, s.val, c⟩) (c + 1)) hb).1
      unfold MapIs
      rw [show l.put s c = l ++ [(s, c)] by simp [SMap.put, hl], show l.putC s c = c + 1 by simp [SMap.putC, hl], ← push_ents]
      exact this
  | some s0 =>
    obtain ⟨j, n, hj, hf⟩ := find_some hl 0
    have hf' : Instr.findNow .string (.string s.key) (ents l).toList 0 = some (some (j, s0.val)) := by simpa [ents] using hf
    have hsame : (((ents l)[j]?).map (·.key)).getD (.string s.key) = .string s.key := by
      simp [ents, hj, ent, look_key hl]
    refine ⟨{ w with heap := w.heap.setIfInBounds b (.map ((ents l).modify j fun e => { e with key := .string s.key, val := s.val }) c) }, ?_, ?_, ⟨rfl, rfl, rfl, by simp, fun j _ hj => (MapKept.heap_set hb).2 j hj⟩⟩
    · simp [Instr.mapUpdate, run_underlying ht, MapKept.run_getObj_map hb, MapKept.run_checkKey hk hkey, MapKept.run_findKey hk hf', hsame, MapKept.run_keyThatStays (d := .string) hkey, MapKept.run_setObj_map _ hb, Result.andThen]
    · have := (MapKept.heap_set (o' := .map ((ents l).modify j fun e => { e with key := .string s.key, val := s.val }) c) hb).1
      unfold MapIs
      rw [show l.put s c = l.rep s by simp [SMap.put, hl], show l.putC s c = c by simp [SMap.putC, hl], ← modify_ents hd hj (look_key hl)]
      exact this
theorem run_slook_yes (ht : P.underlying t = some (.map k e)) (hk : P.underlying k = some .string) {w : World} {b c : Nat} {l : SMap} (h : MapIs w b l c) {key : ByteArray} {s : Slot} (hl : l.look key = some s) :
    (Instr.lookup t (.map (some b)) (.string key) true).run P w = .ok (.tuple #[s.val, .bool true]) w := by
  obtain ⟨j, n, hj, hf⟩ := find_some hl 0
  exact (run_lookup_yes ht hk (key := .string key) trivial h (by simpa [ents] using hf)).1
theorem run_slook_no (ht : P.underlying t = some (.map k e)) (hk : P.underlying k = some .string) {w : World} {b c : Nat} {l : SMap} (h : MapIs w b l c) {key : ByteArray} (hl : l.look key = none) (hz : (zeroValue e).run P w = .ok slot0.val w) :
    (Instr.lookup t (.map (some b)) (.string key) true).run P w = .ok (.tuple #[slot0.val, .bool false]) w :=
  (run_lookup_no ht hk (key := .string key) trivial h hz (by simpa [ents] using find_none hl 0)).1
end
end Go.Proofs.YtknlojlcahgnoaaGreat

namespace Go.Proofs.YtknlojlcahgnoaaGreat
open Go.RowKit
set_option linter.unusedVariables false
set_option linter.unusedSimpArgs false

/-- how much two begin alike -/
def comm : List UInt8 → List UInt8 → Nat
  | x :: xs, y :: ys => if x = y then comm xs ys + 1 else 0
  | _, _ => 0
theorem comm_le : ∀ (a b : List UInt8), comm a b ≤ a.length ∧ comm a b ≤ b.length
  | [], _ => by simp [comm]
  | _ :: _, [] => by simp [comm]
  | x :: xs, y :: ys => by
    have := comm_le xs ys
    simp only [comm, List.length_cons]
    split <;> omega
theorem comm_end (a b : List UInt8) (h : comm a b = a.length ∨ comm a b = b.length) : a < b ↔ a.length < b.length := by
  induction a generalizing b with
  | nil =>
    cases b with
    | nil => simp [List.lt_irrefl]
    | cons y ys => simp
  | cons x xs ih =>
    cases b with
    | nil => simp
    | cons y ys =>
      by_cases hxy : x = y
      · subst hxy
        simp only [comm, if_true, List.length_cons] at h
        rw [List.cons_lt_cons_iff]
        have := ih ys (by omega)
        simp [this]
      · simp [comm, hxy] at h
theorem toListB (a b : ByteArray) : (a.toList == b.toList) = decide (a = b) := by
  rw [Bool.eq_iff_iff, beq_iff_eq, decide_eq_true_iff]
  constructor
  · intro h
    rw [ByteArray.toList_eq, ByteArray.toList_eq] at h
    exact ByteArray.ext (Array.toList_inj.1 h)
  · rintro rfl; rfl
def keyLt (s t : ByteArray) : Bool := decide (s.toList < t.toList)
end Go.Proofs.YtknlojlcahgnoaaGreat
