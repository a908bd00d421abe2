/- What each kind of deed does to the table, and to the document's. Walks: tollerref14.Answers at answers that are alike. Stores into blocks that a call of step has made. Walks: tollerref14.Entry of equal entries. What tollerlaw14.does asks of each deed: helps. Walks: enter.Leave, tollerref17.Leave, tollerref16.Same. Walks: config.Right and enter.Right of no policy; tollerlaw17.known. -/
import Derived.Deep.DeepCutAuto
import Derived.Deep.CutRange
import Derived.Deep.CutBlock
import Derived.Test.YtfglpejbgfmojaaGreatG49
import Derived.Test.YtfglpejbgfmojaaGreatG36
import Derived.Test.YtfglpejbgfmojaaGreatG50
import Derived.Test.YtfglpejbgfmojaaGreatChB
import Derived.Test.YtfglpejbgfmojaaGreatG48
import Derived.Test.YtfglpejbgfmojaaGreatRule14
import Derived.Test.YtfglpejbgfmojaaGreatKeyOk
import Derived.Test.YtfglpejbgfmojaaGreatG47
import Derived.Test.YtfglpejbgfmojaaGreatTabN

/- What each kind of deed does to the table, and to the document's. -/
namespace Go.Proofs.YtfglpejbgfmojaaGreat
open Go.RowKit
set_option linter.unusedVariables false
set_option linter.unusedSimpArgs false

/-- all is as it was but for two blocks, and new ones -/
structure Ext2 (t m : Nat) (w w' : World) : Prop where
  os : w'.os = w.os
  tape : w'.tape = w.tape
  output : w'.output = w.output
  size : w.heap.size ≤ w'.heap.size
  block : ∀ k, k < w.heap.size → k ≠ t → k ≠ m → w'.heap[k]? = w.heap[k]?
theorem Ext2.refl (t m : Nat) (w : World) : Ext2 t m w w := ⟨rfl, rfl, rfl, Nat.le_refl _, fun _ _ _ _ => rfl⟩
theorem Ext2.trans {t m : Nat} {x y z : World} (h : Ext2 t m x y) (k : Ext2 t m y z) : Ext2 t m x z :=
  ⟨k.os.trans h.os, k.tape.trans h.tape, k.output.trans h.output, Nat.le_trans h.size k.size, fun i hi h1 h2 => (k.block i (Nat.lt_of_lt_of_le hi h.size) h1 h2).trans (h.block i hi h1 h2)⟩
theorem ExtB.to2t {t : Nat} {x y : World} (h : ExtB t x y) (m : Nat) : Ext2 t m x y := ⟨h.os, h.tape, h.output, h.size, fun k hk h1 _ => h.block k hk h1⟩
theorem ExtB.to2m {m : Nat} {x y : World} (h : ExtB m x y) (t : Nat) : Ext2 t m x y := ⟨h.os, h.tape, h.output, h.size, fun k hk _ h1 => h.block k hk h1⟩
theorem Ext.to2 {x y : World} (h : Ext x y) (t m : Nat) : Ext2 t m x y := (h.toB t).to2t m
theorem Blk.ext2 {t m b : Nat} {x y : World} {C : Array Value} {ty : TypeId} (h : Blk x b C ty) (e : Ext2 t m x y) (n1 : b ≠ t) (n2 : b ≠ m) : Blk y b C ty := (e.block b h.lt n1 n2).trans h
theorem RowOf.ext2 {α : Type} {enc : α → Array Value} {k : Nat} {E : TypeId} {base t m : Nat} {w w' : World} {v : Value} {l : List α} (h : RowOf enc k E base w v l) (e : Ext2 t m w w') (h1 : t < base) (h2 : m < base) : RowOf enc k E base w' v l := by
  obtain ⟨⟨h0, h3⟩, hn⟩ := h
  refine ⟨⟨h0, ?_⟩, hn⟩
  rcases h3 with h3 | ⟨g, cap, cur, q1, q2, q3, q4⟩
  · exact Or.inl h3
  · exact Or.inr ⟨g, cap, cur, q1, q2, (e.block g (lt_of_block q3) (by omega) (by omega)).trans q3, q4⟩
theorem Ext.own2 {t m : Nat} {x y z : World} (h : Ext x y) (e : Ext2 t m y z) (h1 : x.heap.size ≤ t) (h2 : x.heap.size ≤ m) : Ext x z :=
  ⟨e.os.trans (Below.os h), e.tape.trans (Below.tape h), e.output.trans (Below.output h), Nat.le_trans h.sz e.size, fun k hk => (e.block k (Nat.lt_of_lt_of_le hk h.sz) (by omega) (by omega)).trans (Below.block h k hk)⟩

/-- both tables -/
structure RelAt (B : Nat) (w : World) (t m c : Nat) (most clock : Int) (l : SMap) (v : Value) (all : List Slot) (n : Nat) : Prop where
  tab : TabAt w t m most clock l c
  ok : TabOk l c
  row : SlotRow B w v all
  rel : Rel clock l all
  lenA : all.length ≤ n
  lenL : l.length ≤ n
  bt : t < B
  bm : m < B
  n0 : 0 ≤ clock
  n1 : clock < 18446744073709551616
theorem RelAt.up {B : Nat} {w w' : World} {t m c : Nat} {most clock : Int} {l : SMap} {v : Value} {all : List Slot} {n : Nat} (h : RelAt B w t m c most clock l v all n) (e : Ext w w') : RelAt B w' t m c most clock l v all n :=
  ⟨h.tab.ext e, h.ok, h.row.ext e, h.rel, h.lenA, h.lenL, h.bt, h.bm, h.n0, h.n1⟩

theorem put_lenS (l : SMap) (s : Slot) (c : Nat) : (l.put s c).length ≤ l.length + 1 := by
  unfold SMap.put SMap.rep
  split <;> simp
theorem put_keys {l : SMap} {s : Slot} {c : Nat} (h : s.key ∈ l.keys) : (l.put s c).keys = l.keys := by
  unfold SMap.put
  have hs : (l.look s.key).isSome = true := by
    cases hl : l.look s.key with
    | some x => rfl
    | none =>
      rw [look_none] at hl
      obtain ⟨x, hx, he⟩ := List.mem_map.1 h
      exact absurd he (hl x hx)
  rw [if_pos hs]
  exact rep_keys l s
theorem slotsOf_key {clock : Int} {l : SMap} {s : Slot} (h : s ∈ slotsOf clock l) : s.key ∈ l.keys := by
  obtain ⟨n, hn⟩ := actives_mem (slotsOf_mem.1 h)
  exact List.mem_map.2 ⟨_, hn, rfl⟩
theorem mvTo_keys (clock kind : Int) (l : SMap) (c : Nat) : ∀ k, k ≤ (slotsOf clock l).length → (mvTo clock kind l c k).1.keys = l.keys := by
  intro k
  induction k with
  | zero => intro _; rfl
  | succ k ih =>
    intro hk
    have hk' : k < (slotsOf clock l).length := hk
    rw [mvTo_succ clock kind l c k hk']
    unfold mvStep
    have h1 := ih (by omega)
    have hm : (movedS clock (slotsOf clock l)[k] kind).key ∈ (mvTo clock kind l c k).1.keys := by
      rw [h1]
      show (slotsOf clock l)[k].key ∈ l.keys
      exact slotsOf_key (List.getElem_mem hk')
    rw [put_keys hm, h1]
theorem mvTo_len (clock kind : Int) (l : SMap) (c : Nat) : (mvTo clock kind l c (slotsOf clock l).length).1.length = l.length := by
  have h := congrArg List.length (mvTo_keys clock kind l c _ (Nat.le_refl _))
  unfold SMap.keys at h
  rw [List.length_map, List.length_map] at h
  exact h
theorem cgL_lenS (most clock : Int) (l : SMap) (c : Nat) (k p : ByteArray) (e b rk n : Int) : (cgL most clock l c k p e b rk n).length ≤ l.length + 1 := by
  unfold cgL
  split
  · omega
  split
  · omega
  unfold chargeL
  have h := (chRoom_sub (most := most) (clock := clock) (l := l) (k := k) (e := e) (b := b)).2
  split
  · omega
  unfold chL
  split
  · have := put_lenS (chRoom most clock l k e b) (chgS clock (slotHit l k e b clock) k p e b rk n) c
    omega
  · omega
theorem rChgL_len (most clock : Int) (xs : List Slot) (k p : ByteArray) (e b rk n : Int) : (rChgL most clock xs k p e b rk n).length ≤ xs.length + 1 := by
  have h := rLeft_len xs k e b
  unfold rChgL
  split
  · omega
  split
  · have := rWith_len (rLeft xs k e b) (chgS clock (rHit xs k e b) k p e b rk n)
    omega
  · omega
theorem rSlots_len (clock : Int) (all : List Slot) : (rSlots clock all).length ≤ all.length := List.length_filter_le _ _

/-- what a move does to the map, and its error -/
def MoveRes (clock kind : Int) (l : SMap) (k : ByteArray) (c : Nat) (E : Int) (l' : SMap) (c' : Nat) : Prop :=
  (rightKind kind = false ∧ E = 27 ∧ l' = l ∧ c' = c) ∨ (rightKind kind = true ∧ ((∃ s ∈ actives clock l, s.key = k ∧ E = 0 ∧ l' = l.put (movedS clock s kind) c ∧ c' = l.putC (movedS clock s kind) c) ∨ ((∀ s ∈ actives clock l, s.key ≠ k) ∧ E = 52 ∧ l' = l ∧ c' = c)))
/-- what MoveAll does to the map, how many, and its error -/
def AllRes (clock kind : Int) (l : SMap) (c : Nat) (N E : Int) (l' : SMap) (c' : Nat) : Prop :=
  (rightKind kind = false ∧ N = 0 ∧ E = 27 ∧ l' = l ∧ c' = c) ∨ (rightKind kind = true ∧ N = (slotsOf clock l).length ∧ E = 0 ∧ l' = (mvTo clock kind l c (slotsOf clock l).length).1 ∧ c' = (mvTo clock kind l c (slotsOf clock l).length).2)
theorem ruleErr_u (p : ByteArray) (e b k : Int) : 0 ≤ ruleErr p e b k ∧ ruleErr p e b k < 65536 := by
  unfold ruleErr
  repeat' split
  all_goals omega
theorem ref14_ChargeX {B : Nat} {c n : Nat} {most clock : Int} {l : SMap} {v : Value} {all : List Slot} (w : World) (hrow : SlotRow B w v all) (hrel : Rel clock l all) (hok : TabOk l c) (hlen : all.length ≤ n) (hn : n ≤ 1000) (hB : B ≤ w.heap.size) (hn0 : 0 ≤ clock) (hn1 : clock < 18446744073709551616)
    (k p : ByteArray) (e b rk N : Int) (hk : k.size ≤ maxLen) (hp : p.size ≤ maxLen) (he0 : 0 ≤ e) (he1 : e < 18446744073709551616) (hb0 : 0 ≤ b) (hb1 : b < 18446744073709551616) (hr0 : 0 ≤ rk) (hr1 : rk < 256) (hw0 : 0 ≤ N) (hw1 : N < 18446744073709551616)
    (hok' : TabOk (cgL most clock l c k p e b rk N) (cgC most clock l c k p e b rk N)) :
    Calls Tryz.prog 41 #[.agg #[.int .i64 most, .int .u64 clock, v], .string k, .agg #[.string p, .int .u64 e, .int .u64 b, .int .u8 rk], .int .u64 N] w fun x w' =>
      ∃ v' all', x = .returned (.tuple #[.agg #[.int .i64 most, .int .u64 clock, v'], cgV most clock l k p e b rk N]) ∧ SlotRow B w' v' all' ∧ Rel clock (cgL most clock l c k p e b rk N) all' ∧ all'.length ≤ n + 1 ∧ Ext w w' := by
  unfold cgL cgC at hok'
  unfold cgV cgL
  by_cases h1 : keyOk k = false
  · rw [if_pos h1, if_pos h1]
    obtain ⟨a, cp, rfl⟩ := hrow.size
    refine (ref14_charge_key most clock a all.length cp k p e b rk N w hk (Lib.hid h1)).mono ?_
    rintro x w' ⟨rfl, hx⟩
    exact ⟨_, all, rfl, hrow.ext hx, hrel, by omega, hx⟩
  · rw [if_neg h1, if_neg h1] at hok'
    rw [if_neg h1, if_neg h1]
    have h1' : keyOk k = true := by simpa using h1
    by_cases h2 : ruleErr p e b rk = 0
    · have h2' : ¬ ruleErr p e b rk ≠ 0 := fun q => q h2
      rw [if_neg h2', if_neg h2'] at hok'
      rw [if_neg h2', if_neg h2']
      obtain ⟨hv, hr⟩ := hrel.charge (most := most) hok hn0 hn1 k p e b rk N hok'
      refine (ref14_charge_go most clock v all k p e b rk N w hrow.slots (fun s hs => hrel.ok s hs) hn0 hn1 (by omega) hk hp he0 he1 hb0 hb1 hr0 hr1 hw0 hw1 (Lib.hid h1') (Lib.hid h2)).mono ?_
      rintro x w' ⟨v', rfl, h3, hx⟩
      have h4 := rChgL_len most clock (rSlots clock all) k p e b rk N
      have h5 := rSlots_len clock all
      exact ⟨v', _, by rw [hv], h3.low hB, hr, by omega, hx⟩
    · rw [if_pos h2, if_pos h2]
      obtain ⟨a, cp, rfl⟩ := hrow.size
      have hu := ruleErr_u p e b rk
      refine (ref14_charge_rule most clock a all.length cp k p e b rk N _ w hk (Lib.hid h1') hp he0 he1 hb0 hb1 (Lib.hid rfl) h2 hu.1 hu.2).mono ?_
      rintro x w' ⟨rfl, hx⟩
      exact ⟨_, all, rfl, hrow.ext hx, hrel, by omega, hx⟩
end Go.Proofs.YtfglpejbgfmojaaGreat

/- Walks: tollerref14.Answers at answers that are alike. -/
namespace Go.Proofs.YtfglpejbgfmojaaGreat
open Go.RowKit
set_option linter.unusedVariables false
set_option linter.unusedSimpArgs false

end Go.Proofs.YtfglpejbgfmojaaGreat

/- Stores into blocks that a call of step has made. -/
namespace Go.Proofs.YtfglpejbgfmojaaGreat
open Go.RowKit
set_option linter.unusedVariables false
set_option linter.unusedSimpArgs false

theorem TabAt.set {w : World} {t m c b : Nat} {most clock : Int} {l : SMap} (h : TabAt w t m most clock l c) (n1 : t ≠ b) (n2 : m ≠ b) (o : Nat) (x : Value) : TabAt (w.setCell ⟨b, o, none⟩ x) t m most clock l c := ⟨h.blk.other n1 x, h.map.other n2 x⟩
theorem RowOf.setOther {α : Type} {enc : α → Array Value} {k : Nat} {E t' : TypeId} {base b : Nat} {w : World} {v : Value} {l : List α} {C : Array Value} (h : RowOf enc k E base w v l) (hb : Blk w b C t') (ne : E ≠ t') (o : Nat) (x : Value) : RowOf enc k E base (w.setCell ⟨b, o, none⟩ x) v l := by
  obtain ⟨⟨h0, h3⟩, hn⟩ := h
  refine ⟨⟨h0, ?_⟩, hn⟩
  rcases h3 with h3 | ⟨g, cap, cur, q1, q2, q3, q4⟩
  · exact Or.inl h3
  · have hne : g ≠ b := by
      intro e
      subst e
      have : (some (Obj.cells cur E (0, 0)) : Option Obj) = some (.cells C t') := q3.symm.trans hb
      simp at this
      exact ne this.2
    exact Or.inr ⟨g, cap, cur, q1, q2, Blk.other (t := E) q3 (a := ⟨b, o, none⟩) hne x, q4⟩
theorem RowOf.set3Other {α : Type} {enc : α → Array Value} {k : Nat} {E t' : TypeId} {base b : Nat} {w : World} {v : Value} {l : List α} {C : Array Value} (h : RowOf enc k E base w v l) (hb : Blk w b C t') (ne : E ≠ t') (v0 v1 v2 : Value) :
    RowOf enc k E base (((w.setCell ⟨b, 0, none⟩ v0).setCell ⟨b, 1, none⟩ v1).setCell ⟨b, 2, none⟩ v2) v l :=
  ((h.setOther hb ne 0 v0).setOther (hb.set 0 v0) ne 1 v1).setOther ((hb.set 0 v0).set 1 v1) ne 2 v2
theorem RowOf.set10Other {α : Type} {enc : α → Array Value} {k : Nat} {E t' : TypeId} {base b : Nat} {w : World} {v : Value} {l : List α} {C : Array Value} (h : RowOf enc k E base w v l) (hb : Blk w b C t') (ne : E ≠ t') (v0 v1 v2 v3 v4 v5 v6 v7 v8 v9 : Value) :
    RowOf enc k E base ((((((((((w.setCell ⟨b, 0, none⟩ v0).setCell ⟨b, 1, none⟩ v1).setCell ⟨b, 2, none⟩ v2).setCell ⟨b, 3, none⟩ v3).setCell ⟨b, 4, none⟩ v4).setCell ⟨b, 5, none⟩ v5).setCell ⟨b, 6, none⟩ v6).setCell ⟨b, 7, none⟩ v7).setCell ⟨b, 8, none⟩ v8).setCell ⟨b, 9, none⟩ v9) v l :=
  have b1 := hb.set 0 v0
  have b2 := b1.set 1 v1
  have b3 := b2.set 2 v2
  have b4 := b3.set 3 v3
  have b5 := b4.set 4 v4
  have b6 := b5.set 5 v5
  have b7 := b6.set 6 v6
  have b8 := b7.set 7 v7
  have b9 := b8.set 8 v8
  (((((((((h.setOther hb ne 0 v0).setOther b1 ne 1 v1).setOther b2 ne 2 v2).setOther b3 ne 3 v3).setOther b4 ne 4 v4).setOther b5 ne 5 v5).setOther b6 ne 6 v6).setOther b7 ne 7 v7).setOther b8 ne 8 v8).setOther b9 ne 9 v9
theorem RelAt.set {B : Nat} {w : World} {t m c b : Nat} {most clock : Int} {l : SMap} {v : Value} {all : List Slot} {n : Nat} {C : Array Value} {t' : TypeId} (h : RelAt B w t m c most clock l v all n) (hB : B ≤ b) (hb : Blk w b C t') (ne : 65 ≠ t') (o : Nat) (x : Value) : RelAt B (w.setCell ⟨b, o, none⟩ x) t m c most clock l v all n :=
  ⟨h.tab.set (by have := h.bt; omega) (by have := h.bm; omega) o x, h.ok, h.row.setOther hb ne o x, h.rel, h.lenA, h.lenL, h.bt, h.bm, h.n0, h.n1⟩
theorem RelAt.set3 {B : Nat} {w : World} {t m c b : Nat} {most clock : Int} {l : SMap} {v : Value} {all : List Slot} {n : Nat} {C : Array Value} {t' : TypeId} (h : RelAt B w t m c most clock l v all n) (hB : B ≤ b) (hb : Blk w b C t') (ne : 65 ≠ t') (v0 v1 v2 : Value) :
    RelAt B (((w.setCell ⟨b, 0, none⟩ v0).setCell ⟨b, 1, none⟩ v1).setCell ⟨b, 2, none⟩ v2) t m c most clock l v all n :=
  ((h.set hB hb ne 0 v0).set hB (hb.set 0 v0) ne 1 v1).set hB ((hb.set 0 v0).set 1 v1) ne 2 v2
theorem RelAt.set10 {B : Nat} {w : World} {t m c b : Nat} {most clock : Int} {l : SMap} {v : Value} {all : List Slot} {n : Nat} {C : Array Value} {t' : TypeId} (h : RelAt B w t m c most clock l v all n) (hB : B ≤ b) (hb : Blk w b C t') (ne : 65 ≠ t') (v0 v1 v2 v3 v4 v5 v6 v7 v8 v9 : Value) :
    RelAt B ((((((((((w.setCell ⟨b, 0, none⟩ v0).setCell ⟨b, 1, none⟩ v1).setCell ⟨b, 2, none⟩ v2).setCell ⟨b, 3, none⟩ v3).setCell ⟨b, 4, none⟩ v4).setCell ⟨b, 5, none⟩ v5).setCell ⟨b, 6, none⟩ v6).setCell ⟨b, 7, none⟩ v7).setCell ⟨b, 8, none⟩ v8).setCell ⟨b, 9, none⟩ v9) t m c most clock l v all n :=
  have b1 := hb.set 0 v0
  have b2 := b1.set 1 v1
  have b3 := b2.set 2 v2
  have b4 := b3.set 3 v3
  have b5 := b4.set 4 v4
  have b6 := b5.set 5 v5
  have b7 := b6.set 6 v6
  have b8 := b7.set 7 v7
  have b9 := b8.set 8 v8
  (((((((((h.set hB hb ne 0 v0).set hB b1 ne 1 v1).set hB b2 ne 2 v2).set hB b3 ne 3 v3).set hB b4 ne 4 v4).set hB b5 ne 5 v5).set hB b6 ne 6 v6).set hB b7 ne 7 v7).set hB b8 ne 8 v8).set hB b9 ne 9 v9
theorem RelAt.swap {B : Nat} {w w' : World} {t m c : Nat} {most clock : Int} {l : SMap} {v : Value} {all : List Slot} {n : Nat} (h : RelAt B w t m c most clock l v all n) (e : Ext2 t m w w') (ht : TabAt w' t m most clock l c) : RelAt B w' t m c most clock l v all n :=
  ⟨ht, h.ok, h.row.ext2 e h.bt h.bm, h.rel, h.lenA, h.lenL, h.bt, h.bm, h.n0, h.n1⟩
theorem ref14_TickX {B : Nat} {v : Value} {all : List Slot} (most clock now : Int) (w : World) (hr : SlotRow B w v all) (hn0 : 0 ≤ clock) (hn1 : clock < 18446744073709551616) (hx0 : 0 ≤ now) (hx1 : now < 18446744073709551616) :
    Calls Tryz.prog 39 #[.agg #[.int .i64 most, .int .u64 clock, v], .int .u64 now] w fun x w' => x = .returned (.agg #[.int .i64 most, .int .u64 (max clock now), v]) ∧ Ext w w' := by
  obtain ⟨a, c, rfl⟩ := hr.size
  exact ref14_Tick most clock now a all.length c w hn0 hn1 hx0 hx1
theorem Ext2.set {t m : Nat} {x y : World} (h : Ext2 t m x y) {b : Nat} (hb : x.heap.size ≤ b) (o : Nat) (v : Value) : Ext2 t m x (y.setCell ⟨b, o, none⟩ v) :=
  ⟨h.os, h.tape, h.output, by simpa [World.setCell] using h.size, fun k hk h1 h2 => (Below.heap_setCell _ _ _ _ (show k ≠ b by omega)).trans (h.block k hk h1 h2)⟩
theorem Ext2.set3 {t m : Nat} {x y : World} (h : Ext2 t m x y) {b : Nat} (hb : x.heap.size ≤ b) (v0 v1 v2 : Value) : Ext2 t m x (((y.setCell ⟨b, 0, none⟩ v0).setCell ⟨b, 1, none⟩ v1).setCell ⟨b, 2, none⟩ v2) := ((h.set hb _ _).set hb _ _).set hb _ _
theorem Ext2.set10 {t m : Nat} {x y : World} (h : Ext2 t m x y) {b : Nat} (hb : x.heap.size ≤ b) (v0 v1 v2 v3 v4 v5 v6 v7 v8 v9 : Value) :
    Ext2 t m x ((((((((((y.setCell ⟨b, 0, none⟩ v0).setCell ⟨b, 1, none⟩ v1).setCell ⟨b, 2, none⟩ v2).setCell ⟨b, 3, none⟩ v3).setCell ⟨b, 4, none⟩ v4).setCell ⟨b, 5, none⟩ v5).setCell ⟨b, 6, none⟩ v6).setCell ⟨b, 7, none⟩ v7).setCell ⟨b, 8, none⟩ v8).setCell ⟨b, 9, none⟩ v9) :=
  (((((((((h.set hb _ _).set hb _ _).set hb _ _).set hb _ _).set hb _ _).set hb _ _).set hb _ _).set hb _ _).set hb _ _).set hb _ _
theorem Ext2.then {t m : Nat} {x y z : World} (h : Ext2 t m x y) (k : Ext y z) : Ext2 t m x z := h.trans (k.to2 t m)
end Go.Proofs.YtfglpejbgfmojaaGreat

/- Walks: tollerref14.Entry of equal entries. -/
namespace Go.Proofs.YtfglpejbgfmojaaGreat
open Go.RowKit
set_option linter.unusedVariables false
set_option linter.unusedSimpArgs false

set_option maxHeartbeats 1000000 in
set_option maxRecDepth 100000 in
theorem ref14_Entry_yes (b1 b2 : Nat) (v1 v2 : Value) (l : List Ent) (w : World) (h1 : EntSlice b1 w v1 l) (h2 : EntSlice b2 w v2 l) :
    Calls Tryz.prog 53 #[v1, v2] w fun x w' => x = .returned (.bool true) ∧ Ext w w' := by
  obtain ⟨a1, c1, rfl⟩ := h1.size
  obtain ⟨a2, c2, rfl⟩ := h2.size
  have hlen := h1.len
  unfold maxLen at hlen
  have H1 := Lib.hid h1
  have H2 := Lib.hid h2
  clear h1 h2
  have hll : ((l.length : Int) == (l.length : Int)) = true := by simp
  go_enter Tryz.func53, Tryz.ntmps53
  go_wp2
  go_loopw [5] (fun i wr => ∃ k : Nat, k ≤ l.length ∧ i = .int .i64 k ∧ Ext w wr) (fun i _ => l.length - (intOf i).toNat)
  case atStart => exact ⟨0, by omega, rfl, Ext.refl _⟩
  case round =>
    obtain ⟨k, hk, rfl, hx⟩ := hrel
    by_cases hlt : k < l.length
    · obtain ⟨g1, cc1, e1, -, -, q1⟩ := (H1.out.ext hx).cells ent_size k hlt
      obtain ⟨g2, cc2, e2, -, -, q2⟩ := (H2.out.ext hx).cells ent_size k hlt
      cases e1
      cases e2
      have a10 : wr.cell? ⟨g1, k * 2, none⟩ = some (.string l[k].key) := q1 0 (by omega)
      have a11 : wr.cell? ⟨g1, k * 2 + 1, none⟩ = some (.int .u64 l[k].till) := q1 1 (by omega)
      have a20 : wr.cell? ⟨g2, k * 2, none⟩ = some (.string l[k].key) := q2 0 (by omega)
      have a21 : wr.cell? ⟨g2, k * 2 + 1, none⟩ = some (.int .u64 l[k].till) := q2 1 (by omega)
      generalize l[k] = e at *
      obtain ⟨ek, et⟩ := e
      clear q1 q2
      simp only at a10 a11 a20 a21
      go_upto_region 6 with fail
      go_quiet (fail)
      go_wp2
      go_roundw
      case rel => exact ⟨k + 1, by omega, by go_num, hx.trans (Ext.drewNs _ _)⟩
      case measure => simp [intOf]; omega
    · go_wp2
      go_ret
      exact ⟨rfl, hx⟩
end Go.Proofs.YtfglpejbgfmojaaGreat

/- What tollerlaw14.does asks of each deed: helps. -/
namespace Go.Proofs.YtfglpejbgfmojaaGreat
open Go.RowKit
set_option linter.unusedVariables false
set_option linter.unusedSimpArgs false

theorem ExtB.same {b : Nat} {w w' : World} (h : ExtB b w w') (e : w'.heap[b]? = w.heap[b]?) : Ext w w' :=
  ⟨h.os, h.tape, h.output, h.size, fun k hk => by
    by_cases hb : k = b
    · subst hb; exact e
    · exact h.block k hk hb⟩
theorem Ext2.keep {t m : Nat} {w w' : World} (h : Ext2 t m w w') {a : Addr} {v : Value} (c : w.cell? a = some v) (n1 : a.block ≠ t) (n2 : a.block ≠ m) : w'.cell? a = some v := by
  have hlt : a.block < w.heap.size := by
    unfold World.cell? at c
    rcases Nat.lt_or_ge a.block w.heap.size with h | h
    · exact h
    · rw [Array.getElem?_eq_none h] at c; cases c
  unfold World.cell? at c ⊢
  rw [h.block _ hlt n1 n2]
  exact c
theorem Ext2.alloc {t m : Nat} {x y : World} (h : Ext2 t m x y) (o : Obj) : Ext2 t m x (y.alloc o) := h.then ((Ext.refl y).alloc o)
theorem Ext2.drew {t m : Nat} {x y : World} (h : Ext2 t m x y) : Ext2 t m x y.drew := h.then ((Ext.refl y).drew)
theorem wp_genD {P : Program} {c : Code} {Q : Exit → Act → World → Prop} {a : Act} {W : World} (h : ∀ W', W' = W → c.wp P Q a W') : c.wp P Q a W := h W rfl
theorem table_ClockX (t mb c : Nat) (most clock : Int) (l : SMap) (w : World) (h : TabAt w t mb most clock l c) (hn0 : 0 ≤ clock) (hn1 : clock < 18446744073709551616) :
    Calls Tryz.prog 23 #[.pointer (some ⟨t, 0, none⟩)] w fun x w' => x = .returned (.int .u64 clock) ∧ Ext w w' :=
  (table_Clock t mb c most clock l w h hn0 hn1).mono fun x w' ⟨hx, ht, he⟩ => ⟨hx, he.same ((show w'.heap[t]? = _ from ht.blk).trans (show w.heap[t]? = _ from h.blk).symm)⟩
theorem SlotSlice.at {base : Nat} {w : World} {v : Value} {l : List Slot} (h : SlotSlice base w v l) : SlotsAt w v l := by
  obtain ⟨a, c, hv, hl⟩ := h.form
  refine ⟨a, c, hv, fun hne => ?_⟩
  obtain ⟨b, ha, -, hc, -⟩ := hl hne
  exact ⟨b, 0, ha, fun j hj i hi => by rw [Nat.zero_add]; exact hc j hj i hi⟩

end Go.Proofs.YtfglpejbgfmojaaGreat

/- Walks: enter.Leave, tollerref17.Leave, tollerref16.Same. -/
namespace Go.Proofs.YtfglpejbgfmojaaGreat
open Go.RowKit
set_option linter.unusedVariables false
set_option linter.unusedSimpArgs false

theorem ret_tmp_cell {P : Program} {fn : Func} {R : Ending → World → Prop} {tmps : Array Value} {w : World} {p q : Tmp} {ty t : TypeId} {g : Nat} {C : Array Value} {d : TypeDesc} {v : Value} (h : fn.results = #[.tmp q, .cell p ty])
    (hp : tmps.getD p undef = .pointer (some ⟨g, 0, none⟩)) (hq : tmps.getD q undef = v) (hB : Blk w g C t) (hu : P.underlying ty = some d) (hd : aggKind d = true) (hi : (P.info? ty).map (·.size) = some C.size)
    (hR : R (.returned (.tuple #[v, .agg C])) w) : bodyPost P fn R .ret { tmps := tmps, defers := [] } w := by
  refine bodyPost_ret (v := .tuple #[v, .agg C]) ?_ rfl hR
  have hp' : tmps[p]?.getD undef = .pointer (some ⟨g, 0, none⟩) := by simpa using hp
  have hq' : tmps[q]?.getD undef = v := by simpa using hq
  simp [results, h, hp', hq', asAddr, run_loadVar_blk hB hu hd hi]

set_option maxHeartbeats 1000000 in
set_option maxRecDepth 100000 in
theorem enter_Leave (t mb c : Nat) (most clock : Int) (l : SMap) (w : World) (ht : TabAt w t mb most clock l c) (hok : TabOk l c) (hn0 : 0 ≤ clock) (hn1 : clock < 18446744073709551616) (hlen : l.length ≤ 1000000) :
    Calls Tryz.prog 27 #[.pointer (some ⟨t, 0, none⟩)] w fun x w' => ∃ v, x = .returned (.agg #[.int .u64 clock, v]) ∧ EntSlice w.heap.size w' v (entsOf clock l) ∧ Ext w w' := by
  have hx0 : Ext w (w.alloc (.cells #[.int .u64 0, .slice none 0 0] 68)) := (Ext.refl w).alloc _
  have bq := Blk.new w #[.int .u64 0, .slice none 0 0] 68
  have HT := Lib.hid (ht.ext hx0)
  have HOK := Lib.hid hok
  clear ht hok
  go_enter Tryz.func27, Tryz.ntmps27
  go_wp2_with fail
  generalize w.alloc (.cells #[.int .u64 0, .slice none 0 0] 68) = w0 at *
  refine (table_ClockX t mb c most clock l _ HT.out hn0 hn1).mono ?_
  rintro x w1 ⟨rfl, hx1⟩
  go_wp2_with fail
  refine (table_Entries t mb c most clock l _ (HT.out.ext hx1) HOK.out hn0 hn1 hlen).mono ?_
  rintro x w2 ⟨v, rfl, hs, hx2⟩
  obtain ⟨a, cp, rfl⟩ := hs.size
  have hx02 := hx1.trans hx2
  have bz := bq.ext hx02
  have hzc := bz.cell
  have hzf := bz.free
  have hzl := bz.lt
  have HS := Lib.hid (hs.low (b := w.heap.size) (Nat.le_trans hx0.sz hx1.sz))
  have HX := Lib.hid (hx0.trans hx02)
  clear hs hx1 hx2
  go_wp2
  refine ret_cell Tryz.results27 rfl ((bz.set 0 (.int .u64 clock)).set 1 (.slice a (entsOf clock l).length cp)) Tryz.underlying68 rfl (by kernel_rfl) ?_
  exact ⟨_, rfl, (HS.out.setOther bz (by decide) 0 _).setOther (bz.set 0 _) (by decide) 1 _, (HX.out.setCell (Nat.le_refl _) _).setCell (Nat.le_refl _) _⟩

set_option maxHeartbeats 1000000 in
set_option maxRecDepth 100000 in
theorem ref17_Leave (most clock : Int) (v : Value) (all : List Slot) (w : World) (hv : SlotsAt w v all) (hs : ∀ s ∈ all, SlotOk s) (hn0 : 0 ≤ clock) (hn1 : clock < 18446744073709551616) (hlen : all.length ≤ 1000000) :
    Calls Tryz.prog 28 #[.agg #[.int .i64 most, .int .u64 clock, v]] w fun x w' => ∃ b v', x = .returned (.agg #[.int .u64 clock, v']) ∧ EntRow b w' v' ((rSlots clock all).map (entOf clock)) ∧ Ext w w' := by
  obtain ⟨a0, c0, rfl⟩ := hv.size
  have hx0 : Ext w ((w.alloc (.cells #[.int .i64 most, .int .u64 clock, .slice a0 all.length c0] 42)).alloc (.cells #[.int .u64 0, .slice none 0 0] 68)) := ((Ext.refl w).alloc _).alloc _
  have bt := (Blk.new w #[.int .i64 most, .int .u64 clock, .slice a0 all.length c0] 42).alloc (.cells #[.int .u64 0, .slice none 0 0] 68)
  have bq := Blk.new' (w.alloc (.cells #[.int .i64 most, .int .u64 clock, .slice a0 all.length c0] 42)) #[.int .u64 0, .slice none 0 0] 68 (b := w.heap.size + 1) (by simp)
  have HE := Lib.hid (fun W (hx : Ext w W) => ref14_Entries most clock (.slice a0 all.length c0) all W (hv.ext hx) hs hn0 hn1 hlen)
  clear hv hs
  go_enter Tryz.func28, Tryz.ntmps28
  go_upto_region 1 with fail
  generalize (w.alloc (.cells #[.int .i64 most, .int .u64 clock, .slice a0 all.length c0] 42)).alloc (.cells #[.int .u64 0, .slice none 0 0] 68) = w0 at *
  have e0 : w0.cell? ⟨w.heap.size, 0, none⟩ = some (.int .i64 most) := bt.cell 0
  have e1 : w0.cell? ⟨w.heap.size, 1, none⟩ = some (.int .u64 clock) := bt.cell 1
  have e2 : w0.cell? ⟨w.heap.size, 2, none⟩ = some (.slice a0 all.length c0) := bt.cell 2
  have hbl := bt.lt
  have hql := bq.lt
  have BQ := Lib.hid bq
  have BT := Lib.hid bt
  have HX := Lib.hid hx0
  have hne : w.heap.size ≠ w.heap.size + 1 := by omega
  clear bt bq hx0
  go_region_held3 (fun w' => w'.cell? ⟨w.heap.size, 0, none⟩ = some (.int .i64 most) ∧ w'.cell? ⟨w.heap.size, 1, none⟩ = some (.int .u64 clock) ∧ w'.cell? ⟨w.heap.size, 2, none⟩ = some (.slice a0 all.length c0))
    (first
      | exact ⟨e0, e1, e2⟩
      | exact ⟨hx2.keep e0, hx2.keep e1, hx2.keep e2⟩
      | exact ⟨(((BT.out.ext hx2).other hne _).other hne _).cell 0, (((BT.out.ext hx2).other hne _).other hne _).cell 1, (((BT.out.ext hx2).other hne _).other hne _).cell 2⟩)
    (first
      | (go_at_call 54; (with_reducible refine (HE.out _ (Ext.trans HX.out (by repeat (first | with_reducible exact Ext.refl _ | with_reducible assumption | with_reducible refine Ext.alloc ?_ _ | with_reducible refine Ext.drew ?_ | (with_reducible refine Ext.setCell ?_ (by first | exact Nat.le_refl _ | (dsimp only; omega) | (simp; done) | (simp; omega)) _) | with_reducible refine Ext.trans ?_ (by with_reducible assumption))))).mono ?_); rintro x w2 ⟨v2, rfl, hr2, hx2'⟩; obtain ⟨a2, c2, rfl⟩ := hr2.size; rw [List.length_map] at hr2; have hx2 : Ext w0 w2 := Ext.trans (by first | exact Ext.refl _ | exact (Ext.refl _).drew) hx2'; have bz := BQ.out.ext hx2; have hzc := bz.cell; have hzf := bz.free; have hzl := bz.lt))
  go_wp2
  refine ret_cell Tryz.results28 rfl ((bz.set 0 (.int .u64 clock)).set 1 (.slice a2 (rSlots clock all).length c2)) Tryz.underlying68 rfl (by kernel_rfl) ?_
  exact ⟨_, _, rfl, (hr2.setOther bz (by decide) 0 _).setOther (bz.set 0 _) (by decide) 1 _, ((HX.out.trans hx2).setCell (Nat.le_succ _) _).setCell (Nat.le_succ _) _⟩

set_option maxHeartbeats 1000000 in
set_option maxRecDepth 100000 in
theorem ref16_Same_yes (b1 b2 : Nat) (clock : Int) (v1 v2 : Value) (l : List Ent) (w : World) (h1 : EntSlice b1 w v1 l) (h2 : EntSlice b2 w v2 l) :
    Calls Tryz.prog 26 #[.agg #[.int .u64 clock, v1], .agg #[.int .u64 clock, v2]] w fun x w' => x = .returned (.bool true) ∧ Ext w w' := by
  obtain ⟨a1, c1, rfl⟩ := h1.size
  obtain ⟨a2, c2, rfl⟩ := h2.size
  have HE := Lib.hid (fun W (hx : Ext w W) => ref14_Entry_yes b1 b2 _ _ l W (h1.ext hx) (h2.ext hx))
  clear h1 h2
  go_enter Tryz.func26, Tryz.ntmps26
  go_wp2_with fail
  refine (HE.out _ (by repeat (first | with_reducible exact Ext.refl _ | with_reducible assumption | with_reducible refine Ext.alloc ?_ _ | with_reducible refine Ext.drew ?_ | (with_reducible refine Ext.setCell ?_ (by first | exact Nat.le_refl _ | (dsimp only; omega) | (simp; done) | (simp; omega)) _) | with_reducible refine Ext.trans ?_ (by with_reducible assumption)))).mono ?_
  rintro x w1 ⟨rfl, hx1⟩
  go_wp2
  go_ret
  exact ⟨rfl, (by repeat (first | with_reducible exact Ext.refl _ | with_reducible assumption | with_reducible refine Ext.alloc ?_ _ | with_reducible refine Ext.drew ?_ | (with_reducible refine Ext.setCell ?_ (by first | exact Nat.le_refl _ | (dsimp only; omega) | (simp; done) | (simp; omega)) _) | with_reducible refine Ext.trans ?_ (by with_reducible assumption)))⟩
end Go.Proofs.YtfglpejbgfmojaaGreat

/- Walks: config.Right and enter.Right of no policy; tollerlaw17.known. -/
namespace Go.Proofs.YtfglpejbgfmojaaGreat
open Go.RowKit
set_option linter.unusedVariables false
set_option linter.unusedSimpArgs false

set_option maxHeartbeats 1000000 in
set_option maxRecDepth 100000 in
theorem config_Right0 (w : World) : Calls Tryz.prog 92 #[.agg #[.int .i64 0, .slice none 0 0]] w fun x w' => x = .returned (.int .u16 29) ∧ Ext w w' := by
  go_enter Tryz.func92, Tryz.ntmps92
  go_wp2
  go_ret
  exact ⟨rfl, (by repeat (first | with_reducible exact Ext.refl _ | with_reducible assumption | with_reducible refine Ext.alloc ?_ _ | with_reducible refine Ext.drew ?_ | (with_reducible refine Ext.setCell ?_ (by first | exact Nat.le_refl _ | (dsimp only; omega) | (simp; done) | (simp; omega)) _) | with_reducible refine Ext.trans ?_ (by with_reducible assumption)))⟩

set_option maxHeartbeats 1000000 in
set_option maxRecDepth 100000 in
theorem enter_Right0 (clock : Int) (a : Option Addr) (n cp : Nat) (w : World) :
    Calls Tryz.prog 52 #[.agg #[.int .i64 0, .slice none 0 0], .agg #[.int .u64 clock, .slice a n cp]] w fun x w' => x = .returned (.int .u16 29) ∧ Ext w w' := by
  go_enter Tryz.func52, Tryz.ntmps52
  go_wp2_with fail
  refine (config_Right0 _).mono ?_
  rintro x w1 ⟨rfl, hx1⟩
  go_wp2
  go_ret
  exact ⟨rfl, (by repeat (first | with_reducible exact Ext.refl _ | with_reducible assumption | with_reducible refine Ext.alloc ?_ _ | with_reducible refine Ext.drew ?_ | (with_reducible refine Ext.setCell ?_ (by first | exact Nat.le_refl _ | (dsimp only; omega) | (simp; done) | (simp; omega)) _) | with_reducible refine Ext.trans ?_ (by with_reducible assumption)))⟩

def k17_s : Slot := ⟨⟨#[97]⟩, ⟨#[]⟩, 8, 2, 3, 3, 8, 5⟩
def k17_l : SMap := [(k17_s, 0)]
theorem k17_cg : cgL 2 5 [] 0 ⟨#[97]⟩ ⟨#[]⟩ 8 2 3 1 = k17_l := by kernel_rfl
theorem k17_act : actives 5 k17_l = [k17_s] := by kernel_rfl
theorem k17_ents : entsOf 5 k17_l = [⟨⟨#[97]⟩, 13⟩] := by
  unfold entsOf slotsOf
  rw [k17_act, List.mergeSort_singleton]
  kernel_rfl

set_option maxHeartbeats 2000000 in
set_option maxRecDepth 100000 in
theorem law17_known (w : World) :
    Calls Tryz.prog 25 #[] w fun x w' => x = .returned (.bool true) ∧ Ext w w' := by
  go_enter Tryz.func25, Tryz.ntmps25
  go_wp2_with fail
  refine (table_New 2 w (by decide) (by decide)).mono ?_
  rw [show mostOf 2 = 2 from by decide]
  rintro x w1 ⟨rfl, ht1, hx1⟩
  have HT1 := Lib.hid ht1
  have hsz := ht1.blk.lt
  clear ht1
  go_wp2_with fail
  refine (table_Tick (w.heap.size + 1) w.heap.size 0 2 0 5 [] _ HT1.out (by decide) (by decide) (by decide) (by decide)).mono ?_
  rw [show max (0 : Int) 5 = 5 from by decide]
  rintro x w2 ⟨rfl, ht2, hx2⟩
  have HT2 := Lib.hid ht2
  clear ht2
  go_wp2_with fail
  refine (charge_any (w.heap.size + 1) w.heap.size 0 ⟨#[97]⟩ ⟨#[]⟩ 2 5 8 2 3 1 [] _ HT2.out (TabOk.nil 0) (by decide) (by decide) (by decide) (by decide) (by decide) (by decide) (by decide) (by decide) (by decide) (by decide) (by decide) (by decide)).mono ?_
  rw [k17_cg]
  generalize cgC 2 5 [] 0 ⟨#[97]⟩ ⟨#[]⟩ 8 2 3 1 = c3
  generalize cgV 2 5 [] ⟨#[97]⟩ ⟨#[]⟩ 8 2 3 1 = v3
  rintro x w3 ⟨rfl, ht3, hok3, hx3⟩
  have HT3 := Lib.hid ht3
  have HOK3 := Lib.hid hok3
  have hxx : Ext w w3 := hx1.own2 (((hx2.to2t w.heap.size)).trans (hx3.to2m (w.heap.size + 1))) (Nat.le_succ _) (Nat.le_refl _)
  have HX3 := Lib.hid hxx
  clear ht3 hok3 hx2 hx3 hxx hx1
  go_wp2_with fail
  refine (enter_Leave (w.heap.size + 1) w.heap.size c3 2 5 k17_l _ HT3.out HOK3.out (by decide) (by decide) (by decide)).mono ?_
  rw [k17_ents]
  rintro x w4 ⟨v, rfl, hs, hx4⟩
  obtain ⟨b, cp, rfl, hb0, hb1, hcc⟩ := RowOf.cells (enc := Ent.cells) (k := 2) (fun _ => rfl) hs 0 (by decide)
  have d0 : w4.cell? ⟨b, 0, none⟩ = some (.string ⟨#[97]⟩) := hcc 0 (by decide)
  have d1 : w4.cell? ⟨b, 1, none⟩ = some (.int .u64 13) := hcc 1 (by decide)
  clear hcc hs
  simp only [List.length_cons, List.length_nil, Nat.zero_add]
  go_wp2_with fail
  refine (enter_Right0 _ _ _ _ _).mono ?_
  rintro x w5 ⟨rfl, hx5⟩
  go_wp2
  go_ret
  exact ⟨rfl, HX3.out.trans ((hx4.alloc _).trans hx5)⟩
end Go.Proofs.YtfglpejbgfmojaaGreat
