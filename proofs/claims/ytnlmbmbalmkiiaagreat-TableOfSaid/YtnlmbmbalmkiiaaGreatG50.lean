/- What each kind of deed does to the table, and to the document's. Walks: tollerref14.Answers at answers that are alike. Stores into blocks that a call of step has made. Walks: tollerref14.Entry of equal entries. What tollerlaw14.does asks of each deed: helps. -/
import Derived.Deep.DeepCutAuto
import Derived.Deep.CutRange
import Derived.Deep.CutBlock
import Derived.Test.YtnlmbmbalmkiiaaGreatG48
import Derived.Test.YtnlmbmbalmkiiaaGreatG36
import Derived.Test.YtnlmbmbalmkiiaaGreatG49
import Derived.Test.YtnlmbmbalmkiiaaGreatChB
import Derived.Test.YtnlmbmbalmkiiaaGreatG47
import Derived.Test.YtnlmbmbalmkiiaaGreatRule14
import Derived.Test.YtnlmbmbalmkiiaaGreatG46
import Derived.Test.YtnlmbmbalmkiiaaGreatTabN

/- What each kind of deed does to the table, and to the document's. -/
namespace Go.Proofs.YtnlmbmbalmkiiaaGreat
open Go.RowKit
set_option linter.unusedVariables false
set_option linter.unusedSimpArgs false

/-- all is as it was but for two blocks, and new ones -/
structure Ext2 (t m : Nat) (w w' : World) : Prop where
  os : w'.os = w.os
  tape : w'.tape = w.tape
  output : w'.output = w.output
  size : w.heap.size ≤ w'.heap.size
  block : ∀ k, k < w.heap.size → k ≠ t → k ≠ m → w'.heap[k]? = w.heap[k]?
theorem Ext2.refl (t m : Nat) (w : World) : Ext2 t m w w := ⟨rfl, rfl, rfl, Nat.le_refl _, fun _ _ _ _ => rfl⟩
theorem Ext2.trans {t m : Nat} {x y z : World} (h : Ext2 t m x y) (k : Ext2 t m y z) : Ext2 t m x z :=
  ⟨k.os.trans h.os, k.tape.trans h.tape, k.output.trans h.output, Nat.le_trans h.size k.size, fun i hi h1 h2 => (k.block i (Nat.lt_of_lt_of_le hi h.size) h1 h2).trans (h.block i hi h1 h2)⟩
theorem ExtB.to2t {t : Nat} {x y : World} (h : ExtB t x y) (m : Nat) : Ext2 t m x y := ⟨h.os, h.tape, h.output, h.size, fun k hk h1 _ => h.block k hk h1⟩
theorem ExtB.to2m {m : Nat} {x y : World} (h : ExtB m x y) (t : Nat) : Ext2 t m x y := ⟨h.os, h.tape, h.output, h.size, fun k hk _ h1 => h.block k hk h1⟩
theorem Ext.to2 {x y : World} (h : Ext x y) (t m : Nat) : Ext2 t m x y := (h.toB t).to2t m
theorem Blk.ext2 {t m b : Nat} {x y : World} {C : Array Value} {ty : TypeId} (h : Blk x b C ty) (e : Ext2 t m x y) (n1 : b ≠ t) (n2 : b ≠ m) : Blk y b C ty := (e.block b h.lt n1 n2).trans h
theorem RowOf.ext2 {α : Type} {enc : α → Array Value} {k : Nat} {E : TypeId} {base t m : Nat} {w w' : World} {v : Value} {l : List α} (h : RowOf enc k E base w v l) (e : Ext2 t m w w') (h1 : t < base) (h2 : m < base) : RowOf enc k E base w' v l := by
  obtain ⟨⟨h0, h3⟩, hn⟩ := h
  refine ⟨⟨h0, ?_⟩, hn⟩
  rcases h3 with h3 | ⟨g, cap, cur, q1, q2, q3, q4⟩
  · exact Or.inl h3
  · exact Or.inr ⟨g, cap, cur, q1, q2, (e.block g (lt_of_block q3) (by omega) (by omega)).trans q3, q4⟩
theorem Ext.own2 {t m : Nat} {x y z : World} (h : Ext x y) (e : Ext2 t m y z) (h1 : x.heap.size ≤ t) (h2 : x.heap.size ≤ m) : Ext x z :=
  ⟨e.os.trans (Below.os h), e.tape.trans (Below.tape h), e.output.trans (Below.output h), Nat.le_trans h.sz e.size, fun k hk => (e.block k (Nat.lt_of_lt_of_le hk h.sz) (by omega) (by omega)).trans (Below.block h k hk)⟩

/-- both tables -/
structure RelAt (B : Nat) (w : World) (t m c : Nat) (most clock : Int) (l : SMap) (v : Value) (all : List Slot) (n : Nat) : Prop where
  tab : TabAt w t m most clock l c
  ok : TabOk l c
  row : SlotRow B w v all
  rel : Rel clock l all
  lenA : all.length ≤ n
  lenL : l.length ≤ n
  bt : t < B
  bm : m < B
  n0 : 0 ≤ clock
  n1 : clock < 18446744073709551616
theorem RelAt.up {B : Nat} {w w' : World} {t m c : Nat} {most clock : Int} {l : SMap} {v : Value} {all : List Slot} {n : Nat} (h : RelAt B w t m c most clock l v all n) (e : Ext w w') : RelAt B w' t m c most clock l v all n :=
  ⟨h.tab.ext e, h.ok, h.row.ext e, h.rel, h.lenA, h.lenL, h.bt, h.bm, h.n0, h.n1⟩

theorem put_lenS (l : SMap) (s : Slot) (c : Nat) : (l.put s c).length ≤ l.length + 1 := by
  unfold SMap.put SMap.rep
  split <;> simp
theorem put_keys {l : SMap} {s : Slot} {c : Nat} (h : s.key ∈ l.keys) : (l.put s c).keys = l.keys := by
  unfold SMap.put
  have hs : (l.look s.key).isSome = true := by
    cases hl : l.look s.key with
    | some x => rfl
    | none =>
      rw [look_none] at hl
      obtain ⟨x, hx, he⟩ := List.mem_map.1 h
      exact absurd he (hl x hx)
  rw [if_pos hs]
  exact rep_keys l s
theorem slotsOf_key {clock : Int} {l : SMap} {s : Slot} (h : s ∈ slotsOf clock l) : s.key ∈ l.keys := by
  obtain ⟨n, hn⟩ := actives_mem (slotsOf_mem.1 h)
  exact List.mem_map.2 ⟨_, hn, rfl⟩
theorem mvTo_keys (clock kind : Int) (l : SMap) (c : Nat) : ∀ k, k ≤ (slotsOf clock l).length → (mvTo clock kind l c k).1.keys = l.keys := by
  intro k
  induction k with
  | zero => intro _; rfl
  | succ k ih =>
    intro hk
    have hk' : k < (slotsOf clock l).length := hk
    rw [mvTo_succ clock kind l c k hk']
    unfold mvStep
    have h1 := ih (by omega)
    have hm : (movedS clock (slotsOf clock l)[k] kind).key ∈ (mvTo clock kind l c k).1.keys := by
      rw [h1]
      show (slotsOf clock l)[k].key ∈ l.keys
      exact slotsOf_key (List.getElem_mem hk')
    rw [put_keys hm, h1]
theorem mvTo_len (clock kind : Int) (l : SMap) (c : Nat) : (mvTo clock kind l c (slotsOf clock l).length).1.length = l.length := by
  have h := congrArg List.length (mvTo_keys clock kind l c _ (Nat.le_refl _))
  unfold SMap.keys at h
  rw [List.length_map, List.length_map] at h
  exact h
theorem cgL_lenS (most clock : Int) (l : SMap) (c : Nat) (k p : ByteArray) (e b rk n : Int) : (cgL most clock l c k p e b rk n).length ≤ l.length + 1 := by
  unfold cgL
  split
  · omega
  split
  · omega
  unfold chargeL
  have h := (chRoom_sub (most := most) (clock := clock) (l := l) (k := k) (e := e) (b := b)).2
  split
  · omega
  unfold chL
  split
  · have := put_lenS (chRoom most clock l k e b) (chgS clock (slotHit l k e b clock) k p e b rk n) c
    omega
  · omega
theorem rChgL_len (most clock : Int) (xs : List Slot) (k p : ByteArray) (e b rk n : Int) : (rChgL most clock xs k p e b rk n).length ≤ xs.length + 1 := by
  have h := rLeft_len xs k e b
  unfold rChgL
  split
  · omega
  split
  · have := rWith_len (rLeft xs k e b) (chgS clock (rHit xs k e b) k p e b rk n)
    omega
  · omega
theorem rSlots_len (clock : Int) (all : List Slot) : (rSlots clock all).length ≤ all.length := List.length_filter_le _ _

/-- what a move does to the map, and its error -/
def MoveRes (clock kind : Int) (l : SMap) (k : ByteArray) (c : Nat) (E : Int) (l' : SMap) (c' : Nat) : Prop :=
  (rightKind kind = false ∧ E = 27 ∧ l' = l ∧ c' = c) ∨ (rightKind kind = true ∧ ((∃ s ∈ actives clock l, s.key = k ∧ E = 0 ∧ l' = l.put (movedS clock s kind) c ∧ c' = l.putC (movedS clock s kind) c) ∨ ((∀ s ∈ actives clock l, s.key ≠ k) ∧ E = 52 ∧ l' = l ∧ c' = c)))
theorem table_MoveX (t mb c : Nat) (most clock kind : Int) (k : ByteArray) (l : SMap) (w : World) (ht : TabAt w t mb most clock l c) (hok : TabOk l c) (hn0 : 0 ≤ clock) (hn1 : clock < 18446744073709551616) :
    Calls Tryz.prog 42 #[.pointer (some ⟨t, 0, none⟩), .string k, .int .u8 kind] w fun x w' =>
      ∃ E l' c', x = .returned (.int .u16 E) ∧ TabAt w' t mb most clock l' c' ∧ MoveRes clock kind l k c E l' c' ∧ ExtB mb w w' := by
  cases hq : rightKind kind
  · refine (table_MoveN t kind k w hq).mono ?_
    rintro x w' ⟨rfl, hx⟩
    exact ⟨27, l, c, rfl, ht.ext hx, Or.inl ⟨hq, rfl, rfl, rfl⟩, hx.toB mb⟩
  · refine (table_MoveY t mb c most clock kind k l w ht hok hn0 hn1 hq).mono ?_
    rintro x w' ⟨⟨s, hs, hk, rfl, h⟩ | ⟨hno, rfl, h⟩, hx⟩
    · exact ⟨0, _, _, rfl, h, Or.inr ⟨hq, Or.inl ⟨s, hs, hk, rfl, rfl, rfl⟩⟩, hx⟩
    · exact ⟨52, _, _, rfl, h, Or.inr ⟨hq, Or.inr ⟨hno, rfl, rfl, rfl⟩⟩, hx⟩
theorem ref14_MoveX {B : Nat} {c n : Nat} {most clock kind : Int} {k : ByteArray} {l l' : SMap} {c' : Nat} {v : Value} {all : List Slot} {E : Int} (w : World) (hrow : SlotRow B w v all) (hrel : Rel clock l all) (hok : TabOk l c) (hlen : all.length ≤ n) (hlenl : l.length ≤ n) (hn : n ≤ 1000) (hB : B ≤ w.heap.size) (hn0 : 0 ≤ clock) (hn1 : clock < 18446744073709551616) (hm : MoveRes clock kind l k c E l' c') :
    TabOk l' c' ∧ l'.length ≤ n ∧ Calls Tryz.prog 44 #[.agg #[.int .i64 most, .int .u64 clock, v], .string k, .int .u8 kind] w fun x w' =>
      ∃ v' all', x = .returned (.tuple #[.agg #[.int .i64 most, .int .u64 clock, v'], .int .i64 E]) ∧ SlotRow B w' v' all' ∧ Rel clock l' all' ∧ all'.length ≤ n + 1 ∧ Ext w w' := by
  rcases hm with ⟨hq, rfl, rfl, rfl⟩ | ⟨hq, ⟨s, hs, hk, rfl, rfl, rfl⟩ | ⟨hno, rfl, rfl, rfl⟩⟩
  · refine ⟨hok, hlenl, ?_⟩
    obtain ⟨a, cp, rfl⟩ := hrow.size
    refine (ref14_MoveN most clock kind a all.length cp k w hq).mono ?_
    rintro x w' ⟨rfl, hx⟩
    exact ⟨_, all, rfl, hrow.ext hx, hrel, by omega, hx⟩
  · obtain ⟨hm, hr⟩ := hrel.move hok hn0 hn1 hq hs (c := c)
    have hso := hrel.ok s (rSlots_iff.1 hm).1
    refine ⟨hok.put (movedS_ok hso hq hn0 hn1), ?_, ?_⟩
    · have h := congrArg List.length (put_keys (l := l) (s := movedS clock s kind) (c := c) (by
        obtain ⟨n, hn⟩ := actives_mem hs
        exact List.mem_map.2 ⟨_, hn, rfl⟩))
      unfold SMap.keys at h
      rw [List.length_map, List.length_map] at h
      omega
    · obtain ⟨i, hi, hie⟩ := List.mem_iff_getElem.1 hm
      have hup : Rises (rSlots clock all) := hrel.up.filter _
      have hik : ∀ j (hj : j < i), ((rSlots clock all)[j]'(by omega)).key ≠ k := by
        intro j hj he
        have h1 := (List.pairwise_iff_getElem.1 hup) j i (by omega) hi hj
        rw [he, hie, hk] at h1
        exact List.lt_irrefl _ h1
      refine (ref14_MoveY most clock kind v all k (rSlots clock all) rfl i hi w hrow.slots (fun s hs => hrel.ok s hs) hn0 hn1 (by omega) hq hik (by rw [hie]; exact hk)).mono ?_
      rintro x w' ⟨v', rfl, h1, hx⟩
      rw [hie] at h1
      have h2 := rWith_len (rSlots clock all) (movedS clock s kind)
      have h3 := rSlots_len clock all
      exact ⟨v', _, rfl, h1.low hB, hr, by omega, hx⟩
  · refine ⟨hok, hlenl, ?_⟩
    have hno' : ∀ x ∈ rSlots clock all, x.key ≠ k := by
      intro x hx
      rw [← hrel.slots hok hn0 hn1] at hx
      exact hno x (slotsOf_mem.1 hx)
    refine (ref14_MoveA most clock kind v all k w hrow.slots (fun s hs => hrel.ok s hs) hn0 hn1 (by omega) hq hno').mono ?_
    rintro x w' ⟨rfl, hx⟩
    exact ⟨_, all, rfl, hrow.ext hx, hrel, by omega, hx⟩

/-- what MoveAll does to the map, how many, and its error -/
def AllRes (clock kind : Int) (l : SMap) (c : Nat) (N E : Int) (l' : SMap) (c' : Nat) : Prop :=
  (rightKind kind = false ∧ N = 0 ∧ E = 27 ∧ l' = l ∧ c' = c) ∨ (rightKind kind = true ∧ N = (slotsOf clock l).length ∧ E = 0 ∧ l' = (mvTo clock kind l c (slotsOf clock l).length).1 ∧ c' = (mvTo clock kind l c (slotsOf clock l).length).2)
theorem table_MoveAllX (t mb c : Nat) (most clock kind : Int) (l : SMap) (w : World) (ht : TabAt w t mb most clock l c) (hok : TabOk l c) (hn0 : 0 ≤ clock) (hn1 : clock < 18446744073709551616) (hlen : l.length ≤ 1000) :
    Calls Tryz.prog 45 #[.pointer (some ⟨t, 0, none⟩), .int .u8 kind] w fun x w' =>
      ∃ N E l' c', x = .returned (.tuple #[.int .i64 N, .int .u16 E]) ∧ TabAt w' t mb most clock l' c' ∧ TabOk l' c' ∧ AllRes clock kind l c N E l' c' ∧ ExtB mb w w' := by
  cases hq : rightKind kind
  · refine (table_MoveAllN t kind w hq).mono ?_
    rintro x w' ⟨rfl, hx⟩
    exact ⟨0, 27, l, c, rfl, ht.ext hx, hok, Or.inl ⟨hq, rfl, rfl, rfl, rfl⟩, hx.toB mb⟩
  · refine (table_MoveAllY t mb c most clock kind l w ht hok hn0 hn1 (by omega) hq).mono ?_
    rintro x w' ⟨rfl, h, h2, hx⟩
    exact ⟨_, 0, _, _, rfl, h, h2, Or.inr ⟨hq, rfl, rfl, rfl, rfl⟩, hx⟩
theorem ref14_MoveAllX {B : Nat} {c n : Nat} {most clock kind : Int} {l l' : SMap} {c' : Nat} {v : Value} {all : List Slot} {N E : Int} (w : World) (hrow : SlotRow B w v all) (hrel : Rel clock l all) (hok : TabOk l c) (hlen : all.length ≤ n) (hlenl : l.length ≤ n) (hn : n ≤ 1000) (hB : B ≤ w.heap.size) (hn0 : 0 ≤ clock) (hn1 : clock < 18446744073709551616) (hm : AllRes clock kind l c N E l' c') :
    l'.length ≤ n ∧ Calls Tryz.prog 46 #[.agg #[.int .i64 most, .int .u64 clock, v], .int .u8 kind] w fun x w' =>
      ∃ v' all', x = .returned (.tuple #[.agg #[.int .i64 most, .int .u64 clock, v'], .int .i64 N, .int .i64 E]) ∧ SlotRow B w' v' all' ∧ Rel clock l' all' ∧ all'.length ≤ n + 1 ∧ Ext w w' := by
  rcases hm with ⟨hq, rfl, rfl, rfl, rfl⟩ | ⟨hq, rfl, rfl, rfl, rfl⟩
  · refine ⟨hlenl, ?_⟩
    obtain ⟨a, cp, rfl⟩ := hrow.size
    refine (ref14_MoveAllN most clock kind a all.length cp w hq).mono ?_
    rintro x w' ⟨rfl, hx⟩
    exact ⟨_, all, rfl, hrow.ext hx, hrel, by omega, hx⟩
  · refine ⟨by rw [mvTo_len]; exact hlenl, ?_⟩
    have hr := hrel.moveAll (kind := kind) hok hn0 hn1 hq
    rw [hrel.slots hok hn0 hn1] at hr ⊢
    refine (ref14_MoveAllY most clock kind v all w hrow.slots (fun s hs => hrel.ok s hs) hn0 hn1 (by omega) hq).mono ?_
    rintro x w' ⟨v', rfl, h1, hx⟩
    have h3 := rSlots_len clock all
    exact ⟨v', _, rfl, h1.low hB, hr, by simp; omega, hx⟩
theorem ruleErr_u (p : ByteArray) (e b k : Int) : 0 ≤ ruleErr p e b k ∧ ruleErr p e b k < 65536 := by
  unfold ruleErr
  repeat' split
  all_goals omega
theorem ref14_ChargeX {B : Nat} {c n : Nat} {most clock : Int} {l : SMap} {v : Value} {all : List Slot} (w : World) (hrow : SlotRow B w v all) (hrel : Rel clock l all) (hok : TabOk l c) (hlen : all.length ≤ n) (hn : n ≤ 1000) (hB : B ≤ w.heap.size) (hn0 : 0 ≤ clock) (hn1 : clock < 18446744073709551616)
    (k p : ByteArray) (e b rk N : Int) (hk : k.size ≤ maxLen) (hp : p.size ≤ maxLen) (he0 : 0 ≤ e) (he1 : e < 18446744073709551616) (hb0 : 0 ≤ b) (hb1 : b < 18446744073709551616) (hr0 : 0 ≤ rk) (hr1 : rk < 256) (hw0 : 0 ≤ N) (hw1 : N < 18446744073709551616)
    (hok' : TabOk (cgL most clock l c k p e b rk N) (cgC most clock l c k p e b rk N)) :
    Calls Tryz.prog 48 #[.agg #[.int .i64 most, .int .u64 clock, v], .string k, .agg #[.string p, .int .u64 e, .int .u64 b, .int .u8 rk], .int .u64 N] w fun x w' =>
      ∃ v' all', x = .returned (.tuple #[.agg #[.int .i64 most, .int .u64 clock, v'], cgV most clock l k p e b rk N]) ∧ SlotRow B w' v' all' ∧ Rel clock (cgL most clock l c k p e b rk N) all' ∧ all'.length ≤ n + 1 ∧ Ext w w' := by
  unfold cgL cgC at hok'
  unfold cgV cgL
  by_cases h1 : keyOk k = false
  · rw [if_pos h1, if_pos h1]
    obtain ⟨a, cp, rfl⟩ := hrow.size
    refine (ref14_charge_key most clock a all.length cp k p e b rk N w hk (Lib.hid h1)).mono ?_
    rintro x w' ⟨rfl, hx⟩
    exact ⟨_, all, rfl, hrow.ext hx, hrel, by omega, hx⟩
  · rw [if_neg h1, if_neg h1] at hok'
    rw [if_neg h1, if_neg h1]
    have h1' : keyOk k = true := by simpa using h1
    by_cases h2 : ruleErr p e b rk = 0
    · have h2' : ¬ ruleErr p e b rk ≠ 0 := fun q => q h2
      rw [if_neg h2', if_neg h2'] at hok'
      rw [if_neg h2', if_neg h2']
      obtain ⟨hv, hr⟩ := hrel.charge (most := most) hok hn0 hn1 k p e b rk N hok'
      refine (ref14_charge_go most clock v all k p e b rk N w hrow.slots (fun s hs => hrel.ok s hs) hn0 hn1 (by omega) hk hp he0 he1 hb0 hb1 hr0 hr1 hw0 hw1 (Lib.hid h1') (Lib.hid h2)).mono ?_
      rintro x w' ⟨v', rfl, h3, hx⟩
      have h4 := rChgL_len most clock (rSlots clock all) k p e b rk N
      have h5 := rSlots_len clock all
      exact ⟨v', _, by rw [hv], h3.low hB, hr, by omega, hx⟩
    · rw [if_pos h2, if_pos h2]
      obtain ⟨a, cp, rfl⟩ := hrow.size
      have hu := ruleErr_u p e b rk
      refine (ref14_charge_rule most clock a all.length cp k p e b rk N _ w hk (Lib.hid h1') hp he0 he1 hb0 hb1 (Lib.hid rfl) h2 hu.1 hu.2).mono ?_
      rintro x w' ⟨rfl, hx⟩
      exact ⟨_, all, rfl, hrow.ext hx, hrel, by omega, hx⟩
end Go.Proofs.YtnlmbmbalmkiiaaGreat

/- Walks: tollerref14.Answers at answers that are alike. -/
namespace Go.Proofs.YtnlmbmbalmkiiaaGreat
open Go.RowKit
set_option linter.unusedVariables false
set_option linter.unusedSimpArgs false

set_option maxHeartbeats 1000000 in
set_option maxRecDepth 100000 in
theorem ref14_Answers_yes (code err limit left reset aft nan : Int) (ret : Bool) (w : World) :
    Calls Tryz.prog 49 #[.agg #[.int .u8 code, .int .u16 err, .int .u64 limit, .int .u64 left, .int .u64 reset, .int .u64 aft, .int .u64 nan, .bool ret, .int .i64 0, .slice none 0 0], .agg #[.int .u8 code, .int .u16 err, .int .u64 limit, .int .u64 left, .int .u64 reset, .int .u64 aft, .int .u64 nan, .bool ret, .int .i64 0, .slice none 0 0]] w fun x w' => x = .returned (.bool true) ∧ Ext w w' := by
  have hcv : ∀ W : World, (convert 34 9 (.slice none 0 0)).run Tryz.prog W = .ok (.string ⟨#[]⟩) W := fun W => by kernel_rfl
  go_enter Tryz.func49, Tryz.ntmps49
  go_wp2
  go_ret
  exact ⟨rfl, ((Ext.refl w).alloc _).alloc _⟩
end Go.Proofs.YtnlmbmbalmkiiaaGreat

/- Stores into blocks that a call of step has made. -/
namespace Go.Proofs.YtnlmbmbalmkiiaaGreat
open Go.RowKit
set_option linter.unusedVariables false
set_option linter.unusedSimpArgs false

theorem TabAt.set {w : World} {t m c b : Nat} {most clock : Int} {l : SMap} (h : TabAt w t m most clock l c) (n1 : t ≠ b) (n2 : m ≠ b) (o : Nat) (x : Value) : TabAt (w.setCell ⟨b, o, none⟩ x) t m most clock l c := ⟨h.blk.other n1 x, h.map.other n2 x⟩
theorem RowOf.setOther {α : Type} {enc : α → Array Value} {k : Nat} {E t' : TypeId} {base b : Nat} {w : World} {v : Value} {l : List α} {C : Array Value} (h : RowOf enc k E base w v l) (hb : Blk w b C t') (ne : E ≠ t') (o : Nat) (x : Value) : RowOf enc k E base (w.setCell ⟨b, o, none⟩ x) v l := by
  obtain ⟨⟨h0, h3⟩, hn⟩ := h
  refine ⟨⟨h0, ?_⟩, hn⟩
  rcases h3 with h3 | ⟨g, cap, cur, q1, q2, q3, q4⟩
  · exact Or.inl h3
  · have hne : g ≠ b := by
      intro e
      subst e
      have : (some (Obj.cells cur E (0, 0)) : Option Obj) = some (.cells C t') := q3.symm.trans hb
      simp at this
      exact ne this.2
    exact Or.inr ⟨g, cap, cur, q1, q2, Blk.other (t := E) q3 (a := ⟨b, o, none⟩) hne x, q4⟩
theorem RowOf.set3Other {α : Type} {enc : α → Array Value} {k : Nat} {E t' : TypeId} {base b : Nat} {w : World} {v : Value} {l : List α} {C : Array Value} (h : RowOf enc k E base w v l) (hb : Blk w b C t') (ne : E ≠ t') (v0 v1 v2 : Value) :
    RowOf enc k E base (((w.setCell ⟨b, 0, none⟩ v0).setCell ⟨b, 1, none⟩ v1).setCell ⟨b, 2, none⟩ v2) v l :=
  ((h.setOther hb ne 0 v0).setOther (hb.set 0 v0) ne 1 v1).setOther ((hb.set 0 v0).set 1 v1) ne 2 v2
theorem RowOf.set10Other {α : Type} {enc : α → Array Value} {k : Nat} {E t' : TypeId} {base b : Nat} {w : World} {v : Value} {l : List α} {C : Array Value} (h : RowOf enc k E base w v l) (hb : Blk w b C t') (ne : E ≠ t') (v0 v1 v2 v3 v4 v5 v6 v7 v8 v9 : Value) :
    RowOf enc k E base ((((((((((w.setCell ⟨b, 0, none⟩ v0).setCell ⟨b, 1, none⟩ v1).setCell ⟨b, 2, none⟩ v2).setCell ⟨b, 3, none⟩ v3).setCell ⟨b, 4, none⟩ v4).setCell ⟨b, 5, none⟩ v5).setCell ⟨b, 6, none⟩ v6).setCell ⟨b, 7, none⟩ v7).setCell ⟨b, 8, none⟩ v8).setCell ⟨b, 9, none⟩ v9) v l :=
  have b1 := hb.set 0 v0
  have b2 := b1.set 1 v1
  have b3 := b2.set 2 v2
  have b4 := b3.set 3 v3
  have b5 := b4.set 4 v4
  have b6 := b5.set 5 v5
  have b7 := b6.set 6 v6
  have b8 := b7.set 7 v7
  have b9 := b8.set 8 v8
  (((((((((h.setOther hb ne 0 v0).setOther b1 ne 1 v1).setOther b2 ne 2 v2).setOther b3 ne 3 v3).setOther b4 ne 4 v4).setOther b5 ne 5 v5).setOther b6 ne 6 v6).setOther b7 ne 7 v7).setOther b8 ne 8 v8).setOther b9 ne 9 v9
theorem RelAt.set {B : Nat} {w : World} {t m c b : Nat} {most clock : Int} {l : SMap} {v : Value} {all : List Slot} {n : Nat} {C : Array Value} {t' : TypeId} (h : RelAt B w t m c most clock l v all n) (hB : B ≤ b) (hb : Blk w b C t') (ne : 69 ≠ t') (o : Nat) (x : Value) : RelAt B (w.setCell ⟨b, o, none⟩ x) t m c most clock l v all n :=
  ⟨h.tab.set (by have := h.bt; omega) (by have := h.bm; omega) o x, h.ok, h.row.setOther hb ne o x, h.rel, h.lenA, h.lenL, h.bt, h.bm, h.n0, h.n1⟩
theorem RelAt.set3 {B : Nat} {w : World} {t m c b : Nat} {most clock : Int} {l : SMap} {v : Value} {all : List Slot} {n : Nat} {C : Array Value} {t' : TypeId} (h : RelAt B w t m c most clock l v all n) (hB : B ≤ b) (hb : Blk w b C t') (ne : 69 ≠ t') (v0 v1 v2 : Value) :
    RelAt B (((w.setCell ⟨b, 0, none⟩ v0).setCell ⟨b, 1, none⟩ v1).setCell ⟨b, 2, none⟩ v2) t m c most clock l v all n :=
  ((h.set hB hb ne 0 v0).set hB (hb.set 0 v0) ne 1 v1).set hB ((hb.set 0 v0).set 1 v1) ne 2 v2
theorem RelAt.set10 {B : Nat} {w : World} {t m c b : Nat} {most clock : Int} {l : SMap} {v : Value} {all : List Slot} {n : Nat} {C : Array Value} {t' : TypeId} (h : RelAt B w t m c most clock l v all n) (hB : B ≤ b) (hb : Blk w b C t') (ne : 69 ≠ t') (v0 v1 v2 v3 v4 v5 v6 v7 v8 v9 : Value) :
    RelAt B ((((((((((w.setCell ⟨b, 0, none⟩ v0).setCell ⟨b, 1, none⟩ v1).setCell ⟨b, 2, none⟩ v2).setCell ⟨b, 3, none⟩ v3).setCell ⟨b, 4, none⟩ v4).setCell ⟨b, 5, none⟩ v5).setCell ⟨b, 6, none⟩ v6).setCell ⟨b, 7, none⟩ v7).setCell ⟨b, 8, none⟩ v8).setCell ⟨b, 9, none⟩ v9) t m c most clock l v all n :=
  have b1 := hb.set 0 v0
  have b2 := b1.set 1 v1
  have b3 := b2.set 2 v2
  have b4 := b3.set 3 v3
  have b5 := b4.set 4 v4
  have b6 := b5.set 5 v5
  have b7 := b6.set 6 v6
  have b8 := b7.set 7 v7
  have b9 := b8.set 8 v8
  (((((((((h.set hB hb ne 0 v0).set hB b1 ne 1 v1).set hB b2 ne 2 v2).set hB b3 ne 3 v3).set hB b4 ne 4 v4).set hB b5 ne 5 v5).set hB b6 ne 6 v6).set hB b7 ne 7 v7).set hB b8 ne 8 v8).set hB b9 ne 9 v9
theorem RelAt.swap {B : Nat} {w w' : World} {t m c : Nat} {most clock : Int} {l : SMap} {v : Value} {all : List Slot} {n : Nat} (h : RelAt B w t m c most clock l v all n) (e : Ext2 t m w w') (ht : TabAt w' t m most clock l c) : RelAt B w' t m c most clock l v all n :=
  ⟨ht, h.ok, h.row.ext2 e h.bt h.bm, h.rel, h.lenA, h.lenL, h.bt, h.bm, h.n0, h.n1⟩
theorem ref14_TickX {B : Nat} {v : Value} {all : List Slot} (most clock now : Int) (w : World) (hr : SlotRow B w v all) (hn0 : 0 ≤ clock) (hn1 : clock < 18446744073709551616) (hx0 : 0 ≤ now) (hx1 : now < 18446744073709551616) :
    Calls Tryz.prog 40 #[.agg #[.int .i64 most, .int .u64 clock, v], .int .u64 now] w fun x w' => x = .returned (.agg #[.int .i64 most, .int .u64 (max clock now), v]) ∧ Ext w w' := by
  obtain ⟨a, c, rfl⟩ := hr.size
  exact ref14_Tick most clock now a all.length c w hn0 hn1 hx0 hx1
theorem Ext2.set {t m : Nat} {x y : World} (h : Ext2 t m x y) {b : Nat} (hb : x.heap.size ≤ b) (o : Nat) (v : Value) : Ext2 t m x (y.setCell ⟨b, o, none⟩ v) :=
  ⟨h.os, h.tape, h.output, by simpa [World.setCell] using h.size, fun k hk h1 h2 => (Below.heap_setCell _ _ _ _ (show k ≠ b by omega)).trans (h.block k hk h1 h2)⟩
theorem Ext2.set3 {t m : Nat} {x y : World} (h : Ext2 t m x y) {b : Nat} (hb : x.heap.size ≤ b) (v0 v1 v2 : Value) : Ext2 t m x (((y.setCell ⟨b, 0, none⟩ v0).setCell ⟨b, 1, none⟩ v1).setCell ⟨b, 2, none⟩ v2) := ((h.set hb _ _).set hb _ _).set hb _ _
theorem Ext2.set10 {t m : Nat} {x y : World} (h : Ext2 t m x y) {b : Nat} (hb : x.heap.size ≤ b) (v0 v1 v2 v3 v4 v5 v6 v7 v8 v9 : Value) :
    Ext2 t m x ((((((((((y.setCell ⟨b, 0, none⟩ v0).setCell ⟨b, 1, none⟩ v1).setCell ⟨b, 2, none⟩ v2).setCell ⟨b, 3, none⟩ v3).setCell ⟨b, 4, none⟩ v4).setCell ⟨b, 5, none⟩ v5).setCell ⟨b, 6, none⟩ v6).setCell ⟨b, 7, none⟩ v7).setCell ⟨b, 8, none⟩ v8).setCell ⟨b, 9, none⟩ v9) :=
  (((((((((h.set hb _ _).set hb _ _).set hb _ _).set hb _ _).set hb _ _).set hb _ _).set hb _ _).set hb _ _).set hb _ _).set hb _ _
theorem Ext2.then {t m : Nat} {x y z : World} (h : Ext2 t m x y) (k : Ext y z) : Ext2 t m x z := h.trans (k.to2 t m)
end Go.Proofs.YtnlmbmbalmkiiaaGreat

/- Walks: tollerref14.Entry of equal entries. -/
namespace Go.Proofs.YtnlmbmbalmkiiaaGreat
open Go.RowKit
set_option linter.unusedVariables false
set_option linter.unusedSimpArgs false

set_option maxHeartbeats 1000000 in
set_option maxRecDepth 100000 in
theorem ref14_Entry_yes (b1 b2 : Nat) (v1 v2 : Value) (l : List Ent) (w : World) (h1 : EntSlice b1 w v1 l) (h2 : EntSlice b2 w v2 l) :
    Calls Tryz.prog 19 #[v1, v2] w fun x w' => x = .returned (.bool true) ∧ Ext w w' := by
  obtain ⟨a1, c1, rfl⟩ := h1.size
  obtain ⟨a2, c2, rfl⟩ := h2.size
  have hlen := h1.len
  unfold maxLen at hlen
  have H1 := Lib.hid h1
  have H2 := Lib.hid h2
  clear h1 h2
  have hll : ((l.length : Int) == (l.length : Int)) = true := by simp
  go_enter Tryz.func19, Tryz.ntmps19
  go_wp2
  go_loopw [5] (fun i wr => ∃ k : Nat, k ≤ l.length ∧ i = .int .i64 k ∧ Ext w wr) (fun i _ => l.length - (intOf i).toNat)
  case atStart => exact ⟨0, by omega, rfl, Ext.refl _⟩
  case round =>
    obtain ⟨k, hk, rfl, hx⟩ := hrel
    by_cases hlt : k < l.length
    · obtain ⟨g1, cc1, e1, -, -, q1⟩ := (H1.out.ext hx).cells ent_size k hlt
      obtain ⟨g2, cc2, e2, -, -, q2⟩ := (H2.out.ext hx).cells ent_size k hlt
      cases e1
      cases e2
      have a10 : wr.cell? ⟨g1, k * 2, none⟩ = some (.string l[k].key) := q1 0 (by omega)
      have a11 : wr.cell? ⟨g1, k * 2 + 1, none⟩ = some (.int .u64 l[k].till) := q1 1 (by omega)
      have a20 : wr.cell? ⟨g2, k * 2, none⟩ = some (.string l[k].key) := q2 0 (by omega)
      have a21 : wr.cell? ⟨g2, k * 2 + 1, none⟩ = some (.int .u64 l[k].till) := q2 1 (by omega)
      generalize l[k] = e at *
      obtain ⟨ek, et⟩ := e
      clear q1 q2
      simp only at a10 a11 a20 a21
      go_upto_region 6 with fail
      go_quiet (fail)
      go_wp2
      go_roundw
      case rel => exact ⟨k + 1, by omega, by go_num, hx.trans (Ext.drewNs _ _)⟩
      case measure => simp [intOf]; omega
    · go_wp2
      go_ret
      exact ⟨rfl, hx⟩
end Go.Proofs.YtnlmbmbalmkiiaaGreat

/- What tollerlaw14.does asks of each deed: helps. -/
namespace Go.Proofs.YtnlmbmbalmkiiaaGreat
open Go.RowKit
set_option linter.unusedVariables false
set_option linter.unusedSimpArgs false

theorem ExtB.same {b : Nat} {w w' : World} (h : ExtB b w w') (e : w'.heap[b]? = w.heap[b]?) : Ext w w' :=
  ⟨h.os, h.tape, h.output, h.size, fun k hk => by
    by_cases hb : k = b
    · subst hb; exact e
    · exact h.block k hk hb⟩
theorem Ext2.keep {t m : Nat} {w w' : World} (h : Ext2 t m w w') {a : Addr} {v : Value} (c : w.cell? a = some v) (n1 : a.block ≠ t) (n2 : a.block ≠ m) : w'.cell? a = some v := by
  have hlt : a.block < w.heap.size := by
    unfold World.cell? at c
    rcases Nat.lt_or_ge a.block w.heap.size with h | h
    · exact h
    · rw [Array.getElem?_eq_none h] at c; cases c
  unfold World.cell? at c ⊢
  rw [h.block _ hlt n1 n2]
  exact c
theorem Ext2.alloc {t m : Nat} {x y : World} (h : Ext2 t m x y) (o : Obj) : Ext2 t m x (y.alloc o) := h.then ((Ext.refl y).alloc o)
theorem Ext2.drew {t m : Nat} {x y : World} (h : Ext2 t m x y) : Ext2 t m x y.drew := h.then ((Ext.refl y).drew)
theorem wp_genD {P : Program} {c : Code} {Q : Exit → Act → World → Prop} {a : Act} {W : World} (h : ∀ W', W' = W → c.wp P Q a W') : c.wp P Q a W := h W rfl
theorem table_ClockX (t mb c : Nat) (most clock : Int) (l : SMap) (w : World) (h : TabAt w t mb most clock l c) (hn0 : 0 ≤ clock) (hn1 : clock < 18446744073709551616) :
    Calls Tryz.prog 14 #[.pointer (some ⟨t, 0, none⟩)] w fun x w' => x = .returned (.int .u64 clock) ∧ Ext w w' :=
  (table_Clock t mb c most clock l w h hn0 hn1).mono fun x w' ⟨hx, ht, he⟩ => ⟨hx, he.same ((show w'.heap[t]? = _ from ht.blk).trans (show w.heap[t]? = _ from h.blk).symm)⟩
theorem SlotSlice.at {base : Nat} {w : World} {v : Value} {l : List Slot} (h : SlotSlice base w v l) : SlotsAt w v l := by
  obtain ⟨a, c, hv, hl⟩ := h.form
  refine ⟨a, c, hv, fun hne => ?_⟩
  obtain ⟨b, ha, -, hc, -⟩ := hl hne
  exact ⟨b, 0, ha, fun j hj i hi => by rw [Nat.zero_add]; exact hc j hj i hi⟩

/-- what a step does (proved in four texts) -/
def StepLaw : Prop := ∀ (B t m c n : Nat) (most clock : Int) (l : SMap) (v : Value) (all : List Slot) (d : Deed) (w0 w : World) (h : RelAt B w t m c most clock l v all n) (hB : B ≤ w.heap.size) (hn : n < 1000) (hx : Ext w0 w) (h1 : w0.heap.size ≤ t) (h2 : w0.heap.size ≤ m) (hd : DeedOk w0 d),
    Calls Tryz.prog 13 #[.pointer (some ⟨t, 0, none⟩), .agg #[.int .i64 most, .int .u64 clock, v], .agg #[.int .u8 d.kind, .int .u32 d.wait, .int .u8 d.big, d.keyv, .int .u8 d.rule, .int .u16 d.n, .int .u8 d.to]] w fun x w' =>
      ∃ clock' l' c' v' all', x = .returned (.tuple #[.agg #[.int .i64 most, .int .u64 clock', v'], .bool true]) ∧ RelAt B w' t m c' most clock' l' v' all' (n + 1) ∧ Ext2 t m w w'
end Go.Proofs.YtnlmbmbalmkiiaaGreat
