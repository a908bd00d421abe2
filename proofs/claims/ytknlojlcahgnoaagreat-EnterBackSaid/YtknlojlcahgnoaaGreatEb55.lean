/- Walks: enter.still: the entries that are active at a time. -/
import Derived.Test.YtknlojlcahgnoaaGreatEb53
import Derived.Test.YtknlojlcahgnoaaGreatEb28

namespace Go.Proofs.YtknlojlcahgnoaaGreat
open Go.RowKit
attribute [local go_sem] Oper.semAt_some
set_option linter.unusedVariables false
set_option linter.unusedSimpArgs false

def encE (x : Ent) : Array Value := #[.agg #[.string x.key, .int .u64 x.till]]
def actE (now : Int) (x : Ent) : Bool := decide (now < x.till)
/-- the entries of a slice lie in blocks that stay -/
theorem ElemsAt.kept {n₀ g : Nat} {X Y : World} {es : List Ent} {v : Value} (h : EntsAt X v es) (k : KeptBut n₀ g X Y) (hb : es ≠ [] → ∀ b o n c, v = .slice (some ⟨b, o, none⟩) n c → b < n₀ ∧ b ≠ g) : EntsAt Y v es := by
  obtain ⟨a, c, rfl, hl⟩ := h
  refine ⟨a, c, rfl, fun hne => ?_⟩
  obtain ⟨b, o, rfl, hc⟩ := hl hne
  obtain ⟨h1, h2⟩ := hb hne b o _ _ rfl
  refine ⟨b, o, rfl, fun j hj i hi => ?_⟩
  have := hc j hj i hi
  rw [Array.getElem?_eq_getElem (by rw [Ent.size2]; exact hi)] at this ⊢
  exact k.cell h1 h2 this

theorem KeptBut.alloc {n₀ g : Nat} {X Y : World} (h : KeptBut n₀ g X Y) (hn : n₀ ≤ X.heap.size) (o : Obj) : KeptBut n₀ g X (Y.alloc o) := fun b h1 h2 => by
  have e := h b h1 h2
  have hx : b < Y.heap.size := by
    rw [Array.getElem?_eq_getElem (show b < X.heap.size by omega)] at e
    exact (Array.getElem?_eq_some_iff.1 e).1
  exact (Ext.block ((Ext.refl Y).alloc o) hx).trans e
set_option maxHeartbeats 1000000 in
set_option maxRecDepth 100000 in
theorem still_1 (n L bL bN n₀ g : Nat) (now : Int) (a : Option Addr) (c : Nat) (es : List Ent) (J : List Ent → World → Prop) (W : World)
    (hY : ∀ pre x W1, J pre W1 → (∃ rest, es.filter (actE now) = pre ++ x :: rest) → YieldAt Fence.wide (n - 1) Tryz.prog L (encE x) W1 fun e W' => e = .returned (.bool true) ∧ J (pre ++ [x]) W' ∧ KeptBut n₀ g W1 W')
    (hJ : AbidesR (fun _ => False) W.heap.size J) (hv : EntsAt W (.slice a es.length c) es) (ho : ∀ e ∈ es, EntOk e) (hb : es ≠ [] → ∀ b o n c', (Value.slice a es.length c) = .slice (some ⟨b, o, none⟩) n c' → b < n₀ ∧ b ≠ g)
    (c1 : W.cell? ⟨bL, 0, none⟩ = some (.slice a es.length c)) (c2 : W.cell? ⟨bN, 0, none⟩ = some (.int .u64 now)) (hn0 : 0 ≤ now) (hn1 : now < 18446744073709551616) (hlen : es.length ≤ 1000000)
    (l1 : bL < n₀) (l2 : bN < n₀) (g1 : bL ≠ g) (g2 : bN ≠ g) (l3 : n₀ ≤ W.heap.size) (h0 : J [] W) :
    CallsIn Fence.wide n Tryz.prog 124 #[.func (.yield L) #[] #[], .pointer (some ⟨bL, 0, none⟩), .pointer (some ⟨bN, 0, none⟩)] W fun e W' => (∃ v, e = .returned v) ∧ J (es.filter (actE now)) W' := by
  refine callsIn_of_wp Tryz.func124 rfl trivial ?_ rfl
  simp only [Tryz.ntmps124, List.size_toArray, List.length_cons, List.length_nil, Nat.reduceAdd, Nat.reduceSub, Array.replicate_succ, Array.replicate_zero, List.push_toArray, List.append_toArray, List.nil_append, List.cons_append]
  have HYY := Lib.hid hY
  have HJ := Lib.hid hJ
  have HV := Lib.hid hv
  have HO := Lib.hid ho
  have HB := Lib.hid hb
  have HC1 := Lib.hid c1
  have HC2 := Lib.hid c2
  clear hY hJ hv ho hb
  gi_wp2
  gi_loopw [8] (fun i wr => ∃ (k : Nat), k ≤ es.length ∧ i = .int .i64 k ∧ Hid (J ((es.take k).filter (actE now)) wr) ∧ Hid (KeptBut n₀ g W wr)) (fun i _ => es.length - (intOf i).toNat)
  case atStart => exact ⟨0, by omega, rfl, h0, KeptBut.refl _ _ _⟩
  case round =>
    obtain ⟨k, hk, rfl, HJK, HKB⟩ := hrel
    by_cases hlt : k < es.length
    · obtain ⟨b, o, rfl, hbl, hc⟩ := (HV.out.kept HKB.out HB.out).cells Ent.size2 (by decide) k hlt
      have e0 : wr.cell? ⟨b, o + k * 2, none⟩ = some (.string es[k].key) := hc 0 (by decide)
      have e1 : wr.cell? ⟨b, o + k * 2 + 1, none⟩ = some (.int .u64 es[k].till) := hc 1 (by decide)
      have d2 : wr.cell? ⟨bN, 0, none⟩ = some (.int .u64 now) := HKB.out.cell l2 g2 HC2.out
      have hok := HO.out es[k] (List.getElem_mem hlt)
      have hft : (es.take (k + 1)).filter (actE now) = (es.take k).filter (actE now) ++ (if actE now es[k] = true then [es[k]] else []) := by
        rw [List.take_succ_eq_append_getElem hlt, List.filter_append]
        congr 1
        rw [List.filter_cons]
        split <;> simp
      have hrest : actE now es[k] = true → ∃ rest, es.filter (actE now) = (es.take k).filter (actE now) ++ es[k] :: rest := fun h => by
        refine ⟨(es.drop (k + 1)).filter (actE now), ?_⟩
        conv => lhs; rw [← List.take_append_drop k es, ← List.getElem_cons_drop hlt, List.filter_append]
        rw [List.filter_cons_of_pos h]
      obtain ⟨x, hxe⟩ : ∃ x, es[k] = x := ⟨_, rfl⟩
      rw [hxe] at e0 e1 hok hft hrest
      have HFT := Lib.hid hft
      have HRS := Lib.hid hrest
      clear hc hxe hft hrest
      obtain ⟨ky, till⟩ := x
      simp only at e0 e1 hok
      obtain ⟨o1, o2, o3⟩ := hok
      simp only at o1 o2 o3
      have hxa : Ext wr (wr.alloc (.cells #[.string ky, .int .u64 till] 80)) := (Ext.refl wr).alloc _
      have bE := Blk.new wr #[.string ky, .int .u64 till] 80
      have hJa : J ((es.take k).filter (actE now)) (wr.alloc (.cells #[.string ky, .int .u64 till] 80)) := HJ.out _ wr _ none HJK.out (kext_grown hxa) (fun r e => by cases e)
      have hKa : KeptBut n₀ g W (wr.alloc (.cells #[.string ky, .int .u64 till] 80)) := HKB.out.alloc l3 _
      have d2a := hxa.keep d2
      gi_upto_region 3 with fail
      generalize wr.alloc (.cells #[.string ky, .int .u64 till] 80) = wa at *
      have q0 : wa.cell? ⟨wr.heap.size, 0, none⟩ = some (.string ky) := bE.cell 0
      have q1 : wa.cell? ⟨wr.heap.size, 1, none⟩ = some (.int .u64 till) := bE.cell 1
      have HJA := Lib.hid hJa
      have HKA := Lib.hid hKa
      have hsa := hxa.sz
      clear hxa bE hJa hKa e0 e1 d2
      by_cases hact : now < till
      · have hz : decide (till > now) = true := decide_eq_true hact
        have ha : actE now ⟨ky, till⟩ = true := decide_eq_true hact
        obtain ⟨fn, tmps, assign, body, hy, hR⟩ := HYY.out _ ⟨ky, till⟩ wa HJA.out (HRS.out ha)
        simp only [encE] at hy
        have HFA : Hid ((es.take (k + 1)).filter (actE now) = (es.take k).filter (actE now) ++ [⟨ky, till⟩]) := by show _ = _; rw [HFT.out, if_pos ha]
        clear ha HRS HFT
        gi_wp2_with fail
        refine ⟨fun h => absurd h (by decide), ?_⟩
        refine hR.mono ?_
        rintro ee w4 ⟨rfl, hJ4, hk4⟩
        have HJ4 := Lib.hid hJ4
        have HK4 := Lib.hid hk4
        clear hJ4 hk4
        gi_wp2
        refine ⟨⟨k + 1, by omega, by go_num, by show J _ _; rw [HFA.out]; exact HJ4.out, HKA.out.trans HK4.out⟩, ?_⟩
        simp [intOf]
        omega
      · have hz : decide (till > now) = false := decide_eq_false hact
        have hz' : ¬ now < till := hact
        have ha : ¬ actE now ⟨ky, till⟩ = true := by simpa [actE] using hact
        have HFA : Hid ((es.take (k + 1)).filter (actE now) = (es.take k).filter (actE now)) := by show _ = _; rw [HFT.out, if_neg ha, List.append_nil]
        clear ha HRS HFT
        gi_wp2
        refine ⟨fun f hf => (by cases hf), ?_⟩
        gi_wp2
        refine ⟨⟨k + 1, by omega, by go_num, by show J _ _; rw [HFA.out]; exact HJA.out, HKA.out⟩, ?_⟩
        simp [intOf]
        omega
    · have hkk : k = es.length := by omega
      have HJE : Hid (J (es.filter (actE now)) wr) := by have := HJK.out; rwa [hkk, List.take_of_length_le (Nat.le_refl _)] at this
      clear hkk
      gi_wp2
      go_end0
      exact ⟨⟨_, rfl⟩, HJE.out⟩
end Go.Proofs.YtknlojlcahgnoaaGreat
