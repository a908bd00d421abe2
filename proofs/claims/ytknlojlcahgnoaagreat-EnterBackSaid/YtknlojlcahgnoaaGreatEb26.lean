/- Walks: key.Has, key.Common. A range over an iterator that writes variables of its own, and is not left early. A range over an iterator that is not left early; the loop's body makes rows of its own. -/
import Derived.Lib.Strings
import Derived.Lib.IndexBytes
import Derived.Test.YtknlojlcahgnoaaGreatEb21
import Derived.Test.YtknlojlcahgnoaaGreatEb17

namespace Go.Proofs.YtknlojlcahgnoaaGreat
open Go.RowKit
attribute [local go_sem] Oper.semAt_some
set_option linter.unusedVariables false
set_option linter.unusedSimpArgs false

theorem str_eq_iff (a b : ByteArray) : a = b ↔ a.data.toList = b.data.toList := by
  constructor
  · intro h; rw [h]
  · intro h; exact ByteArray.ext (Array.ext' h)
def hasB (a b : ByteArray) : Bool := decide (b.data.toList <+: a.data.toList)
theorem hasB_ext (a b : ByteArray) (h : b.size ≤ a.size) : ((a.extract 0 b.size).toList == b.toList) = hasB a b := by
  unfold hasB
  rw [ByteArray.toList_eq, ByteArray.toList_eq, Lib.extract_data, List.drop_zero, Nat.sub_zero, Bool.eq_iff_iff, beq_iff_eq, decide_eq_true_iff, List.prefix_iff_eq_take, data_len]
  exact eq_comm
theorem hasB_no (a b : ByteArray) (h : ¬ b.size ≤ a.size) : hasB a b = false := by
  unfold hasB
  rw [decide_eq_false_iff_not]
  intro q
  have := q.length_le
  rw [data_len, data_len] at this
  exact h this

set_option maxHeartbeats 1000000 in
set_option maxRecDepth 100000 in
theorem slite_HasPrefix (a b : ByteArray) (w : World) (ha : a.size ≤ maxLen) (hb : b.size ≤ maxLen) :
    Calls Tryz.prog 227 #[.string a, .string b] w fun e w' => e = .returned (.bool (hasB a b)) ∧ w = w' := by
  unfold maxLen at ha hb
  by_cases h : b.size ≤ a.size
  · have HE := Lib.hid (hasB_ext a b h)
    go_enter Tryz.func227, Tryz.ntmps227
    go_wp2
    go_ret
    exact ⟨ret_bool HE.out, rfl⟩
  · have HE := Lib.hid (hasB_no a b h)
    go_enter Tryz.func227, Tryz.ntmps227
    go_wp2
    go_ret
    exact ⟨ret_bool HE.out.symm, rfl⟩
set_option maxHeartbeats 1000000 in
set_option maxRecDepth 100000 in
theorem strings_HasPrefix (a b : ByteArray) (w : World) (ha : a.size ≤ maxLen) (hb : b.size ≤ maxLen) :
    Calls Tryz.prog 209 #[.string a, .string b] w fun e w' => e = .returned (.bool (hasB a b)) ∧ w = w' := by
  go_enter Tryz.func209, Tryz.ntmps209
  go_wp2_with fail
  refine (slite_HasPrefix a b _ ha hb).mono ?_
  rintro e w' ⟨rfl, rfl⟩
  go_wp2
  go_ret
  exact ⟨rfl, rfl⟩
set_option maxHeartbeats 1000000 in
set_option maxRecDepth 100000 in
theorem key_Has (a b : ByteArray) (w : World) (ha : a.size ≤ maxLen) (hb : b.size ≤ maxLen) :
    Calls Tryz.prog 171 #[.string a, .string b] w fun e w' => e = .returned (.bool (hasB a b)) ∧ w = w' := by
  go_enter Tryz.func171, Tryz.ntmps171
  go_wp2_with fail
  refine (strings_HasPrefix a b _ ha hb).mono ?_
  rintro e w' ⟨rfl, rfl⟩
  go_wp2
  go_ret
  exact ⟨rfl, rfl⟩

/-- of the blocks below n₀ all but g lie as they lay -/
def KeptBut (n₀ g : Nat) (X Y : World) : Prop := ∀ b, b < n₀ → b ≠ g → Y.heap[b]? = X.heap[b]?
theorem KeptBut.refl (n₀ g : Nat) (X : World) : KeptBut n₀ g X X := fun _ _ _ => rfl
theorem KeptBut.trans {n₀ g : Nat} {X Y Z : World} (h : KeptBut n₀ g X Y) (k : KeptBut n₀ g Y Z) : KeptBut n₀ g X Z := fun b h1 h2 => (k b h1 h2).trans (h b h1 h2)
theorem KeptBut.put {n₀ g : Nat} (W : World) {l : Nat} (o : Obj) (h : n₀ ≤ l) : KeptBut n₀ g W (W.putObj l o) := fun b h1 _ => World.putObj_heap_other (by omega)
theorem KeptBut.setCell {n₀ g : Nat} {X Y : World} (h : KeptBut n₀ g X Y) (o : Nat) (v : Value) : KeptBut n₀ g X (Y.setCell ⟨g, o, none⟩ v) := fun b h1 h2 => (Below.heap_setCell _ _ _ _ h2).trans (h b h1 h2)
theorem KeptBut.cell {n₀ g : Nat} {X Y : World} (h : KeptBut n₀ g X Y) {b o : Nat} (h1 : b < n₀) (h2 : b ≠ g) {v : Value} (c : X.cell? ⟨b, o, none⟩ = some v) : Y.cell? ⟨b, o, none⟩ = some v := by
  unfold World.cell? at c ⊢
  simp only [h b h1 h2]
  exact c
theorem Ext.kept {n₀ g : Nat} {X Y : World} (h : Ext X Y) (hn : n₀ ≤ X.heap.size) : KeptBut n₀ g X Y := fun b h1 _ => Ext.block h (Nat.lt_of_lt_of_le h1 hn)

set_option maxHeartbeats 1000000 in
set_option maxRecDepth 100000 in
theorem both_1k (n L b1 b2 n₀ g : Nat) (a b : ByteArray) (ha : a.size ≤ maxLen) (hb : b.size ≤ maxLen) (J Jx : List (UInt8 × UInt8) → World → Prop)
    (hY : ∀ pre x W, J pre W → pre.length < (zipB a b).length → YieldAt Fence.wide (n - 1) Tryz.prog L (encB x) W fun e W' =>
      (e = .returned (.bool true) ∧ J (pre ++ [x]) W' ∧ KeptBut n₀ g W W') ∨ (e = .returned (.bool false) ∧ Jx (pre ++ [x]) W'))
    (W : World) (hJ : AbidesFrom W.heap.size J) (hc1 : W.cell? ⟨b1, 0, none⟩ = some (.string a)) (hc2 : W.cell? ⟨b2, 0, none⟩ = some (.string b))
    (l1 : b1 < n₀) (l2 : b2 < n₀) (g1 : b1 ≠ g) (g2 : b2 ≠ g) (l4 : n₀ ≤ W.heap.size) (h0 : J [] W) :
    CallsIn Fence.wide n Tryz.prog 212 #[.func (.yield L) #[] #[], .pointer (some ⟨b1, 0, none⟩), .pointer (some ⟨b2, 0, none⟩)] W fun e W' => (∃ v, e = .returned v) ∧
      (J (zipB a b) W' ∨ (∃ pre : List (UInt8 × UInt8), (∃ rest, pre ++ rest = zipB a b) ∧ Jx pre W')) := by
  unfold maxLen at ha hb
  have hzl := zipB_len a b
  refine callsIn_of_wp Tryz.func212 rfl trivial ?_ rfl
  simp only [Tryz.ntmps212, List.size_toArray, List.length_cons, List.length_nil, Nat.reduceAdd, Nat.reduceSub, Array.replicate_succ, Array.replicate_zero, List.push_toArray, List.append_toArray, List.nil_append, List.cons_append]
  gi_wp2
  all_goals
    gi_loopw [10] (fun i wr => ∃ k : Nat, k ≤ (zipB a b).length ∧ i = .int .i64 k ∧ J ((zipB a b).take k) wr ∧ KeptBut n₀ g W wr) (fun i _ => (zipB a b).length - (intOf i).toNat)
    case atStart => exact ⟨0, by omega, rfl, h0, KeptBut.refl _ _ _⟩
    case round =>
      obtain ⟨k, hk, rfl, hJk, hbel⟩ := hrel
      have HJ := Lib.hid hJk
      have HB := Lib.hid hbel
      by_cases hlt : k < a.size ∧ k < b.size
      · obtain ⟨hl1, hl2⟩ := hlt
        have c1 : wr.cell? ⟨b1, 0, none⟩ = some (.string a) := hbel.cell l1 g1 hc1
        have c2 : wr.cell? ⟨b2, 0, none⟩ = some (.string b) := hbel.cell l2 g2 hc2
        have HT := Lib.hid (zipB_take a b k hl1 hl2)
        have hkz : k < (zipB a b).length := by omega
        have HY := Lib.hid (fun (w3 : World) (hx : Ext wr w3) => kyield_bool (hY ((zipB a b).take k) (a[k], b[k]) w3 (hJ _ wr w3 none hJk (kext_grown hx) (fun r e => by cases e)) (by rw [List.length_take]; omega)))
        obtain ⟨fn, tmps, assign, body, hy, hR⟩ := HY.out (wr.drew) ((Ext.refl _).drew)
        simp only [encB] at hy
        clear hbel
        gi_wp2_with fail
        gi_region_with (first
          | (refine ⟨fun h => absurd h (by decide), ?_⟩; refine hR.mono ?_; rintro x w4 ⟨bo, rfl, hbo⟩))
        all_goals
          rcases hbo.out with ⟨rfl, hJ4, hk4⟩ | ⟨rfl, hJx4⟩
          · have hbel4 : KeptBut n₀ g W w4 := HB.out.trans hk4
            rw [← HT.out] at hJ4
            have HB4 := Lib.hid hbel4
            clear hbel4 hk4
            gi_wp2
            go_roundw
            case rel => exact ⟨k + 1, by omega, by go_num, hJ4, HB4.out⟩
            case measure => simp [intOf]; omega
          · gi_wp2
            refine bodyPost_ret (results_none rfl _ _ _) rfl ?_
            exact ⟨⟨_, rfl⟩, .inr ⟨_, ⟨(zipB a b).drop (k + 1), by rw [← HT.out, List.take_append_drop]⟩, hJx4⟩⟩
      · have hkk : k = (zipB a b).length := by omega
        clear hbel
        gi_wp2
        go_end0
        exact ⟨⟨_, rfl⟩, .inl (by have := HJ.out; rw [hkk, List.take_length] at this; exact this)⟩

theorem both_stopsk (b1 b2 n₀ g n : Nat) (a b : ByteArray) (ha : a.size ≤ maxLen) (hb : b.size ≤ maxLen) (w : World) (hc1 : w.cell? ⟨b1, 0, none⟩ = some (.string a)) (hc2 : w.cell? ⟨b2, 0, none⟩ = some (.string b)) (l1 : b1 < n₀) (l2 : b2 < n₀) (g1 : b1 ≠ g) (g2 : b2 ≠ g) (l4 : n₀ ≤ w.heap.size) :
    SeqStopsK Fence.wide n Tryz.prog 212 #[.pointer (some ⟨b1, 0, none⟩), .pointer (some ⟨b2, 0, none⟩)] encB (KeptBut n₀ g) (fun xs => xs = zipB a b) (fun pre => ∃ rest, pre ++ rest = zipB a b) (zipB a b).length w :=
  fun L J Jx W hW hJ hJx hY h0 => by
    refine (both_1k n L b1 b2 n₀ g a b ha hb J Jx hY W hJ (Ext.keep hW hc1) (Ext.keep hW hc2) l1 l2 g1 g2 (Nat.le_trans l4 (Ext.sz hW)) h0).mono ?_
    rintro e W' ⟨hv, h | ⟨pre, hp, h⟩⟩
    · exact ⟨hv, .inl ⟨_, rfl, h⟩⟩
    · exact ⟨hv, .inr ⟨pre, hp, h⟩⟩

/-- all places that have come are alike; n counts them -/
def ComI (w : World) (g : Nat) (pre : List (UInt8 × UInt8)) (W : World) : Prop := (∀ p ∈ pre, p.1 = p.2) ∧ Blk W g #[.int .i64 (pre.length : Int)] 3 ∧ Ext w W
def ComX (w : World) (g : Nat) (cd : Code) (pre : List (UInt8 × UInt8)) (W : World) : Prop :=
  cd = .exit 0 ∧ ∃ pre0 x, pre = pre0 ++ [x] ∧ (∀ p ∈ pre0, p.1 = p.2) ∧ x.1 ≠ x.2 ∧ Blk W g #[.int .i64 (pre0.length : Int)] 3 ∧ Ext w W

set_option maxHeartbeats 1000000 in
set_option maxRecDepth 100000 in
theorem key_Common (a b : ByteArray) (w : World) (ha : a.size ≤ maxLen) (hb : b.size ≤ maxLen) :
    Calls Tryz.prog 168 #[.string a, .string b] w fun x w' => x = .returned (.int .i64 (comm a.data.toList b.data.toList)) ∧ Ext w w' := by
  refine (callsIn_wide (n := 9)).1 ?_
  have HA := Lib.hid ha
  have HB := Lib.hid hb
  have hzl := zipB_len a b
  unfold maxLen at ha hb
  refine callsIn_of_wp_marks Tryz.func168 rfl trivial ?_ rfl
  simp only [Tryz.ntmps168, List.size_toArray, List.length_cons, List.length_nil, Nat.reduceAdd, Nat.reduceSub, Array.replicate_succ, Array.replicate_zero, List.push_toArray, List.append_toArray, List.nil_append, List.cons_append]
  gi_wp2_with fail
  refine ⟨trivial, (callsIn_wide.2 (key_both a b _)).mono ?_⟩
  rintro x w1 ⟨rfl, rfl⟩
  have bR : Blk (((w.alloc (.cells #[.int .i64 0] 3)).alloc (.cells #[.string a] 9)).alloc (.cells #[.string b] 9)) w.heap.size #[.int .i64 0] 3 := ((Blk.new w _ _).alloc _).alloc _
  have bA : Blk (((w.alloc (.cells #[.int .i64 0] 3)).alloc (.cells #[.string a] 9)).alloc (.cells #[.string b] 9)) (w.heap.size + 1) #[.string a] 9 := (Blk.new' _ _ _ (by simp)).alloc _
  have bB : Blk (((w.alloc (.cells #[.int .i64 0] 3)).alloc (.cells #[.string a] 9)).alloc (.cells #[.string b] 9)) (w.heap.size + 1 + 1) #[.string b] 9 := Blk.new' _ _ _ (by simp)
  have hx1 : Ext w (((w.alloc (.cells #[.int .i64 0] 3)).alloc (.cells #[.string a] 9)).alloc (.cells #[.string b] 9)) := (((Ext.refl w).alloc _).alloc _).alloc _
  have hl := bB.lt
  gi_wp2_with fail
  generalize ((w.alloc (.cells #[.int .i64 0] 3)).alloc (.cells #[.string a] 9)).alloc (.cells #[.string b] 9) = w1 at *
  refine wpIn_rangeFunc_ownF rfl (by omega) (gf := 212) (lb := #[.pointer (some ⟨w.heap.size + 1, 0, none⟩), .pointer (some ⟨w.heap.size + 1 + 1, 0, none⟩)]) rfl trivial (enters_of Tryz.func212 (by kernel_rfl) rfl)
    (both_stopsk (w.heap.size + 1) (w.heap.size + 1 + 1) w1.heap.size w.heap.size (9 - 1) a b HA.out HB.out w1 (bA.cell 0) (bB.cell 0) (by omega) hl (by omega) (by omega) (Nat.le_refl _)) (fun h k => h.trans k) (fun W l o o' hl _ _ _ => KeptBut.put W o' hl) (Below.refl _ _) (fun _ => rfl)
    (ComI w w.heap.size) (ComX w w.heap.size)
    (fun pre X Y row h hg hr => ⟨h.1, kblk_from h.2.1 hg (fun r e => by have := (hr r e).1; omega), kext_from h.2.2 hg (fun r e => by have := (hr r e).1; omega)⟩)
    (fun cd pre X Y row h hg hr => by
      obtain ⟨h0, pre0, x, h1, h2, h3, h4, h5⟩ := h
      exact ⟨h0, pre0, x, h1, h2, h3, kblk_from h4 hg (fun r e => by have := (hr r e).1; omega), kext_from h5 hg (fun r e => by have := (hr r e).1; omega)⟩)
    ⟨fun x h => (by cases h), bR, hx1⟩
    (fun x => { tmps := #[.string a, .string b, undef, undef, .int .i64 0, .pointer (some ⟨w.heap.size, 0, none⟩), .int .u8 (x.1.toNat : Int), .int .u8 (x.2.toNat : Int), .string a, .string b, .func (.func 212) #[] #[.pointer (some ⟨w.heap.size + 1, 0, none⟩), .pointer (some ⟨w.heap.size + 1 + 1, 0, none⟩)], .int .u8 (x.1.toNat : Int), .int .u8 (x.2.toNat : Int), undef, undef, undef, undef, undef, undef], defers := [] }) ?assign ?body ?done ?stop
  case assign =>
    intro L x W K hK
    simp only [encB]
    gi_wp2
    exact hK
  case body =>
    rintro L pre ⟨x, y⟩ W ⟨hne, bR, hxw⟩ hlt
    have hcR := bR.cell
    have hfR := bR.free
    cases hxy : decide (x = y) with
    | true =>
      have he := of_decide_eq_true hxy
      have h4 : ((x.toNat : Int) == (y.toNat : Int)) = true := by rw [he]; simp
      have h5 : ((x.toNat : Int) != (y.toNat : Int)) = false := by rw [he]; simp
      gi_wp2
      refine ⟨KeepsOthers.setCell _ _ _, (KeptBut.refl _ _ _).setCell _ _, fun p hp => ?_, ?_, hxw.setCell (Nat.le_refl _) _⟩
      · rcases List.mem_append.1 hp with hp | hp
        · exact hne p hp
        · obtain rfl := List.mem_singleton.1 hp
          exact he
      · have := bR.set 0 (.int .i64 (pre.length + 1))
        simpa using this
    | false =>
      have he := of_decide_eq_false hxy
      have h4 : ((x.toNat : Int) == (y.toNat : Int)) = false := by
        rw [beq_eq_false_iff_ne]
        intro e
        exact he (UInt8.toNat_inj.1 (by omega))
      have h5 : ((x.toNat : Int) != (y.toNat : Int)) = true := by simp [bne, h4]
      gi_wp2
      exact ⟨KeepsOthers.refl _, rfl, pre, (x, y), rfl, hne, he, bR, hxw⟩
  case done =>
    rintro D ys W hD rfl ⟨hne, bR, hxw⟩ hK
    have hcR := bR.cell
    gi_wp2
    have hv := comm_of_same _ _ hne
    rw [data_len, data_len] at hv
    refine ⟨by simp, .inl ⟨_, _, rfl, run_takeDeferred hK, ?_⟩⟩
    have hg := grownBy_putObj' W D (.deferred none)
    have hx3 := kext_from hxw hg (fun r e => by cases e; omega)
    refine ⟨.int .i64 ((min a.size b.size : Nat) : Int), (by simp [results, Tryz.results168, go_sem]), ret_int ?_, hx3⟩
    rw [hv]
  case stop =>
    rintro D cd pre W hD ⟨rest, hsp⟩ ⟨rfl, pre0, x, rfl, h1, h2, bR, hxw⟩ hK
    have hcR := bR.cell
    gi_wp2
    have hv := (comm_of_split pre0 a.data.toList b.data.toList x rest (by
      show zipB a b = _
      rw [← hsp]
      simp) h1 h2).1
    refine ⟨by simp, .inl ⟨_, _, rfl, run_takeDeferred hK, ?_⟩⟩
    have hg := grownBy_putObj' W D (.deferred none)
    have hx3 := kext_from hxw hg (fun r e => by cases e; omega)
    refine ⟨.int .i64 (pre0.length : Int), (by simp [results, Tryz.results168, go_sem]), ret_int ?_, hx3⟩
    rw [hv]
end Go.Proofs.YtknlojlcahgnoaaGreat

namespace Go.Proofs.YtknlojlcahgnoaaGreat
open Go.RowKit
set_option linter.unusedVariables false
set_option linter.unusedSimpArgs false

section
variable {α : Type} {F : Fence} {n : Nat} {P : Program}

/-- J abides the turn of a block of R, and of a walk's object that lies from B on -/
def AbidesR (R : Nat → Prop) (B : Nat) (J : List α → World → Prop) : Prop :=
  ∀ s W W' row, J s W → W.grownBy W' row → (∀ r, row = some r → R r ∨ (B ≤ r ∧ ∃ o : Obj, W.heap[r]? = some o ∧ o.isWalk = true)) → J s W'

/-- an iterator that gives the elements xs, if no round says stop -/
def SeqR (F : Fence) (n : Nat) (P : Program) (g : Nat) (lb : Array Value) (encs : α → Array Value) (Kp : World → World → Prop) (R : Nat → Prop) (xs : List α) (w : World) : Prop :=
  ∀ (l : Nat) (J : List α → World → Prop) (W : World), Ext w W → AbidesR R W.heap.size J →
    (∀ pre x W1, J pre W1 → (∃ rest, xs = pre ++ x :: rest) → YieldAt F (n - 1) P l (encs x) W1 fun e W' => e = .returned (.bool true) ∧ J (pre ++ [x]) W' ∧ Kp W1 W') →
    J [] W → CallsIn F n P g (#[.func (.yield l) #[] #[]] ++ lb) W fun e W' => (∃ v, e = .returned v) ∧ J xs W'

/-- how a round is left: at its end alone -/
def roundR (B : Nat) (Kp : World → World → Prop) (I : List α → World → Prop) (xs : List α) (W : World) : Exit → Act → World → Prop
  | .normal, _, W' => KeepsFrom B W W' ∧ Kp W W' ∧ I xs W'
  | _, _, _ => False

theorem wpIn_range_R {g : Operand} {ps : Array Tmp} {assign body : Code} {Q : Exit → Act → World → Prop} {a : Act} {w : World}
    (hro : F.round = none) (h1 : 1 ≤ n) {gf : Nat} {lb : Array Value} (hg : a.eval g = .func (.func gf) #[] lb) (hFg : F.fn gf) (eg : ∀ args w, (callFunc gf args).run P w = .ok (.enter gf args) w)
    {encs : α → Array Value} {Kp : World → World → Prop} {R : Nat → Prop} {xs : List α} {w0 : World} (hseq : SeqR F (n - 1) P gf lb encs Kp R xs w0) (hw0 : Ext w0 w)
    (hR : ∀ r, R r → r < w.heap.size) (hKt : ∀ {A B C : World}, Kp A B → Kp B C → Kp A C) (hKb : ∀ (W : World) (l : Nat) (o : Obj), w.heap.size ≤ l → Kp W (W.putObj l o)) (hps : ∀ x, (encs x).size = ps.size)
    (I : List α → World → Prop) (hI : ∀ s W W' row, I s W → W.grownBy W' row → (∀ r, row = some r → R r ∨ w.heap.size ≤ r) → I s W') (h0 : I [] w) (a₁ : α → Act)
    (hassign : ∀ (l : Nat) (x : α) (W : World) (K : Act → World → Prop), K (a₁ x) W →
      assign.wpIn (F.inRound l) (n - 1 - 1) P (Exit.then K (fun _ _ _ => False)) { tmps := (ps.zip (encs x)).foldl (fun t (p, v) => t.setIfInBounds p v) a.tmps, defers := [] } W)
    (hbody : ∀ (l : Nat) (pre : List α) (x : α) (W : World), I pre W → (∃ rest, xs = pre ++ x :: rest) → body.wpIn (F.inRound l) (n - 1 - 1) P (roundR w.heap.size Kp I (pre ++ [x]) W) (a₁ x) W)
    (hdone : ∀ (D : Nat) (W : World), w.heap.size ≤ D → I xs W → W.heap[D]? = some (.deferred (some [])) → Q .normal { a with defers := { target := .collected D, args := #[] } :: a.defers } W) :
    (Code.rangeFunc g ps assign body).wpIn F n P Q a w := by
  refine wpIn_rangeFunc ?_
  intro fn hfn
  rw [hro]
  -- the loop's record, in a state
  obtain ⟨rec, hrec⟩ : ∃ rec : LoopState → Option Code → Loop, rec = fun st pe => { state := st, pending := pe, fn, tmps := a.tmps, params := ps, assign, body, defers := w.heap.size } := ⟨_, rfl⟩
  obtain ⟨W1, hW1⟩ : ∃ W1, (w.alloc (.deferred (some []))).alloc (.loop (rec .ready none)) = W1 := ⟨_, rfl⟩
  have hsz : W1.heap.size = w.heap.size + 2 := by rw [← hW1]; simp
  have hL1 : W1.heap[w.heap.size + 1]? = some (.loop (rec .ready none)) := by
    rw [← hW1]
    have := World.alloc_heap_new (w.alloc (.deferred (some []))) (.loop (rec .ready none))
    rwa [World.size_alloc] at this
  have hD1 : W1.heap[w.heap.size]? = some (.deferred (some [])) := by
    rw [← hW1]
    exact (Below.heap_alloc _ _ _ (by simp)).trans (World.alloc_heap_new w _)
  have hx1 : Ext w W1 := by rw [← hW1]; exact ((Ext.refl w).alloc _).alloc _
  have put : ∀ (s : List α) (W : World) (l : Nat) (o : Obj), w.heap.size ≤ l → I s W → I s (W.putObj l o) := fun s W l o hl h => hI s W _ (some l) h (grownBy_putObj' W l o) (fun r e => by cases e; exact Or.inr hl)
  have hI1 : I [] W1 := hI [] w W1 none h0 (kext_grown hx1) (fun r e => by cases e)
  refine ⟨w.heap.size + 1, [{ target := .collected w.heap.size, args := #[] }], W1, { target := .fn (.func gf) lb, args := #[.func (.yield (w.heap.size + 1)) #[] #[]] }, W1, gf,
    #[.func (.yield (w.heap.size + 1)) #[] #[]] ++ lb, W1, ?_, ?_, ?_, ?_, fun _ => h1, ?_⟩
  · rw [← hW1, hrec]
    exact run_enterLoop_outer _ _ _ _ _
  · simp only [resolve, hg]
    simp [go_sem]
  · intro f' hf'
    simp [Target.leads] at hf'
    subst hf'
    exact hFg
  · simp [invoke, go_sem, eg]
  · have keeps : ∀ (W W' : World) (row : Option Nat) (k : Nat) (o : Obj), W.grownBy W' row → (∀ r, row = some r → R r ∨ (W1.heap.size ≤ r ∧ ∃ o : Obj, W.heap[r]? = some o ∧ o.isWalk = true)) →
        w.heap.size ≤ k → k < w.heap.size + 2 → W.heap[k]? = some o → W'.heap[k]? = some o := by
      intro W W' row k o hg' hr hk0 hk1 ho
      refine (hg'.block k (Array.getElem?_eq_some_iff.1 ho).1 (fun e => ?_)).trans ho
      rcases hr k e.symm with h | ⟨h, -⟩
      · have := hR k h
        omega
      · omega
    refine (hseq (w.heap.size + 1) (fun pre W => I pre W ∧ W.heap[w.heap.size + 1]? = some (.loop (rec .ready none)) ∧ W.heap[w.heap.size]? = some (.deferred (some []))) W1 (hw0.trans hx1) ?_ ?_ ⟨hI1, hL1, hD1⟩).mono ?_
    · rintro s X Y row ⟨hi, hl, hd⟩ hg' hr
      exact ⟨hI s X Y row hi hg' (fun r e => (hr r e).imp (fun q => q) (fun q => by have := q.1; omega)), keeps X Y row _ _ hg' hr (by omega) (by omega) hl, keeps X Y row _ _ hg' hr (by omega) (by omega) hd⟩
    · rintro pre x W ⟨hi, hl, hd⟩ hrest
      have hlt : w.heap.size + 1 < W.heap.size := (Array.getElem?_eq_some_iff.1 hl).1
      have hy := run_yield (P := P) (args := encs x) hl (by rw [hrec]; exact hps x)
      rw [hrec] at hy
      refine ⟨fn, _, assign, body, hy, roundIn_of_wpIn hfn (hassign _ x W _ ⟨_, run_beginRound hl (by rw [hrec]), ?_⟩)⟩
      have hl2 : (W.putObj (w.heap.size + 1) (.loop { rec .ready none with state := .busy })).heap[w.heap.size + 1]? = some (.loop { rec .ready none with state := .busy }) := World.putObj_heap_same hlt
      have hd2 : (W.putObj (w.heap.size + 1) (.loop { rec .ready none with state := .busy })).heap[w.heap.size]? = some (.deferred (some [])) := (World.putObj_heap_other (by omega)).trans hd
      have hk2 : Kp W (W.putObj (w.heap.size + 1) (.loop { rec .ready none with state := .busy })) := hKb _ _ _ (by omega)
      refine wpIn_mono (hbody _ pre x _ (put _ _ _ _ (by omega) hi) hrest) ?_
      rintro e a3 W3 hp
      cases e with
      | normal =>
        obtain ⟨hf3, hk3, hi3⟩ := hp
        have hl3 := hf3.same _ _ (by omega) hl2 rfl
        have hr := run_endRound (P := P) none hl3
        rw [hrec] at hr
        refine ⟨_, _, hr, rfl, ⟨put _ _ _ _ (by omega) hi3, ?_, (World.putObj_heap_other (by omega)).trans (hf3.same _ _ (Nat.le_refl _) hd2 rfl)⟩, hKt (hKt hk2 hk3) (hKb _ _ _ (by omega))⟩
        rw [hrec]
        exact World.putObj_heap_same (Array.getElem?_eq_some_iff.1 hl3).1
      | _ => exact hp.elim
    · rintro e W2 ⟨⟨v, rfl⟩, hi, hl, hd⟩
      refine ⟨none, _, by have := run_endLoop (P := P) hl (by rw [hrec]; simp); rw [hrec] at this; exact this, hdone _ _ (Nat.le_refl _) (put _ _ _ _ (by omega) hi) ((World.putObj_heap_other (by omega)).trans hd)⟩
end
end Go.Proofs.YtknlojlcahgnoaaGreat

namespace Go.Proofs.YtknlojlcahgnoaaGreat
open Go.RowKit
set_option linter.unusedVariables false
set_option linter.unusedSimpArgs false

section
variable {α : Type} {F : Fence} {n : Nat} {P : Program}
theorem wpIn_range_S {g : Operand} {ps : Array Tmp} {assign body : Code} {Q : Exit → Act → World → Prop} {a : Act} {w : World}
    (hro : F.round = none) (h1 : 1 ≤ n) {gf : Nat} {lb : Array Value} (hg : a.eval g = .func (.func gf) #[] lb) (hFg : F.fn gf) (eg : ∀ args w, (callFunc gf args).run P w = .ok (.enter gf args) w)
    {encs : α → Array Value} {Kp : World → World → Prop} {R : Nat → Prop} {xs : List α} {w0 : World} (hseq : SeqR F (n - 1) P gf lb encs Kp R xs w0) (hw0 : Ext w0 w)
    (hR : ∀ r, R r → r < w.heap.size) (hKt : ∀ {A B C : World}, Kp A B → Kp B C → Kp A C) (hKb : ∀ (W : World) (l : Nat) (o : Obj), w.heap.size ≤ l → Kp W (W.putObj l o)) (hps : ∀ x, (encs x).size = ps.size)
    (I : List α → World → Prop) (hI : ∀ s W W' row, I s W → W.grownBy W' row → (∀ r, row = some r → R r ∨ (w.heap.size ≤ r ∧ ∃ o : Obj, W.heap[r]? = some o ∧ o.isCells = false)) → I s W') (h0 : I [] w) (Ax : α → Act → World → Prop) (hAx : ∀ x a' (W : World) (l : Nat) (o o' : Obj), w.heap.size ≤ l → W.heap[l]? = some o' → o'.isCells = false → Ax x a' W → Ax x a' (W.putObj l o))
    (hassign : ∀ (l : Nat) (pre : List α) (x : α) (W : World) (K : Act → World → Prop), I pre W → (∀ a' W', KeepsFrom w.heap.size W W' → Kp W W' → I pre W' → Ax x a' W' → K a' W') →
      assign.wpIn (F.inRound l) (n - 1 - 1) P (Exit.then K (fun _ _ _ => False)) { tmps := (ps.zip (encs x)).foldl (fun t (p, v) => t.setIfInBounds p v) a.tmps, defers := [] } W)
    (hbody : ∀ (l : Nat) (pre : List α) (x : α) (a' : Act) (W : World), I pre W → Ax x a' W → (∃ rest, xs = pre ++ x :: rest) → body.wpIn (F.inRound l) (n - 1 - 1) P (roundR w.heap.size Kp I (pre ++ [x]) W) a' W)
    (hdone : ∀ (D : Nat) (W : World), w.heap.size ≤ D → I xs W → W.heap[D]? = some (.deferred (some [])) → Q .normal { a with defers := { target := .collected D, args := #[] } :: a.defers } W) :
    (Code.rangeFunc g ps assign body).wpIn F n P Q a w := by
  refine wpIn_rangeFunc ?_
  intro fn hfn
  rw [hro]
  -- the loop's record, in a state
  obtain ⟨rec, hrec⟩ : ∃ rec : LoopState → Option Code → Loop, rec = fun st pe => { state := st, pending := pe, fn, tmps := a.tmps, params := ps, assign, body, defers := w.heap.size } := ⟨_, rfl⟩
  obtain ⟨W1, hW1⟩ : ∃ W1, (w.alloc (.deferred (some []))).alloc (.loop (rec .ready none)) = W1 := ⟨_, rfl⟩
  have hsz : W1.heap.size = w.heap.size + 2 := by rw [← hW1]; simp
  have hL1 : W1.heap[w.heap.size + 1]? = some (.loop (rec .ready none)) := by
    rw [← hW1]
    have := World.alloc_heap_new (w.alloc (.deferred (some []))) (.loop (rec .ready none))
    rwa [World.size_alloc] at this
  have hD1 : W1.heap[w.heap.size]? = some (.deferred (some [])) := by
    rw [← hW1]
    exact (Below.heap_alloc _ _ _ (by simp)).trans (World.alloc_heap_new w _)
  have hx1 : Ext w W1 := by rw [← hW1]; exact ((Ext.refl w).alloc _).alloc _
  have put : ∀ (s : List α) (W : World) (l : Nat) (o o' : Obj), w.heap.size ≤ l → W.heap[l]? = some o' → o'.isCells = false → I s W → I s (W.putObj l o) := fun s W l o o' hl ho hc h => hI s W _ (some l) h (grownBy_putObj' W l o) (fun r e => by cases e; exact Or.inr ⟨hl, o', ho, hc⟩)
  have hI1 : I [] W1 := hI [] w W1 none h0 (kext_grown hx1) (fun r e => by cases e)
  refine ⟨w.heap.size + 1, [{ target := .collected w.heap.size, args := #[] }], W1, { target := .fn (.func gf) lb, args := #[.func (.yield (w.heap.size + 1)) #[] #[]] }, W1, gf,
    #[.func (.yield (w.heap.size + 1)) #[] #[]] ++ lb, W1, ?_, ?_, ?_, ?_, fun _ => h1, ?_⟩
  · rw [← hW1, hrec]
    exact run_enterLoop_outer _ _ _ _ _
  · simp only [resolve, hg]
    simp [go_sem]
  · intro f' hf'
    simp [Target.leads] at hf'
    subst hf'
    exact hFg
  · simp [invoke, go_sem, eg]
  · have keeps : ∀ (W W' : World) (row : Option Nat) (k : Nat) (o : Obj), W.grownBy W' row → (∀ r, row = some r → R r ∨ (W1.heap.size ≤ r ∧ ∃ o : Obj, W.heap[r]? = some o ∧ o.isWalk = true)) →
        w.heap.size ≤ k → k < w.heap.size + 2 → W.heap[k]? = some o → W'.heap[k]? = some o := by
      intro W W' row k o hg' hr hk0 hk1 ho
      refine (hg'.block k (Array.getElem?_eq_some_iff.1 ho).1 (fun e => ?_)).trans ho
      rcases hr k e.symm with h | ⟨h, -⟩
      · have := hR k h
        omega
      · omega
    refine (hseq (w.heap.size + 1) (fun pre W => I pre W ∧ W.heap[w.heap.size + 1]? = some (.loop (rec .ready none)) ∧ W.heap[w.heap.size]? = some (.deferred (some []))) W1 (hw0.trans hx1) ?_ ?_ ⟨hI1, hL1, hD1⟩).mono ?_
    · rintro s X Y row ⟨hi, hl, hd⟩ hg' hr
      exact ⟨hI s X Y row hi hg' (fun r e => (hr r e).imp (fun q => q) (fun q => ⟨by have := q.1; omega, by obtain ⟨-, o, ho, hw⟩ := q; exact ⟨o, ho, by cases o <;> first | rfl | cases hw⟩⟩)), keeps X Y row _ _ hg' hr (by omega) (by omega) hl, keeps X Y row _ _ hg' hr (by omega) (by omega) hd⟩
    · rintro pre x W ⟨hi, hl, hd⟩ hrest
      have hlt : w.heap.size + 1 < W.heap.size := (Array.getElem?_eq_some_iff.1 hl).1
      have hy := run_yield (P := P) (args := encs x) hl (by rw [hrec]; exact hps x)
      rw [hrec] at hy
      refine ⟨fn, _, assign, body, hy, roundIn_of_wpIn hfn (hassign _ pre x W _ hi fun a1 Wa hka hpa hia hax => ⟨_, run_beginRound (hka.same _ _ (by omega) hl rfl) (by rw [hrec]), ?_⟩)⟩
      have hla := hka.same _ _ (by omega) hl rfl
      have hda := hka.same _ _ (Nat.le_refl _) hd rfl
      have hlta : w.heap.size + 1 < Wa.heap.size := (Array.getElem?_eq_some_iff.1 hla).1
      have hl2 : (Wa.putObj (w.heap.size + 1) (.loop { rec .ready none with state := .busy })).heap[w.heap.size + 1]? = some (.loop { rec .ready none with state := .busy }) := World.putObj_heap_same hlta
      have hd2 : (Wa.putObj (w.heap.size + 1) (.loop { rec .ready none with state := .busy })).heap[w.heap.size]? = some (.deferred (some [])) := (World.putObj_heap_other (by omega)).trans hda
      have hk2 : Kp W (Wa.putObj (w.heap.size + 1) (.loop { rec .ready none with state := .busy })) := hKt hpa (hKb _ _ _ (by omega))
      refine wpIn_mono (hbody _ pre x a1 _ (put _ _ _ _ _ (by omega) hla rfl hia) (hAx _ _ _ _ _ _ (by omega) hla rfl hax) hrest) ?_
      rintro e a3 W3 hp
      cases e with
      | normal =>
        obtain ⟨hf3, hk3, hi3⟩ := hp
        have hl3 := hf3.same _ _ (by omega) hl2 rfl
        have hr := run_endRound (P := P) none hl3
        rw [hrec] at hr
        refine ⟨_, _, hr, rfl, ⟨put _ _ _ _ _ (by omega) hl3 rfl hi3, ?_, (World.putObj_heap_other (by omega)).trans (hf3.same _ _ (Nat.le_refl _) hd2 rfl)⟩, hKt (hKt hk2 hk3) (hKb _ _ _ (by omega))⟩
        rw [hrec]
        exact World.putObj_heap_same (Array.getElem?_eq_some_iff.1 hl3).1
      | _ => exact hp.elim
    · rintro e W2 ⟨⟨v, rfl⟩, hi, hl, hd⟩
      refine ⟨none, _, by have := run_endLoop (P := P) hl (by rw [hrec]; simp); rw [hrec] at this; exact this, hdone _ _ (Nat.le_refl _) (put _ _ _ _ _ (by omega) hl rfl hi) ((World.putObj_heap_other (by omega)).trans hd)⟩
end
end Go.Proofs.YtknlojlcahgnoaaGreat
