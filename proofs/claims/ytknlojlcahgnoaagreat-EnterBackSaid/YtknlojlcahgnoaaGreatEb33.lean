/- Walks: slices.stableCmpFunc, slices.SortStableFunc at rules; their order by prefixes. -/
import Derived.Shelf.SlSortCmp.PdqK
import Derived.Test.YtknlojlcahgnoaaGreatEb24
import Derived.Test.YtknlojlcahgnoaaGreatEb29

namespace Go.Proofs.YtknlojlcahgnoaaGreat
open Go.RowKit Go.Shelf Go.Lib Go.Sort
set_option linter.unusedVariables false
set_option linter.unusedSimpArgs false

def insRen : Go.Shelf.Ren := ⟨fun | 20 => 149 | n => n, fun | 22 => 26 | 24 => 37 | 25 => 113 | 3 => 3 | 0 => 0 | 4 => 4 | n => n, fun | n => n⟩
theorem insRule : Go.Proofs.SlLaysF0.n20 Tryz.prog insRen := {
  mixed := by kernel_rfl
  f20 := ⟨Tryz.f149.name, by decide, Tryz.func149.trans (congrArg some (by kernel_rfl))⟩
  t0 := Tryz.underlying0
  a0 := Tryz.isAgg0
  z0 := Tryz.sizeOf0
  v0 := Tryz.zeroValue0
  t3 := Tryz.underlying3
  a3 := Tryz.isAgg3
  z3 := Tryz.sizeOf3
  v3 := Tryz.zeroValue3
  t4 := Tryz.underlying4
  a4 := Tryz.isAgg4
  z4 := Tryz.sizeOf4
  v4 := Tryz.zeroValue4
  t22 := Tryz.underlying26
  a22 := Tryz.isAgg26
  z22 := Tryz.sizeOf26
  v22 := Tryz.zeroValue26
  t25 := Tryz.underlying113
  a25 := Tryz.isAgg113
  z25 := Tryz.sizeOf113
  v25 := Tryz.zeroValue113
}

/-- the order of rules -/
def rlCmp (x y : Rl) : Int := cmpB x.p y.p
theorem ltRule (x y : Rl) : ltOf rlCmp x y = decide (x.key < y.key) := by
  have e : ∀ b : ByteArray, b.toList = b.data.toList := fun b => by rw [ByteArray.toList_eq]
  unfold ltOf rlCmp cmpB Rl.key
  rw [bytesLess_eq, e, e]
  by_cases h : x.p.data.toList < y.p.data.toList
  · simp [h]
  · simp only [h, decide_false, Bool.false_eq_true, if_false]
    split <;> simp
theorem swoRule : SWO (ltOf rlCmp) where
  irrefl x := by rw [ltRule]; simp [List.lt_irrefl]
  trans x y z h1 h2 := by
    rw [ltRule] at *
    simp only [decide_eq_true_eq] at *
    exact List.lt_trans h1 h2
  ntrans x y z h1 h2 := by
    rw [ltRule] at *
    simp only [decide_eq_false_iff_not, List.not_lt] at *
    exact List.le_trans h2 h1

section
variable {P : Program} {k : Nat}
theorem sym_all (L : StabL P k) (cf : Rl → Rl → Int) (key : Rl → List UInt8) (hlt : ∀ x y, ltOf cf x y = decide (key x < key y)) (g : Nat) (cb : Array Value) (eg : ∀ args w, (callFunc g args).run P w = .ok (.enter g args) w)
    (blk off cap sz : Nat) (d0 : Array Rl) (w0 : World) (hcmp : CmpLays P g cb rlEnc k cf blk off d0.size w0) (R : RowK rlEnc k w0 blk off d0) (hs0 : d0.size = sz) (hsz : sz < 4611686018427387904) :
    ∀ (N a m b : Nat), b - a < N → SymOk P k key g cb blk off cap sz w0 a m b := by
  intro N
  induction N with
  | zero => intro a m b h; exact absurd h (Nat.not_lt_zero _)
  | succ N ih =>
    intro a m b hN d w P₀ A B Sx hd ha hm hb hA0 hB0 hA hB S hds
    rcases Nat.lt_or_ge 1 A.length with hA1 | hA1
    · rcases Nat.lt_or_ge 1 B.length with hB1 | hB1
      · exact sym_big_w L cf key hlt g cb eg blk off cap sz d0 w0 hcmp R hs0 hsz a m b (fun a' m' b' h => ih a' m' b' (by omega)) d w P₀ A B Sx hd ha hm hb hA1 hB1 hA hB S hds
      · obtain ⟨y, rfl⟩ := List.length_eq_one_iff.1 (show B.length = 1 by omega)
        exact sym_last_w L cf key hlt g cb eg blk off cap sz d0 w0 hcmp R hs0 hsz a m b d w P₀ A Sx y hd ha hm hb hA1 hA S hds
    · obtain ⟨x, rfl⟩ := List.length_eq_one_iff.1 (show A.length = 1 by omega)
      exact sym_one_w L cf key hlt g cb eg blk off cap sz d0 w0 hcmp R hs0 hsz a m b d w P₀ B Sx x hd ha (by rw [hm, ha]; rfl) hb hB S hds
end

/-- a row of rules in the midst of the sort: all that there was, in the order of those that are alike -/
def StAt (w0 : World) (blk off : Nat) (d d' : Array Rl) (w' : World) : Prop := d'.size = d.size ∧ SameL Rl.key d.toList d'.toList ∧ SWK rlEnc 4 w0 blk off d' w'

theorem blks_finish {lt : Rl → Rl → Bool} {bs n t : Nat} {d : Array Rl} (h : ∀ i, i < t → SortedIn lt (i * (2 * bs)) ((i + 1) * (2 * bs)) d) (hbs : 0 < bs) (hn : n < t * (2 * bs) + 2 * bs) (hs : SortedIn lt (t * (2 * bs)) n d) : Blks lt (2 * bs) n d := by
  intro i hi
  by_cases q : i < t
  · have := h i q
    have e : (i + 1) * (2 * bs) ≤ t * (2 * bs) := Nat.mul_le_mul_right _ q
    by_cases q2 : (i + 1) * (2 * bs) ≤ n
    · rw [Nat.min_eq_left q2]; exact this
    · rw [Nat.min_eq_right (by omega)]
      intro x y h1 h2 h3
      exact this x y h1 h2 (by omega)
  · have e : i = t := by
      apply Classical.byContradiction
      intro ne
      have : (t + 1) * (2 * bs) ≤ i * (2 * bs) := Nat.mul_le_mul_right _ (by omega)
      rw [Nat.add_mul, Nat.one_mul] at this
      omega
    subst e
    rw [Nat.add_mul, Nat.one_mul, Nat.min_eq_right (by omega)]
    exact hs
/-- one merge, of blocks -/
theorem sym_blocks {d d' : Array Rl} {a m b : Nat} (h1 : a ≤ m) (h2 : m ≤ b) (hb : b ≤ d.size) (h : d'.toList = d.toList.take a ++ (ordL Rl.key (segL d a m ++ segL d m b) ++ d.toList.drop b)) :
    d'.size = d.size ∧ (∀ i, i < a ∨ b ≤ i → d'[i]! = d[i]!) ∧ SortedIn (ltOf rlCmp) a b d' ∧ SameL Rl.key d.toList d'.toList := by
  have hM : (ordL Rl.key (segL d a m ++ segL d m b)).length = b - a := by rw [ordL_len, List.length_append, segL_len d (by omega), segL_len d hb]; omega
  obtain ⟨k1, k2, k3⟩ := seg_keep (by omega) hb hM h
  refine ⟨k1, k2, ?_, ?_⟩
  · rw [← up_seg ltRule (by omega), k3]; exact ordL_up _
  · have e := seg_parts d h1 h2
    rw [e, h]
    have := SameL.app (key := Rl.key) (SameL.refl (d.toList.take a)) (SameL.app (key := Rl.key) (ordL_same (key := Rl.key) (segL d a m ++ segL d m b)) (SameL.refl (d.toList.drop b)))
    simpa [List.append_assoc] using this

set_option maxHeartbeats 4000000 in
set_option maxRecDepth 1000000 in
theorem stable_any (g : Nat) (cb : Array Value) (eg : ∀ args w, (callFunc g args).run Tryz.prog w = .ok (.enter g args) w) (blk off cap sz : Nat) (d0 : Array Rl) (w0 : World) (hcmp : CmpLays Tryz.prog g cb rlEnc 4 rlCmp blk off d0.size w0)
    (R : RowK rlEnc 4 w0 blk off d0) (hs0 : d0.size = sz) (hsz : sz < 1152921504606846976) (S : SWK rlEnc 4 w0 blk off d0 w0) :
    Calls Tryz.prog 101 #[.slice (some ⟨blk, off, none⟩) sz cap, .int .i64 sz, .func (.func g) #[] cb] w0 fun e w' => e = .returned (.tuple #[]) ∧ StTo 4 w0 blk off (ordL Rl.key d0.toList) w' := by
  have SYM : Aside (∀ a m b, SymOk Tryz.prog 4 Rl.key g cb blk off cap sz w0 a m b) := fun a m b => sym_all stabL rlCmp Rl.key ltRule g cb eg blk off cap sz d0 w0 hcmp R hs0 (by omega) (b - a + 1) a m b (by omega)
  have INS : Aside (∀ (a b : Nat) (d : Array Rl) (w : World), a ≤ b → b ≤ sz → d.size = sz → SWK rlEnc 4 w0 blk off d w → Calls Tryz.prog 149 #[.slice (some ⟨blk, off, none⟩) sz cap, .int .i64 a, .int .i64 b, .func (.func g) #[] cb] w fun e w' => e = .returned (.tuple #[]) ∧ SWK rlEnc 4 w0 blk off (insertionSort (ltOf rlCmp) d a b) w') := by
    intro a b d w h1 h2 h3 h4
    subst h3
    exact AnyQ.insertionSortCmpFunc_w insRule 4 Tryz.isAgg37 Tryz.sizeOf37 rlEnc rlCmp g cb blk off cap a b d0 d w0 w eg hcmp R hs0 h4 swoRule h1 h2 (by omega)
  have S0 : Aside (StAt w0 blk off d0 d0 w0) := ⟨rfl, SameL.refl _, S⟩
  have HS0 := Lib.hid hs0
  clear hcmp R hs0 S eg
  go_enter Tryz.func101, Tryz.ntmps101
  go_wp2
  go_loopg [7, 8] sz (fun gg va vb wr => ∃ (a b t : Nat) (d : Array Rl), va = .int .i64 a ∧ vb = .int .i64 b ∧ a = t * 20 ∧ b = a + 20 ∧ a ≤ sz ∧ sz - a ≤ gg ∧ Aside (StAt w0 blk off d0 d wr) ∧ Aside (∀ i, i < t → SortedIn (ltOf rlCmp) (i * 20) ((i + 1) * 20) d))
  case atStart => exact ⟨0, 20, 0, d0, rfl, rfl, rfl, rfl, by omega, by omega, S0, fun i hi => absurd hi (by omega)⟩
  case round =>
    clear S0
    obtain ⟨a, b, t, d, rfl, rfl, hat, hba, has, hgg, HS, HB⟩ := hrel
    have hds : d.size = sz := HS.out.1.trans HS0.out
    have HDS := Lib.hid hds
    have HAT := Lib.hid hat
    have HBA := Lib.hid hba
    have bb1 : b ≤ a + 20 := by omega
    have bb2 : a + 20 ≤ b := by omega
    clear hds hat hba
    by_cases hlt : b ≤ sz
    · have hltz : (b : Int) ≤ (sz : Int) := by omega
      have hltd : decide (b ≤ sz) = true := decide_eq_true hlt
      have hc := INS.out a b d wr (by omega) hlt HDS.out HS.out.2.2
      have HC := Lib.hid hc
      clear hc
      go_wp2_with (go_at_call 149; (refine HC.out.mono ?_); rintro ee w1 ⟨rfl, hw1⟩)
      go_roundg (sz - b)
      case measure => omega
      case rel =>
        have h1 := insertionSort_holds swoRule d a b (by omega) (by have := HDS.out; omega)
        refine ⟨b, b + 20, t + 1, insertionSort (ltOf rlCmp) d a b, rfl, by first | rfl | go_num, by have := HAT.out; have := HBA.out; omega, rfl, hlt, Nat.le_refl _, ⟨?_, ?_, hw1⟩, ?_⟩
        · rw [h1.1.1, HS.out.1]
        · exact HS.out.2.1.trans (insertionSort_same ltRule d a b (by have := HDS.out; omega)).1
        · intro i hi
          by_cases e : i = t
          · subst e
            have h2 := h1.2
            have ea := HAT.out
            have eb := HBA.out
            rw [show i * 20 = a by omega, show (i + 1) * 20 = b by omega]
            exact h2
          · exact sorted_keep h1.1.2.1 (Or.inl (by have := HAT.out; omega)) (HB.out i (by omega))
    · have hltz : ¬ (b : Int) ≤ (sz : Int) := by omega
      have hltd : decide (b ≤ sz) = false := decide_eq_false hlt
      have hc := INS.out a sz d wr has (Nat.le_refl _) HDS.out HS.out.2.2
      have HC := Lib.hid hc
      have h1 := insertionSort_holds swoRule d a sz has (by have := HDS.out; omega)
      have hsame := insertionSort_same ltRule d a sz (by have := HDS.out; omega)
      have hbl : Blks (ltOf rlCmp) 20 sz (insertionSort (ltOf rlCmp) d a sz) := by
        intro i hi
        have ea := HAT.out
        have eb := HBA.out
        by_cases e : i < t
        · rw [Nat.min_eq_left (by omega)]
          exact sorted_keep h1.1.2.1 (Or.inl (by omega)) (HB.out i e)
        · rw [show i * 20 = a by omega, Nat.min_eq_right (by omega)]
          exact h1.2
      have hst : d0.size = (insertionSort (ltOf rlCmp) d a sz).size := by rw [h1.1.1, HS.out.1]
      have hsm : SameL Rl.key d0.toList (insertionSort (ltOf rlCmp) d a sz).toList := HS.out.2.1.trans hsame.1
      generalize insertionSort (ltOf rlCmp) d a sz = d1 at HC hbl hst hsm
      have HBL : Aside _ := hbl
      have HST := Lib.hid hst
      have HSM : Aside _ := hsm
      clear hc h1 hsame hbl hst hsm HS HB
      go_wp2_with (go_at_call 149; (refine HC.out.mono ?_); rintro ee w1 ⟨rfl, hw1⟩)
      have S1 : Aside (StAt w0 blk off d0 d1 w1) := ⟨HST.out.symm, HSM.out, hw1⟩
      clear hw1 HC HST HSM
      go_loopg [6] sz (fun gg vb wr => ∃ (bs : Nat) (d : Array Rl), vb = .int .i64 bs ∧ 0 < bs ∧ bs ≤ 2 * sz + 20 ∧ sz - bs ≤ gg ∧ Aside (StAt w0 blk off d0 d wr) ∧ Aside (Blks (ltOf rlCmp) bs sz d))
      case atStart => exact ⟨20, d1, rfl, by omega, by omega, by omega, S1, HBL⟩
      case round =>
        clear S1 HBL
        obtain ⟨bs, d2, rfl, hbs, hbs2, hg2, HS, HB⟩ := hrel
        have hds2 : d2.size = sz := HS.out.1.trans HS0.out
        have HDS2 := Lib.hid hds2
        clear hds2
        by_cases hlt2 : bs < sz
        · have hltz2 : (bs : Int) < (sz : Int) := by omega
          have hltd2 : decide (bs < sz) = true := decide_eq_true hlt2
          go_wp2
          go_loopg [7, 8] sz (fun gg va vb wr => ∃ (a b t : Nat) (d : Array Rl), va = .int .i64 a ∧ vb = .int .i64 b ∧ Hid (a = t * (2 * bs)) ∧ b = a + 2 * bs ∧ a ≤ sz ∧ sz - a ≤ gg ∧ Aside (StAt w0 blk off d0 d wr) ∧ Aside (Blks2 (ltOf rlCmp) bs sz t d))
          case atStart => exact ⟨0, 2 * bs, 0, d2, rfl, by go_num, (Nat.zero_mul _).symm, (Nat.zero_add _).symm, by omega, by omega, HS, Blks2.start HB.out⟩
          case round =>
            clear HS HB
            obtain ⟨a, b, t, d, rfl, rfl, HAT, hba, has, hgg, HS, HB⟩ := hrel
            have hds : d.size = sz := HS.out.1.trans HS0.out
            have HDS := Lib.hid hds
            have HBA := Lib.hid hba
            have bb1 : b ≤ a + 2 * bs := by omega
            have bb2 : a + 2 * bs ≤ b := by omega
            clear hds hba
            by_cases hlt3 : b ≤ sz
            · have hltz3 : (b : Int) ≤ (sz : Int) := by omega
              have hltd3 : decide (b ≤ sz) = true := decide_eq_true hlt3
              obtain ⟨q1, q2⟩ := HB.out.halves hbs (e := b) (by have := HAT.out; omega) (by have := HAT.out; omega) hlt3 (Or.inr (by have := HAT.out; omega))
              rw [← HAT.out] at q1 q2
              have hc := SYM.out a (a + bs) b d wr (d.toList.take a) (segL d a (a + bs)) (segL d (a + bs) b) (d.toList.drop b) (seg_parts d (by omega) (by omega)) (by rw [List.length_take, Array.length_toList]; have := HDS.out; omega) (by rw [segL_len d (by have := HDS.out; omega)]; omega) (by rw [segL_len d (by have := HDS.out; omega)]; omega) (by rw [segL_len d (by have := HDS.out; omega)]; omega) (by rw [segL_len d (by have := HDS.out; omega)]; omega) ((up_seg ltRule (by have := HDS.out; omega)).2 q1) ((up_seg ltRule (by have := HDS.out; omega)).2 q2) HS.out.2.2 HDS.out
              rw [show ((a + bs : Nat) : Int) = (a : Int) + (bs : Int) by omega] at hc
              have HC := Lib.hid hc
              clear hc q1 q2
              go_wp2_with (go_at_call 150; (refine HC.out.mono ?_); rintro ee w1 ⟨rfl, hw1⟩)
              go_roundg (sz - b)
              case measure => omega
              case rel =>
                obtain ⟨d', hd', hw'⟩ := hw1
                obtain ⟨k1, k2, k3, k4⟩ := sym_blocks (by omega) (by omega) (by have := HDS.out; omega) hd'
                have ea := HAT.out
                have eb := HBA.out
                have e2 : b = t * (2 * bs) + 2 * bs := by omega
                refine ⟨b, b + 2 * bs, t + 1, d', rfl, by first | rfl | go_num, ?_, rfl, hlt3, Nat.le_refl _, ⟨by rw [k1, HS.out.1], HS.out.2.1.trans k4, hw'⟩, ?_⟩
                · show b = _
                  rw [Nat.add_mul, Nat.one_mul]; exact e2
                · refine HB.out.step hbs ?_ ?_
                  · rw [← e2, ← ea]; exact k2
                  · rw [← e2, ← ea]; exact k3
            · have hltz3 : ¬ (b : Int) ≤ (sz : Int) := by omega
              have hltd3 : decide (b ≤ sz) = false := decide_eq_false hlt3
              by_cases hlt4 : a + bs < sz
              · have hltz4 : (a : Int) + (bs : Int) < (sz : Int) := by omega
                obtain ⟨q1, q2⟩ := HB.out.halves hbs (e := sz) (by have := HAT.out; omega) (by have := HAT.out; omega) (Nat.le_refl _) (Or.inl rfl)
                rw [← HAT.out] at q1 q2
                have hc := SYM.out a (a + bs) sz d wr (d.toList.take a) (segL d a (a + bs)) (segL d (a + bs) sz) (d.toList.drop sz) (seg_parts d (by omega) (by omega)) (by rw [List.length_take, Array.length_toList]; have := HDS.out; omega) (by rw [segL_len d (by have := HDS.out; omega)]; omega) (by rw [segL_len d (by have := HDS.out; omega)]; omega) (by rw [segL_len d (by have := HDS.out; omega)]; omega) (by rw [segL_len d (by have := HDS.out; omega)]; omega) ((up_seg ltRule (by have := HDS.out; omega)).2 q1) ((up_seg ltRule (by have := HDS.out; omega)).2 q2) HS.out.2.2 HDS.out
                rw [show ((a + bs : Nat) : Int) = (a : Int) + (bs : Int) by omega] at hc
                have HC := Lib.hid hc
                clear hc q1 q2
                go_wp2_with (go_at_call 150; (refine HC.out.mono ?_); rintro ee w1 ⟨rfl, hw1⟩)
                go_roundg (sz - 2 * bs)
                case measure => omega
                case rel =>
                  obtain ⟨d', hd', hw'⟩ := hw1
                  obtain ⟨k1, k2, k3, k4⟩ := sym_blocks (by omega) (by omega) (by have := HDS.out; omega) hd'
                  have ea := HAT.out
                  refine ⟨2 * bs, d', by first | go_num | (congr 1; omega), by omega, by omega, Nat.le_refl _, ⟨by rw [k1, HS.out.1], HS.out.2.1.trans k4, hw'⟩, ?_⟩
                  exact blks_finish (t := t) (fun i hi => sorted_keep k2 (Or.inl (by rw [ea]; exact Nat.mul_le_mul_right _ hi)) (HB.out.1 i hi)) hbs (by omega) (by rw [← ea]; exact k3)
              · have hltz4 : ¬ (a : Int) + (bs : Int) < (sz : Int) := by omega
                go_wp2
                go_roundg (sz - 2 * bs)
                case measure => omega
                case rel =>
                  have ea := HAT.out
                  refine ⟨2 * bs, d, by first | go_num | (congr 1; omega), by omega, by omega, Nat.le_refl _, HS, ?_⟩
                  refine HB.out.finish hbs (by omega) ?_
                  by_cases e : t * (2 * bs) < sz
                  · exact HB.out.last (by omega) e
                  · intro x y h1 h2 h3; omega
        · have hltz2 : ¬ (bs : Int) < (sz : Int) := by omega
          have hltd2 : decide (bs < sz) = false := decide_eq_false hlt2
          go_wp2
          go_end0
          refine ⟨rfl, d2, ?_, HS.out.2.2⟩
          have h1 := HB.out.whole (by omega) hbs
          have h2 := (up_seg ltRule (by have := HDS2.out; omega)).2 h1
          have e : segL d2 0 sz = d2.toList := by unfold segL; rw [List.take_of_length_le (by rw [Array.length_toList]; have := HDS2.out; omega), List.drop_zero]
          rw [e] at h2
          exact ordL_of h2 HS.out.2.1
end Go.Proofs.YtknlojlcahgnoaaGreat
