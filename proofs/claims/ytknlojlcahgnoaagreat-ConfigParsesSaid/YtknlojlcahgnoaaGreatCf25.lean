/- Walks: the closures of words.Split. -/
import Derived.RegionTactic
import Derived.BigRegion
import Derived.Deep.RegionLaw
import Derived.Deep.CutBlock
import Derived.Deep.RegionHeld3
import Derived.RangeFuncBox
import Derived.Test.YtknlojlcahgnoaaGreatCf21

namespace Go.Proofs.YtknlojlcahgnoaaGreat
open Go.RowKit
set_option linter.unusedVariables false
set_option linter.unusedSimpArgs false

theorem word_info : (Tryz.prog.info? 108).map (fun i => (i.zero, i.size, i.bytes)) = some (some (.agg #[.string ⟨#[]⟩, .int .i64 0, .int .i64 0]), 3, 32) := by kernel_rfl
set_option maxHeartbeats 4000000 in
set_option maxRecDepth 100000 in
/-- a word ends: it is appended to the row -/
theorem split_keep_yes (bW bA bK bF bR bT line col from_ k tn lim : Nat) (ta : Addr) (tc : Nat) (rv : Value) (row : List Wd) (cur : List UInt8) (w : World)
    (hW : Blk w bW #[.int .i64 0] 3) (hA : Blk w bA #[.complex .f64 (fl line) (fl col)] 176) (hK : Blk w bK #[.int .i64 (k : Int)] 3) (hF : Blk w bF #[.int .i64 (from_ : Int)] 3)
    (hR : Blk w bR #[rv] 106) (hT : Blk w bT #[.slice (some ta) tn tc] 22) (hrow : WdRow lim w rv row)
    (hlim : lim ≤ w.heap.size) (hbR : bR < lim) (hbT : bT < lim) (hbF : bF < lim) (hbK : bK < lim) (hnT : bT ≠ bR) (hnF : bF ≠ bR) (hnK : bK ≠ bR)
    (hln : line < 4503599627370496) (hcl : col < 4503599627370496) (hk : k ≤ tn) (htc : tn ≤ tc) (hcur : from_ + cur.length = k) (hne : cur ≠ [])  (hcc : k - from_ ≤ col) (hrl : row.length ≤ 2000000)
    (hcv : ∀ V, FrB bR lim w V → (convert 22 9 (.slice (some (ta.add from_)) (k - from_) (tc - from_))).run Tryz.prog V = .ok (.string (bText cur)) V)
    (hsl : ∀ V, (Instr.slice 22 (.slice (some ta) tn tc) (some (.int .i64 (from_ : Int))) (some (.int .i64 (k : Int))) none).run Tryz.prog V = .ok (.slice (some (ta.add from_)) (k - from_) (tc - from_)) V) :
    Calls Tryz.prog 94 #[.pointer (some ⟨bW, 0, none⟩), .pointer (some ⟨bA, 0, none⟩), .pointer (some ⟨bK, 0, none⟩), .pointer (some ⟨bF, 0, none⟩), .pointer (some ⟨bR, 0, none⟩), .pointer (some ⟨bT, 0, none⟩)] w fun x w' =>
      x = .returned (.tuple #[]) ∧ ∃ rv', Blk w' bR #[rv'] 106 ∧ WdRow lim w' rv' (row ++ [⟨bText cur, line, ((col - cur.length : Nat) : Int)⟩]) ∧ FrB bR lim w w' := by
  have cW := hW.cell 0
  have cA := hA.cell 0
  have cK := hK.cell 0
  have cF := hF.cell 0
  have hd : IntKind.i64.wrap ((k : Int) - (from_ : Int)) = ((cur.length : Nat) : Int) := by simp [IntKind.wrap, IntKind.signed, IntKind.bits]; omega
  have hsub : ∀ V, (binOp .sub 176 (.complex .f64 (fl line) (fl col)) (.complex .f64 0 (floatOfInt .f64 ((cur.length : Nat) : Int)))).run Tryz.prog V = .ok (.complex .f64 (fl line) (fl (col - cur.length))) V := fun V => by
    refine run_complex_sum (P := Tryz.prog) V .sub (Or.inr rfl) 176 .f64 _ _ _ _ _ _ ?_
    have e1 : floatBits .sub .f64 (fl line) 0 = some (fl line) := by
      have := fl_sub (m := line) (n := 0) (by omega) (by omega)
      rwa [fl_zero, Nat.sub_zero] at this
    have e2 : floatBits .sub .f64 (fl col) (floatOfInt .f64 ((cur.length : Nat) : Int)) = some (fl (col - cur.length)) := fl_sub (by omega) (by omega)
    unfold cSumBits
    rw [e1, e2]
    rfl
  have hpl := fun V => words_place line (col - cur.length) V (by omega) (by omega)
  have HPL := Lib.hid hpl
  generalize fl line = fa at *
  generalize fl col = fb at *
  generalize fl (col - cur.length) = fc at *
  clear hpl
  go_enter Tryz.func94, Tryz.ntmps94
  go_wp2_with fail
  refine (HPL.out _).mono ?_
  rintro x w1 ⟨rfl, hx1⟩
  go_upto_region 2 with fail
  have hP := Blk.new w1 #[.int .i64 (line : Int), .int .i64 ((col - cur.length : Nat) : Int)] 44
  have hx2 : Ext w (w1.alloc (.cells #[.int .i64 (line : Int), .int .i64 ((col - cur.length : Nat) : Int)] 44)) := hx1.alloc _
  generalize w1.alloc (.cells #[.int .i64 (line : Int), .int .i64 ((col - cur.length : Nat) : Int)] 44) = w2 at *
  have hPl : w.heap.size ≤ w1.heap.size := hx1.sz
  generalize w1.heap.size = bP at *
  have hnP : bP ≠ bR := by omega
  have hPn : some bP ≠ rv.ownBlock := own_high hrow.own hPl
  have cR := (hR.ext hx2).cell 0
  have cT := (hT.ext hx2).cell 0
  have cK := (hK.ext hx2).cell 0
  have cF := (hF.ext hx2).cell 0
  have fR := (hR.ext hx2).free 0
  have cP0 := hP.cell 0
  have cP1 := hP.cell 1
  have hbl := hP.lt
  simp at cR cT cK cF cP0 cP1
  have hml : (3000000 : Nat) ≤ maxLen := by decide
  obtain ⟨i0, hi, hz0, hz1, hz2⟩ := info_parts word_info
  have HI := Lib.hid (And.intro hi (And.intro hz0 (And.intro hz1 hz2)))
  have HROW := Lib.hid (hrow.ext hx2)
  have HX2 := Lib.hid hx2
  have HBR := Lib.hid (hR.ext hx2)
  have HBT := Lib.hid (hT.ext hx2)
  have HBF := Lib.hid (hF.ext hx2)
  have HBK := Lib.hid (hK.ext hx2)
  have HBP := Lib.hid hP
  have HL1 : Hid (row.length + 1 ≤ maxLen) := Lib.hid (by clear hd; omega)
  have HL2 : Hid ((row.length + 1) * 32 ≤ 140737488355328) := Lib.hid (by clear hd; omega)
  have HL3 : Hid (lim ≤ (w2.drew.alloc (.cells #[.string (bText cur), .int .i64 line, .int .i64 ((col - cur.length : Nat) : Int)] 108)).heap.size) := Lib.hid (by have := HX2.out.sz; simp; omega)
  clear hi hz0 hz1 hz2 hrow hx1 hx2 hsub HPL
  have hS : ∀ V, Blk V bT #[.slice (some ta) tn tc] 22 → Blk V bF #[.int .i64 (from_ : Int)] 3 → Blk V bK #[.int .i64 (k : Int)] 3 → Blk V bP #[.int .i64 line, .int .i64 ((col - cur.length : Nat) : Int)] 44 → FrB bR lim w V → V.cell? ⟨bT, 0, none⟩ = some (.slice (some ta) tn tc) ∧ V.cell? ⟨bF, 0, none⟩ = some (.int .i64 (from_ : Int)) ∧ V.cell? ⟨bK, 0, none⟩ = some (.int .i64 (k : Int)) ∧ V.cell? ⟨bP, 0, none⟩ = some (.int .i64 line) ∧ V.cell? ⟨bP, 1, none⟩ = some (.int .i64 ((col - cur.length : Nat) : Int)) ∧ (convert 22 9 (.slice (some (ta.add from_)) (k - from_) (tc - from_))).run Tryz.prog V = .ok (.string (bText cur)) V :=
    fun V h1 h2 h3 h4 h5 => ⟨h1.cell 0, h2.cell 0, h3.cell 0, h4.cell 0, h4.cell 1, hcv V h5⟩
  have hS0 := hS w2.drew HBT.out.drew HBF.out.drew HBK.out.drew HBP.out.drew (HX2.out.drew.fr hlim)
  have HS1 := Lib.hid (hS (w2.drew.alloc (.cells #[.string (bText cur), .int .i64 line, .int .i64 ((col - cur.length : Nat) : Int)] 108)) (HBT.out.drew.alloc _) (HBF.out.drew.alloc _) (HBK.out.drew.alloc _) (HBP.out.drew.alloc _) ((HX2.out.drew.alloc _).fr hlim))
  have HKA := Lib.hid (fun (V : World) (g : (w2.drew.alloc (.cells #[.string (bText cur), .int .i64 line, .int .i64 ((col - cur.length : Nat) : Int)] 108)).grownBy V rv.ownBlock) => And.intro (And.intro (Blk.grownLow (HBT.out.drew.alloc _) HROW.out.own g hbT) (And.intro (Blk.grownLow (HBF.out.drew.alloc _) HROW.out.own g hbF) (And.intro (Blk.grownLow (HBK.out.drew.alloc _) HROW.out.own g hbK) (And.intro (Blk.grownOff (HBP.out.drew.alloc _) hPn g) (FrB.grown (b := bR) ((HX2.out.drew.alloc (.cells #[.string (bText cur), .int .i64 line, .int .i64 ((col - cur.length : Nat) : Int)] 108)).fr hlim) HL3.out HROW.out.own g)))))
    (hS V (Blk.grownLow (HBT.out.drew.alloc _) HROW.out.own g hbT) (Blk.grownLow (HBF.out.drew.alloc _) HROW.out.own g hbF) (Blk.grownLow (HBK.out.drew.alloc _) HROW.out.own g hbK) (Blk.grownOff (HBP.out.drew.alloc _) hPn g) (FrB.grown (b := bR) ((HX2.out.drew.alloc (.cells #[.string (bText cur), .int .i64 line, .int .i64 ((col - cur.length : Nat) : Int)] 108)).fr hlim) HL3.out HROW.out.own g)))
  have HKS := Lib.hid (fun (V : World) (v : Value) (h : Blk V bT #[.slice (some ta) tn tc] 22 ∧ Blk V bF #[.int .i64 (from_ : Int)] 3 ∧ Blk V bK #[.int .i64 (k : Int)] 3 ∧ Blk V bP #[.int .i64 line, .int .i64 ((col - cur.length : Nat) : Int)] 44 ∧ FrB bR lim w V) => hS (V.setCell ⟨bR, 0, none⟩ v) (h.1.other (a := ⟨bR, 0, none⟩) hnT v) (h.2.1.other (a := ⟨bR, 0, none⟩) hnF v) (h.2.2.1.other (a := ⟨bR, 0, none⟩) hnK v) (h.2.2.2.1.other (a := ⟨bR, 0, none⟩) hnP v) (h.2.2.2.2.setCell 0 v))
  clear hS
  have cRa := (HBR.out.alloc (.cells #[.string (bText cur), .int .i64 line, .int .i64 ((col - cur.length : Nat) : Int)] 108)).cell 0
  simp only [List.getElem?_toArray, List.getElem?_cons_zero] at cRa
--GEN
  refine wp_region_held_drew (S := fun w' => w'.cell? ⟨bT, 0, none⟩ = some (.slice (some ta) tn tc) ∧ w'.cell? ⟨bF, 0, none⟩ = some (.int .i64 (from_ : Int)) ∧ w'.cell? ⟨bK, 0, none⟩ = some (.int .i64 (k : Int)) ∧ w'.cell? ⟨bP, 0, none⟩ = some (.int .i64 line) ∧ w'.cell? ⟨bP, 1, none⟩ = some (.int .i64 ((col - cur.length : Nat) : Int)) ∧ (convert 22 9 (.slice (some (ta.add from_)) (k - from_) (tc - from_))).run Tryz.prog w' = .ok (.string (bText cur)) w' ) (by kernel_rfl) hS0 (fun hHeld => ?_)
  refine wpAnyH_take (i := 6) (v := ?_) rfl (by kernel_rfl) (by kernel_rfl) (by kernel_rfl) (fun _ _ _ h => h) (Or.inl ⟨by rfl, ?_⟩) (by assumption) ?_
  rotate_left
  · intro w hSw
    (try dsimp only at hSw)
    go_simp
    try with_reducible rfl
  try simp only [Go.Act.put, List.getElem_toArray, List.getElem_cons_zero, List.getElem_cons_succ, List.setIfInBounds_toArray, List.set_cons_zero, List.set_cons_succ]
  refine wpAnyH_take (i := 8) (v := ?_) rfl (by kernel_rfl) (by kernel_rfl) (by kernel_rfl) (fun _ _ _ h => h) (Or.inl ⟨by rfl, ?_⟩) (by assumption) ?_
  rotate_left
  · intro w hSw
    (try dsimp only at hSw)
    go_simp
    try with_reducible rfl
  try simp only [Go.Act.put, List.getElem_toArray, List.getElem_cons_zero, List.getElem_cons_succ, List.setIfInBounds_toArray, List.set_cons_zero, List.set_cons_succ]
  refine wpAnyH_take (i := 1) (v := ?_) rfl (by kernel_rfl) (by kernel_rfl) (by kernel_rfl) (fun _ _ _ h => h) (Or.inl ⟨by rfl, ?_⟩) (by assumption) ?_
  rotate_left
  · intro w hSw
    (try dsimp only at hSw)
    go_simp
    try with_reducible rfl
  try simp only [Go.Act.put, List.getElem_toArray, List.getElem_cons_zero, List.getElem_cons_succ, List.setIfInBounds_toArray, List.set_cons_zero, List.set_cons_succ]
  refine wpAnyH_take (i := 2) (v := ?_) rfl (by kernel_rfl) (by kernel_rfl) (by kernel_rfl) (fun _ _ _ h => h) (Or.inl ⟨by rfl, ?_⟩) (by assumption) ?_
  rotate_left
  · intro w hSw
    (try dsimp only at hSw)
    go_simp
    try with_reducible rfl
  try simp only [Go.Act.put, List.getElem_toArray, List.getElem_cons_zero, List.getElem_cons_succ, List.setIfInBounds_toArray, List.set_cons_zero, List.set_cons_succ]
  refine wpAnyH_take (i := 3) (v := ?_) rfl (by kernel_rfl) (by kernel_rfl) (by kernel_rfl) (fun _ _ _ h => h) (Or.inl ⟨by rfl, ?_⟩) (by assumption) ?_
  rotate_left
  · intro w hSw
    (try dsimp only at hSw)
    go_simp
    try with_reducible rfl
  try simp only [Go.Act.put, List.getElem_toArray, List.getElem_cons_zero, List.getElem_cons_succ, List.setIfInBounds_toArray, List.set_cons_zero, List.set_cons_succ]
  refine wpAnyH_take (i := 4) (v := ?_) rfl (by kernel_rfl) (by kernel_rfl) (by kernel_rfl) (fun _ _ _ h => h) (Or.inl ⟨by rfl, ?_⟩) (by assumption) ?_
  rotate_left
  · intro w hSw
    (try dsimp only at hSw)
    go_simp
    try with_reducible rfl
  try simp only [Go.Act.put, List.getElem_toArray, List.getElem_cons_zero, List.getElem_cons_succ, List.setIfInBounds_toArray, List.set_cons_zero, List.set_cons_succ]
  refine wpAnyH_take (i := 5) (v := ?_) rfl (by kernel_rfl) (by kernel_rfl) (by kernel_rfl) (fun _ _ _ h => h) (Or.inl ⟨by rfl, ?_⟩) (by assumption) ?_
  rotate_left
  · intro w hSw
    (try dsimp only at hSw)
    go_simp
    try with_reducible rfl
  try simp only [Go.Act.put, List.getElem_toArray, List.getElem_cons_zero, List.getElem_cons_succ, List.setIfInBounds_toArray, List.set_cons_zero, List.set_cons_succ]
  refine wpAnyH_take (i := 7) (v := ?_) rfl (by kernel_rfl) (by kernel_rfl) (by kernel_rfl) (fun _ _ _ h => h) (Or.inl ⟨by rfl, ?_⟩) (by assumption) ?_
  rotate_left
  · intro w hSw
    (try dsimp only at hSw)
    go_simp
    try with_reducible rfl
  try simp only [Go.Act.put, List.getElem_toArray, List.getElem_cons_zero, List.getElem_cons_succ, List.setIfInBounds_toArray, List.set_cons_zero, List.set_cons_succ]
  refine wpAnyH_take (i := 9) (v := ?_) rfl (by kernel_rfl) (by kernel_rfl) (by kernel_rfl) (fun _ _ _ h => h) (Or.inl ⟨by rfl, ?_⟩) (by assumption) ?_
  rotate_left
  · intro w hSw
    (try dsimp only at hSw)
    go_simp
    try with_reducible rfl
  try simp only [Go.Act.put, List.getElem_toArray, List.getElem_cons_zero, List.getElem_cons_succ, List.setIfInBounds_toArray, List.set_cons_zero, List.set_cons_succ]
  refine wpAnyH_take (i := 10) (v := ?_) rfl (by kernel_rfl) (by kernel_rfl) (by kernel_rfl) (fun _ _ _ h => h) (Or.inl ⟨by rfl, ?_⟩) (by assumption) ?_
  rotate_left
  · intro w hSw
    (try dsimp only at hSw)
    go_simp
    try with_reducible rfl
  try simp only [Go.Act.put, List.getElem_toArray, List.getElem_cons_zero, List.getElem_cons_succ, List.setIfInBounds_toArray, List.set_cons_zero, List.set_cons_succ]
  refine wpAnyH_ready (rs := [0, 11]) (by kernel_rfl) (by simp) ?_
  refine AllReadyH.cons rfl (fun K hK => ?_) (AllReadyH.cons rfl (fun K hK => ?_) AllReadyH.nil)
  · go_simp
    refine hK.out _ _ ?_ (fun hHeld => ?_)
    · (try dsimp only)
      exact hS0
    clear hK K
    try simp only [Go.Act.put, List.getElem_toArray, List.getElem_cons_zero, List.getElem_cons_succ, List.setIfInBounds_toArray, List.set_cons_zero, List.set_cons_succ]
    refine wpAnyH_ready (rs := [11]) (by kernel_rfl) (by simp) ?_
    refine AllReadyH.cons rfl (fun K hK => ?_) AllReadyH.nil
    go_simp
    refine hK.out _ _ ?_ (fun hHeld => ?_)
    · (try dsimp only)
      exact HS1.out
    clear hK K
    try simp only [Go.Act.put, List.getElem_toArray, List.getElem_cons_zero, List.getElem_cons_succ, List.setIfInBounds_toArray, List.set_cons_zero, List.set_cons_succ]
    refine wpAnyH_ready (rs := [12]) (by kernel_rfl) (by simp) ?_
    refine AllReadyH.cons rfl (fun K hK => ?_) AllReadyH.nil
    refine step_append_own rfl (.tmp 17) (.tmp 28) 106 rfl lim 108 i0 (.agg #[.string ⟨#[]⟩, .int .i64 0, .int .i64 0]) 3 32 Tryz.underlying106 HI.out.1 HI.out.2.1 HI.out.2.2.1 HI.out.2.2.2 rfl (by decide) _ _ _ rfl (own_ext HROW.out.own (((Ext.refl w2).drew).alloc _)) ⟨w2.heap.size, 0, none⟩ 1 1 [.string (bText cur), .int .i64 line, .int .i64 ((col - cur.length : Nat) : Int)] rfl rfl (blk_news (C := #[.string (bText cur), .int .i64 line, .int .i64 ((col - cur.length : Nat) : Int)]) (Blk.new _ _ _)) (by simp [Value.oneCell']) HL1.out HL2.out HL3.out ?_
    rintro v3 w3 hown3 hgrow3
    obtain ⟨g3, cap3, rfl⟩ := ownsRow_succ hown3
    have bR3 := Blk.grownLow ((HBR.out.drew).alloc _) HROW.out.own hgrow3 hbR
    have cR3 := bR3.cell 0
    have fR3 := bR3.free 0
    have HW3 := Lib.hid (HKA.out w3 hgrow3)
    have HS3 := Lib.hid (HKS.out w3 (.slice (some ⟨g3, 0, none⟩) (row.length + 1) cap3) HW3.out.1)
    refine hK.out _ _ ?_ (fun hHeld => ?_)
    · (try dsimp only)
      exact HW3.out.2
    clear hK K
    try simp only [Go.Act.put, List.getElem_toArray, List.getElem_cons_zero, List.getElem_cons_succ, List.setIfInBounds_toArray, List.set_cons_zero, List.set_cons_succ]
    refine wpAnyH_ready (rs := [13]) (by kernel_rfl) (by simp) ?_
    refine AllReadyH.cons rfl (fun K hK => ?_) AllReadyH.nil
    go_simp
    refine hK.out _ _ ?_ (fun hHeld => ?_)
    · (try dsimp only)
      exact HS3.out
    clear hK K
    try simp only [Go.Act.put, List.getElem_toArray, List.getElem_cons_zero, List.getElem_cons_succ, List.setIfInBounds_toArray, List.set_cons_zero, List.set_cons_succ]
    refine wpAnyH_done (by kernel_rfl) ?_ _
    go_wp2
    go_end0
    refine ⟨rfl, _, bR3.set 0 _, RowOf.mk' (own_extB hown3 ((ExtB.refl bR w3).setCell 0 _) hbR) (by simp) (by rw [flatE_snoc]; simp [Wd.cells]) (by simp), HW3.out.1.2.2.2.2.setCell 0 _⟩
  · go_simp
    refine hK.out _ _ ?_ (fun hHeld => ?_)
    · (try dsimp only)
      exact HS1.out
    clear hK K
    try simp only [Go.Act.put, List.getElem_toArray, List.getElem_cons_zero, List.getElem_cons_succ, List.setIfInBounds_toArray, List.set_cons_zero, List.set_cons_succ]
    refine wpAnyH_ready (rs := [0]) (by kernel_rfl) (by simp) ?_
    refine AllReadyH.cons rfl (fun K hK => ?_) AllReadyH.nil
    go_simp
    refine hK.out _ _ ?_ (fun hHeld => ?_)
    · (try dsimp only)
      exact HS1.out
    clear hK K
    try simp only [Go.Act.put, List.getElem_toArray, List.getElem_cons_zero, List.getElem_cons_succ, List.setIfInBounds_toArray, List.set_cons_zero, List.set_cons_succ]
    refine wpAnyH_ready (rs := [12]) (by kernel_rfl) (by simp) ?_
    refine AllReadyH.cons rfl (fun K hK => ?_) AllReadyH.nil
    refine step_append_own rfl (.tmp 17) (.tmp 28) 106 rfl lim 108 i0 (.agg #[.string ⟨#[]⟩, .int .i64 0, .int .i64 0]) 3 32 Tryz.underlying106 HI.out.1 HI.out.2.1 HI.out.2.2.1 HI.out.2.2.2 rfl (by decide) _ _ _ rfl (own_ext HROW.out.own (((Ext.refl w2).drew).alloc _)) ⟨w2.heap.size, 0, none⟩ 1 1 [.string (bText cur), .int .i64 line, .int .i64 ((col - cur.length : Nat) : Int)] rfl rfl (blk_news (C := #[.string (bText cur), .int .i64 line, .int .i64 ((col - cur.length : Nat) : Int)]) (Blk.new _ _ _)) (by simp [Value.oneCell']) HL1.out HL2.out HL3.out ?_
    rintro v3 w3 hown3 hgrow3
    obtain ⟨g3, cap3, rfl⟩ := ownsRow_succ hown3
    have bR3 := Blk.grownLow ((HBR.out.drew).alloc _) HROW.out.own hgrow3 hbR
    have cR3 := bR3.cell 0
    have fR3 := bR3.free 0
    have HW3 := Lib.hid (HKA.out w3 hgrow3)
    have HS3 := Lib.hid (HKS.out w3 (.slice (some ⟨g3, 0, none⟩) (row.length + 1) cap3) HW3.out.1)
    refine hK.out _ _ ?_ (fun hHeld => ?_)
    · (try dsimp only)
      exact HW3.out.2
    clear hK K
    try simp only [Go.Act.put, List.getElem_toArray, List.getElem_cons_zero, List.getElem_cons_succ, List.setIfInBounds_toArray, List.set_cons_zero, List.set_cons_succ]
    refine wpAnyH_ready (rs := [13]) (by kernel_rfl) (by simp) ?_
    refine AllReadyH.cons rfl (fun K hK => ?_) AllReadyH.nil
    go_simp
    refine hK.out _ _ ?_ (fun hHeld => ?_)
    · (try dsimp only)
      exact HS3.out
    clear hK K
    try simp only [Go.Act.put, List.getElem_toArray, List.getElem_cons_zero, List.getElem_cons_succ, List.setIfInBounds_toArray, List.set_cons_zero, List.set_cons_succ]
    refine wpAnyH_done (by kernel_rfl) ?_ _
    go_wp2
    go_end0
    refine ⟨rfl, _, bR3.set 0 _, RowOf.mk' (own_extB hown3 ((ExtB.refl bR w3).setCell 0 _) hbR) (by simp) (by rw [flatE_snoc]; simp [Wd.cells]) (by simp), HW3.out.1.2.2.2.2.setCell 0 _⟩
--NEG

end Go.Proofs.YtknlojlcahgnoaaGreat
