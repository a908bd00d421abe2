/- Rows of rules of the call's own. Walk: tollerlaw15.Rules. -/
import Derived.Test.YtknlojlcahgnoaaGreatEa27
import Derived.Test.YtknlojlcahgnoaaGreatEa28
import Derived.Test.YtknlojlcahgnoaaGreatEa37
import Derived.Test.YtknlojlcahgnoaaGreatEa29
import Derived.Test.YtknlojlcahgnoaaGreatEa5

namespace Go.Proofs.YtknlojlcahgnoaaGreat
open Go.RowKit
set_option linter.unusedVariables false
set_option linter.unusedSimpArgs false

abbrev RuleRow (base : Nat) (w : World) (v : Value) (l : List Rl) : Prop := RowOf Rl.cells 4 37 base w v l
theorem rule_info : (Tryz.prog.info? 37).map (fun i => (i.zero, i.size, i.bytes)) = some (some (.agg #[.string ⟨#[]⟩, .int .u64 0, .int .u64 0, .int .u8 0]), 4, 40) := by kernel_rfl
theorem rulerow_more {base : Nat} {w : World} {v : Value} {l l' : List Rl} {r : Rl} (h : w.ownsRow base 37 4 v (l.length + 1) (flatE Rl.cells l ++ r.cells.toList)) (e : l' = l ++ [r]) : RuleRow base w v l' := by
  subst e
  refine RowOf.mk' h (by simp) (flatE_snoc _ _ _).symm ?_
  obtain ⟨g, cap, rfl⟩ := ownsRow_succ h
  simp
/-- a slice that was written out, of one rule -/
theorem rulerow_one {base b : Nat} {w : World} {r : Rl} (h : Blk w b r.cells 37) (hb : base ≤ b) : RuleRow base w (.slice (some ⟨b, 0, none⟩) 1 1) [r] :=
  RowOf.mk' (n := 1) (xs := r.cells.toList) ⟨by simp [Rl.cells], Or.inr ⟨b, 1, r.cells, rfl, hb, h, Nat.le_refl _, by decide, by simp [Rl.cells], by simp [Rl.cells]⟩⟩ rfl (by simp [flatE]) (by simp)
theorem RuleRow.at {base : Nat} {w : World} {v : Value} {l : List Rl} (h : RuleRow base w v l) : RulesAt w v l := RowOf.elems Rl.size4 h
/-- a block of another make stays as it is while a row grows -/
theorem Blk.grownNe {y z : World} {base size n k : Nat} {e t : TypeId} {v : Value} {xs : List Value} {C : Array Value} (hb : Blk y k C t) (g : y.grownBy z v.ownBlock) (o : y.ownsRow base e size v n xs) (ne : e ≠ t) : Blk z k C t := by
  refine (g.block k (lt_of_block hb) ?_).trans hb
  intro q
  obtain ⟨-, ⟨rfl, -⟩ | ⟨g', cap, cur, rfl, h2, h3, -⟩⟩ := o
  · cases q
  · have e1 : k = g' := by simpa [Value.ownBlock] using q
    subst e1
    have e2 := h3.symm.trans hb
    simp at e2
    exact ne e2.2
end Go.Proofs.YtknlojlcahgnoaaGreat

namespace Go.Proofs.YtknlojlcahgnoaaGreat
open Go.RowKit
set_option linter.unusedVariables false
set_option linter.unusedSimpArgs false

theorem Blk.set2 {w : World} {b : Nat} {a0 a1 : Value} {t : TypeId} (h : Blk w b #[a0, a1] t) (v0 v1 : Value) : Blk ((w.setCell ⟨b, 0, none⟩ v0).setCell ⟨b, 1, none⟩ v1) b #[v0, v1] t := by
  have h0 : Blk _ b #[v0, a1] t := h.set 0 v0
  exact h0.set 1 v1
def pre15 (k : Nat) : ByteArray := if k = 0 then ⟨#[97]⟩ else if k = 1 then ⟨#[98]⟩ else if k = 2 then ⟨#[97, 47]⟩ else if k = 3 then ⟨#[99]⟩ else if k = 4 then ⟨#[122]⟩ else if k = 5 then ⟨#[126]⟩ else if k = 6 then ⟨#[33]⟩ else ⟨#[]⟩
def pres15 : Array Value := #[.string ⟨#[97]⟩, .string ⟨#[98]⟩, .string ⟨#[97, 47]⟩, .string ⟨#[99]⟩, .string ⟨#[122]⟩, .string ⟨#[126]⟩, .string ⟨#[33]⟩, .string ⟨#[]⟩]
theorem pres15_at (n : Nat) (h : n < 8) : pres15[n]? = some (.string (pre15 n)) := by
  rcases (by omega : n = 0 ∨ n = 1 ∨ n = 2 ∨ n = 3 ∨ n = 4 ∨ n = 5 ∨ n = 6 ∨ n = 7) with rfl | rfl | rfl | rfl | rfl | rfl | rfl | rfl <;> rfl
theorem pre15_size (n : Nat) : (pre15 n).size ≤ maxLen := by
  have h : (pre15 n).size ≤ 2 := by
    unfold pre15
    repeat' split
    all_goals decide
  have : 2 ≤ maxLen := by decide
  omega

set_option maxHeartbeats 2000000 in
set_option maxRecDepth 100000 in
theorem law15_Rules (q : Int) (v : Value) (ls : List UInt8) (w : World) (hq0 : 0 ≤ q) (hq1 : q < 256) (hv : ByteSlice w v ls) :
    Calls Tryz.prog 23 #[.int .u8 q, v] w fun x w' => ∃ m rv rs, x = .returned (.agg #[.int .i64 m, rv]) ∧ 1 ≤ m ∧ m ≤ 9 ∧ RulesAt w' rv rs ∧ (∀ r ∈ rs, RlOk r) ∧ rs.length ≤ 9 ∧ Ext w w' := by
  obtain ⟨⟨a, c, rfl, hl⟩, hlen⟩ := hv
  unfold maxLen at hlen
  have HL := Lib.hid hl
  obtain ⟨i0, hi, hz0, hz1, hz2⟩ := info_parts rule_info
  have HI := Lib.hid (And.intro hi (And.intro hz0 (And.intro hz1 hz2)))
  clear hl hi hz0 hz1 hz2
  have hq9 : q.tmod 9 = q % 9 := Int.tmod_eq_emod_of_nonneg hq0
  have hqw : IntKind.u8.wrap (q % 9) = q % 9 := by simp [IntKind.wrap, IntKind.signed, IntKind.bits]; omega
  have hqi : IntKind.i64.wrap (q % 9) = q % 9 := by simp [IntKind.wrap, IntKind.signed, IntKind.bits]; omega
  have hq1w : IntKind.i64.wrap (1 + q % 9) = 1 + q % 9 := by simp [IntKind.wrap, IntKind.signed, IntKind.bits]; omega
  have hq240 : q.tmod 240 = q % 240 := Int.tmod_eq_emod_of_nonneg hq0
  have hq24w : IntKind.u8.wrap (q % 240) = q % 240 := by simp [IntKind.wrap, IntKind.signed, IntKind.bits]; omega
  obtain ⟨f1, f2, f3, f4, f5, f6, f7⟩ := rule_bounds (j := q % 240) (by omega) (by omega)
  have hrl := fun W => law14_Rule (q % 240) W (by omega) (by omega)
  unfold ruleV at hrl
  have HRO := Lib.hid (show RlOk ⟨rP (q % 240), rE (q % 240), rB (q % 240), rK (q % 240)⟩ from ⟨f7, f1, f2, f3, f4, f5, f6⟩)
  generalize rP (q % 240) = p2 at *
  generalize rE (q % 240) = e2 at *
  generalize rB (q % 240) = b2 at *
  generalize rK (q % 240) = k2 at *
  have HRL := Lib.hid hrl
  clear hrl f1 f2 f3 f4 f5 f6 f7
  have hres := Blk.new w #[.int .i64 0, .slice none 0 0] 28
  have hxr : Ext w (w.alloc (.cells #[.int .i64 0, .slice none 0 0] 28)) := (Ext.refl w).alloc _
  go_enter Tryz.func23, Tryz.ntmps23
  go_wp2_with fail
  generalize w.alloc (.cells #[.int .i64 0, .slice none 0 0] 28) = wA at *
  refine (HRL.out _).mono ?_
  rintro x w1 ⟨rfl, hx1⟩
  have hre1 := hres.ext hx1
  have hsz1 := hre1.lt
  have bR := (Blk.new w1 #[.string p2, .int .u64 e2, .int .u64 b2, .int .u8 k2] 37).alloc (.cells #[.int .i64 (1 + q % 9), .slice (some ⟨w1.heap.size, 0, none⟩) 1 1] 28)
  have bP := Blk.new' (w1.alloc (.cells #[.string p2, .int .u64 e2, .int .u64 b2, .int .u8 k2] 37)) #[.int .i64 (1 + q % 9), .slice (some ⟨w1.heap.size, 0, none⟩) 1 1] 28 (b := w1.heap.size + 1) (by simp)
  have hx2 := (hx1.alloc (.cells #[.string p2, .int .u64 e2, .int .u64 b2, .int .u8 k2] 37)).alloc (.cells #[.int .i64 (1 + q % 9), .slice (some ⟨w1.heap.size, 0, none⟩) 1 1] 28)
  have HROW := Lib.hid (rulerow_one (r := ⟨p2, e2, b2, k2⟩) bR (Nat.le_refl _))
  have HBP := Lib.hid bP
  have HX2 := Lib.hid (hxr.trans hx2)
  have HRES := Lib.hid ((hre1.alloc (.cells #[.string p2, .int .u64 e2, .int .u64 b2, .int .u8 k2] 37)).alloc (.cells #[.int .i64 (1 + q % 9), .slice (some ⟨w1.heap.size, 0, none⟩) 1 1] 28))
  go_upto_region 2 with fail
  generalize (w1.alloc (.cells #[.string p2, .int .u64 e2, .int .u64 b2, .int .u8 k2] 37)).alloc (.cells #[.int .i64 (1 + q % 9), .slice (some ⟨w1.heap.size, 0, none⟩) 1 1] 28) = w2 at *
  have hsP : w1.heap.size + 1 < w2.heap.size := bP.lt
  have hwP : w.heap.size ≤ w1.heap.size := by omega
  generalize hP : w1.heap.size = P at *
  clear bR bP hx2 hx1 hxr hres hre1 hP
  go_wp2
  go_loopw [6] (fun i wr => ∃ (k : Nat) (rs : List Rl) (rv : Value), k ≤ ls.length ∧ k ≤ 8 ∧ i = .int .i64 k ∧ Blk wr (P + 1) #[.int .i64 (1 + q % 9), rv] 28 ∧ RuleRow P wr rv rs ∧ rs.length ≤ k + 1 ∧ (∀ r ∈ rs, RlOk r) ∧ Blk wr w.heap.size #[.int .i64 0, .slice none 0 0] 28 ∧ Ext w wr) (fun i _ => ls.length - (intOf i).toNat)
  case atStart => exact ⟨0, _, _, by omega, by omega, rfl, HBP.out, HROW.out, Nat.le_refl _, (fun r hr => by obtain rfl := List.mem_singleton.1 hr; exact HRO.out), HRES.out, HX2.out⟩
  case round =>
    obtain ⟨k, rs, rv, hk, hk8, rfl, hbp, hrow, hrl, hro, hre, hx⟩ := hrel
    obtain ⟨ra, rc, rfl⟩ := hrow.size
    clear HBP HROW HRES HX2 HRL HRO
    have HBP := Lib.hid hbp
    have HROW := Lib.hid hrow
    have HRO := Lib.hid hro
    have HRE := Lib.hid hre
    have HX := Lib.hid hx
    clear hrow hro
    have hbl := hbp.lt
    have hel := hre.lt
    by_cases hlt : k < ls.length ∧ k < 8
    · obtain ⟨hl1, hl2⟩ := hlt
      obtain ⟨b, oo, rfl, hcc⟩ := HL.out (by intro e; rw [e] at hl1; simp at hl1)
      have d0 := hx.keep (hcc k hl1)
      have hlk : 0 ≤ (ls[k].toNat : Int) ∧ (ls[k].toNat : Int) < 256 := ⟨by omega, by have := ls[k].toNat_lt; omega⟩
      generalize (ls[k].toNat : Int) = lk at *
      obtain ⟨hk0, hk1⟩ := hlk
      obtain ⟨f1, f2, f3, f4, f5, f6, f7⟩ := rule_bounds hk0 hk1
      have hrl := fun W => law14_Rule lk W hk0 hk1
      unfold ruleV at hrl
      generalize rP lk = p2 at *
      generalize rE lk = e2 at *
      generalize rB lk = b2 at *
      generalize rK lk = k2 at *
      have HRL := Lib.hid hrl
      have HNR := Lib.hid (show RlOk ⟨pre15 k, e2, b2, k2⟩ from ⟨pre15_size k, f1, f2, f3, f4, f5, f6⟩)
      have hpa := pres15_at k hl2
      simp only [pres15] at hpa
      generalize pre15 k = pk at *
      have h5 : lk.tmod 5 = lk % 5 := Int.tmod_eq_emod_of_nonneg hk0
      have h5w : IntKind.u8.wrap (lk % 5) = lk % 5 := by simp [IntKind.wrap, IntKind.signed, IntKind.bits]; omega
      clear hrl hcc f1 f2 f3 f4 f5 f6 f7 hbp hre hx
      go_wp2_with fail
      refine (HRL.out _).mono ?_
      rintro x w3 ⟨rfl, hx3⟩
      have bB := Blk.new w3 #[.string p2, .int .u64 e2, .int .u64 b2, .int .u8 k2] 37
      have hxB : Ext wr (w3.alloc (.cells #[.string p2, .int .u64 e2, .int .u64 b2, .int .u8 k2] 37)) := hx3.alloc _
      have hB3 := hx3.sz
      go_upto_region 6 with fail
      generalize w3.alloc (.cells #[.string p2, .int .u64 e2, .int .u64 b2, .int .u8 k2] 37) = w4 at *
      have fB := (bB.alloc (.cells #[.string ⟨#[97]⟩, .string ⟨#[98]⟩, .string ⟨#[97, 47]⟩, .string ⟨#[99]⟩, .string ⟨#[122]⟩, .string ⟨#[126]⟩, .string ⟨#[33]⟩, .string ⟨#[]⟩] 9)).free
      have cB0 := (bB.alloc (.cells #[.string ⟨#[97]⟩, .string ⟨#[98]⟩, .string ⟨#[97, 47]⟩, .string ⟨#[99]⟩, .string ⟨#[122]⟩, .string ⟨#[126]⟩, .string ⟨#[33]⟩, .string ⟨#[]⟩] 9)).cell
      have lB := bB.lt
      have hpc : (w4.alloc (.cells #[.string ⟨#[97]⟩, .string ⟨#[98]⟩, .string ⟨#[97, 47]⟩, .string ⟨#[99]⟩, .string ⟨#[122]⟩, .string ⟨#[126]⟩, .string ⟨#[33]⟩, .string ⟨#[]⟩] 9)).cell? ⟨w4.heap.size, k, none⟩ = some (.string pk) := ((Blk.new w4 #[.string ⟨#[97]⟩, .string ⟨#[98]⟩, .string ⟨#[97, 47]⟩, .string ⟨#[99]⟩, .string ⟨#[122]⟩, .string ⟨#[126]⟩, .string ⟨#[33]⟩, .string ⟨#[]⟩] 9).cell k).trans hpa
      have bB5 := (bB.set 0 (.string pk)).alloc (.cells #[.string ⟨#[97]⟩, .string ⟨#[98]⟩, .string ⟨#[97, 47]⟩, .string ⟨#[99]⟩, .string ⟨#[122]⟩, .string ⟨#[126]⟩, .string ⟨#[33]⟩, .string ⟨#[]⟩] 9)
      have hxC := (hxB.setCell (p := ⟨w3.heap.size, 0, none⟩) (by dsimp only; omega) (.string pk)).alloc (.cells #[.string ⟨#[97]⟩, .string ⟨#[98]⟩, .string ⟨#[97, 47]⟩, .string ⟨#[99]⟩, .string ⟨#[122]⟩, .string ⟨#[126]⟩, .string ⟨#[33]⟩, .string ⟨#[]⟩] 9)
      go_upto_region 7 with fail
      generalize (w4.setCell ⟨w3.heap.size, 0, none⟩ (.string pk)).alloc (.cells #[.string ⟨#[97]⟩, .string ⟨#[98]⟩, .string ⟨#[97, 47]⟩, .string ⟨#[99]⟩, .string ⟨#[122]⟩, .string ⟨#[126]⟩, .string ⟨#[33]⟩, .string ⟨#[]⟩] 9) = w5 at *
      have d0 := hxC.keep d0
      have hszC := hxC.sz
      have HB5 := Lib.hid (show Blk w5 w3.heap.size #[.string pk, .int .u64 e2, .int .u64 b2, .int .u8 k2] 37 from bB5)
      have HXC := Lib.hid hxC
      clear bB hxB fB cB0 lB bB5 hxC hpa hpc hx3
      by_cases hg : 0 < lk % 5
      · have HP5 := Lib.hid (HBP.out.ext HXC.out)
        have cP := HP5.out.cell
        have fP := HP5.out.free
        have lP := HP5.out.lt
        have cB := HB5.out.cell
        have lB := HB5.out.lt
        have hrl9 : rs.length ≤ 8 := by omega
        have hml : (100 : Nat) ≤ maxLen := by decide
        go_wp2_with (first
          | (at_builtin; refine wpList_append_own _ rfl (.tmp 44) (.tmp 46) 26 rfl P 37 i0 (.agg #[.string ⟨#[]⟩, .int .u64 0, .int .u64 0, .int .u8 0]) 4 40 Tryz.underlying26 HI.out.1 HI.out.2.1 HI.out.2.2.1 HI.out.2.2.2 rfl (by decide) _ _ _ rfl ((own_ext HROW.out.own HXC.out).alloc _) ⟨w5.heap.size, 0, none⟩ 1 1 [.string pk, .int .u64 e2, .int .u64 b2, .int .u8 k2] rfl rfl ?_ ?_ ?_ ?_ ?_ ?_; (· exact blk_news (C := #[.string pk, .int .u64 e2, .int .u64 b2, .int .u8 k2]) (Blk.new _ _ _)); (· simp [Value.oneCell']); (· omega); (· omega); (· simp; omega); rintro v' w9 hown hgrow -
             have hrow9 : RuleRow P w9 v' (rs ++ [⟨pk, e2, b2, k2⟩]) := rulerow_more hown rfl
             obtain ⟨va, vc, rfl⟩ := hrow9.size
             have bt9 : Blk w9 (P + 1) #[.int .i64 (1 + q % 9), .slice ra rs.length rc] 28 := Blk.grownNe (HP5.out.alloc _) hgrow ((own_ext HROW.out.own HXC.out).alloc _) (by decide)
             have tc9 := bt9.cell
             have tf9 := bt9.free)
          | fail)
        have hx9 : Ext w w9 := Ext.grownAt ((HX.out.trans HXC.out).alloc _) ((own_ext HROW.out.own HXC.out).alloc _) hwP hgrow
        have hre9 : Blk w9 w.heap.size #[.int .i64 0, .slice none 0 0] 28 := Blk.grownNe ((HRE.out.ext HXC.out).alloc _) hgrow ((own_ext HROW.out.own HXC.out).alloc _) (by decide)
        have HT9 := Lib.hid bt9
        clear hgrow bt9 tc9 tf9
        go_wp2
        go_roundw
        case rel =>
          refine ⟨k + 1, rs ++ [⟨pk, e2, b2, k2⟩], .slice va (rs.length + 1) vc, by omega, by omega, by go_num, HT9.out.set 1 _, (by have h := hrow9.setOther HT9.out (by decide) 1 (.slice va (rs.length + 1) vc); simpa only [List.length_append, List.length_cons, List.length_nil, Nat.zero_add] using h), by simp; omega, fun r hr => ?_, hre9.other (by dsimp only; omega) _, hx9.setCell (by dsimp only; omega) _⟩
          rcases List.mem_append.1 hr with hr | hr
          · exact HRO.out r hr
          · obtain rfl := List.mem_singleton.1 hr
            exact HNR.out
        case measure => simp [intOf]; omega
      · have hg2 : ¬ (lk % 5 > 0) := by omega
        go_wp2
        go_roundw
        case rel => exact ⟨k + 1, rs, _, by omega, by omega, by go_num, HBP.out.ext HXC.out, HROW.out.ext HXC.out, by omega, HRO.out, HRE.out.ext HXC.out, HX.out.trans HXC.out⟩
        case measure => simp [intOf]; omega
    · have cP := HBP.out.cell
      have cE := HRE.out.cell
      have fE := HRE.out.free
      have hk89 : rs.length ≤ 9 := by omega
      go_upto_region 9 with fail
      all_goals
        go_wp2
        refine ret_cell Tryz.results23 rfl (Blk.set2 HRE.out (.int .i64 (1 + q % 9)) (.slice ra rs.length rc)) Tryz.underlying28 rfl (by kernel_rfl) ?_
        exact ⟨_, _, rs, rfl, by omega, by omega, RowOf.elems Rl.size4 ((HROW.out.setOther HRE.out (by decide) 0 _).setOther (HRE.out.set 0 _) (by decide) 1 _), HRO.out, hk89, (HX.out.setCell (Nat.le_refl _) _).setCell (Nat.le_refl _) _⟩
end Go.Proofs.YtknlojlcahgnoaaGreat
