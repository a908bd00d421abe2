/- Walks: the deferred closure of config.Parse. -/
import Derived.RegionTactic
import Derived.BigRegion
import Derived.Deep.CutBlock
import Derived.Test.YtknlojlcahgnoaaGreatCf35
import Derived.Test.YtknlojlcahgnoaaGreatCf4

namespace Go.Proofs.YtknlojlcahgnoaaGreat
open Go.RowKit
set_option linter.unusedVariables false
set_option linter.unusedSimpArgs false

theorem assert_fault (v : Value) (w : World) : (Instr.typeAssert (.iface 100 v) 20 100 true).run Tryz.prog w = .ok (.tuple #[v, .bool true]) w := by
  simp [Instr.typeAssert, run_underlying Tryz.underlying100]
set_option maxHeartbeats 2000000 in
set_option maxRecDepth 100000 in
theorem parse_idle (p q r : Addr) (w : World) :
    CallsD Tryz.prog 45 #[.pointer (some p), .pointer (some q), .pointer (some r)] .returning w fun e u' w' => e = .returned (.tuple #[]) ∧ u' = .returning ∧ w' = w := by
  refine callsD_of_wpS Tryz.func45 rfl fun c₀ cs hu => ?_
  apply wpS_seq
  apply wpS_region
  refine opsS_recover_none (a2 := { tmps := #[.pointer (some p), .pointer (some q), .pointer (some r), .nilIface, undef, undef, .nilIface, undef, undef, undef, undef, undef, undef, undef, undef, undef, undef, undef, undef, undef, undef, undef], defers := [] }) rfl rfl rfl rfl rfl rfl rfl (by simp [recoverD, hu]) (by kernel_rfl) ?_
  show Code.wpS _ _ _ _ _ _
  refine wpS_of_wp ?_
  go_wp2
  cases c₀
  simp_all [bodyPostS, results, Tryz.results45]
set_option maxHeartbeats 2000000 in
set_option maxRecDepth 100000 in
theorem parse_catch (P : Nat) (e ln cl : Int) (w : World) (h0 : Blk w P #[.int .i64 0, .slice none 0 0] 28) (h1 : Blk w (P + 1) #[.int .u16 0] 40) (h2 : Blk w (P + 2) #[.int .i64 0, .int .i64 0] 44) :
    CallsD Tryz.prog 45 #[.pointer (some ⟨P, 0, none⟩), .pointer (some ⟨P + 1, 0, none⟩), .pointer (some ⟨P + 2, 0, none⟩)] (.panicking [{ v := faultV e ln cl, recovered := false }]) w fun x u' w' =>
      x = .returned (.tuple #[]) ∧ u' = .panicking [{ v := faultV e ln cl, recovered := true }] ∧ Blk w' P #[.int .i64 0, .slice none 0 0] 28 ∧ Blk w' (P + 1) #[.int .u16 e] 40 ∧ Blk w' (P + 2) #[.int .i64 ln, .int .i64 cl] 44 ∧
      FrP (fun k => k ≠ P ∧ k ≠ P + 1 ∧ k ≠ P + 2) w w' := by
  refine callsD_of_wpS Tryz.func45 rfl fun c₀ cs hu => ?_
  unfold faultV at *
  apply wpS_seq
  apply wpS_region
  refine opsS_recover (a2 := { tmps := #[.pointer (some ⟨P, 0, none⟩), .pointer (some ⟨P + 1, 0, none⟩), .pointer (some ⟨P + 2, 0, none⟩), (.iface 100 (.agg #[.int .u16 e, .int .i64 ln, .int .i64 cl])), undef, undef, (.iface 100 (.agg #[.int .u16 e, .int .i64 ln, .int .i64 cl])), undef, undef, undef, undef, undef, undef, undef, undef, undef, undef, undef, undef, undef, undef, undef], defers := [] }) rfl rfl rfl rfl rfl rfl rfl (by simp [recoverD, hu]; exact ⟨rfl, rfl⟩) (by kernel_rfl) ?_
  show Code.wpS _ _ _ _ _ _
  refine wpS_of_wp ?_
  have hta := assert_fault (.agg #[.int .u16 e, .int .i64 ln, .int .i64 cl])
  have l2 := h2.lt
  have H0 := Lib.hid h0
  have H1 := Lib.hid h1
  have H2 := Lib.hid h2
  have HU := Lib.hid hu
  clear hu
  go_upto_region 5 with fail
  have bF := Blk.new w #[.int .u16 e, .int .i64 ln, .int .i64 cl] 100
  have hx : Ext w (w.alloc (.cells #[.int .u16 e, .int .i64 ln, .int .i64 cl] 100)) := (Ext.refl w).alloc _
  generalize hw3 : w.alloc (.cells #[.int .u16 e, .int .i64 ln, .int .i64 cl] 100) = w3 at *
  generalize hF : w.heap.size = F at *
  have n0 : ¬ F = P := by omega
  have n1 : ¬ F = P + 1 := by omega
  have n2 : ¬ F = P + 2 := by omega
  have c0 := bF.cell 0
  have c1 := bF.cell 1
  have c2 := bF.cell 2
  have p0 := (h0.ext hx).cell 0
  have p1 := (h0.ext hx).cell 1
  have q0 := (h1.ext hx).cell 0
  have r0 := (h2.ext hx).cell 0
  have r1 := (h2.ext hx).cell 1
  have g0 := (h0.ext hx).free 0
  have g1 := (h0.ext hx).free 1
  have g2 := (h1.ext hx).free 0
  have g3 := (h2.ext hx).free 0
  have g4 := (h2.ext hx).free 1
  simp only [List.getElem?_toArray, List.getElem?_cons_zero, List.getElem?_cons_succ] at c0 c1 c2 p0 p1 q0 r0 r1
  clear h0 h1 h2
  have B0 := Lib.hid (H0.out.ext hx)
  have B1 := Lib.hid (H1.out.ext hx)
  have B2 := Lib.hid (H2.out.ext hx)
  have HXF := Lib.hid (hx.frP (fun k => k ≠ P ∧ k ≠ P + 1 ∧ k ≠ P + 2))
  clear hx hw3
  go_region
  go_wp2
  refine ⟨rfl, _, rfl, .tuple #[], by simp [results, Tryz.results45], rfl, rfl, ?_, ?_, ?_, ?_⟩
  · exact (((((B0.out.set 0 _).set 1 _).other (a := ⟨P + 1, 0, none⟩) (by dsimp only; omega) _).other (a := ⟨P + 2, 0, none⟩) (by dsimp only; omega) _).other (a := ⟨P + 2, 1, none⟩) (by dsimp only; omega) _).drew
  · exact (((((B1.out.other (a := ⟨P, 0, none⟩) (by dsimp only; omega) _).other (a := ⟨P, 1, none⟩) (by dsimp only; omega) _).set 0 _).other (a := ⟨P + 2, 0, none⟩) (by dsimp only; omega) _).other (a := ⟨P + 2, 1, none⟩) (by dsimp only; omega) _).drew
  · exact (((((B2.out.other (a := ⟨P, 0, none⟩) (by dsimp only; omega) _).other (a := ⟨P, 1, none⟩) (by dsimp only; omega) _).other (a := ⟨P + 1, 0, none⟩) (by dsimp only; omega) _).set 0 _).set 1 _).drew
  · have h9 := (((((HXF.out.setCell (b := P) (fun q => q.1 rfl) 0 (.int .i64 0)).setCell (b := P) (fun q => q.1 rfl) 1 (.slice none 0 0)).setCell (b := P + 1) (fun q => q.2.1 rfl) 0 (.int .u16 e)).setCell (b := P + 2) (fun q => q.2.2 rfl) 0 (.int .i64 ln)).setCell (b := P + 2) (fun q => q.2.2 rfl) 1 (.int .i64 cl))
    exact h9.trans ((Ext.refl _).drew.frP _)
end Go.Proofs.YtknlojlcahgnoaaGreat
