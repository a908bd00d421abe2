/- Walks: keep.judge.stays: who does. -/
import Derived.Test.YtfglpejbgfmojaaGreatG42
import Derived.Test.YtfglpejbgfmojaaGreatG10

/- Walks: keep.judge.stays: who does. -/
namespace Go.Proofs.YtfglpejbgfmojaaGreat
open Go.RowKit
set_option linter.unusedVariables false
set_option linter.unusedSimpArgs false

set_option maxHeartbeats 40000000 in
set_option maxRecDepth 100000 in
theorem keep_stays_yes (lo root : Nat) (many clock : Int) (ns : NSet) (rs : List Rl) (s : Slot) (r : Rl) (w : World) (hT : TreeAt w lo root many ns) (hh : HoldsR ns rs) (hr : RlOk r) (hs : SlotOk s) (hsk : rightKind s.sk = true) (hb : bestR rs s.key.data.toList = some r) (hre : r.e = s.e) (hrb : r.b = s.b) (herr : r.err = 0)
    (hn0 : 0 ≤ clock) (hn1 : clock < 18446744073709551616) :
    Calls Tryz.prog 83 #[.agg #[.pointer (some ⟨root, 0, none⟩), .int .u64 clock], s.val] w fun x w' => x = .returned (.tuple #[(keptS clock r s).val, .bool true]) ∧ Ext w w' := by
  have hrk := (keptS_ok hr hs herr hn0 hn1).2
  obtain ⟨k, sp, se, sbu, srk, sk, sa, sb⟩ := s
  obtain ⟨m1, m2, u1, u2, u3, u4, u5, u6, u7, u8, u9, u10, u11, u12⟩ := hs
  obtain ⟨rp, re, rb, rk⟩ := r
  obtain ⟨v1, v2, v3, v4, v5, v6, v7⟩ := hr
  simp only at m1 m2 u1 u2 u3 u4 u5 u6 u7 u8 u9 u10 u11 u12 v1 v2 v3 v4 v5 v6 v7 hsk hb hre hrb hrk
  subst hre hrb
  have hF := fun W (hx : Ext w W) => tree_Find lo root many ns rs k W (hT.ext hx) hh m1
  rw [hb] at hF
  have HF := Lib.hid hF
  have hRR := fun W => rule_Right rp re rb rk W v1 v2 v3 v4 v5
  have herr' : ruleErr rp re rb rk = 0 := herr
  rw [herr'] at hRR
  have HRR := Lib.hid hRR
  have hcu := ruleCap_u rp re rb rk v2 v4
  have hCP := fun W => rule_Cap rp re rb rk W v1 v2 v3 v4 v5
  have hKS : keptS clock ⟨rp, re, rb, rk⟩ ⟨k, sp, re, rb, srk, sk, sa, sb⟩ = ⟨k, rp, re, rb, rk, rk, kOfA rk clock (ruleCap rp re rb rk) (kFill sk sa sb clock (ruleCap rp re rb rk)), kOfB rk clock⟩ := rfl
  rw [hKS]
  generalize ruleCap rp re rb rk = cap at *
  obtain ⟨hc0, hc1⟩ := hcu
  have HCP := Lib.hid hCP
  have HMG := Lib.hid (fun W : World => kernel_Migrate sk sa sb rk clock cap W u9 u10 u11 u12 hn0 hn1 hc0 (by omega) hsk hrk)
  generalize kOfA rk clock cap (kFill sk sa sb clock cap) = oa at *
  generalize kOfB rk clock = ob at *
  have bj := ((Blk.new w #[.pointer (some ⟨root, 0, none⟩), .int .u64 clock] 141).alloc (.cells #[.string k, .string sp, .int .u64 re, .int .u64 rb, .int .u8 srk, .int .u8 sk, .int .u64 sa, .int .u64 sb] 65)).alloc (.cells slot0.cells 65)
  have bs := (Blk.new' (w.alloc (.cells #[.pointer (some ⟨root, 0, none⟩), .int .u64 clock] 141)) #[.string k, .string sp, .int .u64 re, .int .u64 rb, .int .u8 srk, .int .u8 sk, .int .u64 sa, .int .u64 sb] 65 (b := w.heap.size + 1) (by simp)).alloc (.cells slot0.cells 65)
  have bq := Blk.new' ((w.alloc (.cells #[.pointer (some ⟨root, 0, none⟩), .int .u64 clock] 141)).alloc (.cells #[.string k, .string sp, .int .u64 re, .int .u64 rb, .int .u8 srk, .int .u8 sk, .int .u64 sa, .int .u64 sb] 65)) slot0.cells 65 (b := w.heap.size + 1 + 1) (by simp)
  have hx0 : Ext w (((w.alloc (.cells #[.pointer (some ⟨root, 0, none⟩), .int .u64 clock] 141)).alloc (.cells #[.string k, .string sp, .int .u64 re, .int .u64 rb, .int .u8 srk, .int .u8 sk, .int .u64 sa, .int .u64 sb] 65)).alloc (.cells slot0.cells 65)) := (((Ext.refl w).alloc _).alloc _).alloc _
  simp only [Slot.val, Slot.cells, slot0] at bj bs bq hx0 ⊢
  clear hT hh hF hRR hCP hKS herr herr' hb
  go_enter Tryz.func83, Tryz.ntmps83
  go_wp2_with fail
  generalize ((w.alloc (.cells #[.pointer (some ⟨root, 0, none⟩), .int .u64 clock] 141)).alloc (.cells #[.string k, .string sp, .int .u64 re, .int .u64 rb, .int .u8 srk, .int .u8 sk, .int .u64 sa, .int .u64 sb] 65)).alloc (.cells #[.string ⟨#[]⟩, .string ⟨#[]⟩, .int .u64 0, .int .u64 0, .int .u8 0, .int .u8 0, .int .u64 0, .int .u64 0] 65) = w0 at *
  have q0 : w0.cell? ⟨w.heap.size, 0, none⟩ = some (.pointer (some ⟨root, 0, none⟩)) := bj.cell 0
  have q1 : w0.cell? ⟨w.heap.size + 1, 0, none⟩ = some (.string k) := bs.cell 0
  refine (HF.out _ hx0).mono ?_
  simp only [findV, Rl.cells]
  rintro x w1 ⟨rfl, hx1⟩
  have bj1 := (bj.ext hx1).alloc (.cells #[.string rp, .int .u64 re, .int .u64 rb, .int .u8 rk] 29)
  have b1 := (bs.ext hx1).alloc (.cells #[.string rp, .int .u64 re, .int .u64 rb, .int .u8 rk] 29)
  have b2 := (bq.ext hx1).alloc (.cells #[.string rp, .int .u64 re, .int .u64 rb, .int .u8 rk] 29)
  have b3 := Blk.new w1 #[.string rp, .int .u64 re, .int .u64 rb, .int .u8 rk] 29
  have HX := Lib.hid ((hx0.trans hx1).alloc (.cells #[.string rp, .int .u64 re, .int .u64 rb, .int .u8 rk] 29))
  clear hx1 hx0 HF bs bq bj q0 q1
  have c0 : ∀ o, (w1.alloc (.cells #[.string rp, .int .u64 re, .int .u64 rb, .int .u8 rk] 29)).cell? ⟨w.heap.size + 1, o, none⟩ = _ := b1.cell
  have c3 : ∀ o, (w1.alloc (.cells #[.string rp, .int .u64 re, .int .u64 rb, .int .u8 rk] 29)).cell? ⟨w1.heap.size, o, none⟩ = _ := b3.cell
  have cl := b1.lt
  have HBJ := Lib.hid bj1
  have HB1 := Lib.hid b1
  have HB2 := Lib.hid b2
  have HB3 := Lib.hid b3
  have hw1 : w.heap.size + 1 + 1 < w1.heap.size := by
    have h1 := b2.lt
    have h2 : (w1.alloc (.cells #[.string rp, .int .u64 re, .int .u64 rb, .int .u8 rk] 29)).heap.size = w1.heap.size + 1 := by simp
    rw [h2] at h1
    rcases Nat.lt_or_ge (w.heap.size + 1 + 1) w1.heap.size with q | q
    · exact q
    · exfalso
      have e : w.heap.size + 1 + 1 = w1.heap.size := by omega
      have h3 := b3
      rw [← e] at h3
      have := (show (w1.alloc _).heap[w.heap.size + 1 + 1]? = _ from b2).symm.trans (show (w1.alloc _).heap[w.heap.size + 1 + 1]? = _ from h3)
      simp at this
  clear bj1 b1 b2 b3
  go_wp2_with fail
  refine (keep_Same_yes rp sp re rb rk srk _).mono ?_
  rintro x w2 ⟨rfl, hx2⟩
  have e3 : ∀ o, w2.cell? ⟨w1.heap.size, o, none⟩ = _ := (HB3.out.ext hx2).cell
  have H2 := Lib.hid hx2
  clear hx2 c0 c3
  go_wp2_with fail
  refine (HRR.out _).mono ?_
  rintro x w3 ⟨rfl, hx3⟩
  have hx23 := H2.out.trans hx3
  have bj3 := HBJ.out.ext hx23
  have bs3 := HB1.out.ext hx23
  have bq3 := HB2.out.ext hx23
  have br3 := HB3.out.ext hx23
  have HX3 := Lib.hid (HX.out.trans hx23)
  clear hx23 hx3 e3
  have late : ∀ {b i : Nat} {v : Value}, w3.cell? ⟨b, i, none⟩ = some v → b ≠ w.heap.size + 1 → ∀ X (s : LateB w3 (w.heap.size + 1) X), (lateB s).cell? ⟨b, i, none⟩ = some v := fun h hne _ s => lateB_cell h hne s
  have hgl : w.heap.size + 1 < w3.heap.size := bs3.lt
  have j1 := late (bj3.cell 1) (by omega)
  have r0 := late (br3.cell 0) (by omega)
  have r1 := late (br3.cell 1) (by omega)
  have r2 := late (br3.cell 2) (by omega)
  have r3 := late (br3.cell 3) (by omega)
  have own : ∀ (s : LateB w3 (w.heap.size + 1) (some (.cells #[.string k, .string sp, .int .u64 re, .int .u64 rb, .int .u8 srk, .int .u8 sk, .int .u64 sa, .int .u64 sb] 65))) i, (lateB s).cell? ⟨w.heap.size + 1, i, none⟩ = (#[.string k, .string sp, .int .u64 re, .int .u64 rb, .int .u8 srk, .int .u8 sk, .int .u64 sa, .int .u64 sb] : Array Value)[i]? := fun s i => Blk.cell (show Blk (lateB s) _ _ _ from s.blk) i
  have s5 := fun s => own s 5
  have s6 := fun s => own s 6
  have s7 := fun s => own s 7
  simp only [List.getElem?_toArray, List.getElem?_cons_succ, List.getElem?_cons_zero] at s5 s6 s7 j1 r0 r1 r2 r3
  have HBS := Lib.hid bs3
  have HBQ := Lib.hid bq3
  have HBR := Lib.hid br3
  clear own late bj3 bs3 bq3 br3
  go_upto_region 4 with fail
  apply wp_region_late [0, 1, 2, 3, 4, 5, 6, 7, 8, 9, 10, 12] 13 [11] (by kernel_rfl) (by kernel_rfl) (by kernel_rfl) rfl rfl (by kernel_rfl) (by kernel_rfl) rfl rfl (by kernel_rfl) HBS.out ?g1 ?g2 ?g3 ?g4 ?g5
  case g1 =>
    intro inst
    simp only [pick, pick_one, List.getElem?_cons_zero, List.getElem?_cons_succ]
    repeat (go_big_quiet_step (first
      | (go_at_call 51; exact late_call hgl (HCP.out _))
      | (go_at_call 125; exact late_call hgl (HMG.out _))))
    refine wpQuiet_nil ?_
    exact rfl
  case g2 => rfl
  case g3 => exact late_store (o := 5) (C := #[.string k, .string sp, .int .u64 re, .int .u64 rb, .int .u8 srk, .int .u8 sk, .int .u64 sa, .int .u64 sb]) (cells := #[.int .u8 rk, .int .u64 oa, .int .u64 ob]) rfl rfl rfl rfl rfl (by simp) (by kernel_rfl) (by simp [Value.oneCell'])
  case g4 =>
    intro Z inst
    simp only [pick, pick_one, List.getElem?_cons_zero, List.getElem?_cons_succ]
    repeat (go_big_quiet_step (fail))
    refine wpQuiet_nil ?_
    exact rfl
  rintro sg
  have bs6 : Blk (lateB sg) (w.heap.size + 1) #[.string k, .string sp, .int .u64 re, .int .u64 rb, .int .u8 srk, .int .u8 rk, .int .u64 oa, .int .u64 ob] 65 := sg.blk
  have bq6 : Blk (lateB sg) _ _ _ := HBQ.out.extB sg.ext (by omega)
  have br6 : Blk (lateB sg) _ _ _ := HBR.out.extB sg.ext (by omega)
  have hx6 : Ext w (lateB sg) := Ext.own HX3.out sg.ext (by omega)
  generalize lateB sg = wc at *
  have HX6 := Lib.hid hx6
  have ce := br6.cell
  have cl6 := br6.lt
  have se6 := bs6.cell
  have sf6 := bs6.free
  have sl6 := bs6.lt
  have BS6 := Lib.hid bs6
  have BQ6 := Lib.hid bq6
  clear bs6 bq6 br6 hx6 j1 s5 s6 s7 r0 r1 r2 r3
  go_upto_region 6 with fail
  have bs7 := blk8_mid BS6.out (.string rp) (.int .u64 re) (.int .u64 rb) (.int .u8 rk)
  have bq7 := (((BQ6.out.other (a := ⟨w.heap.size + 1, 1, none⟩) (by dsimp only; omega) (.string rp)).other (a := ⟨w.heap.size + 1, 2, none⟩) (by dsimp only; omega) (.int .u64 re)).other (a := ⟨w.heap.size + 1, 3, none⟩) (by dsimp only; omega) (.int .u64 rb)).other (a := ⟨w.heap.size + 1, 4, none⟩) (by dsimp only; omega) (.int .u8 rk)
  have hx7 := (((HX6.out.setCell (p := ⟨w.heap.size + 1, 1, none⟩) (by dsimp only; omega) (.string rp)).setCell (p := ⟨w.heap.size + 1, 2, none⟩) (by dsimp only; omega) (.int .u64 re)).setCell (p := ⟨w.heap.size + 1, 3, none⟩) (by dsimp only; omega) (.int .u64 rb)).setCell (p := ⟨w.heap.size + 1, 4, none⟩) (by dsimp only; omega) (.int .u8 rk)
  generalize (((wc.setCell ⟨w.heap.size + 1, 1, none⟩ (.string rp)).setCell ⟨w.heap.size + 1, 2, none⟩ (.int .u64 re)).setCell ⟨w.heap.size + 1, 3, none⟩ (.int .u64 rb)).setCell ⟨w.heap.size + 1, 4, none⟩ (.int .u8 rk) = w7 at *
  have e7 := bs7.cell
  have el := bs7.lt
  have d0 := bq7.cell
  have df := bq7.free
  have dl2 := bq7.lt
  have HX7 := Lib.hid hx7
  have B2 := Lib.hid bq7
  clear bs7 bq7 hx7 ce cl6 se6 sf6 sl6
  go_wp2
  have hS := blk8_set B2.out (.string k) (.string rp) (.int .u64 re) (.int .u64 rb) (.int .u8 rk) (.int .u8 rk) (.int .u64 oa) (.int .u64 ob)
  refine ret_cell_tmp Tryz.results83 rfl rfl hS Tryz.underlying65 rfl (by kernel_rfl) ⟨rfl, ?_⟩
  exact ext8_set HX7.out (by omega) _ _ _ _ _ _ _ _

end Go.Proofs.YtfglpejbgfmojaaGreat
