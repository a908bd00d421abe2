/- Walks: words.Split. Bytes of a conversion, in a row of the call's own: appended to, a byte at a time. -/
import Derived.Deep.CutBlock
import Derived.Deep.AppendSrc
import Derived.Test.YtknlojlcahgnoaaGreatCf29
import Derived.Test.YtknlojlcahgnoaaGreatCf0

namespace Go.Proofs.YtknlojlcahgnoaaGreat
open Go.RowKit
set_option linter.unusedVariables false
set_option linter.unusedSimpArgs false

theorem run_store_complexS {P : Program} {w : World} {a : Addr} {m : Mode} (k : FloatKind) (x y : Nat) : (store a (.complex k x y) m).run P w = stored P w a (.complex k x y) m := run_store P w a _ m rfl
attribute [local go_sem] run_store_complexS
section
variable {P : Program}
theorem ret_ttc {fn : Func} {R : Ending → World → Prop} {tmps : Array Value} {w : World} {p q c : Tmp} {ty t : TypeId} {g : Nat} {C : Array Value} {d : TypeDesc} {v u : Value} (h : fn.results = #[.tmp p, .tmp q, .cell c ty])
    (hp : tmps.getD p undef = v) (hq : tmps.getD q undef = u) (hc : tmps.getD c undef = .pointer (some ⟨g, 0, none⟩)) (hB : Blk w g C t) (hu : P.underlying ty = some d) (hd : aggKind d = true) (hi : (P.info? ty).map (·.size) = some C.size)
    (hR : R (.returned (.tuple #[v, u, .agg C])) w) : bodyPost P fn R .ret { tmps := tmps, defers := [] } w := by
  refine bodyPost_ret (v := .tuple #[v, u, .agg C]) ?_ rfl hR
  have hp' : tmps[p]?.getD undef = v := by simpa using hp
  have hq' : tmps[q]?.getD undef = u := by simpa using hq
  have hc' : tmps[c]?.getD undef = .pointer (some ⟨g, 0, none⟩) := by simpa using hc
  simp [results, h, hp', hq', hc', asAddr, run_loadVar_blk hB hu hd hi]
end
/-- a slice's length is at most its capacity -/
def CapLe (v : Value) : Prop := ∀ a n c, v = .slice a n c → n ≤ c
/-- what was told: the lines, or what is wrong, and where -/
def SplitIs (w : World) (l : List UInt8) (x : Ending) (w' : World) : Prop :=
  ∃ ov, x = .returned (.tuple #[ov, .int .u16 (splitE l), .agg #[.int .i64 (splitAt' l).1, .int .i64 (splitAt' l).2]]) ∧ LinesAt w' ov (splitL l) ∧ Ext w w'
theorem SplitIs.big {w w' : World} {l : List UInt8} (h : 1048576 < l.length) (e : Ext w w') : SplitIs w l (.returned (.tuple #[.slice none 0 0, .int .u16 21, .agg #[.int .i64 0, .int .i64 0]])) w' := by
  refine ⟨.slice none 0 0, ?_, ?_, e⟩
  · unfold splitE splitAt'
    rw [if_pos h, if_pos h]
  · unfold splitL
    rw [if_pos h]
    exact ⟨none, 0, rfl, fun q => absurd rfl q⟩
theorem SplitIs.bad {w w' : World} {l : List UInt8} {a b : Nat} (h : ¬ 1048576 < l.length) (hw : wordsOf l = .inl (a, b)) (e : Ext w w') : SplitIs w l (.returned (.tuple #[.slice none 0 0, .int .u16 20, .agg #[.int .i64 (a : Int), .int .i64 (b : Int)]])) w' := by
  refine ⟨.slice none 0 0, ?_, ?_, e⟩
  · unfold splitE splitAt'
    rw [if_neg h, if_neg h, hw]
  · unfold splitL
    rw [if_neg h, hw]
    exact ⟨none, 0, rfl, fun q => absurd rfl q⟩
theorem SplitIs.good {w w' : World} {l : List UInt8} {ls : List (List Wd)} {ov : Value} (h : ¬ 1048576 < l.length) (hw : wordsOf l = .inr ls) (hl : LinesAt w' ov ls) (e : Ext w w') : SplitIs w l (.returned (.tuple #[ov, .int .u16 0, .agg #[.int .i64 0, .int .i64 0]])) w' := by
  refine ⟨ov, ?_, ?_, e⟩
  · unfold splitE splitAt'
    rw [if_neg h, if_neg h, hw]
  · unfold splitL
    rw [if_neg h, hw]
    exact hl
theorem sp_meas {w1 W : World} {n k b : Nat} (h1 : Blk w1 b #[.int .i64 (k : Int)] 3) (h2 : Blk W b #[.int .i64 ((k + 1 : Nat) : Int)] 3) (hk : k < n) :
    n - (intOf ((W.cell? ⟨b, 0, none⟩).getD undef)).toNat < n - (intOf ((w1.cell? ⟨b, 0, none⟩).getD undef)).toNat := by
  rw [h1.cell, h2.cell]
  simp [intOf]
  omega
def SpNext (l : List UInt8) (tv : Value) (w : World) (k : Nat) (w' : World) : Prop :=
  ∃ (was : Int) (from_ : Nat) (rv ov : Value) (vs : List Value) (lim : Nat), k ≤ l.length ∧ Fair (l.take k) ∧ SpMem w' w.heap.size tv k was from_ rv ov vs lim (spTo (l.take k)).line (spTo (l.take k)).col (spTo (l.take k)).row (spTo (l.take k)).out ∧
    (was = 0 ↔ (spTo (l.take k)).cur ≠ []) ∧ ((spTo (l.take k)).cur ≠ [] → from_ + (spTo (l.take k)).cur.length = k ∧ (spTo (l.take k)).cur = (l.take k).drop from_) ∧ Ext w w'
def SpAct (ta : Option Addr) (n tc : Nat) (B : Nat) (a' : Act) : Prop :=
  ∃ u8 u14 u15 u16 u17 u18 u19 u20 u21 u22 u23 u24 u25 u26 u27 u28 u29 u30 u31 u32 u33 u34 u35 u36 u37 u38 u39 u40 u41 u42 u43 u44 u45 u46 u47 u48 u49 u50 u51 u52 u53 u54 u55 u56 u57 u58 u59 u60 u61 u62 u63 u64 : Value, a' = { tmps := #[.slice ta n tc, .pointer (some ⟨B, 0, none⟩), .slice none 0 0, .int .u16 0, .pointer (some ⟨B + 1, 0, none⟩), .pointer (some ⟨B + 2, 0, none⟩), .pointer (some ⟨B + 3, 0, none⟩), .pointer (some ⟨B + 4, 0, none⟩), u8, .pointer (some ⟨B + 5, 0, none⟩), .pointer (some ⟨B + 6, 0, none⟩), .pointer (some ⟨B + 7, 0, none⟩), .func (.func 94) #[] #[.pointer (some ⟨B + 7, 0, none⟩), .pointer (some ⟨B + 6, 0, none⟩), .pointer (some ⟨B + 5, 0, none⟩), .pointer (some ⟨B + 4, 0, none⟩), .pointer (some ⟨B + 3, 0, none⟩), .pointer (some ⟨B, 0, none⟩)], .func (.func 96) #[] #[.pointer (some ⟨B + 3, 0, none⟩), .pointer (some ⟨B + 2, 0, none⟩)], u14, u15, u16, u17, u18, u19, u20, u21, u22, u23, u24, u25, u26, u27, u28, u29, u30, u31, u32, u33, u34, u35, u36, u37, u38, u39, u40, u41, u42, u43, u44, u45, u46, u47, u48, u49, u50, u51, u52, u53, u54, u55, u56, u57, u58, u59, u60, u61, u62, u63, u64], defers := [] }

theorem SpMem.ext {w w' : World} {tv rv ov : Value} {k from_ : Nat} {was : Int} {vs : List Value} {lim line col : Nat} {row : List Wd} {out : List (List Wd)} (h : SpMem w' w.heap.size tv k was from_ rv ov vs lim line col row out) {w2 : World} (e : Ext w w') (f : FrB (w.heap.size + 3) lim w' w2) : Ext w w2 := by
  have := h.lim0
  exact ⟨f.os.trans (Below.os e), f.tape.trans (Below.tape e), f.output.trans (Below.output e), Nat.le_trans e.sz f.size, fun c hc => (f.block c (by omega) (by omega)).trans (Below.block e c hc)⟩
theorem SpNext.start (l : List UInt8) (tv : Value) (w : World) : SpNext l tv w 0 ((((((((w.alloc (.cells #[tv] 22)).alloc (.cells #[.int .i64 0, .int .i64 0] 44)).alloc (.cells #[.slice none 0 0] 96)).alloc (.cells #[.slice none 0 0] 106)).alloc (.cells #[.int .i64 0] 3)).alloc (.cells #[.int .i64 0] 3)).alloc (.cells #[.complex .f64 4607182418800017408 4607182418800017408] 176)).alloc (.cells #[.int .i64 1] 3)) := by
  refine ⟨1, 0, .slice none 0 0, .slice none 0 0, [], w.heap.size + 8, Nat.zero_le _, (by intro b hb; simp at hb), ?_, ⟨fun h => by omega, fun h => absurd rfl h⟩, fun h => absurd rfl h, ((((((((Ext.refl w).alloc _).alloc _).alloc _).alloc _).alloc _).alloc _).alloc _).alloc _⟩
  refine ⟨?_, ?_, ?_, ?_, ?_, ?_, ?_, ?_, RowOf.empty _ _ _ _ _, World.ownsRow_nil _ _ _ _, rfl, fun j hj => absurd hj (Nat.not_lt_zero j), fun g hg => (by cases hg), Nat.le_refl _, (by simp)⟩
  · exact (((((((Blk.new' _ _ _ rfl).alloc _).alloc _).alloc _).alloc _).alloc _).alloc _).alloc _
  · exact ((((((Blk.new' _ _ _ (by simp)).alloc _).alloc _).alloc _).alloc _).alloc _).alloc _
  · exact (((((Blk.new' _ _ _ (by simp)).alloc _).alloc _).alloc _).alloc _).alloc _
  · exact ((((Blk.new' _ _ _ (by simp)).alloc _).alloc _).alloc _).alloc _
  · exact (((Blk.new' _ _ _ (by simp)).alloc _).alloc _).alloc _
  · exact ((Blk.new' _ _ _ (by simp)).alloc _).alloc _
  · rw [show (fl (spTo (List.take 0 l)).line) = 4607182418800017408 from fl_one, show (fl (spTo (List.take 0 l)).col) = 4607182418800017408 from fl_one]
    exact (Blk.new' _ _ _ (by simp)).alloc _
  · exact Blk.new' _ _ _ (by simp)

theorem slice_lh (a : Addr) (n c lo hi : Nat) (h1 : lo < hi) (h2 : hi ≤ c) (V : World) : (Instr.slice 22 (.slice (some a) n c) (some (.int .i64 (lo : Int))) (some (.int .i64 (hi : Int))) none).run Tryz.prog V = .ok (.slice (some (a.add lo)) (hi - lo) (c - lo)) V := by
  have hz : (sizeOf (Tryz.prog.elem 22)).run Tryz.prog V = .ok 1 V := by kernel_rfl
  rw [run_slice_lh V 22 (some a) n c (by kernel_rfl) .i64 .i64 (lo : Int) (hi : Int) (by omega) (by omega) (by omega), hz]
  simp only [Result.andThen, sliced, Int.toNat_natCast, Nat.mul_one]
  rw [if_neg (by omega)]
  rfl
/-- a word ends, if there is one -/
theorem split_keep {l : List UInt8} {ta : Option Addr} {tc : Nat} {w V : World} {rv ov : Value} {k from_ : Nat} {was : Int} {vs : List Value} {lim line col : Nat} {row : List Wd} {out : List (List Wd)} {cur : List UInt8} (ht : ByteSlice w (.slice ta l.length tc) l) (hc : l.length ≤ tc) (h : SpMem V w.heap.size (.slice ta l.length tc) k was from_ rv ov vs lim line col row out) (e : Ext w V)
    (hk : k ≤ l.length) (hl : l.length ≤ 1048576) (hw : was = 0 ↔ cur ≠ []) (hf : cur ≠ [] → from_ + cur.length = k ∧ cur = (l.take k).drop from_) (hln : line ≤ 2000000) (hcl : col ≤ 2000000) (hcc : cur.length < col) (hr : row.length ≤ 2000000) :
    Calls Tryz.prog 94 #[.pointer (some ⟨w.heap.size + 7, 0, none⟩), .pointer (some ⟨w.heap.size + 6, 0, none⟩), .pointer (some ⟨w.heap.size + 5, 0, none⟩), .pointer (some ⟨w.heap.size + 4, 0, none⟩), .pointer (some ⟨w.heap.size + 3, 0, none⟩), .pointer (some ⟨w.heap.size, 0, none⟩)] V fun x w' =>
      x = .returned (.tuple #[]) ∧ ∃ rv', SpMem w' w.heap.size (.slice ta l.length tc) k was from_ rv' ov vs lim line col (keepW line col cur row) out ∧ Ext w w' := by
  by_cases hcur : cur = []
  · have hw' : was ≠ 0 := fun q => (hw.1 q) hcur
    refine (split_keep_no _ _ _ _ _ _ was V h.wa hw').mono ?_
    rintro x w' ⟨rfl, rfl⟩
    refine ⟨rfl, rv, ?_, e⟩
    unfold keepW
    rw [if_pos hcur]
    exact h
  · obtain ⟨h1, h2⟩ := hf hcur
    have hw0 : was = 0 := hw.2 hcur
    subst hw0
    have hpos : 0 < cur.length := List.length_pos_iff.2 hcur
    obtain ⟨⟨a', c', hv, hcells⟩, -⟩ := ht
    obtain ⟨b0, o0, rfl, hc2⟩ := hcells (by intro q; subst q; simp at hk; omega)
    cases hv
    have hl0 := h.lim0
    have hb0 : b0 < w.heap.size := cell_lt (hc2 0 (by omega))
    refine (split_keep_yes (w.heap.size + 7) (w.heap.size + 6) (w.heap.size + 5) (w.heap.size + 4) (w.heap.size + 3) w.heap.size line col from_ k l.length lim ⟨b0, o0, none⟩ tc rv row cur V h.wa h.pl h.kk h.fr h.row_ h.text h.rowW h.lim1 (by omega) (by omega) (by omega) (by omega) (by omega) (by omega) (by omega) (by omega) (by omega) hk hc h1 hcur (by omega) hr ?_ ?_).mono ?_
    · intro U f
      have e1 : (Addr.add ⟨b0, o0, none⟩ from_) = ⟨b0, o0 + from_, none⟩ := addr_add _ _ _
      have hlen : k - from_ = cur.length := by omega
      rw [e1, hlen]
      refine run_convert_bytes_back U 22 9 5 ⟨b0, o0 + from_, none⟩ _ cur Tryz.underlying22 Tryz.underlying5 Tryz.underlying9 ?_
      intro j hj
      have hx := SpMem.ext h e f
      have hq := hx.keep (hc2 (from_ + j) (by omega))
      rw [addr_add, Nat.add_assoc, hq]
      congr 3
      have h9 : cur[j]? = ((l.take k).drop from_)[j]? := congrArg (fun q => q[j]?) h2
      have : cur[j]? = some l[from_ + j] := by rw [h9, List.getElem?_drop, List.getElem?_take_of_lt (by omega), List.getElem?_eq_getElem (by omega)]
      rw [List.getElem?_eq_getElem hj] at this
      simp at this
      rw [this]
    · intro U
      exact slice_lh ⟨b0, o0, none⟩ l.length tc from_ k (by omega) (by omega) U
    · rintro x w' ⟨rfl, rv', hR, hrow, f⟩
      refine ⟨rfl, rv', ?_, h.ext e f⟩
      unfold keepW
      rw [if_neg hcur]
      exact h.kept hR hrow f
theorem float_add {line : Nat} (h : line < 4503599627370496) (V : World) : (binOp .add 178 (.float .f64 (fl line)) (.float .f64 4607182418800017408)).run Tryz.prog V = .ok (.float .f64 (fl (line + 1))) V := by
  have e2 : floatBits .add .f64 (fl line) 4607182418800017408 = some (fl (line + 1)) := by
    have := fl_add (m := line) (n := 1) (by omega)
    rwa [fl_one] at this
  have := run_floatArith (P := Tryz.prog) V e2
  simp [binOp, this]
/-- a line ends -/
theorem split_lay {tv : Value} {w V : World} {rv ov : Value} {k from_ : Nat} {was : Int} {vs : List Value} {lim line col : Nat} {row : List Wd} {out : List (List Wd)} (h : SpMem V w.heap.size tv k was from_ rv ov vs lim line col row out) (e : Ext w V) (hok : ∀ x ∈ row, WdOk x) (hvl : out.length ≤ 2000000) :
    Calls Tryz.prog 96 #[.pointer (some ⟨w.heap.size + 3, 0, none⟩), .pointer (some ⟨w.heap.size + 2, 0, none⟩)] V fun x w' =>
      x = .returned (.tuple #[]) ∧ ∃ rv' ov' vs' lim', SpMem w' w.heap.size tv k was from_ rv' ov' vs' lim' line col [] (layW row out) ∧ Ext w w' := by
  have hl0 := h.lim0
  have hl1 := h.lim1
  have ext3 : ∀ {w'}, FrP (fun c => c ≠ w.heap.size + 3) V w' → Ext w w' := fun {w'} f => ⟨f.os.trans (Below.os e), f.tape.trans (Below.tape e), f.output.trans (Below.output e), Nat.le_trans e.sz f.size, fun c hc => (f.block c (by have := e.sz; omega) (by show c ≠ w.heap.size + 3; omega)).trans (Below.block e c hc)⟩
  cases row with
  | nil =>
    obtain rfl : rv = .slice none 0 0 := h.rowW.nil.2 rfl
    refine (split_lay_none _ _ V h.row_).mono ?_
    rintro x w' ⟨rfl, hR, f⟩
    exact ⟨rfl, _, _, _, _, h.laidNo hR f, ext3 f⟩
  | cons x rest =>
    have hx := hok x (by simp)
    by_cases hs : saysL (x :: rest) = true
    · refine (split_lay_yes (w.heap.size + 3) (w.heap.size + 2) lim (w.heap.size + 8) ov rv x rest vs V h.row_ h.out_ (by omega) h.rowW hx hs h.outW (by omega) (by omega) (by omega) (by have := h.outN; omega)).mono ?_
      rintro y w' ⟨rfl, ov', hR, hO, hown, f⟩
      refine ⟨rfl, .slice none 0 0, ov', vs ++ [rv], w'.heap.size, ?_, ?_⟩
      · unfold layW
        rw [if_pos hs]
        exact h.laid (by simp) hR hO hown f
      · refine ⟨f.os.trans (Below.os e), f.tape.trans (Below.tape e), f.output.trans (Below.output e), Nat.le_trans e.sz f.size, fun c hc => (f.block c (by have := e.sz; omega) ⟨by omega, by omega, own_low h.outW (by omega)⟩).trans (Below.block e c hc)⟩
    · refine (split_lay_no (w.heap.size + 3) (w.heap.size + 2) lim rv x rest V h.row_ h.rowW hx (by simpa using hs)).mono ?_
      rintro y w' ⟨rfl, hR, f⟩
      refine ⟨rfl, .slice none 0 0, ov, vs, lim, ?_, ext3 f⟩
      unfold layW
      rw [if_neg hs]
      exact h.laidNo hR f

set_option maxHeartbeats 4000000 in
set_option maxRecDepth 100000 in
theorem words_Split (tv : Value) (l : List UInt8) (w : World) (ht : ByteSlice w tv l) (hcp : CapLe tv) : Calls Tryz.prog 44 #[tv] w fun x w' => SplitIs w l x w' := by
  have HT := Lib.hid ht
  obtain ⟨⟨ta, tc, rfl, hform⟩, hlen⟩ := ht
  have HF := Lib.hid hform
  clear hform
  unfold maxLen at hlen
  by_cases hbig : 1048576 < l.length
  · have hb' : (1048576 : Int) < (l.length : Int) := by omega
    go_enter Tryz.func44, Tryz.ntmps44
    go_wp2
    go_step3
    go_wp2
    rw [Exit.noGoto_ret]
    exact ret_ttc (v := .slice none 0 0) (u := .int .u16 21) Tryz.results44 rfl rfl rfl ((Blk.new' (w.alloc (.cells #[.slice ta l.length tc] 22)) #[.int .i64 0, .int .i64 0] 44 (b := w.heap.size + 1) (by simp))) Tryz.underlying44 rfl (by kernel_rfl) (SplitIs.big hbig (((Ext.refl w).alloc _).alloc _))
  have HC := Lib.hid (hcp _ _ _ rfl)
  have hml : (2000000 : Nat) ≤ maxLen := by decide
  have hb' : ¬ (1048576 : Int) < (l.length : Int) := by omega
  have hmf : ∀ (fn : Fn) (first cap : Array Value) (w : World), (Instr.makeFunc fn first cap).run Tryz.prog w = .ok (.func fn first cap) w := fun _ _ _ _ => rfl
  go_enter Tryz.func44, Tryz.ntmps44
  go_wp2
  refine wp_scope_two 0 1 (by decide) (fun a' w' => SpAct ta l.length tc w.heap.size a' ∧ SpNext l (.slice ta l.length tc) w l.length w') (fun a' w' => SpAct ta l.length tc w.heap.size a' ∧ ∃ k, SpNext l (.slice ta l.length tc) w k w') (fun _ w' => l.length - (intOf ((w'.cell? ⟨w.heap.size + 5, 0, none⟩).getD undef)).toNat) rfl rfl ?_ ?_ ?_
  · rintro a' w' ⟨⟨u8, u14, u15, u16, u17, u18, u19, u20, u21, u22, u23, u24, u25, u26, u27, u28, u29, u30, u31, u32, u33, u34, u35, u36, u37, u38, u39, u40, u41, u42, u43, u44, u45, u46, u47, u48, u49, u50, u51, u52, u53, u54, u55, u56, u57, u58, u59, u60, u61, u62, u63, u64, rfl⟩, was, from_, rv, ov, vs, lim, hk, hfair, hm, hwas, hcur, hx⟩
    rw [List.take_length] at hfair hm hwas hcur
    obtain ⟨z1, z2, z3, z4, z5⟩ := spTo_sizes l
    have HKP := Lib.hid (split_keep HT.out HC.out hm hx hk (by omega) hwas (by rw [List.take_length]; exact hcur) (by omega) (by omega) z3 (by omega))
    have HOK := Lib.hid (keepW_ok (a := (spTo l).line) (b := (spTo l).col) (cur := (spTo l).cur) (spTo_ok l (by omega)) (by omega))
    have HWO := Lib.hid (wordsOf_good hfair)
    clear hm hwas hcur hfair hb'
    go_wp2_with fail
    refine HKP.out.mono ?_
    rintro x w1 ⟨rfl, rv1, hm1, hx1⟩
    have HLY := Lib.hid (split_lay hm1 hx1 HOK.out (by omega))
    clear hm1 hx1
    go_wp2_with fail
    refine HLY.out.mono ?_
    rintro x w2 ⟨rfl, rv2, ov2, vs2, lim2, hm2, hx2⟩
    have cO := hm2.out_.cell 0
    have cP0 := hm2.place.cell 0
    have cP1 := hm2.place.cell 1
    have fP0 := hm2.place.free 0
    have fP1 := hm2.place.free 1
    have lP := hm2.place.lt
    have HM2 := Lib.hid hm2
    have HX2 := Lib.hid hx2
    clear hm2 hx2
    go_wp2
    rw [exitTo'_ret]
    have hS := (HM2.out.place.set 0 (.int .i64 0)).set 1 (.int .i64 0)
    have he : ExtB (w.heap.size + 1) w2 ((w2.setCell ⟨w.heap.size + 1, 0, none⟩ (.int .i64 0)).setCell ⟨w.heap.size + 1, 1, none⟩ (.int .i64 0)) := ((ExtB.refl _ w2).setCell 0 _).setCell 1 _
    exact ret_ttc (v := ov2) (u := .int .u16 0) Tryz.results44 rfl rfl rfl hS Tryz.underlying44 rfl (by kernel_rfl) (SplitIs.good hbig HWO.out (HM2.out.read he (by omega)) (HX2.out.own he (Nat.le_succ _)))
  · rintro a' w' ⟨⟨u8, u14, u15, u16, u17, u18, u19, u20, u21, u22, u23, u24, u25, u26, u27, u28, u29, u30, u31, u32, u33, u34, u35, u36, u37, u38, u39, u40, u41, u42, u43, u44, u45, u46, u47, u48, u49, u50, u51, u52, u53, u54, u55, u56, u57, u58, u59, u60, u61, u62, u63, u64, rfl⟩, k, was, from_, rv, ov, vs, lim, hk, hfair, hm, hwas, hcur, hx⟩
    have cT := hm.text.cell 0
    have cK := hm.kk.cell 0
    simp only [List.getElem?_toArray, List.getElem?_cons_zero] at cT cK
    by_cases hkl : k = l.length
    · subst hkl
      go_wp2
      go_step3
      go_step
      exact Or.inr ⟨rfl, ⟨_, _, _, _, _, _, _, _, _, _, _, _, _, _, _, _, _, _, _, _, _, _, _, _, _, _, _, _, _, _, _, _, _, _, _, _, _, _, _, _, _, _, _, _, _, _, _, _, _, _, _, _, rfl⟩, was, from_, rv, ov, vs, lim, Nat.le_refl _, hfair, hm, hwas, hcur, hx⟩
    have hlt : k < l.length := by omega
    obtain ⟨z1, z2, z3, z4, z5⟩ := spTo_sizes (l.take k)
    rw [List.length_take, Nat.min_eq_left hk] at z1 z2 z4 z5
    have hokr := spTo_ok (l.take k) (by rw [List.length_take]; omega)
    have htk : l.take (k + 1) = l.take k ++ [l[k]] := by rw [List.take_add_one, List.getElem?_eq_getElem hlt]; rfl
    have hdr : ∀ f, f + (spTo (l.take k)).cur.length = k → (spTo (l.take k)).cur = (l.take k).drop f → (spTo (l.take k)).cur ++ [l[k]] = (l.take (k + 1)).drop f := fun f h1 h2 => by
      rw [htk, List.drop_append_of_le_length (by rw [List.length_take]; omega), ← h2]
    have hd0 : (l.take (k + 1)).drop k = [l[k]] := by
      rw [htk, List.drop_append_of_le_length (by rw [List.length_take]; omega), List.drop_of_length_le (by rw [List.length_take]; omega)]
      rfl
    have hst := spTo_snoc (l.take k) l[k]
    rw [← htk] at hst
    obtain ⟨b0, o0, hta, hcb⟩ := HF.out (by intro e; rw [e] at hlt; simp at hlt)
    have cB : w'.cell? ⟨b0, o0 + k, none⟩ = some (.int .u8 (l[k].toNat : Int)) := hx.keep (hcb k hlt)
    have hbk : bKind l[k] < 4 := by unfold bKind; split <;> (try split) <;> (try split) <;> omega
    have hfb : bKind l[k] ≠ 3 → Fair (l.take (k + 1)) := fun q => by
      rw [htk]
      intro x hx
      rcases List.mem_append.1 hx with h | h
      · exact hfair x h
      · rw [List.mem_singleton.1 h]; exact q
    have hwb := fun q => wordsOf_bad (l := l) hlt hfair q
    have HKD := Lib.hid (fun V => words_kind l[k] V)
    unfold spStep at hst
    generalize l[k] = by_ at *
    generalize spTo (l.take k) = S at *
    obtain ⟨line, col, cur, row, out⟩ := S
    dsimp only at *
    have hadd : ∀ V, (binOp .add 176 (.complex .f64 (fl line) (fl col)) (.complex .f64 0 4607182418800017408)).run Tryz.prog V = .ok (.complex .f64 (fl line) (fl (col + 1))) V := fun V => by
      refine run_complex_sum (P := Tryz.prog) V .add (Or.inl rfl) 176 .f64 _ _ _ _ _ _ ?_
      have e1 : floatBits .add .f64 (fl line) 0 = some (fl line) := by
        have := fl_add (m := line) (n := 0) (by omega)
        rwa [fl_zero, Nat.add_zero] at this
      have e2 : floatBits .add .f64 (fl col) 4607182418800017408 = some (fl (col + 1)) := by
        have := fl_add (m := col) (n := 1) (by omega)
        rwa [fl_one] at this
      unfold cSumBits
      rw [e1, e2]
      rfl
    have HST := Lib.hid hst
    have HFB := Lib.hid hfb
    have HWB := Lib.hid hwb
    have HDR := Lib.hid hdr
    have HD0 := Lib.hid hd0
    have HOKR := Lib.hid hokr
    have HM := Lib.hid hm
    have HX := Lib.hid hx
    have HWAS := Lib.hid hwas
    have HCUR := Lib.hid hcur
    have cF := hm.fr.cell 0
    have cA := hm.pl.cell 0
    have cW := hm.wa.cell 0
    have fF := hm.fr.free 0
    have fA := hm.pl.free 0
    have fW := hm.wa.free 0
    have fK := hm.kk.free 0
    have kL : (k : Int) < (l.length : Int) := by omega
    have kN : ¬ (k : Int) = (l.length : Int) := by omega
    simp only [List.getElem?_toArray, List.getElem?_cons_zero] at cF cA cW
    subst hta
    clear hd0 hst hfb hwb hdr hokr hm hx hwas hcur hfair hcb htk
    go_wp2_with fail
    refine (HKD.out _).mono ?_
    rintro x w1 ⟨rfl, rfl⟩
    rcases (by omega : bKind by_ = 3 ∨ bKind by_ = 0 ∨ bKind by_ = 1 ∨ bKind by_ = 2) with hb | hb | hb | hb
    · rw [hb]
      go_wp2_with fail
      refine (words_place line col _ (by omega) (by omega)).mono ?_
      rintro x w2 ⟨rfl, hx2⟩
      have hm2 := HM.out.place.ext hx2
      have fP0 := hm2.free 0
      have fP1 := hm2.free 1
      have cP0 := hm2.cell 0
      have cP1 := hm2.cell 1
      have lP := hm2.lt
      have HM2 := Lib.hid hm2
      clear hm2
      go_wp2
      rw [exitTo'_ret]
      have hS := (HM2.out.set 0 (.int .i64 (line : Int))).set 1 (.int .i64 (col : Int))
      exact ret_ttc (v := .slice none 0 0) (u := .int .u16 20) Tryz.results44 rfl rfl rfl hS Tryz.underlying44 rfl (by kernel_rfl) (SplitIs.bad hbig (HWB.out hb) (((HX.out.trans hx2).setCell (p := ⟨w.heap.size + 1, 0, none⟩) (Nat.le_succ _) _).setCell (p := ⟨w.heap.size + 1, 1, none⟩) (Nat.le_succ _) _))
    · have hb2 := HST.out
      rw [if_pos hb] at hb2
      have HST2 := Lib.hid hb2
      clear hb2
      rw [hb]
      by_cases hw0 : was = 0
      · have HCN := Lib.hid (HCUR.out (HWAS.out.1 hw0))
        subst hw0
        go_wp2
        go_step3
        go_step
        refine Or.inl ⟨rfl, ⟨⟨_, _, _, _, _, _, _, _, _, _, _, _, _, _, _, _, _, _, _, _, _, _, _, _, _, _, _, _, _, _, _, _, _, _, _, _, _, _, _, _, _, _, _, _, _, _, _, _, _, _, _, _, rfl⟩, k + 1, 0, from_, rv, ov, vs, lim, hlt, HFB.out (by omega), ?_, ?_, ?_, ?_⟩, ?_⟩
        · rw [HST2.out]
          exact (((HM.out.setPl line (col + 1)).setWas 0).setK (k + 1))
        · rw [HST2.out]
          simp
        · rw [HST2.out]
          intro _
          obtain ⟨q1, q2⟩ := HCN.out
          refine ⟨?_, HDR.out _ q1 q2⟩
          simp only [List.length_append, List.length_cons, List.length_nil]
          omega
        · exact (((HX.out.setCell (p := ⟨w.heap.size + 6, 0, none⟩) (by dsimp only; omega) _).setCell (p := ⟨w.heap.size + 7, 0, none⟩) (by dsimp only; omega) _).setCell (p := ⟨w.heap.size + 5, 0, none⟩) (by dsimp only; omega) _)
        · exact sp_meas HM.out.kk (((HM.out.setPl line (col + 1)).setWas 0).setK (k + 1)).kk hlt
      · have hw1 : (was != 0) = true := by simpa using hw0
        have hcn : cur = [] := by
          rcases Classical.em (cur = []) with q | q
          · exact q
          · exact absurd (HWAS.out.2 q) hw0
        subst hcn
        go_wp2
        go_step3
        go_step
        refine Or.inl ⟨rfl, ⟨⟨_, _, _, _, _, _, _, _, _, _, _, _, _, _, _, _, _, _, _, _, _, _, _, _, _, _, _, _, _, _, _, _, _, _, _, _, _, _, _, _, _, _, _, _, _, _, _, _, _, _, _, _, rfl⟩, k + 1, 0, k, rv, ov, vs, lim, hlt, HFB.out (by omega), ?_, ?_, ?_, ?_⟩, ?_⟩
        · rw [HST2.out]
          exact ((((HM.out.setFrom k).setPl line (col + 1)).setWas 0).setK (k + 1))
        · rw [HST2.out]
          simp
        · rw [HST2.out]
          intro _
          exact ⟨by simp, HD0.out.symm⟩
        · exact ((((HX.out.setCell (p := ⟨w.heap.size + 4, 0, none⟩) (by dsimp only; omega) _).setCell (p := ⟨w.heap.size + 6, 0, none⟩) (by dsimp only; omega) _).setCell (p := ⟨w.heap.size + 7, 0, none⟩) (by dsimp only; omega) _).setCell (p := ⟨w.heap.size + 5, 0, none⟩) (by dsimp only; omega) _)
        · exact sp_meas HM.out.kk ((((HM.out.setFrom k).setPl line (col + 1)).setWas 0).setK (k + 1)).kk hlt
    · have hb2 := HST.out
      rw [if_neg (by omega), if_neg (by omega)] at hb2
      have HST2 := Lib.hid hb2
      clear hb2
      rw [hb]
      have HKP := Lib.hid (split_keep HT.out HC.out HM.out HX.out hk (by omega) HWAS.out HCUR.out (by omega) (by omega) z3 (by omega))
      go_wp2_with fail
      refine HKP.out.mono ?_
      rintro x w3 ⟨rfl, rv3, hm3, hx3⟩
      have cA3 := hm3.pl.cell 0
      have cW3 := hm3.wa.cell 0
      have cK3 := hm3.kk.cell 0
      have fA3 := hm3.pl.free 0
      have fW3 := hm3.wa.free 0
      have fK3 := hm3.kk.free 0
      simp only [List.getElem?_toArray, List.getElem?_cons_zero] at cA3 cW3 cK3
      have HM3 := Lib.hid hm3
      have HX3 := Lib.hid hx3
      clear hm3 hx3
      go_wp2
      go_step3
      go_step
      refine Or.inl ⟨rfl, ⟨⟨_, _, _, _, _, _, _, _, _, _, _, _, _, _, _, _, _, _, _, _, _, _, _, _, _, _, _, _, _, _, _, _, _, _, _, _, _, _, _, _, _, _, _, _, _, _, _, _, _, _, _, _, rfl⟩, k + 1, 1, from_, rv3, ov, vs, lim, hlt, HFB.out (by omega), ?_, ?_, ?_, ?_⟩, ?_⟩
      · rw [HST2.out]
        exact (((HM3.out.setPl line (col + 1)).setWas 1).setK (k + 1))
      · rw [HST2.out]
        simp
      · rw [HST2.out]
        intro q
        exact absurd rfl q
      · exact (((HX3.out.setCell (p := ⟨w.heap.size + 6, 0, none⟩) (by dsimp only; omega) _).setCell (p := ⟨w.heap.size + 7, 0, none⟩) (by dsimp only; omega) _).setCell (p := ⟨w.heap.size + 5, 0, none⟩) (by dsimp only; omega) _)
      · exact sp_meas HM.out.kk (((HM3.out.setPl line (col + 1)).setWas 1).setK (k + 1)).kk hlt
    · have hb2 := HST.out
      rw [if_neg (by omega), if_pos hb] at hb2
      have HST2 := Lib.hid hb2
      clear hb2
      rw [hb]
      have HKP := Lib.hid (split_keep HT.out HC.out HM.out HX.out hk (by omega) HWAS.out HCUR.out (by omega) (by omega) z3 (by omega))
      have hfl := fun V => float_add (line := line) (by omega) V
      go_wp2_with fail
      refine HKP.out.mono ?_
      rintro x w3 ⟨rfl, rv3, hm3, hx3⟩
      have cA3 := hm3.pl.cell 0
      have fA3 := hm3.pl.free 0
      simp only [List.getElem?_toArray, List.getElem?_cons_zero] at cA3
      have hm4 := hm3.setPl line (col + 1)
      have hx4 := hx3.setCell (p := ⟨w.heap.size + 6, 0, none⟩) (by dsimp only; omega) (.complex .f64 (fl line) (fl (col + 1)))
      have HLY := Lib.hid (split_lay hm4 hx4 (keepW_ok HOKR.out (by omega)) (by omega))
      clear hm3 hx3 hm4 hx4
      go_wp2_with fail
      refine HLY.out.mono ?_
      rintro x w5 ⟨rfl, rv5, ov5, vs5, lim5, hm5, hx5⟩
      have cA5 := hm5.pl.cell 0
      have cW5 := hm5.wa.cell 0
      have cK5 := hm5.kk.cell 0
      have fA5 := hm5.pl.free 0
      have fW5 := hm5.wa.free 0
      have fK5 := hm5.kk.free 0
      simp only [List.getElem?_toArray, List.getElem?_cons_zero] at cA5 cW5 cK5
      have HM5 := Lib.hid hm5
      have HX5 := Lib.hid hx5
      clear hm5 hx5
      go_wp2
      go_step3
      go_step
      refine Or.inl ⟨rfl, ⟨⟨_, _, _, _, _, _, _, _, _, _, _, _, _, _, _, _, _, _, _, _, _, _, _, _, _, _, _, _, _, _, _, _, _, _, _, _, _, _, _, _, _, _, _, _, _, _, _, _, _, _, _, _, rfl⟩, k + 1, 2, from_, rv5, ov5, vs5, lim5, hlt, HFB.out (by omega), ?_, ?_, ?_, ?_⟩, ?_⟩
      · rw [HST2.out]
        have h9 := (((HM5.out.setPl (line + 1) 1).setWas 2).setK (k + 1))
        rw [fl_one] at h9
        exact h9
      · rw [HST2.out]
        simp
      · rw [HST2.out]
        intro q
        exact absurd rfl q
      · exact (((HX5.out.setCell (p := ⟨w.heap.size + 6, 0, none⟩) (by dsimp only; omega) _).setCell (p := ⟨w.heap.size + 7, 0, none⟩) (by dsimp only; omega) _).setCell (p := ⟨w.heap.size + 5, 0, none⟩) (by dsimp only; omega) _)
      · have h9 := (((HM5.out.setPl (line + 1) 1).setWas 2).setK (k + 1)).kk
        rw [fl_one] at h9
        exact sp_meas HM.out.kk h9 hlt
  · intro hp
    go_wp2
    go_step3
    go_step
    go_step
    exact hp _ _ ⟨⟨_, _, _, _, _, _, _, _, _, _, _, _, _, _, _, _, _, _, _, _, _, _, _, _, _, _, _, _, _, _, _, _, _, _, _, _, _, _, _, _, _, _, _, _, _, _, _, _, _, _, _, _, rfl⟩, 0, SpNext.start l _ w⟩
end Go.Proofs.YtknlojlcahgnoaaGreat

namespace Go.Proofs.YtknlojlcahgnoaaGreat
open Go.RowKit
set_option linter.unusedVariables false
set_option linter.unusedSimpArgs false

/-- bytes in a row that lies above a limit and may be written up to its capacity -/
def TailB (base : Nat) (w : World) (v : Value) (l : List UInt8) : Prop :=
  ∃ g cap, v = .slice (some ⟨g, 0, none⟩) l.length cap ∧ base ≤ g ∧ g < w.heap.size ∧ l.length ≤ cap ∧ cap ≤ maxLen ∧ (∀ j, j < cap → (w.cell? ⟨g, j, none⟩).isSome = true ∧ w.frozen? ⟨g, j, none⟩ = false) ∧
    ∀ j (h : j < l.length), w.cell? ⟨g, j, none⟩ = some (.int .u8 (l[j].toNat : Int))
theorem TailB.slice {base : Nat} {w : World} {v : Value} {l : List UInt8} (h : TailB base w v l) : ByteSlice w v l ∧ CapLe v := by
  obtain ⟨g, cap, rfl, -, -, h3, h4, -, h6⟩ := h
  refine ⟨⟨⟨_, _, rfl, fun _ => ⟨g, 0, rfl, fun j hj => ?_⟩⟩, by omega⟩, fun a n c e => by cases e; exact h3⟩
  rw [Nat.zero_add]
  exact h6 j hj
theorem TailB.ext {base : Nat} {w w' : World} {v : Value} {l : List UInt8} (h : TailB base w v l) (e : Ext w w') : TailB base w' v l := by
  obtain ⟨g, cap, rfl, h1, h2, h3, h4, h5, h6⟩ := h
  have k1 : ∀ j, w'.cell? ⟨g, j, none⟩ = w.cell? ⟨g, j, none⟩ := fun j => World.cell?_of_block (a := ⟨g, j, none⟩) (e.block h2)
  have k2 : ∀ j, w'.frozen? ⟨g, j, none⟩ = w.frozen? ⟨g, j, none⟩ := fun j => World.frozen?_of_block (a := ⟨g, j, none⟩) (e.block h2)
  exact ⟨g, cap, rfl, h1, Nat.lt_of_lt_of_le h2 e.sz, h3, h4, fun j hj => by rw [k1, k2]; exact h5 j hj, fun j hj => by rw [k1]; exact h6 j hj⟩
theorem TailB.mono {b c : Nat} {w : World} {v : Value} {l : List UInt8} (h : TailB c w v l) (hb : b ≤ c) : TailB b w v l := by
  obtain ⟨g, cap, e, h1, h2⟩ := h
  exact ⟨g, cap, e, Nat.le_trans hb h1, h2⟩
theorem TailB.low {base : Nat} {w : World} {v : Value} {l : List UInt8} (h : TailB base w v l) {c : Nat} (hc : c < base) : some c ≠ v.ownBlock := by
  obtain ⟨g, cap, rfl, h1, -⟩ := h
  intro q
  have e : c = g := by simpa [Value.ownBlock] using q
  omega
/-- '[]byte(s)' -/
theorem conv_bytesT {P : Program} (w : World) (src dst e : TypeId) (s : ByteArray) (hm : s.size ≤ maxLen) (hs : P.underlying src = some .string) (hd : P.underlying dst = some (.slice e)) (he : P.underlying e = some (.int .u8)) :
    ∃ v w', (convert src dst (.string s)).run P w = .ok v w' ∧ Ext w w' ∧ TailB w.heap.size w' v s.data.toList := by
  refine ⟨_, _, Lib.run_convert_string_bytes w src dst e s hs hd he, ⟨rfl, rfl, rfl, by rw [Lib.bytesWorld_size]; omega, fun k hk => Lib.bytesWorld_at_old _ _ _ _ hk⟩, ?_⟩
  have hsz : s.data.toList.length = s.size := by rw [Array.length_toList]; rfl
  have hge := grownCap_ge w s.size 0 e
  have hcs : (Lib.bytesCells w e s).size = grownCap w s.size 0 e := by
    unfold Lib.bytesCells
    rw [Array.size_append, Array.size_map, Array.size_replicate]
    have : s.data.size = s.size := rfl
    omega
  have hb := Lib.bytesWorld_at_new w e s
  refine ⟨w.heap.size, grownCap w s.size 0 e, by rw [hsz], Nat.le_refl _, by rw [Lib.bytesWorld_size]; omega, by rw [hsz]; exact hge, grownCap_le_maxLen w s.size 0 e hm, fun j hj => ⟨?_, ?_⟩, fun j hj => ?_⟩
  · unfold World.cell?
    rw [hb]
    simp only
    rw [Array.getElem?_eq_getElem (by omega)]
    rfl
  · unfold World.frozen?
    rw [hb]
    simp only [Bool.and_eq_false_iff, decide_eq_false_iff_not]
    left
    omega
  · rw [Lib.bytesWorld_cell _ _ _ _ (by omega)]
    congr 3
    rw [List.getD_eq_getElem?_getD, List.getElem?_eq_getElem hj, Option.getD_some]
theorem own_other {w w' : World} {ba ka na bb kb nb : Nat} {ea eb : TypeId} {u v : Value} {xs ys : List Value} (h : w.ownsRow ba ea ka u na xs) (o : w.ownsRow bb eb kb v nb ys) (ne : ea ≠ eb) (g : w.grownBy w' v.ownBlock) : w'.ownsRow ba ea ka u na xs := by
  rcases h with ⟨h0, ⟨rfl, hn⟩ | ⟨g', cap, cur, rfl, q2, q3, q4⟩⟩
  · exact ⟨h0, Or.inl ⟨rfl, hn⟩⟩
  · exact ⟨h0, Or.inr ⟨g', cap, cur, rfl, q2, (g.block g' (lt_of_block q3) (own_type o (show Blk w g' cur ea from q3) ne)).trans q3, q4⟩⟩
/-- while it grows all else that was there stays -/
def OwnOr (g0 lim : Nat) (v : Value) : Prop := v.ownBlock = some g0 ∨ ∃ k, v.ownBlock = some k ∧ lim ≤ k
theorem OwnOr.step {g0 lim : Nat} {v v' : Value} {n : Nat} (o : OwnOr g0 lim v) (h : v'.ownBlock = v.ownBlock ∨ v'.ownBlock = some n) (hn : lim ≤ n) : OwnOr g0 lim v' := by
  rcases h with h | h
  · unfold OwnOr; rw [h]; exact o
  · exact Or.inr ⟨n, h, hn⟩
end Go.Proofs.YtknlojlcahgnoaaGreat
