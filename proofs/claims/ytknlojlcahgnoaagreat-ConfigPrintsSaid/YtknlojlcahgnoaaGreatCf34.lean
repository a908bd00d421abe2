/- Walks: words.Join. -/
import Derived.Shelf.Strings.OnBuilder
import Derived.Deep.CutBlock
import Derived.Test.YtknlojlcahgnoaaGreatCf1
import Derived.Test.YtknlojlcahgnoaaGreatCf32
import Derived.Test.YtknlojlcahgnoaaGreatCf6

namespace Go.Proofs.YtknlojlcahgnoaaGreat
open Go.RowKit Go.Shelf
set_option linter.unusedVariables false
set_option linter.unusedSimpArgs false

theorem lays166 : Lays.n166 Tryz.prog Tryz.lays156_ren := { Tryz.lays156 with }
theorem lays169 : Lays.n169 Tryz.prog Tryz.lays156_ren := { Tryz.lays156 with }
theorem extraB : Builder.Extra Tryz.prog Tryz.lays156_ren :=
  { sizeBuilder := by kernel_rfl
    liesBuilder := by kernel_rfl
    t5 := Tryz.underlying5
    a5 := Tryz.isAgg5
    z5 := Tryz.sizeOf5
    v5 := Tryz.zeroValue5
    infoByte := by kernel_rfl
    cellsByte := by kernel_rfl
    sizeByte := by kernel_rfl
    neB5 := by decide }
abbrev BufIs (B b : Nat) (l : List UInt8) (w : World) : Prop := Lib.IsBuilder 169 5 B b (Lib.byteCells l) w
theorem buf_write (B b : Nat) (l : List UInt8) (s : ByteArray) (w : World) (h : BufIs B b l w) (hl : l.length + s.size ≤ 140737488355328) (hB : B ≤ w.heap.size) :
    Calls Tryz.prog 91 #[.pointer (some ⟨b, 0, none⟩), .string s] w fun e w' => e = .returned (.tuple #[.int .i64 s.size, .nilIface]) ∧ BufIs B b (l ++ s.data.toList) w' ∧ Below B w w' := by
  refine (Any.Builder_WriteString lays166 extraB B b _ s w h (by simpa [Lib.byteCells] using hl) hB).mono ?_
  rintro e w' ⟨rfl, h2, h3⟩
  refine ⟨rfl, Or.inr ?_, h3⟩
  have e1 : Lib.byteCells l ++ Lib.strCells s = Lib.byteCells (l ++ s.data.toList) := by simp [Lib.byteCells, Lib.strCells]
  rw [e1] at h2
  exact h2
theorem buf_string (B b : Nat) (l : List UInt8) (w : World) (h : BufIs B b l w) (hB : B ≤ w.heap.size) :
    Calls Tryz.prog 93 #[.pointer (some ⟨b, 0, none⟩)] w fun e w' => e = .returned (.string (bText l)) ∧ Below B w w' :=
  Any.Builder_String_any lays169 extraB B b l w h hB
/-- words, a blank between -/
def joinL (l : List ByteArray) : List UInt8 := Lib.join (l.map (·.data.toList)) [32]
def joinText (ls : List (List ByteArray)) : List UInt8 := ls.flatMap fun l => joinL l ++ [10]
theorem strings_join (v : Value) (l : List ByteArray) (w : World) (h : StrSlice w v l) (hc : CapLe v) (hl : l.length ≤ 1000000) (hj : (joinL l).length ≤ 140737488355328) :
    Calls Tryz.prog 92 #[v, .string ⟨#[32]⟩] w fun e w' => e = .returned (.string (bText (joinL l))) ∧ Ext w w' := by
  obtain ⟨⟨a, c, rfl, hcell⟩, -, -⟩ := h
  by_cases h0 : l = []
  · subst h0
    refine (Any.strings_Join_none Tryz.lays156 extraB _ _ _ w).mono ?_
    rintro e w' ⟨rfl, rfl⟩
    exact ⟨rfl, Ext.refl _⟩
  · obtain ⟨b, o, rfl, hcc⟩ := hcell h0
    refine (Any.strings_Join Tryz.lays156 extraB b o c l ⟨#[32]⟩ w ?_ ?_ (by omega) (hc _ _ _ rfl) hj).mono ?_
    · intro j x hx
      obtain ⟨hj, rfl⟩ := List.getElem?_eq_some_iff.1 hx
      exact hcc j hj
    · exact cell_lt (hcc 0 (List.length_pos_iff.2 h0))
    · rintro e w' ⟨rfl, hb⟩
      exact ⟨rfl, hb⟩
/-- rows of words in memory -/
def LinesStr (w : World) (v : Value) (ls : List (List ByteArray)) : Prop :=
  ∃ a c, v = .slice a ls.length c ∧ (ls ≠ [] → ∃ b o, a = some ⟨b, o, none⟩ ∧ ∀ j (h : j < ls.length), ∃ x, w.cell? ⟨b, o + j, none⟩ = some x ∧ StrSlice w x ls[j] ∧ CapLe x)
theorem LinesStr.ext {w w' : World} {v : Value} {ls : List (List ByteArray)} (h : LinesStr w v ls) (e : Ext w w') : LinesStr w' v ls := by
  obtain ⟨a, c, hv, hl⟩ := h
  refine ⟨a, c, hv, fun hne => ?_⟩
  obtain ⟨b, o, ha, hc⟩ := hl hne
  refine ⟨b, o, ha, fun j hj => ?_⟩
  obtain ⟨x, h1, h2, h3⟩ := hc j hj
  exact ⟨x, e.keep h1, h2.ext e, h3⟩
theorem joinText_snoc (ls : List (List ByteArray)) (l : List ByteArray) : joinText (ls ++ [l]) = joinText ls ++ (joinL l ++ [10]) := by
  unfold joinText
  rw [List.flatMap_append]
  simp
theorem joinText_take (ls : List (List ByteArray)) (k : Nat) : (joinText (ls.take k)).length ≤ (joinText ls).length := by
  have e : joinText ls = joinText (ls.take k) ++ joinText (ls.drop k) := by
    unfold joinText
    rw [← List.flatMap_append, List.take_append_drop]
  rw [e, List.length_append]
  omega
theorem bText_len (l : List UInt8) : (bText l).size = l.length := by show l.toArray.size = _; simp
theorem bText_app (a b : List UInt8) : bText a ++ bText b = bText (a ++ b) := by
  unfold bText
  rw [ByteArray.mk_append_mk]
theorem BufIs.ext {B b : Nat} {l : List UInt8} {w w' : World} (h : BufIs B b l w) (e : Ext w w') : BufIs B b l w' := by
  rcases h with ⟨h1, v, h2, h3, h4⟩ | ⟨h1, v, h2, h3, h4⟩
  · exact Or.inl ⟨h1, v, (e.block (lt_of_block h2)).trans h2, own_ext h3 e, h4⟩
  · exact Or.inr ⟨h1, v, (e.block (lt_of_block h2)).trans h2, own_ext h3 e, h4⟩
set_option maxHeartbeats 2000000 in
set_option maxRecDepth 100000 in
theorem words_JoinT (v : Value) (ls : List (List ByteArray)) (w : World) (h : LinesStr w v ls) (hl : ls.length ≤ 1000000) (hw : ∀ l ∈ ls, l.length ≤ 1000000) (hj : (joinText ls).length ≤ 1000000000000) :
    Calls Tryz.prog 43 #[v] w fun x w' => ∃ v', x = .returned v' ∧ TailB w.heap.size w' v' (joinText ls) ∧ Ext w w' := by
  have HL := Lib.hid h
  obtain ⟨a, c, rfl, -⟩ := h
  have b0 : BufIs w.heap.size w.heap.size [] (w.alloc (.cells #[.pointer none, .slice none 0 0] 169)) := Or.inl ⟨Nat.le_refl _, .slice none 0 0, Blk.new w _ _, World.ownsRow_nil _ _ _ _, by simp [Value.ownBlock]⟩
  have x0 : Ext w (w.alloc (.cells #[.pointer none, .slice none 0 0] 169)) := (Ext.refl w).alloc _
  go_enter Tryz.func43, Tryz.ntmps43
  go_wp2
  go_loopw [8] (fun i wr => ∃ (k : Nat), k ≤ ls.length ∧ i = .int .i64 k ∧ BufIs w.heap.size w.heap.size (joinText (ls.take k)) wr ∧ Ext w wr) (fun i _ => ls.length - (intOf i).toNat)
  case atStart => exact ⟨0, by omega, rfl, b0, x0⟩
  case round =>
    obtain ⟨k, hk, rfl, hb, hx⟩ := hrel
    have HB := Lib.hid hb
    have HX := Lib.hid hx
    clear hb b0 x0
    by_cases hlt : k < ls.length
    · obtain ⟨a', c', hv, hll⟩ := HL.out.ext hx
      cases hv
      obtain ⟨b, o, rfl, hcc⟩ := hll (by intro e; rw [e] at hlt; simp at hlt)
      obtain ⟨xv, hxc, hws, hcp⟩ := hcc k hlt
      have hwl := hw ls[k] (List.getElem_mem _)
      have htk : ls.take (k + 1) = ls.take k ++ [ls[k]] := by rw [List.take_add_one, List.getElem?_eq_getElem hlt]; rfl
      have hjt := joinText_take ls (k + 1)
      rw [htk, joinText_snoc, List.length_append, List.length_append] at hjt
      have HTK : Hid (joinText (ls.take (k + 1)) = joinText (ls.take k) ++ (joinL ls[k] ++ [10])) := Lib.hid (by rw [htk, joinText_snoc])
      generalize ls[k] = ws at *
      have HSJ := Lib.hid (strings_join xv ws wr hws hcp hwl (by omega))
      obtain ⟨⟨wa, wc, rfl, -⟩, -, -⟩ := hws
      have hml : (2000000000000 : Nat) ≤ maxLen := by decide
      have hjl : (bText (joinL ws)).size + 1 ≤ maxLen := by rw [bText_len]; omega
      have hadd : ∀ V, (Op.stringOp .add (bText (joinL ws)) ⟨#[10]⟩).run Tryz.prog V = .ok (.string (bText (joinL ws ++ [10]))) V := fun V => by
        have h1 : (ByteArray.mk #[10]).size = 1 := rfl
        rw [run_string_add_sum (P := Tryz.prog) (w := V) _ _ (by rw [h1]; exact hjl), show (⟨#[10]⟩ : ByteArray) = bText [10] from rfl, bText_app]
      have HJL := Lib.hid hjt
      generalize hz : bText (joinL ws) = zs at *
      have HWR := Lib.hid (buf_write w.heap.size w.heap.size (joinText (ls.take k)) (bText (joinL ws ++ [10])))
      have hk1 : (k : Int) < (ls.length : Int) := by omega
      clear hll hcc htk hcp hx hz
      go_wp2_with fail
      refine HSJ.out.mono ?_
      rintro x w1 ⟨rfl, hx1⟩
      have HX1 := Lib.hid (HX.out.trans hx1)
      have HW1 := Lib.hid (HWR.out w1 (BufIs.ext HB.out hx1) (by rw [bText_len]; have := HJL.out; simp only [List.length_append, List.length_cons, List.length_nil] at this ⊢; omega) HX1.out.sz)
      clear hx1
      go_wp2_with fail
      refine HW1.out.mono ?_
      rintro x w2 ⟨rfl, hb2, hx2⟩
      have hnext : BufIs w.heap.size w.heap.size (joinText (ls.take (k + 1))) w2 := by rw [HTK.out]; exact hb2
      have hxn : Ext w w2 := Below.trans HX1.out hx2
      clear hb2 hx2
      go_wp2
      go_roundw
      case rel => exact ⟨k + 1, by omega, by go_num, hnext, hxn⟩
      case measure => simp [intOf]; omega
    · have hkl : k = ls.length := by omega
      have hk1 : ¬ (k : Int) < (ls.length : Int) := by omega
      have hb9 := HB.out
      rw [hkl, List.take_length] at hb9
      have HST := Lib.hid (buf_string w.heap.size w.heap.size (joinText ls) wr hb9 HX.out.sz)
      clear hb9 hx hkl
      go_wp2_with fail
      refine HST.out.mono ?_
      rintro x w1 ⟨rfl, hx1⟩
      have hml : (1000000000000 : Nat) ≤ maxLen := by decide
      obtain ⟨cv, w2, hcv, hx2, htl⟩ := conv_bytesT w1 9 22 5 (bText (joinText ls)) (by rw [bText_len]; omega) Tryz.underlying9 Tryz.underlying22 Tryz.underlying5
      have htl : TailB w1.heap.size w2 cv (joinText ls) := by simpa [bText] using htl
      have hxw : Ext w w1 := Below.trans HX.out hx1
      have HX2 := Lib.hid (hxw.trans hx2)
      have HTL := Lib.hid (htl.mono hxw.sz)
      obtain ⟨tg, tcap, rfl, -⟩ := htl
      clear hx2 hx1 hxw
      go_wp2
      go_ret
      exact ⟨_, rfl, HTL.out, HX2.out⟩
end Go.Proofs.YtknlojlcahgnoaaGreat
