/- Walks: config.must, (*config.reader).size, (*config.reader).end. -/
import Derived.Deep.CutBlock
import Derived.BigQuiet
import Derived.Deep.RegionHeld3
import Derived.Test.YtknlojlcahgnoaaGreatCf20
import Derived.Test.YtknlojlcahgnoaaGreatCf21
import Derived.Test.YtknlojlcahgnoaaGreatCf3
import Derived.Test.YtknlojlcahgnoaaGreatCf33

namespace Go.Proofs.YtknlojlcahgnoaaGreat
open Go.RowKit
set_option linter.unusedVariables false
set_option linter.unusedSimpArgs false

/-- what a fault is told by -/
def faultV (e ln cl : Int) : Value := .iface 100 (.agg #[.int .u16 e, .int .i64 ln, .int .i64 cl])
def faultE (e ln cl : Int) : Ending := .panicked [{ v := faultV e ln cl, recovered := false }]
abbrev wdV (x : Wd) : Value := .agg #[.string x.t, .int .i64 x.line, .int .i64 x.col]

set_option maxHeartbeats 1000000 in
set_option maxRecDepth 100000 in
theorem config_must_yes (e : Int) (x : Wd) (w : World) : Calls Tryz.prog 98 #[.bool true, .int .u16 e, wdV x] w fun y w' => y = .returned (.tuple #[]) ∧ Ext w w' := by

  go_enter Tryz.func98, Tryz.ntmps98
  go_wp2
  go_end0
  exact ⟨rfl, (Ext.refl w).alloc _⟩
set_option maxHeartbeats 1000000 in
set_option maxRecDepth 100000 in
theorem config_must_no (e : Int) (x : Wd) (w : World) : Calls Tryz.prog 98 #[.bool false, .int .u16 e, wdV x] w fun y w' => y = faultE e x.line x.col ∧ Ext w w' := by

  go_enter Tryz.func98, Tryz.ntmps98
  go_wp2
  exact ⟨rfl, rfl, (Ext.refl w).alloc _⟩

/-- a reader of lines -/
def rdC (most : Int) (rv : Value) (mb : Nat) : Array Value := #[.int .i64 most, rv, .map (some mb)]
/-- what the line of the size does -/
def SzIs (w : World) (bR mb : Nat) (rv : Value) (most : Int) (ws : List Wd) (x : Ending) (w' : World) : Prop :=
  ((szErr most ws).1 = 0 ∧ x = .returned (.tuple #[]) ∧ Blk w' bR (rdC (digNum (wdAt ws 1).t) rv mb) 105 ∧ ExtB bR w w') ∨
  ((szErr most ws).1 ≠ 0 ∧ x = faultE (szErr most ws).1 (wdAt ws (szErr most ws).2).line (wdAt ws (szErr most ws).2).col ∧ Ext w w')
set_option maxHeartbeats 2000000 in
set_option maxRecDepth 100000 in
theorem reader_size (bR mb : Nat) (rv lv : Value) (most : Int) (ws : List Wd) (w : World) (hR : Blk w bR (rdC most rv mb) 105) (hw : WdsAt w lv ws) (hne : ws ≠ []) (hok : ∀ x ∈ ws, x.t.size ≤ maxLen) :
    Calls Tryz.prog 46 #[.pointer (some ⟨bR, 0, none⟩), lv] w fun x w' => SzIs w bR mb rv most ws x w' := by
  obtain ⟨a, c, rfl, hc⟩ := hw
  obtain ⟨b, o, rfl, hcells⟩ := hc hne
  have hl0 : 0 < ws.length := List.length_pos_iff.2 hne
  have cell : ∀ j (h : j < ws.length) (V : World), Ext w V → V.cell? ⟨b, o + j * 3, none⟩ = some (.string ws[j].t) ∧ V.cell? ⟨b, o + j * 3 + 1, none⟩ = some (.int .i64 ws[j].line) ∧ V.cell? ⟨b, o + j * 3 + 2, none⟩ = some (.int .i64 ws[j].col) := fun j h V e =>
    ⟨e.keep (hcells j h 0 (by decide)), e.keep (hcells j h 1 (by decide)), e.keep (hcells j h 2 (by decide))⟩
  have CE := Lib.hid cell
  have HR := Lib.hid hR
  clear cell hcells hc
  obtain ⟨g0, g1, g2⟩ := CE.out 0 hl0 w (Ext.refl w)
  rw [Nat.zero_mul, Nat.add_zero] at g0 g1 g2
  have hp0 : (0 : Int) < (ws.length : Int) := by omega
  by_cases hlen : ws.length = 2
  · have hl : ((ws.length : Int) == 2) = true := by rw [beq_iff_eq]; omega
    obtain ⟨h0, h1, h2⟩ := CE.out 1 (by omega) w (Ext.refl w)
    have hx0 : wdAt ws 0 = ws[0] := by unfold wdAt; rw [List.getD_eq_getElem?_getD, List.getElem?_eq_getElem hl0]; rfl
    have hx1 : wdAt ws 1 = ws[1] := by unfold wdAt; rw [List.getD_eq_getElem?_getD, List.getElem?_eq_getElem (by omega)]; rfl
    have hm1 := hok ws[1] (List.getElem_mem _)
    have E : szErr most ws = if most ≠ 0 then (28, 0) else if digErr ws[1].t ≠ 0 then (digErr ws[1].t, 1) else if digNum ws[1].t < 1 ∨ (1000000 : Int) < digNum ws[1].t then (29, 1) else (0, 0) := by unfold szErr; rw [if_neg (by omega), hx1]
    have HZ : Hid (∀ x V, ((szErr most ws).1 = 0 → x = .returned (.tuple #[]) ∧ Blk V bR (rdC (digNum ws[1].t) rv mb) 105 ∧ ExtB bR w V) → ((szErr most ws).1 ≠ 0 → x = faultE (szErr most ws).1 (wdAt ws (szErr most ws).2).line (wdAt ws (szErr most ws).2).col ∧ Ext w V) → SzIs w bR mb rv most ws x V) := Lib.hid (fun x V q1 q2 => by
      by_cases h : (szErr most ws).1 = 0
      · exact Or.inl ⟨h, by rw [hx1]; exact q1 h⟩
      · exact Or.inr ⟨h, q2 h⟩)
    obtain ⟨hd0, hd1⟩ := digNum_bounds ws[1].t
    have HX0 := Lib.hid hx0
    have HX1 := Lib.hid hx1
    have HE := Lib.hid E
    have CE0 := Lib.hid (fun V e => CE.out 0 hl0 V e)
    have CE1 := Lib.hid (fun V e => CE.out 1 (by omega) V e)
    rw [Nat.zero_mul, Nat.add_zero] at CE0
    rw [Nat.one_mul] at CE1 h0 h1 h2
    clear hx0 hx1 E CE
    generalize ws[0] = x0 at *
    generalize ws[1] = x1 at *
    have hn2 : ws.length = 2 := hlen
    generalize ws.length = n at *
    subst hn2
    have HDP := Lib.hid (fun V => digit_Parse x1.t V hm1)
    generalize hDN : digNum x1.t = D at *
    generalize hDE : digErr x1.t = DE at *
    clear hm1 h0 h1 h2 hl
    by_cases hm : most = 0
    · have hmb : (most == 0) = true := by simpa using hm
      go_enter Tryz.func46, Tryz.ntmps46
      go_wp2_with fail
      refine (config_must_yes 22 x0 _).mono ?_
      rintro x w1 ⟨rfl, e1⟩
      have q0 := fun s => grown_cell (w := w1) (CE0.out w1 e1).1 s
      have q1 := fun s => grown_cell (w := w1) (CE0.out w1 e1).2.1 s
      have q2 := fun s => grown_cell (w := w1) (CE0.out w1 e1).2.2 s
      have qM : ∀ s, (grown w1 s).cell? ⟨bR, 0, none⟩ = some (.int .i64 most) := fun s => grown_cell (w := w1) ((HR.out.ext e1).cell 0) s
      have HE1 := Lib.hid e1
      clear e1 g0 g1 g2
      go_upto_region 1 with fail
      refine wp_region_grow_tail 9 (by kernel_rfl) (by kernel_rfl) ?_
      simp only [List.take_succ_cons, List.take_zero, List.drop_succ_cons, List.drop_zero]
      repeat (go_big_quiet_step (fail))
      refine wpQuiet_nil ?_
      rintro _ ⟨sg, rfl⟩
      have e2 := HE1.out.trans (grown_ext w1 sg)
      generalize grown w1 sg = w2 at *
      clear q0 q1 q2 qM
      go_wp2_with fail
      refine (config_must_yes 28 x0 _).mono ?_
      rintro x w3 ⟨rfl, e3⟩
      have HE3 := Lib.hid (e2.trans e3)
      obtain ⟨h0, h1, h2⟩ := CE1.out w3 HE3.out
      clear e2 e3
      go_wp2_with fail
      refine (HDP.out _).mono ?_
      rintro x w4 ⟨rfl, rfl⟩
      by_cases hde : DE = 0
      · subst hde
        go_wp2_with fail
        refine (config_must_yes 0 x1 _).mono ?_
        rintro x w5 ⟨rfl, e5⟩
        have HE5 := Lib.hid (HE3.out.trans e5)
        obtain ⟨i0, i1, i2⟩ := CE1.out w5 HE5.out
        clear e5
        by_cases hlo : 1 ≤ D
        · by_cases hhi : D ≤ 1000000
          · go_wp2_with fail
            refine (config_must_yes 29 x1 _).mono ?_
            rintro x w6 ⟨rfl, e6⟩
            have hB := HR.out.ext (HE5.out.trans e6)
            have cM := hB.cell 0
            have fM := hB.free 0
            have hBl := hB.lt
            have HB := Lib.hid hB
            have HE6 := Lib.hid (HE5.out.trans e6)
            clear hB e6
            go_wp2
            go_end0
            refine HZ.out _ _ (fun _ => ⟨rfl, HB.out.set 0 _, ((HE6.out.toB bR).setCell 0 _)⟩) (fun q => ?_)
            rw [HE.out, if_neg (by simpa using hm), if_neg (by simp), if_neg (by omega)] at q
            exact absurd rfl q
          · have HER : Hid (szErr most ws = (29, 1)) := Lib.hid (by rw [HE.out, if_neg (by simpa using hm), if_neg (by simp), if_pos (Or.inr (by omega))])
            have hhb : decide (D ≤ 1000000) = false := decide_eq_false hhi
            go_wp2_with fail
            refine (config_must_no 29 x1 _).mono ?_
            rintro x w6 ⟨rfl, e6⟩
            have HF := Lib.hid (HZ.out (faultE 29 x1.line x1.col) w6 (fun q => by rw [HER.out] at q; cases q) (fun _ => ⟨by rw [HER.out, HX1.out], HE5.out.trans e6⟩))
            unfold faultE at *
            go_wp2
            exact ⟨rfl, HF.out⟩
        · have HER : Hid (szErr most ws = (29, 1)) := Lib.hid (by rw [HE.out, if_neg (by simpa using hm), if_neg (by simp), if_pos (Or.inl (by omega))])
          have hhb : decide (1 ≤ D) = false := decide_eq_false hlo
          go_wp2_with fail
          refine (config_must_no 29 x1 _).mono ?_
          rintro x w6 ⟨rfl, e6⟩
          have HF := Lib.hid (HZ.out (faultE 29 x1.line x1.col) w6 (fun q => by rw [HER.out] at q; cases q) (fun _ => ⟨by rw [HER.out, HX1.out], HE5.out.trans e6⟩))
          unfold faultE at *
          go_wp2
          exact ⟨rfl, HF.out⟩
      · have hdb : (DE == 0) = false := by simpa using hde
        have HER : Hid (szErr most ws = (DE, 1)) := Lib.hid (by rw [HE.out, if_neg (by simpa using hm), if_pos hde])
        have HDE := Lib.hid hde
        clear hde
        go_wp2_with fail
        refine (config_must_no DE x1 _).mono ?_
        rintro x w5 ⟨rfl, e5⟩
        have HF := Lib.hid (HZ.out (faultE DE x1.line x1.col) w5 (fun q => by rw [HER.out] at q; exact absurd q HDE.out) (fun _ => ⟨by rw [HER.out, HX1.out], HE3.out.trans e5⟩))
        unfold faultE at *
        go_wp2
        exact ⟨rfl, HF.out⟩
    · have hmb : (most == 0) = false := by simpa using hm
      have HER : Hid (szErr most ws = (28, 0)) := Lib.hid (by rw [HE.out, if_pos hm])
      clear hm
      go_enter Tryz.func46, Tryz.ntmps46
      go_wp2_with fail
      refine (config_must_yes 22 x0 _).mono ?_
      rintro x w1 ⟨rfl, e1⟩
      have q0 := fun s => grown_cell (w := w1) (CE0.out w1 e1).1 s
      have q1 := fun s => grown_cell (w := w1) (CE0.out w1 e1).2.1 s
      have q2 := fun s => grown_cell (w := w1) (CE0.out w1 e1).2.2 s
      have qM : ∀ s, (grown w1 s).cell? ⟨bR, 0, none⟩ = some (.int .i64 most) := fun s => grown_cell (w := w1) ((HR.out.ext e1).cell 0) s
      have HE1 := Lib.hid e1
      clear e1 g0 g1 g2
      go_upto_region 1 with fail
      refine wp_region_grow_tail 9 (by kernel_rfl) (by kernel_rfl) ?_
      simp only [List.take_succ_cons, List.take_zero, List.drop_succ_cons, List.drop_zero]
      repeat (go_big_quiet_step (fail))
      refine wpQuiet_nil ?_
      rintro _ ⟨sg, rfl⟩
      have e2 := HE1.out.trans (grown_ext w1 sg)
      generalize grown w1 sg = w2 at *
      clear q0 q1 q2 qM
      go_wp2_with fail
      refine (config_must_no 28 x0 _).mono ?_
      rintro x w3 ⟨rfl, e3⟩
      have HF := Lib.hid (HZ.out (faultE 28 x0.line x0.col) w3 (fun q => by rw [HER.out] at q; cases q) (fun _ => ⟨by rw [HER.out, HX0.out], e2.trans e3⟩))
      unfold faultE at *
      go_wp2
      exact ⟨rfl, HF.out⟩
  · have E : szErr most ws = (22, 0) := by unfold szErr; rw [if_pos hlen]
    have hl : ((ws.length : Int) == 2) = false := by rw [beq_eq_false_iff_ne]; omega
    have hx0 : wdAt ws 0 = ws[0] := by unfold wdAt; rw [List.getD_eq_getElem?_getD, List.getElem?_eq_getElem hl0]; rfl
    have HE : Hid (∀ V, Ext w V → SzIs w bR mb rv most ws (faultE 22 ws[0].line ws[0].col) V) := Lib.hid (fun V e => Or.inr ⟨by rw [E]; decide, by rw [E, hx0], e⟩)
    clear hx0 E hlen CE
    generalize ws[0] = x0 at *
    generalize ws.length = n at *
    go_enter Tryz.func46, Tryz.ntmps46
    go_wp2_with fail
    refine (config_must_no 22 x0 _).mono ?_
    rintro x w1 ⟨rfl, hx1⟩
    have HE1 := Lib.hid (HE.out w1 hx1)
    clear HE
    unfold faultE at *
    go_wp2
    exact ⟨rfl, HE1.out⟩
theorem UMapIs.ext {w w' : World} {b c : Nat} {l : UMap} (h : UMapIs w b l c) (e : Ext w w') : UMapIs w' b l c := (e.block h.lt).trans h
theorem UMapIs.extB {w w' : World} {b c g : Nat} {l : UMap} (h : UMapIs w b l c) (e : ExtB g w w') (ne : b ≠ g) : UMapIs w' b l c := (e.block b h.lt ne).trans h
theorem has_pre {l : UMap} {rs : List Rl} (h : l.map (·.1) = rs.map (·.p)) (p : ByteArray) : l.has p = hasPre rs p := by
  have e1 : l.has p = (l.map (·.1)).any (fun x => decide (x = p)) := by unfold UMap.has; rw [List.any_map]; rfl
  have e2 : hasPre rs p = (rs.map (·.p)).any (fun x => decide (x = p)) := by unfold hasPre; rw [List.any_map]; rfl
  rw [e1, e2, h]
theorem zero_unit (w : World) : (zeroValue 185).run Tryz.prog w = .ok (.agg #[]) w := by kernel_rfl
theorem set_look {V : World} {mb c : Nat} {l : UMap} (h : UMapIs V mb l c) (key : ByteArray) : (Instr.lookup 103 (.map (some mb)) (.string key) true).run Tryz.prog V = .ok (.tuple #[.agg #[], .bool (l.has key)]) V :=
  run_ulook Tryz.underlying103 Tryz.underlying9 h (zero_unit V) key
/-- what the end of the lines does -/
def EndIs (w : World) (s : CfgSt) (x : Ending) (w' : World) : Prop :=
  Ext w w' ∧ ((endErr s = 0 ∧ x = .returned (.tuple #[])) ∨ (endErr s ≠ 0 ∧ x = faultE (endErr s) 0 0))
set_option maxHeartbeats 2000000 in
set_option maxRecDepth 100000 in
theorem reader_end (bR mb c : Nat) (rv : Value) (most : Int) (rs : List Rl) (l : UMap) (w : World) (hR : Blk w bR (rdC most rv mb) 105) (hm : UMapIs w mb l c) (hl : l.map (·.1) = rs.map (·.p)) (h0 : 0 ≤ most) :
    Calls Tryz.prog 48 #[.pointer (some ⟨bR, 0, none⟩)] w fun x w' => EndIs w ⟨most, rs⟩ x w' := by
  have c0 : w.cell? ⟨bR, 0, none⟩ = some (.int .i64 most) := hR.cell 0
  have cl0 := hR.lt
  have HR := Lib.hid hR
  have HM := Lib.hid hm
  have e0 := has_pre hl ⟨#[]⟩
  have HE : Hid (endErr ⟨most, rs⟩ = if most = 0 then 30 else if l.has ⟨#[]⟩ = false then 31 else 0) := Lib.hid (by unfold endErr; rw [e0])
  generalize hh : l.has ⟨#[]⟩ = H at *
  have HH := Lib.hid hh
  clear hh e0 hm
  by_cases hz : most = 0
  · have HER : Hid (endErr ⟨most, rs⟩ = 30) := Lib.hid (by rw [HE.out, if_pos hz])
    subst hz
    go_enter Tryz.func48, Tryz.ntmps48
    go_wp2_with fail
    refine (config_must_no 30 wd0 _).mono ?_
    rintro x w1 ⟨rfl, e1⟩
    have HF : Hid (EndIs w ⟨0, rs⟩ (faultE 30 wd0.line wd0.col) w1) := Lib.hid ⟨e1, Or.inr ⟨by rw [HER.out]; decide, by rw [HER.out]; rfl⟩⟩
    unfold faultE at *
    go_wp2
    exact ⟨rfl, HF.out⟩
  · have hp : 0 < most := by omega
    go_enter Tryz.func48, Tryz.ntmps48
    go_wp2_with fail
    refine (config_must_yes 30 wd0 _).mono ?_
    rintro x w1 ⟨rfl, e1⟩
    have c2 : w1.cell? ⟨bR, 2, none⟩ = some (.map (some mb)) := (HR.out.ext e1).cell 2
    have cl1 := (HR.out.ext e1).lt
    have hlk := set_look (HM.out.ext e1) ⟨#[]⟩
    rw [HH.out] at hlk
    have HE1 := Lib.hid e1
    clear e1
    cases H with
    | true =>
      have HER : Hid (endErr ⟨most, rs⟩ = 0) := Lib.hid (by rw [HE.out, if_neg hz, if_neg (by simp)])
      go_wp2_with fail
      refine (config_must_yes 31 wd0 _).mono ?_
      rintro x w2 ⟨rfl, e2⟩
      have HX := Lib.hid (HE1.out.trans (((Ext.refl w1).alloc _).trans e2))
      clear e2
      go_wp2
      go_end0
      exact ⟨HX.out, Or.inl ⟨HER.out, rfl⟩⟩
    | false =>
      have HER : Hid (endErr ⟨most, rs⟩ = 31) := Lib.hid (by rw [HE.out, if_neg hz, if_pos rfl])
      go_wp2_with fail
      refine (config_must_no 31 wd0 _).mono ?_
      rintro x w2 ⟨rfl, e2⟩
      have HF : Hid (EndIs w ⟨most, rs⟩ (faultE 31 wd0.line wd0.col) w2) := Lib.hid ⟨HE1.out.trans (((Ext.refl w1).alloc _).trans e2), Or.inr ⟨by rw [HER.out]; decide, by rw [HER.out]; rfl⟩⟩
      unfold faultE at *
      go_wp2
      exact ⟨rfl, HF.out⟩
end Go.Proofs.YtknlojlcahgnoaaGreat
