/- rule.Parse: its contract. Plain: what a text of rules reads as: line by line. The walk of tollerlaw11.RuleNames. -/
import Derived.Test.YtknlojlcahgnoaaGreatCf9
import Derived.Test.YtknlojlcahgnoaaGreatCf6
import Derived.Test.YtknlojlcahgnoaaGreatCf15
import Derived.Test.YtknlojlcahgnoaaGreatCf0
import Derived.Test.YtknlojlcahgnoaaGreatCf2
import Derived.Test.YtknlojlcahgnoaaGreatCf3

namespace Go.Proofs.YtknlojlcahgnoaaGreat
open Go.RowKit
set_option linter.unusedVariables false
set_option linter.unusedSimpArgs false

structure PRes where
  p : ByteArray
  e : Int
  b : Int
  k : Int
  err : Int
  at_ : Int
def PRes.v (r : PRes) : Value := parseRet r.p r.e r.b r.k r.err r.at_
def pbad (err at_ : Int) : PRes := ⟨⟨#[]⟩, 0, 0, 0, err, at_⟩
def parse3 (s1 s2 s3 : ByteArray) : PRes :=
  if numErr s1 24 ≠ 0 then pbad (numErr s1 24) 1 else if burstErr (digNum s1) s2 ≠ 0 then pbad (burstErr (digNum s1) s2) 2
  else if kindErr (kindOf s3) ≠ 0 then pbad (kindErr (kindOf s3)) 3 else ⟨⟨#[]⟩, digNum s1, digNum s2, kindOf s3, 0, 0⟩
def parse4 (s1 s2 s3 s4 : ByteArray) : PRes :=
  if prefErr s1 ≠ 0 then pbad (prefErr s1) 1 else if numErr s2 24 ≠ 0 then pbad (numErr s2 24) 2 else if burstErr (digNum s2) s3 ≠ 0 then pbad (burstErr (digNum s2) s3) 3
  else if kindErr (kindOf s4) ≠ 0 then pbad (kindErr (kindOf s4)) 4 else ⟨s1, digNum s2, digNum s3, kindOf s4, 0, 0⟩
def parseD : List ByteArray → PRes
  | [a, b, c] => parse3 a b c
  | _ => pbad 22 0
def parseR : List ByteArray → PRes
  | [a, b, c, d] => parse4 a b c d
  | _ => pbad 22 0
theorem parseD_len (r : List ByteArray) (h : r.length ≠ 3) : parseD r = pbad 22 0 := by
  unfold parseD
  split
  · simp at h
  · rfl
theorem parseR_len (r : List ByteArray) (h : r.length ≠ 4) : parseR r = pbad 22 0 := by
  unfold parseR
  split
  · simp at h
  · rfl
def ruleParse : List ByteArray → PRes
  | [] => pbad 22 0
  | s :: r => if s = wDef then parseD r else if s = wRule then parseR r else pbad 22 0
theorem ruleParse_cons (s : ByteArray) (r : List ByteArray) : ruleParse (s :: r) = if s = wDef then parseD r else if s = wRule then parseR r else pbad 22 0 := rfl
theorem ruleParse_def (r : List ByteArray) : ruleParse (wDef :: r) = parseD r := by rw [ruleParse_cons, if_pos rfl]
theorem ruleParse_rule (r : List ByteArray) : ruleParse (wRule :: r) = parseR r := by
  show (if wRule = wDef then parseD r else if wRule = wRule then parseR r else pbad 22 0) = _
  rw [if_neg (by intro h; have := congrArg ByteArray.size h; revert this; decide), if_pos rfl]

theorem rule_Parse (v : Value) (l : List ByteArray) (w : World) (h : StrSlice w v l) :
    Calls Tryz.prog 100 #[v] w fun x w' => x = .returned (ruleParse l).v ∧ Ext w w' := by
  obtain ⟨⟨a, c, rfl, hl⟩, hlen, heach⟩ := h
  match l, hl, hlen, heach with
  | [], _, _, _ => exact rule_Parse_empty a c w
  | s :: r, hl, hlen, heach =>
    obtain ⟨b, o, rfl, hc⟩ := hl (by simp)
    have c0 : w.cell? ⟨b, o, none⟩ = some (.string s) := hc 0 (by simp)
    by_cases h1 : s = wDef
    · subst h1
      rw [ruleParse_def]
      by_cases hr : r.length = 3
      · match r, hr, hc, heach with
        | [s1, s2, s3], _, hc, heach =>
          have c1 : w.cell? ⟨b, o + 1, none⟩ = some (.string s1) := hc 1 (by simp)
          have c2 : w.cell? ⟨b, o + 2, none⟩ = some (.string s2) := hc 2 (by simp)
          have c3 : w.cell? ⟨b, o + 3, none⟩ = some (.string s3) := hc 3 (by simp)
          have m1 := heach s1 (by simp)
          have m2 := heach s2 (by simp)
          have m3 := heach s3 (by simp)
          show Calls _ _ _ _ fun x w' => x = .returned (parse3 s1 s2 s3).v ∧ _
          unfold parse3
          by_cases h1 : numErr s1 24 = 0
          · rw [if_neg (by simpa using h1)]
            by_cases h2 : burstErr (digNum s1) s2 = 0
            · rw [if_neg (by simpa using h2)]
              by_cases h3 : kindErr (kindOf s3) = 0
              · rw [if_neg (by simpa using h3)]
                exact rule_Parse_def4 b o c s1 s2 s3 w c0 c1 m1 c2 m2 c3 m3 h1 h2 h3
              · rw [if_pos h3]
                exact rule_Parse_def3 b o c s1 s2 s3 w c0 c1 m1 c2 m2 c3 m3 h1 h2 h3
            · rw [if_pos h2]
              exact rule_Parse_def2 b o c s1 s2 s3 w c0 c1 m1 c2 m2 c3 m3 h1 h2
          · rw [if_pos h1]
            exact rule_Parse_def1 b o c s1 s2 s3 w c0 c1 m1 c2 m2 c3 m3 h1
      · rw [parseD_len r hr]
        exact rule_Parse_deflen b o _ c w (by simp) hlen c0 (by simp only [List.length_cons]; omega)
    by_cases h2 : s = wRule
    · subst h2
      rw [ruleParse_rule]
      by_cases hr : r.length = 4
      · match r, hr, hc, heach with
        | [s1, s2, s3, s4], _, hc, heach =>
          have c1 : w.cell? ⟨b, o + 1, none⟩ = some (.string s1) := hc 1 (by simp)
          have c2 : w.cell? ⟨b, o + 2, none⟩ = some (.string s2) := hc 2 (by simp)
          have c3 : w.cell? ⟨b, o + 3, none⟩ = some (.string s3) := hc 3 (by simp)
          have c4 : w.cell? ⟨b, o + 4, none⟩ = some (.string s4) := hc 4 (by simp)
          have m1 := heach s1 (by simp)
          have m2 := heach s2 (by simp)
          have m3 := heach s3 (by simp)
          have m4 := heach s4 (by simp)
          show Calls _ _ _ _ fun x w' => x = .returned (parse4 s1 s2 s3 s4).v ∧ _
          unfold parse4
          by_cases h0 : prefErr s1 = 0
          · rw [if_neg (by simpa using h0)]
            by_cases h1 : numErr s2 24 = 0
            · rw [if_neg (by simpa using h1)]
              by_cases h2 : burstErr (digNum s2) s3 = 0
              · rw [if_neg (by simpa using h2)]
                by_cases h3 : kindErr (kindOf s4) = 0
                · rw [if_neg (by simpa using h3)]
                  exact rule_Parse_rule5 b o c s1 s2 s3 s4 w c0 c1 m1 c2 m2 c3 m3 c4 m4 h0 h1 h2 h3
                · rw [if_pos h3]
                  exact rule_Parse_rule4 b o c s1 s2 s3 s4 w c0 c1 m1 c2 m2 c3 m3 c4 m4 h0 h1 h2 h3
              · rw [if_pos h2]
                exact rule_Parse_rule3 b o c s1 s2 s3 s4 w c0 c1 m1 c2 m2 c3 m3 c4 m4 h0 h1 h2
            · rw [if_pos h1]
              exact rule_Parse_rule2 b o c s1 s2 s3 s4 w c0 c1 m1 c2 m2 c3 m3 c4 m4 h0 h1
          · rw [if_pos h0]
            exact rule_Parse_rule1 b o c s1 s2 s3 s4 w c0 c1 m1 c2 m2 c3 m3 c4 m4 h0
      · rw [parseR_len r hr]
        exact rule_Parse_rulelen b o _ c w (by simp) hlen c0 (by simp only [List.length_cons]; omega)
    · have e : ruleParse (s :: r) = pbad 22 0 := by rw [ruleParse_cons, if_neg h1, if_neg h2]
      rw [e]
      exact rule_Parse_other b o _ c s w (by simp) hlen c0 h1 h2
end Go.Proofs.YtknlojlcahgnoaaGreat

namespace Go.Proofs.YtknlojlcahgnoaaGreat
open Go.RowKit
set_option linter.unusedVariables false
set_option linter.unusedSimpArgs false

def wd0 : Wd := ⟨⟨#[]⟩, 0, 0⟩
def wdAt (ws : List Wd) (i : Nat) : Wd := ws.getD i wd0
def wTexts (ws : List Wd) : List ByteArray := ws.map (·.t)
/-- what is wrong with a line of the size, and with which word; 0: nothing -/
def szErr (most : Int) (ws : List Wd) : Int × Nat :=
  if ws.length ≠ 2 then (22, 0) else if most ≠ 0 then (28, 0) else if digErr (wdAt ws 1).t ≠ 0 then (digErr (wdAt ws 1).t, 1)
  else if digNum (wdAt ws 1).t < 1 ∨ 1000000 < digNum (wdAt ws 1).t then (29, 1) else (0, 0)
def prRl (r : PRes) : Rl := ⟨r.p, r.e, r.b, r.k⟩
/-- is there a rule with a prefix -/
def hasPre (rs : List Rl) (p : ByteArray) : Bool := rs.any fun r => decide (r.p = p)
/-- what is wrong with a line of a rule, and with which word; 0: nothing -/
def rlErr (rs : List Rl) (ws : List Wd) : Int × Nat :=
  if (ruleParse (wTexts ws)).err ≠ 0 then ((ruleParse (wTexts ws)).err, (ruleParse (wTexts ws)).at_.toNat)
  else if hasPre rs (ruleParse (wTexts ws)).p = true then (28, if (ruleParse (wTexts ws)).p = ⟨#[]⟩ then 0 else 1)
  else if 1000 ≤ rs.length then (32, 0) else (0, 0)
def wSize : ByteArray := ⟨#[115, 105, 122, 101]⟩
structure CfgSt where
  most : Int
  rs : List Rl
def cfg0 : CfgSt := ⟨0, []⟩
def lnErr (s : CfgSt) (ws : List Wd) : Int × Nat := if (wdAt ws 0).t = wSize then szErr s.most ws else rlErr s.rs ws
def lnPut (s : CfgSt) (ws : List Wd) : CfgSt := if (wdAt ws 0).t = wSize then ⟨digNum (wdAt ws 1).t, s.rs⟩ else ⟨s.most, s.rs ++ [prRl (ruleParse (wTexts ws))]⟩
/-- the lines, one behind another: what comes of them, or what is wrong, and where -/
def cfgLines (s : CfgSt) : List (List Wd) → Sum (Int × Int × Int) CfgSt
  | [] => .inr s
  | ws :: r => if (lnErr s ws).1 ≠ 0 then .inl ((lnErr s ws).1, (wdAt ws (lnErr s ws).2).line, (wdAt ws (lnErr s ws).2).col) else cfgLines (lnPut s ws) r
def endErr (s : CfgSt) : Int := if s.most = 0 then 30 else if hasPre s.rs ⟨#[]⟩ = false then 31 else 0

theorem parse3_cases (a b c : ByteArray) : (parse3 a b c).err = 0 ∨ ∃ e i, parse3 a b c = pbad e i ∧ e ≠ 0 ∧ 1 ≤ i ∧ i ≤ 3 := by
  unfold parse3
  split
  · rename_i h; exact Or.inr ⟨_, 1, rfl, h, by omega, by omega⟩
  · split
    · rename_i h; exact Or.inr ⟨_, 2, rfl, h, by omega, by omega⟩
    · split
      · rename_i h; exact Or.inr ⟨_, 3, rfl, h, by omega, by omega⟩
      · exact Or.inl rfl
/-- where a rule's error is: a word of the line -/
theorem ruleParse_at (l : List ByteArray) (h : l ≠ []) : 0 ≤ (ruleParse l).at_ ∧ (ruleParse l).at_ < l.length := by
  cases l with
  | nil => exact absurd rfl h
  | cons s r =>
    rw [ruleParse_cons]
    split
    · by_cases hr : r.length = 3
      · obtain ⟨a, b, c, rfl⟩ : ∃ a b c, r = [a, b, c] := by
          match r, hr with
          | [a, b, c], _ => exact ⟨a, b, c, rfl⟩
        show 0 ≤ (parse3 a b c).at_ ∧ _
        have := parse3_cases a b c
        unfold parse3 at *
        simp only [parseD, parse3]
        repeat' split
        all_goals simp [pbad]
      · rw [parseD_len _ hr]
        simp [pbad]
    · split
      · by_cases hr : r.length = 4
        · obtain ⟨a, b, c, d, rfl⟩ : ∃ a b c d, r = [a, b, c, d] := by
            match r, hr with
            | [a, b, c, d], _ => exact ⟨a, b, c, d, rfl⟩
          simp only [parseR, parse4]
          repeat' split
          all_goals simp [pbad]
        · rw [parseR_len _ hr]
          simp [pbad]
      · simp [pbad]
/-- a rule that is read has a prefix only behind the first word -/
theorem ruleParse_pre {l : List ByteArray} (h : (ruleParse l).p ≠ ⟨#[]⟩) : l.length = 5 := by
  cases l with
  | nil => exact absurd rfl h
  | cons s r =>
    rw [ruleParse_cons] at h
    by_cases hs : s = wDef
    · rw [if_pos hs] at h
      exfalso
      apply h
      by_cases hr : r.length = 3
      · obtain ⟨a, b, c, rfl⟩ : ∃ a b c, r = [a, b, c] := by
          match r, hr with
          | [a, b, c], _ => exact ⟨a, b, c, rfl⟩
        simp only [parseD, parse3]
        repeat' split
        all_goals simp [pbad]
      · rw [parseD_len _ hr]
        simp [pbad]
    · rw [if_neg hs] at h
      by_cases hw : s = wRule
      · rw [if_pos hw] at h
        by_cases hr : r.length = 4
        · rw [List.length_cons, hr]
        · rw [parseR_len _ hr] at h
          exact absurd rfl h
      · rw [if_neg hw] at h
        exact absurd rfl h

/-- the prefixes that were met: a map to nothing -/
abbrev UMap := List (ByteArray × Nat)
def uent (x : ByteArray × Nat) : MapEntry := ⟨.string x.1, .agg #[], x.2⟩
def UMapIs (w : World) (b : Nat) (l : UMap) (c : Nat) : Prop := w.heap[b]? = some (.map (l.map uent).toArray c)
theorem UMapIs.lt {w : World} {b c : Nat} {l : UMap} (h : UMapIs w b l c) : b < w.heap.size := lt_of_block h
def UMap.has (l : UMap) (k : ByteArray) : Bool := l.any fun x => decide (x.1 = k)
theorem ubeq (a b : ByteArray) : (a == b) = decide (a = b) := by
  by_cases h : a = b
  · subst h; rw [decide_eq_true rfl]; exact (MapKept.bytes_beq a a).2 rfl
  · rw [decide_eq_false h]
    cases hb : a == b
    · rfl
    · exact absurd ((MapKept.bytes_beq a b).1 hb) h
theorem ufind_none {l : UMap} {k : ByteArray} (h : l.has k = false) (i : Nat) : Instr.findNow .string (.string k) (l.map uent) i = some none := by
  induction l generalizing i with
  | nil => rfl
  | cons x l ih =>
    unfold UMap.has at h
    rw [List.any_cons, Bool.or_eq_false_iff] at h
    have e : (k == x.1) = false := by rw [ubeq]; exact decide_eq_false (fun q => by simp [q] at h)
    simp [Instr.findNow, uent, Instr.sameNow, e]
    exact ih h.2 (i + 1)
theorem ufind_some {l : UMap} {k : ByteArray} (h : l.has k = true) (i : Nat) : ∃ j, Instr.findNow .string (.string k) (l.map uent) i = some (some (j, .agg #[])) := by
  induction l generalizing i with
  | nil => cases h
  | cons x l ih =>
    by_cases hk : x.1 = k
    · have e : (k == x.1) = true := by rw [ubeq]; exact decide_eq_true hk.symm
      exact ⟨i, by simp [Instr.findNow, uent, Instr.sameNow, e]⟩
    · have h' : UMap.has l k = true := by
        unfold UMap.has at h ⊢
        rw [List.any_cons, Bool.or_eq_true] at h
        rcases h with h | h
        · exact absurd (of_decide_eq_true h) hk
        · exact h
      obtain ⟨j, hj⟩ := ih h' (i + 1)
      have e : (k == x.1) = false := by rw [ubeq]; exact decide_eq_false (fun q => hk q.symm)
      exact ⟨j, by simp [Instr.findNow, uent, Instr.sameNow, e]; exact hj⟩
section
variable {P : Program} {t k e : TypeId}
theorem run_ulook (ht : P.underlying t = some (.map k e)) (hk : P.underlying k = some .string) {w : World} {b c : Nat} {l : UMap} (h : UMapIs w b l c) (hz : (zeroValue e).run P w = .ok (.agg #[]) w) (key : ByteArray) :
    (Instr.lookup t (.map (some b)) (.string key) true).run P w = .ok (.tuple #[.agg #[], .bool (l.has key)]) w := by
  cases hl : l.has key with
  | true =>
    obtain ⟨j, hj⟩ := ufind_some hl 0
    exact (run_lookup_yes ht hk (key := .string key) trivial h (by simpa using hj)).1
  | false => exact (run_lookup_no ht hk (key := .string key) trivial h hz (by simpa using ufind_none hl 0)).1
theorem run_uput (ht : P.underlying t = some (.map k e)) (hk : P.underlying k = some .string) {w : World} {b c : Nat} {l : UMap} (h : UMapIs w b l c) {key : ByteArray} (hn : l.has key = false) :
    ∃ w', (Instr.mapUpdate t (.map (some b)) (.string key) (.agg #[])).run P w = .ok () w' ∧ UMapIs w' b (l ++ [(key, c)]) (c + 1) ∧ ExtB b w w' := by
  have hb : w.heap[b]? = some (.map (l.map uent).toArray c) := h
  have hkey : MapKept.IsKey .string (.string key) := trivial
  have hf : Instr.findNow .string (.string key) (l.map uent).toArray.toList 0 = some none := by simpa using ufind_none hn 0
  refine ⟨{ w with heap := w.heap.setIfInBounds b (.map ((l.map uent).toArray.push ⟨.string key, .agg #[], c⟩) (c + 1)) }, ?_, ?_, ⟨rfl, rfl, rfl, by simp, fun j _ hj => (MapKept.heap_set hb).2 j hj⟩⟩
  · simp [Instr.mapUpdate, run_underlying ht, MapKept.run_getObj_map hb, MapKept.run_checkKey hk hkey, MapKept.run_findKey hk hf, MapKept.run_setObj_map _ hb, Result.andThen]
  · have := (MapKept.heap_set (o' := .map ((l.map uent).toArray.push ⟨.string key, .agg #[], c⟩) (c + 1)) hb).1
    unfold UMapIs
    rw [show ((l ++ [(key, c)]).map uent).toArray = (l.map uent).toArray.push ⟨.string key, .agg #[], c⟩ by simp [uent]]
    exact this
end
end Go.Proofs.YtknlojlcahgnoaaGreat

namespace Go.Proofs.YtknlojlcahgnoaaGreat
open Go.RowKit
set_option linter.unusedVariables false
set_option linter.unusedSimpArgs false

theorem kind_name_yes (k : Int) (h : 1 ≤ k ∧ k ≤ 3) : kindOf (nameOf k) = k ∧ (nameOf k).toList.isEmpty = false ∧ ¬ (nameOf k).toList = [] := by
  rcases (by omega : k = 1 ∨ k = 2 ∨ k = 3) with rfl | rfl | rfl
  · exact ⟨by kernel_rfl, by rw [isEmpty_iff]; decide, by rw [toList_nil_iff]; decide⟩
  · exact ⟨by kernel_rfl, by rw [isEmpty_iff]; decide, by rw [toList_nil_iff]; decide⟩
  · exact ⟨by kernel_rfl, by rw [isEmpty_iff]; decide, by rw [toList_nil_iff]; decide⟩
theorem bytes_of_toList {a b : ByteArray} (h : (a.toList == b.toList) = true) : a = b := by
  have h' : a.toList = b.toList := by simpa using h
  rw [ByteArray.toList_eq, ByteArray.toList_eq] at h'
  have := Array.toList_inj.1 h'
  cases a; cases b; simp_all
theorem kindOf_cases (s : ByteArray) : (kindOf s = 0 ∧ s ≠ nmG ∧ s ≠ nmB ∧ s ≠ nmL) ∨ (kindOf s = 1 ∧ s = nmG) ∨ (kindOf s = 2 ∧ s = nmB) ∨ (kindOf s = 3 ∧ s = nmL) := by
  unfold kindOf
  simp only [sIdx]
  by_cases h1 : (s.toList == nmG.toList) = true
  · right; left; exact ⟨by simp [h1], bytes_of_toList h1⟩
  by_cases h2 : (s.toList == nmB.toList) = true
  · right; right; left; exact ⟨by simp [h1, h2], bytes_of_toList h2⟩
  by_cases h3 : (s.toList == nmL.toList) = true
  · right; right; right; exact ⟨by simp [h1, h2, h3], bytes_of_toList h3⟩
  left
  refine ⟨by simp [h1, h2, h3], ?_, ?_, ?_⟩
  · intro e; subst e; simp at h1
  · intro e; subst e; simp at h2
  · intro e; subst e; simp at h3
end Go.Proofs.YtknlojlcahgnoaaGreat
