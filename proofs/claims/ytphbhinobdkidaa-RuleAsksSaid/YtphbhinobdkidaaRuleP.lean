/- rule.Parse: its contract. -/
import Derived.Test.YtphbhinobdkidaaRule6a
import Derived.Test.YtphbhinobdkidaaRule6b
import Derived.Test.YtphbhinobdkidaaRule6c
import Derived.Test.YtphbhinobdkidaaRule6d
import Derived.Test.YtphbhinobdkidaaSlices
namespace Go.Proofs.Ytphbhinobdkidaa
open Go.RowKit
set_option linter.unusedVariables false
set_option linter.unusedSimpArgs false

structure PRes where
  p : ByteArray
  e : Int
  b : Int
  k : Int
  err : Int
  at_ : Int
def PRes.v (r : PRes) : Value := parseRet r.p r.e r.b r.k r.err r.at_
def pbad (err at_ : Int) : PRes := ⟨⟨#[]⟩, 0, 0, 0, err, at_⟩
def parse3 (s1 s2 s3 : ByteArray) : PRes :=
  if numErr s1 24 ≠ 0 then pbad (numErr s1 24) 1 else if burstErr (digNum s1) s2 ≠ 0 then pbad (burstErr (digNum s1) s2) 2
  else if kindErr (kindOf s3) ≠ 0 then pbad (kindErr (kindOf s3)) 3 else ⟨⟨#[]⟩, digNum s1, digNum s2, kindOf s3, 0, 0⟩
def parse4 (s1 s2 s3 s4 : ByteArray) : PRes :=
  if prefErr s1 ≠ 0 then pbad (prefErr s1) 1 else if numErr s2 24 ≠ 0 then pbad (numErr s2 24) 2 else if burstErr (digNum s2) s3 ≠ 0 then pbad (burstErr (digNum s2) s3) 3
  else if kindErr (kindOf s4) ≠ 0 then pbad (kindErr (kindOf s4)) 4 else ⟨s1, digNum s2, digNum s3, kindOf s4, 0, 0⟩
def parseD : List ByteArray → PRes
  | [a, b, c] => parse3 a b c
  | _ => pbad 22 0
def parseR : List ByteArray → PRes
  | [a, b, c, d] => parse4 a b c d
  | _ => pbad 22 0
theorem parseD_len (r : List ByteArray) (h : r.length ≠ 3) : parseD r = pbad 22 0 := by
  unfold parseD
  split
  · simp at h
  · rfl
theorem parseR_len (r : List ByteArray) (h : r.length ≠ 4) : parseR r = pbad 22 0 := by
  unfold parseR
  split
  · simp at h
  · rfl
def ruleParse : List ByteArray → PRes
  | [] => pbad 22 0
  | s :: r => if s = wDef then parseD r else if s = wRule then parseR r else pbad 22 0
theorem ruleParse_cons (s : ByteArray) (r : List ByteArray) : ruleParse (s :: r) = if s = wDef then parseD r else if s = wRule then parseR r else pbad 22 0 := rfl
theorem ruleParse_def (r : List ByteArray) : ruleParse (wDef :: r) = parseD r := by rw [ruleParse_cons, if_pos rfl]
theorem ruleParse_rule (r : List ByteArray) : ruleParse (wRule :: r) = parseR r := by
  show (if wRule = wDef then parseD r else if wRule = wRule then parseR r else pbad 22 0) = _
  rw [if_neg (by intro h; have := congrArg ByteArray.size h; revert this; decide), if_pos rfl]

theorem rule_Parse (v : Value) (l : List ByteArray) (w : World) (h : StrSlice w v l) :
    Calls Try.prog 16 #[v] w fun x w' => x = .returned (ruleParse l).v ∧ Ext w w' := by
  obtain ⟨⟨a, c, rfl, hl⟩, hlen, heach⟩ := h
  match l, hl, hlen, heach with
  | [], _, _, _ => exact rule_Parse_empty a c w
  | s :: r, hl, hlen, heach =>
    obtain ⟨b, o, rfl, hc⟩ := hl (by simp)
    have c0 : w.cell? ⟨b, o, none⟩ = some (.string s) := hc 0 (by simp)
    by_cases h1 : s = wDef
    · subst h1
      rw [ruleParse_def]
      by_cases hr : r.length = 3
      · match r, hr, hc, heach with
        | [s1, s2, s3], _, hc, heach =>
          have c1 : w.cell? ⟨b, o + 1, none⟩ = some (.string s1) := hc 1 (by simp)
          have c2 : w.cell? ⟨b, o + 2, none⟩ = some (.string s2) := hc 2 (by simp)
          have c3 : w.cell? ⟨b, o + 3, none⟩ = some (.string s3) := hc 3 (by simp)
          have m1 := heach s1 (by simp)
          have m2 := heach s2 (by simp)
          have m3 := heach s3 (by simp)
          show Calls _ _ _ _ fun x w' => x = .returned (parse3 s1 s2 s3).v ∧ _
          unfold parse3
          by_cases h1 : numErr s1 24 = 0
          · rw [if_neg (by simpa using h1)]
            by_cases h2 : burstErr (digNum s1) s2 = 0
            · rw [if_neg (by simpa using h2)]
              by_cases h3 : kindErr (kindOf s3) = 0
              · rw [if_neg (by simpa using h3)]
                exact rule_Parse_def4 b o c s1 s2 s3 w c0 c1 m1 c2 m2 c3 m3 h1 h2 h3
              · rw [if_pos h3]
                exact rule_Parse_def3 b o c s1 s2 s3 w c0 c1 m1 c2 m2 c3 m3 h1 h2 h3
            · rw [if_pos h2]
              exact rule_Parse_def2 b o c s1 s2 s3 w c0 c1 m1 c2 m2 c3 m3 h1 h2
          · rw [if_pos h1]
            exact rule_Parse_def1 b o c s1 s2 s3 w c0 c1 m1 c2 m2 c3 m3 h1
      · rw [parseD_len r hr]
        exact rule_Parse_deflen b o _ c w (by simp) hlen c0 (by simp only [List.length_cons]; omega)
    by_cases h2 : s = wRule
    · subst h2
      rw [ruleParse_rule]
      by_cases hr : r.length = 4
      · match r, hr, hc, heach with
        | [s1, s2, s3, s4], _, hc, heach =>
          have c1 : w.cell? ⟨b, o + 1, none⟩ = some (.string s1) := hc 1 (by simp)
          have c2 : w.cell? ⟨b, o + 2, none⟩ = some (.string s2) := hc 2 (by simp)
          have c3 : w.cell? ⟨b, o + 3, none⟩ = some (.string s3) := hc 3 (by simp)
          have c4 : w.cell? ⟨b, o + 4, none⟩ = some (.string s4) := hc 4 (by simp)
          have m1 := heach s1 (by simp)
          have m2 := heach s2 (by simp)
          have m3 := heach s3 (by simp)
          have m4 := heach s4 (by simp)
          show Calls _ _ _ _ fun x w' => x = .returned (parse4 s1 s2 s3 s4).v ∧ _
          unfold parse4
          by_cases h0 : prefErr s1 = 0
          · rw [if_neg (by simpa using h0)]
            by_cases h1 : numErr s2 24 = 0
            · rw [if_neg (by simpa using h1)]
              by_cases h2 : burstErr (digNum s2) s3 = 0
              · rw [if_neg (by simpa using h2)]
                by_cases h3 : kindErr (kindOf s4) = 0
                · rw [if_neg (by simpa using h3)]
                  exact rule_Parse_rule5 b o c s1 s2 s3 s4 w c0 c1 m1 c2 m2 c3 m3 c4 m4 h0 h1 h2 h3
                · rw [if_pos h3]
                  exact rule_Parse_rule4 b o c s1 s2 s3 s4 w c0 c1 m1 c2 m2 c3 m3 c4 m4 h0 h1 h2 h3
              · rw [if_pos h2]
                exact rule_Parse_rule3 b o c s1 s2 s3 s4 w c0 c1 m1 c2 m2 c3 m3 c4 m4 h0 h1 h2
            · rw [if_pos h1]
              exact rule_Parse_rule2 b o c s1 s2 s3 s4 w c0 c1 m1 c2 m2 c3 m3 c4 m4 h0 h1
          · rw [if_pos h0]
            exact rule_Parse_rule1 b o c s1 s2 s3 s4 w c0 c1 m1 c2 m2 c3 m3 c4 m4 h0
      · rw [parseR_len r hr]
        exact rule_Parse_rulelen b o _ c w (by simp) hlen c0 (by simp only [List.length_cons]; omega)
    · have e : ruleParse (s :: r) = pbad 22 0 := by rw [ruleParse_cons, if_neg h1, if_neg h2]
      rw [e]
      exact rule_Parse_other b o _ c s w (by simp) hlen c0 h1 h2
end Go.Proofs.Ytphbhinobdkidaa
