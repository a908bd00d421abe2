/- Plain: what is printed is read. Plain: a line's words by the document, word by word. How a slice of numbers, and a policy, come out of an argument's reading. A []byte argument, and its capacity. -/
import Derived.Deep.Slices
import Derived.Deep.Fields
import Derived.ChangeSame
import Derived.Lib.SmallJoins
import Derived.SizedLaws
import Derived.Test.YtknlojlcahgnoaaGreatCf43
import Derived.Test.YtknlojlcahgnoaaGreatCf42
import Derived.Test.YtknlojlcahgnoaaGreatCf30
import Derived.Test.YtknlojlcahgnoaaGreatCf2
import Derived.Test.YtknlojlcahgnoaaGreatCf29
import Derived.Test.YtknlojlcahgnoaaGreatCf18
import Derived.Test.YtknlojlcahgnoaaGreatCf12
import Derived.Test.YtknlojlcahgnoaaGreatCf39
import Derived.Test.YtknlojlcahgnoaaGreatCf6
import Derived.Test.YtknlojlcahgnoaaGreatCf32

namespace Go.Proofs.YtknlojlcahgnoaaGreat
open Go.RowKit
set_option linter.unusedVariables false
set_option linter.unusedSimpArgs false

def spRun (s : SpSt) (l : List UInt8) : SpSt := l.foldl spStep s
theorem spRun_app (s : SpSt) (a b : List UInt8) : spRun s (a ++ b) = spRun (spRun s a) b := by unfold spRun; rw [List.foldl_append]
theorem run_vis : ∀ (l : List UInt8) (s : SpSt), (∀ b ∈ l, bKind b = 0) → spRun s l = ⟨s.line, s.col + l.length, s.cur ++ l, s.row, s.out⟩
  | [], s, _ => by simp [spRun]
  | b :: l, s, h => by
    have e : spStep s b = ⟨s.line, s.col + 1, s.cur ++ [b], s.row, s.out⟩ := by unfold spStep; rw [if_pos (h b (by simp))]
    show spRun (spStep s b) l = _
    rw [run_vis l _ fun x hx => h x (by simp [hx]), e]
    simp
    omega
/-- a word that is printed -/
def Vis (s : ByteArray) : Prop := s.data.toList ≠ [] ∧ ∀ b ∈ s.data.toList, bKind b = 0
theorem bText_data (s : ByteArray) : bText s.data.toList = s := by unfold bText; simp
theorem keep_vis {s : ByteArray} (h : Vis s) (n c : Nat) (row : List Wd) : keepW n (c + s.data.toList.length) s.data.toList row = row ++ [⟨s, n, c⟩] := by
  unfold keepW
  rw [if_neg h.1, bText_data]
  simp
/-- words of a line, and where they stand -/
def wdsFrom (n c : Nat) : List ByteArray → List Wd
  | [] => []
  | s :: r => ⟨s, n, c⟩ :: wdsFrom n (c + s.data.toList.length + 1) r
theorem joinL_one (s : ByteArray) : joinL [s] = s.data.toList := by simp [joinL, Lib.join, List.intercalate]
theorem joinL_more (s t : ByteArray) (r : List ByteArray) : joinL (s :: t :: r) = s.data.toList ++ 32 :: joinL (t :: r) := by simp [joinL, Lib.join, List.intercalate]
theorem step_blank (s : SpSt) : spStep s 32 = ⟨s.line, s.col + 1, [], s.keep, s.out⟩ := rfl
theorem step_end (s : SpSt) : spStep s 10 = ⟨s.line + 1, 1, [], [], s.lay⟩ := rfl
theorem run_line (n : Nat) (out : List (List Wd)) : ∀ (ws : List ByteArray) (c : Nat) (row : List Wd), ws ≠ [] → (∀ s ∈ ws, Vis s) →
    (spRun ⟨n, c, [], row, out⟩ (joinL ws)).keep = row ++ wdsFrom n c ws ∧ (spRun ⟨n, c, [], row, out⟩ (joinL ws)).out = out ∧ (spRun ⟨n, c, [], row, out⟩ (joinL ws)).line = n
  | [], _, _, h, _ => absurd rfl h
  | [s], c, row, _, h => by
    have hs := h s (by simp)
    rw [joinL_one, run_vis _ _ hs.2]
    refine ⟨?_, rfl, rfl⟩
    show keepW n (c + s.data.toList.length) ([] ++ s.data.toList) row = _
    rw [List.nil_append, keep_vis hs]
    rfl
  | s :: t :: r, c, row, _, h => by
    have hs := h s (by simp)
    have e : spRun ⟨n, c, [], row, out⟩ (joinL (s :: t :: r)) = spRun ⟨n, c + s.data.toList.length + 1, [], row ++ [⟨s, n, c⟩], out⟩ (joinL (t :: r)) := by
      rw [joinL_more, spRun_app, run_vis _ _ hs.2]
      show spRun (spStep _ 32) _ = _
      rw [step_blank]
      congr 2
      show keepW n (c + s.data.toList.length) ([] ++ s.data.toList) row = _
      rw [List.nil_append, keep_vis hs]
    rw [e]
    obtain ⟨h1, h2, h3⟩ := run_line n out (t :: r) (c + s.data.toList.length + 1) (row ++ [⟨s, n, c⟩]) (by simp) fun x hx => h x (by simp only [List.mem_cons] at hx ⊢; exact Or.inr hx)
    refine ⟨?_, h2, h3⟩
    rw [h1]
    show _ = row ++ (⟨s, n, c⟩ :: wdsFrom n _ (t :: r))
    simp
/-- words of lines, and where they stand -/
def lnsFrom (n : Nat) : List (List ByteArray) → List (List Wd)
  | [] => []
  | l :: r => wdsFrom n 1 l :: lnsFrom (n + 1) r
def LineOk (l : List ByteArray) : Prop := l ≠ [] ∧ (∀ s ∈ l, Vis s) ∧ ∀ s ∈ l.head?, s.data.toList.head? ≠ some 35
theorem says_from {l : List ByteArray} (h : LineOk l) (n : Nat) : saysL (wdsFrom n 1 l) = true := by
  obtain ⟨h1, h2, h3⟩ := h
  cases l with
  | nil => exact absurd rfl h1
  | cons s r =>
    have := h3 s (by simp)
    show (!decide (s.data.toList.head? = some 35)) = true
    simpa using this
theorem run_ln (n : Nat) (out : List (List Wd)) {l : List ByteArray} (h : LineOk l) : spRun ⟨n, 1, [], [], out⟩ (joinL l ++ [10]) = ⟨n + 1, 1, [], [], out ++ [wdsFrom n 1 l]⟩ := by
  obtain ⟨h1, h2, h3⟩ := run_line n out l 1 [] h.1 h.2.1
  rw [spRun_app]
  show spStep _ 10 = _
  rw [step_end, h3]
  congr 1
  unfold SpSt.lay layW
  rw [h1, h2, List.nil_append, says_from h, if_pos rfl]
theorem run_lns : ∀ (ls : List (List ByteArray)) (n : Nat) (out : List (List Wd)), (∀ l ∈ ls, LineOk l) → spRun ⟨n, 1, [], [], out⟩ (joinText ls) = ⟨n + ls.length, 1, [], [], out ++ lnsFrom n ls⟩
  | [], n, out, _ => by simp [joinText, spRun, lnsFrom]
  | l :: r, n, out, h => by
    have e : joinText (l :: r) = (joinL l ++ [10]) ++ joinText r := by simp [joinText]
    rw [e, spRun_app, run_ln n out (h l (by simp)), run_lns r _ _ fun x hx => h x (by simp [hx])]
    simp [lnsFrom]
    omega
theorem fair_join : ∀ (ws : List ByteArray), (∀ s ∈ ws, Vis s) → Fair (joinL ws)
  | [], _ => by intro b hb; simp [joinL, Lib.join, List.intercalate] at hb
  | [s], h => by rw [joinL_one]; intro b hb; rw [(h s (by simp)).2 b hb]; decide
  | s :: t :: r, h => by
    rw [joinL_more]
    intro b hb
    rcases List.mem_append.1 hb with hb | hb
    · rw [(h s (by simp)).2 b hb]; decide
    · rcases List.mem_cons.1 hb with rfl | hb
      · decide
      · exact fair_join (t :: r) (fun x hx => h x (by simp only [List.mem_cons] at hx ⊢; exact Or.inr hx)) b hb
theorem fair_lns (ls : List (List ByteArray)) (h : ∀ l ∈ ls, LineOk l) : Fair (joinText ls) := by
  intro b hb
  obtain ⟨l, hl, hb⟩ := List.mem_flatMap.1 hb
  rcases List.mem_append.1 hb with hb | hb
  · exact fair_join l (h l hl).2.1 b hb
  · rw [List.mem_singleton.1 hb]; decide
theorem split_run {l : List UInt8} {s : SpSt} (hf : Fair l) (hl : l.length ≤ 1048576) (hs : spRun sp0 l = s) : splitE l = 0 ∧ splitL l = s.lay := by
  have e : wordsOf l = .inr s.lay := by rw [wordsOf_good hf, ← hs]; rfl
  unfold splitE splitL
  rw [if_neg (by omega), if_neg (by omega), e]
  exact ⟨rfl, rfl⟩
theorem split_lns {ls : List (List ByteArray)} (h : ∀ l ∈ ls, LineOk l) (hl : (joinText ls).length ≤ 1048576) : splitE (joinText ls) = 0 ∧ splitL (joinText ls) = lnsFrom 1 ls := by
  have := split_run (fair_lns ls h) hl (run_lns ls 1 [] h)
  simpa [SpSt.lay, SpSt.keep, keepW, layW, saysL] using this
theorem texts_from : ∀ (ws : List ByteArray) (n c : Nat), wTexts (wdsFrom n c ws) = ws
  | [], _, _ => rfl
  | s :: r, n, c => by
    have := texts_from r n (c + s.data.toList.length + 1)
    unfold wTexts at this ⊢
    simp only [wdsFrom, List.map_cons, this]
theorem line_from : ∀ (ws : List ByteArray) (n c i : Nat), i < ws.length → (wdAt (wdsFrom n c ws) i).line = n
  | [], _, _, i, h => by simp at h
  | s :: r, n, c, 0, _ => rfl
  | s :: r, n, c, i + 1, h => by
    show (wdAt (wdsFrom n _ r) i).line = n
    exact line_from r n _ i (by simpa using h)

/-- words that are printed -/
theorem vis_dig (n : Int) (h0 : 0 ≤ n) (h1 : n < 18446744073709551616) : Vis (digStr n) := by
  obtain ⟨a1, a2, a3, a4, -, -⟩ := pdig_spec n.toNat (by omega)
  refine ⟨by rw [digStr_data]; intro e; rw [e] at a3; simp at a3, fun b hb => ?_⟩
  rw [digStr_data] at hb
  have := List.all_eq_true.1 a1 b hb
  rw [isDig_iff] at this
  unfold bKind
  rw [if_neg (by rintro rfl; revert this; decide), if_neg (by rintro (rfl | rfl) <;> revert this <;> decide), if_pos (by omega)]
theorem vis_key {s : ByteArray} (h : keyOk s = true) : Vis s := by
  simp only [keyOk, Bool.and_eq_true, decide_eq_true_eq] at h
  obtain ⟨⟨h1, h2⟩, h3⟩ := h
  refine ⟨by rw [← List.length_pos_iff, data_len]; omega, fun b hb => ?_⟩
  have := List.all_eq_true.1 h3 b hb
  simp [badB] at this
  unfold bKind
  rw [if_neg (by rintro rfl; revert this; decide), if_neg (by rintro (rfl | rfl) <;> revert this <;> decide), if_pos (by omega)]
theorem vis_name {k : Int} (h : rightKind k = true) : Vis (nameOf k) := by
  have h2 : k = 1 ∨ k = 2 ∨ k = 3 := by unfold rightKind at h; simp at h; omega
  unfold Vis
  rcases h2 with rfl | rfl | rfl <;> exact ⟨by decide, by decide⟩
theorem vis_size : Vis wSize := ⟨by decide, by decide⟩
theorem vis_def : Vis wDef := ⟨by decide, by decide⟩
theorem vis_rule : Vis wRule := ⟨by decide, by decide⟩
theorem plW_def {r : Rl} (h : rErr r = 0) (hp : r.p = ⟨#[]⟩) : plW r = [wDef, digStr r.e, digStr r.b, nameOf r.k] := by
  unfold plW printWords
  rw [if_pos (show ruleErr r.p r.e r.b r.k = 0 from h), if_pos hp]
theorem plW_rule {r : Rl} (h : rErr r = 0) (hp : r.p ≠ ⟨#[]⟩) : plW r = [wRule, r.p, digStr r.e, digStr r.b, nameOf r.k] := by
  unfold plW printWords
  rw [if_pos (show ruleErr r.p r.e r.b r.k = 0 from h), if_neg hp]
theorem plW_ok {r : Rl} (h : rErr r = 0) (ho : RlOk r) : LineOk (plW r) := by
  obtain ⟨h1, h2, h3, h4, h5⟩ := ruleErr_zero (show ruleErr r.p r.e r.b r.k = 0 from h)
  obtain ⟨-, e0, e1, b0, b1, -, -⟩ := ho
  have ve := vis_dig r.e e0 e1
  have vb := vis_dig r.b b0 b1
  have vk := vis_name h5
  by_cases hp : r.p = ⟨#[]⟩
  · rw [plW_def h hp]
    exact ⟨by simp, by simp [vis_def, ve, vb, vk], by intro s hs; simp at hs; rw [← hs]; decide⟩
  · rw [plW_rule h hp]
    have vp : Vis r.p := by
      refine vis_key ?_
      simp only [prefOk, Bool.or_eq_true, decide_eq_true_eq] at h1
      rcases h1 with q | q
      · exact absurd (by have := (isEmpty_iff r.p); exact emp_of (by rw [this]; simpa using q)) hp
      · exact q
    exact ⟨by simp, by simp [vis_rule, vp, ve, vb, vk], by intro s hs; simp at hs; rw [← hs]; decide⟩
theorem size_ok {m : Int} (h0 : 0 ≤ m) (h1 : m < 18446744073709551616) : LineOk [wSize, digStr m] := ⟨by simp, by simp [vis_size, vis_dig m h0 h1], by intro s hs; simp at hs; rw [← hs]; decide⟩

/-- what comes of the lines that are printed -/
theorem ln_size {m : Int} (h0 : 1 ≤ m) (h1 : m ≤ 1000000) (n : Nat) (rs : List Rl) : (lnErr ⟨0, rs⟩ (wdsFrom n 1 [wSize, digStr m])).1 = 0 ∧ lnPut ⟨0, rs⟩ (wdsFrom n 1 [wSize, digStr m]) = ⟨m, rs⟩ := by
  obtain ⟨d1, d2, -, -⟩ := dig_back m (by omega) (by omega)
  have e0 : (wdAt (wdsFrom n 1 [wSize, digStr m]) 0).t = wSize := rfl
  have e1 : (wdAt (wdsFrom n 1 [wSize, digStr m]) 1).t = digStr m := rfl
  unfold lnErr lnPut
  rw [if_pos e0, if_pos e0]
  unfold szErr
  rw [if_neg (by simp [wdsFrom]), if_neg (by simp), e1, if_neg (by omega), d2, if_neg (by omega)]
  exact ⟨rfl, rfl⟩
theorem plW_head {r : Rl} (h : rErr r = 0) : ∃ s t, plW r = s :: t ∧ s ≠ wSize := by
  by_cases hp : r.p = ⟨#[]⟩
  · exact ⟨_, _, plW_def h hp, by decide⟩
  · exact ⟨_, _, plW_rule h hp, by decide⟩
theorem ln_rule {r : Rl} (h : rErr r = 0) (ho : RlOk r) (m : Int) (n : Nat) (rs : List Rl) :
    lnErr ⟨m, rs⟩ (wdsFrom n 1 (plW r)) = (if hasPre rs r.p = true then (28, if r.p = ⟨#[]⟩ then 0 else 1) else if 1000 ≤ rs.length then (32, 0) else (0, 0)) ∧ lnPut ⟨m, rs⟩ (wdsFrom n 1 (plW r)) = ⟨m, rs ++ [r]⟩ := by
  obtain ⟨-, e0, e1, b0, b1, -, -⟩ := ho
  have hp : ruleParse (plW r) = ⟨r.p, r.e, r.b, r.k, 0, 0⟩ := print_parse h e1 b1
  obtain ⟨s, t, hs, hne⟩ := plW_head h
  have e0 : (wdAt (wdsFrom n 1 (plW r)) 0).t ≠ wSize := by rw [hs]; exact hne
  unfold lnErr lnPut
  rw [if_neg e0, if_neg e0]
  unfold rlErr
  rw [texts_from, hp]
  exact ⟨rfl, rfl⟩
theorem has_pre_iff {rs : List Rl} {p : ByteArray} : hasPre rs p = true ↔ p ∈ rs.map (·.p) := by unfold hasPre; simp
theorem cfg_lns : ∀ (rs : List Rl) (m : Int) (rs0 : List Rl) (n : Nat), (∀ r ∈ rs, rErr r = 0) → (∀ r ∈ rs, RlOk r) → ((rs0 ++ rs).map (·.p)).Nodup → rs0.length + rs.length ≤ 1000 →
    cfgLines ⟨m, rs0⟩ (lnsFrom n (rs.map plW)) = .inr ⟨m, rs0 ++ rs⟩
  | [], m, rs0, n, _, _, _, _ => by simp [lnsFrom, cfgLines]
  | r :: t, m, rs0, n, h, ho, hn, hl => by
    obtain ⟨q1, q2⟩ := ln_rule (h r (by simp)) (ho r (by simp)) m n rs0
    have hh : hasPre rs0 r.p = false := by
      rw [Bool.eq_false_iff]
      intro q
      rw [has_pre_iff] at q
      rw [List.map_append, List.nodup_append] at hn
      exact hn.2.2 _ q _ (by simp) rfl
    rw [hh, if_neg (by decide), if_neg (by simp at hl; omega)] at q1
    show (if (lnErr ⟨m, rs0⟩ (wdsFrom n 1 (plW r))).1 ≠ 0 then _ else cfgLines (lnPut ⟨m, rs0⟩ (wdsFrom n 1 (plW r))) (lnsFrom (n + 1) (t.map plW))) = _
    rw [q1, q2, if_neg (by decide), cfg_lns t m (rs0 ++ [r]) (n + 1) (fun x hx => h x (by simp [hx])) (fun x hx => ho x (by simp [hx])) (by simpa using hn) (by simp at hl ⊢; omega)]
    simp
/-- policies that may be -/
structure PolOk (most : Int) (rs : List Rl) : Prop where
  m0 : 1 ≤ most
  m1 : most ≤ 1000000
  ok : ∀ r ∈ rs, RlOk r
  err : ∀ r ∈ rs, rErr r = 0
  nd : (rs.map (·.p)).Nodup
  len : rs.length ≤ 1000
  dft : (⟨#[]⟩ : ByteArray) ∈ rs.map (·.p)
theorem PolOk.ord {most : Int} {rs : List Rl} (h : PolOk most rs) : PolOk most (ordL Rl.key rs) := by
  have p := ordL_perm (key := Rl.key) rs
  have pm := p.map (·.p)
  exact ⟨h.m0, h.m1, fun r hr => h.ok r (p.mem_iff.1 hr), fun r hr => h.err r (p.mem_iff.1 hr), pm.nodup_iff.2 h.nd, by rw [ordL_len]; exact h.len, pm.mem_iff.2 h.dft⟩
theorem cfg_all {most : Int} {rs : List Rl} (h : PolOk most rs) : cfgLines cfg0 (lnsFrom 1 ([wSize, digStr most] :: rs.map plW)) = .inr ⟨most, rs⟩ := by
  obtain ⟨q1, q2⟩ := ln_size h.m0 h.m1 1 []
  show (if (lnErr ⟨0, []⟩ (wdsFrom 1 1 [wSize, digStr most])).1 ≠ 0 then _ else cfgLines (lnPut ⟨0, []⟩ (wdsFrom 1 1 [wSize, digStr most])) (lnsFrom 2 (rs.map plW))) = _
  rw [q1, q2, if_neg (by decide), cfg_lns rs most [] 2 h.err h.ok (by simpa using h.nd) (by simpa using h.len)]
  simp
theorem end_ok {most : Int} {rs : List Rl} (h : PolOk most rs) : endErr ⟨most, rs⟩ = 0 := by
  unfold endErr
  have h0 := h.m0
  rw [if_neg (by show most ≠ 0; omega), if_neg]
  rw [show hasPre rs ⟨#[]⟩ = true from has_pre_iff.2 h.dft]
  decide
theorem PolOk.lines {most : Int} {rs : List Rl} (h : PolOk most rs) : ∀ l ∈ [wSize, digStr most] :: rs.map plW, LineOk l := by
  intro l hl
  have h0 := h.m0
  have h1 := h.m1
  rcases List.mem_cons.1 hl with rfl | hl
  · exact size_ok (by omega) (by omega)
  · obtain ⟨r, hr, rfl⟩ := List.mem_map.1 hl
    exact plW_ok (h.err r hr) (h.ok r hr)
theorem lines_small (most : Int) (hm0 : 0 ≤ most) (hm1 : most < 18446744073709551616) (rs : List Rl) (ho : ∀ r ∈ rs, RlOk r) (he : ∀ r ∈ rs, rErr r = 0) : (joinText ([wSize, digStr most] :: rs.map plW)).length ≤ 301 * (rs.length + 1) := by
  have hj : ∀ r ∈ rs, (joinL (plW r)).length ≤ 300 := fun r hr => (plW_len (ho r hr) (he r hr)).2
  have hd := (dig_back most hm0 hm1).2.2.1
  have h1 := joinL_len [wSize, digStr most]
  have d1 : wSize.size = 4 := by decide
  simp only [List.map_cons, List.map_nil, List.sum_cons, List.sum_nil, List.length_cons, List.length_nil] at h1
  have e : ∀ rs : List Rl, (∀ r ∈ rs, (joinL (plW r)).length ≤ 300) → (joinText (rs.map plW)).length ≤ 301 * rs.length := by
    intro rs
    induction rs with
    | nil => intro _; simp [joinText]
    | cons r t ih =>
      intro hh
      have := ih fun x hx => hh x (by simp [hx])
      have := hh r (by simp)
      have e : joinText ((r :: t).map plW) = (joinL (plW r) ++ [10]) ++ joinText (t.map plW) := by simp [joinText]
      rw [e]
      simp only [List.length_append, List.length_cons, List.length_nil]
      omega
  have := e rs hj
  have e2 : joinText ([wSize, digStr most] :: rs.map plW) = (joinL [wSize, digStr most] ++ [10]) ++ joinText (rs.map plW) := by simp [joinText]
  rw [e2]
  simp only [List.length_append, List.length_cons, List.length_nil]
  omega
/-- what is printed is read -/
theorem parse_print {most : Int} {rs : List Rl} (h : PolOk most rs) : cfgParse (prText most rs) = ⟨0, 0, 0, most, ordL Rl.key rs⟩ := by
  have ho := h.ord
  have h0 := h.m0
  have h1 := h.m1
  have hsm := lines_small most (by omega) (by omega) _ ho.ok ho.err
  have hl := ho.len
  obtain ⟨s1, s2⟩ := split_lns ho.lines (by omega)
  have e : prText most rs = joinText ([wSize, digStr most] :: (ordL Rl.key rs).map plW) := rfl
  unfold cfgParse
  rw [e, s1, s2, cfg_all ho]
  simp only [ne_eq, not_true_eq_false, if_false]
  rw [end_ok ho]
  simp only [not_true_eq_false, if_false]
  rw [ordL_up_id (ordL_up rs)]
end Go.Proofs.YtknlojlcahgnoaaGreat

namespace Go.Proofs.YtknlojlcahgnoaaGreat
open Go.RowKit
set_option linter.unusedVariables false
set_option linter.unusedSimpArgs false

def blankB (b : UInt8) : Bool := decide (b = 32) || decide (b = 9)
theorem blankB_iff {b : UInt8} : blankB b = true ↔ (b = 32 ∨ b = 9) := by simp [blankB]
theorem take_more {l : List UInt8} {k : Nat} (hk : k < l.length) : l.take (k + 1) = l.take k ++ [l[k]] := List.take_succ_eq_append_getElem hk
theorem lnKeep_blank {n : Nat} {l : List UInt8} {b : UInt8} (h : blankB b = true) : lnKeep n (l ++ [b]) = lnKeep n l ∧ (lnTo n (l ++ [b])).cur = [] := by
  unfold lnKeep
  rw [lnTo_snoc]
  unfold lnStep
  rw [if_pos (blankB_iff.1 h)]
  exact ⟨by unfold keepW; rw [if_pos rfl], rfl⟩
theorem lnTo_word {n : Nat} {l : List UInt8} : ∀ (m : List UInt8), (∀ b ∈ m, blankB b = false) → lnTo n (l ++ m) = ⟨(lnTo n l).col + m.length, (lnTo n l).cur ++ m, (lnTo n l).row⟩ := by
  intro m
  induction m using list_snoc' with
  | h0 => intro _; simp
  | h1 m b ih =>
    intro h
    rw [← List.append_assoc, lnTo_snoc, ih fun x hx => h x (by simp [hx])]
    unfold lnStep
    have hb := h b (by simp)
    rw [if_neg (by rw [← blankB_iff, hb]; decide)]
    simp [Nat.add_assoc]
/-- a word that begins where none is under way -/
theorem lnKeep_word {n : Nat} {l m : List UInt8} (h : ∀ b ∈ m, blankB b = false) (hne : m ≠ []) (hc : (lnTo n l).cur = []) : lnKeep n (l ++ m) = lnKeep n l ++ [⟨bText m, n, ((l.length + 1 : Nat) : Int)⟩] := by
  unfold lnKeep
  rw [lnTo_word m h, hc, lnTo_col, List.nil_append]
  unfold keepW
  rw [if_neg hne, if_pos rfl]
  congr 4
  show l.length + 1 + m.length - m.length = l.length + 1
  omega
def Sharp (s : LnSt) : Prop := (s.row = [] ∧ ∃ t, s.cur = 35 :: t) ∨ ∃ r t, s.row = r :: t ∧ r.t.data.toList.head? = some 35
theorem Sharp.step {s : LnSt} (h : Sharp s) (n : Nat) (b : UInt8) : Sharp (lnStep n s b) := by
  unfold lnStep
  rcases h with ⟨h1, t, h2⟩ | ⟨r, t, h1, h2⟩
  · split
    · right
      refine ⟨⟨bText s.cur, n, ((s.col - s.cur.length : Nat) : Int)⟩, [], ?_, ?_⟩
      · show keepW n s.col s.cur s.row = _
        unfold keepW
        rw [if_neg (by rw [h2]; simp), h1]
        rfl
      · rw [h2]; rfl
    · left
      exact ⟨h1, t ++ [b], by show s.cur ++ [b] = _; rw [h2]; rfl⟩
  · right
    split
    · show ∃ r t, keepW n s.col s.cur s.row = r :: t ∧ _
      unfold keepW
      split
      · exact ⟨r, t, h1, h2⟩
      · exact ⟨r, _, by rw [h1]; rfl, h2⟩
    · exact ⟨r, t, h1, h2⟩
theorem Sharp.more {n : Nat} {l : List UInt8} (h : Sharp (lnTo n l)) (m : List UInt8) : Sharp (lnTo n (l ++ m)) := by
  induction m using list_snoc' with
  | h0 => simpa using h
  | h1 m b ih => rw [← List.append_assoc, lnTo_snoc]; exact ih.step n b
theorem Sharp.says {n c : Nat} {s : LnSt} (h : Sharp s) : saysL (keepW n c s.cur s.row) = false := by
  rcases h with ⟨h1, t, h2⟩ | ⟨r, t, h1, h2⟩
  · rw [h1, h2]
    rfl
  · unfold keepW
    split
    · rw [h1]; simp [saysL, h2]
    · rw [h1]; simp [saysL, h2]
/-- a line that begins with the sign says nothing -/
theorem refLine_sharp {n k : Nat} {l : List UInt8} (hk : k < l.length) (h0 : lnKeep n (l.take k) = []) (hb : l[k] = 35) : refLine l n = [] := by
  have hc : (lnTo n (l.take k)).cur = [] ∧ (lnTo n (l.take k)).row = [] := by
    unfold lnKeep keepW at h0
    by_cases q : (lnTo n (l.take k)).cur = []
    · rw [if_pos q] at h0
      exact ⟨q, h0⟩
    · rw [if_neg q] at h0
      simp at h0
  have e : lnTo n (l.take (k + 1)) = ⟨(lnTo n (l.take k)).col + 1, [35], []⟩ := by
    rw [take_more hk, lnTo_snoc, hb]
    unfold lnStep
    rw [if_neg (by decide), hc.1, hc.2]
    rfl
  have h : Sharp (lnTo n (l.take (k + 1))) := by rw [e]; exact Or.inl ⟨rfl, [], rfl⟩
  have h2 := h.more (l.drop (k + 1))
  rw [List.take_append_drop] at h2
  have h3 : saysL (lnKeep n l) = false := h2.says
  unfold refLine
  rw [h3]
  rfl
/-- what has been read of a line, at a word's end or ahead of one -/
def HeadOk (row : List Wd) : Prop := row = [] ∨ saysL row = true
theorem refLine_end {n : Nat} {l : List UInt8} (h : HeadOk (lnKeep n l)) : refLine l n = lnKeep n l := by
  unfold refLine
  rcases h with h | h
  · rw [h]; rfl
  · rw [h]; rfl
theorem HeadOk.add {row : List Wd} (h : HeadOk row) {m : List UInt8} (hne : m ≠ []) (hm : row = [] → m.head? ≠ some 35) (n c : Int) : HeadOk (row ++ [⟨bText m, n, c⟩]) := by
  right
  rcases h with h | h
  · rw [h]
    have := hm h
    show (!decide (m.toArray.toList.head? = some 35)) = true
    simpa using this
  · cases row with
    | nil => cases h
    | cons r t => exact h
/-- the words of a line, from a word's end to the next one's -/
structure LnAt (n : Nat) (l : List UInt8) (k : Nat) (row : List Wd) : Prop where
  le : k ≤ l.length
  is : row = lnKeep n (l.take k)
  head : HeadOk row
  free : ∀ (h : k < l.length), blankB l[k] = false → (lnTo n (l.take k)).cur = []
theorem LnAt.start (n : Nat) (l : List UInt8) : LnAt n l 0 [] := ⟨Nat.zero_le _, rfl, Or.inl rfl, fun _ _ => rfl⟩
theorem LnAt.blank {n k : Nat} {l : List UInt8} {row : List Wd} (h : LnAt n l k row) (hk : k < l.length) (hb : blankB l[k] = true) : LnAt n l (k + 1) row := by
  obtain ⟨h1, h2⟩ := lnKeep_blank (n := n) (l := l.take k) hb
  rw [← take_more hk] at h1 h2
  exact ⟨hk, by rw [h1]; exact h.is, h.head, fun _ _ => h2⟩
theorem wseg_get {l : List UInt8} {k j : Nat} (hk : k < j) (hj : j ≤ l.length) : ((l.take j).drop k).head? = some (l[k]'(by omega)) := by
  rw [List.head?_drop, List.getElem?_take_of_lt hk, List.getElem?_eq_getElem (by omega)]
theorem LnAt.word {n k j : Nat} {l : List UInt8} {row : List Wd} (h : LnAt n l k row) (hk : k < j) (hj : j ≤ l.length) (hw : ∀ i (h : i < l.length), k ≤ i → i < j → blankB l[i] = false) (hend : ∀ (h : j < l.length), blankB l[j] = true) (hs : row = [] → l[k]'(by omega) ≠ 35) :
    LnAt n l j (row ++ [⟨bText ((l.take j).drop k), n, ((k + 1 : Nat) : Int)⟩]) := by
  have hc := h.free (by omega) (hw k (by omega) (Nat.le_refl _) hk)
  have hne : (l.take j).drop k ≠ [] := by
    intro q
    have := congrArg List.length q
    simp at this
    omega
  have hwb : ∀ b ∈ (l.take j).drop k, blankB b = false := by
    intro b hb
    obtain ⟨i, hi, rfl⟩ := List.mem_iff_getElem.1 hb
    rw [List.getElem_drop, List.getElem_take]
    simp at hi
    exact hw (k + i) (by omega) (by omega) (by omega)
  have e : l.take j = l.take k ++ (l.take j).drop k := by
    have := (List.take_append_drop k (l.take j)).symm
    rw [List.take_take, Nat.min_eq_left (by omega)] at this
    exact this
  have hl : (l.take k).length = k := by rw [List.length_take]; omega
  refine ⟨hj, ?_, h.head.add hne (fun q => ?_) _ _, fun hlt hb => ?_⟩
  · rw [e, lnKeep_word hwb hne hc, ← e, hl, ← h.is]
  · rw [wseg_get hk hj]
    intro q2
    exact hs q (by simpa using q2)
  · rw [hend hlt] at hb
    cases hb
theorem LnAt.done {n : Nat} {l : List UInt8} {row : List Wd} (h : LnAt n l l.length row) : refLine l n = row := by
  have h2 := h.is
  rw [List.take_length] at h2
  have h3 := h.head
  rw [h2] at h3 ⊢
  exact refLine_end h3
/-! ## the lines of a text -/
theorem rf_ln (l : List UInt8) (k : Nat) (hk : k ≤ l.length) : (rfTo (l.take k)).ln.length ≤ k ∧ (rfTo (l.take k)).ln = (l.take k).drop (k - (rfTo (l.take k)).ln.length) := by
  induction k with
  | zero => exact ⟨Nat.le_refl _, rfl⟩
  | succ k ih =>
    obtain ⟨h1, h2⟩ := ih (by omega)
    rw [take_more (show k < l.length by omega), rfTo_snoc]
    unfold rfStep
    split
    · refine ⟨Nat.zero_le _, ?_⟩
      show [] = _
      rw [List.drop_eq_nil_of_le]
      simp
      omega
    · have hlen : (l.take k).length = k := by rw [List.length_take]; omega
      dsimp only
      refine ⟨by simp; omega, ?_⟩
      rw [List.length_append, List.length_singleton, show k + 1 - ((rfTo (l.take k)).ln.length + 1) = k - (rfTo (l.take k)).ln.length by omega, List.drop_append_of_le_length (by rw [hlen]; omega), ← h2]
/-- a text that is fair is split as the program splits it -/
theorem split_ref {l : List UInt8} (hs : ¬ 1048576 < l.length) (h : Fair l) : splitE l = 0 ∧ splitAt' l = (0, 0) ∧ splitL l = (rfTo l).lay := by
  unfold splitE splitAt' splitL
  rw [if_neg hs, if_neg hs, if_neg hs, wordsOf_good h]
  exact ⟨rfl, rfl, (same_to l h).lay⟩
theorem split_ref_bad {l : List UInt8} {k : Nat} (hs : ¬ 1048576 < l.length) (hk : k < l.length) (h : Fair (l.take k)) (hb : bKind l[k] = 3) : splitE l = 20 ∧ splitAt' l = (((rfTo (l.take k)).n : Int), (((rfTo (l.take k)).ln.length + 1 : Nat) : Int)) ∧ splitL l = [] := by
  have st := same_to (l.take k) h
  unfold splitE splitAt' splitL
  rw [if_neg hs, if_neg hs, if_neg hs, wordsOf_bad hk h hb]
  refine ⟨rfl, ?_, rfl⟩
  dsimp only
  rw [st.n, st.col]
theorem split_big {l : List UInt8} (hs : 1048576 < l.length) : splitE l = 21 ∧ splitAt' l = (0, 0) ∧ splitL l = [] := by
  unfold splitE splitAt' splitL
  rw [if_pos hs, if_pos hs, if_pos hs]
  exact ⟨rfl, rfl, rfl⟩
theorem bKind_3 {b : UInt8} : bKind b = 3 ↔ b ≠ 10 ∧ blankB b = false ∧ (b.toNat < 33 ∨ 126 < b.toNat) := by
  unfold bKind
  by_cases h1 : b = 10
  · simp [h1]
  · rw [if_neg h1]
    by_cases h2 : b = 32 ∨ b = 9
    · rw [if_pos h2]
      have := blankB_iff.2 h2
      simp [this]
    · rw [if_neg h2]
      have : blankB b = false := by cases q : blankB b; rfl; exact absurd (blankB_iff.1 q) h2
      split
      · simp [this]; omega
      · simp [this, h1]; omega
end Go.Proofs.YtknlojlcahgnoaaGreat

namespace Go.Proofs.YtknlojlcahgnoaaGreat
open Go.ChangeShapes Go.WideShapes Go.ChangeAt Go.RowKit Go.Deep
set_option linter.unusedVariables false
set_option linter.unusedSimpArgs false

section
variable {H : Type} {enc : TypeId × Value → H} {W : World} {r : Reach} {b0 base : Nat} {held : Bool} {v : Value} {d : DataW H} {p : List MemPlace}

set_option maxRecDepth 100000 in
theorem open_nums (hv : Value.okWide Tryz.prog W r b0 24 v) (h : DataW.Trod enc Tryz.prog W base (fun _ => true) held 24 v d p) : ∃ l, NmsSlice W v l := by
  obtain ⟨a0, len, cap, rfl⟩ := okWide_slice Tryz.underlying24 hv
  obtain ⟨fuel, hf⟩ := h
  rcases Go.Deep.open_slice Tryz.underlying24 hf with ⟨hcs, _⟩ | ⟨x, len', cap', m, n, D, Pl, hcs, hb, hl, hm, hmm, _, hi⟩
  · simp [Value.cells] at hcs
    obtain ⟨rfl, rfl, rfl⟩ := hcs
    exact ⟨[], ⟨_, _, rfl, fun h => absurd rfl h⟩, by simp, fun d hd => (by cases hd)⟩
  · simp [Value.cells] at hcs
    obtain ⟨rfl, rfl, rfl⟩ := hcs
    simp only [if_true] at hmm
    have hC : Tryz.prog.cellsOf 86 = 4 := by kernel_rfl
    have each : ∀ i : Fin len, ∃ q : Nms, NmsOk W q ∧ ∀ j, j < 4 → W.cell? ((x.add (i.1 * 4)).add j) = q.cells[j]? := by
      intro i
      obtain ⟨cs', hc', ht'⟩ := hi i.1 (by omega)
      rw [hC] at hc'
      have hF := field_cells (fs := _) Tryz.underlying86 (by kernel_rfl) (by kernel_rfl) (by rw [hC]; exact hc') ht'
      obtain ⟨v0, y0, n0, c0, t0⟩ := hF 0 _ rfl
      obtain ⟨v1, y1, n1, c1, t1⟩ := hF 1 _ rfl
      obtain ⟨v2, y2, n2, c2, t2⟩ := hF 2 _ rfl
      obtain ⟨v3, y3, n3, c3, t3⟩ := hF 3 _ rfl
      obtain ⟨l0, w0⟩ := field_bytes Tryz.underlying22 Tryz.underlying5 (by kernel_rfl) t0
      obtain ⟨x1, rfl, w1⟩ := field_int Tryz.underlying61 t1
      obtain ⟨x2, rfl, w2⟩ := field_int Tryz.underlying23 t2
      obtain ⟨x3, rfl, w3⟩ := field_int Tryz.underlying5 t3
      refine ⟨⟨v0, l0, x1, x2, x3⟩, ⟨w0, (wfu32 w1).1, (wfu32 w1).2, (wfu16 w2).1, (wfu16 w2).2, (wfu8 w3).1, (wfu8 w3).2⟩, ?_⟩
      intro j hj
      rcases (by omega : j = 0 ∨ j = 1 ∨ j = 2 ∨ j = 3) with rfl | rfl | rfl | rfl
      · exact c0
      · exact c1
      · exact c2
      · exact c3
    have hlen : (List.ofFn fun i => Classical.choose (each i)).length = len := List.length_ofFn
    refine ⟨List.ofFn fun i => Classical.choose (each i), ⟨some x, cap, by rw [hlen], fun hne => ?_⟩, by rw [hlen]; omega, fun q hq => ?_⟩
    · have h0 : 0 < len := by
        rcases Nat.eq_zero_or_pos len with e | e
        · subst e; simp at hne
        · exact e
      have hx0 := (Classical.choose_spec (each ⟨0, h0⟩)).2 0 (by omega)
      have ex : x = ⟨x.block, x.off, none⟩ := by
        have e1 : (x.add (0 * 4)).add 0 = x.add 0 := by simp [Addr.add]
        rw [e1] at hx0
        exact plain_addr (v := (Classical.choose (each ⟨0, h0⟩)).cells[0]'(by simp [Nms.cells])) (by rw [hx0]; rfl)
      refine ⟨x.block, x.off, by rw [← ex], fun j hj i hi7 => ?_⟩
      rw [hlen] at hj
      have := (Classical.choose_spec (each ⟨j, hj⟩)).2 i hi7
      rw [List.getElem_ofFn, ← this, ex]
      simp only [addr_add]
    · obtain ⟨i, rfl⟩ := (List.mem_ofFn.1 hq)
      exact (Classical.choose_spec (each i)).1

set_option maxRecDepth 100000 in
theorem field_rules {n : Nat} {y : DataW H × List MemPlace} (h : DataW.trod enc Tryz.prog W base (fun _ => true) held n 26 [v] = some y) : ∃ l, RulesAt W v l ∧ (∀ q ∈ l, RlOk q) ∧ l.length ≤ maxLen := by
  rcases Go.Deep.open_slice Tryz.underlying26 h with ⟨hcs, _⟩ | ⟨x, len, cap, m, n', D, Pl, hcs, hb, hl, hm, hmm, _, hi⟩
  · simp only [List.cons.injEq, and_true] at hcs
    subst hcs
    exact ⟨[], ⟨_, _, rfl, fun h => absurd rfl h⟩, fun d hd => (by cases hd), by simp⟩
  · simp only [List.cons.injEq, and_true] at hcs
    subst hcs
    simp only [if_true] at hmm
    have hC : Tryz.prog.cellsOf 37 = 4 := by kernel_rfl
    have each : ∀ i : Fin len, ∃ q : Rl, RlOk q ∧ ∀ j, j < 4 → W.cell? ((x.add (i.1 * 4)).add j) = q.cells[j]? := by
      intro i
      obtain ⟨cs', hc', ht'⟩ := hi i.1 (by omega)
      rw [hC] at hc'
      have hF := field_cells (fs := _) Tryz.underlying37 (by kernel_rfl) (by kernel_rfl) (by rw [hC]; exact hc') ht'
      obtain ⟨v0, y0, n0, c0, t0⟩ := hF 0 _ rfl
      obtain ⟨v1, y1, n1, c1, t1⟩ := hF 1 _ rfl
      obtain ⟨v2, y2, n2, c2, t2⟩ := hF 2 _ rfl
      obtain ⟨v3, y3, n3, c3, t3⟩ := hF 3 _ rfl
      obtain ⟨x0, e0, -, w0⟩ := DataW.trod_string Tryz.underlying9 t0
      simp only [List.cons.injEq, and_true] at e0
      subst e0
      obtain ⟨x1, rfl, w1⟩ := field_int Tryz.underlying35 t1
      obtain ⟨x2, rfl, w2⟩ := field_int Tryz.underlying35 t2
      obtain ⟨x3, rfl, w3⟩ := field_int Tryz.underlying5 t3
      refine ⟨⟨x0, x1, x2, x3⟩, ⟨w0, (wfu64 w1).1, (wfu64 w1).2, (wfu64 w2).1, (wfu64 w2).2, (wfu8 w3).1, (wfu8 w3).2⟩, ?_⟩
      intro j hj
      rcases (by omega : j = 0 ∨ j = 1 ∨ j = 2 ∨ j = 3) with rfl | rfl | rfl | rfl
      · exact c0
      · exact c1
      · exact c2
      · exact c3
    have hlen : (List.ofFn fun i => Classical.choose (each i)).length = len := List.length_ofFn
    refine ⟨List.ofFn fun i => Classical.choose (each i), ⟨some x, cap, by rw [hlen], fun hne => ?_⟩, fun q hq => ?_, by rw [hlen]; omega⟩
    · have h0 : 0 < len := by
        rcases Nat.eq_zero_or_pos len with e | e
        · subst e; simp at hne
        · exact e
      have hx0 := (Classical.choose_spec (each ⟨0, h0⟩)).2 0 (by omega)
      have ex : x = ⟨x.block, x.off, none⟩ := by
        have e1 : (x.add (0 * 4)).add 0 = x.add 0 := by simp [Addr.add]
        rw [e1] at hx0
        exact plain_addr (v := (Classical.choose (each ⟨0, h0⟩)).cells[0]'(by simp [Rl.cells])) (by rw [hx0]; rfl)
      refine ⟨x.block, x.off, by rw [← ex], fun j hj i hi7 => ?_⟩
      rw [hlen] at hj
      have := (Classical.choose_spec (each ⟨j, hj⟩)).2 i hi7
      rw [List.getElem_ofFn, ← this, ex]
      simp only [addr_add, Nat.add_assoc]
    · obtain ⟨i, rfl⟩ := (List.mem_ofFn.1 hq)
      exact (Classical.choose_spec (each i)).1

set_option maxRecDepth 100000 in
theorem open_policy {ps : List MemPlace}
    (hv : Value.okWide Tryz.prog W r b0 28 v) (h : DataW.Trod enc Tryz.prog W base (fun _ => true) held 28 v d ps) :
    ∃ (m : Int) (rv : Value) (rs : List Rl), v = .agg #[.int .i64 m, rv] ∧ (Lit.int .i64 m).wf = true ∧ RulesAt W rv rs ∧ (∀ q ∈ rs, RlOk q) ∧ rs.length ≤ maxLen := by
  obtain ⟨c0, c1, y0, y1, m, rfl, -, -, h0, h1⟩ := Joins.open_agg2 Tryz.underlying28 (by kernel_rfl) (by kernel_rfl) hv h
  obtain ⟨k, e0, -, w0⟩ := DataW.trod_int Tryz.underlying3 h0
  simp at e0
  subst e0
  obtain ⟨l, h2, h3, h4⟩ := field_rules h1
  exact ⟨k, c1, l, rfl, w0, h2, h3, h4⟩
end
end Go.Proofs.YtknlojlcahgnoaaGreat

namespace Go.Proofs.YtknlojlcahgnoaaGreat
open Go.ChangeShapes Go.WideShapes Go.ChangeAt Go.RowKit
set_option linter.unusedVariables false
set_option linter.unusedSimpArgs false

section
variable {H : Type} {enc : TypeId × Value → H} {P : Program} {W : World} {r : Reach} {b0 base : Nat} {held : Bool} {t e : TypeId} {v : Value} {d : DataW H} {p : List MemPlace}

theorem open_bytesc (ht : P.underlying t = some (.slice e)) (he : P.underlying e = some (.int .u8)) (hc : P.cellsOf e = 1) (hv : Value.okWide P W r b0 t v) (h : DataW.Trod enc P W base (fun _ => true) held t v d p) : ∃ l, ByteSlice W v l ∧ CapLe v := by
  obtain ⟨a0, len, cap, rfl⟩ := okWide_slice ht hv
  obtain ⟨fuel, hf⟩ := h
  rcases open_ints ht he hc hf with ⟨hcs, _⟩ | ⟨x, len', cap', zs, hcs, _, hl, hm, hz, _, hcell, hwz⟩
  · simp [Value.cells] at hcs
    obtain ⟨rfl, rfl, rfl⟩ := hcs
    exact ⟨[], ⟨⟨_, _, rfl, fun h => absurd rfl h⟩, by simp⟩, fun a n c e => by simp only [Value.slice.injEq] at e; omega⟩
  · simp [Value.cells] at hcs
    obtain ⟨rfl, rfl, rfl⟩ := hcs
    simp only [if_true] at hz
    have hlen : ((zs.take len).map fun n => UInt8.ofNat n.toNat).length = len := by rw [List.length_map, List.length_take, hz]; omega
    refine ⟨(zs.take len).map fun n => UInt8.ofNat n.toNat, ⟨⟨some x, cap, by rw [hlen], fun hne => ?_⟩, by rw [hlen]; omega⟩, fun a n c e => by simp only [Value.slice.injEq] at e; omega⟩
    have h0 : 0 < len := by
      rcases Nat.eq_zero_or_pos len with e | e
      · subst e; simp at hne
      · exact e
    have ex := plain_addr (hcell 0 (by omega))
    refine ⟨x.block, x.off, by rw [← ex], fun j hj => ?_⟩
    rw [hlen] at hj
    have hw := hwz (zs[j]'(by omega)) (List.getElem_mem _)
    have hb : 0 ≤ zs[j]'(by omega) ∧ zs[j]'(by omega) ≤ 255 := by simpa [Lit.wf, IntKind.min, IntKind.max, IntKind.signed, IntKind.bits] using hw
    rw [← addr_add, ← ex, hcell j (by omega)]
    simp only [List.getElem_map, List.getElem_take]
    simp [List.getD, List.getElem?_eq_getElem (show j < zs.length by omega)]
    omega

/-- its length, by the claim's own reach -/
theorem open_byteslen {ts : List TypeId} {ds : List (DataW H)} {j : Nat} {l : List UInt8} (hz : (DataW.weightsEach P ts ds).all (· ≤ reachBytes) = true) (htj : ts[j]? = some t) (hdj : ds[j]? = some d) (ht : P.underlying t = some (.slice e)) (he : P.underlying e = some (.int .u8)) (hc : P.cellsOf e = 1) (hb1 : P.bytesOf e = 1)
    (h : DataW.Trod enc P W base (fun _ => true) held t v d p) (hb : ByteSlice W v l) : l.length ≤ reachBytes := by
  obtain ⟨⟨a0, c0, rfl, -⟩, -⟩ := hb
  obtain ⟨fuel, hf⟩ := h
  rcases open_ints ht he hc hf with ⟨hcs, _⟩ | ⟨x, len', cap', zs, hcs, _, hl, hm, hzl, hx, _, _⟩
  · simp [Value.cells] at hcs
    rw [hcs.2.1]
    exact Nat.zero_le _
  · simp [Value.cells] at hcs
    obtain ⟨-, rfl, rfl⟩ := hcs
    have hd := congrArg Prod.fst hx
    simp only at hd
    have := sized_slice hz htj (hd ▸ hdj) ht
    rw [hb1, Nat.mul_one] at this
    simp only [if_true] at hzl
    have q1 : (lits (H := H) .u8 (zs.take l.length)).length = l.length := by unfold lits; rw [List.length_map, List.length_take, hzl]; omega
    omega
end
end Go.Proofs.YtknlojlcahgnoaaGreat
