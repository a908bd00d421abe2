/- Plain: which policies may be; those of choices may be. Plain: what lacks of a text of rules. Plain: a line that is there twice. Plain: blanks, empty lines and what stands behind the sign count for nothing, nor does the order of lines. Walk: tollerref12.Same of equal policies. Walk: tollerlaw12.known. Walk: tollerlaw12.ConfigLacks. Walk: tollerlaw12.ConfigTwice. Walk: tollerlaw12.ConfigBlanks. -/
import Derived.Lib.SlBytesConst
import Derived.Test.YtknlojlcahgnoaaGreatCf44
import Derived.Test.YtknlojlcahgnoaaGreatCf39
import Derived.Test.YtknlojlcahgnoaaGreatCf29
import Derived.Test.YtknlojlcahgnoaaGreatCf40
import Derived.Test.YtknlojlcahgnoaaGreatCf24

namespace Go.Proofs.YtknlojlcahgnoaaGreat
open Go.RowKit
set_option linter.unusedVariables false
set_option linter.unusedSimpArgs false

theorem key_inj {r s : Rl} (h : r.key = s.key) : r.p = s.p := by
  unfold Rl.key at h
  exact ByteArray.ext (Array.toList_inj.1 h)
theorem lt_of_up {a b : List UInt8} (h : ¬ b < a) (n : a ≠ b) : a < b := by
  by_cases q : a < b
  · exact q
  · exact absurd (List.le_antisymm (List.not_lt.1 h) (List.not_lt.1 q)) n
theorem keyLt_yes {a b : ByteArray} (h : a.data.toList < b.data.toList) : keyLt a b = true := by
  unfold keyLt
  rw [decide_eq_true_eq, keyLt_iff]
  exact h
theorem sorted_up : ∀ {l : List Rl}, UpL Rl.key l → (l.map (·.p)).Nodup → sortedB (l.map (·.p)) = true
  | [], _, _ => rfl
  | [_], _, _ => rfl
  | a :: b :: t, h, n => by
    have h1 := List.pairwise_cons.1 h
    have n1 := List.nodup_cons.1 n
    show (keyLt a.p b.p && sortedB ((b :: t).map (·.p))) = true
    rw [sorted_up h1.2 n1.2, Bool.and_true]
    refine keyLt_yes (lt_of_up (h1.1 b (by simp)) fun e => ?_)
    have := key_inj (r := a) (s := b) e
    exact n1.1 (List.mem_map.2 ⟨b, by simp, this.symm⟩)
theorem up_sorted : ∀ {l : List ByteArray}, sortedB l = true → l.Pairwise fun a b => a.data.toList < b.data.toList
  | [], _ => List.Pairwise.nil
  | [_], _ => by simp
  | a :: b :: t, h => by
    have h2 : keyLt a b = true ∧ sortedB (b :: t) = true := by simpa [sortedB] using h
    have ih := up_sorted h2.2
    have hab : a.data.toList < b.data.toList := by have := h2.1; unfold keyLt at this; rw [decide_eq_true_eq, keyLt_iff] at this; exact this
    refine List.pairwise_cons.2 ⟨fun x hx => ?_, ih⟩
    rcases List.mem_cons.1 hx with rfl | hx
    · exact hab
    · exact List.lt_trans hab ((List.pairwise_cons.1 ih).1 x hx)
theorem sorted_nodup {l : List ByteArray} (h : sortedB l = true) : l.Nodup := by
  refine (up_sorted h).imp fun {a b} q e => ?_
  subst e
  exact List.lt_irrefl _ q
theorem restL_cons (r : Rl) (t : List Rl) : restL (r :: t) = if r.p = ⟨#[]⟩ then (if sortedB ((r :: t).map (·.p)) = true then 0 else 28) else 31 := rfl
/-- the first one of all that are in order is the one for all -/
theorem first_dft {l : List Rl} (h : UpL Rl.key l) (hd : (⟨#[]⟩ : ByteArray) ∈ l.map (·.p)) : ∃ r t, l = r :: t ∧ r.p = ⟨#[]⟩ := by
  cases l with
  | nil => simp at hd
  | cons r t =>
    refine ⟨r, t, rfl, ?_⟩
    by_cases q : r.p = ⟨#[]⟩
    · exact q
    · exfalso
      obtain ⟨x, hx, hp⟩ := List.mem_map.1 hd
      rcases List.mem_cons.1 hx with rfl | hx
      · exact q hp
      · have := (List.pairwise_cons.1 h).1 x hx
        apply this
        have e : x.key = [] := by unfold Rl.key; rw [show x.p = ⟨#[]⟩ from hp]
        rw [e]
        cases hk : r.key with
        | nil => exact absurd (ByteArray.ext (Array.toList_inj.1 (by unfold Rl.key at hk; rw [hk]))) q
        | cons a b => exact List.nil_lt_cons a b
theorem PolOk.cfg {most : Int} {rs : List Rl} (h : PolOk most rs) : cfgErr most rs = 0 := by
  have h0 := h.m0
  have h1 := h.m1
  have h2 := h.len
  have ho := h.ord
  rw [cfgErr_rest (by omega) (by omega) h.err]
  unfold cfgRest
  obtain ⟨r, t, e, hr⟩ := first_dft (ordL_up rs) ho.dft
  have hs := sorted_up (ordL_up rs) ho.nd
  rw [e] at hs ⊢
  rw [restL_cons, if_pos hr, if_pos hs]
theorem PolOk.of {most : Int} {rs : List Rl} (h : cfgErr most rs = 0) (ho : ∀ r ∈ rs, RlOk r) : PolOk most rs := by
  obtain ⟨z1, z2, z3⟩ := cfg_zero h
  have he := cfgErr_rules h
  have p := (ordL_perm (key := Rl.key) rs).map (·.p)
  rw [cfgErr_rest (by omega) (by omega) he] at h
  unfold cfgRest at h
  cases q : ordL Rl.key rs with
  | nil => rw [q] at h; simp [restL] at h
  | cons r t =>
    rw [q] at h p
    rw [restL_cons] at h
    split at h
    · rename_i hr
      split at h
      · rename_i hs
        exact ⟨z1, z2, ho, he, p.nodup_iff.1 (sorted_nodup hs), z3, p.mem_iff.1 (by rw [List.map_cons, hr]; simp)⟩
      · omega
    · omega
theorem numsR_err {w : World} {d : Nms} (h : NmsOk w d) : rErr (numsR d) = 0 := by
  have hk := (keyText_ok d.pre).1
  have hp : prefOk (keyText d.pre) = true := by unfold prefOk; rw [hk]; simp
  have h1 := h.e0; have h2 := h.e1; have h3 := h.b0; have h4 := h.b1; have h5 := h.k0; have h6 := h.k1
  have hm : ∀ x y : Int, 0 ≤ x → x ≤ 4294967296 → 0 ≤ y → y ≤ 65536 → x * y ≤ 4611686018427387904 := fun x y q1 q2 q3 q4 => by
    have : x * y ≤ 4294967296 * 65536 := Int.mul_le_mul q2 q4 q3 (by omega)
    omega
  have hr : rightKind (1 + d.kind % 3) = true := by unfold rightKind; simp; omega
  unfold rErr numsR nmR
  split
  · exact ruleErr_yes hp (by show 0 < 1 + d.every % 50; omega) (by show 0 < 1 + d.burst % 9; omega) (capOk_yes (hm (1 + d.every % 50) (1 + d.burst % 9) (by omega) (by omega) (by omega) (by omega))) hr
  · exact ruleErr_yes hp (by show 0 < 1 + d.every; omega) (by show 0 < 1 + d.burst; omega) (capOk_yes (hm (1 + d.every) (1 + d.burst) (by omega) (by omega) (by omega) (by omega))) hr
theorem polR0_err {n : Int} (h : 0 ≤ n) : rErr (polR0 n) = 0 := ruleErr_yes (show prefOk ⟨#[]⟩ = true by decide) (by show (0 : Int) < 1000; decide) (by show (0 : Int) < 5; decide) (capOk_yes (by show (1000 : Int) * 5 ≤ _; decide)) (by show rightKind (1 + n % 3) = true; unfold rightKind; simp; omega)
theorem polNew_iff {rs : List Rl} {p : ByteArray} : polNew rs p = true ↔ p ∉ rs.map (·.p) := by
  unfold polNew
  simp
theorem polTo_all {n : Int} (hn : 0 ≤ n) {w : World} (l : List Nms) (hl : ∀ d ∈ l, NmsOk w d) : (∀ r ∈ polTo n l, rErr r = 0) ∧ ((polTo n l).map (·.p)).Nodup ∧ ∃ t, polTo n l = polR0 n :: t := by
  induction l using list_snoc with
  | h0 => exact ⟨fun r hr => by obtain rfl := List.mem_singleton.1 hr; exact polR0_err hn, by simp [polTo], [], rfl⟩
  | h1 l d ih =>
    obtain ⟨i1, i2, t, i3⟩ := ih fun x hx => hl x (List.mem_append_left _ hx)
    rw [polTo_snoc]
    unfold polAdd
    split
    · rename_i q
      rw [polNew_iff] at q
      refine ⟨fun r hr => ?_, ?_, t ++ [numsR d], by rw [i3]; rfl⟩
      · rcases List.mem_append.1 hr with hr | hr
        · exact i1 r hr
        · rw [List.mem_singleton.1 hr]; exact numsR_err (hl d (by simp))
      · rw [List.map_append, List.nodup_append]
        refine ⟨i2, by simp, fun a ha b hb e => ?_⟩
        rw [List.map_singleton, List.mem_singleton] at hb
        exact q (by rw [← hb, ← e]; exact ha)
    · exact ⟨i1, i2, t, i3⟩
theorem polRs_ok {n : Int} (hn : 0 ≤ n) {w : World} (l : List Nms) (hl : ∀ d ∈ l, NmsOk w d) : PolOk (1 + n % 50) (polRs n l) ∧ (polRs n l).length ≤ 13 ∧ ∃ t, polRs n l = polR0 n :: t := by
  have hl2 : ∀ d ∈ l.take 12, NmsOk w d := fun d hd => hl d (List.mem_of_mem_take hd)
  obtain ⟨a1, a2, t, a3⟩ := polTo_all hn (l.take 12) hl2
  have hlen := polTo_len n (l.take 12)
  have h12 : (l.take 12).length ≤ 12 := by rw [List.length_take]; omega
  refine ⟨⟨by omega, by omega, polTo_ok hn _ hl2, a1, a2, by unfold polRs; omega, ?_⟩, by unfold polRs; omega, t, a3⟩
  unfold polRs
  rw [a3]
  simp [polR0]
end Go.Proofs.YtknlojlcahgnoaaGreat

namespace Go.Proofs.YtknlojlcahgnoaaGreat
open Go.RowKit
set_option linter.unusedVariables false
set_option linter.unusedSimpArgs false

/-- behind the first end of a line; 0: there is none -/
def endOf : List UInt8 → Nat
  | [] => 0
  | b :: r => if b = 10 then 1 else if endOf r = 0 then 0 else endOf r + 1
theorem endOf_app : ∀ (l r : List UInt8), 10 ∉ l → endOf (l ++ 10 :: r) = l.length + 1
  | [], r, _ => by simp [endOf]
  | a :: l, r, h => by
    have ih := endOf_app l r fun q => h (by simp [q])
    have h1 : a ≠ 10 := fun q => h (by simp [q])
    simp [endOf, ih, h1]
theorem no_end {l : List ByteArray} (h : ∀ s ∈ l, Vis s) : (10 : UInt8) ∉ joinL l := by
  have key : ∀ (ws : List ByteArray), (∀ s ∈ ws, Vis s) → ∀ b ∈ joinL ws, b ≠ 10 := by
    intro ws
    induction ws with
    | nil => intro _ b hb; simp [joinL, Lib.join, List.intercalate] at hb
    | cons s r ih =>
      intro h b hb
      have hv : ∀ b ∈ s.data.toList, b ≠ 10 := fun b hb e => by
        have := (h s (by simp)).2 b hb
        rw [e] at this
        revert this
        decide
      cases r with
      | nil => rw [joinL_one] at hb; exact hv b hb
      | cons t r =>
        rw [joinL_more] at hb
        rcases List.mem_append.1 hb with hb | hb
        · exact hv b hb
        · rcases List.mem_cons.1 hb with rfl | hb
          · decide
          · exact ih (fun x hx => h x (by simp only [List.mem_cons] at hx ⊢; exact Or.inr hx)) b hb
  exact fun hb => key l h _ hb rfl
theorem prText_eq (most : Int) (rs : List Rl) : prText most rs = (joinL [wSize, digStr most] ++ [10]) ++ joinText ((ordL Rl.key rs).map plW) := by simp [prText, prLines, joinText]
theorem pr_end {most : Int} {rs : List Rl} (h0 : 0 ≤ most) (h1 : most < 18446744073709551616) : endOf (prText most rs) = (joinL [wSize, digStr most]).length + 1 := by
  rw [prText_eq, List.append_assoc]
  exact endOf_app _ _ (no_end (size_ok h0 h1).2.1)
end Go.Proofs.YtknlojlcahgnoaaGreat

namespace Go.Proofs.YtknlojlcahgnoaaGreat
open Go.RowKit
set_option linter.unusedVariables false
set_option linter.unusedSimpArgs false

theorem lns_app : ∀ (a b : List (List ByteArray)) (n : Nat), lnsFrom n (a ++ b) = lnsFrom n a ++ lnsFrom (n + a.length) b
  | [], b, n => rfl
  | x :: a, b, n => by
    have := lns_app a b (n + 1)
    rw [show n + 1 + a.length = n + (a.length + 1) by omega] at this
    show wdsFrom n 1 x :: lnsFrom (n + 1) (a ++ b) = _
    rw [this]
    rfl
theorem joinText_app (a b : List (List ByteArray)) : joinText (a ++ b) = joinText a ++ joinText b := by simp [joinText]
theorem joinText_one (l : List ByteArray) : joinText [l] = joinL l ++ [10] := by simp [joinText]
theorem prLines_eq (most : Int) (rs : List Rl) : prLines most rs = [wSize, digStr most] :: (ordL Rl.key rs).map plW := rfl
theorem cfg_one (s : CfgSt) (ws : List Wd) (h : (lnErr s ws).1 ≠ 0) : cfgLines s [ws] = .inl ((lnErr s ws).1, (wdAt ws (lnErr s ws).2).line, (wdAt ws (lnErr s ws).2).col) := by
  show (if (lnErr s ws).1 ≠ 0 then _ else _) = _
  rw [if_pos h]
/-- one more line behind those that are printed -/
theorem parse_bad {most : Int} {rs : List Rl} (h : PolOk most rs) {l : List ByteArray} (hl : LineOk l) (hs : (joinL l).length ≤ 100000) {e : Int} {i : Nat} (he : lnErr ⟨most, ordL Rl.key rs⟩ (wdsFrom (1 + (prLines most rs).length) 1 l) = (e, i)) (h0 : e ≠ 0) :
    cfgParse (prText most rs ++ (joinL l ++ [10])) = ⟨e, (wdAt (wdsFrom (1 + (prLines most rs).length) 1 l) i).line, (wdAt (wdsFrom (1 + (prLines most rs).length) 1 l) i).col, 0, []⟩ := by
  have ho := h.ord
  have m0 := h.m0
  have m1 := h.m1
  have hsm := lines_small most (by omega) (by omega) _ ho.ok ho.err
  have hln := ho.len
  have e1 : prText most rs ++ (joinL l ++ [10]) = joinText (prLines most rs ++ [l]) := by rw [joinText_app, joinText_one]; rfl
  have e2 : (joinText (prLines most rs ++ [l])).length = (joinText ([wSize, digStr most] :: (ordL Rl.key rs).map plW)).length + ((joinL l).length + 1) := by rw [joinText_app, joinText_one, List.length_append, List.length_append]; rfl
  obtain ⟨s1, s2⟩ := split_lns (ls := prLines most rs ++ [l]) (fun x hx => by
    rcases List.mem_append.1 hx with hx | hx
    · exact ho.lines x hx
    · rw [List.mem_singleton.1 hx]; exact hl) (by omega)
  have e3 : cfgLines cfg0 (lnsFrom 1 (prLines most rs ++ [l])) = .inl (e, (wdAt (wdsFrom (1 + (prLines most rs).length) 1 l) i).line, (wdAt (wdsFrom (1 + (prLines most rs).length) 1 l) i).col) := by
    rw [lns_app, cfgLines_app, show cfgLines cfg0 (lnsFrom 1 (prLines most rs)) = .inr ⟨most, ordL Rl.key rs⟩ from cfg_all ho]
    have := cfg_one ⟨most, ordL Rl.key rs⟩ (wdsFrom (1 + (prLines most rs).length) 1 l) (by rw [he]; exact h0)
    rw [he] at this
    exact this
  rw [e1]
  unfold cfgParse
  rw [s1, s2, e3]
  rfl
theorem twice {most : Int} {rs : List Rl} (h : PolOk most rs) (i : Nat) (hi : i < (prLines most rs).length) :
    cfgParse (prText most rs ++ (joinL (prLines most rs)[i] ++ [10])) = ⟨28, (prLines most rs).length + 1, if 1 < i then 6 else 1, 0, []⟩ := by
  have ho := h.ord
  have m0 := h.m0
  have m1 := h.m1
  have hsm := lines_small most (by omega) (by omega) _ ho.ok ho.err
  have hln := ho.len
  cases i with
  | zero =>
    have e : (prLines most rs)[0] = [wSize, digStr most] := rfl
    have hj := joinL_len [wSize, digStr most]
    have hd := (dig_back most (by omega) (by omega)).2.2.1
    have d1 : wSize.size = 4 := by decide
    simp only [List.map_cons, List.map_nil, List.sum_cons, List.sum_nil, List.length_cons, List.length_nil] at hj
    rw [e, parse_bad h (e := 28) (i := 0) (size_ok (by omega) (by omega)) (by omega) ?_ (by decide)]
    · rw [line_from _ _ _ _ (by simp)]
      simp
      exact ⟨by omega, rfl⟩
    · unfold lnErr
      rw [if_pos (show (wdAt (wdsFrom (1 + (prLines most rs).length) 1 [wSize, digStr most]) 0).t = wSize from rfl)]
      unfold szErr
      rw [if_neg (by simp [wdsFrom]), if_pos (by show most ≠ 0; omega)]
  | succ j =>
    have hj : j < (ordL Rl.key rs).length := by rw [prLines_eq] at hi; simpa using hi
    have e : (prLines most rs)[j + 1] = plW ((ordL Rl.key rs)[j]) := by simp [prLines]
    have hm := List.getElem_mem hj
    have hpl := plW_len (ho.ok _ hm) (ho.err _ hm)
    obtain ⟨q1, -⟩ := ln_rule (ho.err _ hm) (ho.ok _ hm) most (1 + (prLines most rs).length) (ordL Rl.key rs)
    rw [if_pos (has_pre_iff.2 (List.mem_map_of_mem hm))] at q1
    rw [e, parse_bad h (plW_ok (ho.err _ hm) (ho.ok _ hm)) (by omega) q1 (by decide)]
    obtain ⟨r, t, ht, hp⟩ := first_dft (ordL_up rs) ho.dft
    by_cases hz : j = 0
    · subst hz
      have e0 : (ordL Rl.key rs)[0] = r := by simp [ht]
      rw [e0, if_pos hp, plW_def (by have := ho.err _ hm; rwa [e0] at this) hp, line_from _ _ _ _ (by simp)]
      simp
      exact ⟨by omega, rfl⟩
    · have hne : ((ordL Rl.key rs)[j]).p ≠ ⟨#[]⟩ := by
        intro q
        have hn := ho.nd
        have h2 : (((ordL Rl.key rs).map (·.p))[0]'(by rw [List.length_map]; omega)) = ((ordL Rl.key rs).map (·.p))[j]'(by rw [List.length_map]; omega) := by
          simp only [List.getElem_map]
          rw [q]
          simp [ht, hp]
        exact hz ((List.getElem_inj hn).1 h2).symm
      rw [if_neg hne, plW_rule (ho.err _ hm) hne, line_from _ _ _ _ (by simp)]
      rw [if_pos (by omega)]
      have : ((1 + (prLines most rs).length : Nat) : Int) = (prLines most rs).length + 1 := by omega
      rw [this]
      rfl
end Go.Proofs.YtknlojlcahgnoaaGreat

namespace Go.Proofs.YtknlojlcahgnoaaGreat
open Go.RowKit
set_option linter.unusedVariables false
set_option linter.unusedSimpArgs false

/-- what may stand ahead of a line -/
def pieceB (k : Nat) : List UInt8 :=
  if k = 0 then [] else if k = 1 then [32] else if k = 2 then [9, 32] else if k = 3 then [10] else if k = 4 then [35, 32, 120, 10] else [32, 35, 115, 105, 122, 101, 32, 53, 10, 10]
/-- words, each with what stands behind it -/
def bodyB (ws : List (ByteArray × List UInt8)) : List UInt8 := ws.flatMap fun x => x.1.data.toList ++ x.2
/-- a line of the text -/
structure LnB where
  k : Nat
  ws : List (ByteArray × List UInt8)
def LnB.text (x : LnB) : List UInt8 := pieceB x.k ++ bodyB x.ws ++ [10]
theorem wdAt_t (ws : List Wd) (i : Nat) : (wdAt ws i).t = (wTexts ws).getD i ⟨#[]⟩ := by
  unfold wdAt wTexts
  rw [List.getD_eq_getElem?_getD, List.getD_eq_getElem?_getD, List.getElem?_map]
  cases ws[i]? <;> rfl
end Go.Proofs.YtknlojlcahgnoaaGreat

namespace Go.Proofs.YtknlojlcahgnoaaGreat
open Go.RowKit
set_option linter.unusedVariables false
set_option linter.unusedSimpArgs false

set_option maxHeartbeats 1000000 in
set_option maxRecDepth 100000 in
theorem ref12_Same_yes (most : Int) (v1 v2 : Value) (l : List Rl) (w : World) (h1 : RulesAt w v1 l) (h2 : RulesAt w v2 l) (hl : l.length ≤ 1000000000) :
    Calls Tryz.prog 18 #[.agg #[.int .i64 most, v1], .agg #[.int .i64 most, v2]] w fun x w' => x = .returned (.bool true) ∧ Ext w w' := by
  obtain ⟨a1, c1, rfl⟩ := h1.size
  obtain ⟨a2, c2, rfl⟩ := h2.size
  have b1 := (Blk.new w #[.int .i64 most, .slice a1 l.length c1] 28).alloc (.cells #[.int .i64 most, .slice a2 l.length c2] 28)
  have b2 := Blk.new' (w.alloc (.cells #[.int .i64 most, .slice a1 l.length c1] 28)) #[.int .i64 most, .slice a2 l.length c2] 28 (b := w.heap.size + 1) (by simp)
  have hx0 : Ext w ((w.alloc (.cells #[.int .i64 most, .slice a1 l.length c1] 28)).alloc (.cells #[.int .i64 most, .slice a2 l.length c2] 28)) := ((Ext.refl w).alloc _).alloc _
  have H1 := Lib.hid (h1.ext Rl.size4 hx0)
  have H2 := Lib.hid (h2.ext Rl.size4 hx0)
  clear h1 h2
  go_enter Tryz.func18, Tryz.ntmps18
  go_upto_region 1 with fail
  generalize (w.alloc (.cells #[.int .i64 most, .slice a1 l.length c1] 28)).alloc (.cells #[.int .i64 most, .slice a2 l.length c2] 28) = w0 at *
  have B1 := Lib.hid b1
  have B2 := Lib.hid b2
  have HX0 := Lib.hid hx0
  have c10 : w0.cell? ⟨w.heap.size, 0, none⟩ = some (.int .i64 most) := b1.cell 0
  have c11 : w0.cell? ⟨w.heap.size, 1, none⟩ = some (.slice a1 l.length c1) := b1.cell 1
  have c20 : w0.cell? ⟨w.heap.size + 1, 0, none⟩ = some (.int .i64 most) := b2.cell 0
  have c21 : w0.cell? ⟨w.heap.size + 1, 1, none⟩ = some (.slice a2 l.length c2) := b2.cell 1
  have hll : ((l.length : Int) == (l.length : Int)) = true := by simp
  have hmm : (most == most) = true := by simp
  clear hx0 b1 b2
  go_wp2_with fail
  go_loopw [5] (fun i wr => ∃ k : Nat, k ≤ l.length ∧ i = .int .i64 k ∧ Ext w0 wr) (fun i _ => l.length - (intOf i).toNat)
  case atStart => exact ⟨0, by omega, rfl, Ext.refl _⟩
  case round =>
    obtain ⟨k, hk, rfl, hx⟩ := hrel
    have d11 := hx.keep c11
    have d21 := hx.keep c21
    by_cases hlt : k < l.length
    · obtain ⟨g1, o1, e1, -, q1⟩ := (H1.out.ext Rl.size4 hx).cells Rl.size4 (by decide) k hlt
      obtain ⟨g2, o2, e2, -, q2⟩ := (H2.out.ext Rl.size4 hx).cells Rl.size4 (by decide) k hlt
      cases e1
      cases e2
      have a10 : wr.cell? ⟨g1, o1 + k * 4, none⟩ = some (.string l[k].p) := q1 0 (by decide)
      have a11 : wr.cell? ⟨g1, o1 + k * 4 + 1, none⟩ = some (.int .u64 l[k].e) := q1 1 (by decide)
      have a12 : wr.cell? ⟨g1, o1 + k * 4 + 2, none⟩ = some (.int .u64 l[k].b) := q1 2 (by decide)
      have a13 : wr.cell? ⟨g1, o1 + k * 4 + 3, none⟩ = some (.int .u8 l[k].k) := q1 3 (by decide)
      have a20 : wr.cell? ⟨g2, o2 + k * 4, none⟩ = some (.string l[k].p) := q2 0 (by decide)
      have a21 : wr.cell? ⟨g2, o2 + k * 4 + 1, none⟩ = some (.int .u64 l[k].e) := q2 1 (by decide)
      have a22 : wr.cell? ⟨g2, o2 + k * 4 + 2, none⟩ = some (.int .u64 l[k].b) := q2 2 (by decide)
      have a23 : wr.cell? ⟨g2, o2 + k * 4 + 3, none⟩ = some (.int .u8 l[k].k) := q2 3 (by decide)
      generalize l[k] = r at *
      obtain ⟨rp, re, rb, rk⟩ := r
      clear q1 q2
      simp only at a10 a11 a12 a13 a20 a21 a22 a23
      go_upto_region 6 with fail
      go_quiet (fail)
      go_wp2
      go_roundw
      case rel => exact ⟨k + 1, by omega, by go_num, hx.trans (Ext.drewNs _ _)⟩
      case measure => simp [intOf]; omega
    · go_wp2
      go_ret
      exact ⟨rfl, HX0.out.trans hx⟩
end Go.Proofs.YtknlojlcahgnoaaGreat

namespace Go.Proofs.YtknlojlcahgnoaaGreat
open Go.RowKit
set_option linter.unusedVariables false
set_option linter.unusedSimpArgs false

def k12_t : List UInt8 := [115, 105, 122, 101, 32, 50, 10, 100, 101, 102, 97, 117, 108, 116, 32, 49, 48, 32, 53, 32, 103, 99, 114, 97, 10]
def k12_u : List UInt8 := [115, 105, 122, 101, 32, 48]
def k12_r : Rl := ⟨⟨#[]⟩, 10, 5, 1⟩
theorem k12_ok : PolOk 2 [k12_r] := ⟨by decide, by decide, by
  intro r hr
  rw [List.mem_singleton.1 hr]
  exact ⟨show (⟨#[]⟩ : ByteArray).size ≤ maxLen by decide, by decide, by decide, by decide, by decide, by decide, by decide⟩, by
  intro r hr
  rw [List.mem_singleton.1 hr]
  decide, by simp, by simp, by simp [k12_r]⟩
theorem k12_pt : prText 2 [k12_r] = k12_t := by
  have e : ordL Rl.key [k12_r] = [k12_r] := by unfold ordL; rw [List.mergeSort_singleton]
  unfold prText prLines
  rw [e]
  show joinText ([wSize, digStr 2] :: [k12_r].map plW) = k12_t
  kernel_rfl
theorem k12_parse : cfgParse k12_t = ⟨0, 0, 0, 2, [k12_r]⟩ := by
  rw [← k12_pt, parse_print k12_ok]
  unfold ordL
  rw [List.mergeSort_singleton]
theorem k12_err : cfgErr 2 [k12_r] = 0 := k12_ok.cfg
theorem k12_zero : cfgParse k12_u = ⟨29, 1, 6, 0, []⟩ := by kernel_rfl

theorem bytes_lit (w : World) (C : Array Value) (r : Nat × Nat) (l : List UInt8) (hC : C = (l.map fun b => Value.int .u8 (b.toNat : Int)).toArray) (hl : l.length ≤ maxLen) {c n : Nat} (hn : n = l.length) : ByteSlice (w.alloc (.cells C 5 r)) (.slice (some ⟨w.heap.size, 0, none⟩) n c) l := by
  subst hn
  refine ⟨⟨_, _, rfl, fun _ => ⟨w.heap.size, 0, rfl, fun j hj => ?_⟩⟩, hl⟩
  subst hC
  rw [Nat.zero_add]
  unfold World.cell?
  dsimp only
  rw [heap_alloc_new]
  simp [hj]
theorem ParseIs.open {w w' : World} {l : List UInt8} {x : Ending} (h : ParseIs w l x w') {r : CfgRes} (e : cfgParse l = r) :
    ∃ v, x = .returned (.tuple #[.agg #[.int .i64 r.most, v], .int .u16 r.e, .agg #[.int .i64 r.ln, .int .i64 r.cl]]) ∧ RuleOwn w.heap.size w' v r.rs ∧ Ext w w' := by
  subst e
  exact h
set_option maxHeartbeats 2000000 in
set_option maxRecDepth 100000 in
theorem law12_known (w : World) :
    Calls Tryz.prog 10 #[] w fun x w' => x = .returned (.bool true) ∧ Ext w w' := by
  have kc : ∀ (w : World) (C : Array Value) (n c b : Nat), b = w.heap.size → (convert 22 22 (.slice (some ⟨b, 0, none⟩) n c)).run Tryz.prog (w.alloc (.cells C 5)) = .ok (.slice (some ⟨b, 0, none⟩) n c) (w.alloc (.cells C 5 (C.size, C.size + 1))) := fun w C n c b h => by
    subst h
    exact Lib.run_convert_bytes_const (P := Tryz.prog) w 22 5 C n c Tryz.underlying22 Tryz.underlying5
  go_enter Tryz.func10, Tryz.ntmps10
  go_wp2_with fail
  refine (config_Parse _ k12_t _ (bytes_lit w _ _ k12_t rfl (by decide) rfl) (fun a n c h => by cases h; exact Nat.le_refl _)).mono ?_
  intro x w1 h1
  obtain ⟨v1, rfl, ho1, hx1⟩ := h1.open k12_parse
  have hat := RuleOwn.at ho1
  obtain ⟨b1, o1, c1, rfl, hb1, hc1⟩ := RulesAt.cells0 hat
  have HX1 := Lib.hid (((Ext.refl w).alloc _).trans hx1)
  have HAT := Lib.hid hat
  clear h1 ho1 hx1 hat
  go_wp2_with fail
  have bP := (Blk.new w1 #[.int .i64 2, .slice (some ⟨b1, o1, none⟩) 1 c1] 28).alloc (.cells #[.int .i64 0, .int .i64 0] 44)
  have bA := Blk.new' (w1.alloc (.cells #[.int .i64 2, .slice (some ⟨b1, o1, none⟩) 1 c1] 28)) #[.int .i64 0, .int .i64 0] 44 (b := w1.heap.size + 1) (by simp)
  have hxa : Ext w1 ((w1.alloc (.cells #[.int .i64 2, .slice (some ⟨b1, o1, none⟩) 1 c1] 28)).alloc (.cells #[.int .i64 0, .int .i64 0] 44)) := ((Ext.refl w1).alloc _).alloc _
  have hsa : w1.heap.size + 1 + 1 = ((w1.alloc (.cells #[.int .i64 2, .slice (some ⟨b1, o1, none⟩) 1 c1] 28)).alloc (.cells #[.int .i64 0, .int .i64 0] 44)).heap.size := by simp
  generalize (w1.alloc (.cells #[.int .i64 2, .slice (some ⟨b1, o1, none⟩) 1 c1] 28)).alloc (.cells #[.int .i64 0, .int .i64 0] 44) = wa at *
  rw [hsa]
  refine (config_Parse _ k12_u _ (bytes_lit wa _ _ k12_u rfl (by decide) rfl) (fun a n c h => by cases h; exact Nat.le_refl _)).mono ?_
  intro x w2 h2
  obtain ⟨v2, rfl, ho2, hx2⟩ := h2.open k12_zero
  obtain ⟨a2, e2, rfl⟩ := (RuleOwn.at ho2).size
  clear ho2
  have hx2 : Ext wa w2 := ((Ext.refl wa).alloc _).trans hx2
  have HBP := Lib.hid (bP.ext hx2)
  have HBA := Lib.hid (bA.ext hx2)
  have HX2 := Lib.hid (HX1.out.trans (hxa.trans hx2))
  have HAT2 := Lib.hid (HAT.out.ext Rl.size4 (hxa.trans hx2))
  clear h2 hx2 hxa hsa bP bA hc1 HAT HX1
  have c0 : w2.cell? ⟨w1.heap.size, 0, none⟩ = some (.int .i64 2) := HBP.out.cell 0
  have c1' : w2.cell? ⟨w1.heap.size, 1, none⟩ = some (.slice (some ⟨b1, o1, none⟩) 1 c1) := HBP.out.cell 1
  have c2 : w2.cell? ⟨w1.heap.size + 1, 0, none⟩ = some (.int .i64 0) := HBA.out.cell 0
  have c3 : w2.cell? ⟨w1.heap.size + 1, 1, none⟩ = some (.int .i64 0) := HBA.out.cell 1
  have lP := HBP.out.lt
  have lA := HBA.out.lt
  have nP : w1.heap.size ≠ w2.heap.size := by omega
  have nP2 : w1.heap.size ≠ w2.heap.size + 1 := by omega
  have HRI := Lib.hid (fun V h => config_Right 2 (.slice (some ⟨b1, o1, none⟩) 1 c1) [k12_r] V (by decide) (by decide) h k12_ok.ok (by decide))
  rw [k12_err] at HRI
  go_wp2_with (first
    | (go_at_call 35; refine (HRI.out _ (HAT2.out.ext Rl.size4 (((Ext.refl w2).alloc _).alloc _))).mono ?_; rintro x w3 ⟨rfl, hx3⟩)
    | fail)
  go_ret
  exact ⟨rfl, HX2.out.trans ((((Ext.refl w2).alloc _).alloc _).trans hx3)⟩
end Go.Proofs.YtknlojlcahgnoaaGreat

namespace Go.Proofs.YtknlojlcahgnoaaGreat
open Go.RowKit
set_option linter.unusedVariables false
set_option linter.unusedSimpArgs false

theorem bytes_form {w : World} {b o n c : Nat} {l : List UInt8} (h : ByteSlice w (.slice (some ⟨b, o, none⟩) n c) l) : n = l.length ∧ ∀ j (h : j < l.length), w.cell? ⟨b, o + j, none⟩ = some (.int .u8 (l[j].toNat : Int)) := by
  obtain ⟨a, c', e, hl⟩ := h.form
  simp only [Value.slice.injEq] at e
  obtain ⟨e1, e2, -⟩ := e
  refine ⟨e2, fun j hj => ?_⟩
  obtain ⟨b', o', ha, hc⟩ := hl (by intro q; rw [q] at hj; simp at hj)
  rw [ha] at e1
  simp only [Option.some.injEq, Addr.mk.injEq, and_true] at e1
  obtain ⟨rfl, rfl⟩ := e1
  exact hc j hj
theorem ByteSlice.drop {w : World} {b o n c c' n' k : Nat} {l : List UInt8} (h : ByteSlice w (.slice (some ⟨b, o, none⟩) n c) l) (hn : n' = n - k) : ByteSlice w (.slice (some ⟨b, o + k, none⟩) n' c') (l.drop k) := by
  obtain ⟨q1, q2⟩ := bytes_form h
  refine ⟨⟨_, _, by rw [List.length_drop, ← q1, hn], fun _ => ⟨b, o + k, rfl, fun j hj => ?_⟩⟩, by rw [List.length_drop]; have := h.len; omega⟩
  rw [List.length_drop] at hj
  rw [List.getElem_drop, ← q2 (k + j) (by omega), Nat.add_assoc]
theorem ByteSlice.take {w : World} {b o n c c' k : Nat} {l : List UInt8} (h : ByteSlice w (.slice (some ⟨b, o, none⟩) n c) l) (hk : k ≤ l.length) : ByteSlice w (.slice (some ⟨b, o, none⟩) k c') (l.take k) := by
  obtain ⟨q1, q2⟩ := bytes_form h
  refine ⟨⟨_, _, by rw [List.length_take, Nat.min_eq_left hk], fun _ => ⟨b, o, rfl, fun j hj => ?_⟩⟩, by rw [List.length_take]; have := h.len; omega⟩
  rw [List.length_take] at hj
  rw [List.getElem_take, ← q2 j (by omega)]
theorem ByteSlice.nil (w : World) : ByteSlice w (.slice none 0 0) [] := ⟨⟨_, _, rfl, fun h => absurd rfl h⟩, by simp⟩
theorem cap_le {a : Option Addr} {n c : Nat} (h : n ≤ c) : CapLe (.slice a n c) := fun a' n' c' e => by
  simp only [Value.slice.injEq] at e
  obtain ⟨-, e2, e3⟩ := e
  rw [← e2, ← e3]
  exact h
end Go.Proofs.YtknlojlcahgnoaaGreat

namespace Go.Proofs.YtknlojlcahgnoaaGreat
open Go.RowKit
set_option linter.unusedVariables false
set_option linter.unusedSimpArgs false

theorem byte_info : (Tryz.prog.info? 5).map (fun i => (i.zero, i.size, i.bytes)) = some (some (.int .u8 0), 1, 1) := by kernel_rfl
def byteV (l : List UInt8) : List Value := l.map fun b => .int .u8 (b.toNat : Int)
theorem own_bytes {w : World} {base : Nat} {v : Value} {l : List UInt8} {n : Nat} (h : w.ownsRow base 5 1 v n (byteV l)) (hn : n = l.length) : ByteSlice w v l ∧ CapLe v := by
  subst hn
  obtain ⟨-, ⟨rfl, q⟩ | ⟨g, cap, cur, rfl, q2, q3, q4, q5, q6, q7⟩⟩ := h
  · have : l = [] := List.length_eq_zero_iff.1 q
    subst this
    exact ⟨ByteSlice.nil w, cap_le (Nat.le_refl 0)⟩
  · refine ⟨⟨⟨_, _, rfl, fun _ => ⟨g, 0, rfl, fun j hj => ?_⟩⟩, by omega⟩, cap_le q4⟩
    have : cur.toList[j]? = some (.int .u8 (l[j].toNat : Int)) := by
      have h2 : (cur.toList.take (l.length * 1))[j]? = (byteV l)[j]? := by rw [q7]
      rw [List.getElem?_take_of_lt (by omega)] at h2
      rw [h2]
      simp [byteV, hj]
    rw [Nat.zero_add, Blk.cell (show Blk w g cur 5 from q3)]
    simpa using this
theorem one_bytes (l : List UInt8) : ∀ u ∈ byteV l, u.oneCell' = true := by
  intro u hu
  obtain ⟨b, -, rfl⟩ := List.mem_map.1 hu
  rfl
/-- rows of a text that are known -/
def RowsAt (w wr : World) (v : Value) (l : List (List UInt8)) : Prop :=
  ∃ vs, wr.ownsRow w.heap.size 22 1 v l.length vs ∧ vs.length = l.length ∧ ∀ j (h : j < vs.length) (h2 : j < l.length), ByteSlice w vs[j] l[j] ∧ ∃ b o n c, vs[j] = .slice (some ⟨b, o, none⟩) n c
theorem RowsAt.step {w wr : World} {v' x : Value} {l : List (List UInt8)} {r : List UInt8} {vs : List Value} (ho : wr.ownsRow w.heap.size 22 1 v' (l.length + 1) (vs ++ [x])) (hv : vs.length = l.length) (hs : ∀ j (h : j < vs.length) (h2 : j < l.length), ByteSlice w vs[j] l[j] ∧ ∃ b o n c, vs[j] = .slice (some ⟨b, o, none⟩) n c) (hx : ByteSlice w x r ∧ ∃ b o n c, x = .slice (some ⟨b, o, none⟩) n c) : RowsAt w wr v' (l ++ [r]) := by
  refine ⟨vs ++ [x], by rw [List.length_append]; exact ho, by simp [hv], fun j h1 h2 => ?_⟩
  by_cases q : j < vs.length
  · rw [List.getElem_append_left q, List.getElem_append_left (by omega)]
    exact hs j q (by omega)
  · have hj : j = vs.length := by simp at h1; omega
    subst hj
    rw [List.getElem_append_right (Nat.le_refl _), List.getElem_append_right (by omega)]
    simpa [hv] using hx
end Go.Proofs.YtknlojlcahgnoaaGreat

namespace Go.Proofs.YtknlojlcahgnoaaGreat
open Go.RowKit
set_option linter.unusedVariables false
set_option linter.unusedSimpArgs false

/-- bytes that grow in a row of the call's own -/
abbrev BytesOwn (base : Nat) (w : World) (v : Value) (l : List UInt8) : Prop := w.ownsRow base 5 1 v l.length (byteV l)
theorem byteV_app (a b : List UInt8) : byteV (a ++ b) = byteV a ++ byteV b := by simp [byteV]
theorem bytesOwn_snoc {base : Nat} {w : World} {v : Value} {l : List UInt8} {b : UInt8} (h : w.ownsRow base 5 1 v (l.length + 1) (byteV l ++ [.int .u8 (b.toNat : Int)])) : BytesOwn base w v (l ++ [b]) := by
  show World.ownsRow _ _ _ _ _ (l ++ [b]).length _
  rw [List.length_append, byteV_app]
  exact h
end Go.Proofs.YtknlojlcahgnoaaGreat
