/- Plain: which policies may be; those of choices may be. Plain: what lacks of a text of rules. Walk: tollerlaw12.known. Plain: a line that is there twice. Plain: the rows of a text: each ends with the end of a line. Plain: a thousand rules, and one more. Plain: blanks, empty lines and what stands behind the sign count for nothing, nor does the order of lines. Plain: the text that tollerlaw12.ConfigBlanks lays, line by line. Walk: tollerref12.Same of equal policies. -/
import Derived.Lib.SlBytesConst
import Derived.Test.YtknlojlcahgnoaaG52
import Derived.Test.YtknlojlcahgnoaaG48
import Derived.Test.YtknlojlcahgnoaaG36
import Derived.Test.YtknlojlcahgnoaaG29
import Derived.Test.YtknlojlcahgnoaaG47

/- Plain: which policies may be; those of choices may be. -/
namespace Go.Proofs.Ytknlojlcahgnoaa
open Go.RowKit
set_option linter.unusedVariables false
set_option linter.unusedSimpArgs false

theorem key_inj {r s : Rl} (h : r.key = s.key) : r.p = s.p := by
  unfold Rl.key at h
  exact ByteArray.ext (Array.toList_inj.1 h)
theorem lt_of_up {a b : List UInt8} (h : ¬ b < a) (n : a ≠ b) : a < b := by
  by_cases q : a < b
  · exact q
  · exact absurd (List.le_antisymm (List.not_lt.1 h) (List.not_lt.1 q)) n
theorem keyLt_yes {a b : ByteArray} (h : a.data.toList < b.data.toList) : keyLt a b = true := by
  unfold keyLt
  rw [decide_eq_true_eq, keyLt_iff]
  exact h
theorem sorted_up : ∀ {l : List Rl}, UpL Rl.key l → (l.map (·.p)).Nodup → sortedB (l.map (·.p)) = true
  | [], _, _ => rfl
  | [_], _, _ => rfl
  | a :: b :: t, h, n => by
    have h1 := List.pairwise_cons.1 h
    have n1 := List.nodup_cons.1 n
    show (keyLt a.p b.p && sortedB ((b :: t).map (·.p))) = true
    rw [sorted_up h1.2 n1.2, Bool.and_true]
    refine keyLt_yes (lt_of_up (h1.1 b (by simp)) fun e => ?_)
    have := key_inj (r := a) (s := b) e
    exact n1.1 (List.mem_map.2 ⟨b, by simp, this.symm⟩)
theorem up_sorted : ∀ {l : List ByteArray}, sortedB l = true → l.Pairwise fun a b => a.data.toList < b.data.toList
  | [], _ => List.Pairwise.nil
  | [_], _ => by simp
  | a :: b :: t, h => by
    have h2 : keyLt a b = true ∧ sortedB (b :: t) = true := by simpa [sortedB] using h
    have ih := up_sorted h2.2
    have hab : a.data.toList < b.data.toList := by have := h2.1; unfold keyLt at this; rw [decide_eq_true_eq, keyLt_iff] at this; exact this
    refine List.pairwise_cons.2 ⟨fun x hx => ?_, ih⟩
    rcases List.mem_cons.1 hx with rfl | hx
    · exact hab
    · exact List.lt_trans hab ((List.pairwise_cons.1 ih).1 x hx)
theorem sorted_nodup {l : List ByteArray} (h : sortedB l = true) : l.Nodup := by
  refine (up_sorted h).imp fun {a b} q e => ?_
  subst e
  exact List.lt_irrefl _ q
theorem restL_cons (r : Rl) (t : List Rl) : restL (r :: t) = if r.p = ⟨#[]⟩ then (if sortedB ((r :: t).map (·.p)) = true then 0 else 28) else 31 := rfl
/-- the first one of all that are in order is the one for all -/
theorem first_dft {l : List Rl} (h : UpL Rl.key l) (hd : (⟨#[]⟩ : ByteArray) ∈ l.map (·.p)) : ∃ r t, l = r :: t ∧ r.p = ⟨#[]⟩ := by
  cases l with
  | nil => simp at hd
  | cons r t =>
    refine ⟨r, t, rfl, ?_⟩
    by_cases q : r.p = ⟨#[]⟩
    · exact q
    · exfalso
      obtain ⟨x, hx, hp⟩ := List.mem_map.1 hd
      rcases List.mem_cons.1 hx with rfl | hx
      · exact q hp
      · have := (List.pairwise_cons.1 h).1 x hx
        apply this
        have e : x.key = [] := by unfold Rl.key; rw [show x.p = ⟨#[]⟩ from hp]
        rw [e]
        cases hk : r.key with
        | nil => exact absurd (ByteArray.ext (Array.toList_inj.1 (by unfold Rl.key at hk; rw [hk]))) q
        | cons a b => exact List.nil_lt_cons a b
theorem PolOk.cfg {most : Int} {rs : List Rl} (h : PolOk most rs) : cfgErr most rs = 0 := by
  have h0 := h.m0
  have h1 := h.m1
  have h2 := h.len
  have ho := h.ord
  rw [cfgErr_rest (by omega) (by omega) h.err]
  unfold cfgRest
  obtain ⟨r, t, e, hr⟩ := first_dft (ordL_up rs) ho.dft
  have hs := sorted_up (ordL_up rs) ho.nd
  rw [e] at hs ⊢
  rw [restL_cons, if_pos hr, if_pos hs]
theorem PolOk.of {most : Int} {rs : List Rl} (h : cfgErr most rs = 0) (ho : ∀ r ∈ rs, RlOk r) : PolOk most rs := by
  obtain ⟨z1, z2, z3⟩ := cfg_zero h
  have he := cfgErr_rules h
  have p := (ordL_perm (key := Rl.key) rs).map (·.p)
  rw [cfgErr_rest (by omega) (by omega) he] at h
  unfold cfgRest at h
  cases q : ordL Rl.key rs with
  | nil => rw [q] at h; simp [restL] at h
  | cons r t =>
    rw [q] at h p
    rw [restL_cons] at h
    split at h
    · rename_i hr
      split at h
      · rename_i hs
        exact ⟨z1, z2, ho, he, p.nodup_iff.1 (sorted_nodup hs), z3, p.mem_iff.1 (by rw [List.map_cons, hr]; simp)⟩
      · omega
    · omega
/-- what is without a rule for all -/
theorem cfg_no_dft {most : Int} {rs : List Rl} (h0 : 1 ≤ most) (h1 : most ≤ 1000000) (he : ∀ r ∈ rs, rErr r = 0) (hl : rs.length ≤ 1000) (hd : (⟨#[]⟩ : ByteArray) ∉ rs.map (·.p)) : cfgErr most rs = 31 := by
  rw [cfgErr_rest (by omega) (by omega) he]
  unfold cfgRest
  cases q : ordL Rl.key rs with
  | nil => rfl
  | cons r t =>
    rw [restL_cons, if_neg]
    intro e
    have p := (ordL_perm (key := Rl.key) rs).map (·.p)
    exact hd (p.mem_iff.1 (by rw [q, List.map_cons, e]; simp))
/-! ## policies of choices -/
theorem numsR_err {w : World} {d : Nms} (h : NmsOk w d) : rErr (numsR d) = 0 := by
  have hk := (keyText_ok d.pre).1
  have hp : prefOk (keyText d.pre) = true := by unfold prefOk; rw [hk]; simp
  have h1 := h.e0; have h2 := h.e1; have h3 := h.b0; have h4 := h.b1; have h5 := h.k0; have h6 := h.k1
  have hm : ∀ x y : Int, 0 ≤ x → x ≤ 4294967296 → 0 ≤ y → y ≤ 65536 → x * y ≤ 4611686018427387904 := fun x y q1 q2 q3 q4 => by
    have : x * y ≤ 4294967296 * 65536 := Int.mul_le_mul q2 q4 q3 (by omega)
    omega
  have hr : rightKind (1 + d.kind % 3) = true := by unfold rightKind; simp; omega
  unfold rErr numsR nmR
  split
  · exact ruleErr_yes hp (by show 0 < 1 + d.every % 50; omega) (by show 0 < 1 + d.burst % 9; omega) (capOk_yes (hm (1 + d.every % 50) (1 + d.burst % 9) (by omega) (by omega) (by omega) (by omega))) hr
  · exact ruleErr_yes hp (by show 0 < 1 + d.every; omega) (by show 0 < 1 + d.burst; omega) (capOk_yes (hm (1 + d.every) (1 + d.burst) (by omega) (by omega) (by omega) (by omega))) hr
theorem polR0_err {n : Int} (h : 0 ≤ n) : rErr (polR0 n) = 0 := ruleErr_yes (show prefOk ⟨#[]⟩ = true by decide) (by show (0 : Int) < 1000; decide) (by show (0 : Int) < 5; decide) (capOk_yes (by show (1000 : Int) * 5 ≤ _; decide)) (by show rightKind (1 + n % 3) = true; unfold rightKind; simp; omega)
theorem polNew_iff {rs : List Rl} {p : ByteArray} : polNew rs p = true ↔ p ∉ rs.map (·.p) := by
  unfold polNew
  simp
theorem polTo_all {n : Int} (hn : 0 ≤ n) {w : World} (l : List Nms) (hl : ∀ d ∈ l, NmsOk w d) : (∀ r ∈ polTo n l, rErr r = 0) ∧ ((polTo n l).map (·.p)).Nodup ∧ ∃ t, polTo n l = polR0 n :: t := by
  induction l using list_snoc with
  | h0 => exact ⟨fun r hr => by obtain rfl := List.mem_singleton.1 hr; exact polR0_err hn, by simp [polTo], [], rfl⟩
  | h1 l d ih =>
    obtain ⟨i1, i2, t, i3⟩ := ih fun x hx => hl x (List.mem_append_left _ hx)
    rw [polTo_snoc]
    unfold polAdd
    split
    · rename_i q
      rw [polNew_iff] at q
      refine ⟨fun r hr => ?_, ?_, t ++ [numsR d], by rw [i3]; rfl⟩
      · rcases List.mem_append.1 hr with hr | hr
        · exact i1 r hr
        · rw [List.mem_singleton.1 hr]; exact numsR_err (hl d (by simp))
      · rw [List.map_append, List.nodup_append]
        refine ⟨i2, by simp, fun a ha b hb e => ?_⟩
        rw [List.map_singleton, List.mem_singleton] at hb
        exact q (by rw [← hb, ← e]; exact ha)
    · exact ⟨i1, i2, t, i3⟩
theorem polRs_ok {n : Int} (hn : 0 ≤ n) {w : World} (l : List Nms) (hl : ∀ d ∈ l, NmsOk w d) : PolOk (1 + n % 50) (polRs n l) ∧ (polRs n l).length ≤ 13 ∧ ∃ t, polRs n l = polR0 n :: t := by
  have hl2 : ∀ d ∈ l.take 12, NmsOk w d := fun d hd => hl d (List.mem_of_mem_take hd)
  obtain ⟨a1, a2, t, a3⟩ := polTo_all hn (l.take 12) hl2
  have hlen := polTo_len n (l.take 12)
  have h12 : (l.take 12).length ≤ 12 := by rw [List.length_take]; omega
  refine ⟨⟨by omega, by omega, polTo_ok hn _ hl2, a1, a2, by unfold polRs; omega, ?_⟩, by unfold polRs; omega, t, a3⟩
  unfold polRs
  rw [a3]
  simp [polR0]
end Go.Proofs.Ytknlojlcahgnoaa

/- Plain: what lacks of a text of rules. -/
namespace Go.Proofs.Ytknlojlcahgnoaa
open Go.RowKit
set_option linter.unusedVariables false
set_option linter.unusedSimpArgs false

/-- behind the first end of a line; 0: there is none -/
def endOf : List UInt8 → Nat
  | [] => 0
  | b :: r => if b = 10 then 1 else if endOf r = 0 then 0 else endOf r + 1
theorem endOf_snoc : ∀ (l : List UInt8) (b : UInt8), endOf (l ++ [b]) = if endOf l = 0 then (if b = 10 then l.length + 1 else 0) else endOf l
  | [], b => by simp [endOf]
  | a :: r, b => by
    have ih := endOf_snoc r b
    simp only [List.cons_append, endOf, ih]
    by_cases h1 : a = 10
    · simp [h1]
    · by_cases h2 : endOf r = 0
      · by_cases h3 : b = 10
        · simp [h1, h2, h3]
        · simp [h1, h2, h3]
      · simp [h1, h2]
theorem endOf_app : ∀ (l r : List UInt8), 10 ∉ l → endOf (l ++ 10 :: r) = l.length + 1
  | [], r, _ => by simp [endOf]
  | a :: l, r, h => by
    have ih := endOf_app l r fun q => h (by simp [q])
    have h1 : a ≠ 10 := fun q => h (by simp [q])
    simp [endOf, ih, h1]
theorem no_end {l : List ByteArray} (h : ∀ s ∈ l, Vis s) : (10 : UInt8) ∉ joinL l := by
  have key : ∀ (ws : List ByteArray), (∀ s ∈ ws, Vis s) → ∀ b ∈ joinL ws, b ≠ 10 := by
    intro ws
    induction ws with
    | nil => intro _ b hb; simp [joinL, Lib.join, List.intercalate] at hb
    | cons s r ih =>
      intro h b hb
      have hv : ∀ b ∈ s.data.toList, b ≠ 10 := fun b hb e => by
        have := (h s (by simp)).2 b hb
        rw [e] at this
        revert this
        decide
      cases r with
      | nil => rw [joinL_one] at hb; exact hv b hb
      | cons t r =>
        rw [joinL_more] at hb
        rcases List.mem_append.1 hb with hb | hb
        · exact hv b hb
        · rcases List.mem_cons.1 hb with rfl | hb
          · decide
          · exact ih (fun x hx => h x (by simp only [List.mem_cons] at hx ⊢; exact Or.inr hx)) b hb
  exact fun hb => key l h _ hb rfl
theorem prText_eq (most : Int) (rs : List Rl) : prText most rs = (joinL [wSize, digStr most] ++ [10]) ++ joinText ((ordL Rl.key rs).map plW) := by simp [prText, prLines, joinText]
theorem pr_end {most : Int} {rs : List Rl} (h0 : 0 ≤ most) (h1 : most < 18446744073709551616) : endOf (prText most rs) = (joinL [wSize, digStr most]).length + 1 := by
  rw [prText_eq, List.append_assoc]
  exact endOf_app _ _ (no_end (size_ok h0 h1).2.1)
theorem pr_take {most : Int} {rs : List Rl} (h0 : 0 ≤ most) (h1 : most < 18446744073709551616) : (prText most rs).take (endOf (prText most rs)) = joinText [[wSize, digStr most]] ∧ (prText most rs).drop (endOf (prText most rs)) = joinText ((ordL Rl.key rs).map plW) := by
  rw [pr_end h0 h1, prText_eq]
  have e : (joinL [wSize, digStr most]).length + 1 = (joinL [wSize, digStr most] ++ [10]).length := by simp
  rw [e, List.take_left, List.drop_left]
  exact ⟨by simp [joinText], rfl⟩
theorem lacks_size {most : Int} {rs : List Rl} (h : PolOk most rs) : cfgParse (joinText (rs.map plW)) = ⟨30, 0, 0, 0, []⟩ := by
  have h0 := h.m0
  have h1 := h.m1
  have hsm := lines_small most (by omega) (by omega) rs h.ok h.err
  have hl := h.len
  have e : joinText ([wSize, digStr most] :: rs.map plW) = (joinL [wSize, digStr most] ++ [10]) ++ joinText (rs.map plW) := by simp [joinText]
  rw [e, List.length_append] at hsm
  obtain ⟨s1, s2⟩ := split_lns (ls := rs.map plW) (fun l hl => h.lines l (List.mem_cons_of_mem _ hl)) (by omega)
  unfold cfgParse
  rw [s1, s2, show cfg0 = ⟨0, []⟩ from rfl, cfg_lns rs 0 [] 1 h.err h.ok (by simpa using h.nd) (by simpa using hl)]
  simp only [ne_eq, not_true_eq_false, if_false, List.nil_append]
  unfold endErr
  simp [cfgBad]
theorem lacks_dft {most : Int} (h0 : 1 ≤ most) (h1 : most ≤ 1000000) : cfgParse (joinText [[wSize, digStr most]]) = ⟨31, 0, 0, 0, []⟩ := by
  have hsm := lines_small most (by omega) (by omega) [] (by simp) (by simp)
  simp only [List.map_nil, List.length_nil] at hsm
  obtain ⟨s1, s2⟩ := split_lns (ls := [[wSize, digStr most]]) (fun l hl => by rw [List.mem_singleton.1 hl]; exact size_ok (by omega) (by omega)) (by omega)
  obtain ⟨q1, q2⟩ := ln_size h0 h1 1 []
  have e : cfgLines cfg0 (lnsFrom 1 [[wSize, digStr most]]) = .inr ⟨most, []⟩ := by
    show (if (lnErr ⟨0, []⟩ (wdsFrom 1 1 [wSize, digStr most])).1 ≠ 0 then _ else cfgLines (lnPut ⟨0, []⟩ (wdsFrom 1 1 [wSize, digStr most])) []) = _
    rw [q1, q2, if_neg (by decide)]
    rfl
  unfold cfgParse
  rw [s1, s2, e]
  have hm : most ≠ 0 := by omega
  simp [endErr, hm, hasPre, cfgBad]
theorem lacks_all : cfgParse [] = ⟨30, 0, 0, 0, []⟩ := by kernel_rfl
end Go.Proofs.Ytknlojlcahgnoaa

/- Walk: tollerlaw12.known. -/
namespace Go.Proofs.Ytknlojlcahgnoaa
open Go.RowKit
set_option linter.unusedVariables false
set_option linter.unusedSimpArgs false

def k12_t : List UInt8 := [115, 105, 122, 101, 32, 50, 10, 100, 101, 102, 97, 117, 108, 116, 32, 49, 48, 32, 53, 32, 103, 99, 114, 97, 10]
def k12_u : List UInt8 := [115, 105, 122, 101, 32, 48]
def k12_r : Rl := ⟨⟨#[]⟩, 10, 5, 1⟩
theorem k12_ok : PolOk 2 [k12_r] := ⟨by decide, by decide, by
  intro r hr
  rw [List.mem_singleton.1 hr]
  exact ⟨show (⟨#[]⟩ : ByteArray).size ≤ maxLen by decide, by decide, by decide, by decide, by decide, by decide, by decide⟩, by
  intro r hr
  rw [List.mem_singleton.1 hr]
  decide, by simp, by simp, by simp [k12_r]⟩
theorem k12_pt : prText 2 [k12_r] = k12_t := by
  have e : ordL Rl.key [k12_r] = [k12_r] := by unfold ordL; rw [List.mergeSort_singleton]
  unfold prText prLines
  rw [e]
  show joinText ([wSize, digStr 2] :: [k12_r].map plW) = k12_t
  kernel_rfl
theorem k12_parse : cfgParse k12_t = ⟨0, 0, 0, 2, [k12_r]⟩ := by
  rw [← k12_pt, parse_print k12_ok]
  unfold ordL
  rw [List.mergeSort_singleton]
theorem k12_err : cfgErr 2 [k12_r] = 0 := k12_ok.cfg
theorem k12_zero : cfgParse k12_u = ⟨29, 1, 6, 0, []⟩ := by kernel_rfl

theorem bytes_lit (w : World) (C : Array Value) (r : Nat × Nat) (l : List UInt8) (hC : C = (l.map fun b => Value.int .u8 (b.toNat : Int)).toArray) (hl : l.length ≤ maxLen) {c n : Nat} (hn : n = l.length) : ByteSlice (w.alloc (.cells C 5 r)) (.slice (some ⟨w.heap.size, 0, none⟩) n c) l := by
  subst hn
  refine ⟨⟨_, _, rfl, fun _ => ⟨w.heap.size, 0, rfl, fun j hj => ?_⟩⟩, hl⟩
  subst hC
  rw [Nat.zero_add]
  unfold World.cell?
  dsimp only
  rw [heap_alloc_new]
  simp [hj]
theorem ParseIs.open {w w' : World} {l : List UInt8} {x : Ending} (h : ParseIs w l x w') {r : CfgRes} (e : cfgParse l = r) :
    ∃ v, x = .returned (.tuple #[.agg #[.int .i64 r.most, v], .int .u16 r.e, .agg #[.int .i64 r.ln, .int .i64 r.cl]]) ∧ RuleOwn w.heap.size w' v r.rs ∧ Ext w w' := by
  subst e
  exact h
set_option maxHeartbeats 2000000 in
set_option maxRecDepth 100000 in
theorem law12_known (w : World) :
    Calls Try.prog 11 #[] w fun x w' => x = .returned (.bool true) ∧ Ext w w' := by
  have kc : ∀ (w : World) (C : Array Value) (n c b : Nat), b = w.heap.size → (convert 24 24 (.slice (some ⟨b, 0, none⟩) n c)).run Try.prog (w.alloc (.cells C 5)) = .ok (.slice (some ⟨b, 0, none⟩) n c) (w.alloc (.cells C 5 (C.size, C.size + 1))) := fun w C n c b h => by
    subst h
    exact Lib.run_convert_bytes_const (P := Try.prog) w 24 5 C n c Try.underlying24 Try.underlying5
  go_enter Try.func11, Try.ntmps11
  go_wp2_with fail
  refine (config_Parse _ k12_t _ (bytes_lit w _ _ k12_t rfl (by decide) rfl) (fun a n c h => by cases h; exact Nat.le_refl _)).mono ?_
  intro x w1 h1
  obtain ⟨v1, rfl, ho1, hx1⟩ := h1.open k12_parse
  have hat := RuleOwn.at ho1
  obtain ⟨b1, o1, c1, rfl, hb1, hc1⟩ := RulesAt.cells0 hat
  have HX1 := Lib.hid (((Ext.refl w).alloc _).trans hx1)
  have HAT := Lib.hid hat
  clear h1 ho1 hx1 hat
  go_wp2_with fail
  have bP := (Blk.new w1 #[.int .i64 2, .slice (some ⟨b1, o1, none⟩) 1 c1] 27).alloc (.cells #[.int .i64 0, .int .i64 0] 37)
  have bA := Blk.new' (w1.alloc (.cells #[.int .i64 2, .slice (some ⟨b1, o1, none⟩) 1 c1] 27)) #[.int .i64 0, .int .i64 0] 37 (b := w1.heap.size + 1) (by simp)
  have hxa : Ext w1 ((w1.alloc (.cells #[.int .i64 2, .slice (some ⟨b1, o1, none⟩) 1 c1] 27)).alloc (.cells #[.int .i64 0, .int .i64 0] 37)) := ((Ext.refl w1).alloc _).alloc _
  have hsa : w1.heap.size + 1 + 1 = ((w1.alloc (.cells #[.int .i64 2, .slice (some ⟨b1, o1, none⟩) 1 c1] 27)).alloc (.cells #[.int .i64 0, .int .i64 0] 37)).heap.size := by simp
  generalize (w1.alloc (.cells #[.int .i64 2, .slice (some ⟨b1, o1, none⟩) 1 c1] 27)).alloc (.cells #[.int .i64 0, .int .i64 0] 37) = wa at *
  rw [hsa]
  refine (config_Parse _ k12_u _ (bytes_lit wa _ _ k12_u rfl (by decide) rfl) (fun a n c h => by cases h; exact Nat.le_refl _)).mono ?_
  intro x w2 h2
  obtain ⟨v2, rfl, ho2, hx2⟩ := h2.open k12_zero
  obtain ⟨a2, e2, rfl⟩ := (RuleOwn.at ho2).size
  clear ho2
  have hx2 : Ext wa w2 := ((Ext.refl wa).alloc _).trans hx2
  have HBP := Lib.hid (bP.ext hx2)
  have HBA := Lib.hid (bA.ext hx2)
  have HX2 := Lib.hid (HX1.out.trans (hxa.trans hx2))
  have HAT2 := Lib.hid (HAT.out.ext Rl.size4 (hxa.trans hx2))
  clear h2 hx2 hxa hsa bP bA hc1 HAT HX1
  have c0 : w2.cell? ⟨w1.heap.size, 0, none⟩ = some (.int .i64 2) := HBP.out.cell 0
  have c1' : w2.cell? ⟨w1.heap.size, 1, none⟩ = some (.slice (some ⟨b1, o1, none⟩) 1 c1) := HBP.out.cell 1
  have c2 : w2.cell? ⟨w1.heap.size + 1, 0, none⟩ = some (.int .i64 0) := HBA.out.cell 0
  have c3 : w2.cell? ⟨w1.heap.size + 1, 1, none⟩ = some (.int .i64 0) := HBA.out.cell 1
  have lP := HBP.out.lt
  have lA := HBA.out.lt
  have nP : w1.heap.size ≠ w2.heap.size := by omega
  have nP2 : w1.heap.size ≠ w2.heap.size + 1 := by omega
  have HRI := Lib.hid (fun V h => config_Right 2 (.slice (some ⟨b1, o1, none⟩) 1 c1) [k12_r] V (by decide) (by decide) h k12_ok.ok (by decide))
  rw [k12_err] at HRI
  go_wp2_with (first
    | (go_at_call 15; refine (HRI.out _ (HAT2.out.ext Rl.size4 (((Ext.refl w2).alloc _).alloc _))).mono ?_; rintro x w3 ⟨rfl, hx3⟩)
    | fail)
  go_ret
  exact ⟨rfl, HX2.out.trans ((((Ext.refl w2).alloc _).alloc _).trans hx3)⟩
end Go.Proofs.Ytknlojlcahgnoaa

/- Plain: a line that is there twice. -/
namespace Go.Proofs.Ytknlojlcahgnoaa
open Go.RowKit
set_option linter.unusedVariables false
set_option linter.unusedSimpArgs false

theorem lns_app : ∀ (a b : List (List ByteArray)) (n : Nat), lnsFrom n (a ++ b) = lnsFrom n a ++ lnsFrom (n + a.length) b
  | [], b, n => rfl
  | x :: a, b, n => by
    have := lns_app a b (n + 1)
    rw [show n + 1 + a.length = n + (a.length + 1) by omega] at this
    show wdsFrom n 1 x :: lnsFrom (n + 1) (a ++ b) = _
    rw [this]
    rfl
theorem joinText_app (a b : List (List ByteArray)) : joinText (a ++ b) = joinText a ++ joinText b := by simp [joinText]
theorem joinText_one (l : List ByteArray) : joinText [l] = joinL l ++ [10] := by simp [joinText]
theorem prLines_eq (most : Int) (rs : List Rl) : prLines most rs = [wSize, digStr most] :: (ordL Rl.key rs).map plW := rfl
theorem cfg_one (s : CfgSt) (ws : List Wd) (h : (lnErr s ws).1 ≠ 0) : cfgLines s [ws] = .inl ((lnErr s ws).1, (wdAt ws (lnErr s ws).2).line, (wdAt ws (lnErr s ws).2).col) := by
  show (if (lnErr s ws).1 ≠ 0 then _ else _) = _
  rw [if_pos h]
/-- one more line behind those that are printed -/
theorem parse_bad {most : Int} {rs : List Rl} (h : PolOk most rs) {l : List ByteArray} (hl : LineOk l) (hs : (joinL l).length ≤ 100000) {e : Int} {i : Nat} (he : lnErr ⟨most, ordL Rl.key rs⟩ (wdsFrom (1 + (prLines most rs).length) 1 l) = (e, i)) (h0 : e ≠ 0) :
    cfgParse (prText most rs ++ (joinL l ++ [10])) = ⟨e, (wdAt (wdsFrom (1 + (prLines most rs).length) 1 l) i).line, (wdAt (wdsFrom (1 + (prLines most rs).length) 1 l) i).col, 0, []⟩ := by
  have ho := h.ord
  have m0 := h.m0
  have m1 := h.m1
  have hsm := lines_small most (by omega) (by omega) _ ho.ok ho.err
  have hln := ho.len
  have e1 : prText most rs ++ (joinL l ++ [10]) = joinText (prLines most rs ++ [l]) := by rw [joinText_app, joinText_one]; rfl
  have e2 : (joinText (prLines most rs ++ [l])).length = (joinText ([wSize, digStr most] :: (ordL Rl.key rs).map plW)).length + ((joinL l).length + 1) := by rw [joinText_app, joinText_one, List.length_append, List.length_append]; rfl
  obtain ⟨s1, s2⟩ := split_lns (ls := prLines most rs ++ [l]) (fun x hx => by
    rcases List.mem_append.1 hx with hx | hx
    · exact ho.lines x hx
    · rw [List.mem_singleton.1 hx]; exact hl) (by omega)
  have e3 : cfgLines cfg0 (lnsFrom 1 (prLines most rs ++ [l])) = .inl (e, (wdAt (wdsFrom (1 + (prLines most rs).length) 1 l) i).line, (wdAt (wdsFrom (1 + (prLines most rs).length) 1 l) i).col) := by
    rw [lns_app, cfgLines_app, show cfgLines cfg0 (lnsFrom 1 (prLines most rs)) = .inr ⟨most, ordL Rl.key rs⟩ from cfg_all ho]
    have := cfg_one ⟨most, ordL Rl.key rs⟩ (wdsFrom (1 + (prLines most rs).length) 1 l) (by rw [he]; exact h0)
    rw [he] at this
    exact this
  rw [e1]
  unfold cfgParse
  rw [s1, s2, e3]
  rfl
theorem twice {most : Int} {rs : List Rl} (h : PolOk most rs) (i : Nat) (hi : i < (prLines most rs).length) :
    cfgParse (prText most rs ++ (joinL (prLines most rs)[i] ++ [10])) = ⟨28, (prLines most rs).length + 1, if 1 < i then 6 else 1, 0, []⟩ := by
  have ho := h.ord
  have m0 := h.m0
  have m1 := h.m1
  have hsm := lines_small most (by omega) (by omega) _ ho.ok ho.err
  have hln := ho.len
  cases i with
  | zero =>
    have e : (prLines most rs)[0] = [wSize, digStr most] := rfl
    have hj := joinL_len [wSize, digStr most]
    have hd := (dig_back most (by omega) (by omega)).2.2.1
    have d1 : wSize.size = 4 := by decide
    simp only [List.map_cons, List.map_nil, List.sum_cons, List.sum_nil, List.length_cons, List.length_nil] at hj
    rw [e, parse_bad h (e := 28) (i := 0) (size_ok (by omega) (by omega)) (by omega) ?_ (by decide)]
    · rw [line_from _ _ _ _ (by simp)]
      simp
      exact ⟨by omega, rfl⟩
    · unfold lnErr
      rw [if_pos (show (wdAt (wdsFrom (1 + (prLines most rs).length) 1 [wSize, digStr most]) 0).t = wSize from rfl)]
      unfold szErr
      rw [if_neg (by simp [wdsFrom]), if_pos (by show most ≠ 0; omega)]
  | succ j =>
    have hj : j < (ordL Rl.key rs).length := by rw [prLines_eq] at hi; simpa using hi
    have e : (prLines most rs)[j + 1] = plW ((ordL Rl.key rs)[j]) := by simp [prLines]
    have hm := List.getElem_mem hj
    have hpl := plW_len (ho.ok _ hm) (ho.err _ hm)
    obtain ⟨q1, -⟩ := ln_rule (ho.err _ hm) (ho.ok _ hm) most (1 + (prLines most rs).length) (ordL Rl.key rs)
    rw [if_pos (has_pre_iff.2 (List.mem_map_of_mem hm))] at q1
    rw [e, parse_bad h (plW_ok (ho.err _ hm) (ho.ok _ hm)) (by omega) q1 (by decide)]
    obtain ⟨r, t, ht, hp⟩ := first_dft (ordL_up rs) ho.dft
    by_cases hz : j = 0
    · subst hz
      have e0 : (ordL Rl.key rs)[0] = r := by simp [ht]
      rw [e0, if_pos hp, plW_def (by have := ho.err _ hm; rwa [e0] at this) hp, line_from _ _ _ _ (by simp)]
      simp
      exact ⟨by omega, rfl⟩
    · have hne : ((ordL Rl.key rs)[j]).p ≠ ⟨#[]⟩ := by
        intro q
        have hn := ho.nd
        have h2 : (((ordL Rl.key rs).map (·.p))[0]'(by rw [List.length_map]; omega)) = ((ordL Rl.key rs).map (·.p))[j]'(by rw [List.length_map]; omega) := by
          simp only [List.getElem_map]
          rw [q]
          simp [ht, hp]
        exact hz ((List.getElem_inj hn).1 h2).symm
      rw [if_neg hne, plW_rule (ho.err _ hm) hne, line_from _ _ _ _ (by simp)]
      rw [if_pos (by omega)]
      have : ((1 + (prLines most rs).length : Nat) : Int) = (prLines most rs).length + 1 := by omega
      rw [this]
      rfl
end Go.Proofs.Ytknlojlcahgnoaa

/- Plain: the rows of a text: each ends with the end of a line. -/
namespace Go.Proofs.Ytknlojlcahgnoaa
open Go.RowKit
set_option linter.unusedVariables false
set_option linter.unusedSimpArgs false

def rowStep (s : List (List UInt8) × List UInt8) (b : UInt8) : List (List UInt8) × List UInt8 := if b = 10 then (s.1 ++ [s.2 ++ [b]], []) else (s.1, s.2 ++ [b])
def rowRun (s : List (List UInt8) × List UInt8) (l : List UInt8) : List (List UInt8) × List UInt8 := l.foldl rowStep s
def rowsTo (l : List UInt8) : List (List UInt8) × List UInt8 := rowRun ([], []) l
theorem rowRun_app (s : List (List UInt8) × List UInt8) (a b : List UInt8) : rowRun s (a ++ b) = rowRun (rowRun s a) b := by unfold rowRun; rw [List.foldl_append]
theorem rowsTo_snoc (l : List UInt8) (b : UInt8) : rowsTo (l ++ [b]) = rowStep (rowsTo l) b := by unfold rowsTo; rw [rowRun_app]; rfl
theorem rowsTo_all (l : List UInt8) : (rowsTo l).1.flatten ++ (rowsTo l).2 = l := by
  induction l using list_snoc' with
  | h0 => rfl
  | h1 l b ih =>
    rw [rowsTo_snoc]
    unfold rowStep
    split
    · simp only [List.flatten_append, List.flatten_cons, List.flatten_nil, List.append_nil]
      rw [← List.append_assoc, ih]
    · show (rowsTo l).1.flatten ++ ((rowsTo l).2 ++ [b]) = _
      rw [← List.append_assoc, ih]
theorem rowsTo_len (l : List UInt8) : (rowsTo l).1.length ≤ l.length ∧ (rowsTo l).2.length ≤ l.length := by
  constructor
  · induction l using list_snoc' with
    | h0 => exact Nat.le_refl _
    | h1 l b ih =>
      rw [rowsTo_snoc, List.length_append]
      unfold rowStep
      split <;> simp <;> omega
  · have := congrArg List.length (rowsTo_all l)
    rw [List.length_append] at this
    omega
/-- the window of a row that ends at k -/
theorem row_win (t : List UInt8) (k : Nat) (hk : k < t.length) : (t.drop (k - (rowsTo (t.take k)).2.length)).take ((rowsTo (t.take k)).2.length + 1) = (rowsTo (t.take k)).2 ++ [t[k]] := by
  have h := rowsTo_all (t.take k)
  have hl := (rowsTo_len (t.take k)).2
  rw [List.length_take, Nat.min_eq_left (by omega)] at hl
  generalize (rowsTo (t.take k)).1.flatten = A at *
  generalize (rowsTo (t.take k)).2 = c at *
  have hA : A.length = k - c.length := by
    have := congrArg List.length h
    rw [List.length_append, List.length_take, Nat.min_eq_left (by omega)] at this
    omega
  have e : t = A ++ (c ++ t[k] :: t.drop (k + 1)) := by
    rw [← List.append_assoc, h]
    conv => lhs; rw [← List.take_append_drop k t]
    rw [List.drop_eq_getElem_cons hk]
  have e2 : t.drop (k - c.length) = c ++ t[k] :: t.drop (k + 1) := by
    conv => lhs; rw [e]
    rw [← hA, List.drop_left]
  rw [e2, show c ++ t[k] :: t.drop (k + 1) = (c ++ [t[k]]) ++ t.drop (k + 1) by simp]
  rw [show c.length + 1 = (c ++ [t[k]]).length by simp, List.take_left]
theorem row_free : ∀ (l : List UInt8) (s : List (List UInt8) × List UInt8), 10 ∉ l → rowRun s l = (s.1, s.2 ++ l)
  | [], s, _ => by simp [rowRun]
  | b :: l, s, h => by
    have h1 : b ≠ 10 := fun q => h (by simp [q])
    show rowRun (rowStep s b) l = _
    rw [row_free l _ fun q => h (by simp [q])]
    unfold rowStep
    rw [if_neg h1]
    simp
theorem rows_text : ∀ (ls : List (List ByteArray)) (rows : List (List UInt8)), (∀ l ∈ ls, LineOk l) → rowRun (rows, []) (joinText ls) = (rows ++ ls.map (fun l => joinL l ++ [10]), [])
  | [], rows, _ => by simp [joinText, rowRun]
  | l :: r, rows, h => by
    have e : joinText (l :: r) = joinL l ++ ([10] ++ joinText r) := by simp [joinText]
    rw [e, rowRun_app, row_free _ _ (no_end (h l (by simp)).2.1), rowRun_app]
    show rowRun (rowStep (rows, [] ++ joinL l) 10) _ = _
    have e2 : rowStep (rows, [] ++ joinL l) 10 = (rows ++ [joinL l ++ [10]], []) := by unfold rowStep; rw [if_pos rfl]; simp
    rw [e2, rows_text r _ fun x hx => h x (by simp [hx])]
    simp
theorem rows_pr {most : Int} {rs : List Rl} (h : PolOk most rs) : rowsTo (prText most rs) = ((prLines most rs).map (fun l => joinL l ++ [10]), []) := by
  have := rows_text (prLines most rs) [] h.ord.lines
  rw [List.nil_append] at this
  exact this
end Go.Proofs.Ytknlojlcahgnoaa

/- Plain: a thousand rules, and one more. -/
namespace Go.Proofs.Ytknlojlcahgnoaa
open Go.RowKit
set_option linter.unusedVariables false
set_option linter.unusedSimpArgs false

/-- a text whose last line has no end -/
theorem split_open {ls : List (List ByteArray)} {l : List ByteArray} (h : ∀ x ∈ ls, LineOk x) (hl : LineOk l) (hs : (joinText ls ++ joinL l).length ≤ 1048576) :
    splitE (joinText ls ++ joinL l) = 0 ∧ splitL (joinText ls ++ joinL l) = lnsFrom 1 ls ++ [wdsFrom (1 + ls.length) 1 l] := by
  have e : spRun sp0 (joinText ls ++ joinL l) = spRun ⟨1 + ls.length, 1, [], [], lnsFrom 1 ls⟩ (joinL l) := by
    rw [spRun_app, show sp0 = ⟨1, 1, [], [], []⟩ from rfl, run_lns ls 1 [] h, List.nil_append]
  obtain ⟨k1, k2, k3⟩ := run_line (1 + ls.length) (lnsFrom 1 ls) l 1 [] hl.1 hl.2.1
  obtain ⟨s1, s2⟩ := split_run (l := joinText ls ++ joinL l) (fun b hb => by
    rcases List.mem_append.1 hb with hb | hb
    · exact fair_lns ls h b hb
    · exact fair_join l hl.2.1 b hb) hs e
  refine ⟨s1, ?_⟩
  rw [s2]
  unfold SpSt.lay layW
  rw [k1, k2, List.nil_append, says_from hl, if_pos rfl]
theorem parse_open {most : Int} {rs : List Rl} (h : PolOk most rs) {l : List ByteArray} (hl : LineOk l) (hs : (joinL l).length ≤ 100000) {e : Int} {i : Nat} (he : lnErr ⟨most, ordL Rl.key rs⟩ (wdsFrom (1 + (prLines most rs).length) 1 l) = (e, i)) (h0 : e ≠ 0) :
    cfgParse (prText most rs ++ joinL l) = ⟨e, (wdAt (wdsFrom (1 + (prLines most rs).length) 1 l) i).line, (wdAt (wdsFrom (1 + (prLines most rs).length) 1 l) i).col, 0, []⟩ := by
  have ho := h.ord
  have m0 := h.m0
  have m1 := h.m1
  have hsm := lines_small most (by omega) (by omega) _ ho.ok ho.err
  have hln := ho.len
  have e2 : (prText most rs).length = (joinText ([wSize, digStr most] :: (ordL Rl.key rs).map plW)).length := rfl
  obtain ⟨s1, s2⟩ := split_open (ls := prLines most rs) (l := l) ho.lines hl (by rw [List.length_append]; rw [show joinText (prLines most rs) = prText most rs from rfl]; omega)
  have e3 : cfgLines cfg0 (lnsFrom 1 (prLines most rs) ++ [wdsFrom (1 + (prLines most rs).length) 1 l]) = .inl (e, (wdAt (wdsFrom (1 + (prLines most rs).length) 1 l) i).line, (wdAt (wdsFrom (1 + (prLines most rs).length) 1 l) i).col) := by
    rw [cfgLines_app, show cfgLines cfg0 (lnsFrom 1 (prLines most rs)) = .inr ⟨most, ordL Rl.key rs⟩ from cfg_all ho]
    have := cfg_one ⟨most, ordL Rl.key rs⟩ (wdsFrom (1 + (prLines most rs).length) 1 l) (by rw [he]; exact h0)
    rw [he] at this
    exact this
  unfold cfgParse
  rw [show prText most rs = joinText (prLines most rs) from rfl, s1, s2, e3]
  rfl
/-! ## the thousand rules -/
def mkR (E K : Int) (k : Nat) : Rl := ⟨⟨#[107]⟩ ++ digStr k, E, 1, K⟩
def mostRs (E K : Int) (n : Nat) : List Rl := ⟨⟨#[]⟩, 1, 1, 1⟩ :: (List.range n).map (mkR E K)
theorem mkR_data (E K : Int) (k : Nat) : (mkR E K k).p.data.toList = 107 :: (digStr k).data.toList := by simp [mkR]
theorem mkR_size (E K : Int) (k : Nat) (hk : k < 1000000) : 2 ≤ (mkR E K k).p.size ∧ (mkR E K k).p.size ≤ 21 := by
  have h := (dig_back k (by omega) (by omega)).2.2
  have e := congrArg List.length (mkR_data E K k)
  rw [data_len, List.length_cons, data_len] at e
  omega
theorem mkR_key (E K : Int) (k : Nat) (hk : k < 1000000) : keyOk (mkR E K k).p = true := by
  obtain ⟨h1, h2⟩ := mkR_size E K k hk
  unfold keyOk
  have hb : noBad (mkR E K k).p.data.toList = true := by
    rw [mkR_data]
    obtain ⟨a1, -, -, -, -, -⟩ := pdig_spec (k : Int).toNat (by omega)
    unfold noBad
    rw [List.all_cons, digStr_data]
    have : (pdig (k : Int).toNat).all (fun b => !badB b.toNat) = true := by
      rw [List.all_eq_true]
      intro b hb
      have := List.all_eq_true.1 a1 b hb
      rw [isDig_iff] at this
      unfold badB
      simp
      omega
    rw [this]
    decide
  rw [hb]
  simp
  omega
theorem mkR_ne (E K : Int) {j k : Nat} (hj : j < 1000000) (hk : k < 1000000) (h : (mkR E K j).p = (mkR E K k).p) : j = k := by
  have e := congrArg (fun s : ByteArray => s.data.toList) h
  simp only [mkR_data, List.cons.injEq, true_and] at e
  have e2 : digStr (j : Int) = digStr (k : Int) := ByteArray.ext (Array.toList_inj.1 e)
  have h1 := (dig_back j (by omega) (by omega)).2.1
  have h2 := (dig_back k (by omega) (by omega)).2.1
  rw [e2, h2] at h1
  omega
theorem mostRs_snoc (E K : Int) (n : Nat) : mostRs E K (n + 1) = mostRs E K n ++ [mkR E K n] := by simp [mostRs, List.range_succ]
theorem mostRs_len (E K : Int) (n : Nat) : (mostRs E K n).length = n + 1 := by simp [mostRs]
theorem mostRs_ok {E K : Int} (h0 : 0 < E) (h1 : E ≤ 4294967296) (k0 : 1 ≤ K) (k1 : K ≤ 3) {n : Nat} (hn : n ≤ 1000) : (∀ r ∈ mostRs E K n, RlOk r ∧ rErr r = 0) ∧ ((mostRs E K n).map (·.p)).Nodup := by
  have hm : (128 : Nat) ≤ maxLen := by decide
  constructor
  · intro r hr
    rcases List.mem_cons.1 hr with rfl | hr
    · exact ⟨⟨show (⟨#[]⟩ : ByteArray).size ≤ maxLen by decide, by decide, by decide, by decide, by decide, by decide, by decide⟩, by decide⟩
    · obtain ⟨k, hk, rfl⟩ := List.mem_map.1 hr
      rw [List.mem_range] at hk
      obtain ⟨z1, z2⟩ := mkR_size E K k (by omega)
      refine ⟨⟨by omega, show 0 ≤ E by omega, show E < 18446744073709551616 by omega, show (0 : Int) ≤ 1 by decide, show (1 : Int) < 18446744073709551616 by decide, show 0 ≤ K by omega, show K < 256 by omega⟩, ?_⟩
      refine ruleErr_yes (by unfold prefOk; rw [mkR_key E K k (by omega)]; simp) h0 (show (0 : Int) < 1 by decide) (capOk_yes (show E * 1 ≤ _ by omega)) ?_
      show rightKind K = true
      unfold rightKind
      simp
      omega
  · unfold mostRs
    rw [List.map_cons, List.nodup_cons, List.map_map]
    constructor
    · intro q
      obtain ⟨k, hk, e⟩ := List.mem_map.1 q
      rw [List.mem_range] at hk
      have := mkR_size E K k (by omega)
      have e2 : (mkR E K k).p.size = 0 := by rw [show (mkR E K k).p = ⟨#[]⟩ from e]; rfl
      omega
    · rw [List.nodup_iff_pairwise_ne, List.pairwise_map]
      refine List.Pairwise.imp_of_mem ?_ (List.nodup_iff_pairwise_ne.1 List.nodup_range)
      intro a b ha hb ne q
      rw [List.mem_range] at ha hb
      exact ne (mkR_ne E K (by omega) (by omega) q)
theorem mostRs_pol {E K : Int} (h0 : 0 < E) (h1 : E ≤ 4294967296) (k0 : 1 ≤ K) (k1 : K ≤ 3) : PolOk 5 (mostRs E K 999) := by
  obtain ⟨a, b⟩ := mostRs_ok h0 h1 k0 k1 (n := 999) (by omega)
  exact ⟨by decide, by decide, fun r hr => (a r hr).1, fun r hr => (a r hr).2, b, by rw [mostRs_len]; omega, by simp [mostRs]⟩
def zRule : Rl := ⟨⟨#[122]⟩, 1, 1, 1⟩
theorem z_ok : RlOk zRule ∧ rErr zRule = 0 := ⟨⟨show (⟨#[122]⟩ : ByteArray).size ≤ maxLen by decide, by decide, by decide, by decide, by decide, by decide, by decide⟩, by decide⟩
theorem z_new (E K : Int) : hasPre (ordL Rl.key (mostRs E K 999)) zRule.p = false := by
  rw [Bool.eq_false_iff]
  intro q
  rw [has_pre_iff] at q
  have p := (ordL_perm (key := Rl.key) (mostRs E K 999)).map (·.p)
  have q := p.mem_iff.1 q
  unfold mostRs at q
  rw [List.map_cons, List.mem_cons, List.map_map] at q
  rcases q with q | q
  · revert q; decide
  · obtain ⟨k, hk, e⟩ := List.mem_map.1 q
    have e2 := congrArg (fun s : ByteArray => s.data.toList.head?) (show (mkR E K k).p = zRule.p from e)
    simp only [mkR_data, List.head?_cons] at e2
    revert e2
    decide
theorem most_more {E K : Int} (h0 : 0 < E) (h1 : E ≤ 4294967296) (k0 : 1 ≤ K) (k1 : K ≤ 3) : cfgParse (prText 5 (mostRs E K 999) ++ joinL (plW zRule)) = ⟨32, 1002, 1, 0, []⟩ := by
  have h := mostRs_pol h0 h1 k0 k1
  have hl : (prLines 5 (mostRs E K 999)).length = 1001 := by rw [prLines_eq, List.length_cons, List.length_map, ordL_len, mostRs_len]
  obtain ⟨q1, -⟩ := ln_rule z_ok.2 z_ok.1 5 (1 + (prLines 5 (mostRs E K 999)).length) (ordL Rl.key (mostRs E K 999))
  rw [z_new, if_neg (by decide), if_pos (by rw [ordL_len, mostRs_len]; omega)] at q1
  have hp := plW_len z_ok.1 z_ok.2
  rw [parse_open h (plW_ok z_ok.2 z_ok.1) (by omega) q1 (by decide), line_from _ _ _ _ (by rw [plW_rule z_ok.2 (by decide)]; simp), hl]
  rw [plW_rule z_ok.2 (by decide)]
  rfl
theorem most_cfg {E K : Int} : cfgErr 5 (mostRs E K 999 ++ [zRule]) = 32 := cfgErr_many (by omega) (by rw [List.length_append, mostRs_len]; simp)
theorem z_text : joinL (plW zRule) = [114, 117, 108, 101, 32, 122, 32, 49, 32, 49, 32, 103, 99, 114, 97] := by kernel_rfl
end Go.Proofs.Ytknlojlcahgnoaa

/- Plain: blanks, empty lines and what stands behind the sign count for nothing, nor does the order of lines. -/
namespace Go.Proofs.Ytknlojlcahgnoaa
open Go.RowKit
set_option linter.unusedVariables false
set_option linter.unusedSimpArgs false

/-- what may stand ahead of a line -/
def pieceB (k : Nat) : List UInt8 :=
  if k = 0 then [] else if k = 1 then [32] else if k = 2 then [9, 32] else if k = 3 then [10] else if k = 4 then [35, 32, 120, 10] else [32, 35, 115, 105, 122, 101, 32, 53, 10, 10]
theorem piece_run (k n : Nat) (out : List (List Wd)) : ∃ n' c', spRun ⟨n, 1, [], [], out⟩ (pieceB k) = ⟨n', c', [], [], out⟩ := by
  unfold pieceB
  split
  · exact ⟨_, _, rfl⟩
  split
  · exact ⟨_, _, rfl⟩
  split
  · exact ⟨_, _, rfl⟩
  split
  · exact ⟨_, _, rfl⟩
  split
  · exact ⟨_, _, rfl⟩
  · exact ⟨_, _, rfl⟩
theorem piece_fair (k : Nat) : Fair (pieceB k) := by
  unfold pieceB Fair
  repeat' split
  all_goals decide
theorem piece_len (k : Nat) : (pieceB k).length ≤ 10 := by
  unfold pieceB
  repeat' split
  all_goals decide
theorem run_blanks : ∀ (l : List UInt8) (n c : Nat) (row : List Wd) (out : List (List Wd)), (∀ b ∈ l, bKind b = 1) → spRun ⟨n, c, [], row, out⟩ l = ⟨n, c + l.length, [], row, out⟩
  | [], n, c, row, out, _ => by simp [spRun]
  | b :: l, n, c, row, out, h => by
    have h1 := h b (by simp)
    have e : spStep ⟨n, c, [], row, out⟩ b = ⟨n, c + 1, [], row, out⟩ := by
      unfold spStep
      rw [if_neg (by rw [h1]; decide), if_neg (by rw [h1]; decide)]
      rfl
    show spRun (spStep _ b) l = _
    rw [e, run_blanks l _ _ _ _ fun x hx => h x (by simp [hx])]
    simp
    omega
/-- words, each with what stands behind it -/
def bodyB (ws : List (ByteArray × List UInt8)) : List UInt8 := ws.flatMap fun x => x.1.data.toList ++ x.2
def SepOk (x : ByteArray × List UInt8) : Prop := Vis x.1 ∧ x.2 ≠ [] ∧ ∀ b ∈ x.2, bKind b = 1
theorem run_body (n : Nat) (out : List (List Wd)) : ∀ (ws : List (ByteArray × List UInt8)) (c : Nat) (row : List Wd), (∀ x ∈ ws, SepOk x) →
    ∃ c' ds, spRun ⟨n, c, [], row, out⟩ (bodyB ws) = ⟨n, c', [], row ++ ds, out⟩ ∧ wTexts ds = ws.map (·.1)
  | [], c, row, _ => ⟨c, [], by simp [bodyB, spRun], rfl⟩
  | x :: r, c, row, h => by
    obtain ⟨h1, h2, h3⟩ := h x (by simp)
    obtain ⟨b, t, hb⟩ := List.exists_cons_of_ne_nil h2
    have hb1 := h3 b (by rw [hb]; simp)
    have e : spRun ⟨n, c, [], row, out⟩ (bodyB (x :: r)) = spRun ⟨n, c + x.1.data.toList.length + 1 + t.length, [], row ++ [⟨x.1, n, c⟩], out⟩ (bodyB r) := by
      have e1 : bodyB (x :: r) = x.1.data.toList ++ (b :: (t ++ bodyB r)) := by simp [bodyB, hb]
      rw [e1, spRun_app, run_vis _ _ h1.2]
      show spRun (spStep _ b) _ = _
      have e2 : spStep ⟨n, c + x.1.data.toList.length, [] ++ x.1.data.toList, row, out⟩ b = ⟨n, c + x.1.data.toList.length + 1, [], row ++ [⟨x.1, n, c⟩], out⟩ := by
        unfold spStep
        rw [if_neg (by rw [hb1]; decide), if_neg (by rw [hb1]; decide)]
        congr 1
        show keepW n (c + x.1.data.toList.length) ([] ++ x.1.data.toList) row = _
        rw [List.nil_append, keep_vis h1]
      rw [e2, spRun_app, run_blanks t _ _ _ _ fun y hy => h3 y (by rw [hb]; simp [hy])]
    obtain ⟨c', ds, q1, q2⟩ := run_body n out r (c + x.1.data.toList.length + 1 + t.length) (row ++ [⟨x.1, n, c⟩]) fun y hy => h y (by simp [hy])
    refine ⟨c', ⟨x.1, n, c⟩ :: ds, ?_, ?_⟩
    · rw [e, q1]; simp
    · unfold wTexts at q2 ⊢
      simp [q2]
/-- a line of the text -/
structure LnB where
  k : Nat
  ws : List (ByteArray × List UInt8)
def LnB.text (x : LnB) : List UInt8 := pieceB x.k ++ bodyB x.ws ++ [10]
def LnB.words (x : LnB) : List ByteArray := x.ws.map (·.1)
def LnB.Ok (x : LnB) : Prop := (∀ y ∈ x.ws, SepOk y) ∧ x.ws ≠ [] ∧ ∀ s ∈ x.words.head?, s.data.toList.head? ≠ some 35
def textB (l : List LnB) : List UInt8 := l.flatMap LnB.text
theorem run_lnB (n : Nat) (out : List (List Wd)) {x : LnB} (h : x.Ok) : ∃ n' ds, spRun ⟨n, 1, [], [], out⟩ x.text = ⟨n', 1, [], [], out ++ [ds]⟩ ∧ wTexts ds = x.words := by
  obtain ⟨n1, c1, e1⟩ := piece_run x.k n out
  obtain ⟨c2, ds, e2, e3⟩ := run_body n1 out x.ws c1 [] h.1
  refine ⟨n1 + 1, ds, ?_, e3⟩
  unfold LnB.text
  rw [spRun_app, spRun_app, e1, e2]
  show spStep _ 10 = _
  rw [step_end]
  congr 1
  show layW (keepW n1 c2 [] ([] ++ ds)) out = _
  have : keepW n1 c2 [] ([] ++ ds) = ds := by simp [keepW]
  rw [this]
  have hs : saysL ds = true := by
    cases ds with
    | nil =>
      exfalso
      have h2 := h.2.1
      cases hw : x.ws with
      | nil => exact h2 hw
      | cons a b => rw [hw] at e3; simp [wTexts] at e3
    | cons d r =>
      have h3 := h.2.2 d.t (by rw [show x.words = wTexts (d :: r) from e3.symm]; simp [wTexts])
      show (!decide (d.t.data.toList.head? = some 35)) = true
      simpa using h3
  unfold layW
  rw [if_pos hs]
theorem run_textB : ∀ (l : List LnB) (n : Nat) (out : List (List Wd)), (∀ x ∈ l, x.Ok) → ∃ n' ds, spRun ⟨n, 1, [], [], out⟩ (textB l) = ⟨n', 1, [], [], out ++ ds⟩ ∧ ds.map wTexts = l.map LnB.words
  | [], n, out, _ => ⟨n, [], by simp [textB, spRun], rfl⟩
  | x :: r, n, out, h => by
    obtain ⟨n1, d, e1, e2⟩ := run_lnB n out (h x (by simp))
    obtain ⟨n2, ds, e3, e4⟩ := run_textB r n1 (out ++ [d]) fun y hy => h y (by simp [hy])
    refine ⟨n2, d :: ds, ?_, by simp [e2, e4]⟩
    have : textB (x :: r) = x.text ++ textB r := by simp [textB]
    rw [this, spRun_app, e1, e3]
    simp
theorem fairB {l : List LnB} (h : ∀ x ∈ l, x.Ok) : Fair (textB l) := by
  intro b hb
  obtain ⟨x, hx, hb⟩ := List.mem_flatMap.1 hb
  unfold LnB.text at hb
  rcases List.mem_append.1 hb with hb | hb
  · rcases List.mem_append.1 hb with hb | hb
    · exact piece_fair x.k b hb
    · obtain ⟨y, hy, hb⟩ := List.mem_flatMap.1 hb
      obtain ⟨h1, h2, h3⟩ := (h x hx).1 y hy
      rcases List.mem_append.1 hb with hb | hb
      · rw [h1.2 b hb]; decide
      · rw [h3 b hb]; decide
  · rw [List.mem_singleton.1 hb]; decide
theorem splitB {l : List LnB} (h : ∀ x ∈ l, x.Ok) (hl : (textB l).length ≤ 1048576) : splitE (textB l) = 0 ∧ (splitL (textB l)).map wTexts = l.map LnB.words := by
  obtain ⟨n, ds, e1, e2⟩ := run_textB l 1 [] h
  obtain ⟨s1, s2⟩ := split_run (fairB h) hl e1
  refine ⟨s1, ?_⟩
  rw [s2]
  have : SpSt.lay ⟨n, 1, [], [], [] ++ ds⟩ = ds := by simp [SpSt.lay, SpSt.keep, keepW, layW, saysL]
  rw [this, e2]
/-! ## what a text is goes by its words -/
theorem wdAt_t (ws : List Wd) (i : Nat) : (wdAt ws i).t = (wTexts ws).getD i ⟨#[]⟩ := by
  unfold wdAt wTexts
  rw [List.getD_eq_getElem?_getD, List.getD_eq_getElem?_getD, List.getElem?_map]
  cases ws[i]? <;> rfl
theorem ln_text {ws ws' : List Wd} (h : wTexts ws = wTexts ws') (s : CfgSt) : lnErr s ws = lnErr s ws' ∧ lnPut s ws = lnPut s ws' := by
  have hl : ws.length = ws'.length := by have := congrArg List.length h; simpa [wTexts] using this
  unfold lnErr lnPut szErr rlErr
  rw [wdAt_t ws 0, wdAt_t ws' 0, wdAt_t ws 1, wdAt_t ws' 1, h, hl]
  exact ⟨rfl, rfl⟩
theorem cfg_text : ∀ {l l' : List (List Wd)} {s s' : CfgSt}, l.map wTexts = l'.map wTexts → cfgLines s l' = .inr s' → cfgLines s l = .inr s'
  | [], [], s, s', _, h => h
  | [], _ :: _, _, _, e, _ => by simp at e
  | _ :: _, [], _, _, e, _ => by simp at e
  | a :: l, b :: l', s, s', e, h => by
    simp only [List.map_cons, List.cons.injEq] at e
    obtain ⟨q1, q2⟩ := ln_text e.1 s
    have h2 : (if (lnErr s b).1 ≠ 0 then .inl ((lnErr s b).1, (wdAt b (lnErr s b).2).line, (wdAt b (lnErr s b).2).col) else cfgLines (lnPut s b) l') = (.inr s' : Sum (Int × Int × Int) CfgSt) := h
    show (if (lnErr s a).1 ≠ 0 then _ else cfgLines (lnPut s a) l) = _
    rw [q1, q2]
    split at h2
    · cases h2
    · rename_i q
      rw [if_neg q]
      exact cfg_text e.2 h2
theorem words_lns : ∀ (ls : List (List ByteArray)) (n : Nat), (lnsFrom n ls).map wTexts = ls
  | [], _ => rfl
  | x :: r, n => by simp [lnsFrom, texts_from, words_lns r (n + 1)]
theorem same_rev {rs : List Rl} (hn : (rs.map (·.p)).Nodup) : SameL Rl.key rs.reverse rs := by
  intro k
  rw [List.filter_reverse]
  have key : ∀ l : List Rl, (l.map (·.p)).Nodup → (l.filter fun x => decide (x.key = k)).length ≤ 1 := by
    intro l
    induction l with
    | nil => intro _; simp
    | cons a t ih =>
      intro h
      have h1 := List.nodup_cons.1 h
      by_cases q : a.key = k
      · have : t.filter (fun x => decide (x.key = k)) = [] := by
          rw [List.filter_eq_nil_iff]
          intro x hx e
          have e1 : x.key = a.key := by rw [q]; simpa using e
          exact h1.1 (List.mem_map.2 ⟨x, hx, key_inj e1⟩)
        rw [List.filter_cons, if_pos (by simpa using q), this]
        simp
      · rw [List.filter_cons, if_neg (by simpa using q)]
        exact ih h1.2
  have h1 := key rs hn
  generalize rs.filter (fun x => decide (x.key = k)) = m at *
  match m, h1 with
  | [], _ => rfl
  | [_], _ => rfl
  | _ :: _ :: _, h => simp at h
theorem ord_rev {rs : List Rl} (hn : (rs.map (·.p)).Nodup) : ordL Rl.key rs.reverse = ordL Rl.key rs := (ordL_of (ordL_up rs) ((same_rev hn).trans (ordL_same rs))).symm
theorem PolOk.rev {most : Int} {rs : List Rl} (h : PolOk most rs) : PolOk most rs.reverse :=
  ⟨h.m0, h.m1, fun r hr => h.ok r (List.mem_reverse.1 hr), fun r hr => h.err r (List.mem_reverse.1 hr), by rw [List.map_reverse]; exact (List.reverse_perm _).nodup_iff.2 h.nd, by rw [List.length_reverse]; exact h.len, by rw [List.map_reverse, List.mem_reverse]; exact h.dft⟩
/-- the size last -/
theorem cfg_last {most : Int} {rs : List Rl} (h : PolOk most rs) : cfgLines cfg0 (lnsFrom 1 (rs.map plW ++ [[wSize, digStr most]])) = .inr ⟨most, rs⟩ := by
  obtain ⟨q1, q2⟩ := ln_size h.m0 h.m1 (1 + (rs.map plW).length) rs
  rw [lns_app, cfgLines_app, show cfg0 = ⟨0, []⟩ from rfl, cfg_lns rs 0 [] 1 h.err h.ok (by simpa using h.nd) (by simpa using h.len)]
  show cfgLines ⟨0, [] ++ rs⟩ [wdsFrom (1 + (rs.map plW).length) 1 [wSize, digStr most]] = _
  rw [List.nil_append]
  show (if (lnErr ⟨0, rs⟩ (wdsFrom (1 + (rs.map plW).length) 1 [wSize, digStr most])).1 ≠ 0 then _ else cfgLines (lnPut ⟨0, rs⟩ (wdsFrom (1 + (rs.map plW).length) 1 [wSize, digStr most])) []) = _
  rw [q1, q2, if_neg (by decide)]
  rfl
/-- a text of blanked lines, of either order, is the policy -/
theorem parseB {most : Int} {rs : List Rl} (h : PolOk most rs) {l : List LnB} (hl : ∀ x ∈ l, x.Ok) (hs : (textB l).length ≤ 1048576) (hw : l.map LnB.words = rs.map plW ++ [[wSize, digStr most]] ∨ l.map LnB.words = [wSize, digStr most] :: rs.reverse.map plW) :
    cfgParse (textB l) = ⟨0, 0, 0, most, ordL Rl.key rs⟩ := by
  obtain ⟨s1, s2⟩ := splitB hl hs
  unfold cfgParse
  rw [s1]
  rcases hw with hw | hw
  · rw [cfg_text (l' := lnsFrom 1 (rs.map plW ++ [[wSize, digStr most]])) (by rw [s2, words_lns, hw]) (cfg_last h)]
    simp only [ne_eq, not_true_eq_false, if_false]
    rw [end_ok h]
    simp
  · rw [cfg_text (l' := lnsFrom 1 ([wSize, digStr most] :: rs.reverse.map plW)) (by rw [s2, words_lns, hw]) (cfg_all h.rev)]
    simp only [ne_eq, not_true_eq_false, if_false]
    rw [end_ok h.rev, ord_rev h.nd]
    simp
end Go.Proofs.Ytknlojlcahgnoaa

/- Plain: the text that tollerlaw12.ConfigBlanks lays, line by line. -/
namespace Go.Proofs.Ytknlojlcahgnoaa
open Go.RowKit
set_option linter.unusedVariables false
set_option linter.unusedSimpArgs false

def revB (c : List UInt8) : Bool := decide (0 < c.length) && decide ((c.getD 0 0).toNat % 2 = 1)
def idxB (c : List UInt8) (n k : Nat) : Nat := if revB c = true then n - k else k
theorem idxB_yes {c : List UInt8} (h : revB c = true) (n k : Nat) : idxB c n k = n - k := by unfold idxB; rw [if_pos h]
theorem idxB_no {c : List UInt8} (h : revB c = false) (n k : Nat) : idxB c n k = k := by unfold idxB; rw [h]; rfl
def sepR (r : Rl) : List (ByteArray × List UInt8) := (plW r).map fun s => (s, [32, 32])
def sepS (most : Int) : List (ByteArray × List UInt8) := [(wSize, [32, 9]), (digStr most, [32])]
def wsB (most : Int) (rs : List Rl) (i : Nat) : List (ByteArray × List UInt8) := match rs[i]? with
  | some r => sepR r
  | none => sepS most
theorem wsB_rule {most : Int} {rs : List Rl} {i : Nat} (h : i < rs.length) : wsB most rs i = sepR rs[i] := by unfold wsB; rw [List.getElem?_eq_getElem h]
theorem wsB_size {most : Int} {rs : List Rl} {i : Nat} (h : rs.length ≤ i) : wsB most rs i = sepS most := by unfold wsB; rw [List.getElem?_eq_none h]
def pcB (c : List UInt8) (k : Nat) : Nat := match c[k]? with
  | some b => b.toNat % 6
  | none => 0
theorem pcB_yes {c : List UInt8} {k : Nat} (h : k < c.length) : pcB c k = c[k].toNat % 6 := by unfold pcB; rw [List.getElem?_eq_getElem h]
theorem pcB_no {c : List UInt8} {k : Nat} (h : c.length ≤ k) : pcB c k = 0 := by unfold pcB; rw [List.getElem?_eq_none h]
def lnB (most : Int) (rs : List Rl) (c : List UInt8) (k : Nat) : LnB := ⟨pcB c k, wsB most rs (idxB c rs.length k)⟩
def lnsB (most : Int) (rs : List Rl) (c : List UInt8) (k : Nat) : List LnB := (List.range k).map (lnB most rs c)
theorem lnsB_succ (most : Int) (rs : List Rl) (c : List UInt8) (k : Nat) : textB (lnsB most rs c (k + 1)) = textB (lnsB most rs c k) ++ (lnB most rs c k).text := by
  unfold lnsB textB
  rw [List.range_succ, List.map_append, List.flatMap_append]
  simp
theorem bodyB_snoc (ws : List (ByteArray × List UInt8)) (x : ByteArray × List UInt8) : bodyB (ws ++ [x]) = bodyB ws ++ (x.1.data.toList ++ x.2) := by unfold bodyB; rw [List.flatMap_append]; simp
theorem sepR_ok {r : Rl} (h : RlOk r) (he : rErr r = 0) : (∀ y ∈ sepR r, SepOk y) ∧ sepR r ≠ [] ∧ (sepR r).map (·.1) = plW r := by
  obtain ⟨h1, h2, -⟩ := plW_ok he h
  unfold sepR
  refine ⟨fun y hy => ?_, by simpa using h1, by rw [List.map_map]; simp [Function.comp_def]⟩
  obtain ⟨s, hs, rfl⟩ := List.mem_map.1 hy
  exact ⟨h2 s hs, by simp, show ∀ b ∈ ([32, 32] : List UInt8), bKind b = 1 by decide⟩
theorem sepS_ok {m : Int} (h0 : 0 ≤ m) (h1 : m < 18446744073709551616) : (∀ y ∈ sepS m, SepOk y) ∧ sepS m ≠ [] ∧ (sepS m).map (·.1) = [wSize, digStr m] := by
  refine ⟨fun y hy => ?_, by simp [sepS], rfl⟩
  unfold sepS at hy
  rcases List.mem_cons.1 hy with rfl | hy
  · exact ⟨vis_size, by simp, by decide⟩
  · rw [List.mem_singleton.1 hy]
    exact ⟨vis_dig m h0 h1, by simp, show ∀ b ∈ ([32] : List UInt8), bKind b = 1 by decide⟩
theorem lnB_ok {most : Int} {rs : List Rl} (h : PolOk most rs) (c : List UInt8) (k : Nat) : (lnB most rs c k).Ok := by
  have m0 := h.m0
  have m1 := h.m1
  unfold lnB LnB.Ok LnB.words
  rcases Nat.lt_or_ge (idxB c rs.length k) rs.length with q | q
  · obtain ⟨a1, a2, a3⟩ := sepR_ok (h.ok _ (List.getElem_mem q)) (h.err _ (List.getElem_mem q))
    simp only [wsB_rule q]
    refine ⟨a1, a2, ?_⟩
    rw [a3]
    exact (plW_ok (h.err _ (List.getElem_mem q)) (h.ok _ (List.getElem_mem q))).2.2
  · obtain ⟨a1, a2, a3⟩ := sepS_ok (m := most) (by omega) (by omega)
    simp only [wsB_size q]
    refine ⟨a1, a2, ?_⟩
    rw [a3]
    exact (size_ok (by omega) (by omega)).2.2
theorem words_fwd (most : Int) (rs : List Rl) (h : PolOk most rs) : (List.range (rs.length + 1)).map (fun k => (wsB most rs k).map (·.1)) = rs.map plW ++ [[wSize, digStr most]] := by
  have m0 := h.m0
  have m1 := h.m1
  rw [List.range_succ, List.map_append]
  congr 1
  · apply List.ext_getElem
    · simp
    · intro i h1 h2
      have hi : i < rs.length := by simpa using h2
      rw [List.getElem_map, List.getElem_map, List.getElem_range, wsB_rule hi]
      exact (sepR_ok (h.ok _ (List.getElem_mem hi)) (h.err _ (List.getElem_mem hi))).2.2
  · rw [List.map_singleton, wsB_size (Nat.le_refl _)]
    rfl
theorem words_rev (most : Int) (rs : List Rl) (h : PolOk most rs) : (List.range (rs.length + 1)).map (fun k => (wsB most rs (rs.length - k)).map (·.1)) = [wSize, digStr most] :: rs.reverse.map plW := by
  have e : (List.range (rs.length + 1)).map (fun k => (wsB most rs (rs.length - k)).map (·.1)) = ((List.range (rs.length + 1)).map (fun k => (wsB most rs k).map (·.1))).reverse := by
    apply List.ext_getElem
    · simp
    · intro i h1 h2
      have hi : i < rs.length + 1 := by simpa using h1
      rw [List.getElem_map, List.getElem_range, List.getElem_reverse, List.getElem_map, List.getElem_range]
      congr 3
      simp
  rw [e, words_fwd most rs h, List.reverse_append, List.map_reverse]
  rfl
theorem lnsB_words {most : Int} {rs : List Rl} (h : PolOk most rs) (c : List UInt8) : (lnsB most rs c (rs.length + 1)).map LnB.words = rs.map plW ++ [[wSize, digStr most]] ∨ (lnsB most rs c (rs.length + 1)).map LnB.words = [wSize, digStr most] :: rs.reverse.map plW := by
  unfold lnsB
  rw [List.map_map]
  cases q : revB c with
  | false =>
    left
    rw [← words_fwd most rs h]
    congr 1
    funext k
    simp only [Function.comp_def, lnB, LnB.words, idxB_no q]
  | true =>
    right
    rw [← words_rev most rs h]
    congr 1
    funext k
    simp only [Function.comp_def, lnB, LnB.words, idxB_yes q]
theorem body_len (ws : List ByteArray) : (bodyB (ws.map fun s => (s, [32, 32]))).length = (ws.map (·.size)).sum + 2 * ws.length := by
  induction ws with
  | nil => rfl
  | cons a t ih =>
    have e : bodyB ((a :: t).map fun s => (s, [32, 32])) = (a.data.toList ++ [32, 32]) ++ bodyB (t.map fun s => (s, [32, 32])) := by simp [bodyB]
    rw [e, List.length_append, List.length_append, ih, List.map_cons, List.sum_cons, data_len]
    simp
    omega
theorem le_sum : ∀ {l : List Nat} {x : Nat}, x ∈ l → x ≤ l.sum
  | a :: l, x, h => by
    rw [List.sum_cons]
    rcases List.mem_cons.1 h with rfl | h
    · omega
    · have := le_sum h
      omega
theorem intercalate_ge (sep : List UInt8) : ∀ (l : List (List UInt8)), (l.map (·.length)).sum ≤ (sep.intercalate l).length
  | [] => by simp [List.intercalate]
  | [a] => by simp [List.intercalate]
  | a :: b :: r => by
    have h := intercalate_ge sep (b :: r)
    have e : sep.intercalate (a :: b :: r) = a ++ (sep ++ sep.intercalate (b :: r)) := by simp [List.intercalate]
    rw [e]
    simp only [List.length_append, List.map_cons, List.sum_cons] at h ⊢
    omega
theorem joinL_sum (l : List ByteArray) : (l.map (·.size)).sum ≤ (joinL l).length := by
  have h := intercalate_ge [32] (l.map (·.data.toList))
  have e : (l.map (·.data.toList)).map (·.length) = l.map (·.size) := by
    rw [List.map_map]
    apply List.map_congr_left
    intro s _
    show s.data.toList.length = s.data.size
    simp
  rw [e] at h
  simpa [joinL, Lib.join] using h
theorem sizes_le {r : Rl} (h : RlOk r) (he : rErr r = 0) : ((plW r).map (·.size)).sum ≤ 300 ∧ (plW r).length ≤ 5 := by
  have h1 := joinL_sum (plW r)
  obtain ⟨h2, h3⟩ := plW_len h he
  exact ⟨by omega, h2⟩
theorem bodyB_take_le (ws : List (ByteArray × List UInt8)) (j : Nat) : (bodyB (ws.take j)).length ≤ (bodyB ws).length := by
  have e : bodyB ws = bodyB (ws.take j) ++ bodyB (ws.drop j) := by unfold bodyB; rw [← List.flatMap_append, List.take_append_drop]
  rw [e, List.length_append]
  omega
theorem wsB_len {most : Int} {rs : List Rl} (h : PolOk most rs) (i : Nat) : (bodyB (wsB most rs i)).length ≤ 320 := by
  have m0 := h.m0
  have m1 := h.m1
  rcases Nat.lt_or_ge i rs.length with q | q
  · rw [wsB_rule q]
    unfold sepR
    obtain ⟨a, b⟩ := sizes_le (h.ok _ (List.getElem_mem q)) (h.err _ (List.getElem_mem q))
    rw [body_len]
    omega
  · rw [wsB_size q]
    have := (dig_back most (by omega) (by omega)).2.2.1
    have d1 : wSize.data.toList.length = 4 := by decide
    have d2 : (digStr most).data.toList.length = (digStr most).size := data_len _
    have e : bodyB (sepS most) = (wSize.data.toList ++ [32, 9]) ++ ((digStr most).data.toList ++ [32]) := by simp [sepS, bodyB]
    rw [e]
    simp only [List.length_append, List.length_cons, List.length_nil]
    omega
theorem lnB_len {most : Int} {rs : List Rl} (h : PolOk most rs) (c : List UInt8) (k : Nat) : (lnB most rs c k).text.length ≤ 331 := by
  unfold LnB.text lnB
  simp only [List.length_append, List.length_singleton]
  have := piece_len (pcB c k)
  have := wsB_len h (idxB c rs.length k)
  omega
theorem textB_len {most : Int} {rs : List Rl} (h : PolOk most rs) (c : List UInt8) (k : Nat) : (textB (lnsB most rs c k)).length ≤ 331 * k := by
  induction k with
  | zero => simp [lnsB, textB]
  | succ k ih =>
    rw [lnsB_succ, List.length_append]
    have := lnB_len h c k
    omega
theorem parseC {most : Int} {rs : List Rl} (h : PolOk most rs) (hr : rs.length ≤ 13) (c : List UInt8) : cfgParse (textB (lnsB most rs c (rs.length + 1))) = ⟨0, 0, 0, most, ordL Rl.key rs⟩ := by
  refine parseB h (fun x hx => ?_) ?_ (lnsB_words h c)
  · obtain ⟨k, -, rfl⟩ := List.mem_map.1 hx
    exact lnB_ok h c k
  · have := textB_len h c (rs.length + 1)
    omega
theorem size_body (most : Int) : (⟨#[115, 105, 122, 101, 32, 9]⟩ : ByteArray) ++ digStr most ++ ⟨#[32]⟩ = bText (bodyB (sepS most)) := by
  have e1 : (⟨#[115, 105, 122, 101, 32, 9]⟩ : ByteArray) = bText [115, 105, 122, 101, 32, 9] := rfl
  have e2 : (⟨#[32]⟩ : ByteArray) = bText [32] := rfl
  rw [e1, e2]
  conv => lhs; rw [← bText_data (digStr most)]
  rw [bText_app, bText_app]
  congr 1
  have d1 : wSize.data.toList = [115, 105, 122, 101] := rfl
  simp [sepS, bodyB, d1]
theorem piece_at (m : Nat) (h : m < 6) : (#[.string ⟨#[]⟩, .string ⟨#[32]⟩, .string ⟨#[9, 32]⟩, .string ⟨#[10]⟩, .string ⟨#[35, 32, 120, 10]⟩, .string ⟨#[32, 35, 115, 105, 122, 101, 32, 53, 10, 10]⟩] : Array Value)[m]? = some (.string (bText (pieceB m))) := by
  have : m = 0 ∨ m = 1 ∨ m = 2 ∨ m = 3 ∨ m = 4 ∨ m = 5 := by omega
  rcases this with rfl | rfl | rfl | rfl | rfl | rfl <;> rfl
end Go.Proofs.Ytknlojlcahgnoaa

/- Walk: tollerref12.Same of equal policies. -/
namespace Go.Proofs.Ytknlojlcahgnoaa
open Go.RowKit
set_option linter.unusedVariables false
set_option linter.unusedSimpArgs false

set_option maxHeartbeats 1000000 in
set_option maxRecDepth 100000 in
theorem ref12_Same_yes (most : Int) (v1 v2 : Value) (l : List Rl) (w : World) (h1 : RulesAt w v1 l) (h2 : RulesAt w v2 l) (hl : l.length ≤ 1000000000) :
    Calls Try.prog 12 #[.agg #[.int .i64 most, v1], .agg #[.int .i64 most, v2]] w fun x w' => x = .returned (.bool true) ∧ Ext w w' := by
  obtain ⟨a1, c1, rfl⟩ := h1.size
  obtain ⟨a2, c2, rfl⟩ := h2.size
  have b1 := (Blk.new w #[.int .i64 most, .slice a1 l.length c1] 27).alloc (.cells #[.int .i64 most, .slice a2 l.length c2] 27)
  have b2 := Blk.new' (w.alloc (.cells #[.int .i64 most, .slice a1 l.length c1] 27)) #[.int .i64 most, .slice a2 l.length c2] 27 (b := w.heap.size + 1) (by simp)
  have hx0 : Ext w ((w.alloc (.cells #[.int .i64 most, .slice a1 l.length c1] 27)).alloc (.cells #[.int .i64 most, .slice a2 l.length c2] 27)) := ((Ext.refl w).alloc _).alloc _
  have H1 := Lib.hid (h1.ext Rl.size4 hx0)
  have H2 := Lib.hid (h2.ext Rl.size4 hx0)
  clear h1 h2
  go_enter Try.func12, Try.ntmps12
  go_upto_region 1 with fail
  generalize (w.alloc (.cells #[.int .i64 most, .slice a1 l.length c1] 27)).alloc (.cells #[.int .i64 most, .slice a2 l.length c2] 27) = w0 at *
  have B1 := Lib.hid b1
  have B2 := Lib.hid b2
  have HX0 := Lib.hid hx0
  have c10 : w0.cell? ⟨w.heap.size, 0, none⟩ = some (.int .i64 most) := b1.cell 0
  have c11 : w0.cell? ⟨w.heap.size, 1, none⟩ = some (.slice a1 l.length c1) := b1.cell 1
  have c20 : w0.cell? ⟨w.heap.size + 1, 0, none⟩ = some (.int .i64 most) := b2.cell 0
  have c21 : w0.cell? ⟨w.heap.size + 1, 1, none⟩ = some (.slice a2 l.length c2) := b2.cell 1
  have hll : ((l.length : Int) == (l.length : Int)) = true := by simp
  have hmm : (most == most) = true := by simp
  clear hx0 b1 b2
  go_wp2_with fail
  go_loopw [5] (fun i wr => ∃ k : Nat, k ≤ l.length ∧ i = .int .i64 k ∧ Ext w0 wr) (fun i _ => l.length - (intOf i).toNat)
  case atStart => exact ⟨0, by omega, rfl, Ext.refl _⟩
  case round =>
    obtain ⟨k, hk, rfl, hx⟩ := hrel
    have d11 := hx.keep c11
    have d21 := hx.keep c21
    by_cases hlt : k < l.length
    · obtain ⟨g1, o1, e1, -, q1⟩ := (H1.out.ext Rl.size4 hx).cells Rl.size4 (by decide) k hlt
      obtain ⟨g2, o2, e2, -, q2⟩ := (H2.out.ext Rl.size4 hx).cells Rl.size4 (by decide) k hlt
      cases e1
      cases e2
      have a10 : wr.cell? ⟨g1, o1 + k * 4, none⟩ = some (.string l[k].p) := q1 0 (by decide)
      have a11 : wr.cell? ⟨g1, o1 + k * 4 + 1, none⟩ = some (.int .u64 l[k].e) := q1 1 (by decide)
      have a12 : wr.cell? ⟨g1, o1 + k * 4 + 2, none⟩ = some (.int .u64 l[k].b) := q1 2 (by decide)
      have a13 : wr.cell? ⟨g1, o1 + k * 4 + 3, none⟩ = some (.int .u8 l[k].k) := q1 3 (by decide)
      have a20 : wr.cell? ⟨g2, o2 + k * 4, none⟩ = some (.string l[k].p) := q2 0 (by decide)
      have a21 : wr.cell? ⟨g2, o2 + k * 4 + 1, none⟩ = some (.int .u64 l[k].e) := q2 1 (by decide)
      have a22 : wr.cell? ⟨g2, o2 + k * 4 + 2, none⟩ = some (.int .u64 l[k].b) := q2 2 (by decide)
      have a23 : wr.cell? ⟨g2, o2 + k * 4 + 3, none⟩ = some (.int .u8 l[k].k) := q2 3 (by decide)
      generalize l[k] = r at *
      obtain ⟨rp, re, rb, rk⟩ := r
      clear q1 q2
      simp only at a10 a11 a12 a13 a20 a21 a22 a23
      go_upto_region 6 with fail
      go_quiet (fail)
      go_wp2
      go_roundw
      case rel => exact ⟨k + 1, by omega, by go_num, hx.trans (Ext.drewNs _ _)⟩
      case measure => simp [intOf]; omega
    · go_wp2
      go_ret
      exact ⟨rfl, HX0.out.trans hx⟩
end Go.Proofs.Ytknlojlcahgnoaa
