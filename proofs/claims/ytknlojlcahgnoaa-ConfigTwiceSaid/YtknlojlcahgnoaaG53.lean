/- Plain: which policies may be; those of choices may be. Plain: what lacks of a text of rules. Walk: tollerlaw12.known. Plain: a line that is there twice. Plain: the rows of a text: each ends with the end of a line. -/
import Derived.Lib.SlBytesConst
import Derived.Test.YtknlojlcahgnoaaG52
import Derived.Test.YtknlojlcahgnoaaG48
import Derived.Test.YtknlojlcahgnoaaG36
import Derived.Test.YtknlojlcahgnoaaG29

/- Plain: which policies may be; those of choices may be. -/
namespace Go.Proofs.Ytknlojlcahgnoaa
open Go.RowKit
set_option linter.unusedVariables false
set_option linter.unusedSimpArgs false

theorem key_inj {r s : Rl} (h : r.key = s.key) : r.p = s.p := by
  unfold Rl.key at h
  exact ByteArray.ext (Array.toList_inj.1 h)
theorem lt_of_up {a b : List UInt8} (h : ¬ b < a) (n : a ≠ b) : a < b := by
  by_cases q : a < b
  · exact q
  · exact absurd (List.le_antisymm (List.not_lt.1 h) (List.not_lt.1 q)) n
theorem keyLt_yes {a b : ByteArray} (h : a.data.toList < b.data.toList) : keyLt a b = true := by
  unfold keyLt
  rw [decide_eq_true_eq, keyLt_iff]
  exact h
theorem sorted_up : ∀ {l : List Rl}, UpL Rl.key l → (l.map (·.p)).Nodup → sortedB (l.map (·.p)) = true
  | [], _, _ => rfl
  | [_], _, _ => rfl
  | a :: b :: t, h, n => by
    have h1 := List.pairwise_cons.1 h
    have n1 := List.nodup_cons.1 n
    show (keyLt a.p b.p && sortedB ((b :: t).map (·.p))) = true
    rw [sorted_up h1.2 n1.2, Bool.and_true]
    refine keyLt_yes (lt_of_up (h1.1 b (by simp)) fun e => ?_)
    have := key_inj (r := a) (s := b) e
    exact n1.1 (List.mem_map.2 ⟨b, by simp, this.symm⟩)
theorem up_sorted : ∀ {l : List ByteArray}, sortedB l = true → l.Pairwise fun a b => a.data.toList < b.data.toList
  | [], _ => List.Pairwise.nil
  | [_], _ => by simp
  | a :: b :: t, h => by
    have h2 : keyLt a b = true ∧ sortedB (b :: t) = true := by simpa [sortedB] using h
    have ih := up_sorted h2.2
    have hab : a.data.toList < b.data.toList := by have := h2.1; unfold keyLt at this; rw [decide_eq_true_eq, keyLt_iff] at this; exact this
    refine List.pairwise_cons.2 ⟨fun x hx => ?_, ih⟩
    rcases List.mem_cons.1 hx with rfl | hx
    · exact hab
    · exact List.lt_trans hab ((List.pairwise_cons.1 ih).1 x hx)
theorem sorted_nodup {l : List ByteArray} (h : sortedB l = true) : l.Nodup := by
  refine (up_sorted h).imp fun {a b} q e => ?_
  subst e
  exact List.lt_irrefl _ q
theorem restL_cons (r : Rl) (t : List Rl) : restL (r :: t) = if r.p = ⟨#[]⟩ then (if sortedB ((r :: t).map (·.p)) = true then 0 else 28) else 31 := rfl
/-- the first one of all that are in order is the one for all -/
theorem first_dft {l : List Rl} (h : UpL Rl.key l) (hd : (⟨#[]⟩ : ByteArray) ∈ l.map (·.p)) : ∃ r t, l = r :: t ∧ r.p = ⟨#[]⟩ := by
  cases l with
  | nil => simp at hd
  | cons r t =>
    refine ⟨r, t, rfl, ?_⟩
    by_cases q : r.p = ⟨#[]⟩
    · exact q
    · exfalso
      obtain ⟨x, hx, hp⟩ := List.mem_map.1 hd
      rcases List.mem_cons.1 hx with rfl | hx
      · exact q hp
      · have := (List.pairwise_cons.1 h).1 x hx
        apply this
        have e : x.key = [] := by unfold Rl.key; rw [show x.p = ⟨#[]⟩ from hp]
        rw [e]
        cases hk : r.key with
        | nil => exact absurd (ByteArray.ext (Array.toList_inj.1 (by unfold Rl.key at hk; rw [hk]))) q
        | cons a b => exact List.nil_lt_cons a b
theorem PolOk.cfg {most : Int} {rs : List Rl} (h : PolOk most rs) : cfgErr most rs = 0 := by
  have h0 := h.m0
  have h1 := h.m1
  have h2 := h.len
  have ho := h.ord
  rw [cfgErr_rest (by omega) (by omega) h.err]
  unfold cfgRest
  obtain ⟨r, t, e, hr⟩ := first_dft (ordL_up rs) ho.dft
  have hs := sorted_up (ordL_up rs) ho.nd
  rw [e] at hs ⊢
  rw [restL_cons, if_pos hr, if_pos hs]
theorem PolOk.of {most : Int} {rs : List Rl} (h : cfgErr most rs = 0) (ho : ∀ r ∈ rs, RlOk r) : PolOk most rs := by
  obtain ⟨z1, z2, z3⟩ := cfg_zero h
  have he := cfgErr_rules h
  have p := (ordL_perm (key := Rl.key) rs).map (·.p)
  rw [cfgErr_rest (by omega) (by omega) he] at h
  unfold cfgRest at h
  cases q : ordL Rl.key rs with
  | nil => rw [q] at h; simp [restL] at h
  | cons r t =>
    rw [q] at h p
    rw [restL_cons] at h
    split at h
    · rename_i hr
      split at h
      · rename_i hs
        exact ⟨z1, z2, ho, he, p.nodup_iff.1 (sorted_nodup hs), z3, p.mem_iff.1 (by rw [List.map_cons, hr]; simp)⟩
      · omega
    · omega
/-- what is without a rule for all -/
theorem cfg_no_dft {most : Int} {rs : List Rl} (h0 : 1 ≤ most) (h1 : most ≤ 1000000) (he : ∀ r ∈ rs, rErr r = 0) (hl : rs.length ≤ 1000) (hd : (⟨#[]⟩ : ByteArray) ∉ rs.map (·.p)) : cfgErr most rs = 31 := by
  rw [cfgErr_rest (by omega) (by omega) he]
  unfold cfgRest
  cases q : ordL Rl.key rs with
  | nil => rfl
  | cons r t =>
    rw [restL_cons, if_neg]
    intro e
    have p := (ordL_perm (key := Rl.key) rs).map (·.p)
    exact hd (p.mem_iff.1 (by rw [q, List.map_cons, e]; simp))
/-! ## policies of choices -/
theorem numsR_err {w : World} {d : Nms} (h : NmsOk w d) : rErr (numsR d) = 0 := by
  have hk := (keyText_ok d.pre).1
  have hp : prefOk (keyText d.pre) = true := by unfold prefOk; rw [hk]; simp
  have h1 := h.e0; have h2 := h.e1; have h3 := h.b0; have h4 := h.b1; have h5 := h.k0; have h6 := h.k1
  have hm : ∀ x y : Int, 0 ≤ x → x ≤ 4294967296 → 0 ≤ y → y ≤ 65536 → x * y ≤ 4611686018427387904 := fun x y q1 q2 q3 q4 => by
    have : x * y ≤ 4294967296 * 65536 := Int.mul_le_mul q2 q4 q3 (by omega)
    omega
  have hr : rightKind (1 + d.kind % 3) = true := by unfold rightKind; simp; omega
  unfold rErr numsR nmR
  split
  · exact ruleErr_yes hp (by show 0 < 1 + d.every % 50; omega) (by show 0 < 1 + d.burst % 9; omega) (capOk_yes (hm (1 + d.every % 50) (1 + d.burst % 9) (by omega) (by omega) (by omega) (by omega))) hr
  · exact ruleErr_yes hp (by show 0 < 1 + d.every; omega) (by show 0 < 1 + d.burst; omega) (capOk_yes (hm (1 + d.every) (1 + d.burst) (by omega) (by omega) (by omega) (by omega))) hr
theorem polR0_err {n : Int} (h : 0 ≤ n) : rErr (polR0 n) = 0 := ruleErr_yes (show prefOk ⟨#[]⟩ = true by decide) (by show (0 : Int) < 1000; decide) (by show (0 : Int) < 5; decide) (capOk_yes (by show (1000 : Int) * 5 ≤ _; decide)) (by show rightKind (1 + n % 3) = true; unfold rightKind; simp; omega)
theorem polNew_iff {rs : List Rl} {p : ByteArray} : polNew rs p = true ↔ p ∉ rs.map (·.p) := by
  unfold polNew
  simp
theorem polTo_all {n : Int} (hn : 0 ≤ n) {w : World} (l : List Nms) (hl : ∀ d ∈ l, NmsOk w d) : (∀ r ∈ polTo n l, rErr r = 0) ∧ ((polTo n l).map (·.p)).Nodup ∧ ∃ t, polTo n l = polR0 n :: t := by
  induction l using list_snoc with
  | h0 => exact ⟨fun r hr => by obtain rfl := List.mem_singleton.1 hr; exact polR0_err hn, by simp [polTo], [], rfl⟩
  | h1 l d ih =>
    obtain ⟨i1, i2, t, i3⟩ := ih fun x hx => hl x (List.mem_append_left _ hx)
    rw [polTo_snoc]
    unfold polAdd
    split
    · rename_i q
      rw [polNew_iff] at q
      refine ⟨fun r hr => ?_, ?_, t ++ [numsR d], by rw [i3]; rfl⟩
      · rcases List.mem_append.1 hr with hr | hr
        · exact i1 r hr
        · rw [List.mem_singleton.1 hr]; exact numsR_err (hl d (by simp))
      · rw [List.map_append, List.nodup_append]
        refine ⟨i2, by simp, fun a ha b hb e => ?_⟩
        rw [List.map_singleton, List.mem_singleton] at hb
        exact q (by rw [← hb, ← e]; exact ha)
    · exact ⟨i1, i2, t, i3⟩
theorem polRs_ok {n : Int} (hn : 0 ≤ n) {w : World} (l : List Nms) (hl : ∀ d ∈ l, NmsOk w d) : PolOk (1 + n % 50) (polRs n l) ∧ (polRs n l).length ≤ 13 ∧ ∃ t, polRs n l = polR0 n :: t := by
  have hl2 : ∀ d ∈ l.take 12, NmsOk w d := fun d hd => hl d (List.mem_of_mem_take hd)
  obtain ⟨a1, a2, t, a3⟩ := polTo_all hn (l.take 12) hl2
  have hlen := polTo_len n (l.take 12)
  have h12 : (l.take 12).length ≤ 12 := by rw [List.length_take]; omega
  refine ⟨⟨by omega, by omega, polTo_ok hn _ hl2, a1, a2, by unfold polRs; omega, ?_⟩, by unfold polRs; omega, t, a3⟩
  unfold polRs
  rw [a3]
  simp [polR0]
end Go.Proofs.Ytknlojlcahgnoaa

/- Plain: what lacks of a text of rules. -/
namespace Go.Proofs.Ytknlojlcahgnoaa
open Go.RowKit
set_option linter.unusedVariables false
set_option linter.unusedSimpArgs false

/-- behind the first end of a line; 0: there is none -/
def endOf : List UInt8 → Nat
  | [] => 0
  | b :: r => if b = 10 then 1 else if endOf r = 0 then 0 else endOf r + 1
theorem endOf_snoc : ∀ (l : List UInt8) (b : UInt8), endOf (l ++ [b]) = if endOf l = 0 then (if b = 10 then l.length + 1 else 0) else endOf l
  | [], b => by simp [endOf]
  | a :: r, b => by
    have ih := endOf_snoc r b
    simp only [List.cons_append, endOf, ih]
    by_cases h1 : a = 10
    · simp [h1]
    · by_cases h2 : endOf r = 0
      · by_cases h3 : b = 10
        · simp [h1, h2, h3]
        · simp [h1, h2, h3]
      · simp [h1, h2]
theorem endOf_app : ∀ (l r : List UInt8), 10 ∉ l → endOf (l ++ 10 :: r) = l.length + 1
  | [], r, _ => by simp [endOf]
  | a :: l, r, h => by
    have ih := endOf_app l r fun q => h (by simp [q])
    have h1 : a ≠ 10 := fun q => h (by simp [q])
    simp [endOf, ih, h1]
theorem no_end {l : List ByteArray} (h : ∀ s ∈ l, Vis s) : (10 : UInt8) ∉ joinL l := by
  have key : ∀ (ws : List ByteArray), (∀ s ∈ ws, Vis s) → ∀ b ∈ joinL ws, b ≠ 10 := by
    intro ws
    induction ws with
    | nil => intro _ b hb; simp [joinL, Lib.join, List.intercalate] at hb
    | cons s r ih =>
      intro h b hb
      have hv : ∀ b ∈ s.data.toList, b ≠ 10 := fun b hb e => by
        have := (h s (by simp)).2 b hb
        rw [e] at this
        revert this
        decide
      cases r with
      | nil => rw [joinL_one] at hb; exact hv b hb
      | cons t r =>
        rw [joinL_more] at hb
        rcases List.mem_append.1 hb with hb | hb
        · exact hv b hb
        · rcases List.mem_cons.1 hb with rfl | hb
          · decide
          · exact ih (fun x hx => h x (by simp only [List.mem_cons] at hx ⊢; exact Or.inr hx)) b hb
  exact fun hb => key l h _ hb rfl
theorem prText_eq (most : Int) (rs : List Rl) : prText most rs = (joinL [wSize, digStr most] ++ [10]) ++ joinText ((ordL Rl.key rs).map plW) := by simp [prText, prLines, joinText]
theorem pr_end {most : Int} {rs : List Rl} (h0 : 0 ≤ most) (h1 : most < 18446744073709551616) : endOf (prText most rs) = (joinL [wSize, digStr most]).length + 1 := by
  rw [prText_eq, List.append_assoc]
  exact endOf_app _ _ (no_end (size_ok h0 h1).2.1)
theorem pr_take {most : Int} {rs : List Rl} (h0 : 0 ≤ most) (h1 : most < 18446744073709551616) : (prText most rs).take (endOf (prText most rs)) = joinText [[wSize, digStr most]] ∧ (prText most rs).drop (endOf (prText most rs)) = joinText ((ordL Rl.key rs).map plW) := by
  rw [pr_end h0 h1, prText_eq]
  have e : (joinL [wSize, digStr most]).length + 1 = (joinL [wSize, digStr most] ++ [10]).length := by simp
  rw [e, List.take_left, List.drop_left]
  exact ⟨by simp [joinText], rfl⟩
theorem lacks_size {most : Int} {rs : List Rl} (h : PolOk most rs) : cfgParse (joinText (rs.map plW)) = ⟨30, 0, 0, 0, []⟩ := by
  have h0 := h.m0
  have h1 := h.m1
  have hsm := lines_small most (by omega) (by omega) rs h.ok h.err
  have hl := h.len
  have e : joinText ([wSize, digStr most] :: rs.map plW) = (joinL [wSize, digStr most] ++ [10]) ++ joinText (rs.map plW) := by simp [joinText]
  rw [e, List.length_append] at hsm
  obtain ⟨s1, s2⟩ := split_lns (ls := rs.map plW) (fun l hl => h.lines l (List.mem_cons_of_mem _ hl)) (by omega)
  unfold cfgParse
  rw [s1, s2, show cfg0 = ⟨0, []⟩ from rfl, cfg_lns rs 0 [] 1 h.err h.ok (by simpa using h.nd) (by simpa using hl)]
  simp only [ne_eq, not_true_eq_false, if_false, List.nil_append]
  unfold endErr
  simp [cfgBad]
theorem lacks_dft {most : Int} (h0 : 1 ≤ most) (h1 : most ≤ 1000000) : cfgParse (joinText [[wSize, digStr most]]) = ⟨31, 0, 0, 0, []⟩ := by
  have hsm := lines_small most (by omega) (by omega) [] (by simp) (by simp)
  simp only [List.map_nil, List.length_nil] at hsm
  obtain ⟨s1, s2⟩ := split_lns (ls := [[wSize, digStr most]]) (fun l hl => by rw [List.mem_singleton.1 hl]; exact size_ok (by omega) (by omega)) (by omega)
  obtain ⟨q1, q2⟩ := ln_size h0 h1 1 []
  have e : cfgLines cfg0 (lnsFrom 1 [[wSize, digStr most]]) = .inr ⟨most, []⟩ := by
    show (if (lnErr ⟨0, []⟩ (wdsFrom 1 1 [wSize, digStr most])).1 ≠ 0 then _ else cfgLines (lnPut ⟨0, []⟩ (wdsFrom 1 1 [wSize, digStr most])) []) = _
    rw [q1, q2, if_neg (by decide)]
    rfl
  unfold cfgParse
  rw [s1, s2, e]
  have hm : most ≠ 0 := by omega
  simp [endErr, hm, hasPre, cfgBad]
theorem lacks_all : cfgParse [] = ⟨30, 0, 0, 0, []⟩ := by kernel_rfl
end Go.Proofs.Ytknlojlcahgnoaa

/- Walk: tollerlaw12.known. -/
namespace Go.Proofs.Ytknlojlcahgnoaa
open Go.RowKit
set_option linter.unusedVariables false
set_option linter.unusedSimpArgs false

def k12_t : List UInt8 := [115, 105, 122, 101, 32, 50, 10, 100, 101, 102, 97, 117, 108, 116, 32, 49, 48, 32, 53, 32, 103, 99, 114, 97, 10]
def k12_u : List UInt8 := [115, 105, 122, 101, 32, 48]
def k12_r : Rl := ⟨⟨#[]⟩, 10, 5, 1⟩
theorem k12_ok : PolOk 2 [k12_r] := ⟨by decide, by decide, by
  intro r hr
  rw [List.mem_singleton.1 hr]
  exact ⟨show (⟨#[]⟩ : ByteArray).size ≤ maxLen by decide, by decide, by decide, by decide, by decide, by decide, by decide⟩, by
  intro r hr
  rw [List.mem_singleton.1 hr]
  decide, by simp, by simp, by simp [k12_r]⟩
theorem k12_pt : prText 2 [k12_r] = k12_t := by
  have e : ordL Rl.key [k12_r] = [k12_r] := by unfold ordL; rw [List.mergeSort_singleton]
  unfold prText prLines
  rw [e]
  show joinText ([wSize, digStr 2] :: [k12_r].map plW) = k12_t
  kernel_rfl
theorem k12_parse : cfgParse k12_t = ⟨0, 0, 0, 2, [k12_r]⟩ := by
  rw [← k12_pt, parse_print k12_ok]
  unfold ordL
  rw [List.mergeSort_singleton]
theorem k12_err : cfgErr 2 [k12_r] = 0 := k12_ok.cfg
theorem k12_zero : cfgParse k12_u = ⟨29, 1, 6, 0, []⟩ := by kernel_rfl

theorem bytes_lit (w : World) (C : Array Value) (r : Nat × Nat) (l : List UInt8) (hC : C = (l.map fun b => Value.int .u8 (b.toNat : Int)).toArray) (hl : l.length ≤ maxLen) {c n : Nat} (hn : n = l.length) : ByteSlice (w.alloc (.cells C 5 r)) (.slice (some ⟨w.heap.size, 0, none⟩) n c) l := by
  subst hn
  refine ⟨⟨_, _, rfl, fun _ => ⟨w.heap.size, 0, rfl, fun j hj => ?_⟩⟩, hl⟩
  subst hC
  rw [Nat.zero_add]
  unfold World.cell?
  dsimp only
  rw [heap_alloc_new]
  simp [hj]
theorem ParseIs.open {w w' : World} {l : List UInt8} {x : Ending} (h : ParseIs w l x w') {r : CfgRes} (e : cfgParse l = r) :
    ∃ v, x = .returned (.tuple #[.agg #[.int .i64 r.most, v], .int .u16 r.e, .agg #[.int .i64 r.ln, .int .i64 r.cl]]) ∧ RuleOwn w.heap.size w' v r.rs ∧ Ext w w' := by
  subst e
  exact h
set_option maxHeartbeats 2000000 in
set_option maxRecDepth 100000 in
theorem law12_known (w : World) :
    Calls Try.prog 11 #[] w fun x w' => x = .returned (.bool true) ∧ Ext w w' := by
  have kc : ∀ (w : World) (C : Array Value) (n c b : Nat), b = w.heap.size → (convert 24 24 (.slice (some ⟨b, 0, none⟩) n c)).run Try.prog (w.alloc (.cells C 5)) = .ok (.slice (some ⟨b, 0, none⟩) n c) (w.alloc (.cells C 5 (C.size, C.size + 1))) := fun w C n c b h => by
    subst h
    exact Lib.run_convert_bytes_const (P := Try.prog) w 24 5 C n c Try.underlying24 Try.underlying5
  go_enter Try.func11, Try.ntmps11
  go_wp2_with fail
  refine (config_Parse _ k12_t _ (bytes_lit w _ _ k12_t rfl (by decide) rfl) (fun a n c h => by cases h; exact Nat.le_refl _)).mono ?_
  intro x w1 h1
  obtain ⟨v1, rfl, ho1, hx1⟩ := h1.open k12_parse
  have hat := RuleOwn.at ho1
  obtain ⟨b1, o1, c1, rfl, hb1, hc1⟩ := RulesAt.cells0 hat
  have HX1 := Lib.hid (((Ext.refl w).alloc _).trans hx1)
  have HAT := Lib.hid hat
  clear h1 ho1 hx1 hat
  go_wp2_with fail
  have bP := (Blk.new w1 #[.int .i64 2, .slice (some ⟨b1, o1, none⟩) 1 c1] 27).alloc (.cells #[.int .i64 0, .int .i64 0] 37)
  have bA := Blk.new' (w1.alloc (.cells #[.int .i64 2, .slice (some ⟨b1, o1, none⟩) 1 c1] 27)) #[.int .i64 0, .int .i64 0] 37 (b := w1.heap.size + 1) (by simp)
  have hxa : Ext w1 ((w1.alloc (.cells #[.int .i64 2, .slice (some ⟨b1, o1, none⟩) 1 c1] 27)).alloc (.cells #[.int .i64 0, .int .i64 0] 37)) := ((Ext.refl w1).alloc _).alloc _
  have hsa : w1.heap.size + 1 + 1 = ((w1.alloc (.cells #[.int .i64 2, .slice (some ⟨b1, o1, none⟩) 1 c1] 27)).alloc (.cells #[.int .i64 0, .int .i64 0] 37)).heap.size := by simp
  generalize (w1.alloc (.cells #[.int .i64 2, .slice (some ⟨b1, o1, none⟩) 1 c1] 27)).alloc (.cells #[.int .i64 0, .int .i64 0] 37) = wa at *
  rw [hsa]
  refine (config_Parse _ k12_u _ (bytes_lit wa _ _ k12_u rfl (by decide) rfl) (fun a n c h => by cases h; exact Nat.le_refl _)).mono ?_
  intro x w2 h2
  obtain ⟨v2, rfl, ho2, hx2⟩ := h2.open k12_zero
  obtain ⟨a2, e2, rfl⟩ := (RuleOwn.at ho2).size
  clear ho2
  have hx2 : Ext wa w2 := ((Ext.refl wa).alloc _).trans hx2
  have HBP := Lib.hid (bP.ext hx2)
  have HBA := Lib.hid (bA.ext hx2)
  have HX2 := Lib.hid (HX1.out.trans (hxa.trans hx2))
  have HAT2 := Lib.hid (HAT.out.ext Rl.size4 (hxa.trans hx2))
  clear h2 hx2 hxa hsa bP bA hc1 HAT HX1
  have c0 : w2.cell? ⟨w1.heap.size, 0, none⟩ = some (.int .i64 2) := HBP.out.cell 0
  have c1' : w2.cell? ⟨w1.heap.size, 1, none⟩ = some (.slice (some ⟨b1, o1, none⟩) 1 c1) := HBP.out.cell 1
  have c2 : w2.cell? ⟨w1.heap.size + 1, 0, none⟩ = some (.int .i64 0) := HBA.out.cell 0
  have c3 : w2.cell? ⟨w1.heap.size + 1, 1, none⟩ = some (.int .i64 0) := HBA.out.cell 1
  have lP := HBP.out.lt
  have lA := HBA.out.lt
  have nP : w1.heap.size ≠ w2.heap.size := by omega
  have nP2 : w1.heap.size ≠ w2.heap.size + 1 := by omega
  have HRI := Lib.hid (fun V h => config_Right 2 (.slice (some ⟨b1, o1, none⟩) 1 c1) [k12_r] V (by decide) (by decide) h k12_ok.ok (by decide))
  rw [k12_err] at HRI
  go_wp2_with (first
    | (go_at_call 15; refine (HRI.out _ (HAT2.out.ext Rl.size4 (((Ext.refl w2).alloc _).alloc _))).mono ?_; rintro x w3 ⟨rfl, hx3⟩)
    | fail)
  go_ret
  exact ⟨rfl, HX2.out.trans ((((Ext.refl w2).alloc _).alloc _).trans hx3)⟩
end Go.Proofs.Ytknlojlcahgnoaa

/- Plain: a line that is there twice. -/
namespace Go.Proofs.Ytknlojlcahgnoaa
open Go.RowKit
set_option linter.unusedVariables false
set_option linter.unusedSimpArgs false

theorem lns_app : ∀ (a b : List (List ByteArray)) (n : Nat), lnsFrom n (a ++ b) = lnsFrom n a ++ lnsFrom (n + a.length) b
  | [], b, n => rfl
  | x :: a, b, n => by
    have := lns_app a b (n + 1)
    rw [show n + 1 + a.length = n + (a.length + 1) by omega] at this
    show wdsFrom n 1 x :: lnsFrom (n + 1) (a ++ b) = _
    rw [this]
    rfl
theorem joinText_app (a b : List (List ByteArray)) : joinText (a ++ b) = joinText a ++ joinText b := by simp [joinText]
theorem joinText_one (l : List ByteArray) : joinText [l] = joinL l ++ [10] := by simp [joinText]
theorem prLines_eq (most : Int) (rs : List Rl) : prLines most rs = [wSize, digStr most] :: (ordL Rl.key rs).map plW := rfl
theorem cfg_one (s : CfgSt) (ws : List Wd) (h : (lnErr s ws).1 ≠ 0) : cfgLines s [ws] = .inl ((lnErr s ws).1, (wdAt ws (lnErr s ws).2).line, (wdAt ws (lnErr s ws).2).col) := by
  show (if (lnErr s ws).1 ≠ 0 then _ else _) = _
  rw [if_pos h]
/-- one more line behind those that are printed -/
theorem parse_bad {most : Int} {rs : List Rl} (h : PolOk most rs) {l : List ByteArray} (hl : LineOk l) (hs : (joinL l).length ≤ 100000) {e : Int} {i : Nat} (he : lnErr ⟨most, ordL Rl.key rs⟩ (wdsFrom (1 + (prLines most rs).length) 1 l) = (e, i)) (h0 : e ≠ 0) :
    cfgParse (prText most rs ++ (joinL l ++ [10])) = ⟨e, (wdAt (wdsFrom (1 + (prLines most rs).length) 1 l) i).line, (wdAt (wdsFrom (1 + (prLines most rs).length) 1 l) i).col, 0, []⟩ := by
  have ho := h.ord
  have m0 := h.m0
  have m1 := h.m1
  have hsm := lines_small most (by omega) (by omega) _ ho.ok ho.err
  have hln := ho.len
  have e1 : prText most rs ++ (joinL l ++ [10]) = joinText (prLines most rs ++ [l]) := by rw [joinText_app, joinText_one]; rfl
  have e2 : (joinText (prLines most rs ++ [l])).length = (joinText ([wSize, digStr most] :: (ordL Rl.key rs).map plW)).length + ((joinL l).length + 1) := by rw [joinText_app, joinText_one, List.length_append, List.length_append]; rfl
  obtain ⟨s1, s2⟩ := split_lns (ls := prLines most rs ++ [l]) (fun x hx => by
    rcases List.mem_append.1 hx with hx | hx
    · exact ho.lines x hx
    · rw [List.mem_singleton.1 hx]; exact hl) (by omega)
  have e3 : cfgLines cfg0 (lnsFrom 1 (prLines most rs ++ [l])) = .inl (e, (wdAt (wdsFrom (1 + (prLines most rs).length) 1 l) i).line, (wdAt (wdsFrom (1 + (prLines most rs).length) 1 l) i).col) := by
    rw [lns_app, cfgLines_app, show cfgLines cfg0 (lnsFrom 1 (prLines most rs)) = .inr ⟨most, ordL Rl.key rs⟩ from cfg_all ho]
    have := cfg_one ⟨most, ordL Rl.key rs⟩ (wdsFrom (1 + (prLines most rs).length) 1 l) (by rw [he]; exact h0)
    rw [he] at this
    exact this
  rw [e1]
  unfold cfgParse
  rw [s1, s2, e3]
  rfl
theorem twice {most : Int} {rs : List Rl} (h : PolOk most rs) (i : Nat) (hi : i < (prLines most rs).length) :
    cfgParse (prText most rs ++ (joinL (prLines most rs)[i] ++ [10])) = ⟨28, (prLines most rs).length + 1, if 1 < i then 6 else 1, 0, []⟩ := by
  have ho := h.ord
  have m0 := h.m0
  have m1 := h.m1
  have hsm := lines_small most (by omega) (by omega) _ ho.ok ho.err
  have hln := ho.len
  cases i with
  | zero =>
    have e : (prLines most rs)[0] = [wSize, digStr most] := rfl
    have hj := joinL_len [wSize, digStr most]
    have hd := (dig_back most (by omega) (by omega)).2.2.1
    have d1 : wSize.size = 4 := by decide
    simp only [List.map_cons, List.map_nil, List.sum_cons, List.sum_nil, List.length_cons, List.length_nil] at hj
    rw [e, parse_bad h (e := 28) (i := 0) (size_ok (by omega) (by omega)) (by omega) ?_ (by decide)]
    · rw [line_from _ _ _ _ (by simp)]
      simp
      exact ⟨by omega, rfl⟩
    · unfold lnErr
      rw [if_pos (show (wdAt (wdsFrom (1 + (prLines most rs).length) 1 [wSize, digStr most]) 0).t = wSize from rfl)]
      unfold szErr
      rw [if_neg (by simp [wdsFrom]), if_pos (by show most ≠ 0; omega)]
  | succ j =>
    have hj : j < (ordL Rl.key rs).length := by rw [prLines_eq] at hi; simpa using hi
    have e : (prLines most rs)[j + 1] = plW ((ordL Rl.key rs)[j]) := by simp [prLines]
    have hm := List.getElem_mem hj
    have hpl := plW_len (ho.ok _ hm) (ho.err _ hm)
    obtain ⟨q1, -⟩ := ln_rule (ho.err _ hm) (ho.ok _ hm) most (1 + (prLines most rs).length) (ordL Rl.key rs)
    rw [if_pos (has_pre_iff.2 (List.mem_map_of_mem hm))] at q1
    rw [e, parse_bad h (plW_ok (ho.err _ hm) (ho.ok _ hm)) (by omega) q1 (by decide)]
    obtain ⟨r, t, ht, hp⟩ := first_dft (ordL_up rs) ho.dft
    by_cases hz : j = 0
    · subst hz
      have e0 : (ordL Rl.key rs)[0] = r := by simp [ht]
      rw [e0, if_pos hp, plW_def (by have := ho.err _ hm; rwa [e0] at this) hp, line_from _ _ _ _ (by simp)]
      simp
      exact ⟨by omega, rfl⟩
    · have hne : ((ordL Rl.key rs)[j]).p ≠ ⟨#[]⟩ := by
        intro q
        have hn := ho.nd
        have h2 : (((ordL Rl.key rs).map (·.p))[0]'(by rw [List.length_map]; omega)) = ((ordL Rl.key rs).map (·.p))[j]'(by rw [List.length_map]; omega) := by
          simp only [List.getElem_map]
          rw [q]
          simp [ht, hp]
        exact hz ((List.getElem_inj hn).1 h2).symm
      rw [if_neg hne, plW_rule (ho.err _ hm) hne, line_from _ _ _ _ (by simp)]
      rw [if_pos (by omega)]
      have : ((1 + (prLines most rs).length : Nat) : Int) = (prLines most rs).length + 1 := by omega
      rw [this]
      rfl
end Go.Proofs.Ytknlojlcahgnoaa

/- Plain: the rows of a text: each ends with the end of a line. -/
namespace Go.Proofs.Ytknlojlcahgnoaa
open Go.RowKit
set_option linter.unusedVariables false
set_option linter.unusedSimpArgs false

def rowStep (s : List (List UInt8) × List UInt8) (b : UInt8) : List (List UInt8) × List UInt8 := if b = 10 then (s.1 ++ [s.2 ++ [b]], []) else (s.1, s.2 ++ [b])
def rowRun (s : List (List UInt8) × List UInt8) (l : List UInt8) : List (List UInt8) × List UInt8 := l.foldl rowStep s
def rowsTo (l : List UInt8) : List (List UInt8) × List UInt8 := rowRun ([], []) l
theorem rowRun_app (s : List (List UInt8) × List UInt8) (a b : List UInt8) : rowRun s (a ++ b) = rowRun (rowRun s a) b := by unfold rowRun; rw [List.foldl_append]
theorem rowsTo_snoc (l : List UInt8) (b : UInt8) : rowsTo (l ++ [b]) = rowStep (rowsTo l) b := by unfold rowsTo; rw [rowRun_app]; rfl
theorem rowsTo_all (l : List UInt8) : (rowsTo l).1.flatten ++ (rowsTo l).2 = l := by
  induction l using list_snoc' with
  | h0 => rfl
  | h1 l b ih =>
    rw [rowsTo_snoc]
    unfold rowStep
    split
    · simp only [List.flatten_append, List.flatten_cons, List.flatten_nil, List.append_nil]
      rw [← List.append_assoc, ih]
    · show (rowsTo l).1.flatten ++ ((rowsTo l).2 ++ [b]) = _
      rw [← List.append_assoc, ih]
theorem rowsTo_len (l : List UInt8) : (rowsTo l).1.length ≤ l.length ∧ (rowsTo l).2.length ≤ l.length := by
  constructor
  · induction l using list_snoc' with
    | h0 => exact Nat.le_refl _
    | h1 l b ih =>
      rw [rowsTo_snoc, List.length_append]
      unfold rowStep
      split <;> simp <;> omega
  · have := congrArg List.length (rowsTo_all l)
    rw [List.length_append] at this
    omega
/-- the window of a row that ends at k -/
theorem row_win (t : List UInt8) (k : Nat) (hk : k < t.length) : (t.drop (k - (rowsTo (t.take k)).2.length)).take ((rowsTo (t.take k)).2.length + 1) = (rowsTo (t.take k)).2 ++ [t[k]] := by
  have h := rowsTo_all (t.take k)
  have hl := (rowsTo_len (t.take k)).2
  rw [List.length_take, Nat.min_eq_left (by omega)] at hl
  generalize (rowsTo (t.take k)).1.flatten = A at *
  generalize (rowsTo (t.take k)).2 = c at *
  have hA : A.length = k - c.length := by
    have := congrArg List.length h
    rw [List.length_append, List.length_take, Nat.min_eq_left (by omega)] at this
    omega
  have e : t = A ++ (c ++ t[k] :: t.drop (k + 1)) := by
    rw [← List.append_assoc, h]
    conv => lhs; rw [← List.take_append_drop k t]
    rw [List.drop_eq_getElem_cons hk]
  have e2 : t.drop (k - c.length) = c ++ t[k] :: t.drop (k + 1) := by
    conv => lhs; rw [e]
    rw [← hA, List.drop_left]
  rw [e2, show c ++ t[k] :: t.drop (k + 1) = (c ++ [t[k]]) ++ t.drop (k + 1) by simp]
  rw [show c.length + 1 = (c ++ [t[k]]).length by simp, List.take_left]
theorem row_free : ∀ (l : List UInt8) (s : List (List UInt8) × List UInt8), 10 ∉ l → rowRun s l = (s.1, s.2 ++ l)
  | [], s, _ => by simp [rowRun]
  | b :: l, s, h => by
    have h1 : b ≠ 10 := fun q => h (by simp [q])
    show rowRun (rowStep s b) l = _
    rw [row_free l _ fun q => h (by simp [q])]
    unfold rowStep
    rw [if_neg h1]
    simp
theorem rows_text : ∀ (ls : List (List ByteArray)) (rows : List (List UInt8)), (∀ l ∈ ls, LineOk l) → rowRun (rows, []) (joinText ls) = (rows ++ ls.map (fun l => joinL l ++ [10]), [])
  | [], rows, _ => by simp [joinText, rowRun]
  | l :: r, rows, h => by
    have e : joinText (l :: r) = joinL l ++ ([10] ++ joinText r) := by simp [joinText]
    rw [e, rowRun_app, row_free _ _ (no_end (h l (by simp)).2.1), rowRun_app]
    show rowRun (rowStep (rows, [] ++ joinL l) 10) _ = _
    have e2 : rowStep (rows, [] ++ joinL l) 10 = (rows ++ [joinL l ++ [10]], []) := by unfold rowStep; rw [if_pos rfl]; simp
    rw [e2, rows_text r _ fun x hx => h x (by simp [hx])]
    simp
theorem rows_pr {most : Int} {rs : List Rl} (h : PolOk most rs) : rowsTo (prText most rs) = ((prLines most rs).map (fun l => joinL l ++ [10]), []) := by
  have := rows_text (prLines most rs) [] h.ord.lines
  rw [List.nil_append] at this
  exact this
end Go.Proofs.Ytknlojlcahgnoaa
