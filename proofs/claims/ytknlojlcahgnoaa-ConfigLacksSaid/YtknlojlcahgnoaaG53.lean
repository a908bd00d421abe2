/- Plain: which policies may be; those of choices may be. Plain: what lacks of a text of rules. Walk: tollerlaw12.known. -/
import Derived.Lib.SlBytesConst
import Derived.Test.YtknlojlcahgnoaaG52
import Derived.Test.YtknlojlcahgnoaaG48
import Derived.Test.YtknlojlcahgnoaaG36
import Derived.Test.YtknlojlcahgnoaaG29

/- Plain: which policies may be; those of choices may be. -/
namespace Go.Proofs.Ytknlojlcahgnoaa
open Go.RowKit
set_option linter.unusedVariables false
set_option linter.unusedSimpArgs false

theorem key_inj {r s : Rl} (h : r.key = s.key) : r.p = s.p := by
  unfold Rl.key at h
  exact ByteArray.ext (Array.toList_inj.1 h)
theorem lt_of_up {a b : List UInt8} (h : ¬ b < a) (n : a ≠ b) : a < b := by
  by_cases q : a < b
  · exact q
  · exact absurd (List.le_antisymm (List.not_lt.1 h) (List.not_lt.1 q)) n
theorem keyLt_yes {a b : ByteArray} (h : a.data.toList < b.data.toList) : keyLt a b = true := by
  unfold keyLt
  rw [decide_eq_true_eq, keyLt_iff]
  exact h
theorem sorted_up : ∀ {l : List Rl}, UpL Rl.key l → (l.map (·.p)).Nodup → sortedB (l.map (·.p)) = true
  | [], _, _ => rfl
  | [_], _, _ => rfl
  | a :: b :: t, h, n => by
    have h1 := List.pairwise_cons.1 h
    have n1 := List.nodup_cons.1 n
    show (keyLt a.p b.p && sortedB ((b :: t).map (·.p))) = true
    rw [sorted_up h1.2 n1.2, Bool.and_true]
    refine keyLt_yes (lt_of_up (h1.1 b (by simp)) fun e => ?_)
    have := key_inj (r := a) (s := b) e
    exact n1.1 (List.mem_map.2 ⟨b, by simp, this.symm⟩)
theorem up_sorted : ∀ {l : List ByteArray}, sortedB l = true → l.Pairwise fun a b => a.data.toList < b.data.toList
  | [], _ => List.Pairwise.nil
  | [_], _ => by simp
  | a :: b :: t, h => by
    have h2 : keyLt a b = true ∧ sortedB (b :: t) = true := by simpa [sortedB] using h
    have ih := up_sorted h2.2
    have hab : a.data.toList < b.data.toList := by have := h2.1; unfold keyLt at this; rw [decide_eq_true_eq, keyLt_iff] at this; exact this
    refine List.pairwise_cons.2 ⟨fun x hx => ?_, ih⟩
    rcases List.mem_cons.1 hx with rfl | hx
    · exact hab
    · exact List.lt_trans hab ((List.pairwise_cons.1 ih).1 x hx)
theorem sorted_nodup {l : List ByteArray} (h : sortedB l = true) : l.Nodup := by
  refine (up_sorted h).imp fun {a b} q e => ?_
  subst e
  exact List.lt_irrefl _ q
theorem restL_cons (r : Rl) (t : List Rl) : restL (r :: t) = if r.p = ⟨#[]⟩ then (if sortedB ((r :: t).map (·.p)) = true then 0 else 28) else 31 := rfl
/-- the first one of all that are in order is the one for all -/
theorem first_dft {l : List Rl} (h : UpL Rl.key l) (hd : (⟨#[]⟩ : ByteArray) ∈ l.map (·.p)) : ∃ r t, l = r :: t ∧ r.p = ⟨#[]⟩ := by
  cases l with
  | nil => simp at hd
  | cons r t =>
    refine ⟨r, t, rfl, ?_⟩
    by_cases q : r.p = ⟨#[]⟩
    · exact q
    · exfalso
      obtain ⟨x, hx, hp⟩ := List.mem_map.1 hd
      rcases List.mem_cons.1 hx with rfl | hx
      · exact q hp
      · have := (List.pairwise_cons.1 h).1 x hx
        apply this
        have e : x.key = [] := by unfold Rl.key; rw [show x.p = ⟨#[]⟩ from hp]
        rw [e]
        cases hk : r.key with
        | nil => exact absurd (ByteArray.ext (Array.toList_inj.1 (by unfold Rl.key at hk; rw [hk]))) q
        | cons a b => exact List.nil_lt_cons a b
theorem PolOk.cfg {most : Int} {rs : List Rl} (h : PolOk most rs) : cfgErr most rs = 0 := by
  have h0 := h.m0
  have h1 := h.m1
  have h2 := h.len
  have ho := h.ord
  rw [cfgErr_rest (by omega) (by omega) h.err]
  unfold cfgRest
  obtain ⟨r, t, e, hr⟩ := first_dft (ordL_up rs) ho.dft
  have hs := sorted_up (ordL_up rs) ho.nd
  rw [e] at hs ⊢
  rw [restL_cons, if_pos hr, if_pos hs]
theorem PolOk.of {most : Int} {rs : List Rl} (h : cfgErr most rs = 0) (ho : ∀ r ∈ rs, RlOk r) : PolOk most rs := by
  obtain ⟨z1, z2, z3⟩ := cfg_zero h
  have he := cfgErr_rules h
  have p := (ordL_perm (key := Rl.key) rs).map (·.p)
  rw [cfgErr_rest (by omega) (by omega) he] at h
  unfold cfgRest at h
  cases q : ordL Rl.key rs with
  | nil => rw [q] at h; simp [restL] at h
  | cons r t =>
    rw [q] at h p
    rw [restL_cons] at h
    split at h
    · rename_i hr
      split at h
      · rename_i hs
        exact ⟨z1, z2, ho, he, p.nodup_iff.1 (sorted_nodup hs), z3, p.mem_iff.1 (by rw [List.map_cons, hr]; simp)⟩
      · omega
    · omega
/-- what is without a rule for all -/
theorem cfg_no_dft {most : Int} {rs : List Rl} (h0 : 1 ≤ most) (h1 : most ≤ 1000000) (he : ∀ r ∈ rs, rErr r = 0) (hl : rs.length ≤ 1000) (hd : (⟨#[]⟩ : ByteArray) ∉ rs.map (·.p)) : cfgErr most rs = 31 := by
  rw [cfgErr_rest (by omega) (by omega) he]
  unfold cfgRest
  cases q : ordL Rl.key rs with
  | nil => rfl
  | cons r t =>
    rw [restL_cons, if_neg]
    intro e
    have p := (ordL_perm (key := Rl.key) rs).map (·.p)
    exact hd (p.mem_iff.1 (by rw [q, List.map_cons, e]; simp))
/-! ## policies of choices -/
theorem numsR_err {w : World} {d : Nms} (h : NmsOk w d) : rErr (numsR d) = 0 := by
  have hk := (keyText_ok d.pre).1
  have hp : prefOk (keyText d.pre) = true := by unfold prefOk; rw [hk]; simp
  have h1 := h.e0; have h2 := h.e1; have h3 := h.b0; have h4 := h.b1; have h5 := h.k0; have h6 := h.k1
  have hm : ∀ x y : Int, 0 ≤ x → x ≤ 4294967296 → 0 ≤ y → y ≤ 65536 → x * y ≤ 4611686018427387904 := fun x y q1 q2 q3 q4 => by
    have : x * y ≤ 4294967296 * 65536 := Int.mul_le_mul q2 q4 q3 (by omega)
    omega
  have hr : rightKind (1 + d.kind % 3) = true := by unfold rightKind; simp; omega
  unfold rErr numsR nmR
  split
  · exact ruleErr_yes hp (by show 0 < 1 + d.every % 50; omega) (by show 0 < 1 + d.burst % 9; omega) (capOk_yes (hm (1 + d.every % 50) (1 + d.burst % 9) (by omega) (by omega) (by omega) (by omega))) hr
  · exact ruleErr_yes hp (by show 0 < 1 + d.every; omega) (by show 0 < 1 + d.burst; omega) (capOk_yes (hm (1 + d.every) (1 + d.burst) (by omega) (by omega) (by omega) (by omega))) hr
theorem polR0_err {n : Int} (h : 0 ≤ n) : rErr (polR0 n) = 0 := ruleErr_yes (show prefOk ⟨#[]⟩ = true by decide) (by show (0 : Int) < 1000; decide) (by show (0 : Int) < 5; decide) (capOk_yes (by show (1000 : Int) * 5 ≤ _; decide)) (by show rightKind (1 + n % 3) = true; unfold rightKind; simp; omega)
theorem polNew_iff {rs : List Rl} {p : ByteArray} : polNew rs p = true ↔ p ∉ rs.map (·.p) := by
  unfold polNew
  simp
theorem polTo_all {n : Int} (hn : 0 ≤ n) {w : World} (l : List Nms) (hl : ∀ d ∈ l, NmsOk w d) : (∀ r ∈ polTo n l, rErr r = 0) ∧ ((polTo n l).map (·.p)).Nodup ∧ ∃ t, polTo n l = polR0 n :: t := by
  induction l using list_snoc with
  | h0 => exact ⟨fun r hr => by obtain rfl := List.mem_singleton.1 hr; exact polR0_err hn, by simp [polTo], [], rfl⟩
  | h1 l d ih =>
    obtain ⟨i1, i2, t, i3⟩ := ih fun x hx => hl x (List.mem_append_left _ hx)
    rw [polTo_snoc]
    unfold polAdd
    split
    · rename_i q
      rw [polNew_iff] at q
      refine ⟨fun r hr => ?_, ?_, t ++ [numsR d], by rw [i3]; rfl⟩
      · rcases List.mem_append.1 hr with hr | hr
        · exact i1 r hr
        · rw [List.mem_singleton.1 hr]; exact numsR_err (hl d (by simp))
      · rw [List.map_append, List.nodup_append]
        refine ⟨i2, by simp, fun a ha b hb e => ?_⟩
        rw [List.map_singleton, List.mem_singleton] at hb
        exact q (by rw [← hb, ← e]; exact ha)
    · exact ⟨i1, i2, t, i3⟩
theorem polRs_ok {n : Int} (hn : 0 ≤ n) {w : World} (l : List Nms) (hl : ∀ d ∈ l, NmsOk w d) : PolOk (1 + n % 50) (polRs n l) ∧ (polRs n l).length ≤ 13 ∧ ∃ t, polRs n l = polR0 n :: t := by
  have hl2 : ∀ d ∈ l.take 12, NmsOk w d := fun d hd => hl d (List.mem_of_mem_take hd)
  obtain ⟨a1, a2, t, a3⟩ := polTo_all hn (l.take 12) hl2
  have hlen := polTo_len n (l.take 12)
  have h12 : (l.take 12).length ≤ 12 := by rw [List.length_take]; omega
  refine ⟨⟨by omega, by omega, polTo_ok hn _ hl2, a1, a2, by unfold polRs; omega, ?_⟩, by unfold polRs; omega, t, a3⟩
  unfold polRs
  rw [a3]
  simp [polR0]
end Go.Proofs.Ytknlojlcahgnoaa

/- Plain: what lacks of a text of rules. -/
namespace Go.Proofs.Ytknlojlcahgnoaa
open Go.RowKit
set_option linter.unusedVariables false
set_option linter.unusedSimpArgs false

/-- behind the first end of a line; 0: there is none -/
def endOf : List UInt8 → Nat
  | [] => 0
  | b :: r => if b = 10 then 1 else if endOf r = 0 then 0 else endOf r + 1
theorem endOf_snoc : ∀ (l : List UInt8) (b : UInt8), endOf (l ++ [b]) = if endOf l = 0 then (if b = 10 then l.length + 1 else 0) else endOf l
  | [], b => by simp [endOf]
  | a :: r, b => by
    have ih := endOf_snoc r b
    simp only [List.cons_append, endOf, ih]
    by_cases h1 : a = 10
    · simp [h1]
    · by_cases h2 : endOf r = 0
      · by_cases h3 : b = 10
        · simp [h1, h2, h3]
        · simp [h1, h2, h3]
      · simp [h1, h2]
theorem endOf_app : ∀ (l r : List UInt8), 10 ∉ l → endOf (l ++ 10 :: r) = l.length + 1
  | [], r, _ => by simp [endOf]
  | a :: l, r, h => by
    have ih := endOf_app l r fun q => h (by simp [q])
    have h1 : a ≠ 10 := fun q => h (by simp [q])
    simp [endOf, ih, h1]
theorem no_end {l : List ByteArray} (h : ∀ s ∈ l, Vis s) : (10 : UInt8) ∉ joinL l := by
  have key : ∀ (ws : List ByteArray), (∀ s ∈ ws, Vis s) → ∀ b ∈ joinL ws, b ≠ 10 := by
    intro ws
    induction ws with
    | nil => intro _ b hb; simp [joinL, Lib.join, List.intercalate] at hb
    | cons s r ih =>
      intro h b hb
      have hv : ∀ b ∈ s.data.toList, b ≠ 10 := fun b hb e => by
        have := (h s (by simp)).2 b hb
        rw [e] at this
        revert this
        decide
      cases r with
      | nil => rw [joinL_one] at hb; exact hv b hb
      | cons t r =>
        rw [joinL_more] at hb
        rcases List.mem_append.1 hb with hb | hb
        · exact hv b hb
        · rcases List.mem_cons.1 hb with rfl | hb
          · decide
          · exact ih (fun x hx => h x (by simp only [List.mem_cons] at hx ⊢; exact Or.inr hx)) b hb
  exact fun hb => key l h _ hb rfl
theorem prText_eq (most : Int) (rs : List Rl) : prText most rs = (joinL [wSize, digStr most] ++ [10]) ++ joinText ((ordL Rl.key rs).map plW) := by simp [prText, prLines, joinText]
theorem pr_end {most : Int} {rs : List Rl} (h0 : 0 ≤ most) (h1 : most < 18446744073709551616) : endOf (prText most rs) = (joinL [wSize, digStr most]).length + 1 := by
  rw [prText_eq, List.append_assoc]
  exact endOf_app _ _ (no_end (size_ok h0 h1).2.1)
theorem pr_take {most : Int} {rs : List Rl} (h0 : 0 ≤ most) (h1 : most < 18446744073709551616) : (prText most rs).take (endOf (prText most rs)) = joinText [[wSize, digStr most]] ∧ (prText most rs).drop (endOf (prText most rs)) = joinText ((ordL Rl.key rs).map plW) := by
  rw [pr_end h0 h1, prText_eq]
  have e : (joinL [wSize, digStr most]).length + 1 = (joinL [wSize, digStr most] ++ [10]).length := by simp
  rw [e, List.take_left, List.drop_left]
  exact ⟨by simp [joinText], rfl⟩
theorem lacks_size {most : Int} {rs : List Rl} (h : PolOk most rs) : cfgParse (joinText (rs.map plW)) = ⟨30, 0, 0, 0, []⟩ := by
  have h0 := h.m0
  have h1 := h.m1
  have hsm := lines_small most (by omega) (by omega) rs h.ok h.err
  have hl := h.len
  have e : joinText ([wSize, digStr most] :: rs.map plW) = (joinL [wSize, digStr most] ++ [10]) ++ joinText (rs.map plW) := by simp [joinText]
  rw [e, List.length_append] at hsm
  obtain ⟨s1, s2⟩ := split_lns (ls := rs.map plW) (fun l hl => h.lines l (List.mem_cons_of_mem _ hl)) (by omega)
  unfold cfgParse
  rw [s1, s2, show cfg0 = ⟨0, []⟩ from rfl, cfg_lns rs 0 [] 1 h.err h.ok (by simpa using h.nd) (by simpa using hl)]
  simp only [ne_eq, not_true_eq_false, if_false, List.nil_append]
  unfold endErr
  simp [cfgBad]
theorem lacks_dft {most : Int} (h0 : 1 ≤ most) (h1 : most ≤ 1000000) : cfgParse (joinText [[wSize, digStr most]]) = ⟨31, 0, 0, 0, []⟩ := by
  have hsm := lines_small most (by omega) (by omega) [] (by simp) (by simp)
  simp only [List.map_nil, List.length_nil] at hsm
  obtain ⟨s1, s2⟩ := split_lns (ls := [[wSize, digStr most]]) (fun l hl => by rw [List.mem_singleton.1 hl]; exact size_ok (by omega) (by omega)) (by omega)
  obtain ⟨q1, q2⟩ := ln_size h0 h1 1 []
  have e : cfgLines cfg0 (lnsFrom 1 [[wSize, digStr most]]) = .inr ⟨most, []⟩ := by
    show (if (lnErr ⟨0, []⟩ (wdsFrom 1 1 [wSize, digStr most])).1 ≠ 0 then _ else cfgLines (lnPut ⟨0, []⟩ (wdsFrom 1 1 [wSize, digStr most])) []) = _
    rw [q1, q2, if_neg (by decide)]
    rfl
  unfold cfgParse
  rw [s1, s2, e]
  have hm : most ≠ 0 := by omega
  simp [endErr, hm, hasPre, cfgBad]
theorem lacks_all : cfgParse [] = ⟨30, 0, 0, 0, []⟩ := by kernel_rfl
end Go.Proofs.Ytknlojlcahgnoaa

/- Walk: tollerlaw12.known. -/
namespace Go.Proofs.Ytknlojlcahgnoaa
open Go.RowKit
set_option linter.unusedVariables false
set_option linter.unusedSimpArgs false

def k12_t : List UInt8 := [115, 105, 122, 101, 32, 50, 10, 100, 101, 102, 97, 117, 108, 116, 32, 49, 48, 32, 53, 32, 103, 99, 114, 97, 10]
def k12_u : List UInt8 := [115, 105, 122, 101, 32, 48]
def k12_r : Rl := ⟨⟨#[]⟩, 10, 5, 1⟩
theorem k12_ok : PolOk 2 [k12_r] := ⟨by decide, by decide, by
  intro r hr
  rw [List.mem_singleton.1 hr]
  exact ⟨show (⟨#[]⟩ : ByteArray).size ≤ maxLen by decide, by decide, by decide, by decide, by decide, by decide, by decide⟩, by
  intro r hr
  rw [List.mem_singleton.1 hr]
  decide, by simp, by simp, by simp [k12_r]⟩
theorem k12_pt : prText 2 [k12_r] = k12_t := by
  have e : ordL Rl.key [k12_r] = [k12_r] := by unfold ordL; rw [List.mergeSort_singleton]
  unfold prText prLines
  rw [e]
  show joinText ([wSize, digStr 2] :: [k12_r].map plW) = k12_t
  kernel_rfl
theorem k12_parse : cfgParse k12_t = ⟨0, 0, 0, 2, [k12_r]⟩ := by
  rw [← k12_pt, parse_print k12_ok]
  unfold ordL
  rw [List.mergeSort_singleton]
theorem k12_err : cfgErr 2 [k12_r] = 0 := k12_ok.cfg
theorem k12_zero : cfgParse k12_u = ⟨29, 1, 6, 0, []⟩ := by kernel_rfl

theorem bytes_lit (w : World) (C : Array Value) (r : Nat × Nat) (l : List UInt8) (hC : C = (l.map fun b => Value.int .u8 (b.toNat : Int)).toArray) (hl : l.length ≤ maxLen) {c n : Nat} (hn : n = l.length) : ByteSlice (w.alloc (.cells C 5 r)) (.slice (some ⟨w.heap.size, 0, none⟩) n c) l := by
  subst hn
  refine ⟨⟨_, _, rfl, fun _ => ⟨w.heap.size, 0, rfl, fun j hj => ?_⟩⟩, hl⟩
  subst hC
  rw [Nat.zero_add]
  unfold World.cell?
  dsimp only
  rw [heap_alloc_new]
  simp [hj]
theorem ParseIs.open {w w' : World} {l : List UInt8} {x : Ending} (h : ParseIs w l x w') {r : CfgRes} (e : cfgParse l = r) :
    ∃ v, x = .returned (.tuple #[.agg #[.int .i64 r.most, v], .int .u16 r.e, .agg #[.int .i64 r.ln, .int .i64 r.cl]]) ∧ RuleOwn w.heap.size w' v r.rs ∧ Ext w w' := by
  subst e
  exact h
set_option maxHeartbeats 2000000 in
set_option maxRecDepth 100000 in
theorem law12_known (w : World) :
    Calls Try.prog 11 #[] w fun x w' => x = .returned (.bool true) ∧ Ext w w' := by
  have kc : ∀ (w : World) (C : Array Value) (n c b : Nat), b = w.heap.size → (convert 24 24 (.slice (some ⟨b, 0, none⟩) n c)).run Try.prog (w.alloc (.cells C 5)) = .ok (.slice (some ⟨b, 0, none⟩) n c) (w.alloc (.cells C 5 (C.size, C.size + 1))) := fun w C n c b h => by
    subst h
    exact Lib.run_convert_bytes_const (P := Try.prog) w 24 5 C n c Try.underlying24 Try.underlying5
  go_enter Try.func11, Try.ntmps11
  go_wp2_with fail
  refine (config_Parse _ k12_t _ (bytes_lit w _ _ k12_t rfl (by decide) rfl) (fun a n c h => by cases h; exact Nat.le_refl _)).mono ?_
  intro x w1 h1
  obtain ⟨v1, rfl, ho1, hx1⟩ := h1.open k12_parse
  have hat := RuleOwn.at ho1
  obtain ⟨b1, o1, c1, rfl, hb1, hc1⟩ := RulesAt.cells0 hat
  have HX1 := Lib.hid (((Ext.refl w).alloc _).trans hx1)
  have HAT := Lib.hid hat
  clear h1 ho1 hx1 hat
  go_wp2_with fail
  have bP := (Blk.new w1 #[.int .i64 2, .slice (some ⟨b1, o1, none⟩) 1 c1] 27).alloc (.cells #[.int .i64 0, .int .i64 0] 37)
  have bA := Blk.new' (w1.alloc (.cells #[.int .i64 2, .slice (some ⟨b1, o1, none⟩) 1 c1] 27)) #[.int .i64 0, .int .i64 0] 37 (b := w1.heap.size + 1) (by simp)
  have hxa : Ext w1 ((w1.alloc (.cells #[.int .i64 2, .slice (some ⟨b1, o1, none⟩) 1 c1] 27)).alloc (.cells #[.int .i64 0, .int .i64 0] 37)) := ((Ext.refl w1).alloc _).alloc _
  have hsa : w1.heap.size + 1 + 1 = ((w1.alloc (.cells #[.int .i64 2, .slice (some ⟨b1, o1, none⟩) 1 c1] 27)).alloc (.cells #[.int .i64 0, .int .i64 0] 37)).heap.size := by simp
  generalize (w1.alloc (.cells #[.int .i64 2, .slice (some ⟨b1, o1, none⟩) 1 c1] 27)).alloc (.cells #[.int .i64 0, .int .i64 0] 37) = wa at *
  rw [hsa]
  refine (config_Parse _ k12_u _ (bytes_lit wa _ _ k12_u rfl (by decide) rfl) (fun a n c h => by cases h; exact Nat.le_refl _)).mono ?_
  intro x w2 h2
  obtain ⟨v2, rfl, ho2, hx2⟩ := h2.open k12_zero
  obtain ⟨a2, e2, rfl⟩ := (RuleOwn.at ho2).size
  clear ho2
  have hx2 : Ext wa w2 := ((Ext.refl wa).alloc _).trans hx2
  have HBP := Lib.hid (bP.ext hx2)
  have HBA := Lib.hid (bA.ext hx2)
  have HX2 := Lib.hid (HX1.out.trans (hxa.trans hx2))
  have HAT2 := Lib.hid (HAT.out.ext Rl.size4 (hxa.trans hx2))
  clear h2 hx2 hxa hsa bP bA hc1 HAT HX1
  have c0 : w2.cell? ⟨w1.heap.size, 0, none⟩ = some (.int .i64 2) := HBP.out.cell 0
  have c1' : w2.cell? ⟨w1.heap.size, 1, none⟩ = some (.slice (some ⟨b1, o1, none⟩) 1 c1) := HBP.out.cell 1
  have c2 : w2.cell? ⟨w1.heap.size + 1, 0, none⟩ = some (.int .i64 0) := HBA.out.cell 0
  have c3 : w2.cell? ⟨w1.heap.size + 1, 1, none⟩ = some (.int .i64 0) := HBA.out.cell 1
  have lP := HBP.out.lt
  have lA := HBA.out.lt
  have nP : w1.heap.size ≠ w2.heap.size := by omega
  have nP2 : w1.heap.size ≠ w2.heap.size + 1 := by omega
  have HRI := Lib.hid (fun V h => config_Right 2 (.slice (some ⟨b1, o1, none⟩) 1 c1) [k12_r] V (by decide) (by decide) h k12_ok.ok (by decide))
  rw [k12_err] at HRI
  go_wp2_with (first
    | (go_at_call 15; refine (HRI.out _ (HAT2.out.ext Rl.size4 (((Ext.refl w2).alloc _).alloc _))).mono ?_; rintro x w3 ⟨rfl, hx3⟩)
    | fail)
  go_ret
  exact ⟨rfl, HX2.out.trans ((((Ext.refl w2).alloc _).alloc _).trans hx3)⟩
end Go.Proofs.Ytknlojlcahgnoaa
