/- A deferred closure whose first statement is 'x := recover()'. A scope with several labels, between which the run jumps back and forth. The end of a function that defers and has three results that lie in memory. What is printed is read: decimal digits, plainly. -/
import Derived.Defers
import Derived.Recover
import Derived.Test.YtknlojlcahgnoaaGreatCf0
import Derived.Test.YtknlojlcahgnoaaGreatCf2

namespace Go.Proofs.YtknlojlcahgnoaaGreat
open Go.RowKit

theorem opsS_recover {P : Program} {ops : Array Oper} {Q : Exit → Act → List Frame → World → Prop} {a : Act} {cs cs' : List Frame} {w : World} {v : Value} {o0 o1 : Oper} {d : Tmp} {l : List Nat} {a2 : Act} (hl : l = [0, 1]) (h0 : ops[0]? = some o0) (h1 : ops[1]? = some o1) (g0 : o0.guard = none) (g1 : o1.guard = none)
    (e0 : o0.op = .call { callee := .builtin .recover, args := #[], argTypes := #[] }) (e1 : o1.op = .assign (.tmp d)) (hr : recoverD cs = some (v, cs')) (ha : (a.put o0.dst v).put o1.dst ((a.put o0.dst v).eval (.tmp d)) = a2) (hq : Q .normal a2 cs' w) : wpOpsS P ops Q l a cs w := by
  subst hl
  subst ha
  have w0 : Region.wanted o0 (yielded ops a.tmps) = true := by simp [Region.wanted, g0]
  have w1 : Region.wanted o1 (yielded ops (a.put o0.dst v).tmps) = true := by simp [Region.wanted, g1]
  have r0 : (execOp a.eval o0).run P w = .ok .recover w := by unfold execOp; rw [e0]; simp [resolve, invoke, builtin]
  have r1 : (execOp (a.put o0.dst v).eval o1).run P w = .ok (.value ((a.put o0.dst v).eval (.tmp d))) w := by unfold execOp; rw [e1]; rfl
  simp only [wpOpsS, h0, h1, w0, w1, r0, r1, hr, if_true, Oper.upon]
  exact hq
theorem opsS_recover_none {P : Program} {ops : Array Oper} {Q : Exit → Act → List Frame → World → Prop} {a : Act} {cs : List Frame} {w : World} {o0 o1 : Oper} {d : Tmp} {l : List Nat} {a2 : Act} (hl : l = [0, 1]) (h0 : ops[0]? = some o0) (h1 : ops[1]? = some o1) (g0 : o0.guard = none) (g1 : o1.guard = none)
    (e0 : o0.op = .call { callee := .builtin .recover, args := #[], argTypes := #[] }) (e1 : o1.op = .assign (.tmp d)) (hr : recoverD cs = none) (ha : (a.put o0.dst .nilIface).put o1.dst ((a.put o0.dst .nilIface).eval (.tmp d)) = a2) (hq : Q .normal a2 cs w) : wpOpsS P ops Q l a cs w := by
  subst hl
  subst ha
  have w0 : Region.wanted o0 (yielded ops a.tmps) = true := by simp [Region.wanted, g0]
  have w1 : Region.wanted o1 (yielded ops (a.put o0.dst .nilIface).tmps) = true := by simp [Region.wanted, g1]
  have r0 : (execOp a.eval o0).run P w = .ok .recover w := by unfold execOp; rw [e0]; simp [resolve, invoke, builtin]
  have r1 : (execOp (a.put o0.dst .nilIface).eval o1).run P w = .ok (.value ((a.put o0.dst .nilIface).eval (.tmp d))) w := by unfold execOp; rw [e1]; rfl
  simp only [wpOpsS, h0, h1, w0, w1, r0, r1, hr, if_true, Oper.upon]
  exact hq
end Go.Proofs.YtknlojlcahgnoaaGreat

namespace Go.Proofs.YtknlojlcahgnoaaGreat
open Go.RowKit

/-- As Q; by a goto to label l: J l. -/
def exitTo' (J : Nat → Act → World → Prop) (Q : Exit → Act → World → Prop) : Exit → Act → World → Prop
  | .goto l, a, w => J l a w
  | e, a, w => Q e a w
theorem exitTo'_ret (J : Nat → Act → World → Prop) (Q : Exit → Act → World → Prop) (a : Act) (w : World) : exitTo' J Q .ret a w = Q .ret a w := rfl
theorem wp_scope_labels {P : Program} {a : Act} {w : World} {Q : Exit → Act → World → Prop} {c : Code} (J : Nat → Act → World → Prop) (rest : Nat → Code) (μ : Nat → Act → World → Nat)
    (hf : ∀ l a w, J l a w → findLabel c l = some (Code.skip.seq (rest l)))
    (pass : ∀ l a w, J l a w → (rest l).wp P (exitTo' (fun l' a' w' => J l' a' w' ∧ μ l' a' w' < μ l a w) Q) a w)
    (first : (∀ l a w, J l a w → (rest l).wp P (exitTo' J Q) a w) → c.wp P (exitTo' J Q) a w) : (Code.scope c).wp P Q a w := by
  intro b k cs
  have key : ∀ n l a w, μ l a w = n → J l a w → ∃ e a' w', Q e a' w' ∧ Arrives P (lone (b.at a (.code (Code.skip.seq (rest l)) :: .inScope c :: k)) cs w) b k cs e a' w' := by
    intro n
    induction n using Nat.strongRecOn with
    | _ n ih =>
      intro l a w hn hJ
      obtain ⟨e, a₁, w₁, hq, harr⟩ := wp_seq (wp_skip (pass l a w hJ)) b (.inScope c :: k) cs
      cases e with
      | normal => exact ⟨.normal, a₁, w₁, hq, Steps.trans harr (.one step_inScope)⟩
      | exit id => exact ⟨.exit id, a₁, w₁, hq, fun k' hk => harr k' (by simp [exitTo, hk])⟩
      | goto l' =>
        obtain ⟨hJ', hlt⟩ := hq
        obtain ⟨e₂, a₂, w₂, hq₂, harr₂⟩ := ih _ (by omega) l' a₁ w₁ rfl hJ'
        have hg : gotoIn l' (.inScope c :: k) = some (.code (Code.skip.seq (rest l')) :: .inScope c :: k) := by simp [gotoIn, hf l' a₁ w₁ hJ']
        exact ⟨e₂, a₂, w₂, hq₂, .of_steps (harr _ hg) harr₂⟩
      | ret => exact ⟨_, a₁, w₁, hq, harr⟩
      | panic ch => exact ⟨_, a₁, w₁, hq, harr⟩
      | outgrown => exact ⟨_, a₁, w₁, hq, harr⟩
  have hfirst := first fun l a w h => Code.wp_mono (fun e a' w' q => by
    cases e with
    | goto l' => exact q.1
    | _ => exact q) (pass l a w h)
  obtain ⟨e, a₁, w₁, hq, harr⟩ := hfirst b (.inScope c :: k) cs
  cases e with
  | normal => exact ⟨.normal, a₁, w₁, hq, .head step_scope (Steps.trans harr (.one step_inScope))⟩
  | exit id => exact ⟨.exit id, a₁, w₁, hq, fun k' hk => .head step_scope (harr k' (by simp [exitTo, hk]))⟩
  | goto l' =>
    have hJ' : J l' a₁ w₁ := hq
    obtain ⟨e₂, a₂, w₂, hq₂, harr₂⟩ := key _ l' a₁ w₁ rfl hJ'
    have hg : gotoIn l' (.inScope c :: k) = some (.code (Code.skip.seq (rest l')) :: .inScope c :: k) := by simp [gotoIn, hf l' a₁ w₁ hJ']
    exact ⟨e₂, a₂, w₂, hq₂, .of_steps (.head step_scope (harr _ hg)) harr₂⟩
  | ret => exact ⟨_, a₁, w₁, hq, .of_steps (.one step_scope) harr⟩
  | panic ch => exact ⟨_, a₁, w₁, hq, .of_steps (.one step_scope) harr⟩
  | outgrown => exact ⟨_, a₁, w₁, hq, .of_steps (.one step_scope) harr⟩

/-- two labels: to the one the run jumps back again and again, at the other one it ends -/
theorem wp_scope_two {P : Program} {a : Act} {w : World} {Q : Exit → Act → World → Prop} {c r0 r1 : Code} (l0 l1 : Nat) (hne : l0 ≠ l1) (J0 J1 : Act → World → Prop) (μ : Act → World → Nat)
    (h0 : findLabel c l0 = some (Code.skip.seq r0)) (h1 : findLabel c l1 = some (Code.skip.seq r1))
    (pass0 : ∀ a w, J0 a w → r0.wp P (exitTo' (fun _ _ _ => False) Q) a w)
    (pass1 : ∀ a w, J1 a w → r1.wp P (exitTo' (fun l a' w' => (l = l1 ∧ J1 a' w' ∧ μ a' w' < μ a w) ∨ (l = l0 ∧ J0 a' w')) Q) a w)
    (first : (∀ a w, J1 a w → r1.wp P (exitTo' (fun l a' w' => (l = l1 ∧ J1 a' w') ∨ (l = l0 ∧ J0 a' w')) Q) a w) → c.wp P (exitTo' (fun l a' w' => (l = l1 ∧ J1 a' w') ∨ (l = l0 ∧ J0 a' w')) Q) a w) : (Code.scope c).wp P Q a w := by
  refine wp_scope_labels (fun l a w => (l = l1 ∧ J1 a w) ∨ (l = l0 ∧ J0 a w)) (fun l => if l = l1 then r1 else r0) (fun l a w => if l = l1 then μ a w + 1 else 0) ?_ ?_ ?_
  · rintro l a w (⟨rfl, -⟩ | ⟨rfl, -⟩)
    · simp only [if_true]; exact h1
    · simp only [if_neg hne]; exact h0
  · rintro l a w (⟨rfl, h⟩ | ⟨rfl, h⟩)
    · simp only [if_true]
      refine Code.wp_mono (fun e a' w' q => ?_) (pass1 a w h)
      cases e with
      | goto l' =>
        rcases q with ⟨rfl, q1, q2⟩ | ⟨rfl, q1⟩
        · exact ⟨Or.inl ⟨rfl, q1⟩, by simp only [if_true]; omega⟩
        · exact ⟨Or.inr ⟨rfl, q1⟩, by simp only [if_neg hne]; omega⟩
      | _ => exact q
    · simp only [if_neg hne]
      refine Code.wp_mono (fun e a' w' q => ?_) (pass0 a w h)
      cases e with
      | goto l' => exact q.elim
      | _ => exact q
  · intro h
    refine first fun a w hJ => ?_
    have := h l1 a w (Or.inl ⟨rfl, hJ⟩)
    simp only [if_true] at this
    exact this
end Go.Proofs.YtknlojlcahgnoaaGreat

namespace Go.Proofs.YtknlojlcahgnoaaGreat
open Go.RowKit
set_option linter.unusedVariables false

section
variable {P : Program}
theorem leaves_ccc {fn : Func} {R : Ending → World → Prop} {tmps : Array Value} {w : World} {p q c : Tmp} {ty0 ty1 ty2 t0 t1 t2 : TypeId} {g0 g1 g2 : Nat} {C0 C2 : Array Value} {k : IntKind} {n : Int} {d0 d2 : TypeDesc} (h : fn.results = #[.cell p ty0, .cell q ty1, .cell c ty2])
    (hp : tmps.getD p undef = .pointer (some ⟨g0, 0, none⟩)) (hq : tmps.getD q undef = .pointer (some ⟨g1, 0, none⟩)) (hc : tmps.getD c undef = .pointer (some ⟨g2, 0, none⟩)) (hB0 : Blk w g0 C0 t0) (hB1 : Blk w g1 #[.int k n] t1) (hB2 : Blk w g2 C2 t2)
    (hu0 : P.underlying ty0 = some d0) (hd0 : aggKind d0 = true) (hi0 : (P.info? ty0).map (·.size) = some C0.size) (ha1 : ∀ w, (isAgg ty1).run P w = .ok false w) (hu2 : P.underlying ty2 = some d2) (hd2 : aggKind d2 = true) (hi2 : (P.info? ty2).map (·.size) = some C2.size)
    (hR : R (.returned (.tuple #[.agg C0, .int k n, .agg C2])) w) : Leaves P fn tmps R [] .returning w := by
  have hp' : tmps[p]?.getD undef = .pointer (some ⟨g0, 0, none⟩) := by simpa using hp
  have hq' : tmps[q]?.getD undef = .pointer (some ⟨g1, 0, none⟩) := by simpa using hq
  have hc' : tmps[c]?.getD undef = .pointer (some ⟨g2, 0, none⟩) := by simpa using hc
  have r1 : (loadVar ty1 ⟨g1, 0, none⟩).run P w = .ok (.int k n) w := by
    have := hB1.cell 0
    simp [go_sem, loadVar, ha1, this]
  refine ⟨.tuple #[.agg C0, .int k n, .agg C2], ?_, hR⟩
  simp [results, h, hp', hq', hc', asAddr, run_loadVar_blk hB0 hu0 hd0 hi0, run_loadVar_blk hB2 hu2 hd2 hi2, r1]
end
end Go.Proofs.YtknlojlcahgnoaaGreat

namespace Go.Proofs.YtknlojlcahgnoaaGreat
open Go.RowKit
set_option linter.unusedVariables false
set_option linter.unusedSimpArgs false

theorem digit_toNat (k : Nat) (h : k < 10) : (UInt8.ofNat (48 + k)).toNat = 48 + k := by
  simp
  omega
theorem digit_isDig (k : Nat) (h : k < 10) : isDig (UInt8.ofNat (48 + k)) = true := by
  rw [isDig_iff, digit_toNat k h]
  omega

theorem pdig_spec (n : Nat) (h : n < 100000000000000000000) :
    (pdig n).all isDig = true ∧ dval (pdig n) = n ∧ 1 ≤ (pdig n).length ∧ (pdig n).length ≤ 20 ∧ (1 ≤ n → ((pdig n).getD 0 0).toNat ≠ 48) ∧ (n < 10 → (pdig n).length = 1) := by
  have key : ∀ m n : Nat, n ≤ m → n < 100000000000000000000 →
      (pdig n).all isDig = true ∧ dval (pdig n) = n ∧ 1 ≤ (pdig n).length ∧ (1 ≤ n → ((pdig n).getD 0 0).toNat ≠ 48) ∧ (n < 10 → (pdig n).length = 1) ∧ ∀ k, n < 10 ^ (k + 1) → (pdig n).length ≤ k + 1 := by
    intro m
    induction m with
    | zero =>
      intro n hn _
      obtain rfl : n = 0 := by omega
      have e : pdig 0 = [UInt8.ofNat 48] := rfl
      rw [e]
      exact ⟨by decide, by decide, by decide, by omega, fun _ => rfl, fun k _ => by simp⟩
    | succ m ih =>
      intro n hn hlt
      rw [pdig_eq n hlt]
      by_cases h10 : n < 10
      · rw [if_pos h10]
        refine ⟨by rw [List.all_cons, digit_isDig n h10]; rfl, ?_, by simp, ?_, fun _ => rfl, fun k _ => by simp⟩
        · simp only [dval, List.foldl_cons, List.foldl_nil]; rw [digit_toNat n h10]; omega
        · intro h1
          simp only [List.getD_cons_zero]
          rw [digit_toNat n h10]; omega
      · rw [if_neg h10]
        obtain ⟨a1, a2, a3, a4, a5, a6⟩ := ih (n / 10) (by omega) (by omega)
        refine ⟨by rw [List.all_append, a1, List.all_cons, digit_isDig (n % 10) (by omega)]; rfl, ?_, by simp, ?_, by omega, ?_⟩
        · rw [dval_snoc, a2, digit_toNat (n % 10) (by omega)]; omega
        · intro _
          have := a4 (by omega)
          rw [List.getD_eq_getElem?_getD, List.getElem?_append_left (by omega), ← List.getD_eq_getElem?_getD]
          exact this
        · intro k hk
          rw [List.length_append, List.length_singleton]
          rcases k with _ | k
          · simp at hk; omega
          · have := a6 k (by rw [Nat.div_lt_iff_lt_mul (by omega), ← Nat.pow_succ]; exact hk)
            omega
  obtain ⟨a1, a2, a3, a4, a5, a6⟩ := key n n (Nat.le_refl _) h
  exact ⟨a1, a2, a3, a6 19 (by omega), a4, a5⟩

theorem digStr_data (n : Int) : (digStr n).data.toList = pdig n.toNat := by simp [digStr]
theorem digStr_size (n : Int) : (digStr n).size = (pdig n.toNat).length := by rw [← data_len, digStr_data]

/-- what is printed is read -/
theorem dig_back (n : Int) (h0 : 0 ≤ n) (h1 : n < 18446744073709551616) : digErr (digStr n) = 0 ∧ digNum (digStr n) = n ∧ (digStr n).size ≤ 20 ∧ 0 < (digStr n).size := by
  obtain ⟨a1, a2, a3, a4, a5, a6⟩ := pdig_spec n.toNat (by omega)
  have hl : digLead (digStr n) = false := by
    unfold digLead
    rw [digStr_size, digStr_data]
    have e : decide ((pdig n.toNat).length = 0) = false := decide_eq_false (by omega)
    rw [e, Bool.false_or]
    by_cases h10 : n.toNat < 10
    · rw [a6 h10]; rfl
    · have := a5 (by omega)
      rw [decide_eq_false this, Bool.and_false]
  have he : digErr (digStr n) = 0 := by
    unfold digErr
    rw [hl, digStr_data, a1, a2, if_neg (by simp), if_neg (by simp), if_neg (by omega)]
  refine ⟨he, ?_, by rw [digStr_size]; omega, by rw [digStr_size]; omega⟩
  unfold digNum
  rw [if_pos he, digStr_data, a2]
  omega
end Go.Proofs.YtknlojlcahgnoaaGreat
