/- Walks: Charge of any key and any rule; tollerlaw14.known. -/
import Derived.Test.YtnlmbmbalmkiiaaChW
import Derived.Test.YtnlmbmbalmkiiaaChR
import Derived.Test.YtnlmbmbalmkiiaaTabN
namespace Go.Proofs.Ytnlmbmbalmkiiaa
open Go.RowKit
set_option linter.unusedVariables false
set_option linter.unusedSimpArgs false

/-- what Charge tells, and what it leaves -/
def cgV (most clock : Int) (l : SMap) (k p : ByteArray) (e b rk n : Int) : Value :=
  if keyOk k = false then ansV 5 12 0 0 0 0 0 false else if ruleErr p e b rk ≠ 0 then ansV 5 (ruleErr p e b rk) 0 0 0 0 0 false else chargeV most clock l k e b rk n
def cgL (most clock : Int) (l : SMap) (c : Nat) (k p : ByteArray) (e b rk n : Int) : SMap :=
  if keyOk k = false then l else if ruleErr p e b rk ≠ 0 then l else chargeL most clock l c k p e b rk n
def cgC (most clock : Int) (l : SMap) (c : Nat) (k p : ByteArray) (e b rk n : Int) : Nat :=
  if keyOk k = false then c else if ruleErr p e b rk ≠ 0 then c else chargeC most clock l c k p e b rk n

theorem charge_any (t mb c : Nat) (k p : ByteArray) (most clock e b rk n : Int) (l : SMap) (w : World) (h : TabAt w t mb most clock l c) (hok : TabOk l c) (hn0 : 0 ≤ clock) (hn1 : clock < 18446744073709551616)
    (hk : k.size ≤ maxLen) (hp : p.size ≤ maxLen) (he0 : 0 ≤ e) (he1 : e < 18446744073709551616) (hb0 : 0 ≤ b) (hb1 : b < 18446744073709551616) (hr0 : 0 ≤ rk) (hr1 : rk < 256) (hw0 : 0 ≤ n) (hw1 : n < 18446744073709551616) :
    Calls Try.prog 13 #[.pointer (some ⟨t, 0, none⟩), .string k, .agg #[.string p, .int .u64 e, .int .u64 b, .int .u8 rk], .int .u64 n] w fun x w' =>
      x = .returned (cgV most clock l k p e b rk n) ∧ TabAt w' t mb most clock (cgL most clock l c k p e b rk n) (cgC most clock l c k p e b rk n) ∧ TabOk (cgL most clock l c k p e b rk n) (cgC most clock l c k p e b rk n) ∧ ExtB mb w w' := by
  unfold cgV cgL cgC
  by_cases h1 : keyOk k = false
  · rw [if_pos h1, if_pos h1, if_pos h1]
    refine (charge_key t k p e b rk n w hk (Lib.hid h1)).mono ?_
    rintro x w' ⟨rfl, hx⟩
    exact ⟨rfl, h.ext hx, hok, hx.toB mb⟩
  · rw [if_neg h1, if_neg h1, if_neg h1]
    have h1' : keyOk k = true := by simpa using h1
    by_cases h2 : ruleErr p e b rk = 0
    · rw [if_neg (not_not.2 h2), if_neg (not_not.2 h2), if_neg (not_not.2 h2)]
      exact charge_go t mb c k p most clock e b rk n l w h hok hn0 hn1 hk hp he0 he1 hb0 hb1 hr0 hr1 hw0 hw1 (Lib.hid h1') (Lib.hid h2)
    · rw [if_pos h2, if_pos h2, if_pos h2]
      refine (charge_rule t k p e b rk n _ w hk (Lib.hid h1') hp he0 he1 hb0 hb1 (Lib.hid rfl) (by simpa using h2)).mono ?_
      rintro x w' ⟨rfl, hx⟩
      exact ⟨rfl, h.ext hx, hok, hx.toB mb⟩
where not_not {p : Prop} : ¬ ¬ p ↔ p := ⟨fun h => Classical.byContradiction h, fun h q => q h⟩

theorem kn_most : mostOf 1 = 1 := by decide
def kn_l : SMap := [(⟨⟨#[97]⟩, ⟨#[]⟩, 10, 2, 1, 1, 20, 0⟩, 0)]
theorem kn_v1 : cgV 1 0 [] ⟨#[97]⟩ ⟨#[]⟩ 10 2 1 2 = ansV 1 0 2 0 1 0 0 false := by kernel_rfl
theorem kn_l1 : cgL 1 0 [] 0 ⟨#[97]⟩ ⟨#[]⟩ 10 2 1 2 = kn_l := by kernel_rfl
theorem kn_c1 : cgC 1 0 [] 0 ⟨#[97]⟩ ⟨#[]⟩ 10 2 1 2 = 1 := by kernel_rfl
theorem kn_v2 : cgV 1 0 kn_l ⟨#[98]⟩ ⟨#[]⟩ 10 2 1 1 = ansV 3 0 2 0 0 0 0 false := by kernel_rfl
end Go.Proofs.Ytnlmbmbalmkiiaa
