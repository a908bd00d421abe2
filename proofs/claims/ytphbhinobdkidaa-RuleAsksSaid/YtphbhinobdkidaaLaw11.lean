/- Walks: tollerlaw11.known. -/
import Derived.Test.YtphbhinobdkidaaRuleP
import Derived.Test.YtphbhinobdkidaaDig3
namespace Go.Proofs.Ytphbhinobdkidaa
open Go.RowKit
set_option linter.unusedVariables false
set_option linter.unusedSimpArgs false

set_option maxHeartbeats 1000000 in
set_option maxRecDepth 100000 in
theorem law11_known (w : World) : Calls Try.prog 11 #[] w fun x w' => x = .returned (.bool true) ∧ Ext w w' := by
  have K1 : (ruleParse [⟨#[114, 117, 108, 101]⟩, ⟨#[97, 112, 105, 47]⟩, ⟨#[53, 48, 48]⟩, ⟨#[48]⟩, ⟨#[108, 101, 97, 107, 121]⟩]).v = parseBad 25 3 := by kernel_rfl
  have K2 : (ruleParse [⟨#[100, 101, 102, 97, 117, 108, 116]⟩, ⟨#[49, 48]⟩, ⟨#[53]⟩, ⟨#[103, 99, 114, 97]⟩]).v = parseRet ⟨#[]⟩ 10 5 1 0 0 := by kernel_rfl
  have K3 : ruleCap ⟨#[]⟩ 10 5 1 = 50 := by kernel_rfl
  have K4 : nameOf 2 = ⟨#[98, 117, 99, 107, 101, 116]⟩ := by kernel_rfl
  have H1 := Lib.hid K1
  have H2 := Lib.hid K2
  have H3 := Lib.hid K3
  have H4 := Lib.hid K4
  clear K1 K2 K3 K4
  go_enter Try.func11, Try.ntmps11
  go_wp2_with fail
  refine (rule_Parse _ [⟨#[114, 117, 108, 101]⟩, ⟨#[97, 112, 105, 47]⟩, ⟨#[53, 48, 48]⟩, ⟨#[48]⟩, ⟨#[108, 101, 97, 107, 121]⟩] _ (StrSlice.new _ (Blk.new _ _ _) rfl (by decide) (by decide))).mono ?_
  rw [H1.out]
  rintro x w1 ⟨rfl, hx1⟩
  simp only [parseBad, parseRet]
  go_wp2_with fail
  refine (rule_Parse _ [⟨#[100, 101, 102, 97, 117, 108, 116]⟩, ⟨#[49, 48]⟩, ⟨#[53]⟩, ⟨#[103, 99, 114, 97]⟩] _ (StrSlice.new _ (Blk.new' _ _ _ (by simp)) rfl (by decide) (by decide))).mono ?_
  rw [H2.out]
  rintro x w2 ⟨rfl, hx2⟩
  simp only [parseRet]
  go_wp2_with fail
  refine (rule_Cap _ _ _ _ _ (by decide) (by omega) (by omega) (by omega) (by omega)).mono ?_
  rw [H3.out]
  rintro x w3 ⟨rfl, hx3⟩
  go_wp2_with fail
  refine (rule_Name _ _).mono ?_
  rw [H4.out]
  rintro x w4 ⟨rfl, hx4⟩
  go_wp2
  go_ret
  exact ⟨rfl, (by repeat (first | with_reducible exact Ext.refl _ | with_reducible assumption | with_reducible refine Ext.alloc ?_ _ | with_reducible refine Ext.drew ?_ | with_reducible refine Ext.trans ?_ (by with_reducible assumption)))⟩
end Go.Proofs.Ytphbhinobdkidaa
