/- Walk: slices.symMergeCmpFunc at rules. (Printed by wip/gen/symw.py.) -/
import Derived.Deep.CutBlock
import Derived.Deep.CutRange
import Derived.Test.YtknlojlcahgnoaaGreatEb15
import Derived.Test.YtknlojlcahgnoaaGreatEb4

namespace Go.Proofs.YtknlojlcahgnoaaGreat
open Go.RowKit Go.Shelf Go.Lib Go.Sort
set_option linter.unusedVariables false
set_option linter.unusedSimpArgs false

section
variable {P : Program} {k : Nat}
set_option maxHeartbeats 8000000 in
set_option maxRecDepth 1000000 in
theorem sym_one_w (L : StabL P k) (cf : Rl → Rl → Int) (key : Rl → List UInt8) (hlt : ∀ x y, ltOf cf x y = decide (key x < key y)) (g : Nat) (cb : Array Value) (eg : ∀ args w, (callFunc g args).run P w = .ok (.enter g args) w)
    (blk off cap sz : Nat) (d0 : Array Rl) (w0 : World) (hcmp : CmpLays P g cb rlEnc k cf blk off d0.size w0) (R : RowK rlEnc k w0 blk off d0) (hs0 : d0.size = sz) (hsz : sz < 4611686018427387904)
    (a m b : Nat) (d : Array Rl) (w : World) (P₀ B Sx : List Rl) (x : Rl) (hd : d.toList = P₀ ++ (x :: (B ++ Sx))) (ha : a = P₀.length) (hm : m = P₀.length + 1) (hb : b = m + B.length) (hU : UpL key B) (S : SWK rlEnc k w0 blk off d w) (hds : d.size = sz) :
    Calls P 150 #[.slice (some ⟨blk, off, none⟩) sz cap, .int .i64 a, .int .i64 m, .int .i64 b, .func (.func g) #[] cb] w fun e w' => e = .returned (.tuple #[]) ∧ StTo k w0 blk off (P₀ ++ (ordL key (x :: B) ++ Sx)) w' := by
  have hlen := arr_size hd
  simp only [List.length_append, List.length_cons] at hlen
  have HC : Aside _ := hcmp
  have HR0 : Aside (RowK rlEnc k w0 blk off d0) := R
  have S0 : Aside (SWK rlEnc k w0 blk off d w) := S
  have HU := Lib.hid hU
  have HD := Lib.hid hd
  have HLT := Lib.hid hlt
  have HS0 := Lib.hid hs0
  have HD0 : Hid (d.size = d0.size) := by show _ = _; omega
  have HDS := Lib.hid hds
  have HA := Lib.hid ha
  have HB := Lib.hid hb
  have HM := Lib.hid hm
  have b1 : (m : Int) < 4611686018427387904 := by omega
  have b2 : (b : Int) < 4611686018427387904 := by omega
  have b3 : (a : Int) ≤ (m : Int) := by omega
  have b4 : (m : Int) ≤ (b : Int) := by omega
  have b6 : b ≤ sz := by omega
  have b5 : (m : Int) - (a : Int) = 1 := by omega
  have hax : d[a]! = x := list_at' hd (by omega)
  have HAX := Lib.hid hax
  clear S hd ha hb hm hlen R hs0 hds hlt hU hcmp hax
  have mixed := L.mixed; have t0 := L.t0; have a0 := L.a0; have z0 := L.z0; have v0 := L.v0; have t3 := L.t3; have a3 := L.a3; have z3 := L.z3; have v3 := L.v3; have t4 := L.t4; have a4 := L.a4; have z4 := L.z4; have v4 := L.v4; have t26 := L.t26; have a26 := L.a26; have z26 := L.z26; have v26 := L.v26; have t113 := L.t113; have a113 := L.a113; have z113 := L.z113; have v113 := L.v113; have t56 := L.t56; have a56 := L.a56; have z56 := L.z56; have v56 := L.v56; have aE := L.aE; have zE := L.zE
  have FG := L.fSym
  clear L
  go_enter FG, Tryz.ntmps150
  go_wp2
  go_loopg [10, 11, 12] (b - m) (fun gg vi vj vh wr => ∃ (i j : Nat), vi = .int .i64 i ∧ vj = .int .i64 j ∧ m ≤ i ∧ i ≤ j ∧ j ≤ b ∧ j - i ≤ gg ∧ Aside ((i = m ∨ ltOf cf d[i - 1]! x = true) ∧ (j = b ∨ ltOf cf d[j]! x = false)) ∧ Aside (SWK rlEnc k w0 blk off d wr))
  case atStart => exact ⟨m, b, rfl, rfl, Nat.le_refl _, by omega, Nat.le_refl _, Nat.le_refl _, ⟨Or.inl rfl, Or.inl rfl⟩, S0⟩
  case round =>
    clear S0
    obtain ⟨i, j, rfl, rfl, hmi, hij, hjb, hgg, HQ, S1⟩ := hrel
    by_cases hlt : i < j
    · have hltz : (i : Int) < (j : Int) := by omega
      obtain ⟨h, hh⟩ : ∃ h, h = (i + j) / 2 := ⟨_, rfl⟩
      have h1 : i ≤ h := by omega
      have h2 : h < j := by omega
      have h3 : 2 * h ≤ i + j := by omega
      have h4 : i + j ≤ 2 * h + 1 := by omega
      clear hh
      go_upto_region 5 with fail
      cases hlv : ltOf cf d[h]! d[a]! with
      | true =>
        have ex : (((i : Int) + (j : Int)) / 2).toNat = h := by omega
        have px : (0 : Int) ≤ ((i : Int) + (j : Int)) / 2 := by omega
        have bx : ((i : Int) + (j : Int)) / 2 < (sz : Int) := by omega
        have rx : IntKind.i64.wrap (((i : Int) + (j : Int)) / 2) = ((i : Int) + (j : Int)) / 2 := by rw [IntKind.wrap_i64]; omega
        have ey : ((a : Int)).toNat = a := by omega
        have py : (0 : Int) ≤ (a : Int) := by omega
        have bY : (a : Int) < (sz : Int) := by omega
        have ry : IntKind.i64.wrap ((a : Int)) = (a : Int) := by rw [IntKind.wrap_i64]; omega
        obtain ⟨x90, hx90⟩ : ∃ x, x = d[h]! := ⟨_, rfl⟩
        obtain ⟨y90, hy90⟩ : ∃ x, x = d[a]! := ⟨_, rfl⟩
        have lx := S1.out.ld HR0.out HD0.out P (h) (by have := HDS.out; omega)
        have ly := S1.out.ld HR0.out HD0.out P (a) (by have := HDS.out; omega)
        rw [← hx90] at lx
        rw [← hy90] at ly
        have hcc := S1.out.cmp HC.out HD0.out x90 y90
        have hv : cf x90 y90 < 0 := by rw [hx90, hy90]; exact of_decide_eq_true hlv
        have hdc : decide (cf x90 y90 < 0) = true := decide_eq_true hv
        clear hx90 hy90
        go_wp2_with fail
        go_quiet_grown (first | (go_at_fn g; refine Calls.grown_of (hcc _ _)))
        have S2 : Aside (SWK rlEnc k w0 blk off d (grow (wr.drewN nq) osq)) := S1.out.grown nq osq
        clear lx ly hcc S1 ex px bx rx ey py bY ry hv hdc
        generalize grow (wr.drewN nq) osq = w2 at S2 ⊢
        clear nq osq
        go_wp2
        go_roundg (j - (h + 1))
        case measure => omega
        case rel => exact ⟨h + 1, j, by congr 1; omega, rfl, by omega, by omega, hjb, Nat.le_refl _, ⟨Or.inr (by rw [Nat.add_sub_cancel, ← HAX.out]; exact hlv), HQ.out.2⟩, S2⟩
      | false =>
        have ex : (((i : Int) + (j : Int)) / 2).toNat = h := by omega
        have px : (0 : Int) ≤ ((i : Int) + (j : Int)) / 2 := by omega
        have bx : ((i : Int) + (j : Int)) / 2 < (sz : Int) := by omega
        have rx : IntKind.i64.wrap (((i : Int) + (j : Int)) / 2) = ((i : Int) + (j : Int)) / 2 := by rw [IntKind.wrap_i64]; omega
        have ey : ((a : Int)).toNat = a := by omega
        have py : (0 : Int) ≤ (a : Int) := by omega
        have bY : (a : Int) < (sz : Int) := by omega
        have ry : IntKind.i64.wrap ((a : Int)) = (a : Int) := by rw [IntKind.wrap_i64]; omega
        obtain ⟨x90, hx90⟩ : ∃ x, x = d[h]! := ⟨_, rfl⟩
        obtain ⟨y90, hy90⟩ : ∃ x, x = d[a]! := ⟨_, rfl⟩
        have lx := S1.out.ld HR0.out HD0.out P (h) (by have := HDS.out; omega)
        have ly := S1.out.ld HR0.out HD0.out P (a) (by have := HDS.out; omega)
        rw [← hx90] at lx
        rw [← hy90] at ly
        have hcc := S1.out.cmp HC.out HD0.out x90 y90
        have hv : ¬ cf x90 y90 < 0 := by rw [hx90, hy90]; exact of_decide_eq_false hlv
        have hdc : decide (cf x90 y90 < 0) = false := decide_eq_false hv
        clear hx90 hy90
        go_wp2_with fail
        go_quiet_grown (first | (go_at_fn g; refine Calls.grown_of (hcc _ _)))
        have S2 : Aside (SWK rlEnc k w0 blk off d (grow (wr.drewN nq) osq)) := S1.out.grown nq osq
        clear lx ly hcc S1 ex px bx rx ey py bY ry hv hdc
        generalize grow (wr.drewN nq) osq = w2 at S2 ⊢
        clear nq osq
        go_wp2
        go_roundg (h - i)
        case measure => omega
        case rel => exact ⟨i, h, rfl, by congr 1; omega, hmi, h1, by omega, Nat.le_refl _, ⟨HQ.out.1, Or.inr (by rw [← HAX.out]; exact hlv)⟩, S2⟩
    · have hltz : ¬ (i : Int) < (j : Int) := by omega
      obtain rfl : i = j := by omega
      have hq := Lib.hid (sym_one_at HLT.out HD.out HM.out hmi (by have := HB.out; omega) HU.out (by rw [← HB.out]; exact HQ.out))
      clear hij hgg HQ
      go_wp2
      go_loopg [13] (i - m) (fun gg vk wr2 => ∃ (t kk : Nat) (dk : Array Rl), vk = .int .i64 kk ∧ kk = a + t ∧ t + m ≤ i ∧ i - m - t ≤ gg ∧ Aside (dk.toList = upL P₀ B Sx x t) ∧ Aside (SWK rlEnc k w0 blk off dk wr2))
      case atStart => exact ⟨0, a, d, rfl, rfl, by omega, by omega, by show _ = _; rw [HD.out]; unfold upL; simp, S1⟩
      case round =>
        clear S1
        obtain ⟨t, kk, dk, rfl, hkk, htm, hgg, HT, S1⟩ := hrel
        have hdk : dk.size = sz := by
          have e1 := arr_size HT.out
          have e2 := arr_size HD.out
          have e3 := HDS.out
          unfold upL at e1
          simp only [List.length_append, List.length_cons, List.length_take, List.length_drop] at e1 e2
          have := HB.out
          omega
        have HDK := Lib.hid hdk
        clear hdk
        by_cases hk : t + m < i
        · have hkz : (kk : Int) < (i : Int) - 1 := by have := HA.out; have := HM.out; omega
          have HKK := Lib.hid hkk
          have hkb : kk + 1 < sz := by have := HA.out; have := HM.out; omega
          have hkz2 : ((kk : Int) + 1) < sz := by omega
          clear hkk
          go_wp2_with fail
          have ex : ((kk : Int)).toNat = kk := by omega
          have px : (0 : Int) ≤ (kk : Int) := by omega
          have bx : (kk : Int) < (sz : Int) := by omega
          have rx : IntKind.i64.wrap ((kk : Int)) = (kk : Int) := by rw [IntKind.wrap_i64]; omega
          have ey : ((kk : Int) + 1).toNat = kk + 1 := by omega
          have py : (0 : Int) ≤ (kk : Int) + 1 := by omega
          have bY : (kk : Int) + 1 < (sz : Int) := by omega
          have ry : IntKind.i64.wrap ((kk : Int) + 1) = (kk : Int) + 1 := by rw [IntKind.wrap_i64]; omega
          have S2 : Aside (SWK rlEnc k w0 blk off (swp dk (kk) (kk + 1)) ((wr.drew.setCells blk (off + (kk) * k) (rlEnc dk[kk + 1]!)).setCells blk (off + (kk + 1) * k) (rlEnc dk[kk]!))) := S1.out.swapped HR0.out (kk) (kk + 1) (by have := HDK.out; omega) (by have := HDK.out; omega)
          have la := S1.out.ld1 HR0.out (by have := HDK.out; have := HS0.out; omega) P (kk) (by have := HDK.out; omega)
          have lb := S1.out.ld1 HR0.out (by have := HDK.out; have := HS0.out; omega) P (kk + 1) (by have := HDK.out; omega)
          have sa := S1.out.st1 HR0.out (by have := HDK.out; have := HS0.out; omega) P (kk) (by have := HDK.out; omega) dk[kk + 1]!
          have sb := S1.out.st2 HR0.out (by have := HDK.out; have := HS0.out; omega) P (kk) (kk + 1) (by have := HDK.out; omega) (by have := HDK.out; omega) dk[kk + 1]! dk[kk]!
          have na : (rlEnc dk[kk]!).length = k := HR0.out.hk _
          have nb : (rlEnc dk[kk + 1]!).length = k := HR0.out.hk _
          generalize rlEnc dk[kk]! = cI at S2 la sb na
          generalize rlEnc dk[kk + 1]! = cJ at S2 lb sa sb nb
          clear S1
          go_wp2_with fail
          go_big_region_o
          clear la lb sa sb na nb ex px bx rx ey py bY ry
          generalize (wr.drew.setCells blk (off + (kk) * k) cJ).setCells blk (off + (kk + 1) * k) cI = w2 at S2 ⊢
          go_wp2
          go_roundg (i - m - (t + 1))
          case measure => omega
          case rel =>
            refine ⟨t + 1, kk + 1, swp dk kk (kk + 1), by go_num, by have := HKK.out; omega, by omega, Nat.le_refl _, ?_, S2⟩
            have := up_step (P := P₀) (B := B) (S := Sx) (x := x) (i := t) (by have := HB.out; omega) HT.out
            rw [show P₀.length + t = kk by have := HKK.out; have := HA.out; omega] at this
            exact this
        · have hkz : ¬ (kk : Int) < (i : Int) - 1 := by have := HA.out; have := HM.out; omega
          have htE : t = i - m := by omega
          have HTE := Lib.hid htE
          clear htE hkk
          go_wp2
          first | go_end0 | refine bodyPost_ret (results_none rfl _ _ _) rfl ?_
          refine ⟨rfl, dk, ?_, S1.out⟩
          rw [HT.out, HTE.out]
          exact hq.out
set_option maxHeartbeats 8000000 in
set_option maxRecDepth 1000000 in
theorem sym_last_w (L : StabL P k) (cf : Rl → Rl → Int) (key : Rl → List UInt8) (hlt : ∀ x y, ltOf cf x y = decide (key x < key y)) (g : Nat) (cb : Array Value) (eg : ∀ args w, (callFunc g args).run P w = .ok (.enter g args) w)
    (blk off cap sz : Nat) (d0 : Array Rl) (w0 : World) (hcmp : CmpLays P g cb rlEnc k cf blk off d0.size w0) (R : RowK rlEnc k w0 blk off d0) (hs0 : d0.size = sz) (hsz : sz < 4611686018427387904)
    (a m b : Nat) (d : Array Rl) (w : World) (P₀ A Sx : List Rl) (y : Rl) (hd : d.toList = P₀ ++ (A ++ (y :: Sx))) (ha : a = P₀.length) (hm : m = a + A.length) (hb : b = m + 1) (hA1 : 1 < A.length) (hU : UpL key A) (S : SWK rlEnc k w0 blk off d w) (hds : d.size = sz) :
    Calls P 150 #[.slice (some ⟨blk, off, none⟩) sz cap, .int .i64 a, .int .i64 m, .int .i64 b, .func (.func g) #[] cb] w fun e w' => e = .returned (.tuple #[]) ∧ StTo k w0 blk off (P₀ ++ (ordL key (A ++ [y]) ++ Sx)) w' := by
  have hlen := arr_size hd
  simp only [List.length_append, List.length_cons] at hlen
  have HC : Aside _ := hcmp
  have HR0 : Aside (RowK rlEnc k w0 blk off d0) := R
  have S0 : Aside (SWK rlEnc k w0 blk off d w) := S
  have HU := Lib.hid hU
  have HD := Lib.hid hd
  have HLT := Lib.hid hlt
  have HS0 := Lib.hid hs0
  have HD0 : Hid (d.size = d0.size) := by show _ = _; omega
  have HDS := Lib.hid hds
  have HA := Lib.hid ha
  have HM := Lib.hid hm
  have HB := Lib.hid hb
  have b1 : (m : Int) < 4611686018427387904 := by omega
  have b3 : (a : Int) ≤ (m : Int) := by omega
  have b6 : b ≤ sz := by omega
  have b2 : (b : Int) < 4611686018427387904 := by omega
  have b4 : (m : Int) ≤ (b : Int) := by omega
  have b7 : (b : Int) - (m : Int) = 1 := by omega
  have b5' : ((m : Int) - (a : Int) == 1) = false := by simp; omega
  have hax : d[m]! = y := list_at' (A := P₀ ++ A) (D := Sx) (by rw [hd]; simp) (by rw [List.length_append]; omega)
  have HAX := Lib.hid hax
  clear S hd ha hb hm hlen R hs0 hds hlt hU hcmp hax
  have mixed := L.mixed; have t0 := L.t0; have a0 := L.a0; have z0 := L.z0; have v0 := L.v0; have t3 := L.t3; have a3 := L.a3; have z3 := L.z3; have v3 := L.v3; have t4 := L.t4; have a4 := L.a4; have z4 := L.z4; have v4 := L.v4; have t26 := L.t26; have a26 := L.a26; have z26 := L.z26; have v26 := L.v26; have t113 := L.t113; have a113 := L.a113; have z113 := L.z113; have v113 := L.v113; have t56 := L.t56; have a56 := L.a56; have z56 := L.z56; have v56 := L.v56; have aE := L.aE; have zE := L.zE
  have FG := L.fSym
  clear L
  go_enter FG, Tryz.ntmps150
  go_wp2
  go_loopg [14, 15, 16] (m - a) (fun gg vi vj vh wr => ∃ (i j : Nat), vi = .int .i64 i ∧ vj = .int .i64 j ∧ a ≤ i ∧ i ≤ j ∧ j ≤ m ∧ j - i ≤ gg ∧ Aside ((i = a ∨ ltOf cf y d[i - 1]! = false) ∧ (j = m ∨ ltOf cf y d[j]! = true)) ∧ Aside (SWK rlEnc k w0 blk off d wr))
  case atStart => exact ⟨a, m, rfl, rfl, Nat.le_refl _, by omega, Nat.le_refl _, Nat.le_refl _, ⟨Or.inl rfl, Or.inl rfl⟩, S0⟩
  case round =>
    clear S0
    obtain ⟨i, j, rfl, rfl, hmi, hij, hjb, hgg, HQ, S1⟩ := hrel
    by_cases hlt : i < j
    · have hltz : (i : Int) < (j : Int) := by omega
      obtain ⟨h, hh⟩ : ∃ h, h = (i + j) / 2 := ⟨_, rfl⟩
      have h1 : i ≤ h := by omega
      have h2 : h < j := by omega
      have h3 : 2 * h ≤ i + j := by omega
      have h4 : i + j ≤ 2 * h + 1 := by omega
      clear hh
      go_upto_region 17 with fail
      cases hlv : ltOf cf d[m]! d[h]! with
      | true =>
        have ex : ((m : Int)).toNat = m := by omega
        have px : (0 : Int) ≤ (m : Int) := by omega
        have bx : (m : Int) < (sz : Int) := by omega
        have rx : IntKind.i64.wrap ((m : Int)) = (m : Int) := by rw [IntKind.wrap_i64]; omega
        have ey : (((i : Int) + (j : Int)) / 2).toNat = h := by omega
        have py : (0 : Int) ≤ ((i : Int) + (j : Int)) / 2 := by omega
        have bY : ((i : Int) + (j : Int)) / 2 < (sz : Int) := by omega
        have ry : IntKind.i64.wrap (((i : Int) + (j : Int)) / 2) = ((i : Int) + (j : Int)) / 2 := by rw [IntKind.wrap_i64]; omega
        obtain ⟨x90, hx90⟩ : ∃ x, x = d[m]! := ⟨_, rfl⟩
        obtain ⟨y90, hy90⟩ : ∃ x, x = d[h]! := ⟨_, rfl⟩
        have lx := S1.out.ld HR0.out HD0.out P (m) (by have := HDS.out; omega)
        have ly := S1.out.ld HR0.out HD0.out P (h) (by have := HDS.out; omega)
        rw [← hx90] at lx
        rw [← hy90] at ly
        have hcc := S1.out.cmp HC.out HD0.out x90 y90
        have hv : cf x90 y90 < 0 := by rw [hx90, hy90]; exact of_decide_eq_true hlv
        have hdc : decide (cf x90 y90 < 0) = true := decide_eq_true hv
        clear hx90 hy90
        go_wp2_with fail
        go_quiet_grown (first | (go_at_fn g; refine Calls.grown_of (hcc _ _)))
        have S2 : Aside (SWK rlEnc k w0 blk off d (grow (wr.drewN nq) osq)) := S1.out.grown nq osq
        clear lx ly hcc S1 ex px bx rx ey py bY ry hv hdc
        generalize grow (wr.drewN nq) osq = w2 at S2 ⊢
        clear nq osq
        go_wp2
        go_roundg (h - i)
        case measure => omega
        case rel => exact ⟨i, h, rfl, by congr 1; omega, hmi, h1, by omega, Nat.le_refl _, ⟨HQ.out.1, Or.inr (by rw [← HAX.out]; exact hlv)⟩, S2⟩
      | false =>
        have ex : ((m : Int)).toNat = m := by omega
        have px : (0 : Int) ≤ (m : Int) := by omega
        have bx : (m : Int) < (sz : Int) := by omega
        have rx : IntKind.i64.wrap ((m : Int)) = (m : Int) := by rw [IntKind.wrap_i64]; omega
        have ey : (((i : Int) + (j : Int)) / 2).toNat = h := by omega
        have py : (0 : Int) ≤ ((i : Int) + (j : Int)) / 2 := by omega
        have bY : ((i : Int) + (j : Int)) / 2 < (sz : Int) := by omega
        have ry : IntKind.i64.wrap (((i : Int) + (j : Int)) / 2) = ((i : Int) + (j : Int)) / 2 := by rw [IntKind.wrap_i64]; omega
        obtain ⟨x90, hx90⟩ : ∃ x, x = d[m]! := ⟨_, rfl⟩
        obtain ⟨y90, hy90⟩ : ∃ x, x = d[h]! := ⟨_, rfl⟩
        have lx := S1.out.ld HR0.out HD0.out P (m) (by have := HDS.out; omega)
        have ly := S1.out.ld HR0.out HD0.out P (h) (by have := HDS.out; omega)
        rw [← hx90] at lx
        rw [← hy90] at ly
        have hcc := S1.out.cmp HC.out HD0.out x90 y90
        have hv : ¬ cf x90 y90 < 0 := by rw [hx90, hy90]; exact of_decide_eq_false hlv
        have hdc : decide (cf x90 y90 < 0) = false := decide_eq_false hv
        clear hx90 hy90
        go_wp2_with fail
        go_quiet_grown (first | (go_at_fn g; refine Calls.grown_of (hcc _ _)))
        have S2 : Aside (SWK rlEnc k w0 blk off d (grow (wr.drewN nq) osq)) := S1.out.grown nq osq
        clear lx ly hcc S1 ex px bx rx ey py bY ry hv hdc
        generalize grow (wr.drewN nq) osq = w2 at S2 ⊢
        clear nq osq
        go_wp2
        go_roundg (j - (h + 1))
        case measure => omega
        case rel => exact ⟨h + 1, j, by congr 1; omega, rfl, by omega, by omega, hjb, Nat.le_refl _, ⟨Or.inr (by rw [Nat.add_sub_cancel, ← HAX.out]; exact hlv), HQ.out.2⟩, S2⟩
    · have hltz : ¬ (i : Int) < (j : Int) := by omega
      obtain rfl : i = j := by omega
      have hq := Lib.hid (sym_last_at HLT.out HD.out HA.out hmi (by have := HM.out; omega) HU.out (by rw [← HM.out]; exact HQ.out))
      clear hij hgg HQ
      go_wp2
      go_loopg [17] (m - i) (fun gg vk wr2 => ∃ (t kk : Nat) (dk : Array Rl), vk = .int .i64 kk ∧ kk = a + t ∧ i ≤ kk ∧ kk ≤ m ∧ kk - i ≤ gg ∧ Aside (dk.toList = upL P₀ A Sx y t) ∧ Aside (SWK rlEnc k w0 blk off dk wr2))
      case atStart => exact ⟨A.length, m, d, rfl, HM.out, by omega, Nat.le_refl _, by omega, by show _ = _; rw [HD.out]; unfold upL; simp, S1⟩
      case round =>
        clear S1
        obtain ⟨t, kk, dk, rfl, hkk, hik, hkm, hgg, HT, S1⟩ := hrel
        have hdk : dk.size = sz := by
          have e1 := arr_size HT.out
          have e2 := arr_size HD.out
          have e3 := HDS.out
          unfold upL at e1
          simp only [List.length_append, List.length_cons, List.length_take, List.length_drop] at e1 e2
          have := HM.out
          omega
        have HDK := Lib.hid hdk
        clear hdk
        by_cases hk : i < kk
        · have hkz : (i : Int) < (kk : Int) := by omega
          obtain ⟨kp, hkp⟩ : ∃ q, kk = q + 1 := ⟨kk - 1, by omega⟩
          subst hkp
          obtain ⟨tp, htp⟩ : ∃ q, t = q + 1 := ⟨t - 1, by omega⟩
          have HKK := Lib.hid hkk
          have HTP := Lib.hid htp
          have hkb : kp + 1 < sz := by omega
          have hkz2 : ((kp : Int) + 1) < sz := by omega
          have hkz3 : (i : Int) < (kp : Int) + 1 := by omega
          have hkz4 : (i : Int) ≤ (kp : Int) := by omega
          have hkz5 : decide ((i : Int) < (kp : Int) + 1) = true := decide_eq_true hkz3
          have hkz6 : decide ((kp : Int) + 1 > (i : Int)) = true := decide_eq_true hkz3
          have hkz7 : decide ((i : Int) ≤ (kp : Int)) = true := decide_eq_true hkz4
          clear hkk htp hkz
          go_wp2_with fail
          have ex : ((kp : Int) + 1).toNat = kp + 1 := by omega
          have px : (0 : Int) ≤ (kp : Int) + 1 := by omega
          have bx : (kp : Int) + 1 < (sz : Int) := by omega
          have rx : IntKind.i64.wrap ((kp : Int) + 1) = (kp : Int) + 1 := by rw [IntKind.wrap_i64]; omega
          have ey : ((kp : Int)).toNat = kp := by omega
          have py : (0 : Int) ≤ (kp : Int) := by omega
          have bY : (kp : Int) < (sz : Int) := by omega
          have ry : IntKind.i64.wrap ((kp : Int)) = (kp : Int) := by rw [IntKind.wrap_i64]; omega
          have S2 : Aside (SWK rlEnc k w0 blk off (swp dk (kp + 1) (kp)) ((wr.drew.setCells blk (off + (kp + 1) * k) (rlEnc dk[kp]!)).setCells blk (off + (kp) * k) (rlEnc dk[kp + 1]!))) := S1.out.swapped HR0.out (kp + 1) (kp) (by have := HDK.out; omega) (by have := HDK.out; omega)
          have la := S1.out.ld1 HR0.out (by have := HDK.out; have := HS0.out; omega) P (kp + 1) (by have := HDK.out; omega)
          have lb := S1.out.ld1 HR0.out (by have := HDK.out; have := HS0.out; omega) P (kp) (by have := HDK.out; omega)
          have sa := S1.out.st1 HR0.out (by have := HDK.out; have := HS0.out; omega) P (kp + 1) (by have := HDK.out; omega) dk[kp]!
          have sb := S1.out.st2 HR0.out (by have := HDK.out; have := HS0.out; omega) P (kp + 1) (kp) (by have := HDK.out; omega) (by have := HDK.out; omega) dk[kp]! dk[kp + 1]!
          have na : (rlEnc dk[kp + 1]!).length = k := HR0.out.hk _
          have nb : (rlEnc dk[kp]!).length = k := HR0.out.hk _
          generalize rlEnc dk[kp + 1]! = cI at S2 la sb na
          generalize rlEnc dk[kp]! = cJ at S2 lb sa sb nb
          clear S1
          go_wp2_with fail
          go_big_region_o
          clear la lb sa sb na nb ex px bx rx ey py bY ry
          generalize (wr.drew.setCells blk (off + (kp + 1) * k) cJ).setCells blk (off + (kp) * k) cI = w2 at S2 ⊢
          go_wp2
          go_roundg (kp - i)
          case measure => omega
          case rel =>
            refine ⟨tp, kp, swp dk (kp + 1) kp, by first | rfl | go_num | (congr 1; omega), by have := HKK.out; have := HTP.out; omega, by omega, by omega, Nat.le_refl _, ?_, S2⟩
            have := down_step (P := P₀) (B := A) (S := Sx) (x := y) (i := tp) (by have := HKK.out; have := HTP.out; have := HM.out; omega) (by rw [HT.out, HTP.out])
            rw [show P₀.length + tp = kp by have := HKK.out; have := HTP.out; have := HA.out; omega] at this
            exact this
        · have hkz : ¬ (i : Int) < (kk : Int) := by omega
          have htE : t = i - a := by omega
          have HTE := Lib.hid htE
          clear htE hkk
          go_wp2
          first | go_end0 | refine bodyPost_ret (results_none rfl _ _ _) rfl ?_
          refine ⟨rfl, dk, ?_, S1.out⟩
          rw [HT.out, HTE.out]
          exact hq.out
end
end Go.Proofs.YtknlojlcahgnoaaGreat
