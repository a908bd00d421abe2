/- Walk: slices.symMergeCmpFunc at rules: the symmetrical search, the rotation, and both halves. -/
import Derived.Test.YtknlojlcahgnoaaGreatEb19

namespace Go.Proofs.YtknlojlcahgnoaaGreat
open Go.RowKit Go.Shelf Go.Lib Go.Sort
set_option linter.unusedVariables false
set_option linter.unusedSimpArgs false

section
variable {P : Program} {k : Nat}
theorem StTo.cast {w0 w : World} {blk off : Nat} {l l' : List Rl} (h : StTo k w0 blk off l w) (e : l = l') : StTo k w0 blk off l' w := e ▸ h
/-- what a merge of two runs gives -/
def SymOk (P : Program) (k : Nat) (key : Rl → List UInt8) (g : Nat) (cb : Array Value) (blk off cap sz : Nat) (w0 : World) (a m b : Nat) : Prop :=
  ∀ (d : Array Rl) (w : World) (P₀ A B Sx : List Rl), d.toList = P₀ ++ (A ++ (B ++ Sx)) → a = P₀.length → m = a + A.length → b = m + B.length → 0 < A.length → 0 < B.length → UpL key A → UpL key B → SWK rlEnc k w0 blk off d w → d.size = sz →
    Calls P 150 #[.slice (some ⟨blk, off, none⟩) sz cap, .int .i64 a, .int .i64 m, .int .i64 b, .func (.func g) #[] cb] w fun e w' => e = .returned (.tuple #[]) ∧ StTo k w0 blk off (P₀ ++ (ordL key (A ++ B) ++ Sx)) w'
/-- the code behind an 'if' -/
def endsIf (n : Nat) : Code → Bool
  | .seq _ b => endsIf n b
  | .cond (.tmp m) _ _ => m == n
  | _ => false
def restIf (n : Nat) : Code → Option Code
  | .seq a b => if endsIf n a then some b else match restIf n a with
    | some c => some c
    | none => restIf n b
  | .block _ c => restIf n c
  | .scope c => restIf n c
  | .loop c => restIf n c
  | .cond _ a b => match restIf n a with
    | some c => some c
    | none => restIf n b
  | _ => none
noncomputable def symTail : Code := (Tryz.f150.body.bind (restIf 185)).getD .skip
set_option maxHeartbeats 8000000 in
set_option maxRecDepth 1000000 in
theorem sym_tail (L : StabL P k) (key : Rl → List UInt8) (g : Nat) (cb : Array Value) (blk off cap sz : Nat) (w0 wc : World) (a m b mid s e : Nat)
    (ih : ∀ a' m' b', b' - a' < b - a → SymOk P k key g cb blk off cap sz w0 a' m' b') (P₀ A1 A2 B1 B2 Sx : List Rl) (hsz : P₀.length + A1.length + A2.length + B1.length + B2.length + Sx.length = sz) (hsz2 : sz < 4611686018427387904) (ha : a = P₀.length)
    (hl : A1.length + a = s ∧ A2.length + s = m ∧ B1.length + m = e ∧ B2.length + e = b) (he : e + s = mid + m) (x1 : s ≤ m) (x2 : m ≤ e) (x3 : e ≤ b) (x4 : a ≤ s) (hmb : mid < b) (ham : a < mid) (hu : UpL key A1 ∧ UpL key A2 ∧ UpL key B1 ∧ UpL key B2)
    (h1 : StTo k w0 blk off (P₀ ++ (A1 ++ (B1 ++ (A2 ++ (B2 ++ Sx))))) wc) (u5 u6 u7 u8 u9 u10 u11 u12 u13 u14 u15 u16 u17 u19 u21 u22 u23 u25 u26 u27 u28 u29 u30 u31 u32 u33 u34 u35 u36 u37 u38 u39 u40 u41 u42 u43 u44 u45 u46 u47 u48 u49 u50 u51 u52 u53 u54 u55 u56 u57 u58 u59 u60 u61 u62 u63 u64 u65 u66 u67 u68 u69 u70 u71 u72 u73 u74 u75 u76 u77 u78 u79 u80 u81 u82 u83 u84 u85 u86 u87 u88 u89 u90 u91 u92 u93 u94 u95 u96 u97 u98 u99 u100 u101 u102 u103 u104 u105 u106 u107 u108 u109 u110 u111 u112 u113 u114 u115 u116 u117 u118 u119 u120 u121 u122 u123 u124 u125 u126 u127 u128 u129 u130 u131 u132 u133 u134 u135 u136 u137 u138 u139 u140 u141 u142 u143 u144 u145 u146 u147 u148 u149 u150 u151 u152 u153 u154 u155 u156 u157 u158 u159 u160 u161 u162 u163 u164 u165 u166 u167 u168 u169 u170 u171 u172 u173 u174 u175 u176 u177 u178 u179 u180 u181 u182 u183 u184 u185 u186 u187 u188 u189 u190 u191 u192 u193 u194 u195 u196 u197 u198 u199 u200 u201 u202 u203 u204 u205 u206 u207 u208 u209 u210 u211 u212 u213 u214 u215 u216 u217 u218 u219 : Value) :
    Code.wp P symTail (fun x a' w' => x = Exit.normal ∧ a'.defers = [] ∧ StTo k w0 blk off (P₀ ++ (ordL key (A1 ++ B1) ++ (ordL key (A2 ++ B2) ++ Sx))) w') { tmps := #[.slice (some ⟨blk, off, none⟩) sz cap, .int .i64 a, .int .i64 m, .int .i64 b, .func (.func g) #[] cb, u5, u6, u7, u8, u9, u10, u11, u12, u13, u14, u15, u16, u17, .int .i64 mid, u19, .int .i64 s, u21, u22, u23, .int .i64 e, u25, u26, u27, u28, u29, u30, u31, u32, u33, u34, u35, u36, u37, u38, u39, u40, u41, u42, u43, u44, u45, u46, u47, u48, u49, u50, u51, u52, u53, u54, u55, u56, u57, u58, u59, u60, u61, u62, u63, u64, u65, u66, u67, u68, u69, u70, u71, u72, u73, u74, u75, u76, u77, u78, u79, u80, u81, u82, u83, u84, u85, u86, u87, u88, u89, u90, u91, u92, u93, u94, u95, u96, u97, u98, u99, u100, u101, u102, u103, u104, u105, u106, u107, u108, u109, u110, u111, u112, u113, u114, u115, u116, u117, u118, u119, u120, u121, u122, u123, u124, u125, u126, u127, u128, u129, u130, u131, u132, u133, u134, u135, u136, u137, u138, u139, u140, u141, u142, u143, u144, u145, u146, u147, u148, u149, u150, u151, u152, u153, u154, u155, u156, u157, u158, u159, u160, u161, u162, u163, u164, u165, u166, u167, u168, u169, u170, u171, u172, u173, u174, u175, u176, u177, u178, u179, u180, u181, u182, u183, u184, u185, u186, u187, u188, u189, u190, u191, u192, u193, u194, u195, u196, u197, u198, u199, u200, u201, u202, u203, u204, u205, u206, u207, u208, u209, u210, u211, u212, u213, u214, u215, u216, u217, u218, u219], defers := [] } wc := by
  conv => arg 2; whnf
  conv => arg 4; zeta
  have T1 := Lib.hid h1
  have IH : Aside _ := ih
  have LL := Lib.hid hl
  have HU := Lib.hid hu
  have HX := Lib.hid he
  have HAE := Lib.hid ha
  have HSZ := Lib.hid hsz
  have e150 : ∀ args w, (callFunc 150 args).run P w = .ok (.enter 150 args) w := enters_of L.fSym (by kernel_rfl) rfl
  have mixed := L.mixed; have t0 := L.t0; have a0 := L.a0; have z0 := L.z0; have v0 := L.v0; have t3 := L.t3; have a3 := L.a3; have z3 := L.z3; have v3 := L.v3; have t4 := L.t4; have a4 := L.a4; have z4 := L.z4; have v4 := L.v4; have t26 := L.t26; have a26 := L.a26; have z26 := L.z26; have v26 := L.v26; have t113 := L.t113; have a113 := L.a113; have z113 := L.z113; have v113 := L.v113; have t56 := L.t56; have a56 := L.a56; have z56 := L.z56; have v56 := L.v56; have aE := L.aE; have zE := L.zE
  clear L ih hl hu he ha hsz h1
  go_upto_region 41 with fail
  obtain ⟨bp, hbo⟩ : ∃ q, q = (decide (a < s) && decide (s < mid)) := ⟨_, rfl⟩
  have HBO := Lib.hid hbo
  clear hbo
  go_cut [199] from 25 (fun v wd => v = .bool bp ∧ wd = wc)
  case first =>
    by_cases q1 : a < s
    · have z1 : (a : Int) < (s : Int) := by omega
      have d1 : decide (a < s) = true := decide_eq_true q1
      by_cases q2 : s < mid
      · have z2 : (s : Int) < (mid : Int) := by omega
        have d2 : decide (s < mid) = true := decide_eq_true q2
        go_wp2_with fail
        go_meet
        case rel => exact ⟨by rw [HBO.out, d1, d2]; rfl, rfl⟩
      · have z2 : ¬ (s : Int) < (mid : Int) := by omega
        have d2 : decide (s < mid) = false := decide_eq_false q2
        go_wp2_with fail
        go_meet
        case rel => exact ⟨by rw [HBO.out, d1, d2]; rfl, rfl⟩
    · have z1 : ¬ (a : Int) < (s : Int) := by omega
      have d1 : decide (a < s) = false := decide_eq_false q1
      go_wp2_with fail
      go_meet
      case rel => exact ⟨by rw [HBO.out, d1]; rfl, rfl⟩
  case rest =>
    obtain ⟨rfl, rfl⟩ := hcut
    go_upto_if 199 with fail
    go_cut [] from 25 (fun wd => Aside (StTo k w0 blk off (P₀ ++ (ordL key (A1 ++ B1) ++ (A2 ++ (B2 ++ Sx)))) wd))
    case first =>
      cases hbo : bp with
      | true =>
        have q1 : a < s ∧ s < mid := by have := HBO.out; rw [hbo] at this; simpa using this.symm
        obtain ⟨d2, hd2, SS⟩ := T1.out
        have hs2 : d2.size = sz := by
          have e1 := arr_size hd2
          simp only [List.length_append, ordL_len] at e1
          have := HSZ.out
          omega
        have hc := IH.out a s mid (by have := LL.out; have := HX.out; omega) d2 wc (P₀) A1 B1 (A2 ++ (B2 ++ Sx)) (by rw [hd2]; try simp only [List.append_assoc]) (by (try simp only [List.length_append, ordL_len]); have := LL.out; have := HAE.out; have := HX.out; omega) (by have := LL.out; have := HX.out; omega) (by have := LL.out; have := HX.out; omega) (by have := LL.out; have := HX.out; omega) (by have := LL.out; have := HX.out; omega) (by have := HU.out; simp only [this]) (by have := HU.out; simp only [this]) SS hs2
        have HCC := Lib.hid hc
        clear hc q1 hd2 SS hs2
        go_wp2_with (go_at_fn 150; (refine HCC.out.mono ?_); rintro ee w1 ⟨rfl, hw1⟩)
        go_meet
        case rel => exact hw1.cast (by simp only [List.append_assoc])
      | false =>
        have q1 : ¬ (a < s ∧ s < mid) := by intro h; have := HBO.out; rw [hbo] at this; simp [h] at this
        have hne : A1 = [] ∨ B1 = [] := by
          have := LL.out
          have := HX.out
          rcases Nat.lt_or_ge a s with h1 | h1
          · right; exact List.length_eq_zero_iff.1 (by omega)
          · left; exact List.length_eq_zero_iff.1 (by omega)
        have HNE := Lib.hid hne
        clear hne q1
        go_wp2_with fail
        go_meet
        case rel => exact T1.out.cast (by have h1 := HU.out; rcases HNE.out with h | h <;> rw [h] <;> simp [ordL_up_id, h1])
    case rest =>
      clear T1
      have T2 := Lib.hid hcut.out
      clear hcut
      obtain ⟨d2, hd2, SS⟩ := T2.out
      have hs2 : d2.size = sz := by
        have e1 := arr_size hd2
        simp only [List.length_append, ordL_len] at e1
        have := HSZ.out
        omega
      by_cases q1 : mid < e ∧ e < b
      · have hc := IH.out mid e b (by have := LL.out; have := HX.out; omega) d2 wc (P₀ ++ ordL key (A1 ++ B1)) A2 B2 (Sx) (by rw [hd2]; try simp only [List.append_assoc]) (by (try simp only [List.length_append, ordL_len]); have := LL.out; have := HAE.out; have := HX.out; omega) (by have := LL.out; have := HX.out; omega) (by have := LL.out; have := HX.out; omega) (by have := LL.out; have := HX.out; omega) (by have := LL.out; have := HX.out; omega) (by have := HU.out; simp only [this]) (by have := HU.out; simp only [this]) SS hs2
        have HCC := Lib.hid hc
        have z1 : (mid : Int) < (e : Int) := by omega
        have z2 : (e : Int) < (b : Int) := by omega
        have d1 : decide (mid < e) = true := decide_eq_true q1.1
        have d2 : decide (e < b) = true := decide_eq_true q1.2
        clear hc q1 hd2 SS hs2 T2
        go_wp2_with (go_at_fn 150; (refine HCC.out.mono ?_); rintro ee w1 ⟨rfl, hw1⟩)
        exact hw1.cast (by simp only [List.append_assoc])
      · have hne : A2 = [] ∨ B2 = [] := by
          have := LL.out
          have := HX.out
          rcases Nat.lt_or_ge mid e with h1 | h1
          · right; exact List.length_eq_zero_iff.1 (by omega)
          · left; exact List.length_eq_zero_iff.1 (by omega)
        have HNE := Lib.hid hne
        clear hne hd2 SS hs2
        by_cases q2 : mid < e
        · have z1 : (mid : Int) < (e : Int) := by omega
          have z2 : ¬ (e : Int) < (b : Int) := by omega
          have d1 : decide (mid < e) = true := decide_eq_true q2
          have d2 : decide (e < b) = false := decide_eq_false (by omega)
          clear q1 q2
          go_wp2_with fail
          exact T2.out.cast (by have h1 := HU.out; rcases HNE.out with h | h <;> rw [h] <;> simp [ordL_up_id, h1])
        · have z1 : ¬ (mid : Int) < (e : Int) := by omega
          have d1 : decide (mid < e) = false := decide_eq_false q2
          clear q1 q2
          go_wp2_with fail
          exact T2.out.cast (by have h1 := HU.out; rcases HNE.out with h | h <;> rw [h] <;> simp [ordL_up_id, h1])
set_option maxHeartbeats 8000000 in
set_option maxRecDepth 1000000 in
theorem sym_big_w (L : StabL P k) (cf : Rl → Rl → Int) (key : Rl → List UInt8) (hlt : ∀ x y, ltOf cf x y = decide (key x < key y)) (g : Nat) (cb : Array Value) (eg : ∀ args w, (callFunc g args).run P w = .ok (.enter g args) w)
    (blk off cap sz : Nat) (d0 : Array Rl) (w0 : World) (hcmp : CmpLays P g cb rlEnc k cf blk off d0.size w0) (R : RowK rlEnc k w0 blk off d0) (hs0 : d0.size = sz) (hsz : sz < 4611686018427387904)
    (a m b : Nat) (ih : ∀ a' m' b', b' - a' < b - a → SymOk P k key g cb blk off cap sz w0 a' m' b') (d : Array Rl) (w : World) (P₀ A B Sx : List Rl) (hd : d.toList = P₀ ++ (A ++ (B ++ Sx))) (ha : a = P₀.length) (hm : m = a + A.length) (hb : b = m + B.length) (hA1 : 1 < A.length) (hB1 : 1 < B.length) (hA : UpL key A) (hB : UpL key B)
    (S : SWK rlEnc k w0 blk off d w) (hds : d.size = sz) :
    Calls P 150 #[.slice (some ⟨blk, off, none⟩) sz cap, .int .i64 a, .int .i64 m, .int .i64 b, .func (.func g) #[] cb] w fun e w' => e = .returned (.tuple #[]) ∧ StTo k w0 blk off (P₀ ++ (ordL key (A ++ B) ++ Sx)) w' := by
  have hlen := arr_size hd
  simp only [List.length_append] at hlen
  have HC : Aside _ := hcmp
  have HR0 : Aside (RowK rlEnc k w0 blk off d0) := R
  have S0 : Aside (SWK rlEnc k w0 blk off d w) := S
  have HUA := Lib.hid hA
  have HUB := Lib.hid hB
  have HD := Lib.hid hd
  have HLT := Lib.hid hlt
  have HS0 := Lib.hid hs0
  have HD0 : Hid (d.size = d0.size) := by show _ = _; omega
  have HDS := Lib.hid hds
  have HAE := Lib.hid ha
  have HBE := Lib.hid hb
  have HME := Lib.hid hm
  have IH : Aside _ := ih
  have HL : Aside _ := L
  have b1 : (m : Int) < 4611686018427387904 := by omega
  have b2 : (b : Int) < 4611686018427387904 := by omega
  have b3 : (a : Int) ≤ (m : Int) := by omega
  have b4 : (m : Int) ≤ (b : Int) := by omega
  have b6 : b ≤ sz := by omega
  have b5 : ((m : Int) - (a : Int) == 1) = false := by simp; omega
  have b7 : ((b : Int) - (m : Int) == 1) = false := by simp; omega
  have g1 : a + 2 ≤ m := by omega
  have g2 : m + 2 ≤ b := by omega
  obtain ⟨mid, hmid⟩ : ∃ q, q = (a + b) / 2 := ⟨_, rfl⟩
  have m1 : 2 * mid ≤ a + b := by omega
  have m2 : a + b ≤ 2 * mid + 1 := by omega
  have hmidz : ((a : Int) + (b : Int)) / 2 = (mid : Int) := by omega
  have HMID := Lib.hid hmid
  have HMIDZ := Lib.hid hmidz
  have hss : (mid < m → symS a m b = mid + m - b) ∧ (¬ mid < m → symS a m b = a) := by unfold symS; rw [← hmid]; constructor <;> intro q <;> simp [q]
  have hsr : (mid < m → symR a m b = mid) ∧ (¬ mid < m → symR a m b = m) := by unfold symR; rw [← hmid]; constructor <;> intro q <;> simp [q]
  have hs1 : a ≤ symS a m b ∧ symS a m b ≤ symR a m b ∧ symR a m b ≤ mid ∧ symR a m b ≤ m ∧ mid + m ≤ b + symS a m b := by
    by_cases q : mid < m
    · have := hss.1 q; have := hsr.1 q; omega
    · have := hss.2 q; have := hsr.2 q; omega
  have HSS := Lib.hid hss
  have HSR := Lib.hid hsr
  have HS1 := Lib.hid hs1
  clear S hd ha hb hm hlen R hs0 hds hlt hA hB hcmp ih hmid hmidz hss hsr hs1 hA1 hB1
  have e150 : ∀ args w, (callFunc 150 args).run P w = .ok (.enter 150 args) w := enters_of L.fSym (by kernel_rfl) rfl
  have e197 : ∀ args w, (callFunc 197 args).run P w = .ok (.enter 197 args) w := enters_of L.fRot (by kernel_rfl) rfl
  have mixed := L.mixed; have t0 := L.t0; have a0 := L.a0; have z0 := L.z0; have v0 := L.v0; have t3 := L.t3; have a3 := L.a3; have z3 := L.z3; have v3 := L.v3; have t4 := L.t4; have a4 := L.a4; have z4 := L.z4; have v4 := L.v4; have t26 := L.t26; have a26 := L.a26; have z26 := L.z26; have v26 := L.v26; have t113 := L.t113; have a113 := L.a113; have z113 := L.z113; have v113 := L.v113; have t56 := L.t56; have a56 := L.a56; have z56 := L.z56; have v56 := L.v56; have aE := L.aE; have zE := L.zE
  have FG := L.fSym
  clear L
  go_enter FG, Tryz.ntmps150
  go_upto_region 25 with fail
  rw [HMIDZ.out]
  go_upto_if 140 with fail
  go_cut [20, 21] from 25 (fun v20 v21 wc => v20 = .int .i64 (symS a m b : Nat) ∧ v21 = .int .i64 (symR a m b : Nat) ∧ wc = w)
  case first =>
    clear b1 b2
    by_cases q : mid < m
    · have qz : (mid : Int) < (m : Int) := by omega
      have qd : decide (mid < m) = true := decide_eq_true q
      have qb : (b : Int) ≤ (mid : Int) + (m : Int) := by omega
      go_wp2_with fail
      go_meet
      case rel => exact ⟨by rw [HSS.out.1 q]; congr 1; have := HS1.out; omega, by rw [HSR.out.1 q], rfl⟩
    · have qz : ¬ (mid : Int) < (m : Int) := by omega
      have qd : decide (mid < m) = false := decide_eq_false q
      go_wp2_with fail
      go_meet
      case rel => exact ⟨by rw [HSS.out.2 q], by rw [HSR.out.2 q], rfl⟩
  case rest =>
    obtain ⟨rfl, rfl, rfl⟩ := hcut
    obtain ⟨s0, hs0⟩ : ∃ q, q = symS a m b := ⟨_, rfl⟩
    obtain ⟨r0, hr0⟩ : ∃ q, q = symR a m b := ⟨_, rfl⟩
    have z1 := HS1.out
    rw [← hs0, ← hr0] at z1 ⊢
    obtain ⟨z1, z2, z3, z4, z5⟩ := z1
    have HSZ := Lib.hid hs0
    have HRZ := Lib.hid hr0
    clear hs0 hr0 HS1
    obtain ⟨p, hp⟩ : ∃ q, q + 1 = mid + m := ⟨mid + m - 1, by omega⟩
    have hpz : (mid : Int) + (m : Int) - 1 = (p : Int) := by omega
    have p1 : p + 1 ≤ mid + m := by omega
    have p2 : mid + m ≤ p + 1 := by omega
    have HPZ := Lib.hid hpz
    clear hp hpz
    go_wp2
    rw [HPZ.out]
    go_loopg [20, 21, 23] (r0 - s0) (fun gg vs vr vc wr => ∃ (s r : Nat), vs = .int .i64 s ∧ vr = .int .i64 r ∧ s0 ≤ s ∧ s ≤ r ∧ r ≤ r0 ∧ r - s ≤ gg ∧ Aside ((s = s0 ∨ ltOf cf d[mid + m - s]! d[s - 1]! = false) ∧ (r = r0 ∨ ltOf cf d[mid + m - 1 - r]! d[r]! = true)) ∧ Aside (SWK rlEnc k w0 blk off d wr))
    case atStart => exact ⟨s0, r0, rfl, rfl, Nat.le_refl _, z2, Nat.le_refl _, Nat.le_refl _, ⟨Or.inl rfl, Or.inl rfl⟩, S0⟩
    case round =>
      clear S0
      obtain ⟨s, r, rfl, rfl, y1, y2, y3, hgg, HQ, S1⟩ := hrel
      by_cases hlt : s < r
      · have hltz : (s : Int) < (r : Int) := by omega
        obtain ⟨h, hh⟩ : ∃ h, h = (s + r) / 2 := ⟨_, rfl⟩
        have h1 : s ≤ h := by omega
        have h2 : h < r := by omega
        have hhz : ((s : Int) + (r : Int)) / 2 = (h : Int) := by omega
        have HH := Lib.hid hhz
        clear hh hhz
        go_upto_region 35 with fail
        rw [HH.out]
        have hxy : mid + m - 1 - h = p - h := by omega
        have hhp : h ≤ p := by omega
        have hhq : (h : Int) ≤ (p : Int) := by omega
        cases hlv : ltOf cf d[p - h]! d[h]! with
        | true =>
          have HXY := Lib.hid hxy
          clear hxy
          have ex : ((p : Int) - (h : Int)).toNat = p - h := by omega
          have px : (0 : Int) ≤ (p : Int) - (h : Int) := by omega
          have bx : (p : Int) - (h : Int) < (sz : Int) := by omega
          have rx : IntKind.i64.wrap ((p : Int) - (h : Int)) = (p : Int) - (h : Int) := by rw [IntKind.wrap_i64]; omega
          have eY : ((h : Int)).toNat = h := by omega
          have pY : (0 : Int) ≤ (h : Int) := by omega
          have bY : (h : Int) < (sz : Int) := by omega
          have rY : IntKind.i64.wrap ((h : Int)) = (h : Int) := by rw [IntKind.wrap_i64]; omega
          obtain ⟨x90, hx90⟩ : ∃ x, x = d[p - h]! := ⟨_, rfl⟩
          obtain ⟨y90, hy90⟩ : ∃ x, x = d[h]! := ⟨_, rfl⟩
          have lx := S1.out.ld HR0.out HD0.out P (p - h) (by have := HDS.out; omega)
          have ly := S1.out.ld HR0.out HD0.out P (h) (by have := HDS.out; omega)
          rw [← hx90] at lx
          rw [← hy90] at ly
          have hcc := S1.out.cmp HC.out HD0.out x90 y90
          have hv : cf x90 y90 < 0 := by rw [hx90, hy90]; exact of_decide_eq_true hlv
          have hdc : decide (cf x90 y90 < 0) = true := decide_eq_true hv
          clear hx90 hy90
          go_wp2_with fail
          go_quiet_grown (first | (go_at_fn g; refine Calls.grown_of (hcc _ _)))
          have S2 : Aside (SWK rlEnc k w0 blk off d (grow (wr.drewN nq) osq)) := S1.out.grown nq osq
          clear lx ly hcc S1 ex px bx rx eY pY bY rY hv hdc
          generalize grow (wr.drewN nq) osq = w2 at S2 ⊢
          clear nq osq
          go_wp2
          go_roundg (h - s)
          case measure => omega
          case rel => exact ⟨s, h, rfl, rfl, y1, h1, by omega, Nat.le_refl _, ⟨HQ.out.1, Or.inr (by rw [HXY.out]; exact hlv)⟩, S2⟩
        | false =>
          have HXY := Lib.hid hxy
          clear hxy
          have ex : ((p : Int) - (h : Int)).toNat = p - h := by omega
          have px : (0 : Int) ≤ (p : Int) - (h : Int) := by omega
          have bx : (p : Int) - (h : Int) < (sz : Int) := by omega
          have rx : IntKind.i64.wrap ((p : Int) - (h : Int)) = (p : Int) - (h : Int) := by rw [IntKind.wrap_i64]; omega
          have eY : ((h : Int)).toNat = h := by omega
          have pY : (0 : Int) ≤ (h : Int) := by omega
          have bY : (h : Int) < (sz : Int) := by omega
          have rY : IntKind.i64.wrap ((h : Int)) = (h : Int) := by rw [IntKind.wrap_i64]; omega
          obtain ⟨x90, hx90⟩ : ∃ x, x = d[p - h]! := ⟨_, rfl⟩
          obtain ⟨y90, hy90⟩ : ∃ x, x = d[h]! := ⟨_, rfl⟩
          have lx := S1.out.ld HR0.out HD0.out P (p - h) (by have := HDS.out; omega)
          have ly := S1.out.ld HR0.out HD0.out P (h) (by have := HDS.out; omega)
          rw [← hx90] at lx
          rw [← hy90] at ly
          have hcc := S1.out.cmp HC.out HD0.out x90 y90
          have hv : ¬ cf x90 y90 < 0 := by rw [hx90, hy90]; exact of_decide_eq_false hlv
          have hdc : decide (cf x90 y90 < 0) = false := decide_eq_false hv
          clear hx90 hy90
          go_wp2_with fail
          go_quiet_grown (first | (go_at_fn g; refine Calls.grown_of (hcc _ _)))
          have S2 : Aside (SWK rlEnc k w0 blk off d (grow (wr.drewN nq) osq)) := S1.out.grown nq osq
          clear lx ly hcc S1 ex px bx rx eY pY bY rY hv hdc
          generalize grow (wr.drewN nq) osq = w2 at S2 ⊢
          clear nq osq
          go_wp2
          go_roundg (r - (h + 1))
          case measure => omega
          case rel => exact ⟨h + 1, r, by go_num, rfl, by omega, by omega, y3, Nat.le_refl _, ⟨Or.inr (by rw [Nat.add_sub_cancel, show mid + m - (h + 1) = p - h by omega]; exact hlv), HQ.out.2⟩, S2⟩
      · have hltz : ¬ (s : Int) < (r : Int) := by omega
        obtain rfl : s = r := by omega
        obtain ⟨e, he⟩ : ∃ q, q + s = mid + m := ⟨mid + m - s, by omega⟩
        have hez : (mid : Int) + (m : Int) - (s : Int) = (e : Int) := by omega
        have HEZ := Lib.hid hez
        have x1 : s ≤ m := by omega
        have x2 : m ≤ e := by omega
        have x3 : e ≤ b := by omega
        have x4 : a ≤ s := by omega
        have HX := Lib.hid he
        have hj := sym_at HLT.out HD.out HAE.out HME.out HBE.out HUA.out HUB.out (e := e) (s := s) (by rw [← HSZ.out]; exact y1) (by rw [← HRZ.out]; exact y3) (by rw [← HMID.out]; exact he) (by rw [← HSZ.out, ← HRZ.out, ← HMID.out]; exact HQ.out)
        obtain ⟨A1, hA1⟩ : ∃ q, q = A.take (s - a) := ⟨_, rfl⟩
        obtain ⟨A2, hA2⟩ : ∃ q, q = A.drop (s - a) := ⟨_, rfl⟩
        obtain ⟨B1, hB1⟩ : ∃ q, q = B.take (e - m) := ⟨_, rfl⟩
        obtain ⟨B2, hB2⟩ : ∃ q, q = B.drop (e - m) := ⟨_, rfl⟩
        rw [← hA1, ← hA2, ← hB1, ← hB2] at hj
        have hAA : A = A1 ++ A2 := by rw [hA1, hA2, List.take_append_drop]
        have hBB : B = B1 ++ B2 := by rw [hB1, hB2, List.take_append_drop]
        have lA1 : A1.length + a = s := by rw [hA1, List.length_take]; have := HME.out; omega
        have lA2 : A2.length + s = m := by rw [hA2, List.length_drop]; have := HME.out; omega
        have lB1 : B1.length + m = e := by rw [hB1, List.length_take]; have := HBE.out; omega
        have lB2 : B2.length + e = b := by rw [hB2, List.length_drop]; have := HBE.out; omega
        have LL := Lib.hid (And.intro lA1 (And.intro lA2 (And.intro lB1 lB2)))
        have hu : UpL key A1 ∧ UpL key A2 ∧ UpL key B1 ∧ UpL key B2 := by
          have h1 := HUA.out
          have h2 := HUB.out
          rw [hAA] at h1
          rw [hBB] at h2
          exact ⟨(UpL.app.1 h1).1, (UpL.app.1 h1).2.1, (UpL.app.1 h2).1, (UpL.app.1 h2).2.1⟩
        have HU := Lib.hid hu
        have HJ := Lib.hid hj
        have HDD : Hid (d.toList = P₀ ++ (A1 ++ (A2 ++ (B1 ++ (B2 ++ Sx))))) := by show _ = _; rw [HD.out, hAA, hBB]; simp only [List.append_assoc]
        clear hA1 hA2 hB1 hB2 hAA hBB lA1 lA2 lB1 lB2 hu hj he hez HQ
        go_upto_region 39 with fail
        rw [HEZ.out]
        clear b1 b2
        have hme : (s < m ↔ mid < e) ∧ (m < e ↔ s < mid) := by have := HX.out; constructor <;> constructor <;> intro q <;> omega
        have HME2 := Lib.hid hme
        clear hme
        obtain ⟨bo, hbo⟩ : ∃ q, q = (decide (s < m) && decide (m < e)) := ⟨_, rfl⟩
        have HBO := Lib.hid hbo
        clear hbo
        go_cut [185] from 25 (fun v wc => v = .bool bo ∧ wc = wr)
        case first =>
          by_cases q1 : s < m
          · have z1 : (s : Int) < (m : Int) := by omega
            have d1 : decide (s < m) = true := decide_eq_true q1
            by_cases q2 : m < e
            · have z2 : (m : Int) < (e : Int) := by omega
              have d2 : decide (m < e) = true := decide_eq_true q2
              go_wp2_with fail
              go_meet
              case rel => exact ⟨by rw [HBO.out, d1, d2]; rfl, rfl⟩
            · have z2 : ¬ (m : Int) < (e : Int) := by omega
              have d2 : decide (m < e) = false := decide_eq_false q2
              go_wp2_with fail
              go_meet
              case rel => exact ⟨by rw [HBO.out, d1, d2]; rfl, rfl⟩
          · have z1 : ¬ (s : Int) < (m : Int) := by omega
            have d1 : decide (s < m) = false := decide_eq_false q1
            go_wp2_with fail
            go_meet
            case rel => exact ⟨by rw [HBO.out, d1]; rfl, rfl⟩
        case rest =>
          obtain ⟨rfl, rfl⟩ := hcut
          go_upto_if 185 with fail
          go_cut [] from 25 (fun wc => Aside (StTo k w0 blk off (P₀ ++ (A1 ++ (B1 ++ (A2 ++ (B2 ++ Sx))))) wc))
          case first =>
            cases hbo : bo with
            | true =>
              have q1 : s < m ∧ m < e := by have := HBO.out; rw [hbo] at this; simpa using this.symm
              have z1 : (s : Int) < (m : Int) := by omega
              have z2 : (m : Int) < (e : Int) := by omega
              have d1 : decide (s < m) = true := decide_eq_true q1.1
              have d2 : decide (m < e) = true := decide_eq_true q1.2
              have hc := rotate_any HL.out (.func (.func g) #[] cb) blk off cap s m e sz d0 d w0 wc HR0.out HDS.out.symm (by have := HS0.out; have := HDS.out; omega) S1.out (P₀ ++ A1) A2 B1 (B2 ++ Sx) (by rw [HDD.out]; simp only [List.append_assoc]) (by rw [List.length_append]; have := LL.out; have := HAE.out; omega) (by rw [List.length_append]; have := LL.out; have := HAE.out; omega) (by rw [List.length_append]; have := LL.out; have := HAE.out; omega) (by have := LL.out; omega) (by have := LL.out; omega) (by have := HDS.out; omega)
              have HCC := Lib.hid hc
              clear hc q1
              go_wp2_with (go_at_fn 197; (refine HCC.out.mono ?_); rintro ee w1 ⟨rfl, hw1⟩)
              go_meet
              case rel => exact hw1.cast (by simp only [List.append_assoc])
            | false =>
              have q1 : ¬ (s < m ∧ m < e) := by intro h; have := HBO.out; rw [hbo] at this; simp [h] at this
              have hne : A2 = [] ∨ B1 = [] := by
                have := LL.out
                rcases Nat.lt_or_ge s m with h1 | h1
                · right; exact List.length_eq_zero_iff.1 (by omega)
                · left; exact List.length_eq_zero_iff.1 (by omega)
              have HNE := Lib.hid hne
              clear hne q1
              go_wp2_with fail
              go_meet
              case rel => exact ⟨d, by rw [HDD.out]; rcases HNE.out with h | h <;> rw [h] <;> simp, S1.out⟩
          case rest =>
            clear S1
            have T1 := Lib.hid hcut.out
            clear hcut
            have hn : P₀.length + A1.length + A2.length + B1.length + B2.length + Sx.length = sz := by
              have e1 := arr_size HDD.out
              simp only [List.length_append] at e1
              have := HDS.out
              omega
            refine ‹∀ (a : Act) (w : World), Code.wp P (Code.seq (Code.seq (Code.region 41 _ _) _) _) _ a w → _› _ _ ?_
            refine Code.wp_mono (fun x a' w' h => ?_) (sym_tail HL.out key g cb blk off cap sz w0 wc a m b mid s e IH.out P₀ A1 A2 B1 B2 Sx hn hsz HAE.out LL.out HX.out x1 x2 x3 x4 (by omega) (by omega) HU.out T1.out _ _ _ _ _ _ _ _ _ _ _ _ _ _ _ _ _ _ _ _ _ _ _ _ _ _ _ _ _ _ _ _ _ _ _ _ _ _ _ _ _ _ _ _ _ _ _ _ _ _ _ _ _ _ _ _ _ _ _ _ _ _ _ _ _ _ _ _ _ _ _ _ _ _ _ _ _ _ _ _ _ _ _ _ _ _ _ _ _ _ _ _ _ _ _ _ _ _ _ _ _ _ _ _ _ _ _ _ _ _ _ _ _ _ _ _ _ _ _ _ _ _ _ _ _ _ _ _ _ _ _ _ _ _ _ _ _ _ _ _ _ _ _ _ _ _ _ _ _ _ _ _ _ _ _ _ _ _ _ _ _ _ _ _ _ _ _ _ _ _ _ _ _ _ _ _ _ _ _ _ _ _ _ _ _ _ _ _ _ _ _ _ _ _ _ _ _ _ _ _ _ _ _ _ _ _ _ _ _ _ _ _)
            obtain ⟨h1, h2, h3⟩ := h
            subst h1
            obtain ⟨tm, df⟩ := a'
            simp only at h2
            subst h2
            first | go_end0 | refine bodyPost_ret (results_none rfl _ _ _) rfl ?_
            exact ⟨rfl, h3.cast (by rw [← HJ.out]; simp only [List.append_assoc])⟩
end
end Go.Proofs.YtknlojlcahgnoaaGreat
