/- Walks: slices.swapRangeCmpFunc and slices.rotateCmpFunc at rules. -/
import Derived.Test.YtknlojlcahgnoaaGreatProg
import Derived.Shelf.SlSortCmp.KitK
import Derived.Sort.WalkB2
import Derived.Sort.WalkB12
import Derived.Deep.LoopGhost
import Derived.Test.YtknlojlcahgnoaaGreatEb4
import Derived.Test.YtknlojlcahgnoaaGreatEb1
import Derived.Test.YtknlojlcahgnoaaGreatEb12

namespace Go.Proofs.YtknlojlcahgnoaaGreat
open Go.RowKit Go.Shelf Go.Lib Go.Sort
set_option linter.unusedVariables false
set_option linter.unusedSimpArgs false

def rlEnc (x : Rl) : List Value := x.cells.toList
instance : Inhabited Rl := ⟨⟨⟨#[]⟩, 0, 0, 0⟩⟩
def swRun (d : Array Rl) (a b : Nat) : Nat → Array Rl
  | 0 => d
  | n + 1 => swp (swRun d a b n) (a + n) (b + n)
theorem swRun_size (d : Array Rl) (a b n : Nat) : (swRun d a b n).size = d.size := by
  induction n with
  | zero => rfl
  | succ n ih => show (swp _ _ _).size = _; rw [size_swp, ih]
theorem swRun_list {d : Array Rl} {P X Z Y S : List Rl} (hl : X.length = Y.length) (h : d.toList = P ++ (X ++ (Z ++ (Y ++ S)))) :
    ∀ i, i ≤ X.length → (swRun d P.length (P.length + X.length + Z.length) i).toList = srL P X Z Y S i := by
  intro i
  induction i with
  | zero => intro _; show d.toList = _; rw [srL_zero, h]
  | succ i ih => intro hi; exact sr_step hl (by omega) (ih (by omega))

/-- what the walks ask of the program: the three bodies, and their types; the row's element is of whatever size -/
structure StabL (P : Program) (k : Nat) : Prop where
  mixed : P.follows Departure.mixedOrders = true
  fSwap : P.funcs[215]? = some Tryz.f215
  fRot : P.funcs[197]? = some Tryz.f197
  fSym : P.funcs[150]? = some Tryz.f150
  t0 : P.underlying 0 = some (TypeDesc.tuple #[])
  a0 : ∀ w, (isAgg 0).run P w = .ok false w
  z0 : ∀ w, (Go.sizeOf 0).run P w = .ok 1 w
  v0 : ∀ w, (zeroValue 0).run P w = .ok (Value.tuple #[]) w
  t3 : P.underlying 3 = some (TypeDesc.int IntKind.i64)
  a3 : ∀ w, (isAgg 3).run P w = .ok false w
  z3 : ∀ w, (Go.sizeOf 3).run P w = .ok 1 w
  v3 : ∀ w, (zeroValue 3).run P w = .ok (Value.int IntKind.i64 0) w
  t4 : P.underlying 4 = some (TypeDesc.bool)
  a4 : ∀ w, (isAgg 4).run P w = .ok false w
  z4 : ∀ w, (Go.sizeOf 4).run P w = .ok 1 w
  v4 : ∀ w, (zeroValue 4).run P w = .ok (Value.bool false) w
  t26 : P.underlying 26 = some (TypeDesc.slice 37)
  a26 : ∀ w, (isAgg 26).run P w = .ok false w
  z26 : ∀ w, (Go.sizeOf 26).run P w = .ok 1 w
  v26 : ∀ w, (zeroValue 26).run P w = .ok (Value.slice none 0 0) w
  t113 : P.underlying 113 = some (TypeDesc.func #[37, 37] #[3] false)
  a113 : ∀ w, (isAgg 113).run P w = .ok false w
  z113 : ∀ w, (Go.sizeOf 113).run P w = .ok 1 w
  v113 : ∀ w, (zeroValue 113).run P w = .ok (Value.nilFunc) w
  t56 : P.underlying 56 = some (TypeDesc.int IntKind.u64)
  a56 : ∀ w, (isAgg 56).run P w = .ok false w
  z56 : ∀ w, (Go.sizeOf 56).run P w = .ok 1 w
  v56 : ∀ w, (zeroValue 56).run P w = .ok (Value.int IntKind.u64 0) w
  aE : ∀ w, (isAgg 37).run P w = .ok true w
  zE : ∀ w, (Go.sizeOf 37).run P w = .ok k w
theorem stabL : StabL Tryz.prog 4 where
  mixed := by kernel_rfl
  fSwap := Tryz.func215
  fRot := Tryz.func197
  fSym := Tryz.func150
  t0 := Tryz.underlying0
  a0 := Tryz.isAgg0
  z0 := Tryz.sizeOf0
  v0 := Tryz.zeroValue0
  t3 := Tryz.underlying3
  a3 := Tryz.isAgg3
  z3 := Tryz.sizeOf3
  v3 := Tryz.zeroValue3
  t4 := Tryz.underlying4
  a4 := Tryz.isAgg4
  z4 := Tryz.sizeOf4
  v4 := Tryz.zeroValue4
  t26 := Tryz.underlying26
  a26 := Tryz.isAgg26
  z26 := Tryz.sizeOf26
  v26 := Tryz.zeroValue26
  t113 := Tryz.underlying113
  a113 := Tryz.isAgg113
  z113 := Tryz.sizeOf113
  v113 := Tryz.zeroValue113
  t56 := Tryz.underlying56
  a56 := Tryz.isAgg56
  z56 := Tryz.sizeOf56
  v56 := Tryz.zeroValue56
  aE := Tryz.isAgg37
  zE := Tryz.sizeOf37
section
variable {P : Program} {k : Nat}
set_option maxHeartbeats 4000000 in
set_option maxRecDepth 1000000 in
theorem swap_range (L : StabL P k) (fv : Value) (blk off cap a b n : Nat) (d0 d : Array Rl) (w0 w : World) (R : RowK rlEnc k w0 blk off d0) (hs : d0.size = d.size) (S : SWK rlEnc k w0 blk off d w)
    (ha : a + n ≤ d.size) (hb : b + n ≤ d.size) (hsz : d.size < 4611686018427387904) :
    Calls P 215 #[.slice (some ⟨blk, off, none⟩) d.size cap, .int .i64 a, .int .i64 b, .int .i64 n, fv] w fun e w' => e = .returned (.tuple #[]) ∧ SWK rlEnc k w0 blk off (swRun d a b n) w' := by
  have S0 : Aside (SWK rlEnc k w0 blk off (swRun d a b 0) w) := S
  clear S
  have mixed := L.mixed; have t0 := L.t0; have a0 := L.a0; have z0 := L.z0; have v0 := L.v0; have t3 := L.t3; have a3 := L.a3; have z3 := L.z3; have v3 := L.v3; have t4 := L.t4; have a4 := L.a4; have z4 := L.z4; have v4 := L.v4; have t26 := L.t26; have a26 := L.a26; have z26 := L.z26; have v26 := L.v26; have t113 := L.t113; have a113 := L.a113; have z113 := L.z113; have v113 := L.v113; have t56 := L.t56; have a56 := L.a56; have z56 := L.z56; have v56 := L.v56; have aE := L.aE; have zE := L.zE
  have FG := L.fSwap
  clear L
  go_enter FG, Tryz.ntmps215
  go_wp2
  go_loopg [10] n (fun g vi wr => ∃ i : Nat, vi = .int .i64 i ∧ i ≤ n ∧ n - i ≤ g ∧ Aside (SWK rlEnc k w0 blk off (swRun d a b i) wr))
  case atStart => exact ⟨0, rfl, by omega, by omega, S0⟩
  case round =>
    clear S0
    obtain ⟨i, rfl, hi, hg, S1⟩ := hrel
    by_cases hlt : i < n
    · have hltz : (i : Int) < (n : Int) := by omega
      go_wp2_with fail
      have ea : ((a : Int) + (i : Int)).toNat = a + i := by omega
      have pa : (0 : Int) ≤ (a : Int) + (i : Int) := by omega
      have ba : (a : Int) + (i : Int) < (d.size : Int) := by omega
      have ra : IntKind.i64.wrap ((a : Int) + (i : Int)) = (a : Int) + (i : Int) := by rw [IntKind.wrap_i64]; omega
      have eb : ((b : Int) + (i : Int)).toNat = b + i := by omega
      have pb : (0 : Int) ≤ (b : Int) + (i : Int) := by omega
      have bb : (b : Int) + (i : Int) < (d.size : Int) := by omega
      have rb : IntKind.i64.wrap ((b : Int) + (i : Int)) = (b : Int) + (i : Int) := by rw [IntKind.wrap_i64]; omega
      have hsz1 := swRun_size d a b i
      have S2 : Aside (SWK rlEnc k w0 blk off (swRun d a b (i + 1)) ((wr.drew.setCells blk (off + (a + i) * k) (rlEnc (swRun d a b i)[b + i]!)).setCells blk (off + (b + i) * k) (rlEnc (swRun d a b i)[a + i]!))) := S1.out.swapped R (a + i) (b + i) (by omega) (by omega)
      have la := S1.out.ld1 R (by omega) P (a + i) (by omega)
      have lb := S1.out.ld1 R (by omega) P (b + i) (by omega)
      have sa := S1.out.st1 R (by omega) P (a + i) (by omega) (swRun d a b i)[b + i]!
      have sb := S1.out.st2 R (by omega) P (a + i) (b + i) (by omega) (by omega) (swRun d a b i)[b + i]! (swRun d a b i)[a + i]!
      have na : (rlEnc (swRun d a b i)[a + i]!).length = k := R.hk _
      have nb : (rlEnc (swRun d a b i)[b + i]!).length = k := R.hk _
      generalize rlEnc (swRun d a b i)[a + i]! = cI at S2 la sb na
      generalize rlEnc (swRun d a b i)[b + i]! = cJ at S2 lb sa sb nb
      clear S1 hsz1
      go_wp2_with fail
      go_big_region_o
      clear la lb sa sb
      generalize (wr.drew.setCells blk (off + (a + i) * k) cJ).setCells blk (off + (b + i) * k) cI = w2 at S2 ⊢
      go_wp2
      go_roundg (n - (i + 1))
      case measure => omega
      case rel => exact ⟨i + 1, by go_num, by omega, Nat.le_refl _, S2⟩
    · have hltz : ¬ (i : Int) < (n : Int) := by omega
      have hin : i = n := by omega
      have HI := Lib.hid hin
      clear hin
      go_wp2
      go_end0
      refine ⟨rfl, ?_⟩
      have := S1.out
      rwa [HI.out] at this
/-- the same at whatever spelling of the numbers -/
theorem swap_range_z (L : StabL P k) (fv : Value) (blk off cap a b n : Nat) (az bz nz : Int) (d0 d : Array Rl) (w0 w : World) (R : RowK rlEnc k w0 blk off d0) (sz : Nat) (hsd : sz = d.size) (hs : d0.size = d.size) (S : SWK rlEnc k w0 blk off d w)
    (ha : a + n ≤ d.size) (hb : b + n ≤ d.size) (hsz : d.size < 4611686018427387904) (ea : az = a) (eb : bz = b) (en : nz = n) :
    Calls P 215 #[.slice (some ⟨blk, off, none⟩) sz cap, .int .i64 az, .int .i64 bz, .int .i64 nz, fv] w fun e w' => e = .returned (.tuple #[]) ∧ SWK rlEnc k w0 blk off (swRun d a b n) w' := by
  subst ea eb en hsd
  exact swap_range L fv blk off cap a b n d0 d w0 w R hs S ha hb hsz
theorem sw_list {d : Array Rl} {P₀ X Z Y S : List Rl} (hl : X.length = Y.length) (h : d.toList = P₀ ++ (X ++ (Z ++ (Y ++ S)))) :
    (swRun d P₀.length (P₀.length + X.length + Z.length) X.length).toList = P₀ ++ (Y ++ (Z ++ (X ++ S))) := by
  rw [swRun_list hl h _ (Nat.le_refl _), srL_all hl]

/-- the row holds a list, in a world of the sort's -/
def StTo (k : Nat) (w0 : World) (blk off : Nat) (L : List Rl) (w' : World) : Prop := ∃ d', d'.toList = L ∧ SWK rlEnc k w0 blk off d' w'

theorem arr_size {d : Array Rl} {L : List Rl} (h : d.toList = L) : d.size = L.length := by rw [← h, Array.length_toList]

set_option maxHeartbeats 4000000 in
set_option maxRecDepth 1000000 in
theorem rotate_any (L : StabL P k) (fv : Value) (blk off cap a m b sz : Nat) (d0 d : Array Rl) (w0 w : World) (R : RowK rlEnc k w0 blk off d0) (hsd : sz = d.size) (hs : d0.size = d.size) (S : SWK rlEnc k w0 blk off d w) (P₀ X Y Sx : List Rl)
    (hd : d.toList = P₀ ++ (X ++ (Y ++ Sx))) (ha : P₀.length = a) (hm : P₀.length + X.length = m) (hb : P₀.length + X.length + Y.length = b) (hX : 0 < X.length) (hY : 0 < Y.length) (hsz : d.size < 4611686018427387904) :
    Calls P 197 #[.slice (some ⟨blk, off, none⟩) sz cap, .int .i64 a, .int .i64 m, .int .i64 b, fv] w fun e w' => e = .returned (.tuple #[]) ∧ StTo k w0 blk off (P₀ ++ (Y ++ (X ++ Sx))) w' := by
  have hlen := arr_size hd
  simp only [List.length_append] at hlen
  have HR : Aside (RotAt (P₀ ++ (Y ++ (X ++ Sx))) d.toList m X.length Y.length P₀ X Y Sx) := ⟨hd, rfl, hm, rfl, rfl⟩
  have S0 : Aside (SWK rlEnc k w0 blk off d w) := S
  have HR0 : Aside (RowK rlEnc k w0 blk off d0) := R
  have b1 : (m : Int) < 4611686018427387904 := by omega
  have b2 : (b : Int) < 4611686018427387904 := by omega
  have b3 : (a : Int) ≤ (m : Int) := by omega
  have b4 : (m : Int) ≤ (b : Int) := by omega
  have ei : (m : Int) - (a : Int) = (X.length : Int) := by omega
  have ej : (b : Int) - (m : Int) = (Y.length : Int) := by omega
  have HI := Lib.hid ei
  have HJ := Lib.hid ej
  have HD := Lib.hid hsd
  have hszz : d.size = sz := hsd.symm
  have HS := Lib.hid hs
  have mle : m ≤ sz := by omega
  have ble : b ≤ sz := by omega
  clear S hd ha hm hb ei ej hlen R hsd hs
  generalize P₀ ++ (Y ++ (X ++ Sx)) = T at HR ⊢
  have e215 : ∀ args w, (callFunc 215 args).run P w = .ok (.enter 215 args) w := enters_of L.fSwap (by kernel_rfl) rfl
  have mixed := L.mixed; have t0 := L.t0; have a0 := L.a0; have z0 := L.z0; have v0 := L.v0; have t3 := L.t3; have a3 := L.a3; have z3 := L.z3; have v3 := L.v3; have t4 := L.t4; have a4 := L.a4; have z4 := L.z4; have v4 := L.v4; have t26 := L.t26; have a26 := L.a26; have z26 := L.z26; have v26 := L.v26; have t113 := L.t113; have a113 := L.a113; have z113 := L.z113; have v113 := L.v113; have t56 := L.t56; have a56 := L.a56; have z56 := L.z56; have v56 := L.v56; have aE := L.aE; have zE := L.zE
  have FG := L.fRot
  have HL : Aside _ := L
  clear L
  go_enter FG, Tryz.ntmps197
  go_wp2
  go_loopg [10, 11] sz (fun g vi vj wr => ∃ (i j : Nat) (dk : Array Rl) (P' X' Y' S' : List Rl), vi = .int .i64 i ∧ vj = .int .i64 j ∧ 0 < i ∧ 0 < j ∧ i ≤ m ∧ m + j ≤ sz ∧ i + j ≤ g ∧ dk.size = sz ∧ Aside (RotAt T dk.toList m i j P' X' Y' S') ∧ Aside (SWK rlEnc k w0 blk off dk wr))
  case atStart => exact ⟨X.length, Y.length, d, P₀, X, Y, Sx, by rw [HI.out], by rw [HJ.out], hX, hY, by have := HI.out; omega, by have := HJ.out; omega, by have := HI.out; have := HJ.out; omega, hszz, HR, S0⟩
  case round =>
    clear S0 HR
    obtain ⟨i, j, dk, P', X', Y', S', rfl, rfl, hi0, hj0, him, hjm, hg, hds, HR, S1⟩ := hrel
    have HDK := Lib.hid hds
    have hds' : dk.size ≤ sz ∧ sz ≤ dk.size := by omega
    clear hds
    rcases Nat.lt_trichotomy j i with hji | hji | hji
    · have q1 : ((i : Int) != (j : Int)) = true := by simp; omega
      have q1' : ¬ (i : Int) = (j : Int) := by omega
      have q2 : (j : Int) < (i : Int) := by omega
      obtain ⟨h1, h2, h3, h4, h5⟩ := HR.out
      have hL := Lib.hid (sw_list (d := dk) (P₀ := P') (X := X'.take j) (Z := X'.drop j) (Y := Y') (S := S') (by rw [List.length_take]; omega) (by rw [h1]; conv => lhs; rw [← List.take_append_drop j X']; simp only [List.append_assoc]))
      have hN := Lib.hid (HR.out.left hji)
      have e1 : (X'.take j).length = j := by rw [List.length_take]; omega
      have e2 : (X'.drop j).length = i - j := by rw [List.length_drop]; omega
      have E1 := Lib.hid e1
      have E2 := Lib.hid e2
      have H3 := Lib.hid h3
      have hc := fun W S => swap_range_z HL.out fv blk off cap P'.length m j ((m : Int) - (i : Int)) (m : Int) (j : Int) d0 dk w0 W HR0.out sz HDK.out.symm (by have := HS.out; have := HD.out; have := HDK.out; omega) S (by omega) (by omega) (by have := HDK.out; omega) (by omega) rfl rfl
      have HC : Aside _ := hc
      clear h1 h2 h3 h4 h5 e1 e2 hc
      go_wp2_with (go_at_fn 215; (refine (HC.out _ S1.out).mono ?_); rintro e w1 ⟨rfl, hw1⟩)
      have S2 : Aside _ := hw1
      clear hw1
      go_roundg (i - j + j)
      case measure => omega
      case rel =>
        refine ⟨i - j, j, swRun dk P'.length m j, P' ++ Y', X'.drop j, X'.take j, S', by congr 1; omega, rfl, by omega, hj0, by omega, hjm, Nat.le_refl _, by rw [swRun_size]; exact HDK.out, ?_, S2⟩
        have hl := hL.out
        rw [E1.out, E2.out, show P'.length + j + (i - j) = m by have := H3.out; omega] at hl
        rw [hl]
        exact hN.out
    · have q1 : ((i : Int) != (j : Int)) = false := by simp; omega
      have q1' : (i : Int) = (j : Int) := by omega
      obtain rfl : i = j := hji.symm
      obtain ⟨h1, h2, h3, h4, h5⟩ := HR.out
      have hL := Lib.hid (sw_list (d := dk) (P₀ := P') (X := X') (Z := []) (Y := Y') (S := S') (by omega) (by rw [h1]; rfl))
      have H3 := Lib.hid h3
      have H2 := Lib.hid h2
      have H4 := Lib.hid h4
      have hc := fun W S => swap_range_z HL.out fv blk off cap P'.length m i ((m : Int) - (i : Int)) (m : Int) (i : Int) d0 dk w0 W HR0.out sz HDK.out.symm (by have := HS.out; have := HD.out; have := HDK.out; omega) S (by omega) (by omega) (by have := HDK.out; omega) (by omega) rfl rfl
      have HC : Aside _ := hc
      clear h1 h2 h3 h4 h5 hc q1'
      go_wp2_with (go_at_fn 215; (refine (HC.out _ S1.out).mono ?_); rintro e w1 ⟨rfl, hw1⟩)
      go_end0
      refine ⟨rfl, swRun dk P'.length m i, ?_, hw1⟩
      have hl := hL.out
      rw [H4.out, List.length_nil, Nat.add_zero, H3.out] at hl
      rw [hl, H2.out]
      rfl
    · have q1 : ((i : Int) != (j : Int)) = true := by simp; omega
      have q1' : ¬ (i : Int) = (j : Int) := by omega
      have q2 : ¬ (j : Int) < (i : Int) := by omega
      obtain ⟨h1, h2, h3, h4, h5⟩ := HR.out
      have hL := Lib.hid (sw_list (d := dk) (P₀ := P') (X := X') (Z := Y'.take (j - i)) (Y := Y'.drop (j - i)) (S := S') (by rw [List.length_drop]; omega) (by rw [h1]; conv => lhs; rw [← List.take_append_drop (j - i) Y']; simp only [List.append_assoc]))
      have hN := Lib.hid (HR.out.right hji)
      have e2 : (Y'.take (j - i)).length = j - i := by rw [List.length_take]; omega
      have E2 := Lib.hid e2
      have H3 := Lib.hid h3
      have H4 := Lib.hid h4
      have hc := fun W S => swap_range_z HL.out fv blk off cap P'.length (m + (j - i)) i ((m : Int) - (i : Int)) ((m : Int) + (j : Int) - (i : Int)) (i : Int) d0 dk w0 W HR0.out sz HDK.out.symm (by have := HS.out; have := HD.out; have := HDK.out; omega) S (by omega) (by omega) (by have := HDK.out; omega) (by omega) (by omega) rfl
      have HC : Aside _ := hc
      clear h1 h2 h3 h4 h5 e2 hc
      go_wp2_with (go_at_fn 215; (refine (HC.out _ S1.out).mono ?_); rintro e w1 ⟨rfl, hw1⟩)
      have S2 : Aside _ := hw1
      clear hw1
      go_roundg (i + (j - i))
      case measure => omega
      case rel =>
        refine ⟨i, j - i, swRun dk P'.length (m + (j - i)) i, P', Y'.drop (j - i), Y'.take (j - i), X' ++ S', rfl, by congr 1; omega, hi0, by omega, him, by omega, Nat.le_refl _, by rw [swRun_size]; exact HDK.out, ?_, S2⟩
        have hl := hL.out
        rw [H4.out, E2.out, show P'.length + i + (j - i) = m + (j - i) by have := H3.out; omega] at hl
        rw [hl]
        exact hN.out
end
end Go.Proofs.YtknlojlcahgnoaaGreat
