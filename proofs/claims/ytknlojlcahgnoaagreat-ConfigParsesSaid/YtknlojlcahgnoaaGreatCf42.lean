/- Walk: config.Print. -/
import Derived.Test.YtknlojlcahgnoaaGreatCf34
import Derived.Test.YtknlojlcahgnoaaGreatCf30
import Derived.Test.YtknlojlcahgnoaaGreatCf40
import Derived.Test.YtknlojlcahgnoaaGreatCf20
import Derived.Test.YtknlojlcahgnoaaGreatCf29

namespace Go.Proofs.YtknlojlcahgnoaaGreat
open Go.RowKit
set_option linter.unusedVariables false
set_option linter.unusedSimpArgs false

def plW (r : Rl) : List ByteArray := printWords r.p r.e r.b r.k
/-- the lines that are printed -/
def prLines (most : Int) (rs : List Rl) : List (List ByteArray) := [wSize, digStr most] :: (ordL Rl.key rs).map plW
def prText (most : Int) (rs : List Rl) : List UInt8 := joinText (prLines most rs)
theorem intercalate_len (sep : List UInt8) : ∀ (l : List (List UInt8)), (sep.intercalate l).length ≤ (l.map (·.length)).sum + l.length * sep.length
  | [] => by simp [List.intercalate]
  | [a] => by simp [List.intercalate]
  | a :: b :: r => by
    have h := intercalate_len sep (b :: r)
    have e : sep.intercalate (a :: b :: r) = a ++ (sep ++ sep.intercalate (b :: r)) := by simp [List.intercalate]
    rw [e]
    simp only [List.length_append, List.map_cons, List.sum_cons, List.length_cons, Nat.add_mul] at h ⊢
    omega
theorem joinL_len (l : List ByteArray) : (joinL l).length ≤ (l.map (·.size)).sum + l.length := by
  have h := intercalate_len [32] (l.map (·.data.toList))
  have e : (l.map (·.data.toList)).map (·.length) = l.map (·.size) := by
    rw [List.map_map]
    apply List.map_congr_left
    intro s _
    show s.data.toList.length = s.data.size
    simp
  rw [e] at h
  simpa [joinL, Lib.join] using h
theorem plW_len {r : Rl} (h : RlOk r) (hr : rErr r = 0) : (plW r).length ≤ 5 ∧ (joinL (plW r)).length ≤ 300 := by
  obtain ⟨m, e0, e1, b0, b1, -, -⟩ := h
  have h1 := (dig_back r.e e0 e1).2.2.1
  have h2 := (dig_back r.b b0 b1).2.2.1
  have h3 := nameW_size r.k
  have h4 : r.p.size ≤ 128 := by
    have := (ruleErr_zero hr).1
    unfold prefOk at this
    simp [keyOk] at this
    rcases this with q | q
    · rw [q]; decide
    · omega
  have d1 : wDef.size = 7 := by decide
  have d2 : wRule.size = 4 := by decide
  have hr2 : ruleErr r.p r.e r.b r.k = 0 := hr
  by_cases q : r.p = ⟨#[]⟩
  · have e : plW r = [wDef, digStr r.e, digStr r.b, nameOf r.k] := by unfold plW printWords; rw [if_pos hr2, if_pos q]
    have hj := joinL_len (plW r)
    rw [e] at hj ⊢
    simp only [List.map_cons, List.map_nil, List.sum_cons, List.sum_nil, List.length_cons, List.length_nil] at hj ⊢
    omega
  · have e : plW r = [wRule, r.p, digStr r.e, digStr r.b, nameOf r.k] := by unfold plW printWords; rw [if_pos hr2, if_neg q]
    have hj := joinL_len (plW r)
    rw [e] at hj ⊢
    simp only [List.map_cons, List.map_nil, List.sum_cons, List.sum_nil, List.length_cons, List.length_nil] at hj ⊢
    omega
theorem cfg_zero {most : Int} {rs : List Rl} (h : cfgErr most rs = 0) : 1 ≤ most ∧ most ≤ 1000000 ∧ rs.length ≤ 1000 := by
  by_cases h1 : most < 1 ∨ 1000000 < most
  · rw [cfgErr_most h1] at h; cases h
  · by_cases h2 : 1000 < rs.length
    · rw [cfgErr_many h1 h2] at h; cases h
    · omega
theorem cfgErr_rules {most : Int} {rs : List Rl} (h : cfgErr most rs = 0) : ∀ r ∈ rs, rErr r = 0 := by
  obtain ⟨h1, h2, h3⟩ := cfg_zero h
  intro r hr
  by_cases q : rErr r = 0
  · exact q
  · exfalso
    unfold cfgErr at h
    rw [if_neg (by omega), if_neg (by omega)] at h
    cases hf : rs.find? (fun r => decide (rErr r ≠ 0)) with
    | none =>
      rw [List.find?_eq_none] at hf
      exact hf r hr (by simpa using q)
    | some x =>
      rw [hf] at h
      have := List.find?_some hf
      simp at this
      exact this h
theorem prLines_len {most : Int} {rs : List Rl} (hro : ∀ r ∈ rs, RlOk r) (h : cfgErr most rs = 0) : (prLines most rs).length ≤ 1001 ∧ (∀ l ∈ prLines most rs, l.length ≤ 5) ∧ (prText most rs).length ≤ 1000000000000 := by
  obtain ⟨h1, h2, h3⟩ := cfg_zero h
  have hl : (prLines most rs).length ≤ 1001 := by unfold prLines; rw [List.length_cons, List.length_map, ordL_len]; omega
  have hd := (dig_back most (by omega) (by omega)).2.2.1
  have hall : ∀ l ∈ prLines most rs, l.length ≤ 5 ∧ (joinL l).length ≤ 300 := by
    intro l hm
    rcases List.mem_cons.1 hm with rfl | hm
    · refine ⟨by simp, ?_⟩
      have := joinL_len [wSize, digStr most]
      have d1 : wSize.size = 4 := by decide
      simp only [List.map_cons, List.map_nil, List.sum_cons, List.sum_nil, List.length_cons, List.length_nil] at this
      omega
    · obtain ⟨r, hr, rfl⟩ := List.mem_map.1 hm
      have hr' := (ordL_perm rs).mem_iff.1 hr
      exact plW_len (hro r hr') (cfgErr_rules h r hr')
  refine ⟨hl, fun l hm => (hall l hm).1, ?_⟩
  have key : ∀ ls : List (List ByteArray), (∀ l ∈ ls, (joinL l).length ≤ 300) → (joinText ls).length ≤ ls.length * 301 := by
    intro ls
    induction ls with
    | nil => intro _; simp [joinText]
    | cons a ls ih =>
      intro hh
      have e : joinText (a :: ls) = (joinL a ++ [10]) ++ joinText ls := by simp [joinText]
      have h1 := hh a (by simp)
      have h2 := ih fun l hm => hh l (by simp [hm])
      rw [e]
      simp only [List.length_append, List.length_cons, List.length_nil, Nat.add_mul]
      omega
  have := key _ fun l hm => (hall l hm).2
  unfold prText
  omega

/-- words in memory of the call's own -/
structure StrEl (w : World) (x : Value) (l : List ByteArray) : Prop where
  str : StrSlice w x l
  own : OwnS w x
theorem StrEl.ext {w w' : World} {x : Value} {l : List ByteArray} (h : StrEl w x l) (e : Ext w w') : StrEl w' x l := by
  obtain ⟨h1, h2, base, n, xs, h3⟩ := h
  exact ⟨h1.ext e, h2, base, n, xs, own_ext h3 e⟩
theorem StrEl.grown {w y w' : World} {x v : Value} {l : List ByteArray} {base n k : Nat} {xs : List Value} (h : StrEl y x l) (o : w.ownsRow base 32 k v n xs) (e : Ext w y) (g : y.grownBy w' v.ownBlock) : StrEl w' x l := by
  obtain ⟨h1, h2, base', n', xs', h3⟩ := h
  have oy := own_ext o e
  rcases h3 with ⟨h0, ⟨rfl, hn⟩ | ⟨g', cap, cur, rfl, q2, q3, q4⟩⟩
  · obtain ⟨⟨a, c, hv, hl⟩, i1, i2⟩ := h1
    refine ⟨⟨⟨a, c, hv, fun hne => ?_⟩, i1, i2⟩, h2, base', n', xs', h0, Or.inl ⟨rfl, hn⟩⟩
    obtain ⟨b, o', ha, -⟩ := hl hne
    rw [ha] at hv
    cases hv
  · have hb : w'.heap[g']? = y.heap[g']? := g.block g' (lt_of_block q3) (own_type oy (show Blk y g' cur 9 from q3) (by decide))
    obtain ⟨⟨a, c, hv, hl⟩, i1, i2⟩ := h1
    refine ⟨⟨⟨a, c, hv, fun hne => ?_⟩, i1, i2⟩, h2, base', n', xs', h0, Or.inr ⟨g', cap, cur, rfl, q2, hb.trans q3, q4⟩⟩
    obtain ⟨b, o', ha, hc⟩ := hl hne
    rw [ha] at hv
    cases hv
    refine ⟨g', 0, ha, fun j hj => ?_⟩
    have := hc j hj
    unfold World.cell? at this ⊢
    simp only at this ⊢
    rw [hb]
    exact this
theorem strs_info : (Tryz.prog.info? 32).map (fun i => (i.zero, i.size, i.bytes)) = some (some (.slice none 0 0), 1, 24) := by kernel_rfl
theorem own_lit {w : World} {g base : Nat} {C : Array Value} {t : TypeId} (h : Blk w g C t) (hb : base ≤ g) (hm : C.size ≤ maxLen) : w.ownsRow base t 1 (.slice (some ⟨g, 0, none⟩) C.size C.size) C.size C.toList :=
  ⟨by simp, Or.inr ⟨g, C.size, C, rfl, hb, h, Nat.le_refl _, hm, by simp, by rw [Nat.mul_one, ← Array.length_toList, List.take_length]⟩⟩
/-- k rules have been printed -/
def PrAt (w : World) (most : Int) (rs : List Rl) (k : Nat) (v : Value) (wr : World) : Prop :=
  ∃ vs, wr.ownsRow w.heap.size 32 1 v (k + 1) vs ∧ vs.length = k + 1 ∧ (∀ j (h : j < vs.length) (h2 : j < (prLines most rs).length), StrEl wr vs[j] (prLines most rs)[j]) ∧ Ext w wr
theorem PrAt.ext {w wr wr' : World} {most : Int} {rs : List Rl} {k : Nat} {v : Value} (h : PrAt w most rs k v wr) (e : Ext wr wr') : PrAt w most rs k v wr' := by
  obtain ⟨vs, h1, h2, h3, h4⟩ := h
  exact ⟨vs, own_ext h1 e, h2, fun j q1 q2 => (h3 j q1 q2).ext e, h4.trans e⟩
theorem PrAt.start {w w3 : World} {most : Int} {rs : List Rl} {g : Nat} (bs : Blk w3 g #[.string ⟨#[115, 105, 122, 101]⟩, .string (digStr most)] 9) (bl : Blk w3 (g + 1) #[.slice (some ⟨g, 0, none⟩) 2 2] 32) (hds : (digStr most).size ≤ 20) (hg : w.heap.size ≤ g) (e : Ext w w3) :
    PrAt w most rs 0 (.slice (some ⟨g + 1, 0, none⟩) 1 1) w3 := by
  have hm : (20 : Nat) ≤ maxLen := by decide
  refine ⟨[.slice (some ⟨g, 0, none⟩) 2 2], own_lit bl (by omega) (by simp; omega), rfl, fun j h1 h2 => ?_, e⟩
  have hj : j = 0 := by simp at h1; omega
  subst hj
  have e0 : (prLines most rs)[0] = [wSize, digStr most] := rfl
  rw [e0]
  refine ⟨StrSlice.new [wSize, digStr most] bs rfl (by decide) ?_, OwnS.of (own_lit bs (Nat.le_refl g) (by simp; omega))⟩
  intro s hs
  rcases List.mem_cons.1 hs with rfl | hs
  · decide
  · rw [List.mem_singleton.1 hs]; omega
theorem PrAt.step {w wr w5 w6 : World} {most : Int} {rs : List Rl} {k : Nat} {u v' x : Value} {vs : List Value} {r : Rl} (o : wr.ownsRow w.heap.size 32 1 u (k + 1) vs) (hvl : vs.length = k + 1) (hel : ∀ j (h : j < vs.length) (h2 : j < (prLines most rs).length), StrEl wr vs[j] (prLines most rs)[j]) (hwr : Ext w wr) (hx : Ext wr w5) (hs : StrEl w5 x (plW r)) {hlk : k + 1 < (prLines most rs).length} (hle : (prLines most rs)[k + 1] = plW r)
    (ho : w6.ownsRow w.heap.size 32 1 v' (k + 1 + 1) (vs ++ [x])) (hg : (w5.alloc (.cells #[x] 32)).grownBy w6 u.ownBlock) : PrAt w most rs (k + 1) v' w6 := by
  have ox := (own_ext o hx).alloc (.cells #[x] 32)
  refine ⟨vs ++ [x], ho, by simp [hvl], fun j h1 h2 => ?_, Ext.grownAt ((hwr.trans hx).alloc _) ox (Nat.le_refl _) hg⟩
  by_cases q : j < vs.length
  · rw [List.getElem_append_left q]
    exact (((hel j q h2).ext hx).ext ((Ext.refl w5).alloc _)).grown ox (Ext.refl _) hg
  · have hj : j = k + 1 := by simp at h1; omega
    subst hj
    rw [List.getElem_append_right (by omega), hle]
    have : [x][k + 1 - vs.length]'(by simp; omega) = x := by simp
    rw [this]
    exact (hs.ext ((Ext.refl w5).alloc _)).grown ox (Ext.refl _) hg
theorem PrAt.lines {w wr : World} {most : Int} {rs : List Rl} {k : Nat} {v : Value} (h : PrAt w most rs k v wr) (hk : (prLines most rs).length = k + 1) : LinesStr wr v (prLines most rs) := by
  obtain ⟨vs, ho, h2, h3, -⟩ := h
  obtain ⟨-, ⟨rfl, q⟩ | ⟨g, cap, cur, rfl, q2, q3, q4, q5, q6, q7⟩⟩ := ho
  · omega
  · refine ⟨_, _, by rw [hk], fun _ => ⟨g, 0, rfl, fun j hj => ?_⟩⟩
    have hjv : j < vs.length := by omega
    obtain ⟨i1, i2, base, n, xs, i3⟩ := h3 j hjv hj
    refine ⟨vs[j], ?_, i1, fun a n c e => (i2 a n c e).1⟩
    have : cur.toList[j]? = some vs[j] := by
      rw [← List.getElem?_eq_getElem hjv, ← q7, List.getElem?_take_of_lt (by omega)]
    rw [Blk.cell (show Blk wr g cur 32 from q3)]
    simpa using this
set_option maxHeartbeats 4000000 in
set_option maxRecDepth 100000 in
theorem config_Print_okT (most : Int) (v : Value) (rs : List Rl) (w : World) (hm0 : -9223372036854775808 ≤ most) (hm1 : most ≤ 9223372036854775807) (hv : RulesAt w v rs) (hro : ∀ r ∈ rs, RlOk r) (hlen : rs.length ≤ 1000000000) (hok : cfgErr most rs = 0) :
    Calls Tryz.prog 16 #[.agg #[.int .i64 most, v]] w fun x w' => ∃ v', x = .returned (.tuple #[v', .int .u16 0]) ∧ TailB w.heap.size w' v' (prText most rs) ∧ Ext w w' := by
  obtain ⟨a, c, rfl⟩ := hv.size
  obtain ⟨z1, z2, z3⟩ := cfg_zero hok
  obtain ⟨y1, y2, y3⟩ := prLines_len hro hok
  have x0 : Ext w (w.alloc (.cells #[.int .i64 most, .slice a rs.length c] 28)) := (Ext.refl w).alloc _
  have bP := Blk.new w #[.int .i64 most, .slice a rs.length c] 28
  have HV := Lib.hid (hv.ext Rl.size4 x0)
  have HRO := Lib.hid hro
  have HY := Lib.hid (And.intro y2 y3)
  clear hv
  have HRI := Lib.hid (config_Right most (.slice a rs.length c) rs _ hm0 hm1 HV.out hro hlen)
  rw [hok] at HRI
  go_enter Tryz.func16, Tryz.ntmps16
  go_upto_region 1 with fail
  generalize w.alloc (.cells #[.int .i64 most, .slice a rs.length c] 28) = w0 at *
  have c0 : w0.cell? ⟨w.heap.size, 0, none⟩ = some (.int .i64 most) := bP.cell 0
  have c1 : w0.cell? ⟨w.heap.size, 1, none⟩ = some (.slice a rs.length c) := bP.cell 1
  have HBP := Lib.hid bP
  have HX0 := Lib.hid x0
  clear bP x0 y2 y3
  go_wp2_with fail
  refine HRI.out.mono ?_
  rintro x w1 ⟨rfl, hx1⟩
  have d0 : w1.cell? ⟨w.heap.size, 0, none⟩ = some (.int .i64 most) := (HBP.out.ext hx1).cell 0
  have HX1 := Lib.hid hx1
  have HPD := Lib.hid (fun V => digit_Print most V (by omega) (by omega))
  have hwr : IntKind.u64.wrap most = most := by simp [IntKind.wrap, IntKind.signed, IntKind.bits]; omega
  clear hx1
  go_wp2_with fail
  refine (HPD.out _).mono ?_
  rintro x w2 ⟨rfl, hx2⟩
  have HX2 := Lib.hid (HX1.out.trans hx2)
  clear hx2 c0 c1 d0
  have hds := (dig_back most (by omega) (by omega)).2.2.1
  go_upto_region 5 with fail
  have bs := (Blk.new w2 #[.string ⟨#[115, 105, 122, 101]⟩, .string (digStr most)] 9).alloc (.cells #[.slice (some ⟨w2.heap.size, 0, none⟩) 2 2] 32)
  have bl := Blk.new' (w2.alloc (.cells #[.string ⟨#[115, 105, 122, 101]⟩, .string (digStr most)] 9)) #[.slice (some ⟨w2.heap.size, 0, none⟩) 2 2] 32 (b := w2.heap.size + 1) (by simp)
  have hx3 : Ext w2 ((w2.alloc (.cells #[.string ⟨#[115, 105, 122, 101]⟩, .string (digStr most)] 9)).alloc (.cells #[.slice (some ⟨w2.heap.size, 0, none⟩) 2 2] 32)) := ((Ext.refl w2).alloc _).alloc _
  generalize (w2.alloc (.cells #[.string ⟨#[115, 105, 122, 101]⟩, .string (digStr most)] 9)).alloc (.cells #[.slice (some ⟨w2.heap.size, 0, none⟩) 2 2] 32) = w3 at *
  have hsz2 := (HX0.out.trans HX2.out).sz
  have HST : Hid (PrAt w most rs 0 (.slice (some ⟨w2.heap.size + 1, 0, none⟩) 1 1) w3) := Lib.hid (PrAt.start bs bl hds hsz2 ((HX0.out.trans HX2.out).trans hx3))
  have HX3 := Lib.hid (HX2.out.trans hx3)
  have p0 : w3.cell? ⟨w.heap.size, 0, none⟩ = some (.int .i64 most) := (HBP.out.ext HX3.out).cell 0
  have p1 : w3.cell? ⟨w.heap.size, 1, none⟩ = some (.slice a rs.length c) := (HBP.out.ext HX3.out).cell 1
  have HOR := Lib.hid (config_Order most (.slice a rs.length c) rs w3 (HV.out.ext Rl.size4 HX3.out) hlen)
  have hol : (ordL Rl.key rs).length = rs.length := ordL_len rs
  clear bs bl hx3 hwr
  go_wp2_with fail
  refine HOR.out.mono ?_
  rintro x w4 ⟨ov, rfl, hown, hx4⟩
  have HOA := Lib.hid (RuleOwn.at hown)
  obtain ⟨oa, oc, rfl⟩ := HOA.out.size
  have HP4 : Hid (PrAt w most rs 0 (.slice (some ⟨w2.heap.size + 1, 0, none⟩) 1 1) w4) := Lib.hid (HST.out.ext hx4)
  have HROO : Hid (∀ r ∈ ordL Rl.key rs, RlOk r) := Lib.hid (fun r hr => HRO.out r ((ordL_perm rs).mem_iff.1 hr))
  have HLN : Hid (∀ k (h : k < (ordL Rl.key rs).length) (h2 : k + 1 < (prLines most rs).length), (prLines most rs)[k + 1] = plW ((ordL Rl.key rs)[k])) := Lib.hid (fun k h h2 => by simp [prLines])
  have HPL : Hid ((prLines most rs).length = (ordL Rl.key rs).length + 1) := Lib.hid (by simp [prLines])
  generalize ordL Rl.key rs = os at *
  have HOQ := Lib.hid hown
  clear hown p0 p1
  obtain ⟨i0, hi, hz0, hz1, hz2⟩ := info_parts strs_info
  have HI := Lib.hid (And.intro hi (And.intro hz0 (And.intro hz1 hz2)))
  clear hi hz0 hz1 hz2
  have HX4 := Lib.hid hx4
  clear hx4
  have hfld := pol_rules w4 (.int .i64 most) (.slice oa rs.length oc)
  rw [← hol] at *
  go_wp2_with fail
  go_loopw [5, 23] (fun lv i wr => ∃ (k : Nat), k ≤ os.length ∧ i = .int .i64 k ∧ PrAt w most rs k lv wr ∧ RuleOwn w3.heap.size wr (.slice oa os.length oc) os) (fun _ i _ => os.length - (intOf i).toNat)
  case atStart => exact ⟨0, by omega, rfl, HP4.out, HOQ.out⟩
  case round =>
    obtain ⟨k, hk, rfl, hp, hx⟩ := hrel
    have HPK := Lib.hid hp
    have HQ := Lib.hid hx
    have hx0 : Ext w wr := (by obtain ⟨vs, o1, o2, o3, o4⟩ := HPK.out; exact o4)
    clear hp
    by_cases hlt : k < os.length
    · obtain ⟨b, o, rfl, hbl, hc⟩ := (RuleOwn.at HQ.out).cells Rl.size4 (by decide) k hlt
      have c0 : wr.cell? ⟨b, o + k * 4, none⟩ = some (.string os[k].p) := hc 0 (by decide)
      have c1 : wr.cell? ⟨b, o + k * 4 + 1, none⟩ = some (.int .u64 os[k].e) := hc 1 (by decide)
      have c2 : wr.cell? ⟨b, o + k * 4 + 2, none⟩ = some (.int .u64 os[k].b) := hc 2 (by decide)
      have c3 : wr.cell? ⟨b, o + k * 4 + 3, none⟩ = some (.int .u8 os[k].k) := hc 3 (by decide)
      obtain ⟨vs, o1, o2, o3, o4⟩ := HPK.out
      have HOWN := Lib.hid o1
      have HVL := Lib.hid o2
      have HEL := Lib.hid o3
      have HWR := Lib.hid o4
      have hb4 := o4.sz
      have hlk : k + 1 < (prLines most rs).length := by have := HPL.out; omega
      have hle : (prLines most rs)[k + 1] = plW os[k] := HLN.out k hlt hlk
      have hru : RlOk os[k] := HROO.out _ (List.getElem_mem hlt)
      generalize os[k] = r at *
      obtain ⟨hm, e0, e1, b0, b1, -, -⟩ := hru
      have HLE := Lib.hid hle
      have HRP := Lib.hid (fun V => rule_Print r.p r.e r.b r.k V hm e0 e1 b0 b1)
      have hkb : k < 1000000 := by omega
      clear hc hm e0 e1 b0 b1 o1 o2 o3 o4 hle hx
      go_upto_region 8 with fail
      have hxa : Ext wr (wr.alloc (.cells #[.string r.p, .int .u64 r.e, .int .u64 r.b, .int .u8 r.k] 37)) := (Ext.refl wr).alloc _
      have bS : Blk (wr.alloc (.cells #[.string r.p, .int .u64 r.e, .int .u64 r.b, .int .u8 r.k] 37)) wr.heap.size r.cells 37 := Blk.new wr _ _
      generalize wr.alloc (.cells #[.string r.p, .int .u64 r.e, .int .u64 r.b, .int .u8 r.k] 37) = wa at *
      have s0 : wa.cell? ⟨wr.heap.size, 0, none⟩ = some (.string r.p) := bS.cell 0
      have s1 : wa.cell? ⟨wr.heap.size, 1, none⟩ = some (.int .u64 r.e) := bS.cell 1
      have s2 : wa.cell? ⟨wr.heap.size, 2, none⟩ = some (.int .u64 r.b) := bS.cell 2
      have s3 : wa.cell? ⟨wr.heap.size, 3, none⟩ = some (.int .u8 r.k) := bS.cell 3
      have HXA := Lib.hid hxa
      clear hxa c0 c1 c2 c3
      go_wp2_with (first
        | (go_at_call 42; refine (HRP.out _).mono ?_; rintro x w5 ⟨v5, rfl, hs5, ho5, hx5⟩; obtain ⟨⟨a5, c5, rfl, -⟩, -, -⟩ := id hs5; have HS5 := Lib.hid hs5; have HO5 := Lib.hid ho5; have HX5 := Lib.hid (HXA.out.trans hx5); clear hs5 ho5; have hsz5 := HX5.out.sz; clear hx5)
        | (at_builtin; refine wpList_append_own _ rfl (.tmp 27) (.tmp 30) 93 rfl w.heap.size 32 i0 (.slice none 0 0) 1 24 Tryz.underlying93 HI.out.1 HI.out.2.1 HI.out.2.2.1 HI.out.2.2.2 rfl (by decide) _ _ _ rfl ((own_ext HOWN.out HX5.out).alloc _) ⟨w5.heap.size, 0, none⟩ 1 1 [_] rfl rfl (blk_news (C := #[_]) (Blk.new _ _ _)) (by simp [Value.oneCell']) (by unfold maxLen; omega) (by omega) (by simp; omega) ?_; rintro v' w6 hown hgrow -)
        | fail)
      have hr := PrAt.step (w := w) (most := most) (rs := rs) HOWN.out HVL.out HEL.out HWR.out HX5.out ⟨HS5.out, HO5.out⟩ HLE.out hown hgrow
      have hq : RuleOwn w3.heap.size w6 (.slice (some ⟨b, o, none⟩) os.length oc) os := own_other ((own_ext HQ.out HX5.out).alloc _) ((own_ext HOWN.out HX5.out).alloc _) (by decide) hgrow
      exact ⟨⟨k + 1, by omega, by simp, hr, hq⟩, by simp [intOf]; omega⟩
    · have hkl : k = os.length := by omega
      have HJ := Lib.hid (fun V (e : Ext wr V) => words_JoinT u5 (prLines most rs) V ((HPK.out.lines (by have := HPL.out; omega)).ext e) (by have := HPL.out; omega) (fun l hl => by have := HY.out.1 l hl; omega) HY.out.2)
      have HWR := Lib.hid (hx0)
      go_wp2_with (first
        | (go_at_call 43; refine (HJ.out _ (Ext.refl _)).mono ?_; rintro x w5 ⟨v5, rfl, hs5, hx5⟩)
        | fail)
      go_ret2
      exact ⟨_, rfl, hs5.mono HWR.out.sz, HWR.out.trans hx5⟩
/-- .. read -/
theorem config_Print_ok (most : Int) (v : Value) (rs : List Rl) (w : World) (hm0 : -9223372036854775808 ≤ most) (hm1 : most ≤ 9223372036854775807) (hv : RulesAt w v rs) (hro : ∀ r ∈ rs, RlOk r) (hlen : rs.length ≤ 1000000000) (hok : cfgErr most rs = 0) :
    Calls Tryz.prog 16 #[.agg #[.int .i64 most, v]] w fun x w' => ∃ v', x = .returned (.tuple #[v', .int .u16 0]) ∧ ByteSlice w' v' (prText most rs) ∧ CapLe v' ∧ Ext w w' :=
  (config_Print_okT most v rs w hm0 hm1 hv hro hlen hok).mono fun x w' ⟨v', e, ht, hx⟩ => ⟨v', e, ht.slice.1, ht.slice.2, hx⟩
set_option maxHeartbeats 4000000 in
set_option maxRecDepth 100000 in
theorem config_Print_bad (most : Int) (v : Value) (rs : List Rl) (w : World) (hm0 : -9223372036854775808 ≤ most) (hm1 : most ≤ 9223372036854775807) (hv : RulesAt w v rs) (hro : ∀ r ∈ rs, RlOk r) (hlen : rs.length ≤ 1000000000) (hok : cfgErr most rs ≠ 0) :
    Calls Tryz.prog 16 #[.agg #[.int .i64 most, v]] w fun x w' => x = .returned (.tuple #[.slice none 0 0, .int .u16 (cfgErr most rs)]) ∧ Ext w w' := by
  obtain ⟨a, c, rfl⟩ := hv.size
  have x0 : Ext w (w.alloc (.cells #[.int .i64 most, .slice a rs.length c] 28)) := (Ext.refl w).alloc _
  have bP := Blk.new w #[.int .i64 most, .slice a rs.length c] 28
  have HRI := Lib.hid (config_Right most (.slice a rs.length c) rs _ hm0 hm1 (hv.ext Rl.size4 x0) hro hlen)
  clear hv
  generalize cfgErr most rs = E at *
  have hz : (E == 0) = false := by simpa using hok
  have hz2 : decide (E = 0) = false := by simpa using hok
  go_enter Tryz.func16, Tryz.ntmps16
  go_upto_region 1 with fail
  generalize w.alloc (.cells #[.int .i64 most, .slice a rs.length c] 28) = w0 at *
  have c0 : w0.cell? ⟨w.heap.size, 0, none⟩ = some (.int .i64 most) := bP.cell 0
  have c1 : w0.cell? ⟨w.heap.size, 1, none⟩ = some (.slice a rs.length c) := bP.cell 1
  have HX0 := Lib.hid x0
  clear bP x0
  go_wp2_with fail
  refine HRI.out.mono ?_
  rintro x w1 ⟨rfl, hx1⟩
  have HX1 := Lib.hid (HX0.out.trans hx1)
  clear hx1
  go_wp2_with fail
  go_ret2
  exact ⟨rfl, HX1.out⟩
end Go.Proofs.YtknlojlcahgnoaaGreat
