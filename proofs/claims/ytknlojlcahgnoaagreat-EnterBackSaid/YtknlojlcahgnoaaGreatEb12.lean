/- The tree of prefixes in memory: maps from bytes to nodes; nodes. Walks: the three kernels. -/
import Derived.Test.YtknlojlcahgnoaaGreatEb5
import Derived.Test.YtknlojlcahgnoaaGreatEb9
import Derived.Test.YtknlojlcahgnoaaGreatEb6

namespace Go.Proofs.YtknlojlcahgnoaaGreat
open Go.RowKit
set_option linter.unusedVariables false
set_option linter.unusedSimpArgs false

abbrev Kids := List (UInt8 × Nat × Nat)
def kent (x : UInt8 × Nat × Nat) : MapEntry := ⟨.int .u8 (x.1.toNat : Int), .pointer (some ⟨x.2.1, 0, none⟩), x.2.2⟩
def kents (l : Kids) : Array MapEntry := (l.map kent).toArray
theorem u8_beq (a b : UInt8) : ((a.toNat : Int) == (b.toNat : Int)) = decide (a = b) := by
  by_cases h : a = b
  · subst h; simp
  · rw [decide_eq_false h, beq_eq_false_iff_ne]
    intro e
    exact h (UInt8.toNat_inj.1 (by omega))
theorem kfind_none {l : Kids} {c : UInt8} (h : ∀ k ∈ l, k.1 ≠ c) (i : Nat) : Instr.findNow (.int .u8) (.int .u8 (c.toNat : Int)) (l.map kent) i = some none := by
  induction l generalizing i with
  | nil => rfl
  | cons x l ih =>
    have e : ((c.toNat : Int) == (x.1.toNat : Int)) = false := by rw [u8_beq]; exact decide_eq_false (fun q => h x List.mem_cons_self q.symm)
    simp only [List.map_cons, Instr.findNow, kent, Instr.sameNow, if_true, e]
    exact ih (fun k hk => h k (List.mem_cons_of_mem _ hk)) (i + 1)
theorem kfind_some {l : Kids} {c : UInt8} {a j : Nat} (hd : (l.map (·.1)).Nodup) (h : (c, a, j) ∈ l) (i : Nat) : ∃ p, l[p]? = some (c, a, j) ∧ Instr.findNow (.int .u8) (.int .u8 (c.toNat : Int)) (l.map kent) i = some (some (i + p, .pointer (some ⟨a, 0, none⟩))) := by
  induction l generalizing i with
  | nil => cases h
  | cons x l ih =>
    rw [List.map_cons, List.nodup_cons] at hd
    by_cases e : x = (c, a, j)
    · subst e
      refine ⟨0, rfl, ?_⟩
      simp only [List.map_cons, Instr.findNow, kent, Instr.sameNow, if_true, beq_self_eq_true, Nat.add_zero]
    · have hm : (c, a, j) ∈ l := by
        rcases List.mem_cons.1 h with q | q
        · exact absurd q.symm e
        · exact q
      have hne : x.1 ≠ c := fun q => hd.1 (by rw [q]; exact List.mem_map.2 ⟨_, hm, rfl⟩)
      have e2 : ((c.toNat : Int) == (x.1.toNat : Int)) = false := by rw [u8_beq]; exact decide_eq_false (fun q => hne q.symm)
      obtain ⟨p, h1, h2⟩ := ih hd.2 hm (i + 1)
      refine ⟨p + 1, by simpa using h1, ?_⟩
      simp only [List.map_cons, Instr.findNow, kent, Instr.sameNow, if_true, e2]
      rw [h2, Nat.add_assoc, Nat.add_comm 1 p]

/-- block b is a map of these kids -/
def KMap (w : World) (b : Nat) (l : Kids) (c : Nat) : Prop := w.heap[b]? = some (.map (kents l) c)
theorem KMap.lt {w : World} {b c : Nat} {l : Kids} (h : KMap w b l c) : b < w.heap.size := lt_of_block h
theorem KMap.ext {w w' : World} {b c : Nat} {l : Kids} (h : KMap w b l c) (e : Ext w w') : KMap w' b l c := (e.block h.lt).trans h
theorem KMap.extB {w w' : World} {b c g : Nat} {l : Kids} (h : KMap w b l c) (e : ExtB g w w') (ne : b ≠ g) : KMap w' b l c := (e.block b h.lt ne).trans h
theorem KMap.other {w : World} {b c : Nat} {l : Kids} (h : KMap w b l c) {a : Addr} (ne : b ≠ a.block) (v : Value) : KMap (w.setCell a v) b l c := (Below.heap_setCell _ _ _ _ ne).trans h
theorem KMap.ne {w : World} {b c g : Nat} {l : Kids} {C : Array Value} {t : TypeId} (h : KMap w b l c) (k : Blk w g C t) : b ≠ g := fun e => by
  subst e
  have := (show w.heap[b]? = some (.map (kents l) c) from h).symm.trans (show w.heap[b]? = some (.cells C t) from k)
  cases this
theorem KMap.new (w : World) : KMap (w.alloc (.map #[] 0)) w.heap.size [] 0 := (MapKept.heap_alloc w _).1
theorem kpush (l : Kids) (c : UInt8) (a j : Nat) : (kents l).push ⟨.int .u8 (c.toNat : Int), .pointer (some ⟨a, 0, none⟩), j⟩ = kents (l ++ [(c, a, j)]) := by simp [kents, kent]
theorem kmodify {l : Kids} {p : Nat} {c : UInt8} {a j : Nat} (hd : (l.map (·.1)).Nodup) (h : l[p]? = some (c, a, j)) (a' : Nat) :
    (kents l).modify p (fun e => { e with key := .int .u8 (c.toNat : Int), val := .pointer (some ⟨a', 0, none⟩) }) = kents (l.map fun k => if k.1 = c then (k.1, a', k.2.2) else k) := by
  have key : ∀ (l : Kids) (p : Nat), (l.map (·.1)).Nodup → l[p]? = some (c, a, j) → (l.map kent).modify p (fun e => { e with key := .int .u8 (c.toNat : Int), val := .pointer (some ⟨a', 0, none⟩) }) = (l.map fun k => if k.1 = c then (k.1, a', k.2.2) else k).map kent := by
    intro l
    induction l with
    | nil => intro p _ h; simp at h
    | cons x l ih =>
      intro p hd h
      rw [List.map_cons, List.nodup_cons] at hd
      cases p with
      | zero =>
        have hx : x = (c, a, j) := by simpa using h
        subst hx
        have e : (l.map fun k => if k.1 = c then (k.1, a', k.2.2) else k) = l := by
          conv => rhs; rw [← List.map_id l]
          apply List.map_congr_left
          intro k hk
          rw [if_neg (fun q => hd.1 (by show c ∈ _; rw [← q]; exact List.mem_map_of_mem hk))]; rfl
        have e2 : List.map (fun k : UInt8 × Nat × Nat => if k.1 = c then (k.1, a', k.2.2) else k) ((c, a, j) :: l) = (c, a', j) :: l := by rw [List.map_cons, e, if_pos rfl]
        rw [e2]
        simp [kent]
      | succ p =>
        have hp : l[p]? = some (c, a, j) := by simpa using h
        have hne : x.1 ≠ c := fun q => hd.1 (by rw [q]; exact List.mem_map.2 ⟨_, List.mem_of_getElem? hp, rfl⟩)
        have e2 : List.map (fun k : UInt8 × Nat × Nat => if k.1 = c then (k.1, a', k.2.2) else k) (x :: l) = x :: List.map (fun k => if k.1 = c then (k.1, a', k.2.2) else k) l := by rw [List.map_cons, if_neg hne]
        rw [e2]
        simp [ih p hd.2 hp]
  unfold kents
  apply Array.ext'
  rw [← key l p hd h]
  simp

section
variable {P : Program} {t k e : TypeId}
theorem run_klook_yes (ht : P.underlying t = some (.map k e)) (hk : P.underlying k = some (.int .u8)) {w : World} {b n : Nat} {l : Kids} (h : KMap w b l n) (hd : (l.map (·.1)).Nodup) {c : UInt8} {a j : Nat} (hm : (c, a, j) ∈ l) :
    (Instr.lookup t (.map (some b)) (.int .u8 (c.toNat : Int)) false).run P w = .ok (.pointer (some ⟨a, 0, none⟩)) w := by
  obtain ⟨p, hp, hf⟩ := kfind_some hd hm 0
  exact (run_lookup_yes ht hk (key := .int .u8 (c.toNat : Int)) rfl h (by simpa [kents] using hf)).2
theorem run_klook_no (ht : P.underlying t = some (.map k e)) (hk : P.underlying k = some (.int .u8)) {w : World} {b n : Nat} {l : Kids} (h : KMap w b l n) {c : UInt8} (hm : ∀ x ∈ l, x.1 ≠ c) (hz : (zeroValue e).run P w = .ok (.pointer none) w) :
    (Instr.lookup t (.map (some b)) (.int .u8 (c.toNat : Int)) false).run P w = .ok (.pointer none) w :=
  (run_lookup_no ht hk (key := .int .u8 (c.toNat : Int)) rfl h hz (by simpa [kents] using kfind_none hm 0)).2
theorem run_kput_new (ht : P.underlying t = some (.map k e)) (hk : P.underlying k = some (.int .u8)) {w : World} {b n : Nat} {l : Kids} (h : KMap w b l n) {c : UInt8} (hm : ∀ x ∈ l, x.1 ≠ c) (a : Nat) :
    ∃ w', (Instr.mapUpdate t (.map (some b)) (.int .u8 (c.toNat : Int)) (.pointer (some ⟨a, 0, none⟩))).run P w = .ok () w' ∧ KMap w' b (l ++ [(c, a, n)]) (n + 1) ∧ ExtB b w w' := by
  have hb : w.heap[b]? = some (.map (kents l) n) := h
  have hkey : MapKept.IsKey (.int .u8) (.int .u8 (c.toNat : Int)) := rfl
  have hf : Instr.findNow (.int .u8) (.int .u8 (c.toNat : Int)) (kents l).toList 0 = some none := by simpa [kents] using kfind_none hm 0
  refine ⟨{ w with heap := w.heap.setIfInBounds b (.map ((kents l).push ⟨.int .u8 (c.toNat : Int), .pointer (some ⟨a, 0, none⟩), n⟩) (n + 1)) }, ?_, ?_, ⟨rfl, rfl, rfl, by simp, fun j _ hj => (MapKept.heap_set hb).2 j hj⟩⟩
  · simp [Instr.mapUpdate, run_underlying ht, MapKept.run_getObj_map hb, MapKept.run_checkKey hk hkey, MapKept.run_findKey hk hf, MapKept.run_setObj_map _ hb, Result.andThen]
  · have := (MapKept.heap_set (o' := .map ((kents l).push ⟨.int .u8 (c.toNat : Int), .pointer (some ⟨a, 0, none⟩), n⟩) (n + 1)) hb).1
    unfold KMap
    rw [← kpush]
    exact this
theorem run_kput_old (ht : P.underlying t = some (.map k e)) (hk : P.underlying k = some (.int .u8)) {w : World} {b n : Nat} {l : Kids} (h : KMap w b l n) (hd : (l.map (·.1)).Nodup) {c : UInt8} {a j : Nat} (hm : (c, a, j) ∈ l) (a' : Nat) :
    ∃ w', (Instr.mapUpdate t (.map (some b)) (.int .u8 (c.toNat : Int)) (.pointer (some ⟨a', 0, none⟩))).run P w = .ok () w' ∧ KMap w' b (l.map fun k => if k.1 = c then (k.1, a', k.2.2) else k) n ∧ ExtB b w w' := by
  have hb : w.heap[b]? = some (.map (kents l) n) := h
  have hkey : MapKept.IsKey (.int .u8) (.int .u8 (c.toNat : Int)) := rfl
  obtain ⟨p, hp, hf⟩ := kfind_some hd hm 0
  have hf' : Instr.findNow (.int .u8) (.int .u8 (c.toNat : Int)) (kents l).toList 0 = some (some (p, .pointer (some ⟨a, 0, none⟩))) := by simpa [kents] using hf
  have hsame : (((kents l)[p]?).map (·.key)).getD (.int .u8 (c.toNat : Int)) = .int .u8 (c.toNat : Int) := by simp [kents, hp, kent]
  refine ⟨{ w with heap := w.heap.setIfInBounds b (.map ((kents l).modify p fun e => { e with key := .int .u8 (c.toNat : Int), val := .pointer (some ⟨a', 0, none⟩) }) n) }, ?_, ?_, ⟨rfl, rfl, rfl, by simp, fun j _ hj => (MapKept.heap_set hb).2 j hj⟩⟩
  · simp [Instr.mapUpdate, run_underlying ht, MapKept.run_getObj_map hb, MapKept.run_checkKey hk hkey, MapKept.run_findKey hk hf', hsame, MapKept.run_keyThatStays (d := .int .u8) hkey, MapKept.run_setObj_map _ hb, Result.andThen]
  · have := (MapKept.heap_set (o' := .map ((kents l).modify p fun e => { e with key := .int .u8 (c.toNat : Int), val := .pointer (some ⟨a', 0, none⟩) }) n) hb).1
    unfold KMap
    rw [← kmodify hd hp]
    exact this
end

def Rl.cells (r : Rl) : Array Value := #[.string r.p, .int .u64 r.e, .int .u64 r.b, .int .u8 r.k]
def Nd.part (x : Nd) : ByteArray := ⟨(x.path.drop x.plen).toArray⟩
def Nd.rp (x : Nd) : Value := match x.rule with
  | some r => .pointer (some ⟨r.1, 0, none⟩)
  | none => .pointer none
def Nd.cells (x : Nd) (root : Nat) (many : Int) : Array Value := if x.a = root then #[.string x.part, x.rp, .map (some x.mb), .int .i64 many] else #[.string x.part, x.rp, .map (some x.mb)]
def Nd.ty (x : Nd) (root : Nat) : TypeId := if x.a = root then 210 else 208
theorem part_list (x : Nd) : x.part.data.toList = x.path.drop x.plen := by simp [Nd.part]

/-- a tree in memory, from block lo on -/
structure TreeAt (w : World) (lo root : Nat) (many : Int) (ns : NSet) : Prop where
  trie : Trie root ns
  cells : ∀ x ∈ ns, Blk w x.a (x.cells root many) (x.ty root)
  maps : ∀ x ∈ ns, KMap w x.mb x.kids x.c
  rules : ∀ x ∈ ns, ∀ r, x.rule = some r → Blk w r.1 r.2.cells 37
  low : ∀ x ∈ ns, lo ≤ x.a ∧ lo ≤ x.mb
  len : ∀ x ∈ ns, x.path.length ≤ maxLen

theorem TreeAt.ext {w w' : World} {lo root : Nat} {many : Int} {ns : NSet} (h : TreeAt w lo root many ns) (e : Ext w w') : TreeAt w' lo root many ns :=
  ⟨h.trie, fun x hx => (h.cells x hx).ext e, fun x hx => (h.maps x hx).ext e, fun x hx r hr => (h.rules x hx r hr).ext e, h.low, h.len⟩
theorem Nd.cell0 {w : World} {x : Nd} {root : Nat} {many : Int} (h : Blk w x.a (x.cells root many) (x.ty root)) : w.cell? ⟨x.a, 0, none⟩ = some (.string x.part) ∧ w.cell? ⟨x.a, 1, none⟩ = some x.rp ∧ w.cell? ⟨x.a, 2, none⟩ = some (.map (some x.mb)) := by
  unfold Nd.cells at h
  by_cases e : x.a = root
  · rw [if_pos e] at h; exact ⟨h.cell 0, h.cell 1, h.cell 2⟩
  · rw [if_neg e] at h; exact ⟨h.cell 0, h.cell 1, h.cell 2⟩
theorem Nd.root3 {w : World} {x : Nd} {root : Nat} {many : Int} (h : Blk w x.a (x.cells root many) (x.ty root)) (e : x.a = root) : w.cell? ⟨root, 3, none⟩ = some (.int .i64 many) := by
  unfold Nd.cells at h
  rw [if_pos e, e] at h
  exact h.cell 3
theorem tree_types : 210 ≠ 208 ∧ 210 ≠ 37 ∧ 208 ≠ 37 := by decide
theorem blk_ty {w : World} {b : Nat} {C D : Array Value} {t u : TypeId} (h : Blk w b C t) (k : Blk w b D u) : t = u := by
  have := (show w.heap[b]? = some (.cells C t) from h).symm.trans (show w.heap[b]? = some (.cells D u) from k)
  simp at this
  exact this.2
theorem Nd.ty_rule (x : Nd) (root : Nat) : x.ty root ≠ 37 := by
  unfold Nd.ty
  split
  · exact tree_types.2.1
  · exact tree_types.2.2
theorem TreeAt.rule_ne {w : World} {lo root : Nat} {many : Int} {ns : NSet} (h : TreeAt w lo root many ns) {x y : Nd} (hx : x ∈ ns) (hy : y ∈ ns) {r : Nat × Rl} (hr : y.rule = some r) : r.1 ≠ x.a := fun e => by
  have := h.rules y hy r hr
  rw [e] at this
  exact Nd.ty_rule x root (blk_ty (h.cells x hx) this)
theorem TreeAt.map_ne {w : World} {lo root : Nat} {many : Int} {ns : NSet} (h : TreeAt w lo root many ns) {x y : Nd} (hx : x ∈ ns) (hy : y ∈ ns) : x.mb ≠ y.a := (h.maps x hx).ne (h.cells y hy)
end Go.Proofs.YtknlojlcahgnoaaGreat

namespace Go.Proofs.YtknlojlcahgnoaaGreat
open Go.RowKit
set_option linter.unusedVariables false
set_option linter.unusedSimpArgs false

def stV (k a b : Int) : Value := .agg #[.int .u8 k, .int .u64 a, .int .u64 b]
def stB (k a b : Int) (ok : Bool) : Value := .tuple #[stV k a b, .bool ok]

theorem gcra_Of (now cap fill : Int) (w : World) (hn0 : 0 ≤ now) (hn1 : now < 18446744073709551616) (hf0 : 0 ≤ fill) (hf1 : fill < 18446744073709551616) :
    Calls Tryz.prog 172 #[.int .u64 now, .int .u64 cap, .int .u64 fill] w fun e w' => e = .returned (stV 1 (satAdd now fill) 0) ∧ Ext w w' := by
  go_enter Tryz.func172, Tryz.ntmps172
  go_wp2_with fail
  refine (num_Add _ now fill _ hn0 hn1 hf0 hf1 ?_ ?_).mono ?_
  · exact (Blk.new' _ _ _ (by simp)).cell 0
  · exact (Blk.new' _ _ _ (by simp)).cell 1
  rintro e w' ⟨rfl, rfl⟩
  go_wp2
  exact bodyPost_ret (v := stV 1 (satAdd now fill) 0) (by simp [results, Tryz.results172, go_sem, stV]) rfl ⟨rfl, (by repeat (first | with_reducible exact Ext.refl _ | with_reducible assumption | with_reducible refine Ext.alloc ?_ _ | with_reducible refine Ext.drew ?_ | (with_reducible refine Ext.setCell ?_ (by first | exact Nat.le_refl _ | (dsimp only; omega) | (simp; done) | (simp; omega)) _) | with_reducible refine Ext.setCell ?_ (by simp; try omega) _ | with_reducible refine Ext.trans ?_ (by with_reducible assumption)))⟩

theorem gcra_Fill (k a b now cap : Int) (w : World) (ha0 : 0 ≤ a) (ha1 : a < 18446744073709551616) (hn0 : 0 ≤ now) (hn1 : now < 18446744073709551616) :
    Calls Tryz.prog 173 #[.agg #[.int .u8 k, .int .u64 a, .int .u64 b], .int .u64 now, .int .u64 cap] w fun e w' => e = .returned (.int .u64 (satSub a now)) ∧ Ext w w' := by
  go_enter Tryz.func173, Tryz.ntmps173
  go_wp2_with (go_at_call 75; refine (num_Sub _ _ _ ha0 ha1 hn0 hn1).mono ?_; rintro e w' ⟨rfl, rfl⟩)
  go_ret
  exact ⟨rfl, (by repeat (first | with_reducible exact Ext.refl _ | with_reducible assumption | with_reducible refine Ext.alloc ?_ _ | with_reducible refine Ext.drew ?_ | (with_reducible refine Ext.setCell ?_ (by first | exact Nat.le_refl _ | (dsimp only; omega) | (simp; done) | (simp; omega)) _) | with_reducible refine Ext.trans ?_ (by with_reducible assumption)))⟩

theorem max_cases (a b : Int) : (max a b = a ∧ b ≤ a) ∨ (max a b = b ∧ a < b) := by omega

/-- at the label behind 'goto told' -/
def ToldJ (B : Nat) (w1 : World) (a' : Act) (w' : World) : Prop :=
  w' = w1 ∧ ∃ u0 u1 u2 u3 u5 u6 u7 u10 u11 u12 u13 u14 u15 u16 u17 u18 u19 u20 u21 u22 u23 u24 u25 u26 u27 u28 : Value, a' = { tmps := #[u0, u1, u2, u3, .pointer (some ⟨B, 0, none⟩), u5, u6, u7, .pointer (some ⟨B + 1, 0, none⟩), .bool false, u10, u11, u12, u13, u14, u15, u16, u17, u18, u19, u20, u21, u22, u23, u24, u25, u26, u27, u28], defers := [] }

set_option maxHeartbeats 1000000 in
set_option maxRecDepth 100000 in
theorem gcra_Decide_le_no (a b now cap x : Int) (w : World) (ha0 : 0 ≤ a) (ha1 : a < 18446744073709551616) (hb0 : 0 ≤ b) (hb1 : b < 18446744073709551616) (hn0 : 0 ≤ now) (hn1 : now < 18446744073709551616) (hc0 : 0 ≤ cap) (hc1 : cap < 18446744073709551616) (hx0 : 0 ≤ x) (hx1 : x < 18446744073709551616) (h : now ≤ a) (HK : Hid (fitsB (a - now) x cap = false)) :
    Calls Tryz.prog 174 #[.agg #[.int .u8 1, .int .u64 a, .int .u64 b], .int .u64 now, .int .u64 cap, .int .u64 x] w fun e w' => e = .returned (stB 1 a b false) ∧ Ext w w' := by
  go_enter Tryz.func174, Tryz.ntmps174
  go_wp2
  have hB := Blk.new' (w.alloc (.cells #[.int .u8 1, .int .u64 a, .int .u64 b] 140)) #[.int .u8 1, .int .u64 a, .int .u64 b] 140 (b := w.heap.size + 1) (by simp)
  refine wp_scope_jumps 0 (ToldJ w.heap.size ((w.alloc (.cells #[.int .u8 1, .int .u64 a, .int .u64 b] 140)).alloc (.cells #[.int .u8 1, .int .u64 a, .int .u64 b] 140))) (fun _ _ => 0) rfl ?_ ?_
  · go_wp2_with (go_at_call 155; refine (num_Fits _ _ _ _ (by omega) (by omega) hx0 hx1 hc0 hc1).mono ?_; rw [HK.out]; rintro e w' ⟨rfl, rfl⟩)
    go_step3
    exact ⟨rfl, rfl, _, _, _, _, _, _, _, _, _, _, _, _, _, _, _, _, _, _, _, _, _, _, _, _, _, _, rfl⟩
  · rintro a' w' ⟨rfl, u0, u1, u2, u3, u5, u6, u7, u10, u11, u12, u13, u14, u15, u16, u17, u18, u19, u20, u21, u22, u23, u24, u25, u26, u27, u28, rfl⟩
    have hc := hB.cell
    have hf := hB.free
    go_wp2
    simp only [Exit.jump]
    exact bodyPost_ret (v := stB 1 a b false) (by simp [results, Tryz.results174, go_sem, stB, stV]) rfl ⟨rfl, (by repeat (first | with_reducible exact Ext.refl _ | with_reducible assumption | with_reducible refine Ext.alloc ?_ _ | with_reducible refine Ext.drew ?_ | (with_reducible refine Ext.setCell ?_ (by first | exact Nat.le_refl _ | (dsimp only; omega) | (simp; done) | (simp; omega)) _) | with_reducible refine Ext.trans ?_ (by with_reducible assumption)))⟩

set_option maxHeartbeats 1000000 in
set_option maxRecDepth 100000 in
theorem gcra_Decide_le_yes (a b now cap x : Int) (w : World) (ha0 : 0 ≤ a) (ha1 : a < 18446744073709551616) (hb0 : 0 ≤ b) (hb1 : b < 18446744073709551616) (hn0 : 0 ≤ now) (hn1 : now < 18446744073709551616) (hc0 : 0 ≤ cap) (hc1 : cap < 18446744073709551616) (hx0 : 0 ≤ x) (hx1 : x < 18446744073709551616) (h : now ≤ a) (HK : Hid (fitsB (a - now) x cap = true)) :
    Calls Tryz.prog 174 #[.agg #[.int .u8 1, .int .u64 a, .int .u64 b], .int .u64 now, .int .u64 cap, .int .u64 x] w fun e w' => e = .returned (stB 1 (satAdd a x) 0 true) ∧ Ext w w' := by
  go_enter Tryz.func174, Tryz.ntmps174
  go_wp2
  refine wp_scope_jumps 0 (fun _ _ => False) (fun _ _ => 0) rfl ?_ ?_
  · go_wp2_with (go_at_call 155; refine (num_Fits _ _ _ _ (by omega) (by omega) hx0 hx1 hc0 hc1).mono ?_; rw [HK.out]; rintro e w' ⟨rfl, rfl⟩)
    refine (gcra_Of _ _ _ _ (by omega) (by omega) hx0 hx1).mono ?_
    rintro e w1 ⟨rfl, hx⟩
    have hB := (Blk.new' (w.alloc (.cells #[.int .u8 1, .int .u64 a, .int .u64 b] 140)) #[.int .u8 1, .int .u64 a, .int .u64 b] 140 (b := w.heap.size + 1) (by simp)).ext hx
    have hc := hB.cell
    have hf := hB.free
    have hl := hB.lt
    simp only [stV]
    go_wp2
    go_step3
    go_wp2
    simp only [Exit.jump]
    have hS := (((((hB.set 0 (.int .u8 1)).set 1 (.int .u64 (satAdd a x))).set 2 (.int .u64 0)).set 0 (.int .u8 1)).set 1 (.int .u64 (satAdd a x))).set 2 (.int .u64 0)
    refine ret_cell_tmp Tryz.results174 rfl rfl hS Tryz.underlying140 rfl (by kernel_rfl) ⟨rfl, ?_⟩
    have hx' := ((Ext.refl w).alloc _).alloc _ |>.trans hx
    exact (((((hx'.set (by omega) _ _).set (by omega) _ _).set (by omega) _ _).set (by omega) _ _).set (by omega) _ _).set (by omega) _ _
  · rintro a' w' h
    exact h.elim

set_option maxHeartbeats 1000000 in
set_option maxRecDepth 100000 in
theorem gcra_Decide_lt_no (a b now cap x : Int) (w : World) (ha0 : 0 ≤ a) (ha1 : a < 18446744073709551616) (hb0 : 0 ≤ b) (hb1 : b < 18446744073709551616) (hn0 : 0 ≤ now) (hn1 : now < 18446744073709551616) (hc0 : 0 ≤ cap) (hc1 : cap < 18446744073709551616) (hx0 : 0 ≤ x) (hx1 : x < 18446744073709551616) (h : a < now) (HK : Hid (fitsB 0 x cap = false)) :
    Calls Tryz.prog 174 #[.agg #[.int .u8 1, .int .u64 a, .int .u64 b], .int .u64 now, .int .u64 cap, .int .u64 x] w fun e w' => e = .returned (stB 1 a b false) ∧ Ext w w' := by
  go_enter Tryz.func174, Tryz.ntmps174
  go_wp2
  have hB := Blk.new' (w.alloc (.cells #[.int .u8 1, .int .u64 a, .int .u64 b] 140)) #[.int .u8 1, .int .u64 a, .int .u64 b] 140 (b := w.heap.size + 1) (by simp)
  refine wp_scope_jumps 0 (ToldJ w.heap.size ((w.alloc (.cells #[.int .u8 1, .int .u64 a, .int .u64 b] 140)).alloc (.cells #[.int .u8 1, .int .u64 a, .int .u64 b] 140))) (fun _ _ => 0) rfl ?_ ?_
  · go_wp2_with (go_at_call 155; refine (num_Fits _ _ _ _ (by omega) (by omega) hx0 hx1 hc0 hc1).mono ?_; rw [HK.out]; rintro e w' ⟨rfl, rfl⟩)
    go_step3
    exact ⟨rfl, rfl, _, _, _, _, _, _, _, _, _, _, _, _, _, _, _, _, _, _, _, _, _, _, _, _, _, _, rfl⟩
  · rintro a' w' ⟨rfl, u0, u1, u2, u3, u5, u6, u7, u10, u11, u12, u13, u14, u15, u16, u17, u18, u19, u20, u21, u22, u23, u24, u25, u26, u27, u28, rfl⟩
    have hc := hB.cell
    have hf := hB.free
    go_wp2
    simp only [Exit.jump]
    exact bodyPost_ret (v := stB 1 a b false) (by simp [results, Tryz.results174, go_sem, stB, stV]) rfl ⟨rfl, (by repeat (first | with_reducible exact Ext.refl _ | with_reducible assumption | with_reducible refine Ext.alloc ?_ _ | with_reducible refine Ext.drew ?_ | (with_reducible refine Ext.setCell ?_ (by first | exact Nat.le_refl _ | (dsimp only; omega) | (simp; done) | (simp; omega)) _) | with_reducible refine Ext.trans ?_ (by with_reducible assumption)))⟩

set_option maxHeartbeats 1000000 in
set_option maxRecDepth 100000 in
theorem gcra_Decide_lt_yes (a b now cap x : Int) (w : World) (ha0 : 0 ≤ a) (ha1 : a < 18446744073709551616) (hb0 : 0 ≤ b) (hb1 : b < 18446744073709551616) (hn0 : 0 ≤ now) (hn1 : now < 18446744073709551616) (hc0 : 0 ≤ cap) (hc1 : cap < 18446744073709551616) (hx0 : 0 ≤ x) (hx1 : x < 18446744073709551616) (h : a < now) (HK : Hid (fitsB 0 x cap = true)) :
    Calls Tryz.prog 174 #[.agg #[.int .u8 1, .int .u64 a, .int .u64 b], .int .u64 now, .int .u64 cap, .int .u64 x] w fun e w' => e = .returned (stB 1 (satAdd now x) 0 true) ∧ Ext w w' := by
  go_enter Tryz.func174, Tryz.ntmps174
  go_wp2
  refine wp_scope_jumps 0 (fun _ _ => False) (fun _ _ => 0) rfl ?_ ?_
  · go_wp2_with (go_at_call 155; refine (num_Fits _ _ _ _ (by omega) (by omega) hx0 hx1 hc0 hc1).mono ?_; rw [HK.out]; rintro e w' ⟨rfl, rfl⟩)
    refine (gcra_Of _ _ _ _ (by omega) (by omega) hx0 hx1).mono ?_
    rintro e w1 ⟨rfl, hx⟩
    have hB := (Blk.new' (w.alloc (.cells #[.int .u8 1, .int .u64 a, .int .u64 b] 140)) #[.int .u8 1, .int .u64 a, .int .u64 b] 140 (b := w.heap.size + 1) (by simp)).ext hx
    have hc := hB.cell
    have hf := hB.free
    have hl := hB.lt
    simp only [stV]
    go_wp2
    go_step3
    go_wp2
    simp only [Exit.jump]
    have hS := (((((hB.set 0 (.int .u8 1)).set 1 (.int .u64 (satAdd now x))).set 2 (.int .u64 0)).set 0 (.int .u8 1)).set 1 (.int .u64 (satAdd now x))).set 2 (.int .u64 0)
    refine ret_cell_tmp Tryz.results174 rfl rfl hS Tryz.underlying140 rfl (by kernel_rfl) ⟨rfl, ?_⟩
    have hx' := ((Ext.refl w).alloc _).alloc _ |>.trans hx
    exact (((((hx'.set (by omega) _ _).set (by omega) _ _).set (by omega) _ _).set (by omega) _ _).set (by omega) _ _).set (by omega) _ _
  · rintro a' w' h
    exact h.elim
end Go.Proofs.YtknlojlcahgnoaaGreat
