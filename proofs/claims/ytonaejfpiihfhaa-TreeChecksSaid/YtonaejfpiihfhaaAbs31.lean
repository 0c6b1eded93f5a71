/- What is unfolded, when code is gone through. -/
import Derived.Test.YtonaejfpiihfhaaAbs30
namespace Go.Proofs.Ytonaejfpiihfhaa.Abs
open Go Go.RowKit
attribute [simp] boxX allocX newObj okCells storeA fieldAddrV fieldOff loadV partT partA objCells putA reCell hput hmod buildA fillA resv zipIx AObj.fix hfix ASt.fix fieldV
  assertV panicX mkIface buildSliceX AV.pureL elemOf? zeroFits makeSliceX capv rowAt slicev bound? sliceX cutA convertX convv isStringT
attribute [simp] Go.undef
@[simp] theorem src_list {hp k sz es} : srcEls hp k (.list sz es) = if sz = k then some es else if sz = 0 ∧ es = [] then some [] else none := rfl
@[simp] theorem src_nils {hp k} : srcEls hp k .nils = some [] := rfl
@[simp] theorem src_str {hp k s} : srcEls hp k (.str s) = if 1 = k then some (s.map fun b => .int .u8 b.toNat) else none := rfl
@[simp] theorem src_own {hp k id} : srcEls hp k (.own id) = (aget hp id).bind fun | .row sz es _ _ => if sz = k then some es else none | _ => none := rfl
@[simp] theorem src_row {hp k id o l} : srcEls hp k (.row id o l) = (aget hp id).bind fun | .row sz es _ _ => if sz = k ∧ o + l ≤ es.length then some ((es.drop o).take l) else none | _ => none := rfl
def lenD (hp : Heap) (d : Option TypeDesc) (x : AV) : Option AV :=
  match d, x with
  | some .string, .str s => some (.int .i64 s.length)
  | some (.array n _), _ => some (.int .i64 n)
  | some (.slice _), .list _ es => some (.int .i64 es.length)
  | some (.slice _), .nils => some (.int .i64 0)
  | some (.slice _), .own id => (rowAt hp id).map fun r => .int .i64 r.2.length
  | some (.slice _), .row _ _ l => some (.int .i64 l)
  | _, _ => none
@[simp] theorem lenv_D {P hp t x} : lenv P hp t x = lenD hp (P.underlying t) x := rfl
@[simp] theorem lenD_str {hp s} : lenD hp (some .string) (.str s) = some (.int .i64 s.length) := rfl
@[simp] theorem lenD_arr {hp n e x} : lenD hp (some (.array n e)) x = some (.int .i64 n) := rfl
@[simp] theorem lenD_list {hp e z es} : lenD hp (some (.slice e)) (.list z es) = some (.int .i64 es.length) := rfl
@[simp] theorem lenD_nils {hp e} : lenD hp (some (.slice e)) .nils = some (.int .i64 0) := rfl
@[simp] theorem lenD_own {hp e id} : lenD hp (some (.slice e)) (.own id) = (rowAt hp id).map fun r => .int .i64 r.2.length := rfl
@[simp] theorem lenD_row {hp e id o l} : lenD hp (some (.slice e)) (.row id o l) = some (.int .i64 l) := rfl
def indexD (P : Program) (hp : Heap) (d : Option TypeDesc) (x : AV) (n : Int) : Option AV :=
  match d, x with
     | some (.slice e), .list sz es => if sz = P.cellsOf e ∧ 0 < sz ∧ 0 ≤ n then (es[n.toNat]?).map fun e => .ep e 0 else none
     | some (.slice e), .own id => (rowAt hp id).bind fun r => if r.1 = P.cellsOf e ∧ 0 < r.1 ∧ 0 ≤ n ∧ n < r.2.length then some (.ptr id n.toNat 0) else none
     | some (.slice e), .row id o l => (rowAt hp id).bind fun r => if r.1 = P.cellsOf e ∧ 0 < r.1 ∧ 0 ≤ n ∧ n < l ∧ o + l ≤ r.2.length then some (.ptr id (o + n.toNat) 0) else none
     | some (.array m e), .ptr id j o => if 0 ≤ n ∧ n < m ∧ 0 < P.cellsOf e then some (.ptr id j (o + n.toNat * P.cellsOf e)) else none
     | some (.array m e), .ep v o => if 0 ≤ n ∧ n < m ∧ 0 < P.cellsOf e ∧ o + n.toNat * P.cellsOf e < v.cells.length then some (.ep v (o + n.toNat * P.cellsOf e)) else none
     | _, _ => none
@[simp] theorem indexA_D {P hp t x k n} : indexA P hp t x (.int k n) = indexD P hp (P.underlying t) x n := by
  unfold indexA indexD
  cases P.underlying t with
  | none => rfl
  | some d => cases d <;> cases x <;> rfl
@[simp] theorem indexD_list {P hp e sz es n} : indexD P hp (some (.slice e)) (.list sz es) n = if sz = P.cellsOf e ∧ 0 < sz ∧ 0 ≤ n then (es[n.toNat]?).map fun e => .ep e 0 else none := rfl
@[simp] theorem indexD_own {P hp e id n} : indexD P hp (some (.slice e)) (.own id) n = (rowAt hp id).bind fun r => if r.1 = P.cellsOf e ∧ 0 < r.1 ∧ 0 ≤ n ∧ n < r.2.length then some (.ptr id n.toNat 0) else none := rfl
@[simp] theorem indexD_row {P hp e id o l n} : indexD P hp (some (.slice e)) (.row id o l) n = (rowAt hp id).bind fun r => if r.1 = P.cellsOf e ∧ 0 < r.1 ∧ 0 ≤ n ∧ n < l ∧ o + l ≤ r.2.length then some (.ptr id (o + n.toNat) 0) else none := rfl
@[simp] theorem indexD_ptr {P hp m e id j o n} : indexD P hp (some (.array m e)) (.ptr id j o) n = if 0 ≤ n ∧ n < m ∧ 0 < P.cellsOf e then some (.ptr id j (o + n.toNat * P.cellsOf e)) else none := rfl
@[simp] theorem indexD_ep {P hp m e v o n} : indexD P hp (some (.array m e)) (.ep v o) n = if 0 ≤ n ∧ n < m ∧ 0 < P.cellsOf e ∧ o + n.toNat * P.cellsOf e < v.cells.length then some (.ep v (o + n.toNat * P.cellsOf e)) else none := rfl
@[simp] theorem okc_undef  : okCell AV.undef = false := rfl
@[simp] theorem kno_undef  : AV.known AV.undef = false := rfl
@[simp] theorem isA_undef  : AV.isA AV.undef = false := rfl
@[simp] theorem pur_undef  : AV.pureB AV.undef = false := by simp [AV.pureB]
@[simp] theorem okc_bool {b} : okCell (.bool b) = true := rfl
@[simp] theorem kno_bool {b} : AV.known (.bool b) = true := rfl
@[simp] theorem isA_bool {b} : AV.isA (.bool b) = false := rfl
@[simp] theorem pur_bool {b} : AV.pureB (.bool b) = true := by simp [AV.pureB]
@[simp] theorem okc_int {k n} : okCell (.int k n) = true := rfl
@[simp] theorem kno_int {k n} : AV.known (.int k n) = true := rfl
@[simp] theorem isA_int {k n} : AV.isA (.int k n) = false := rfl
@[simp] theorem pur_int {k n} : AV.pureB (.int k n) = true := by simp [AV.pureB]
@[simp] theorem okc_str {s} : okCell (.str s) = true := rfl
@[simp] theorem kno_str {s} : AV.known (.str s) = true := rfl
@[simp] theorem isA_str {s} : AV.isA (.str s) = false := rfl
@[simp] theorem pur_str {s} : AV.pureB (.str s) = true := by simp [AV.pureB]
@[simp] theorem okc_nilp  : okCell AV.nilp = true := rfl
@[simp] theorem kno_nilp  : AV.known AV.nilp = true := rfl
@[simp] theorem isA_nilp  : AV.isA AV.nilp = false := rfl
@[simp] theorem pur_nilp  : AV.pureB AV.nilp = true := by simp [AV.pureB]
@[simp] theorem okc_nils  : okCell AV.nils = true := rfl
@[simp] theorem kno_nils  : AV.known AV.nils = true := rfl
@[simp] theorem isA_nils  : AV.isA AV.nils = false := rfl
@[simp] theorem pur_nils  : AV.pureB AV.nils = true := by simp [AV.pureB]
@[simp] theorem okc_nilf  : okCell AV.nilf = true := rfl
@[simp] theorem kno_nilf  : AV.known AV.nilf = true := rfl
@[simp] theorem isA_nilf  : AV.isA AV.nilf = false := rfl
@[simp] theorem pur_nilf  : AV.pureB AV.nilf = true := by simp [AV.pureB]
@[simp] theorem okc_nili  : okCell AV.nili = true := rfl
@[simp] theorem kno_nili  : AV.known AV.nili = true := rfl
@[simp] theorem isA_nili  : AV.isA AV.nili = false := rfl
@[simp] theorem pur_nili  : AV.pureB AV.nili = true := by simp [AV.pureB]
@[simp] theorem okc_list {z l} : okCell (.list z l) = true := rfl
@[simp] theorem kno_list {z l} : AV.known (.list z l) = true := rfl
@[simp] theorem isA_list {z l} : AV.isA (.list z l) = false := rfl
@[simp] theorem pur_list {z l} : AV.pureB (.list z l) = true := by simp [AV.pureB]
@[simp] theorem okc_ep {v o} : okCell (.ep v o) = true := rfl
@[simp] theorem kno_ep {v o} : AV.known (.ep v o) = true := rfl
@[simp] theorem isA_ep {v o} : AV.isA (.ep v o) = false := rfl
@[simp] theorem pur_ep {v o} : AV.pureB (.ep v o) = true := by simp [AV.pureB]
@[simp] theorem okc_own {i} : okCell (.own i) = true := rfl
@[simp] theorem kno_own {i} : AV.known (.own i) = true := rfl
@[simp] theorem isA_own {i} : AV.isA (.own i) = false := rfl
@[simp] theorem pur_own {i} : AV.pureB (.own i) = false := by simp [AV.pureB]
@[simp] theorem okc_row {i o l} : okCell (.row i o l) = true := rfl
@[simp] theorem kno_row {i o l} : AV.known (.row i o l) = true := rfl
@[simp] theorem isA_row {i o l} : AV.isA (.row i o l) = false := rfl
@[simp] theorem pur_row {i o l} : AV.pureB (.row i o l) = false := by simp [AV.pureB]
@[simp] theorem okc_ptr {i o l} : okCell (.ptr i o l) = true := rfl
@[simp] theorem kno_ptr {i o l} : AV.known (.ptr i o l) = true := rfl
@[simp] theorem isA_ptr {i o l} : AV.isA (.ptr i o l) = false := rfl
@[simp] theorem pur_ptr {i o l} : AV.pureB (.ptr i o l) = false := by simp [AV.pureB]
@[simp] theorem okc_yld {i} : okCell (.yld i) = true := rfl
@[simp] theorem kno_yld {i} : AV.known (.yld i) = true := rfl
@[simp] theorem isA_yld {i} : AV.isA (.yld i) = false := rfl
@[simp] theorem pur_yld {i} : AV.pureB (.yld i) = false := by simp [AV.pureB]
@[simp] theorem okc_agg {l} : okCell (.agg l) = false := rfl
@[simp] theorem kno_agg {l} : AV.known (.agg l) = true := rfl
@[simp] theorem isA_agg {l} : AV.isA (.agg l) = true := rfl
@[simp] theorem pur_agg {l} : AV.pureB (.agg l) = AV.pureL l := by simp [AV.pureB]
@[simp] theorem okc_tup {l} : okCell (.tup l) = false := rfl
@[simp] theorem kno_tup {l} : AV.known (.tup l) = true := rfl
@[simp] theorem isA_tup {l} : AV.isA (.tup l) = false := rfl
@[simp] theorem pur_tup {l} : AV.pureB (.tup l) = AV.pureL l := by simp [AV.pureB]
@[simp] theorem okc_iface {t v} : okCell (.iface t v) = true := rfl
@[simp] theorem kno_iface {t v} : AV.known (.iface t v) = true := rfl
@[simp] theorem isA_iface {t v} : AV.isA (.iface t v) = false := rfl
@[simp] theorem pur_iface {t v} : AV.pureB (.iface t v) = AV.pureB v := by simp [AV.pureB]
@[simp] theorem okc_fn {g a b} : okCell (.fn g a b) = true := rfl
@[simp] theorem kno_fn {g a b} : AV.known (.fn g a b) = true := rfl
@[simp] theorem isA_fn {g a b} : AV.isA (.fn g a b) = false := rfl
@[simp] theorem pur_fn {g a b} : AV.pureB (.fn g a b) = (AV.pureL a && AV.pureL b) := by simp [AV.pureB]
@[simp] theorem mm_max {k : IntKind} {x y : Int} : minmax true (.int k x) (.int k y) = some (.int k (max x y)) := by
  simp only [minmax, if_true]
  congr 2
  by_cases h : x < y
  · rw [if_pos h]; omega
  · rw [if_neg h]; omega
@[simp] theorem mm_min {k : IntKind} {x y : Int} : minmax false (.int k x) (.int k y) = some (.int k (min x y)) := by
  simp only [minmax, if_true, Bool.false_eq_true, if_false]
  congr 2
  by_cases h : y < x
  · rw [if_pos h]; omega
  · rw [if_neg h]; omega
@[simp] theorem kill_int {n k m} : (AV.int k m).kill n = .int k m := rfl
@[simp] theorem kill_list {n k m} : (AV.list k m).kill n = .list k m := rfl
@[simp] theorem kill_str {n m} : (AV.str m).kill n = .str m := rfl
@[simp] theorem kill_bool {n m} : (AV.bool m).kill n = .bool m := rfl
@[simp] theorem kill_undef {n} : AV.undef.kill n = .undef := rfl
@[simp] theorem kill_nils {n} : AV.nils.kill n = .nils := rfl
@[simp] theorem kill_nilp {n} : AV.nilp.kill n = .nilp := rfl
@[simp] theorem kill_nilf {n} : AV.nilf.kill n = .nilf := rfl
@[simp] theorem kill_nili {n} : AV.nili.kill n = .nili := rfl
@[simp] theorem kill_ep {n v o} : (AV.ep v o).kill n = .ep v o := rfl
@[simp] theorem kill_own {n i} : (AV.own i).kill n = if i = n then .undef else .own i := rfl
@[simp] theorem kill_row_v {n i o l} : (AV.row i o l).kill n = if i = n then .undef else .row i o l := rfl
@[simp] theorem kill_ptr {n i o l} : (AV.ptr i o l).kill n = if i = n then .undef else .ptr i o l := rfl
@[simp] theorem kill_yld {n i} : (AV.yld i).kill n = if i = n then .undef else .yld i := rfl
@[simp] theorem kill_agg {n cs} : (AV.agg cs).kill n = .agg (AV.killL n cs) := rfl
@[simp] theorem kill_tup {n cs} : (AV.tup cs).kill n = .tup (AV.killL n cs) := rfl
@[simp] theorem kill_iface {n t v} : (AV.iface t v).kill n = .iface t (v.kill n) := rfl
@[simp] theorem kill_fn {n g a b} : (AV.fn g a b).kill n = .fn g (AV.killL n a) (AV.killL n b) := rfl
@[simp] theorem killL_nil' {n} : AV.killL n [] = [] := rfl
@[simp] theorem killL_cons' {n v l} : AV.killL n (v :: l) = v.kill n :: AV.killL n l := rfl
@[simp] theorem okill_box {n v} : (AObj.box v).kill n = .box (v.kill n) := rfl
@[simp] theorem okill_row {n sz es fx mv} : (AObj.row sz es fx mv).kill n = .row sz es fx mv := rfl
@[simp] theorem oren_box {m v} : (AObj.box v).ren m = .box (v.ren m) := rfl
@[simp] theorem oren_row {m sz es fx mv} : (AObj.row sz es fx mv).ren m = .row sz es fx mv := rfl
@[simp] theorem onames_box {v} : (AObj.box v).names = v.names := rfl
@[simp] theorem onames_row {sz es fx mv} : (AObj.row sz es fx mv).names = [] := rfl
@[simp] theorem killn_mk {sl hp n} : ASt.killn ⟨sl, hp⟩ n = ⟨sl.map fun p => (p.1, p.2.kill n), hp.map fun p => (p.1, p.2.kill n)⟩ := rfl
/-- A loop's head, where there is no memory. -/
def canonK (G : Cfg) (K : Option Keep) (st : ASt) : Option ASt :=
  K.bind fun K =>
    (canonAll (fun p s => canonAll (fun (j : Nat × Nat) s => canonCell p.1 j.1 j.2 s) p.2 s) K.boxes st).bind fun st1 =>
    (canonAll canonSlot K.slots st1).bind fun st2 =>
    (canonAll canonBox K.boxes st2).bind fun st3 =>
      let names := reachL 60 st3.hp ((List.range 12) ++ K.boxes.map (·.1) ++ AV.namesL (K.slots.map fun s => st3.slot s.1)) []
      some (restrictTo (K.slots.map (·.1)) (names.filter fun n => (aget st3.hp n).isSome) st3)
@[simp] theorem canon_eq {G : Cfg} {f : FuncId} {c : Code} {st : ASt} : canon G f c st = canonK G (G.keep f (firstRegion c)) st := rfl
@[simp] theorem fr_region {id ops d} : firstRegion (.region id ops d) = id := rfl
@[simp] theorem fr_seq {a b} : firstRegion (.seq a b) = firstRegion a := rfl
@[simp] theorem fr_block {i b} : firstRegion (.block i b) = firstRegion b := rfl
@[simp] theorem fr_loop {b} : firstRegion (.loop b) = firstRegion b := rfl

theorem reach_none {hp : Heap} (h : hp = []) : ∀ (k : Nat) (l acc : List Nat), (∀ n ∈ reachL k hp l acc, n ∈ acc ∨ n ∈ l) := by
  subst h
  intro k
  induction k with
  | zero => intro l acc n hn; exact .inl (by simpa [reachL] using hn)
  | succ k ih =>
    intro l acc n hn
    cases l with
    | nil => exact .inl (by simpa [reachL] using hn)
    | cons x r =>
      simp only [reachL] at hn
      split at hn
      · rcases ih _ _ _ hn with h | h
        · exact .inl h
        · exact .inr (List.mem_cons_of_mem _ h)
      · simp only [aget_nil, Option.map_none, Option.getD_none, List.append_nil] at hn
        rcases ih _ _ _ hn with h | h
        · rcases List.mem_append.1 h with h | h
          · exact .inl h
          · exact .inr (by simp at h; simp [h])
        · exact .inr (List.mem_cons_of_mem _ h)

theorem canonK_pure {G : Cfg} {slots : List (Nat × Option Nat)} {sl : Slots} (h1 : slots.all (fun s => s.2.isNone) = true) (h2 : AV.namesL (slots.map fun s => (aget sl s.1).getD .undef) = []) :
    ∃ sl', canonK G (some ⟨slots, []⟩) ⟨sl, []⟩ = some ⟨sl', []⟩ ∧ sl' = slots.map fun s => (s.1, (aget sl s.1).getD .undef) := by
  have key : ∀ (l : List (Nat × Option Nat)) (cur : Slots), l.all (fun s => s.2.isNone) = true → (∀ s ∈ l, ((aget cur s.1).getD .undef).names = []) →
      ∃ cur', canonAll canonSlot l ⟨cur, []⟩ = some ⟨cur', []⟩ ∧ ∀ n, (aget cur' n).getD .undef = (aget cur n).getD .undef := by
    intro l
    induction l with
    | nil => intro cur _ _; exact ⟨cur, rfl, fun _ => rfl⟩
    | cons s l ih =>
      intro cur ha hn
      simp only [List.all_cons, Bool.and_eq_true] at ha
      obtain ⟨t, z⟩ := s
      cases z with
      | some z => simp at ha
      | none =>
        have hv := hn (t, none) (by simp)
        simp only at hv
        have hstep : canonSlot (t, none) ⟨cur, []⟩ = some ⟨(t, (aget cur t).getD .undef) :: cur, []⟩ := by
          simp only [canonSlot, slot_mk, nameless_rv hv, nameless_rows hv]; rfl
        have hsame : ∀ n, (aget ((t, (aget cur t).getD .undef) :: cur) n).getD .undef = (aget cur n).getD .undef := by
          intro n
          rw [aget_cons']
          split
          · rename_i e; subst e; rfl
          · rfl
        obtain ⟨cur', h3, h4⟩ := ih ((t, (aget cur t).getD .undef) :: cur) ha.2 (fun s hs => by rw [hsame]; exact hn s (List.mem_cons_of_mem _ hs))
        refine ⟨cur', ?_, fun n => (h4 n).trans (hsame n)⟩
        simp only [canonAll, hstep, Option.bind_some]; exact h3
  obtain ⟨cur', h3, h4⟩ := key slots sl h1 (fun s hs => namesL_of h2 _ (List.mem_map.2 ⟨s, hs, rfl⟩))
  refine ⟨_, ?_, rfl⟩
  simp only [canonK, Option.bind_some, canonAll, h3]
  have hnames : ∀ l : List Nat, (l.filter fun n => (aget ([] : Heap) n).isSome) = [] := by
    intro l; simp
  simp only [hnames]
  congr 1
  unfold restrictTo
  congr 1
  rw [List.map_map]
  refine List.map_congr_left fun s hs => ?_
  simp only [Function.comp, slot_mk, h4, List.map_nil]
  have := namesL_of h2 _ (List.mem_map.2 ⟨s, hs, rfl⟩)
  rw [nameless_ren this]

theorem canonK_p {G : Cfg} {slots : List (Nat × Option Nat)} {sl : Slots} (h1 : slots.all (fun s => s.2.isNone) = true) (h2 : AV.namesL (slots.map fun s => (aget sl s.1).getD .undef) = []) :
    canonK G (some ⟨slots, []⟩) ⟨sl, []⟩ = some ⟨slots.map fun s => (s.1, (aget sl s.1).getD .undef), []⟩ := by
  obtain ⟨_, h, rfl⟩ := canonK_pure (G := G) h1 h2; exact h

/-! Comparisons of other kinds. -/
section
variable {P : Program} {t : TypeId} {cx cy : Bool}
@[simp] theorem bb_eql {a b : Bool} (h : P.underlying t = some .bool) : binO P .eql t cx cy (.bool a) (.bool b) = some (.bool (a == b)) := by simp [binO, binv, eqv, h]
@[simp] theorem bb_neq {a b : Bool} (h : P.underlying t = some .bool) : binO P .neq t cx cy (.bool a) (.bool b) = some (.bool (!(a == b))) := by simp [binO, binv, eqv, h]
@[simp] theorem bnp_eql {e} (h : P.underlying t = some (.pointer e)) : binO P .eql t cx cy .nilp .nilp = some (.bool true) := by simp [binO, binv, eqv, h]
@[simp] theorem bnp_neq {e} (h : P.underlying t = some (.pointer e)) : binO P .neq t cx cy .nilp .nilp = some (.bool false) := by simp [binO, binv, eqv, h]
@[simp] theorem bpn_eql {e i j o} (h : P.underlying t = some (.pointer e)) : binO P .eql t cx cy (.ptr i j o) .nilp = some (.bool false) := by simp [binO, binv, eqv, h]
@[simp] theorem bpn_neq {e i j o} (h : P.underlying t = some (.pointer e)) : binO P .neq t cx cy (.ptr i j o) .nilp = some (.bool true) := by simp [binO, binv, eqv, h]
@[simp] theorem bss_eql {e} (h : P.underlying t = some (.slice e)) : binO P .eql t cx cy .nils .nils = some (.bool true) := by simp [binO, binv, eqv, h]
@[simp] theorem bss_neq {e} (h : P.underlying t = some (.slice e)) : binO P .neq t cx cy .nils .nils = some (.bool false) := by simp [binO, binv, eqv, h]
@[simp] theorem bls_eql {e z es} (h : P.underlying t = some (.slice e)) (hz : z = 0 ∨ es ≠ []) : binO P .eql t cx cy (.list z es) .nils = some (.bool false) := by simp [binO, binv, eqv, h, hz]
@[simp] theorem bls_neq {e z es} (h : P.underlying t = some (.slice e)) (hz : z = 0 ∨ es ≠ []) : binO P .neq t cx cy (.list z es) .nils = some (.bool true) := by simp [binO, binv, eqv, h, hz]
end

/-! ### Regions that draw their order -/
section
variable {G : Cfg} {call : CallFn} {loop : LoopFn} {f : FuncId} {ops : Array Oper} {r : List PS} {st : ASt} {d : Option Nat} {t t' t'' : TypeId} {p : String} {af : Array Edge} {x y z : Operand} {g : Option (Nat × Bool)}
def drawX (G : Cfg) (call : CallFn) (ops : Array Oper) (p : Option (List PS)) (st : ASt) : Option (AX × ASt) := (p.bind fun p => runPlan G call ops p st).map fun s => (.normal, s)
@[simp] theorem cx_draw {id} : codeX G call loop f (.region id ops true) st = trimX (G.live f id) (drawX G call ops (G.plan f id) st) := rfl
/-- On with the plan. -/
def planX (G : Cfg) (call : CallFn) (ops : Array Oper) (p : List PS) (st : ASt) : Option (AX × ASt) := (runPlan G call ops p st).map fun s => (.normal, s)
@[simp] theorem drawX_s {p} : drawX G call ops (some p) st = planX G call ops p st := rfl
@[simp] theorem planX_nil : planX G call ops [] st = some (.normal, st) := rfl
def nvX (G : Cfg) (call : CallFn) (ops : Array Oper) (d : Option Nat) (r : List PS) (st : ASt) : Option AV → Option (AX × ASt)
  | some v => planX G call ops r (st.put d v)
  | none => none
@[simp] theorem nvX_s {v} : nvX G call ops d r st (some v) = planX G call ops r (st.put d v) := rfl
def nX (G : Cfg) (call : CallFn) (ops : Array Oper) (r : List PS) (st : ASt) : Option Oper → Option (AX × ASt)
  | some o => nvX G call ops o.dst r st (nval G ops st o)
  | none => none
/-- A step of a plan behind a guard, whose slot holds this. -/
def gN' (G : Cfg) (call : CallFn) (ops : Array Oper) (k : Nat) (w : Bool) (d : Option Nat) (op : Op) (r : List PS) (st : ASt) : AV → Option (AX × ASt)
  | .bool b => if b == w then nvX G call ops d r st (nopv G st op) else planX G call ops r (st.put d (.tup []))
  | .tup [] => planX G call ops r (st.put d (.tup []))
  | _ => none
@[simp] theorem gN_tt {k d op} : gN' G call ops k true d op r st (.bool true) = nvX G call ops d r st (nopv G st op) := rfl
@[simp] theorem gN_ff {k d op} : gN' G call ops k false d op r st (.bool false) = nvX G call ops d r st (nopv G st op) := rfl
@[simp] theorem gN_tf {k d op} : gN' G call ops k true d op r st (.bool false) = planX G call ops r (st.put d (.tup [])) := rfl
@[simp] theorem gN_ft {k d op} : gN' G call ops k false d op r st (.bool true) = planX G call ops r (st.put d (.tup [])) := rfl
@[simp] theorem gN_n {k w d op} : gN' G call ops k w d op r st (.tup []) = planX G call ops r (st.put d (.tup [])) := rfl
@[simp low] theorem gN_split {L} {sl : Slots} {hp : Heap} {k w d op} {b : Bool} (hk : aget sl k = some (.bool b)) : trimX L (gN' G call ops k w d op r ⟨sl, hp⟩ (.bool b)) =
    mergeX b (trimX L (gN' G call ops k w d op r ⟨aset sl k (.bool true), hp⟩ (.bool true))) (trimX L (gN' G call ops k w d op r ⟨aset sl k (.bool false), hp⟩ (.bool false))) := by
  cases b with
  | true => rw [aset_same hk]; rfl
  | false => rw [aset_same hk]; rfl
def gNK (G : Cfg) (call : CallFn) (ops : Array Oper) (w : Bool) (d : Option Nat) (op : Op) (r : List PS) (st : ASt) : Option Nat → Option (AX × ASt)
  | some k => gN' G call ops k w d op r st (st.slot k)
  | none => none
@[simp] theorem gNK_s {k w d op} : gNK G call ops w d op r st (some k) = gN' G call ops k w d op r st (st.slot k) := rfl
@[simp] theorem nX_u {op : Op} : nX G call ops r st (some ⟨d, op, t, p, af, none⟩) = nvX G call ops d r st (nopv G st op) := by
  simp only [nX, nval, guardA, Option.bind_some, if_true]
@[simp] theorem nX_g {op : Op} {j w} : nX G call ops r st (some ⟨d, op, t, p, af, some (j, w)⟩) = gNK G call ops w d op r st ((ops[j]?).bind (·.dst)) := by
  simp only [nX, nval, guardA]
  cases (ops[j]?).bind (·.dst) with
  | none => rfl
  | some k =>
    simp only [gNK]
    cases st.slot k with
    | bool b => cases b <;> cases w <;> rfl
    | tup l => cases l <;> rfl
    | _ => rfl
@[simp] theorem planX_n {i} : planX G call ops (.n i :: r) st = nX G call ops r st ops[i]? := by
  unfold planX
  simp only [runPlan, nX]
  cases ops[i]? with
  | none => rfl
  | some o =>
    simp only [Option.bind_some]
    cases nval G ops st o <;> rfl
def erX (G : Cfg) (call : CallFn) (ops : Array Oper) (d : Option Nat) (re : List Nat) (r : List PS) : Option AR → Option (AX × ASt)
  | some (.val v s) => if re.all (again G ops (s.put d v)) = true then planX G call ops r (s.put d v) else none
  | _ => none
@[simp] theorem erX_s {re v s} : erX G call ops d re r (some (.val v s)) = if re.all (again G ops (s.put d v)) = true then planX G call ops r (s.put d v) else none := rfl
def eX (G : Cfg) (call : CallFn) (ops : Array Oper) (re : List Nat) (r : List PS) (st : ASt) : Option Oper → Option (AX × ASt)
  | some o => erX G call ops o.dst re r (stepE G call ops st o)
  | none => none
def gE' (G : Cfg) (call : CallFn) (ops : Array Oper) (k : Nat) (w : Bool) (o : Oper) (re : List Nat) (r : List PS) (st : ASt) : AV → Option (AX × ASt)
  | .bool b => if b == w then erX G call ops o.dst re r (aop G call o st) else erX G call ops o.dst re r (some (.val (.tup []) st))
  | .tup [] => erX G call ops o.dst re r (some (.val (.tup []) st))
  | _ => none
@[simp] theorem gE_tt {k o re} : gE' G call ops k true o re r st (.bool true) = erX G call ops o.dst re r (aop G call o st) := rfl
@[simp] theorem gE_ff {k o re} : gE' G call ops k false o re r st (.bool false) = erX G call ops o.dst re r (aop G call o st) := rfl
@[simp] theorem gE_tf {k o re} : gE' G call ops k true o re r st (.bool false) = erX G call ops o.dst re r (some (.val (.tup []) st)) := rfl
@[simp] theorem gE_ft {k o re} : gE' G call ops k false o re r st (.bool true) = erX G call ops o.dst re r (some (.val (.tup []) st)) := rfl
@[simp] theorem gE_n {k w o re} : gE' G call ops k w o re r st (.tup []) = erX G call ops o.dst re r (some (.val (.tup []) st)) := rfl
@[simp low] theorem gE_split {L} {sl : Slots} {hp : Heap} {k w o re} {b : Bool} (hk : aget sl k = some (.bool b)) : trimX L (gE' G call ops k w o re r ⟨sl, hp⟩ (.bool b)) =
    mergeX b (trimX L (gE' G call ops k w o re r ⟨aset sl k (.bool true), hp⟩ (.bool true))) (trimX L (gE' G call ops k w o re r ⟨aset sl k (.bool false), hp⟩ (.bool false))) := by
  cases b with
  | true => rw [aset_same hk]; rfl
  | false => rw [aset_same hk]; rfl
def gEK (G : Cfg) (call : CallFn) (ops : Array Oper) (w : Bool) (o : Oper) (re : List Nat) (r : List PS) (st : ASt) : Option Nat → Option (AX × ASt)
  | some k => gE' G call ops k w o re r st (st.slot k)
  | none => none
@[simp] theorem gEK_s {k w o re} : gEK G call ops w o re r st (some k) = gE' G call ops k w o re r st (st.slot k) := rfl
@[simp] theorem eX_u {re} {op : Op} : eX G call ops re r st (some ⟨d, op, t, p, af, none⟩) = erX G call ops d re r (aop G call ⟨d, op, t, p, af, none⟩ st) := by
  simp only [eX, stepE, guardA, Option.bind_some, if_true]
@[simp] theorem eX_g {re} {op : Op} {j w} : eX G call ops re r st (some ⟨d, op, t, p, af, some (j, w)⟩) = gEK G call ops w ⟨d, op, t, p, af, some (j, w)⟩ re r st ((ops[j]?).bind (·.dst)) := by
  simp only [eX, stepE, guardA]
  cases (ops[j]?).bind (·.dst) with
  | none => rfl
  | some k =>
    simp only [gEK]
    cases st.slot k with
    | bool b => cases b <;> cases w <;> rfl
    | tup l => cases l <;> rfl
    | _ => rfl
@[simp] theorem planX_e {j re} : planX G call ops (.e j re :: r) st = eX G call ops re r st ops[j]? := by
  unfold planX
  simp only [runPlan, eX]
  cases ops[j]? with
  | none => rfl
  | some o =>
    simp only [Option.bind_some]
    cases stepE G call ops st o with
    | none => rfl
    | some a =>
      cases a with
      | pan v s => rfl
      | val v s => simp only [Option.bind_some, erX]; split <;> rfl
/-- A guard before a value. -/
def gN (b : Option Bool) (v : Option AV) : Option AV := match b with | some true => v | some false => some (.tup []) | none => none
@[simp] theorem gN_t {v} : gN (some true) v = v := rfl
@[simp] theorem gN_f {v} : gN (some false) v = some (.tup []) := rfl
theorem gN_b {b v} : gN (some b) v = if b = true then v else some (.tup []) := by cases b <;> rfl
def gE (b : Option Bool) (st : ASt) (v : Option AR) : Option AR := match b with | some true => v | some false => some (.val (.tup []) st) | none => none
@[simp] theorem gE_t {v} : gE (some true) st v = v := rfl
@[simp] theorem gE_f {v} : gE (some false) st v = some (.val (.tup []) st) := rfl
theorem gE_b {b v} : gE (some b) st v = if b = true then v else some (.val (.tup []) st) := by cases b <;> rfl
def gA (ops : Array Oper) (st : ASt) : Option (Nat × Bool) → Option Bool
  | none => some true
  | some (j, w) => ((ops[j]?).bind (·.dst)).bind fun k => gV w (st.slot k)
@[simp] theorem gA_n : gA ops st none = some true := rfl
@[simp] theorem gA_s {j w} : gA ops st (some (j, w)) = ((ops[j]?).bind (·.dst)).bind fun k => gV w (st.slot k) := rfl
theorem guardA_gA {op : Op} : guardA ops st ⟨d, op, t, p, af, g⟩ = gA ops st g := by
  unfold guardA
  cases g with
  | none => rfl
  | some q =>
    obtain ⟨j, w⟩ := q
    simp only [gA]
    cases (ops[j]?).bind (·.dst) with
    | none => rfl
    | some k =>
      simp only [Option.bind_some, gV]
      split <;> simp_all
@[simp] theorem nval_o {op : Op} : nval G ops st ⟨d, op, t, p, af, g⟩ = gN (gA ops st g) (nopv G st op) := by
  unfold nval
  rw [guardA_gA]
  cases gA ops st g with
  | none => rfl
  | some b => cases b <;> rfl
@[simp] theorem stepE_o {op : Op} : stepE G call ops st ⟨d, op, t, p, af, g⟩ = gE (gA ops st g) st (aop G call ⟨d, op, t, p, af, g⟩ st) := by
  unfold stepE
  rw [guardA_gA]
  cases gA ops st g with
  | none => rfl
  | some b => cases b <;> rfl
def againV (v : Option AV) (d : Option Nat) (s : ASt) : Bool := match v, d with | some v, some d => AV.beq v (s.slot d) | _, _ => false
@[simp] theorem againV_s {v d s} : againV (some v) (some d) s = AV.beq v (s.slot d) := rfl
def againO (G : Cfg) (ops : Array Oper) (s : ASt) : Option Oper → Bool
  | some o => againV (nval G ops s o) o.dst s
  | none => false
@[simp] theorem againO_s {o} : againO G ops st (some o) = againV (nval G ops st o) o.dst st := rfl
@[simp] theorem again_o {i} : again G ops st i = againO G ops st ops[i]? := by
  unfold again againO againV
  cases ops[i]? <;> rfl

@[simp] theorem nopv_move : nopv G st (.move x) = some (st.ev x) := rfl
@[simp] theorem nopv_assign : nopv G st (.assign x) = some (st.ev x) := rfl
@[simp] theorem nopv_pick : nopv G st (.pick x y z) = pickV (st.ev x) (st.ev y) (st.ev z) := rfl
@[simp] theorem nopv_binOp {op} : nopv G st (.binOp op t' x y t'') = binO G.P op t' (isConst x) (isConst y) (st.ev x) (st.ev y) := rfl
@[simp] theorem nopv_unOp {op} : nopv G st (.unOp op t' x) = unv op (st.ev x) := rfl
@[simp] theorem nopv_field {k} : nopv G st (.field t' x k) = fieldV G.P t' k (st.ev x) := rfl
@[simp] theorem nopv_fieldAddr {k} : nopv G st (.fieldAddr t' x k) = fieldAddrV G.P t' k (st.ev x) := rfl
@[simp] theorem nopv_indexAddr : nopv G st (.indexAddr t' x y) = indexA G.P st.hp t' (st.ev x) (st.ev y) := rfl
@[simp] theorem nopv_index : nopv G st (.index t' x y) = indexv G.P t' (st.ev x) (st.ev y) := rfl
@[simp] theorem nopv_load : nopv G st (.load t' x) = loadV G.P st.hp t' (st.ev x) := rfl
@[simp] theorem nopv_extract {i} : nopv G st (.extract x i) = extractV i (st.ev x) := rfl
@[simp] theorem nopv_build {ps : Array (Nat × Operand)} : nopv G st (.build t' ps) = buildA G.P t' (ps.toList.map fun q => (q.1, st.ev q.2)) := rfl
@[simp] theorem nopv_makeInterface : nopv G st (.makeInterface t' x) = mkIface G.P t' (st.ev x) := rfl
@[simp] theorem nopv_makeFunc {g : Fn} {a b : Array Operand} : nopv G st (.makeFunc g a b) = some (.fn g (a.toList.map st.ev) (b.toList.map st.ev)) := rfl
@[simp] theorem nopv_nilCheck : nopv G st (.nilCheck x) = nilCheckV (st.ev x) := rfl
@[simp] theorem nopv_typeAssert {ok} : nopv G st (.typeAssert x t'' t' ok) = assertV G.P t' ok (st.ev x) := rfl
@[simp] theorem nopv_slice {lo hi mx : Option Operand} : nopv G st (.slice t' x lo hi mx) = slicev G.P st.hp t' (st.ev x) (lo.map st.ev) (hi.map st.ev) (mx.map st.ev) := rfl
@[simp] theorem nopv_len {ts : TypeId} : nopv G st (.call ⟨.builtin .len, #[x], #[ts]⟩) = lenv G.P st.hp ts (st.ev x) := rfl
@[simp] theorem nopv_min {ts} : nopv G st (.call ⟨.builtin .min, #[x, y], ts⟩) = minmax false (st.ev x) (st.ev y) := by simp [nopv, opv]
@[simp] theorem nopv_max {ts} : nopv G st (.call ⟨.builtin .max, #[x, y], ts⟩) = minmax true (st.ev x) (st.ev y) := by simp [nopv, opv]
def bsvV (G : Cfg) (t : TypeId) (len : Nat) (is : List Nat) (vs : List AV) : Option AV :=
  (elemOf? G.P t).bind fun e =>
    if is = List.range len ∧ ((G.P.info? e).bind (·.zero)).isSome = true ∧ AV.pureL vs = true ∧ (vs.all fun y => okCells y && y.cells.length == G.P.cellsOf e) = true ∧ 0 < G.P.cellsOf e ∧ len * G.P.cellsOf e ≤ 16777216 then some (.list (G.P.cellsOf e) vs) else none
@[simp] theorem nopv_lay {len} {ps : Array (Nat × Operand)} : nopv G st (.buildSlice t' len ps) = bsvV G t' len (ps.toList.map (·.1)) (ps.toList.map fun q => st.ev q.2) := rfl

@[simp] theorem aop_load : aop G call ⟨d, .load t' x, t, p, af, g⟩ st = (loadV G.P st.hp t' (st.ev x)).map fun v => .val v st := rfl
@[simp] theorem aop_store : aop G call ⟨d, .store t' x y, t, p, af, g⟩ st = (storeA G t' (st.ev x) (st.ev y) st).map fun s => .val .undef s := rfl
@[simp] theorem aop_alloc {e : TypeId} {d : Nat} : aop G call ⟨some d, .alloc e, t, p, af, g⟩ st = allocX G e d st := rfl
@[simp] theorem aop_box {e : TypeId} {d : Nat} : aop G call ⟨some d, .box e x, t, p, af, g⟩ st = boxX G e (st.ev x) d st := rfl
@[simp] theorem aop_lay {len} {ps : Array (Nat × Operand)} {d : Nat} : aop G call ⟨some d, .buildSlice t' len ps, t, p, af, g⟩ st = buildSliceX G t' len (ps.toList.map (·.1)) (ps.toList.map fun q => st.ev q.2) d st := rfl
@[simp] theorem aop_assign : aop G call ⟨d, .assign x, t, p, af, g⟩ st = some (.val (st.ev x) st) := rfl
@[simp] theorem aop_move : aop G call ⟨d, .move x, t, p, af, g⟩ st = some (.val (st.ev x) st) := rfl
@[simp] theorem aop_pick : aop G call ⟨d, .pick x y z, t, p, af, g⟩ st = (pickV (st.ev x) (st.ev y) (st.ev z)).map fun v => .val v st := rfl
@[simp] theorem aop_binOp {op} : aop G call ⟨d, .binOp op t' x y t'', t, p, af, g⟩ st = (binO G.P op t' (isConst x) (isConst y) (st.ev x) (st.ev y)).map fun v => .val v st := rfl
@[simp] theorem aop_convert : aop G call ⟨d, .convert t' t'' x, t, p, af, g⟩ st = convertX G t' t'' (st.ev x) d st := rfl
@[simp] theorem aop_slice {lo hi mx : Option Operand} : aop G call ⟨d, .slice t' x lo hi mx, t, p, af, g⟩ st = sliceX G t' (st.ev x) (lo.map st.ev) (hi.map st.ev) (mx.map st.ev) st := rfl
@[simp] theorem aop_append {d : Nat} {t1 t2 : TypeId} : aop G call ⟨some d, .call ⟨.builtin .append, #[x, y], #[t1, t2]⟩, t, p, af, g⟩ st = appendA G d t1 t2 (st.ev x) (st.ev y) st := rfl
@[simp] theorem aop_call {args : Array Operand} {ts} : aop G call ⟨d, .call ⟨.value x, args, ts⟩, t, p, af, g⟩ st = callV G call d (st.ev x) (args.toList.map st.ev) st := rfl

/-! Values that are alike. -/
mutual
def AV.plainB : AV → Bool
  | .fn (.func _) a b => AV.plainBL a && AV.plainBL b
  | .fn _ _ _ => false
  | .list _ es => AV.plainBL es
  | .ep v _ => AV.plainB v
  | .agg cs => AV.plainBL cs
  | .tup cs => AV.plainBL cs
  | .iface _ v => AV.plainB v
  | _ => true
def AV.plainBL : List AV → Bool
  | [] => true
  | v :: l => AV.plainB v && AV.plainBL l
end
mutual
theorem beq_self : ∀ {v : AV}, v.plainB = true → AV.beq v v = true
  | .undef, _ => rfl | .nilp, _ => rfl | .nils, _ => rfl | .nilf, _ => rfl | .nili, _ => rfl
  | .bool _, _ => by simp [AV.beq]
  | .int _ _, _ => by simp [AV.beq]
  | .str _, _ => by simp [AV.beq]
  | .own _, _ => by simp [AV.beq]
  | .row _ _ _, _ => by simp [AV.beq]
  | .ptr _ _ _, _ => by simp [AV.beq]
  | .yld _, _ => by simp [AV.beq]
  | .list _ es, h => by simp only [AV.plainB] at h; simp [AV.beq, beqL_self (l := es) h]
  | .ep v _, h => by simp only [AV.plainB] at h; simp [AV.beq, beq_self (v := v) h]
  | .agg cs, h => by simp only [AV.plainB] at h; simp [AV.beq, beqL_self (l := cs) h]
  | .tup cs, h => by simp only [AV.plainB] at h; simp [AV.beq, beqL_self (l := cs) h]
  | .iface _ v, h => by simp only [AV.plainB] at h; simp [AV.beq, beq_self (v := v) h]
  | .fn g a b, h => by
    cases g with
    | func k => simp only [AV.plainB, Bool.and_eq_true] at h; simp [AV.beq, beqL_self (l := a) h.1, beqL_self (l := b) h.2]
    | _ => simp [AV.plainB] at h
theorem beqL_self : ∀ {l : List AV}, AV.plainBL l = true → AV.beqL l l = true
  | [], _ => rfl
  | v :: l, h => by simp only [AV.plainBL, Bool.and_eq_true] at h; simp [AV.beqL, beq_self h.1, beqL_self h.2]
end
theorem plainBL_map {α : Type} {f : α → AV} (h : ∀ a, (f a).plainB = true) : ∀ l : List α, AV.plainBL (l.map f) = true
  | [] => rfl
  | a :: l => by simp [AV.plainBL, h a, plainBL_map h l]
attribute [simp] AV.beq AV.beqL AV.plainB AV.plainBL
end

/-- A body's end: rows are told as lists. -/
theorem end_rv {G : Cfg} {g : FuncId} {res : List ResultVar} {x : AX} {s : ASt} {vs : List AV} {v : AV} (hx : x = .normal ∨ x = .ret) (hr : resL G s res = some vs) (ho : G.retOwn g = false) (hv : (resOf vs).rv s.hp = v) (hn : v.names = []) : endX G g [] res (some (x, s)) = some (.ret v, []) := by
  subst hv
  have hf : finishA G g [] (resOf vs) s = ((resOf vs).rv s.hp, []) := by
    unfold finishA
    simp only [ho, Bool.false_eq_true, if_false]
    unfold outOf
    simp only [hn, List.append_nil]
    have : ∀ h : Heap, reachL 60 h [] [] = [] := fun _ => rfl
    rw [this, nameless_ren hn]; rfl
  rcases hx with rfl | rfl <;> simp [endX, hr, hf, retA]
/-- A body's end, told. -/
theorem end_is {G : Cfg} {g : FuncId} {res : List ResultVar} {x : AX} {s : ASt} {vs : List AV} {v : AV} (hx : x = .normal ∨ x = .ret) (hr : resL G s res = some vs) (hn : AV.namesL vs = []) (hv : resOf vs = v) : endX G g [] res (some (x, s)) = some (.ret v, []) := by
  subst hv; exact end_pure hx hr hn

/-- A body that defers, step by step. -/
theorem runD_of {G : Cfg} {call : CallFn} {loop : LoopFn} {g : FuncId} {args : List AV} {hp : Heap} {fn : Func} {A rest : Code} {ops : Array Oper} {f : Operand} {s0 s1 s3 s4 : ASt} {ns : List Nat} {x2 : AX} {rv v : AV} {m : List Nat} {vs : List AV} {r : ARes × Heap}
    (hd : G.dfr g = true) (hfn : G.P.funcs[g]? = some fn) (hb : fn.body.bind splitD = some (A, ops, f, rest)) (hA : codeX G call loop g A { sl := zipIx args 0, hp } = some (.normal, s0))
    (hops : aops G call ops (List.range (ops.size - 1)) s0 = some (.normal, s1)) (hns : reachL 60 s1.hp (hp.map (·.1) ++ AV.namesL (s1.sl.map (·.2))) [] = ns)
    (hck : ((ns.all fun n => (aget s1.hp n).isSome) && isFn (s1.ev f) && ((hp.map (·.1)).all fun n => ns[n]? == some n) && (ns.all fun n => !((aget s1.hp n).map AObj.moved).getD false)) = true)
    (hrest : codeX G call loop g rest { sl := s1.sl.map fun p => (p.1, p.2.ren (toMap ns)), hp := renHeap ns s1.hp } = some (x2, s3))
    (hbx : (((s1.ev f).ren (toMap ns)).names.all fun n => isBoxAt s3.hp n) = true) (hrv : recOf x2 = some rv)
    (hclo : callB G (runClosure G rv) (some 40000) ((s1.ev f).ren (toMap ns)) [] s3 = some (.val v s4, m)) (hres : resL G s4 fn.results.toList = some vs) (hr : retA (finishA G g (hp.map (·.1)) (resOf vs) s4) = r) :
    runFn G call loop g args hp = some r := by
  unfold runFn runBodyD
  simp only [hd, if_true, hfn, hb, Option.bind_some, hA, hops, hns, hck, hrest, hbx, Bool.not_true, Bool.false_eq_true, if_false, hrv, hclo, hres, Option.map_some, hr]
end Go.Proofs.Ytonaejfpiihfhaa.Abs
