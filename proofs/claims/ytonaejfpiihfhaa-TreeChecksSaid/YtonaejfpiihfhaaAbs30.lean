/- States, values, calls: as equations. -/
import Derived.Test.YtonaejfpiihfhaaAbs29
namespace Go.Proofs.Ytonaejfpiihfhaa.Abs
open Go Go.RowKit
set_option linter.unusedSimpArgs false
set_option linter.unusedVariables false

section
variable {G : Cfg} {call : CallFn} {loop : LoopFn} {f : FuncId} {st : ASt} {sl : Slots} {hp : Heap}

/-! ### Slots -/
@[simp] theorem ev_tmp {t} : ASt.ev ⟨sl, hp⟩ (.tmp t) = (aget sl t).getD .undef := rfl
@[simp] theorem ev_const {v} : st.ev (.const v) = ofValue v := rfl
@[simp] theorem ev_func {g} : st.ev (.func g) = .fn (.func g) [] [] := rfl
@[simp] theorem slot_mk {t} : ASt.slot ⟨sl, hp⟩ t = (aget sl t).getD .undef := rfl
@[simp] theorem put_some {t v} : ASt.put ⟨sl, hp⟩ (some t) v = ⟨(t, v) :: sl, hp⟩ := rfl
@[simp] theorem put_none {v} : st.put none v = st := rfl
@[simp] theorem aget_nil {α : Type} {n : Nat} : aget ([] : List (Nat × α)) n = none := rfl
@[simp] theorem aget_cons' {α : Type} {k n : Nat} {v : α} {r : List (Nat × α)} : aget ((k, v) :: r) n = if k = n then some v else aget r n := rfl
@[simp] theorem isConst_c {v} : isConst (.const v) = true := rfl
@[simp] theorem isConst_t {v} : isConst (.tmp v) = false := rfl
@[simp] theorem ofValue_b {b} : ofValue (.bool b) = .bool b := rfl
@[simp] theorem ofValue_i {k n} : ofValue (.int k n) = .int k n := rfl
@[simp] theorem ofValue_s {s} : ofValue (.string s) = .str s.data.toList := rfl
@[simp] theorem ofValue_np : ofValue (.pointer none) = .nilp := rfl
@[simp] theorem ofValue_ns : ofValue (.slice none 0 0) = .nils := rfl
@[simp] theorem ofValue_nf : ofValue .nilFunc = .nilf := rfl
@[simp] theorem ofValue_ni : ofValue .nilIface = .nili := rfl
@[simp] theorem ofValue_a {cs} : ofValue (.agg cs) = .agg (cs.toList.map ofScalar) := rfl
@[simp] theorem ofScalar_b {b} : ofScalar (.bool b) = .bool b := rfl
@[simp] theorem ofScalar_i {k n} : ofScalar (.int k n) = .int k n := rfl
@[simp] theorem ofScalar_s {s} : ofScalar (.string s) = .str s.data.toList := rfl
@[simp] theorem ofScalar_np : ofScalar (.pointer none) = .nilp := rfl
@[simp] theorem ofScalar_ns : ofScalar (.slice none 0 0) = .nils := rfl
@[simp] theorem ofScalar_nf : ofScalar .nilFunc = .nilf := rfl
@[simp] theorem ofScalar_ni : ofScalar .nilIface = .nili := rfl

/-! ### Whole numbers, strings, comparisons -/
def wAnd (k : IntKind) (a b : Int) : Int := k.wrap (BitVec.ofInt k.bits a &&& BitVec.ofInt k.bits b).toNat
def wOr (k : IntKind) (a b : Int) : Int := k.wrap (BitVec.ofInt k.bits a ||| BitVec.ofInt k.bits b).toNat
def wXor (k : IntKind) (a b : Int) : Int := k.wrap (BitVec.ofInt k.bits a ^^^ BitVec.ofInt k.bits b).toNat
def wAndNot (k : IntKind) (a b : Int) : Int := k.wrap (BitVec.ofInt k.bits a &&& ~~~BitVec.ofInt k.bits b).toNat
section
variable {P : Program} {t : TypeId} {cx cy : Bool} {k : IntKind} {a b : Int} {s u : List UInt8}
theorem beqS (s u : List UInt8) : (s == u) = decide (s = u) := by
  by_cases h : s = u
  · subst h; simp
  · rw [decide_eq_false h]; exact beq_eq_false_iff_ne.2 h
@[simp] theorem bo_add : binO P .add t cx cy (.int k a) (.int k b) = some (.int k (k.wrap (a + b))) := by simp [binO, binv, arith]
@[simp] theorem bo_sub : binO P .sub t cx cy (.int k a) (.int k b) = some (.int k (k.wrap (a - b))) := by simp [binO, binv, arith]
@[simp] theorem bo_mul : binO P .mul t cx cy (.int k a) (.int k b) = some (.int k (k.wrap (a * b))) := by simp [binO, binv, arith]
@[simp] theorem bo_quo : binO P .quo t cx cy (.int k a) (.int k b) = if b = 0 then none else some (.int k (k.wrap (a.tdiv b))) := by simp [binO, binv, arith]
@[simp] theorem bo_rem : binO P .rem t cx cy (.int k a) (.int k b) = if b = 0 then none else some (.int k (a.tmod b)) := by simp [binO, binv, arith]
@[simp] theorem bo_and : binO P .and t cx cy (.int k a) (.int k b) = some (.int k (wAnd k a b)) := by simp [binO, binv, arith, wAnd]
@[simp] theorem bo_or : binO P .or t cx cy (.int k a) (.int k b) = some (.int k (wOr k a b)) := by simp [binO, binv, arith, wOr]
@[simp] theorem bo_xor : binO P .xor t cx cy (.int k a) (.int k b) = some (.int k (wXor k a b)) := by simp [binO, binv, arith, wXor]
@[simp] theorem bo_andNot : binO P .andNot t cx cy (.int k a) (.int k b) = some (.int k (wAndNot k a b)) := by simp [binO, binv, arith, wAndNot]
@[simp] theorem bo_eql : binO P .eql t cx cy (.int k a) (.int k b) = some (.bool (decide (a = b))) := by simp [binO, binv, arith]; rfl
@[simp] theorem bo_neq : binO P .neq t cx cy (.int k a) (.int k b) = some (.bool (!decide (a = b))) := by simp [binO, binv, arith]; rfl
@[simp] theorem bo_lss : binO P .lss t cx cy (.int k a) (.int k b) = some (.bool (decide (a < b))) := by simp [binO, binv, arith]
@[simp] theorem bo_leq : binO P .leq t cx cy (.int k a) (.int k b) = some (.bool (decide (a ≤ b))) := by simp [binO, binv, arith]
@[simp] theorem bo_gtr : binO P .gtr t cx cy (.int k a) (.int k b) = some (.bool (decide (b < a))) := by simp [binO, binv, arith]
@[simp] theorem bo_geq : binO P .geq t cx cy (.int k a) (.int k b) = some (.bool (decide (b ≤ a))) := by simp [binO, binv, arith]
@[simp] theorem bo_shl {k' : IntKind} : binO P .shl t cx cy (.int k a) (.int k' b) = if b < 0 then none else some (.int k (k.wrap (a * 2 ^ (min b.toNat k.bits)))) := by simp [binO, binv, arith]
@[simp] theorem bo_shr {k' : IntKind} : binO P .shr t cx cy (.int k a) (.int k' b) = if b < 0 then none else some (.int k (a.fdiv (2 ^ (min b.toNat k.bits)))) := by simp [binO, binv, arith]
@[simp] theorem bs_add : binO P .add t cx cy (.str s) (.str u) = if s.length + u.length ≤ LIM then some (.str (s ++ u)) else none := by simp [binO, binv, strOp]
@[simp] theorem bs_eql : binO P .eql t cx cy (.str s) (.str u) = some (.bool (decide (s = u))) := by simp [binO, binv, strOp, beqS]
@[simp] theorem bs_neq : binO P .neq t cx cy (.str s) (.str u) = some (.bool (!decide (s = u))) := by simp [binO, binv, strOp, beqS]
@[simp] theorem bs_lss : binO P .lss t cx cy (.str s) (.str u) = some (.bool (ltB s u)) := by simp [binO, binv, strOp]
@[simp] theorem bs_leq : binO P .leq t cx cy (.str s) (.str u) = some (.bool (ltB s u || decide (s = u))) := by simp [binO, binv, strOp, beqS]
@[simp] theorem bs_gtr : binO P .gtr t cx cy (.str s) (.str u) = some (.bool (!(ltB s u || decide (s = u)))) := by simp [binO, binv, strOp, beqS]
@[simp] theorem bs_geq : binO P .geq t cx cy (.str s) (.str u) = some (.bool (!ltB s u)) := by simp [binO, binv, strOp]
@[simp] theorem ba_eql {x y : List AV} : binO P .eql t cx cy (.agg x) (.agg y) = (eqAggA P t x y).map .bool := by simp [binO, binv, eqv]
@[simp] theorem ba_neq {x y : List AV} : binO P .neq t cx cy (.agg x) (.agg y) = (eqAggA P t x y).map fun b => .bool (!b) := by simp [binO, binv, eqv]
@[simp] theorem un_not {b : Bool} : unv .not (.bool b) = some (.bool (!b)) := rfl
@[simp] theorem un_neg : unv .neg (.int k a) = some (.int k (k.wrap (0 - a))) := rfl
@[simp] theorem un_xor : unv .xor (.int k a) = some (.int k (wXor k (if k.signed then -1 else k.max) a)) := rfl
@[simp] theorem ef_bool {x y : Bool} (h : P.underlying t = some .bool) : eqFieldA P t (.bool x) (.bool y) = some (decide (x = y)) := by simp only [eqFieldA, h]; cases x <;> cases y <;> rfl
@[simp] theorem ef_int {k' : IntKind} (h : P.underlying t = some (.int k')) : eqFieldA P t (.int k a) (.int k b) = some (decide (a = b)) := by simp only [eqFieldA, h, if_true]; rfl
@[simp] theorem ef_str (h : P.underlying t = some .string) : eqFieldA P t (.str s) (.str u) = some (decide (s = u)) := by simp only [eqFieldA, h, beqS]
end

/-! ### Names and rows: a plain value has none -/
@[simp] theorem rv_list {sz es} : (AV.list sz es).rv hp = .list sz es := rfl
@[simp] theorem rv_int {k n} : (AV.int k n).rv hp = .int k n := rfl
@[simp] theorem rv_str {s} : (AV.str s).rv hp = .str s := rfl
@[simp] theorem rv_bool {b} : (AV.bool b).rv hp = .bool b := rfl
@[simp] theorem rv_nils : AV.nils.rv hp = .nils := rfl
@[simp] theorem rv_nilp : AV.nilp.rv hp = .nilp := rfl
@[simp] theorem rv_nilf : AV.nilf.rv hp = .nilf := rfl
@[simp] theorem rv_nili : AV.nili.rv hp = .nili := rfl
@[simp] theorem rv_undef : AV.undef.rv hp = .undef := rfl
@[simp] theorem rv_ptr {i j o} : (AV.ptr i j o).rv hp = .ptr i j o := rfl
@[simp] theorem rv_yld {i} : (AV.yld i).rv hp = .yld i := rfl
@[simp] theorem rv_ep {v o} : (AV.ep v o).rv hp = .ep v o := rfl
@[simp] theorem rv_agg {cs} : (AV.agg cs).rv hp = .agg (AV.rvL hp cs) := rfl
@[simp] theorem rv_tup {cs} : (AV.tup cs).rv hp = .tup (AV.rvL hp cs) := rfl
@[simp] theorem rv_iface {t v} : (AV.iface t v).rv hp = .iface t (v.rv hp) := rfl
@[simp] theorem rv_fn {g a b} : (AV.fn g a b).rv hp = .fn g (AV.rvL hp a) (AV.rvL hp b) := rfl
@[simp] theorem rv_own {id} : (AV.own id).rv hp = (match aget hp id with | some (.row sz es _ _) => if sz = 0 then .undef else .list sz es | _ => .undef) := rfl
@[simp] theorem rv_row {id o l} : (AV.row id o l).rv hp = (match aget hp id with | some (.row sz es _ _) => if sz ≠ 0 ∧ o + l ≤ es.length then .list sz ((es.drop o).take l) else .undef | _ => .undef) := rfl
@[simp] theorem rvL_nil : AV.rvL hp [] = [] := rfl
@[simp] theorem rvL_cons {v l} : AV.rvL hp (v :: l) = v.rv hp :: AV.rvL hp l := rfl
@[simp] theorem rows_list {sz es} : (AV.list sz es).rows = [] := rfl
@[simp] theorem rows_int {k n} : (AV.int k n).rows = [] := rfl
@[simp] theorem rows_str {s} : (AV.str s).rows = [] := rfl
@[simp] theorem rows_bool {b} : (AV.bool b).rows = [] := rfl
@[simp] theorem rows_nils : AV.nils.rows = [] := rfl
@[simp] theorem rows_nilp : AV.nilp.rows = [] := rfl
@[simp] theorem rows_nilf : AV.nilf.rows = [] := rfl
@[simp] theorem rows_nili : AV.nili.rows = [] := rfl
@[simp] theorem rows_undef : AV.undef.rows = [] := rfl
@[simp] theorem rows_ptr {i j o} : (AV.ptr i j o).rows = [] := rfl
@[simp] theorem rows_yld {i} : (AV.yld i).rows = [] := rfl
@[simp] theorem rows_ep {v o} : (AV.ep v o).rows = [] := rfl
@[simp] theorem rows_own {i} : (AV.own i).rows = [i] := rfl
@[simp] theorem rows_row {i o l} : (AV.row i o l).rows = [i] := rfl
@[simp] theorem rows_agg {cs} : (AV.agg cs).rows = AV.rowsL cs := rfl
@[simp] theorem rows_tup {cs} : (AV.tup cs).rows = AV.rowsL cs := rfl
@[simp] theorem rows_iface {t v} : (AV.iface t v).rows = v.rows := rfl
@[simp] theorem rows_fn {g a b} : (AV.fn g a b).rows = AV.rowsL a ++ AV.rowsL b := rfl
@[simp] theorem rowsL_nil : AV.rowsL [] = [] := rfl
@[simp] theorem rowsL_cons {v l} : AV.rowsL (v :: l) = v.rows ++ AV.rowsL l := rfl
@[simp] theorem names_list {sz es} : (AV.list sz es).names = [] := rfl
@[simp] theorem names_int {k n} : (AV.int k n).names = [] := rfl
@[simp] theorem names_str {s} : (AV.str s).names = [] := rfl
@[simp] theorem names_bool {b} : (AV.bool b).names = [] := rfl
@[simp] theorem names_nils : AV.nils.names = [] := rfl
@[simp] theorem names_nilp : AV.nilp.names = [] := rfl
@[simp] theorem names_nilf : AV.nilf.names = [] := rfl
@[simp] theorem names_nili : AV.nili.names = [] := rfl
@[simp] theorem names_undef : AV.undef.names = [] := rfl
@[simp] theorem names_ptr {i j o} : (AV.ptr i j o).names = [i] := rfl
@[simp] theorem names_yld {i} : (AV.yld i).names = [i] := rfl
@[simp] theorem names_ep {v o} : (AV.ep v o).names = [] := rfl
@[simp] theorem names_own {i} : (AV.own i).names = [i] := rfl
@[simp] theorem names_row {i o l} : (AV.row i o l).names = [i] := rfl
@[simp] theorem names_agg {cs} : (AV.agg cs).names = AV.namesL cs := rfl
@[simp] theorem names_tup {cs} : (AV.tup cs).names = AV.namesL cs := rfl
@[simp] theorem names_iface {t v} : (AV.iface t v).names = v.names := rfl
@[simp] theorem names_fn {g a b} : (AV.fn g a b).names = AV.namesL a ++ AV.namesL b := rfl
@[simp] theorem namesL_nil : AV.namesL [] = [] := rfl
@[simp] theorem namesL_cons {v l} : AV.namesL (v :: l) = v.names ++ AV.namesL l := rfl
@[simp] theorem ren_list {m sz es} : (AV.list sz es).ren m = .list sz es := rfl
@[simp] theorem ren_int {m k n} : (AV.int k n).ren m = .int k n := rfl
@[simp] theorem ren_str {m s} : (AV.str s).ren m = .str s := rfl
@[simp] theorem ren_bool {m b} : (AV.bool b).ren m = .bool b := rfl
@[simp] theorem ren_nils {m} : AV.nils.ren m = .nils := rfl
@[simp] theorem ren_nilp {m} : AV.nilp.ren m = .nilp := rfl
@[simp] theorem ren_nilf {m} : AV.nilf.ren m = .nilf := rfl
@[simp] theorem ren_nili {m} : AV.nili.ren m = .nili := rfl
@[simp] theorem ren_undef {m} : AV.undef.ren m = .undef := rfl
@[simp] theorem ren_ep {m v o} : (AV.ep v o).ren m = .ep v o := rfl
@[simp] theorem ren_agg {m cs} : (AV.agg cs).ren m = .agg (AV.renL m cs) := rfl
@[simp] theorem ren_tup {m cs} : (AV.tup cs).ren m = .tup (AV.renL m cs) := rfl
@[simp] theorem ren_iface {m t v} : (AV.iface t v).ren m = .iface t (v.ren m) := rfl
@[simp] theorem ren_fn {m g a b} : (AV.fn g a b).ren m = .fn g (AV.renL m a) (AV.renL m b) := rfl
@[simp] theorem ren_own {m i} : (AV.own i).ren m = (match aget m i with | some k => .own k | none => .undef) := rfl
@[simp] theorem ren_row {m i o l} : (AV.row i o l).ren m = (match aget m i with | some k => .row k o l | none => .undef) := rfl
@[simp] theorem ren_ptr {m i j o} : (AV.ptr i j o).ren m = (match aget m i with | some k => .ptr k j o | none => .undef) := rfl
@[simp] theorem ren_yld {m i} : (AV.yld i).ren m = (match aget m i with | some k => .yld k | none => .undef) := rfl
@[simp] theorem renL_nil {m} : AV.renL m [] = [] := rfl
@[simp] theorem renL_cons {m v l} : AV.renL m (v :: l) = v.ren m :: AV.renL m l := rfl
@[simp] theorem cells_agg {cs} : (AV.agg cs).cells = cs := rfl
@[simp] theorem cells_int {k n} : (AV.int k n).cells = [.int k n] := rfl
@[simp] theorem cells_str {s} : (AV.str s).cells = [.str s] := rfl
@[simp] theorem cells_bool {b} : (AV.bool b).cells = [.bool b] := rfl
@[simp] theorem cells_list {z es} : (AV.list z es).cells = [.list z es] := rfl
@[simp] theorem cells_nils : AV.nils.cells = [.nils] := rfl
@[simp] theorem cells_own {i} : (AV.own i).cells = [.own i] := rfl
@[simp] theorem cells_ptr {i j o} : (AV.ptr i j o).cells = [.ptr i j o] := rfl
@[simp] theorem cells_nilp : AV.nilp.cells = [.nilp] := rfl
@[simp] theorem cells_fn {g a b} : (AV.fn g a b).cells = [.fn g a b] := rfl

theorem nameless_ren {m : List (Nat × Nat)} : ∀ {v : AV}, v.names = [] → v.ren m = v
  | .agg cs, h => by simp only [ren_agg, nameless_renL (l := cs) h]
  | .tup cs, h => by simp only [ren_tup, nameless_renL (l := cs) h]
  | .iface t v, h => by simp only [ren_iface, nameless_ren (v := v) h]
  | .fn g a b, h => by
    simp only [names_fn, List.append_eq_nil_iff] at h
    simp only [ren_fn, nameless_renL h.1, nameless_renL h.2]
  | .undef, _ => rfl | .bool _, _ => rfl | .int _ _, _ => rfl | .str _, _ => rfl | .nilp, _ => rfl | .nils, _ => rfl | .nilf, _ => rfl | .nili, _ => rfl | .list _ _, _ => rfl | .ep _ _, _ => rfl
  | .own i, h => by cases h
  | .row i _ _, h => by cases h
  | .ptr i _ _, h => by cases h
  | .yld i, h => by cases h
where nameless_renL : ∀ {l : List AV}, AV.namesL l = [] → AV.renL m l = l
  | [], _ => rfl
  | v :: l, h => by
    simp only [namesL_cons, List.append_eq_nil_iff] at h
    simp only [renL_cons, nameless_ren h.1, nameless_renL h.2]
theorem namesL_of : ∀ {l : List AV}, AV.namesL l = [] → ∀ v ∈ l, v.names = []
  | [], _, v, hv => by simp at hv
  | x :: l, h, v, hv => by
    simp only [namesL_cons, List.append_eq_nil_iff] at h
    rcases List.mem_cons.1 hv with rfl | hv
    · exact h.1
    · exact namesL_of h.2 v hv
theorem nameless_rows : ∀ {v : AV}, v.names = [] → v.rows = []
  | .agg cs, h => nameless_rowsL (l := cs) h
  | .tup cs, h => nameless_rowsL (l := cs) h
  | .iface t v, h => nameless_rows (v := v) h
  | .fn g a b, h => by
    simp only [names_fn, List.append_eq_nil_iff] at h
    simp only [rows_fn, nameless_rowsL h.1, nameless_rowsL h.2]; rfl
  | .undef, _ => rfl | .bool _, _ => rfl | .int _ _, _ => rfl | .str _, _ => rfl | .nilp, _ => rfl | .nils, _ => rfl | .nilf, _ => rfl | .nili, _ => rfl | .list _ _, _ => rfl | .ep _ _, _ => rfl
  | .own i, h => by cases h
  | .row i _ _, h => by cases h
  | .ptr i _ _, h => by cases h
  | .yld i, h => by cases h
where nameless_rowsL : ∀ {l : List AV}, AV.namesL l = [] → AV.rowsL l = []
  | [], _ => rfl
  | v :: l, h => by
    simp only [namesL_cons, List.append_eq_nil_iff] at h
    simp only [rowsL_cons, nameless_rows h.1, nameless_rowsL h.2]; rfl
theorem nameless_rv : ∀ {v : AV}, v.names = [] → v.rv hp = v
  | .agg cs, h => by simp only [rv_agg, nameless_rvL (l := cs) h]
  | .tup cs, h => by simp only [rv_tup, nameless_rvL (l := cs) h]
  | .iface t v, h => by simp only [rv_iface, nameless_rv (v := v) h]
  | .fn g a b, h => by
    simp only [names_fn, List.append_eq_nil_iff] at h
    simp only [rv_fn, nameless_rvL h.1, nameless_rvL h.2]
  | .undef, _ => rfl | .bool _, _ => rfl | .int _ _, _ => rfl | .str _, _ => rfl | .nilp, _ => rfl | .nils, _ => rfl | .nilf, _ => rfl | .nili, _ => rfl | .list _ _, _ => rfl | .ep _ _, _ => rfl
  | .own i, h => by cases h
  | .row i _ _, h => by cases h
  | .ptr i _ _, h => by cases h
  | .yld i, h => by cases h
where nameless_rvL : ∀ {l : List AV}, AV.namesL l = [] → AV.rvL hp l = l
  | [], _ => rfl
  | v :: l, h => by
    simp only [namesL_cons, List.append_eq_nil_iff] at h
    simp only [rvL_cons, nameless_rv h.1, nameless_rvL h.2]

/-! ### Calls of plain values -/
theorem prepL_pure {g : FuncId} : ∀ {l : List AV} {j : Nat}, AV.namesL l = [] → prepL G g hp l j = l
  | [], _, _ => rfl
  | v :: l, j, h => by
    simp only [namesL_cons, List.append_eq_nil_iff] at h
    simp only [prepL, nameless_rv h.1, prepL_pure h.2]
    split <;> rfl
theorem prepRows_pure {g : FuncId} : ∀ {l : List AV} {j : Nat}, AV.namesL l = [] → prepRows G g l j = []
  | [], _, _ => rfl
  | v :: l, j, h => by
    simp only [namesL_cons, List.append_eq_nil_iff] at h
    simp only [prepRows, nameless_rows h.1, prepRows_pure h.2]
    split <;> rfl

/-- A call that is told by its answer alone. -/
def pureR (st : ASt) : ARes → AR
  | .ret v => .val v st
  | .pan v => .pan v st
@[simp] theorem pureR_r {v} : pureR st (.ret v) = .val v st := rfl
@[simp] theorem pureR_p {v} : pureR st (.pan v) = .pan v st := rfl
def ARes.val : ARes → AV
  | .ret v => v
  | .pan v => v

theorem callV_pure {d : Option Nat} {g : FuncId} {first caps args all : List AV} {res : ARes} (hE : G.E g = true) (hg : g < RB) (hx : G.ext g = none) (ha : first ++ args ++ caps = all) (hn : AV.namesL all = []) (hc : call g all [] = some (res, [])) (hv : res.val.names = []) :
    callV G call d (.fn (.func g) first caps) args st = some (pureR st res) := by
  unfold callV extA
  simp only [hx, Option.bind_none]
  unfold callA callB
  simp only [ha, prepL_pure hn, prepRows_pure hn, hn]
  have h1 : st.fix [] = st := rfl
  rw [h1]
  have h2 : reachL 40 st.hp [] [] = [] := rfl
  rw [h2]
  have h3 : toMap [] = [] := rfl
  rw [h3, nameless_ren.nameless_renL hn]
  have h4 : subHeap [] st.hp = [] := rfl
  rw [h4, hc]
  simp only [hE, hg, decide_true, Bool.and_self, List.all_nil, if_true, Option.bind_some, Option.map_map]
  have h5 : afterCall d [] st [] = some st := rfl
  rw [h5]
  cases res with
  | ret v =>
    have : v.ren [] = v := nameless_ren hv
    simp [answered, backMap, pureR, this]
  | pan v =>
    have : v.ren [] = v := nameless_ren hv
    simp [answered, backMap, pureR, this]

theorem callV_ret {d : Option Nat} {g : FuncId} {first caps args all : List AV} {v : AV} (hE : G.E g = true) (hg : g < RB) (hx : G.ext g = none) (ha : first ++ args ++ caps = all) (hn : AV.namesL all = []) (hc : call g all [] = some (.ret v, [])) (hv : v.names = []) :
    callV G call d (.fn (.func g) first caps) args st = some (.val v st) := callV_pure (res := .ret v) hE hg hx ha hn hc hv
theorem callV_pan {d : Option Nat} {g : FuncId} {first caps args all : List AV} {v : AV} (hE : G.E g = true) (hg : g < RB) (hx : G.ext g = none) (ha : first ++ args ++ caps = all) (hn : AV.namesL all = []) (hc : call g all [] = some (.pan v, [])) (hv : v.names = []) :
    callV G call d (.fn (.func g) first caps) args st = some (.pan v st) := callV_pure (res := .pan v) hE hg hx ha hn hc hv

theorem callV_ext {d : Option Nat} {g : FuncId} {first caps args : List AV} {p : List AV → Option AV} {v : AV} (hx : G.ext g = some p) (h : p (first ++ args ++ caps) = some v) : callV G call d (.fn (.func g) first caps) args st = some (.val v st) := by
  unfold callV extA
  simp only [hx, h, Option.bind_some]

/-! ### Bodies -/
/-- What a body's end is told as. -/
def endX (G : Cfg) (g : FuncId) (m : List Nat) (res : List ResultVar) : Option (AX × ASt) → Option (ARes × Heap)
  | some (.normal, s) => (resL G s res).map fun vs => retA (finishA G g m (resOf vs) s)
  | some (.ret, s) => (resL G s res).map fun vs => retA (finishA G g m (resOf vs) s)
  | some (.pan v, s) => some (panA (outOf m (hfix v.rows s.hp) (v.rv s.hp)))
  | _ => none
theorem runFn_body {g : FuncId} {fn : Func} {c : Code} {args : List AV} (hd : G.dfr g = false) (hf : G.P.funcs[g]? = some fn) (hb : fn.body = some c) :
    runFn G call loop g args hp = endX G g (hp.map (·.1)) fn.results.toList (codeX G call loop g c { sl := zipIx args 0, hp }) := by
  unfold runFn runBody
  simp only [hd, Bool.false_eq_true, if_false, hf, hb, Option.bind_some]
  cases codeX G call loop g c { sl := zipIx args 0, hp } with
  | none => rfl
  | some y => obtain ⟨x, s⟩ := y; cases x <;> rfl
@[simp] theorem resL_nil : resL G st [] = some [] := rfl
@[simp] theorem resL_tmp {t l} : resL G st (.tmp t :: l) = (resL G st l).map fun vs => st.slot t :: vs := by simp [resL, resv]
@[simp] theorem resOf_one {v} : resOf [v] = v := rfl
@[simp] theorem resOf_nil : resOf [] = .tup [] := rfl
@[simp] theorem resOf_two {v w l} : resOf (v :: w :: l) = .tup (v :: w :: l) := rfl

/-- A body without memory: its end. -/
theorem end_pure {g : FuncId} {res : List ResultVar} {x : AX} {s : ASt} {vs : List AV} (hx : x = .normal ∨ x = .ret) (hr : resL G s res = some vs) (hn : AV.namesL vs = []) : endX G g [] res (some (x, s)) = some (.ret (resOf vs), []) := by
  have hv : (resOf vs).names = [] := by
    unfold resOf
    split
    · simpa using hn
    · exact hn
  have hf : finishA G g [] (resOf vs) s = (resOf vs, []) := by
    unfold finishA
    simp only [nameless_rows hv, nameless_rv hv]
    have ho : ∀ h : Heap, outOf [] h (resOf vs) = (resOf vs, []) := by
      intro h
      unfold outOf
      simp only [hv, List.append_nil]
      have : reachL 60 h [] [] = [] := rfl
      rw [this, nameless_ren hv]; rfl
    split <;> exact ho _
  rcases hx with rfl | rfl <;> simp [endX, hr, hf, retA]
theorem end_pan {g : FuncId} {res : List ResultVar} {s : ASt} {v : AV} (hn : v.names = []) : endX G g [] res (some (.pan v, s)) = some (.pan v, []) := by
  unfold endX
  simp only [nameless_rows hn, nameless_rv hn]
  unfold outOf
  simp only [hn, List.append_nil]
  have : reachL 60 (hfix [] s.hp) [] [] = [] := rfl
  rw [this, nameless_ren hn]; rfl
end
end Go.Proofs.Ytonaejfpiihfhaa.Abs
