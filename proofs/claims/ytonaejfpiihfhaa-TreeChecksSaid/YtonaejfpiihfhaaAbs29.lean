/- The interpreter, step by step, as equations: code is gone through by rewriting. -/
import Derived.Test.YtonaejfpiihfhaaAbs28
namespace Go.Proofs.Ytonaejfpiihfhaa.Abs
open Go Go.RowKit
set_option linter.unusedSimpArgs false
set_option linter.unusedVariables false

section
variable {G : Cfg} {call : CallFn} {loop : LoopFn} {f : FuncId} {ops : Array Oper} {r : List Oper} {st : ASt} {d : Option Nat} {t t' t'' : TypeId} {p : String} {af : Array Edge} {x y z : Operand}

/-! ### Code -/
def seqX (G : Cfg) (call : CallFn) (loop : LoopFn) (f : FuncId) (r : Option (AX × ASt)) (b : Code) : Option (AX × ASt) := r.bind fun | (.normal, s) => codeX G call loop f b s | r => some r
@[simp] theorem cx_seq {a b : Code} : codeX G call loop f (.seq a b) st = seqX G call loop f (codeX G call loop f a st) b := rfl
@[simp] theorem seqX_n {s b} : seqX G call loop f (some (.normal, s)) b = codeX G call loop f b s := rfl
@[simp] theorem seqX_r {s b} : seqX G call loop f (some (.ret, s)) b = some (.ret, s) := rfl
@[simp] theorem seqX_e {i s b} : seqX G call loop f (some (.exit i, s)) b = some (.exit i, s) := rfl
@[simp] theorem seqX_p {i s b} : seqX G call loop f (some (.pan i, s)) b = some (.pan i, s) := rfl
theorem seqX_if {c : Prop} [Decidable c] {x y b} : seqX G call loop f (if c then x else y) b = if c then seqX G call loop f x b else seqX G call loop f y b := by split <;> rfl
def blkX (id : Nat) (r : Option (AX × ASt)) : Option (AX × ASt) := r.bind fun | (.exit i, s) => some (if i = id then .normal else .exit i, s) | r => some r
@[simp] theorem cx_block {id} {b : Code} : codeX G call loop f (.block id b) st = blkX id (codeX G call loop f b st) := rfl
@[simp] theorem blkX_n {id s} : blkX id (some (.normal, s)) = some (.normal, s) := rfl
@[simp] theorem blkX_r {id s} : blkX id (some (.ret, s)) = some (.ret, s) := rfl
@[simp] theorem blkX_p {id s i} : blkX id (some (.pan i, s)) = some (.pan i, s) := rfl
@[simp] theorem blkX_e {id i s} : blkX id (some (.exit i, s)) = some (if i = id then .normal else .exit i, s) := rfl
theorem blkX_if {id} {c : Prop} [Decidable c] {x y} : blkX id (if c then x else y) = if c then blkX id x else blkX id y := by split <;> rfl
@[simp] theorem cx_skip : codeX G call loop f .skip st = some (.normal, st) := rfl
@[simp] theorem cx_exit {i} : codeX G call loop f (.exit i) st = some (.exit i, st) := rfl
@[simp] theorem cx_ret : codeX G call loop f .ret st = some (.ret, st) := rfl
@[simp] theorem cx_label {l} : codeX G call loop f (.label l) st = some (.normal, st) := rfl
def condX (G : Cfg) (call : CallFn) (loop : LoopFn) (f : FuncId) (v : AV) (a b : Code) (st : ASt) : Option (AX × ASt) := match v with | .bool t => if t then codeX G call loop f a st else codeX G call loop f b st | _ => none
@[simp] theorem cx_cond {c a b} : codeX G call loop f (.cond c a b) st = condX G call loop f (st.ev c) a b st := rfl
@[simp] theorem condX_t {a b} : condX G call loop f (.bool true) a b st = codeX G call loop f a st := rfl
@[simp] theorem condX_f {a b} : condX G call loop f (.bool false) a b st = codeX G call loop f b st := rfl
theorem condX_b {t a b} : condX G call loop f (.bool t) a b st = if t = true then codeX G call loop f a st else codeX G call loop f b st := by cases t <;> rfl
def loopX (loop : LoopFn) (f : FuncId) (b : Code) (st : Option ASt) : Option (AX × ASt) := st.bind (loop f b)
@[simp] theorem cx_loop {b} : codeX G call loop f (.loop b) st = loopX loop f b (canon G f b st) := rfl
@[simp] theorem loopX_s {b s} : loopX loop f b (some s) = loop f b s := rfl

/-! ### Operations -/
def aopsL (G : Cfg) (call : CallFn) (ops : Array Oper) : List Oper → ASt → Option (AX × ASt)
  | [], st => some (.normal, st)
  | o :: r, st =>
      (guardA ops st o).bind fun g =>
        if g then
          (aop G call o st).bind fun
            | .val v s => aopsL G call ops r (s.put o.dst v)
            | .pan v s => some (.pan v, s)
        else aopsL G call ops r (st.put o.dst (.tup []))

theorem aops_L (G : Cfg) (call : CallFn) (ops : Array Oper) (n : Nat) : ∀ (k : Nat) (st : ASt), n + k = ops.size → aops G call ops (List.range' n k) st = aopsL G call ops (ops.toList.drop n) st := by
  intro k
  induction k generalizing n with
  | zero => intro st h; rw [List.drop_of_length_le (by simp; omega)]; rfl
  | succ k ih =>
    intro st h
    have hlt : n < ops.toList.length := by simp; omega
    rw [List.drop_eq_getElem_cons hlt, List.range'_succ]
    simp only [aops, aopsL]
    rw [show ops[n]? = some ops.toList[n] by rw [← Array.getElem?_toList]; exact List.getElem?_eq_getElem hlt]
    simp only
    congr 1
    funext g
    cases g with
    | true =>
      simp only [if_true]
      congr 1
      funext a
      cases a with
      | val v s => exact ih (n + 1) _ (by omega)
      | pan v s => rfl
    | false => exact ih (n + 1) _ (by omega)
/-- A region's end. -/
def trimX (L : Option (List Nat)) (r : Option (AX × ASt)) : Option (AX × ASt) := r.map fun y => (y.1, y.2.trim L)
@[simp] theorem trimX_s {L x s} : trimX L (some (x, s)) = some (x, s.trim L) := rfl
theorem trimX_if {L} {c : Prop} [Decidable c] {x y} : trimX L (if c then x else y) = if c then trimX L x else trimX L y := by split <;> rfl
@[simp] theorem trim_some {sl hp l} : ASt.trim ⟨sl, hp⟩ (some l) = ⟨l.map fun t => (t, (aget sl t).getD .undef), hp⟩ := rfl
@[simp] theorem cx_region {id} : codeX G call loop f (.region id ops false) st = trimX (G.live f id) (aopsL G call ops ops.toList st) := by
  simp only [codeX, Bool.false_eq_true, if_false]
  rw [List.range_eq_range', aops_L G call ops 0 ops.size st (by simp)]; simp [trimX]

def valX (G : Cfg) (call : CallFn) (ops : Array Oper) (d : Option Nat) (r : List Oper) (st : ASt) : Option AV → Option (AX × ASt)
  | some v => aopsL G call ops r (st.put d v)
  | none => none
@[simp] theorem valX_s {v} : valX G call ops d r st (some v) = aopsL G call ops r (st.put d v) := rfl
def resX (G : Cfg) (call : CallFn) (ops : Array Oper) (d : Option Nat) (r : List Oper) : Option AR → Option (AX × ASt)
  | some (.val v s) => aopsL G call ops r (s.put d v)
  | some (.pan v s) => some (.pan v, s)
  | none => none
@[simp] theorem resX_v {v s} : resX G call ops d r (some (.val v s)) = aopsL G call ops r (s.put d v) := rfl
@[simp] theorem resX_p {v s} : resX G call ops d r (some (.pan v s)) = some (.pan v, s) := rfl

@[simp] theorem ao_nil : aopsL G call ops [] st = some (.normal, st) := rfl
theorem ao_any {op : Op} : aopsL G call ops (⟨d, op, t, p, af, none⟩ :: r) st = resX G call ops d r (aop G call ⟨d, op, t, p, af, none⟩ st) := by
  simp only [aopsL, guardA, Option.bind_some, if_true]
  cases aop G call ⟨d, op, t, p, af, none⟩ st with
  | none => rfl
  | some a => cases a <;> rfl
theorem ao_read {op : Op} (h : aop G call ⟨d, op, t, p, af, none⟩ st = (opv G.P st.ev st.hp op).map fun v => .val v st) : aopsL G call ops (⟨d, op, t, p, af, none⟩ :: r) st = valX G call ops d r st (opv G.P st.ev st.hp op) := by
  rw [ao_any, h]
  cases opv G.P st.ev st.hp op <;> rfl

def gX (G : Cfg) (call : CallFn) (ops : Array Oper) (o : Oper) (r : List Oper) (st : ASt) : Option Bool → Option (AX × ASt)
  | some true => aopsL G call ops ({ o with guard := none } :: r) st
  | some false => aopsL G call ops r (st.put o.dst (.tup []))
  | none => none
@[simp] theorem gX_t {o} : gX G call ops o r st (some true) = aopsL G call ops ({ o with guard := none } :: r) st := rfl
@[simp] theorem gX_f {o} : gX G call ops o r st (some false) = aopsL G call ops r (st.put o.dst (.tup [])) := rfl
theorem gX_b {o b} : gX G call ops o r st (some b) = if b = true then aopsL G call ops ({ o with guard := none } :: r) st else aopsL G call ops r (st.put o.dst (.tup [])) := by cases b <;> rfl
/-- What a guard's slot says. -/
def gV (want : Bool) : AV → Option Bool
  | .bool b => some (b == want)
  | .tup [] => some false
  | _ => none
@[simp] theorem gV_b {w b} : gV w (.bool b) = some (b == w) := rfl
@[simp] theorem gV_n {w} : gV w (.tup []) = some false := rfl
theorem aop_guard (o : Oper) (g : Option (Nat × Bool)) : aop G call { o with guard := g } st = aop G call o st := rfl
/-- An operation behind a guard, whose slot holds this. -/
def gW (G : Cfg) (call : CallFn) (ops : Array Oper) (k : Nat) (w : Bool) (o : Oper) (r : List Oper) (st : ASt) : AV → Option (AX × ASt)
  | .bool b => if b == w then aopsL G call ops ({ o with guard := none } :: r) st else aopsL G call ops r (st.put o.dst (.tup []))
  | .tup [] => aopsL G call ops r (st.put o.dst (.tup []))
  | _ => none
@[simp] theorem gW_tt {k o} : gW G call ops k true o r st (.bool true) = aopsL G call ops ({ o with guard := none } :: r) st := rfl
@[simp] theorem gW_ff {k o} : gW G call ops k false o r st (.bool false) = aopsL G call ops ({ o with guard := none } :: r) st := rfl
@[simp] theorem gW_tf {k o} : gW G call ops k true o r st (.bool false) = aopsL G call ops r (st.put o.dst (.tup [])) := rfl
@[simp] theorem gW_ft {k o} : gW G call ops k false o r st (.bool true) = aopsL G call ops r (st.put o.dst (.tup [])) := rfl
@[simp] theorem gW_n {k w o} : gW G call ops k w o r st (.tup []) = aopsL G call ops r (st.put o.dst (.tup [])) := rfl
def gK (G : Cfg) (call : CallFn) (ops : Array Oper) (w : Bool) (o : Oper) (r : List Oper) (st : ASt) : Option Nat → Option (AX × ASt)
  | some k => gW G call ops k w o r st (st.slot k)
  | none => none
@[simp] theorem gK_s {k w o} : gK G call ops w o r st (some k) = gW G call ops k w o r st (st.slot k) := rfl
@[simp] theorem ao_guard {op : Op} {j w} : aopsL G call ops (⟨d, op, t, p, af, some (j, w)⟩ :: r) st = gK G call ops w ⟨d, op, t, p, af, some (j, w)⟩ r st ((ops[j]?).bind (·.dst)) := by
  simp only [aopsL, guardA]
  cases (ops[j]?).bind (·.dst) with
  | none => rfl
  | some k =>
    simp only [gK]
    cases st.slot k with
    | bool b => cases b <;> cases w <;> rfl
    | tup l => cases l <;> rfl
    | _ => rfl
/-! Two ways of a guard are told as one, at the region's end. -/
def mergeX (b : Bool) (x y : Option (AX × ASt)) : Option (AX × ASt) := if b = true then x else y
def mergeV (b : Bool) (x y : AV) : AV := if b = true then x else y
def mergeS (b : Bool) (x y : Slots) : Slots := if b = true then x else y
def aset : Slots → Nat → AV → Slots
  | [], _, _ => []
  | (k', x) :: l, k, v => if k' = k then (k', v) :: l else (k', x) :: aset l k v
@[simp] theorem aset_nil {k v} : aset [] k v = [] := rfl
@[simp] theorem aset_cons {k' x l k v} : aset ((k', x) :: l) k v = if k' = k then (k', v) :: l else (k', x) :: aset l k v := rfl
theorem aset_same {v : AV} {k : Nat} : ∀ {sl : Slots}, aget sl k = some v → aset sl k v = sl
  | [], h => by cases h
  | (k', x) :: l, h => by
    simp only [aget] at h
    simp only [aset]
    split
    · rename_i e; rw [if_pos e] at h; cases h; rfl
    · rename_i e; rw [if_neg e] at h; rw [aset_same h]
@[simp low] theorem gW_split {L} {sl : Slots} {hp : Heap} {k w o} {b : Bool} (hk : aget sl k = some (.bool b)) : trimX L (gW G call ops k w o r ⟨sl, hp⟩ (.bool b)) =
    mergeX b (trimX L (gW G call ops k w o r ⟨aset sl k (.bool true), hp⟩ (.bool true))) (trimX L (gW G call ops k w o r ⟨aset sl k (.bool false), hp⟩ (.bool false))) := by
  cases b with
  | true => rw [aset_same hk]; rfl
  | false => rw [aset_same hk]; rfl
@[simp] theorem mergeX_s {b x l m hp} : mergeX b (some (x, ⟨l, hp⟩)) (some (x, ⟨m, hp⟩)) = some (x, ⟨mergeS b l m, hp⟩) := by cases b <;> rfl
@[simp] theorem mergeS_n {b} : mergeS b [] [] = [] := by cases b <;> rfl
@[simp] theorem mergeS_c {b t x y l m} : mergeS b ((t, x) :: l) ((t, y) :: m) = (t, mergeV b x y) :: mergeS b l m := by cases b <;> rfl
@[simp] theorem mergeV_same {b x} : mergeV b x x = x := by cases b <;> rfl
@[simp] theorem mergeV_b {b x y} : mergeV b (.bool x) (.bool y) = .bool (bif b then x else y) := by cases b <;> rfl
@[simp] theorem mergeV_i {b k x y} : mergeV b (.int k x) (.int k y) = .int k (bif b then x else y) := by cases b <;> rfl

@[simp] theorem ao_move : aopsL G call ops (⟨d, .move x, t, p, af, none⟩ :: r) st = aopsL G call ops r (st.put d (st.ev x)) := ao_read rfl
@[simp] theorem ao_assign : aopsL G call ops (⟨d, .assign x, t, p, af, none⟩ :: r) st = aopsL G call ops r (st.put d (st.ev x)) := ao_read rfl
def pickV (c a b : AV) : Option AV := match c with | .bool t => some (if t then a else b) | _ => none
@[simp] theorem pickV_t {a b} : pickV (.bool true) a b = some a := rfl
@[simp] theorem pickV_f {a b} : pickV (.bool false) a b = some b := rfl
theorem pickV_b {t a b} : pickV (.bool t) a b = some (if t = true then a else b) := by cases t <;> rfl
@[simp] theorem ao_pick : aopsL G call ops (⟨d, .pick x y z, t, p, af, none⟩ :: r) st = valX G call ops d r st (pickV (st.ev x) (st.ev y) (st.ev z)) := ao_read rfl
def binO (P : Program) (op : BinOp) (t : TypeId) (cx cy : Bool) (a b : AV) : Option AV :=
  match a, b with
    | .nili, .nili => (match op, P.underlying t with
      | .eql, some (.interface _) => if cx || cy then some (.bool true) else none
      | .neq, some (.interface _) => if cx || cy then some (.bool false) else none
      | _, _ => none)
    | a, b => binv P op t a b
@[simp] theorem ao_binOp {op} : aopsL G call ops (⟨d, .binOp op t' x y t'', t, p, af, none⟩ :: r) st = valX G call ops d r st (binO G.P op t' (isConst x) (isConst y) (st.ev x) (st.ev y)) := ao_read rfl
@[simp] theorem ao_unOp {op} : aopsL G call ops (⟨d, .unOp op t' x, t, p, af, none⟩ :: r) st = valX G call ops d r st (unv op (st.ev x)) := ao_read rfl
def fieldV (P : Program) (t : TypeId) (k : Nat) (v : AV) : Option AV := match fieldOff P t k, v with
    | some fd, .agg cs => partT P fd.type cs fd.offset
    | _, _ => none
@[simp] theorem ao_field {k} : aopsL G call ops (⟨d, .field t' x k, t, p, af, none⟩ :: r) st = valX G call ops d r st (fieldV G.P t' k (st.ev x)) := ao_read rfl
def fieldAddrV (P : Program) (t : TypeId) (k : Nat) (v : AV) : Option AV := match fieldOff P t k, v with
    | some fd, .ptr id i o => if P.cellsOf fd.type = 0 then none else some (.ptr id i (o + fd.offset))
    | some fd, .ep v o => if P.cellsOf fd.type = 0 ∨ v.cells.length ≤ o + fd.offset then none else some (.ep v (o + fd.offset))
    | _, _ => none
@[simp] theorem ao_fieldAddr {k} : aopsL G call ops (⟨d, .fieldAddr t' x k, t, p, af, none⟩ :: r) st = valX G call ops d r st (fieldAddrV G.P t' k (st.ev x)) := ao_read rfl
@[simp] theorem ao_indexAddr : aopsL G call ops (⟨d, .indexAddr t' x y, t, p, af, none⟩ :: r) st = valX G call ops d r st (indexA G.P st.hp t' (st.ev x) (st.ev y)) := ao_read rfl
@[simp] theorem ao_index : aopsL G call ops (⟨d, .index t' x y, t, p, af, none⟩ :: r) st = valX G call ops d r st (indexv G.P t' (st.ev x) (st.ev y)) := ao_read rfl
def loadV (P : Program) (hp : Heap) (t : TypeId) (v : AV) : Option AV := match v with
    | .ptr id i o => (aget hp id).bind fun ob => (objCells ob i).bind fun cs => partT P t cs o
    | .ep v o => partT P t v.cells o
    | _ => none
@[simp] theorem ao_load : aopsL G call ops (⟨d, .load t' x, t, p, af, none⟩ :: r) st = valX G call ops d r st (loadV G.P st.hp t' (st.ev x)) := ao_read rfl
def extractV (i : Nat) : AV → Option AV | .tup vs => vs[i]? | _ => none
@[simp] theorem extractV_t {i vs} : extractV i (.tup vs) = vs[i]? := rfl
@[simp] theorem ao_extract {i} : aopsL G call ops (⟨d, .extract x i, t, p, af, none⟩ :: r) st = valX G call ops d r st (extractV i (st.ev x)) := ao_read rfl
@[simp] theorem ao_build {ps : Array (Nat × Operand)} : aopsL G call ops (⟨d, .build t' ps, t, p, af, none⟩ :: r) st = valX G call ops d r st (buildA G.P t' (ps.toList.map fun q => (q.1, st.ev q.2))) := ao_read rfl
def mkIface (P : Program) (t : TypeId) (v : AV) : Option AV := match P.underlying t with | some (.interface _) => none | some _ => some (.iface t v) | none => none
@[simp] theorem ao_makeInterface : aopsL G call ops (⟨d, .makeInterface t' x, t, p, af, none⟩ :: r) st = valX G call ops d r st (mkIface G.P t' (st.ev x)) := ao_read rfl
@[simp] theorem ao_makeFunc {g : Fn} {a b : Array Operand} : aopsL G call ops (⟨d, .makeFunc g a b, t, p, af, none⟩ :: r) st = aopsL G call ops r (st.put d (.fn g (a.toList.map st.ev) (b.toList.map st.ev))) := ao_read rfl
def nilCheckV : AV → Option AV | .ptr id i o => some (.ptr id i o) | .ep v o => some (.ep v o) | .iface t v => some (.iface t v) | _ => none
@[simp] theorem nilCheckV_p {id i o} : nilCheckV (.ptr id i o) = some (.ptr id i o) := rfl
@[simp] theorem nilCheckV_e {v o} : nilCheckV (.ep v o) = some (.ep v o) := rfl
@[simp] theorem ao_nilCheck : aopsL G call ops (⟨d, .nilCheck x, t, p, af, none⟩ :: r) st = valX G call ops d r st (nilCheckV (st.ev x)) := ao_read rfl
def assertV (P : Program) (t : TypeId) (ok : Bool) (v : AV) : Option AV := match P.underlying t, v with
    | some (.interface _), _ => none
    | some _, .iface t' v => if t' = t then some (if ok then .tup [v, .bool true] else v) else (if ok then ((P.info? t).bind (·.zero)).map fun z => .tup [ofValue z, .bool false] else none)
    | some _, .nili => if ok then ((P.info? t).bind (·.zero)).map fun z => .tup [ofValue z, .bool false] else none
    | _, _ => none
@[simp] theorem ao_typeAssert {ok} : aopsL G call ops (⟨d, .typeAssert x t'' t' ok, t, p, af, none⟩ :: r) st = valX G call ops d r st (assertV G.P t' ok (st.ev x)) := ao_read rfl

/-! Those that write. -/
theorem ao_alloc {e : TypeId} {d : Nat} : aopsL G call ops (⟨some d, .alloc e, t, p, af, none⟩ :: r) st = resX G call ops (some d) r (((G.P.info? e).bind (·.zero)).bind fun z => if okCells (ofValue z) ∧ (ofValue z).cells.length = G.P.cellsOf e then newObj d (.box (ofValue z)) (fun n => .ptr n 0 0) st else none) := ao_any
def allocX (G : Cfg) (e : TypeId) (d : Nat) (st : ASt) : Option AR := ((G.P.info? e).bind (·.zero)).bind fun z => if okCells (ofValue z) ∧ (ofValue z).cells.length = G.P.cellsOf e then newObj d (.box (ofValue z)) (fun n => .ptr n 0 0) st else none
@[simp] theorem ao_alloc' {e : TypeId} {d : Nat} : aopsL G call ops (⟨some d, .alloc e, t, p, af, none⟩ :: r) st = resX G call ops (some d) r (allocX G e d st) := ao_any
def boxX (G : Cfg) (e : TypeId) (v : AV) (d : Nat) (st : ASt) : Option AR := if 0 < G.P.cellsOf e ∧ okCells v ∧ v.cells.length = G.P.cellsOf e then newObj d (.box v) (fun n => .ptr n 0 0) st else none
@[simp] theorem ao_box {e : TypeId} {d : Nat} : aopsL G call ops (⟨some d, .box e x, t, p, af, none⟩ :: r) st = resX G call ops (some d) r (boxX G e (st.ev x) d st) := ao_any
@[simp] theorem ao_store : aopsL G call ops (⟨d, .store t' x y, t, p, af, none⟩ :: r) st = resX G call ops d r ((storeA G t' (st.ev x) (st.ev y) st).map fun s => .val .undef s) := ao_any
def buildSliceX (G : Cfg) (t : TypeId) (len : Nat) (is : List Nat) (vs : List AV) (d : Nat) (st : ASt) : Option AR :=
  (elemOf? G.P t).bind fun e =>
      let ys := AV.rvL st.hp vs
      if is = List.range len ∧ ((G.P.info? e).bind (·.zero)).isSome ∧ AV.pureL ys ∧ (ys.all fun y => okCells y && y.cells.length == G.P.cellsOf e) ∧ 0 < G.P.cellsOf e ∧ len * G.P.cellsOf e ≤ 16777216 then
        newObj d (.row (G.P.cellsOf e) ys false false) .own (st.fix (AV.rowsL vs))
      else none
@[simp] theorem ao_buildSlice {len} {ps : Array (Nat × Operand)} {d : Nat} : aopsL G call ops (⟨some d, .buildSlice t' len ps, t, p, af, none⟩ :: r) st = resX G call ops (some d) r (buildSliceX G t' len (ps.toList.map (·.1)) (ps.toList.map fun q => st.ev q.2) d st) := ao_any
def panicX (v : AV) (st : ASt) : Option AR := match v with
    | .iface t v => some (.pan ((AV.iface t v).rv st.hp) (st.fix (AV.iface t v).rows))
    | _ => none
@[simp] theorem ao_panic : aopsL G call ops (⟨d, .panic x, t, p, af, none⟩ :: r) st = resX G call ops d r (panicX (st.ev x) st) := ao_any
def makeSliceX (G : Cfg) (t : TypeId) (l c : AV) (d : Nat) (st : ASt) : Option AR :=
  (elemOf? G.P t).bind fun e => ((G.P.info? e).bind (·.zero)).bind fun z =>
      match l, c with
      | .int .i64 n, .int .i64 m =>
        if 0 ≤ n ∧ n ≤ m ∧ m ≤ LIM ∧ ((G.P.info? e).map (·.bytes)).getD 4097 ≤ 4096 ∧ (ofValue z).pureB ∧ okCells (ofValue z) ∧ 0 < G.P.cellsOf e ∧ (ofValue z).cells.length = G.P.cellsOf e then newObj d (.row (G.P.cellsOf e) (List.replicate n.toNat (ofValue z)) false false) .own st else none
      | _, _ => none
@[simp] theorem ao_makeSlice {d : Nat} : aopsL G call ops (⟨some d, .makeSlice t' x y, t, p, af, none⟩ :: r) st = resX G call ops (some d) r (makeSliceX G t' (st.ev x) (st.ev y) d st) := ao_any
def convertX (G : Cfg) (s t : TypeId) (v : AV) (d : Option Nat) (st : ASt) : Option AR := match G.P.underlying t, v with
    | some (.slice e), .str l =>
      (match G.P.underlying e with
       | some (.int .u8) => d.bind fun d => if isStringT G.P s then newObj d (.row 1 (l.map fun b => .int .u8 b.toNat) false false) .own st else none
       | _ => none)
    | _, _ => (convv G.P st.hp s t v).map fun v => .val v st
@[simp] theorem ao_convert : aopsL G call ops (⟨d, .convert t' t'' x, t, p, af, none⟩ :: r) st = resX G call ops d r (convertX G t' t'' (st.ev x) d st) := ao_any
def sliceX (G : Cfg) (t : TypeId) (v : AV) (lo hi mx : Option AV) (st : ASt) : Option AR := match cutA st.hp v lo hi mx with
    | some q => if (elemOf? G.P t).map (G.P.cellsOf ·) = some q.2 then some (.val (.own q.1) (st.cut q)) else none
    | none => (slicev G.P st.hp t v lo hi mx).map fun v => .val v st
@[simp] theorem ao_slice {lo hi mx : Option Operand} : aopsL G call ops (⟨d, .slice t' x lo hi mx, t, p, af, none⟩ :: r) st = resX G call ops d r (sliceX G t' (st.ev x) (lo.map st.ev) (hi.map st.ev) (mx.map st.ev) st) := ao_any

/-! Calls. -/
@[simp] theorem ao_len {ts : TypeId} : aopsL G call ops (⟨d, .call ⟨.builtin .len, #[x], #[ts]⟩, t, p, af, none⟩ :: r) st = valX G call ops d r st (lenv G.P st.hp ts (st.ev x)) := ao_read rfl
@[simp] theorem ao_cap {ts : TypeId} : aopsL G call ops (⟨d, .call ⟨.builtin .cap, #[x], #[ts]⟩, t, p, af, none⟩ :: r) st = valX G call ops d r st (capv G.P ts (st.ev x)) := ao_read rfl
@[simp] theorem ao_min {ts} : aopsL G call ops (⟨d, .call ⟨.builtin .min, #[x, y], ts⟩, t, p, af, none⟩ :: r) st = valX G call ops d r st (minmax false (st.ev x) (st.ev y)) := by
  refine ao_read ?_
  simp only [aop, calledA, aopB]
@[simp] theorem ao_max {ts} : aopsL G call ops (⟨d, .call ⟨.builtin .max, #[x, y], ts⟩, t, p, af, none⟩ :: r) st = valX G call ops d r st (minmax true (st.ev x) (st.ev y)) := by
  refine ao_read ?_
  simp only [aop, calledA, aopB]
@[simp] theorem ao_append {d : Nat} {t1 t2 : TypeId} : aopsL G call ops (⟨some d, .call ⟨.builtin .append, #[x, y], #[t1, t2]⟩, t, p, af, none⟩ :: r) st = resX G call ops (some d) r (appendA G d t1 t2 (st.ev x) (st.ev y) st) := ao_any
def callV (G : Cfg) (call : CallFn) (d : Option Nat) (fv : AV) (args : List AV) (st : ASt) : Option AR := match extA G fv args with
    | some v => some (.val v st)
    | none => callA G call d fv args st
@[simp] theorem ao_call {args : Array Operand} {ts} : aopsL G call ops (⟨d, .call ⟨.value x, args, ts⟩, t, p, af, none⟩ :: r) st = resX G call ops d r (callV G call d (st.ev x) (args.toList.map st.ev) st) := ao_any
end
end Go.Proofs.Ytonaejfpiihfhaa.Abs
