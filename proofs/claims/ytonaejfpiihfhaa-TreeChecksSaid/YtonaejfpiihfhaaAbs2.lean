/- The abstract interpreter: operations, code, calls, loops; its limit; what a body comes to, its call comes to. -/
import Derived.Test.YtonaejfpiihfhaaAbs1
namespace Go.Proofs.Ytonaejfpiihfhaa.Abs
open Go

inductive ARes where
  | ret (v : AV)
  | pan (v : AV)
inductive AX where
  | normal
  | exit (id : Nat)
  | ret
  | pan (v : AV)
abbrev CallFn := FuncId → List AV → Heap → Option (ARes × Heap)
abbrev LoopFn := FuncId → Code → ASt → Option (AX × ASt)

/-- What a loop's head keeps: slots (with a size: a row that grows, and its elements' cells), and boxes (the cells that are rows that grow, with their elements' cells). -/
structure Keep where
  slots : List (Nat × Option Nat)
  boxes : List (Nat × List (Nat × Nat))

/-- How a region that draws its order is gone through: what only reads first, as soon as it may be; then the one that may act; what only read is looked at again. -/
inductive PS where
  | n (i : Nat)
  | e (j : Nat) (re : List Nat)

structure Cfg where
  P : Program
  E : FuncId → Bool
  keep : FuncId → Nat → Option Keep
  inplace : FuncId → Nat → Bool
  retOwn : FuncId → Bool
  plan : FuncId → Nat → Option (List PS)
  roundOK : LRec → Bool
  ntm : FuncId → Nat
  dfr : FuncId → Bool
  ext : FuncId → Option (List AV → Option AV)
  live : FuncId → Nat → Option (List Nat)

mutual
def AV.pureB : AV → Bool
  | .undef => false
  | .own _ => false
  | .row _ _ _ => false
  | .ptr _ _ _ => false
  | .yld _ => false
  | .agg cs => AV.pureL cs
  | .tup vs => AV.pureL vs
  | .iface _ v => AV.pureB v
  | .fn _ a b => AV.pureL a && AV.pureL b
  | _ => true
def AV.pureL : List AV → Bool
  | [] => true
  | v :: r => AV.pureB v && AV.pureL r
end

inductive AR where
  | val (v : AV) (st : ASt)
  | pan (v : AV) (st : ASt)

def newObj (d : Nat) (o : AObj) (v : Nat → AV) (st : ASt) : Option AR :=
  if (aget st.hp (1000 + d)).isSome then none else some (.val (v (1000 + d)) { st with hp := (1000 + d, o) :: st.hp })

/-- A row's content changed; its fresh length may have moved it: no other way to it is left. -/
def hput (n : Nat) (o : AObj) (hp : Heap) : Heap := hmod (fun _ => o) n hp

def srcEls (hp : Heap) (k : Nat) : AV → Option (List AV)
  | .list sz es => if sz = k then some es else if sz = 0 ∧ es = [] then some [] else none
  | .nils => some []
  | .str s => if 1 = k then some (s.map fun b => .int .u8 b.toNat) else none
  | .own id => (aget hp id).bind fun | .row sz es _ _ => if sz = k then some es else none | _ => none
  | .row id o l => (aget hp id).bind fun | .row sz es _ _ => if sz = k ∧ o + l ≤ es.length then some ((es.drop o).take l) else none | _ => none
  | _ => none

/-- A cell that may be laid into memory. -/
def okCell : AV → Bool
  | .undef => false
  | .agg _ => false
  | .tup _ => false
  | _ => true
def okCells (v : AV) : Bool := v.cells.all okCell

def AV.isA : AV → Bool
  | .agg _ => true
  | _ => false
def storeA (G : Cfg) (t : TypeId) (a x : AV) (st : ASt) : Option ASt :=
  match a with
  | .ptr id i o =>
    (aget st.hp id).bind fun
      | .box v =>
        if i = 0 ∧ okCells x ∧ ((G.P.info? t).isSome ∧ (0 < G.P.cellsOf t ∨ v.isA = true)) ∧ x.cells.length = G.P.cellsOf t ∧ o + x.cells.length ≤ v.cells.length then some { st with hp := hput id (.box (reCell v (putA v.cells o x.cells))) st.hp } else none
      | .row sz es fx mv =>
        if fx || x.rows.contains id then none else
        (es[i]?).bind fun e =>
          let y := x.rv st.hp
          if y.pureB ∧ okCells y ∧ 0 < G.P.cellsOf t ∧ y.cells.length = G.P.cellsOf t ∧ o + y.cells.length ≤ e.cells.length then
            some { (st.fix x.rows) with hp := hput id (.row sz (es.set i (reCell e (putA e.cells o y.cells))) false mv) (hfix x.rows st.hp) }
          else none
      | _ => none
  | _ => none

/-- The zero value has as many cells as a variable. -/
def zeroFits (P : Program) (e : TypeId) : Bool :=
  match (P.info? e).bind (·.zero) with
  | some z => (ofValue z).known && (ofValue z).cells.length == P.cellsOf e
  | none => false

def appendA (G : Cfg) (d : Nat) (t xt : TypeId) (s x : AV) (st : ASt) : Option AR :=
  match G.P.underlying t with
  | some (.slice e) =>
    (match G.P.underlying xt with
     | some (.slice _) | some .string =>
      (srcEls st.hp (G.P.cellsOf e) x).bind fun xs =>
        if G.P.cellsOf e = 0 ∨ 4096 < ((G.P.info? e).map (·.bytes)).getD 4097 ∨ !zeroFits G.P e then none else
        match s with
        | .nils => if xs.length ≤ LIM then newObj d (.row (G.P.cellsOf e) xs false false) .own st else none
        | .own id => (aget st.hp id).bind fun
          | .row sz es fx _ => if sz = G.P.cellsOf e ∧ es.length + xs.length ≤ LIM then some (.val (.own id) { (st.killn id) with hp := hput id (.row sz (es ++ xs) fx true) (st.killn id).hp }) else none
          | _ => none
        | _ => none
     | some (.int _) => ((G.P.info? e).bind (·.zero)).bind fun z =>
        (match s, x with
         | .nils, .int .i64 n => if 0 < n ∧ n ≤ LIM ∧ ((G.P.info? e).map (·.bytes)).getD 4097 ≤ 4096 ∧ (ofValue z).pureB ∧ okCells (ofValue z) ∧ 0 < G.P.cellsOf e ∧ (ofValue z).cells.length = G.P.cellsOf e then newObj d (.row (G.P.cellsOf e) (List.replicate n.toNat (ofValue z)) false false) .own st else none
         | _, _ => none)
     | _ => none)
  | _ => none

/-- A row of the call's own is cut to nothing; it is told no other way. -/
def cutA (hp : Heap) (x : AV) (lo hi mx : Option AV) : Option (Nat × Nat) :=
  match x, lo, hi, mx with
  | .own id, none, some (.int .i64 0), none => (aget hp id).bind fun
    | .row sz _ false _ => if 0 < sz then some (id, sz) else none
    | _ => none
  | _, _, _, _ => none
def ASt.cut (st : ASt) (q : Nat × Nat) : ASt := { sl := (st.killn q.1).sl, hp := hput q.1 (.row q.2 [] false true) (st.killn q.1).hp }

def reachL : Nat → Heap → List Nat → List Nat → List Nat
  | 0, _, _, acc => acc
  | _ + 1, _, [], acc => acc
  | k + 1, hp, n :: r, acc => if n ∈ acc then reachL k hp r acc else reachL k hp (r ++ ((aget hp n).map AObj.names).getD []) (acc ++ [n])

def AObj.unmv : AObj → AObj
  | .row sz es fx _ => .row sz es fx false
  | o => o
def AObj.moved : AObj → Bool
  | .row _ _ _ mv => mv
  | _ => false
def AObj.isRow : AObj → Bool
  | .row _ _ _ _ => true
  | _ => false
def AObj.ormv (b : Bool) : AObj → AObj
  | .row sz es fx mv => .row sz es fx (b || mv)
  | o => o

def newName (d k : Nat) : Nat := 1000000 * (k + 1) + d

def zipIx {α : Type} : List α → Nat → List (Nat × α)
  | [], _ => []
  | x :: r, i => (i, x) :: zipIx r (i + 1)

/-- The arguments as they are handed over: rows as lists, but where a callee may write them. -/
def prepL (G : Cfg) (g : FuncId) (hp : Heap) : List AV → Nat → List AV
  | [], _ => []
  | a :: r, j => (if G.inplace g j then a else a.rv hp) :: prepL G g hp r (j + 1)
def prepRows (G : Cfg) (g : FuncId) : List AV → Nat → List Nat
  | [], _ => []
  | a :: r, j => (if G.inplace g j then [] else a.rows) ++ prepRows G g r (j + 1)

def killAll (st : ASt) (ns : List Nat) : ASt := ns.foldl ASt.killn st

/-- What is handed over, under the callee's names: 0, 1, 2, and on. -/
def toMap (ns : List Nat) : List (Nat × Nat) := (zipIx ns 0).map fun p => (p.2, p.1)
def subHeap (ns : List Nat) (hp : Heap) : Heap := (zipIx ns 0).filterMap fun p => (aget hp p.2).map fun o => (p.1, (o.ren (toMap ns)).unmv)
/-- The callee's names, in the caller. -/
def backName (ns : List Nat) (d : Option Nat) (k : Nat) : Nat := match aget (zipIx ns 0) k with | some n => n | none => newName (d.getD 0) k
def backMap (ns : List Nat) (d : Option Nat) (hp1 : Heap) : List (Nat × Nat) := hp1.map fun p => (p.1, backName ns d p.1)
def movedOf (ns : List Nat) (hp1 : Heap) : List Nat := hp1.filterMap fun p => if p.2.moved then aget (zipIx ns 0) p.1 else none
def afterHeap (d : Option Nat) (ns : List Nat) (hp hp1 : Heap) : Heap :=
  (hp1.map fun p => (backName ns d p.1, (p.2.ren (backMap ns d hp1)).ormv (((aget hp (backName ns d p.1)).map AObj.moved).getD false))) ++ hp
def afterCall (d : Option Nat) (ns : List Nat) (st1 : ASt) (hp1 : Heap) : Option ASt :=
  if ((zipIx ns 0).all fun p => (aget hp1 p.1).isSome) && (hp1.all fun p => ((aget (zipIx ns 0) p.1).isSome || (aget st1.hp (backName ns d p.1)).isNone) && (p.2.isRow || !((aget st1.hp (backName ns d p.1)).map AObj.moved).getD false)) then
    some { killAll st1 (movedOf ns hp1) with hp := afterHeap d ns (killAll st1 (movedOf ns hp1)).hp hp1 }
  else none
def answered (m : List (Nat × Nat)) (st : ASt) : ARes → AR
  | .ret v => .val (v.ren m) st
  | .pan v => .pan (v.ren m) st

/-- A round is told as the call of a function of its own: behind all functions. -/
def RB : Nat := 1000000000

/-- What a call comes to, and the rows that were moved in it. -/
def callB (G : Cfg) (call : CallFn) (d : Option Nat) (fv : AV) (args : List AV) (st : ASt) : Option (AR × List Nat) :=
  match fv with
  | .fn (.func g) first caps =>
    let all := first ++ args ++ caps
    let pre := prepL G g st.hp all 0
    let st1 := st.fix (prepRows G g all 0)
    let ns := reachL 40 st1.hp (AV.namesL pre) []
    if G.E g && decide (g < RB) && ns.all fun n => (aget st1.hp n).isSome then
      (call g (AV.renL (toMap ns) pre) (subHeap ns st1.hp)).bind fun y => (afterCall d ns st1 y.2).map fun st3 => (answered (backMap ns d y.2) st3 y.1, movedOf ns y.2)
    else none
  | .yld id =>
    let pre := AV.rvL st.hp args
    let st1 := st.fix (AV.rowsL args)
    let ns := reachL 40 st1.hp (id :: AV.namesL pre) []
    if ns.all fun n => (aget st1.hp n).isSome then
      (aget (toMap ns) id).bind fun j => (call (RB + j) (AV.renL (toMap ns) pre) (subHeap ns st1.hp)).bind fun y => (afterCall d ns st1 y.2).map fun st3 => (answered (backMap ns d y.2) st3 y.1, movedOf ns y.2)
    else none
  | _ => none
def callA (G : Cfg) (call : CallFn) (d : Option Nat) (fv : AV) (args : List AV) (st : ASt) : Option AR := (callB G call d fv args st).map (·.1)

def isStringT (P : Program) (t : TypeId) : Bool :=
  match P.underlying t with
  | some .string => true
  | _ => false

def aopB (G : Cfg) (o : Oper) (st : ASt) : Option AR :=
  match o.op with
  | .alloc e =>
    o.dst.bind fun d => ((G.P.info? e).bind (·.zero)).bind fun z =>
      if okCells (ofValue z) ∧ (ofValue z).cells.length = G.P.cellsOf e then newObj d (.box (ofValue z)) (fun n => .ptr n 0 0) st else none
  | .box e x =>
    o.dst.bind fun d => if 0 < G.P.cellsOf e ∧ okCells (st.ev x) ∧ (st.ev x).cells.length = G.P.cellsOf e then newObj d (.box (st.ev x)) (fun n => .ptr n 0 0) st else none
  | .buildSlice t len parts =>
    o.dst.bind fun d => (elemOf? G.P t).bind fun e =>
      let vs := parts.toList.map fun p => st.ev p.2
      let ys := AV.rvL st.hp vs
      if parts.toList.map (·.1) = List.range len ∧ ((G.P.info? e).bind (·.zero)).isSome ∧ AV.pureL ys ∧ (ys.all fun y => okCells y && y.cells.length == G.P.cellsOf e) ∧ 0 < G.P.cellsOf e ∧ len * G.P.cellsOf e ≤ 16777216 then
        newObj d (.row (G.P.cellsOf e) ys false false) .own (st.fix (AV.rowsL vs))
      else none
  | .store t a x => (storeA G t (st.ev a) (st.ev x) st).map fun s => .val .undef s
  | .panic x => match st.ev x with
    | .iface t v => some (.pan ((AV.iface t v).rv st.hp) (st.fix (AV.iface t v).rows))
    | _ => none
  | .convert s t x =>
    match G.P.underlying t, st.ev x with
    | some (.slice e), .str l =>
      (match G.P.underlying e with
       | some (.int .u8) => o.dst.bind fun d => if isStringT G.P s then newObj d (.row 1 (l.map fun b => .int .u8 b.toNat) false false) .own st else none
       | _ => none)
    | _, _ => (convv G.P st.hp s t (st.ev x)).map fun v => .val v st
  | .makeSlice t l c =>
    o.dst.bind fun d => (elemOf? G.P t).bind fun e => ((G.P.info? e).bind (·.zero)).bind fun z =>
      match st.ev l, st.ev c with
      | .int .i64 n, .int .i64 m =>
        if 0 ≤ n ∧ n ≤ m ∧ m ≤ LIM ∧ ((G.P.info? e).map (·.bytes)).getD 4097 ≤ 4096 ∧ (ofValue z).pureB ∧ okCells (ofValue z) ∧ 0 < G.P.cellsOf e ∧ (ofValue z).cells.length = G.P.cellsOf e then newObj d (.row (G.P.cellsOf e) (List.replicate n.toNat (ofValue z)) false false) .own st else none
      | _, _ => none
  | .call c =>
    match c.callee, c.args.toList, c.argTypes.toList with
    | .builtin .append, [s, x], [t, xt] => o.dst.bind fun d => appendA G d t xt (st.ev s) (st.ev x) st
    | _, _, _ => (opv G.P st.ev st.hp o.op).map fun v => .val v st
  | .slice t x lo hi mx =>
    match cutA st.hp (st.ev x) (lo.map st.ev) (hi.map st.ev) (mx.map st.ev) with
    | some q => if (elemOf? G.P t).map (G.P.cellsOf ·) = some q.2 then some (.val (.own q.1) (st.cut q)) else none
    | none => (opv G.P st.ev st.hp o.op).map fun v => .val v st
  | op => (opv G.P st.ev st.hp op).map fun v => .val v st

/-- The function value that is called, and its arguments. -/
def calledA : Op → Option (Operand × List Operand)
  | .call c => match c.callee with | .value f => some (f, c.args.toList) | _ => none
  | _ => none
def extA (G : Cfg) (fv : AV) (args : List AV) : Option AV :=
  match fv with
  | .fn (.func g) first caps => (G.ext g).bind fun p => p (first ++ args ++ caps)
  | _ => none
def aop (G : Cfg) (call : CallFn) (o : Oper) (st : ASt) : Option AR :=
  match calledA o.op with
  | some (f, l) => (match extA G (st.ev f) (l.map st.ev) with
    | some v => some (.val v st)
    | none => callA G call o.dst (st.ev f) (l.map st.ev) st)
  | none => aopB G o st

/-- A guard: the named operation's answer. -/
def guardA (ops : Array Oper) (st : ASt) (o : Oper) : Option Bool :=
  match o.guard with
  | none => some true
  | some (j, want) =>
    match (ops[j]?).bind (·.dst) with
    | some d => (match st.slot d with | .bool b => some (b == want) | .tup [] => some false | _ => none)
    | none => none

mutual
def AV.beq : AV → AV → Bool
  | .undef, .undef => true
  | .bool a, .bool b => a == b
  | .int k a, .int l b => decide (k = l) && a == b
  | .str a, .str b => a == b
  | .nilp, .nilp => true
  | .nils, .nils => true
  | .nilf, .nilf => true
  | .nili, .nili => true
  | .list s a, .list t b => s == t && AV.beqL a b
  | .ep v o, .ep u p => AV.beq v u && o == p
  | .own a, .own b => a == b
  | .row a b c, .row d e f => a == d && b == e && c == f
  | .ptr a b c, .ptr d e f => a == d && b == e && c == f
  | .agg a, .agg b => AV.beqL a b
  | .tup a, .tup b => AV.beqL a b
  | .iface t a, .iface u b => t == u && AV.beq a b
  | .fn (.func f) a b, .fn (.func g) c d => f == g && AV.beqL a c && AV.beqL b d
  | .yld a, .yld b => a == b
  | _, _ => false
def AV.beqL : List AV → List AV → Bool
  | [], [] => true
  | a :: x, b :: y => AV.beq a b && AV.beqL x y
  | _, _ => false
end

/-- What an operation that only reads yields, or one that is not wanted. -/
def bsv (G : Cfg) (st : ASt) (t : TypeId) (len : Nat) (parts : Array (Nat × Operand)) : Option AV :=
  (elemOf? G.P t).bind fun e =>
    let vs := parts.toList.map fun p => st.ev p.2
    if parts.toList.map (·.1) = List.range len ∧ ((G.P.info? e).bind (·.zero)).isSome = true ∧ AV.pureL vs = true ∧ (vs.all fun y => okCells y && y.cells.length == G.P.cellsOf e) = true ∧ 0 < G.P.cellsOf e ∧ len * G.P.cellsOf e ≤ 16777216 then some (.list (G.P.cellsOf e) vs) else none
/-- What an operation that only reads, or lays a literal of plain things, yields. -/
def nopv (G : Cfg) (st : ASt) : Op → Option AV
  | .buildSlice t len parts => bsv G st t len parts
  | op => opv G.P st.ev st.hp op
def nval (G : Cfg) (ops : Array Oper) (st : ASt) (o : Oper) : Option AV :=
  (guardA ops st o).bind fun g => if g then nopv G st o.op else some (.tup [])
def stepE (G : Cfg) (call : CallFn) (ops : Array Oper) (st : ASt) (o : Oper) : Option AR :=
  (guardA ops st o).bind fun g => if g then aop G call o st else some (.val (.tup []) st)
def again (G : Cfg) (ops : Array Oper) (s : ASt) (i : Nat) : Bool :=
  match ops[i]? with
  | some o => (match nval G ops s o, o.dst with | some v, some d => AV.beq v (s.slot d) | _, _ => false)
  | none => false
def runPlan (G : Cfg) (call : CallFn) (ops : Array Oper) : List PS → ASt → Option ASt
  | [], st => some st
  | .n i :: r, st => (ops[i]?).bind fun o => (nval G ops st o).bind fun v => runPlan G call ops r (st.put o.dst v)
  | .e j re :: r, st => (ops[j]?).bind fun o => (stepE G call ops st o).bind fun
    | .val v s => if re.all (again G ops (s.put o.dst v)) then runPlan G call ops r (s.put o.dst v) else none
    | .pan _ _ => none

def aops (G : Cfg) (call : CallFn) (ops : Array Oper) : List Nat → ASt → Option (AX × ASt)
  | [], st => some (.normal, st)
  | i :: r, st =>
    match ops[i]? with
    | none => aops G call ops r st
    | some o =>
      (guardA ops st o).bind fun g =>
        if g then
          (aop G call o st).bind fun
            | .val v s => aops G call ops r (s.put o.dst v)
            | .pan v s => some (.pan v, s)
        else aops G call ops r (st.put o.dst (.tup []))

def firstRegion : Code → Nat
  | .region id _ _ => id
  | .seq a _ => firstRegion a
  | .block _ b => firstRegion b
  | .scope b => firstRegion b
  | .loop b => firstRegion b
  | _ => 100000

/-- A place that holds a row that grows: it gets its own name. -/
def ownStep (cn sz : Nat) (v : AV) (st : ASt) : Option (Nat × ASt) :=
  match v with
  | .nils => if (aget st.hp cn).isSome then none else some (cn, { st with hp := (cn, .row sz [] false false) :: st.hp })
  | .own m =>
    if m = cn ∨ m < 1000 then some (m, st) else
    if (aget st.hp cn).isSome then none else
    (aget st.hp m).bind fun
      | .row sz es fx mv => some (cn, let s := st.killn m; { s with hp := (cn, .row sz es fx mv) :: (s.hp.filter fun p => p.1 != m) })
      | _ => none
  | _ => none

def canonSlot (s : Nat × Option Nat) (st : ASt) : Option ASt :=
  match s.2 with
  | some sz => (ownStep (5000 + s.1) sz (st.slot s.1) st).map fun p => { p.2 with sl := (s.1, .own p.1) :: p.2.sl }
  | none => some (let v := st.slot s.1; { (st.fix v.rows) with sl := (s.1, v.rv st.hp) :: st.sl })

def canonCell (n j sz : Nat) (st : ASt) : Option ASt :=
  (aget st.hp n).bind fun
    | .box v => (v.cells[j]?).bind fun c => (ownStep (100000 + n * 100 + j) sz c st).bind fun p =>
      (aget p.2.hp n).bind fun
        | .box w => some { p.2 with hp := hput n (.box (reCell w (w.cells.set j (.own p.1)))) p.2.hp }
        | _ => none
    | _ => none

def canonAll {α : Type} (f : α → ASt → Option ASt) : List α → ASt → Option ASt
  | [], st => some st
  | x :: r, st => (f x st).bind (canonAll f r)

/-- The rows of a box's other cells as lists. -/
def pureCells (hp : Heap) (own : List Nat) : List AV → Nat → List AV
  | [], _ => []
  | c :: r, j => (if j ∈ own then c else c.rv hp) :: pureCells hp own r (j + 1)
def pureRows (own : List Nat) : List AV → Nat → List Nat
  | [], _ => []
  | c :: r, j => (if j ∈ own then [] else c.rows) ++ pureRows own r (j + 1)
def canonBox (b : Nat × List (Nat × Nat)) (st : ASt) : Option ASt :=
  let own := b.2.map (·.1)
  match aget st.hp b.1 with
  | some (.box v) => some { (st.fix (pureRows own v.cells 0)) with hp := hput b.1 (.box (reCell v (pureCells st.hp own v.cells 0))) (hfix (pureRows own v.cells 0) st.hp) }
  | _ => none

/-- Only what is kept is left. -/
def restrictTo (slots names : List Nat) (st : ASt) : ASt :=
  { sl := slots.map fun t => (t, (st.slot t).ren (names.map fun n => (n, n))), hp := names.filterMap fun n => (aget st.hp n).map fun o => (n, o.ren (names.map fun n => (n, n))) }

def canon (G : Cfg) (f : FuncId) (c : Code) (st : ASt) : Option ASt :=
  (G.keep f (firstRegion c)).bind fun K =>
    (canonAll (fun p s => canonAll (fun (j : Nat × Nat) s => canonCell p.1 j.1 j.2 s) p.2 s) K.boxes st).bind fun st1 =>
    (canonAll canonSlot K.slots st1).bind fun st2 =>
    (canonAll canonBox K.boxes st2).bind fun st3 =>
      let names := reachL 60 st3.hp ((List.range 12) ++ K.boxes.map (·.1) ++ AV.namesL (K.slots.map fun s => st3.slot s.1)) []
      some (restrictTo (K.slots.map (·.1)) (names.filter fun n => (aget st3.hp n).isSome) st3)

def isFn : AV → Bool
  | .fn (.func _) _ _ => true
  | _ => false
/-- How a round is left; and what the loop does next. -/
def jumpOf : AX → Option (Option Code)
  | .normal => some none
  | .exit id => some (some (.exit id))
  | .ret => some (some .ret)
  | .pan _ => none
def jumpX : Option Code → Option AX
  | none => some .normal
  | some (.exit id) => some (.exit id)
  | some .ret => some .ret
  | _ => none

/-- Only the slots that are looked at later are kept. -/
def ASt.trim (st : ASt) (L : Option (List Nat)) : ASt :=
  match L with
  | some l => { st with sl := l.map fun t => (t, st.slot t) }
  | none => st
/-- May this region's operations be done in whatever order the edges let? (Told in a text of its own: here: none that draws.) -/
def codeX (G : Cfg) (call : CallFn) (loop : LoopFn) (f : FuncId) : Code → ASt → Option (AX × ASt)
  | .skip, st => some (.normal, st)
  | .label _, st => some (.normal, st)
  | .region id ops draw, st => (if draw then ((G.plan f id).bind fun p => runPlan G call ops p st).map fun s => (.normal, s) else aops G call ops (List.range ops.size) st).map fun y => (y.1, y.2.trim (G.live f id))
  | .seq a b, st =>
    (codeX G call loop f a st).bind fun
      | (.normal, s) => codeX G call loop f b s
      | r => some r
  | .cond c a b, st =>
    match st.ev c with
    | .bool t => if t then codeX G call loop f a st else codeX G call loop f b st
    | _ => none
  | .block id b, st =>
    (codeX G call loop f b st).bind fun
      | (.exit i, s) => some (if i = id then .normal else .exit i, s)
      | r => some r
  | .loop b, st => (canon G f b st).bind (loop f b)
  | .exit id, st => some (.exit id, st)
  | .ret, st => some (.ret, st)
  | .rangeFunc g ps asg body, st =>
    if (aget st.hp (20000 + firstRegion body)).isSome || !G.roundOK ⟨f, G.ntm f, ps, asg, body, .ready, none⟩ || !isFn (st.ev g) then none else
    (callB G call (some (30000 + firstRegion body)) (st.ev g) [.yld (20000 + firstRegion body)] { st with hp := (20000 + firstRegion body, .loop ⟨f, G.ntm f, ps, asg, body, .ready, none⟩ st.sl) :: st.hp }).bind fun y =>
      match y.1 with
      | .pan v s => some (.pan v, s)
      | .val _ s =>
        if y.2.contains (20000 + firstRegion body) then none else
        match aget s.hp (20000 + firstRegion body) with
        | some (.loop r sl) =>
          if r.state = .busy then none else
          (jumpX r.pending).map fun x => (x, { s with hp := hput (20000 + firstRegion body) (.loop { r with state := .exhausted } sl) s.hp })
        | _ => none
  | _, _ => none

def loopStep (G : Cfg) (call : CallFn) (loop : LoopFn) (f : FuncId) (c : Code) (st : ASt) : Option (AX × ASt) :=
  (codeX G call loop f c st).bind fun
    | (.normal, s) => (canon G f c s).bind (loop f c)
    | r => some r

def resv (G : Cfg) (st : ASt) : ResultVar → Option AV
  | .tmp t => some (st.slot t)
  | .cell a t => match st.slot a with
    | .ptr id i o => (aget st.hp id).bind fun ob => (objCells ob i).bind fun cs => partT G.P t cs o
    | .ep v o => partT G.P t v.cells o
    | _ => none
def resL (G : Cfg) (st : ASt) : List ResultVar → Option (List AV)
  | [] => some []
  | r :: l => (resv G st r).bind fun v => (resL G st l).map fun vs => v :: vs
def resOf : List AV → AV
  | [v] => v
  | vs => .tup vs

/-- What is told behind a call: what it was handed, and what the answer leads to. -/
def idMap (ns : List Nat) : List (Nat × Nat) := ns.map fun n => (n, n)
def onlyHeap (ns : List Nat) (hp : Heap) : Heap := ns.filterMap fun n => (aget hp n).map fun o => (n, o.ren (idMap ns))
def outOf (m : List Nat) (hp : Heap) (v : AV) : AV × Heap :=
  let ns := reachL 60 hp (m ++ v.names) []
  (v.ren (idMap ns), onlyHeap ns hp)
def finishA (G : Cfg) (g : FuncId) (m : List Nat) (v : AV) (st : ASt) : AV × Heap :=
  if G.retOwn g then outOf m st.hp v else outOf m (hfix v.rows st.hp) (v.rv st.hp)
def retA (r : AV × Heap) : ARes × Heap := (.ret r.1, r.2)
def panA (r : AV × Heap) : ARes × Heap := (.pan r.1, r.2)

def runBody (G : Cfg) (call : CallFn) (loop : LoopFn) (g : FuncId) (args : List AV) (hp : Heap) : Option (ARes × Heap) :=
  (G.P.funcs[g]?).bind fun fn => fn.body.bind fun c =>
    (codeX G call loop g c { sl := zipIx args 0, hp }).bind fun
      | (.normal, s) => (resL G s fn.results.toList).map fun vs => retA (finishA G g (hp.map (·.1)) (resOf vs) s)
      | (.ret, s) => (resL G s fn.results.toList).map fun vs => retA (finishA G g (hp.map (·.1)) (resOf vs) s)
      | (.pan v, s) => some (panA (outOf (hp.map (·.1)) (hfix v.rows s.hp) (v.rv s.hp)))
      | _ => none

/-- A round of a loop over a function. -/
def runRound (G : Cfg) (call : CallFn) (loop : LoopFn) (L : Nat) (args : List AV) (hp : Heap) : Option (ARes × Heap) :=
  match aget hp L with
  | some (.loop r sl) =>
    if r.state = .ready ∧ args.length = r.ps.size ∧ G.roundOK { r with state := .ready, pending := none } = true then
      (codeX G call loop r.g r.assign { sl := (r.ps.toList.zip args).reverse ++ sl, hp }).bind fun y =>
        match y.1 with
        | .normal => (match aget y.2.hp L with
          | some (.loop r1 sl1) => if r1.state = .ready then
              (codeX G call loop r.g r.body { y.2 with hp := hput L (.loop { r1 with state := .busy } sl1) y.2.hp }).bind fun z =>
                (jumpOf z.1).bind fun j =>
                  match aget z.2.hp L with
                  | some (.loop r2 sl2) => some (retA (outOf (hp.map (·.1)) (hput L (.loop { r2 with state := if j.isNone then .ready else .done, pending := j } sl2) z.2.hp) (.bool j.isNone)))
                  | _ => none
            else none
          | _ => none)
        | _ => none
    else none
  | _ => none

/-! Functions that defer one closure. -/
def splitD : Code → Option (Code × Array Oper × Operand × Code)
  | .seq A (.seq (.region _ ops false) rest) =>
    match ops[ops.size - 1]? with
    | some o => match o.op, o.guard, o.dst with
      | .defer c, none, none => match c.callee, c.args.toList with
        | .value f, [] => some (A, ops, f, rest)
        | _, _ => none
      | _, _, _ => none
    | none => none
  | _ => none
def renHeap (ns : List Nat) (hp : Heap) : Heap := (zipIx ns 0).filterMap fun p => (aget hp p.2).map fun o => (p.1, o.ren (toMap ns))
def isBoxAt (hp : Heap) (n : Nat) : Bool :=
  match aget hp n with
  | some (.box _) => true
  | _ => false
def isRecover : Op → Bool
  | .call c => match c.callee, c.args.toList with
    | .builtin .recover, [] => true
    | _, _ => false
  | _ => false
/-- Operations without calls. -/
def aopsB (G : Cfg) (ops : Array Oper) : List Nat → ASt → Option ASt
  | [], st => some st
  | i :: r, st => (ops[i]?).bind fun o => (guardA ops st o).bind fun g =>
    if g then (if (calledA o.op).isSome then none else aopB G o st).bind fun
      | .val v s => aopsB G ops r (s.put o.dst v)
      | .pan _ _ => none
    else aopsB G ops r (st.put o.dst (.tup []))
/-- Straight code. -/
def codeB (G : Cfg) : Code → ASt → Option ASt
  | .skip, st => some st
  | .region _ ops draw, st => if draw then none else aopsB G ops (List.range ops.size) st
  | .seq a b, st => (codeB G a st).bind (codeB G b)
  | .cond c a b, st => match st.ev c with
    | .bool t => if t then codeB G a st else codeB G b st
    | _ => none
  | _, _ => none
/-- The deferred closure: what recover yields is told. -/
def runClosure (G : Cfg) (rv : AV) (h : FuncId) (args : List AV) (hp : Heap) : Option (ARes × Heap) :=
  (G.P.funcs[h]?).bind fun fn => fn.body.bind fun c =>
    match c with
    | .seq (.region _ ops false) rest =>
      (ops[0]?).bind fun o =>
        if isRecover o.op && o.guard.isNone && fn.results.isEmpty then
          (aopsB G ops (List.range' 1 (ops.size - 1)) (({ sl := zipIx args 0, hp } : ASt).put o.dst rv)).bind fun s1 =>
          (codeB G rest s1).map fun s => retA (outOf (hp.map (·.1)) s.hp (.tup []))
        else none
    | _ => none
/-- What recover yields behind it. -/
def recOf : AX → Option AV
  | .normal => some .nili
  | .ret => some .nili
  | .pan v => if v.pureB then some v else none
  | .exit _ => none
def runBodyD (G : Cfg) (call : CallFn) (loop : LoopFn) (g : FuncId) (args : List AV) (hp : Heap) : Option (ARes × Heap) :=
  (G.P.funcs[g]?).bind fun fn => (fn.body.bind splitD).bind fun q =>
    (codeX G call loop g q.1 { sl := zipIx args 0, hp }).bind fun y0 =>
      match y0.1 with
      | .normal => (aops G call q.2.1 (List.range (q.2.1.size - 1)) y0.2).bind fun y1 =>
        match y1.1 with
        | .normal =>
          let ns := reachL 60 y1.2.hp (hp.map (·.1) ++ AV.namesL (y1.2.sl.map (·.2))) []
          if (ns.all fun n => (aget y1.2.hp n).isSome) && isFn (y1.2.ev q.2.2.1) && ((hp.map (·.1)).all fun n => ns[n]? == some n) && (ns.all fun n => !((aget y1.2.hp n).map AObj.moved).getD false) then
            (codeX G call loop g q.2.2.2 { sl := y1.2.sl.map fun p => (p.1, p.2.ren (toMap ns)), hp := renHeap ns y1.2.hp }).bind fun y2 =>
            if !(((y1.2.ev q.2.2.1).ren (toMap ns)).names.all fun n => isBoxAt y2.2.hp n) then none else
            (recOf y2.1).bind fun rv =>
            (callB G (runClosure G rv) (some 40000) ((y1.2.ev q.2.2.1).ren (toMap ns)) [] y2.2).bind fun z =>
              match z.1 with
              | .val _ s4 => (resL G s4 fn.results.toList).map fun vs => retA (finishA G g (hp.map (·.1)) (resOf vs) s4)
              | .pan _ _ => none
          else none
        | _ => none
      | _ => none
def runFn (G : Cfg) (call : CallFn) (loop : LoopFn) (g : FuncId) (args : List AV) (hp : Heap) : Option (ARes × Heap) :=
  if G.dfr g then runBodyD G call loop g args hp else runBody G call loop g args hp

/-- A step down: calls, and loops, of at most so many rounds. `prim`: functions whose answer is told by hand. -/
def both (G : Cfg) (prim : FuncId → Option CallFn) : Nat → CallFn × LoopFn
  | 0 => (fun _ _ _ => none, fun _ _ _ => none)
  | k + 1 => (fun g args hp => if g < RB then (match prim g with | some p => p g args hp | none => runFn G (both G prim k).1 (both G prim k).2 g args hp) else runRound G (both G prim k).1 (both G prim k).2 (g - RB) args hp,
              fun f c st => loopStep G (both G prim k).1 (both G prim k).2 f c st)

/-- From some number on it is so. -/
def Ev {α : Type} (g : Nat → Option α) (y : α) : Prop := ∃ K, ∀ k, K ≤ k → g k = some y
theorem Ev.det {α : Type} {g : Nat → Option α} {y z : α} (h : Ev g y) (k : Ev g z) : y = z := by
  obtain ⟨K, h⟩ := h; obtain ⟨L, k⟩ := k
  have a := h (max K L) (by omega); have b := k (max K L) (by omega)
  exact Option.some.inj (a.symm.trans b)
theorem Ev.now {α : Type} (y : α) : Ev (fun _ => some y) y := ⟨0, fun _ _ => rfl⟩
theorem Ev.bind {α β : Type} {g : Nat → Option α} {f : Nat → α → Option β} {a : α} {b : β} (h : Ev g a) (k : Ev (fun n => f n a) b) : Ev (fun n => (g n).bind (f n)) b := by
  obtain ⟨K, h⟩ := h; obtain ⟨L, k⟩ := k
  exact ⟨max K L, fun n hn => by simp only [h n (by omega), Option.bind_some]; exact k n (by omega)⟩
theorem Ev.step {α : Type} {g : Nat → Option α} {y : α} (h : Ev (fun k => g (k + 1)) y) : Ev g y := by
  obtain ⟨K, h⟩ := h
  exact ⟨K + 1, fun k hk => by obtain ⟨j, rfl⟩ : ∃ j, k = j + 1 := ⟨k - 1, by omega⟩; exact h j (by omega)⟩

noncomputable def limit {α : Type} (g : Nat → Option α) : Option α := by
  classical exact if h : ∃ y, Ev g y then some h.choose else none
theorem limit_of {α : Type} {g : Nat → Option α} {y : α} (h : Ev g y) : limit g = some y := by
  unfold limit
  rw [dif_pos ⟨y, h⟩]
  exact congrArg some (Ev.det (Exists.choose_spec (⟨y, h⟩ : ∃ y, Ev g y)) h)
theorem of_limit {α : Type} {g : Nat → Option α} {y : α} (h : limit g = some y) : Ev g y := by
  unfold limit at h
  split at h
  · rename_i hx
    rw [← Option.some.inj h]; exact hx.choose_spec
  · cases h

section
variable (G : Cfg) (prim : FuncId → Option CallFn)
noncomputable def callL : CallFn := fun g args hp => limit fun k => (both G prim k).1 g args hp
noncomputable def loopL : LoopFn := fun f c st => limit fun k => (both G prim k).2 f c st
end

variable {G : Cfg} {prim : FuncId → Option CallFn}
abbrev cK (G : Cfg) (prim : FuncId → Option CallFn) (k : Nat) : CallFn := (both G prim k).1
abbrev lK (G : Cfg) (prim : FuncId → Option CallFn) (k : Nat) : LoopFn := (both G prim k).2

theorem callB_evG {cf : CallFn} {ck : Nat → CallFn} (hc : ∀ g args hp r, cf g args hp = some r → Ev (fun k => ck k g args hp) r) {d : Option Nat} {fv : AV} {args : List AV} {st : ASt} {r : AR × List Nat} (h : callB G cf d fv args st = some r) :
    Ev (fun k => callB G (ck k) d fv args st) r := by
  unfold callB at h ⊢
  split at h
  · dsimp only at h ⊢
    split at h
    · rename_i hc'
      simp only [hc', if_true]
      rw [Option.bind_eq_some_iff] at h
      obtain ⟨y, hy, h⟩ := h
      exact Ev.bind (hc _ _ _ _ hy) ⟨0, fun _ _ => h⟩
    · cases h
  · dsimp only at h ⊢
    split at h
    · rename_i hc'
      simp only [hc', if_true]
      rw [Option.bind_eq_some_iff] at h
      obtain ⟨j, hj, h⟩ := h
      rw [Option.bind_eq_some_iff] at h
      obtain ⟨y, hy, h⟩ := h
      exact Ev.bind ⟨0, fun _ _ => hj⟩ (Ev.bind (hc _ _ _ _ hy) ⟨0, fun _ _ => h⟩)
    · cases h
  · cases h
theorem callB_ev {d : Option Nat} {fv : AV} {args : List AV} {st : ASt} {r : AR × List Nat} (h : callB G (callL G prim) d fv args st = some r) :
    Ev (fun k => callB G (cK G prim k) d fv args st) r := callB_evG (fun _ _ _ _ h => of_limit h) h
theorem Ev.map {α β : Type} {g : Nat → Option α} {y : α} (h : Ev g y) (f : α → β) : Ev (fun k => (g k).map f) (f y) := by
  obtain ⟨K, hK⟩ := h
  exact ⟨K, fun k hk => by simp only [hK k hk, Option.map_some]⟩
theorem callA_ev {d : Option Nat} {fv : AV} {args : List AV} {st : ASt} {r : AR} (h : callA G (callL G prim) d fv args st = some r) :
    Ev (fun k => callA G (cK G prim k) d fv args st) r := by
  unfold callA at h ⊢
  obtain ⟨y, hy, rfl⟩ := Option.map_eq_some_iff.1 h
  exact (callB_ev hy).map _

theorem aop_ev {o : Oper} {st : ASt} {r : AR} (h : aop G (callL G prim) o st = some r) : Ev (fun k => aop G (cK G prim k) o st) r := by
  unfold aop at h ⊢
  split at h
  · split at h
    · exact ⟨0, fun _ _ => h⟩
    · exact callA_ev h
  · exact ⟨0, fun _ _ => h⟩

theorem aops_ev {ops : Array Oper} (l : List Nat) : ∀ {st : ASt} {r : AX × ASt}, aops G (callL G prim) ops l st = some r → Ev (fun k => aops G (cK G prim k) ops l st) r := by
  induction l with
  | nil => intro st r h; exact ⟨0, fun _ _ => h⟩
  | cons i l ih =>
    intro st r h
    simp only [aops] at h ⊢
    cases ho : ops[i]? with
    | none => simp only [ho] at h ⊢; exact ih h
    | some o =>
      simp only [ho] at h ⊢
      rw [Option.bind_eq_some_iff] at h
      obtain ⟨g, hg, h⟩ := h
      refine Ev.bind ⟨0, fun _ _ => hg⟩ ?_
      cases g with
      | false => simp only [Bool.false_eq_true, if_false] at h ⊢; exact ih h
      | true =>
        simp only [if_true] at h ⊢
        rw [Option.bind_eq_some_iff] at h
        obtain ⟨a, ha, h⟩ := h
        refine Ev.bind (aop_ev ha) ?_
        cases a with
        | val v s => exact ih h
        | pan v s => exact ⟨0, fun _ _ => h⟩

theorem runPlan_ev {ops : Array Oper} (l : List PS) : ∀ {st r : ASt}, runPlan G (callL G prim) ops l st = some r → Ev (fun k => runPlan G (cK G prim k) ops l st) r := by
  induction l with
  | nil => intro st r h; exact ⟨0, fun _ _ => h⟩
  | cons x l ih =>
    intro st r h
    cases x with
    | n i =>
      simp only [runPlan] at h ⊢
      rw [Option.bind_eq_some_iff] at h
      obtain ⟨o, ho, h⟩ := h
      rw [Option.bind_eq_some_iff] at h
      obtain ⟨v, hv, h⟩ := h
      exact Ev.bind ⟨0, fun _ _ => ho⟩ (Ev.bind ⟨0, fun _ _ => hv⟩ (ih h))
    | e j re =>
      simp only [runPlan] at h ⊢
      rw [Option.bind_eq_some_iff] at h
      obtain ⟨o, ho, h⟩ := h
      rw [Option.bind_eq_some_iff] at h
      obtain ⟨a, ha, h⟩ := h
      refine Ev.bind ⟨0, fun _ _ => ho⟩ (Ev.bind (a := a) ?_ ?_)
      · unfold stepE at ha ⊢
        rw [Option.bind_eq_some_iff] at ha
        obtain ⟨g, hg, ha⟩ := ha
        refine Ev.bind ⟨0, fun _ _ => hg⟩ ?_
        cases g with
        | true => simp only [if_true] at ha ⊢; exact aop_ev ha
        | false => simp only [Bool.false_eq_true, if_false] at ha ⊢; exact ⟨0, fun _ _ => ha⟩
      · cases a with
        | pan v s => cases h
        | val v s =>
          simp only at h ⊢
          split at h
          · rename_i hc; simp only [hc, if_true]; exact ih h
          · cases h

theorem codeX_ev {f : FuncId} (c : Code) : ∀ {st : ASt} {r : AX × ASt}, codeX G (callL G prim) (loopL G prim) f c st = some r →
    Ev (fun k => codeX G (cK G prim k) (lK G prim k) f c st) r := by
  induction c with
  | skip => intro st r h; exact ⟨0, fun _ _ => h⟩
  | label l => intro st r h; exact ⟨0, fun _ _ => h⟩
  | exit id => intro st r h; exact ⟨0, fun _ _ => h⟩
  | ret => intro st r h; exact ⟨0, fun _ _ => h⟩
  | scope b _ => intro st r h; exact ⟨0, fun _ _ => h⟩
  | goto l => intro st r h; exact ⟨0, fun _ _ => h⟩
  | refuse w => intro st r h; exact ⟨0, fun _ _ => h⟩
  | rangeFunc g ps a b _ _ =>
    intro st r h
    simp only [codeX] at h ⊢
    split at h
    · cases h
    · rename_i hc
      simp only [if_neg hc]
      rw [Option.bind_eq_some_iff] at h
      obtain ⟨y, hy, h⟩ := h
      exact Ev.bind (callB_ev hy) ⟨0, fun _ _ => h⟩
  | region id ops draw =>
    intro st r h
    simp only [codeX] at h ⊢
    obtain ⟨y, h1, rfl⟩ := Option.map_eq_some_iff.1 h
    clear h
    refine Ev.map ?_ _
    split at h1
    · rename_i hd
      simp only [hd, if_true]
      obtain ⟨s, hs, rfl⟩ := Option.map_eq_some_iff.1 h1
      rw [Option.bind_eq_some_iff] at hs
      obtain ⟨p, hp, hs⟩ := hs
      have := Ev.bind (f := fun k (p : List PS) => runPlan G (cK G prim k) ops p st) ⟨0, fun _ _ => hp⟩ (runPlan_ev p hs)
      obtain ⟨K, hK⟩ := this
      exact ⟨K, fun k hk => congrArg (Option.map fun s => (AX.normal, s)) (hK k hk)⟩
    · rename_i hd; simp only [if_neg hd]; exact aops_ev _ h1
  | seq a b iha ihb =>
    intro st r h
    simp only [codeX] at h ⊢
    rw [Option.bind_eq_some_iff] at h
    obtain ⟨⟨x, s⟩, h1, h2⟩ := h
    refine Ev.bind (iha h1) ?_
    cases x with
    | normal => exact ihb h2
    | exit i => exact ⟨0, fun _ _ => h2⟩
    | ret => exact ⟨0, fun _ _ => h2⟩
    | pan v => exact ⟨0, fun _ _ => h2⟩
  | cond c a b iha ihb =>
    intro st r h
    cases hc : st.ev c with
    | bool t =>
      simp only [codeX, hc] at h ⊢
      cases t with
      | true => simp only [if_true] at h ⊢; exact iha h
      | false => simp only [Bool.false_eq_true, if_false] at h ⊢; exact ihb h
    | _ => simp [codeX, hc] at h
  | block id b ih =>
    intro st r h
    simp only [codeX] at h ⊢
    rw [Option.bind_eq_some_iff] at h
    obtain ⟨⟨x, s⟩, h1, h2⟩ := h
    exact Ev.bind (ih h1) ⟨0, fun _ _ => h2⟩
  | loop b _ =>
    intro st r h
    simp only [codeX] at h ⊢
    rw [Option.bind_eq_some_iff] at h
    obtain ⟨s, h1, h2⟩ := h
    exact Ev.bind ⟨0, fun _ _ => h1⟩ (of_limit h2)

theorem runBody_ev {g : FuncId} {args : List AV} {hp : Heap} {r : ARes × Heap} (h : runBody G (callL G prim) (loopL G prim) g args hp = some r) :
    Ev (fun k => runBody G (cK G prim k) (lK G prim k) g args hp) r := by
  unfold runBody at h ⊢
  rw [Option.bind_eq_some_iff] at h
  obtain ⟨fn, h1, h⟩ := h
  refine Ev.bind ⟨0, fun _ _ => h1⟩ ?_
  rw [Option.bind_eq_some_iff] at h
  obtain ⟨c, h2, h⟩ := h
  refine Ev.bind ⟨0, fun _ _ => h2⟩ ?_
  rw [Option.bind_eq_some_iff] at h
  obtain ⟨y, h3, h⟩ := h
  exact Ev.bind (codeX_ev c h3) ⟨0, fun _ _ => h⟩

theorem runRound_ev {L : Nat} {args : List AV} {hp : Heap} {r : ARes × Heap} (h : runRound G (callL G prim) (loopL G prim) L args hp = some r) :
    Ev (fun k => runRound G (cK G prim k) (lK G prim k) L args hp) r := by
  unfold runRound at h ⊢
  split at h
  · rename_i r0 sl h0
    simp only [h0]
    split at h
    · rename_i hc
      simp only [if_pos hc]
      rw [Option.bind_eq_some_iff] at h
      obtain ⟨⟨y1, y2⟩, hy, h⟩ := h
      refine Ev.bind (codeX_ev _ hy) ?_
      cases y1 with
      | normal =>
        simp only at h ⊢
        cases h1 : aget y2.hp L with
        | none => rw [h1] at h; cases h
        | some o =>
          rw [h1] at h
          cases o with
          | loop r1 sl1 =>
            simp only at h ⊢
            split at h
            · rename_i hc1
              simp only [if_pos hc1]
              rw [Option.bind_eq_some_iff] at h
              obtain ⟨z, hz, h⟩ := h
              exact Ev.bind (codeX_ev _ hz) ⟨0, fun _ _ => h⟩
            · cases h
          | _ => cases h
      | _ => cases h
    · cases h
  · cases h

theorem runBodyD_ev {g : FuncId} {args : List AV} {hp : Heap} {r : ARes × Heap} (h : runBodyD G (callL G prim) (loopL G prim) g args hp = some r) :
    Ev (fun k => runBodyD G (cK G prim k) (lK G prim k) g args hp) r := by
  unfold runBodyD at h ⊢
  rw [Option.bind_eq_some_iff] at h; obtain ⟨fn, h1, h⟩ := h
  refine Ev.bind ⟨0, fun _ _ => h1⟩ ?_
  rw [Option.bind_eq_some_iff] at h; obtain ⟨q, h2, h⟩ := h
  refine Ev.bind ⟨0, fun _ _ => h2⟩ ?_
  rw [Option.bind_eq_some_iff] at h; obtain ⟨⟨x0, s0⟩, h3, h⟩ := h
  refine Ev.bind (codeX_ev _ h3) ?_
  cases x0 with
  | normal =>
    simp only at h ⊢
    rw [Option.bind_eq_some_iff] at h; obtain ⟨⟨x1, s1⟩, h4, h⟩ := h
    refine Ev.bind (aops_ev _ h4) ?_
    cases x1 with
    | normal =>
      simp only at h ⊢
      split at h
      · rename_i hc
        simp only [if_pos hc]
        rw [Option.bind_eq_some_iff] at h; obtain ⟨y2, h5, h⟩ := h
        refine Ev.bind (codeX_ev _ h5) ?_
        split at h
        · cases h
        rename_i hbx
        simp only [if_neg hbx]
        rw [Option.bind_eq_some_iff] at h; obtain ⟨rv, h6, h⟩ := h
        refine Ev.bind ⟨0, fun _ _ => h6⟩ ?_
        rw [Option.bind_eq_some_iff] at h; obtain ⟨z, h7, h⟩ := h
        exact Ev.bind ⟨0, fun _ _ => h7⟩ ⟨0, fun _ _ => h⟩
      · cases h
    | _ => cases h
  | _ => cases h
theorem runFn_ev {g : FuncId} {args : List AV} {hp : Heap} {r : ARes × Heap} (h : runFn G (callL G prim) (loopL G prim) g args hp = some r) :
    Ev (fun k => runFn G (cK G prim k) (lK G prim k) g args hp) r := by
  unfold runFn at h ⊢
  split at h
  · rename_i hd; simp only [if_pos hd]; exact runBodyD_ev h
  · rename_i hd; simp only [if_neg hd]; exact runBody_ev h

/-- WHAT A BODY COMES TO, ITS CALL COMES TO. -/
theorem call_intro {g : FuncId} {args : List AV} {hp : Heap} {r : ARes × Heap} (hg : g < RB) (hp0 : prim g = none)
    (h : runFn G (callL G prim) (loopL G prim) g args hp = some r) : callL G prim g args hp = some r := by
  refine limit_of (Ev.step ?_)
  simp only [both, if_pos hg, hp0]
  exact runFn_ev h
theorem call_prim {g : FuncId} {args : List AV} {hp : Heap} {p : CallFn} {r : ARes × Heap} (hg : g < RB) (hp0 : prim g = some p) (h : p g args hp = some r) : callL G prim g args hp = some r := by
  refine limit_of (Ev.step ?_)
  simp only [both, if_pos hg, hp0]
  exact ⟨0, fun _ _ => h⟩
theorem round_intro {L : Nat} {args : List AV} {hp : Heap} {r : ARes × Heap} (h : runRound G (callL G prim) (loopL G prim) L args hp = some r) : callL G prim (RB + L) args hp = some r := by
  refine limit_of (Ev.step ?_)
  simp only [both, if_neg (show ¬ RB + L < RB by omega), Nat.add_sub_cancel_left]
  exact runRound_ev h
/-- One round, and on. -/
theorem loop_intro {f : FuncId} {c : Code} {st : ASt} {r : AX × ASt} (h : loopStep G (callL G prim) (loopL G prim) f c st = some r) : loopL G prim f c st = some r := by
  refine limit_of (Ev.step ?_)
  simp only [both]
  unfold loopStep at h ⊢
  rw [Option.bind_eq_some_iff] at h
  obtain ⟨⟨x, s⟩, h1, h2⟩ := h
  refine Ev.bind (codeX_ev c h1) ?_
  cases x with
  | normal =>
    rw [Option.bind_eq_some_iff] at h2
    obtain ⟨s', h3, h4⟩ := h2
    exact Ev.bind ⟨0, fun _ _ => h3⟩ (of_limit h4)
  | exit i => exact ⟨0, fun _ _ => h2⟩
  | ret => exact ⟨0, fun _ _ => h2⟩
  | pan v => exact ⟨0, fun _ _ => h2⟩

end Go.Proofs.Ytonaejfpiihfhaa.Abs
