/- The abstract interpreter: the model's Code run on values that hold their lists, with boxes and rows under names. Definitions alone; soundness stands in the next texts. -/
import Derived.Calls
import Derived.Below
namespace Go.Proofs.Ytonaejfpiihfhaa.Abs
open Go

inductive AV where
  | undef
  | bool (b : Bool)
  | int (k : IntKind) (n : Int)
  | str (s : List UInt8)
  | nilp | nils | nilf | nili
  | list (sz : Nat) (es : List AV)
  | ep (v : AV) (off : Nat)
  | own (id : Nat)
  | row (id off len : Nat)
  | ptr (id i off : Nat)
  | agg (cs : List AV)
  | tup (vs : List AV)
  | iface (t : TypeId) (v : AV)
  | fn (f : Fn) (first caps : List AV)
  | yld (id : Nat)
  deriving Inhabited

/-- A loop over a function: what it was in the function's text, and how far it is. -/
structure LRec where
  g : FuncId
  nt : Nat
  ps : Array Tmp
  assign : Code
  body : Code
  state : LoopState
  pending : Option Code
  deriving Inhabited

inductive AObj where
  | box (v : AV)
  | row (sz : Nat) (es : List AV) (fx mv : Bool)
  | loop (r : LRec) (sl : List (Nat × AV))
  | dblk
  deriving Inhabited

abbrev Slots := List (Nat × AV)
abbrev Heap := List (Nat × AObj)

def aget {α : Type} : List (Nat × α) → Nat → Option α
  | [], _ => none
  | (k, v) :: r, n => if k = n then some v else aget r n

structure ASt where
  sl : Slots
  hp : Heap
  deriving Inhabited

def ASt.slot (st : ASt) (t : Nat) : AV := (aget st.sl t).getD .undef
def ASt.put (st : ASt) (d : Option Nat) (v : AV) : ASt :=
  match d with
  | some t => { st with sl := (t, v) :: st.sl }
  | none => st

def AV.cells : AV → List AV
  | .agg cs => cs
  | v => [v]

def AV.known : AV → Bool
  | .undef => false
  | _ => true

def reCell (old : AV) (cs : List AV) : AV :=
  match old with
  | .agg _ => .agg cs
  | _ => cs.headD .undef

/-- A constant's cell. -/
def ofScalar : Value → AV
  | .bool b => .bool b
  | .int k n => .int k n
  | .string s => .str s.data.toList
  | .pointer none => .nilp
  | .slice none 0 0 => .nils
  | .nilFunc => .nilf
  | .nilIface => .nili
  | _ => .undef
def ofValue : Value → AV
  | .agg cs => .agg (cs.toList.map ofScalar)
  | .tuple vs => .tup (vs.toList.map ofScalar)
  | v => ofScalar v

def ASt.ev (st : ASt) : Operand → AV
  | .tmp t => st.slot t
  | .const v => ofValue v
  | .global _ => .undef
  | .func f => .fn (.func f) [] []

mutual
/-- Struck: what leads to a name. -/
def AV.kill (n : Nat) : AV → AV
  | .own id => if id = n then .undef else .own id
  | .row id o l => if id = n then .undef else .row id o l
  | .ptr id i o => if id = n then .undef else .ptr id i o
  | .yld id => if id = n then .undef else .yld id
  | .agg cs => .agg (AV.killL n cs)
  | .tup vs => .tup (AV.killL n vs)
  | .iface t v => .iface t (AV.kill n v)
  | .fn f a b => .fn f (AV.killL n a) (AV.killL n b)
  | v => v
def AV.killL (n : Nat) : List AV → List AV
  | [] => []
  | v :: r => AV.kill n v :: AV.killL n r
end

mutual
/-- Renamed: what leads to a name; a name that is not told becomes nothing. -/
def AV.ren (m : List (Nat × Nat)) : AV → AV
  | .own id => match aget m id with | some k => .own k | none => .undef
  | .row id o l => match aget m id with | some k => .row k o l | none => .undef
  | .ptr id i o => match aget m id with | some k => .ptr k i o | none => .undef
  | .yld id => match aget m id with | some k => .yld k | none => .undef
  | .agg cs => .agg (AV.renL m cs)
  | .tup vs => .tup (AV.renL m vs)
  | .iface t v => .iface t (AV.ren m v)
  | .fn f a b => .fn f (AV.renL m a) (AV.renL m b)
  | v => v
def AV.renL (m : List (Nat × Nat)) : List AV → List AV
  | [] => []
  | v :: r => AV.ren m v :: AV.renL m r
end
def AObj.ren (m : List (Nat × Nat)) : AObj → AObj
  | .box v => .box (v.ren m)
  | .loop r sl => .loop r (sl.map fun p => (p.1, p.2.ren m))
  | o => o
def AObj.kill (n : Nat) : AObj → AObj
  | .box v => .box (v.kill n)
  | .loop r sl => .loop r (sl.map fun p => (p.1, p.2.kill n))
  | o => o

mutual
/-- The names that a value leads to. -/
def AV.names : AV → List Nat
  | .own id => [id]
  | .row id _ _ => [id]
  | .ptr id _ _ => [id]
  | .yld id => [id]
  | .agg cs => AV.namesL cs
  | .tup vs => AV.namesL vs
  | .iface _ v => AV.names v
  | .fn _ a b => AV.namesL a ++ AV.namesL b
  | _ => []
def AV.namesL : List AV → List Nat
  | [] => []
  | v :: r => AV.names v ++ AV.namesL r
end
def AObj.names : AObj → List Nat
  | .box v => v.names
  | .row _ _ _ _ => []
  | .loop _ sl => AV.namesL (sl.map fun p => p.2)
  | .dblk => []

def rowAt (hp : Heap) (n : Nat) : Option (Nat × List AV) :=
  match aget hp n with
  | some (.row sz es _ _) => some (sz, es)
  | _ => none

mutual
/-- Told as it stands: rows as lists. -/
def AV.rv (hp : Heap) : AV → AV
  | .own id => (match aget hp id with | some (.row sz es _ _) => if sz = 0 then .undef else .list sz es | _ => .undef)
  | .row id o l => (match aget hp id with | some (.row sz es _ _) => if sz ≠ 0 ∧ o + l ≤ es.length then .list sz ((es.drop o).take l) else .undef | _ => .undef)
  | .agg cs => .agg (AV.rvL hp cs)
  | .tup vs => .tup (AV.rvL hp vs)
  | .iface t v => .iface t (AV.rv hp v)
  | .fn f a b => .fn f (AV.rvL hp a) (AV.rvL hp b)
  | v => v
def AV.rvL (hp : Heap) : List AV → List AV
  | [] => []
  | v :: r => AV.rv hp v :: AV.rvL hp r
end

mutual
/-- The rows among the names of a value that are told as lists. -/
def AV.rows : AV → List Nat
  | .own id => [id]
  | .row id _ _ => [id]
  | .agg cs => AV.rowsL cs
  | .tup vs => AV.rowsL vs
  | .iface _ v => AV.rows v
  | .fn _ a b => AV.rowsL a ++ AV.rowsL b
  | _ => []
def AV.rowsL : List AV → List Nat
  | [] => []
  | v :: r => AV.rows v ++ AV.rowsL r
end

def AObj.fix : AObj → AObj
  | .row sz es _ mv => .row sz es true mv
  | o => o
/-- The named objects, changed. -/
def hmod (f : AObj → AObj) (n : Nat) : Heap → Heap
  | [] => []
  | (k, o) :: r => if k = n then (k, f o) :: hmod f n r else (k, o) :: hmod f n r
def hfix (ns : List Nat) (hp : Heap) : Heap := ns.foldl (fun h n => hmod AObj.fix n h) hp
def ASt.fix (st : ASt) (ns : List Nat) : ASt := { st with hp := hfix ns st.hp }
def ASt.killn (st : ASt) (n : Nat) : ASt := { sl := st.sl.map fun p => (p.1, p.2.kill n), hp := st.hp.map fun p => (p.1, p.2.kill n) }

/-! ## Values of operations -/

def LIM : Nat := 4294967296

def partA (ag : Bool) (sz : Nat) (cs : List AV) (off : Nat) : Option AV :=
  if ag then (if off + sz ≤ cs.length then some (.agg ((cs.drop off).take sz)) else none) else cs[off]?
def putA (cs : List AV) (off : Nat) (new : List AV) : List AV := cs.take off ++ new ++ cs.drop (off + new.length)

/-- The parts of a struct, or an array, laid into its cells. -/
def fillA (place : Nat → Option (Nat × Nat)) (cs : List AV) : List (Nat × AV) → Option (List AV)
  | [] => some cs
  | (i, v) :: r => (place i).bind fun p => if v.cells.length = p.2 ∧ p.1 + p.2 ≤ cs.length ∧ v.known then fillA place (putA cs p.1 v.cells) r else none

def isAggT (P : Program) (t : TypeId) : Bool :=
  match P.underlying t with
  | some (.struct _) => true
  | some (.array _ _) => true
  | _ => false

def partT (P : Program) (t : TypeId) (cs : List AV) (o : Nat) : Option AV :=
  if 0 < P.cellsOf t ∧ (P.underlying t).isSome = true then partA (isAggT P t) (P.cellsOf t) cs o else none

def arith (op : BinOp) (k : IntKind) (a b : Int) : Option AV :=
  match op with
  | .add => some (.int k (k.wrap (a + b)))
  | .sub => some (.int k (k.wrap (a - b)))
  | .mul => some (.int k (k.wrap (a * b)))
  | .quo => if b = 0 then none else some (.int k (k.wrap (a.tdiv b)))
  | .rem => if b = 0 then none else some (.int k (a.tmod b))
  | .and => some (.int k (k.wrap (BitVec.ofInt k.bits a &&& BitVec.ofInt k.bits b).toNat))
  | .or => some (.int k (k.wrap (BitVec.ofInt k.bits a ||| BitVec.ofInt k.bits b).toNat))
  | .xor => some (.int k (k.wrap (BitVec.ofInt k.bits a ^^^ BitVec.ofInt k.bits b).toNat))
  | .andNot => some (.int k (k.wrap (BitVec.ofInt k.bits a &&& ~~~BitVec.ofInt k.bits b).toNat))
  | .eql => some (.bool (a == b))
  | .neq => some (.bool (a != b))
  | .lss => some (.bool (decide (a < b)))
  | .leq => some (.bool (decide (a ≤ b)))
  | .gtr => some (.bool (decide (b < a)))
  | .geq => some (.bool (decide (b ≤ a)))
  | _ => none

/-- Bytes, byte by byte: which is ahead. -/
def ltB : List UInt8 → List UInt8 → Bool
  | _, [] => false
  | [], _ :: _ => true
  | a :: x, b :: y => a < b || (a == b && ltB x y)

def strOp (op : BinOp) (a b : List UInt8) : Option AV :=
  match op with
  | .add => if a.length + b.length ≤ LIM then some (.str (a ++ b)) else none
  | .eql => some (.bool (a == b))
  | .neq => some (.bool (!(a == b)))
  | .lss => some (.bool (ltB a b))
  | .leq => some (.bool (ltB a b || a == b))
  | .gtr => some (.bool (!(ltB a b || a == b)))
  | .geq => some (.bool (!ltB a b))
  | _ => none

/-- A cell of a struct that is compared: a whole number, a bool or a string. -/
def eqFieldA (P : Program) (t : TypeId) (a b : AV) : Option Bool :=
  match P.underlying t, a, b with
  | some .bool, .bool x, .bool y => some (x == y)
  | some (.int _), .int k x, .int k' y => if k = k' then some (x == y) else none
  | some .string, .str x, .str y => some (x == y)
  | _, _, _ => none
def eqFieldsA (P : Program) : Nat → List Field → List AV → List AV → Option Bool
  | _, [], [], [] => some true
  | i, f :: fs, a :: x, b :: y => if f.offset = i ∧ f.name ≠ "_" then (eqFieldA P f.type a b).bind fun t => (eqFieldsA P (i + 1) fs x y).map fun u => t && u else none
  | _, _, _, _ => none
def eqAggA (P : Program) (t : TypeId) (x y : List AV) : Option Bool :=
  match P.underlying t with
  | some (.struct fs) => if !P.stoodInHeld t && !P.eqGuardType P.depth t then eqFieldsA P 0 fs.toList x y else none
  | _ => none

def eqv (P : Program) (t : TypeId) : AV → AV → Option Bool
  | .bool a, .bool b => match P.underlying t with | some .bool => some (a == b) | _ => none
  | .nilp, .nilp => match P.underlying t with | some (.pointer _) => some true | _ => none
  | .ptr _ _ _, .nilp => match P.underlying t with | some (.pointer _) => some false | _ => none
  | .nilp, .ptr _ _ _ => match P.underlying t with | some (.pointer _) => some false | _ => none
  | .nils, .nils => match P.underlying t with | some (.slice _) => some true | _ => none
  | .list sz es, .nils => if sz = 0 ∨ es ≠ [] then (match P.underlying t with | some (.slice _) => some false | _ => none) else none
  | .ptr id i o, .ptr id' i' o' => if id = id' ∧ i = i' ∧ o = o' then (match P.underlying t with | some (.pointer e) => if (P.info? e).isSome then some true else none | _ => none) else none
  | .nili, .iface _ _ => match P.underlying t with | some (.interface _) => some false | _ => none
  | .iface _ _, .nili => match P.underlying t with | some (.interface _) => some false | _ => none
  | .nilf, .nilf => match P.underlying t with | some (.func _ _ _) => some true | _ => none
  | .nilf, .fn _ _ _ => match P.underlying t with | some (.func _ _ _) => some false | _ => none
  | .fn _ _ _, .nilf => match P.underlying t with | some (.func _ _ _) => some false | _ => none
  | .agg x, .agg y => eqAggA P t x y
  | _, _ => none

def binv (P : Program) (op : BinOp) (t : TypeId) (x y : AV) : Option AV :=
  match x, y with
  | .int k a, .int k' b =>
    match op with
    | .shl => if b < 0 then none else some (.int k (k.wrap (a * 2 ^ (min b.toNat k.bits))))
    | .shr => if b < 0 then none else some (.int k (a.fdiv (2 ^ (min b.toNat k.bits))))
    | op => if k = k' then arith op k a b else none
  | .str a, .str b => strOp op a b
  | x, y =>
    match op with
    | .eql => (eqv P t x y).map .bool
    | .neq => (eqv P t x y).map fun b => .bool (!b)
    | _ => none

def unv (op : UnOp) (x : AV) : Option AV :=
  match op, x with
  | .not, .bool b => some (.bool (!b))
  | .neg, .int k n => some (.int k (k.wrap (0 - n)))
  | .xor, .int k n => arith .xor k (if k.signed then -1 else k.max) n
  | _, _ => none

def bytesOf? : List AV → Option (List UInt8)
  | [] => some []
  | .int .u8 n :: r => (bytesOf? r).map fun l => UInt8.ofNat n.toNat :: l
  | _ => none

def convv (P : Program) (hp : Heap) (src dst : TypeId) (x : AV) : Option AV :=
  match P.underlying src, P.underlying dst, x with
  | some _, some (.int k), .int _ n => some (.int k (k.wrap n))
  | some _, some .string, .str s => some (.str s)
  | some (.slice e), some .string, x =>
    match P.underlying e with
    | some (.int .u8) =>
      (match x with
       | .list sz es => if sz = 1 then (bytesOf? es).map .str else none
       | .nils => some (.str [])
       | .own id => (rowAt hp id).bind fun r => if r.1 = 1 then (bytesOf? r.2).map .str else none
       | _ => none)
    | _ => none
  | _, _, _ => none

def fieldOff (P : Program) (t : TypeId) (f : Nat) : Option Field :=
  match P.underlying t with
  | some (.struct fs) => fs[f]?
  | _ => none

def elemOf? (P : Program) (t : TypeId) : Option TypeId :=
  match P.underlying t with
  | some (.slice e) => some e
  | _ => none

def objCells (o : AObj) (i : Nat) : Option (List AV) :=
  match o with
  | .box v => if i = 0 then some v.cells else none
  | .row _ es _ _ => (es[i]?).map AV.cells
  | _ => none

def indexA (P : Program) (hp : Heap) (t : TypeId) (x i : AV) : Option AV :=
  match i with
  | .int _ n =>
    (match P.underlying t, x with
     | some (.slice e), .list sz es => if sz = P.cellsOf e ∧ 0 < sz ∧ 0 ≤ n then (es[n.toNat]?).map fun e => .ep e 0 else none
     | some (.slice e), .own id => (rowAt hp id).bind fun r => if r.1 = P.cellsOf e ∧ 0 < r.1 ∧ 0 ≤ n ∧ n < r.2.length then some (.ptr id n.toNat 0) else none
     | some (.slice e), .row id o l => (rowAt hp id).bind fun r => if r.1 = P.cellsOf e ∧ 0 < r.1 ∧ 0 ≤ n ∧ n < l ∧ o + l ≤ r.2.length then some (.ptr id (o + n.toNat) 0) else none
     | some (.array m e), .ptr id j o => if 0 ≤ n ∧ n < m ∧ 0 < P.cellsOf e then some (.ptr id j (o + n.toNat * P.cellsOf e)) else none
     | some (.array m e), .ep v o => if 0 ≤ n ∧ n < m ∧ 0 < P.cellsOf e ∧ o + n.toNat * P.cellsOf e < v.cells.length then some (.ep v (o + n.toNat * P.cellsOf e)) else none
     | _, _ => none)
  | _ => none

def indexv (P : Program) (t : TypeId) (x i : AV) : Option AV :=
  match i with
  | .int _ n =>
    (match P.underlying t, x with
     | some (.array m e), .agg cs => if 0 ≤ n ∧ n < m then partT P e cs (n.toNat * P.cellsOf e) else none
     | some .string, .str s => if 0 ≤ n then (s[n.toNat]?).map fun b => .int .u8 b.toNat else none
     | _, _ => none)
  | _ => none

def bound? (x : Option AV) (d : Nat) : Option Nat :=
  match x with
  | none => some d
  | some (.int _ n) => if 0 ≤ n then some n.toNat else none
  | _ => none

def slicev (P : Program) (hp : Heap) (t : TypeId) (x : AV) (lo hi mx : Option AV) : Option AV :=
  match P.underlying t, x, mx with
  | some .string, .str s, none =>
    (bound? lo 0).bind fun l => (bound? hi s.length).bind fun h => if l ≤ h ∧ h ≤ s.length then some (.str ((s.take h).drop l)) else none
  | some (.slice e), .list sz es, none =>
    (bound? lo 0).bind fun l => (bound? hi es.length).bind fun h => if sz = P.cellsOf e ∧ 0 < sz ∧ l ≤ h ∧ h ≤ es.length then some (.list sz ((es.take h).drop l)) else none
  | some (.slice e), .nils, none =>
    if P.cellsOf e = 0 then none else (bound? lo 0).bind fun l => (bound? hi 0).bind fun h => if l ≤ h ∧ h ≤ 0 then some .nils else none
  | some (.slice e), .own id, none =>
    (rowAt hp id).bind fun r => (bound? lo 0).bind fun l => (bound? hi r.2.length).bind fun h => if r.1 = P.cellsOf e ∧ 0 < r.1 ∧ l ≤ h ∧ h ≤ r.2.length then some (.row id l (h - l)) else none
  | some (.slice e), .row id o n, none =>
    (rowAt hp id).bind fun r => (bound? lo 0).bind fun l => (bound? hi n).bind fun h => if r.1 = P.cellsOf e ∧ 0 < r.1 ∧ l ≤ h ∧ h ≤ n then some (.row id (o + l) (h - l)) else none
  | _, _, _ => none

def lenv (P : Program) (hp : Heap) (t : TypeId) (x : AV) : Option AV :=
  match P.underlying t, x with
  | some .string, .str s => some (.int .i64 s.length)
  | some (.array n _), _ => some (.int .i64 n)
  | some (.slice _), .list _ es => some (.int .i64 es.length)
  | some (.slice _), .nils => some (.int .i64 0)
  | some (.slice _), .own id => (rowAt hp id).map fun r => .int .i64 r.2.length
  | some (.slice _), .row _ _ l => some (.int .i64 l)
  | _, _ => none

def capv (P : Program) (t : TypeId) (x : AV) : Option AV :=
  match P.underlying t, x with
  | some (.slice _), .nils => some (.int .i64 0)
  | _, _ => none

def minmax (mx : Bool) : AV → AV → Option AV
  | .int k x, .int k' y => if k = k' then some (.int k (if mx then (if x < y then y else x) else (if y < x then y else x))) else none
  | _, _ => none
def minmaxL (mx : Bool) (x : AV) : List AV → Option AV
  | [] => some x
  | y :: r => (minmax mx x y).bind fun z => minmaxL mx z r

def buildA (P : Program) (t : TypeId) (parts : List (Nat × AV)) : Option AV :=
  match P.underlying t, (P.info? t).bind (·.zero) with
  | some (.struct fs), some z =>
    if (fs.toList.all fun f => decide (0 < P.cellsOf f.type)) && (ofValue z).known then (fillA (fun i => (fs[i]?).map fun f => (f.offset, P.cellsOf f.type)) (ofValue z).cells parts).map .agg else none
  | some (.array _ e), some z => if 0 < P.cellsOf e ∧ (ofValue z).known = true then (fillA (fun i => some (i * P.cellsOf e, P.cellsOf e)) (ofValue z).cells parts).map .agg else none
  | _, _ => none

def isConst : Operand → Bool
  | .const _ => true
  | _ => false

/-- What an operation that only reads comes to. -/
def opv (P : Program) (ρ : Operand → AV) (hp : Heap) : Op → Option AV
  | .move x => some (ρ x)
  | .assign x => some (ρ x)
  | .pick c a b => match ρ c with | .bool t => some (if t then ρ a else ρ b) | _ => none
  | .binOp op t x y _ => match ρ x, ρ y with
    | .nili, .nili => (match op, P.underlying t with
      | .eql, some (.interface _) => if isConst x || isConst y then some (.bool true) else none
      | .neq, some (.interface _) => if isConst x || isConst y then some (.bool false) else none
      | _, _ => none)
    | a, b => binv P op t a b
  | .unOp op _ x => unv op (ρ x)
  | .convert s d x => convv P hp s d (ρ x)
  | .field t x f => match fieldOff P t f, ρ x with
    | some fd, .agg cs => partT P fd.type cs fd.offset
    | _, _ => none
  | .fieldAddr t x f => match fieldOff P t f, ρ x with
    | some fd, .ptr id i o => if P.cellsOf fd.type = 0 then none else some (.ptr id i (o + fd.offset))
    | some fd, .ep v o => if P.cellsOf fd.type = 0 ∨ v.cells.length ≤ o + fd.offset then none else some (.ep v (o + fd.offset))
    | _, _ => none
  | .indexAddr t x i => indexA P hp t (ρ x) (ρ i)
  | .index t x i => indexv P t (ρ x) (ρ i)
  | .load t a => match ρ a with
    | .ptr id i o => (aget hp id).bind fun ob => (objCells ob i).bind fun cs => partT P t cs o
    | .ep v o => partT P t v.cells o
    | _ => none
  | .extract x i => match ρ x with | .tup vs => vs[i]? | _ => none
  | .build t parts => buildA P t (parts.toList.map fun p => (p.1, ρ p.2))
  | .makeInterface t x => match P.underlying t with | some (.interface _) => none | some _ => some (.iface t (ρ x)) | none => none
  | .makeFunc f a b => some (.fn f (a.toList.map ρ) (b.toList.map ρ))
  | .nilCheck x => match ρ x with | .ptr id i o => some (.ptr id i o) | .ep v o => some (.ep v o) | .iface t v => some (.iface t v) | _ => none
  | .slice t x lo hi mx => slicev P hp t (ρ x) (lo.map ρ) (hi.map ρ) (mx.map ρ)
  | .typeAssert x _ t ok => match P.underlying t, ρ x with
    | some (.interface _), _ => none
    | some _, .iface t' v => if t' = t then some (if ok then .tup [v, .bool true] else v) else (if ok then ((P.info? t).bind (·.zero)).map fun z => .tup [ofValue z, .bool false] else none)
    | some _, .nili => if ok then ((P.info? t).bind (·.zero)).map fun z => .tup [ofValue z, .bool false] else none
    | _, _ => none
  | .call c => match c.callee, c.args.toList, c.argTypes.toList with
    | .builtin .len, [x], [t] => lenv P hp t (ρ x)
    | .builtin .cap, [x], [t] => capv P t (ρ x)
    | .builtin .min, [x, y], _ => minmax false (ρ x) (ρ y)
    | .builtin .max, [x, y], _ => minmax true (ρ x) (ρ y)
    | _, _, _ => none
  | _ => none

end Go.Proofs.Ytonaejfpiihfhaa.Abs
