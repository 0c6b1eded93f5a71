/- What the row of this claim leans on: own texts, merged. -/
import Derived.Calls
import Derived.Below
import Derived.Laws.StructEq
import Derived.Laws.Entries
import Derived.Laws.Sem
import Derived.Lib.ConvBytes
import Derived.Lib.Bytes
import Derived.Laws.BytesString
import Derived.Laws.Slices
import Derived.Lib.Builder
import Derived.Laws.Tables
import Derived.Lib.Strings
import Derived.Deep.AppendSrc
import Derived.Deep.DeepAppendWide

/- The abstract interpreter: the model's Code run on values that hold their lists, with boxes and rows under names. Definitions alone; soundness stands in the next texts. -/
namespace Go.Proofs.YteibklnligmanaaDoor.Abs
open Go
set_option linter.unusedSimpArgs false
set_option linter.unusedVariables false

inductive AV where
  | undef
  | bool (b : Bool)
  | int (k : IntKind) (n : Int)
  | str (s : List UInt8)
  | nilp | nils | nilf | nili | nilm
  | list (sz : Nat) (es : List AV)
  | ep (v : AV) (off : Nat)
  | own (id : Nat)
  | row (id off len : Nat)
  | ptr (id i off : Nat)
  | agg (cs : List AV)
  | tup (vs : List AV)
  | iface (t : TypeId) (v : AV)
  | fn (f : Fn) (first caps : List AV)
  | yld (id : Nat)
  | mp (id : Nat)
  | win (id off len sz : Nat)
  | cm (i : Nat)
  deriving Inhabited

/-- A loop over a function: what it was in the function's text, and how far it is. -/
structure LRec where
  g : FuncId
  nt : Nat
  ps : Array Tmp
  assign : Code
  body : Code
  state : LoopState
  pending : Option Code
  /-- May a round of it panic? -/
  pn : Bool := true
  deriving Inhabited

/-- Was a row moved; what it is a row of. -/
structure RM where
  mv : Bool
  t : TypeId
  deriving Inhabited, DecidableEq

inductive AObj where
  | box (t : TypeId) (v : AV)
  | row (sz : Nat) (es : List AV) (fx : Bool) (mv : RM)
  | loop (r : LRec) (sl : List (Nat × AV))
  | map (es : List (Nat × AV × AV)) (clk : Nat)
  | iter (v : AV) (since : Nat) (seen : List Nat) (last : Nat)
  | dblk
  deriving Inhabited

abbrev Slots := List (Nat × AV)
abbrev Heap := List (Nat × AObj)

def aget {α : Type} : List (Nat × α) → Nat → Option α
  | [], _ => none
  | (k, v) :: r, n => if k = n then some v else aget r n

structure ASt where
  sl : Slots
  hp : Heap
  deriving Inhabited

def ASt.slot (st : ASt) (t : Nat) : AV := (aget st.sl t).getD .undef
def ASt.put (st : ASt) (d : Option Nat) (v : AV) : ASt :=
  match d with
  | some t => { st with sl := (t, v) :: st.sl }
  | none => st

def AV.cells : AV → List AV
  | .agg cs => cs
  | v => [v]

def AV.known : AV → Bool
  | .undef => false
  | _ => true

def reCell (old : AV) (cs : List AV) : AV :=
  match old with
  | .agg _ => .agg cs
  | _ => cs.headD .undef

/-- A constant's cell. -/
def ofScalar : Value → AV
  | .bool b => .bool b
  | .int k n => .int k n
  | .string s => .str s.data.toList
  | .pointer none => .nilp
  | .slice none 0 0 => .nils
  | .nilFunc => .nilf
  | .map none => .nilm
  | .nilIface => .nili
  | _ => .undef
def ofValue : Value → AV
  | .agg cs => .agg (cs.toList.map ofScalar)
  | .tuple vs => .tup (vs.toList.map ofScalar)
  | v => ofScalar v

/-- How many functions the program has; what its own variables hold. -/
def NF : Nat := 126
def globT : List (Nat × AV) := [(0, .cm 0), (1, .agg [.int .u32 1779033703, .int .u32 3144134277, .int .u32 1013904242, .int .u32 2773480762, .int .u32 1359893119, .int .u32 2600822924, .int .u32 528734635, .int .u32 1541459225]), (2, .agg [.int .u32 1116352408, .int .u32 1899447441, .int .u32 3049323471, .int .u32 3921009573, .int .u32 961987163, .int .u32 1508970993, .int .u32 2453635748, .int .u32 2870763221, .int .u32 3624381080, .int .u32 310598401, .int .u32 607225278, .int .u32 1426881987, .int .u32 1925078388, .int .u32 2162078206, .int .u32 2614888103, .int .u32 3248222580, .int .u32 3835390401, .int .u32 4022224774, .int .u32 264347078, .int .u32 604807628, .int .u32 770255983, .int .u32 1249150122, .int .u32 1555081692, .int .u32 1996064986, .int .u32 2554220882, .int .u32 2821834349, .int .u32 2952996808, .int .u32 3210313671, .int .u32 3336571891, .int .u32 3584528711, .int .u32 113926993, .int .u32 338241895, .int .u32 666307205, .int .u32 773529912, .int .u32 1294757372, .int .u32 1396182291, .int .u32 1695183700, .int .u32 1986661051, .int .u32 2177026350, .int .u32 2456956037, .int .u32 2730485921, .int .u32 2820302411, .int .u32 3259730800, .int .u32 3345764771, .int .u32 3516065817, .int .u32 3600352804, .int .u32 4094571909, .int .u32 275423344, .int .u32 430227734, .int .u32 506948616, .int .u32 659060556, .int .u32 883997877, .int .u32 958139571, .int .u32 1322822218, .int .u32 1537002063, .int .u32 1747873779, .int .u32 1955562222, .int .u32 2024104815, .int .u32 2227730452, .int .u32 2361852424, .int .u32 2428436474, .int .u32 2756734187, .int .u32 3204031479, .int .u32 3329325298])]
/-- The types of bytes: a row of them may bear a mark behind its last cell. -/
@[simp] def byT (t : TypeId) : Bool := ([5] : List Nat).contains t
/-- Methods by the receiver's type and name: whom they lead to, and whether the receiver is what the pointer points to. -/
def metT : List ((Nat × String) × (Nat × Option Nat)) := []
/-- The types of elements of arrays whose slices are told as they stand: the array is given up. -/
def snapT : List TypeId := [81]
/-- The maps that the program's own variables hold: keys, and what is there. -/
def cmT : List (Nat × List (AV × AV)) := [(0, [(.str [99, 111, 108, 108], .agg [.str [98, 108, 111, 98], .int .i64 1, .str [119, 111, 114, 100], .int .i64 2]), (.str [101, 112, 111, 99, 104], .agg [.str [99, 111, 108, 108], .int .i64 1, .str [], .int .i64 0]), (.str [114, 111, 111, 116], .agg [.str [101, 112, 111, 99, 104], .int .i64 1, .str [], .int .i64 0])])]
def cmOf (i : Nat) : List (AV × AV) := (aget cmT i).getD []
def globA (g : Nat) : AV :=
  match aget globT g with
  | some v => .ep v 0
  | none => .undef
def ASt.ev (st : ASt) : Operand → AV
  | .tmp t => st.slot t
  | .const v => ofValue v
  | .global g => globA g
  | .func f => .fn (.func f) [] []

mutual
/-- Struck: what leads to a name. -/
def AV.kill (n : Nat) : AV → AV
  | .own id => if id = n then .undef else .own id
  | .row id o l => if id = n then .undef else .row id o l
  | .ptr id i o => if id = n then .undef else .ptr id i o
  | .yld id => if id = n then .undef else .yld id
  | .mp id => if id = n then .undef else .mp id
  | .win id o l s => if id = n then .undef else .win id o l s
  | .agg cs => .agg (AV.killL n cs)
  | .tup vs => .tup (AV.killL n vs)
  | .iface t v => .iface t (AV.kill n v)
  | .fn f a b => .fn f (AV.killL n a) (AV.killL n b)
  | v => v
def AV.killL (n : Nat) : List AV → List AV
  | [] => []
  | v :: r => AV.kill n v :: AV.killL n r
end

mutual
/-- Renamed: what leads to a name; a name that is not told becomes nothing. -/
def AV.ren (m : List (Nat × Nat)) : AV → AV
  | .own id => match aget m id with | some k => .own k | none => .undef
  | .row id o l => match aget m id with | some k => .row k o l | none => .undef
  | .ptr id i o => match aget m id with | some k => .ptr k i o | none => .undef
  | .yld id => match aget m id with | some k => .yld k | none => .undef
  | .mp id => match aget m id with | some k => .mp k | none => .undef
  | .win id o l s => match aget m id with | some k => .win k o l s | none => .undef
  | .agg cs => .agg (AV.renL m cs)
  | .tup vs => .tup (AV.renL m vs)
  | .iface t v => .iface t (AV.ren m v)
  | .fn f a b => .fn f (AV.renL m a) (AV.renL m b)
  | v => v
def AV.renL (m : List (Nat × Nat)) : List AV → List AV
  | [] => []
  | v :: r => AV.ren m v :: AV.renL m r
end
def AObj.ren (m : List (Nat × Nat)) : AObj → AObj
  | .box t v => .box t (v.ren m)
  | .loop r sl => .loop r (sl.map fun p => (p.1, p.2.ren m))
  | .iter v a b c => .iter (v.ren m) a b c
  | o => o
def AObj.kill (n : Nat) : AObj → AObj
  | .box t v => .box t (v.kill n)
  | .loop r sl => .loop r (sl.map fun p => (p.1, p.2.kill n))
  | .iter v a b c => .iter (v.kill n) a b c
  | o => o

mutual
/-- The names that a value leads to. -/
def AV.names : AV → List Nat
  | .own id => [id]
  | .row id _ _ => [id]
  | .ptr id _ _ => [id]
  | .yld id => [id]
  | .mp id => [id]
  | .win id _ _ _ => [id]
  | .agg cs => AV.namesL cs
  | .tup vs => AV.namesL vs
  | .iface _ v => AV.names v
  | .fn _ a b => AV.namesL a ++ AV.namesL b
  | _ => []
def AV.namesL : List AV → List Nat
  | [] => []
  | v :: r => AV.names v ++ AV.namesL r
end
def AObj.names : AObj → List Nat
  | .box _ v => v.names
  | .row _ _ _ _ => []
  | .loop _ sl => AV.namesL (sl.map fun p => p.2)
  | .map _ _ => []
  | .iter v _ _ _ => v.names
  | .dblk => []

def rowAt (hp : Heap) (n : Nat) : Option (Nat × List AV) :=
  match aget hp n with
  | some (.row sz es _ _) => some (sz, es)
  | _ => none

mutual
/-- Told as it stands: rows as lists. -/
def AV.rv (hp : Heap) : AV → AV
  | .own id => (match aget hp id with | some (.row sz es _ _) => if sz = 0 then .undef else .list sz es | _ => .undef)
  | .row id o l => (match aget hp id with | some (.row sz es _ _) => if sz ≠ 0 ∧ o + l ≤ es.length then .list sz ((es.drop o).take l) else .undef | _ => .undef)
  | .agg cs => .agg (AV.rvL hp cs)
  | .tup vs => .tup (AV.rvL hp vs)
  | .iface t v => .iface t (AV.rv hp v)
  | .fn f a b => .fn f (AV.rvL hp a) (AV.rvL hp b)
  | v => v
def AV.rvL (hp : Heap) : List AV → List AV
  | [] => []
  | v :: r => AV.rv hp v :: AV.rvL hp r
end

mutual
/-- The rows among the names of a value that are told as lists. -/
def AV.rows : AV → List Nat
  | .own id => [id]
  | .row id _ _ => [id]
  | .agg cs => AV.rowsL cs
  | .tup vs => AV.rowsL vs
  | .iface _ v => AV.rows v
  | .fn _ a b => AV.rowsL a ++ AV.rowsL b
  | _ => []
def AV.rowsL : List AV → List Nat
  | [] => []
  | v :: r => AV.rows v ++ AV.rowsL r
end

def AObj.fix : AObj → AObj
  | .row sz es _ mv => .row sz es true mv
  | o => o
/-- The named objects, changed. -/
def hmod (f : AObj → AObj) (n : Nat) : Heap → Heap
  | [] => []
  | (k, o) :: r => if k = n then (k, f o) :: hmod f n r else (k, o) :: hmod f n r
def hfix (ns : List Nat) (hp : Heap) : Heap := ns.foldl (fun h n => hmod AObj.fix n h) hp
def ASt.fix (st : ASt) (ns : List Nat) : ASt := { st with hp := hfix ns st.hp }
def ASt.killn (st : ASt) (n : Nat) : ASt := { sl := st.sl.map fun p => (p.1, p.2.kill n), hp := st.hp.map fun p => (p.1, p.2.kill n) }

/-! ## Values of operations -/

def LIM : Nat := 4294967296

def partA (ag : Bool) (sz : Nat) (cs : List AV) (off : Nat) : Option AV :=
  if ag then (if off + sz ≤ cs.length then some (.agg ((cs.drop off).take sz)) else none) else cs[off]?
def putA (cs : List AV) (off : Nat) (new : List AV) : List AV := cs.take off ++ new ++ cs.drop (off + new.length)

/-- The parts of a struct, or an array, laid into its cells. -/
def fillA (place : Nat → Option (Nat × Nat)) (cs : List AV) : List (Nat × AV) → Option (List AV)
  | [] => some cs
  | (i, v) :: r => (place i).bind fun p => if v.cells.length = p.2 ∧ p.1 + p.2 ≤ cs.length ∧ v.known then fillA place (putA cs p.1 v.cells) r else none

def isAggT (P : Program) (t : TypeId) : Bool :=
  match P.underlying t with
  | some (.struct _) => true
  | some (.array _ _) => true
  | _ => false

def partT (P : Program) (t : TypeId) (cs : List AV) (o : Nat) : Option AV :=
  if 0 < P.cellsOf t ∧ (P.underlying t).isSome = true then partA (isAggT P t) (P.cellsOf t) cs o else none

def arith (op : BinOp) (k : IntKind) (a b : Int) : Option AV :=
  match op with
  | .add => some (.int k (k.wrap (a + b)))
  | .sub => some (.int k (k.wrap (a - b)))
  | .mul => some (.int k (k.wrap (a * b)))
  | .quo => if b = 0 then none else some (.int k (k.wrap (a.tdiv b)))
  | .rem => if b = 0 then none else some (.int k (a.tmod b))
  | .and => some (.int k (k.wrap (BitVec.ofInt k.bits a &&& BitVec.ofInt k.bits b).toNat))
  | .or => some (.int k (k.wrap (BitVec.ofInt k.bits a ||| BitVec.ofInt k.bits b).toNat))
  | .xor => some (.int k (k.wrap (BitVec.ofInt k.bits a ^^^ BitVec.ofInt k.bits b).toNat))
  | .andNot => some (.int k (k.wrap (BitVec.ofInt k.bits a &&& ~~~BitVec.ofInt k.bits b).toNat))
  | .eql => some (.bool (a == b))
  | .neq => some (.bool (a != b))
  | .lss => some (.bool (decide (a < b)))
  | .leq => some (.bool (decide (a ≤ b)))
  | .gtr => some (.bool (decide (b < a)))
  | .geq => some (.bool (decide (b ≤ a)))
  | _ => none

/-- Bytes, byte by byte: which is ahead. -/
def ltB : List UInt8 → List UInt8 → Bool
  | _, [] => false
  | [], _ :: _ => true
  | a :: x, b :: y => a < b || (a == b && ltB x y)

def strOp (op : BinOp) (a b : List UInt8) : Option AV :=
  match op with
  | .add => if a.length + b.length ≤ LIM then some (.str (a ++ b)) else none
  | .eql => some (.bool (a == b))
  | .neq => some (.bool (!(a == b)))
  | .lss => some (.bool (ltB a b))
  | .leq => some (.bool (ltB a b || a == b))
  | .gtr => some (.bool (!(ltB a b || a == b)))
  | .geq => some (.bool (!ltB a b))
  | _ => none

/-- A cell of a struct that is compared: a whole number, a bool or a string. -/
def eqFieldA (P : Program) (t : TypeId) (a b : AV) : Option Bool :=
  match P.underlying t, a, b with
  | some .bool, .bool x, .bool y => some (x == y)
  | some (.int _), .int k x, .int k' y => if k = k' then some (x == y) else none
  | some .string, .str x, .str y => some (x == y)
  | _, _, _ => none
def eqFieldsA (P : Program) : Nat → List Field → List AV → List AV → Option Bool
  | _, [], [], [] => some true
  | i, f :: fs, a :: x, b :: y => if f.offset = i ∧ f.name ≠ "_" then (eqFieldA P f.type a b).bind fun t => (eqFieldsA P (i + 1) fs x y).map fun u => t && u else none
  | _, _, _, _ => none
def eqAggA (P : Program) (t : TypeId) (x y : List AV) : Option Bool :=
  match P.underlying t with
  | some (.struct fs) => if !P.stoodInHeld t && !P.eqGuardType P.depth t then eqFieldsA P 0 fs.toList x y else none
  | _ => none

def eqv (P : Program) (t : TypeId) : AV → AV → Option Bool
  | .bool a, .bool b => match P.underlying t with | some .bool => some (a == b) | _ => none
  | .nilp, .nilp => match P.underlying t with | some (.pointer _) => some true | _ => none
  | .ptr _ _ _, .nilp => match P.underlying t with | some (.pointer _) => some false | _ => none
  | .nilp, .ptr _ _ _ => match P.underlying t with | some (.pointer _) => some false | _ => none
  | .nils, .nils => match P.underlying t with | some (.slice _) => some true | _ => none
  | .list sz es, .nils => if sz = 0 ∨ es ≠ [] then (match P.underlying t with | some (.slice _) => some false | _ => none) else none
  | .ptr id i o, .ptr id' i' o' => if id = id' ∧ i = i' ∧ o = o' then (match P.underlying t with | some (.pointer e) => if (P.info? e).isSome then some true else none | _ => none) else none
  | .nili, .iface _ _ => match P.underlying t with | some (.interface _) => some false | _ => none
  | .iface _ _, .nili => match P.underlying t with | some (.interface _) => some false | _ => none
  | .nilf, .nilf => match P.underlying t with | some (.func _ _ _) => some true | _ => none
  | .nilf, .fn _ _ _ => match P.underlying t with | some (.func _ _ _) => some false | _ => none
  | .fn _ _ _, .nilf => match P.underlying t with | some (.func _ _ _) => some false | _ => none
  | .agg x, .agg y => eqAggA P t x y
  | _, _ => none

def binv (P : Program) (op : BinOp) (t : TypeId) (x y : AV) : Option AV :=
  match x, y with
  | .int k a, .int k' b =>
    match op with
    | .shl => if b < 0 then none else some (.int k (k.wrap (a * 2 ^ (min b.toNat k.bits))))
    | .shr => if b < 0 then none else some (.int k (a.fdiv (2 ^ (min b.toNat k.bits))))
    | op => if k = k' then arith op k a b else none
  | .str a, .str b => strOp op a b
  | x, y =>
    match op with
    | .eql => (eqv P t x y).map .bool
    | .neq => (eqv P t x y).map fun b => .bool (!b)
    | _ => none

def unv (op : UnOp) (x : AV) : Option AV :=
  match op, x with
  | .not, .bool b => some (.bool (!b))
  | .neg, .int k n => some (.int k (k.wrap (0 - n)))
  | .xor, .int k n => arith .xor k (if k.signed then -1 else k.max) n
  | _, _ => none

def bytesOf? : List AV → Option (List UInt8)
  | [] => some []
  | .int .u8 n :: r => (bytesOf? r).map fun l => UInt8.ofNat n.toNat :: l
  | _ => none

def convv (P : Program) (hp : Heap) (src dst : TypeId) (x : AV) : Option AV :=
  match P.underlying src, P.underlying dst, x with
  | some _, some (.int k), .int _ n => some (.int k (k.wrap n))
  | some _, some .string, .str s => some (.str s)
  | some (.slice e), some .string, x =>
    match P.underlying e with
    | some (.int .u8) =>
      (match x with
       | .list sz es => if sz = 1 then (bytesOf? es).map .str else none
       | .nils => some (.str [])
       | .own id => (rowAt hp id).bind fun r => if r.1 = 1 then (bytesOf? r.2).map .str else none
       | _ => none)
    | _ => none
  | some (.pointer e), some .unsafePointer, .ptr id 0 o =>
    (match aget hp id with
     | some (.box _ v) => if 0 < P.cellsOf e ∧ o < v.cells.length then some (.ptr id 0 o) else none
     | _ => none)
  | some .unsafePointer, some (.pointer u), .ptr id 0 o =>
    (match aget hp id with
     | some (.box T v) => if (P.info? u).isSome = true ∧ liesAt P P.depth T (v.cells.length / P.cellsOf T) o u 1 = true then some (.ptr id 0 o) else none
     | _ => none)
  | _, _, _ => none

def fieldOff (P : Program) (t : TypeId) (f : Nat) : Option Field :=
  match P.underlying t with
  | some (.struct fs) => fs[f]?
  | _ => none

def elemOf? (P : Program) (t : TypeId) : Option TypeId :=
  match P.underlying t with
  | some (.slice e) => some e
  | _ => none

def objCells (o : AObj) (i : Nat) : Option (List AV) :=
  match o with
  | .box _ v => if i = 0 then some v.cells else none
  | .row _ es _ _ => (es[i]?).map AV.cells
  | _ => none

def indexA (P : Program) (hp : Heap) (t : TypeId) (x i : AV) : Option AV :=
  match i with
  | .int _ n =>
    (match P.underlying t, x with
     | some (.slice e), .list sz es => if sz = P.cellsOf e ∧ 0 < sz ∧ 0 ≤ n then (es[n.toNat]?).map fun e => .ep e 0 else none
     | some (.slice e), .own id => (rowAt hp id).bind fun r => if r.1 = P.cellsOf e ∧ 0 < r.1 ∧ 0 ≤ n ∧ n < r.2.length then some (.ptr id n.toNat 0) else none
     | some (.slice e), .row id o l => (rowAt hp id).bind fun r => if r.1 = P.cellsOf e ∧ 0 < r.1 ∧ 0 ≤ n ∧ n < l ∧ o + l ≤ r.2.length then some (.ptr id (o + n.toNat) 0) else none
     | some (.array m e), .ptr id j o => if 0 ≤ n ∧ n < m ∧ 0 < P.cellsOf e then some (.ptr id j (o + n.toNat * P.cellsOf e)) else none
     | some (.array m e), .ep v o => if 0 ≤ n ∧ n < m ∧ 0 < P.cellsOf e ∧ o + n.toNat * P.cellsOf e < v.cells.length then some (.ep v (o + n.toNat * P.cellsOf e)) else none
     | _, _ => none)
  | _ => none

def indexv (P : Program) (t : TypeId) (x i : AV) : Option AV :=
  match i with
  | .int _ n =>
    (match P.underlying t, x with
     | some (.array m e), .agg cs => if 0 ≤ n ∧ n < m then partT P e cs (n.toNat * P.cellsOf e) else none
     | some .string, .str s => if 0 ≤ n then (s[n.toNat]?).map fun b => .int .u8 b.toNat else none
     | _, _ => none)
  | _ => none

def bound? (x : Option AV) (d : Nat) : Option Nat :=
  match x with
  | none => some d
  | some (.int _ n) => if 0 ≤ n then some n.toNat else none
  | _ => none

def slicev (P : Program) (hp : Heap) (t : TypeId) (x : AV) (lo hi mx : Option AV) : Option AV :=
  match P.underlying t, x, mx with
  | some .string, .str s, none =>
    (bound? lo 0).bind fun l => (bound? hi s.length).bind fun h => if l ≤ h ∧ h ≤ s.length then some (.str ((s.take h).drop l)) else none
  | some (.slice e), .list sz es, none =>
    (bound? lo 0).bind fun l => (bound? hi es.length).bind fun h => if sz = P.cellsOf e ∧ 0 < sz ∧ l ≤ h ∧ h ≤ es.length then some (.list sz ((es.take h).drop l)) else none
  | some (.slice e), .nils, none =>
    if P.cellsOf e = 0 then none else (bound? lo 0).bind fun l => (bound? hi 0).bind fun h => if l ≤ h ∧ h ≤ 0 then some .nils else none
  | some (.slice e), .own id, none =>
    (rowAt hp id).bind fun r => (bound? lo 0).bind fun l => (bound? hi r.2.length).bind fun h => if r.1 = P.cellsOf e ∧ 0 < r.1 ∧ l ≤ h ∧ h ≤ r.2.length then some (.row id l (h - l)) else none
  | some (.slice e), .row id o n, none =>
    (rowAt hp id).bind fun r => (bound? lo 0).bind fun l => (bound? hi n).bind fun h => if r.1 = P.cellsOf e ∧ 0 < r.1 ∧ l ≤ h ∧ h ≤ n then some (.row id (o + l) (h - l)) else none
  | _, _, _ => none

/-! Slices of arrays that lie in boxes. -/
def arrT (P : Program) (t : TypeId) : Option (Nat × TypeId) :=
  match P.underlying t with
  | some (.array n e) => some (n, e)
  | some (.pointer ar) => (match P.underlying ar with | some (.array n e) => some (n, e) | _ => none)
  | _ => none
structure Win where
  id : Nat
  off : Nat
  len : Nat
  elem : TypeId
def winA (P : Program) (hp : Heap) (t : TypeId) (x : AV) (lo hi mx : Option AV) : Option Win :=
  match x, mx with
  | .ptr id 0 o, none => (arrT P t).bind fun q => (aget hp id).bind fun
    | .box _ v => (bound? lo 0).bind fun l => (bound? hi q.1).bind fun h =>
      if 0 < P.cellsOf q.2 ∧ l ≤ h ∧ h ≤ q.1 ∧ l < q.1 ∧ o + q.1 * P.cellsOf q.2 ≤ v.cells.length then some ⟨id, o + l * P.cellsOf q.2, h - l, q.2⟩ else none
    | _ => none
  | _, _ => none
def sliceW (P : Program) (hp : Heap) (t : TypeId) (x : AV) (lo hi mx : Option AV) : Option AV :=
  match winA P hp t x lo hi mx with
  | some q => if snapT.contains q.elem then none else some (.win q.id q.off q.len (P.cellsOf q.elem))
  | none => slicev P hp t x lo hi mx

/-! Maps: keys that are whole numbers, bools or strings. -/
def mapObj (hp : Heap) : AV → Option (List (Nat × AV × AV) × Nat)
  | .mp id => match aget hp id with | some (.map es k) => some (es, k) | _ => none
  | _ => none
def keyEq (d : Option TypeDesc) (a b : AV) : Option Bool :=
  match d, a, b with
  | some .bool, .bool x, .bool y => some (x == y)
  | some (.int _), .int k x, .int k' y => if k = k' then some (x == y) else none
  | some .string, .str x, .str y => some (x == y)
  | _, _, _ => none
def plainKey (d : Option TypeDesc) : Bool :=
  match d with
  | some .bool => true
  | some (.int _) => true
  | some .string => true
  | _ => false
def findA (d : Option TypeDesc) (k : AV) : List (Nat × AV × AV) → Nat → Option (Option (Nat × AV))
  | [], _ => some none
  | e :: r, i => (keyEq d k e.2.1).bind fun b => if b then some (some (i, e.2.2)) else findA d k r (i + 1)
def lookupA (P : Program) (hp : Heap) (t : TypeId) (m k : AV) (ok : Bool) : Option AV :=
  match P.underlying t with
  | some (.map kt et) =>
    (mapObj hp m).bind fun es =>
      if plainKey (P.underlying kt) then (findA (P.underlying kt) k es.1 0).bind fun
        | some (_, v) => some (if ok then .tup [v, .bool true] else v)
        | none => ((P.info? et).bind (·.zero)).map fun z => if ok then .tup [ofValue z, .bool false] else ofValue z
      else none
  | _ => none
/-- What a map that stands tells of a key: all keys are looked at; one at most is the same. -/
def cmFind (d : Option TypeDesc) (k : AV) : List (AV × AV) → Option (Option AV)
  | [] => some none
  | e :: r => (keyEq d k e.1).bind fun b => (cmFind d k r).bind fun x => if b then (if x.isNone then some (some e.2) else none) else some x
def lookupC (P : Program) (t : TypeId) (i : Nat) (k : AV) (ok : Bool) : Option AV :=
  match P.underlying t with
  | some (.map kt et) =>
      if plainKey (P.underlying kt) then (cmFind (P.underlying kt) k (cmOf i)).bind fun
        | some v => some (if ok then .tup [v, .bool true] else v)
        | none => ((P.info? et).bind (·.zero)).map fun z => if ok then .tup [ofValue z, .bool false] else ofValue z
      else none
  | _ => none
def isCM : AV → Option Nat
  | .cm i => some i
  | _ => none
def lookupV (P : Program) (hp : Heap) (t : TypeId) (m k : AV) (ok : Bool) : Option AV :=
  match isCM m with
  | some i => lookupC P t i k ok
  | none => lookupA P hp t m k ok
/-- The entry that an iterator stands at. -/
def entryA (hp : Heap) : AV → Option AV
  | .ptr n 0 0 => match aget hp n with
    | some (.iter v _ seen last) => (mapObj hp v).bind fun es => if es.2 = last then seen.getLast?.bind fun b => (es.1.find? fun e => e.1 == b).map fun e => .tup [e.2.1, e.2.2] else none
    | _ => none
  | _ => none

def lenv (P : Program) (hp : Heap) (t : TypeId) (x : AV) : Option AV :=
  match P.underlying t, x with
  | some (.map _ _), x => (mapObj hp x).map fun es => .int .i64 es.1.length
  | some .string, .str s => some (.int .i64 s.length)
  | some (.array n _), _ => some (.int .i64 n)
  | some (.slice _), .list _ es => some (.int .i64 es.length)
  | some (.slice _), .nils => some (.int .i64 0)
  | some (.slice _), .own id => (rowAt hp id).map fun r => .int .i64 r.2.length
  | some (.slice _), .row _ _ l => some (.int .i64 l)
  | _, _ => none

def capv (P : Program) (t : TypeId) (x : AV) : Option AV :=
  match P.underlying t, x with
  | some (.slice _), .nils => some (.int .i64 0)
  | _, _ => none

def minmax (mx : Bool) : AV → AV → Option AV
  | .int k x, .int k' y => if k = k' then some (.int k (if mx then (if x < y then y else x) else (if y < x then y else x))) else none
  | _, _ => none
def minmaxL (mx : Bool) (x : AV) : List AV → Option AV
  | [] => some x
  | y :: r => (minmax mx x y).bind fun z => minmaxL mx z r

def buildA (P : Program) (t : TypeId) (parts : List (Nat × AV)) : Option AV :=
  match P.underlying t, (P.info? t).bind (·.zero) with
  | some (.struct fs), some z =>
    if (fs.toList.all fun f => decide (0 < P.cellsOf f.type)) && (ofValue z).known then (fillA (fun i => (fs[i]?).map fun f => (f.offset, P.cellsOf f.type)) (ofValue z).cells parts).map .agg else none
  | some (.array _ e), some z => if 0 < P.cellsOf e ∧ (ofValue z).known = true then (fillA (fun i => some (i * P.cellsOf e, P.cellsOf e)) (ofValue z).cells parts).map .agg else none
  | _, _ => none

def isConst : Operand → Bool
  | .const _ => true
  | _ => false

/-- What an operation that only reads comes to. -/
def opv (P : Program) (ρ : Operand → AV) (hp : Heap) : Op → Option AV
  | .move x => some (ρ x)
  | .assign x => some (ρ x)
  | .pick c a b => match ρ c with | .bool t => some (if t then ρ a else ρ b) | _ => none
  | .binOp op t x y _ => match ρ x, ρ y with
    | .nili, .nili => (match op, P.underlying t with
      | .eql, some (.interface _) => if isConst x || isConst y then some (.bool true) else none
      | .neq, some (.interface _) => if isConst x || isConst y then some (.bool false) else none
      | _, _ => none)
    | a, b => binv P op t a b
  | .unOp op _ x => unv op (ρ x)
  | .convert s d x => convv P hp s d (ρ x)
  | .field t x f => match fieldOff P t f, ρ x with
    | some fd, .agg cs => partT P fd.type cs fd.offset
    | _, _ => none
  | .fieldAddr t x f => match fieldOff P t f, ρ x with
    | some fd, .ptr id i o => if P.cellsOf fd.type = 0 then none else some (.ptr id i (o + fd.offset))
    | some fd, .ep v o => if P.cellsOf fd.type = 0 ∨ v.cells.length ≤ o + fd.offset then none else some (.ep v (o + fd.offset))
    | _, _ => none
  | .indexAddr t x i => indexA P hp t (ρ x) (ρ i)
  | .index t x i => indexv P t (ρ x) (ρ i)
  | .load t a => match ρ a with
    | .ptr id i o => (aget hp id).bind fun ob => (objCells ob i).bind fun cs => partT P t cs o
    | .ep v o => partT P t v.cells o
    | _ => none
  | .extract x i => match ρ x with | .tup vs => vs[i]? | _ => none
  | .build t parts => buildA P t (parts.toList.map fun p => (p.1, ρ p.2))
  | .makeInterface t x => match P.underlying t with | some (.interface _) => none | some _ => some (.iface t (ρ x)) | none => none
  | .makeFunc f a b => some (.fn f (a.toList.map ρ) (b.toList.map ρ))
  | .nilCheck x => match ρ x with | .ptr id i o => some (.ptr id i o) | .ep v o => some (.ep v o) | .iface t v => some (.iface t v) | _ => none
  | .slice t x lo hi mx => sliceW P hp t (ρ x) (lo.map ρ) (hi.map ρ) (mx.map ρ)
  | .typeAssert x _ t ok => match P.underlying t, ρ x with
    | some (.interface _), _ => none
    | some _, .iface t' v => if t' = t then some (if ok then .tup [v, .bool true] else v) else (if ok then ((P.info? t).bind (·.zero)).map fun z => .tup [ofValue z, .bool false] else none)
    | some _, .nili => if ok then ((P.info? t).bind (·.zero)).map fun z => .tup [ofValue z, .bool false] else none
    | _, _ => none
  | .lookup t m k ok => lookupV P hp t (ρ m) (ρ k) ok
  | .entry it => entryA hp (ρ it)
  | .call c => match c.callee, c.args.toList, c.argTypes.toList with
    | .builtin .len, [x], [t] => lenv P hp t (ρ x)
    | .builtin .cap, [x], [t] => capv P t (ρ x)
    | .builtin .min, [x, y], _ => minmax false (ρ x) (ρ y)
    | .builtin .max, [x, y], _ => minmax true (ρ x) (ρ y)
    | _, _, _ => none
  | _ => none

end Go.Proofs.YteibklnligmanaaDoor.Abs


/- The abstract interpreter: operations, code, calls, loops; its limit; what a body comes to, its call comes to. -/
namespace Go.Proofs.YteibklnligmanaaDoor.Abs
open Go
set_option linter.unusedSimpArgs false
set_option linter.unusedVariables false

inductive ARes where
  | ret (v : AV)
  | pan (v : AV)
inductive AX where
  | normal
  | exit (id : Nat)
  | ret
  | pan (v : AV)
abbrev CallFn := FuncId → List AV → Heap → Option (ARes × Heap)
abbrev LoopFn := FuncId → Code → ASt → Option (AX × ASt)

/-- What a loop's head keeps: slots (with a size: a row that grows, and its elements' cells), and boxes (the cells that are rows that grow, with their elements' cells). -/
structure Keep where
  slots : List (Nat × Option (Nat × TypeId))
  boxes : List (Nat × List (Nat × Nat × TypeId))

/-- How a region that draws its order is gone through: what only reads first, as soon as it may be; then the one that may act; what only read is looked at again. -/
inductive PS where
  | n (i : Nat)
  | e (j : Nat) (re : List Nat)
  | sw (j k : Nat) (re : List Nat)

/-- What is kept behind a region, and which cells (of boxes) get rows of their own: name, cell, size. -/
structure Trim where
  slots : List Nat
  grow : List (Nat × Nat × Nat × TypeId)

structure Cfg where
  P : Program
  E : FuncId → Bool
  keep : FuncId → Nat → Option Keep
  inplace : FuncId → Nat → Bool
  retOwn : FuncId → Bool
  plan : FuncId → Nat → Option (List PS)
  roundOK : LRec → Bool
  ntm : FuncId → Nat
  dfr : FuncId → Bool
  ext : FuncId → Option (List AV → Option AV)
  live : FuncId → Nat → Option Trim
  /-- Whom a method's name leads to at a type; and whether its receiver is what the pointer points to. -/
  meth : TypeId → String → Option (FuncId × Option TypeId) := fun _ _ => none
  /-- Without a fence: then no round panics, and what is told of calls without a fence serves. -/
  wd : Bool := false

mutual
def AV.pureB : AV → Bool
  | .undef => false
  | .own _ => false
  | .row _ _ _ => false
  | .ptr _ _ _ => false
  | .yld _ => false
  | .mp _ => false
  | .win _ _ _ _ => false
  | .agg cs => AV.pureL cs
  | .tup vs => AV.pureL vs
  | .iface _ v => AV.pureB v
  | .fn _ a b => AV.pureL a && AV.pureL b
  | _ => true
def AV.pureL : List AV → Bool
  | [] => true
  | v :: r => AV.pureB v && AV.pureL r
end

inductive AR where
  | val (v : AV) (st : ASt)
  | pan (v : AV) (st : ASt)

def newObj (d : Nat) (o : AObj) (v : Nat → AV) (st : ASt) : Option AR :=
  if (aget st.hp (1000 + d)).isSome then none else some (.val (v (1000 + d)) { st with hp := (1000 + d, o) :: st.hp })

/-- A row's content changed; its fresh length may have moved it: no other way to it is left. -/
def hput (n : Nat) (o : AObj) (hp : Heap) : Heap := hmod (fun _ => o) n hp

def srcEls (hp : Heap) (k : Nat) : AV → Option (List AV)
  | .list sz es => if sz = k then some es else if sz = 0 ∧ es = [] then some [] else none
  | .nils => some []
  | .str s => if 1 = k then some (s.map fun b => .int .u8 b.toNat) else none
  | .own id => (aget hp id).bind fun | .row sz es _ _ => if sz = k then some es else none | _ => none
  | .row id o l => (aget hp id).bind fun | .row sz es _ _ => if sz = k ∧ o + l ≤ es.length then some ((es.drop o).take l) else none | _ => none
  | _ => none

/-- A cell that may be laid into memory. -/
def okCell : AV → Bool
  | .undef => false
  | .agg _ => false
  | .tup _ => false
  | _ => true
def okCells (v : AV) : Bool := v.cells.all okCell

def AV.isA : AV → Bool
  | .agg _ => true
  | _ => false
def storeA (G : Cfg) (t : TypeId) (a x : AV) (st : ASt) : Option ASt :=
  match a with
  | .ptr id i o =>
    (aget st.hp id).bind fun
      | .box T v =>
        if i = 0 ∧ okCells x ∧ ((G.P.info? t).isSome ∧ (0 < G.P.cellsOf t ∨ v.isA = true)) ∧ x.cells.length = G.P.cellsOf t ∧ o + x.cells.length ≤ v.cells.length then some { st with hp := hput id (.box T (reCell v (putA v.cells o x.cells))) st.hp } else none
      | .row sz es fx mv =>
        if fx || x.rows.contains id then none else
        (es[i]?).bind fun e =>
          let y := x.rv st.hp
          if y.pureB ∧ okCells y ∧ 0 < G.P.cellsOf t ∧ y.cells.length = G.P.cellsOf t ∧ o + y.cells.length ≤ e.cells.length then
            some { (st.fix x.rows) with hp := hput id (.row sz (es.set i (reCell e (putA e.cells o y.cells))) false mv) (hfix x.rows st.hp) }
          else none
      | _ => none
  | _ => none

/-- The zero value has as many cells as a variable. -/
def zeroFits (P : Program) (e : TypeId) : Bool :=
  match (P.info? e).bind (·.zero) with
  | some z => (ofValue z).known && (ofValue z).cells.length == P.cellsOf e
  | none => false

def appendA (G : Cfg) (d : Nat) (t xt : TypeId) (s x : AV) (st : ASt) : Option AR :=
  match G.P.underlying t with
  | some (.slice e) =>
    (match G.P.underlying xt with
     | some (.slice _) | some .string =>
      (srcEls st.hp (G.P.cellsOf e) x).bind fun xs =>
        if G.P.cellsOf e = 0 ∨ 4096 < ((G.P.info? e).map (·.bytes)).getD 4097 ∨ !zeroFits G.P e then none else
        match s with
        | .nils => if xs.length ≤ LIM then newObj d (.row (G.P.cellsOf e) xs false ⟨false, e⟩) .own st else none
        | .own id => (aget st.hp id).bind fun
          | .row sz es fx m => if sz = G.P.cellsOf e ∧ es.length + xs.length ≤ LIM ∧ m.t = e then some (.val (.own id) { (st.killn id) with hp := hput id (.row sz (es ++ xs) fx ⟨true, e⟩) (st.killn id).hp }) else none
          | _ => none
        | _ => none
     | some (.int _) => ((G.P.info? e).bind (·.zero)).bind fun z =>
        (match s, x with
         | .nils, .int .i64 n => if 0 < n ∧ n ≤ LIM ∧ ((G.P.info? e).map (·.bytes)).getD 4097 ≤ 4096 ∧ (ofValue z).pureB ∧ okCells (ofValue z) ∧ 0 < G.P.cellsOf e ∧ (ofValue z).cells.length = G.P.cellsOf e then newObj d (.row (G.P.cellsOf e) (List.replicate n.toNat (ofValue z)) false ⟨false, e⟩) .own st else none
         | _, _ => none)
     | _ => none)
  | _ => none

/-- A row of the call's own is cut to its beginning; it is told no other way. -/
def cutA (hp : Heap) (x : AV) (lo hi mx : Option AV) : Option (Nat × Nat × TypeId × List AV) :=
  match x, lo, hi, mx with
  | .own id, none, some (.int .i64 n), none => (aget hp id).bind fun
    | .row sz es false m => if 0 < sz ∧ 0 ≤ n ∧ n.toNat ≤ es.length then some (id, sz, m.t, es.take n.toNat) else none
    | _ => none
  | _, _, _, _ => none
def ASt.cut (st : ASt) (q : Nat × Nat × TypeId × List AV) : ASt := { sl := (st.killn q.1).sl, hp := hput q.1 (.row q.2.1 q.2.2.2 false ⟨true, q.2.2.1⟩) (st.killn q.1).hp }

def reachL : Nat → Heap → List Nat → List Nat → List Nat
  | 0, _, _, acc => acc
  | _ + 1, _, [], acc => acc
  | k + 1, hp, n :: r, acc => if n ∈ acc then reachL k hp r acc else reachL k hp (r ++ ((aget hp n).map AObj.names).getD []) (acc ++ [n])

def AObj.unmv : AObj → AObj
  | .row sz es fx m => .row sz es fx ⟨false, m.t⟩
  | o => o
def AObj.moved : AObj → Bool
  | .row _ _ _ m => m.mv
  | _ => false
def AObj.isRow : AObj → Bool
  | .row _ _ _ _ => true
  | _ => false
def AObj.ormv (b : Bool) : AObj → AObj
  | .row sz es fx m => .row sz es fx ⟨b || m.mv, m.t⟩
  | o => o

def newName (d k : Nat) : Nat := 1000000 * (k + 1) + d

def zipIx {α : Type} : List α → Nat → List (Nat × α)
  | [], _ => []
  | x :: r, i => (i, x) :: zipIx r (i + 1)

/-- The arguments as they are handed over: rows as lists, but where a callee may write them. -/
def prepL (G : Cfg) (g : FuncId) (hp : Heap) : List AV → Nat → List AV
  | [], _ => []
  | a :: r, j => (if G.inplace g j then a else a.rv hp) :: prepL G g hp r (j + 1)
def prepRows (G : Cfg) (g : FuncId) : List AV → Nat → List Nat
  | [], _ => []
  | a :: r, j => (if G.inplace g j then [] else a.rows) ++ prepRows G g r (j + 1)

def killAll (st : ASt) (ns : List Nat) : ASt := ns.foldl ASt.killn st

/-- What is handed over, under the callee's names: 0, 1, 2, and on. -/
def toMap (ns : List Nat) : List (Nat × Nat) := (zipIx ns 0).map fun p => (p.2, p.1)
def subHeap (ns : List Nat) (hp : Heap) : Heap := (zipIx ns 0).filterMap fun p => (aget hp p.2).map fun o => (p.1, (o.ren (toMap ns)).unmv)
/-- The callee's names, in the caller. -/
def backName (ns : List Nat) (d : Option Nat) (k : Nat) : Nat := match aget (zipIx ns 0) k with | some n => n | none => newName (d.getD 0) k
def backMap (ns : List Nat) (d : Option Nat) (hp1 : Heap) : List (Nat × Nat) := hp1.map fun p => (p.1, backName ns d p.1)
def movedOf (ns : List Nat) (hp1 : Heap) : List Nat := hp1.filterMap fun p => if p.2.moved then aget (zipIx ns 0) p.1 else none
def afterHeap (d : Option Nat) (ns : List Nat) (hp hp1 : Heap) : Heap :=
  (hp1.map fun p => (backName ns d p.1, (p.2.ren (backMap ns d hp1)).ormv (((aget hp (backName ns d p.1)).map AObj.moved).getD false))) ++ hp
def afterCall (d : Option Nat) (ns : List Nat) (st1 : ASt) (hp1 : Heap) : Option ASt :=
  if ((zipIx ns 0).all fun p => (aget hp1 p.1).isSome) && (hp1.all fun p => ((aget (zipIx ns 0) p.1).isSome || (aget st1.hp (backName ns d p.1)).isNone) && (p.2.isRow || !((aget st1.hp (backName ns d p.1)).map AObj.moved).getD false)) then
    some { killAll st1 (movedOf ns hp1) with hp := afterHeap d ns (killAll st1 (movedOf ns hp1)).hp hp1 }
  else none
def answered (m : List (Nat × Nat)) (st : ASt) : ARes → AR
  | .ret v => .val (v.ren m) st
  | .pan v => .pan (v.ren m) st

/-- A round is told as the call of a function of its own: behind all functions. -/
def RB : Nat := 1000000000

/-- What a call comes to, and the rows that were moved in it. -/
def callB (G : Cfg) (call : CallFn) (d : Option Nat) (fv : AV) (args : List AV) (st : ASt) : Option (AR × List Nat) :=
  match fv with
  | .fn (.func g) first caps =>
    let all := first ++ args ++ caps
    let pre := prepL G g st.hp all 0
    let st1 := st.fix (prepRows G g all 0)
    let ns := reachL 40 st1.hp (AV.namesL pre) []
    if G.E g && decide (g < RB) && ns.all fun n => (aget st1.hp n).isSome then
      (call g (AV.renL (toMap ns) pre) (subHeap ns st1.hp)).bind fun y => (afterCall d ns st1 y.2).map fun st3 => (answered (backMap ns d y.2) st3 y.1, movedOf ns y.2)
    else none
  | .yld id =>
    let pre := AV.rvL st.hp args
    let st1 := st.fix (AV.rowsL args)
    let ns := reachL 40 st1.hp (id :: AV.namesL pre) []
    if ns.all fun n => (aget st1.hp n).isSome then
      (aget (toMap ns) id).bind fun j => (call (RB + j) (AV.renL (toMap ns) pre) (subHeap ns st1.hp)).bind fun y => (afterCall d ns st1 y.2).map fun st3 => (answered (backMap ns d y.2) st3 y.1, movedOf ns y.2)
    else none
  | _ => none
def callA (G : Cfg) (call : CallFn) (d : Option Nat) (fv : AV) (args : List AV) (st : ASt) : Option AR := (callB G call d fv args st).map (·.1)

/-! Maps -/
def isMapT (P : Program) (t : TypeId) : Bool :=
  match P.underlying t with
  | some (.map _ _) => true
  | _ => false
def setM (k y : AV) (clk : Nat) (es : List (Nat × AV × AV)) : Option (Nat × AV) → AObj
  | some r => .map (es.modify r.1 fun e => (e.1, k, y)) clk
  | none => .map (es ++ [(clk, k, y)]) (clk + 1)
def updA (G : Cfg) (t : TypeId) (m k x : AV) (st : ASt) : Option ASt :=
  match G.P.underlying t, m with
  | some (.map kt _), .mp id =>
    (aget st.hp id).bind fun
      | .map es clk =>
        if plainKey (G.P.underlying kt) && k.pureB && (x.rv st.hp).pureB && !x.rows.contains id then
          (findA (G.P.underlying kt) k es 0).map fun r => { (st.fix x.rows) with hp := hput id (setM k (x.rv st.hp) clk es r) (hfix x.rows st.hp) }
        else none
      | _ => none
  | _, _ => none
def delA (G : Cfg) (t : TypeId) (m k : AV) (st : ASt) : Option ASt :=
  match G.P.underlying t, m with
  | some (.map kt _), .mp id =>
    (aget st.hp id).bind fun
      | .map es clk =>
        if plainKey (G.P.underlying kt) then
          (findA (G.P.underlying kt) k es 0).map fun
            | some r => { st with hp := hput id (.map (es.eraseIdx r.1) clk) st.hp }
            | none => { st with hp := hput id (.map es clk) st.hp }
        else none
      | _ => none
  | _, _ => none

def isStringT (P : Program) (t : TypeId) : Bool :=
  match P.underlying t with
  | some .string => true
  | _ => false

def dropSt (n : Nat) (s : ASt) : ASt := { sl := s.sl.map fun p => (p.1, p.2.kill n), hp := (s.hp.filter fun p => p.1 != n).map fun p => (p.1, p.2.kill n) }
/-! Slices of arrays that lie in boxes. -/
def partsA (ag : Bool) (sz : Nat) (cs : List AV) : Nat → Nat → Option (List AV)
  | _, 0 => some []
  | o, n + 1 => (partA ag sz cs o).bind fun e => (partsA ag sz cs (o + sz) n).map fun r => e :: r
/-- The slice is told as a list that stands; nobody leads to the array any more. -/
def snapA (G : Cfg) (q : Win) (st : ASt) : Option AR :=
  (aget st.hp q.id).bind fun
    | .box _ v => (partsA (isAggT G.P q.elem) (G.P.cellsOf q.elem) v.cells q.off q.len).bind fun es =>
      if (es.all fun e => e.pureB) ∧ (es.all fun e => okCells e && e.cells.length == G.P.cellsOf q.elem) ∧ v.cells.all okCell then some (.val (.list (G.P.cellsOf q.elem) es) (dropSt q.id st)) else none
    | _ => none
def winX (G : Cfg) (q : Win) (st : ASt) : Option AR :=
  if snapT.contains q.elem then snapA G q st else some (.val (.win q.id q.off q.len (G.P.cellsOf q.elem)) st)
/-- Copied within one array. -/
def copyA (G : Cfg) (t : TypeId) (x y : AV) (st : ASt) : Option (Nat × ASt) :=
  match G.P.underlying t, x, y with
  | some (.slice e), .win id o l s, .win id' o' l' s' =>
    if id = id' ∧ s = G.P.cellsOf e ∧ s' = G.P.cellsOf e ∧ 0 < s then (aget st.hp id).bind fun
      | .box T v =>
        let n := Nat.min l' l
        let new := (v.cells.drop o').take (n * s)
        if o + n * s ≤ v.cells.length ∧ o' + n * s ≤ v.cells.length ∧ new.all okCell ∧ (0 < n ∨ v.isA = true) then some (n, { st with hp := hput id (.box T (reCell v (putA v.cells o new))) st.hp }) else none
      | _ => none
    else none
  | _, _, _ => none
def aopB (G : Cfg) (o : Oper) (st : ASt) : Option AR :=
  match o.op with
  | .alloc e =>
    o.dst.bind fun d => ((G.P.info? e).bind (·.zero)).bind fun z =>
      if okCells (ofValue z) ∧ (ofValue z).cells.length = G.P.cellsOf e then newObj d (.box e (ofValue z)) (fun n => .ptr n 0 0) st else none
  | .box e x =>
    o.dst.bind fun d => if 0 < G.P.cellsOf e ∧ okCells (st.ev x) ∧ (st.ev x).cells.length = G.P.cellsOf e then newObj d (.box e (st.ev x)) (fun n => .ptr n 0 0) st else if G.P.cellsOf e = 0 then some (.val .undef st) else none
  | .buildSlice t len parts =>
    o.dst.bind fun d => (elemOf? G.P t).bind fun e =>
      let vs := parts.toList.map fun p => st.ev p.2
      let ys := AV.rvL st.hp vs
      if parts.toList.map (·.1) = List.range len ∧ ((G.P.info? e).bind (·.zero)).isSome ∧ AV.pureL ys ∧ (ys.all fun y => okCells y && y.cells.length == G.P.cellsOf e) ∧ 0 < G.P.cellsOf e ∧ len * G.P.cellsOf e ≤ 16777216 then
        newObj d (.row (G.P.cellsOf e) ys false ⟨false, e⟩) .own (st.fix (AV.rowsL vs))
      else none
  | .store t a x => (storeA G t (st.ev a) (st.ev x) st).map fun s => .val .undef s
  | .panic x => match st.ev x with
    | .iface t v => some (.pan ((AV.iface t v).rv st.hp) (st.fix (AV.iface t v).rows))
    | _ => none
  | .convert s t x =>
    match G.P.underlying t, st.ev x with
    | some (.slice e), .str l =>
      (match G.P.underlying e with
       | some (.int .u8) => o.dst.bind fun d => if isStringT G.P s && byT e then newObj d (.row 1 (l.map fun b => .int .u8 b.toNat) false ⟨false, e⟩) .own st else none
       | _ => none)
    | _, _ => (convv G.P st.hp s t (st.ev x)).map fun v => .val v st
  | .makeSlice t l c =>
    o.dst.bind fun d => (elemOf? G.P t).bind fun e => ((G.P.info? e).bind (·.zero)).bind fun z =>
      match st.ev l, st.ev c with
      | .int .i64 n, .int .i64 m =>
        if 0 ≤ n ∧ n ≤ m ∧ m ≤ LIM ∧ ((G.P.info? e).map (·.bytes)).getD 4097 ≤ 4096 ∧ (ofValue z).pureB ∧ okCells (ofValue z) ∧ 0 < G.P.cellsOf e ∧ (ofValue z).cells.length = G.P.cellsOf e then newObj d (.row (G.P.cellsOf e) (List.replicate n.toNat (ofValue z)) false ⟨false, e⟩) .own st else none
      | _, _ => none
  | .makeMap t r => o.dst.bind fun d => if isMapT G.P t && r.isNone then newObj d (.map [] 0) .mp st else none
  | .mapUpdate t m k x => (updA G t (st.ev m) (st.ev k) (st.ev x) st).map fun s => .val .undef s
  | .insert t m k x => (updA G t (st.ev m) (st.ev k) (st.ev x) st).map fun s => .val .undef s
  | .range t x => o.dst.bind fun d => if isMapT G.P t then (mapObj st.hp (st.ev x)).bind fun es => newObj d (.iter (st.ev x) es.2 [] es.2) (fun n => .ptr n 0 0) st else none
  | .call c =>
    match c.callee, c.args.toList, c.argTypes.toList with
    | .builtin .append, [s, x], [t, xt] => o.dst.bind fun d => appendA G d t xt (st.ev s) (st.ev x) st
    | .builtin .delete, [m, k], t :: _ => (delA G t (st.ev m) (st.ev k) st).map fun s => .val (.tup []) s
    | .builtin .copy, [x, y], t :: _ => (copyA G t (st.ev x) (st.ev y) st).map fun q => .val (.int .i64 q.1) q.2
    | _, _, _ => (opv G.P st.ev st.hp o.op).map fun v => .val v st
  | .slice t x lo hi mx =>
    match winA G.P st.hp t (st.ev x) (lo.map st.ev) (hi.map st.ev) (mx.map st.ev) with
    | some q => winX G q st
    | none =>
    match cutA st.hp (st.ev x) (lo.map st.ev) (hi.map st.ev) (mx.map st.ev) with
    | some q => if (elemOf? G.P t).map (G.P.cellsOf ·) = some q.2.1 then some (.val (.own q.1) (st.cut q)) else none
    | none => (opv G.P st.ev st.hp o.op).map fun v => .val v st
  | op => (opv G.P st.ev st.hp op).map fun v => .val v st

/-- The function value that is called, and its arguments. -/
def calledA : Op → Option (Operand × List Operand)
  | .call c => match c.callee with | .value f => some (f, c.args.toList) | _ => none
  | _ => none
def extA (G : Cfg) (fv : AV) (args : List AV) : Option AV :=
  match fv with
  | .fn (.func g) first caps => (G.ext g).bind fun p => p (first ++ args ++ caps)
  | _ => none
/-- The interface value whose method is called, the method, the arguments. -/
def invokedA : Op → Option (Operand × String × List Operand)
  | .call c => match c.callee with | .invoke r n => some (r, n, c.args.toList) | _ => none
  | _ => none
def recvA (G : Cfg) (st : ASt) (v : AV) : Option TypeId → Option AV
  | none => some v
  | some te => opv G.P (fun _ => v) st.hp (.load te (.tmp 0))
def invA (G : Cfg) (call : CallFn) (d : Option Nat) (r : AV) (name : String) (args : List AV) (st : ASt) : Option AR :=
  match r with
  | .iface t v => (G.meth t name).bind fun m => (recvA G st v m.2).bind fun u => callA G call d (.fn (.func m.1) [] []) (u :: args) st
  | _ => none
def aop (G : Cfg) (call : CallFn) (o : Oper) (st : ASt) : Option AR :=
  match calledA o.op with
  | some (f, l) => (match extA G (st.ev f) (l.map st.ev) with
    | some v => some (.val v st)
    | none => callA G call o.dst (st.ev f) (l.map st.ev) st)
  | none => (match invokedA o.op with
    | some (r, n, l) => invA G call o.dst (st.ev r) n (l.map st.ev) st
    | none => aopB G o st)

/-- A guard: the named operation's answer. -/
def guardA (ops : Array Oper) (st : ASt) (o : Oper) : Option Bool :=
  match o.guard with
  | none => some true
  | some (j, want) =>
    match (ops[j]?).bind (·.dst) with
    | some d => (match st.slot d with | .bool b => some (b == want) | .tup [] => some false | _ => none)
    | none => none

mutual
def AV.beq : AV → AV → Bool
  | .undef, .undef => true
  | .bool a, .bool b => a == b
  | .int k a, .int l b => decide (k = l) && a == b
  | .str a, .str b => a == b
  | .nilp, .nilp => true
  | .nils, .nils => true
  | .nilf, .nilf => true
  | .nilm, .nilm => true
  | .nili, .nili => true
  | .list s a, .list t b => s == t && AV.beqL a b
  | .ep v o, .ep u p => AV.beq v u && o == p
  | .own a, .own b => a == b
  | .row a b c, .row d e f => a == d && b == e && c == f
  | .ptr a b c, .ptr d e f => a == d && b == e && c == f
  | .agg a, .agg b => AV.beqL a b
  | .tup a, .tup b => AV.beqL a b
  | .iface t a, .iface u b => t == u && AV.beq a b
  | .fn (.func f) a b, .fn (.func g) c d => f == g && AV.beqL a c && AV.beqL b d
  | .yld a, .yld b => a == b
  | .mp a, .mp b => a == b
  | .win a b c d, .win e f g h => a == e && b == f && c == g && d == h
  | .cm a, .cm b => a == b
  | _, _ => false
def AV.beqL : List AV → List AV → Bool
  | [], [] => true
  | a :: x, b :: y => AV.beq a b && AV.beqL x y
  | _, _ => false
end

/-- What an operation that only reads yields, or one that is not wanted. -/
def bsv (G : Cfg) (st : ASt) (t : TypeId) (len : Nat) (parts : Array (Nat × Operand)) : Option AV :=
  (elemOf? G.P t).bind fun e =>
    let vs := parts.toList.map fun p => st.ev p.2
    if parts.toList.map (·.1) = List.range len ∧ ((G.P.info? e).bind (·.zero)).isSome = true ∧ AV.pureL vs = true ∧ (vs.all fun y => okCells y && y.cells.length == G.P.cellsOf e) = true ∧ 0 < G.P.cellsOf e ∧ len * G.P.cellsOf e ≤ 16777216 then some (.list (G.P.cellsOf e) vs) else none
/-- What an operation that only reads, or lays a literal of plain things, yields. -/
def nopv (G : Cfg) (st : ASt) : Op → Option AV
  | .buildSlice t len parts => bsv G st t len parts
  | op => opv G.P st.ev st.hp op
/-- What is skipped: whom it would call is one of the program's, or nothing. -/
def skipV : AV → Bool
  | .fn (.func g) _ _ => decide (g < NF)
  | .tup [] => true
  | _ => false
def skipI : AV → String → Bool
  | .iface t _, n => (metT.lookup (t, n)).isSome
  | .tup [], _ => true
  | _, _ => false
def skipA (st : ASt) : Op → Bool
  | .call c => (match c.callee with | .value (.tmp t) => skipV (st.slot t) | .invoke (.tmp t) n => skipI (st.slot t) n | _ => true)
  | _ => true
def nval (G : Cfg) (ops : Array Oper) (st : ASt) (o : Oper) : Option AV :=
  (guardA ops st o).bind fun g => if g then nopv G st o.op else some (.tup [])
def stepE (G : Cfg) (call : CallFn) (ops : Array Oper) (st : ASt) (o : Oper) : Option AR :=
  (guardA ops st o).bind fun g => if g then aop G call o st else if skipA st o.op then some (.val (.tup []) st) else none
def again (G : Cfg) (ops : Array Oper) (s : ASt) (i : Nat) : Bool :=
  match ops[i]? with
  | some o => (match nval G ops s o, o.dst with | some v, some d => AV.beq v (s.slot d) | _, _ => false)
  | none => false
/-- Two that make a box each, in whatever order. -/
def allocB : Option Oper → Option Oper → Bool
  | some ⟨some d, .alloc _, _, _, _, none⟩, some ⟨some d', .alloc _, _, _, _, none⟩ => d != d'
  | _, _ => false
def swStep (G : Cfg) (ops : Array Oper) (re : List Nat) (st : ASt) : Option Oper → Option ASt
  | some o => (match aopB G o st with
    | some (.val v s) => if re.all (again G ops (s.put o.dst v)) then some (s.put o.dst v) else none
    | _ => none)
  | none => none
def runPlan (G : Cfg) (call : CallFn) (ops : Array Oper) : List PS → ASt → Option (AX × ASt)
  | [], st => some (.normal, st)
  | .n i :: r, st => (ops[i]?).bind fun o => (nval G ops st o).bind fun v => runPlan G call ops r (st.put o.dst v)
  | .e j re :: r, st => (ops[j]?).bind fun o => (stepE G call ops st o).bind fun
    | .val v s => if re.all (again G ops (s.put o.dst v)) then runPlan G call ops r (s.put o.dst v) else none
    | .pan v s => if (calledA o.op).isSome then some (.pan v, { sl := [], hp := s.hp }) else none
  | .sw j k re :: r, st => if allocB ops[j]? ops[k]? then (swStep G ops re st ops[k]?).bind fun _ => (swStep G ops re st ops[j]?).bind fun s => (swStep G ops re s ops[k]?).bind fun s' => runPlan G call ops r s' else none

def aops (G : Cfg) (call : CallFn) (ops : Array Oper) : List Nat → ASt → Option (AX × ASt)
  | [], st => some (.normal, st)
  | i :: r, st =>
    match ops[i]? with
    | none => aops G call ops r st
    | some o =>
      (guardA ops st o).bind fun g =>
        if g then
          (aop G call o st).bind fun
            | .val v s => aops G call ops r (s.put o.dst v)
            | .pan v s => some (.pan v, s)
        else if skipA st o.op then aops G call ops r (st.put o.dst (.tup [])) else none

def firstRegion : Code → Nat
  | .region id _ _ => id
  | .seq a _ => firstRegion a
  | .block _ b => firstRegion b
  | .scope b => firstRegion b
  | .loop b => firstRegion b
  | _ => 100000

/-- A place that holds a row that grows: it gets its own name. -/
def ownStep (cn : Nat) (sz : Nat × TypeId) (v : AV) (st : ASt) : Option (Nat × ASt) :=
  match v with
  | .nils => if (aget st.hp cn).isSome then none else some (cn, { st with hp := (cn, .row sz.1 [] false ⟨false, sz.2⟩) :: st.hp })
  | .own m =>
    if m = cn ∨ m < 1000 then some (m, st) else
    if (aget st.hp cn).isSome then none else
    (aget st.hp m).bind fun
      | .row sz es fx mv => some (cn, let s := st.killn m; { s with hp := (cn, .row sz es fx mv) :: (s.hp.filter fun p => p.1 != m) })
      | _ => none
  | _ => none

def canonSlot (s : Nat × Option (Nat × TypeId)) (st : ASt) : Option ASt :=
  match s.2 with
  | some sz => (ownStep (5000 + s.1) sz (st.slot s.1) st).map fun p => { p.2 with sl := (s.1, .own p.1) :: p.2.sl }
  | none => some (let v := st.slot s.1; { (st.fix v.rows) with sl := (s.1, v.rv st.hp) :: st.sl })

def canonCell (n j : Nat) (sz : Nat × TypeId) (st : ASt) : Option ASt :=
  (aget st.hp n).bind fun
    | .box _ v => (v.cells[j]?).bind fun c => (ownStep (100000 + n * 100 + j) sz c st).bind fun p =>
      (aget p.2.hp n).bind fun
        | .box T w => some { p.2 with hp := hput n (.box T (reCell w (w.cells.set j (.own p.1)))) p.2.hp }
        | _ => none
    | _ => none

def canonAll {α : Type} (f : α → ASt → Option ASt) : List α → ASt → Option ASt
  | [], st => some st
  | x :: r, st => (f x st).bind (canonAll f r)

/-- The rows of a box's other cells as lists. -/
def pureCells (hp : Heap) (own : List Nat) : List AV → Nat → List AV
  | [], _ => []
  | c :: r, j => (if j ∈ own then c else c.rv hp) :: pureCells hp own r (j + 1)
def pureRows (own : List Nat) : List AV → Nat → List Nat
  | [], _ => []
  | c :: r, j => (if j ∈ own then [] else c.rows) ++ pureRows own r (j + 1)
def canonBox (b : Nat × List (Nat × Nat × TypeId)) (st : ASt) : Option ASt :=
  let own := b.2.map (·.1)
  match aget st.hp b.1 with
  | some (.box T v) => some { (st.fix (pureRows own v.cells 0)) with hp := hput b.1 (.box T (reCell v (pureCells st.hp own v.cells 0))) (hfix (pureRows own v.cells 0) st.hp) }
  | _ => none

/-- Only what is kept is left. -/
def restrictTo (slots names : List Nat) (st : ASt) : ASt :=
  { sl := slots.map fun t => (t, (st.slot t).ren (names.map fun n => (n, n))), hp := names.filterMap fun n => (aget st.hp n).map fun o => (n, o.ren (names.map fun n => (n, n))) }

def canon (G : Cfg) (f : FuncId) (c : Code) (st : ASt) : Option ASt :=
  (G.keep f (firstRegion c)).bind fun K =>
    (canonAll (fun p s => canonAll (fun (j : Nat × Nat × TypeId) s => canonCell p.1 j.1 j.2 s) p.2 s) K.boxes st).bind fun st1 =>
    (canonAll canonSlot K.slots st1).bind fun st2 =>
    (canonAll canonBox K.boxes st2).bind fun st3 =>
      let names := reachL 60 st3.hp ((List.range 12) ++ K.boxes.map (·.1) ++ AV.namesL (K.slots.map fun s => st3.slot s.1)) []
      some (restrictTo (K.slots.map (·.1)) (names.filter fun n => (aget st3.hp n).isSome) st3)

def isFn : AV → Bool
  | .fn (.func _) _ _ => true
  | _ => false
/-- How a round is left; and what the loop does next. -/
def jumpOf : AX → Option (Option Code)
  | .normal => some none
  | .exit id => some (some (.exit id))
  | .ret => some (some .ret)
  | .pan _ => none
def jumpX : Option Code → Option AX
  | none => some .normal
  | some (.exit id) => some (.exit id)
  | some .ret => some .ret
  | _ => none

/-- Only the slots that are looked at later are kept. -/
def ASt.trim (st : ASt) (L : Option Trim) : ASt :=
  match L with
  | some l => { st with sl := l.slots.map fun t => (t, st.slot t) }
  | none => st
/-- A region's end: cells that grow get rows of their own; slots that nobody looks at go. -/
def growX (L : Option Trim) (y : AX × ASt) : Option (AX × ASt) :=
  match L, y.1 with
  | some t, .normal => (canonAll (fun (p : Nat × Nat × Nat × TypeId) s => canonCell p.1 p.2.1 p.2.2 s) t.grow y.2).map fun s => (.normal, s.trim L)
  | _, x => some (x, y.2.trim L)
/-- May this region's operations be done in whatever order the edges let? (Told in a text of its own: here: none that draws.) -/
def codeX (G : Cfg) (call : CallFn) (loop : LoopFn) (f : FuncId) : Code → ASt → Option (AX × ASt)
  | .skip, st => some (.normal, st)
  | .label _, st => some (.normal, st)
  | .region id ops draw, st => (if draw then (G.plan f id).bind fun p => runPlan G call ops p st else aops G call ops (List.range ops.size) st).bind (growX (G.live f id))
  | .seq a b, st =>
    (codeX G call loop f a st).bind fun
      | (.normal, s) => codeX G call loop f b s
      | r => some r
  | .cond c a b, st =>
    match st.ev c with
    | .bool t => if t then codeX G call loop f a st else codeX G call loop f b st
    | _ => none
  | .block id b, st =>
    (codeX G call loop f b st).bind fun
      | (.exit i, s) => some (if i = id then .normal else .exit i, s)
      | r => some r
  | .loop b, st => (canon G f b st).bind (loop f b)
  | .exit id, st => some (.exit id, st)
  | .ret, st => some (.ret, st)
  | .rangeFunc g ps asg body, st =>
    if (aget st.hp (20000 + firstRegion body)).isSome || !G.roundOK ⟨f, G.ntm f, ps, asg, body, .ready, none, !G.wd⟩ || !isFn (st.ev g) then none else
    (callB G call (some (30000 + firstRegion body)) (st.ev g) [.yld (20000 + firstRegion body)] { st with hp := (20000 + firstRegion body, .loop ⟨f, G.ntm f, ps, asg, body, .ready, none, !G.wd⟩ st.sl) :: st.hp }).bind fun y =>
      match y.1 with
      | .pan v s => some (.pan v, s)
      | .val _ s =>
        if y.2.contains (20000 + firstRegion body) then none else
        match aget s.hp (20000 + firstRegion body) with
        | some (.loop r sl) =>
          if r.state = .busy then none else
          (jumpX r.pending).map fun x => (x, { s with hp := hput (20000 + firstRegion body) (.loop { r with state := .exhausted } sl) s.hp })
        | _ => none
  | _, _ => none

/-! A loop over a map: each entry that is left may be the next one; all must come to the same. -/
def entBeq : List (Nat × AV × AV) → List (Nat × AV × AV) → Bool
  | [], [] => true
  | a :: x, b :: y => a.1 == b.1 && AV.beq a.2.1 b.2.1 && AV.beq a.2.2 b.2.2 && entBeq x y
  | _, _ => false
def AObj.beq : AObj → AObj → Bool
  | .box t v, .box t' v' => t == t' && AV.beq v v'
  | .row sz es fx m, .row sz' es' fx' m' => sz == sz' && AV.beqL es es' && fx == fx' && decide (m = m')
  | .map es k, .map es' k' => entBeq es es' && k == k'
  | .iter v a b c, .iter v' a' b' c' => AV.beq v v' && a == a' && b == b' && c == c'
  | _, _ => false
def slBeq : Slots → Slots → Bool
  | [], [] => true
  | a :: x, b :: y => a.1 == b.1 && AV.beq a.2 b.2 && slBeq x y
  | _, _ => false
def hpBeq : Heap → Heap → Bool
  | [], [] => true
  | a :: x, b :: y => a.1 == b.1 && AObj.beq a.2 b.2 && hpBeq x y
  | _, _ => false
def AX.beq : AX → AX → Bool
  | .normal, .normal => true
  | .exit i, .exit j => i == j
  | .ret, .ret => true
  | .pan v, .pan u => AV.beq v u
  | _, _ => false
def resBeq (x y : AX × ASt) : Bool := AX.beq x.1 y.1 && slBeq x.2.sl y.2.sl && hpBeq x.2.hp y.2.hp
def sameAll : List (Option (AX × ASt)) → Option (AX × ASt)
  | [] => none
  | r :: l => if l.isEmpty then r else (sameAll l).bind fun y => r.bind fun x => if resBeq x y then some y else none
/-- A loop whose body begins with a step of an iterator: the step's region; the iterator, the step's answer, whether there was one more; what is behind the region. -/
def mapRegion (id : Nat) (ops : Array Oper) (cnd rest : Code) : Option (Nat × Nat × Nat × Nat × Code × Code) :=
  match ops.toList with
  | [⟨some nx, .next (.tmp it) false, _, _, _, none⟩, ⟨some mo, .extract (.tmp nx') 0, _, _, _, none⟩] => if nx' = nx ∧ mo ≠ nx then some (id, it, nx, mo, cnd, rest) else none
  | _ => none
def mapHead : Code → Option (Nat × Nat × Nat × Nat × Code × Code)
  | .seq (.seq (.region id ops false) cnd) rest => mapRegion id ops cnd rest
  | .seq (.region id ops false) (.seq cnd rest) => mapRegion id ops cnd rest
  | _ => none
def nextSt (st : ASt) (n nx mo : Nat) (v : AV) (since : Nat) (seen : List Nat) (clk : Nat) : Option (Nat × AV × AV) → ASt
  | none => { sl := (mo, .bool false) :: (nx, .tup [.bool false]) :: st.sl, hp := st.hp }
  | some e => { sl := (mo, .bool true) :: (nx, .tup [.bool true, e.2.1, e.2.2]) :: st.sl, hp := hput n (.iter v since (seen ++ [e.1]) clk) st.hp }
def dropX (n : Nat) : AX → AX
  | .pan v => .pan (v.kill n)
  | x => x
def mapBranch (G : Cfg) (call : CallFn) (loop : LoopFn) (f : FuncId) (c c2 : Code) (id n : Nat) (s : ASt) : Option (AX × ASt) :=
  (growX (G.live f id) (.normal, s)).bind fun y => (codeX G call loop f c2 y.2).bind fun
    | (.normal, s) => (canon G f c s).bind (loop f c)
    | (x, s) => some (dropX n x, dropSt n s)
def mapStep (G : Cfg) (call : CallFn) (loop : LoopFn) (f : FuncId) (c : Code) (st : ASt) (q : Nat × Nat × Nat × Nat × Code × Code) : Option (AX × ASt) :=
  match st.slot q.2.1 with
  | .ptr n 0 0 =>
    (match aget st.hp n with
     | some (.iter v since seen last) => (mapObj st.hp v).bind fun es =>
        if (es.1.all fun e => decide (e.1 < since)) && decide (since ≤ last) then
          sameAll ((if (es.1.filter fun e => !seen.contains e.1).isEmpty then [none] else (es.1.filter fun e => !seen.contains e.1).map some).map fun e =>
            mapBranch G call loop f c (.seq q.2.2.2.2.1 q.2.2.2.2.2) q.1 n (nextSt st n q.2.2.1 q.2.2.2.1 v since seen es.2 e))
        else none
     | _ => none)
  | _ => none
def loopStep0 (G : Cfg) (call : CallFn) (loop : LoopFn) (f : FuncId) (c : Code) (st : ASt) : Option (AX × ASt) :=
  (codeX G call loop f c st).bind fun
    | (.normal, s) => (canon G f c s).bind (loop f c)
    | r => some r
def loopStep (G : Cfg) (call : CallFn) (loop : LoopFn) (f : FuncId) (c : Code) (st : ASt) : Option (AX × ASt) :=
  match mapHead c with
  | none => loopStep0 G call loop f c st
  | some q => mapStep G call loop f c st q

def resv (G : Cfg) (st : ASt) : ResultVar → Option AV
  | .tmp t => some (st.slot t)
  | .cell a t => match st.slot a with
    | .ptr id i o => (aget st.hp id).bind fun ob => (objCells ob i).bind fun cs => partT G.P t cs o
    | .ep v o => partT G.P t v.cells o
    | _ => none
def resL (G : Cfg) (st : ASt) : List ResultVar → Option (List AV)
  | [] => some []
  | r :: l => (resv G st r).bind fun v => (resL G st l).map fun vs => v :: vs
def resOf : List AV → AV
  | [v] => v
  | vs => .tup vs

/-- What is told behind a call: what it was handed, and what the answer leads to. -/
def idMap (ns : List Nat) : List (Nat × Nat) := ns.map fun n => (n, n)
def onlyHeap (ns : List Nat) (hp : Heap) : Heap := ns.filterMap fun n => (aget hp n).map fun o => (n, o.ren (idMap ns))
def outOf (m : List Nat) (hp : Heap) (v : AV) : AV × Heap :=
  let ns := reachL 60 hp (m ++ v.names) []
  (v.ren (idMap ns), onlyHeap ns hp)
def finishA (G : Cfg) (g : FuncId) (m : List Nat) (v : AV) (st : ASt) : AV × Heap :=
  if G.retOwn g then outOf m st.hp v else outOf m (hfix v.rows st.hp) (v.rv st.hp)
def retA (r : AV × Heap) : ARes × Heap := (.ret r.1, r.2)
def panA (r : AV × Heap) : ARes × Heap := (.pan r.1, r.2)

def runBody (G : Cfg) (call : CallFn) (loop : LoopFn) (g : FuncId) (args : List AV) (hp : Heap) : Option (ARes × Heap) :=
  (G.P.funcs[g]?).bind fun fn => fn.body.bind fun c =>
    (codeX G call loop g c { sl := zipIx args 0, hp }).bind fun
      | (.normal, s) => (resL G s fn.results.toList).map fun vs => retA (finishA G g (hp.map (·.1)) (resOf vs) s)
      | (.ret, s) => (resL G s fn.results.toList).map fun vs => retA (finishA G g (hp.map (·.1)) (resOf vs) s)
      | (.pan v, s) => some (panA (outOf (hp.map (·.1)) (hfix v.rows s.hp) (v.rv s.hp)))
      | _ => none

/-- A round of a loop over a function. -/
def runRound (G : Cfg) (call : CallFn) (loop : LoopFn) (L : Nat) (args : List AV) (hp : Heap) : Option (ARes × Heap) :=
  match aget hp L with
  | some (.loop r sl) =>
    if r.state = .ready ∧ args.length = r.ps.size ∧ G.roundOK { r with state := .ready, pending := none } = true ∧ (G.wd || r.pn) = true then
      (codeX G call loop r.g r.assign { sl := (r.ps.toList.zip args).reverse ++ sl, hp }).bind fun y =>
        match y.1 with
        | .normal => (match aget y.2.hp L with
          | some (.loop r1 sl1) => if r1.state = .ready then
              (codeX G call loop r.g r.body { y.2 with hp := hput L (.loop { r1 with state := .busy } sl1) y.2.hp }).bind fun z =>
                match z.1 with
                | .pan v => if G.wd then none else some (panA (outOf (hp.map (·.1)) (hfix v.rows z.2.hp) (v.rv z.2.hp)))
                | x => (jumpOf x).bind fun j =>
                  match aget z.2.hp L with
                  | some (.loop r2 sl2) => some (retA (outOf (hp.map (·.1)) (hput L (.loop { r2 with state := if j.isNone then .ready else .done, pending := j } sl2) z.2.hp) (.bool j.isNone)))
                  | _ => none
            else none
          | _ => none)
        | _ => none
    else none
  | _ => none

/-! Functions that defer one closure. -/
def splitD : Code → Option (Code × Array Oper × Operand × Code)
  | .seq A (.seq (.region _ ops false) rest) =>
    match ops[ops.size - 1]? with
    | some o => match o.op, o.guard, o.dst with
      | .defer c, none, none => match c.callee, c.args.toList with
        | .value f, [] => some (A, ops, f, rest)
        | _, _ => none
      | _, _, _ => none
    | none => none
  | _ => none
def renHeap (ns : List Nat) (hp : Heap) : Heap := (zipIx ns 0).filterMap fun p => (aget hp p.2).map fun o => (p.1, o.ren (toMap ns))
def isBoxAt (hp : Heap) (n : Nat) : Bool :=
  match aget hp n with
  | some (.box _ _) => true
  | _ => false
def isRecover : Op → Bool
  | .call c => match c.callee, c.args.toList with
    | .builtin .recover, [] => true
    | _, _ => false
  | _ => false
/-- Operations without calls. -/
def aopsB (G : Cfg) (ops : Array Oper) : List Nat → ASt → Option ASt
  | [], st => some st
  | i :: r, st => (ops[i]?).bind fun o => (guardA ops st o).bind fun g =>
    if g then (if (calledA o.op).isSome then none else aopB G o st).bind fun
      | .val v s => aopsB G ops r (s.put o.dst v)
      | .pan _ _ => none
    else if skipA st o.op then aopsB G ops r (st.put o.dst (.tup [])) else none
/-- Straight code. -/
def codeB (G : Cfg) : Code → ASt → Option ASt
  | .skip, st => some st
  | .region _ ops draw, st => if draw then none else aopsB G ops (List.range ops.size) st
  | .seq a b, st => (codeB G a st).bind (codeB G b)
  | .cond c a b, st => match st.ev c with
    | .bool t => if t then codeB G a st else codeB G b st
    | _ => none
  | _, _ => none
/-- The deferred closure: what recover yields is told. -/
def runClosure (G : Cfg) (rv : AV) (h : FuncId) (args : List AV) (hp : Heap) : Option (ARes × Heap) :=
  (G.P.funcs[h]?).bind fun fn => fn.body.bind fun c =>
    match c with
    | .seq (.region _ ops false) rest =>
      (ops[0]?).bind fun o =>
        if isRecover o.op && o.guard.isNone && fn.results.isEmpty then
          (aopsB G ops (List.range' 1 (ops.size - 1)) (({ sl := zipIx args 0, hp } : ASt).put o.dst rv)).bind fun s1 =>
          (codeB G rest s1).map fun s => retA (outOf (hp.map (·.1)) s.hp (.tup []))
        else none
    | _ => none
/-- What recover yields behind it. -/
def recOf : AX → Option AV
  | .normal => some .nili
  | .ret => some .nili
  | .pan v => if v.pureB then some v else none
  | .exit _ => none
def runBodyD (G : Cfg) (call : CallFn) (loop : LoopFn) (g : FuncId) (args : List AV) (hp : Heap) : Option (ARes × Heap) :=
  (G.P.funcs[g]?).bind fun fn => (fn.body.bind splitD).bind fun q =>
    (codeX G call loop g q.1 { sl := zipIx args 0, hp }).bind fun y0 =>
      match y0.1 with
      | .normal => (aops G call q.2.1 (List.range (q.2.1.size - 1)) y0.2).bind fun y1 =>
        match y1.1 with
        | .normal =>
          let ns := reachL 60 y1.2.hp (hp.map (·.1) ++ AV.namesL (y1.2.sl.map (·.2))) []
          if (ns.all fun n => (aget y1.2.hp n).isSome) && isFn (y1.2.ev q.2.2.1) && ((hp.map (·.1)).all fun n => ns[n]? == some n) && (ns.all fun n => !((aget y1.2.hp n).map AObj.moved).getD false) then
            (codeX G call loop g q.2.2.2 { sl := y1.2.sl.map fun p => (p.1, p.2.ren (toMap ns)), hp := renHeap ns y1.2.hp }).bind fun y2 =>
            if !(((y1.2.ev q.2.2.1).ren (toMap ns)).names.all fun n => isBoxAt y2.2.hp n) then none else
            (recOf y2.1).bind fun rv =>
            (callB G (runClosure G rv) (some 40000) ((y1.2.ev q.2.2.1).ren (toMap ns)) [] y2.2).bind fun z =>
              match z.1 with
              | .val _ s4 => (resL G s4 fn.results.toList).map fun vs => retA (finishA G g (hp.map (·.1)) (resOf vs) s4)
              | .pan _ _ => none
          else none
        | _ => none
      | _ => none
def runFn (G : Cfg) (call : CallFn) (loop : LoopFn) (g : FuncId) (args : List AV) (hp : Heap) : Option (ARes × Heap) :=
  if G.dfr g then runBodyD G call loop g args hp else runBody G call loop g args hp

/-- A step down: calls, and loops, of at most so many rounds. `prim`: functions whose answer is told by hand. -/
def both (G : Cfg) (prim : FuncId → Option CallFn) : Nat → CallFn × LoopFn
  | 0 => (fun _ _ _ => none, fun _ _ _ => none)
  | k + 1 => (fun g args hp => if g < RB then (match (prim g).bind fun p => p g args hp with | some r => some r | none => runFn G (both G prim k).1 (both G prim k).2 g args hp) else runRound G (both G prim k).1 (both G prim k).2 (g - RB) args hp,
              fun f c st => loopStep G (both G prim k).1 (both G prim k).2 f c st)

/-- From some number on it is so. -/
def Ev {α : Type} (g : Nat → Option α) (y : α) : Prop := ∃ K, ∀ k, K ≤ k → g k = some y
theorem Ev.det {α : Type} {g : Nat → Option α} {y z : α} (h : Ev g y) (k : Ev g z) : y = z := by
  obtain ⟨K, h⟩ := h; obtain ⟨L, k⟩ := k
  have a := h (max K L) (by omega); have b := k (max K L) (by omega)
  exact Option.some.inj (a.symm.trans b)
theorem Ev.now {α : Type} (y : α) : Ev (fun _ => some y) y := ⟨0, fun _ _ => rfl⟩
theorem Ev.bind {α β : Type} {g : Nat → Option α} {f : Nat → α → Option β} {a : α} {b : β} (h : Ev g a) (k : Ev (fun n => f n a) b) : Ev (fun n => (g n).bind (f n)) b := by
  obtain ⟨K, h⟩ := h; obtain ⟨L, k⟩ := k
  exact ⟨max K L, fun n hn => by simp only [h n (by omega), Option.bind_some]; exact k n (by omega)⟩
theorem Ev.step {α : Type} {g : Nat → Option α} {y : α} (h : Ev (fun k => g (k + 1)) y) : Ev g y := by
  obtain ⟨K, h⟩ := h
  exact ⟨K + 1, fun k hk => by obtain ⟨j, rfl⟩ : ∃ j, k = j + 1 := ⟨k - 1, by omega⟩; exact h j (by omega)⟩

noncomputable def limit {α : Type} (g : Nat → Option α) : Option α := by
  classical exact if h : ∃ y, Ev g y then some h.choose else none
theorem limit_of {α : Type} {g : Nat → Option α} {y : α} (h : Ev g y) : limit g = some y := by
  unfold limit
  rw [dif_pos ⟨y, h⟩]
  exact congrArg some (Ev.det (Exists.choose_spec (⟨y, h⟩ : ∃ y, Ev g y)) h)
theorem of_limit {α : Type} {g : Nat → Option α} {y : α} (h : limit g = some y) : Ev g y := by
  unfold limit at h
  split at h
  · rename_i hx
    rw [← Option.some.inj h]; exact hx.choose_spec
  · cases h

section
variable (G : Cfg) (prim : FuncId → Option CallFn)
noncomputable def callL : CallFn := fun g args hp => limit fun k => (both G prim k).1 g args hp
noncomputable def loopL : LoopFn := fun f c st => limit fun k => (both G prim k).2 f c st
end

variable {G : Cfg} {prim : FuncId → Option CallFn}
abbrev cK (G : Cfg) (prim : FuncId → Option CallFn) (k : Nat) : CallFn := (both G prim k).1
abbrev lK (G : Cfg) (prim : FuncId → Option CallFn) (k : Nat) : LoopFn := (both G prim k).2

theorem callB_evG {cf : CallFn} {ck : Nat → CallFn} (hc : ∀ g args hp r, cf g args hp = some r → Ev (fun k => ck k g args hp) r) {d : Option Nat} {fv : AV} {args : List AV} {st : ASt} {r : AR × List Nat} (h : callB G cf d fv args st = some r) :
    Ev (fun k => callB G (ck k) d fv args st) r := by
  unfold callB at h ⊢
  split at h
  · dsimp only at h ⊢
    split at h
    · rename_i hc'
      simp only [hc', if_true]
      rw [Option.bind_eq_some_iff] at h
      obtain ⟨y, hy, h⟩ := h
      exact Ev.bind (hc _ _ _ _ hy) ⟨0, fun _ _ => h⟩
    · cases h
  · dsimp only at h ⊢
    split at h
    · rename_i hc'
      simp only [hc', if_true]
      rw [Option.bind_eq_some_iff] at h
      obtain ⟨j, hj, h⟩ := h
      rw [Option.bind_eq_some_iff] at h
      obtain ⟨y, hy, h⟩ := h
      exact Ev.bind ⟨0, fun _ _ => hj⟩ (Ev.bind (hc _ _ _ _ hy) ⟨0, fun _ _ => h⟩)
    · cases h
  · cases h
theorem callB_ev {d : Option Nat} {fv : AV} {args : List AV} {st : ASt} {r : AR × List Nat} (h : callB G (callL G prim) d fv args st = some r) :
    Ev (fun k => callB G (cK G prim k) d fv args st) r := callB_evG (fun _ _ _ _ h => of_limit h) h
theorem Ev.map {α β : Type} {g : Nat → Option α} {y : α} (h : Ev g y) (f : α → β) : Ev (fun k => (g k).map f) (f y) := by
  obtain ⟨K, hK⟩ := h
  exact ⟨K, fun k hk => by simp only [hK k hk, Option.map_some]⟩
theorem callA_ev {d : Option Nat} {fv : AV} {args : List AV} {st : ASt} {r : AR} (h : callA G (callL G prim) d fv args st = some r) :
    Ev (fun k => callA G (cK G prim k) d fv args st) r := by
  unfold callA at h ⊢
  obtain ⟨y, hy, rfl⟩ := Option.map_eq_some_iff.1 h
  exact (callB_ev hy).map _

theorem invA_ev {d : Option Nat} {x : AV} {n : String} {args : List AV} {st : ASt} {r : AR} (h : invA G (callL G prim) d x n args st = some r) :
    Ev (fun k => invA G (cK G prim k) d x n args st) r := by
  unfold invA at h ⊢
  split at h
  · rw [Option.bind_eq_some_iff] at h
    obtain ⟨m, hm, h⟩ := h
    rw [Option.bind_eq_some_iff] at h
    obtain ⟨u, hu, h⟩ := h
    exact Ev.bind ⟨0, fun _ _ => hm⟩ (Ev.bind ⟨0, fun _ _ => hu⟩ (callA_ev h))
  · cases h
theorem aop_ev {o : Oper} {st : ASt} {r : AR} (h : aop G (callL G prim) o st = some r) : Ev (fun k => aop G (cK G prim k) o st) r := by
  unfold aop at h ⊢
  split at h
  · split at h
    · exact ⟨0, fun _ _ => h⟩
    · exact callA_ev h
  · split at h
    · exact invA_ev h
    · exact ⟨0, fun _ _ => h⟩

theorem aops_ev {ops : Array Oper} (l : List Nat) : ∀ {st : ASt} {r : AX × ASt}, aops G (callL G prim) ops l st = some r → Ev (fun k => aops G (cK G prim k) ops l st) r := by
  induction l with
  | nil => intro st r h; exact ⟨0, fun _ _ => h⟩
  | cons i l ih =>
    intro st r h
    simp only [aops] at h ⊢
    cases ho : ops[i]? with
    | none => simp only [ho] at h ⊢; exact ih h
    | some o =>
      simp only [ho] at h ⊢
      rw [Option.bind_eq_some_iff] at h
      obtain ⟨g, hg, h⟩ := h
      refine Ev.bind ⟨0, fun _ _ => hg⟩ ?_
      cases g with
      | false =>
        simp only [Bool.false_eq_true, if_false] at h ⊢
        split at h
        case isFalse => cases h
        rename_i hsk
        simp only [if_pos hsk]
        exact ih h
      | true =>
        simp only [if_true] at h ⊢
        rw [Option.bind_eq_some_iff] at h
        obtain ⟨a, ha, h⟩ := h
        refine Ev.bind (aop_ev ha) ?_
        cases a with
        | val v s => exact ih h
        | pan v s => exact ⟨0, fun _ _ => h⟩

theorem runPlan_ev {ops : Array Oper} (l : List PS) : ∀ {st : ASt} {r : AX × ASt}, runPlan G (callL G prim) ops l st = some r → Ev (fun k => runPlan G (cK G prim k) ops l st) r := by
  induction l with
  | nil => intro st r h; exact ⟨0, fun _ _ => h⟩
  | cons x l ih =>
    intro st r h
    cases x with
    | n i =>
      simp only [runPlan] at h ⊢
      rw [Option.bind_eq_some_iff] at h
      obtain ⟨o, ho, h⟩ := h
      rw [Option.bind_eq_some_iff] at h
      obtain ⟨v, hv, h⟩ := h
      exact Ev.bind ⟨0, fun _ _ => ho⟩ (Ev.bind ⟨0, fun _ _ => hv⟩ (ih h))
    | e j re =>
      simp only [runPlan] at h ⊢
      rw [Option.bind_eq_some_iff] at h
      obtain ⟨o, ho, h⟩ := h
      rw [Option.bind_eq_some_iff] at h
      obtain ⟨a, ha, h⟩ := h
      refine Ev.bind ⟨0, fun _ _ => ho⟩ (Ev.bind (a := a) ?_ ?_)
      · unfold stepE at ha ⊢
        rw [Option.bind_eq_some_iff] at ha
        obtain ⟨g, hg, ha⟩ := ha
        refine Ev.bind ⟨0, fun _ _ => hg⟩ ?_
        cases g with
        | true => simp only [if_true] at ha ⊢; exact aop_ev ha
        | false => simp only [Bool.false_eq_true, if_false] at ha ⊢; exact ⟨0, fun _ _ => ha⟩
      · cases a with
        | pan v s => exact ⟨0, fun _ _ => h⟩
        | val v s =>
          simp only at h ⊢
          split at h
          · rename_i hc; simp only [hc, if_true]; exact ih h
          · cases h
    | sw j k re =>
      simp only [runPlan] at h ⊢
      split at h
      case isFalse => cases h
      rename_i hc
      simp only [if_pos hc]
      rw [Option.bind_eq_some_iff] at h
      obtain ⟨s0, h0, h⟩ := h
      rw [Option.bind_eq_some_iff] at h
      obtain ⟨s1, h1, h⟩ := h
      rw [Option.bind_eq_some_iff] at h
      obtain ⟨s2, h2, h⟩ := h
      exact Ev.bind ⟨0, fun _ _ => h0⟩ (Ev.bind ⟨0, fun _ _ => h1⟩ (Ev.bind ⟨0, fun _ _ => h2⟩ (ih h)))

theorem codeX_ev {f : FuncId} (c : Code) : ∀ {st : ASt} {r : AX × ASt}, codeX G (callL G prim) (loopL G prim) f c st = some r →
    Ev (fun k => codeX G (cK G prim k) (lK G prim k) f c st) r := by
  induction c with
  | skip => intro st r h; exact ⟨0, fun _ _ => h⟩
  | label l => intro st r h; exact ⟨0, fun _ _ => h⟩
  | exit id => intro st r h; exact ⟨0, fun _ _ => h⟩
  | ret => intro st r h; exact ⟨0, fun _ _ => h⟩
  | scope b _ => intro st r h; exact ⟨0, fun _ _ => h⟩
  | goto l => intro st r h; exact ⟨0, fun _ _ => h⟩
  | refuse w => intro st r h; exact ⟨0, fun _ _ => h⟩
  | rangeFunc g ps a b _ _ =>
    intro st r h
    simp only [codeX] at h ⊢
    split at h
    · cases h
    · rename_i hc
      simp only [if_neg hc]
      rw [Option.bind_eq_some_iff] at h
      obtain ⟨y, hy, h⟩ := h
      exact Ev.bind (callB_ev hy) ⟨0, fun _ _ => h⟩
  | region id ops draw =>
    intro st r h
    simp only [codeX] at h ⊢
    rw [Option.bind_eq_some_iff] at h
    obtain ⟨y, h1, h2⟩ := h
    refine Ev.bind ?_ ⟨0, fun _ _ => h2⟩
    split at h1
    · rename_i hd
      simp only [hd, if_true]
      rw [Option.bind_eq_some_iff] at h1
      obtain ⟨p, hp, hs⟩ := h1
      exact Ev.bind (f := fun k (p : List PS) => runPlan G (cK G prim k) ops p st) ⟨0, fun _ _ => hp⟩ (runPlan_ev p hs)
    · rename_i hd; simp only [if_neg hd]; exact aops_ev _ h1
  | seq a b iha ihb =>
    intro st r h
    simp only [codeX] at h ⊢
    rw [Option.bind_eq_some_iff] at h
    obtain ⟨⟨x, s⟩, h1, h2⟩ := h
    refine Ev.bind (iha h1) ?_
    cases x with
    | normal => exact ihb h2
    | exit i => exact ⟨0, fun _ _ => h2⟩
    | ret => exact ⟨0, fun _ _ => h2⟩
    | pan v => exact ⟨0, fun _ _ => h2⟩
  | cond c a b iha ihb =>
    intro st r h
    cases hc : st.ev c with
    | bool t =>
      simp only [codeX, hc] at h ⊢
      cases t with
      | true => simp only [if_true] at h ⊢; exact iha h
      | false => simp only [Bool.false_eq_true, if_false] at h ⊢; exact ihb h
    | _ => simp [codeX, hc] at h
  | block id b ih =>
    intro st r h
    simp only [codeX] at h ⊢
    rw [Option.bind_eq_some_iff] at h
    obtain ⟨⟨x, s⟩, h1, h2⟩ := h
    exact Ev.bind (ih h1) ⟨0, fun _ _ => h2⟩
  | loop b _ =>
    intro st r h
    simp only [codeX] at h ⊢
    rw [Option.bind_eq_some_iff] at h
    obtain ⟨s, h1, h2⟩ := h
    exact Ev.bind ⟨0, fun _ _ => h1⟩ (of_limit h2)

theorem runBody_ev {g : FuncId} {args : List AV} {hp : Heap} {r : ARes × Heap} (h : runBody G (callL G prim) (loopL G prim) g args hp = some r) :
    Ev (fun k => runBody G (cK G prim k) (lK G prim k) g args hp) r := by
  unfold runBody at h ⊢
  rw [Option.bind_eq_some_iff] at h
  obtain ⟨fn, h1, h⟩ := h
  refine Ev.bind ⟨0, fun _ _ => h1⟩ ?_
  rw [Option.bind_eq_some_iff] at h
  obtain ⟨c, h2, h⟩ := h
  refine Ev.bind ⟨0, fun _ _ => h2⟩ ?_
  rw [Option.bind_eq_some_iff] at h
  obtain ⟨y, h3, h⟩ := h
  exact Ev.bind (codeX_ev c h3) ⟨0, fun _ _ => h⟩

theorem runRound_ev {L : Nat} {args : List AV} {hp : Heap} {r : ARes × Heap} (h : runRound G (callL G prim) (loopL G prim) L args hp = some r) :
    Ev (fun k => runRound G (cK G prim k) (lK G prim k) L args hp) r := by
  unfold runRound at h ⊢
  split at h
  · rename_i r0 sl h0
    simp only [h0]
    split at h
    · rename_i hc
      simp only [if_pos hc]
      rw [Option.bind_eq_some_iff] at h
      obtain ⟨⟨y1, y2⟩, hy, h⟩ := h
      refine Ev.bind (codeX_ev _ hy) ?_
      cases y1 with
      | normal =>
        simp only at h ⊢
        cases h1 : aget y2.hp L with
        | none => rw [h1] at h; cases h
        | some o =>
          rw [h1] at h
          cases o with
          | loop r1 sl1 =>
            simp only at h ⊢
            split at h
            · rename_i hc1
              simp only [if_pos hc1]
              rw [Option.bind_eq_some_iff] at h
              obtain ⟨z, hz, h⟩ := h
              exact Ev.bind (codeX_ev _ hz) ⟨0, fun _ _ => h⟩
            · cases h
          | _ => cases h
      | _ => cases h
    · cases h
  · cases h

theorem runBodyD_ev {g : FuncId} {args : List AV} {hp : Heap} {r : ARes × Heap} (h : runBodyD G (callL G prim) (loopL G prim) g args hp = some r) :
    Ev (fun k => runBodyD G (cK G prim k) (lK G prim k) g args hp) r := by
  unfold runBodyD at h ⊢
  rw [Option.bind_eq_some_iff] at h; obtain ⟨fn, h1, h⟩ := h
  refine Ev.bind ⟨0, fun _ _ => h1⟩ ?_
  rw [Option.bind_eq_some_iff] at h; obtain ⟨q, h2, h⟩ := h
  refine Ev.bind ⟨0, fun _ _ => h2⟩ ?_
  rw [Option.bind_eq_some_iff] at h; obtain ⟨⟨x0, s0⟩, h3, h⟩ := h
  refine Ev.bind (codeX_ev _ h3) ?_
  cases x0 with
  | normal =>
    simp only at h ⊢
    rw [Option.bind_eq_some_iff] at h; obtain ⟨⟨x1, s1⟩, h4, h⟩ := h
    refine Ev.bind (aops_ev _ h4) ?_
    cases x1 with
    | normal =>
      simp only at h ⊢
      split at h
      · rename_i hc
        simp only [if_pos hc]
        rw [Option.bind_eq_some_iff] at h; obtain ⟨y2, h5, h⟩ := h
        refine Ev.bind (codeX_ev _ h5) ?_
        split at h
        · cases h
        rename_i hbx
        simp only [if_neg hbx]
        rw [Option.bind_eq_some_iff] at h; obtain ⟨rv, h6, h⟩ := h
        refine Ev.bind ⟨0, fun _ _ => h6⟩ ?_
        rw [Option.bind_eq_some_iff] at h; obtain ⟨z, h7, h⟩ := h
        exact Ev.bind ⟨0, fun _ _ => h7⟩ ⟨0, fun _ _ => h⟩
      · cases h
    | _ => cases h
  | _ => cases h
theorem runFn_ev {g : FuncId} {args : List AV} {hp : Heap} {r : ARes × Heap} (h : runFn G (callL G prim) (loopL G prim) g args hp = some r) :
    Ev (fun k => runFn G (cK G prim k) (lK G prim k) g args hp) r := by
  unfold runFn at h ⊢
  split at h
  · rename_i hd; simp only [if_pos hd]; exact runBodyD_ev h
  · rename_i hd; simp only [if_neg hd]; exact runBody_ev h

/-- WHAT A BODY COMES TO, ITS CALL COMES TO. -/
theorem call_intro {g : FuncId} {args : List AV} {hp : Heap} {r : ARes × Heap} (hg : g < RB) (hp0 : prim g = none)
    (h : runFn G (callL G prim) (loopL G prim) g args hp = some r) : callL G prim g args hp = some r := by
  refine limit_of (Ev.step ?_)
  simp only [both, if_pos hg, hp0, Option.bind_none]
  exact runFn_ev h
/-- What is told of a function says nothing of these things: its body is run. -/
theorem call_body {g : FuncId} {args : List AV} {hp : Heap} {r : ARes × Heap} (hg : g < RB) (hp0 : ((prim g).bind fun p => p g args hp) = none)
    (h : runFn G (callL G prim) (loopL G prim) g args hp = some r) : callL G prim g args hp = some r := by
  refine limit_of (Ev.step ?_)
  simp only [both, if_pos hg, hp0]
  exact runFn_ev h
theorem call_prim {g : FuncId} {args : List AV} {hp : Heap} {p : CallFn} {r : ARes × Heap} (hg : g < RB) (hp0 : prim g = some p) (h : p g args hp = some r) : callL G prim g args hp = some r := by
  refine limit_of (Ev.step ?_)
  simp only [both, if_pos hg, hp0, Option.bind_some, h]
  exact ⟨0, fun _ _ => rfl⟩
theorem round_intro {L : Nat} {args : List AV} {hp : Heap} {r : ARes × Heap} (h : runRound G (callL G prim) (loopL G prim) L args hp = some r) : callL G prim (RB + L) args hp = some r := by
  refine limit_of (Ev.step ?_)
  simp only [both, if_neg (show ¬ RB + L < RB by omega), Nat.add_sub_cancel_left]
  exact runRound_ev h
/-- One round, and on. -/
theorem sameAll_some : ∀ {l : List (Option (AX × ASt))} {r : AX × ASt}, sameAll l = some r → ∀ x ∈ l, ∃ y, x = some y
  | [], _, h, _, _ => by cases h
  | x :: l, r, h, z, hz => by
    unfold sameAll at h
    split at h
    · rename_i he
      have : l = [] := by simpa using he
      subst this
      obtain rfl : z = x := by simpa using hz
      exact ⟨r, h⟩
    · rw [Option.bind_eq_some_iff] at h
      obtain ⟨y, hy, h⟩ := h
      rw [Option.bind_eq_some_iff] at h
      obtain ⟨x', hx, h⟩ := h
      rcases List.mem_cons.1 hz with rfl | hz
      · exact ⟨x', hx⟩
      · exact sameAll_some hy z hz
theorem map_ev {α β : Type} {g : α → Option β} {gk : Nat → α → Option β} : ∀ {L : List α}, (∀ x ∈ L, ∀ y, g x = some y → Ev (fun k => gk k x) y) → (∀ x ∈ L, ∃ y, g x = some y) → ∃ K, ∀ k, K ≤ k → L.map (gk k) = L.map g
  | [], _, _ => ⟨0, fun _ _ => rfl⟩
  | x :: L, h, hs => by
    obtain ⟨K, hK⟩ := map_ev (L := L) (fun z hz => h z (List.mem_cons_of_mem _ hz)) (fun z hz => hs z (List.mem_cons_of_mem _ hz))
    obtain ⟨y, hy⟩ := hs x List.mem_cons_self
    obtain ⟨M, hM⟩ := h x List.mem_cons_self y hy
    exact ⟨max K M, fun k hk => by have := hM k (by omega); simp only at this; simp only [List.map_cons]; rw [hK k (by omega), this, hy]⟩
theorem mapBranch_evH {call : CallFn} {loop : LoopFn} {ck : Nat → CallFn} {lk : Nat → LoopFn} {f : FuncId} (hX : ∀ c st r, codeX G call loop f c st = some r → Ev (fun k => codeX G (ck k) (lk k) f c st) r) (hL : ∀ c st r, loop f c st = some r → Ev (fun k => lk k f c st) r)
    {c c2 : Code} {id n : Nat} {s : ASt} {r : AX × ASt} (h : mapBranch G call loop f c c2 id n s = some r) : Ev (fun k => mapBranch G (ck k) (lk k) f c c2 id n s) r := by
  unfold mapBranch at h ⊢
  rw [Option.bind_eq_some_iff] at h
  obtain ⟨y, hy, h⟩ := h
  rw [Option.bind_eq_some_iff] at h
  obtain ⟨⟨x, s2⟩, h1, h2⟩ := h
  refine Ev.bind ⟨0, fun _ _ => hy⟩ (Ev.bind (hX _ _ _ h1) ?_)
  cases x with
  | normal =>
    rw [Option.bind_eq_some_iff] at h2
    obtain ⟨s', h3, h4⟩ := h2
    exact Ev.bind ⟨0, fun _ _ => h3⟩ (hL _ _ _ h4)
  | exit i => exact ⟨0, fun _ _ => h2⟩
  | ret => exact ⟨0, fun _ _ => h2⟩
  | pan v => exact ⟨0, fun _ _ => h2⟩
theorem mapStep_evH {call : CallFn} {loop : LoopFn} {ck : Nat → CallFn} {lk : Nat → LoopFn} {f : FuncId} (hX : ∀ c st r, codeX G call loop f c st = some r → Ev (fun k => codeX G (ck k) (lk k) f c st) r) (hL : ∀ c st r, loop f c st = some r → Ev (fun k => lk k f c st) r)
    {c : Code} {st : ASt} {q : Nat × Nat × Nat × Nat × Code × Code} {r : AX × ASt} (h : mapStep G call loop f c st q = some r) : Ev (fun k => mapStep G (ck k) (lk k) f c st q) r := by
  unfold mapStep at h ⊢
  split at h
  · split at h
    · rw [Option.bind_eq_some_iff] at h
      obtain ⟨es, he, h⟩ := h
      simp only [he, Option.bind_some]
      split at h
      · rename_i hc
        simp only [hc, if_true]
        obtain ⟨K, hK⟩ := map_ev (fun x hx y hy => mapBranch_evH hX hL hy) (fun x hx => sameAll_some h _ (List.mem_map_of_mem hx))
        exact ⟨K, fun k hk => by show sameAll _ = _; rw [hK k hk]; exact h⟩
      · cases h
    · cases h
  · cases h
theorem loop_intro {f : FuncId} {c : Code} {st : ASt} {r : AX × ASt} (h : loopStep G (callL G prim) (loopL G prim) f c st = some r) : loopL G prim f c st = some r := by
  refine limit_of (Ev.step ?_)
  simp only [both]
  unfold loopStep at h ⊢
  split at h
  case h_2 q hq => exact mapStep_evH (ck := cK G prim) (lk := lK G prim) (fun c st r h => codeX_ev c h) (fun c st r h => of_limit h) h
  unfold loopStep0 at h ⊢
  rw [Option.bind_eq_some_iff] at h
  obtain ⟨⟨x, s⟩, h1, h2⟩ := h
  refine Ev.bind (codeX_ev c h1) ?_
  cases x with
  | normal =>
    rw [Option.bind_eq_some_iff] at h2
    obtain ⟨s', h3, h4⟩ := h2
    exact Ev.bind ⟨0, fun _ _ => h3⟩ (of_limit h4)
  | exit i => exact ⟨0, fun _ _ => h2⟩
  | ret => exact ⟨0, fun _ _ => h2⟩
  | pan v => exact ⟨0, fun _ _ => h2⟩

end Go.Proofs.YteibklnligmanaaDoor.Abs


/- What the interpreter's values, boxes and rows are in the machine's memory. -/
namespace Go.Proofs.YteibklnligmanaaDoor.Abs
open Go Go.RowKit
set_option linter.unusedSimpArgs false
set_option linter.unusedVariables false

abbrev Stab := Nat → Nat → Prop
structure RI where
  loc : Option (Nat × Nat)
  n : Nat
abbrev Rho := Nat → Option RI

def at0 (b o : Nat) : Addr := ⟨b, o, none⟩

def scalarV : Value → Bool
  | .agg _ => false
  | .tuple _ => false
  | _ => true

/-- A value that leads to no name. -/
inductive PR (S : Stab) (w : World) : AV → Value → Prop
  | bool (b : Bool) : PR S w (.bool b) (.bool b)
  | int (k : IntKind) (n : Int) : PR S w (.int k n) (.int k n)
  | str (s : ByteArray) : PR S w (.str s.data.toList) (.string s)
  | nilp : PR S w .nilp (.pointer none)
  | nils : PR S w .nils (.slice none 0 0)
  | nilf : PR S w .nilf .nilFunc
  | nilm : PR S w .nilm (.map none)
  | nili : PR S w .nili .nilIface
  | empty (sz : Nat) (a : Option Addr) (c : Nat) (hz : sz = 0 → a ≠ none) : PR S w (.list sz []) (.slice a 0 c)
  | list (es : List AV) (b off cap sz : Nat) (f : Nat → Nat → Value) (h0 : 0 < sz) (hc : es.length ≤ cap) (hs : ∀ e ∈ es, e.cells.length = sz)
      (hS : ∀ (i j : Nat) e c, es[i]? = some e → e.cells[j]? = some c → S b (off + i * sz + j))
      (hw : ∀ (i j : Nat) e c, es[i]? = some e → e.cells[j]? = some c → w.cell? (at0 b (off + i * sz + j)) = some (f i j))
      (hq : ∀ (i j : Nat) e c, es[i]? = some e → e.cells[j]? = some c → scalarV (f i j) = true)
      (hp : ∀ (i j : Nat) e c, es[i]? = some e → e.cells[j]? = some c → PR S w c (f i j)) : PR S w (.list sz es) (.slice (some (at0 b off)) es.length cap)
  | ep (v : AV) (b base off : Nat) (f : Nat → Value) (ho : off < v.cells.length)
      (hS : ∀ (j : Nat) c, v.cells[j]? = some c → S b (base + j))
      (hw : ∀ (j : Nat) c, v.cells[j]? = some c → w.cell? (at0 b (base + j)) = some (f j))
      (hp : ∀ (j : Nat) c, v.cells[j]? = some c → PR S w c (f j)) : PR S w (.ep v off) (.pointer (some (at0 b (base + off))))
  | cm (i b clk : Nat) (M : Array MapEntry) (L : List MapEntry) (hS : S b 0) (hb : w.heap[b]? = some (.map M clk)) (hL : L.Perm M.toList) (hl : L.length = (cmOf i).length)
      (hk : ∀ (j : Nat) e m, (cmOf i)[j]? = some e → L[j]? = some m → PR S w e.1 m.key) (hv : ∀ (j : Nat) e m, (cmOf i)[j]? = some e → L[j]? = some m → PR S w e.2 m.val) : PR S w (.cm i) (.map (some b))
  | agg (cs : List AV) (vs : Array Value) (hl : cs.length = vs.size) (h : ∀ (j : Nat) c v, cs[j]? = some c → vs[j]? = some v → PR S w c v) : PR S w (.agg cs) (.agg vs)
  | tup (cs : List AV) (vs : Array Value) (hl : cs.length = vs.size) (h : ∀ (j : Nat) c v, cs[j]? = some c → vs[j]? = some v → PR S w c v) : PR S w (.tup cs) (.tuple vs)
  | iface (t : TypeId) (a : AV) (v : Value) (h : PR S w a v) : PR S w (.iface t a) (.iface t v)
  | fn (g : Fn) (x y : List AV) (vx vy : Array Value) (hx : x.length = vx.size) (hy : y.length = vy.size)
      (h1 : ∀ (j : Nat) c v, x[j]? = some c → vx[j]? = some v → PR S w c v) (h2 : ∀ (j : Nat) c v, y[j]? = some c → vy[j]? = some v → PR S w c v) : PR S w (.fn g x y) (.func g vx vy)

/-- The memory goes on: what is stable stays; no block turns its shape. -/
structure Ext (S : Stab) (w : World) (S' : Stab) (w' : World) : Prop where
  stab : ∀ b o, S b o → S' b o
  cell : ∀ b o, S b o → w'.cell? (at0 b o) = w.cell? (at0 b o)
  shape : ∀ (b : Nat) c t fr, w.heap[b]? = some (.cells c t fr) → ∃ (c' : Array Value) (fr' : Nat × Nat), w'.heap[b]? = some (.cells c' t fr') ∧ c'.size = c.size
  maps : ∀ (b o : Nat) (M : Array MapEntry) (k : Nat), S b o → w.heap[b]? = some (.map M k) → w'.heap[b]? = some (.map M k)

theorem Ext.refl (S : Stab) (w : World) : Ext S w S w := ⟨fun _ _ h => h, fun _ _ _ => rfl, fun _ c _ fr h => ⟨c, fr, h, rfl⟩, fun _ _ _ _ _ h => h⟩
theorem Ext.trans {S S1 S2 : Stab} {w w1 w2 : World} (h : Ext S w S1 w1) (k : Ext S1 w1 S2 w2) : Ext S w S2 w2 :=
  ⟨fun b o x => k.stab b o (h.stab b o x), fun b o x => (k.cell b o (h.stab b o x)).trans (h.cell b o x),
   fun b c t fr x => let ⟨c1, f1, h1, e1⟩ := h.shape b c t fr x; let ⟨c2, f2, h2, e2⟩ := k.shape b c1 t f1 h1; ⟨c2, f2, h2, e2.trans e1⟩,
   fun b o M q x y => k.maps b o M q (h.stab b o x) (h.maps b o M q x y)⟩
theorem Ext.more {S S' : Stab} (h : ∀ b o, S b o → S' b o) (w : World) : Ext S w S' w := ⟨h, fun _ _ _ => rfl, fun _ c _ fr h => ⟨c, fr, h, rfl⟩, fun _ _ _ _ _ h => h⟩

theorem PR.ext {S S' : Stab} {w w' : World} (x : Ext S w S' w') {a : AV} {v : Value} (h : PR S w a v) : PR S' w' a v := by
  induction h with
  | bool b => exact .bool b
  | int k n => exact .int k n
  | str s => exact .str s
  | nilp => exact .nilp
  | nils => exact .nils
  | nilf => exact .nilf
  | nilm => exact .nilm
  | nili => exact .nili
  | empty sz a c hz => exact .empty sz a c hz
  | list es b off cap sz f h0 hc hs hS hw hq _ ih =>
    exact .list es b off cap sz f h0 hc hs (fun i j e c h1 h2 => x.stab _ _ (hS i j e c h1 h2))
      (fun i j e c h1 h2 => (x.cell _ _ (hS i j e c h1 h2)).trans (hw i j e c h1 h2)) hq ih
  | ep v b base off f ho hS hw _ ih =>
    exact .ep v b base off f ho (fun j c h => x.stab _ _ (hS j c h)) (fun j c h => (x.cell _ _ (hS j c h)).trans (hw j c h)) ih
  | cm i b clk M L hS hb hL hl _ _ ih1 ih2 => exact .cm i b clk M L (x.stab _ _ hS) (x.maps _ _ _ _ hS hb) hL hl ih1 ih2
  | agg cs vs hl _ ih => exact .agg cs vs hl ih
  | tup cs vs hl _ ih => exact .tup cs vs hl ih
  | iface t a v _ ih => exact .iface t a v ih
  | fn g a b va vb h1 h2 _ _ i1 i2 => exact .fn g a b va vb h1 h2 i1 i2

/-- Any value. -/
inductive VR (S : Stab) (ρ : Rho) (w : World) : AV → Value → Prop
  | pure {a : AV} {v : Value} (h : PR S w a v) : VR S ρ w a v
  | undef (v : Value) : VR S ρ w .undef v
  | own0 (id : Nat) (h : ρ id = some ⟨none, 0⟩) : VR S ρ w (.own id) (.slice none 0 0)
  | own (id b sz n cap : Nat) (h : ρ id = some ⟨some (b, sz), n⟩) (hc : n ≤ cap)
      (hr : ∃ c t fr, w.heap[b]? = some (.cells c t fr) ∧ cap * sz ≤ c.size) : VR S ρ w (.own id) (.slice (some (at0 b 0)) n cap)
  | row0 (id o c : Nat) (a : Option Addr) : VR S ρ w (.row id o 0) (.slice a 0 c)
  | row (id o l b sz n cap : Nat) (h : ρ id = some ⟨some (b, sz), n⟩) (hl : l ≤ cap) : VR S ρ w (.row id o l) (.slice (some (at0 b (o * sz))) l cap)
  | ptr (id i o b sz n : Nat) (h : ρ id = some ⟨some (b, sz), n⟩) : VR S ρ w (.ptr id i o) (.pointer (some (at0 b (i * sz + o))))
  | yld (id b sz n : Nat) (h : ρ id = some ⟨some (b, sz), n⟩) : VR S ρ w (.yld id) (.func (.yield b) #[] #[])
  | mp (id b sz n : Nat) (h : ρ id = some ⟨some (b, sz), n⟩) : VR S ρ w (.mp id) (.map (some b))
  | win (id o l s b sz n cap : Nat) (h : ρ id = some ⟨some (b, sz), n⟩) (hl : l ≤ cap) : VR S ρ w (.win id o l s) (.slice (some (at0 b o)) l cap)
  | agg (cs : List AV) (vs : Array Value) (hl : cs.length = vs.size) (h : ∀ (j : Nat) c v, cs[j]? = some c → vs[j]? = some v → VR S ρ w c v) : VR S ρ w (.agg cs) (.agg vs)
  | tup (cs : List AV) (vs : Array Value) (hl : cs.length = vs.size) (h : ∀ (j : Nat) c v, cs[j]? = some c → vs[j]? = some v → VR S ρ w c v) : VR S ρ w (.tup cs) (.tuple vs)
  | iface (t : TypeId) (a : AV) (v : Value) (h : VR S ρ w a v) : VR S ρ w (.iface t a) (.iface t v)
  | fn (g : Fn) (x y : List AV) (vx vy : Array Value) (hx : x.length = vx.size) (hy : y.length = vy.size)
      (h1 : ∀ (j : Nat) c v, x[j]? = some c → vx[j]? = some v → VR S ρ w c v) (h2 : ∀ (j : Nat) c v, y[j]? = some c → vy[j]? = some v → VR S ρ w c v) : VR S ρ w (.fn g x y) (.func g vx vy)

theorem VR.ext {S S' : Stab} {ρ ρ' : Rho} {w w' : World} (x : Ext S w S' w') (hr : ∀ id r, ρ id = some r → ρ' id = some r) {a : AV} {v : Value} (h : VR S ρ w a v) : VR S' ρ' w' a v := by
  induction h with
  | pure h => exact .pure (h.ext x)
  | undef v => exact .undef v
  | own0 id h => exact .own0 id (hr _ _ h)
  | own id b sz n cap h hc hb =>
    obtain ⟨c, t, fr, h1, h2⟩ := hb
    obtain ⟨c', fr', h3, h4⟩ := x.shape b c t fr h1
    exact .own id b sz n cap (hr _ _ h) hc ⟨c', t, fr', h3, h4 ▸ h2⟩
  | row0 id o c a => exact .row0 id o c a
  | row id o l b sz n cap h hl => exact .row id o l b sz n cap (hr _ _ h) hl
  | ptr id i o b sz n h => exact .ptr id i o b sz n (hr _ _ h)
  | yld id b sz n h => exact .yld id b sz n (hr _ _ h)
  | mp id b sz n h => exact .mp id b sz n (hr _ _ h)
  | win id o l s b sz n cap h hl => exact .win id o l s b sz n cap (hr _ _ h) hl
  | agg cs vs hl _ ih => exact .agg cs vs hl ih
  | tup cs vs hl _ ih => exact .tup cs vs hl ih
  | iface t a v _ ih => exact .iface t a v ih
  | fn g a b va vb h1 h2 _ _ i1 i2 => exact .fn g a b va vb h1 h2 i1 i2

theorem killL_get (n : Nat) (l : List AV) (j : Nat) : (AV.killL n l)[j]? = (l[j]?).map (AV.kill n) := by
  induction l generalizing j with
  | nil => simp [AV.killL]
  | cons a l ih => cases j with
    | zero => simp [AV.killL]
    | succ j => simp [AV.killL, ih]
theorem killL_length (n : Nat) (l : List AV) : (AV.killL n l).length = l.length := by
  induction l with
  | nil => rfl
  | cons a l ih => simp [AV.killL, ih]

/-- A value without names is struck nothing of. -/
theorem PR.kill {S : Stab} {w : World} (n : Nat) {a : AV} {v : Value} (h : PR S w a v) : PR S w (a.kill n) v := by
  induction h with
  | agg cs vs hl _ ih =>
    refine .agg _ vs ((killL_length n cs).trans hl) fun j c v hc hv => ?_
    rw [killL_get] at hc
    obtain ⟨d, hd, rfl⟩ := Option.map_eq_some_iff.1 hc
    exact ih j d v hd hv
  | tup cs vs hl _ ih =>
    refine .tup _ vs ((killL_length n cs).trans hl) fun j c v hc hv => ?_
    rw [killL_get] at hc
    obtain ⟨d, hd, rfl⟩ := Option.map_eq_some_iff.1 hc
    exact ih j d v hd hv
  | iface t a v _ ih => exact .iface t _ v ih
  | fn g a b va vb h1 h2 _ _ i1 i2 =>
    refine .fn g _ _ va vb ((killL_length n a).trans h1) ((killL_length n b).trans h2) (fun j c v hc hv => ?_) (fun j c v hc hv => ?_)
    · rw [killL_get] at hc
      obtain ⟨d, hd, rfl⟩ := Option.map_eq_some_iff.1 hc
      exact i1 j d v hd hv
    · rw [killL_get] at hc
      obtain ⟨d, hd, rfl⟩ := Option.map_eq_some_iff.1 hc
      exact i2 j d v hd hv
  | bool b => exact .bool b
  | int k n => exact .int k n
  | str s => exact .str s
  | nilp => exact .nilp
  | nils => exact .nils
  | nilf => exact .nilf
  | nilm => exact .nilm
  | nili => exact .nili
  | empty sz a c hz => exact .empty sz a c hz
  | list es b off cap sz f h0 hc hs hS hw hq hp _ => exact .list es b off cap sz f h0 hc hs hS hw hq hp
  | ep v b base off f ho hS hw hp _ => exact .ep v b base off f ho hS hw hp
  | cm i b clk M L hS hb hL hl hk hv _ _ => exact .cm i b clk M L hS hb hL hl hk hv

/-- Struck of a name, a value doesn't hang on what that name is. -/
theorem VR.kill {S : Stab} {ρ ρ' : Rho} {w : World} (n : Nat) (hr : ∀ id r, id ≠ n → ρ id = some r → ρ' id = some r) {a : AV} {v : Value} (h : VR S ρ w a v) : VR S ρ' w (a.kill n) v := by
  induction h with
  | pure h => exact .pure (h.kill n)
  | undef v => exact .undef v
  | own0 id h =>
    by_cases e : id = n
    · simp only [AV.kill, if_pos e]; exact .undef _
    · simp only [AV.kill, if_neg e]; exact .own0 id (hr _ _ e h)
  | own id b sz n' cap h hc hb =>
    by_cases e : id = n
    · simp only [AV.kill, if_pos e]; exact .undef _
    · simp only [AV.kill, if_neg e]; exact .own id b sz n' cap (hr _ _ e h) hc hb
  | row0 id o c a =>
    by_cases e : id = n
    · simp only [AV.kill, if_pos e]; exact .undef _
    · simp only [AV.kill, if_neg e]; exact .row0 id o c a
  | row id o l b sz n' cap h hl =>
    by_cases e : id = n
    · simp only [AV.kill, if_pos e]; exact .undef _
    · simp only [AV.kill, if_neg e]; exact .row id o l b sz n' cap (hr _ _ e h) hl
  | ptr id i o b sz n' h =>
    by_cases e : id = n
    · simp only [AV.kill, if_pos e]; exact .undef _
    · simp only [AV.kill, if_neg e]; exact .ptr id i o b sz n' (hr _ _ e h)
  | yld id b sz n' h =>
    by_cases e : id = n
    · simp only [AV.kill, if_pos e]; exact .undef _
    · simp only [AV.kill, if_neg e]; exact .yld id b sz n' (hr _ _ e h)
  | mp id b sz n' h =>
    by_cases e : id = n
    · simp only [AV.kill, if_pos e]; exact .undef _
    · simp only [AV.kill, if_neg e]; exact .mp id b sz n' (hr _ _ e h)
  | win id o l s b sz n' cap h hl =>
    by_cases e : id = n
    · simp only [AV.kill, if_pos e]; exact .undef _
    · simp only [AV.kill, if_neg e]; exact .win id o l s b sz n' cap (hr _ _ e h) hl
  | agg cs vs hl _ ih =>
    refine .agg _ vs ((killL_length n cs).trans hl) fun j c v hc hv => ?_
    rw [killL_get] at hc
    obtain ⟨d, hd, rfl⟩ := Option.map_eq_some_iff.1 hc
    exact ih j d v hd hv
  | tup cs vs hl _ ih =>
    refine .tup _ vs ((killL_length n cs).trans hl) fun j c v hc hv => ?_
    rw [killL_get] at hc
    obtain ⟨d, hd, rfl⟩ := Option.map_eq_some_iff.1 hc
    exact ih j d v hd hv
  | iface t a v _ ih => exact .iface t _ v ih
  | fn g a b va vb h1 h2 _ _ i1 i2 =>
    refine .fn g _ _ va vb ((killL_length n a).trans h1) ((killL_length n b).trans h2) (fun j c v hc hv => ?_) (fun j c v hc hv => ?_)
    · rw [killL_get] at hc
      obtain ⟨d, hd, rfl⟩ := Option.map_eq_some_iff.1 hc
      exact i1 j d v hd hv
    · rw [killL_get] at hc
      obtain ⟨d, hd, rfl⟩ := Option.map_eq_some_iff.1 hc
      exact i2 j d v hd hv

/-- What a value's cells are. -/
theorem kill_cells (n : Nat) (a : AV) : (a.kill n).cells = AV.killL n a.cells := by
  cases a with
  | own id => by_cases e : id = n <;> simp [AV.kill, AV.cells, AV.killL, e]
  | row id o l => by_cases e : id = n <;> simp [AV.kill, AV.cells, AV.killL, e]
  | ptr id i o => by_cases e : id = n <;> simp [AV.kill, AV.cells, AV.killL, e]
  | yld id => by_cases e : id = n <;> simp [AV.kill, AV.cells, AV.killL, e]
  | mp id => by_cases e : id = n <;> simp [AV.kill, AV.cells, AV.killL, e]
  | win id => by_cases e : id = n <;> simp [AV.kill, AV.cells, AV.killL, e]
  | _ => simp [AV.kill, AV.cells, AV.killL]

theorem PR.cells {S : Stab} {w : World} {a : AV} {v : Value} (h : PR S w a v) :
    a.cells.length = v.cells.size ∧ ∀ (j : Nat) c u, a.cells[j]? = some c → v.cells[j]? = some u → PR S w c u := by
  cases h with
  | agg cs vs hl h => exact ⟨hl, h⟩
  | _ =>
    refine ⟨rfl, fun j c u hc hu => ?_⟩
    cases j with
    | zero => simp [AV.cells, Value.cells] at hc hu; subst hc hu; constructor <;> assumption
    | succ j => simp [AV.cells] at hc

end Go.Proofs.YteibklnligmanaaDoor.Abs


/- Memory: cells read and written one behind the other; what the state's objects are; steps that keep it. -/
namespace Go.Proofs.YteibklnligmanaaDoor.Abs
open Go Go.RowKit
set_option linter.unusedSimpArgs false
set_option linter.unusedVariables false

theorem at0_add (b o n : Nat) : (at0 b o).add n = at0 b (o + n) := by
  unfold Addr.add at0
  split
  · subst_vars; rfl
  · rfl

theorem run_loadCellsFrom {P : Program} {w : World} {b o : Nat} (f : Nat → Value) (n : Nat) : ∀ (i : Nat) (acc : Array Value), (∀ j, j < n → w.cell? (at0 b (o + i + j)) = some (f (i + j))) →
    (loadCellsFrom (at0 b o) i n acc).run P w = .ok (acc ++ ((List.range' i n).map f).toArray) w := by
  induction n with
  | zero => intro i acc _; simp [loadCellsFrom, pure, Sem.run]
  | succ n ih =>
    intro i acc h
    have h0 := h 0 (by omega)
    simp only [Nat.add_zero] at h0
    simp only [loadCellsFrom, at0_add, bind, Sem.bind, load, Sem.run, h0]
    rw [ih (i + 1) (acc.push (f i)) (fun j hj => by have := h (j + 1) (by omega); rw [show o + i + (j + 1) = o + (i + 1) + j by omega, show i + (j + 1) = i + 1 + j by omega] at this; exact this)]
    simp [List.range'_succ]

theorem run_loadCells {P : Program} {w : World} {b o n : Nat} (f : Nat → Value) (h : ∀ j, j < n → w.cell? (at0 b (o + j)) = some (f j)) :
    (loadCells (at0 b o) n).run P w = .ok ((List.range n).map f).toArray w := by
  have := run_loadCellsFrom (P := P) (w := w) (b := b) (o := o) f n 0 #[] (fun j hj => by simpa using h j hj)
  simpa [loadCells, List.range_eq_range'] using this

/-- Cells written one behind the other. -/
def setCells (w : World) (b o : Nat) : List Value → World
  | [] => w
  | v :: r => setCells (w.setCell (at0 b o) v) b (o + 1) r

theorem setCells_size (b : Nat) (l : List Value) : ∀ (w : World) (o : Nat), (setCells w b o l).heap.size = w.heap.size := by
  induction l with
  | nil => intro w o; rfl
  | cons v l ih => intro w o; rw [setCells, ih]; simp
theorem setCells_other (b : Nat) (l : List Value) : ∀ (w : World) (o k : Nat), k ≠ b → (setCells w b o l).heap[k]? = w.heap[k]? := by
  induction l with
  | nil => intro w o k _; rfl
  | cons v l ih => intro w o k hk; rw [setCells, ih _ _ _ hk]; exact Below.heap_setCell _ _ _ _ hk
theorem setCells_outer (b : Nat) (l : List Value) : ∀ (w : World) (o : Nat), (setCells w b o l).os = w.os ∧ (setCells w b o l).tape = w.tape ∧ (setCells w b o l).output = w.output := by
  induction l with
  | nil => intro w o; exact ⟨rfl, rfl, rfl⟩
  | cons v l ih => intro w o; exact ih _ _
/-- The block behind it. -/
theorem setCells_block (b : Nat) (l : List Value) : ∀ (w : World) (o : Nat) (cells : Array Value) (t : TypeId) (fr : Nat × Nat), w.heap[b]? = some (.cells cells t fr) → o + l.length ≤ cells.size →
    ∃ cells' : Array Value, (setCells w b o l).heap[b]? = some (.cells cells' t fr) ∧ cells'.size = cells.size ∧
      (∀ j, j < o ∨ o + l.length ≤ j → cells'[j]? = cells[j]?) ∧ (∀ j, j < l.length → cells'[o + j]? = l[j]?) := by
  induction l with
  | nil => intro w o cells t fr h _; exact ⟨cells, h, rfl, fun _ _ => rfl, fun j hj => absurd hj (Nat.not_lt_zero j)⟩
  | cons v l ih =>
    intro w o cells t fr h hl
    simp only [List.length_cons] at hl
    have h1 : (w.setCell (at0 b o) v).heap[b]? = some (.cells (cells.setIfInBounds o v) t fr) := by
      simp [World.setCell, at0, Array.getElem?_modify, h]
    obtain ⟨cells', e1, e2, e3, e4⟩ := ih (w.setCell (at0 b o) v) (o + 1) _ t fr h1 (by simp; omega)
    refine ⟨cells', e1, by simpa using e2, fun j hj => ?_, fun j hj => ?_⟩
    · simp only [List.length_cons] at hj
      rw [e3 j (by omega), Array.getElem?_setIfInBounds_ne (by omega)]
    · cases j with
      | zero => rw [Nat.add_zero, e3 o (by omega), Array.getElem?_setIfInBounds_self_of_lt (by omega)]; rfl
      | succ j => have := e4 j (by simpa using hj); rw [show o + 1 + j = o + (j + 1) by omega] at this; rw [this]; rfl

theorem frozen_block {w w' : World} {b : Nat} {c c' : Array Value} {t : TypeId} {fr : Nat × Nat} (h : w.heap[b]? = some (.cells c t fr)) (h' : w'.heap[b]? = some (.cells c' t fr)) (o : Nat) : w'.frozen? (at0 b o) = w.frozen? (at0 b o) := by
  simp [World.frozen?, at0, h, h']
theorem cell_block {w : World} {b : Nat} {c : Array Value} {t : TypeId} {fr : Nat × Nat} (h : w.heap[b]? = some (.cells c t fr)) (o : Nat) : w.cell? (at0 b o) = c[o]? := by
  simp [World.cell?, at0, h]
theorem cell_same {w w' : World} {b : Nat} (h : w'.heap[b]? = w.heap[b]?) (o : Nat) : w'.cell? (at0 b o) = w.cell? (at0 b o) := by
  simp [World.cell?, at0, h]
theorem frozen_same {w w' : World} {b : Nat} (h : w'.heap[b]? = w.heap[b]?) (o : Nat) : w'.frozen? (at0 b o) = w.frozen? (at0 b o) := by
  simp [World.frozen?, at0, h]
theorem lt_of_block {w : World} {b : Nat} {x : Obj} (h : w.heap[b]? = some x) : b < w.heap.size := by
  have := Array.getElem?_eq_some_iff.1 h; exact this.1

theorem run_storeCells {P : Program} {b o : Nat} (l : List Value) : ∀ (w : World) (i : Nat) (cells : Array Value) (t : TypeId) (fr : Nat × Nat), w.heap[b]? = some (.cells cells t fr) → o + i + l.length ≤ cells.size →
    (∀ j, j < cells.size → w.frozen? (at0 b j) = false) → (∀ v ∈ l, scalarV v = true) → (storeCells (at0 b o) l i).run P w = .ok () (setCells w b (o + i) l) := by
  induction l with
  | nil => intro w i cells t fr _ _ _ _; simp [storeCells, setCells, pure, Sem.run]
  | cons v l ih =>
    intro w i cells t fr h hl hf hs
    simp only [List.length_cons] at hl
    have h1 : (w.setCell (at0 b (o + i)) v).heap[b]? = some (.cells (cells.setIfInBounds (o + i) v) t fr) := by
      simp [World.setCell, at0, Array.getElem?_modify, h]
    have hc : w.cell? (at0 b (o + i)) = some cells[o + i] := by rw [cell_block h]; exact Array.getElem?_eq_getElem (by omega)
    have hz := hf (o + i) (by omega)
    have hv := hs v (by simp)
    have ih' := ih (w.setCell (at0 b (o + i)) v) (i + 1) _ t fr h1 (by simp; omega) (fun j hj => by rw [frozen_block h h1]; exact hf j (by simpa using hj)) (fun u hu => hs u (by simp [hu]))
    simp only [storeCells, at0_add, bind, Sem.bind, store, pure, setCells]
    rw [show o + i + 1 = o + (i + 1) by omega, ← ih']
    cases v <;> simp [scalarV] at hv <;> simp [Sem.run, hc, hz]

/-! ## Objects -/

def Unfrozen (w : World) (b n : Nat) : Prop := ∀ o, o < n → w.frozen? (at0 b o) = false

def ObjR (S : Stab) (ρ : Rho) (w : World) (n : Nat) : AObj → Prop
  | .box T v => ∃ b cells t fr, ρ n = some ⟨some (b, v.cells.length), 1⟩ ∧ w.heap[b]? = some (.cells cells t fr) ∧ (v.cells.length ≤ cells.size ∧ t = T ∧ cells.size = v.cells.length) ∧
      Unfrozen w b cells.size ∧ (∀ o, ¬ S b o) ∧ ∀ (j : Nat) c, v.cells[j]? = some c → ∃ u, cells[j]? = some u ∧ VR S ρ w c u
  | .row sz es fx mv => (es = [] ∧ ρ n = some ⟨none, 0⟩) ∨ ∃ b cells t fr, 0 < sz ∧ ρ n = some ⟨some (b, sz), es.length⟩ ∧ (∀ e ∈ es, e.cells.length = sz) ∧
      w.heap[b]? = some (.cells cells t fr) ∧ (es.length * sz ≤ cells.size ∧ t = mv.t ∧ (byT t = true ∨ fr.1 = fr.2)) ∧ Unfrozen w b cells.size ∧
      (∀ (i j : Nat) e c, es[i]? = some e → e.cells[j]? = some c → ∃ u, cells[i * sz + j]? = some u ∧ PR S w c u ∧ (fx = true → S b (i * sz + j)) ∧ scalarV u = true) ∧
      (∀ o, S b o → fx = true ∧ o < es.length * sz)
  | .loop r sl => ∃ b L, ρ n = some ⟨some (b, 0), 0⟩ ∧ w.heap[b]? = some (.loop L) ∧ (∀ o, ¬ S b o) ∧ L.state = r.state ∧ L.pending = r.pending ∧ L.params = r.ps ∧ L.assign = r.assign ∧ L.body = r.body ∧
      (r.nt ≤ L.tmps.size ∧ (r.pn = true → L.fn < NF)) ∧ ∀ t, VR S ρ w ((aget sl t).getD .undef) (L.tmps.getD t Go.undef)
  | .map es clk => ∃ b M, ρ n = some ⟨some (b, 0), 0⟩ ∧ w.heap[b]? = some (.map M clk) ∧ (∀ o, ¬ S b o) ∧ M.size = es.length ∧ ∀ (j : Nat) e, es[j]? = some e → ∃ m : MapEntry, M[j]? = some m ∧ m.born = e.1 ∧ PR S w e.2.1 m.key ∧ PR S w e.2.2 m.val
  | .iter v since seen last => ∃ b r, ρ n = some ⟨some (b, 0), 0⟩ ∧ w.heap[b]? = some (.mapIter r since seen.toArray last) ∧ (∀ o, ¬ S b o) ∧ VR S ρ w v (.map r)
  | .dblk => False

structure HR (S : Stab) (ρ : Rho) (w : World) (hp : Heap) : Prop where
  obj : ∀ n o, aget hp n = some o → ObjR S ρ w n o
  dom : ∀ n, aget hp n = none → ρ n = none
  inj : ∀ n m b sz sz' k k', ρ n = some ⟨some (b, sz), k⟩ → ρ m = some ⟨some (b, sz'), k'⟩ → n = m

/-- The program's own variables. -/
def GlobOK (S : Stab) (w : World) : Prop := ∀ g v, aget globT g = some v → PR S w (.ep v 0) (.pointer (some (at0 g 0)))
theorem GlobOK.ext {S S' : Stab} {w w' : World} (h : GlobOK S w) (x : Ext S w S' w') : GlobOK S' w' := fun g v e => (h g v e).ext x
structure Ent (S : Stab) (ρ : Rho) (w : World) : Prop where
  low : ∀ n r, ρ n = some r → n < 1000
  glob : GlobOK S w

/-- What a call of a function begins with: the memory; what is stable; the blocks that it may write; the names that it was handed. -/
structure Env where
  W0 : World
  S0 : Stab
  F : Nat → Prop
  R0 : Rho
  low : ∀ n r, R0 n = some r → n < 1000
  glob : GlobOK S0 W0

structure FrameR (E : Env) (S : Stab) (w : World) : Prop where
  ext : Ext E.S0 E.W0 S w
  new : ∀ b o, S b o → E.S0 b o ∨ E.F b ∨ E.W0.heap.size ≤ b
  bnd : ∀ b o, S b o → b < w.heap.size
  size : E.W0.heap.size ≤ w.heap.size
  keep : ∀ b, b < E.W0.heap.size → ¬ E.F b → w.heap[b]? = E.W0.heap[b]?
  dfr : ∀ b : Nat, E.W0.heap[b]? = some (.deferred (some [])) → w.heap[b]? = some (.deferred (some []))
  os : w.os = E.W0.os
  tape : w.tape = E.W0.tape
  output : w.output = E.W0.output

theorem FrameR.glob {E : Env} {S : Stab} {w : World} (h : FrameR E S w) : GlobOK S w := E.glob.ext h.ext
structure SR (E : Env) (st : ASt) (S : Stab) (ρ : Rho) (tm : Array Value) (w : World) : Prop where
  slot : ∀ t, VR S ρ w (st.slot t) (tm.getD t Go.undef)
  heap : HR S ρ w st.hp
  mine : ∀ n b sz k, ρ n = some ⟨some (b, sz), k⟩ → E.F b ∨ E.W0.heap.size ≤ b
  old : ∀ n o, aget st.hp n = some o → o.moved = false → ∀ r, E.R0 n = some r → ρ n = some r
  fr : FrameR E S w

theorem slot_put (st : ASt) (d : Option Nat) (v : AV) (t : Nat) : (st.put d v).slot t = if d = some t then v else st.slot t := by
  cases d with
  | none => simp [ASt.put]
  | some k => by_cases h : k = t <;> simp [ASt.put, ASt.slot, aget, h]
theorem hp_put (st : ASt) (d : Option Nat) (v : AV) : (st.put d v).hp = st.hp := by cases d <;> rfl

/-- A slot is written. -/
theorem SR.put {E : Env} {st : ASt} {S : Stab} {ρ : Rho} {tm : Array Value} {w : World} (h : SR E st S ρ tm w) (d : Option Nat) (hd : ∀ t, d = some t → t < tm.size) {v : AV} {u : Value} (hv : VR S ρ w v u) :
    SR E (st.put d v) S ρ (match d with | some t => tm.setIfInBounds t u | none => tm) w := by
  refine ⟨fun t => ?_, hp_put st d v ▸ h.heap, h.mine, hp_put st d v ▸ h.old, h.fr⟩
  rw [slot_put]
  cases d with
  | none => simpa using h.slot t
  | some k =>
    have hk := hd k rfl
    by_cases e : k = t
    · subst e; simp only [if_true]; simp only [Array.getD_eq_getD_getElem?, Array.getElem?_setIfInBounds_self_of_lt hk, Option.getD_some]; exact hv
    · rw [if_neg (by simpa using e)]
      simp only [Array.getD_eq_getD_getElem?, Array.getElem?_setIfInBounds_ne e]
      simpa only [Array.getD_eq_getD_getElem?] using h.slot t

/-- An object that the step didn't touch. -/
theorem ObjR.keep {S S' : Stab} {ρ ρ' : Rho} {w w' : World} (x : Ext S w S' w') {n : Nat} {o : AObj} (h : ObjR S ρ w n o) (hn : ρ' n = ρ n)
    (hr : ∀ id r, ρ id = some r → ρ' id = some r)
    (hb : ∀ b sz k, ρ n = some ⟨some (b, sz), k⟩ → w'.heap[b]? = w.heap[b]? ∧ ∀ o, S' b o → S b o) : ObjR S' ρ' w' n o := by
  cases o with
  | box T v =>
    obtain ⟨b, cells, t, fr, h1, h2, h3, h4, h5, h6⟩ := h
    obtain ⟨g1, g2⟩ := hb _ _ _ h1
    refine ⟨b, cells, t, fr, hn.trans h1, g1.trans h2, h3, fun o ho => (frozen_same g1 o).trans (h4 o ho), fun o ho => h5 o (g2 o ho), fun j c hc => ?_⟩
    obtain ⟨u, hu, hv⟩ := h6 j c hc
    exact ⟨u, hu, hv.ext x hr⟩
  | row sz es fx mv =>
    rcases h with ⟨h1, h2⟩ | ⟨b, cells, t, fr, h0, h1, hs, h2, h3, h4, h5, h6⟩
    · exact .inl ⟨h1, hn.trans h2⟩
    · obtain ⟨g1, g2⟩ := hb _ _ _ h1
      refine .inr ⟨b, cells, t, fr, h0, hn.trans h1, hs, g1.trans h2, h3, fun o ho => (frozen_same g1 o).trans (h4 o ho), fun i j e c he hc => ?_, fun o ho => h6 o (g2 o ho)⟩
      obtain ⟨u, hu, hv, hx, hq⟩ := h5 i j e c he hc
      exact ⟨u, hu, hv.ext x, fun e => x.stab _ _ (hx e), hq⟩
  | loop r sl =>
    obtain ⟨b, L, h1, h2, h3, h4, h5, h7, h8, h9, h10, h11⟩ := h
    obtain ⟨g1, g2⟩ := hb _ _ _ h1
    exact ⟨b, L, hn.trans h1, g1.trans h2, fun o ho => h3 o (g2 o ho), h4, h5, h7, h8, h9, h10, fun t => (h11 t).ext x hr⟩
  | map es clk =>
    obtain ⟨b, M, h1, h2, h3, h4, h5⟩ := h
    obtain ⟨g1, g2⟩ := hb _ _ _ h1
    refine ⟨b, M, hn.trans h1, g1.trans h2, fun o ho => h3 o (g2 o ho), h4, fun j e he => ?_⟩
    obtain ⟨m, hm, hb', hk, hv⟩ := h5 j e he
    exact ⟨m, hm, hb', hk.ext x, hv.ext x⟩
  | iter v since seen last =>
    obtain ⟨b, r, h1, h2, h3, h4⟩ := h
    obtain ⟨g1, g2⟩ := hb _ _ _ h1
    exact ⟨b, r, hn.trans h1, g1.trans h2, fun o ho => h3 o (g2 o ho), h4.ext x hr⟩
  | dblk => exact h.elim

end Go.Proofs.YteibklnligmanaaDoor.Abs


/- Steps of the state: a new object, a store, a row that grows, a row that is told. -/
namespace Go.Proofs.YteibklnligmanaaDoor.Abs
open Go Go.RowKit
set_option linter.unusedSimpArgs false
set_option linter.unusedVariables false

structure Step (E : Env) (S : Stab) (w : World) (S' : Stab) (w' : World) : Prop where
  ext : Ext S w S' w'
  size : w.heap.size ≤ w'.heap.size
  keep : ∀ b, b < E.W0.heap.size → ¬ E.F b → w'.heap[b]? = w.heap[b]?
  dfr : ∀ b : Nat, w.heap[b]? = some (.deferred (some [])) → w'.heap[b]? = some (.deferred (some []))
  new : ∀ b o, S' b o → S b o ∨ E.F b ∨ E.W0.heap.size ≤ b
  bnd : ∀ b o, S' b o → b < w'.heap.size
  os : w'.os = w.os
  tape : w'.tape = w.tape
  output : w'.output = w.output

theorem FrameR.step {E : Env} {S S' : Stab} {w w' : World} (h : FrameR E S w) (s : Step E S w S' w') : FrameR E S' w' :=
  ⟨h.ext.trans s.ext, fun b o x => (s.new b o x).elim (h.new b o) .inr, s.bnd, Nat.le_trans h.size s.size, fun b hb hF => (s.keep b hb hF).trans (h.keep b hb hF), fun b hb => s.dfr b (h.dfr b hb),
   s.os.trans h.os, s.tape.trans h.tape, s.output.trans h.output⟩

theorem SR.step {E : Env} {st st' : ASt} {S S' : Stab} {ρ ρ' : Rho} {tm : Array Value} {w w' : World} (h : SR E st S ρ tm w) (s : Step E S w S' w')
    (hr : ∀ id r, ρ id = some r → ρ' id = some r) (hH : HR S' ρ' w' st'.hp) (hm : ∀ n b sz k, ρ' n = some ⟨some (b, sz), k⟩ → E.F b ∨ E.W0.heap.size ≤ b)
    (hs : ∀ t, st'.slot t = st.slot t) (hold : ∀ n o, aget st'.hp n = some o → o.moved = false → ∀ r, E.R0 n = some r → ρ' n = some r) : SR E st' S' ρ' tm w' :=
  ⟨fun t => (hs t).symm ▸ (h.slot t).ext s.ext hr, hH, hm, hold, h.fr.step s⟩

theorem HR.lt {S : Stab} {ρ : Rho} {w : World} {hp : Heap} (h : HR S ρ w hp) {n b sz k : Nat} (hn : ρ n = some ⟨some (b, sz), k⟩) : b < w.heap.size := by
  cases ho : aget hp n with
  | none => rw [h.dom n ho] at hn; cases hn
  | some o =>
    have hx := h.obj n o ho
    cases o with
    | box T v => obtain ⟨b', cells, t, fr, h1, h2, _⟩ := hx; rw [hn] at h1; cases h1; exact lt_of_block h2
    | row sz es fx mv =>
      rcases hx with ⟨_, h1⟩ | ⟨b', cells, t, fr, _, h1, _, h2, _⟩
      · rw [hn] at h1; cases h1
      · rw [hn] at h1; cases h1; exact lt_of_block h2
    | loop r sl => obtain ⟨b', L, h1, h2, _⟩ := hx; rw [hn] at h1; cases h1; exact lt_of_block h2
    | map es clk => obtain ⟨b', X, h1, h2, _⟩ := hx; rw [hn] at h1; cases h1; exact lt_of_block h2
    | iter v0 a0 b0 c0 => obtain ⟨b', X, h1, h2, _⟩ := hx; rw [hn] at h1; cases h1; exact lt_of_block h2
    | dblk => exact hx.elim

/-- The world draws. -/
theorem Ext.drew (S : Stab) (w : World) : Ext S w S w.drew := ⟨fun _ _ h => h, fun _ _ _ => rfl, fun _ c _ fr h => ⟨c, fr, h, rfl⟩, fun _ _ _ _ _ h => h⟩
theorem Step.drew {E : Env} {S : Stab} {w : World} (h : FrameR E S w) : Step E S w S w.drew :=
  ⟨Ext.drew S w, Nat.le_refl _, fun _ _ _ => rfl, fun _ h => h, fun _ _ h => .inl h, h.bnd, rfl, rfl, rfl⟩
theorem SR.drew {E : Env} {st : ASt} {S : Stab} {ρ : Rho} {tm : Array Value} {w : World} (h : SR E st S ρ tm w) : SR E st S ρ tm w.drew :=
  h.step (Step.drew h.fr) (fun _ _ h => h)
    ⟨fun n o ho => (h.heap.obj n o ho).keep (Ext.drew S w) rfl (fun _ _ h => h) (fun _ _ _ _ => ⟨rfl, fun _ h => h⟩), h.heap.dom, h.heap.inj⟩ h.mine (fun _ => rfl) h.old

theorem Ext.alloc {S : Stab} {w : World} (hb : ∀ b o, S b o → b < w.heap.size) (o : Obj) : Ext S w S (w.alloc o) :=
  ⟨fun _ _ h => h, fun b i h => World.cell?_alloc_lt _ _ _ (hb b i h), fun b c t fr h => ⟨c, fr, by rw [Below.heap_alloc w o b (lt_of_block h)]; exact h, rfl⟩, fun b _ _ _ _ h => (Below.heap_alloc w o b (lt_of_block h)).trans h⟩
theorem Step.alloc {E : Env} {S : Stab} {w : World} (h : FrameR E S w) (o : Obj) : Step E S w S (w.alloc o) :=
  ⟨Ext.alloc h.bnd o, by simp, fun b hb _ => Below.heap_alloc w o b (Nat.lt_of_lt_of_le hb h.size), fun b hb => (Below.heap_alloc w o b (lt_of_block hb)).trans hb, fun _ _ h => .inl h,
   fun b i x => by have := h.bnd b i x; simp; omega, rfl, rfl, rfl⟩

/-- A world that has grown by blocks that nobody has a name for. -/
theorem SR.allocs {E : Env} {st : ASt} {S : Stab} {ρ : Rho} {tm : Array Value} {w : World} (h : SR E st S ρ tm w) (o : Obj) : SR E st S ρ tm (w.alloc o) :=
  h.step (Step.alloc h.fr o) (fun _ _ h => h)
    ⟨fun n x ho => (h.heap.obj n x ho).keep (Ext.alloc h.fr.bnd o) rfl (fun _ _ h => h) (fun b _ _ hb => ⟨Below.heap_alloc w o b (h.heap.lt hb), fun _ h => h⟩), h.heap.dom, h.heap.inj⟩ h.mine (fun _ => rfl) h.old

def upd (ρ : Rho) (n : Nat) (r : RI) : Rho := fun k => if k = n then some r else ρ k

theorem aget_cons {α : Type} (k : Nat) (v : α) (l : List (Nat × α)) (n : Nat) : aget ((k, v) :: l) n = if k = n then some v else aget l n := rfl

/-- A new object in a new block. -/
theorem SR.newG {E : Env} {st : ASt} {S : Stab} {ρ : Rho} {tm : Array Value} {w : World} (h : SR E st S ρ tm w) {n : Nat} (hn : aget st.hp n = none) (hlow : 1000 ≤ n) (o : AObj) (x : Obj) (sz k : Nat)
    (ho : ObjR S (upd ρ n ⟨some (w.heap.size, sz), k⟩) (w.alloc x) n o) :
    SR E { st with hp := (n, o) :: st.hp } S (upd ρ n ⟨some (w.heap.size, sz), k⟩) tm (w.alloc x) := by
  have hρ : ρ n = none := h.heap.dom n hn
  have hr : ∀ id r, ρ id = some r → upd ρ n ⟨some (w.heap.size, sz), k⟩ id = some r := by
    intro id r hid
    have : id ≠ n := fun e => by subst e; rw [hρ] at hid; cases hid
    simp [upd, this, hid]
  have hold : ∀ m x, aget ((n, o) :: st.hp) m = some x → x.moved = false → ∀ r, E.R0 m = some r → upd ρ n ⟨some (w.heap.size, sz), k⟩ m = some r := by
    intro m y hy hmv r hr0
    have hne : m ≠ n := fun e => by have := E.low m r hr0; omega
    rw [aget_cons, if_neg (Ne.symm hne)] at hy
    exact hr _ _ (h.old m y hy hmv r hr0)
  refine h.step (Step.alloc h.fr _) hr ⟨?_, ?_, ?_⟩ ?_ (fun _ => rfl) hold
  · intro m y hx
    rw [aget_cons] at hx
    split at hx
    · rename_i e; cases e; cases hx; exact ho
    · rename_i hne
      refine (h.heap.obj m y hx).keep (Ext.alloc h.fr.bnd _) ?_ hr (fun b _ _ hb => ⟨Below.heap_alloc w _ b (h.heap.lt hb), fun _ h => h⟩)
      simp [upd, Ne.symm hne]
  · intro m hm
    rw [aget_cons] at hm
    split at hm
    · cases hm
    · rename_i hne; simp [upd, Ne.symm hne]; exact h.heap.dom m hm
  · intro m m' b s s' j j' h1 h2
    simp only [upd] at h1 h2
    split at h1 <;> split at h2
    · simp_all
    · rename_i e1 e2; cases h1; exact absurd (h.heap.lt h2) (Nat.lt_irrefl _)
    · rename_i e1 e2; cases h2; exact absurd (h.heap.lt h1) (Nat.lt_irrefl _)
    · exact h.heap.inj m m' b s s' j j' h1 h2
  · intro m b s j h1
    simp only [upd] at h1
    split at h1
    · cases h1; exact .inr h.fr.size
    · exact h.mine m b s j h1

theorem SR.new {E : Env} {st : ASt} {S : Stab} {ρ : Rho} {tm : Array Value} {w : World} (h : SR E st S ρ tm w) {n : Nat} (hn : aget st.hp n = none) (hlow : 1000 ≤ n) (o : AObj) (cells : Array Value) (t : TypeId) (sz k : Nat)
    (ho : ObjR S (upd ρ n ⟨some (w.heap.size, sz), k⟩) (w.alloc (.cells cells t)) n o) :
    SR E { st with hp := (n, o) :: st.hp } S (upd ρ n ⟨some (w.heap.size, sz), k⟩) tm (w.alloc (.cells cells t)) := h.newG hn hlow o _ sz k ho

/-- A row without things, and without a block. -/
theorem SR.new0 {E : Env} {st : ASt} {S : Stab} {ρ : Rho} {tm : Array Value} {w : World} (h : SR E st S ρ tm w) {n : Nat} (hn : aget st.hp n = none) (hlow : 1000 ≤ n) (sz : Nat) (fx : Bool) (mv : RM) :
    SR E { st with hp := (n, .row sz [] fx mv) :: st.hp } S (upd ρ n ⟨none, 0⟩) tm w := by
  have hρ : ρ n = none := h.heap.dom n hn
  have hr : ∀ id r, ρ id = some r → upd ρ n ⟨none, 0⟩ id = some r := by
    intro id r hid
    have : id ≠ n := fun e => by subst e; rw [hρ] at hid; cases hid
    simp [upd, this, hid]
  have x := Ext.refl S w
  have hold : ∀ m y, aget ((n, .row sz [] fx mv) :: st.hp) m = some y → y.moved = false → ∀ r, E.R0 m = some r → upd ρ n ⟨none, 0⟩ m = some r := by
    intro m y hy hmv r hr0
    have hne : m ≠ n := fun e => by have := E.low m r hr0; omega
    rw [aget_cons, if_neg (Ne.symm hne)] at hy
    exact hr _ _ (h.old m y hy hmv r hr0)
  refine ⟨fun t => (h.slot t).ext x hr, ⟨?_, ?_, ?_⟩, ?_, hold, h.fr⟩
  · intro m o hx
    rw [aget_cons] at hx
    split at hx
    · rename_i e; cases e; cases hx; exact .inl ⟨rfl, by simp [upd]⟩
    · rename_i hne
      refine (h.heap.obj m o hx).keep x ?_ hr (fun b _ _ hb => ⟨rfl, fun _ h => h⟩)
      simp [upd, Ne.symm hne]
  · intro m hm
    rw [aget_cons] at hm
    split at hm
    · cases hm
    · rename_i hne; simp [upd, Ne.symm hne]; exact h.heap.dom m hm
  · intro m m' b s s' j j' h1 h2
    simp only [upd] at h1 h2
    split at h1 <;> split at h2
    · simp_all
    · cases h1
    · cases h2
    · exact h.heap.inj m m' b s s' j j' h1 h2
  · intro m b s j h1
    simp only [upd] at h1
    split at h1
    · cases h1
    · exact h.mine m b s j h1

theorem aget_hmod (f : AObj → AObj) (n : Nat) (hp : Heap) (m : Nat) : aget (hmod f n hp) m = if m = n then (aget hp m).map f else aget hp m := by
  induction hp with
  | nil => simp [hmod, aget]
  | cons p r ih =>
    obtain ⟨k, o⟩ := p
    by_cases hk : k = n
    · subst hk
      by_cases hm : k = m
      · subst hm; simp [hmod, aget]
      · simp [hmod, aget, hm, ih, Ne.symm hm]
    · by_cases hm : k = m
      · subst hm; simp [hmod, aget, hk]
      · simp [hmod, aget, hk, hm, ih]
theorem aget_hput (n : Nat) (o : AObj) (hp : Heap) (m : Nat) : aget (hput n o hp) m = if m = n then (aget hp m).map (fun _ => o) else aget hp m := aget_hmod _ _ _ _

/-- The object n changes in its own block, all else stays. -/
theorem SR.change {E : Env} {st : ASt} {S : Stab} {ρ : Rho} {tm : Array Value} {w w' : World} (h : SR E st S ρ tm w) {n : Nat} {o0 o : AObj} (hn : aget st.hp n = some o0) {b sz k : Nat} (hρ : ρ n = some ⟨some (b, sz), k⟩)
    (x : Ext S w S w') (hw : ∀ b', b' ≠ b → w'.heap[b']? = w.heap[b']?) (hz : w'.heap.size = w.heap.size) (hos : w'.os = w.os ∧ w'.tape = w.tape ∧ w'.output = w.output)
    (ho : ObjR S ρ w' n o) (hmv : o.moved = false → o0.moved = false) (hdb : o0 ≠ .dblk := by simp) : SR E { st with hp := hput n o st.hp } S ρ tm w' := by
  have hs : Step E S w S w' := by
    have hnd : w.heap[b]? ≠ some (.deferred (some [])) := by
      intro e
      have hob := h.heap.obj n o0 hn
      cases o0 with
      | box T v => obtain ⟨b', cells, t, fr, h1, h2, _⟩ := hob; rw [hρ] at h1; cases h1; rw [e] at h2; cases h2
      | row sz es fx mv =>
        rcases hob with ⟨_, h1⟩ | ⟨b', cells, t, fr, _, h1, _, h2, _⟩
        · rw [hρ] at h1; cases h1
        · rw [hρ] at h1; cases h1; rw [e] at h2; cases h2
      | loop r l => obtain ⟨b', L, h1, h2, _⟩ := hob; rw [hρ] at h1; cases h1; rw [e] at h2; cases h2
      | map es clk => obtain ⟨b', X, h1, h2, _⟩ := hob; rw [hρ] at h1; cases h1; rw [e] at h2; cases h2
      | iter v0 a0 b0 c0 => obtain ⟨b', X, h1, h2, _⟩ := hob; rw [hρ] at h1; cases h1; rw [e] at h2; cases h2
      | dblk => exact hdb rfl
    refine ⟨x, by omega, fun b' hb' hF => hw b' fun e => ?_, fun b' hb' => (hw b' fun e => hnd (e ▸ hb')).trans hb', fun _ _ h => .inl h, fun b' i hi => by rw [hz]; exact h.fr.bnd b' i hi, hos.1, hos.2.1, hos.2.2⟩
    subst e
    rcases h.mine n b' sz k hρ with hh | hh
    · exact hF hh
    · omega
  have hold : ∀ m y, aget (hput n o st.hp) m = some y → y.moved = false → ∀ r, E.R0 m = some r → ρ m = some r := by
    intro m y hy hm r hr0
    rw [aget_hput] at hy
    split at hy
    · rename_i e; subst e; rw [hn] at hy; cases hy; exact h.old m o0 hn (hmv hm) r hr0
    · exact h.old m y hy hm r hr0
  refine h.step hs (fun _ _ h => h) ⟨?_, ?_, h.heap.inj⟩ h.mine (fun _ => rfl) hold
  · intro m p hp
    rw [aget_hput] at hp
    split at hp
    · rename_i e; subst e; rw [hn] at hp; cases hp; exact ho
    · rename_i hne
      refine (h.heap.obj m p hp).keep x rfl (fun _ _ h => h) (fun b' s j hb' => ⟨hw b' fun e => ?_, fun _ h => h⟩)
      subst e; exact hne (h.heap.inj _ _ _ _ _ _ _ hb' hρ)
  · intro m hm
    rw [aget_hput] at hm
    split at hm
    · rename_i e; subst e; rw [hn] at hm; cases hm
    · exact h.heap.dom m hm

end Go.Proofs.YteibklnligmanaaDoor.Abs


/- Steps of the state, on: a row that grows; rows that are told as lists. -/
namespace Go.Proofs.YteibklnligmanaaDoor.Abs
open Go Go.RowKit
set_option linter.unusedSimpArgs false
set_option linter.unusedVariables false

theorem aget_map {α : Type} (f : α → α) (l : List (Nat × α)) (n : Nat) : aget (l.map fun p => (p.1, f p.2)) n = (aget l n).map f := by
  induction l with
  | nil => rfl
  | cons p r ih => simp only [List.map_cons, aget]; split <;> simp_all

theorem slot_killn (st : ASt) (n t : Nat) : (st.killn n).slot t = (st.slot t).kill n := by
  unfold ASt.slot ASt.killn
  rw [aget_map]
  cases aget st.sl t <;> rfl
theorem hp_killn (st : ASt) (n m : Nat) : aget (st.killn n).hp m = (aget st.hp m).map (AObj.kill n) := aget_map _ _ _

theorem ObjR.kill {S : Stab} {ρ ρ' : Rho} {w : World} {n m : Nat} (hr : ∀ id r, id ≠ n → ρ id = some r → ρ' id = some r) (hm : m ≠ n) {o : AObj} (h : ObjR S ρ w m o) : ObjR S ρ' w m (o.kill n) := by
  cases o with
  | box T v =>
    obtain ⟨b, cells, t, fr, h1, h2, h3, h4, h5, h6⟩ := h
    have hl : (v.kill n).cells.length = v.cells.length := by rw [kill_cells, killL_length]
    refine ⟨b, cells, t, fr, by rw [hl]; exact hr m _ hm h1, h2, by rw [hl]; exact h3, h4, h5, fun j c hc => ?_⟩
    rw [kill_cells, killL_get] at hc
    obtain ⟨d, hd, rfl⟩ := Option.map_eq_some_iff.1 hc
    obtain ⟨u, hu, hv⟩ := h6 j d hd
    exact ⟨u, hu, hv.kill n hr⟩
  | row sz es fx mv =>
    rcases h with ⟨h1, h2⟩ | ⟨b, cells, t, fr, h0, h1, rest⟩
    · exact .inl ⟨h1, hr m _ hm h2⟩
    · exact .inr ⟨b, cells, t, fr, h0, hr m _ hm h1, rest⟩
  | loop r sl =>
    obtain ⟨b, L, h1, h2, h3, h4, h5, h7, h8, h9, h10, h11⟩ := h
    refine ⟨b, L, hr m _ hm h1, h2, h3, h4, h5, h7, h8, h9, h10, fun t => ?_⟩
    rw [aget_map]
    have := (h11 t).kill n hr
    cases hs : aget sl t with
    | none => rw [hs] at this; exact .undef _
    | some v => rw [hs] at this; exact this
  | map es clk =>
    obtain ⟨b, M, h1, rest⟩ := h
    exact ⟨b, M, hr m _ hm h1, rest⟩
  | iter v since seen last =>
    obtain ⟨b, r, h1, h2, h3, h4⟩ := h
    exact ⟨b, r, hr m _ hm h1, h2, h3, h4.kill n hr⟩
  | dblk => exact h.elim
theorem moved_kill (n : Nat) (o : AObj) : (o.kill n).moved = o.moved := by cases o <;> rfl

/-- The object n is another one now, perhaps in another block; no other way to it is left. -/
theorem SR.regrow {E : Env} {st : ASt} {S S' : Stab} {ρ : Rho} {tm : Array Value} {w w' : World} (h : SR E st S ρ tm w) {n : Nat} {o0 o : AObj} (hn : aget st.hp n = some o0) {info : RI}
    (s : Step E S w S' w') (hother : ∀ m b sz k, m ≠ n → ρ m = some ⟨some (b, sz), k⟩ → w'.heap[b]? = w.heap[b]? ∧ ∀ i, S' b i → S b i)
    (hfresh : ∀ b sz k, info = ⟨some (b, sz), k⟩ → (E.F b ∨ E.W0.heap.size ≤ b) ∧ ∀ m sz' k', m ≠ n → ρ m ≠ some ⟨some (b, sz'), k'⟩)
    (ho : ObjR S' (upd ρ n info) w' n o) (hmv : o.moved = true) : SR E { sl := (st.killn n).sl, hp := hput n o (st.killn n).hp } S' (upd ρ n info) tm w' := by
  have hr : ∀ id r, id ≠ n → ρ id = some r → upd ρ n info id = some r := by intro id r hid hh; simp [upd, hid, hh]
  have hold : ∀ m y, aget (hput n o (st.killn n).hp) m = some y → y.moved = false → ∀ r, E.R0 m = some r → upd ρ n info m = some r := by
    intro m y hy hm r hr0
    rw [aget_hput] at hy
    split at hy
    · rename_i e; subst e; rw [hp_killn, hn] at hy; cases hy; rw [hmv] at hm; cases hm
    · rename_i hne
      rw [hp_killn] at hy
      obtain ⟨q, hq, rfl⟩ := Option.map_eq_some_iff.1 hy
      rw [moved_kill] at hm
      exact hr _ _ hne (h.old m q hq hm r hr0)
  refine ⟨fun t => ?_, ⟨?_, ?_, ?_⟩, ?_, hold, h.fr.step s⟩
  · show VR S' (upd ρ n info) w' ((st.killn n).slot t) _
    rw [slot_killn]
    exact ((h.slot t).ext s.ext (fun _ _ h => h)).kill n hr
  · intro m p hp
    rw [aget_hput] at hp
    split at hp
    · rename_i e; subst e; rw [hp_killn, hn] at hp; cases hp; exact ho
    · rename_i hne
      rw [hp_killn] at hp
      obtain ⟨q, hq, rfl⟩ := Option.map_eq_some_iff.1 hp
      exact ((h.heap.obj m q hq).keep s.ext rfl (fun _ _ h => h) (fun b sz k hb => hother m b sz k hne hb)).kill hr hne
  · intro m hm
    rw [aget_hput] at hm
    split at hm
    · rename_i e; subst e; rw [hp_killn, hn] at hm; cases hm
    · rename_i hne
      rw [hp_killn] at hm
      simp only [upd, if_neg hne]
      exact h.heap.dom m (by simpa using hm)
  · intro m m' b sz sz' k k' h1 h2
    simp only [upd] at h1 h2
    split at h1 <;> split at h2
    · simp_all
    · rename_i e1 e2; cases h1; exact absurd h2 ((hfresh _ _ _ rfl).2 m' _ _ e2)
    · rename_i e1 e2; cases h2; exact absurd h1 ((hfresh _ _ _ rfl).2 m _ _ e1)
    · exact h.heap.inj m m' b sz sz' k k' h1 h2
  · intro m b sz k h1
    simp only [upd] at h1
    split at h1
    · cases h1; exact (hfresh _ _ _ rfl).1
    · exact h.mine m b sz k h1

/-! ## Rows told as lists -/

/-- What the row n holds is stable. -/
def Cov (S : Stab) (ρ : Rho) (hp : Heap) (n : Nat) : Prop := ∀ sz es fx mv b sz' k, aget hp n = some (.row sz es fx mv) → ρ n = some ⟨some (b, sz'), k⟩ → ∀ o, o < k * sz' → S b o

theorem SR.fix1 {E : Env} {st : ASt} {S : Stab} {ρ : Rho} {tm : Array Value} {w : World} (h : SR E st S ρ tm w) (n : Nat) :
    ∃ S', (∀ b o, S b o → S' b o) ∧ SR E { st with hp := hmod AObj.fix n st.hp } S' ρ tm w ∧ Cov S' ρ st.hp n := by
  by_cases hrow : ∃ sz es fx mv, aget st.hp n = some (.row sz es fx mv)
  · obtain ⟨sz, es, fx, mv, ho⟩ := hrow
    refine ⟨fun b o => S b o ∨ ∃ sz k, ρ n = some ⟨some (b, sz), k⟩ ∧ o < k * sz, fun b o x => .inl x, ?_, ?_⟩
    · have hx : Ext S w (fun b o => S b o ∨ ∃ sz k, ρ n = some ⟨some (b, sz), k⟩ ∧ o < k * sz) w := Ext.more (fun b o x => .inl x) w
      have hs : Step E S w (fun b o => S b o ∨ ∃ sz k, ρ n = some ⟨some (b, sz), k⟩ ∧ o < k * sz) w := by
        refine ⟨hx, Nat.le_refl _, fun _ _ _ => rfl, fun _ h => h, ?_, ?_, rfl, rfl, rfl⟩
        · rintro b o (x | ⟨s, k, x, _⟩)
          · exact .inl x
          · exact .inr (h.mine n b s k x)
        · rintro b o (x | ⟨s, k, x, _⟩)
          · exact h.fr.bnd b o x
          · exact h.heap.lt x
      have hold : ∀ m y, aget (hmod AObj.fix n st.hp) m = some y → y.moved = false → ∀ r, E.R0 m = some r → ρ m = some r := by
        intro m y hy hm r hr0
        rw [aget_hmod] at hy
        split at hy
        · rename_i e; subst e; rw [ho] at hy; cases hy; exact h.old m _ ho hm r hr0
        · exact h.old m y hy hm r hr0
      refine h.step hs (fun _ _ h => h) ⟨?_, ?_, h.heap.inj⟩ h.mine (fun _ => rfl) hold
      · intro m p hp
        rw [aget_hmod] at hp
        split at hp
        · rename_i e; subst e
          rw [ho] at hp; cases hp
          rcases h.heap.obj m _ ho with ⟨h1, h2⟩ | ⟨b, cells, t, fr, h0, h1, h2, h3, h4, h5, h6, h7⟩
          · exact .inl ⟨h1, h2⟩
          · refine .inr ⟨b, cells, t, fr, h0, h1, h2, h3, h4, h5, fun i j e c he hc => ?_, ?_⟩
            · obtain ⟨u, hu, hp, _, hq⟩ := h6 i j e c he hc
              refine ⟨u, hu, hp.ext hx, fun _ => .inr ⟨sz, es.length, h1, ?_⟩, hq⟩
              have hi : i < es.length := (List.getElem?_eq_some_iff.1 he).1
              have hj : j < sz := by rw [← h2 e (List.mem_of_getElem? he)]; exact (List.getElem?_eq_some_iff.1 hc).1
              calc i * sz + j < i * sz + sz := by omega
                _ = (i + 1) * sz := by rw [Nat.succ_mul]
                _ ≤ es.length * sz := Nat.mul_le_mul_right _ hi
            · rintro o (x | ⟨s, k, x, hk⟩)
              · exact ⟨rfl, (h7 o x).2⟩
              · rw [h1] at x; cases x; exact ⟨rfl, hk⟩
        · rename_i hne
          refine (h.heap.obj m p hp).keep hx rfl (fun _ _ h => h) (fun b s k hb => ⟨rfl, ?_⟩)
          rintro o (x | ⟨s', k', x, _⟩)
          · exact x
          · exact absurd (h.heap.inj _ _ _ _ _ _ _ hb x) hne
      · intro m hm
        rw [aget_hmod] at hm
        split at hm
        · rename_i e; subst e; rw [ho] at hm; cases hm
        · exact h.heap.dom m hm
    · intro sz2 es2 fx2 mv2 b s k _ hb o hk
      exact .inr ⟨s, k, hb, hk⟩
  · refine ⟨S, fun _ _ x => x, ?_, fun sz es fx mv b s k ho => absurd ⟨sz, es, fx, mv, ho⟩ hrow⟩
    have hold : ∀ m y, aget (hmod AObj.fix n st.hp) m = some y → y.moved = false → ∀ r, E.R0 m = some r → ρ m = some r := by
      intro m y hy hm r hr0
      rw [aget_hmod] at hy
      split at hy
      · rename_i e; subst e
        obtain ⟨q, hq, rfl⟩ := Option.map_eq_some_iff.1 hy
        exact h.old m q hq (by cases q <;> exact hm) r hr0
      · exact h.old m y hy hm r hr0
    refine ⟨h.slot, ⟨?_, ?_, h.heap.inj⟩, h.mine, hold, h.fr⟩
    · intro m p hp
      rw [aget_hmod] at hp
      split at hp
      · rename_i e; subst e
        cases ho : aget st.hp m with
        | none => rw [ho] at hp; cases hp
        | some q =>
          rw [ho] at hp; cases hp
          cases q with
          | box T v => exact h.heap.obj m _ ho
          | row sz es fx mv => exact absurd ⟨sz, es, fx, mv, ho⟩ hrow
          | loop r sl => exact h.heap.obj m _ ho
          | map es clk => exact h.heap.obj m _ ho
          | iter v0 a0 b0 c0 => exact h.heap.obj m _ ho
          | dblk => exact h.heap.obj m _ ho
      · exact h.heap.obj m p hp
    · intro m hm
      rw [aget_hmod] at hm
      split at hm
      · rename_i e; subst e; exact h.heap.dom m (by simpa using hm)
      · exact h.heap.dom m hm

theorem Cov.mono {S S' : Stab} {ρ : Rho} {hp : Heap} {n : Nat} (h : Cov S ρ hp n) (hs : ∀ b o, S b o → S' b o) : Cov S' ρ hp n :=
  fun sz es fx mv b s k ho hb o hk => hs b o (h sz es fx mv b s k ho hb o hk)
/-- A heap whose rows hold the same. -/
def SameRows (hp hp' : Heap) : Prop := ∀ n, match aget hp n, aget hp' n with
  | some (.row sz es _ mv), some (.row sz' es' _ mv') => sz = sz' ∧ es = es' ∧ mv = mv'
  | some (.box t v), some (.box t' v') => t = t' ∧ v = v'
  | some (.loop r l), some (.loop r' l') => r = r' ∧ l = l'
  | some (.map es k), some (.map es' k') => es = es' ∧ k = k'
  | some (.iter v a b c), some (.iter v' a' b' c') => v = v' ∧ a = a' ∧ b = b' ∧ c = c'
  | some .dblk, some .dblk => True
  | none, none => True
  | _, _ => False
theorem SameRows.refl (hp : Heap) : SameRows hp hp := fun n => by cases h : aget hp n with | none => trivial | some o => cases o <;> simp
theorem SameRows.hmod (n : Nat) (hp : Heap) : SameRows hp (hmod AObj.fix n hp) := by
  intro m
  rw [aget_hmod]
  by_cases e : m = n
  · rw [if_pos e]; cases h : aget hp m with
    | none => simp
    | some o => cases o <;> simp [AObj.fix]
  · rw [if_neg e]; cases h : aget hp m with
    | none => trivial
    | some o => cases o <;> simp
theorem SameRows.trans {a b c : Heap} (h : SameRows a b) (k : SameRows b c) : SameRows a c := by
  intro n
  have x := h n; have y := k n
  cases ha : aget a n <;> cases hb : aget b n <;> cases hc : aget c n <;> simp only [ha, hb, hc] at x y ⊢ <;> try trivial
  rename_i p q r
  cases p <;> cases q <;> cases r <;> simp_all
theorem SameRows.row {hp hp' : Heap} (h : SameRows hp hp') {n sz : Nat} {es : List AV} {fx : Bool} {mv : RM} (ho : aget hp n = some (.row sz es fx mv)) : ∃ fx', aget hp' n = some (.row sz es fx' mv) := by
  have x := h n
  rw [ho] at x
  cases hb : aget hp' n with
  | none => simp [hb] at x
  | some o => cases o with
    | box T v => simp [hb] at x
    | row s e f m => simp only [hb] at x; obtain ⟨rfl, rfl, rfl⟩ := x; exact ⟨f, rfl⟩
    | loop r l => simp [hb] at x
    | map es clk => simp [hb] at x
    | iter v0 a0 b0 c0 => simp [hb] at x
    | dblk => simp [hb] at x
theorem SameRows.symm {hp hp' : Heap} (h : SameRows hp hp') : SameRows hp' hp := by
  intro n
  have x := h n
  cases ha : aget hp n <;> cases hb : aget hp' n <;> simp only [ha, hb] at x ⊢
  rename_i p q
  cases p <;> cases q <;> simp_all

theorem SR.fix {E : Env} {ρ : Rho} {tm : Array Value} {w : World} (ns : List Nat) : ∀ {st : ASt} {S : Stab}, SR E st S ρ tm w →
    ∃ S', (∀ b o, S b o → S' b o) ∧ SR E (st.fix ns) S' ρ tm w ∧ (∀ n ∈ ns, Cov S' ρ st.hp n) ∧ SameRows st.hp (st.fix ns).hp := by
  induction ns with
  | nil => intro st S h; exact ⟨S, fun _ _ x => x, h, fun n hn => by simp at hn, SameRows.refl _⟩
  | cons n ns ih =>
    intro st S h
    obtain ⟨S1, h1, h2, h3⟩ := h.fix1 n
    obtain ⟨S2, k1, k2, k3, k4⟩ := ih h2
    refine ⟨S2, fun b o x => k1 b o (h1 b o x), k2, fun m hm => ?_, (SameRows.hmod n st.hp).trans k4⟩
    rcases List.mem_cons.1 hm with rfl | hm
    · exact h3.mono k1
    · intro sz es fx mv b s k ho hb o hk
      obtain ⟨fx', ho'⟩ := (SameRows.hmod n st.hp).row ho
      exact k3 m hm sz es fx' mv b s k ho' hb o hk

theorem rvL_get (hp : Heap) (l : List AV) (j : Nat) : (AV.rvL hp l)[j]? = (l[j]?).map (AV.rv hp) := by
  induction l generalizing j with
  | nil => simp [AV.rvL]
  | cons a l ih => cases j with
    | zero => simp [AV.rvL]
    | succ j => simp [AV.rvL, ih]
theorem rvL_length (hp : Heap) (l : List AV) : (AV.rvL hp l).length = l.length := by
  induction l with
  | nil => rfl
  | cons a l ih => simp [AV.rvL, ih]
theorem rowsL_mem {l : List AV} {j : Nat} {a : AV} (h : l[j]? = some a) {n : Nat} (hn : n ∈ a.rows) : n ∈ AV.rowsL l := by
  induction l generalizing j with
  | nil => simp at h
  | cons x l ih => cases j with
    | zero => simp at h; subst h; simp [AV.rowsL, hn]
    | succ j => simp at h; simp [AV.rowsL, ih h]

theorem PR.rv {S : Stab} {w : World} (hp : Heap) {a : AV} {v : Value} (h : PR S w a v) : PR S w (a.rv hp) v := by
  induction h with
  | agg cs vs hl _ ih =>
    refine .agg _ vs ((rvL_length hp cs).trans hl) fun j c v hc hv => ?_
    rw [rvL_get] at hc
    obtain ⟨d, hd, rfl⟩ := Option.map_eq_some_iff.1 hc
    exact ih j d v hd hv
  | tup cs vs hl _ ih =>
    refine .tup _ vs ((rvL_length hp cs).trans hl) fun j c v hc hv => ?_
    rw [rvL_get] at hc
    obtain ⟨d, hd, rfl⟩ := Option.map_eq_some_iff.1 hc
    exact ih j d v hd hv
  | iface t a v _ ih => exact .iface t _ v ih
  | fn g a b va vb h1 h2 _ _ i1 i2 =>
    refine .fn g _ _ va vb ((rvL_length hp a).trans h1) ((rvL_length hp b).trans h2) (fun j c v hc hv => ?_) (fun j c v hc hv => ?_)
    · rw [rvL_get] at hc
      obtain ⟨d, hd, rfl⟩ := Option.map_eq_some_iff.1 hc
      exact i1 j d v hd hv
    · rw [rvL_get] at hc
      obtain ⟨d, hd, rfl⟩ := Option.map_eq_some_iff.1 hc
      exact i2 j d v hd hv
  | bool b => exact .bool b
  | int k n => exact .int k n
  | str s => exact .str s
  | nilp => exact .nilp
  | nils => exact .nils
  | nilf => exact .nilf
  | nilm => exact .nilm
  | nili => exact .nili
  | empty sz a c hz => exact .empty sz a c hz
  | list es b off cap sz f h0 hc hs hS hw hq hp _ => exact .list es b off cap sz f h0 hc hs hS hw hq hp
  | ep v b base off f ho hS hw hp _ => exact .ep v b base off f ho hS hw hp
  | cm i b clk M L hS hb hL hl hk hv _ _ => exact .cm i b clk M L hS hb hL hl hk hv

/-- What a row's block holds, as a list that stands in it. -/
theorem row_list {S : Stab} {ρ : Rho} {w : World} {hp : Heap} (H : HR S ρ w hp) {id sz : Nat} {es : List AV} {fx : Bool} {mv : RM} (ho : aget hp id = some (.row sz es fx mv)) (hc : Cov S ρ hp id) {b s n : Nat} (hρ : ρ id = some ⟨some (b, s), n⟩)
    (o l cap : Nat) (hol : o + l ≤ es.length) (hl : l ≤ cap) : s = sz ∧ n = es.length ∧ (0 < l → PR S w (.list sz ((es.drop o).take l)) (.slice (some (at0 b (o * sz))) l cap)) := by
  rcases H.obj id _ ho with ⟨_, h1⟩ | ⟨b', cells, t, fr, h0, h1, hs, h2, h3, h4, h5, h6⟩
  · rw [hρ] at h1; cases h1
  · rw [hρ] at h1; cases h1
    refine ⟨rfl, rfl, fun hpos => ?_⟩
    have hlen : ((es.drop o).take l).length = l := by simp; omega
    have get : ∀ (i : Nat) e, ((es.drop o).take l)[i]? = some e → es[o + i]? = some e := by
      intro i e he
      rw [List.getElem?_take] at he
      split at he
      · rwa [List.getElem?_drop] at he
      · cases he
    have key : ∀ (i j : Nat) e c, ((es.drop o).take l)[i]? = some e → e.cells[j]? = some c → S b (o * sz + i * sz + j) ∧ w.cell? (at0 b (o * sz + i * sz + j)) = some (cells[o * sz + i * sz + j]?.getD default) ∧ PR S w c (cells[o * sz + i * sz + j]?.getD default) ∧ scalarV (cells[o * sz + i * sz + j]?.getD default) = true := by
      intro i j e c he hcj
      obtain ⟨u, hu, hp, _, hq⟩ := h5 (o + i) j e c (get i e he) hcj
      rw [Nat.add_mul] at hu
      have hi : o + i < es.length := (List.getElem?_eq_some_iff.1 (get i e he)).1
      have hj : j < sz := by rw [← hs e (List.mem_of_getElem? (get i e he))]; exact (List.getElem?_eq_some_iff.1 hcj).1
      have hlt : o * sz + i * sz + j < es.length * sz := by
        have : (o + i + 1) * sz ≤ es.length * sz := Nat.mul_le_mul_right _ hi
        rw [Nat.add_mul, Nat.add_mul, Nat.one_mul] at this; omega
      refine ⟨hc sz es fx mv b sz es.length ho hρ _ hlt, by rw [cell_block h2, hu]; rfl, by rw [hu]; exact hp, by rw [hu]; exact hq⟩
    have := PR.list (S := S) (w := w) ((es.drop o).take l) b (o * sz) cap sz (fun i j => cells[o * sz + i * sz + j]?.getD default) h0 (by rw [hlen]; exact hl)
      (fun e he => hs e (List.mem_of_mem_drop (List.mem_of_mem_take he))) (fun i j e c he hcj => (key i j e c he hcj).1) (fun i j e c he hcj => (key i j e c he hcj).2.1) (fun i j e c he hcj => (key i j e c he hcj).2.2.2) (fun i j e c he hcj => (key i j e c he hcj).2.2.1)
    rw [hlen] at this
    exact this

theorem VR.rv {S : Stab} {ρ : Rho} {w : World} {hp : Heap} (H : HR S ρ w hp) {a : AV} {v : Value} (h : VR S ρ w a v) (hc : ∀ n ∈ a.rows, Cov S ρ hp n) : VR S ρ w (a.rv hp) v := by
  induction h with
  | pure h => exact .pure (h.rv hp)
  | undef v => exact .undef v
  | own0 id h =>
    simp only [AV.rv]
    split
    · rename_i sz es fx mv ho
      rcases H.obj id _ ho with ⟨h1, _⟩ | ⟨b', cells, t, fr, h0, h1, _⟩
      · subst h1
        split
        · exact .undef _
        · rename_i hz; exact .pure (.empty _ _ _ (fun e => absurd e hz))
      · rw [h] at h1; cases h1
    · exact .undef _
  | own id b s n cap h hcap hr =>
    simp only [AV.rv]
    split
    · rename_i sz es fx mv ho
      obtain ⟨rfl, rfl, _⟩ := row_list H ho (hc id (by simp [AV.rows])) h 0 0 0 (by omega) (by omega)
      obtain ⟨_, _, hl⟩ := row_list H ho (hc id (by simp [AV.rows])) h 0 es.length cap (by omega) hcap
      split
      · exact .undef _
      rename_i hz
      by_cases he : es = []
      · subst he; exact .pure (.empty _ _ _ (fun e => absurd e hz))
      · have := hl (List.length_pos_iff.2 he)
        simp only [List.drop_zero, List.take_length, Nat.zero_mul] at this
        exact .pure this
    · exact .undef _
  | row0 id o c a =>
    simp only [AV.rv]
    split
    · split
      · rename_i hz; rw [List.take_zero]; exact .pure (.empty _ _ _ (fun e => absurd e hz.1))
      · exact .undef _
    · exact .undef _
  | row id o l b s n cap h hl =>
    simp only [AV.rv]
    split
    · rename_i sz es fx mv ho
      split
      · rename_i hol
        obtain ⟨hz, hol⟩ := hol
        obtain ⟨rfl, rfl, hL⟩ := row_list H ho (hc id (by simp [AV.rows])) h o l cap hol hl
        by_cases he : l = 0
        · subst he; rw [List.take_zero]; exact .pure (.empty _ _ _ (fun e => absurd e hz))
        · exact .pure (hL (by omega))
      · exact .undef _
    · exact .undef _
  | ptr id i o b sz n h => exact .ptr id i o b sz n h
  | yld id b sz n h => exact .yld id b sz n h
  | mp id b sz n h => exact .mp id b sz n h
  | win id o l s b sz n cap h hl => exact .win id o l s b sz n cap h hl
  | agg cs vs hl _ ih =>
    refine .agg _ vs ((rvL_length hp cs).trans hl) fun j c v hcj hv => ?_
    rw [rvL_get] at hcj
    obtain ⟨d, hd, rfl⟩ := Option.map_eq_some_iff.1 hcj
    exact ih j d v hd hv (fun n hn => hc n (rowsL_mem hd hn))
  | tup cs vs hl _ ih =>
    refine .tup _ vs ((rvL_length hp cs).trans hl) fun j c v hcj hv => ?_
    rw [rvL_get] at hcj
    obtain ⟨d, hd, rfl⟩ := Option.map_eq_some_iff.1 hcj
    exact ih j d v hd hv (fun n hn => hc n (rowsL_mem hd hn))
  | iface t a v _ ih => exact .iface t _ v (ih hc)
  | fn g a b va vb h1 h2 _ _ i1 i2 =>
    refine .fn g _ _ va vb ((rvL_length hp a).trans h1) ((rvL_length hp b).trans h2) (fun j c v hcj hv => ?_) (fun j c v hcj hv => ?_)
    · rw [rvL_get] at hcj
      obtain ⟨d, hd, rfl⟩ := Option.map_eq_some_iff.1 hcj
      exact i1 j d v hd hv (fun n hn => hc n (by simp only [AV.rows, List.mem_append]; exact .inl (rowsL_mem hd hn)))
    · rw [rvL_get] at hcj
      obtain ⟨d, hd, rfl⟩ := Option.map_eq_some_iff.1 hcj
      exact i2 j d v hd hv (fun n hn => hc n (by simp only [AV.rows, List.mem_append]; exact .inr (rowsL_mem hd hn)))

theorem pureL_get {l : List AV} (h : AV.pureL l = true) {j : Nat} {a : AV} (hj : l[j]? = some a) : a.pureB = true := by
  induction l generalizing j with
  | nil => simp at hj
  | cons x l ih =>
    simp only [AV.pureL, Bool.and_eq_true] at h
    cases j with
    | zero => simp at hj; subst hj; exact h.1
    | succ j => simp at hj; exact ih h.2 hj
theorem VR.pr {S : Stab} {ρ : Rho} {w : World} {a : AV} {v : Value} (h : VR S ρ w a v) (hp : a.pureB = true) : PR S w a v := by
  induction h with
  | pure h => exact h
  | undef v => simp [AV.pureB] at hp
  | own0 id h => simp [AV.pureB] at hp
  | own => simp [AV.pureB] at hp
  | row0 => simp [AV.pureB] at hp
  | row => simp [AV.pureB] at hp
  | ptr => simp [AV.pureB] at hp
  | yld => simp [AV.pureB] at hp
  | mp => simp [AV.pureB] at hp
  | win => simp [AV.pureB] at hp
  | agg cs vs hl _ ih => exact .agg cs vs hl fun j c v hc hv => ih j c v hc hv (pureL_get (by simpa [AV.pureB] using hp) hc)
  | tup cs vs hl _ ih => exact .tup cs vs hl fun j c v hc hv => ih j c v hc hv (pureL_get (by simpa [AV.pureB] using hp) hc)
  | iface t a v _ ih => exact .iface t a v (ih (by simpa [AV.pureB] using hp))
  | fn g a b va vb h1 h2 _ _ i1 i2 =>
    simp only [AV.pureB, Bool.and_eq_true] at hp
    exact .fn g a b va vb h1 h2 (fun j c v hc hv => i1 j c v hc hv (pureL_get hp.1 hc)) (fun j c v hc hv => i2 j c v hc hv (pureL_get hp.2 hc))

end Go.Proofs.YteibklnligmanaaDoor.Abs


/- What an operation that only reads comes to, the machine's comes to. -/
namespace Go.Proofs.YteibklnligmanaaDoor.Abs
open Go Go.RowKit
set_option linter.unusedSimpArgs false
set_option linter.unusedVariables false

variable {P : Program} {S : Stab} {ρ : Rho} {w : World}

theorem runB {α β : Type} {s : Sem α} {f : α → Sem β} {a : α} {w w' : World} (h : s.run P w = .ok a w') : (s >>= f).run P w = (f a).run P w' := by
  rw [Sem.run_bind, h]; rfl

/-! ## What a value is, by its form -/
theorem vr_bool {b : Bool} {v : Value} (h : VR S ρ w (.bool b) v) : v = .bool b := by cases h with | pure h => cases h; rfl
theorem vr_int {k : IntKind} {n : Int} {v : Value} (h : VR S ρ w (.int k n) v) : v = .int k n := by cases h with | pure h => cases h; rfl
theorem vr_str {s : List UInt8} {v : Value} (h : VR S ρ w (.str s) v) : ∃ b : ByteArray, v = .string b ∧ b.data.toList = s := by cases h with | pure h => cases h; exact ⟨_, rfl, rfl⟩
theorem vr_nilp {v : Value} (h : VR S ρ w .nilp v) : v = .pointer none := by cases h with | pure h => cases h; rfl
theorem vr_nils {v : Value} (h : VR S ρ w .nils v) : v = .slice none 0 0 := by cases h with | pure h => cases h; rfl
theorem vr_nilf {v : Value} (h : VR S ρ w .nilf v) : v = .nilFunc := by cases h with | pure h => cases h; rfl
theorem vr_nili {v : Value} (h : VR S ρ w .nili v) : v = .nilIface := by cases h with | pure h => cases h; rfl
theorem vr_agg {cs : List AV} {v : Value} (h : VR S ρ w (.agg cs) v) : ∃ vs : Array Value, v = .agg vs ∧ cs.length = vs.size ∧ ∀ (j : Nat) c u, cs[j]? = some c → vs[j]? = some u → VR S ρ w c u := by
  cases h with
  | pure h => cases h with | agg _ vs hl h => exact ⟨vs, rfl, hl, fun j c u hc hu => .pure (h j c u hc hu)⟩
  | agg _ vs hl h => exact ⟨vs, rfl, hl, h⟩
theorem vr_tup {cs : List AV} {v : Value} (h : VR S ρ w (.tup cs) v) : ∃ vs : Array Value, v = .tuple vs ∧ cs.length = vs.size ∧ ∀ (j : Nat) c u, cs[j]? = some c → vs[j]? = some u → VR S ρ w c u := by
  cases h with
  | pure h => cases h with | tup _ vs hl h => exact ⟨vs, rfl, hl, fun j c u hc hu => .pure (h j c u hc hu)⟩
  | tup _ vs hl h => exact ⟨vs, rfl, hl, h⟩
theorem vr_iface {t : TypeId} {a : AV} {v : Value} (h : VR S ρ w (.iface t a) v) : ∃ u, v = .iface t u ∧ VR S ρ w a u := by
  cases h with
  | pure h => cases h with | iface _ _ u h => exact ⟨u, rfl, .pure h⟩
  | iface _ _ u h => exact ⟨u, rfl, h⟩
theorem vr_fn {g : Fn} {x y : List AV} {v : Value} (h : VR S ρ w (.fn g x y) v) : ∃ vx vy : Array Value, v = .func g vx vy ∧ x.length = vx.size ∧ y.length = vy.size ∧
    (∀ (j : Nat) c u, x[j]? = some c → vx[j]? = some u → VR S ρ w c u) ∧ ∀ (j : Nat) c u, y[j]? = some c → vy[j]? = some u → VR S ρ w c u := by
  cases h with
  | pure h => cases h with | fn _ _ _ vx vy hx hy h1 h2 => exact ⟨vx, vy, rfl, hx, hy, fun j c u hc hu => .pure (h1 j c u hc hu), fun j c u hc hu => .pure (h2 j c u hc hu)⟩
  | fn _ _ _ vx vy hx hy h1 h2 => exact ⟨vx, vy, rfl, hx, hy, h1, h2⟩
theorem vr_ptr {id i o : Nat} {v : Value} (h : VR S ρ w (.ptr id i o) v) : ∃ b sz n, ρ id = some ⟨some (b, sz), n⟩ ∧ v = .pointer (some (at0 b (i * sz + o))) := by
  cases h with
  | pure h => cases h
  | ptr _ _ _ b sz n h => exact ⟨b, sz, n, h, rfl⟩
theorem vr_ep {a : AV} {o : Nat} {v : Value} (h : VR S ρ w (.ep a o) v) : ∃ b base, v = .pointer (some (at0 b (base + o))) ∧ o < a.cells.length ∧
    ∃ f : Nat → Value, ∀ (j : Nat) c, a.cells[j]? = some c → S b (base + j) ∧ w.cell? (at0 b (base + j)) = some (f j) ∧ PR S w c (f j) := by
  cases h with
  | pure h => cases h with | ep _ b base _ f ho hS hw hp => exact ⟨b, base, rfl, ho, f, fun j c hc => ⟨hS j c hc, hw j c hc, hp j c hc⟩⟩

/-- A value has as many cells, if its form is known. -/
theorem vr_cells {a : AV} {v : Value} (h : VR S ρ w a v) (ha : a ≠ .undef) :
    a.cells.length = v.cells.size ∧ ∀ (j : Nat) c u, a.cells[j]? = some c → v.cells[j]? = some u → VR S ρ w c u := by
  have hh := h
  cases h with
  | undef => exact absurd rfl ha
  | pure h => exact ⟨h.cells.1, fun j c u hc hu => .pure (h.cells.2 j c u hc hu)⟩
  | agg cs vs hl h => exact ⟨hl, h⟩
  | _ =>
    refine ⟨rfl, fun j c u hc hu => ?_⟩
    cases j with
    | zero => simp [AV.cells, Value.cells] at hc hu; subst hc hu; exact hh
    | succ j => simp [AV.cells] at hc

/-- A cell of a known form is one cell of the machine's. -/
theorem vr_scalar {c : AV} {u : Value} (h : VR S ρ w c u) (hc : okCell c = true) : scalarV u = true := by
  cases h with
  | pure h => cases h <;> first | rfl | simp [okCell] at hc
  | undef => simp [okCell] at hc
  | agg => simp [okCell] at hc
  | tup => simp [okCell] at hc
  | _ => rfl

/-! ## Constants, operands -/
theorem vr_ofScalar (v : Value) : VR S ρ w (ofScalar v) v := by
  unfold ofScalar
  split
  · exact .pure (.bool _)
  · exact .pure (.int _ _)
  · exact .pure (.str _)
  · exact .pure .nilp
  · exact .pure .nils
  · exact .pure .nilf
  · exact .pure .nilm
  · exact .pure .nili
  · exact .undef _
theorem vr_ofValue (v : Value) : VR S ρ w (ofValue v) v := by
  unfold ofValue
  split
  · rename_i cs
    refine .agg _ _ (by simp) fun j c u hc hu => ?_
    simp only [List.getElem?_map, Array.getElem?_toList, hu, Option.map_some, Option.some.injEq] at hc
    subst hc; exact vr_ofScalar u
  · rename_i cs
    refine .tup _ _ (by simp) fun j c u hc hu => ?_
    simp only [List.getElem?_map, Array.getElem?_toList, hu, Option.map_some, Option.some.injEq] at hc
    subst hc; exact vr_ofScalar u
  · exact vr_ofScalar v

theorem SR.ev {E : Env} {st : ASt} {a : Act} (h : SR E st S ρ a.tmps w) (x : Operand) : VR S ρ w (st.ev x) (a.eval x) := by
  cases x with
  | tmp t => exact h.slot t
  | const v => exact vr_ofValue v
  | global g =>
    show VR S ρ w (globA g) (.pointer (some (at0 g 0)))
    unfold globA
    split
    · rename_i v hv; exact .pure (h.fr.glob g v hv)
    · exact .undef _
  | func f => exact .fn _ _ _ _ _ rfl rfl (fun j c u hc _ => by simp at hc) (fun j c u hc _ => by simp at hc)

/-! ## Values of operations -/
theorem run_sizeOf {t : TypeId} {n : Nat} (h : P.cellsOf t = n) (hn : 0 < n) : (sizeOf t).run P w = .ok n w := by
  unfold Program.cellsOf at h
  unfold sizeOf typeInfo
  cases hi : P.info? t with
  | none => simp [hi] at h; omega
  | some i => simp [hi] at h; simp [program, bind, Sem.bind, Sem.run, hi, h, pure]

theorem run_isAgg {t : TypeId} {d : TypeDesc} (h : P.underlying t = some d) : (isAgg t).run P w = .ok (isAggT P t) w := by
  unfold isAgg isAggT
  rw [runB (run_underlying h w), h]
  cases d <;> rfl

theorem run_part_scalar {t : TypeId} {cs : Array Value} {o : Nat} {d : TypeDesc} {v : Value} (h : P.underlying t = some d) (ha : isAggT P t = false) (hv : cs[o]? = some v) : (part t cs o).run P w = .ok v w := by
  unfold part
  rw [runB (run_isAgg h), ha]
  simp [hv]
theorem run_part_agg {t : TypeId} {cs : Array Value} {o n : Nat} {d : TypeDesc} (h : P.underlying t = some d) (ha : isAggT P t = true) (hn : P.cellsOf t = n) (h0 : 0 < n) : (part t cs o).run P w = .ok (.agg (cs.extract o (o + n))) w := by
  unfold part
  rw [runB (run_isAgg h), ha]
  simp only [if_true]
  rw [runB (run_sizeOf hn h0)]
  rfl

/-- A part of cells. -/
theorem part_ok {t : TypeId} {d : TypeDesc} {cs : List AV} {vs : Array Value} {o : Nat} {v : AV} (h : P.underlying t = some d) (h0 : 0 < P.cellsOf t) (hl : cs.length = vs.size)
    (hv : ∀ (j : Nat) c u, cs[j]? = some c → vs[j]? = some u → VR S ρ w c u) (hp : partA (isAggT P t) (P.cellsOf t) cs o = some v) : ∃ u, (part t vs o).run P w = .ok u w ∧ VR S ρ w v u := by
  unfold partA at hp
  cases ha : isAggT P t with
  | true =>
    simp only [ha, if_true] at hp
    split at hp
    · rename_i hle
      cases hp
      refine ⟨_, run_part_agg h ha rfl h0, .agg _ _ (by simp; omega) fun j c u hc hu => ?_⟩
      rw [List.getElem?_take] at hc
      split at hc
      · rename_i hj
        rw [List.getElem?_drop] at hc
        refine hv (o + j) c u hc ?_
        rw [Array.getElem?_extract] at hu
        split at hu
        · exact hu
        · cases hu
      · cases hc
    · cases hp
  | false =>
    simp only [ha, Bool.false_eq_true, if_false] at hp
    have hlt : o < vs.size := by rw [← hl]; exact (List.getElem?_eq_some_iff.1 hp).1
    exact ⟨vs[o], run_part_scalar h ha (Array.getElem?_eq_getElem hlt), hv o v _ hp (Array.getElem?_eq_getElem hlt)⟩

theorem run_loadVar_scalar {t : TypeId} {d : TypeDesc} {b o : Nat} {v : Value} (h : P.underlying t = some d) (ha : isAggT P t = false) (hv : w.cell? (at0 b o) = some v) : (loadVar t (at0 b o)).run P w = .ok v w := by
  unfold loadVar
  rw [runB (run_isAgg h), ha]
  simp [load, Sem.run, hv]
theorem run_loadVar_agg {t : TypeId} {d : TypeDesc} {b o n : Nat} (f : Nat → Value) (h : P.underlying t = some d) (ha : isAggT P t = true) (hn : P.cellsOf t = n) (h0 : 0 < n) (hv : ∀ j, j < n → w.cell? (at0 b (o + j)) = some (f j)) :
    (loadVar t (at0 b o)).run P w = .ok (.agg ((List.range n).map f).toArray) w := by
  unfold loadVar
  rw [runB (run_isAgg h), ha]
  simp only [if_true]
  rw [runB (run_sizeOf hn h0), runB (run_loadCells f hv)]
  rfl

/-- A variable that is loaded: its cells stand one behind the other. -/
theorem load_ok {t : TypeId} {d : TypeDesc} {cs : List AV} {b base o : Nat} {v : AV} (f : Nat → Value) (h : P.underlying t = some d) (h0 : 0 < P.cellsOf t)
    (hv : ∀ (j : Nat) c, cs[j]? = some c → w.cell? (at0 b (base + j)) = some (f j) ∧ VR S ρ w c (f j)) (hp : partA (isAggT P t) (P.cellsOf t) cs o = some v) :
    ∃ u, (loadVar t (at0 b (base + o))).run P w = .ok u w ∧ VR S ρ w v u := by
  unfold partA at hp
  cases ha : isAggT P t with
  | true =>
    simp only [ha, if_true] at hp
    split at hp
    · rename_i hle
      cases hp
      refine ⟨_, run_loadVar_agg (fun j => f (o + j)) h ha rfl h0 (fun j hj => ?_), .agg _ _ (by simp; omega) fun j c u hc hu => ?_⟩
      · have hlt : o + j < cs.length := by omega
        rw [Nat.add_assoc]; exact (hv (o + j) _ (List.getElem?_eq_getElem hlt)).1
      · rw [List.getElem?_take] at hc
        split at hc
        · rename_i hj
          rw [List.getElem?_drop] at hc
          simp only [List.getElem?_toArray, List.getElem?_map, List.getElem?_range hj, Option.map_some, Option.some.injEq] at hu
          subst hu; exact (hv (o + j) c hc).2
        · cases hc
    · cases hp
  | false =>
    simp only [ha, Bool.false_eq_true, if_false] at hp
    exact ⟨f o, run_loadVar_scalar h ha (hv o v hp).1, (hv o v hp).2⟩

end Go.Proofs.YteibklnligmanaaDoor.Abs


/- What an operation that only reads comes to: operation by operation. -/
namespace Go.Proofs.YteibklnligmanaaDoor.Abs
open Go Go.RowKit
set_option linter.unusedSimpArgs false
set_option linter.unusedVariables false

variable {P : Program} {S : Stab} {ρ : Rho} {w : World}

theorem wrapV {s : Sem Value} {u : Value} (h : s.run P w = .ok u w) : (do pure (Next.value (← s)) : Sem Next).run P w = .ok (.value u) w := by
  rw [Sem.run_bind, h]; rfl

/-! ### Two operands -/
theorem eqGuard_pass {op : BinOp} {t : TypeId} {x y : Operand} {a b : Value} (h1 : ¬ (a = .nilIface ∧ b = .nilIface)) (h2 : ∀ cs, a ≠ .agg cs) : (eqGuard op t x y a b).run P w = .ok () w := by
  unfold eqGuard
  cases op <;> simp [pure, bind, Sem.bind] <;> cases a <;> cases b <;> simp_all

theorem arith_ok {op : BinOp} {k : IntKind} {a b : Int} {v : AV} {t : TypeId} (h : arith op k a b = some v) : ∃ u, (binOp op t (.int k a) (.int k b)).run P w = .ok u w ∧ VR S ρ w v u := by
  cases op with
  | quo =>
    simp only [arith] at h
    split at h
    · cases h
    · rename_i hb; cases h; exact ⟨_, by simp [binOp, Op.intDiv, hb], .pure (.int _ _)⟩
  | rem =>
    simp only [arith] at h
    split at h
    · cases h
    · rename_i hb; cases h; exact ⟨_, by simp [binOp, Op.intDiv, hb], .pure (.int _ _)⟩
  | shl => simp [arith] at h
  | shr => simp [arith] at h
  | add => cases h; exact ⟨_, by simp [binOp, Op.intArith], .pure (.int _ _)⟩
  | sub => cases h; exact ⟨_, by simp [binOp, Op.intArith], .pure (.int _ _)⟩
  | mul => cases h; exact ⟨_, by simp [binOp, Op.intArith], .pure (.int _ _)⟩
  | and => cases h; exact ⟨_, by simp [binOp, Op.intBits], .pure (.int _ _)⟩
  | or => cases h; exact ⟨_, by simp [binOp, Op.intBits], .pure (.int _ _)⟩
  | xor => cases h; exact ⟨_, by simp [binOp, Op.intBits], .pure (.int _ _)⟩
  | andNot => cases h; exact ⟨_, by simp [binOp, Op.intBits], .pure (.int _ _)⟩
  | eql => cases h; exact ⟨_, by simp [binOp, Op.intCmp], .pure (.bool _)⟩
  | neq => cases h; exact ⟨_, by simp [binOp, Op.intCmp], .pure (.bool _)⟩
  | lss => cases h; exact ⟨_, by simp [binOp, Op.intCmp], .pure (.bool _)⟩
  | leq => cases h; exact ⟨_, by simp [binOp, Op.intCmp], .pure (.bool _)⟩
  | gtr => cases h; exact ⟨_, by simp [binOp, Op.intCmp], .pure (.bool _)⟩
  | geq => cases h; exact ⟨_, by simp [binOp, Op.intCmp], .pure (.bool _)⟩

theorem ltB_eq (a b : List UInt8) : Op.bytesLess a b = ltB a b := by
  induction a generalizing b with
  | nil => cases b <;> rfl
  | cons x a ih => cases b with
    | nil => rfl
    | cons y b => simp only [Op.bytesLess, ltB, ih]

theorem strOp_ok {op : BinOp} {x y : ByteArray} {v : AV} {t : TypeId} (h : strOp op x.data.toList y.data.toList = some v) : ∃ u, (binOp op t (.string x) (.string y)).run P w = .ok u w ∧ VR S ρ w v u := by
  have hx : x.toList = x.data.toList := Lib.toList_data x
  have hy : y.toList = y.data.toList := Lib.toList_data y
  cases op with
  | add =>
    simp only [strOp] at h
    split at h
    · rename_i hle
      cases h
      refine ⟨.string (x ++ y), ?_, ?_⟩
      · have h1 : x.data.toList.length = x.size := by simp
        have h2 : y.data.toList.length = y.size := by simp
        have h3 : IntKind.i64.max = 9223372036854775807 := rfl
        have : ¬ (((x.size + y.size : Nat) : Int) > IntKind.i64.max) := by unfold LIM at hle; omega
        simp only [binOp, Op.stringOp, if_neg this]; rfl
      · have : (x ++ y).data.toList = x.data.toList ++ y.data.toList := by simp
        rw [← this]; exact .pure (.str _)
    · cases h
  | eql => cases h; exact ⟨_, rfl, by rw [hx, hy]; exact .pure (.bool _)⟩
  | neq => cases h; exact ⟨_, rfl, by rw [hx, hy]; exact .pure (.bool _)⟩
  | lss => cases h; exact ⟨_, rfl, by rw [hx, hy, ltB_eq]; exact .pure (.bool _)⟩
  | leq => cases h; exact ⟨_, rfl, by rw [hx, hy, ltB_eq]; exact .pure (.bool _)⟩
  | gtr => cases h; exact ⟨_, rfl, by rw [hx, hy, ltB_eq]; exact .pure (.bool _)⟩
  | geq => cases h; exact ⟨_, rfl, by rw [hx, hy, ltB_eq]; exact .pure (.bool _)⟩
  | _ => simp [strOp] at h

/-! ### == -/
theorem beq_bytes (p q : ByteArray) : (p == q) = (p.data.toList == q.data.toList) := by
  have h : (p == q) = (p.data == q.data) := rfl
  rw [h, Bool.eq_iff_iff]
  simp [Array.toList_inj]

theorem eqFieldA_ok {t : TypeId} {d : Nat} {a b : AV} {u v : Value} {r : Bool} (hu : VR S ρ w a u) (hv : VR S ρ w b v) (h : eqFieldA P t a b = some r) :
    (Op.equalIn (d + 1) t u v).run P w = .ok r w := by
  unfold eqFieldA at h
  split at h
  · rename_i hd
    cases vr_bool hu; cases vr_bool hv
    cases h
    simp only [Op.equalIn]; rw [runB (run_underlying hd w)]; rfl
  · rename_i hd
    cases vr_int hu; cases vr_int hv
    split at h
    · rename_i hk; subst hk; cases h
      simp only [Op.equalIn]; rw [runB (run_underlying hd w)]; simp
    · cases h
  · rename_i hd
    obtain ⟨p, rfl, rfl⟩ := vr_str hu; obtain ⟨q, rfl, rfl⟩ := vr_str hv
    cases h
    rw [← beq_bytes]
    simp only [Op.equalIn]; rw [runB (run_underlying hd w)]; rfl
  · cases h

theorem eqFieldA_scalar {t : TypeId} {a b : AV} {r : Bool} (h : eqFieldA P t a b = some r) : isAggT P t = false ∧ ∃ D, P.underlying t = some D := by
  unfold eqFieldA at h
  split at h
  · rename_i hd; exact ⟨by simp [isAggT, hd], _, hd⟩
  · rename_i hd; exact ⟨by simp [isAggT, hd], _, hd⟩
  · rename_i hd; exact ⟨by simp [isAggT, hd], _, hd⟩
  · cases h

theorem eqFieldsA_ok {d : Nat} {xs ys : Array Value} (fs : List Field) : ∀ {i : Nat} {x y : List AV} {r : Bool},
    (∀ (j : Nat) c u, x[j]? = some c → xs[i + j]? = some u → VR S ρ w c u) → (∀ (j : Nat) c u, y[j]? = some c → ys[i + j]? = some u → VR S ρ w c u) →
    i + x.length ≤ xs.size → i + y.length ≤ ys.size → eqFieldsA P i fs x y = some r → (Op.eqFields (d + 1) xs ys fs).run P w = .ok r w := by
  induction fs with
  | nil =>
    intro i x y r _ _ _ _ h
    cases x with
    | nil => cases y with
      | nil => cases h; simp [Op.eqFields]
      | cons => simp [eqFieldsA] at h
    | cons => simp [eqFieldsA] at h
  | cons f fs ih =>
    intro i x y r hx hy lx ly h
    cases x with
    | nil => simp [eqFieldsA] at h
    | cons a x => cases y with
      | nil => simp [eqFieldsA] at h
      | cons b y =>
        simp only [eqFieldsA] at h
        split at h
        · rename_i hf
          obtain ⟨ho, hn⟩ := hf
          rw [Option.bind_eq_some_iff] at h
          obtain ⟨t, ht, h⟩ := h
          obtain ⟨s, hs, rfl⟩ := Option.map_eq_some_iff.1 h
          simp only [List.length_cons] at lx ly
          obtain ⟨hag, D, hD⟩ := eqFieldA_scalar ht
          have ex : xs[i]? = some xs[i] := Array.getElem?_eq_getElem (by omega)
          have ey : ys[i]? = some ys[i] := Array.getElem?_eq_getElem (by omega)
          have h1 := eqFieldA_ok (d := d) (hx 0 a xs[i] rfl ex) (hy 0 b ys[i] rfl ey) ht
          have h2 := ih (i := i + 1) (fun j c u hc hu => hx (j + 1) c u (by simpa using hc) (by rw [← hu]; congr 1; omega)) (fun j c u hc hu => hy (j + 1) c u (by simpa using hc) (by rw [← hu]; congr 1; omega)) (by omega) (by omega) hs
          have hn' : f.name ≠ "_" := hn
          rw [Op.eqFields]
          simp only [if_pos hn']
          rw [runB (run_part_scalar hD hag (by rw [ho]; exact ex)), runB (run_part_scalar hD hag (by rw [ho]; exact ey)), runB h1]
          cases t
          · simp
          · simpa using h2
        · cases h

theorem eqAggA_ok {t : TypeId} {x y : List AV} {xs ys : Array Value} {r : Bool} (lx : x.length = xs.size) (ly : y.length = ys.size)
    (hx : ∀ (j : Nat) c u, x[j]? = some c → xs[j]? = some u → VR S ρ w c u) (hy : ∀ (j : Nat) c u, y[j]? = some c → ys[j]? = some u → VR S ρ w c u) (h : eqAggA P t x y = some r) :
    (Op.equal t (.agg xs) (.agg ys)).run P w = .ok r w ∧ P.eqGuardType P.depth t = false := by
  unfold eqAggA at h
  split at h
  · rename_i fs hu
    split at h
    · rename_i hc
      simp only [Bool.and_eq_true, Bool.not_eq_true'] at hc
      refine ⟨?_, hc.2⟩
      have hf : P.fieldsOf t = fs := by simp [Program.fieldsOf, hu]
      show (Op.equalIn (9998 + 1 + 1) t (.agg xs) (.agg ys)).run P w = _
      rw [run_equalIn_struct (P := P) w (9998 + 1) t xs ys (by rw [hf]; exact hu) hc.1, hf]
      exact eqFieldsA_ok fs.toList (i := 0) (by simpa using hx) (by simpa using hy) (by omega) (by omega) h
    · cases h
  · cases h

/-- '==' and '!=' of other kinds. -/
theorem eqv_ok {t : TypeId} {x y : AV} {a b : Value} {r : Bool} (hx : VR S ρ w x a) (hy : VR S ρ w y b) (h : eqv P t x y = some r) :
    (binOp .eql t a b).run P w = .ok (.bool r) w ∧ (binOp .neq t a b).run P w = .ok (.bool (!r)) w ∧ ¬ (a = .nilIface ∧ b = .nilIface) ∧ ((∃ cs, a = .agg cs) → P.eqGuardType P.depth t = false) := by
  have key : ∀ {a b : Value}, (Op.equal t a b).run P w = .ok r w → (∀ k n, a ≠ .int k n) → (∀ k n, a ≠ .float k n) → (∀ k n m, a ≠ .complex k n m) → (∀ s, a ≠ .string s) → (binOp .eql t a b).run P w = .ok (.bool r) w ∧ (binOp .neq t a b).run P w = .ok (.bool (!r)) w := by
    intro a b he h1 h2 h3 h4
    constructor
    · have : binOp .eql t a b = (do pure (.bool (← Op.equal t a b))) := by
        cases a <;> first | (exact absurd rfl (h1 _ _)) | (exact absurd rfl (h2 _ _)) | (exact absurd rfl (h3 _ _ _)) | (exact absurd rfl (h4 _)) | (cases b <;> rfl)
      rw [this, runB he]; rfl
    · have : binOp .neq t a b = (do pure (.bool (!(← Op.equal t a b)))) := by
        cases a <;> first | (exact absurd rfl (h1 _ _)) | (exact absurd rfl (h2 _ _)) | (exact absurd rfl (h3 _ _ _)) | (exact absurd rfl (h4 _)) | (cases b <;> rfl)
      rw [this, runB he]; rfl
  have fin : ∀ {a b : Value}, (∀ d, (Op.equalIn (d + 1) t a b).run P w = .ok r w) → (∀ k n, a ≠ .int k n) → (∀ k n, a ≠ .float k n) → (∀ k n m, a ≠ .complex k n m) → (∀ s, a ≠ .string s) → ¬ (a = .nilIface ∧ b = .nilIface) → (∀ cs, a ≠ .agg cs) →
      (binOp .eql t a b).run P w = .ok (.bool r) w ∧ (binOp .neq t a b).run P w = .ok (.bool (!r)) w ∧ ¬ (a = .nilIface ∧ b = .nilIface) ∧ ((∃ cs, a = .agg cs) → P.eqGuardType P.depth t = false) :=
    fun he h1 h2 h3 h4 h5 h6 => let k := key (he 9999) h1 h2 h3 h4; ⟨k.1, k.2, h5, fun ⟨cs, e⟩ => absurd e (h6 cs)⟩
  unfold eqv at h
  split at h
  · cases vr_bool hx; cases vr_bool hy
    split at h
    · rename_i hd; cases h
      exact fin (fun d => by simp only [Op.equalIn]; rw [runB (run_underlying hd w)]; rfl) (by simp) (by simp) (by simp) (by simp) (by simp) (by simp)
    · cases h
  · cases vr_nilp hx; cases vr_nilp hy
    split at h
    · rename_i hd; cases h
      exact fin (fun d => by simp only [Op.equalIn]; rw [runB (run_underlying hd w)]; rfl) (by simp) (by simp) (by simp) (by simp) (by simp) (by simp)
    · cases h
  · obtain ⟨bb, sz, n, _, rfl⟩ := vr_ptr hx; cases vr_nilp hy
    split at h
    · rename_i hd; cases h
      exact fin (fun d => by simp only [Op.equalIn]; rw [runB (run_underlying hd w)]; rfl) (by simp) (by simp) (by simp) (by simp) (by simp) (by simp)
    · cases h
  · cases vr_nilp hx; obtain ⟨bb, sz, n, _, rfl⟩ := vr_ptr hy
    split at h
    · rename_i hd; cases h
      exact fin (fun d => by simp only [Op.equalIn]; rw [runB (run_underlying hd w)]; rfl) (by simp) (by simp) (by simp) (by simp) (by simp) (by simp)
    · cases h
  · cases vr_nils hx; cases vr_nils hy
    split at h
    · rename_i hd; cases h
      exact fin (fun d => by simp only [Op.equalIn]; rw [runB (run_underlying hd w)]; rfl) (by simp) (by simp) (by simp) (by simp) (by simp) (by simp)
    · cases h
  · split at h
    · rename_i hne
      split at h
      · rename_i hd; cases h
        cases vr_nils hy
        cases hx with
        | pure hx => cases hx with
          | empty _ ad c hz =>
            cases ad with
            | none => exact absurd rfl (hz (hne.resolve_right (by simp)))
            | some ad => exact fin (fun d => by simp only [Op.equalIn]; rw [runB (run_underlying hd w)]; rfl) (by simp) (by simp) (by simp) (by simp) (by simp) (by simp)
          | list => exact fin (fun d => by simp only [Op.equalIn]; rw [runB (run_underlying hd w)]; rfl) (by simp) (by simp) (by simp) (by simp) (by simp) (by simp)
      · cases h
    · cases h
  · split at h
    · rename_i he; obtain ⟨rfl, rfl, rfl⟩ := he
      split at h
      · rename_i el hd
        split at h
        case isFalse => cases h
        rename_i hinf
        cases h
        obtain ⟨bb, sz, n, h1, rfl⟩ := vr_ptr hx; obtain ⟨bb', sz', n', h2, rfl⟩ := vr_ptr hy
        rw [h1] at h2; cases h2
        obtain ⟨ie, hie⟩ := Option.isSome_iff_exists.1 hinf
        exact fin (fun d => by simp only [Op.equalIn]; rw [runB (run_underlying hd w)]; simp [sizeOf, typeInfo, hie, sameAddr]) (by simp) (by simp) (by simp) (by simp) (by simp) (by simp)
      · cases h
    · cases h
  · cases vr_nili hx; obtain ⟨u, rfl, _⟩ := vr_iface hy
    split at h
    · rename_i hd; cases h
      exact fin (fun d => by simp only [Op.equalIn]; rw [runB (run_underlying hd w)]; rfl) (by simp) (by simp) (by simp) (by simp) (by simp) (by simp)
    · cases h
  · obtain ⟨u, rfl, _⟩ := vr_iface hx; cases vr_nili hy
    split at h
    · rename_i hd; cases h
      exact fin (fun d => by simp only [Op.equalIn]; rw [runB (run_underlying hd w)]; rfl) (by simp) (by simp) (by simp) (by simp) (by simp) (by simp)
    · cases h
  · cases vr_nilf hx; cases vr_nilf hy
    split at h
    · rename_i hd; cases h
      exact fin (fun d => by simp only [Op.equalIn]; rw [runB (run_underlying hd w)]; rfl) (by simp) (by simp) (by simp) (by simp) (by simp) (by simp)
    · cases h
  · cases vr_nilf hx; obtain ⟨vx, vy, rfl, _⟩ := vr_fn hy
    split at h
    · rename_i hd; cases h
      exact fin (fun d => by simp only [Op.equalIn]; rw [runB (run_underlying hd w)]; rfl) (by simp) (by simp) (by simp) (by simp) (by simp) (by simp)
    · cases h
  · obtain ⟨vx, vy, rfl, _⟩ := vr_fn hx; cases vr_nilf hy
    split at h
    · rename_i hd; cases h
      exact fin (fun d => by simp only [Op.equalIn]; rw [runB (run_underlying hd w)]; rfl) (by simp) (by simp) (by simp) (by simp) (by simp) (by simp)
    · cases h
  · obtain ⟨xs, rfl, lx, hxs⟩ := vr_agg hx; obtain ⟨ys, rfl, ly, hys⟩ := vr_agg hy
    obtain ⟨he, hg⟩ := eqAggA_ok lx ly hxs hys h
    obtain ⟨k1, k2⟩ := key he (by simp) (by simp) (by simp) (by simp)
    exact ⟨k1, k2, by simp, fun _ => hg⟩
  · cases h

end Go.Proofs.YteibklnligmanaaDoor.Abs


/- What an operation that only reads comes to: the others, and all of them. -/
namespace Go.Proofs.YteibklnligmanaaDoor.Abs
open Go Go.RowKit
set_option linter.unusedSimpArgs false
set_option linter.unusedVariables false

variable {P : Program} {S : Stab} {ρ : Rho} {w : World}

theorem info_of_cells {t : TypeId} (h : 0 < P.cellsOf t) : ∃ i, P.info? t = some i ∧ i.size = P.cellsOf t := by
  unfold Program.cellsOf at h ⊢
  cases hi : P.info? t with
  | none => simp [hi] at h
  | some i => exact ⟨i, rfl, by simp⟩

theorem unv_ok {op : UnOp} {x v : AV} {a : Value} (hx : VR S ρ w x a) (h : unv op x = some v) : ∃ u, (Op.unary op a).run P w = .ok u w ∧ VR S ρ w v u := by
  unfold unv at h
  split at h
  · cases vr_bool hx; cases h; exact ⟨_, rfl, .pure (.bool _)⟩
  · cases vr_int hx; cases h; exact ⟨_, rfl, .pure (.int _ _)⟩
  · cases vr_int hx; cases h; exact ⟨_, rfl, .pure (.int _ _)⟩
  · cases h

/-- The object behind a name. -/
theorem box_of {hp : Heap} (H : HR S ρ w hp) {id : Nat} {T : TypeId} {v : AV} (ho : aget hp id = some (.box T v)) {b sz n : Nat} (hρ : ρ id = some ⟨some (b, sz), n⟩) :
    sz = v.cells.length ∧ ∃ cells t fr, w.heap[b]? = some (.cells cells t fr) ∧ (v.cells.length ≤ cells.size ∧ t = T ∧ cells.size = v.cells.length) ∧ Unfrozen w b cells.size ∧ (∀ o, ¬ S b o) ∧ ∀ (j : Nat) c, v.cells[j]? = some c → ∃ u, cells[j]? = some u ∧ VR S ρ w c u := by
  obtain ⟨b', cells, t, fr, h1, h2, h3, h4, h5, h6⟩ := H.obj id _ ho
  rw [hρ] at h1; cases h1
  exact ⟨rfl, cells, t, fr, h2, h3, h4, h5, h6⟩
theorem rowobj_of {hp : Heap} (H : HR S ρ w hp) {id sz : Nat} {es : List AV} {fx : Bool} {mv : RM} (ho : aget hp id = some (.row sz es fx mv)) {b s n : Nat} (hρ : ρ id = some ⟨some (b, s), n⟩) :
    s = sz ∧ n = es.length ∧ 0 < sz ∧ (∀ e ∈ es, e.cells.length = sz) ∧ ∃ cells t fr, w.heap[b]? = some (.cells cells t fr) ∧ (es.length * sz ≤ cells.size ∧ t = mv.t ∧ (byT t = true ∨ fr.1 = fr.2)) ∧ Unfrozen w b cells.size ∧
      (∀ (i j : Nat) e c, es[i]? = some e → e.cells[j]? = some c → ∃ u, cells[i * sz + j]? = some u ∧ PR S w c u ∧ (fx = true → S b (i * sz + j)) ∧ scalarV u = true) ∧ (∀ o, S b o → fx = true ∧ o < es.length * sz) := by
  rcases H.obj id _ ho with ⟨_, h1⟩ | ⟨b', cells, t, fr, h0, h1, hs, h2, h3, h4, h5, h6⟩
  · rw [hρ] at h1; cases h1
  · rw [hρ] at h1; cases h1
    exact ⟨rfl, rfl, h0, hs, cells, t, fr, h2, h3, h4, h5, h6⟩
theorem row0_of {hp : Heap} (H : HR S ρ w hp) {id sz : Nat} {es : List AV} {fx : Bool} {mv : RM} (ho : aget hp id = some (.row sz es fx mv)) {n : Nat} (hρ : ρ id = some ⟨none, n⟩) : es = [] := by
  rcases H.obj id _ ho with ⟨h, _⟩ | ⟨b', cells, t, fr, h0, h1, _⟩
  · exact h
  · rw [hρ] at h1; cases h1

/-- Where a pointer leads: the cells of the thing that it is in. -/
theorem ptr_cells {hp : Heap} (H : HR S ρ w hp) {id i : Nat} {ob : AObj} {cs : List AV} (ho : aget hp id = some ob) (hc : objCells ob i = some cs) {b sz n : Nat} (hρ : ρ id = some ⟨some (b, sz), n⟩) :
    ∃ f : Nat → Value, ∀ (j : Nat) c, cs[j]? = some c → w.cell? (at0 b (i * sz + j)) = some (f j) ∧ VR S ρ w c (f j) := by
  cases ob with
  | box T v =>
    simp only [objCells] at hc
    split at hc
    · rename_i hi; subst hi; cases hc
      obtain ⟨_, cells, t, fr, h2, _, _, _, h6⟩ := box_of H ho hρ
      refine ⟨fun j => cells[j]?.getD default, fun j c hj => ?_⟩
      obtain ⟨u, hu, hv⟩ := h6 j c hj
      refine ⟨?_, ?_⟩
      · rw [Nat.zero_mul, Nat.zero_add, cell_block h2]; simp only [hu, Option.getD_some]
      · simp only [hu, Option.getD_some]; exact hv
    · cases hc
  | row s es fx mv =>
    simp only [objCells] at hc
    obtain ⟨e, he, rfl⟩ := Option.map_eq_some_iff.1 hc
    obtain ⟨rfl, _, _, _, cells, t, fr, h2, _, _, h5, _⟩ := rowobj_of H ho hρ
    refine ⟨fun j => cells[i * sz + j]?.getD default, fun j c hj => ?_⟩
    obtain ⟨u, hu, hv, _⟩ := h5 i j e c he hj
    refine ⟨?_, ?_⟩
    · rw [cell_block h2]; simp only [hu, Option.getD_some]
    · simp only [hu, Option.getD_some]; exact .pure hv
  | loop r l => cases hc
  | map es clk => cases hc
  | iter v0 a0 b0 c0 => cases hc
  | dblk => cases hc

theorem partT_some {t : TypeId} {cs : List AV} {o : Nat} {v : AV} (h : partT P t cs o = some v) : ∃ d, P.underlying t = some d ∧ 0 < P.cellsOf t ∧ partA (isAggT P t) (P.cellsOf t) cs o = some v := by
  unfold partT at h
  split at h
  · rename_i hc
    obtain ⟨d, hd⟩ := Option.isSome_iff_exists.1 hc.2
    exact ⟨d, hd, hc.1, h⟩
  · cases h

/-- What is read through a pointer. -/
def loadA (P : Program) (hp : Heap) (t : TypeId) (x : AV) : Option AV :=
  match x with
  | .ptr id i o => (aget hp id).bind fun ob => (objCells ob i).bind fun cs => partT P t cs o
  | .ep v o => partT P t v.cells o
  | _ => none

theorem loadA_ok {hp : Heap} (H : HR S ρ w hp) {t : TypeId} {x v : AV} {a : Value} (hx : VR S ρ w x a) (h : loadA P hp t x = some v) :
    ∃ ad u, a = .pointer (some ad) ∧ (loadVar t ad).run P w = .ok u w ∧ VR S ρ w v u := by
  cases x with
  | ptr id i o =>
    simp only [loadA] at h
    obtain ⟨b, sz, n, hρ, rfl⟩ := vr_ptr hx
    rw [Option.bind_eq_some_iff] at h
    obtain ⟨ob, ho, h⟩ := h
    rw [Option.bind_eq_some_iff] at h
    obtain ⟨cs, hc, h⟩ := h
    obtain ⟨f, hf⟩ := ptr_cells H ho hc hρ
    obtain ⟨d, hd, h0, h⟩ := partT_some h
    obtain ⟨u, h1, h2⟩ := load_ok f hd h0 hf h
    exact ⟨_, u, rfl, h1, h2⟩
  | ep e o =>
    simp only [loadA] at h
    obtain ⟨b, base, rfl, _, f, hf⟩ := vr_ep hx
    obtain ⟨d, hd, h0, h⟩ := partT_some h
    obtain ⟨u, h1, h2⟩ := load_ok f hd h0 (fun j c hj => ⟨(hf j c hj).2.1, .pure (hf j c hj).2.2⟩) h
    exact ⟨_, u, rfl, h1, h2⟩
  | _ => simp [loadA] at h

theorem fieldPlace_ok {b o : Nat} {f : Field} {n : Nat} (hn : P.cellsOf f.type = n) (h0 : 0 < n) : (fieldPlace (at0 b o) f).run P w = .ok (at0 b (o + f.offset)) w := by
  unfold fieldPlace
  rw [runB (run_sizeOf hn h0), if_neg (by omega), at0_add]
  rfl

theorem rowAt_some {hp : Heap} {id sz : Nat} {es : List AV} (h : rowAt hp id = some (sz, es)) : ∃ fx mv, aget hp id = some (.row sz es fx mv) := by
  unfold rowAt at h
  split at h
  · rename_i ho; cases h; exact ⟨_, _, ho⟩
  · cases h

/-! Maps -/
theorem run_getM {r : Nat} {es : Array MapEntry} {clock : Nat} (hb : w.heap[r]? = some (.map es clock)) : (getObj r).run P w = .ok (.map es clock) w := by simp [getObj, Sem.run, hb]
theorem vr_mp {id : Nat} {v : Value} (h : VR S ρ w (.mp id) v) : ∃ b sz n, ρ id = some ⟨some (b, sz), n⟩ ∧ v = .map (some b) := by
  cases h with
  | pure h => cases h
  | mp _ b sz n h => exact ⟨b, sz, n, h, rfl⟩
/-- The entries as they lie in memory. -/
def EntR (S : Stab) (w : World) (es : List (Nat × AV × AV)) (M : Array MapEntry) : Prop :=
  M.size = es.length ∧ ∀ (j : Nat) e, es[j]? = some e → ∃ m : MapEntry, M[j]? = some m ∧ m.born = e.1 ∧ PR S w e.2.1 m.key ∧ PR S w e.2.2 m.val
theorem mapObj_ok {hp : Heap} (H : HR S ρ w hp) {x : AV} {v : Value} (hx : VR S ρ w x v) {es : List (Nat × AV × AV)} {k : Nat} (h : mapObj hp x = some (es, k)) : ∃ b M, v = .map (some b) ∧ w.heap[b]? = some (.map M k) ∧ EntR S w es M := by
  unfold mapObj at h
  split at h
  · rename_i id
    split at h
    · rename_i ho
      cases h
      obtain ⟨b, sz, n, h1, rfl⟩ := vr_mp hx
      obtain ⟨b', M, h2, h3, _, h4, h5⟩ := H.obj id _ ho
      rw [h1] at h2; cases h2
      exact ⟨b, M, rfl, h3, h4, h5⟩
    · cases h
  · cases h
theorem keyEq_ok {d : TypeDesc} {a b : AV} {u v : Value} {t : Bool} (ha : VR S ρ w a u) (hb : PR S w b v) (h : keyEq (some d) a b = some t) : Instr.sameNow d u v = some t := by
  unfold keyEq at h
  split at h
  · rename_i e1; cases e1
    cases h
    have hu := vr_bool ha; subst hu
    cases hb; rfl
  · rename_i e1; cases e1
    split at h
    · rename_i e
      cases h; subst e
      have hu := vr_int ha; subst hu
      cases hb; simp [Instr.sameNow]
    · cases h
  · rename_i x y e1; cases e1
    cases h
    obtain ⟨s, rfl, hs⟩ := vr_str ha
    subst hs
    cases hb with
    | str s' =>
      simp only [Instr.sameNow, beq_bytes]
  · cases h
theorem findA_ok {d : TypeDesc} {k : AV} {kv : Value} (hk : VR S ρ w k kv) : ∀ {es : List (Nat × AV × AV)} {L : List MapEntry} {i : Nat} {r : Option (Nat × AV)}, L.length = es.length → (∀ (j : Nat) e, es[j]? = some e → ∃ m : MapEntry, L[j]? = some m ∧ m.born = e.1 ∧ PR S w e.2.1 m.key ∧ PR S w e.2.2 m.val) → findA (some d) k es i = some r →
    ∃ r', Instr.findNow d kv L i = some r' ∧ ((r = none ∧ r' = none) ∨ ∃ j a u, r = some (j, a) ∧ r' = some (j, u) ∧ PR S w a u) := by
  intro es
  induction es with
  | nil =>
    intro L i r hl _ h
    have : L = [] := List.length_eq_zero_iff.1 hl
    subst this
    cases h
    exact ⟨none, rfl, .inl ⟨rfl, rfl⟩⟩
  | cons e es ih =>
    intro L i r hl hE h
    cases L with
    | nil => simp at hl
    | cons m L =>
      obtain ⟨m', e1, e2, e3, e4⟩ := hE 0 e rfl
      have : m = m' := by simpa using e1
      subst this
      unfold findA at h
      rw [Option.bind_eq_some_iff] at h
      obtain ⟨b, hb, h⟩ := h
      have hs := keyEq_ok hk e3 hb
      cases b with
      | true =>
        cases h
        exact ⟨some (i, m.val), by simp [Instr.findNow, hs], .inr ⟨i, e.2.2, m.val, rfl, rfl, e4⟩⟩
      | false =>
        obtain ⟨r', h1, h2⟩ := ih (L := L) (by simpa using hl) (fun j e he => by have := hE (j + 1) e he; simpa using this) h
        exact ⟨r', by simp [Instr.findNow, hs, h1], h2⟩
theorem lenv_ok {hp : Heap} (H : HR S ρ w hp) {t ty : TypeId} {x v : AV} {a : Value} (hx : VR S ρ w x a) (h : lenv P hp t x = some v) : ∃ u, (Builtin.len_ #[t] ty #[a]).run P w = .ok u w ∧ VR S ρ w v u := by
  unfold lenv at h
  split at h
  · rename_i hd
    obtain ⟨⟨es, k⟩, he, h⟩ := Option.map_eq_some_iff.1 h
    cases h
    obtain ⟨b, M, rfl, hb, hz, _⟩ := mapObj_ok H hx he
    exact ⟨goInt M.size, by simp [Builtin.len_, run_underlying hd, run_getM hb], by rw [hz]; exact .pure (.int _ _)⟩
  · rename_i hd
    obtain ⟨s, rfl, hs⟩ := vr_str hx; cases h
    refine ⟨goInt s.size, by simp [Builtin.len_, run_underlying hd], ?_⟩
    rw [← hs]; simp only [goInt]
    have : (s.data.toList.length : Int) = s.size := by simp
    rw [this]; exact .pure (.int _ _)
  · rename_i hd; cases h
    exact ⟨goInt _, by simp [Builtin.len_, run_underlying hd], .pure (.int _ _)⟩
  · rename_i hd; cases h
    refine ⟨goInt _, ?_, .pure (.int _ _)⟩
    cases hx with
    | pure hx => cases hx <;> simp [Builtin.len_, run_underlying hd]
  · rename_i hd; cases h
    cases vr_nils hx
    exact ⟨goInt 0, by simp [Builtin.len_, run_underlying hd], .pure (.int _ _)⟩
  · rename_i hd
    obtain ⟨⟨s, es⟩, hr, rfl⟩ := Option.map_eq_some_iff.1 h
    obtain ⟨fx, mv, ho⟩ := rowAt_some hr
    refine ⟨goInt es.length, ?_, .pure (.int _ _)⟩
    cases hx with
    | pure hx => cases hx
    | own0 _ h0 => rw [row0_of H ho h0]; simp [Builtin.len_, run_underlying hd]
    | own _ b sz n cap h1 hc hr =>
      obtain ⟨_, rfl, _⟩ := rowobj_of H ho h1
      simp [Builtin.len_, run_underlying hd]
  · rename_i hd; cases h
    refine ⟨goInt _, ?_, .pure (.int _ _)⟩
    cases hx with
    | pure hx => cases hx
    | row0 => simp [Builtin.len_, run_underlying hd]
    | row => simp [Builtin.len_, run_underlying hd]
  · cases h

theorem capv_ok {t ty : TypeId} {x v : AV} {a : Value} (hx : VR S ρ w x a) (h : capv P t x = some v) : ∃ u, (Builtin.cap_ #[t] ty #[a]).run P w = .ok u w ∧ VR S ρ w v u := by
  unfold capv at h
  split at h
  · rename_i hd; cases h
    cases vr_nils hx
    exact ⟨goInt 0, by simp [Builtin.cap_, run_underlying hd], .pure (.int _ _)⟩
  · cases h

theorem minmax_ok {mx : Bool} {x y v : AV} {a b : Value} (hx : VR S ρ w x a) (hy : VR S ρ w y b) (h : minmax mx x y = some v) (ts : Array TypeId) (ty : TypeId) :
    ∃ u, (if mx then Builtin.max_ ts ty #[a, b] else Builtin.min_ ts ty #[a, b]).run P w = .ok u w ∧ VR S ρ w v u := by
  unfold minmax at h
  split at h
  · cases vr_int hx; cases vr_int hy
    split at h
    · rename_i hk; subst hk; cases h
      cases mx
      · exact ⟨_, rfl, .pure (.int _ _)⟩
      · exact ⟨_, rfl, .pure (.int _ _)⟩
    · cases h
  · cases h

theorem bytesOf_len {es : List AV} : ∀ {l : List UInt8}, bytesOf? es = some l → l.length = es.length ∧ ∀ (i : Nat) e, es[i]? = some e → ∃ n, e = .int .u8 n ∧ l[i]? = some (UInt8.ofNat n.toNat) := by
  induction es with
  | nil => intro l h; cases h; exact ⟨rfl, fun i e h => by simp at h⟩
  | cons x es ih =>
    intro l h
    cases x with
    | int k n =>
      cases k <;> simp [bytesOf?] at h
      obtain ⟨l', h', rfl⟩ := h
      obtain ⟨e1, e2⟩ := ih h'
      refine ⟨by simp [e1], fun i e he => ?_⟩
      cases i with
      | zero => simp at he; subst he; exact ⟨n, rfl, rfl⟩
      | succ i => simp at he ⊢; exact e2 i e he
    | _ => simp [bytesOf?] at h

theorem foldl_push (ns : List Int) : ∀ s : ByteArray, (ns.foldl (fun r n => r.push (UInt8.ofNat n.toNat)) s).data.toList = s.data.toList ++ ns.map fun n => UInt8.ofNat n.toNat := by
  induction ns with
  | nil => intro s; simp
  | cons n ns ih => intro s; rw [List.foldl_cons, ih]; simp

/-- Bytes that stand one behind the other, as a string. -/
theorem bytes_run {es : List AV} {l : List UInt8} (h : bytesOf? es = some l) {b o cap : Nat} (hc : ∀ (i : Nat) e, es[i]? = some e → ∃ u, w.cell? (at0 b (o + i)) = some u ∧ VR S ρ w e u) :
    ∃ s : ByteArray, (Conv.bytesToString (.slice (some (at0 b o)) es.length cap)).run P w = .ok (.string s) w ∧ s.data.toList = l := by
  obtain ⟨hl, hb⟩ := bytesOf_len h
  let ns : List Int := es.map fun | .int .u8 n => n | _ => 0
  have hget : ∀ j, j < es.length → w.cell? (at0 b (o + j)) = some ((fun j => Value.int .u8 (ns.getD j 0)) j) := by
    intro j hj
    obtain ⟨u, hu, hv⟩ := hc j _ (List.getElem?_eq_getElem hj)
    obtain ⟨n, hn, _⟩ := hb j _ (List.getElem?_eq_getElem hj)
    rw [hn] at hv
    cases vr_int hv
    rw [hu]
    simp [ns, List.getD_eq_getElem?_getD, List.getElem?_eq_getElem hj, hn]
  have hload := run_loadCells (P := P) _ hget
  have hns : ((List.range es.length).map fun j => Value.int .u8 (ns.getD j 0)) = ns.map (Value.int .u8) := by
    apply List.ext_getElem?
    intro j
    by_cases hj : j < es.length
    · have : j < ns.length := by simpa [ns] using hj
      simp [hj, List.getD_eq_getElem?_getD, List.getElem?_eq_getElem this]
    · have : ns.length ≤ j := by simpa [ns] using hj
      simp [hj, List.getElem?_eq_none this]
  rw [hns] at hload
  refine ⟨_, run_bytesToString w _ _ cap ns hload, ?_⟩
  rw [foldl_push]
  apply List.ext_getElem?
  intro j
  by_cases hj : j < es.length
  · obtain ⟨n, hn, hlj⟩ := hb j _ (List.getElem?_eq_getElem hj)
    rw [hlj]
    simp [ns, List.getElem?_eq_getElem hj, hn]
  · rw [List.getElem?_eq_none (by omega : l.length ≤ j)]
    simp [ns]; omega

theorem convv_ok {hp : Heap} (H : HR S ρ w hp) {s t : TypeId} {x v : AV} {a : Value} (hx : VR S ρ w x a) (h : convv P hp s t x = some v) : ∃ u, (convert s t a).run P w = .ok u w ∧ VR S ρ w v u := by
  unfold convv at h
  split at h
  · rename_i h1 h2
    cases vr_int hx; cases h
    refine ⟨_, ?_, .pure (.int _ _)⟩
    unfold convert
    rw [runB (run_underlying h1 w), runB (run_underlying h2 w)]; rfl
  · rename_i h1 h2
    obtain ⟨p, rfl, rfl⟩ := vr_str hx; cases h
    refine ⟨_, ?_, .pure (.str _)⟩
    unfold convert
    rw [runB (run_underlying h1 w), runB (run_underlying h2 w)]; simp
  · rename_i e' h1 h2 _
    split at h
    · rename_i h3
      have hrun : ∀ {a : Value}, (∀ n, a ≠ .int .u8 n) → (∀ k n, a ≠ .int k n) → (∀ k n, a ≠ .float k n) → (∀ k n m, a ≠ .complex k n m) → (∀ s, a ≠ .string s) → (convert s t a).run P w = (Conv.bytesToString a).run P w := by
        intro a _ e1 e2 e3 e4
        unfold convert
        rw [runB (run_underlying h1 w), runB (run_underlying h2 w)]
        cases a <;> first | (exact absurd rfl (e1 _ _)) | (exact absurd rfl (e2 _ _)) | (exact absurd rfl (e3 _ _ _)) | (exact absurd rfl (e4 _)) | (simp only []; rw [runB (run_underlying h3 w)])
      split at h
      · rename_i sz es
        split at h
        · rename_i hsz; subst hsz
          obtain ⟨l, hl, rfl⟩ := Option.map_eq_some_iff.1 h
          cases hx with
          | pure hx => cases hx with
            | empty _ a c =>
              cases hl
              refine ⟨.string .empty, ?_, .pure (PR.str .empty)⟩
              rw [hrun (by simp) (by simp) (by simp) (by simp) (by simp)]
              cases a with
              | none => rfl
              | some a => unfold Conv.bytesToString; simp [loadCells, loadCellsFrom]
            | list _ b off cap _ f h0 hc hs hS hw hq hp =>
              obtain ⟨st, hst, e⟩ := bytes_run (P := P) (S := S) (ρ := ρ) (w := w) (cap := cap) hl (b := b) (o := off) (fun i e he => by
                have hcell : e.cells = [e] := by obtain ⟨n, hn, _⟩ := (bytesOf_len hl).2 i e he; subst hn; rfl
                have g := hw i 0 e e he (by rw [hcell]; rfl)
                exact ⟨_, by simpa using g, .pure (hp i 0 e e he (by rw [hcell]; rfl))⟩)
              refine ⟨.string st, ?_, by rw [← e]; exact .pure (.str _)⟩
              rw [hrun (by simp) (by simp) (by simp) (by simp) (by simp)]; exact hst
        · cases h
      · cases vr_nils hx; cases h
        refine ⟨.string .empty, ?_, .pure (PR.str .empty)⟩
        rw [hrun (by simp) (by simp) (by simp) (by simp) (by simp)]; rfl
      · rename_i id
        rw [Option.bind_eq_some_iff] at h
        obtain ⟨⟨sz, es⟩, hr, h⟩ := h
        obtain ⟨fx, mv, ho⟩ := rowAt_some hr
        split at h
        · rename_i hsz; simp only at hsz; subst hsz
          obtain ⟨l, hl, rfl⟩ := Option.map_eq_some_iff.1 h
          cases hx with
          | pure hx => cases hx
          | own0 _ h0 =>
            have := row0_of H ho h0; simp only at hl; subst this; cases hl
            refine ⟨.string .empty, ?_, .pure (PR.str .empty)⟩
            rw [hrun (by simp) (by simp) (by simp) (by simp) (by simp)]; rfl
          | own _ b s n cap hρ hc hr =>
            obtain ⟨rfl, rfl, _, _, cells, t', fr, g2, _, _, g5, _⟩ := rowobj_of H ho hρ
            obtain ⟨st, hst, e⟩ := bytes_run (P := P) (S := S) (ρ := ρ) (w := w) (cap := cap) hl (b := b) (o := 0) (fun i e he => by
              have hcell : e.cells = [e] := by obtain ⟨n, hn, _⟩ := (bytesOf_len hl).2 i e he; subst hn; rfl
              obtain ⟨u, hu, hv, _⟩ := g5 i 0 e e he (by rw [hcell]; rfl)
              exact ⟨u, by rw [cell_block g2]; simpa using hu, .pure hv⟩)
            refine ⟨.string st, ?_, by rw [← e]; exact .pure (.str _)⟩
            rw [hrun (by simp) (by simp) (by simp) (by simp) (by simp)]; exact hst
        · cases h
      · cases h
    · cases h
  · rename_i e' id o h1 h2
    split at h
    · rename_i T v ho
      split at h
      · rename_i hc
        cases h
        obtain ⟨b, sz, n, hρ, rfl⟩ := vr_ptr hx
        obtain ⟨rfl, cells, t', fr, g2, g3, _⟩ := box_of H ho hρ
        obtain ⟨i, hi, hs⟩ := info_of_cells hc.1
        refine ⟨_, Lib.run_to_unsafe w (at0 b (0 * v.cells.length + o)) h1 h2 hi (by omega) (e := t') (cells := cells.size) ?_ (by simp only [at0]; omega), hx⟩
        simp [World.shape?, at0, g2]
      · cases h
    · cases h
  · rename_i u id o h1 h2
    split at h
    · rename_i T v ho
      split at h
      · rename_i hc
        cases h
        obtain ⟨b, sz, n, hρ, rfl⟩ := vr_ptr hx
        obtain ⟨rfl, cells, t', fr, g2, g3, _⟩ := box_of H ho hρ
        obtain ⟨g3, rfl, g4⟩ := g3
        obtain ⟨i, hi⟩ := Option.isSome_iff_exists.1 hc.1
        refine ⟨_, Lib.run_from_unsafe w (at0 b (0 * v.cells.length + o)) h1 h2 hi (e := t') (cells := cells.size) ?_ ?_, hx⟩
        · simp [World.shape?, at0, g2]
        · rw [g4]; simp only [at0, Nat.zero_mul, Nat.zero_add]; exact hc.2
      · cases h
    · cases h
  · cases h

end Go.Proofs.YteibklnligmanaaDoor.Abs


/- What an operation that only reads comes to: addresses, slices, structs; and all of them. -/
namespace Go.Proofs.YteibklnligmanaaDoor.Abs
open Go Go.RowKit
set_option linter.unusedSimpArgs false
set_option linter.unusedVariables false

variable {P : Program} {S : Stab} {ρ : Rho} {w : World}

/-! ### Structs -/
theorem putA_get {cs new : List AV} {off : Nat} (h : off + new.length ≤ cs.length) (j : Nat) : (putA cs off new)[j]? = if off ≤ j ∧ j < off + new.length then new[j - off]? else cs[j]? := by
  unfold putA
  have h1 : (cs.take off).length = off := by simp; omega
  by_cases hj : j < off
  · rw [if_neg (by omega), List.append_assoc, List.getElem?_append_left (by omega), List.getElem?_take, if_pos hj]
  · by_cases hj2 : j < off + new.length
    · rw [if_pos (by omega), List.append_assoc, List.getElem?_append_right (by omega), h1, List.getElem?_append_left (by omega)]
    · rw [if_neg (by omega), List.append_assoc, List.getElem?_append_right (by omega), h1, List.getElem?_append_right (by omega), List.getElem?_drop]
      congr 1; omega
theorem putA_length {cs new : List AV} {off : Nat} (h : off + new.length ≤ cs.length) : (putA cs off new).length = cs.length := by
  unfold putA; simp; omega

theorem foldl_set (off : Nat) (l : List Value) : ∀ (i : Nat) (cs : Array Value), ((l.zipIdx i).foldl (fun cs (c, j) => cs.setIfInBounds (off + j) c) cs).size = cs.size ∧
    ∀ j, off + i + l.length ≤ cs.size → ((l.zipIdx i).foldl (fun cs (c, j) => cs.setIfInBounds (off + j) c) cs)[j]? = if off + i ≤ j ∧ j < off + i + l.length then l[j - (off + i)]? else cs[j]? := by
  induction l with
  | nil => intro i cs; exact ⟨rfl, fun j _ => by rw [if_neg (by simp)]; rfl⟩
  | cons v l ih =>
    intro i cs
    simp only [List.zipIdx_cons, List.foldl_cons, List.length_cons]
    obtain ⟨e1, e2⟩ := ih (i + 1) (cs.setIfInBounds (off + i) v)
    refine ⟨by rw [e1]; simp, fun j hj => ?_⟩
    rw [e2 j (by simp; omega)]
    by_cases h1 : j = off + i
    · subst h1
      rw [if_neg (by omega), if_pos (by omega), Array.getElem?_setIfInBounds_self_of_lt (by omega)]
      simp
    · rw [Array.getElem?_setIfInBounds_ne (by omega)]
      by_cases h2 : off + i + 1 ≤ j ∧ j < off + i + 1 + l.length
      · rw [if_pos (by omega), if_pos (by omega), show j - (off + i) = (j - (off + (i + 1))) + 1 by omega, List.getElem?_cons_succ]
      · rw [if_neg (by omega), if_neg (by omega)]

/-- The parts laid in, here and there. -/
theorem fill_ok {pl : Nat → Option (Nat × Nat)} (parts : List (Nat × AV)) : ∀ {cs : List AV} {vs : Array Value} {ps : List (Nat × Value)} {r : List AV}, cs.length = vs.size →
    (∀ (j : Nat) c u, cs[j]? = some c → vs[j]? = some u → VR S ρ w c u) → ps.map (·.1) = parts.map (·.1) → (∀ (j : Nat) p q, parts[j]? = some p → ps[j]? = some q → VR S ρ w p.2 q.2) →
    fillA pl cs parts = some r → ∃ vs' : Array Value, Instr.fill pl vs ps = some vs' ∧ r.length = vs'.size ∧ ∀ (j : Nat) c u, r[j]? = some c → vs'[j]? = some u → VR S ρ w c u := by
  induction parts with
  | nil =>
    intro cs vs ps r hl hv hm _ h
    cases ps with
    | nil => cases h; exact ⟨vs, rfl, hl, hv⟩
    | cons => simp at hm
  | cons p parts ih =>
    intro cs vs ps r hl hv hm hp h
    obtain ⟨i, v⟩ := p
    cases ps with
    | nil => simp at hm
    | cons q ps =>
      obtain ⟨i', u⟩ := q
      simp only [List.map_cons, List.cons.injEq] at hm
      obtain ⟨rfl, hm⟩ := hm
      simp only [fillA] at h
      rw [Option.bind_eq_some_iff] at h
      obtain ⟨⟨off, size⟩, hpl, h⟩ := h
      simp only at h
      split at h
      · rename_i hc
        obtain ⟨c1, c2, c3⟩ := hc
        have hvu : VR S ρ w v u := hp 0 (i', v) (i', u) rfl rfl
        obtain ⟨g1, g2⟩ := vr_cells hvu (by intro e; subst e; simp [AV.known] at c3)
        have hsz : u.cells.size = size := by omega
        simp only [Instr.fill, hpl]
        rw [if_neg (by simp; omega)]
        obtain ⟨f1, f2⟩ := foldl_set off u.cells.toList 0 vs
        have hz : (u.cells.zipIdx.foldl (fun cs (x : Value × Nat) => cs.setIfInBounds (off + x.2) x.1) vs) = (u.cells.toList.zipIdx 0).foldl (fun cs (c, j) => cs.setIfInBounds (off + j) c) vs := by
          rw [← Array.foldl_toList]; simp
        rw [hz]
        refine ih (by rw [putA_length (by omega), f1]; exact hl) (fun j c x hcj hx => ?_) hm (fun j p q a b => hp (j + 1) p q (by simpa using a) (by simpa using b)) h
        rw [putA_get (by omega)] at hcj
        rw [f2 j (by simp; omega)] at hx
        simp only [Nat.add_zero, Array.length_toList] at hx
        by_cases hj : off ≤ j ∧ j < off + v.cells.length
        · rw [if_pos hj] at hcj
          rw [if_pos (by omega)] at hx
          exact g2 _ c x hcj (by simpa using hx)
        · rw [if_neg hj] at hcj
          rw [if_neg (by omega)] at hx
          exact hv j c x hcj hx
      · cases h

theorem places_of (fs : List Field) (h : ∀ f ∈ fs, 0 < P.cellsOf f.type) : ∃ pl, fs.mapM (fun f => (P.info? f.type).map fun i => (f.offset, i.size)) = some pl ∧ ∀ (i : Nat), pl[i]? = (fs[i]?).map fun f => (f.offset, P.cellsOf f.type) := by
  induction fs with
  | nil => exact ⟨[], rfl, fun i => by simp⟩
  | cons f fs ih =>
    obtain ⟨pl, h1, h2⟩ := ih fun g hg => h g (by simp [hg])
    obtain ⟨i, hi, hs⟩ := info_of_cells (h f (by simp))
    refine ⟨(f.offset, i.size) :: pl, by simp [List.mapM_cons, hi, h1], fun j => ?_⟩
    cases j with
    | zero => simp [hs]
    | succ j => simp [h2]

theorem buildA_ok {t : TypeId} {parts : List (Nat × AV)} {ps : Array (Nat × Value)} {v : AV} (hm : ps.toList.map (·.1) = parts.map (·.1)) (hp : ∀ (j : Nat) p q, parts[j]? = some p → ps.toList[j]? = some q → VR S ρ w p.2 q.2)
    (h : buildA P t parts = some v) : ∃ u, (Instr.build t ps).run P w = .ok u w ∧ VR S ρ w v u := by
  unfold buildA at h
  split at h
  · rename_i fs z hu hz
    split at h
    · rename_i hc
      simp only [Bool.and_eq_true, List.all_eq_true, decide_eq_true_eq] at hc
      obtain ⟨r, hr, rfl⟩ := Option.map_eq_some_iff.1 h
      obtain ⟨it, hit, hz'⟩ := Option.bind_eq_some_iff.1 hz
      obtain ⟨pl, hpl, hpg⟩ := places_of fs.toList hc.1
      have hzv := vr_cells (vr_ofValue (S := S) (ρ := ρ) (w := w) z) (by intro e; rw [e] at hc; simp [AV.known] at hc)
      obtain ⟨vs, e1, e2, e3⟩ := fill_ok parts hzv.1 hzv.2 hm hp hr
      refine ⟨.agg vs, run_build w t ps vs ?_, .agg _ _ e2 e3⟩
      unfold Program.built
      simp only [hit, hu, hz', hpl]
      rw [← e1]; congr 1
      funext i
      have := hpg i
      simp only [List.getElem?_toArray, this, Array.getElem?_toList]
    · cases h
  · rename_i e z hu hz
    split at h
    · rename_i hc
      obtain ⟨r, hr, rfl⟩ := Option.map_eq_some_iff.1 h
      obtain ⟨it, hit, hz'⟩ := Option.bind_eq_some_iff.1 hz
      obtain ⟨ie, hie, hs⟩ := info_of_cells hc.1
      have hzv := vr_cells (vr_ofValue (S := S) (ρ := ρ) (w := w) z) (by intro e; rw [e] at hc; simp [AV.known] at hc)
      obtain ⟨vs, e1, e2, e3⟩ := fill_ok parts hzv.1 hzv.2 hm hp hr
      refine ⟨.agg vs, run_build w t ps vs ?_, .agg _ _ e2 e3⟩
      unfold Program.built
      simp only [hit, hu, hz', hie, hs]
      exact e1
    · cases h
  · cases h

end Go.Proofs.YteibklnligmanaaDoor.Abs


/- What an operation that only reads comes to: indices, slices, and all of them. -/
namespace Go.Proofs.YteibklnligmanaaDoor.Abs
open Go Go.RowKit
set_option linter.unusedSimpArgs false
set_option linter.unusedVariables false

variable {P : Program} {S : Stab} {ρ : Rho} {w : World}

/-! ### Indices -/
theorem run_indexAt_slice {t e : TypeId} {k : IntKind} {n : Int} {a : Addr} {len cap : Nat} (hd : P.underlying t = some (.slice e)) (h0 : 0 < P.cellsOf e) (h1 : 0 ≤ n) (h2 : n < len) :
    (Instr.indexAt t (.slice (some a) len cap) (.int k n)).run P w = .ok (.pointer (some (a.add (n.toNat * P.cellsOf e)))) w := by
  have hs : (sizeOf e).run P w = .ok (P.cellsOf e) w := run_sizeOf rfl h0
  simp [Instr.indexAt, asIntOf, run_underlying hd w, hs, h1, h2]
theorem run_indexAt_array {t e : TypeId} {k : IntKind} {n : Int} {a : Addr} {m : Nat} (hd : P.underlying t = some (.array m e)) (h0 : 0 < P.cellsOf e) (h1 : 0 ≤ n) (h2 : n < m) :
    (Instr.indexAt t (.pointer (some a)) (.int k n)).run P w = .ok (.pointer (some (a.add (n.toNat * P.cellsOf e)))) w := by
  have hs : (sizeOf e).run P w = .ok (P.cellsOf e) w := run_sizeOf rfl h0
  simp [Instr.indexAt, Instr.sureAddr, asIntOf, run_underlying hd w, hs, h1, h2]

theorem indexA_ok {hp : Heap} (H : HR S ρ w hp) {t : TypeId} {x i v : AV} {a b : Value} (hx : VR S ρ w x a) (hi : VR S ρ w i b) (h : indexA P hp t x i = some v) :
    ∃ u, (Instr.indexAt t a b).run P w = .ok u w ∧ VR S ρ w v u := by
  unfold indexA at h
  split at h
  · rename_i k n
    cases vr_int hi
    split at h
    · rename_i e sz es hd
      split at h
      · rename_i hc
        obtain ⟨hsz, hpos, h0⟩ := hc
        obtain ⟨x0, he, rfl⟩ := Option.map_eq_some_iff.1 h
        have hlt : n.toNat < es.length := (List.getElem?_eq_some_iff.1 he).1
        cases hx with
        | pure hx => cases hx with
          | empty => simp at hlt
          | list _ bb off cap _ f p0 hcap hs hS hw hq hp =>
            refine ⟨_, run_indexAt_slice hd (by omega) h0 (by omega), ?_⟩
            rw [at0_add, ← hsz]
            have hl : x0.cells.length = sz := hs x0 (List.mem_of_getElem? he)
            have := PR.ep (S := S) (w := w) x0 bb (off + n.toNat * sz) 0 (f n.toNat) (by omega) (fun j c hj => hS _ j x0 c he hj) (fun j c hj => hw _ j x0 c he hj) (fun j c hj => hp _ j x0 c he hj)
            exact .pure this
      · cases h
    · rename_i e id hd
      rw [Option.bind_eq_some_iff] at h
      obtain ⟨⟨sz, es⟩, hr, h⟩ := h
      obtain ⟨fx, mv, ho⟩ := rowAt_some hr
      split at h
      · rename_i hc
        simp only at hc
        obtain ⟨hsz, hpos, h0, hlt⟩ := hc
        cases h
        cases hx with
        | pure hx => cases hx
        | own0 _ hρ => have := row0_of H ho hρ; subst this; simp at hlt; omega
        | own _ bb s m cap hρ hcap hr =>
          obtain ⟨rfl, rfl, _⟩ := rowobj_of H ho hρ
          refine ⟨_, run_indexAt_slice hd (by omega) h0 (by omega), ?_⟩
          rw [at0_add, ← hsz]
          have := VR.ptr (S := S) (w := w) id n.toNat 0 bb s es.length hρ
          simpa using this
      · cases h
    · rename_i e id o l hd
      rw [Option.bind_eq_some_iff] at h
      obtain ⟨⟨sz, es⟩, hr, h⟩ := h
      obtain ⟨fx, mv, ho⟩ := rowAt_some hr
      split at h
      · rename_i hc
        simp only at hc
        obtain ⟨hsz, hpos, h0, hlt, hol⟩ := hc
        cases h
        cases hx with
        | pure hx => cases hx
        | row0 => omega
        | row _ _ _ bb s m cap hρ hcap =>
          obtain ⟨rfl, rfl, _⟩ := rowobj_of H ho hρ
          refine ⟨_, run_indexAt_slice hd (by omega) h0 (by omega), ?_⟩
          rw [at0_add, ← hsz, ← Nat.add_mul]
          have := VR.ptr (S := S) (w := w) id (o + n.toNat) 0 bb s es.length hρ
          simpa using this
      · cases h
    · rename_i m e id j o hd
      split at h
      · rename_i hc
        obtain ⟨h0, hlt, hpos⟩ := hc
        cases h
        obtain ⟨bb, sz, nn, hρ, rfl⟩ := vr_ptr hx
        refine ⟨_, run_indexAt_array hd hpos h0 hlt, ?_⟩
        rw [at0_add, Nat.add_assoc]
        exact .ptr id j _ bb sz nn hρ
      · cases h
    · rename_i m e v0 o hd
      split at h
      · rename_i hc
        obtain ⟨h0, hlt, hpos, hin⟩ := hc
        cases h
        cases hx with
        | pure hx => cases hx with
          | ep _ bb base _ f ho hS hw hp =>
            refine ⟨_, run_indexAt_array hd hpos h0 hlt, ?_⟩
            rw [at0_add, Nat.add_assoc]
            exact .pure (.ep v0 bb base _ f hin hS hw hp)
      · cases h
    · cases h
  · cases h

theorem indexv_ok {t : TypeId} {x i v : AV} {a b : Value} (hx : VR S ρ w x a) (hi : VR S ρ w i b) (h : indexv P t x i = some v) : ∃ u, (Instr.index t a b).run P w = .ok u w ∧ VR S ρ w v u := by
  unfold indexv at h
  split at h
  · rename_i k n
    cases vr_int hi
    split at h
    · rename_i m e cs hd
      split at h
      · rename_i hc
        obtain ⟨vs, rfl, hl, hv⟩ := vr_agg hx
        obtain ⟨d, he, h0, h⟩ := partT_some h
        obtain ⟨u, h1, h2⟩ := part_ok he h0 hl hv h
        refine ⟨u, ?_, h2⟩
        unfold Instr.index
        simp only [asIntOf]
        rw [runB (a := (k, n)) (by rfl)]
        simp only []
        rw [runB (run_underlying hd w)]
        simp only []
        rw [if_pos hc, runB (run_sizeOf rfl h0)]
        exact h1
      · cases h
    · rename_i l hd
      split at h
      · rename_i hc
        obtain ⟨s, rfl, rfl⟩ := vr_str hx
        obtain ⟨u, hu, rfl⟩ := Option.map_eq_some_iff.1 h
        refine ⟨.int .u8 u.toNat, ?_, .pure (.int _ _)⟩
        unfold Instr.index
        simp only [asIntOf]
        rw [runB (a := (k, n)) (by rfl)]
        simp only []
        rw [runB (run_underlying hd w)]
        simp only []
        rw [if_pos hc]
        have : s[n.toNat]? = some u := by
          have hlt : n.toNat < s.size := by simpa using (List.getElem?_eq_some_iff.1 hu).1
          rw [getElem?_pos s n.toNat hlt]
          have := (List.getElem?_eq_some_iff.1 hu).2
          rw [← this]; rfl
        rw [this]; rfl
      · cases h
    · cases h
  · cases h

/-! ### Slices -/
def ORel (S : Stab) (ρ : Rho) (w : World) : Option AV → Option Value → Prop
  | none, none => True
  | some x, some a => VR S ρ w x a
  | _, _ => False
theorem bound_some {x : Option AV} {d n : Nat} {vx : Option Value} (h : bound? x d = some n) (r : ORel S ρ w x vx) : (vx = none ∧ n = d) ∨ ∃ k i, vx = some (.int k i) ∧ 0 ≤ i ∧ n = i.toNat := by
  cases x with
  | none => cases vx with
    | none => cases h; exact .inl ⟨rfl, rfl⟩
    | some => exact r.elim
  | some x => cases vx with
    | none => exact r.elim
    | some a => cases x with
      | int k i =>
        simp only [bound?] at h
        split at h
        · cases h; exact .inr ⟨k, i, by rw [vr_int r], by assumption, rfl⟩
        · cases h
      | _ => simp [bound?] at h
theorem run_bounds {isS : Bool} {len cap l h : Nat} {lo hi : Option AV} {vl vh : Option Value} (hlo : bound? lo 0 = some l) (hhi : bound? hi len = some h)
    (rl : ORel S ρ w lo vl) (rh : ORel S ρ w hi vh) (h1 : l ≤ h) (h2 : h ≤ cap) :
    (Instr.sliceBounds isS len cap vl vh none).run P w = .ok (l, h, cap) w := by
  rcases bound_some hlo rl with ⟨rfl, rfl⟩ | ⟨k, i, rfl, hi0, rfl⟩ <;> rcases bound_some hhi rh with ⟨rfl, rfl⟩ | ⟨k', i', rfl, hi', rfl⟩
  · simp [Instr.sliceBounds]
  · simp [Instr.sliceBounds, run_sliceBound (P := P) w k' i' cap _ hi' (by omega)]
  · simp [Instr.sliceBounds, run_sliceBound (P := P) w k i h _ hi0 (by omega)]
  · simp [Instr.sliceBounds, run_sliceBound (P := P) w k' i' cap _ hi' (by omega), run_sliceBound (P := P) w k i i'.toNat _ hi0 (by omega)]

theorem run_sliceAt_sl {t e : TypeId} {a : Option Addr} {len cap l h : Nat} {vl vh : Option Value} (hd : P.underlying t = some (.slice e)) (h0 : 0 < P.cellsOf e) (hb : (Instr.sliceBounds true len cap vl vh none).run P w = .ok (l, h, cap) w) :
    (Instr.sliceAt t (.slice a len cap) vl vh none).run P w = .ok (.slice (if cap = l then a else a.map (·.add (l * P.cellsOf e))) (h - l) (cap - l)) w := by
  unfold Instr.sliceAt Instr.slice
  rw [runB (run_underlying hd w)]
  simp only []
  rw [runB (run_underlying hd w)]
  simp only []
  rw [runB hb]
  simp only []
  rw [runB (run_sizeOf rfl h0)]
  rfl

theorem slicev_ok {hp : Heap} (H : HR S ρ w hp) {t : TypeId} {x v : AV} {lo hi mx : Option AV} {a : Value} {vl vh vm : Option Value} (hx : VR S ρ w x a)
    (rl : ORel S ρ w lo vl) (rh : ORel S ρ w hi vh)
    (rm : mx = none → vm = none) (h : slicev P hp t x lo hi mx = some v) : ∃ u, (Instr.sliceAt t a vl vh vm).run P w = .ok u w ∧ VR S ρ w v u := by
  unfold slicev at h
  split at h
  · rename_i s hd
    cases rm rfl
    obtain ⟨p, rfl, rfl⟩ := vr_str hx
    rw [Option.bind_eq_some_iff] at h; obtain ⟨l, hl, h⟩ := h
    rw [Option.bind_eq_some_iff] at h; obtain ⟨hh, hhh, h⟩ := h
    split at h
    · rename_i hc
      cases h
      have hz : p.data.toList.length = p.size := by simp
      rw [hz] at hhh hc
      refine ⟨.string (p.extract l hh), ?_, ?_⟩
      · unfold Instr.sliceAt Instr.slice
        rw [runB (run_underlying hd w)]
        simp only []
        rw [runB (run_underlying hd w)]
        simp only [Option.isSome_none, Bool.false_eq_true, if_false]
        rw [runB (run_bounds hl hhh rl rh hc.1 hc.2)]
        rfl
      · have : (p.extract l hh).data.toList = (p.data.toList.take hh).drop l := by rw [Lib.extract_data, List.drop_take]
        rw [← this]; exact .pure (.str _)
    · cases h
  · rename_i e sz es hd
    cases rm rfl
    rw [Option.bind_eq_some_iff] at h; obtain ⟨l, hl, h⟩ := h
    rw [Option.bind_eq_some_iff] at h; obtain ⟨hh, hhh, h⟩ := h
    split at h
    · rename_i hc
      obtain ⟨hsz, hpos, h1, h2⟩ := hc
      cases h
      cases hx with
      | pure hx => cases hx with
        | empty _ a c =>
          simp only [List.length_nil] at h2 hhh
          obtain rfl : hh = 0 := by omega
          obtain rfl : l = 0 := by omega
          refine ⟨_, run_sliceAt_sl hd (by omega) (run_bounds hl hhh rl rh (by omega) (by omega)), ?_⟩
          simp only [List.take_nil, List.drop_nil]
          exact .pure (.empty _ _ _ (fun e => by omega))
        | list _ b off cap _ f p0 hcap hs hS hw hq hp =>
          refine ⟨_, run_sliceAt_sl hd (by omega) (run_bounds hl hhh rl rh h1 (by omega)), ?_⟩
          by_cases he : hh = l
          · subst he
            have : (es.take hh).drop hh = [] := by simp [List.drop_eq_nil_iff]
            rw [this, Nat.sub_self]; exact .pure (.empty _ _ _ (fun e => by omega))
          · rw [if_neg (by omega)]
            simp only [Option.map_some, at0_add, ← hsz]
            have hlen : ((es.take hh).drop l).length = hh - l := by simp; omega
            have get : ∀ (i : Nat) e', ((es.take hh).drop l)[i]? = some e' → es[l + i]? = some e' := by
              intro i e' hi
              rw [List.getElem?_drop, List.getElem?_take] at hi
              split at hi
              · exact hi
              · cases hi
            have := PR.list (S := S) (w := w) ((es.take hh).drop l) b (off + l * sz) (cap - l) sz (fun i j => f (l + i) j) p0 (by rw [hlen]; omega)
              (fun e' he' => hs e' (List.mem_of_mem_take (List.mem_of_mem_drop he')))
              (fun i j e' c hi hj => by have := hS (l + i) j e' c (get i e' hi) hj; rw [Nat.add_mul] at this; rw [show off + l * sz + i * sz + j = off + (l * sz + i * sz) + j by omega]; exact this)
              (fun i j e' c hi hj => by have := hw (l + i) j e' c (get i e' hi) hj; rw [Nat.add_mul] at this; rw [show off + l * sz + i * sz + j = off + (l * sz + i * sz) + j by omega]; exact this)
              (fun i j e' c hi hj => hq (l + i) j e' c (get i e' hi) hj) (fun i j e' c hi hj => hp (l + i) j e' c (get i e' hi) hj)
            rw [hlen] at this
            exact .pure this
    · cases h
  · rename_i e hd
    cases rm rfl
    split at h
    · cases h
    · rename_i hne
      rw [Option.bind_eq_some_iff] at h; obtain ⟨l, hl, h⟩ := h
      rw [Option.bind_eq_some_iff] at h; obtain ⟨hh, hhh, h⟩ := h
      split at h
      · rename_i hc
        cases h; cases vr_nils hx
        obtain rfl : hh = 0 := by omega
        obtain rfl : l = 0 := by omega
        exact ⟨_, run_sliceAt_sl hd (by omega) (run_bounds hl hhh rl rh (by omega) (by omega)), .pure .nils⟩
      · cases h
  · rename_i e id hd
    cases rm rfl
    rw [Option.bind_eq_some_iff] at h; obtain ⟨⟨sz, es⟩, hr, h⟩ := h
    obtain ⟨fx, mv, ho⟩ := rowAt_some hr
    rw [Option.bind_eq_some_iff] at h; obtain ⟨l, hl, h⟩ := h
    rw [Option.bind_eq_some_iff] at h; obtain ⟨hh, hhh, h⟩ := h
    simp only at h hhh
    split at h
    · rename_i hc
      obtain ⟨hsz, hpos, h1, h2⟩ := hc
      cases h
      cases hx with
      | pure hx => cases hx
      | own0 _ hρ =>
        have := row0_of H ho hρ; subst this
        simp only [List.length_nil] at h2 hhh
        obtain rfl : hh = 0 := by omega
        obtain rfl : l = 0 := by omega
        refine ⟨_, run_sliceAt_sl hd (by omega) (run_bounds hl hhh rl rh (by omega) (by omega)), ?_⟩
        exact .row0 _ _ _ _
      | own _ b s m cap hρ hcap hr =>
        obtain ⟨rfl, rfl, _⟩ := rowobj_of H ho hρ
        refine ⟨_, run_sliceAt_sl hd (by omega) (run_bounds hl hhh rl rh h1 (by omega)), ?_⟩
        by_cases he : hh = l
        · subst he; rw [Nat.sub_self]; exact .row0 _ _ _ _
        · rw [if_neg (by omega)]
          simp only [Option.map_some, at0_add, ← hsz, Nat.zero_add]
          exact .row id l (hh - l) b s es.length (cap - l) hρ (by omega)
    · cases h
  · rename_i e id o n hd
    cases rm rfl
    rw [Option.bind_eq_some_iff] at h; obtain ⟨⟨sz, es⟩, hr, h⟩ := h
    obtain ⟨fx, mv, ho⟩ := rowAt_some hr
    rw [Option.bind_eq_some_iff] at h; obtain ⟨l, hl, h⟩ := h
    rw [Option.bind_eq_some_iff] at h; obtain ⟨hh, hhh, h⟩ := h
    simp only at h hhh
    split at h
    · rename_i hc
      obtain ⟨hsz, hpos, h1, h2⟩ := hc
      cases h
      cases hx with
      | pure hx => cases hx
      | row0 =>
        obtain rfl : hh = 0 := by omega
        obtain rfl : l = 0 := by omega
        refine ⟨_, run_sliceAt_sl hd (by omega) (run_bounds hl hhh rl rh (by omega) (by omega)), ?_⟩
        exact .row0 _ _ _ _
      | row _ _ _ b s m cap hρ hcap =>
        obtain ⟨rfl, rfl, _⟩ := rowobj_of H ho hρ
        refine ⟨_, run_sliceAt_sl hd (by omega) (run_bounds hl hhh rl rh h1 (by omega)), ?_⟩
        by_cases he : hh = l
        · subst he; rw [Nat.sub_self]; exact .row0 _ _ _ _
        · rw [if_neg (by omega)]
          simp only [Option.map_some, at0_add, ← hsz, ← Nat.add_mul]
          exact .row id (o + l) (hh - l) b s es.length (cap - l) hρ (by omega)
    · cases h
  · cases h

theorem run_sliceArr {t e : TypeId} {n b o l h : Nat} {vl vh : Option Value} (ha : arrT P t = some (n, e)) (h0 : 0 < P.cellsOf e) (hb : (Instr.sliceBounds false n n vl vh none).run P w = .ok (l, h, n) w) (hl : l < n) :
    (Instr.sliceAt t (.pointer (some (at0 b o))) vl vh none).run P w = .ok (.slice (some (at0 b (o + l * P.cellsOf e))) (h - l) (n - l)) w := by
  have hne : ¬ n = l := by omega
  unfold arrT at ha
  split at ha
  · rename_i hd
    cases ha
    unfold Instr.sliceAt
    rw [runB (run_underlying hd w)]
    simp only
    rw [runB (a := at0 b o) (by rfl), runB hb]
    simp only
    rw [runB (run_sizeOf rfl h0), if_neg hne, at0_add]
    rfl
  · rename_i ar hd
    split at ha
    · rename_i n' e' hd2
      cases ha
      unfold Instr.sliceAt
      rw [runB (run_underlying hd w)]
      simp only
      unfold Instr.slice
      rw [runB (run_underlying hd w)]
      simp only
      rw [runB (a := at0 b o) (by rfl), runB (run_underlying hd2 w)]
      simp only
      rw [runB hb]
      simp only
      rw [runB (run_sizeOf rfl h0), if_neg hne, at0_add]
      rfl
    · cases ha
  · cases ha

theorem winA_ok {hp : Heap} (H : HR S ρ w hp) {t : TypeId} {x : AV} {lo hi mx : Option AV} {a : Value} {vl vh vm : Option Value} (hx : VR S ρ w x a) (rl : ORel S ρ w lo vl) (rh : ORel S ρ w hi vh)
    (rm : mx = none → vm = none) {q : Win} (hq : winA P hp t x lo hi mx = some q) : ∃ b sz k cap T v, aget hp q.id = some (.box T v) ∧ ρ q.id = some ⟨some (b, sz), k⟩ ∧ q.len ≤ cap ∧ 0 < P.cellsOf q.elem ∧ (Instr.sliceAt t a vl vh vm).run P w = .ok (.slice (some (at0 b q.off)) q.len cap) w := by
  unfold winA at hq
  split at hq
  case h_2 => cases hq
  rename_i id oo
  rw [Option.bind_eq_some_iff] at hq; obtain ⟨⟨n, e⟩, ha, hq⟩ := hq
  rw [Option.bind_eq_some_iff] at hq; obtain ⟨ob, hob, hq⟩ := hq
  split at hq
  case h_2 => cases hq
  rename_i T v
  rw [Option.bind_eq_some_iff] at hq; obtain ⟨l, hl, hq⟩ := hq
  rw [Option.bind_eq_some_iff] at hq; obtain ⟨hh, hhi, hq⟩ := hq
  simp only at hl hhi hq
  split at hq
  case isFalse => cases hq
  rename_i hc
  obtain ⟨h0, hlh, hhn, hln, hfit⟩ := hc
  cases hq
  cases rm rfl
  obtain ⟨b, sz, k, hρ, ev⟩ := vr_ptr hx
  have hi0 : ObjR S ρ w id (.box T v) := H.obj id _ hob
  obtain ⟨b', cells, t', fr, g1, _⟩ := hi0
  rw [hρ] at g1
  cases g1
  rw [Nat.zero_mul, Nat.zero_add] at ev
  subst ev
  exact ⟨b, _, _, n - l, T, v, hob, hρ, Nat.sub_le_sub_right hhn l, h0, run_sliceArr ha h0 (run_bounds hl hhi rl rh hlh hhn) hln⟩
theorem sliceW_ok {hp : Heap} (H : HR S ρ w hp) {t : TypeId} {x v : AV} {lo hi mx : Option AV} {a : Value} {vl vh vm : Option Value} (hx : VR S ρ w x a) (rl : ORel S ρ w lo vl) (rh : ORel S ρ w hi vh)
    (rm : mx = none → vm = none) (h : sliceW P hp t x lo hi mx = some v) : ∃ u, (Instr.sliceAt t a vl vh vm).run P w = .ok u w ∧ VR S ρ w v u := by
  unfold sliceW at h
  split at h
  · rename_i q hq
    split at h
    · cases h
    · cases h
      obtain ⟨b, sz, k, cap, T, v, _, hρ, hlc, _, hrun⟩ := winA_ok H hx rl rh rm hq
      exact ⟨_, hrun, .win q.id _ _ _ b _ k _ hρ hlc⟩
  · exact slicev_ok H hx rl rh rm h
end Go.Proofs.YteibklnligmanaaDoor.Abs


/- What an operation that only reads comes to, the machine's comes to. -/
namespace Go.Proofs.YteibklnligmanaaDoor.Abs
open Go Go.RowKit
set_option linter.unusedSimpArgs false
set_option linter.unusedVariables false

variable {P : Program} {S : Stab} {ρ : Rho} {w : World} {E : Env} {st : ASt} {a : Act}

theorem makeInterface_ok {t : TypeId} {d : TypeDesc} (hd : P.underlying t = some d) (hn : ∀ ms, d ≠ .interface ms) (v : Value) : (Instr.makeInterface t v).run P w = .ok (.iface t v) w := by
  unfold Instr.makeInterface
  rw [runB (run_underlying hd w)]
  cases d <;> first | rfl | exact absurd rfl (hn _)

theorem eqGuard_nil {op : BinOp} {t : TypeId} {x y : Operand} (hc : (isConst x || isConst y) = true) : (eqGuard op t x y .nilIface .nilIface).run P w = .ok () w := by
  unfold eqGuard
  cases x <;> cases y <;> simp [isConst] at hc <;> cases op <;> rfl

theorem zero_ok {t : TypeId} {z : Value} (h : (P.info? t).bind (·.zero) = some z) : (zeroValue t).run P w = .ok z w := by
  obtain ⟨i, hi, hz⟩ := Option.bind_eq_some_iff.1 h
  simp [zeroValue, typeInfo, hi, hz]

theorem checkKey_ok {d : TypeDesc} {kt : TypeId} (hd : P.underlying kt = some d) (hp : plainKey (some d) = true) (b : Bool) (v : Value) : (Instr.checkKey b 10000 kt v).run P w = .ok () w := by
  show (Instr.checkKey b (9999 + 1) kt v).run P w = .ok () w
  unfold Instr.checkKey
  rw [runB (run_underlying hd w)]
  cases d <;> first | (cases v <;> rfl) | (simp [plainKey] at hp)
theorem findKey_ok {d : TypeDesc} {kt : TypeId} {k : AV} {kv : Value} (hd : P.underlying kt = some d) (hk : VR S ρ w k kv) {es : List (Nat × AV × AV)} {M : Array MapEntry} (hE : EntR S w es M) {r : Option (Nat × AV)} (h : findA (some d) k es 0 = some r) :
    ∃ r', (Instr.findKey kt kv M.toList).run P w = .ok r' w ∧ ((r = none ∧ r' = none) ∨ ∃ j a u, r = some (j, a) ∧ r' = some (j, u) ∧ PR S w a u) := by
  obtain ⟨r', h1, h2⟩ := findA_ok hk (L := M.toList) (by simpa using hE.1) (fun j e he => by have := hE.2 j e he; simpa using this) h
  refine ⟨r', ?_, h2⟩
  unfold Instr.findKey
  rw [runB (run_underlying hd w)]
  rw [h1]; rfl
theorem lookupA_ok {hp : Heap} (H : HR S ρ w hp) {t : TypeId} {m k v : AV} {ok : Bool} {vm vk : Value} (hm : VR S ρ w m vm) (hk : VR S ρ w k vk) (h : lookupA P hp t m k ok = some v) : ∃ u, (Instr.lookup t vm vk ok).run P w = .ok u w ∧ VR S ρ w v u := by
  have pair : ∀ {p q : AV} {u1 u2 : Value}, VR S ρ w p u1 → VR S ρ w q u2 → VR S ρ w (.tup [p, q]) (.tuple #[u1, u2]) := by
    intro p q u1 u2 k1 k2
    refine .tup _ _ rfl fun j c v e1 e2 => ?_
    match j with
    | 0 => simp at e1 e2; subst e1 e2; exact k1
    | 1 => simp at e1 e2; subst e1 e2; exact k2
    | j + 2 => simp at e1
  unfold lookupA at h
  split at h
  · rename_i kt et hd
    rw [Option.bind_eq_some_iff] at h
    obtain ⟨⟨es, clk⟩, he, h⟩ := h
    obtain ⟨b, M, rfl, hb, hE⟩ := mapObj_ok H hm he
    split at h
    · rename_i hpk
      cases hu : P.underlying kt with
      | none => rw [hu] at hpk; simp [plainKey] at hpk
      | some d =>
        rw [hu] at hpk h
        rw [Option.bind_eq_some_iff] at h
        obtain ⟨r, hr, h⟩ := h
        obtain ⟨r', h1, h2⟩ := findKey_ok hu hk hE hr
        have hrun : (Instr.lookup t (.map (some b)) vk ok).run P w = (match r' with | some (_, v) => (pure (if ok = true then Value.tuple #[v, .bool true] else v) : Sem Value) | none => (do let z ← zeroValue et; pure (if ok = true then .tuple #[z, .bool false] else z))).run P w := by
          unfold Instr.lookup
          rw [runB (run_underlying hd w)]
          simp only [bind_assoc]
          rw [runB (run_getM hb)]
          simp only [pure_bind]
          rw [runB (checkKey_ok hu hpk _ _), runB h1]
          rcases r' with _ | ⟨j, u⟩ <;> simp
        rcases h2 with ⟨rfl, rfl⟩ | ⟨j, a0, u, rfl, rfl, hp⟩
        · obtain ⟨z, hz, rfl⟩ := Option.map_eq_some_iff.1 h
          refine ⟨_, hrun.trans (by rw [runB (zero_ok hz)]; rfl), ?_⟩
          cases ok
          · exact vr_ofValue z
          · exact pair (vr_ofValue z) (.pure (.bool _))
        · cases h
          refine ⟨_, hrun.trans rfl, ?_⟩
          cases ok
          · exact .pure hp
          · exact pair (.pure hp) (.pure (.bool _))
    · cases h
  · cases h
/-! A map that stands. -/
theorem vr_cm {i : Nat} {v : Value} (h : VR S ρ w (.cm i) v) : ∃ b clk M L, v = .map (some b) ∧ w.heap[b]? = some (.map M clk) ∧ List.Perm L M.toList ∧ L.length = (cmOf i).length ∧
    (∀ (j : Nat) e (m : MapEntry), (cmOf i)[j]? = some e → L[j]? = some m → PR S w e.1 m.key) ∧ (∀ (j : Nat) e (m : MapEntry), (cmOf i)[j]? = some e → L[j]? = some m → PR S w e.2 m.val) := by
  cases h with
  | pure h => cases h with | cm _ b clk M L hS hb hL hl hk hv => exact ⟨b, clk, M, L, rfl, hb, hL, hl, hk, hv⟩
theorem cmFind_no {d : Option TypeDesc} {k : AV} : ∀ {es : List (AV × AV)}, cmFind d k es = some none → ∀ e ∈ es, keyEq d k e.1 = some false
  | [], _, e, he => by simp at he
  | x :: es, h, e, he => by
    unfold cmFind at h
    rw [Option.bind_eq_some_iff] at h; obtain ⟨b, hb, h⟩ := h
    rw [Option.bind_eq_some_iff] at h; obtain ⟨r, hr, h⟩ := h
    cases b with
    | true => cases r <;> simp at h
    | false =>
      simp only [Bool.false_eq_true, if_false, Option.some.injEq] at h
      subst h
      rcases List.mem_cons.1 he with rfl | he
      · exact hb
      · exact cmFind_no hr e he
theorem cmFind_yes {d : Option TypeDesc} {k v : AV} : ∀ {es : List (AV × AV)}, cmFind d k es = some (some v) → ∃ (j : Nat) (e : AV × AV), es[j]? = some e ∧ e.2 = v ∧ keyEq d k e.1 = some true ∧ ∀ (j' : Nat) e', es[j']? = some e' → j' ≠ j → keyEq d k e'.1 = some false
  | [], h => by cases h
  | x :: es, h => by
    unfold cmFind at h
    rw [Option.bind_eq_some_iff] at h; obtain ⟨b, hb, h⟩ := h
    rw [Option.bind_eq_some_iff] at h; obtain ⟨r, hr, h⟩ := h
    cases b with
    | true =>
      cases r with
      | some _ => simp at h
      | none =>
        simp only [if_true, Option.isNone_none, Option.some.injEq] at h
        refine ⟨0, x, rfl, h, hb, fun j' e' he hj => ?_⟩
        cases j' with
        | zero => exact absurd rfl hj
        | succ j' => exact cmFind_no hr e' (List.mem_of_getElem? (by simpa using he))
    | false =>
      simp only [Bool.false_eq_true, if_false, Option.some.injEq] at h
      subst h
      obtain ⟨j, e, h1, h2, h3, h4⟩ := cmFind_yes hr
      refine ⟨j + 1, e, by simpa using h1, h2, h3, fun j' e' he hj => ?_⟩
      cases j' with
      | zero => simp at he; subst he; exact hb
      | succ j' => exact h4 j' e' (by simpa using he) (by omega)
theorem findNow_no {d : TypeDesc} {k : Value} : ∀ {L : List MapEntry} {i : Nat}, (∀ m ∈ L, Instr.sameNow d k m.key = some false) → Instr.findNow d k L i = some none
  | [], _, _ => rfl
  | m :: L, i, h => by simp [Instr.findNow, h m (by simp), findNow_no (L := L) (i := i + 1) fun x hx => h x (by simp [hx])]
theorem findNow_yes {d : TypeDesc} {k : Value} : ∀ {L : List MapEntry} {i : Nat}, (∀ m ∈ L, ∃ b, Instr.sameNow d k m.key = some b) → (∃ m ∈ L, Instr.sameNow d k m.key = some true) → ∃ j m, Instr.findNow d k L i = some (some (j, m.val)) ∧ m ∈ L ∧ Instr.sameNow d k m.key = some true
  | [], _, _, h => by obtain ⟨m, hm, _⟩ := h; simp at hm
  | m :: L, i, h, hx => by
    obtain ⟨b, hb⟩ := h m (by simp)
    cases b with
    | true => exact ⟨i, m, by simp [Instr.findNow, hb], by simp, hb⟩
    | false =>
      obtain ⟨x, hx, hxs⟩ := hx
      have hx : x ∈ L := by
        rcases List.mem_cons.1 hx with rfl | hx
        · rw [hb] at hxs; cases hxs
        · exact hx
      obtain ⟨j, y, h1, h2, h3⟩ := findNow_yes (L := L) (i := i + 1) (fun y hy => h y (by simp [hy])) ⟨x, hx, hxs⟩
      exact ⟨j, y, by simp [Instr.findNow, hb, h1], by simp [h2], h3⟩
theorem lookupC_ok {t : TypeId} {i : Nat} {k v : AV} {ok : Bool} {vm vk : Value} (hm : VR S ρ w (.cm i) vm) (hk : VR S ρ w k vk) (h : lookupC P t i k ok = some v) : ∃ u, (Instr.lookup t vm vk ok).run P w = .ok u w ∧ VR S ρ w v u := by
  have pair : ∀ {p q : AV} {u1 u2 : Value}, VR S ρ w p u1 → VR S ρ w q u2 → VR S ρ w (.tup [p, q]) (.tuple #[u1, u2]) := by
    intro p q u1 u2 k1 k2
    refine .tup _ _ rfl fun j c v e1 e2 => ?_
    match j with
    | 0 => simp at e1 e2; subst e1 e2; exact k1
    | 1 => simp at e1 e2; subst e1 e2; exact k2
    | j + 2 => simp at e1
  unfold lookupC at h
  split at h
  case h_2 => cases h
  rename_i kt et hd
  obtain ⟨b, clk, M, L, rfl, hb, hL, hl, hkeys, hvals⟩ := vr_cm hm
  split at h
  case isFalse => cases h
  rename_i hpk
  cases hu : P.underlying kt with
  | none => rw [hu] at hpk; simp [plainKey] at hpk
  | some d =>
    rw [hu] at hpk h
    rw [Option.bind_eq_some_iff] at h
    obtain ⟨r, hr, h⟩ := h
    have at_ : ∀ (j : Nat) m, L[j]? = some m → ∃ e, (cmOf i)[j]? = some e := fun j m hj => ⟨_, List.getElem?_eq_getElem (by have := (List.getElem?_eq_some_iff.1 hj).1; omega)⟩
    have hrun : ∀ {r' : Option (Nat × Value)}, Instr.findNow d vk M.toList 0 = some r' → (Instr.lookup t (.map (some b)) vk ok).run P w = (match r' with | some (_, v) => (pure (if ok = true then Value.tuple #[v, .bool true] else v) : Sem Value) | none => (do let z ← zeroValue et; pure (if ok = true then .tuple #[z, .bool false] else z))).run P w := by
      intro r' h1
      have hf : (Instr.findKey kt vk M.toList).run P w = .ok r' w := by
        unfold Instr.findKey
        rw [runB (run_underlying hu w)]
        rw [h1]; rfl
      unfold Instr.lookup
      rw [runB (run_underlying hd w)]
      simp only [bind_assoc]
      rw [runB (run_getM hb)]
      simp only [pure_bind]
      rw [runB (checkKey_ok hu hpk _ _), runB hf]
      rcases r' with _ | ⟨j, u⟩ <;> simp
    cases r with
    | none =>
      have h1 : Instr.findNow d vk M.toList 0 = some none := findNow_no fun m hm => by
        obtain ⟨j, hj⟩ := List.getElem?_of_mem (hL.mem_iff.2 hm)
        obtain ⟨e, he⟩ := at_ j m hj
        exact keyEq_ok hk (hkeys j e m he hj) (cmFind_no hr e (List.mem_of_getElem? he))
      obtain ⟨z, hz, rfl⟩ := Option.map_eq_some_iff.1 h
      refine ⟨_, (hrun h1).trans (by rw [runB (zero_ok hz)]; rfl), ?_⟩
      cases ok
      · exact vr_ofValue z
      · exact pair (vr_ofValue z) (.pure (.bool _))
    | some v0 =>
      cases h
      obtain ⟨j, e, h1, rfl, h3, h4⟩ := cmFind_yes hr
      have hj : j < L.length := by rw [hl]; exact (List.getElem?_eq_some_iff.1 h1).1
      have one : ∀ m ∈ M.toList, ∃ j', L[j']? = some m ∧ Instr.sameNow d vk m.key = some (decide (j' = j)) := fun m hm => by
        obtain ⟨j', hj'⟩ := List.getElem?_of_mem (hL.mem_iff.2 hm)
        obtain ⟨e', he'⟩ := at_ j' m hj'
        refine ⟨j', hj', ?_⟩
        by_cases hjj : j' = j
        · subst hjj
          rw [h1] at he'; cases he'
          rw [decide_eq_true rfl]
          exact keyEq_ok hk (hkeys j' e m h1 hj') h3
        · rw [decide_eq_false hjj]
          exact keyEq_ok hk (hkeys j' e' m he' hj') (h4 j' e' he' hjj)
      obtain ⟨q, m, f1, f2, f3⟩ := findNow_yes (d := d) (k := vk) (L := M.toList) (i := 0) (fun m hm => let ⟨_, _, h⟩ := one m hm; ⟨_, h⟩)
        ⟨L[j], hL.mem_iff.1 (List.getElem_mem hj), keyEq_ok hk (hkeys j e _ h1 (List.getElem?_eq_getElem hj)) h3⟩
      obtain ⟨j', g1, g2⟩ := one m f2
      rw [f3] at g2
      have hjj : j' = j := by simpa using g2.symm
      subst hjj
      have hp := hvals j' e m h1 g1
      refine ⟨_, (hrun f1).trans rfl, ?_⟩
      cases ok
      · exact .pure hp
      · exact pair (.pure hp) (.pure (.bool _))
theorem lookupV_ok {hp : Heap} (H : HR S ρ w hp) {t : TypeId} {m k v : AV} {ok : Bool} {vm vk : Value} (hm : VR S ρ w m vm) (hk : VR S ρ w k vk) (h : lookupV P hp t m k ok = some v) : ∃ u, (Instr.lookup t vm vk ok).run P w = .ok u w ∧ VR S ρ w v u := by
  unfold lookupV at h
  cases m with
  | cm i => exact lookupC_ok hm hk h
  | _ => exact lookupA_ok H hm hk h
theorem entR_find {es : List (Nat × AV × AV)} {M : Array MapEntry} (hE : EntR S w es M) {b : Nat} {e : Nat × AV × AV} (h : es.find? (fun e => e.1 == b) = some e) : ∃ m : MapEntry, M.find? (fun e => e.born == b) = some m ∧ PR S w e.2.1 m.key ∧ PR S w e.2.2 m.val := by
  obtain ⟨M⟩ := M
  have key : ∀ (es : List (Nat × AV × AV)) (L : List MapEntry), L.length = es.length → (∀ (j : Nat) e, es[j]? = some e → ∃ m : MapEntry, L[j]? = some m ∧ m.born = e.1 ∧ PR S w e.2.1 m.key ∧ PR S w e.2.2 m.val) → es.find? (fun e => e.1 == b) = some e →
      ∃ m : MapEntry, L.find? (fun e => e.born == b) = some m ∧ PR S w e.2.1 m.key ∧ PR S w e.2.2 m.val := by
    intro es
    induction es with
    | nil => intro L _ _ h; cases h
    | cons x es ih =>
      intro L hl hE h
      cases L with
      | nil => simp at hl
      | cons m L =>
        obtain ⟨m', e1, e2, e3, e4⟩ := hE 0 x rfl
        have em : m = m' := by simpa using e1
        subst em
        rw [List.find?_cons] at h ⊢
        rw [e2]
        cases hb : x.1 == b with
        | true => rw [hb] at h; cases h; exact ⟨m, rfl, e3, e4⟩
        | false =>
          rw [hb] at h
          exact ih L (by simpa using hl) (fun j e he => by have := hE (j + 1) e he; simpa using this) h
  obtain ⟨m, h1, h2⟩ := key es M (by simpa using hE.1) (fun j e he => by have := hE.2 j e he; simpa using this) h
  exact ⟨m, by simpa using h1, h2⟩
theorem opv_ok (h : SR E st S ρ a.tmps w) (o : Oper) {v : AV} (hv : opv P st.ev st.hp o.op = some v) : ∃ u, (execOp a.eval o).run P w = .ok (.value u) w ∧ VR S ρ w v u := by
  have H := h.heap
  have wr : ∀ {s : Sem Value} {u : Value}, s.run P w = .ok u w → VR S ρ w v u → ∃ u, (do pure (Next.value (← s)) : Sem Next).run P w = .ok (.value u) w ∧ VR S ρ w v u := fun hs hr => ⟨_, wrapV hs, hr⟩
  unfold execOp
  cases hop : o.op with
  | move x => rw [hop] at hv; cases hv; exact ⟨_, rfl, h.ev x⟩
  | assign x => rw [hop] at hv; cases hv; exact ⟨_, rfl, h.ev x⟩
  | pick c x y =>
    rw [hop] at hv
    simp only [opv] at hv
    split at hv
    · rename_i t hc
      have := h.ev c; rw [hc] at this
      have e := vr_bool this
      refine ⟨if t then a.eval x else a.eval y, ?_, ?_⟩
      · simp only [e, asBool]; rfl
      · cases hv; cases t
        · exact h.ev y
        · exact h.ev x
    · cases hv
  | binOp op t x y yt =>
    rw [hop] at hv
    simp only [opv] at hv
    have hx := h.ev x
    have hy := h.ev y
    split at hv
    · rename_i e1 e2
      rw [e1] at hx; rw [e2] at hy
      have ex := vr_nili hx; have ey := vr_nili hy
      simp only [ex, ey]
      have hg := fun hc => eqGuard_nil (P := P) (w := w) (op := op) (t := t) (x := x) (y := y) hc
      split at hv
      · rename_i ms hu
        split at hv
        · rename_i hc
          cases hv
          refine wr (u := .bool true) ?_ (.pure (.bool _))
          rw [runB (hg hc)]
          show (binOp .eql t .nilIface .nilIface).run P w = _
          have : (Op.equal t .nilIface .nilIface).run P w = .ok true w := by
            have : ∀ d, (Op.equalIn (d + 1) t .nilIface .nilIface).run P w = .ok true w := fun d => by simp only [Op.equalIn]; rw [runB (run_underlying hu w)]; rfl
            exact this 9999
          rw [show binOp .eql t .nilIface .nilIface = (do pure (.bool (← Op.equal t .nilIface .nilIface))) from rfl, runB this]; rfl
        · cases hv
      · rename_i ms hu
        split at hv
        · rename_i hc
          cases hv
          refine wr (u := .bool false) ?_ (.pure (.bool _))
          rw [runB (hg hc)]
          have : (Op.equal t .nilIface .nilIface).run P w = .ok true w := by
            have : ∀ d, (Op.equalIn (d + 1) t .nilIface .nilIface).run P w = .ok true w := fun d => by simp only [Op.equalIn]; rw [runB (run_underlying hu w)]; rfl
            exact this 9999
          rw [show binOp .neq t .nilIface .nilIface = (do pure (.bool (!(← Op.equal t .nilIface .nilIface)))) from rfl, runB this]; rfl
        · cases hv
      · cases hv
    · unfold binv at hv
      split at hv
      · rename_i k n k' n' e1 e2
        rw [e1] at hx; rw [e2] at hy
        have ex := vr_int hx; have ey := vr_int hy
        simp only [ex, ey]
        split at hv
        · split at hv
          · cases hv
          · rename_i hb
            cases hv
            refine wr (u := _) ?_ (.pure (.int _ _))
            rw [runB (eqGuard_pass (by simp) (by simp))]
            simp [binOp, Op.shift, hb]
        · split at hv
          · cases hv
          · rename_i hb
            cases hv
            refine wr (u := _) ?_ (.pure (.int _ _))
            rw [runB (eqGuard_pass (by simp) (by simp))]
            simp [binOp, Op.shift, hb]
        · split at hv
          · rename_i hk; subst hk
            obtain ⟨u, h1, h2⟩ := arith_ok (P := P) (S := S) (ρ := ρ) (w := w) (t := t) hv
            refine wr (u := u) ?_ h2
            rw [runB (eqGuard_pass (by simp) (by simp))]; exact h1
          · cases hv
      · rename_i s1 s2 e1 e2
        rw [e1] at hx; rw [e2] at hy
        obtain ⟨b1, ex, rfl⟩ := vr_str hx; obtain ⟨b2, ey, rfl⟩ := vr_str hy
        simp only [ex, ey]
        obtain ⟨u, h1, h2⟩ := strOp_ok (P := P) (S := S) (ρ := ρ) (w := w) (t := t) hv
        refine wr (u := u) ?_ h2
        rw [runB (eqGuard_pass (by simp) (by simp))]; exact h1
      · split at hv
        · obtain ⟨r, hr, rfl⟩ := Option.map_eq_some_iff.1 hv
          obtain ⟨k1, k2, k3, k4⟩ := eqv_ok hx hy hr
          refine wr (u := .bool r) ?_ (.pure (.bool _))
          have hg : (eqGuard .eql t x y (a.eval x) (a.eval y)).run P w = .ok () w := by
            by_cases hag : ∃ cs, a.eval x = .agg cs
            · have hgt := k4 hag
              unfold eqGuard
              generalize a.eval x = ax at *
              generalize a.eval y = ay at *
              obtain ⟨cs, rfl⟩ := hag
              cases ay <;> simp [pure, bind, Sem.bind, program, Sem.run, hgt]
            · exact eqGuard_pass k3 fun cs e => hag ⟨cs, e⟩
          rw [runB hg]; exact k1
        · obtain ⟨r, hr, rfl⟩ := Option.map_eq_some_iff.1 hv
          obtain ⟨k1, k2, k3, k4⟩ := eqv_ok hx hy hr
          refine wr (u := .bool (!r)) ?_ (.pure (.bool _))
          have hg : (eqGuard .neq t x y (a.eval x) (a.eval y)).run P w = .ok () w := by
            by_cases hag : ∃ cs, a.eval x = .agg cs
            · have hgt := k4 hag
              unfold eqGuard
              generalize a.eval x = ax at *
              generalize a.eval y = ay at *
              obtain ⟨cs, rfl⟩ := hag
              cases ay <;> simp [pure, bind, Sem.bind, program, Sem.run, hgt]
            · exact eqGuard_pass k3 fun cs e => hag ⟨cs, e⟩
          rw [runB hg]; exact k2
        · cases hv
  | unOp op t x =>
    rw [hop] at hv
    obtain ⟨u, h1, h2⟩ := unv_ok (h.ev x) hv
    exact wr h1 h2
  | convert s t x =>
    rw [hop] at hv
    obtain ⟨u, h1, h2⟩ := convv_ok H (h.ev x) hv
    exact wr h1 h2
  | field t x f =>
    rw [hop] at hv
    simp only [opv] at hv
    split at hv
    · rename_i fd cs hf hc
      have hx := h.ev x; rw [hc] at hx
      obtain ⟨vs, ev, hl, hvs⟩ := vr_agg hx
      obtain ⟨d, hd, h0, hp⟩ := partT_some hv
      obtain ⟨u, h1, h2⟩ := part_ok hd h0 hl hvs hp
      refine wr (u := u) ?_ h2
      unfold fieldOff at hf
      split at hf
      · rename_i fs hu
        unfold Instr.field
        rw [runB (run_underlying hu w)]
        simp only [hf, ev]
        exact h1
      · cases hf
    · cases hv
  | fieldAddr t x f =>
    rw [hop] at hv
    simp only [opv] at hv
    split at hv
    · rename_i fd id i o' hf hc
      split at hv
      · cases hv
      · rename_i hne
        cases hv
        have hx := h.ev x; rw [hc] at hx
        obtain ⟨b, sz, n, hρ, ev⟩ := vr_ptr hx
        refine wr (u := .pointer (some (at0 b (i * sz + o' + fd.offset)))) ?_ (by rw [Nat.add_assoc]; exact .ptr id i _ b sz n hρ)
        unfold fieldOff at hf
        split at hf
        · rename_i fs hu
          unfold Instr.fieldAt
          rw [runB (run_underlying hu w)]
          simp only [hf, ev]
          rw [runB (a := at0 b (i * sz + o')) (by rfl), runB (fieldPlace_ok rfl (by omega))]
          rfl
        · cases hf
    · rename_i fd v0 o' hf hc
      split at hv
      · cases hv
      · rename_i hne
        cases hv
        have hx := h.ev x; rw [hc] at hx
        have hx' := hx
        cases hx with
        | pure hx => cases hx' with
          | pure hx' => 
            generalize hev : a.eval x = ax at hx hx'
            cases hx with
            | ep _ b base _ f ho hS hw hp =>
              refine wr (u := .pointer (some (at0 b (base + o' + fd.offset)))) ?_ (by rw [Nat.add_assoc]; exact .pure (.ep v0 b base _ f (by omega) hS hw hp))
              unfold fieldOff at hf
              split at hf
              · rename_i fs hu
                unfold Instr.fieldAt
                rw [runB (run_underlying hu w)]
                simp only [hf, hev]
                rw [runB (a := at0 b (base + o')) (by rfl), runB (fieldPlace_ok rfl (by omega))]
                rfl
              · cases hf
    · cases hv
  | indexAddr t x i =>
    rw [hop] at hv
    obtain ⟨u, h1, h2⟩ := indexA_ok H (h.ev x) (h.ev i) hv
    exact wr h1 h2
  | index t x i =>
    rw [hop] at hv
    obtain ⟨u, h1, h2⟩ := indexv_ok (h.ev x) (h.ev i) hv
    exact wr h1 h2
  | load t x =>
    rw [hop] at hv
    obtain ⟨ad, u, e, h1, h2⟩ := loadA_ok (P := P) H (h.ev x) (t := t) (v := v) hv
    refine wr (u := u) ?_ h2
    unfold Instr.loadAt
    rw [e, runB (a := ad) (by rfl)]
    exact h1
  | extract x i =>
    rw [hop] at hv
    simp only [opv] at hv
    split at hv
    · rename_i vs hc
      have hx := h.ev x; rw [hc] at hx
      obtain ⟨us, ev, hl, hus⟩ := vr_tup hx
      have hlt : i < us.size := by rw [← hl]; exact (List.getElem?_eq_some_iff.1 hv).1
      refine wr (u := us[i]) ?_ (hus i v _ hv (Array.getElem?_eq_getElem hlt))
      simp [Instr.extract, ev, hlt]
    · cases hv
  | build t parts =>
    rw [hop] at hv
    obtain ⟨u, h1, h2⟩ := buildA_ok (P := P) (S := S) (ρ := ρ) (w := w) (ps := parts.map fun (i, x) => (i, a.eval x)) (by simp [Function.comp]) (fun j p q hp hq => by
      simp only [List.getElem?_map, Array.toList_map] at hp hq
      obtain ⟨z, hz, rfl⟩ := Option.map_eq_some_iff.1 hp
      rw [hz] at hq; cases hq
      exact h.ev z.2) hv
    exact wr h1 h2
  | makeInterface t x =>
    rw [hop] at hv
    simp only [opv] at hv
    split at hv
    · cases hv
    · rename_i d hn hd
      cases hv
      exact wr (makeInterface_ok hd (fun ms e => hn ms (by rw [e])) _) (.iface t _ _ (h.ev x))
    · cases hv
  | makeFunc f x y =>
    rw [hop] at hv
    cases hv
    refine wr (u := _) rfl (.fn f _ _ _ _ (by simp) (by simp) (fun j c u hc hu => ?_) (fun j c u hc hu => ?_))
    · simp only [List.getElem?_map] at hc
      obtain ⟨z, hz, rfl⟩ := Option.map_eq_some_iff.1 hc
      rw [Array.getElem?_toList] at hz
      simp only [Array.getElem?_map, hz, Option.map_some, Option.some.injEq] at hu
      subst hu; exact h.ev z
    · simp only [List.getElem?_map] at hc
      obtain ⟨z, hz, rfl⟩ := Option.map_eq_some_iff.1 hc
      rw [Array.getElem?_toList] at hz
      simp only [Array.getElem?_map, hz, Option.map_some, Option.some.injEq] at hu
      subst hu; exact h.ev z
  | nilCheck x =>
    rw [hop] at hv
    simp only [opv] at hv
    have hx := h.ev x
    split at hv
    · rename_i id i o' hc
      cases hv; rw [hc] at hx
      obtain ⟨b, sz, n, hρ, ev⟩ := vr_ptr hx
      exact ⟨_, by simp only [ev]; rfl, .ptr id i o' b sz n hρ⟩
    · rename_i e o' hc
      cases hv; rw [hc] at hx
      obtain ⟨b, base, ev, _⟩ := vr_ep hx
      refine ⟨a.eval x, ?_, hx⟩
      simp only [ev]; rfl
    · rename_i t0 v0 hc
      cases hv; rw [hc] at hx
      obtain ⟨u, ev, hu⟩ := vr_iface hx
      exact ⟨_, by simp only [ev]; rfl, .iface _ _ _ hu⟩
    · cases hv
  | slice t x lo hi mx =>
    rw [hop] at hv
    have orel : ∀ y : Option Operand, ORel S ρ w (y.map st.ev) (y.map a.eval) := fun y => by
      cases y with
      | none => exact trivial
      | some y => exact h.ev y
    obtain ⟨u, h1, h2⟩ := sliceW_ok H (h.ev x) (orel lo) (orel hi) (vm := mx.map a.eval) (fun e => by cases mx <;> simp_all) hv
    exact wr h1 h2
  | typeAssert x xt t ok =>
    rw [hop] at hv
    simp only [opv] at hv
    have hx := h.ev x
    split at hv
    · cases hv
    · rename_i d t' v0 hni hd hc
      rw [hc] at hx
      obtain ⟨u, ev, hu⟩ := vr_iface hx
      have pair : ∀ {p q : AV} {u1 u2 : Value}, VR S ρ w p u1 → VR S ρ w q u2 → VR S ρ w (.tup [p, q]) (.tuple #[u1, u2]) := by
        intro p q u1 u2 k1 k2
        refine .tup _ _ rfl fun j c v e1 e2 => ?_
        match j with
        | 0 => simp at e1 e2; subst e1 e2; exact k1
        | 1 => simp at e1 e2; subst e1 e2; exact k2
        | j + 2 => simp at e1
      split at hv
      · rename_i ht; subst ht
        cases hv
        cases ok with
        | true =>
          refine wr (u := .tuple #[u, .bool true]) ?_ (pair hu (.pure (.bool _)))
          unfold Instr.typeAssert
          rw [ev, runB (run_underlying hd w)]
          cases d <;> simp_all
        | false =>
          refine wr (u := u) ?_ hu
          unfold Instr.typeAssert
          rw [ev, runB (run_underlying hd w)]
          cases d <;> simp_all
      · rename_i ht
        split at hv
        · rename_i hok; subst hok
          obtain ⟨z, hz, rfl⟩ := Option.map_eq_some_iff.1 hv
          refine wr (u := .tuple #[z, .bool false]) ?_ (pair (vr_ofValue z) (.pure (.bool _)))
          unfold Instr.typeAssert
          rw [ev, runB (run_underlying hd w)]
          cases d <;> simp_all [zero_ok hz]
        · cases hv
    · rename_i d hni hd hc
      rw [hc] at hx
      have ev := vr_nili hx
      have pair : ∀ {p q : AV} {u1 u2 : Value}, VR S ρ w p u1 → VR S ρ w q u2 → VR S ρ w (.tup [p, q]) (.tuple #[u1, u2]) := by
        intro p q u1 u2 k1 k2
        refine .tup _ _ rfl fun j c v e1 e2 => ?_
        match j with
        | 0 => simp at e1 e2; subst e1 e2; exact k1
        | 1 => simp at e1 e2; subst e1 e2; exact k2
        | j + 2 => simp at e1
      split at hv
      · rename_i hok; subst hok
        obtain ⟨z, hz, rfl⟩ := Option.map_eq_some_iff.1 hv
        refine wr (u := .tuple #[z, .bool false]) ?_ (pair (vr_ofValue z) (.pure (.bool _)))
        unfold Instr.typeAssert
        rw [ev, runB (run_underlying hd w)]
        cases d <;> simp_all [zero_ok hz]
      · cases hv
    · cases hv
  | lookup t m k ok =>
    rw [hop] at hv
    simp only [opv] at hv
    obtain ⟨u, h1, h2⟩ := lookupV_ok H (h.ev m) (h.ev k) hv
    exact wr h1 h2
  | entry it =>
    rw [hop] at hv
    simp only [opv] at hv
    have hx := h.ev it
    unfold entryA at hv
    split at hv
    · rename_i n hc
      rw [hc] at hx
      split at hv
      · rename_i x since seen last ho
        rw [Option.bind_eq_some_iff] at hv
        obtain ⟨⟨es, k⟩, he, hv⟩ := hv
        split at hv
        · rename_i ek
          rw [Option.bind_eq_some_iff] at hv
          obtain ⟨b0, hb0, hv⟩ := hv
          obtain ⟨e, hf, rfl⟩ := Option.map_eq_some_iff.1 hv
          obtain ⟨b, r, h1, h2, h3, h4⟩ := H.obj n _ ho
          obtain ⟨mb, M, e1, hmb, hE⟩ := mapObj_ok H h4 he
          obtain ⟨bp, sz, k', hρ, eu⟩ := vr_ptr hx
          rw [h1] at hρ; cases hρ
          cases e1
          obtain ⟨m, hm, p1, p2⟩ := entR_find hE hf
          simp only at ek
          subst ek
          have ea : a.eval it = .pointer (some ⟨b, 0, none⟩) := by rw [eu]; simp [at0]
          refine wr (u := .tuple #[m.key, m.val]) ?_ (.pure (.tup _ _ rfl fun j c v e1 e2 => ?_))
          · unfold Instr.entry
            rw [ea]
            simp only
            rw [runB (show (getObj b).run P w = .ok (.mapIter (some mb) since seen.toArray k) w by simp [getObj, Sem.run, h2])]
            simp only [List.back?_toArray, hb0]
            rw [runB (run_getM hmb)]
            simp [hm]
          · match j with
            | 0 => simp at e1 e2; subst e1 e2; exact p1
            | 1 => simp at e1 e2; subst e1 e2; exact p2
            | j + 2 => simp at e1
        · cases hv
      · cases hv
    · cases hv
  | call c =>
    rw [hop] at hv
    simp only [opv] at hv
    obtain ⟨cal, args, tys⟩ := c
    simp only at hv
    split at hv
    · rename_i x t e2 e3
      obtain rfl : args = #[x] := by cases args; simp_all
      obtain rfl : tys = #[t] := by cases tys; simp_all
      obtain ⟨u, h1, h2⟩ := lenv_ok (ty := o.type) H (h.ev x) hv
      refine ⟨u, ?_, h2⟩
      simp [resolve, invoke, builtin, h1]
    · rename_i x t e2 e3
      obtain rfl : args = #[x] := by cases args; simp_all
      obtain rfl : tys = #[t] := by cases tys; simp_all
      obtain ⟨u, h1, h2⟩ := capv_ok (ty := o.type) (h.ev x) hv
      refine ⟨u, ?_, h2⟩
      simp [resolve, invoke, builtin, h1]
    · rename_i x y e2
      obtain rfl : args = #[x, y] := by cases args; simp_all
      obtain ⟨u, h1, h2⟩ := minmax_ok (P := P) (h.ev x) (h.ev y) hv tys o.type
      refine ⟨u, ?_, h2⟩
      simp only [Bool.false_eq_true, if_false] at h1
      simp [resolve, invoke, builtin, h1]
    · rename_i x y e2
      obtain rfl : args = #[x, y] := by cases args; simp_all
      obtain ⟨u, h1, h2⟩ := minmax_ok (P := P) (h.ev x) (h.ev y) hv tys o.type
      refine ⟨u, ?_, h2⟩
      simp only [if_true] at h1
      simp [resolve, invoke, builtin, h1]
    · cases hv
  | _ => rw [hop] at hv; simp [opv] at hv

end Go.Proofs.YteibklnligmanaaDoor.Abs


/- What an operation that makes, or writes, memory comes to, the machine's comes to. -/
namespace Go.Proofs.YteibklnligmanaaDoor.Abs
open Go Go.RowKit
set_option linter.unusedSimpArgs false
set_option linter.unusedVariables false

variable {G : Cfg} {S : Stab} {ρ : Rho} {w : World} {E : Env} {st : ASt} {a : Act}

/-- What an operation comes to. -/
def OpDone (E : Env) (P : Program) (a : Act) (o : Oper) (w : World) : AR → Prop
  | .val v st' => ∃ n u w' S' ρ', (execOp a.eval o).run P w = .ok n w' ∧ (n = .value u ∨ (n = .skip ∧ u = Go.undef)) ∧ SR E st' S' ρ' a.tmps w' ∧ VR S' ρ' w' v u
  | .pan v st' => ∃ u w' S' ρ', (execOp a.eval o).run P w = .halt (.panic u) w' ∧ SR E st' S' ρ' a.tmps w' ∧ VR S' ρ' w' v u

theorem newObj_some {d : Nat} {ob : AObj} {vf : Nat → AV} {st : ASt} {r : AR} (h : newObj d ob vf st = some r) : aget st.hp (1000 + d) = none ∧ r = .val (vf (1000 + d)) { st with hp := (1000 + d, ob) :: st.hp } := by
  unfold newObj at h
  split at h
  · cases h
  · rename_i hn
    cases h
    exact ⟨by simpa using hn, rfl⟩

theorem unfrozen_new (w : World) (cells : Array Value) (t : TypeId) (n : Nat) : Unfrozen (w.alloc (.cells cells t)) w.heap.size n := fun o _ => World.frozen?_alloc_new w cells t o
theorem heap_new (w : World) (o : Obj) : (w.alloc o).heap[w.heap.size]? = some o := by
  show (w.heap.push o)[w.heap.size]? = some o
  simp

/-- A new variable. -/
theorem SR.newBox (h : SR E st S ρ a.tmps w) {n : Nat} (hn : aget st.hp n = none) (hlow : 1000 ≤ n) {x : AV} {u : Value} (hx : VR S ρ w x u) (hk : x ≠ .undef) (t : TypeId) :
    SR E { st with hp := (n, .box t x) :: st.hp } S (upd ρ n ⟨some (w.heap.size, x.cells.length), 1⟩) a.tmps (w.alloc (.cells u.cells t)) := by
  have hρ : ρ n = none := h.heap.dom n hn
  have hr : ∀ id r, ρ id = some r → upd ρ n ⟨some (w.heap.size, x.cells.length), 1⟩ id = some r := by
    intro id r hid
    have : id ≠ n := fun e => by subst e; rw [hρ] at hid; cases hid
    simp [upd, this, hid]
  obtain ⟨g1, g2⟩ := vr_cells hx hk
  refine h.new hn hlow (.box t x) u.cells t _ 1 ⟨w.heap.size, u.cells, t, (0, 0), by simp [upd], heap_new w _, ⟨by omega, rfl, by omega⟩, unfrozen_new _ _ _ _, fun o ho => absurd (h.fr.bnd _ _ ho) (Nat.lt_irrefl _), fun j c hc => ?_⟩
  have hlt : j < u.cells.size := by rw [← g1]; exact (List.getElem?_eq_some_iff.1 hc).1
  exact ⟨u.cells[j], Array.getElem?_eq_getElem hlt, (g2 j c _ hc (Array.getElem?_eq_getElem hlt)).ext (Ext.alloc h.fr.bnd _) hr⟩

/-- A new row. -/
theorem SR.newRow (h : SR E st S ρ a.tmps w) {n : Nat} (hn : aget st.hp n = none) (hlow : 1000 ≤ n) {sz : Nat} {es : List AV} (h0 : 0 < sz) (hs : ∀ e ∈ es, e.cells.length = sz) (cells : Array Value) (t : TypeId) (hl : es.length * sz ≤ cells.size)
    (hc : ∀ (i j : Nat) e c, es[i]? = some e → e.cells[j]? = some c → ∃ u, cells[i * sz + j]? = some u ∧ PR S w c u ∧ scalarV u = true) (mv : Bool) :
    SR E { st with hp := (n, .row sz es false ⟨mv, t⟩) :: st.hp } S (upd ρ n ⟨some (w.heap.size, sz), es.length⟩) a.tmps (w.alloc (.cells cells t)) := by
  refine h.new hn hlow (.row sz es false ⟨mv, t⟩) cells t _ _ (.inr ⟨w.heap.size, cells, t, (0, 0), h0, by simp [upd], hs, heap_new w _, ⟨hl, rfl, .inr rfl⟩, unfrozen_new _ _ _ _, fun i j e c he hj => ?_, fun o ho => absurd (h.fr.bnd _ _ ho) (Nat.lt_irrefl _)⟩)
  obtain ⟨u, hu, hp, hq⟩ := hc i j e c he hj
  exact ⟨u, hu, hp.ext (Ext.alloc h.fr.bnd _), (fun e => by cases e), hq⟩

theorem run_newVar {P : Program} {t : TypeId} {v : Value} : (newVar t v).run P w = .ok ⟨w.heap.size, 0, none⟩ (w.alloc (.cells v.cells t)) := rfl

theorem okCells_known {v : AV} (h : okCells v = true) : v ≠ .undef := by intro e; subst e; simp [okCells, AV.cells, okCell] at h

theorem okCells_scalar {x : AV} {u : Value} (hx : VR S ρ w x u) (hk : okCells x = true) : ∀ c ∈ u.cells.toList, scalarV c = true := by
  intro c hc
  obtain ⟨j, hj⟩ := List.getElem?_of_mem hc
  obtain ⟨g1, g2⟩ := vr_cells hx (okCells_known hk)
  have hlt : j < u.cells.size := by simpa using (List.getElem?_eq_some_iff.1 hj).1
  have hlt' : j < x.cells.length := by omega
  have hcx := List.getElem?_eq_getElem hlt'
  have := g2 j _ c hcx (by simpa using hj)
  refine vr_scalar this ?_
  unfold okCells at hk
  exact List.all_eq_true.1 hk _ (List.mem_of_getElem? hcx)

/-! ### Rows laid out -/
theorem fillRow {k : Nat} (ys : List AV) : ∀ (s : Nat) {cs r : List AV}, fillA (fun i => some (i * k, k)) cs (zipIx ys s) = some r → (∀ y ∈ ys, y.cells.length = k) ∧ r.length = cs.length ∧
    (∀ (i j : Nat) y c, ys[i]? = some y → y.cells[j]? = some c → r[(s + i) * k + j]? = some c) ∧ (∀ j, j < s * k → r[j]? = cs[j]?) := by
  induction ys with
  | nil => intro s cs r h; cases h; exact ⟨fun y hy => by simp at hy, rfl, fun i j y c hi => by simp at hi, fun _ _ => rfl⟩
  | cons y ys ih =>
    intro s cs r h
    simp only [zipIx, fillA, Option.bind_some] at h
    split at h
    · rename_i hc
      obtain ⟨c1, c2, c3⟩ := hc
      obtain ⟨e1, e2, e3, e4⟩ := ih (s + 1) h
      have hle : s * k + y.cells.length ≤ cs.length := by omega
      refine ⟨?_, by rw [e2, putA_length hle], ?_, ?_⟩
      · intro z hz
        rcases List.mem_cons.1 hz with rfl | hz
        · exact c1
        · exact e1 z hz
      · intro i j z c hi hj
        cases i with
        | zero =>
          simp at hi; subst hi
          have hjk : j < k := by rw [← c1]; exact (List.getElem?_eq_some_iff.1 hj).1
          rw [Nat.add_zero, e4 _ (by rw [Nat.add_mul]; omega), putA_get hle, if_pos (by omega)]
          rw [show s * k + j - s * k = j by omega]; exact hj
        | succ i =>
          have := e3 i j z c (by simpa using hi) hj
          rw [show s + (i + 1) = s + 1 + i by omega]; exact this
      · intro j hj
        rw [e4 j (by rw [Nat.add_mul]; omega), putA_get hle, if_neg (by omega)]
    · cases h

theorem fillRow_some {k : Nat} (ys : List AV) (hk : ∀ y ∈ ys, y.cells.length = k ∧ okCells y = true) : ∀ (s : Nat) (cs : List AV), (s + ys.length) * k ≤ cs.length → ∃ r, fillA (fun i => some (i * k, k)) cs (zipIx ys s) = some r := by
  induction ys with
  | nil => intro s cs _; exact ⟨cs, rfl⟩
  | cons y ys ih =>
    intro s cs hl
    simp only [List.length_cons] at hl
    obtain ⟨k1, k2⟩ := hk y (by simp)
    have hle : s * k + k ≤ cs.length := by
      have : (s + 1) * k ≤ (s + (ys.length + 1)) * k := Nat.mul_le_mul_right _ (by omega)
      rw [Nat.add_mul, Nat.one_mul] at this; omega
    simp only [zipIx, fillA, Option.bind_some]
    rw [if_pos ⟨k1, hle, by cases y <;> simp [AV.known]; simp [okCells, AV.cells, okCell] at k2⟩]
    exact ih (fun z hz => hk z (by simp [hz])) (s + 1) _ (by rw [putA_length (by omega)]; rw [show s + 1 + ys.length = s + (ys.length + 1) by omega]; exact hl)

/-! ### Where what is appended comes from -/
theorem src_ok {P : Program} {hp : Heap} (H : HR S ρ w hp) {k : Nat} {t : TypeId} {x : AV} {u : Value} {xs : List AV} (h0 : 0 < k) (hk : (∃ e', P.underlying t = some (.slice e')) ∨ P.underlying t = some .string) (hx : VR S ρ w x u) (h : srcEls hp k x = some xs) :
    ∃ news, Src P k t u xs.length news w ∧ (∀ e ∈ xs, e.cells.length = k) ∧ ∀ (i j : Nat) e c, xs[i]? = some e → e.cells[j]? = some c → ∃ z, news[i * k + j]? = some z ∧ PR S w c z ∧ scalarV z = true := by
  have ofEmpty : ∀ (ad : Option Addr) (c : Nat), Src P k t (.slice ad 0 c) 0 [] w := by
    intro ad c
    refine ⟨hk, fun _ => rfl, ?_, ?_, by simp, fun _ h => by cases h⟩
    · cases ad <;> simp [Builtin.firstCells, loadCells, loadCellsFrom]
    · cases ad <;> simp [Builtin.firstCells, loadCells, loadCellsFrom]
  -- cells that stand one behind the other
  have ofCells : ∀ (b off n cap : Nat) (es : List AV) (cellAt : Nat → Nat → Value), n = es.length → (∀ e ∈ es, e.cells.length = k) →
      (∀ (i j : Nat) e c, es[i]? = some e → e.cells[j]? = some c → w.cell? (at0 b (off + i * k + j)) = some (cellAt i j) ∧ PR S w c (cellAt i j) ∧ scalarV (cellAt i j) = true) →
      ∃ news, Src P k t (.slice (some (at0 b off)) n cap) n news w ∧ (∀ e ∈ es, e.cells.length = k) ∧ ∀ (i j : Nat) e c, es[i]? = some e → e.cells[j]? = some c → ∃ z, news[i * k + j]? = some z ∧ PR S w c z ∧ scalarV z = true := by
    intro b off n cap es cellAt hn hs hc
    have hdiv : ∀ m, m < es.length * k → m / k < es.length ∧ m % k < k := fun m hm => ⟨(Nat.div_lt_iff_lt_mul h0).2 hm, Nat.mod_lt _ h0⟩
    have hel : ∀ m, m < es.length * k → w.cell? (at0 b (off + m)) = some (cellAt (m / k) (m % k)) ∧ scalarV (cellAt (m / k) (m % k)) = true := by
      intro m hm
      obtain ⟨d1, d2⟩ := hdiv m hm
      have he := List.getElem?_eq_getElem d1
      have hl := hs _ (List.mem_of_getElem? he)
      have hj := List.getElem?_eq_getElem (l := es[m / k].cells) (i := m % k) (by omega)
      obtain ⟨c1, c2, c3⟩ := hc _ _ _ _ he hj
      have : off + m / k * k + m % k = off + m := by have := Nat.div_add_mod m k; rw [Nat.mul_comm] at this; omega
      rw [this] at c1
      exact ⟨c1, c3⟩
    refine ⟨(List.range (n * k)).map fun m => cellAt (m / k) (m % k), ?_, hs, ?_⟩
    · subst hn
      have hl := run_loadCells (P := P) (w := w) (b := b) (o := off) (n := es.length * k) (fun m => cellAt (m / k) (m % k)) (fun j hj => (hel j hj).1)
      have hld := run_loadCells (P := P) (w := w.drew) (b := b) (o := off) (n := es.length * k) (fun m => cellAt (m / k) (m % k)) (fun j hj => (hel j hj).1)
      refine ⟨hk, fun _ => rfl, hl, hld, by simp, fun u hu => ?_⟩
      obtain ⟨m, hm, rfl⟩ := List.mem_map.1 hu
      have := (hel m (List.mem_range.1 hm)).2
      generalize cellAt (m / k) (m % k) = z at this
      cases z <;> first | rfl | cases this
    · intro i j e c he hj
      obtain ⟨c1, c2, c3⟩ := hc i j e c he hj
      have hi : i < es.length := (List.getElem?_eq_some_iff.1 he).1
      have hjk : j < k := by rw [← hs e (List.mem_of_getElem? he)]; exact (List.getElem?_eq_some_iff.1 hj).1
      have hlt : i * k + j < n * k := by
        have : (i + 1) * k ≤ n * k := Nat.mul_le_mul_right _ (by omega)
        rw [Nat.add_mul, Nat.one_mul] at this; omega
      have e1 : (i * k + j) / k = i := by rw [Nat.mul_comm, Nat.mul_add_div h0, Nat.div_eq_of_lt hjk, Nat.add_zero]
      have e2 : (i * k + j) % k = j := by rw [Nat.mul_comm, Nat.mul_add_mod, Nat.mod_eq_of_lt hjk]
      refine ⟨cellAt i j, ?_, c2, c3⟩
      simp [hlt, e1, e2]
  unfold srcEls at h
  split at h
  · split at h
    · rename_i hsz; subst hsz; cases h
      cases hx with
      | pure hx => cases hx with
        | empty _ ad c => exact ⟨[], ofEmpty ad c, fun e he => by simp at he, fun i j e c he => by simp at he⟩
        | list _ b off cap _ f p0 hc hs hS hw hq hp => exact ofCells b off _ cap xs f rfl hs fun i j e c he hj => ⟨hw i j e c he hj, hp i j e c he hj, hq i j e c he hj⟩
    · split at h
      · rename_i hz; obtain ⟨rfl, rfl⟩ := hz; cases h
        cases hx with
        | pure hx => cases hx with
          | empty _ ad c => exact ⟨[], ofEmpty ad c, fun e he => by simp at he, fun i j e c he => by simp at he⟩
          | list => omega
      · cases h
  · cases h; cases vr_nils hx
    exact ⟨[], ofEmpty none 0, fun e he => by simp at he, fun i j e c he => by simp at he⟩
  · rename_i l
    split at h
    · rename_i hk1; subst hk1; cases h
      obtain ⟨s, rfl, rfl⟩ := vr_str hx
      refine ⟨byteCells s, ?_, ?_, ?_⟩
      · have := byteCells_length s
        refine ⟨hk, fun _ => ?_, ?_, ?_, ?_, ?_⟩
        · simp [Builtin.lenOf]
        · have := firstCells_string (P := P) s w; simpa using this
        · have := firstCells_string (P := P) s w.drew; simpa using this
        · rw [this]; simp
        · intro u hu; obtain ⟨_, _, rfl⟩ := List.mem_map.1 hu; rfl
      · intro e he; obtain ⟨b, _, rfl⟩ := List.mem_map.1 he; rfl
      · intro i j e c he hj
        simp only [List.getElem?_map] at he
        obtain ⟨b, hb, rfl⟩ := Option.map_eq_some_iff.1 he
        cases j with
        | zero =>
          simp [AV.cells] at hj; subst hj
          exact ⟨.int .u8 b.toNat, by simp [byteCells, hb], .int _ _, rfl⟩
        | succ j => simp [AV.cells] at hj
    · cases h
  · rename_i id
    rw [Option.bind_eq_some_iff] at h
    obtain ⟨ob, ho, h⟩ := h
    cases ob with
    | box T v => cases h
    | loop r l => cases h
    | map es clk => cases h
    | iter v0 a0 b0 c0 => cases h
    | dblk => cases h
    | row sz es fx mv =>
      simp only at h
      split at h
      · rename_i hsz; subst hsz; cases h
        cases hx with
        | pure hx => cases hx
        | own0 _ hρ => rw [row0_of H ho hρ]; exact ⟨[], ofEmpty none 0, fun e he => by simp at he, fun i j e c he => by simp at he⟩
        | own _ b s n cap hρ hc hr =>
          obtain ⟨rfl, rfl, _, hs, cells, t', fr, g2, _, _, g5, _⟩ := rowobj_of H ho hρ
          refine ofCells b 0 _ cap xs (fun i j => cells[i * s + j]?.getD default) rfl hs fun i j e c he hj => ?_
          obtain ⟨z, hz, hp, _, hq⟩ := g5 i j e c he hj
          refine ⟨by rw [cell_block g2, Nat.zero_add, hz]; rfl, ?_, ?_⟩
          · simp only [hz, Option.getD_some]; exact hp
          · simp only [hz, Option.getD_some]; exact hq
      · cases h
  · rename_i id o l
    rw [Option.bind_eq_some_iff] at h
    obtain ⟨ob, ho, h⟩ := h
    cases ob with
    | box T v => cases h
    | loop r l => cases h
    | map es clk => cases h
    | iter v0 a0 b0 c0 => cases h
    | dblk => cases h
    | row sz es fx mv =>
      simp only at h
      split at h
      · rename_i hc0
        obtain ⟨hsz, hol⟩ := hc0
        subst hsz; cases h
        have hlen : ((es.drop o).take l).length = l := by simp; omega
        cases hx with
        | pure hx => cases hx
        | row0 => rw [List.take_zero]; exact ⟨[], ofEmpty _ _, fun e he => by simp at he, fun i j e c he => by simp at he⟩
        | row _ _ _ b s n cap hρ hl =>
          obtain ⟨rfl, rfl, _, hs, cells, t', fr, g2, _, _, g5, _⟩ := rowobj_of H ho hρ
          rw [hlen]
          refine ofCells b (o * s) l cap _ (fun i j => cells[(o + i) * s + j]?.getD default) hlen.symm (fun e he => hs e (List.mem_of_mem_drop (List.mem_of_mem_take he))) fun i j e c he hj => ?_
          have he' : es[o + i]? = some e := by
            rw [List.getElem?_take] at he
            split at he
            · rwa [List.getElem?_drop] at he
            · cases he
          obtain ⟨z, hz, hp, _, hq⟩ := g5 (o + i) j e c he' hj
          refine ⟨by rw [cell_block g2, ← Nat.add_mul, hz]; rfl, ?_, ?_⟩
          · simp only [hz, Option.getD_some]; exact hp
          · simp only [hz, Option.getD_some]; exact hq
      · cases h
  · cases h

end Go.Proofs.YteibklnligmanaaDoor.Abs


/- What an operation that makes, or writes, memory comes to, the machine's comes to: all of them but calls. -/
namespace Go.Proofs.YteibklnligmanaaDoor.Abs
open Go Go.RowKit
set_option linter.unusedSimpArgs false
set_option linter.unusedVariables false

variable {G : Cfg} {S : Stab} {ρ : Rho} {w : World} {E : Env} {st : ASt} {a : Act}

theorem kill_row (n sz : Nat) (es : List AV) (fx : Bool) (mv : RM) : AObj.kill n (.row sz es fx mv) = .row sz es fx mv := rfl

theorem zeroFits_ok {P : Program} {e : TypeId} (h : zeroFits P e = true) : ∃ z, (P.info? e).bind (·.zero) = some z ∧ z.cells.size = P.cellsOf e := by
  unfold zeroFits at h
  split at h
  · rename_i z hz
    simp only [Bool.and_eq_true, beq_iff_eq] at h
    have := (vr_cells (vr_ofValue (S := fun _ _ => False) (ρ := fun _ => none) (w := default) z) (by intro e; rw [e] at h; simp [AV.known] at h)).1
    exact ⟨z, hz, by omega⟩
  · cases h

/-- The kit's cells written one behind the other are these. -/
theorem setCells_kit (b : Nat) (l : List Value) : ∀ (w : World) (o : Nat), w.setCells b o l = setCells w b o l := by
  induction l with
  | nil => intro w o; rfl
  | cons v l ih => intro w o; simp only [World.setCells, setCells, at0]; exact ih _ _

/-- A row's object, its content laid out anew in a new block. -/
theorem SR.growNew {t : TypeId} (h : SR E st S ρ a.tmps w) {id sz : Nat} {es : List AV} {fx : Bool} {o0 : AObj} (ho : aget st.hp id = some o0) (h0 : 0 < sz) (hl : ∀ x ∈ es, x.cells.length = sz) (cells : Array Value) (hsz : es.length * sz ≤ cells.size)
    (hc : ∀ (i j : Nat) e c, es[i]? = some e → e.cells[j]? = some c → ∃ q, cells[i * sz + j]? = some q ∧ PR S w c q ∧ scalarV q = true) :
    ∃ S', SR E { sl := (st.killn id).sl, hp := hput id (.row sz es fx ⟨true, t⟩) (st.killn id).hp } S' (upd ρ id ⟨some (w.heap.size, sz), es.length⟩) a.tmps (w.alloc (.cells cells t)) := by
  let S' : Stab := fun b o => S b o ∨ (fx = true ∧ b = w.heap.size ∧ o < es.length * sz)
  have hx : Ext S w S' (w.alloc (.cells cells t)) := ⟨fun _ _ x => .inl x, (Ext.alloc h.fr.bnd _).cell, (Ext.alloc h.fr.bnd _).shape, (Ext.alloc h.fr.bnd _).maps⟩
  have hs : Step E S w S' (w.alloc (.cells cells t)) := by
    have k := Step.alloc h.fr (.cells cells t)
    refine ⟨hx, k.size, k.keep, k.dfr, ?_, ?_, rfl, rfl, rfl⟩
    · rintro b o (x | ⟨_, x, _⟩)
      · exact .inl x
      · exact .inr (.inr (by rw [x]; exact h.fr.size))
    · rintro b o (x | ⟨_, x, _⟩)
      · exact k.bnd b o x
      · rw [x]; simp
  refine ⟨S', h.regrow ho hs ?_ ?_ (.inr ⟨w.heap.size, cells, t, (0, 0), h0, by simp [upd], hl, heap_new w _, ⟨hsz, rfl, .inr rfl⟩, unfrozen_new _ _ _ _, ?_, ?_⟩) rfl⟩
  · intro m b s k _ hb
    have hlt := h.heap.lt hb
    refine ⟨Below.heap_alloc w _ b hlt, ?_⟩
    rintro i (x | ⟨_, x, _⟩)
    · exact x
    · omega
  · intro b s k e
    cases e
    exact ⟨.inr h.fr.size, fun m s' k' _ hb => absurd (h.heap.lt hb) (Nat.lt_irrefl _)⟩
  · intro i j e c he hj
    obtain ⟨q, hq, hp, hsc⟩ := hc i j e c he hj
    refine ⟨q, hq, hp.ext hx, fun hf => .inr ⟨hf, rfl, ?_⟩, hsc⟩
    have hi : i < es.length := (List.getElem?_eq_some_iff.1 he).1
    have hjk : j < sz := by rw [← hl e (List.mem_of_getElem? he)]; exact (List.getElem?_eq_some_iff.1 hj).1
    have : (i + 1) * sz ≤ es.length * sz := Nat.mul_le_mul_right _ hi
    rw [Nat.add_mul, Nat.one_mul] at this; omega
  · rintro o (x | ⟨hf, _, x⟩)
    · exact absurd (h.fr.bnd _ _ x) (Nat.lt_irrefl _)
    · exact ⟨hf, x⟩

/-- A row's object, more laid behind it in its own block. -/
theorem SR.growIn (h : SR E st S ρ a.tmps w) {id sz : Nat} {es xs : List AV} {fx : Bool} {mv : RM} (ho : aget st.hp id = some (.row sz es fx mv)) {b : Nat} (hρ : ρ id = some ⟨some (b, sz), es.length⟩)
    {cells : Array Value} {t : TypeId} {fr : Nat × Nat} (hb : w.heap[b]? = some (.cells cells t fr)) {news : List Value} (hnl : news.length = xs.length * sz) (hroom : (es.length + xs.length) * sz ≤ cells.size)
    (hxl : ∀ x ∈ xs, x.cells.length = sz) (hx : ∀ (i j : Nat) e c, xs[i]? = some e → e.cells[j]? = some c → ∃ z, news[i * sz + j]? = some z ∧ PR S w c z ∧ scalarV z = true) :
    ∃ S', SR E { sl := (st.killn id).sl, hp := hput id (.row sz (es ++ xs) fx ⟨true, t⟩) (st.killn id).hp } S' (upd ρ id ⟨some (b, sz), (es ++ xs).length⟩) a.tmps (setCells w b (es.length * sz) news) ∧
      ∃ c' , (setCells w b (es.length * sz) news).heap[b]? = some (.cells c' t fr) ∧ c'.size = cells.size := by
  obtain ⟨_, _, h0, hl, cells', t', fr', g2, g3, g4, g5, g6⟩ := rowobj_of h.heap ho hρ
  rw [hb] at g2; cases g2
  let S' : Stab := fun b' o => S b' o ∨ (fx = true ∧ b' = b ∧ o < (es ++ xs).length * sz)
  rw [Nat.add_mul] at hroom
  obtain ⟨c', k1, k2, k3, k4⟩ := setCells_block b news w (es.length * sz) cells t fr hb (by omega)
  have hstab : ∀ b' o, S b' o → (setCells w b (es.length * sz) news).cell? (at0 b' o) = w.cell? (at0 b' o) := by
    intro b' o hS
    by_cases e : b' = b
    · subst e
      rw [cell_block k1, cell_block hb]
      exact k3 o (.inl (g6 o hS).2)
    · exact cell_same (setCells_other b news w _ b' e) o
  have hxt : Ext S w S' (setCells w b (es.length * sz) news) := by
    refine ⟨fun _ _ x => .inl x, hstab, fun b' c t' fr' hb' => ?_, fun b' i _ _ hi hb' => ?_⟩
    · by_cases e : b' = b
      · subst e; rw [hb] at hb'; cases hb'; exact ⟨c', _, k1, k2⟩
      · exact ⟨c, fr', by rw [setCells_other b news w _ b' e]; exact hb', rfl⟩
    · have : b' ≠ b := fun e => by subst e; rw [hb] at hb'; cases hb'
      rw [setCells_other b news w _ b' this]; exact hb'
  have hmine := h.mine id b sz _ hρ
  have hs : Step E S w S' (setCells w b (es.length * sz) news) := by
    refine ⟨hxt, by rw [setCells_size]; exact Nat.le_refl _, fun b' hb' hF => ?_, fun b' hb' => ?_, ?_, ?_, (setCells_outer b news w _).1, (setCells_outer b news w _).2.1, (setCells_outer b news w _).2.2⟩
    · refine setCells_other b news w _ b' fun e => ?_
      subst e
      rcases hmine with hh | hh
      · exact hF hh
      · omega
    · have hne : b' ≠ b := fun e => by subst e; rw [hb] at hb'; cases hb'
      rw [setCells_other b news w _ b' hne]; exact hb'
    · rintro b' o (x | ⟨_, rfl, _⟩)
      · exact .inl x
      · exact .inr hmine
    · rintro b' o (x | ⟨_, rfl, _⟩)
      · rw [setCells_size]; exact h.fr.bnd b' o x
      · rw [setCells_size]; exact lt_of_block hb
  refine ⟨S', h.regrow ho hs ?_ ?_ (.inr ⟨b, c', t, fr, h0, by simp [upd], ?_, k1, ?_, ?_, ?_, ?_⟩) rfl, c', k1, k2⟩
  · intro m b' s k hm hb'
    have hne : b' ≠ b := fun e => by subst e; exact hm (h.heap.inj _ _ _ _ _ _ _ hb' hρ)
    refine ⟨setCells_other b news w _ b' hne, ?_⟩
    rintro i (x | ⟨_, x, _⟩)
    · exact x
    · exact absurd x hne
  · intro b' s k e
    cases e
    exact ⟨hmine, fun m s' k' hm hb' => hm (h.heap.inj _ _ _ _ _ _ _ hb' hρ)⟩
  · intro e he
    rcases List.mem_append.1 he with he | he
    · exact hl e he
    · exact hxl e he
  · exact ⟨by rw [List.length_append, Nat.add_mul]; omega, rfl, g3.2.2⟩
  · intro o ho'
    rw [frozen_block hb k1]; exact g4 o (by omega)
  · intro i j e c he hj
    by_cases hi : i < es.length
    · rw [List.getElem?_append_left hi] at he
      obtain ⟨u, hu, hp, hf, hq⟩ := g5 i j e c he hj
      have hjk : j < sz := by rw [← hl e (List.mem_of_getElem? he)]; exact (List.getElem?_eq_some_iff.1 hj).1
      have : (i + 1) * sz ≤ es.length * sz := Nat.mul_le_mul_right _ hi
      rw [Nat.add_mul, Nat.one_mul] at this
      exact ⟨u, by rw [k3 _ (.inl (by omega))]; exact hu, hp.ext hxt, fun hfx => .inl (hf hfx), hq⟩
    · rw [List.getElem?_append_right (by omega)] at he
      obtain ⟨q, hq, hp, hsc⟩ := hx (i - es.length) j e c he hj
      have hlt : (i - es.length) * sz + j < news.length := (List.getElem?_eq_some_iff.1 hq).1
      have e1 : es.length * sz + ((i - es.length) * sz + j) = i * sz + j := by rw [← Nat.add_assoc, ← Nat.add_mul]; congr 2; omega
      have := k4 _ hlt
      rw [e1] at this
      refine ⟨q, this.trans hq, hp.ext hxt, fun hfx => .inr ⟨hfx, rfl, ?_⟩, hsc⟩
      rw [List.length_append, Nat.add_mul]; omega
  · rintro o (x | ⟨hfx, _, x⟩)
    · have := g6 o x
      refine ⟨this.1, ?_⟩
      rw [List.length_append, Nat.add_mul]; omega
    · exact ⟨hfx, x⟩

/-- 'append' onto a row of the call's own. -/
theorem append_own_ok {P : Program} (h : SR E st S ρ a.tmps w) {id sz : Nat} {es xs : List AV} {fx : Bool} {mv : RM} (ho : aget st.hp id = some (.row sz es fx mv)) {t tx ty e : TypeId} {u ux : Value} (hu : VR S ρ w (.own id) u)
    (ht : P.underlying t = some (.slice e)) (hsz : sz = P.cellsOf e) (h0 : 0 < sz) (hb : ((P.info? e).map (·.bytes)).getD 4097 ≤ 4096) (hz : zeroFits P e = true) (hL : es.length + xs.length ≤ LIM) (hmt : mv.t = e)
    {news : List Value} (hs : Src P sz tx ux xs.length news w) (hxl : ∀ x ∈ xs, x.cells.length = sz)
    (hx : ∀ (i j : Nat) e c, xs[i]? = some e → e.cells[j]? = some c → ∃ z, news[i * sz + j]? = some z ∧ PR S w c z ∧ scalarV z = true) :
    ∃ v w' S' ρ', (Builtin.append_ #[t, tx] ty #[u, ux]).run P w = .ok v w' ∧ SR E { sl := (st.killn id).sl, hp := hput id (.row sz (es ++ xs) fx ⟨true, e⟩) (st.killn id).hp } S' ρ' a.tmps w' ∧ VR S' ρ' w' (.own id) v := by
  obtain ⟨ie, hie, hies⟩ := info_of_cells (P := P) (t := e) (by omega)
  obtain ⟨z, hz, hzs⟩ := zeroFits_ok hz
  have hz' : ie.zero = some z := by rw [hie] at hz; simpa using hz
  have hby : ie.bytes ≤ 4096 := by rw [hie] at hb; simpa using hb
  have hs' : Src P ie.size tx ux xs.length news w := by rw [hies, ← hsz]; exact hs
  unfold LIM at hL
  have fits : ∀ (n cap : Nat), cap < n → n ≤ 4294967296 → Builtin.nextslicecap n cap * ie.bytes ≤ 281474976710656 := by
    intro n cap hc hn
    have h1 := nextslicecap_le_wide (need := n) (old := cap) hc
    calc Builtin.nextslicecap n cap * ie.bytes ≤ (n + n / 4 + 192) * 4096 := Nat.mul_le_mul h1 hby
      _ ≤ 281474976710656 := by omega
  have hnl : news.length = xs.length * sz := hs.newsLen
  -- what is laid out anew holds both
  have grow : ∀ (n cap0 : Nat) (base : Option Addr) (olds : List Value), n = es.length → olds.length = n * sz → cap0 < n + xs.length → (∀ x ∈ es, x.cells.length = sz) →
      (Builtin.firstCells ie.size n (.slice base n cap0)).run P w.drew = .ok olds.toArray w.drew →
      (∀ (i j : Nat) e c, es[i]? = some e → e.cells[j]? = some c → ∃ q, olds[i * sz + j]? = some q ∧ PR S w c q ∧ scalarV q = true) →
      ∃ v w' S' ρ', (Builtin.append_ #[t, tx] ty #[.slice base n cap0, ux]).run P w = .ok v w' ∧ SR E { sl := (st.killn id).sl, hp := hput id (.row sz (es ++ xs) fx ⟨true, e⟩) (st.killn id).hp } S' ρ' a.tmps w' ∧ VR S' ρ' w' (.own id) v := by
    intro n cap0 base olds hn hol hcap hel hold hc
    have hrun := run_append_grow_src (P := P) w t tx ty e ie z ht hie hz' base n cap0 olds hold ux xs.length news hs' hcap (by omega) (fits _ _ hcap (by omega))
    have hge := grownCap_ge w (n + xs.length) cap0 e
    generalize hcp : grownCap w (n + xs.length) cap0 e = cap at hrun hge
    have hsize : ((olds ++ news).toArray ++ Builtin.zeroCells z.cells (cap - (n + xs.length))).size = cap * sz := by
      simp only [Array.size_append, List.size_toArray, List.length_append, size_zeroCells, hzs, hol, hnl, ← hsz]
      rw [← Nat.add_mul, ← Nat.add_mul]; congr 1; omega
    have hlen : (es ++ xs).length = n + xs.length := by rw [List.length_append, hn]
    obtain ⟨S', hS⟩ := h.drew.growNew (fx := fx) (t := e) ho (sz := sz) (es := es ++ xs) h0 (fun x hx' => (List.mem_append.1 hx').elim (hel x) (hxl x)) ((olds ++ news).toArray ++ Builtin.zeroCells z.cells (cap - (n + xs.length)))
      (by rw [hsize, hlen]; exact Nat.mul_le_mul_right _ hge) (fun i j e c he hj => by
        have get : ∀ (m : Nat) (q : Value), (olds ++ news)[m]? = some q → ((olds ++ news).toArray ++ Builtin.zeroCells z.cells (cap - (n + xs.length)))[m]? = some q := by
          intro m q hq
          have : m < (olds ++ news).length := (List.getElem?_eq_some_iff.1 hq).1
          rw [Array.getElem?_append_left (by simpa using this)]
          simpa using hq
        by_cases hi : i < es.length
        · rw [List.getElem?_append_left hi] at he
          obtain ⟨q, hq, hp, hsc⟩ := hc i j e c he hj
          exact ⟨q, get _ _ (by rw [List.getElem?_append_left (List.getElem?_eq_some_iff.1 hq).1]; exact hq), hp.ext (Ext.drew S w), hsc⟩
        · rw [List.getElem?_append_right (by omega)] at he
          obtain ⟨q, hq, hp, hsc⟩ := hx (i - es.length) j e c he hj
          refine ⟨q, get _ _ ?_, hp.ext (Ext.drew S w), hsc⟩
          have e1 : i * sz + j - olds.length = (i - es.length) * sz + j := by
            rw [hol, hn]
            have : es.length * sz ≤ i * sz := Nat.mul_le_mul_right _ (by omega)
            rw [Nat.sub_mul]; omega
          have : es.length * sz ≤ i * sz := Nat.mul_le_mul_right _ (by omega)
          rw [List.getElem?_append_right (by rw [hol, hn]; omega), e1]; exact hq)
    refine ⟨_, _, S', _, hrun, hS, ?_⟩
    rw [← hlen]
    refine .own id w.heap.size sz _ cap (by simp [upd]) (by rw [hlen]; exact hge) ⟨_, e, (0, 0), heap_new w.drew _, by rw [hlen, hsize]; exact Nat.le_refl _⟩
  cases hu with
  | pure hp => cases hp
  | own0 _ hρ =>
    have hes := row0_of h.heap ho hρ; subst hes
    by_cases hxs : xs = []
    · subst hxs
      refine ⟨.slice none 0 0, w, S, upd ρ id ⟨none, 0⟩, ?_, ?_, .own0 id (by simp [upd])⟩
      · rcases hs.kind with ⟨e', hk⟩ | hk <;> (have hn : news = [] := List.length_eq_zero_iff.1 (by simpa using hnl); have hcl := hs'.cells; have hln := hs.len w; subst hn; simp only [List.length_nil] at hcl hln; simp [Builtin.append_, run_underlying ht, run_underlying hk, sizeOf, typeInfo, hie, hln, hcl])
      · refine h.regrow ho ⟨Ext.refl S w, Nat.le_refl _, fun _ _ _ => rfl, fun _ h => h, fun _ _ x => .inl x, h.fr.bnd, rfl, rfl, rfl⟩ (fun m b s k _ hb => ⟨rfl, fun _ x => x⟩) (fun b s k e => by cases e) (.inl ⟨rfl, by simp [upd]⟩) rfl
    · have hpos : 0 < xs.length := List.length_pos_iff.2 hxs
      exact grow 0 0 none [] rfl (by simp) (by omega) (fun x hx' => by simp at hx') (by simp [Builtin.firstCells]) (fun i j e c he => by simp at he)
  | own _ b s n cap hρ hcap hr =>
    obtain ⟨rfl, rfl, _, hel, cells, t', fr, g2, g3, g4, g5, g6⟩ := rowobj_of h.heap ho hρ
    obtain ⟨c0, t0, fr0, r1, r2⟩ := hr
    rw [g2] at r1; cases r1
    have old : ∀ (i j : Nat) e c, es[i]? = some e → e.cells[j]? = some c → w.cell? (at0 b (i * s + j)) = some (cells[i * s + j]?.getD default) := by
      intro i j e c he hj
      obtain ⟨u, hu, _⟩ := g5 i j e c he hj
      rw [cell_block g2, hu]; rfl
    by_cases hfit : es.length + xs.length ≤ cap
    · have hroom : (es.length + xs.length) * s ≤ cells.size := Nat.le_trans (Nat.mul_le_mul_right _ hfit) r2
      have hrun := run_append_room_src (P := P) w t tx ty e ie ht hie b 0 es.length cap ux xs.length news hs' hfit
        (fun j hj => by rw [hies, ← hsz, Nat.zero_add]; have := cell_block (w := w) g2 (es.length * s + j); simp only [at0] at this; rw [this]; rw [Nat.add_mul] at hroom; simp; omega)
        (fun j hj => by rw [hies, ← hsz, Nat.zero_add]; rw [Nat.add_mul] at hroom; exact g4 _ (by omega))
      rw [setCells_kit, hies, ← hsz, Nat.zero_add] at hrun
      obtain ⟨S', hS, c', k1, k2⟩ := h.growIn ho hρ g2 hnl hroom hxl hx
      rw [show t' = e from g3.2.1.trans hmt] at hS
      refine ⟨_, _, S', _, hrun, hS, ?_⟩
      rw [show es.length + xs.length = (es ++ xs).length by simp]
      exact .own id b s _ cap (by simp [upd]) (by simpa using hfit) ⟨c', t', fr, k1, by rw [k2]; exact r2⟩
    · have hdiv : ∀ m, m < es.length * s → w.cell? (at0 b (0 + m)) = some (cells[m]?.getD default) := by
        intro m hm
        have d1 : m / s < es.length := (Nat.div_lt_iff_lt_mul h0).2 hm
        have d2 : m % s < s := Nat.mod_lt _ h0
        have he := List.getElem?_eq_getElem d1
        have hl := hel _ (List.mem_of_getElem? he)
        have hj := List.getElem?_eq_getElem (l := es[m / s].cells) (i := m % s) (by omega)
        have := old _ _ _ _ he hj
        have e1 : m / s * s + m % s = m := by have := Nat.div_add_mod m s; rw [Nat.mul_comm] at this; omega
        rw [e1] at this
        rw [Nat.zero_add]; exact this
      refine grow es.length cap (some (at0 b 0)) ((List.range (es.length * s)).map fun m => cells[m]?.getD default) rfl (by simp) (by omega) hel ?_ ?_
      · rw [hies, ← hsz]
        exact run_loadCells (w := w.drew) (fun m => cells[m]?.getD default) (fun j hj => hdiv j hj)
      · intro i j e c he hj
        obtain ⟨u, hu, hp, _, hq⟩ := g5 i j e c he hj
        have hi : i < es.length := (List.getElem?_eq_some_iff.1 he).1
        have hjk : j < s := by rw [← hel e (List.mem_of_getElem? he)]; exact (List.getElem?_eq_some_iff.1 hj).1
        have hlt : i * s + j < es.length * s := by
          have : (i + 1) * s ≤ es.length * s := Nat.mul_le_mul_right _ hi
          rw [Nat.add_mul, Nat.one_mul] at this; omega
        exact ⟨u, by simp [hlt, hu], hp, hq⟩

end Go.Proofs.YteibklnligmanaaDoor.Abs

