/- What the row of this claim leans on: own texts, merged. -/
import Derived.Lib.SmallJoins
import Derived.Deep.Slices
import Derived.ChangeArms
import Derived.DataReads
import Derived.Test.YteibklnligmanaaDoorRows
import Derived.WalkKit
import Derived.ProofKit
import Derived.OpenShut
import Derived.ShutString
import Derived.ChangeOld
import Derived.Below
import Derived.Carry
import Derived.Stop.LaidErr
import Derived.Lib.LaidTab
import Derived.LaidHandle
import Derived.LaidMore
import Derived.Stop.Joined
import Derived.Test.YteibklnligmanaaDoorPkX64

/- The wide mode: calls, loops. -/
namespace Go.Proofs.YteibklnligmanaaDoor
open Go Abs
set_option linter.unusedSimpArgs false
set_option linter.unusedVariables false
/-- What is gone through in the wide mode. -/
def wideT : List Nat := [3, 4, 5, 6, 7, 9, 12, 14, 15, 20, 25, 26, 33, 45, 49, 57, 62, 63, 67, 71, 73, 75, 76, 77, 80, 88, 89, 90]
noncomputable def primX : FuncId → Option CallFn := fun g => if g = 72 then some repP else if wideT.contains g then none else some cl
theorem primXOK : PrimSound GW primX := by
  intro g p args hp r hE h1 h2
  unfold primX at h1
  split at h1
  · rename_i hg; subst hg; cases h1
    exact repP_ok repRun h2
  split at h1
  · cases h1
  · cases h1
    have hg := EW_lt g hE
    exact (callL_ok GS primOK (g := g) (Nat.lt_trans hg (by decide)) hE h2).any
noncomputable abbrev clW : CallFn := callL GW primX
noncomputable abbrev lpW : LoopFn := loopL GW primX
theorem fnW {g : FuncId} {fn : Func} {c : Code} {args : List AV} {hp : Heap} {r : ARes × Heap} (hf : Tryd.prog.funcs[g]? = some fn) (hb : fn.body = some c) (hd : G.dfr g = false) (hg : g < RB) (hp0 : primX g = none)
    (h : endX GW g (hp.map (·.1)) fn.results.toList (codeX GW clW lpW g c { sl := zipIx args 0, hp }) = some r) : clW g args hp = some r :=
  call_intro hg hp0 (by rw [runFn_body (G := GW) (show GW.dfr g = false from hd) hf hb]; exact h)
/-- What was gone through without the shelf, lifted. -/
theorem liftW {g : FuncId} {args : List AV} {hp : Heap} {r : ARes × Heap} (hg : g < RB) (hp0 : primX g = some cl) (h : cl g args hp = some r) : clW g args hp = some r := call_prim hg hp0 h
theorem callVW {d : Option Nat} {g : FuncId} {first caps args all : List AV} {v : AV} {st : ASt} (hE : G.E g = true) (hg : g < RB) (hx : G.ext g = none) (ha : first ++ args ++ caps = all) (hn : AV.namesL all = []) (hc : clW g all [] = some (.ret v, [])) (hv : v.names = []) :
    callV GW clW d (.fn (.func g) first caps) args st = some (.val v st) := callV_ret hE hg hx ha hn hc hv
theorem rep_eq {s : List UInt8} {n : Nat} (hn : n ≤ 1000000) (hs : s.length ≤ 1000000) : clW 72 [.str s, .int .i64 n] [] = some (.ret (.str (repS s n)), []) := by
  refine call_prim (p := repP) (by decide) rfl ?_
  have h : (0 : Int) ≤ n ∧ (n : Int) ≤ 1000000 ∧ s.length ≤ 1000000 := by omega
  simp only [repP, if_pos h, Int.toNat_natCast]
theorem rep_call {s : List UInt8} {n : Nat} (hn : n ≤ 1000000) (hs : s.length ≤ 1000000) {d : Option Nat} {st : ASt} : callV GW clW d (.fn (.func 72) [] []) [.str s, .int .i64 n] st = some (.val (.str (repS s n)) st) :=
  callVW E72 (by decide) ext72 rfl rfl (rep_eq hn hs) rfl
theorem repS_length {s : List UInt8} : ∀ {n}, (repS s n).length = n * s.length
  | 0 => by simp [repS]
  | n + 1 => by simp [repS, repS_length (s := s) (n := n), Nat.succ_mul]; omega

/-- A round, and the loop's head behind it. -/
noncomputable def rXW (f : FuncId) (c : Code) : Option (AX × ASt) → Option (AX × ASt)
  | some (.normal, s) => (canon GW f c s).map fun s => (.normal, s)
  | r => r
@[simp] theorem rXW_n {f c s} : rXW f c (some (.normal, s)) = (canon GW f c s).map fun s => (.normal, s) := rfl
@[simp] theorem rXW_e {f c i s} : rXW f c (some (.exit i, s)) = some (.exit i, s) := rfl
@[simp] theorem rXW_r {f c s} : rXW f c (some (.ret, s)) = some (.ret, s) := rfl
@[simp] theorem rXW_p {f c v s} : rXW f c (some (.pan v, s)) = some (.pan v, s) := rfl
theorem mapHead_noW {f : FuncId} {c : Code} {q : Nat × Nat × Nat × Nat × Code × Code} (h : mapHead c = some q) (st : ASt) : codeX GW clW lpW f c st = none := by
  have reg : ∀ {id ops cnd rest q}, mapRegion id ops cnd rest = some q → codeX GW clW lpW f (.region id ops false) st = none := by
    intro id ops cnd rest q h
    unfold mapRegion at h
    split at h
    · rename_i he
      obtain ⟨l⟩ := ops
      simp only at he
      subst he
      have ho : ∀ (P : Program) (ev : Operand → AV) (hp : Heap) (o : Operand), opv P ev hp (.next o false) = none := fun _ _ _ _ => rfl
      simp [aopsL, guardA, aop, calledA, invokedA, aopB, ho]
      try (cases GW.live f id <;> rfl)
    · cases h
  unfold mapHead at h
  split at h
  · simp only [cx_seq, reg h]; rfl
  · simp only [cx_seq, reg h]; rfl
  · cases h
theorem loop_noW {f : FuncId} {c : Code} {st s : ASt} {x : AX} (h : rXW f c (codeX GW clW lpW f c st) = some (x, s)) : mapHead c = none := by
  cases hm : mapHead c with
  | none => rfl
  | some q => rw [mapHead_noW hm] at h; cases h
theorem loop_nextW {f : FuncId} {c : Code} {st st' : ASt} {r : AX × ASt} (h : rXW f c (codeX GW clW lpW f c st) = some (.normal, st')) (hr : lpW f c st' = some r) : lpW f c st = some r := by
  refine loop_intro ?_
  unfold loopStep
  rw [loop_noW h]
  show loopStep0 GW _ _ f c st = _
  unfold loopStep0
  cases hx : codeX GW clW lpW f c st with
  | none => rw [hx] at h; cases h
  | some y =>
    obtain ⟨x, s⟩ := y
    rw [hx] at h
    cases x with
    | normal =>
      obtain ⟨s2, h1, h2⟩ := Option.map_eq_some_iff.1 h
      cases h2
      simp only [Option.bind_some, h1]; exact hr
    | _ => cases h
theorem loop_outW {f : FuncId} {c : Code} {st s : ASt} {x : AX} (h : rXW f c (codeX GW clW lpW f c st) = some (x, s)) (hx : x ≠ .normal) : lpW f c st = some (x, s) := by
  refine loop_intro ?_
  unfold loopStep
  rw [loop_noW h]
  show loopStep0 GW _ _ f c st = _
  unfold loopStep0
  cases hy : codeX GW clW lpW f c st with
  | none => rw [hy] at h; cases h
  | some y =>
    obtain ⟨x', s'⟩ := y
    rw [hy] at h
    cases x' with
    | normal =>
      obtain ⟨s2, h1, h2⟩ := Option.map_eq_some_iff.1 h
      cases h2; exact absurd rfl hx
    | _ => exact h
end Go.Proofs.YteibklnligmanaaDoor


/- Numbers of 32 bits as four bytes; Pad; New; Clone. -/
namespace Go.Proofs.YteibklnligmanaaDoor
open Go Abs
set_option linter.unusedSimpArgs false
set_option linter.unusedVariables false
def bigB4 (n : Int) : List UInt8 := [lowB n 3, lowB n 2, lowB n 1, lowB n 0]
attribute [local simp] canonK canonAll canonSlot canonCell canonBox ownStep restrictTo pureCells pureRows reachL AObj.names List.range_succ appendA
def st124q (n : Int) (es : List UInt8) (i : Nat) (mv : Bool) : ASt := ⟨[(0, .int .u64 n), (5, .own 5005), (11, .int .i64 4), (12, .int .i64 i)], [(5005, wRow es mv)]⟩
set_option maxHeartbeats 8000000 in
theorem big4_round (n : Int) (es : List UInt8) (i : Nat) (hi : i < 4) (mv : Bool) (hes : es.length ≤ 8) :
    rX 27 (lc Tryd.f27 0) (codeX G cl lp 27 (lc Tryd.f27 0) (st124q n es i mv)) = some (.normal, st124q n (es ++ [lowB n i]) (i + 1) true) := by
  have hw1 : IntKind.i64.wrap ((i : Int) + 1) = ((i + 1 : Nat) : Int) := by rw [i64_wrap (by omega) (by omega)]; omega
  have hw2 : IntKind.i64.wrap (8 * (i : Int)) = ((8 * i : Nat) : Int) := by rw [i64_wrap (by omega) (by omega)]; omega
  have hlt : (i : Int) < 4 := by omega
  have hm : min (8 * i) 64 = 8 * i := by omega
  have hl := lowV (n := n) (i := i)
  have hL : es.length + 1 ≤ LIM := by unfold LIM; omega
  have h1 : ¬ (8 * (i : Int) < 0) := by omega
  have h2 : (8 * (i : Int)).toNat = 8 * i := by omega
  have h3 : IntKind.u64.bits = 64 := rfl
  simp [lc, loopsOf, Tryd.f27, st124q, wRow, hlt, hw1, hw2, h1, h2, h3, hm, hl, hL, bysL_snoc]
  done
set_option maxHeartbeats 8000000 in
theorem big4_exit (n : Int) (es : List UInt8) (mv : Bool) : rX 27 (lc Tryd.f27 0) (codeX G cl lp 27 (lc Tryd.f27 0) (st124q n es 4 mv)) = some (.exit 0, ⟨[(0, .int .u64 n), (5, .own 5005), (11, .int .i64 4), (12, .int .i64 4), (13, .bool false)], [(5005, wRow es mv)]⟩) := by
  simp [lc, loopsOf, Tryd.f27, st124q, wRow]
  done
theorem big4_loop (n : Int) : ∀ (c i : Nat) (mv : Bool), i + c = 4 → ∃ mv', lp 27 (lc Tryd.f27 0) (st124q n (lows n i) i mv) = some (.exit 0, ⟨[(0, .int .u64 n), (5, .own 5005), (11, .int .i64 4), (12, .int .i64 4), (13, .bool false)], [(5005, wRow (lows n 4) mv')]⟩) := by
  intro c
  induction c with
  | zero => intro i mv hi; obtain rfl : i = 4 := by omega
            exact ⟨mv, loop_out (big4_exit n _ mv) (by simp)⟩
  | succ c ih =>
    intro i mv hi
    obtain ⟨mv', h⟩ := ih (i + 1) true (by omega)
    have hr := big4_round n (lows n i) i (by omega) mv (by simp [lows]; omega)
    have e : lows n i ++ [lowB n i] = lows n (i + 1) := by simp [lows, List.range_succ]
    rw [e] at hr
    exact ⟨mv', loop_next hr h⟩
set_option maxHeartbeats 8000000 in
theorem big4_exit2 (es : List UInt8) (mv : Bool) : rX 27 (lc Tryd.f27 1) (codeX G cl lp 27 (lc Tryd.f27 1) (st124b es 2 1 mv)) = some (.exit 2, ⟨[(5, .own 5005), (7, .int .i64 2), (8, .int .i64 1), (29, .bool false)], [(5005, wRow es mv)]⟩) := by
  simp [lc, loopsOf, Tryd.f27, st124b, wRow]
  done
theorem big4_loop2 (n : Int) (mv : Bool) : lp 27 (lc Tryd.f27 1) (st124b (lows n 4) 0 3 mv) = some (.exit 2, ⟨[(5, .own 5005), (7, .int .i64 2), (8, .int .i64 1), (29, .bool false)], [(5005, wRow (bigB4 n) mv)]⟩) :=
  loop_next (big_turn _ (by simp [lows]) 0 3 (by omega) _ _ rfl rfl mv) (loop_next (big_turn _ (by simp [lows]) 1 2 (by omega) _ _ rfl rfl mv)
    (loop_out (big4_exit2 _ mv) (by simp)))
set_option maxHeartbeats 8000000 in
theorem big4_eq (n : Int) : cl 27 [.int .u64 n, .int .i64 4] [] = some (.ret (.str (bigB4 n)), []) := by
  refine fn_intro Tryd.func27 rfl (by simp) (by decide) rfl ?_
  obtain ⟨mv, h1⟩ := big4_loop n 4 0 false rfl
  have h2 := big4_loop2 n mv
  have h3 : ∀ d sl, callV G cl d (.fn (.func 47) [] []) [.own 5005] ⟨sl, [(5005, .row 1 (bysL (bigB4 n)) false ⟨mv, 5⟩)]⟩ = some (.val (.str (bigB4 n)) (ASt.fix ⟨sl, [(5005, .row 1 (bysL (bigB4 n)) false ⟨mv, 5⟩)]⟩ [5005])) := fun d sl =>
    callV_rv (pre := [.list 1 (bysL (bigB4 n))]) E47 (by decide) ext47 rfl rfl rfl rfl (octtext_eq _) rfl
  have h4 : min (max (4 : Int) 0) 8 = 4 := rfl
  have h5 : IntKind.i64.wrap 3 = 3 := rfl
  rw [show lows n 0 = [] from rfl] at h1
  simp [st124q, st124b, wRow, lc, loopsOf, Tryd.f27] at h1 h2
  simp [Tryd.f27, h1, h2, h3, h4, h5]
  exact end_is (.inr rfl) (by simp; rfl) rfl rfl
theorem big4_call {d : Option Nat} {st : ASt} {n : Int} : callV G cl d (.fn (.func 27) [] []) [.int .u64 n, .int .i64 4] st = some (.val (.str (bigB4 n)) st) :=
  callV_ret E27 (by decide) ext27 rfl rfl (big4_eq n) rfl
theorem big_W {d : Option Nat} {st : ASt} {n : Int} : callV GW clW d (.fn (.func 27) [] []) [.int .u64 n, .int .i64 8] st = some (.val (.str (bigB n)) st) :=
  callVW E27 (by decide) ext27 rfl rfl (liftW (by decide) rfl (big_eq n)) rfl
theorem big4_W {d : Option Nat} {st : ASt} {n : Int} : callV GW clW d (.fn (.func 27) [] []) [.int .u64 n, .int .i64 4] st = some (.val (.str (bigB4 n)) st) :=
  callVW E27 (by decide) ext27 rfl rfl (liftW (by decide) rfl (big4_eq n)) rfl
/-! Pad -/
def padS (n : Nat) : List UInt8 := 128 :: (repS [0] ((128 - (n + 9) % 64) % 64) ++ bigB (IntKind.u64.wrap ((n : Int) * 8)))
set_option maxHeartbeats 8000000 in
theorem pad_eq (n : Nat) (hn : n ≤ 1000000) : clW 89 [.int .i64 n] [] = some (.ret (.str (padS n)), []) := by
  refine fnW Tryd.func89 rfl (by simp) (by decide) rfl ?_
  obtain ⟨z, hz⟩ : ∃ z, z = (128 - (n + 9) % 64) % 64 := ⟨_, rfl⟩
  have hr := fun d st => rep_call (s := [0]) (n := z) (by omega) (by simp) (d := d) (st := st)
  have hb := fun d st => big_W (n := IntKind.u64.wrap ((n : Int) * 8)) (d := d) (st := st)
  have h0 : ¬ (n : Int) < 0 := by omega
  have e1 : IntKind.i64.wrap ((n : Int) + 1) = ((n + 1 : Nat) : Int) := by rw [i64_wrap (by omega) (by omega)]; omega
  have e2 : IntKind.i64.wrap (((n + 1 : Nat) : Int) + 8) = ((n + 9 : Nat) : Int) := by rw [i64_wrap (by omega) (by omega)]; omega
  have e3 : ((n + 9 : Nat) : Int).tmod 64 = (((n + 9) % 64 : Nat) : Int) := by rw [Int.tmod_eq_emod_of_nonneg (by omega)]; omega
  have e4 : IntKind.i64.wrap (128 - (((n + 9) % 64 : Nat) : Int)) = ((128 - (n + 9) % 64 : Nat) : Int) := by rw [i64_wrap (by omega) (by omega)]; omega
  have e5 : ((128 - (n + 9) % 64 : Nat) : Int).tmod 64 = (z : Int) := by rw [Int.tmod_eq_emod_of_nonneg (by omega)]; omega
  have e6 : IntKind.u64.wrap (n : Int) = n := by simp [IntKind.wrap, IntKind.bits, IntKind.signed]; omega
  have hp : padS n = 128 :: (repS [0] z ++ bigB (IntKind.u64.wrap ((n : Int) * 8))) := by rw [hz]; rfl
  have hR : (repS [0] z).length = z := by rw [repS_length]; simp
  have hB : (bigB (IntKind.u64.wrap ((n : Int) * 8))).length = 8 := rfl
  have hz64 : z < 64 := by omega
  rw [hp]
  generalize bigB (IntKind.u64.wrap ((n : Int) * 8)) = B at *
  generalize repS [0] z = R at *
  generalize n + 1 = n1 at *
  generalize (n + 9) % 64 = n2 at *
  generalize n + 9 = n9 at *
  generalize 128 - n2 = n3 at *
  have em : (min 3 IntKind.u64.bits : Nat) = 3 := rfl
  have l1 : 1 + R.length ≤ LIM := by unfold LIM; omega
  have l2 : R.length + 1 + B.length ≤ LIM := by unfold LIM; omega
  simp [Tryd.f89, h0, em, l1, l2, e1, e2, e3, e4, e5, e6, hr, hb]
  exact end_is (.inr rfl) (by first | rfl | (simp; rfl)) rfl rfl
/-! States of a sum that is under way. -/
def stV (h : V8) (r : List UInt8) (n : Nat) : AV := .agg [.int .u32 (wN h.a), .int .u32 (wN h.b), .int .u32 (wN h.c), .int .u32 (wN h.d), .int .u32 (wN h.e), .int .u32 (wN h.f), .int .u32 (wN h.g), .int .u32 (wN h.h), .str r, .int .i64 n]
def stB (h : V8) (r : List UInt8) (n : Nat) : AObj := .box 122 (stV h r n)
def begin8 : V8 := ⟨1779033703, 3144134277, 1013904242, 2773480762, 1359893119, 2600822924, 528734635, 1541459225⟩
theorem new_eq : clW 73 [] [] = some (.ret (.ptr 1003 0 0), [(1003, stB begin8 [] 0)]) := call_intro (by decide) rfl (by kernel_rfl)
theorem clone_eq (h : V8) (r : List UInt8) (n : Nat) : clW 88 [.ptr 0 0 0] [(0, stB h r n)] = some (.ret (.ptr 1003 0 0), [(0, stB h r n), (1003, stB h r n)]) := call_intro (by decide) rfl (by kernel_rfl)
end Go.Proofs.YteibklnligmanaaDoor


/- Written into a sum. -/
namespace Go.Proofs.YteibklnligmanaaDoor
open Go Abs
set_option linter.unusedSimpArgs false
set_option linter.unusedVariables false
attribute [local simp] canonK canonAll canonSlot canonCell canonBox ownStep restrictTo pureCells pureRows reachL AObj.names List.range_succ appendA
theorem blocks_eq (s : List UInt8) : clW 77 [.str s] [] = some (.ret (.fn (.func 90) [] [.ptr 1001 0 0]), [(1001, .box 9 (.str s))]) := call_intro (by decide) rfl (by kernel_rfl)
/-- A call that is handed memory, told by its answer. -/
theorem callB_W {d : Option Nat} {g : FuncId} {first caps args pre : List AV} {st st1 st3 : ASt} {ns : List Nat} {y : ARes × Heap} (hE : G.E g = true) (hg : g < RB) (hpre : prepL GW g st.hp (first ++ args ++ caps) 0 = pre)
    (hst : st.fix (prepRows GW g (first ++ args ++ caps) 0) = st1) (hns : reachL 40 st1.hp (AV.namesL pre) [] = ns) (hall : (ns.all fun n => (aget st1.hp n).isSome) = true)
    (hc : clW g (AV.renL (toMap ns) pre) (subHeap ns st1.hp) = some y) (ha : afterCall d ns st1 y.2 = some st3) : callB GW clW d (.fn (.func g) first caps) args st = some (answered (backMap ns d y.2) st3 y.1, movedOf ns y.2) := by
  have hE : GW.E g = true := hE
  simp only [callB, hpre, hst, hns, hE, hg, hall, decide_true, Bool.and_true, if_true, hc, Option.bind_some, ha, Option.map_some]
theorem callV_W {d : Option Nat} {g : FuncId} {first caps args pre : List AV} {st st1 st3 : ASt} {ns : List Nat} {y : ARes × Heap} (hE : G.E g = true) (hg : g < RB) (hx : G.ext g = none) (hpre : prepL GW g st.hp (first ++ args ++ caps) 0 = pre)
    (hst : st.fix (prepRows GW g (first ++ args ++ caps) 0) = st1) (hns : reachL 40 st1.hp (AV.namesL pre) [] = ns) (hall : (ns.all fun n => (aget st1.hp n).isSome) = true)
    (hc : clW g (AV.renL (toMap ns) pre) (subHeap ns st1.hp) = some y) (ha : afterCall d ns st1 y.2 = some st3) {r : AR} (hr : answered (backMap ns d y.2) st3 y.1 = r) : callV GW clW d (.fn (.func g) first caps) args st = some r := by
  have hx : GW.ext g = none := hx
  unfold callV extA
  simp only [hx, Option.bind_none]
  unfold callA
  rw [callB_W hE hg hpre hst hns hall hc ha, Option.map_some, hr]
theorem callY_W {d : Option Nat} {id j : Nat} {args pre : List AV} {st st1 st3 : ASt} {ns : List Nat} {y : ARes × Heap} (hpre : AV.rvL st.hp args = pre)
    (hst : st.fix (AV.rowsL args) = st1) (hns : reachL 40 st1.hp (id :: AV.namesL pre) [] = ns) (hall : (ns.all fun n => (aget st1.hp n).isSome) = true) (hj : aget (toMap ns) id = some j)
    (hc : clW (RB + j) (AV.renL (toMap ns) pre) (subHeap ns st1.hp) = some y) (ha : afterCall d ns st1 y.2 = some st3) {r : AR} (hr : answered (backMap ns d y.2) st3 y.1 = r) : callV GW clW d (.yld id) args st = some r := by
  unfold callV extA
  simp only []
  unfold callA callB
  simp only [hpre, hst, hns, hall, if_true, hj, Option.bind_some, hc, ha, Option.map_some, hr]
noncomputable def rcW (g : FuncId) (f : Func) (st : LoopState) (p : Option Code) : LRec :=
  match rfsOf (f.body.getD .skip) with
  | (_, ps, asg, body) :: _ => ⟨g, G.ntm g, ps, asg, body, st, p, false⟩
  | [] => default
theorem rf_W {f : FuncId} {g : Operand} {ps : Array Nat} {asg body : Code} {st s : ASt} {v : AV} {M : List Nat} {r : LRec} {sl : Slots} {x : AX} {L d : Nat} (hL : L = 20000 + firstRegion body) (hd : d = 30000 + firstRegion body)
    (h1 : (aget st.hp L).isSome = false) (h2 : GW.roundOK ⟨f, GW.ntm f, ps, asg, body, .ready, none, false⟩ = true) (h3 : isFn (st.ev g) = true)
    (hc : callB GW clW (some d) (st.ev g) [.yld L] { st with hp := (L, .loop ⟨f, GW.ntm f, ps, asg, body, .ready, none, false⟩ st.sl) :: st.hp } = some (.val v s, M))
    (h4 : M.contains L = false) (h5 : aget s.hp L = some (.loop r sl)) (h6 : r.state ≠ .busy) (h7 : jumpX r.pending = some x) :
    codeX GW clW lpW f (.rangeFunc g ps asg body) st = some (x, { s with hp := hput L (.loop { r with state := .exhausted } sl) s.hp }) := by
  subst hL hd
  unfold codeX
  have hw : GW.wd = true := rfl
  simp only [hw, Bool.not_true, h1, h2, h3, Bool.not_true, Bool.or_false, Bool.false_eq_true, if_false, hc, Option.bind_some, h4, h5, h6, h7, Option.map_some]
theorem step_W {d : Option Nat} {st : ASt} {h : V8} {s : List UInt8} (hs : s.length = 64) : callV GW clW d (.fn (.func 78) [] []) [.agg h.v, .str s] st = some (.val (.agg (stepS h s).v) st) :=
  callVW E78 (by decide) ext78 rfl (by simp [V8.v]) (liftW (by decide) rfl (step_eq h s hs)) (by simp [V8.v])
theorem blocks_call (s : List UInt8) (sl : Slots) (hp : Heap) (hn : aget hp 1002000027 = none) : callV GW clW (some 27) (.fn (.func 77) [] []) [.str s] ⟨sl, hp⟩ =
    some (.val (.fn (.func 90) [] [.ptr 1002000027 0 0]) ⟨sl, (1002000027, .box 9 (.str s)) :: hp⟩) := by
  refine callV_W (pre := [.str s]) (st1 := ⟨sl, hp⟩) (ns := []) (y := (.ret (.fn (.func 90) [] [.ptr 1001 0 0]), [(1001, .box 9 (.str s))])) (st3 := ⟨sl, (1002000027, .box 9 (.str s)) :: hp⟩) E77 (by decide) ext77 rfl rfl rfl rfl (by exact blocks_eq s) ?_ rfl
  have e : newName 27 1001 = 1002000027 := by decide
  simp [afterCall, afterHeap, zipIx, movedOf, killAll, backMap, backName, AObj.moved, AObj.isRow, AObj.ormv, e, hn]
noncomputable abbrev recW : LRec := rcW 63 Tryd.f63 .ready none
theorem rokW : GW.roundOK recW = true := by kernel_rfl
def absorb : Nat → V8 → List UInt8 → V8 × List UInt8
  | 0, h, t => (h, t)
  | c + 1, h, t => absorb c (stepS h (t.take 64)) (t.drop 64)
def wSl (p q : Nat) : Slots := [(2, .ptr p 0 0), (27, .fn (.func 90) [] [.ptr q 0 0]), (28, .undef), (29, .undef)]
/-- Seen from the round. -/
noncomputable def hpR (h : V8) (t r : List UInt8) (n : Nat) : Heap := [(0, .loop recW (wSl 1 2)), (1, .box 105 (.ptr 3 0 0)), (2, .box 9 (.str t)), (3, stB h r n)]
set_option maxHeartbeats 8000000 in
theorem round_W (h : V8) (b t r : List UInt8) (n : Nat) (hb : b.length = 64) : clW RB [.str b, .str t] (hpR h t r n) = some (.ret (.bool true), hpR (stepS h b) t t n) := by
  have : RB = RB + 0 := rfl
  rw [this]
  have hr := rokW
  have hs := fun d st => step_W (h := h) (s := b) (d := d) (st := st) hb
  refine round_intro ?_
  unfold runRound
  unfold recW rcW at hr
  generalize stepS h b = H at *
  simp [hpR, recW, rcW, rfsOf, Tryd.f63, stB, stV, V8.v, wSl] at hr hs ⊢
  simp [hr, hs]
  rfl
/-- Seen from the function that gives the blocks. -/
noncomputable def hpK (h : V8) (t r : List UInt8) (n : Nat) : Heap := [(0, .loop recW (wSl 2 1)), (1, .box 9 (.str t)), (2, .box 105 (.ptr 3 0 0)), (3, stB h r n)]
noncomputable def hpK' (h h' : V8) (t r : List UInt8) (n : Nat) : Heap := [(0, .loop recW (wSl 2 1)), (2, .box 105 (.ptr 3 0 0)), (1, .box 9 (.str t)), (3, stB h' t n)] ++ hpK h t r n
theorem yield_W (h : V8) (b t r : List UInt8) (n : Nat) (hb : b.length = 64) (sl : Slots) : callV GW clW (some 14) (.yld 0) [.str b, .str t] ⟨sl, hpK h t r n⟩ = some (.val (.bool true) ⟨sl, hpK' h (stepS h b) t r n⟩) :=
  callY_W (st1 := ⟨sl, hpK h t r n⟩) (ns := [0, 2, 1, 3]) (j := 0) (pre := [.str b, .str t]) rfl rfl rfl rfl rfl (by exact round_W h b t r n hb) (by kernel_rfl) rfl
set_option maxHeartbeats 8000000 in
theorem blk_round (h : V8) (t r : List UInt8) (n : Nat) (ht : 64 ≤ t.length) : rXW 90 (lc Tryd.f90 0) (codeX GW clW lpW 90 (lc Tryd.f90 0) ⟨[(0, .yld 0), (1, .ptr 1 0 0)], hpK h t r n⟩) = some (.normal, ⟨[(0, .yld 0), (1, .ptr 1 0 0)], hpK (stepS h (t.take 64)) (t.drop 64) (t.drop 64) n⟩) := by
  have hy := fun sl => yield_W h (t.take 64) (t.drop 64) r n (by simp; omega) sl
  have h1 : ¬ (t.length : Int) < 64 := by omega
  have h2 : (64 : Int) ≤ t.length := by omega
  simp only [hpK, wSl, stB, stV] at hy
  generalize stepS h (t.take 64) = H at *
  simp [lc, loopsOf, Tryd.f90, hpK, wSl, stB, stV, h1, h2, ht]
  simp [hy, hpK', hpK, wSl, stB, stV]
  rfl
theorem blk_exit (h : V8) (t r : List UInt8) (n : Nat) (ht : t.length < 64) : rXW 90 (lc Tryd.f90 0) (codeX GW clW lpW 90 (lc Tryd.f90 0) ⟨[(0, .yld 0), (1, .ptr 1 0 0)], hpK h t r n⟩) = some (.exit 0, ⟨[(0, .yld 0), (1, .ptr 1 0 0), (6, .bool false)], hpK h t r n⟩) := by
  have h1 : (t.length : Int) < 64 := by omega
  have h2 : ¬ (64 : Int) ≤ t.length := by omega
  have h3 : ¬ 64 ≤ t.length := by omega
  simp [lc, loopsOf, Tryd.f90, hpK, wSl, stB, stV, h1, h2, h3]
theorem blk_loop : ∀ (c : Nat) (h : V8) (t : List UInt8) (n : Nat), t.length / 64 = c → lpW 90 (lc Tryd.f90 0) ⟨[(0, .yld 0), (1, .ptr 1 0 0)], hpK h t t n⟩ = some (.exit 0, ⟨[(0, .yld 0), (1, .ptr 1 0 0), (6, .bool false)], hpK (absorb c h t).1 (absorb c h t).2 (absorb c h t).2 n⟩) := by
  intro c
  induction c with
  | zero => intro h t n ht; exact loop_outW (blk_exit h t t n (by omega)) (by simp)
  | succ c ih =>
    intro h t n ht
    have e := ih (stepS h (t.take 64)) (t.drop 64) n (by simp; omega)
    exact loop_nextW (blk_round h t t n (by omega)) e
set_option maxHeartbeats 8000000 in
theorem blk_fn (h : V8) (t : List UInt8) (n : Nat) : clW 90 [.yld 0, .ptr 1 0 0] (hpK h t t n) = some (.ret (.tup []), hpK (absorb (t.length / 64) h t).1 (absorb (t.length / 64) h t).2 (absorb (t.length / 64) h t).2 n) := by
  refine fnW Tryd.func90 rfl (by simp) (by decide) rfl ?_
  have h0 := blk_loop (t.length / 64) h t n rfl
  generalize (absorb (t.length / 64) h t).1 = H at *
  generalize (absorb (t.length / 64) h t).2 = T at *
  simp [lc, loopsOf, Tryd.f90, hpK, wSl, stB, stV] at h0
  have hren : AObj.ren [(0, 0), (1, 1), (2, 2), (3, 3)] (.loop recW [(2, .ptr 2 0 0), (27, .fn (.func 90) [] [.ptr 1 0 0]), (28, .undef), (29, .undef)]) = .loop recW [(2, .ptr 2 0 0), (27, .fn (.func 90) [] [.ptr 1 0 0]), (28, .undef), (29, .undef)] := rfl
  simp [Tryd.f90, hpK, wSl, stB, stV, hren, h0]
  rfl
noncomputable def hpO (h : V8) (t : List UInt8) (n : Nat) : Heap := [(20006, .loop recW (wSl 1002 1002000027)), (1002000027, .box 9 (.str t)), (1002, .box 105 (.ptr 0 0 0)), (0, stB h t n)]
noncomputable def hpO' (h h' : V8) (t t' : List UInt8) (n : Nat) : Heap := [(20006, .loop recW (wSl 1002 1002000027)), (1002000027, .box 9 (.str t')), (1002, .box 105 (.ptr 0 0 0)), (0, stB h' t' n)] ++ hpO h t n
theorem range_W (h : V8) (t : List UInt8) (n : Nat) : callB GW clW (some 30006) (.fn (.func 90) [] [.ptr 1002000027 0 0]) [.yld 20006] ⟨wSl 1002 1002000027, hpO h t n⟩ =
    some (.val (.tup []) ⟨wSl 1002 1002000027, hpO' h (absorb (t.length / 64) h t).1 t (absorb (t.length / 64) h t).2 n⟩, []) := by
  have h0 := blk_fn h t n
  generalize (absorb (t.length / 64) h t).1 = H at *
  generalize (absorb (t.length / 64) h t).2 = T at *
  exact callB_W (first := []) (caps := [.ptr 1002000027 0 0]) (pre := [.yld 20006, .ptr 1002000027 0 0]) (st1 := ⟨wSl 1002 1002000027, hpO h t n⟩) (ns := [20006, 1002000027, 1002, 0]) (y := (.ret (.tup []), hpK H T T n)) (st3 := ⟨wSl 1002 1002000027, hpO' h H t T n⟩) E90 (by decide) rfl rfl rfl rfl (by exact h0) (by kernel_rfl)
noncomputable def rfC : Code := match rfsOf (Tryd.f63.body.getD .skip) with | (g, ps, asg, body) :: _ => .rangeFunc g ps asg body | [] => .skip
theorem rf_is (h : V8) (t : List UInt8) (n : Nat) : codeX GW clW lpW 63 rfC ⟨wSl 1002 1002000027, [(1002000027, .box 9 (.str t)), (1002, .box 105 (.ptr 0 0 0)), (0, stB h t n)]⟩ =
    some (.normal, ⟨wSl 1002 1002000027, hput 20006 (.loop (rcW 63 Tryd.f63 .exhausted none) (wSl 1002 1002000027)) (hpO' h (absorb (t.length / 64) h t).1 t (absorb (t.length / 64) h t).2 n)⟩) := by
  have := rf_W (f := 63) (g := .tmp 27) (ps := recW.ps) (asg := recW.assign) (body := recW.body) (st := ⟨wSl 1002 1002000027, [(1002000027, .box 9 (.str t)), (1002, .box 105 (.ptr 0 0 0)), (0, stB h t n)]⟩) (L := 20006) (d := 30006) (r := recW) (sl := wSl 1002 1002000027) (x := .normal) (s := ⟨wSl 1002 1002000027, hpO' h (absorb (t.length / 64) h t).1 t (absorb (t.length / 64) h t).2 n⟩) (v := .tup []) (M := [])
    (by kernel_rfl) (by kernel_rfl) rfl rokW rfl (by exact range_W h t n) rfl (by kernel_rfl) (by simp [recW, rcW, rfsOf, Tryd.f63]) (by kernel_rfl)
  exact this
set_option maxHeartbeats 8000000 in
theorem write_eq (h : V8) (r s : List UInt8) (n : Nat) (hn : n ≤ 1000000) (hs : s.length ≤ 1000000) (hr : r.length ≤ 1000000) : clW 63 [.ptr 0 0 0, .str s] [(0, stB h r n)] =
    some (.ret (.tup []), [(0, stB (absorb ((r ++ s).length / 64) h (r ++ s)).1 (absorb ((r ++ s).length / 64) h (r ++ s)).2 (n + s.length))]) := by
  refine fnW Tryd.func63 rfl (by simp) (by decide) rfl ?_
  have e1 : IntKind.i64.wrap ((n : Int) + s.length) = ((n + s.length : Nat) : Int) := by rw [i64_wrap (by omega) (by omega)]; omega
  have l1 : r.length + s.length ≤ LIM := by unfold LIM; omega
  have hb := fun sl hp => blocks_call (r ++ s) sl hp
  have hf := rf_is h (r ++ s) (n + s.length)
  generalize (absorb ((r ++ s).length / 64) h (r ++ s)).1 = H at *
  generalize (absorb ((r ++ s).length / 64) h (r ++ s)).2 = T at *
  generalize n + s.length = m at *
  simp [rfC, rfsOf, Tryd.f63, stB, stV, wSl] at hf
  simp [Tryd.f63, stB, stV, e1, l1, hb, hf]
  rfl
end Go.Proofs.YteibklnligmanaaDoor


/- Sums. -/
namespace Go.Proofs.YteibklnligmanaaDoor
open Go Abs
set_option linter.unusedSimpArgs false
set_option linter.unusedVariables false
attribute [local simp] canonK canonAll canonSlot canonCell canonBox ownStep restrictTo pureCells pureRows reachL AObj.names List.range_succ appendA
/-- A call that is handed a box, told by its answer. -/
theorem box_W {g : FuncId} {i : Nat} {d : Option Nat} {T : TypeId} {x x' : AV} {rest : List AV} {v : AV} {sl : Slots} {hp : Heap} (hE : G.E g = true) (hg : g < RB) (hx : G.ext g = none) (hrest : ∀ x ∈ rest, Plain x) (hv : Plain v) (p1 : Plain x) (p2 : Plain x')
    (h0 : aget hp i = some (.box T x)) (hc : clW g (.ptr 0 0 0 :: rest) [(0, .box T x)] = some (.ret v, [(0, .box T x')])) :
    callV GW clW d (.fn (.func g) [] []) (.ptr i 0 0 :: rest) ⟨sl, hp⟩ = some (.val v ⟨sl, (i, .box T x') :: hp⟩) := by
  have q := plains (g := g) hrest
  obtain ⟨q1, q2, q3, q4⟩ := q
  have q1' : ∀ hp j, prepL GW g hp rest j = rest := fun hp j => by
    have : ∀ (l : List AV) j, prepL GW g hp l j = prepL G g hp l j := fun l => by
      induction l with
      | nil => intro j; rfl
      | cons a r ih => intro j; simp only [prepL, ih]; rfl
    rw [this, q1]
  have q2' : ∀ j, prepRows GW g rest j = [] := fun j => by
    have : ∀ (l : List AV) j, prepRows GW g l j = prepRows G g l j := fun l => by
      induction l with
      | nil => intro j; rfl
      | cons a r ih => intro j; simp only [prepRows, ih]; rfl
    rw [this, q2]
  have hn : x.names = [] := p1.names
  have hn' : x'.names = [] := p2.names
  refine callV_W (pre := .ptr i 0 0 :: rest) (st1 := ⟨sl, hp⟩) (ns := [i]) (y := (.ret v, [(0, .box T x')])) (st3 := ⟨sl, (i, .box T x') :: hp⟩) hE hg hx ?_ ?_ ?_ ?_ ?_ ?_ ?_
  · simp [prepL, q1', -GW_inplace]
  · simp [prepRows, q2', ASt.fix, hfix, -GW_inplace]
  · simp [AV.namesL, q3, reachL, h0, hn]
  · simp [h0]
  · simp [AV.renL, q4, subHeap, zipIx, toMap, h0, AObj.unmv, p1.ren]
    exact hc
  · simp [afterCall, afterHeap, zipIx, movedOf, killAll, backMap, backName, AObj.moved, AObj.isRow, AObj.ormv, h0, ASt.killn, p2.ren]
  · simp [answered, hv.ren]
theorem plain_st {h : V8} {r : List UInt8} {n : Nat} : Plain (stV h r n) := ⟨fun _ => rfl, rfl, rfl, fun _ => rfl⟩
def wrH (h : V8) (r s : List UInt8) : V8 := (absorb ((r ++ s).length / 64) h (r ++ s)).1
def wrR (h : V8) (r s : List UInt8) : List UInt8 := (absorb ((r ++ s).length / 64) h (r ++ s)).2
theorem write_call {d : Option Nat} {sl : Slots} {hp : Heap} {i : Nat} {h : V8} {r s : List UInt8} {n : Nat} (hn : n ≤ 1000000) (hs : s.length ≤ 1000000) (hr : r.length ≤ 1000000) (h0 : aget hp i = some (stB h r n)) :
    callV GW clW d (.fn (.func 63) [] []) [.ptr i 0 0, .str s] ⟨sl, hp⟩ = some (.val (.tup []) ⟨sl, (i, stB (wrH h r s) (wrR h r s) (n + s.length)) :: hp⟩) :=
  box_W (rest := [.str s]) E63 (by decide) ext63 (by simp [plain_str]) plain_unit plain_st plain_st h0 (write_eq h r s n hn hs hr)
theorem clone_call {sl : Slots} {hp : Heap} {i d : Nat} {h : V8} {r : List UInt8} {n : Nat} (h0 : aget hp i = some (stB h r n)) (hi : i ≠ newName d 1003) (hf : aget hp (newName d 1003) = none) :
    callV GW clW (some d) (.fn (.func 88) [] []) [.ptr i 0 0] ⟨sl, hp⟩ = some (.val (.ptr (newName d 1003) 0 0) ⟨sl, [(i, stB h r n), (newName d 1003, stB h r n)] ++ hp⟩) := by
  refine callV_W (pre := [.ptr i 0 0]) (st1 := ⟨sl, hp⟩) (ns := [i]) (y := (.ret (.ptr 1003 0 0), [(0, stB h r n), (1003, stB h r n)])) (st3 := ⟨sl, [(i, stB h r n), (newName d 1003, stB h r n)] ++ hp⟩) E88 (by decide) ext88 ?_ ?_ ?_ ?_ ?_ ?_ ?_
  · simp [prepL, -GW_inplace]
  · simp [prepRows, ASt.fix, hfix, -GW_inplace]
  · simp [AV.namesL, reachL, h0, stB, stV]
  · simp [h0]
  · simp [AV.renL, subHeap, zipIx, toMap, h0, AObj.unmv]
    exact clone_eq h r n
  · simp [afterCall, afterHeap, zipIx, movedOf, killAll, backMap, backName, AObj.moved, AObj.isRow, AObj.ormv, h0, hf, ASt.killn, stB, stV]
  · simp [answered, backMap, backName]
theorem new_call {sl : Slots} {hp : Heap} {d : Nat} (hf : aget hp (newName d 1003) = none) :
    callV GW clW (some d) (.fn (.func 73) [] []) [] ⟨sl, hp⟩ = some (.val (.ptr (newName d 1003) 0 0) ⟨sl, (newName d 1003, stB begin8 [] 0) :: hp⟩) := by
  refine callV_W (pre := []) (st1 := ⟨sl, hp⟩) (ns := []) (y := (.ret (.ptr 1003 0 0), [(1003, stB begin8 [] 0)])) (st3 := ⟨sl, (newName d 1003, stB begin8 [] 0) :: hp⟩) E73 (by decide) ext73 rfl rfl rfl rfl (by exact new_eq) ?_ ?_
  · simp [afterCall, afterHeap, zipIx, movedOf, killAll, backMap, backName, AObj.moved, AObj.isRow, AObj.ormv, hf, ASt.killn, stB, stV]
  · simp [answered, backMap, backName]
theorem pad_call {d : Option Nat} {st : ASt} {n : Nat} (hn : n ≤ 1000000) : callV GW clW d (.fn (.func 89) [] []) [.int .i64 n] st = some (.val (.str (padS n)) st) :=
  callVW E89 (by decide) ext89 rfl rfl (pad_eq n hn) rfl
/-! The bytes of a sum. -/
def digL (l : List W32) (i : Nat) : List UInt8 := (l.take i).flatMap fun w => bigB4 (wN w)
theorem digL_succ {l : List W32} {i : Nat} {w : W32} (h : l[i]? = some w) : digL l (i + 1) = digL l i ++ bigB4 (wN w) := by
  unfold digL; rw [List.take_add_one, h]; simp
theorem digL_length {l : List W32} : ∀ {i : Nat}, i ≤ l.length → (digL l i).length = 4 * i
  | 0, _ => by simp [digL]
  | i + 1, h => by
    obtain ⟨w, hw⟩ : ∃ w, l[i]? = some w := ⟨_, List.getElem?_eq_getElem (by omega)⟩
    rw [digL_succ hw, List.length_append, digL_length (l := l) (i := i) (by omega)]
    show 4 * i + 4 = _
    omega
theorem wN_u64 (w : W32) : IntKind.u64.wrap (wN w) = wN w := by
  have := w.isLt
  unfold wN
  simp [IntKind.wrap, IntKind.bits, IntKind.signed]; omega
def stD (l : List W32) (i : Nat) (h : V8) (r : List UInt8) (m : Nat) : ASt := ⟨[(4, .str (digL l i)), (19, .agg (wsV l)), (20, .int .i64 i)], [(0, stB h r m)]⟩
set_option maxHeartbeats 8000000 in
theorem dig_round (h : V8) (r : List UInt8) (m : Nat) (l : List W32) (hl : l.length = 8) (i : Nat) (hi : i < 8) : rXW 76 (lc Tryd.f76 0) (codeX GW clW lpW 76 (lc Tryd.f76 0) (stD l i h r m)) = some (.normal, stD l (i + 1) h r m) := by
  obtain ⟨w, hw⟩ : ∃ w, l[i]? = some w := ⟨_, List.getElem?_eq_getElem (by omega)⟩
  have hs := digL_succ hw
  have hx := arr_ix (P := Tryd.prog) (t := 120) (k := .i64) Tryd.underlying120 (by kernel_rfl) (by simp) (by simp) (show i < 8 by omega) (wsV_get hw)
  have h1 : (i : Int) < 8 := by omega
  have hn : IntKind.i64.wrap ((i : Int) + 1) = ((i + 1 : Nat) : Int) := by rw [i64_wrap (by omega) (by omega)]; omega
  have hb := fun d st => big4_W (n := wN w) (d := d) (st := st)
  have hlen := digL_length (l := l) (i := i) (by omega)
  have h4 : (bigB4 (wN w)).length = 4 := rfl
  have hL : (digL l i).length + (bigB4 (wN w)).length ≤ LIM := by unfold LIM; omega
  have h64 := wN_u64 w
  unfold stD
  rw [hs]
  generalize i + 1 = n at *
  generalize bigB4 (wN w) = B at *
  generalize digL l i = D at *
  simp [stB, stV, lc, loopsOf, Tryd.f76, h1, hn, hx, hb, hL, h64, hl, namesL_ws, wsV_rvL, wsV_renL, wsV_rowsL, wsV_pc, wsV_pr]
set_option maxHeartbeats 8000000 in
theorem dig_exit (h : V8) (r : List UInt8) (m : Nat) (l : List W32) : rXW 76 (lc Tryd.f76 0) (codeX GW clW lpW 76 (lc Tryd.f76 0) (stD l 8 h r m)) = some (.exit 0, ⟨[(4, .str (digL l 8)), (19, .agg (wsV l)), (20, .int .i64 8), (21, .bool false)], [(0, stB h r m)]⟩) := by
  unfold stD
  simp [stB, stV, lc, loopsOf, Tryd.f76]
theorem dig_loop (h : V8) (r : List UInt8) (m : Nat) (l : List W32) (hl : l.length = 8) : ∀ (c i : Nat), i + c = 8 → lpW 76 (lc Tryd.f76 0) (stD l i h r m) = some (.exit 0, ⟨[(4, .str (digL l 8)), (19, .agg (wsV l)), (20, .int .i64 8), (21, .bool false)], [(0, stB h r m)]⟩) := by
  intro c
  induction c with
  | zero => intro i hi; obtain rfl : i = 8 := by omega
            exact loop_outW (dig_exit h r m l) (by simp)
  | succ c ih => intro i hi; exact loop_nextW (dig_round h r m l hl i (by omega)) (ih (i + 1) (by omega))
def dig (h : V8) : List UInt8 := digL h.l 8
theorem dig_len (h : V8) : (dig h).length = 32 := digL_length (by simp [V8.l])
def sumS (h : V8) (r : List UInt8) (n : Nat) : List UInt8 := dig (wrH h r (padS n))
set_option maxHeartbeats 8000000 in
theorem stsum_eq (h : V8) (r : List UInt8) (n : Nat) (hn : n ≤ 1000000) (hr : r.length ≤ 1000000) : clW 76 [.ptr 0 0 0] [(0, stB h r n)] = some (.ret (.str (sumS h r n)), [(0, stB h r n)]) := by
  refine fnW Tryd.func76 rfl (by simp) (by decide) rfl ?_
  have hpl : (padS n).length ≤ 1000000 := by
    unfold padS
    simp only [List.length_cons, List.length_append, repS_length, bigB, List.length_nil]
    omega
  have hd := dig_loop h r n (wrH h r (padS n)).l rfl 8 0 rfl
  have hnn : newName 8 1003 = 1004000008 := by decide
  have hc := fun sl hp (h0 : aget hp 0 = some (stB h r n)) (h1 : aget hp 1004000008 = none) => clone_call (d := 8) (sl := sl) h0 (by rw [hnn]; omega) (by rw [hnn]; exact h1)
  rw [hnn] at hc
  have hp := fun d st => pad_call (n := n) hn (d := d) (st := st)
  have hw := fun d sl hp (h0 : aget hp 1004000008 = some (stB h r n)) => write_call (d := d) (sl := sl) hn hpl hr h0
  unfold sumS dig
  generalize wrH h r (padS n) = H at *
  generalize wrR h r (padS n) = R at *
  generalize padS n = P at *
  generalize n + P.length = m at *
  have z0 : digL H.l 0 = [] := rfl
  have hl : wsV H.l = [.int .u32 (wN H.a), .int .u32 (wN H.b), .int .u32 (wN H.c), .int .u32 (wN H.d), .int .u32 (wN H.e), .int .u32 (wN H.f), .int .u32 (wN H.g), .int .u32 (wN H.h)] := rfl
  unfold stD at hd
  simp [lc, loopsOf, Tryd.f76, z0, hl, stB, stV] at hd
  simp only [stB, stV] at hc hw
  simp [Tryd.f76, stB, stV, hc, hp, hw, hd]
  rfl
theorem absorb_len : ∀ (c : Nat) (h : V8) (t : List UInt8), (absorb c h t).2.length ≤ t.length
  | 0, _, _ => Nat.le_refl _
  | c + 1, h, t => by
    have := absorb_len c (stepS h (t.take 64)) (t.drop 64)
    simp only [absorb]
    rw [List.length_drop] at this
    omega
theorem wrR_len (h : V8) (r s : List UInt8) : (wrR h r s).length ≤ r.length + s.length := by
  have := absorb_len ((r ++ s).length / 64) h (r ++ s)
  unfold wrR
  rw [List.length_append] at this
  rw [List.length_append]; exact this
theorem stsum_call {d : Option Nat} {sl : Slots} {hp : Heap} {i : Nat} {h : V8} {r : List UInt8} {n : Nat} (hn : n ≤ 1000000) (hr : r.length ≤ 1000000) (h0 : aget hp i = some (stB h r n)) :
    callV GW clW d (.fn (.func 76) [] []) [.ptr i 0 0] ⟨sl, hp⟩ = some (.val (.str (sumS h r n)) ⟨sl, (i, stB h r n) :: hp⟩) :=
  box_W (rest := []) E76 (by decide) ext76 (by simp) plain_str plain_st plain_st h0 (stsum_eq h r n hn hr)
/-- The sum of bytes. -/
def shaS (s : List UInt8) : List UInt8 := sumS (wrH begin8 [] s) (wrR begin8 [] s) s.length
theorem sum_len (h : V8) (r : List UInt8) (n : Nat) : (sumS h r n).length = 32 := dig_len _
set_option maxHeartbeats 8000000 in
theorem shasum_eq (s : List UInt8) (hs : s.length ≤ 1000000) : clW 71 [.str s] [] = some (.ret (.str (shaS s)), []) := by
  refine fnW Tryd.func71 rfl (by simp) (by decide) rfl ?_
  have hnn : newName 4 1003 = 1004000004 := by decide
  have hc := fun sl => new_call (d := 4) (sl := sl) (hp := []) rfl
  rw [hnn] at hc
  have hw := fun d sl hp (h0 : aget hp 1004000004 = some (stB begin8 [] 0)) => write_call (d := d) (sl := sl) (by omega) hs (by simp) h0
  have hrl := wrR_len begin8 [] s
  have hS := fun d sl hp (h0 : aget hp 1004000004 = some (stB (wrH begin8 [] s) (wrR begin8 [] s) (0 + s.length))) => stsum_call (d := d) (sl := sl) (by omega) (by simp at hrl; omega) h0
  unfold shaS
  rw [Nat.zero_add] at hw hS
  generalize sumS (wrH begin8 [] s) (wrR begin8 [] s) s.length = Z at *
  generalize wrH begin8 [] s = H at *
  generalize wrR begin8 [] s = R at *
  generalize begin8 = b8 at *
  simp only [stB, stV] at hc hw hS
  simp [Tryd.f71, hc, hw, hS]
  rfl
theorem shasum_call {d : Option Nat} {st : ASt} {s : List UInt8} (hs : s.length ≤ 1000000) : callV GW clW d (.fn (.func 71) [] []) [.str s] st = some (.val (.str (shaS s)) st) :=
  callVW E71 (by decide) ext71 rfl rfl (shasum_eq s hs) rfl
theorem sha_len (s : List UInt8) : (shaS s).length = 32 := sum_len _ _ _
end Go.Proofs.YteibklnligmanaaDoor


/- Bytes, one against another: octet.Xor. -/
namespace Go.Proofs.YteibklnligmanaaDoor
open Go Abs
set_option linter.unusedSimpArgs false
set_option linter.unusedVariables false
attribute [local simp] canonK canonAll canonSlot canonCell canonBox ownStep restrictTo pureCells pureRows reachL AObj.names List.range_succ appendA
def xorS (a b : List UInt8) : List UInt8 := List.zipWith (· ^^^ ·) a b
theorem b_xor (x y : UInt8) : wXor .u8 (x.toNat : Int) (y.toNat : Int) = ((x ^^^ y).toNat : Int) := by
  unfold wXor
  show IntKind.u8.wrap ((BitVec.ofInt 8 (x.toNat : Int) ^^^ BitVec.ofInt 8 (y.toNat : Int)).toNat : Int) = _
  have e : ∀ z : UInt8, BitVec.ofInt 8 (z.toNat : Int) = z.toBitVec := fun z => by
    apply BitVec.eq_of_toNat_eq
    have := z.toNat_lt
    simp
  rw [e, e]
  have h := (x ^^^ y).toNat_lt
  have e2 : (x.toBitVec ^^^ y.toBitVec).toNat = (x ^^^ y).toNat := rfl
  rw [e2]
  generalize (x ^^^ y).toNat = z at *
  have h' : z < 256 := h
  rw [show IntKind.u8.wrap (z : Int) = (z : Int) % 256 from by simp [IntKind.wrap, IntKind.bits, IntKind.signed]]
  omega
theorem xorS_len {a b : List UInt8} (h : a.length = b.length) : (xorS a b).length = b.length := by simp [xorS, h]
def xsI (a b : List UInt8) (i : Nat) : List UInt8 := (xorS a b).take i ++ List.replicate (b.length - i) 0
theorem xsI_len {a b : List UInt8} (h : a.length = b.length) {i : Nat} (hi : i ≤ b.length) : (xsI a b i).length = b.length := by
  unfold xsI; rw [List.length_append, List.length_take, List.length_replicate, xorS_len h]; omega
theorem xsI_set {a b : List UInt8} (h : a.length = b.length) {i : Nat} (hi : i < b.length) {x y : UInt8} (hx : a[i]? = some x) (hy : b[i]? = some y) : (xsI a b i).set i (x ^^^ y) = xsI a b (i + 1) := by
  have hz : (xorS a b)[i]? = some (x ^^^ y) := by unfold xorS; rw [List.getElem?_zipWith, hx, hy]
  unfold xsI
  have hl : ((xorS a b).take i).length = i := by rw [List.length_take, xorS_len h]; omega
  rw [List.set_append_right _ _ (by omega), hl, Nat.sub_self, List.take_add_one, hz]
  obtain ⟨k, hk⟩ : ∃ k, b.length - i = k + 1 := ⟨b.length - i - 1, by omega⟩
  rw [hk, show b.length - (i + 1) = k from by omega]
  simp [List.replicate_succ]
def stX (a b : List UInt8) (i : Nat) : ASt := ⟨[(0, .str a), (1, .str b), (5, .own 5005), (14, .int .i64 b.length), (15, .int .i64 i)], [(5005, wRow (xsI a b i) false)]⟩
set_option maxHeartbeats 8000000 in
theorem xor_round (a b : List UInt8) (h : a.length = b.length) (hb : b.length ≤ 1000000) (i : Nat) (hi : i < b.length) : rX 74 (lc Tryd.f74 0) (codeX G cl lp 74 (lc Tryd.f74 0) (stX a b i)) = some (.normal, stX a b (i + 1)) := by
  obtain ⟨x, hx⟩ : ∃ x, a[i]? = some x := ⟨_, List.getElem?_eq_getElem (by omega)⟩
  obtain ⟨y, hy⟩ : ∃ y, b[i]? = some y := ⟨_, List.getElem?_eq_getElem (by omega)⟩
  have h1 : (i : Int) < b.length := by omega
  have hlen := xsI_len h (i := i) (by omega)
  have hset := xsI_set h hi hx hy
  have hw : IntKind.i64.wrap ((i : Int) + 1) = ((i + 1 : Nat) : Int) := by rw [i64_wrap (by omega) (by omega)]; omega
  have ix := str_at hx
  have iy := str_at hy
  have hxo := b_xor x y
  unfold stX
  rw [← hset]
  generalize xsI a b i = W at *
  have hi' : i < W.length := by omega
  have hs := bysL_set (es := W) (i := i) (x := x ^^^ y)
  generalize x ^^^ y = z at *
  generalize i + 1 = n at *
  simp [lc, loopsOf, Tryd.f74, wRow, h1, hw, hlen, ix, iy, hxo, hi, hi', hs]
set_option maxHeartbeats 8000000 in
theorem xor_exit (a b : List UInt8) : rX 74 (lc Tryd.f74 0) (codeX G cl lp 74 (lc Tryd.f74 0) (stX a b b.length)) = some (.exit 0, ⟨[(0, .str a), (1, .str b), (5, .own 5005), (14, .int .i64 b.length), (15, .int .i64 b.length), (16, .bool false)], (stX a b b.length).hp⟩) := by
  unfold stX
  simp [lc, loopsOf, Tryd.f74, wRow]
theorem xor_loop (a b : List UInt8) (h : a.length = b.length) (hb : b.length ≤ 1000000) : ∀ (c i : Nat), i + c = b.length → lp 74 (lc Tryd.f74 0) (stX a b i) = some (.exit 0, ⟨[(0, .str a), (1, .str b), (5, .own 5005), (14, .int .i64 b.length), (15, .int .i64 b.length), (16, .bool false)], (stX a b b.length).hp⟩) := by
  intro c
  induction c with
  | zero => intro i hi; obtain rfl : i = b.length := by omega
            exact loop_out (xor_exit a b) (by simp)
  | succ c ih => intro i hi; exact loop_next (xor_round a b h hb i (by omega)) (ih (i + 1) (by omega))
set_option maxHeartbeats 8000000 in
theorem xor_eq (a b : List UInt8) (h : a.length = b.length) (hb : b.length ≤ 1000000) : cl 74 [.str a, .str b] [] = some (.ret (.str (xorS a b)), []) := by
  refine fn_intro Tryd.func74 rfl (by simp) (by decide) rfl ?_
  have hm : min (b.length : Int) (b.length : Int) = b.length := by omega
  have hL : b.length ≤ LIM := by unfold LIM; omega
  have hL' : (b.length : Int) ≤ LIM := by unfold LIM; omega
  have h0 := xor_loop a b h hb b.length 0 (by omega)
  have e0 : bysL (xsI a b 0) = List.replicate b.length (.int .u8 0) := by
    unfold xsI bysL
    simp [bV]
  have e1 : xsI a b b.length = xorS a b := by
    unfold xsI
    rw [List.take_of_length_le (by rw [xorS_len h]; omega)]; simp
  have hB := bytesOf_bysL (xorS a b)
  unfold stX at h0
  rw [e1] at h0
  generalize xorS a b = Z at *
  simp [lc, loopsOf, Tryd.f74, wRow, e0] at h0
  simp [Tryd.f74, h, hm, hL, hL', h0, hB]
  rfl
theorem xor_call {d : Option Nat} {st : ASt} {a b : List UInt8} (h : a.length = b.length) (hb : b.length ≤ 1000000) : callV GW clW d (.fn (.func 74) [] []) [.str a, .str b] st = some (.val (.str (xorS a b)) st) :=
  callVW E74 (by decide) ext74 rfl rfl (liftW (by decide) rfl (xor_eq a b h hb)) rfl
end Go.Proofs.YteibklnligmanaaDoor


/- mac: begin, of, Extract. -/
namespace Go.Proofs.YteibklnligmanaaDoor
open Go Abs
set_option linter.unusedSimpArgs false
set_option linter.unusedVariables false
attribute [local simp] canonK canonAll canonSlot canonCell canonBox ownStep restrictTo pureCells pureRows reachL AObj.names List.range_succ appendA
/-- A sum that is under way. -/
structure Sm where
  h : V8
  r : List UInt8
  n : Nat
def Sm.put (x : Sm) (s : List UInt8) : Sm := ⟨wrH x.h x.r s, wrR x.h x.r s, x.n + s.length⟩
def Sm.sum (x : Sm) : List UInt8 := sumS x.h x.r x.n
def Sm.new : Sm := ⟨begin8, [], 0⟩
def Sm.B (x : Sm) : AObj := stB x.h x.r x.n
def Sm.ok (x : Sm) : Prop := x.r.length ≤ x.n
theorem Sm.put_ok {x : Sm} (h : x.ok) (s : List UInt8) : (x.put s).ok := by
  have := wrR_len x.h x.r s
  unfold Sm.ok at h ⊢
  unfold Sm.put
  simp only
  omega
theorem Sm.new_ok : Sm.new.ok := Nat.le_refl _
def mkeyS (k : List UInt8) : List UInt8 := (if 64 < k.length then shaS k else k) ++ repS [0] (64 - (if 64 < k.length then shaS k else k).length)
theorem mkeyS_len (k : List UInt8) : (mkeyS k).length = 64 := by
  unfold mkeyS
  split
  · rw [List.length_append, repS_length, sha_len]; rfl
  · rw [List.length_append, repS_length]; simp; omega
def macIn (k : List UInt8) : Sm := Sm.new.put (xorS (mkeyS k) (repS [54] 64))
theorem xk_len (k : List UInt8) (b : UInt8) : (xorS (mkeyS k) (repS [b] 64)).length = 64 := by
  rw [xorS_len (by rw [mkeyS_len, repS_length]; rfl), repS_length]; rfl
theorem macIn_n (k : List UInt8) : (macIn k).n = 64 := by
  unfold macIn Sm.put Sm.new
  simp only [xk_len]
theorem macIn_ok (k : List UInt8) : (macIn k).ok := Sm.put_ok Sm.new_ok _
theorem rep54 {d : Option Nat} {st : ASt} : callV GW clW d (.fn (.func 72) [] []) [.str [54], .int .i64 64] st = some (.val (.str (repS [54] 64)) st) := rep_call (n := 64) (by omega) (by simp)
theorem rep92 {d : Option Nat} {st : ASt} : callV GW clW d (.fn (.func 72) [] []) [.str [92], .int .i64 64] st = some (.val (.str (repS [92] 64)) st) := rep_call (n := 64) (by omega) (by simp)
set_option maxHeartbeats 8000000 in
theorem begin_eq (k : List UInt8) (hk : k.length ≤ 1000000) : clW 62 [.str k] [] = some (.ret (.tup [.ptr 1004000016 0 0, .fn (.func 75) [] [.ptr 1001 0 0]]), [(1004000016, (macIn k).B), (1001, .box 9 (.str (mkeyS k)))]) := by
  refine fnW Tryd.func62 rfl (by simp) (by decide) rfl ?_
  have hnn : newName 16 1003 = 1004000016 := by decide
  have hc := fun sl hp (h1 : aget hp 1004000016 = none) => new_call (d := 16) (sl := sl) (hp := hp) (by rw [hnn]; exact h1)
  rw [hnn] at hc
  have hsum := fun d st => shasum_call (d := d) (st := st) hk
  have hr54 := fun d st => rep54 (d := d) (st := st)
  have hx := fun d st => xor_call (a := mkeyS k) (b := repS [54] 64) (by rw [mkeyS_len, repS_length]; rfl) (by rw [repS_length]; decide) (d := d) (st := st)
  have hw := fun d sl hp (h0 : aget hp 1004000016 = some (stB begin8 [] 0)) => write_call (d := d) (sl := sl) (s := xorS (mkeyS k) (repS [54] 64)) (by omega) (by rw [xk_len]; omega) (by simp) h0
  have hB : (macIn k).B = stB (wrH begin8 [] (xorS (mkeyS k) (repS [54] 64))) (wrR begin8 [] (xorS (mkeyS k) (repS [54] 64))) (0 + (xorS (mkeyS k) (repS [54] 64)).length) := rfl
  rw [hB]
  have hlen := mkeyS_len k
  obtain ⟨S, hS⟩ : ∃ S, S = if 64 < k.length then shaS k else k := ⟨_, rfl⟩
  obtain ⟨z, hz⟩ : ∃ z, z = 64 - S.length := ⟨_, rfl⟩
  have hS64 : S.length ≤ 64 := by
    rw [hS]; split
    · rw [sha_len]; omega
    · omega
  have hK : mkeyS k = S ++ repS [0] z := by unfold mkeyS; rw [← hS, hz]
  have hr0 := fun d st => rep_call (s := [0]) (n := z) (by omega) (by simp) (d := d) (st := st)
  have hrl : (repS [0] z).length = z := by rw [repS_length]; simp
  have l1 : S.length + (repS [0] z).length ≤ LIM := by rw [hrl]; unfold LIM; omega
  have hm : IntKind.i64.wrap (64 - (S.length : Int)) = (z : Int) := by rw [i64_wrap (by omega) (by omega)]; omega
  rw [hK] at hx hw hlen ⊢
  generalize wrH begin8 [] (xorS (S ++ repS [0] z) (repS [54] 64)) = H at *
  generalize wrR begin8 [] (xorS (S ++ repS [0] z) (repS [54] 64)) = R at *
  generalize xorS (S ++ repS [0] z) (repS [54] 64) = X at *
  generalize repS [0] z = Z at *
  generalize repS [54] 64 = Y at *
  generalize 0 + X.length = m at *
  generalize begin8 = b8 at *
  simp only [stB, stV] at hc hw
  by_cases h : 64 < k.length
  · rw [if_pos h] at hS
    subst hS
    have h' : (64 : Int) < k.length := by omega
    have h'' : ¬ (k.length : Int) ≤ 64 := by omega
    generalize shaS k = S at *
    simp [Tryd.f62, stB, stV, h, h', h'', hc, hsum, hr54, hr0, hx, hw, l1, hm]
    rfl
  · rw [if_neg h] at hS
    subst hS
    have h' : ¬ (64 : Int) < S.length := by omega
    have h'' : (S.length : Int) ≤ 64 := by omega
    simp [Tryd.f62, stB, stV, h, h', h'', hc, hsum, hr54, hr0, hx, hw, l1, hm]
    rfl
set_option maxHeartbeats 8000000 in
theorem end_eq (k : List UInt8) (hk : k.length = 64) (x : Sm) (hx : x.ok) (hn : x.n ≤ 1000000) : clW 75 [.ptr 0 0 0, .ptr 1 0 0] [(0, x.B), (1, .box 9 (.str k))] = some (.ret (.str (shaS (xorS k (repS [92] 64) ++ x.sum))), [(0, x.B), (1, .box 9 (.str k))]) := by
  refine fnW Tryd.func75 rfl (by simp) (by decide) rfl ?_
  have hr92 := fun d st => rep92 (d := d) (st := st)
  have hx92 : k.length = (repS [92] 64).length := by rw [hk, repS_length]; rfl
  have hxo := fun d st => xor_call (a := k) (b := repS [92] 64) hx92 (by rw [repS_length]; decide) (d := d) (st := st)
  have hs := fun d sl hp (h0 : aget hp 0 = some (stB x.h x.r x.n)) => stsum_call (d := d) (sl := sl) hn (Nat.le_trans hx hn) h0
  have hxl : (xorS k (repS [92] 64)).length = 64 := by rw [xorS_len hx92, repS_length]; rfl
  have hsl := sum_len x.h x.r x.n
  have hsum := fun d st => shasum_call (s := xorS k (repS [92] 64) ++ sumS x.h x.r x.n) (d := d) (st := st) (by rw [List.length_append]; omega)
  have l1 : (xorS k (repS [92] 64)).length + (sumS x.h x.r x.n).length ≤ LIM := by rw [hxl, hsl]; unfold LIM; omega
  unfold Sm.sum Sm.B
  generalize shaS (xorS k (repS [92] 64) ++ sumS x.h x.r x.n) = D at *
  generalize xorS k (repS [92] 64) = X at *
  generalize sumS x.h x.r x.n = S at *
  generalize repS [92] 64 = Y at *
  simp only [stB, stV] at hs
  simp [Tryd.f75, stB, stV, hr92, hxo, hs, hsum, l1]
  rfl
end Go.Proofs.YteibklnligmanaaDoor


/- mac.of, Extract. -/
namespace Go.Proofs.YteibklnligmanaaDoor
open Go Abs
set_option linter.unusedSimpArgs false
set_option linter.unusedVariables false
attribute [local simp] canonK canonAll canonSlot canonCell canonBox ownStep restrictTo pureCells pureRows reachL AObj.names List.range_succ appendA
theorem begin_gen (k K : List UInt8) (M : Sm) (hc : clW 62 [.str k] [] = some (.ret (.tup [.ptr 1004000016 0 0, .fn (.func 75) [] [.ptr 1001 0 0]]), [(1004000016, M.B), (1001, .box 9 (.str K))]))
    (sl : Slots) (hp : Heap) (h1 : aget hp 1004000017000011 = none) (h2 : aget hp 1002000011 = none) : callV GW clW (some 11) (.fn (.func 62) [] []) [.str k] ⟨sl, hp⟩ =
    some (.val (.tup [.ptr 1004000017000011 0 0, .fn (.func 75) [] [.ptr 1002000011 0 0]]) ⟨sl, [(1004000017000011, M.B), (1002000011, .box 9 (.str K))] ++ hp⟩) := by
  refine callV_W (pre := [.str k]) (st1 := ⟨sl, hp⟩) (ns := []) (y := (.ret (.tup [.ptr 1004000016 0 0, .fn (.func 75) [] [.ptr 1001 0 0]]), [(1004000016, M.B), (1001, .box 9 (.str K))])) (st3 := ⟨sl, [(1004000017000011, M.B), (1002000011, .box 9 (.str K))] ++ hp⟩) E62 (by decide) ext62 rfl rfl rfl rfl (by exact hc) ?_ ?_
  · have e1 : newName 11 1004000016 = 1004000017000011 := by decide
    have e2 : newName 11 1001 = 1002000011 := by decide
    simp [afterCall, afterHeap, zipIx, movedOf, killAll, backMap, backName, AObj.moved, AObj.isRow, AObj.ormv, e1, e2, h1, h2, ASt.killn, Sm.B, stB, stV]
  · have e1 : newName 11 1004000016 = 1004000017000011 := by decide
    have e2 : newName 11 1001 = 1002000011 := by decide
    simp [answered, backMap, backName, e1, e2]
/-- Written into, one after another. -/
def Sm.puts (x : Sm) (l : List (List UInt8)) : Sm := l.foldl Sm.put x
theorem Sm.puts_ok : ∀ {l : List (List UInt8)} {x : Sm}, x.ok → (x.puts l).ok
  | [], _, h => h
  | s :: l, x, h => Sm.puts_ok (l := l) (Sm.put_ok h s)
def lenL (l : List (List UInt8)) : Nat := (l.map (·.length)).sum
theorem Sm.puts_n : ∀ {l : List (List UInt8)} {x : Sm}, (x.puts l).n = x.n + lenL l
  | [], _ => rfl
  | s :: l, x => by
    have := Sm.puts_n (l := l) (x := x.put s)
    unfold Sm.puts lenL at *
    simp only [List.foldl_cons, List.map_cons, List.sum_cons, this]
    simp only [Sm.put]; omega
theorem Sm.puts_take {x : Sm} {l : List (List UInt8)} {i : Nat} {s : List UInt8} (h : l[i]? = some s) : x.puts (l.take (i + 1)) = (x.puts (l.take i)).put s := by
  unfold Sm.puts
  rw [List.take_add_one, h]; simp
theorem lenL_take {l : List (List UInt8)} {i : Nat} {s : List UInt8} (h : l[i]? = some s) : lenL (l.take i) + s.length ≤ lenL l := by
  have e : l = l.take i ++ l.drop i := (List.take_append_drop i l).symm
  have hd : l.drop i = s :: l.drop (i + 1) := by
    obtain ⟨h1, h2⟩ := List.getElem?_eq_some_iff.1 h
    rw [← h2]; exact List.drop_eq_getElem_cons h1
  rw [hd] at e
  unfold lenL
  conv => rhs; rw [e]
  simp only [List.map_append, List.sum_append, List.map_cons, List.sum_cons]
  omega
def stO (x : Sm) (K : List UInt8) (l : List (List UInt8)) (i : Nat) : ASt := ⟨[(5, .ptr 1004000017000011 0 0), (6, .fn (.func 75) [] [.ptr 1002000011 0 0]), (14, .list 1 (strsL l)), (15, .int .i64 l.length), (16, .int .i64 i)], [(1004000017000011, x.B), (1002000011, .box 9 (.str K))]⟩
set_option maxHeartbeats 8000000 in
theorem of_round (x : Sm) (K s : List UInt8) (l : List (List UInt8)) (i : Nat) (hi : l[i]? = some s) (hl : l.length ≤ 1000000) (hx : x.ok) (hn : x.n ≤ 1000000) (hs : s.length ≤ 1000000) : rXW 49 (lc Tryd.f49 0) (codeX GW clW lpW 49 (lc Tryd.f49 0) (stO x K l i)) = some (.normal, stO (x.put s) K l (i + 1)) := by
  have hlt : i < l.length := (List.getElem?_eq_some_iff.1 hi).1
  have he : l[i] = s := (List.getElem?_eq_some_iff.1 hi).2
  have h1 : (i : Int) < l.length := by omega
  have hw : IntKind.i64.wrap ((i : Int) + 1) = ((i + 1 : Nat) : Int) := by rw [i64_wrap (by omega) (by omega)]; omega
  have hwr := fun d sl hp (h0 : aget hp 1004000017000011 = some (stB x.h x.r x.n)) => write_call (d := d) (sl := sl) hn hs (Nat.le_trans hx hn) h0
  unfold stO Sm.B Sm.put
  simp only
  generalize wrH x.h x.r s = H at *
  generalize wrR x.h x.r s = R at *
  generalize x.n + s.length = m at *
  generalize i + 1 = n at *
  simp only [stB, stV] at hwr
  simp [lc, loopsOf, Tryd.f49, stB, stV, h1, hw, hwr, strsL, hi, he, hlt]
set_option maxHeartbeats 8000000 in
theorem of_exit (x : Sm) (K : List UInt8) (l : List (List UInt8)) : rXW 49 (lc Tryd.f49 0) (codeX GW clW lpW 49 (lc Tryd.f49 0) (stO x K l l.length)) = some (.exit 0, ⟨(stO x K l l.length).sl ++ [(17, .bool false)], (stO x K l l.length).hp⟩) := by
  unfold stO Sm.B
  simp [lc, loopsOf, Tryd.f49, stB, stV, strsL]
theorem of_loop (x : Sm) (K : List UInt8) (l : List (List UInt8)) (hl : l.length ≤ 1000000) (hx : x.ok) (hn : x.n + lenL l ≤ 1000000) : ∀ (c i : Nat), i + c = l.length → lpW 49 (lc Tryd.f49 0) (stO (x.puts (l.take i)) K l i) = some (.exit 0, ⟨(stO (x.puts l) K l l.length).sl ++ [(17, .bool false)], (stO (x.puts l) K l l.length).hp⟩) := by
  intro c
  induction c with
  | zero =>
    intro i hi
    obtain rfl : i = l.length := by omega
    rw [List.take_length]
    exact loop_outW (of_exit _ K l) (by simp)
  | succ c ih =>
    intro i hi
    obtain ⟨s, hs⟩ : ∃ s, l[i]? = some s := ⟨_, List.getElem?_eq_getElem (by omega)⟩
    have hlt := lenL_take hs
    have hpn := Sm.puts_n (l := l.take i) (x := x)
    have := ih (i + 1) (by omega)
    rw [Sm.puts_take hs] at this
    exact loop_nextW (of_round _ K s l i hs hl (Sm.puts_ok hx) (by omega) (by omega)) this
def macS (k : List UInt8) (l : List (List UInt8)) : List UInt8 := shaS (xorS (mkeyS k) (repS [92] 64) ++ ((macIn k).puts l).sum)
theorem macS_len (k : List UInt8) (l : List (List UInt8)) : (macS k l).length = 32 := sha_len _
theorem end_call {d : Option Nat} {sl : Slots} {hp : Heap} {i j : Nat} (hij : i ≠ j) {k : List UInt8} (hk : k.length = 64) {x : Sm} (hx : x.ok) (hn : x.n ≤ 1000000) (hi : aget hp i = some x.B) (hj : aget hp j = some (.box 9 (.str k))) :
    callV GW clW d (.fn (.func 75) [] [.ptr j 0 0]) [.ptr i 0 0] ⟨sl, hp⟩ = some (.val (.str (shaS (xorS k (repS [92] 64) ++ x.sum))) ⟨sl, [(i, x.B), (j, .box 9 (.str k))] ++ hp⟩) := by
  have hc := end_eq k hk x hx hn
  generalize shaS (xorS k (repS [92] 64) ++ x.sum) = D at *
  have hji : j ≠ i := fun e => hij e.symm
  refine callV_W (first := []) (caps := [.ptr j 0 0]) (pre := [.ptr i 0 0, .ptr j 0 0]) (st1 := ⟨sl, hp⟩) (ns := [i, j]) (y := (.ret (.str D), [(0, x.B), (1, .box 9 (.str k))])) (st3 := ⟨sl, [(i, x.B), (j, .box 9 (.str k))] ++ hp⟩) E75 (by decide) ext75 ?_ ?_ ?_ ?_ ?_ ?_ ?_
  · simp [prepL, -GW_inplace]
  · simp [prepRows, ASt.fix, hfix, -GW_inplace]
  · simp [AV.namesL, reachL, hi, hj, Sm.B, stB, stV, hij, hji]
  · simp [hi, hj]
  · simp [AV.renL, subHeap, zipIx, toMap, hi, hj, hij, hji, AObj.unmv]
    exact hc
  · simp [afterCall, afterHeap, zipIx, movedOf, killAll, backMap, backName, AObj.moved, AObj.isRow, AObj.ormv, hi, hj, hij, hji, ASt.killn, Sm.B, stB, stV]
  · simp [answered]
set_option maxHeartbeats 8000000 in
theorem of_eq (k : List UInt8) (hk : k.length ≤ 1000000) (l : List (List UInt8)) (hl : l.length ≤ 1000000) (hll : lenL l ≤ 900000) : clW 49 [.str k, .list 1 (strsL l)] [] = some (.ret (.str (macS k l)), []) := by
  refine fnW Tryd.func49 rfl (by simp) (by decide) rfl ?_
  have hb := fun sl => begin_gen k (mkeyS k) (macIn k) (begin_eq k hk) sl [] rfl rfl
  have hok := macIn_ok k
  have hn := macIn_n k
  have h0 := of_loop (macIn k) (mkeyS k) l hl hok (by omega) l.length 0 (by omega)
  have hpn := Sm.puts_n (l := l) (x := macIn k)
  have he := fun d sl hp hi hj => end_call (d := d) (sl := sl) (hp := hp) (i := 1004000017000011) (j := 1002000011) (by decide) (mkeyS_len k) (Sm.puts_ok (l := l) hok) (by omega) hi hj
  unfold macS
  rw [List.take_zero, show (macIn k).puts [] = macIn k from rfl] at h0
  generalize shaS (xorS (mkeyS k) (repS [92] 64) ++ ((macIn k).puts l).sum) = D at *
  generalize (macIn k).puts l = M at *
  generalize macIn k = N at *
  generalize mkeyS k = K at *
  unfold stO at h0
  unfold Sm.B at hb h0 he
  simp [stB, stV] at hb he
  simp [lc, loopsOf, Tryd.f49, stB, stV] at h0
  simp [Tryd.f49, hb, h0, he]
  rfl
end Go.Proofs.YteibklnligmanaaDoor


/- A Builder that is a local variable. -/
namespace Go.Proofs.YteibklnligmanaaDoor
open Go Abs
set_option linter.unusedSimpArgs false
set_option linter.unusedVariables false
def bysL' (l : List UInt8) : List AV := l.map bV
@[simp] theorem bysL'_length {l : List UInt8} : (bysL' l).length = l.length := by simp [bysL']
theorem bysL'_app {l m : List UInt8} : bysL' (l ++ m) = bysL' l ++ List.map (fun b : UInt8 => AV.int .u8 b.toNat) m := by simp [bysL', bV]
@[simp] theorem bysL'_nil : bysL' [] = [] := rfl
def adr : Bool → Nat → AV
  | true, i => .ptr i 0 0
  | false, _ => .nilp
def sBox (p : Bool) (i k : Nat) : AObj := .box 72 (.agg [adr p i, .own k])
def sRow (bs : List UInt8) (mv : Bool) : AObj := .row 1 (bysL' bs) false ⟨mv, 5⟩
def hpY (p : Bool) (bs : List UInt8) (mv : Bool) : Heap := [(0, sBox p 0 1), (1, sRow bs mv)]
attribute [local simp] canonK canonAll canonSlot canonCell canonBox ownStep restrictTo pureCells pureRows reachL AObj.names List.range_succ appendA
@[simp] theorem noesc' {d v st} : callV G cl d (.fn (.func 66) [] []) [v] st = some (.val v st) := rfl
set_option maxHeartbeats 8000000 in
set_option maxRecDepth 100000 in
theorem copyCheck_b (p : Bool) (bs : List UInt8) : cl 54 [.ptr 0 0 0] (hpY p bs false) = some (.ret (.tup []), hpY true bs false) := by
  refine fn_intro Tryd.func54 rfl (by simp) (by decide) rfl ?_
  cases p
  · simp [Tryd.f54, hpY, sBox, adr, sRow]
    rfl
  · simp [Tryd.f54, hpY, sBox, adr, sRow]
    rfl
/-- A value that hangs on no memory. -/
structure Plain' (x : AV) : Prop where
  rv : ∀ hp, x.rv hp = x
  names : x.names = []
  rows : x.rows = []
  ren : ∀ m, x.ren m = x
theorem plains' {g : FuncId} {rest : List AV} (h : ∀ x ∈ rest, Plain' x) : (∀ hp j, prepL G g hp rest j = rest) ∧ (∀ j, prepRows G g rest j = []) ∧ AV.namesL rest = [] ∧ ∀ m, AV.renL m rest = rest := by
  induction rest with
  | nil => exact ⟨fun _ _ => rfl, fun _ => rfl, rfl, fun _ => rfl⟩
  | cons a r ih =>
    obtain ⟨h1, h2, h3, h4⟩ := ih fun x hx => h x (List.mem_cons_of_mem _ hx)
    have ha := h a (by simp)
    refine ⟨fun hp j => ?_, fun j => ?_, ?_, fun m => ?_⟩
    · simp [prepL, h1, ha.rv]
    · simp [prepRows, h2, ha.rows]
    · simp [AV.namesL, h3, ha.names]
    · simp [AV.renL, h4, ha.ren]
theorem aget_mapv' {f : AObj → AObj} {hp : Heap} {n : Nat} : aget (hp.map fun p => (p.1, f p.2)) n = (aget hp n).map f := by
  induction hp with
  | nil => rfl
  | cons a r ih => obtain ⟨a1, a2⟩ := a; simp only [List.map_cons, aget_cons', ih]; split <;> rfl
theorem callY {g : FuncId} {i k : Nat} {d : Option Nat} {p p' : Bool} {bs bs' : List UInt8} {mv mv' : Bool} {rest : List AV} {v : AV} {sl : Slots} {hp : Heap} (hE : G.E g = true) (hg : g < RB) (hx : G.ext g = none) (hik : i ≠ k) (hrest : ∀ x ∈ rest, Plain' x) (hv : Plain' v)
    (h0 : aget hp i = some (sBox p i k)) (h1 : aget hp k = some (sRow bs mv)) (hc : cl g (.ptr 0 0 0 :: rest) (hpY p bs false) = some (.ret v, hpY p' bs' mv')) :
    callV G cl d (.fn (.func g) [] []) (.ptr i 0 0 :: rest) ⟨sl, hp⟩ =
      some (.val v ⟨if mv' then sl.map (fun p => (p.1, p.2.kill k)) else sl, [(i, sBox p' i k), (k, sRow bs' (mv' || mv))] ++ (if mv' then hp.map (fun p => (p.1, p.2.kill k)) else hp)⟩) := by
  obtain ⟨p1, p2, p3, p4⟩ := plains' (g := g) hrest
  have hki : k ≠ i := fun e => hik e.symm
  have hkl : aget (hp.map fun p => (p.1, p.2.kill k)) k = some (sRow bs mv) := by rw [aget_mapv', h1]; rfl
  refine callV_of (pre := .ptr i 0 0 :: rest) (st1 := ⟨sl, hp⟩) (ns := [i, k]) (y := (.ret v, hpY p' bs' mv')) (st3 := ⟨if mv' then sl.map (fun p => (p.1, p.2.kill k)) else sl, [(i, sBox p' i k), (k, sRow bs' (mv' || mv))] ++ (if mv' then hp.map (fun p => (p.1, p.2.kill k)) else hp)⟩) hE hg hx ?_ ?_ ?_ ?_ ?_ ?_ ?_
  · simp [prepL, p1]
  · simp [prepRows, p2, ASt.fix, hfix]
  · cases p <;> simp [AV.namesL, p3, reachL, h0, h1, sBox, adr, sRow, hik, hki]
  · simp [h0, h1]
  · cases p <;> simp [AV.renL, p4, subHeap, zipIx, toMap, h0, h1, sBox, adr, sRow, hik, hki, AObj.unmv] <;> exact hc
  · cases p' <;> cases mv' <;> simp [afterCall, afterHeap, zipIx, movedOf, killAll, backMap, backName, hpY, sBox, adr, sRow, AObj.moved, AObj.isRow, AObj.ormv, h0, h1, hik, hki, hkl, ASt.killn]
  · simp [answered, hv.ren]
theorem copy_B {i k d p bs mv sl hp} (hik : i ≠ k) (h0 : aget hp i = some (sBox p i k)) (h1 : aget hp k = some (sRow bs mv)) : callV G cl d (.fn (.func 54) [] []) [.ptr i 0 0] ⟨sl, hp⟩ = some (.val (.tup []) ⟨sl, [(i, sBox true i k), (k, sRow bs mv)] ++ hp⟩) := by
  have := callY (d := d) (sl := sl) (g := 54) (rest := []) rfl (by decide) rfl hik (by simp) ⟨fun _ => rfl, rfl, rfl, fun _ => rfl⟩ h0 h1 (copyCheck_b p bs)
  simpa using this
set_option maxHeartbeats 8000000 in
set_option maxRecDepth 100000 in
theorem writeString_b (p : Bool) (bs t : List UInt8) (hb : bs.length + t.length ≤ 4000000) : cl 55 [.ptr 0 0 0, .str t] (hpY p bs false) = some (.ret (.tup [.int .i64 t.length, .nili]), hpY true (bs ++ t) true) := by
  refine fn_intro Tryd.func55 rfl (by simp) (by decide) rfl ?_
  have hL : bs.length + t.length ≤ LIM := by unfold LIM; omega
  have h := fun d sl => copy_B (d := d) (p := p) (bs := bs) (mv := false) (sl := sl) (hp := hpY p bs false) (i := 0) (k := 1) (by decide) rfl rfl
  cases p <;> simp only [hpY, sBox, adr, sRow] at h <;> simp [Tryd.f55, hpY, sBox, adr, sRow, h, hL, bysL'_app] <;> rfl
set_option maxHeartbeats 8000000 in
set_option maxRecDepth 100000 in
theorem len_b (p : Bool) (bs : List UInt8) : cl 68 [.ptr 0 0 0] (hpY p bs false) = some (.ret (.int .i64 bs.length), hpY p bs false) := by
  refine fn_intro Tryd.func68 rfl (by simp) (by decide) rfl ?_
  cases p <;> simp [Tryd.f68, hpY, sBox, adr, sRow] <;> rfl
theorem string_b (p : Bool) (bs : List UInt8) (hb : bs.length ≤ 4000000) : cl 43 [.ptr 0 0 0] (hpY p bs false) = some (.ret (.str bs), [(0, .box 72 (.agg [adr p 0, .undef])), (1, sRow [] true)]) := by
  refine call_prim (p := strP 5) (by decide) (by rfl) ?_
  have hL : bs.length ≤ LIM := by unfold LIM; omega
  have h := bytesR_map bs
  simp only [bysL', hpY, sBox, sRow]
  cases p <;> simp [strP, cellAt, AV.cells, hL, h, ASt.killn, hput, hmod, adr]
section
variable {i k : Nat} {d : Option Nat} {p : Bool} {bs : List UInt8} {mv : Bool} {sl : Slots} {hp : Heap}
theorem string_B {t : List UInt8} (hb : bs.length + t.length ≤ 4000000) (hik : i ≠ k) (h0 : aget hp i = some (sBox p i k)) (h1 : aget hp k = some (sRow bs mv)) : callV G cl d (.fn (.func 55) [] []) [.ptr i 0 0, .str t] ⟨sl, hp⟩ =
    some (.val (.tup [.int .i64 t.length, .nili]) ⟨sl.map (fun p => (p.1, p.2.kill k)), [(i, sBox true i k), (k, sRow (bs ++ t) true)] ++ hp.map (fun p => (p.1, p.2.kill k))⟩) := by
  have := callY (d := d) (sl := sl) (g := 55) (rest := [.str t]) rfl (by decide) rfl hik (by simpa using (⟨fun _ => rfl, rfl, rfl, fun _ => rfl⟩ : Plain' _)) ⟨fun _ => rfl, rfl, rfl, fun _ => rfl⟩ h0 h1 (writeString_b p bs t hb)
  simpa using this
theorem len_B (hik : i ≠ k) (h0 : aget hp i = some (sBox p i k)) (h1 : aget hp k = some (sRow bs mv)) : callV G cl d (.fn (.func 68) [] []) [.ptr i 0 0] ⟨sl, hp⟩ =
    some (.val (.int .i64 bs.length) ⟨sl, [(i, sBox p i k), (k, sRow bs mv)] ++ hp⟩) := by
  have := callY (d := d) (sl := sl) (g := 68) (rest := []) rfl (by decide) rfl hik (by simp) ⟨fun _ => rfl, rfl, rfl, fun _ => rfl⟩ h0 h1 (len_b p bs)
  simpa using this
theorem text_B (hb : bs.length ≤ 4000000) (hik : i ≠ k) (h0 : aget hp i = some (sBox p i k)) (h1 : aget hp k = some (sRow bs mv)) :
    callV G cl d (.fn (.func 43) [] []) [.ptr i 0 0] ⟨sl, hp⟩ = some (.val (.str bs) ⟨sl.map (fun p => (p.1, p.2.kill k)), [(i, .box 72 (.agg [adr p i, .undef])), (k, sRow [] true)] ++ hp.map (fun p => (p.1, p.2.kill k))⟩) := by
  have hki : k ≠ i := fun e => hik e.symm
  have hkl : aget (hp.map fun p => (p.1, p.2.kill k)) k = some (sRow bs mv) := by rw [aget_mapv', h1]; rfl
  refine callV_of (pre := [.ptr i 0 0]) (st1 := ⟨sl, hp⟩) (ns := [i, k]) (y := (.ret (.str bs), [(0, .box 72 (.agg [adr p 0, .undef])), (1, sRow [] true)])) (st3 := ⟨sl.map (fun p => (p.1, p.2.kill k)), [(i, .box 72 (.agg [adr p i, .undef])), (k, sRow [] true)] ++ hp.map (fun p => (p.1, p.2.kill k))⟩) E43 (by decide) rfl ?_ ?_ ?_ ?_ ?_ ?_ ?_
  · simp [prepL]
  · simp [prepRows, ASt.fix, hfix]
  · cases p <;> simp [AV.namesL, reachL, h0, h1, sBox, adr, sRow, hik, hki]
  · simp [h0, h1]
  · cases p <;> simp [AV.renL, subHeap, zipIx, toMap, h0, h1, sBox, adr, sRow, hik, hki, AObj.unmv]
    · exact string_b false bs hb
    · exact string_b true bs hb
  · cases p <;> simp [afterCall, afterHeap, zipIx, movedOf, killAll, backMap, backName, sBox, adr, sRow, AObj.moved, AObj.isRow, AObj.ormv, h0, h1, hik, hki, hkl, ASt.killn]
  · simp [answered]
end
end Go.Proofs.YteibklnligmanaaDoor


/- mac: Extract, Expand, Info, Derive. -/
namespace Go.Proofs.YteibklnligmanaaDoor
open Go Abs
set_option linter.unusedSimpArgs false
set_option linter.unusedVariables false
theorem prepL_W {g : FuncId} {hp : Heap} : ∀ (l : List AV) (j : Nat), prepL GW g hp l j = prepL G g hp l j
  | [], _ => rfl
  | a :: r, j => by simp only [prepL, prepL_W r]; rfl
theorem prepRows_W {g : FuncId} : ∀ (l : List AV) (j : Nat), prepRows GW g l j = prepRows G g l j
  | [], _ => rfl
  | a :: r, j => by simp only [prepRows, prepRows_W r]; rfl
/-- A call that was gone through without the shelf, lifted. -/
theorem callV_lift {d : Option Nat} {g : FuncId} {first caps args : List AV} {st : ASt} {r : AR} (hg : g < RB) (hp0 : primX g = some cl) (h : callV G cl d (.fn (.func g) first caps) args st = some r) : callV GW clW d (.fn (.func g) first caps) args st = some r := by
  unfold callV at h ⊢
  have he : extA GW (.fn (.func g) first caps) args = extA G (.fn (.func g) first caps) args := rfl
  rw [he]
  split at h
  · exact h
  · unfold callA callB at h ⊢
    simp only [prepL_W, prepRows_W, GW_E] at h ⊢
    split at h
    · rename_i hcond
      rw [if_pos hcond]
      cases hc : cl g (AV.renL (toMap (reachL 40 (st.fix (prepRows G g (first ++ args ++ caps) 0)).hp (AV.namesL (prepL G g st.hp (first ++ args ++ caps) 0)) [])) (prepL G g st.hp (first ++ args ++ caps) 0)) (subHeap (reachL 40 (st.fix (prepRows G g (first ++ args ++ caps) 0)).hp (AV.namesL (prepL G g st.hp (first ++ args ++ caps) 0)) []) (st.fix (prepRows G g (first ++ args ++ caps) 0)).hp) with
      | none => rw [hc] at h; cases h
      | some y =>
        rw [liftW hg hp0 hc]
        rw [hc] at h
        exact h
    · cases h
/-- A call that is handed rows, told as lists. -/
theorem callR_W {d : Option Nat} {g : FuncId} {first caps args all pre : List AV} {st : ASt} {v : AV} (hE : G.E g = true) (hg : g < RB) (hx : G.ext g = none) (hin : inpT.contains g = false) (ha : first ++ args ++ caps = all)
    (hpre : AV.rvL st.hp all = pre) (hn : AV.namesL pre = []) (hc : clW g pre [] = some (.ret v, [])) (hv : v.names = []) : callV GW clW d (.fn (.func g) first caps) args st = some (.val v (st.fix (AV.rowsL all))) := by
  subst ha
  refine callV_W (pre := pre) (st1 := st.fix (AV.rowsL (first ++ args ++ caps))) (ns := []) (y := (.ret v, [])) hE hg hx ?_ ?_ ?_ rfl ?_ (st3 := st.fix (AV.rowsL (first ++ args ++ caps))) ?_ ?_
  · rw [prepL_W, prepL_rv (inp_false hin), hpre]
  · rw [prepRows_W, prepRows_rv (inp_false hin)]
  · rw [hn]; rfl
  · rw [nameless_ren.nameless_renL hn]; exact hc
  · rfl
  · simp only [answered, nameless_ren hv]
attribute [local simp] canonK canonAll canonSlot canonCell canonBox ownStep restrictTo pureCells pureRows reachL AObj.names List.range_succ appendA
set_option maxHeartbeats 8000000 in
theorem extract_eq (a b : List UInt8) (ha : a.length ≤ 1000000) (hb : b.length ≤ 800000) : clW 33 [.str a, .str b] [] = some (.ret (.str (macS a [b])), []) := by
  refine fnW Tryd.func33 rfl (by simp) (by decide) rfl ?_
  have he := of_eq a ha [b] (by simp) (by simp [lenL]; omega)
  generalize macS a [b] = D at *
  have ho := fun d sl => callR_W (d := d) (first := []) (caps := []) (args := [.str a, .own 1007]) (pre := [.str a, .list 1 (strsL [b])]) (st := ⟨sl, [(1007, .row 1 [.str b] false ⟨false, 9⟩)]⟩) E49 (by decide) ext49 rfl rfl rfl rfl he rfl
  simp [Tryd.f33, ho]
  rfl
theorem parts_eq (k s : List UInt8) : clW 67 [.str k, .str s] [] = some (.ret (.fn (.func 80) [] [.ptr 1002 0 0, .ptr 1003 0 0]), [(1002, .box 9 (.str k)), (1003, .box 9 (.str s))]) := call_intro (by decide) rfl (by kernel_rfl)
theorem parts_call (k s : List UInt8) (sl : Slots) (hp : Heap) (h1 : aget hp 1003000018 = none) (h2 : aget hp 1004000018 = none) : callV GW clW (some 18) (.fn (.func 67) [] []) [.str k, .str s] ⟨sl, hp⟩ =
    some (.val (.fn (.func 80) [] [.ptr 1003000018 0 0, .ptr 1004000018 0 0]) ⟨sl, [(1003000018, .box 9 (.str k)), (1004000018, .box 9 (.str s))] ++ hp⟩) := by
  refine callV_W (pre := [.str k, .str s]) (st1 := ⟨sl, hp⟩) (ns := []) (y := (.ret (.fn (.func 80) [] [.ptr 1002 0 0, .ptr 1003 0 0]), [(1002, .box 9 (.str k)), (1003, .box 9 (.str s))])) (st3 := ⟨sl, [(1003000018, .box 9 (.str k)), (1004000018, .box 9 (.str s))] ++ hp⟩) E67 (by decide) ext67 rfl rfl rfl rfl (by exact parts_eq k s) ?_ rfl
  have e : newName 18 1002 = 1003000018 := by decide
  have e' : newName 18 1003 = 1004000018 := by decide
  simp [afterCall, afterHeap, zipIx, movedOf, killAll, backMap, backName, AObj.moved, AObj.isRow, AObj.ormv, e, e', h1, h2]
end Go.Proofs.YteibklnligmanaaDoor


/- mac.Expand: the Builder; the rounds. -/
namespace Go.Proofs.YteibklnligmanaaDoor
open Go Abs
set_option linter.unusedSimpArgs false
set_option linter.unusedVariables false
attribute [local simp] canonK canonAll canonSlot canonCell canonBox ownStep restrictTo pureCells pureRows reachL AObj.names List.range_succ appendA
def nBox (p : Bool) (i : Nat) : AObj := .box 72 (.agg [adr p i, .nils])
set_option maxRecDepth 100000 in
theorem copyCheck_n : cl 54 [.ptr 0 0 0] [(0, nBox false 0)] = some (.ret (.tup []), [(0, nBox true 0)]) := by
  refine fn_intro Tryd.func54 rfl (by simp) (by decide) rfl ?_
  simp [Tryd.f54, nBox, adr]
  rfl
theorem copy_n {d sl} : callV G cl d (.fn (.func 54) [] []) [.ptr 0 0 0] ⟨sl, [(0, nBox false 0)]⟩ = some (.val (.tup []) ⟨sl, [(0, nBox true 0), (0, nBox false 0)]⟩) := by
  refine callV_of (pre := [.ptr 0 0 0]) (st1 := ⟨sl, [(0, nBox false 0)]⟩) (ns := [0]) (y := (.ret (.tup []), [(0, nBox true 0)])) (st3 := ⟨sl, [(0, nBox true 0), (0, nBox false 0)]⟩) rfl (by decide) rfl ?_ ?_ ?_ ?_ ?_ ?_ ?_
  · simp [prepL]
  · simp [prepRows, ASt.fix, hfix]
  · simp [AV.namesL, reachL, nBox, adr]
  · simp [nBox]
  · simp [AV.renL, subHeap, zipIx, toMap, nBox, adr, AObj.unmv]
    exact copyCheck_n
  · simp [afterCall, afterHeap, zipIx, movedOf, killAll, backMap, backName, AObj.moved, AObj.isRow, AObj.ormv, ASt.killn, nBox, adr]
  · simp [answered]
theorem len_n : cl 68 [.ptr 0 0 0] [(0, nBox false 0)] = some (.ret (.int .i64 0), [(0, nBox false 0)]) := by
  refine fn_intro Tryd.func68 rfl (by simp) (by decide) rfl ?_
  simp [Tryd.f68, nBox, adr]
  rfl
set_option maxHeartbeats 8000000 in
theorem writeString_n (t : List UInt8) (ht : t.length ≤ 1000000) : cl 55 [.ptr 0 0 0, .str t] [(0, nBox false 0)] = some (.ret (.tup [.int .i64 t.length, .nili]), [(0, sBox true 0 1014), (1014, sRow t false)]) := by
  refine fn_intro Tryd.func55 rfl (by simp) (by decide) rfl ?_
  have hL : t.length ≤ LIM := by unfold LIM; omega
  have h := fun d sl => copy_n (d := d) (sl := sl)
  simp only [nBox, adr] at h
  simp [Tryd.f55, nBox, adr, h, hL]
  rfl
section
variable {i d : Nat} {sl : Slots} {hp : Heap}
theorem len_N {d : Option Nat} (h0 : aget hp i = some (nBox false 0)) : callV G cl d (.fn (.func 68) [] []) [.ptr i 0 0] ⟨sl, hp⟩ = some (.val (.int .i64 0) ⟨sl, (i, nBox false 0) :: hp⟩) := by
  refine callV_of (pre := [.ptr i 0 0]) (st1 := ⟨sl, hp⟩) (ns := [i]) (y := (.ret (.int .i64 0), [(0, nBox false 0)])) (st3 := ⟨sl, (i, nBox false 0) :: hp⟩) E68 (by decide) rfl ?_ ?_ ?_ ?_ ?_ ?_ ?_
  · simp [prepL]
  · simp [prepRows, ASt.fix, hfix]
  · simp [AV.namesL, reachL, h0, nBox, adr]
  · simp [h0]
  · simp [AV.renL, subHeap, zipIx, toMap, h0, nBox, adr, AObj.unmv]
    exact len_n
  · simp [afterCall, afterHeap, zipIx, movedOf, killAll, backMap, backName, AObj.moved, AObj.isRow, AObj.ormv, ASt.killn, h0, nBox, adr]
  · simp [answered]
theorem string_N {t : List UInt8} (ht : t.length ≤ 1000000) (h0 : aget hp i = some (nBox false 0)) (hf : aget hp (newName d 1014) = none) (hi : i ≠ newName d 1014) : callV G cl (some d) (.fn (.func 55) [] []) [.ptr i 0 0, .str t] ⟨sl, hp⟩ =
    some (.val (.tup [.int .i64 t.length, .nili]) ⟨sl, [(i, sBox true i (newName d 1014)), (newName d 1014, sRow t false)] ++ hp⟩) := by
  refine callV_of (pre := [.ptr i 0 0, .str t]) (st1 := ⟨sl, hp⟩) (ns := [i]) (y := (.ret (.tup [.int .i64 t.length, .nili]), [(0, sBox true 0 1014), (1014, sRow t false)])) (st3 := ⟨sl, [(i, sBox true i (newName d 1014)), (newName d 1014, sRow t false)] ++ hp⟩) E55 (by decide) rfl ?_ ?_ ?_ ?_ ?_ ?_ ?_
  · simp [prepL]
  · simp [prepRows, ASt.fix, hfix]
  · simp [AV.namesL, reachL, h0, nBox, adr]
  · simp [h0]
  · simp [AV.renL, subHeap, zipIx, toMap, h0, nBox, adr, AObj.unmv]
    exact writeString_n t ht
  · simp [afterCall, afterHeap, zipIx, movedOf, killAll, backMap, backName, AObj.moved, AObj.isRow, AObj.ormv, ASt.killn, h0, hf, nBox, adr, sBox, sRow]
  · simp [answered]
end
end Go.Proofs.YteibklnligmanaaDoor


/- mac.Expand. -/
namespace Go.Proofs.YteibklnligmanaaDoor
open Go Abs
set_option linter.unusedSimpArgs false
set_option linter.unusedVariables false
attribute [local simp] canonK canonAll canonSlot canonCell canonBox ownStep restrictTo pureCells pureRows reachL AObj.names List.range_succ appendA
noncomputable abbrev recE : LRec := rcW 57 Tryd.f57 .ready none
noncomputable abbrev recE' : LRec := rcW 57 Tryd.f57 .done (some (.exit 0))
theorem rokE : GW.roundOK recE = true := by kernel_rfl
def eSl (a b c e : Nat) : Slots := [(5, .ptr a 0 0), (8, .ptr b 0 0), (18, .fn (.func 80) [] [.ptr c 0 0, .ptr e 0 0]), (19, .undef)]
noncomputable def hpE0 (k s : List UInt8) : Heap := [(0, .loop recE (eSl 1 2 3 4)), (1, .box 3 (.int .i64 32)), (2, nBox false 0), (3, .box 9 (.str k)), (4, .box 9 (.str s))]
noncomputable def hpE1 (k s D : List UInt8) (q : Nat) (mv : Bool) (r : LRec) : Heap := [(0, .loop r (eSl 1 2 3 4)), (1, .box 3 (.int .i64 32)), (2, sBox true 2 q), (3, .box 9 (.str k)), (4, .box 9 (.str s)), (q, sRow D mv)]
set_option maxHeartbeats 8000000 in
theorem round_E1 (k s D : List UInt8) (hD : D.length = 32) : clW RB [.str D] (hpE0 k s) = some (.ret (.bool true), hpE1 k s D 1015000024 false recE) := by
  have : RB = RB + 0 := rfl
  rw [this]
  have hr := rokE
  have hl := fun d sl hp (h0 : aget hp 2 = some (nBox false 0)) => callV_lift (by decide) rfl (len_N (d := d) (sl := sl) h0)
  have hn : newName 24 1014 = 1015000024 := by decide
  have hw := fun sl hp (h0 : aget hp 2 = some (nBox false 0)) (h1 : aget hp 1015000024 = none) => callV_lift (by decide) rfl (string_N (d := 24) (sl := sl) (t := D) (by omega) h0 (by rw [hn]; exact h1) (by rw [hn]; decide))
  rw [hn] at hw
  refine round_intro ?_
  unfold runRound
  unfold recE rcW at hr
  simp only [nBox, adr] at hl hw
  simp [hpE0, recE, rcW, rfsOf, Tryd.f57, nBox, adr, eSl] at hr ⊢
  simp [hr, hl, hw, hD]
  rfl
set_option maxHeartbeats 8000000 in
theorem round_E2 (k s D D2 : List UInt8) (hD : D.length = 32) : clW RB [.str D2] (hpE1 k s D 5 false recE) = some (.ret (.bool false), hpE1 k s D 5 false recE') := by
  have : RB = RB + 0 := rfl
  rw [this]
  have hr := rokE
  have hl := fun d sl hp (h0 : aget hp 2 = some (sBox true 2 5)) (h1 : aget hp 5 = some (sRow D false)) => callV_lift (by decide) rfl (len_B (d := d) (sl := sl) (by decide) h0 h1)
  refine round_intro ?_
  unfold runRound
  unfold recE rcW at hr
  simp only [sBox, adr, sRow, hD] at hl
  simp [hpE1, recE, rcW, rfsOf, Tryd.f57, sBox, adr, sRow, eSl] at hr ⊢
  simp [hr, hl, hD]
  rfl
/-! Seen from the function that gives the parts. -/
noncomputable def hpP0 (k s : List UInt8) : Heap := [(0, .loop recE (eSl 3 4 1 2)), (1, .box 9 (.str k)), (2, .box 9 (.str s)), (3, .box 3 (.int .i64 32)), (4, nBox false 0)]
noncomputable def hpP1 (k s D : List UInt8) (q : Nat) (mv : Bool) (r : LRec) : Heap := [(0, .loop r (eSl 3 4 1 2)), (1, .box 9 (.str k)), (2, .box 9 (.str s)), (3, .box 3 (.int .i64 32)), (4, sBox true 4 q), (q, sRow D mv)]
def junk (a b : List AV) : Heap := [(1017, .row 1 a true ⟨false, 9⟩), (1015, .row 1 b false ⟨false, 5⟩)]
theorem nnE : newName 21 1015000024 = 1015000025000021 := by decide
noncomputable def hpP0' (k s D : List UInt8) (a b : List AV) : Heap := [(0, .loop recE (eSl 3 4 1 2)), (3, .box 3 (.int .i64 32)), (4, sBox true 4 1015000025000021), (1, .box 9 (.str k)), (2, .box 9 (.str s)), (1015000025000021, sRow D false)] ++ (junk a b ++ hpP0 k s)
noncomputable def hpP1' (k s D : List UInt8) (a b : List AV) : Heap := [(0, .loop recE' (eSl 3 4 1 2)), (3, .box 3 (.int .i64 32)), (4, sBox true 4 1015000025000021), (1, .box 9 (.str k)), (2, .box 9 (.str s)), (1015000025000021, sRow D false)] ++ (junk a b ++ hpP1 k s D 1015000025000021 false recE)
theorem yield_E1 (k s D : List UInt8) (hD : D.length = 32) (a b : List AV) (sl : Slots) : callV GW clW (some 21) (.yld 0) [.str D] ⟨sl, junk a b ++ hpP0 k s⟩ = some (.val (.bool true) ⟨sl, hpP0' k s D a b⟩) := by
  refine callY_W (st1 := ⟨sl, junk a b ++ hpP0 k s⟩) (ns := [0, 3, 4, 1, 2]) (j := 0) (pre := [.str D]) rfl rfl (by kernel_rfl) rfl rfl (by exact round_E1 k s D hD) ?_ rfl
  simp [afterCall, junk, hpP0, hpP0', hpE1, backName, backMap, afterHeap, movedOf, killAll, zipIx, nnE, AObj.moved, AObj.isRow, AObj.ormv, nBox, sBox, sRow, adr, oren_loop, eSl]
theorem yield_E2 (k s D D2 : List UInt8) (hD : D.length = 32) (a b : List AV) (sl : Slots) : callV GW clW (some 21) (.yld 0) [.str D2] ⟨sl, junk a b ++ hpP1 k s D 1015000025000021 false recE⟩ = some (.val (.bool false) ⟨sl, hpP1' k s D a b⟩) := by
  refine callY_W (st1 := ⟨sl, junk a b ++ hpP1 k s D 1015000025000021 false recE⟩) (ns := [0, 3, 4, 1, 2, 1015000025000021]) (j := 0) (pre := [.str D2]) rfl rfl (by kernel_rfl) rfl rfl (by exact round_E2 k s D D2 hD) ?_ rfl
  simp [afterCall, junk, hpP1, hpP1', hpE1, backName, backMap, afterHeap, movedOf, killAll, zipIx, nnE, AObj.moved, AObj.isRow, AObj.ormv, nBox, sBox, sRow, adr, oren_loop, eSl]
theorem ofr_call {d : Option Nat} {sl : Slots} {hp : Heap} {i : Nat} {k a b c D : List UInt8} (h0 : aget hp i = some (.row 1 [.str a, .str b, .str c] false ⟨false, 9⟩)) (hc : clW 49 [.str k, .list 1 (strsL [a, b, c])] [] = some (.ret (.str D), [])) :
    callV GW clW d (.fn (.func 49) [] []) [.str k, .own i] ⟨sl, hp⟩ = some (.val (.str D) ((⟨sl, hp⟩ : ASt).fix [i])) := by
  have := callR_W (d := d) (first := []) (caps := []) (args := [.str k, .own i]) (pre := [.str k, .list 1 (strsL [a, b, c])]) (st := ⟨sl, hp⟩) E49 (by decide) ext49 rfl rfl (by simp [h0, strsL]) rfl hc rfl
  rw [this]
  simp
def stP (k s l : List UInt8) (i : Nat) (hp : Heap) : ASt := ⟨[(0, .yld 0), (1, .ptr 1 0 0), (2, .ptr 2 0 0), (4, .str l), (5, .int .i64 i)], hp⟩
set_option maxHeartbeats 16000000 in
theorem parts_round1 (k s D : List UInt8) (hD : D.length = 32) (hc : clW 49 [.str k, .list 1 (strsL [[], s, [1]])] [] = some (.ret (.str D), [])) :
    rXW 80 (lc Tryd.f80 0) (codeX GW clW lpW 80 (lc Tryd.f80 0) (stP k s [] 1 (hpP0 k s))) = some (.normal, stP k s D 2 (hpP1 k s D 1015000025000021 false recE)) := by
  have ho := fun d sl hp h0 => ofr_call (d := d) (sl := sl) (hp := hp) (i := 1017) h0 hc
  have hy := fun a b sl => yield_E1 k s D hD a b sl
  have hw8 : IntKind.u8.wrap 1 = 1 := rfl
  have hw : IntKind.i64.wrap 2 = 2 := by decide
  have hren : ∀ m, AObj.ren m (.loop recE (eSl 3 4 1 2)) = .loop recE ((eSl 3 4 1 2).map fun p => (p.1, p.2.ren m)) := fun m => rfl
  have hby : bytesOf? [.int .u8 1] = some [1] := rfl
  simp only [hpP0, junk, nBox, adr, eSl, List.cons_append, List.nil_append] at hy
  simp only [eSl] at hren
  simp [lc, loopsOf, Tryd.f80, stP, hpP0, nBox, adr, eSl, ho, hy, hw8, hby, hren]
  simp [hpP0', hpP1, junk, hpP0, nBox, adr, eSl, sBox, sRow, hren, hw]
set_option maxHeartbeats 16000000 in
theorem parts_round2 (k s D D2 : List UInt8) (hD : D.length = 32) (hc : clW 49 [.str k, .list 1 (strsL [D, s, [2]])] [] = some (.ret (.str D2), [])) :
    ∃ st, rXW 80 (lc Tryd.f80 0) (codeX GW clW lpW 80 (lc Tryd.f80 0) (stP k s D 2 (hpP1 k s D 1015000025000021 false recE))) = some (.ret, st) ∧
      aget st.hp 0 = some (.loop recE' (eSl 3 4 1 2)) ∧ aget st.hp 1 = some (.box 9 (.str k)) ∧ aget st.hp 2 = some (.box 9 (.str s)) ∧ aget st.hp 3 = some (.box 3 (.int .i64 32)) ∧ aget st.hp 4 = some (sBox true 4 1015000025000021) ∧ aget st.hp 1015000025000021 = some (sRow D false) := by
  have ho := fun d sl hp h0 => ofr_call (d := d) (sl := sl) (hp := hp) (i := 1017) h0 hc
  have hy := fun a b sl => yield_E2 k s D D2 hD a b sl
  have hw8 : IntKind.u8.wrap 2 = 2 := rfl
  have hren : ∀ m, AObj.ren m (.loop recE (eSl 3 4 1 2)) = .loop recE ((eSl 3 4 1 2).map fun p => (p.1, p.2.ren m)) := fun m => rfl
  have hby : bytesOf? [.int .u8 2] = some [2] := rfl
  simp only [hpP1, junk, sBox, sRow, adr, eSl, List.cons_append, List.nil_append] at hy
  simp only [eSl] at hren
  refine ⟨?st, ?h1, ?h2⟩
  case h1 =>
    simp [lc, loopsOf, Tryd.f80, stP, hpP1, sBox, sRow, adr, eSl, ho, hy, hw8, hby, hren]
    rfl
  case h2 => exact ⟨rfl, rfl, rfl, rfl, rfl, rfl⟩
set_option maxHeartbeats 16000000 in
theorem parts_fn (k s D D2 : List UInt8) (hD : D.length = 32) (hc : clW 49 [.str k, .list 1 (strsL [[], s, [1]])] [] = some (.ret (.str D), [])) (hc2 : clW 49 [.str k, .list 1 (strsL [D, s, [2]])] [] = some (.ret (.str D2), [])) :
    clW 80 [.yld 0, .ptr 1 0 0, .ptr 2 0 0] (hpP0 k s) = some (.ret (.tup []), hpP1 k s D 1015000025000021 false recE') := by
  refine fnW Tryd.func80 rfl (by simp) (by decide) rfl ?_
  obtain ⟨st, e, g0, g1, g2, g3, g4, g5⟩ := parts_round2 k s D D2 hD hc2
  have hlp := loop_nextW (parts_round1 k s D hD hc) (loop_outW e (by simp))
  have hren : ∀ m, AObj.ren m (.loop recE (eSl 3 4 1 2)) = .loop recE ((eSl 3 4 1 2).map fun p => (p.1, p.2.ren m)) := fun m => rfl
  have hren' : ∀ m, AObj.ren m (.loop recE' (eSl 3 4 1 2)) = .loop recE' ((eSl 3 4 1 2).map fun p => (p.1, p.2.ren m)) := fun m => rfl
  simp only [eSl] at hren hren'
  simp [stP, lc, loopsOf, Tryd.f80, hpP0, nBox, adr, eSl] at hlp
  simp [Tryd.f80, hpP0, nBox, adr, eSl, hren, hlp]
  obtain ⟨sl, hp⟩ := st
  unfold endX
  simp only at g0 g1 g2 g3 g4 g5
  have hout : outOf [0, 1, 2, 3, 4] hp (.tup []) = (.tup [], hpP1 k s D 1015000025000021 false recE') := by
    unfold outOf
    simp [g0, g1, g2, g3, g4, g5, hpP1, sBox, sRow, adr, eSl, onlyHeap, idMap, hren']
  simp [finishA, retA, hout, ASt.fix]
end Go.Proofs.YteibklnligmanaaDoor


/- mac.Expand, Info, Derive. -/
namespace Go.Proofs.YteibklnligmanaaDoor
open Go Abs
set_option linter.unusedSimpArgs false
set_option linter.unusedVariables false
attribute [local simp] canonK canonAll canonSlot canonCell canonBox ownStep restrictTo pureCells pureRows reachL AObj.names List.range_succ appendA
theorem nnX : newName 30006 1015000025000021 = 1015000025000022030006 := by decide
noncomputable def xSl : Slots := eSl 1005 1008 1003000018 1004000018
noncomputable def hpX0 (k s : List UInt8) : Heap := [(1003000018, .box 9 (.str k)), (1004000018, .box 9 (.str s)), (1008, nBox false 0), (1005, .box 3 (.int .i64 32))]
noncomputable def hpX (k s : List UInt8) : Heap := (20006, .loop recE xSl) :: hpX0 k s
noncomputable def hpX' (k s D : List UInt8) : Heap := [(20006, .loop recE' xSl), (1003000018, .box 9 (.str k)), (1004000018, .box 9 (.str s)), (1005, .box 3 (.int .i64 32)), (1008, sBox true 1008 1015000025000022030006), (1015000025000022030006, sRow D false)] ++ hpX k s
theorem range_X (k s D : List UInt8) (h : clW 80 [.yld 0, .ptr 1 0 0, .ptr 2 0 0] (hpP0 k s) = some (.ret (.tup []), hpP1 k s D 1015000025000021 false recE')) :
    callB GW clW (some 30006) (.fn (.func 80) [] [.ptr 1003000018 0 0, .ptr 1004000018 0 0]) [.yld 20006] ⟨xSl, hpX k s⟩ = some (.val (.tup []) ⟨xSl, hpX' k s D⟩, []) := by
  have := callB_W (d := some 30006) (first := []) (caps := [.ptr 1003000018 0 0, .ptr 1004000018 0 0]) (args := [.yld 20006]) (st := ⟨xSl, hpX k s⟩) (pre := [.yld 20006, .ptr 1003000018 0 0, .ptr 1004000018 0 0]) (st1 := ⟨xSl, hpX k s⟩) (ns := [20006, 1003000018, 1004000018, 1005, 1008]) (y := (.ret (.tup []), hpP1 k s D 1015000025000021 false recE')) (st3 := ⟨xSl, hpX' k s D⟩) E80 (by decide) rfl rfl (by kernel_rfl) rfl (by exact h)
    (by simp [afterCall, hpP1, hpX', hpX, hpX0, xSl, backName, backMap, afterHeap, movedOf, killAll, zipIx, nnX, AObj.moved, AObj.isRow, AObj.ormv, nBox, sBox, sRow, adr, oren_loop, eSl])
  rw [this]
  simp [answered, movedOf, hpP1, zipIx, AObj.moved, sRow, sBox]
theorem rfX (k s D : List UInt8) (h : clW 80 [.yld 0, .ptr 1 0 0, .ptr 2 0 0] (hpP0 k s) = some (.ret (.tup []), hpP1 k s D 1015000025000021 false recE')) :
    codeX GW clW lpW 57 (.rangeFunc (.tmp 18) recE.ps recE.assign recE.body) ⟨xSl, hpX0 k s⟩ =
    some (.exit 0, ⟨xSl, hput 20006 (.loop (rcW 57 Tryd.f57 .exhausted (some (.exit 0))) xSl) (hpX' k s D)⟩) := by
  have := rf_W (f := 57) (g := .tmp 18) (ps := recE.ps) (asg := recE.assign) (body := recE.body) (st := ⟨xSl, hpX0 k s⟩) (L := 20006) (d := 30006) (r := recE') (sl := xSl) (x := .exit 0) (s := ⟨xSl, hpX' k s D⟩) (v := .tup []) (M := [])
    (by kernel_rfl) (by kernel_rfl) rfl rokE rfl (by exact range_X k s D h) rfl (by kernel_rfl) (by simp [recE', rcW, rfsOf, Tryd.f57]) (by kernel_rfl)
  exact this
set_option maxHeartbeats 8000000 in
theorem expand_eq (k s : List UInt8) (hk : k.length ≤ 1000000) (hs : s.length ≤ 800000) : clW 57 [.str k, .str s, .int .i64 32] [] = some (.ret (.tup [.str (macS k [[], s, [1]]), .int .i64 0]), []) := by
  refine fnW Tryd.func57 rfl (by simp) (by decide) rfl ?_
  have hp := fun sl hp => parts_call k s sl hp
  have hD := macS_len k [[], s, [1]]
  have hc := of_eq k hk [[], s, [1]] (by simp) (by simp [lenL]; omega)
  have hc2 := of_eq k hk [macS k [[], s, [1]], s, [2]] (by simp) (by simp [lenL, hD]; omega)
  generalize macS k [macS k [[], s, [1]], s, [2]] = D2 at *
  generalize macS k [[], s, [1]] = D at *
  have hr := rfX k s D (parts_fn k s D D2 hD hc hc2)
  have ht := fun d sl hp h0 h1 => callV_lift (by decide) rfl (text_B (d := d) (sl := sl) (hp := hp) (i := 1008) (k := 1015000025000022030006) (p := true) (bs := D) (mv := false) (by omega) (by decide) h0 h1)
  simp [xSl, eSl, hpX0, nBox, adr, rcW, rfsOf, Tryd.f57] at hr
  simp only [sBox, sRow, adr] at ht
  have hT : D.take 32 = D := List.take_of_length_le (by omega)
  have h32 : 32 ≤ D.length := by omega
  simp [Tryd.f57, hp, hr]
  simp [hpX', hpX, hpX0, xSl, eSl, sBox, sRow, nBox, adr, ht, hT, hD, h32]
  rfl
end Go.Proofs.YteibklnligmanaaDoor


/- mac.Info, Derive. -/
namespace Go.Proofs.YteibklnligmanaaDoor
open Go Abs
set_option linter.unusedSimpArgs false
set_option linter.unusedVariables false
attribute [local simp] canonK canonAll canonSlot canonCell canonBox ownStep restrictTo pureCells pureRows reachL AObj.names List.range_succ appendA
def infB (s : List UInt8) : List UInt8 := bigB4 (s.length : Int) ++ s
def infoS (l : List (List UInt8)) : List UInt8 := l.flatMap infB
def stI (l : List (List UInt8)) (i : Nat) (bs : List UInt8) (p mv : Bool) : ASt := ⟨[(3, .ptr 1003 0 0), (6, .list 1 (strsL l)), (7, .int .i64 l.length), (8, .int .i64 i)], [(1003, sBox p 1003 200301), (200301, sRow bs mv)]⟩
set_option maxHeartbeats 8000000 in
theorem info_round (p m : Bool) (l : List (List UInt8)) (i : Nat) (s bs : List UInt8) (hi : l[i]? = some s) (hl : l.length ≤ 1000000) (hs : s.length ≤ 1000000) (hbs : bs.length ≤ 2000000) : rX 58 (lc Tryd.f58 0) (codeX G cl lp 58 (lc Tryd.f58 0) (stI l i bs p m)) = some (.normal, stI l (i + 1) (bs ++ infB s) true true) := by
  have hlt : i < l.length := (List.getElem?_eq_some_iff.1 hi).1
  have he : l[i] = s := (List.getElem?_eq_some_iff.1 hi).2
  have h1 : (i : Int) < l.length := by omega
  have hw1 : IntKind.i64.wrap ((i : Int) + 1) = ((i + 1 : Nat) : Int) := by rw [i64_wrap (by omega) (by omega)]; omega
  have hb := fun d st => big4_call (n := (s.length : Int)) (d := d) (st := st)
  have hu : IntKind.u64.wrap (s.length : Int) = s.length := by simp [IntKind.wrap, IntKind.bits, IntKind.signed]; omega
  have h4 : (bigB4 (s.length : Int)).length = 4 := rfl
  have hw := fun d sl hp mv h0 h1 => string_B (d := d) (sl := sl) (i := 1003) (k := 200301) (hp := hp) (p := p) (bs := bs) (mv := mv) (t := bigB4 (s.length : Int)) (by omega) (by decide) h0 h1
  have hw2 := fun d sl hp mv h0 h1 => string_B (d := d) (sl := sl) (i := 1003) (k := 200301) (hp := hp) (p := true) (bs := bs ++ bigB4 (s.length : Int)) (mv := mv) (t := s) (by rw [List.length_append]; omega) (by decide) h0 h1
  have hap : bs ++ infB s = bs ++ bigB4 (s.length : Int) ++ s := by unfold infB; rw [List.append_assoc]
  unfold stI
  rw [hap]
  generalize i + 1 = n at *
  cases p <;> simp only [sBox, sRow, adr] at hw hw2 <;> simp [lc, loopsOf, Tryd.f58, strsL, h1, sBox, sRow, adr, hb, hw, hw2, hu, hw1, hi, hlt, he]
set_option maxHeartbeats 8000000 in
theorem info_exit (p m : Bool) (l : List (List UInt8)) (bs : List UInt8) : rX 58 (lc Tryd.f58 0) (codeX G cl lp 58 (lc Tryd.f58 0) (stI l l.length bs p m)) = some (.exit 0, ⟨(stI l l.length bs p m).sl ++ [(9, .bool false)], (stI l l.length bs p m).hp⟩) := by
  unfold stI
  cases p <;> simp [lc, loopsOf, Tryd.f58, strsL, sBox, sRow, adr]
theorem infB_len (s : List UInt8) : (infB s).length = 4 + s.length := by unfold infB; rw [List.length_append]; rfl
theorem infoS_len (l : List (List UInt8)) : (infoS l).length = 4 * l.length + lenL l := by
  induction l with
  | nil => rfl
  | cons s l ih =>
    unfold infoS lenL at *
    simp only [List.flatMap_cons, List.length_append, infB_len, List.map_cons, List.sum_cons, List.length_cons, ih]
    omega
theorem infoS_take {l : List (List UInt8)} {i : Nat} {s : List UInt8} (h : l[i]? = some s) : infoS (l.take (i + 1)) = infoS (l.take i) ++ infB s := by
  unfold infoS; rw [List.take_add_one, h]; simp
theorem info_loop (l : List (List UInt8)) (hl : l.length ≤ 100000) (hll : lenL l ≤ 1000000) : ∀ (c i : Nat) (p m : Bool), i + c = l.length → ∃ p' m', lp 58 (lc Tryd.f58 0) (stI l i (infoS (l.take i)) p m) = some (.exit 0, ⟨(stI l l.length (infoS l) p' m').sl ++ [(9, .bool false)], (stI l l.length (infoS l) p' m').hp⟩) := by
  intro c
  induction c with
  | zero =>
    intro i p m hi
    obtain rfl : i = l.length := by omega
    rw [List.take_length]
    exact ⟨p, m, loop_out (info_exit p m l _) (by simp)⟩
  | succ c ih =>
    intro i p m hi
    obtain ⟨s, hs⟩ : ∃ s, l[i]? = some s := ⟨_, List.getElem?_eq_getElem (by omega)⟩
    have h1 := lenL_take hs
    have h2 := infoS_len (l.take i)
    have h3 : (l.take i).length ≤ l.length := by rw [List.length_take]; omega
    obtain ⟨p', m', this⟩ := ih (i + 1) true true (by omega)
    rw [infoS_take hs] at this
    exact ⟨p', m', loop_next (info_round p m l i s _ hs (by omega) (by omega) (by omega)) this⟩
set_option maxHeartbeats 8000000 in
theorem info_eq (l : List (List UInt8)) (hl : l.length ≤ 100000) (hll : lenL l ≤ 1000000) : cl 58 [.list 1 (strsL l)] [] = some (.ret (.str (infoS l)), []) := by
  refine fn_intro Tryd.func58 rfl (by simp) (by decide) rfl ?_
  obtain ⟨p', m', hlp⟩ := info_loop l hl hll l.length 0 false false (by omega)
  have hlen := infoS_len l
  have ht := fun d sl hp h0 h1 => text_B (d := d) (sl := sl) (hp := hp) (i := 1003) (k := 200301) (p := p') (bs := infoS l) (mv := m') (by omega) (by decide) h0 h1
  have e0 : infoS (l.take 0) = [] := rfl
  rw [e0] at hlp
  generalize infoS l = D at *
  unfold stI at hlp
  cases p' <;> simp only [sBox, sRow, adr] at ht <;> simp [lc, loopsOf, Tryd.f58, strsL, sBox, sRow, adr] at hlp <;> simp [Tryd.f58, strsL, hlp, ht] <;> rfl
def deriveS (k : List UInt8) (l : List (List UInt8)) : List UInt8 := macS k [[], infoS l, [1]]
theorem derive_len (k : List UInt8) (l : List (List UInt8)) : (deriveS k l).length = 32 := macS_len _ _
set_option maxHeartbeats 8000000 in
theorem derive_eq (k s : List UInt8) (l : List (List UInt8)) (hk : k.length ≤ 1000000) (hl : (s :: l).length ≤ 10000) (hll : lenL (s :: l) ≤ 700000) : clW 45 [.str k, .int .i64 32, .list 1 (strsL (s :: l))] [] = some (.ret (.tup [.str (deriveS k (s :: l)), .int .i64 0]), []) := by
  refine fnW Tryd.func45 rfl (by simp) (by decide) rfl ?_
  have hi := fun d st => callVW (d := d) (st := st) (g := 58) (first := []) (caps := []) (args := [.list 1 (strsL (s :: l))]) E58 (by decide) ext58 rfl (by simp) (liftW (by decide) rfl (info_eq (s :: l) (by omega) (by omega))) rfl
  have hlen := infoS_len (s :: l)
  have he := fun d st => callVW (d := d) (st := st) (g := 57) (first := []) (caps := []) (args := [.str k, .str (infoS (s :: l)), .int .i64 32]) E57 (by decide) ext57 rfl rfl (expand_eq k _ hk (by omega)) rfl
  unfold deriveS
  generalize macS k [[], infoS (s :: l), [1]] = D at *
  generalize infoS (s :: l) = I at *
  simp only [strsL, List.map_cons] at hi
  simp [Tryd.f45, strsL, hi, he]
  rfl
end Go.Proofs.YteibklnligmanaaDoor


/- keys: which keys stand below which. -/
namespace Go.Proofs.YteibklnligmanaaDoor
open Go Abs
set_option linter.unusedSimpArgs false
set_option linter.unusedVariables false
attribute [local simp] canonK canonAll canonSlot canonCell canonBox ownStep restrictTo pureCells pureRows reachL AObj.names List.range_succ appendA
def belV (p : List UInt8 × Nat) : AV := .agg [.str p.1, .int .i64 p.2]
def belE (p q : List UInt8 × Nat) : Bool := (p.1 == q.1) && ((p.2 : Int) == (q.2 : Int))
theorem bel_eq {a b : List UInt8} {m n : Nat} : binO Tryd.prog .eql 81 false false (.agg [.str a, .int .i64 m]) (.agg [.str b, .int .i64 n]) = some (.bool (belE (a, m) (b, n))) := by
  have h : binO Tryd.prog .eql 81 false false (.agg [.str a, .int .i64 m]) (.agg [.str b, .int .i64 n]) = some (.bool ((a == b) && (((m : Int) == (n : Int)) && true))) := by kernel_rfl
  rw [h, Bool.and_true]; rfl
def ixS (x p q : List UInt8 × Nat) : Int := if belE x p then 0 else if belE x q then 1 else -1
def st56 (x p q : List UInt8 × Nat) (j : Nat) : ASt := ⟨[(0, .list 2 [belV p, belV q]), (3, .ptr 1003 0 0), (7, .int .i64 2), (8, .int .i64 j)], [(1003, .box 81 (belV x))]⟩
set_option maxHeartbeats 8000000 in
theorem ix_no0 (x p q : List UInt8 × Nat) (h : belE x p = false) : rX 56 (lc Tryd.f56 0) (codeX G cl lp 56 (lc Tryd.f56 0) (st56 x p q 0)) = some (.normal, st56 x p q 1) := by
  obtain ⟨a, m⟩ := p
  obtain ⟨b, n⟩ := q
  obtain ⟨c, k⟩ := x
  have h1 := bel_eq (a := c) (m := k) (b := a) (n := m)
  rw [h] at h1
  have hw1 : IntKind.i64.wrap 1 = 1 := rfl
  simp [lc, loopsOf, Tryd.f56, st56, belV, h1, hw1]
set_option maxHeartbeats 8000000 in
theorem ix_no1 (x p q : List UInt8 × Nat) (h : belE x q = false) : rX 56 (lc Tryd.f56 0) (codeX G cl lp 56 (lc Tryd.f56 0) (st56 x p q 1)) = some (.normal, st56 x p q 2) := by
  obtain ⟨a, m⟩ := p
  obtain ⟨b, n⟩ := q
  obtain ⟨c, k⟩ := x
  have h1 := bel_eq (a := c) (m := k) (b := b) (n := n)
  rw [h] at h1
  have hw1 : IntKind.i64.wrap 2 = 2 := rfl
  simp [lc, loopsOf, Tryd.f56, st56, belV, h1, hw1]
set_option maxHeartbeats 8000000 in
theorem ix_yes0 (x p q : List UInt8 × Nat) (h : belE x p = true) : rX 56 (lc Tryd.f56 0) (codeX G cl lp 56 (lc Tryd.f56 0) (st56 x p q 0)) = some (.ret, ⟨[(4, .int .i64 0)], [(1003, .box 81 (belV x))]⟩) := by
  obtain ⟨a, m⟩ := p
  obtain ⟨b, n⟩ := q
  obtain ⟨c, k⟩ := x
  have h1 := bel_eq (a := c) (m := k) (b := a) (n := m)
  rw [h] at h1
  simp [lc, loopsOf, Tryd.f56, st56, belV, h1]
set_option maxHeartbeats 8000000 in
theorem ix_yes1 (x p q : List UInt8 × Nat) (h : belE x q = true) : rX 56 (lc Tryd.f56 0) (codeX G cl lp 56 (lc Tryd.f56 0) (st56 x p q 1)) = some (.ret, ⟨[(4, .int .i64 1)], [(1003, .box 81 (belV x))]⟩) := by
  obtain ⟨a, m⟩ := p
  obtain ⟨b, n⟩ := q
  obtain ⟨c, k⟩ := x
  have h1 := bel_eq (a := c) (m := k) (b := b) (n := n)
  rw [h] at h1
  simp [lc, loopsOf, Tryd.f56, st56, belV, h1]
set_option maxHeartbeats 8000000 in
theorem ix_exit (x p q : List UInt8 × Nat) : rX 56 (lc Tryd.f56 0) (codeX G cl lp 56 (lc Tryd.f56 0) (st56 x p q 2)) = some (.exit 0, ⟨(st56 x p q 2).sl ++ [(9, .bool false)], (st56 x p q 2).hp⟩) := by
  unfold st56 belV
  simp [lc, loopsOf, Tryd.f56]
set_option maxHeartbeats 8000000 in
theorem index_eq (x p q : List UInt8 × Nat) : cl 56 [.list 2 [belV p, belV q], belV x] [] = some (.ret (.int .i64 (ixS x p q)), []) := by
  refine fn_intro Tryd.func56 rfl (by simp) (by decide) rfl ?_
  unfold ixS
  cases h1 : belE x p with
  | true =>
    have hl := loop_out (ix_yes0 x p q h1) (by simp)
    simp [lc, loopsOf, Tryd.f56, st56, belV] at hl
    simp [Tryd.f56, belV, hl]
    rfl
  | false =>
    cases h2 : belE x q with
    | true =>
      have hl := loop_next (ix_no0 x p q h1) (loop_out (ix_yes1 x p q h2) (by simp))
      simp [lc, loopsOf, Tryd.f56, st56, belV] at hl
      simp [Tryd.f56, belV, hl]
      rfl
    | false =>
      have hl := loop_next (ix_no0 x p q h1) (loop_next (ix_no1 x p q h2) (loop_out (ix_exit x p q) (by simp)))
      simp [lc, loopsOf, Tryd.f56, st56, belV] at hl
      simp [Tryd.f56, belV, hl]
      rfl
def conS (x p q : List UInt8 × Nat) : Bool := belE x p || belE x q
set_option maxHeartbeats 8000000 in
theorem contains_eq (x p q : List UInt8 × Nat) : cl 44 [.list 2 [belV p, belV q], belV x] [] = some (.ret (.bool (conS x p q)), []) := by
  refine fn_intro Tryd.func44 rfl (by simp) (by decide) rfl ?_
  have hi := fun d st => callV_ret (d := d) (st := st) (first := []) (caps := []) (args := [.list 2 [belV p, belV q], belV x]) E56 (by decide) ext56 rfl rfl (index_eq x p q) rfl
  have hs : conS x p q = decide (0 ≤ ixS x p q) := by
    unfold conS ixS
    cases belE x p <;> cases belE x q <;> rfl
  rw [hs]
  generalize ixS x p q = z at *
  simp only [belV] at hi
  simp [Tryd.f44, belV, hi]
  rfl
end Go.Proofs.YteibklnligmanaaDoor


/- keys: texts put together. -/
namespace Go.Proofs.YteibklnligmanaaDoor
open Go Abs
set_option linter.unusedSimpArgs false
set_option linter.unusedVariables false
attribute [local simp] canonK canonAll canonSlot canonCell canonBox ownStep restrictTo pureCells pureRows reachL AObj.names List.range_succ appendA
/-- Texts, or none at all. -/
def pv : Option (List (List UInt8)) → AV
  | none => .nils
  | some [] => .list 0 []
  | some (a :: l) => .list 1 (strsL (a :: l))
def pvL (o : Option (List (List UInt8))) : List (List UInt8) := o.getD []
set_option maxHeartbeats 8000000 in
theorem sgrow_n (n : Nat) (h0 : 0 < n) (h1 : n ≤ 1000000) : cl 59 [.nils, .int .i64 (n : Int)] [] = some (.ret (.own 1022), [(1022, .row 1 [] false ⟨true, 9⟩)]) := by
  refine fn_intro Tryd.func59 rfl (by simp) (by decide) rfl ?_
  have hneg : ¬ (n : Int) < 0 := by omega
  have hw : IntKind.i64.wrap ((n : Int) - 0) = (n : Int) := by rw [i64_wrap (by omega) (by omega)]; omega
  have hw2 : IntKind.i64.wrap (n : Int) = (n : Int) := i64_wrap (by omega) (by omega)
  have hw3 : IntKind.i64.wrap 0 = 0 := rfl
  have hpos : (0 : Int) < n := by omega
  have hL : (n : Int) ≤ LIM := by unfold LIM; omega
  have hL' : n ≤ LIM := by unfold LIM; omega
  simp [Tryd.f59, hneg, hw, hw2, hw3, hpos, h0, hL, ASt.cut]
  simp [endX, finishA, outOf, reachL, retA, onlyHeap, idMap, AObj.names]
theorem pv_rv {hp o} : (pv o).rv hp = pv o := by
  cases o with
  | none => rfl
  | some l => cases l with
    | nil => rfl
    | cons a l => simp [pv, strsL]
theorem pv_names {o} : (pv o).names = [] := by
  cases o with
  | none => rfl
  | some l => cases l with
    | nil => rfl
    | cons a l => simp [pv, strsL]
theorem pv_rows {o} : (pv o).rows = [] := by
  cases o with
  | none => rfl
  | some l => cases l with
    | nil => rfl
    | cons a l => simp [pv, strsL]
theorem pv_ren {m o} : (pv o).ren m = pv o := by
  cases o with
  | none => rfl
  | some l => cases l with
    | nil => rfl
    | cons a l => simp [pv, strsL]
theorem pv_plain (o) : Plain (pv o) := ⟨fun _ => pv_rv, pv_names, pv_rows, fun _ => pv_ren⟩
/-- Two lists of texts, put together. -/
def stC (p q : Option (List (List UInt8))) (n i : Nat) : ASt := ⟨[(0, .list 1 [pv p, pv q]), (3, .int .i64 n), (9, .list 1 [pv p, pv q]), (10, .int .i64 2), (11, .int .i64 i)], []⟩
set_option maxHeartbeats 8000000 in
theorem scat_len0 (p q : Option (List (List UInt8))) (hp : (pvL p).length ≤ 1000) : rX 46 (lc Tryd.f46 0) (codeX G cl lp 46 (lc Tryd.f46 0) (stC p q 0 0)) = some (.normal, stC p q (pvL p).length 1) := by
  have hw1 : IntKind.i64.wrap 1 = 1 := rfl
  have hw0 : IntKind.i64.wrap 0 = 0 := rfl
  have h := pv_plain q
  unfold stC
  generalize pv q = Q at *
  have k1 := h.rv
  have k2 := h.names
  have k3 := h.rows
  have k4 := h.ren
  cases p with
  | none => simp [lc, loopsOf, Tryd.f46, pv, pvL, hw1, hw0, k1, k2, k3, k4]
  | some l => cases l with
    | nil => simp [lc, loopsOf, Tryd.f46, pv, pvL, hw1, hw0, k1, k2, k3, k4]
    | cons a l =>
      simp only [pvL, Option.getD_some, List.length_cons] at hp
      have hw2 : IntKind.i64.wrap ((l.length : Int) + 1) = (l.length : Int) + 1 := i64_wrap (by omega) (by omega)
      have hneg : ¬ (l.length : Int) + 1 < 0 := by omega
      simp [lc, loopsOf, Tryd.f46, pv, pvL, hw1, hw0, hw2, hneg, k1, k2, k3, k4, strsL]
set_option maxHeartbeats 8000000 in
theorem scat_len1 (p q : Option (List (List UInt8))) (n : Nat) (hn : n ≤ 1000) (hq : (pvL q).length ≤ 1000) : rX 46 (lc Tryd.f46 0) (codeX G cl lp 46 (lc Tryd.f46 0) (stC p q n 1)) = some (.normal, stC p q (n + (pvL q).length) 2) := by
  have hw1 : IntKind.i64.wrap 2 = 2 := rfl
  have hw0 : IntKind.i64.wrap (n : Int) = n := i64_wrap (by omega) (by omega)
  have hn0 : ¬ (n : Int) < 0 := by omega
  have h := pv_plain p
  unfold stC
  generalize pv p = Q at *
  have k1 := h.rv
  have k2 := h.names
  have k3 := h.rows
  have k4 := h.ren
  cases q with
  | none => simp [lc, loopsOf, Tryd.f46, pv, pvL, hw1, hw0, hn0, k1, k2, k3, k4]
  | some l => cases l with
    | nil => simp [lc, loopsOf, Tryd.f46, pv, pvL, hw1, hw0, hn0, k1, k2, k3, k4]
    | cons a l =>
      simp only [pvL, Option.getD_some, List.length_cons] at hq
      have hw2 : IntKind.i64.wrap ((n : Int) + ((l.length : Int) + 1)) = ((n + (l.length + 1) : Nat) : Int) := by rw [i64_wrap (by omega) (by omega)]; omega
      have hneg : ¬ ((n + (l.length + 1) : Nat) : Int) < 0 := by omega
      simp only [pvL, Option.getD_some, List.length_cons]
      generalize n + (l.length + 1) = m at *
      simp [lc, loopsOf, Tryd.f46, pv, hw1, hw0, hw2, hneg, k1, k2, k3, k4, strsL]
set_option maxHeartbeats 8000000 in
theorem scat_lenx (p q : Option (List (List UInt8))) (n : Nat) : rX 46 (lc Tryd.f46 0) (codeX G cl lp 46 (lc Tryd.f46 0) (stC p q n 2)) = some (.exit 0, ⟨(stC p q n 2).sl ++ [(12, .bool false)], []⟩) := by
  unfold stC
  simp [lc, loopsOf, Tryd.f46]
def stCb (p q : Option (List (List UInt8))) (out : List (List UInt8)) (mv : Bool) (i : Nat) : ASt := ⟨[(6, .own 5006), (25, .list 1 [pv p, pv q]), (26, .int .i64 2), (27, .int .i64 i)], [(5006, .row 1 (strsL out) false ⟨mv, 9⟩)]⟩
theorem strsL_app {a b : List (List UInt8)} : strsL (a ++ b) = strsL a ++ strsL b := by simp [strsL]
set_option maxHeartbeats 8000000 in
theorem scat_put0 (p q : Option (List (List UInt8))) (out : List (List UInt8)) (mv : Bool) (ho : out.length ≤ 10000) (hp : (pvL p).length ≤ 1000) : ∃ mv', rX 46 (lc Tryd.f46 1) (codeX G cl lp 46 (lc Tryd.f46 1) (stCb p q out mv 0)) = some (.normal, stCb p q (out ++ pvL p) mv' 1) := by
  have hw1 : IntKind.i64.wrap 1 = 1 := rfl
  have h := pv_plain q
  unfold stCb
  rw [strsL_app]
  generalize pv q = Q at *
  have k1 := h.rv
  have k2 := h.names
  have k3 := h.rows
  have k4 := h.ren
  have hl : (strsL out).length = out.length := by simp [strsL]
  cases p with
  | none =>
    have hL : (strsL out).length ≤ LIM := by rw [hl]; unfold LIM; omega
    refine ⟨true, ?_⟩
    generalize strsL out = O at *
    simp [lc, loopsOf, Tryd.f46, pv, pvL, hw1, hL, k1, k2, k3, k4, strsL]
  | some l => cases l with
    | nil =>
      have hL : (strsL out).length ≤ LIM := by rw [hl]; unfold LIM; omega
      refine ⟨true, ?_⟩
      generalize strsL out = O at *
      simp [lc, loopsOf, Tryd.f46, pv, pvL, hw1, hL, k1, k2, k3, k4, strsL]
    | cons a l =>
      simp only [pvL, Option.getD_some, List.length_cons] at hp
      have hL : (strsL out).length + (l.length + 1) ≤ LIM := by rw [hl]; unfold LIM; omega
      refine ⟨true, ?_⟩
      generalize strsL out = O at *
      simp [lc, loopsOf, Tryd.f46, pv, pvL, hw1, hL, k1, k2, k3, k4, strsL]
set_option maxHeartbeats 8000000 in
theorem scat_put1 (p q : Option (List (List UInt8))) (out : List (List UInt8)) (mv : Bool) (ho : out.length ≤ 10000) (hp : (pvL q).length ≤ 1000) : ∃ mv', rX 46 (lc Tryd.f46 1) (codeX G cl lp 46 (lc Tryd.f46 1) (stCb p q out mv 1)) = some (.normal, stCb p q (out ++ pvL q) mv' 2) := by
  have hw1 : IntKind.i64.wrap 2 = 2 := rfl
  have h := pv_plain p
  unfold stCb
  rw [strsL_app]
  generalize pv p = Q at *
  have k1 := h.rv
  have k2 := h.names
  have k3 := h.rows
  have k4 := h.ren
  have hl : (strsL out).length = out.length := by simp [strsL]
  cases q with
  | none =>
    have hL : (strsL out).length ≤ LIM := by rw [hl]; unfold LIM; omega
    refine ⟨true, ?_⟩
    generalize strsL out = O at *
    simp [lc, loopsOf, Tryd.f46, pv, pvL, hw1, hL, k1, k2, k3, k4, strsL]
  | some l => cases l with
    | nil =>
      have hL : (strsL out).length ≤ LIM := by rw [hl]; unfold LIM; omega
      refine ⟨true, ?_⟩
      generalize strsL out = O at *
      simp [lc, loopsOf, Tryd.f46, pv, pvL, hw1, hL, k1, k2, k3, k4, strsL]
    | cons a l =>
      simp only [pvL, Option.getD_some, List.length_cons] at hp
      have hL : (strsL out).length + (l.length + 1) ≤ LIM := by rw [hl]; unfold LIM; omega
      refine ⟨true, ?_⟩
      generalize strsL out = O at *
      simp [lc, loopsOf, Tryd.f46, pv, pvL, hw1, hL, k1, k2, k3, k4, strsL]
set_option maxHeartbeats 8000000 in
theorem scat_putx (p q : Option (List (List UInt8))) (out : List (List UInt8)) (mv : Bool) : rX 46 (lc Tryd.f46 1) (codeX G cl lp 46 (lc Tryd.f46 1) (stCb p q out mv 2)) = some (.exit 2, ⟨(stCb p q out mv 2).sl ++ [(28, .bool false)], (stCb p q out mv 2).hp⟩) := by
  unfold stCb
  simp [lc, loopsOf, Tryd.f46]
set_option maxHeartbeats 8000000 in
theorem scat_eq (p : Option (List (List UInt8))) (a : List UInt8) (l : List (List UInt8)) (hp : (pvL p).length ≤ 1000) (hl : l.length < 1000) : cl 46 [.list 1 [pv p, .list 1 (strsL (a :: l))]] [] = some (.ret (.list 1 (strsL (pvL p ++ a :: l))), []) := by
  refine fn_intro Tryd.func46 rfl (by simp) (by decide) rfl ?_
  have hq : (pvL (some (a :: l))).length ≤ 1000 := by simp [pvL]; omega
  have h1 := loop_next (scat_len0 p (some (a :: l)) hp) (loop_next (scat_len1 p (some (a :: l)) _ hp hq) (loop_out (scat_lenx p (some (a :: l)) _) (by simp)))
  obtain ⟨m1, e1⟩ := scat_put0 p (some (a :: l)) [] true (by simp) hp
  obtain ⟨m2, e2⟩ := scat_put1 p (some (a :: l)) ([] ++ pvL p) m1 (by simp; omega) hq
  have h2 := loop_next e1 (loop_next e2 (loop_out (scat_putx p (some (a :: l)) _ m2) (by simp)))
  obtain ⟨n, hn⟩ : ∃ n, n = (pvL p).length + (l.length + 1) := ⟨_, rfl⟩
  have hg : ∀ sl, callV G cl (some 24) (.fn (.func 59) [] []) [.nils, .int .i64 (n : Int)] ⟨sl, []⟩ = some (.val (.own 1023000024) ⟨sl, [(1023000024, .row 1 [] false ⟨true, 9⟩)]⟩) := fun sl =>
    callV_of (pre := [.nils, .int .i64 (n : Int)]) (st1 := ⟨sl, []⟩) (ns := []) E59 (by decide) ext59 rfl rfl rfl rfl (by exact sgrow_n n (by omega) (by omega)) (by kernel_rfl) rfl
  have k1 := fun hp => (pv_plain p).rv hp
  have k2 := (pv_plain p).names
  have k3 := (pv_plain p).rows
  have k4 := fun m => (pv_plain p).ren m
  have epv : pv (some (a :: l)) = .list 1 (strsL (a :: l)) := rfl
  have eL : pvL (some (a :: l)) = a :: l := rfl
  rw [eL] at h1 h2
  rw [List.nil_append] at h2
  have en : (pvL p).length + (a :: l).length = n := by rw [hn]; rfl
  rw [en] at h1
  unfold stC at h1
  unfold stCb at h2
  rw [epv] at h1 h2
  generalize pv p = P at *
  generalize strsL (pvL p ++ a :: l) = R at *
  simp [lc, loopsOf, Tryd.f46, strsL] at h1 h2
  simp [Tryd.f46, strsL, h1, hg, h2]
  exact end_rv (.inr rfl) (by simp; rfl) (by simp) rfl rfl
end Go.Proofs.YteibklnligmanaaDoor


/- keys: Down. -/
namespace Go.Proofs.YteibklnligmanaaDoor
open Go Abs
set_option linter.unusedSimpArgs false
set_option linter.unusedVariables false
attribute [local simp] canonK canonAll canonSlot canonCell canonBox ownStep restrictTo pureCells pureRows reachL AObj.names List.range_succ appendA
@[simp] theorem ao_lookup {G : Cfg} {call : CallFn} {ops : Array Oper} {d t p af} {r : List Oper} {st : ASt} {t' : TypeId} {x y : Operand} {ok : Bool} : aopsL G call ops (⟨d, .lookup t' x y ok, t, p, af, none⟩ :: r) st = valX G call ops d r st (lookupV G.P st.hp t' (st.ev x) (st.ev y) ok) := ao_read rfl
theorem call_introP {G : Cfg} {prim : FuncId → Option CallFn} {g : FuncId} {args : List AV} {hp : Heap} {r : ARes × Heap} (hg : g < RB) (hp0 : ((prim g).bind fun p => p g args hp) = none)
    (h : runFn G (callL G prim) (loopL G prim) g args hp = some r) : callL G prim g args hp = some r := by
  refine limit_of (Ev.step ?_)
  simp only [both, if_pos hg, hp0]
  exact runFn_ev h
set_option maxHeartbeats 8000000 in
theorem sclone_eq (a : List UInt8) (l : List (List UInt8)) (hl : l.length ≤ 1000) : cl 40 [.list 1 (strsL (a :: l))] [] = some (.ret (.own 1005), [(1005, .row 1 (strsL (a :: l)) false ⟨true, 9⟩)]) := by
  refine fn_intro Tryd.func40 rfl (by simp) (by decide) rfl ?_
  have hL : l.length + 1 ≤ LIM := by unfold LIM; omega
  simp [Tryd.f40, strsL, binO, binv, eqv, hL]
  unfold endX
  simp [finishA, resOf, outOf, retA, onlyHeap, idMap, resL, resv]
set_option maxHeartbeats 8000000 in
theorem sclone_nil : cl 40 [.nils] [] = some (.ret .nils, []) := call_intro (by decide) rfl (by kernel_rfl)
set_option maxHeartbeats 8000000 in
theorem sclone_0 : cl 40 [.list 0 []] [] = some (.ret (.own 1005), [(1005, .row 1 [] false ⟨true, 9⟩)]) := call_intro (by decide) rfl (by kernel_rfl)
theorem sins_nil (k : List UInt8) : cl 39 [.nils, .int .i64 0, .list 1 [.str k]] [] = some (.ret (.own 1025), [(1025, .row 1 [.str k] false ⟨false, 9⟩)]) := call_introP (by decide) rfl (by kernel_rfl)
theorem sins_0 (k : List UInt8) : cl 39 [.own 0, .int .i64 0, .list 1 [.str k]] [(0, .row 1 [] false ⟨false, 9⟩)] = some (.ret (.own 0), [(0, .row 1 [.str k] false ⟨true, 9⟩)]) := call_introP (by decide) rfl (by kernel_rfl)
theorem sins_eq (k a : List UInt8) (l : List (List UInt8)) (hl : l.length ≤ 1000) : cl 39 [.own 0, .int .i64 0, .list 1 [.str k]] [(0, .row 1 (strsL (a :: l)) false ⟨false, 9⟩)] = some (.ret (.own 0), [(0, .row 1 (strsL (k :: a :: l)) false ⟨true, 9⟩)]) := by
  refine call_prim (p := insP 9) (by decide) rfl ?_
  have h1 : (l.length : Int) + 1 > 0 := by omega
  have h2 : l.length + 1 < 1000000 := by omega
  simp [insP, strsL, h2, byT, ASt.killn, hput, hmod]
  trace_state
theorem pv_kill {n o} : (pv o).kill n = pv o := by
  cases o with
  | none => rfl
  | some l => cases l with
    | nil => rfl
    | cons a l => simp [pv, strsL]
def bRoot : List UInt8 := [114, 111, 111, 116]
def bEpoch : List UInt8 := [101, 112, 111, 99, 104]
def bColl : List UInt8 := [99, 111, 108, 108]
def bBlob : List UInt8 := [98, 108, 111, 98]
def bWord : List UInt8 := [119, 111, 114, 100]
/-- What stands below a key of a kind. -/
def mayP (k : List UInt8) : (List UInt8 × Nat) × (List UInt8 × Nat) :=
  if k = bColl then ((bBlob, 1), (bWord, 2)) else if k = bEpoch then ((bColl, 1), ([], 0)) else if k = bRoot then ((bEpoch, 1), ([], 0)) else (([], 0), ([], 0))
theorem may_look (k : List UInt8) (hp : Heap) : lookupV Tryd.prog hp 83 (.cm 0) (.str k) false = some (.agg [.str (mayP k).1.1, .int .i64 (mayP k).1.2, .str (mayP k).2.1, .int .i64 (mayP k).2.2]) := by
  unfold mayP
  by_cases h1 : k = bColl
  · subst h1; kernel_rfl
  · by_cases h2 : k = bEpoch
    · subst h2; kernel_rfl
    · by_cases h3 : k = bRoot
      · subst h3; kernel_rfl
      · rw [if_neg h1, if_neg h2, if_neg h3]
        unfold bColl at h1
        unfold bEpoch at h2
        unfold bRoot at h3
        simp [lookupV, lookupC, isCM, cmOf, cmT, cmFind, keyEq, plainKey, h1, h2, h3]
theorem bs22W {t : List UInt8} : bsvV GW 22 1 [0] [.str t] = some (.list 1 [.str t]) := by kernel_rfl
theorem sclone_call (a : List UInt8) (l : List (List UInt8)) (hl : l.length ≤ 1000) (sl : Slots) (hp : Heap) (hf : aget hp 1006000038 = none) : callV GW clW (some 38) (.fn (.func 40) [] []) [.list 1 (strsL (a :: l))] ⟨sl, hp⟩ =
    some (.val (.own 1006000038) ⟨sl, (1006000038, .row 1 (strsL (a :: l)) false ⟨true, 9⟩) :: hp⟩) := by
  refine callV_lift (by decide) rfl ?_
  have hn : newName 38 1005 = 1006000038 := by decide
  refine callV_of (pre := [.list 1 (strsL (a :: l))]) (st1 := ⟨sl, hp⟩) (ns := []) (y := (.ret (.own 1005), [(1005, .row 1 (strsL (a :: l)) false ⟨true, 9⟩)])) (st3 := ⟨sl, (1006000038, .row 1 (strsL (a :: l)) false ⟨true, 9⟩) :: hp⟩) E40 (by decide) ext40 ?_ ?_ ?_ rfl ?_ ?_ ?_
  · simp [prepL, strsL]
  · simp [prepRows, ASt.fix, hfix, strsL]
  · simp [AV.namesL, strsL]
  · have := sclone_eq a l hl
    simp only [strsL, List.map_cons] at this
    have e : subHeap [] hp = [] := rfl
    simp [AV.renL, strsL, e, this]
  · simp [afterCall, afterHeap, zipIx, movedOf, killAll, backMap, backName, AObj.moved, AObj.isRow, AObj.ormv, ASt.killn, hn, hf, strsL]
  · simp [answered, backMap, backName, hn]
theorem sins_call (k a : List UInt8) (l : List (List UInt8)) (hl : l.length ≤ 1000) (d : Option Nat) (K : Nat) (mv : Bool) (sl : Slots) (hp : Heap) (hK : aget hp K = some (.row 1 (strsL (a :: l)) false ⟨mv, 9⟩)) : callV GW clW d (.fn (.func 39) [] []) [.own K, .int .i64 0, .list 1 [.str k]] ⟨sl, hp⟩ =
    some (.val (.own K) ⟨sl.map (fun p => (p.1, p.2.kill K)), (K, .row 1 (strsL (k :: a :: l)) false ⟨true, 9⟩) :: hp.map (fun p => (p.1, p.2.kill K))⟩) := by
  refine callV_lift (by decide) rfl ?_
  have hi : G.inplace 39 0 = true := by kernel_rfl
  have hi1 : G.inplace 39 1 = false := by kernel_rfl
  have hi2 : G.inplace 39 2 = false := by kernel_rfl
  have hkl : aget (hp.map fun p => (p.1, p.2.kill K)) K = some (.row 1 (strsL (a :: l)) false ⟨mv, 9⟩) := by rw [aget_mapv', hK]; simp [strsL]
  refine callV_of (pre := [.own K, .int .i64 0, .list 1 [.str k]]) (st1 := ⟨sl, hp⟩) (ns := [K]) (y := (.ret (.own 0), [(0, .row 1 (strsL (k :: a :: l)) false ⟨true, 9⟩)])) (st3 := ⟨sl.map (fun p => (p.1, p.2.kill K)), (K, .row 1 (strsL (k :: a :: l)) false ⟨true, 9⟩) :: hp.map (fun p => (p.1, p.2.kill K))⟩) E39 (by decide) ext39 ?_ ?_ ?_ ?_ ?_ ?_ ?_
  · simp [prepL, hi, hi1, hi2]
  · simp [prepRows, hi, hi1, hi2, ASt.fix, hfix]
  · simp [AV.namesL, reachL, hK, strsL]
  · simp [hK]
  · have := sins_eq k a l hl
    simp only [strsL, List.map_cons] at this
    simp [AV.renL, subHeap, zipIx, toMap, hK, strsL, AObj.unmv]
    exact this
  · simp [afterCall, afterHeap, zipIx, movedOf, killAll, backMap, backName, AObj.moved, AObj.isRow, AObj.ormv, ASt.killn, hK, hkl, strsL]
  · simp [answered, backMap, backName]
theorem derive_call (b s : List UInt8) (l : List (List UInt8)) (hb : b.length ≤ 1000000) (hl : (s :: l).length ≤ 10000) (hll : lenL (s :: l) ≤ 700000) (d : Option Nat) (K : Nat) (mv : Bool) (sl : Slots) (hp : Heap) (hK : aget hp K = some (.row 1 (strsL (s :: l)) false ⟨mv, 9⟩)) :
    callV GW clW d (.fn (.func 45) [] []) [.str b, .int .i64 32, .own K] ⟨sl, hp⟩ = some (.val (.tup [.str (deriveS b (s :: l)), .int .i64 0]) ((⟨sl, hp⟩ : ASt).fix [K])) := by
  have := callR_W (d := d) (first := []) (caps := []) (args := [.str b, .int .i64 32, .own K]) (pre := [.str b, .int .i64 32, .list 1 (strsL (s :: l))]) (st := ⟨sl, hp⟩) E45 (by decide) ext45 rfl rfl (by simp [hK, strsL]) (by simp [strsL]) (derive_eq b s l hb hl hll) rfl
  rw [this]
  simp
theorem pv_pure {o} : (pv o).pureB = true := by
  cases o with
  | none => rfl
  | some l => cases l with
    | nil => rfl
    | cons a l => simp [pv, strsL]
theorem scat_call (P : Option (List (List UInt8))) (a : List UInt8) (l : List (List UInt8)) (hP : (pvL P).length ≤ 1000) (hl : l.length < 1000) (d : Option Nat) (K : Nat) (mv : Bool) (sl : Slots) (hp : Heap) (hK : aget hp K = some (.row 1 [pv P, .list 1 (strsL (a :: l))] false ⟨mv, 22⟩)) :
    callV GW clW d (.fn (.func 46) [] []) [.own K] ⟨sl, hp⟩ = some (.val (.list 1 (strsL (pvL P ++ a :: l))) ((⟨sl, hp⟩ : ASt).fix [K])) := by
  have := callR_W (d := d) (first := []) (caps := []) (args := [.own K]) (pre := [.list 1 [pv P, .list 1 (strsL (a :: l))]]) (st := ⟨sl, hp⟩) E46 (by decide) ext46 rfl rfl (by simp [hK, strsL, pv_rv]) (by simp [strsL, pv_names]) (liftW (by decide) rfl (scat_eq P a l hP hl)) (by simp [strsL])
  rw [this]
  simp
theorem strsL_names (l : List (List UInt8)) : AV.namesL (strsL l) = [] := by
  induction l with
  | nil => rfl
  | cons a l ih => simp only [strsL, List.map_cons] at ih ⊢; simp [ih]
set_option maxHeartbeats 8000000 in
theorem down_eq (kd bs kind a : List UInt8) (P : Option (List (List UInt8))) (l : List (List UInt8)) (hc : conS (kind, l.length + 1) (mayP kd).1 (mayP kd).2 = true) (hbs : bs.length = 32) (hl : l.length ≤ 900) (hP : (pvL P).length ≤ 1000) (hll : lenL (kind :: a :: l) ≤ 700000) :
    clW 26 [.agg [.str kd, pv P, .str bs], .str kind, .list 1 (strsL (a :: l))] [] = some (.ret (.tup [.agg [.str kind, .list 1 (strsL (pvL P ++ a :: l)), .str (deriveS bs (kind :: a :: l))], .int .i64 0]), []) := by
  refine fnW Tryd.func26 rfl (by simp) (by decide) rfl ?_
  have hlk := fun hp => may_look kd hp
  have hcl := fun sl hp => sclone_call a l (by omega) sl hp
  have hin := fun d mv sl hp => sins_call kind a l (by omega) d 1006000038 mv sl hp
  have hde := fun d mv sl hp => derive_call bs kind (a :: l) (by omega) (by simp; omega) hll d 1006000038 mv sl hp
  have g0 : ∀ st : ASt, st.ev (.global 0) = .ep (.cm 0) 0 := fun _ => rfl
  have hPp := pv_plain P
  have k1 := hPp.rv
  have k2 := hPp.names
  have k3 := hPp.rows
  have k4 := hPp.ren
  have k6 := pv_pure (o := P)
  have hca := fun d mv sl hp => scat_call P a l hP (by omega) d 1053 mv sl hp
  have k5 := fun n => pv_kill (n := n) (o := P)
  have hpc : (pv P).cells = [pv P] := by
    cases P with
    | none => rfl
    | some x => cases x <;> rfl
  have hpo : okCell (pv P) = true := by
    cases P with
    | none => rfl
    | some x => cases x <;> rfl
  generalize deriveS bs (kind :: a :: l) = D at *
  generalize hR : strsL (pvL P ++ a :: l) = R at *
  have hRn : AV.namesL R = [] := by rw [← hR]; exact strsL_names _
  simp only [strsL, List.map_cons] at hcl hin hde hca
  generalize pv P = Q at *
  generalize mayP kd = M at *
  obtain ⟨⟨p1, p2⟩, ⟨q1, q2⟩⟩ := M
  simp only at hlk hc
  have hcm : (AV.cm 0).cells = [.cm 0] := rfl
  have hz : ¬ ((l.length : Int) + 1 = 0) := by omega
  have hsn : 81 ∈ snapT := by decide
  have hpa : partsA true 2 [.str p1, .int .i64 p2, .str q1, .int .i64 q2] 0 2 = some [.agg [.str p1, .int .i64 p2], .agg [.str q1, .int .i64 q2]] := rfl
  have hcon := fun d st => callVW (d := d) (st := st) (first := []) (caps := []) (args := [.list 2 [belV (p1, p2), belV (q1, q2)], belV (kind, l.length + 1)]) E44 (by decide) ext44 rfl rfl (liftW (by decide) rfl (contains_eq (kind, l.length + 1) (p1, p2) (q1, q2))) rfl
  rw [hc] at hcon
  simp only [belV, Int.natCast_add, Int.natCast_one, Int.cast_ofNat_Int] at hcon
  simp [hcm, bs22W, hcl, hin, hde, hca, k6, hz, hsn, hpa, dropSt, k5, List.filter_cons, List.filter_nil, hcon, hbs, Tryd.f26, strsL, k1, k2, k3, k4, hpc, hpo, g0, hlk]
  exact end_is (.inr rfl) (by simp [resL, resv]; first | done | exact ⟨rfl, rfl⟩ | rfl) (by simp [hRn]) rfl
end Go.Proofs.YteibklnligmanaaDoor


/- keys: Epoch, Coll, Blob, Word, Root. -/
namespace Go.Proofs.YteibklnligmanaaDoor
open Go Abs
set_option linter.unusedSimpArgs false
set_option linter.unusedVariables false
attribute [local simp] canonK canonAll canonSlot canonCell canonBox ownStep restrictTo pureCells pureRows reachL AObj.names List.range_succ appendA
/-- A key. -/
structure KeyM where
  kind : List UInt8
  parts : Option (List (List UInt8))
  bytes : List UInt8
def KeyM.v (k : KeyM) : AV := .agg [.str k.kind, pv k.parts, .str k.bytes]
def noKey : KeyM := ⟨[], none, []⟩
/-- The key below a key, or the error. -/
def belowS (k : KeyM) (kind : List UInt8) (ps : List (List UInt8)) : Option KeyM :=
  if conS (kind, ps.length) (mayP k.kind).1 (mayP k.kind).2 = true ∧ k.bytes.length = 32 then some ⟨kind, some (pvL k.parts ++ ps), deriveS k.bytes (kind :: ps)⟩ else none
def keyE : Option KeyM → AV
  | some k => .tup [k.v, .int .i64 0]
  | none => .tup [noKey.v, .int .i64 1]
theorem key_names {k : KeyM} : k.v.names = [] := by simp [KeyM.v, pv_names]
theorem keyE_names {o} : (keyE o).names = [] := by cases o <;> simp [keyE, key_names]
set_option maxHeartbeats 8000000 in
theorem down_err (kd bs kind a : List UInt8) (P : Option (List (List UInt8))) (l : List (List UInt8)) (hc : ¬ (conS (kind, l.length + 1) (mayP kd).1 (mayP kd).2 = true ∧ bs.length = 32)) (hl : l.length ≤ 900) (hbl : bs.length ≤ 1000000) :
    clW 26 [.agg [.str kd, pv P, .str bs], .str kind, .list 1 (strsL (a :: l))] [] = some (.ret (keyE none), []) := by
  refine fnW Tryd.func26 rfl (by simp) (by decide) rfl ?_
  have hlk := fun hp => may_look kd hp
  have g0 : ∀ st : ASt, st.ev (.global 0) = .ep (.cm 0) 0 := fun _ => rfl
  have hPp := pv_plain P
  have k1 := hPp.rv
  have k2 := hPp.names
  have k3 := hPp.rows
  have k4 := hPp.ren
  have k5 := fun n => pv_kill (n := n) (o := P)
  have hpc : (pv P).cells = [pv P] := by
    cases P with
    | none => rfl
    | some x => cases x <;> rfl
  have hpo : okCell (pv P) = true := by
    cases P with
    | none => rfl
    | some x => cases x <;> rfl
  generalize pv P = Q at *
  generalize mayP kd = M at *
  obtain ⟨⟨p1, p2⟩, ⟨q1, q2⟩⟩ := M
  simp only at hlk hc
  have hcm : (AV.cm 0).cells = [.cm 0] := rfl
  have hz : ¬ ((l.length : Int) + 1 = 0) := by omega
  have hsn : 81 ∈ snapT := by decide
  have hpa : partsA true 2 [.str p1, .int .i64 p2, .str q1, .int .i64 q2] 0 2 = some [.agg [.str p1, .int .i64 p2], .agg [.str q1, .int .i64 q2]] := rfl
  have hcon := fun d st => callVW (d := d) (st := st) (first := []) (caps := []) (args := [.list 2 [belV (p1, p2), belV (q1, q2)], belV (kind, l.length + 1)]) E44 (by decide) ext44 rfl rfl (liftW (by decide) rfl (contains_eq (kind, l.length + 1) (p1, p2) (q1, q2))) rfl
  simp only [belV, Int.natCast_add, Int.natCast_one, Int.cast_ofNat_Int] at hcon
  cases hcs : conS (kind, l.length + 1) (p1, p2) (q1, q2) with
  | false =>
    rw [hcs] at hcon
    simp [hcm, hz, hsn, hpa, dropSt, k5, List.filter_cons, List.filter_nil, hcon, Tryd.f26, strsL, k1, k2, k3, k4, hpc, hpo, g0, hlk]
    exact end_is (.inr rfl) (by simp [resL, resv]; first | done | exact ⟨rfl, rfl⟩ | rfl) rfl rfl
  | true =>
    rw [hcs] at hcon
    have hbs : ¬ (bs.length : Int) = 32 := fun h => hc ⟨hcs, by omega⟩
    have hbs' : ¬ bs.length = 32 := fun h => hc ⟨hcs, h⟩
    simp [hcm, hz, hsn, hpa, dropSt, k5, List.filter_cons, List.filter_nil, hcon, hbs, hbs', Tryd.f26, strsL, k1, k2, k3, k4, hpc, hpo, g0, hlk]
    exact end_is (.inr rfl) (by simp [resL, resv]; first | done | exact ⟨rfl, rfl⟩ | rfl) rfl rfl
theorem down_is (k : KeyM) (kind a : List UInt8) (l : List (List UInt8)) (hl : l.length ≤ 900) (hP : (pvL k.parts).length ≤ 1000) (hb : k.bytes.length ≤ 1000000) (hll : lenL (kind :: a :: l) ≤ 700000) :
    clW 26 [k.v, .str kind, .list 1 (strsL (a :: l))] [] = some (.ret (keyE (belowS k kind (a :: l))), []) := by
  unfold belowS
  split
  · rename_i h
    have e : pvL k.parts ++ a :: l ≠ [] := by simp
    have := down_eq k.kind k.bytes kind a k.parts l h.1 h.2 hl hP hll
    have e2 : pv (some (pvL k.parts ++ a :: l)) = .list 1 (strsL (pvL k.parts ++ a :: l)) := by
      cases hx : pvL k.parts ++ a :: l with
      | nil => exact absurd hx e
      | cons b m => rfl
    unfold KeyM.v keyE KeyM.v
    simp only [e2]
    exact this
  · rename_i h
    exact down_err k.kind k.bytes kind a k.parts l h hl hb
theorem down_call (k : KeyM) (kind a : List UInt8) (l : List (List UInt8)) (hl : l.length ≤ 900) (hP : (pvL k.parts).length ≤ 1000) (hb : k.bytes.length ≤ 1000000) (hll : lenL (kind :: a :: l) ≤ 700000) (d : Option Nat) (st : ASt) :
    callV GW clW d (.fn (.func 26) [k.v] []) [.str kind, .list 1 (strsL (a :: l))] st = some (.val (keyE (belowS k kind (a :: l))) st) :=
  callVW (first := [k.v]) (caps := []) (args := [.str kind, .list 1 (strsL (a :: l))]) E26 (by decide) ext26 rfl (by simp [key_names, strsL, strsL_names]) (down_is k kind a l hl hP hb hll) keyE_names
set_option maxHeartbeats 8000000 in
theorem kdown_eq (k : KeyM) (kind a : List UInt8) (l : List (List UInt8)) (hl : l.length ≤ 900) (hP : (pvL k.parts).length ≤ 1000) (hb : k.bytes.length ≤ 1000000) (hll : lenL (kind :: a :: l) ≤ 700000) :
    clW 25 [.fn (.func 26) [k.v] [], .str kind, .list 1 (strsL (a :: l))] [] = some (.ret (keyE (belowS k kind (a :: l))), []) := by
  refine fnW Tryd.func25 rfl (by simp) (by decide) rfl ?_
  have hd := fun d st => down_call k kind a l hl hP hb hll d st
  generalize belowS k kind (a :: l) = O at *
  have hkr : ∀ hp, k.v.rv hp = k.v := fun hp => by simp [KeyM.v, pv_rv]
  have hkn : k.v.names = [] := key_names
  have hkw : k.v.rows = [] := by simp [KeyM.v, pv_rows]
  generalize k.v = K at *
  simp only [strsL, List.map_cons] at hd
  cases O with
  | none =>
    simp only [keyE, noKey, KeyM.v, pv] at hd ⊢
    simp [Tryd.f25, strsL, hd, hkr, hkn, hkw]
    exact end_is (.inr rfl) (by simp [resL, resv]; first | done | exact ⟨rfl, rfl⟩ | rfl) rfl rfl
  | some o =>
    have hpc : (pv o.parts).cells = [pv o.parts] := by
      cases o.parts with
      | none => rfl
      | some x => cases x <;> rfl
    have hpo : okCell (pv o.parts) = true := by
      cases o.parts with
      | none => rfl
      | some x => cases x <;> rfl
    have k1 := (pv_plain o.parts).rv
    have k2 := (pv_plain o.parts).names
    have k3 := (pv_plain o.parts).rows
    have k4 := (pv_plain o.parts).ren
    simp only [keyE, KeyM.v] at hd ⊢
    generalize pv o.parts = Q at *
    simp [Tryd.f25, strsL, hd, hkr, hkn, hkw, hpc, hpo, k1, k2, k3, k4]
    exact end_is (.inr rfl) (by simp [resL, resv]; first | done | exact ⟨rfl, rfl⟩ | rfl) (by simp [k2]) rfl
end Go.Proofs.YteibklnligmanaaDoor


/- keys: Epoch, Coll, Blob, Word, Root, Nonce, Same. -/
namespace Go.Proofs.YteibklnligmanaaDoor
open Go Abs
set_option linter.unusedSimpArgs false
set_option linter.unusedVariables false
attribute [local simp] canonK canonAll canonSlot canonCell canonBox ownStep restrictTo pureCells pureRows reachL AObj.names List.range_succ appendA
theorem kdown_call (k : KeyM) (kind a : List UInt8) (l : List (List UInt8)) (hl : l.length ≤ 900) (hP : (pvL k.parts).length ≤ 1000) (hb : k.bytes.length ≤ 1000000) (hll : lenL (kind :: a :: l) ≤ 700000) (d : Option Nat) (K : Nat) (mv : Bool) (sl : Slots) (hp : Heap) (hK : aget hp K = some (.row 1 (strsL (a :: l)) false ⟨mv, 9⟩)) :
    callV GW clW d (.fn (.func 25) [] []) [.fn (.func 26) [k.v] [], .str kind, .own K] ⟨sl, hp⟩ = some (.val (keyE (belowS k kind (a :: l))) ((⟨sl, hp⟩ : ASt).fix [K])) := by
  have hkr : ∀ hp, k.v.rv hp = k.v := fun hp => by simp [KeyM.v, pv_rv]
  have hkw : k.v.rows = [] := by simp [KeyM.v, pv_rows]
  have := callR_W (d := d) (first := []) (caps := []) (args := [.fn (.func 26) [k.v] [], .str kind, .own K]) (pre := [.fn (.func 26) [k.v] [], .str kind, .list 1 (strsL (a :: l))]) (st := ⟨sl, hp⟩) E25 (by decide) ext25 rfl rfl (by simp [hK, strsL, hkr]) (by simp [key_names, strsL, strsL_names]) (kdown_eq k kind a l hl hP hb hll) keyE_names
  rw [this]
  simp [hkw]
theorem kdownL_call (k : KeyM) (kind a : List UInt8) (l : List (List UInt8)) (hl : l.length ≤ 900) (hP : (pvL k.parts).length ≤ 1000) (hb : k.bytes.length ≤ 1000000) (hll : lenL (kind :: a :: l) ≤ 700000) (d : Option Nat) (st : ASt) :
    callV GW clW d (.fn (.func 25) [] []) [.fn (.func 26) [k.v] [], .str kind, .list 1 (strsL (a :: l))] st = some (.val (keyE (belowS k kind (a :: l))) st) :=
  callVW (first := []) (caps := []) (args := [.fn (.func 26) [k.v] [], .str kind, .list 1 (strsL (a :: l))]) E25 (by decide) ext25 rfl (by simp [key_names, strsL, strsL_names]) (kdown_eq k kind a l hl hP hb hll) keyE_names
/-- What is asked of a key that is gone down from. -/
structure KeyM.few (k : KeyM) : Prop where
  parts : (pvL k.parts).length ≤ 1000
  bytes : k.bytes.length ≤ 1000000
set_option maxHeartbeats 8000000 in
theorem kcoll_eq (k : KeyM) (hk : k.few) (a : List UInt8) (ha : a.length ≤ 100000) : clW 12 [k.v, .str a] [] = some (.ret (keyE (belowS k bColl [a])), []) := by
  refine fnW Tryd.func12 rfl (by simp) (by decide) rfl ?_
  have hd := fun d mv sl hp => kdown_call k bColl a [] (by simp) hk.parts hk.bytes (by simp [lenL, bColl]; omega) d 1009 mv sl hp
  have hkr : ∀ hp, k.v.rv hp = k.v := fun hp => by simp [KeyM.v, pv_rv]
  have hpc : (pv k.parts).cells = [pv k.parts] := by
    cases k.parts with
    | none => rfl
    | some x => cases x <;> rfl
  have hpo : okCell (pv k.parts) = true := by
    cases k.parts with
    | none => rfl
    | some x => cases x <;> rfl
  have j1 := (pv_plain k.parts).rv
  have j2 := (pv_plain k.parts).names
  have j3 := (pv_plain k.parts).rows
  have j4 := (pv_plain k.parts).ren
  generalize belowS k bColl [a] = O at *
  unfold KeyM.v at hd hkr ⊢
  generalize pv k.parts = P at *
  unfold bColl at hd
  simp only [strsL, List.map_cons, List.map_nil] at hd
  cases O with
  | none =>
    simp only [keyE, noKey, KeyM.v, pv] at hd ⊢
    simp [Tryd.f12, strsL, hd, hpc, hpo, j1, j2, j3, j4]
    exact end_is (.inr rfl) (by simp [resL, resv]; first | done | exact ⟨rfl, rfl⟩ | rfl) rfl rfl
  | some o =>
    have hpc' : (pv o.parts).cells = [pv o.parts] := by
      cases o.parts with
      | none => rfl
      | some x => cases x <;> rfl
    have hpo' : okCell (pv o.parts) = true := by
      cases o.parts with
      | none => rfl
      | some x => cases x <;> rfl
    have k1 := (pv_plain o.parts).rv
    have k2 := (pv_plain o.parts).names
    have k3 := (pv_plain o.parts).rows
    have k4 := (pv_plain o.parts).ren
    simp only [keyE, KeyM.v] at hd ⊢
    generalize pv o.parts = Q at *
    simp [Tryd.f12, strsL, hd, hpc, hpo, j1, j2, j3, j4, hpc', hpo', k1, k2, k3, k4]
    exact end_is (.inr rfl) (by simp [resL, resv]; first | done | exact ⟨rfl, rfl⟩ | rfl) (by simp [k2]) rfl
set_option maxHeartbeats 8000000 in
theorem kblob_eq (k : KeyM) (hk : k.few) (a : List UInt8) (ha : a.length ≤ 100000) : clW 14 [k.v, .str a] [] = some (.ret (keyE (belowS k bBlob [a])), []) := by
  refine fnW Tryd.func14 rfl (by simp) (by decide) rfl ?_
  have hd := fun d mv sl hp => kdown_call k bBlob a [] (by simp) hk.parts hk.bytes (by simp [lenL, bBlob]; omega) d 1009 mv sl hp
  have hkr : ∀ hp, k.v.rv hp = k.v := fun hp => by simp [KeyM.v, pv_rv]
  have hpc : (pv k.parts).cells = [pv k.parts] := by
    cases k.parts with
    | none => rfl
    | some x => cases x <;> rfl
  have hpo : okCell (pv k.parts) = true := by
    cases k.parts with
    | none => rfl
    | some x => cases x <;> rfl
  have j1 := (pv_plain k.parts).rv
  have j2 := (pv_plain k.parts).names
  have j3 := (pv_plain k.parts).rows
  have j4 := (pv_plain k.parts).ren
  generalize belowS k bBlob [a] = O at *
  unfold KeyM.v at hd hkr ⊢
  generalize pv k.parts = P at *
  unfold bBlob at hd
  simp only [strsL, List.map_cons, List.map_nil] at hd
  cases O with
  | none =>
    simp only [keyE, noKey, KeyM.v, pv] at hd ⊢
    simp [Tryd.f14, strsL, hd, hpc, hpo, j1, j2, j3, j4]
    exact end_is (.inr rfl) (by simp [resL, resv]; first | done | exact ⟨rfl, rfl⟩ | rfl) rfl rfl
  | some o =>
    have hpc' : (pv o.parts).cells = [pv o.parts] := by
      cases o.parts with
      | none => rfl
      | some x => cases x <;> rfl
    have hpo' : okCell (pv o.parts) = true := by
      cases o.parts with
      | none => rfl
      | some x => cases x <;> rfl
    have k1 := (pv_plain o.parts).rv
    have k2 := (pv_plain o.parts).names
    have k3 := (pv_plain o.parts).rows
    have k4 := (pv_plain o.parts).ren
    simp only [keyE, KeyM.v] at hd ⊢
    generalize pv o.parts = Q at *
    simp [Tryd.f14, strsL, hd, hpc, hpo, j1, j2, j3, j4, hpc', hpo', k1, k2, k3, k4]
    exact end_is (.inr rfl) (by simp [resL, resv]; first | done | exact ⟨rfl, rfl⟩ | rfl) (by simp [k2]) rfl
set_option maxHeartbeats 8000000 in
theorem kword_eq (k : KeyM) (hk : k.few) (a b : List UInt8) (ha : a.length ≤ 100000) (hb : b.length ≤ 100000) : clW 15 [k.v, .str a, .str b] [] = some (.ret (keyE (belowS k bWord [a, b])), []) := by
  refine fnW Tryd.func15 rfl (by simp) (by decide) rfl ?_
  have hd := fun d mv sl hp => kdown_call k bWord a [b] (by simp) hk.parts hk.bytes (by simp [lenL, bWord]; omega) d 1012 mv sl hp
  have hkr : ∀ hp, k.v.rv hp = k.v := fun hp => by simp [KeyM.v, pv_rv]
  have hpc : (pv k.parts).cells = [pv k.parts] := by
    cases k.parts with
    | none => rfl
    | some x => cases x <;> rfl
  have hpo : okCell (pv k.parts) = true := by
    cases k.parts with
    | none => rfl
    | some x => cases x <;> rfl
  have j1 := (pv_plain k.parts).rv
  have j2 := (pv_plain k.parts).names
  have j3 := (pv_plain k.parts).rows
  have j4 := (pv_plain k.parts).ren
  generalize belowS k bWord [a, b] = O at *
  unfold KeyM.v at hd hkr ⊢
  generalize pv k.parts = P at *
  unfold bWord at hd
  simp only [strsL, List.map_cons, List.map_nil] at hd
  cases O with
  | none =>
    simp only [keyE, noKey, KeyM.v, pv] at hd ⊢
    simp [Tryd.f15, strsL, hd, hpc, hpo, j1, j2, j3, j4]
    exact end_is (.inr rfl) (by simp [resL, resv]; first | done | exact ⟨rfl, rfl⟩ | rfl) rfl rfl
  | some o =>
    have hpc' : (pv o.parts).cells = [pv o.parts] := by
      cases o.parts with
      | none => rfl
      | some x => cases x <;> rfl
    have hpo' : okCell (pv o.parts) = true := by
      cases o.parts with
      | none => rfl
      | some x => cases x <;> rfl
    have k1 := (pv_plain o.parts).rv
    have k2 := (pv_plain o.parts).names
    have k3 := (pv_plain o.parts).rows
    have k4 := (pv_plain o.parts).ren
    simp only [keyE, KeyM.v] at hd ⊢
    generalize pv o.parts = Q at *
    simp [Tryd.f15, strsL, hd, hpc, hpo, j1, j2, j3, j4, hpc', hpo', k1, k2, k3, k4]
    exact end_is (.inr rfl) (by simp [resL, resv]; first | done | exact ⟨rfl, rfl⟩ | rfl) (by simp [k2]) rfl
end Go.Proofs.YteibklnligmanaaDoor


/- keys: Epoch, Root, Nonce, Same. -/
namespace Go.Proofs.YteibklnligmanaaDoor
open Go Abs
set_option linter.unusedSimpArgs false
set_option linter.unusedVariables false
attribute [local simp] canonK canonAll canonSlot canonCell canonBox ownStep restrictTo pureCells pureRows reachL AObj.names List.range_succ appendA
theorem beqL_strs (l : List (List UInt8)) : AV.beqL (strsL l) (strsL l) = true := by
  induction l with
  | nil => rfl
  | cons a l ih => simp only [strsL, List.map_cons] at ih ⊢; simp [ih]
theorem pv_beq {o} : (pv o).beq (pv o) = true := by
  cases o with
  | none => rfl
  | some l => cases l with
    | nil => rfl
    | cons a l => have := beqL_strs (a :: l); simp only [pv]; simp [this]
def epochS (k : KeyM) (n : Int) : Option KeyM := if n < 0 then none else belowS k bEpoch [bigB n]
set_option maxHeartbeats 8000000 in
theorem kepoch_eq (k : KeyM) (hk : k.few) (n : Int) (h63 : n < 9223372036854775808) : clW 9 [k.v, .int .i64 n] [] = some (.ret (keyE (epochS k n)), []) := by
  refine fnW Tryd.func9 rfl (by simp) (by decide) rfl ?_
  have hd := fun d st => kdownL_call k bEpoch (bigB n) [] (by simp) hk.parts hk.bytes (by simp [lenL, bEpoch, bigB]) d st
  have hb := fun d st => big_W (n := n) (d := d) (st := st)
  have hpc : (pv k.parts).cells = [pv k.parts] := by
    cases k.parts with
    | none => rfl
    | some x => cases x <;> rfl
  have hpo : okCell (pv k.parts) = true := by
    cases k.parts with
    | none => rfl
    | some x => cases x <;> rfl
  have j1 := (pv_plain k.parts).rv
  have j2 := (pv_plain k.parts).names
  have j3 := (pv_plain k.parts).rows
  have j4 := (pv_plain k.parts).ren
  have j5 := pv_beq (o := k.parts)
  unfold epochS
  unfold KeyM.v at hd ⊢
  by_cases h0 : n < 0
  · rw [if_pos h0]
    generalize pv k.parts = P at *
    simp only [keyE, noKey, KeyM.v, pv]
    simp [Tryd.f9, h0, hpc, hpo, j1, j2, j3, j4]
    exact end_is (.inr rfl) (by simp [resL, resv]; first | done | exact ⟨rfl, rfl⟩ | rfl) rfl rfl
  · rw [if_neg h0]
    have hu : IntKind.u64.wrap n = n := by simp [IntKind.wrap, IntKind.bits, IntKind.signed]; omega
    generalize belowS k bEpoch [bigB n] = O at *
    generalize pv k.parts = P at *
    generalize bigB n = B at *
    unfold bEpoch at hd
    simp only [strsL, List.map_cons, List.map_nil] at hd
    have hbs := bs22W (t := B)
    cases O with
    | none =>
      simp only [keyE, noKey, KeyM.v, pv] at hd ⊢
      simp [Tryd.f9, h0, hu, hb, hbs, hd, hpc, hpo, j1, j2, j3, j4, j5]
      exact end_is (.inr rfl) (by simp [resL, resv]; first | done | exact ⟨rfl, rfl⟩ | rfl) rfl rfl
    | some o =>
      have hpc' : (pv o.parts).cells = [pv o.parts] := by
        cases o.parts with
        | none => rfl
        | some x => cases x <;> rfl
      have hpo' : okCell (pv o.parts) = true := by
        cases o.parts with
        | none => rfl
        | some x => cases x <;> rfl
      have k1 := (pv_plain o.parts).rv
      have k2 := (pv_plain o.parts).names
      have k3 := (pv_plain o.parts).rows
      have k4 := (pv_plain o.parts).ren
      have k5 := pv_beq (o := o.parts)
      simp only [keyE, KeyM.v] at hd ⊢
      generalize pv o.parts = Q at *
      simp [Tryd.f9, h0, hu, hb, hbs, hd, hpc, hpo, j1, j2, j3, j4, j5, hpc', hpo', k1, k2, k3, k4, k5]
      exact end_is (.inr rfl) (by simp [resL, resv]; first | done | exact ⟨rfl, rfl⟩ | rfl) (by simp [k2]) rfl
def bCryptex : List UInt8 := [99, 114, 121, 112, 116, 101, 120]
def rootS (s : List UInt8) : KeyM := ⟨bRoot, none, macS bCryptex [s]⟩
set_option maxHeartbeats 8000000 in
theorem kroot_eq (s : List UInt8) (hs : s.length ≤ 800000) : clW 20 [.str s] [] = some (.ret (rootS s).v, []) := by
  refine fnW Tryd.func20 rfl (by simp) (by decide) rfl ?_
  have he := fun d st => callVW (d := d) (st := st) (first := []) (caps := []) (args := [.str bCryptex, .str s]) E33 (by decide) ext33 rfl rfl (extract_eq bCryptex s (by simp [bCryptex]) hs) rfl
  unfold rootS KeyM.v
  simp only
  generalize macS bCryptex [s] = D at *
  unfold bCryptex at he
  simp [Tryd.f20, he]
  exact end_is (.inr rfl) (by simp [resL, resv]; first | done | exact ⟨rfl, rfl⟩ | rfl) rfl rfl
def nonceS (n : Int) : List UInt8 := bigB4 0 ++ bigB n
set_option maxHeartbeats 8000000 in
theorem nonce_eq (n : Int) : cl 18 [.int .u64 n] [] = some (.ret (.str (nonceS n)), []) := by
  refine fn_intro Tryd.func18 rfl (by simp) (by decide) rfl ?_
  have h1 := fun d st => big4_call (n := 0) (d := d) (st := st)
  have h2 := fun d st => big_call (n := n) (d := d) (st := st)
  have hL : (bigB4 0).length + (bigB n).length ≤ LIM := by show 4 + 8 ≤ LIM; unfold LIM; omega
  unfold nonceS
  generalize bigB n = B at *
  generalize bigB4 0 = C at *
  simp [Tryd.f18, h1, h2, hL]
  rfl
end Go.Proofs.YteibklnligmanaaDoor


/- Lists of texts that are the same. -/
namespace Go.Proofs.YteibklnligmanaaDoor
open Go Abs
set_option linter.unusedSimpArgs false
set_option linter.unusedVariables false
attribute [local simp] canonK canonAll canonSlot canonCell canonBox ownStep restrictTo pureCells pureRows reachL AObj.names List.range_succ appendA
/-! slices.Equal[[]string,string] -/
def stsq (l m : List (List UInt8)) (i : Nat) : ASt := ⟨[(0, .list 1 (strsL l)), (1, .list 1 (strsL m)), (12, .int .i64 l.length), (13, .int .i64 i)], []⟩
set_option maxHeartbeats 8000000 in
theorem sq_yes (l m : List (List UInt8)) (hlm : l.length = m.length) (hl : l.length ≤ 1000000) (i : Nat) (a : List UInt8) (ha : l[i]? = some a) (hb : m[i]? = some a) : rX 32 (lc Tryd.f32 0) (codeX G cl lp 32 (lc Tryd.f32 0) (stsq l m i)) = some (.normal, stsq l m (i + 1)) := by
  have hlt : i < l.length := (List.getElem?_eq_some_iff.1 ha).1
  have hlt' : i < m.length := (List.getElem?_eq_some_iff.1 hb).1
  have ea : l[i] = a := (List.getElem?_eq_some_iff.1 ha).2
  have eb : m[i] = a := (List.getElem?_eq_some_iff.1 hb).2
  have h1 : (i : Int) < l.length := by omega
  have h2 : (i : Int) < m.length := by omega
  have hw : IntKind.i64.wrap ((i : Int) + 1) = ((i + 1 : Nat) : Int) := by rw [i64_wrap (by omega) (by omega)]; omega
  unfold stsq
  generalize i + 1 = n at *
  simp [lc, loopsOf, Tryd.f32, strsL, h1, h2, hlt, hlt', ea, eb, hw, hlm]
set_option maxHeartbeats 8000000 in
theorem sq_no (l m : List (List UInt8)) (hlm : l.length = m.length) (i : Nat) (a b : List UInt8) (ha : l[i]? = some a) (hb : m[i]? = some b) (hab : a ≠ b) : rX 32 (lc Tryd.f32 0) (codeX G cl lp 32 (lc Tryd.f32 0) (stsq l m i)) = some (.ret, ⟨[(4, .bool false)], []⟩) := by
  have hlt : i < l.length := (List.getElem?_eq_some_iff.1 ha).1
  have hlt' : i < m.length := (List.getElem?_eq_some_iff.1 hb).1
  have ea : l[i] = a := (List.getElem?_eq_some_iff.1 ha).2
  have eb : m[i] = b := (List.getElem?_eq_some_iff.1 hb).2
  have h1 : (i : Int) < l.length := by omega
  have h2 : (i : Int) < m.length := by omega
  have hab' : ¬ a = b := hab
  unfold stsq
  simp [lc, loopsOf, Tryd.f32, strsL, h1, h2, hlt, hlt', ea, eb, hab', hlm]
set_option maxHeartbeats 8000000 in
theorem sq_exit (l m : List (List UInt8)) (hlm : l.length = m.length) : rX 32 (lc Tryd.f32 0) (codeX G cl lp 32 (lc Tryd.f32 0) (stsq l m l.length)) = some (.exit 0, ⟨(stsq l m l.length).sl ++ [(14, .bool false)], []⟩) := by
  unfold stsq
  simp [lc, loopsOf, Tryd.f32, strsL, hlm]
theorem sq_loop (l m : List (List UInt8)) (hlm : l.length = m.length) (hl : l.length ≤ 1000000) : ∀ (c i : Nat), i + c = l.length → (l.take i = m.take i) →
    lp 32 (lc Tryd.f32 0) (stsq l m i) = some (if l = m then (.exit 0, ⟨(stsq l m l.length).sl ++ [(14, .bool false)], []⟩) else (.ret, ⟨[(4, .bool false)], []⟩)) := by
  intro c
  induction c with
  | zero =>
    intro i hi ht
    obtain rfl : i = l.length := by omega
    have : l = m := by
      rw [List.take_length] at ht
      rw [hlm, List.take_length] at ht; exact ht
    rw [if_pos this]
    exact loop_out (sq_exit l m hlm) (by simp)
  | succ c ih =>
    intro i hi ht
    obtain ⟨a, ha⟩ : ∃ a, l[i]? = some a := ⟨_, List.getElem?_eq_getElem (by omega)⟩
    obtain ⟨b, hb⟩ : ∃ b, m[i]? = some b := ⟨_, List.getElem?_eq_getElem (by omega)⟩
    by_cases hab : a = b
    · subst hab
      exact loop_next (sq_yes l m hlm hl i a ha hb) (ih (i + 1) (by omega) (by rw [List.take_add_one, List.take_add_one, ha, hb, ht]))
    · have hne : l ≠ m := fun e => hab (by rw [e, hb] at ha; exact (Option.some.inj ha).symm)
      rw [if_neg hne]
      exact loop_out (sq_no l m hlm i a b ha hb hab) (by simp)
set_option maxHeartbeats 8000000 in
theorem sq_nil (P Q : AV) (hP : P = .nils ∨ P = .list 0 []) (hQ : Q = .nils ∨ Q = .list 0 []) : lp 32 (lc Tryd.f32 0) ⟨[(0, P), (1, Q), (12, .int .i64 0), (13, .int .i64 0)], []⟩ = some (.exit 0, ⟨[(0, P), (1, Q), (12, .int .i64 0), (13, .int .i64 0), (14, .bool false)], []⟩) := by
  refine loop_out ?_ (by simp)
  rcases hP with rfl | rfl <;> rcases hQ with rfl | rfl <;> simp [lc, loopsOf, Tryd.f32]
set_option maxHeartbeats 8000000 in
theorem sq_eq (p q : Option (List (List UInt8))) (hp : (pvL p).length ≤ 1000000) : cl 32 [pv p, pv q] [] = some (.ret (.bool (decide (pvL p = pvL q))), []) := by
  refine fn_intro Tryd.func32 rfl (by simp) (by decide) rfl ?_
  by_cases hl : (pvL p).length = (pvL q).length
  · cases hx : pvL p with
    | nil =>
      have hy : pvL q = [] := by rw [hx] at hl; exact List.length_eq_zero_iff.1 hl.symm
      rw [hy]
      have hpc : p = none ∨ p = some [] := by
        cases p with
        | none => exact .inl rfl
        | some x => exact .inr (by rw [show pvL (some x) = x from rfl] at hx; rw [hx])
      have hqc : q = none ∨ q = some [] := by
        cases q with
        | none => exact .inl rfl
        | some x => exact .inr (by rw [show pvL (some x) = x from rfl] at hy; rw [hy])
      have hP : pv p = .nils ∨ pv p = .list 0 [] := by rcases hpc with rfl | rfl; exact .inl rfl; exact .inr rfl
      have hQ : pv q = .nils ∨ pv q = .list 0 [] := by rcases hqc with rfl | rfl; exact .inl rfl; exact .inr rfl
      have h0 := sq_nil _ _ hP hQ
      generalize pv p = P at *
      generalize pv q = Q at *
      simp [lc, loopsOf, Tryd.f32] at h0
      rcases hP with rfl | rfl <;> rcases hQ with rfl | rfl <;> simp [Tryd.f32, h0] <;> rfl
    | cons a l =>
      cases hy : pvL q with
      | nil => rw [hx, hy] at hl; cases hl
      | cons b m =>
        have hpe : p = some (a :: l) := by
          cases p with
          | none => cases hx
          | some x => rw [show pvL (some x) = x from rfl] at hx; rw [hx]
        have hqe : q = some (b :: m) := by
          cases q with
          | none => cases hy
          | some x => rw [show pvL (some x) = x from rfl] at hy; rw [hy]
        rw [hx, hy] at hl
        rw [hx] at hp
        have h0 := sq_loop (a :: l) (b :: m) hl hp (a :: l).length 0 (by omega) rfl
        have hlm : l.length = m.length := by simpa using hl
        subst hpe hqe
        by_cases he : a :: l = b :: m
        · rw [if_pos he] at h0
          have hd : decide (a :: l = b :: m) = true := decide_eq_true he
          rw [hd]
          unfold stsq at h0
          simp [lc, loopsOf, Tryd.f32, strsL, hlm] at h0
          simp [Tryd.f32, pv, strsL, hlm, h0]
          rfl
        · rw [if_neg he] at h0
          have hd : decide (a :: l = b :: m) = false := decide_eq_false he
          rw [hd]
          unfold stsq at h0
          simp [lc, loopsOf, Tryd.f32, strsL, hlm] at h0
          simp [Tryd.f32, pv, strsL, hlm, h0]
          rfl
  · have hne : pvL p ≠ pvL q := fun e => hl (by rw [e])
    have hd : decide (pvL p = pvL q) = false := decide_eq_false hne
    rw [hd]
    have hl' : ¬ ((pvL p).length : Int) = (pvL q).length := by omega
    have key : ∀ o, lenD [] (some (.slice 9)) (pv o) = some (.int .i64 (pvL o).length) := fun o => by
      cases o with
      | none => rfl
      | some x => cases x <;> simp [pv, pvL, strsL]
    have c1 := key p
    have c2 := key q
    have j1 := (pv_plain p)
    have j2 := (pv_plain q)
    have a1 := j1.rv
    have a2 := j1.names
    have a3 := j1.rows
    have b1 := j2.rv
    have b2 := j2.names
    have b3 := j2.rows
    generalize (pvL p).length = x at *
    generalize (pvL q).length = y at *
    generalize pv p = P at *
    generalize pv q = Q at *
    simp [Tryd.f32, c1, c2, hl, hl', a1, a2, a3, b1, b2, b3]
    rfl
/-! cryptex/cryptexref01.Texts -/
end Go.Proofs.YteibklnligmanaaDoor


/- keys: Same, Label. -/
namespace Go.Proofs.YteibklnligmanaaDoor
open Go Abs
set_option linter.unusedSimpArgs false
set_option linter.unusedVariables false
attribute [local simp] canonK canonAll canonSlot canonCell canonBox ownStep restrictTo pureCells pureRows reachL AObj.names List.range_succ appendA
def sameS (k o : KeyM) : Bool := decide (k.kind = o.kind) && decide (k.bytes = o.bytes) && decide (pvL k.parts = pvL o.parts)
theorem pv_cells {o} : (pv o).cells = [pv o] := by
  cases o with
  | none => rfl
  | some x => cases x <;> rfl
theorem pv_okc {o} : okCell (pv o) = true := by
  cases o with
  | none => rfl
  | some x => cases x <;> rfl
set_option maxHeartbeats 8000000 in
theorem ksame_eq (k o : KeyM) (hk : (pvL k.parts).length ≤ 1000000) : cl 19 [k.v, o.v] [] = some (.ret (.bool (sameS k o)), []) := by
  refine fn_intro Tryd.func19 rfl (by simp) (by decide) rfl ?_
  have he := fun d st => callV_ret (d := d) (st := st) (first := []) (caps := []) (args := [pv k.parts, pv o.parts]) E32 (by decide) ext32 rfl (by simp [pv_names]) (sq_eq k.parts o.parts hk) rfl
  unfold sameS KeyM.v
  have a0 := pv_cells (o := k.parts)
  have a1 := pv_okc (o := k.parts)
  have a2 := (pv_plain k.parts).rv
  have a3 := (pv_plain k.parts).names
  have a4 := (pv_plain k.parts).rows
  have a5 := (pv_plain k.parts).ren
  have b0 := pv_cells (o := o.parts)
  have b1 := pv_okc (o := o.parts)
  have b2 := (pv_plain o.parts).rv
  have b3 := (pv_plain o.parts).names
  have b4 := (pv_plain o.parts).rows
  have b5 := (pv_plain o.parts).ren
  generalize decide (pvL k.parts = pvL o.parts) = B at *
  generalize pv k.parts = P at *
  generalize pv o.parts = Q at *
  by_cases h1 : k.kind = o.kind
  · by_cases h2 : k.bytes = o.bytes
    · cases B <;> simp [Tryd.f19, h1, h2, he, a0, a1, a2, a3, a4, a5, b0, b1, b2, b3, b4, b5] <;> rfl
    · simp [Tryd.f19, h1, h2, he, a0, a1, a2, a3, a4, a5, b0, b1, b2, b3, b4, b5]
      rfl
  · simp [Tryd.f19, h1, he, a0, a1, a2, a3, a4, a5, b0, b1, b2, b3, b4, b5]
    rfl
end Go.Proofs.YteibklnligmanaaDoor


/- keys: Label. -/
namespace Go.Proofs.YteibklnligmanaaDoor
open Go Abs
set_option linter.unusedSimpArgs false
set_option linter.unusedVariables false
attribute [local simp] canonK canonAll canonSlot canonCell canonBox ownStep restrictTo pureCells pureRows reachL AObj.names List.range_succ appendA
theorem sclone_F (a : List UInt8) (l : List (List UInt8)) (hl : l.length ≤ 1000) (d : Nat) (sl : Slots) (hp : Heap) (hf : aget hp (newName d 1005) = none) : callV G cl (some d) (.fn (.func 40) [] []) [.list 1 (strsL (a :: l))] ⟨sl, hp⟩ =
    some (.val (.own (newName d 1005)) ⟨sl, (newName d 1005, .row 1 (strsL (a :: l)) false ⟨true, 9⟩) :: hp⟩) := by
  refine callV_of (pre := [.list 1 (strsL (a :: l))]) (st1 := ⟨sl, hp⟩) (ns := []) (y := (.ret (.own 1005), [(1005, .row 1 (strsL (a :: l)) false ⟨true, 9⟩)])) (st3 := ⟨sl, (newName d 1005, .row 1 (strsL (a :: l)) false ⟨true, 9⟩) :: hp⟩) E40 (by decide) ext40 ?_ ?_ ?_ rfl ?_ ?_ ?_
  · simp [prepL, strsL]
  · simp [prepRows, ASt.fix, hfix, strsL]
  · simp [AV.namesL, strsL]
  · have := sclone_eq a l hl
    simp only [strsL, List.map_cons] at this
    have e : subHeap [] hp = [] := rfl
    simp [AV.renL, strsL, e, this]
  · simp [afterCall, afterHeap, zipIx, movedOf, killAll, backMap, backName, AObj.moved, AObj.isRow, AObj.ormv, ASt.killn, hf, strsL]
  · simp [answered, backMap, backName]
theorem sclone_F0 (d : Nat) (sl : Slots) (hp : Heap) (hf : aget hp (newName d 1005) = none) : callV G cl (some d) (.fn (.func 40) [] []) [.list 0 []] ⟨sl, hp⟩ =
    some (.val (.own (newName d 1005)) ⟨sl, (newName d 1005, .row 1 [] false ⟨true, 9⟩) :: hp⟩) := by
  refine callV_of (pre := [.list 0 []]) (st1 := ⟨sl, hp⟩) (ns := []) (y := (.ret (.own 1005), [(1005, .row 1 [] false ⟨true, 9⟩)])) (st3 := ⟨sl, (newName d 1005, .row 1 [] false ⟨true, 9⟩) :: hp⟩) E40 (by decide) ext40 ?_ ?_ ?_ rfl ?_ ?_ ?_
  · simp [prepL]
  · simp [prepRows, ASt.fix, hfix]
  · simp [AV.namesL]
  · have e : subHeap [] hp = [] := rfl
    simp [AV.renL, e, sclone_0]
  · simp [afterCall, afterHeap, zipIx, movedOf, killAll, backMap, backName, AObj.moved, AObj.isRow, AObj.ormv, ASt.killn, hf]
  · simp [answered, backMap, backName]
theorem sins_F (k a : List UInt8) (l : List (List UInt8)) (hl : l.length ≤ 1000) (d : Option Nat) (K : Nat) (mv : Bool) (sl : Slots) (hp : Heap) (hK : aget hp K = some (.row 1 (strsL (a :: l)) false ⟨mv, 9⟩)) : callV G cl d (.fn (.func 39) [] []) [.own K, .int .i64 0, .list 1 [.str k]] ⟨sl, hp⟩ =
    some (.val (.own K) ⟨sl.map (fun p => (p.1, p.2.kill K)), (K, .row 1 (strsL (k :: a :: l)) false ⟨true, 9⟩) :: hp.map (fun p => (p.1, p.2.kill K))⟩) := by
  have hi : G.inplace 39 0 = true := by kernel_rfl
  have hi1 : G.inplace 39 1 = false := by kernel_rfl
  have hi2 : G.inplace 39 2 = false := by kernel_rfl
  have hkl : aget (hp.map fun p => (p.1, p.2.kill K)) K = some (.row 1 (strsL (a :: l)) false ⟨mv, 9⟩) := by rw [aget_mapv', hK]; simp [strsL]
  refine callV_of (pre := [.own K, .int .i64 0, .list 1 [.str k]]) (st1 := ⟨sl, hp⟩) (ns := [K]) (y := (.ret (.own 0), [(0, .row 1 (strsL (k :: a :: l)) false ⟨true, 9⟩)])) (st3 := ⟨sl.map (fun p => (p.1, p.2.kill K)), (K, .row 1 (strsL (k :: a :: l)) false ⟨true, 9⟩) :: hp.map (fun p => (p.1, p.2.kill K))⟩) E39 (by decide) ext39 ?_ ?_ ?_ ?_ ?_ ?_ ?_
  · simp [prepL, hi, hi1, hi2]
  · simp [prepRows, hi, hi1, hi2, ASt.fix, hfix]
  · simp [AV.namesL, reachL, hK, strsL]
  · simp [hK]
  · have := sins_eq k a l hl
    simp only [strsL, List.map_cons] at this
    simp [AV.renL, subHeap, zipIx, toMap, hK, strsL, AObj.unmv]
    exact this
  · simp [afterCall, afterHeap, zipIx, movedOf, killAll, backMap, backName, AObj.moved, AObj.isRow, AObj.ormv, ASt.killn, hK, hkl, strsL]
  · simp [answered, backMap, backName]
theorem sins_F0 (k : List UInt8) (d : Option Nat) (K : Nat) (mv : Bool) (sl : Slots) (hp : Heap) (hK : aget hp K = some (.row 1 [] false ⟨mv, 9⟩)) : callV G cl d (.fn (.func 39) [] []) [.own K, .int .i64 0, .list 1 [.str k]] ⟨sl, hp⟩ =
    some (.val (.own K) ⟨sl.map (fun p => (p.1, p.2.kill K)), (K, .row 1 [.str k] false ⟨true, 9⟩) :: hp.map (fun p => (p.1, p.2.kill K))⟩) := by
  have hi : G.inplace 39 0 = true := by kernel_rfl
  have hi1 : G.inplace 39 1 = false := by kernel_rfl
  have hi2 : G.inplace 39 2 = false := by kernel_rfl
  have hkl : aget (hp.map fun p => (p.1, p.2.kill K)) K = some (.row 1 [] false ⟨mv, 9⟩) := by rw [aget_mapv', hK]; simp
  refine callV_of (pre := [.own K, .int .i64 0, .list 1 [.str k]]) (st1 := ⟨sl, hp⟩) (ns := [K]) (y := (.ret (.own 0), [(0, .row 1 [.str k] false ⟨true, 9⟩)])) (st3 := ⟨sl.map (fun p => (p.1, p.2.kill K)), (K, .row 1 [.str k] false ⟨true, 9⟩) :: hp.map (fun p => (p.1, p.2.kill K))⟩) E39 (by decide) ext39 ?_ ?_ ?_ ?_ ?_ ?_ ?_
  · simp [prepL, hi, hi1, hi2]
  · simp [prepRows, hi, hi1, hi2, ASt.fix, hfix]
  · simp [AV.namesL, reachL, hK]
  · simp [hK]
  · simp [AV.renL, subHeap, zipIx, toMap, hK, AObj.unmv]
    exact sins_0 k
  · simp [afterCall, afterHeap, zipIx, movedOf, killAll, backMap, backName, AObj.moved, AObj.isRow, AObj.ormv, ASt.killn, hK, hkl]
  · simp [answered, backMap, backName]
theorem sins_Fn (k : List UInt8) (d : Nat) (sl : Slots) (hp : Heap) (hf : aget hp (newName d 1025) = none) : callV G cl (some d) (.fn (.func 39) [] []) [.nils, .int .i64 0, .list 1 [.str k]] ⟨sl, hp⟩ =
    some (.val (.own (newName d 1025)) ⟨sl, (newName d 1025, .row 1 [.str k] false ⟨false, 9⟩) :: hp⟩) := by
  have hi : G.inplace 39 0 = true := by kernel_rfl
  have hi1 : G.inplace 39 1 = false := by kernel_rfl
  have hi2 : G.inplace 39 2 = false := by kernel_rfl
  refine callV_of (pre := [.nils, .int .i64 0, .list 1 [.str k]]) (st1 := ⟨sl, hp⟩) (ns := []) (y := (.ret (.own 1025), [(1025, .row 1 [.str k] false ⟨false, 9⟩)])) (st3 := ⟨sl, (newName d 1025, .row 1 [.str k] false ⟨false, 9⟩) :: hp⟩) E39 (by decide) ext39 ?_ ?_ ?_ rfl ?_ ?_ ?_
  · simp [prepL, hi, hi1, hi2]
  · simp [prepRows, hi, hi1, hi2, ASt.fix, hfix]
  · simp [AV.namesL]
  · have e : subHeap [] hp = [] := rfl
    simp [AV.renL, e, sins_nil]
  · simp [afterCall, afterHeap, zipIx, movedOf, killAll, backMap, backName, AObj.moved, AObj.isRow, AObj.ormv, ASt.killn, hf]
  · simp [answered, backMap, backName]
theorem joinr_call (t : List (List UInt8)) (ht : t.length ≤ 1000) (hs : ∀ s ∈ t, s.length ≤ 100000) (hb : (joinB t).length ≤ 2000000) (d : Option Nat) (K : Nat) (mv : Bool) (sl : Slots) (hp : Heap) (hK : aget hp K = some (.row 1 (strsL t) false ⟨mv, 9⟩)) :
    callV G cl d (.fn (.func 24) [] []) [.own K] ⟨sl, hp⟩ = some (.val (.str (joinB t)) ((⟨sl, hp⟩ : ASt).fix [K])) := by
  have := callV_rv (d := d) (first := []) (caps := []) (args := [.own K]) (pre := [.list 1 (strsL t)]) (st := ⟨sl, hp⟩) E24 (by decide) ext24 rfl rfl (by simp [hK]) (by simp [strsL_names]) (join_eq t ht hs hb) rfl
  rw [this]
  simp
theorem bs22 {t : List UInt8} : bsvV G 22 1 [0] [.str t] = some (.list 1 [.str t]) := by kernel_rfl
def labelS (k : KeyM) : List UInt8 := joinB (k.kind :: pvL k.parts)
set_option maxHeartbeats 8000000 in
theorem label_eq (k : KeyM) (ht : (pvL k.parts).length ≤ 900) (hs : ∀ s ∈ k.kind :: pvL k.parts, s.length ≤ 100000) (hb : (labelS k).length ≤ 2000000) : cl 23 [k.v] [] = some (.ret (.str (labelS k)), []) := by
  refine fn_intro Tryd.func23 rfl (by simp) (by decide) rfl ?_
  unfold labelS at hb ⊢
  have hj := fun d K mv sl hp h0 => joinr_call (k.kind :: pvL k.parts) (by simp; omega) hs hb d K mv sl hp h0
  generalize joinB (k.kind :: pvL k.parts) = J at *
  have n1 : newName 5 1005 = 1006000005 := by decide
  have n2 : newName 9 1025 = 1026000009 := by decide
  obtain ⟨kind, parts, bytes⟩ := k
  simp only at hj ht hs ⊢
  have hbs := bs22 (t := kind)
  cases parts with
  | none =>
    have hc : ∀ d st, callV G cl d (.fn (.func 40) [] []) [.nils] st = some (.val .nils st) := fun d st => callV_ret E40 (by decide) ext40 rfl rfl sclone_nil rfl
    have hi := fun sl hp h0 => sins_Fn kind 9 sl hp h0
    rw [n2] at hi
    simp only [pvL, strsL, Option.getD_none, List.map_cons, List.map_nil] at hj
    simp [Tryd.f23, KeyM.v, pv, hc, hbs, hi, hj]
    rfl
  | some x =>
    cases x with
    | nil =>
      have hc := fun sl hp h0 => sclone_F0 5 sl hp h0
      rw [n1] at hc
      have hi := fun d mv sl hp h0 => sins_F0 kind d 1006000005 mv sl hp h0
      simp only [pvL, strsL, Option.getD_some, List.map_cons, List.map_nil] at hj
      simp [Tryd.f23, KeyM.v, pv, hc, hbs, hi, hj]
      rfl
    | cons a l =>
      simp only [pvL, Option.getD_some, List.length_cons] at ht
      have hc := fun sl hp h0 => sclone_F a l (by omega) 5 sl hp h0
      rw [n1] at hc
      have hi := fun d mv sl hp h0 => sins_F kind a l (by omega) d 1006000005 mv sl hp h0
      simp only [pvL, strsL, Option.getD_some, List.map_cons] at hj hc hi
      simp [Tryd.f23, KeyM.v, pv, strsL, hc, hbs, hi, hj]
      rfl
end Go.Proofs.YteibklnligmanaaDoor


/- works. -/
namespace Go.Proofs.YteibklnligmanaaDoor
open Go Abs
set_option linter.unusedSimpArgs false
set_option linter.unusedVariables false
attribute [local simp] canonK canonAll canonSlot canonCell canonBox ownStep restrictTo pureCells pureRows reachL AObj.names List.range_succ appendA
def wR : KeyM := rootS [115, 101, 101, 100]
def wE : KeyM := ⟨bEpoch, some [bigB 3], deriveS wR.bytes [bEpoch, bigB 3]⟩
def wC : KeyM := ⟨bColl, some [bigB 3, [99]], deriveS wE.bytes [bColl, [99]]⟩
def wK : KeyM := ⟨bBlob, some [bigB 3, [99], [105, 100]], deriveS wC.bytes [bBlob, [105, 100]]⟩
def wW : KeyM := ⟨bWord, some [bigB 3, [99], [112], [118]], deriveS wC.bytes [bWord, [112], [118]]⟩
theorem wR_len : wR.bytes.length = 32 := macS_len _ _
theorem wE_len : wE.bytes.length = 32 := derive_len _ _
theorem wC_len : wC.bytes.length = 32 := derive_len _ _
theorem w1 : epochS wR 3 = some wE := by
  unfold epochS belowS
  rw [if_neg (by decide), if_pos ⟨by decide, wR_len⟩]
  rfl
theorem w2 : belowS wE bColl [[99]] = some wC := by
  unfold belowS
  rw [if_pos ⟨by decide, wE_len⟩]
  rfl
theorem w3 : belowS wC bBlob [[105, 100]] = some wK := by
  unfold belowS
  rw [if_pos ⟨by decide, wC_len⟩]
  rfl
theorem w4 : belowS wC bWord [[112], [118]] = some wW := by
  unfold belowS
  rw [if_pos ⟨by decide, wC_len⟩]
  rfl
theorem w5 : belowS wR bWord [[112], [118]] = none := by
  unfold belowS
  rw [if_neg (fun h => absurd h.1 (by decide))]
theorem few_of {k : KeyM} (h1 : (pvL k.parts).length ≤ 1000) (h2 : k.bytes.length = 32) : k.few := ⟨h1, by omega⟩
theorem fR : wR.few := few_of (by decide) wR_len
theorem fE : wE.few := few_of (by show 1 ≤ 1000; omega) wE_len
theorem fC : wC.few := few_of (by show 2 ≤ 1000; omega) wC_len
section
variable (d : Option Nat) (st : ASt)
theorem cRoot (s : List UInt8) (hs : s.length ≤ 800000) : callV GW clW d (.fn (.func 20) [] []) [.str s] st = some (.val (rootS s).v st) :=
  callVW E20 (by decide) ext20 rfl rfl (kroot_eq s hs) key_names
theorem cEpoch (k : KeyM) (hk : k.few) (n : Int) (h63 : n < 9223372036854775808) : callV GW clW d (.fn (.func 9) [] []) [k.v, .int .i64 n] st = some (.val (keyE (epochS k n)) st) :=
  callVW E9 (by decide) ext9 rfl (by simp [key_names]) (kepoch_eq k hk n h63) keyE_names
theorem cColl (k : KeyM) (hk : k.few) (a : List UInt8) (ha : a.length ≤ 100000) : callV GW clW d (.fn (.func 12) [] []) [k.v, .str a] st = some (.val (keyE (belowS k bColl [a])) st) :=
  callVW E12 (by decide) ext12 rfl (by simp [key_names]) (kcoll_eq k hk a ha) keyE_names
theorem cBlob (k : KeyM) (hk : k.few) (a : List UInt8) (ha : a.length ≤ 100000) : callV GW clW d (.fn (.func 14) [] []) [k.v, .str a] st = some (.val (keyE (belowS k bBlob [a])) st) :=
  callVW E14 (by decide) ext14 rfl (by simp [key_names]) (kblob_eq k hk a ha) keyE_names
theorem cWord (k : KeyM) (hk : k.few) (a b : List UInt8) (ha : a.length ≤ 100000) (hb : b.length ≤ 100000) : callV GW clW d (.fn (.func 15) [] []) [k.v, .str a, .str b] st = some (.val (keyE (belowS k bWord [a, b])) st) :=
  callVW E15 (by decide) ext15 rfl (by simp [key_names]) (kword_eq k hk a b ha hb) keyE_names
theorem cNonce (n : Int) : callV GW clW d (.fn (.func 18) [] []) [.int .u64 n] st = some (.val (.str (nonceS n)) st) :=
  callVW E18 (by decide) ext18 rfl rfl (liftW (by decide) rfl (nonce_eq n)) rfl
theorem cSame (k o : KeyM) (hk : (pvL k.parts).length ≤ 1000000) : callV GW clW d (.fn (.func 19) [] []) [k.v, o.v] st = some (.val (.bool (sameS k o)) st) :=
  callVW E19 (by decide) ext19 rfl (by simp [key_names]) (liftW (by decide) rfl (ksame_eq k o hk)) rfl
theorem cLabel (k : KeyM) (ht : (pvL k.parts).length ≤ 900) (hs : ∀ s ∈ k.kind :: pvL k.parts, s.length ≤ 100000) (hb : (labelS k).length ≤ 2000000) : callV GW clW d (.fn (.func 23) [] []) [k.v] st = some (.val (.str (labelS k)) st) :=
  callVW E23 (by decide) ext23 rfl (by simp [key_names]) (liftW (by decide) rfl (label_eq k ht hs hb)) rfl
theorem cJoin (t : List (List UInt8)) (ht : t.length ≤ 1000) (hs : ∀ s ∈ t, s.length ≤ 100000) (hb : (joinB t).length ≤ 2000000) : callV GW clW d (.fn (.func 24) [] []) [.list 1 (strsL t)] st = some (.val (.str (joinB t)) st) :=
  callVW E24 (by decide) ext24 rfl (by simp [strsL_names]) (liftW (by decide) rfl (join_eq t ht hs hb)) rfl
end
set_option maxHeartbeats 64000000 in
set_option maxRecDepth 100000 in
theorem works_eq : clW 7 [] [] = some (.ret (.bool true), []) := by
  refine fnW Tryd.func7 rfl (by simp) (by decide) rfl ?_
  have h0 := fun d st => cRoot d st [115, 101, 101, 100] (by decide)
  have h1 := fun d st => cEpoch d st wR fR 3 (by decide)
  have h2 := fun d st => cColl d st wE fE [99] (by decide)
  have h3 := fun d st => cBlob d st wC fC [105, 100] (by decide)
  have h4 := fun d st => cWord d st wC fC [112] [118] (by decide) (by decide)
  have h5 := fun d st => cWord d st wR fR [112] [118] (by decide) (by decide)
  have h6 := fun d st => cNonce d st 1
  have h7 := fun d st => cSame d st wW wW (by show 4 ≤ 1000000; omega)
  have h8 := fun d st => cSame d st wW wK (by show 4 ≤ 1000000; omega)
  have s7 : sameS wW wW = true := by unfold sameS; simp
  have s8 : sameS wW wK = false := by
    have : ¬ wW.kind = wK.kind := by show ¬ bWord = bBlob; decide
    unfold sameS; simp [this]
  have hl9 : labelS wR = joinB [bRoot] := rfl
  have jl : (joinB [bRoot]).length ≤ 2000000 := by decide
  have h9 := fun d st => cLabel d st wR (by decide) (by intro s hs; simp [wR, rootS, pvL] at hs; subst hs; decide) (by rw [hl9]; exact jl)
  have h10 := fun d st => cJoin d st [bRoot] (by decide) (by intro s hs; simp at hs; subst hs; decide) jl
  rw [show rootS [115, 101, 101, 100] = wR from rfl] at h0
  rw [w1] at h1
  rw [w2] at h2
  rw [w3] at h3
  rw [w4] at h4
  rw [w5] at h5
  rw [s7] at h7
  rw [s8] at h8
  rw [hl9] at h9
  have n6 : nonceS 1 = [0, 0, 0, 0, 0, 0, 0, 0, 0, 0, 0, 1] := by decide
  rw [n6] at h6
  have hwl : wW.bytes.length = 32 := derive_len _ _
  have eR : wR.v = .agg [.str [114, 111, 111, 116], .nils, .str wR.bytes] := rfl
  have eE : wE.v = .agg [.str [101, 112, 111, 99, 104], .list 1 [.str (bigB 3)], .str wE.bytes] := rfl
  have eC : wC.v = .agg [.str [99, 111, 108, 108], .list 1 [.str (bigB 3), .str [99]], .str wC.bytes] := rfl
  have eK : wK.v = .agg [.str [98, 108, 111, 98], .list 1 [.str (bigB 3), .str [99], .str [105, 100]], .str wK.bytes] := rfl
  have eW : wW.v = .agg [.str [119, 111, 114, 100], .list 1 [.str (bigB 3), .str [99], .str [112], .str [118]], .str wW.bytes] := rfl
  have eN : noKey.v = .agg [.str [], .nils, .str []] := rfl
  simp only [keyE, eR, eE, eC, eK, eW, eN] at h0 h1 h2 h3 h4 h5 h7 h8 h9
  have hbr := bs22W (t := [114, 111, 111, 116])
  have hb12 : bsvV GW 49 12 [0, 1, 2, 3, 4, 5, 6, 7, 8, 9, 10, 11] [.int .u8 0, .int .u8 0, .int .u8 0, .int .u8 0, .int .u8 0, .int .u8 0, .int .u8 0, .int .u8 0, .int .u8 0, .int .u8 0, .int .u8 0, .int .u8 1] = some (.list 1 [.int .u8 0, .int .u8 0, .int .u8 0, .int .u8 0, .int .u8 0, .int .u8 0, .int .u8 0, .int .u8 0, .int .u8 0, .int .u8 0, .int .u8 0, .int .u8 1]) := by kernel_rfl
  have hby : bytesOf? [.int .u8 0, .int .u8 0, .int .u8 0, .int .u8 0, .int .u8 0, .int .u8 0, .int .u8 0, .int .u8 0, .int .u8 0, .int .u8 0, .int .u8 0, .int .u8 1] = some [0, 0, 0, 0, 0, 0, 0, 0, 0, 0, 0, 1] := rfl
  simp only [strsL, List.map_cons, List.map_nil, show bRoot = [114, 111, 111, 116] from rfl] at h10
  rw [show bRoot = [114, 111, 111, 116] from rfl] at h9
  generalize joinB [[114, 111, 111, 116]] = J at *
  generalize bigB 3 = B at *
  generalize wR.bytes = b1 at *
  generalize wE.bytes = b2 at *
  generalize wC.bytes = b3 at *
  generalize wK.bytes = b4 at *
  generalize wW.bytes = b5 at *
  clear eR eE eC eK eW eN
  simp [Tryd.f7, h0, h1, h2, h3, h4, h5, h6, h7, h8, h9, h10, hbr, hb12, hby, hwl]
  rfl
end Go.Proofs.YteibklnligmanaaDoor


/- The arguments, as they lie in memory. -/
namespace Go.Proofs.YteibklnligmanaaDoor
open Go Abs Go.RowKit
set_option linter.unusedSimpArgs false
set_option linter.unusedVariables false

section
variable {H : Type} {enc : TypeId × Value → H} {W : World}

/-- What the memory at the call's beginning holds stays. -/
def allS (W : World) : Stab := fun b _ => b < W.heap.size

theorem spot_none {w : World} {a : Addr} {v : Value} (h : w.cell? a = some v) : a.spot = none ∧ a.block < w.heap.size := by
  unfold World.cell? at h
  split at h
  · rename_i c t fr hb
    split at h
    · cases h
    · rename_i hs
      refine ⟨by cases hsp : a.spot <;> simp_all, (Array.getElem?_eq_some_iff.1 hb).1⟩
  · cases h

end
end Go.Proofs.YteibklnligmanaaDoor


/- A law's row, out of its equation. -/
namespace Go.Proofs.YteibklnligmanaaDoor
open Go Abs Go.ChangeShapes Go.WideShapes Go.ChangeAt Go.RowKit
set_option linter.unusedVariables false

theorem own : ownKnob Tryd.prog.godebug = none := by kernel_rfl
theorem laidOut : laidOutB Tryd.prog = true := by kernel_rfl

section
variable {S : Stab} {W : World} {a b c d : AV} {v u x y : Value}
end
end Go.Proofs.YteibklnligmanaaDoor


/- The program's own variables, as they lie in memory; a world in which they are laid; a law that is told in the wide mode. -/
namespace Go.Proofs.YteibklnligmanaaDoor
open Go Abs Go.RowKit
set_option linter.unusedSimpArgs false
set_option linter.unusedVariables false
theorem law_runW {g : FuncId} {args : List AV} (hg : g < RB) (hE : G.E g = true) (h : clW g args [] = some (.ret (.bool true), [])) (W : World) (vs : Array Value) (hl : args.length = vs.size)
    (hv : ∀ (j : Nat) c v, args[j]? = some c → vs[j]? = some v → PR (allS W) W c v) (hgl : GlobOK (allS W) W) : Calls Tryd.prog g vs W fun e W' => e = .returned (.bool true) ∧ Below W.heap.size W W' := by
  have hs : CallSound true Tryd.prog g args [] (.ret (.bool true), []) := callL_ok GSW primXOK hg hE h
  refine (calls_of_FW (hs (allS W) (fun _ => none) W vs ⟨fun n q hq => (by cases hq), hgl⟩ ⟨fun n o ho => (by cases ho), fun n _ => rfl, fun n m b sz sz' k k' hq => (by cases hq)⟩ (fun b o hb => hb) hl (fun j c v hc hv' => .pure (hv j c v hc hv')))).mono fun e W' ⟨S', ρ', hout, hans⟩ => ?_
  cases e with
  | panicked ch => exact hans.elim
  | outgrown => exact hans.elim
  | returned u =>
  have hu : VR S' ρ' W' (.bool true) u := hans
  cases vr_bool hu
  refine ⟨rfl, ?_⟩
  have f := hout.fr
  exact ⟨f.os, f.tape, f.output, f.size, fun k hk => f.keep k hk (fun hF => by obtain ⟨n, sz, k', hq⟩ := hF; cases hq)⟩
theorem insert_perm' {H : Type} (x : Lit × DataW H) : ∀ l : List (Lit × DataW H), (DataW.insert x l).Perm (x :: l)
  | [] => List.Perm.refl _
  | y :: r => by
    unfold DataW.insert
    split
    · exact List.Perm.refl _
    · exact ((insert_perm' x r).cons y).trans (List.Perm.swap x y r)
theorem sorted_perm' {H : Type} : ∀ l : List (Lit × DataW H), (l.foldr DataW.insert []).Perm l
  | [] => List.Perm.refl _
  | x :: l => (insert_perm' x _).trans ((sorted_perm' l).cons x)
theorem mapM_perm {α β : Type} {f : α → Option β} : ∀ {l : List α} {r s : List β}, l.mapM f = some r → r.Perm s → ∃ l', l.Perm l' ∧ l'.mapM f = some s := by
  intro l r s h hp
  induction hp generalizing l with
  | nil => exact ⟨l, List.Perm.refl _, h⟩
  | cons x _ ih =>
    cases l with
    | nil => simp at h
    | cons a l =>
      simp only [List.mapM_cons, Option.pure_def, Option.bind_eq_bind, Option.bind_eq_some_iff, Option.some.injEq, List.cons.injEq] at h
      obtain ⟨b, hb, t, ht, rfl, rfl⟩ := h
      obtain ⟨l', h1, h2⟩ := ih ht
      exact ⟨a :: l', h1.cons a, by simp [List.mapM_cons, hb, h2]⟩
  | swap x y t =>
    match l, h with
    | a :: b :: l, h =>
      simp only [List.mapM_cons, Option.pure_def, Option.bind_eq_bind, Option.bind_eq_some_iff, Option.some.injEq, List.cons.injEq] at h
      obtain ⟨b1, hb1, t1, ⟨b2, hb2, t2, ht2, rfl⟩, rfl, hc⟩ := h
      cases hc
      exact ⟨b :: a :: l, List.Perm.swap b a l, by simp [List.mapM_cons, hb1, hb2, ht2]⟩
    | [a], h => cases hfa : f a <;> simp [List.mapM_cons, hfa] at h
    | [], h => simp at h
  | trans _ _ ih1 ih2 =>
    obtain ⟨l', h1, h2⟩ := ih1 h
    obtain ⟨l'', h3, h4⟩ := ih2 h2
    exact ⟨l'', h1.trans h3, h4⟩
theorem map_open {P : Program} {w : World} {sp : Nat → Bool} {held : Bool} {t k e : TypeId} {fuel : Nat} {cs : List Value} {D : List (Lit × DataW Unit)} {p : List MemPlace} (ht : P.underlying t = some (.map k e))
    (h : DataW.trod (fun _ => ()) P w 0 sp held fuel t cs = some (.map D, p)) :
    ∃ b es clock n entries, cs = [.map (some b)] ∧ w.heap[b]? = some (.map es clock) ∧
      es.toList.mapM (fun x => (keyOf P k x.key).bind fun key => if x.val.formed P e then (DataW.trod (fun _ => ()) P w 0 sp held n e x.val.cells.toList).map fun y => ((key, y.1), y.2) else none) = some entries ∧
      D = (entries.map (·.1)).foldr DataW.insert [] := by
  cases fuel with
  | zero => simp [DataW.trod] at h
  | succ n =>
    rw [DataW.trod_step] at h
    unfold DataW.trodStep at h
    rw [ht] at h
    split at h <;> simp_all
    rename_i b _
    cases hb : w.heap[b]? with
    | none => simp [hb] at h
    | some o =>
      cases o <;> simp [hb] at h
      rename_i es clock
      obtain ⟨_, h⟩ := h
      obtain ⟨E, hE, h3⟩ := Option.bind_eq_some_iff.1 h
      split at h3
      · simp only [Option.some.injEq, Prod.mk.injEq, DataW.map.injEq] at h3
        exact ⟨es, ⟨clock, rfl⟩, n, E, hE, h3.1.symm⟩
      · cases h3
theorem gMay : Tryd.prog.globalNamed "cryptex/keys.may" = some 0 := by kernel_rfl
theorem gBegin : Tryd.prog.globalNamed "cryptex/sha.begin" = some 1 := by kernel_rfl
theorem gKs : Tryd.prog.globalNamed "cryptex/sha.ks" = some 2 := by kernel_rfl
theorem tMay : (Tryd.prog.globals[0]?).map (·.type) = some 83 := by kernel_rfl
theorem tBegin : (Tryd.prog.globals[1]?).map (·.type) = some 120 := by kernel_rfl
theorem tKs : (Tryd.prog.globals[2]?).map (·.type) = some 138 := by kernel_rfl
theorem list2 {α : Type} {cs : List α} (h : cs.length = 2) : ∃ a b, cs = [a, b] := by
  match cs, h with
  | [a, b], _ => exact ⟨a, b, rfl⟩
theorem list4' {α : Type} {cs : List α} (h : cs.length = 4) : ∃ a b c d, cs = [a, b, c, d] := by
  match cs, h with
  | [a, b, c, d], _ => exact ⟨a, b, c, d, rfl⟩
/-- One entry, read. -/
theorem bel_trod {n : Nat} {W : World} {cs : List Value} {x : DataW Unit × List MemPlace} (h : DataW.trod (fun _ => ()) Tryd.prog W 0 (fun _ => true) false n 81 cs = some x) :
    ∃ (s : ByteArray) (k : Int), cs = [.string s, .int .i64 k] ∧ x.1 = .agg [.lit (.string s.data.toList), .lit (.int .i64 k)] := by
  obtain ⟨y0, y1, n', e, hl, h0, h1⟩ := ChangeShapes.trod_struct2 Tryd.underlying81 h
  rw [show Tryd.prog.cellsOf 81 = 2 from by kernel_rfl] at hl
  obtain ⟨a, b, rfl⟩ := list2 hl
  obtain ⟨s, e0, w0, _⟩ := DataW.trod_string Tryd.underlying9 h0
  obtain ⟨k, e1, w1, _⟩ := DataW.trod_int Tryd.underlying3 h1
  rw [show Tryd.prog.cellsOf 9 = 1 from by kernel_rfl] at e0
  rw [show Tryd.prog.cellsOf 3 = 1 from by kernel_rfl] at e1
  simp at e0 e1
  subst e0 e1
  refine ⟨s, k, rfl, ?_⟩
  simp only [e, w0, w1]
theorem arr2_trod {P : Program} {w : World} {t e : TypeId} {n : Nat} {cs : List Value} {x : DataW Unit × List MemPlace} (ht : P.underlying t = some (.array 2 e)) (hc : P.cellsOf t = 4) (hce : P.cellsOf e = 2) (h : DataW.trod (fun _ => ()) P w 0 (fun _ => true) false n t cs = some x) :
    ∃ a b c d y z m, cs = [a, b, c, d] ∧ DataW.trod (fun _ => ()) P w 0 (fun _ => true) false m e [a, b] = some y ∧ DataW.trod (fun _ => ()) P w 0 (fun _ => true) false m e [c, d] = some z ∧ x.1 = .agg [y.1, z.1] := by
  cases n with
  | zero => simp [DataW.trod] at h
  | succ n =>
    unfold DataW.trod at h
    rw [ht, hc] at h
    simp only at h
    split at h
    · rename_i hl
      obtain ⟨a, b, c, d, rfl⟩ := list4' hl
      simp only [hce] at h
      obtain ⟨xs, hxs, rfl⟩ := Option.map_eq_some_iff.1 h
      simp [List.range_succ, List.mapM_cons, Option.bind_eq_some_iff] at hxs
      obtain ⟨y, y2, hy, l, ⟨z, z2, hz, rfl⟩, rfl⟩ := hxs
      exact ⟨a, b, c, d, (y, y2), (z, z2), n, rfl, hy, hz, rfl⟩
    · cases h
theorem mapM_fst {α β γ : Type} {f : α → Option (β × γ)} : ∀ {l : List α} {E : List (β × γ)}, l.mapM f = some E → l.mapM (fun x => (f x).map (·.1)) = some (E.map (·.1))
  | [], E, h => by simp at h; subst h; rfl
  | a :: l, E, h => by
    simp only [List.mapM_cons, Option.pure_def, Option.bind_eq_bind, Option.bind_eq_some_iff, Option.some.injEq] at h
    obtain ⟨e0, h0, E', hE', rfl⟩ := h
    rw [List.mapM_cons, mapM_fst hE', h0]; rfl
theorem mapM_three {α β : Type} {f : α → Option β} {L : List α} {a b c : β} (h : L.mapM f = some [a, b, c]) : ∃ x y z, L = [x, y, z] ∧ f x = some a ∧ f y = some b ∧ f z = some c := by
  cases L with
  | nil => simp at h
  | cons x L =>
    simp only [List.mapM_cons, Option.pure_def, Option.bind_eq_bind, Option.bind_eq_some_iff, Option.some.injEq, List.cons.injEq] at h
    obtain ⟨_, hx, _, h, rfl, rfl⟩ := h
    cases L with
    | nil => simp at h
    | cons y L =>
      simp only [List.mapM_cons, Option.pure_def, Option.bind_eq_bind, Option.bind_eq_some_iff, Option.some.injEq, List.cons.injEq] at h
      obtain ⟨_, hy, _, h, rfl, rfl⟩ := h
      cases L with
      | nil => simp at h
      | cons z L =>
        simp only [List.mapM_cons, Option.pure_def, Option.bind_eq_bind, Option.bind_eq_some_iff, Option.some.injEq, List.cons.injEq] at h
        obtain ⟨_, hz, _, h, rfl, rfl⟩ := h
        cases L with
        | nil => exact ⟨x, y, z, rfl, hx, hy, hz⟩
        | cons u L =>
          simp only [List.mapM_cons, Option.pure_def, Option.bind_eq_bind, Option.bind_eq_some_iff, Option.some.injEq] at h
          obtain ⟨_, _, _, _, h⟩ := h
          cases h
theorem keyStr {P : Program} {k : TypeId} {v : Value} {l : Lit} (hu : P.underlying k = some .string) (h : keyOf P k v = some l) : ∃ s : ByteArray, v = .string s ∧ l = .string s.data.toList := by
  unfold keyOf at h
  rw [hu] at h
  simp only at h
  unfold mapKey at h
  rw [hu] at h
  cases v <;> simp at h
  exact ⟨_, rfl, h.2.symm⟩
theorem formedArr {P : Program} {t e : TypeId} {n : Nat} {v : Value} (hu : P.underlying t = some (.array n e)) (h : v.formed P t = true) : ∃ cs, v = .agg cs := by
  unfold Value.formed at h
  rw [hu] at h
  cases v <;> simp at h
  exact ⟨_, rfl⟩
theorem ent_of {W : World} {S : Stab} {n : Nat} {m : MapEntry} {kb sb tb : List UInt8} {k j : Int} {q : List MemPlace}
    (h : ((keyOf Tryd.prog 9 m.key).bind fun key => if m.val.formed Tryd.prog 82 then (DataW.trod (fun _ => ()) Tryd.prog W 0 (fun _ => true) false n 82 m.val.cells.toList).map fun y => ((key, y.1), y.2) else none) =
      some ((Lit.string kb, .agg [.agg [.lit (.string sb), .lit (.int .i64 k)], .agg [.lit (.string tb), .lit (.int .i64 j)]]), q)) :
    PR S W (.str kb) m.key ∧ PR S W (.agg [.str sb, .int .i64 k, .str tb, .int .i64 j]) m.val := by
  obtain ⟨key, hk, h⟩ := Option.bind_eq_some_iff.1 h
  split at h
  case isFalse => cases h
  rename_i hf
  obtain ⟨y, hy, he⟩ := Option.map_eq_some_iff.1 h
  simp only [Prod.mk.injEq] at he
  obtain ⟨⟨rfl, h2⟩, _⟩ := he
  obtain ⟨ks, hks, hkl⟩ := keyStr Tryd.underlying9 hk
  obtain ⟨a, b, c, d, y0, y1, n', hcs, t0, t1, hx⟩ := arr2_trod Tryd.underlying82 (by kernel_rfl) (by kernel_rfl) hy
  obtain ⟨s, k', e0, x0⟩ := bel_trod t0
  obtain ⟨t, j', e1, x1⟩ := bel_trod t1
  simp only [List.cons.injEq, and_true] at e0 e1
  obtain ⟨rfl, rfl⟩ := e0
  obtain ⟨rfl, rfl⟩ := e1
  rw [x0, x1, h2] at hx
  simp only [DataW.agg.injEq, List.cons.injEq, DataW.lit.injEq, Lit.string.injEq, Lit.int.injEq, and_true, true_and] at hx
  obtain ⟨⟨rfl, rfl⟩, rfl, rfl⟩ := hx
  constructor
  · rw [hks]
    rw [Lit.string.injEq] at hkl
    rw [hkl]; exact .str _
  · obtain ⟨cs, hv⟩ := formedArr Tryd.underlying82 hf
    rw [hv] at hcs ⊢
    obtain ⟨l⟩ := cs
    have hcs' : l = [.string s, .int .i64 k, .string t, .int .i64 j] := hcs
    subst hcs'
    refine PR.agg _ _ rfl fun i c v hc hv => ?_
    match i, hc, hv with
    | 0, hc, hv => cases hc; cases hv; exact .str _
    | 1, hc, hv => cases hc; cases hv; exact .int _ _
    | 2, hc, hv => cases hc; cases hv; exact .str _
    | 3, hc, hv => cases hc; cases hv; exact .int _ _
    | i + 4, hc, hv => simp at hc
theorem may_trod {W : World} {fuel : Nat} {cs : List Value} {p : List MemPlace} (h : DataW.trod (fun _ => ()) Tryd.prog W 0 (fun _ => true) false fuel 83 cs = some (Rows.laid_cryptex_keys_may, p)) :
    ∃ b, cs = [.map (some b)] ∧ PR (allS W) W (.cm 0) (.map (some b)) := by
  obtain ⟨b, es, clock, n, E, rfl, hb, hE, hD⟩ := map_open Tryd.underlying83 h
  have hE1 : es.toList.mapM (fun x => ((keyOf Tryd.prog 9 x.key).bind fun key => if x.val.formed Tryd.prog 82 then (DataW.trod (fun _ => ()) Tryd.prog W 0 (fun _ => true) false n 82 x.val.cells.toList).map fun y => ((key, y.1), y.2) else none).map (·.1)) = some (E.map (·.1)) := by
    exact mapM_fst hE
  have hperm := sorted_perm' (E.map (·.1))
  rw [← hD] at hperm
  obtain ⟨L, hL, hm⟩ := mapM_perm hE1 hperm.symm
  obtain ⟨m0, m1, m2, rfl, e0, e1, e2⟩ := mapM_three hm
  obtain ⟨⟨z0, q0⟩, f0, g0⟩ := Option.map_eq_some_iff.1 e0
  obtain ⟨⟨z1, q1⟩, f1, g1⟩ := Option.map_eq_some_iff.1 e1
  obtain ⟨⟨z2, q2⟩, f2, g2⟩ := Option.map_eq_some_iff.1 e2
  simp only at g0 g1 g2
  subst g0 g1 g2
  obtain ⟨a0, b0⟩ := ent_of (S := allS W) f0
  obtain ⟨a1, b1⟩ := ent_of (S := allS W) f1
  obtain ⟨a2, b2⟩ := ent_of (S := allS W) f2
  have hbl : b < W.heap.size := by
    obtain ⟨h1, _⟩ := Array.getElem?_eq_some_iff.1 hb
    exact h1
  refine ⟨b, rfl, PR.cm 0 b clock es [m0, m1, m2] hbl hb hL.symm rfl (fun i e m hc hm => ?_) (fun i e m hc hm => ?_)⟩
  · match i, hc, hm with
    | 0, hc, hm => cases hc; cases hm; exact a0
    | 1, hc, hm => cases hc; cases hm; exact a1
    | 2, hc, hm => cases hc; cases hm; exact a2
    | i + 3, hc, hm => simp at hm
  · match i, hc, hm with
    | 0, hc, hm => cases hc; cases hm; exact b0
    | 1, hc, hm => cases hc; cases hm; exact b1
    | 2, hc, hm => cases hc; cases hm; exact b2
    | i + 3, hc, hm => simp at hm
theorem tab_globk {W : World} {g : Nat} {k : IntKind} {zs : List Int} (h0 : 0 < zs.length) (hv : ∀ j, j < zs.length → W.cell? ⟨g, j, none⟩ = some (.int k (zs.getD j 0))) : PR (allS W) W (.ep (.agg (zs.map fun z => .int k z)) 0) (.pointer (some (at0 g 0))) := by
  have h2 := (spot_none (hv 0 h0)).2
  refine PR.ep _ g 0 0 (fun j => .int k (zs.getD j 0)) (by simpa [AV.cells] using h0) (fun j c hj => h2) (fun j c hj => ?_) (fun j c hj => ?_)
  · have hj' : j < zs.length := by have := (List.getElem?_eq_some_iff.1 hj).1; simpa [AV.cells] using this
    rw [Nat.zero_add]; exact hv j hj'
  · simp only [AV.cells, List.getElem?_map] at hj
    obtain ⟨z, hz, rfl⟩ := Option.map_eq_some_iff.1 hj
    rw [List.getD_eq_getElem?_getD, hz]
    exact .int _ _
def begI : List Int := [1779033703, 3144134277, 1013904242, 2773480762, 1359893119, 2600822924, 528734635, 1541459225]
def ksI : List Int := ksL.map fun w => wN w
abbrev laidL : List (String × DataW Unit) := [("cryptex/sha.ks", Rows.laid_cryptex_sha_ks), ("cryptex/sha.begin", Rows.laid_cryptex_sha_begin), ("cryptex/keys.may", Rows.laid_cryptex_keys_may)]
theorem glob_of {W : World} (h : laidMetH Tryd.prog laidL W) : GlobOK (allS W) W := by
  have h' : laidMet Tryd.prog laidL W := h
  have hk : Lib.TabIs Tryd.prog W "cryptex/sha.ks" .u32 ksI := Lib.tabIs_of_head gKs tKs Tryd.underlying138 Tryd.underlying115 (by kernel_rfl) (by kernel_rfl) h'
  have hb : Lib.TabIs Tryd.prog W "cryptex/sha.begin" .u32 begI := Lib.tabIs_of_head gBegin tBegin Tryd.underlying120 Tryd.underlying115 (by kernel_rfl) (by kernel_rfl) h'.tail
  obtain ⟨ps, ⟨g, t, cs, fuel, p, q, hg, ht, hv, hd, _, _⟩, _, _⟩ := h'.tail.tail
  obtain rfl := Option.some.inj (gMay.symm.trans hg)
  obtain rfl := Option.some.inj (tMay.symm.trans ht)
  obtain ⟨b, hcs, hpr⟩ := may_trod hd
  have hc : W.cell? ⟨0, 0, none⟩ = some (.map (some b)) := by
    have := World.var?_cell gMay hv 0
    rw [this]
    obtain ⟨l⟩ := cs
    have : l = [.map (some b)] := hcs
    subst this; rfl
  intro g v hg
  have hg : aget globT g = some v := hg
  simp only [globT, aget] at hg
  split at hg
  · rename_i e
    subst e; cases hg
    refine PR.ep _ 0 0 0 (fun _ => .map (some b)) (by simp [AV.cells]) (fun j c hj => (spot_none hc).2) (fun j c hj => ?_) (fun j c hj => ?_)
    · match j, hj with
      | 0, hj => exact hc
      | j + 1, hj => simp [AV.cells] at hj
    · match j, hj with
      | 0, hj => cases hj; exact hpr
      | j + 1, hj => simp [AV.cells] at hj
  · split at hg
    · rename_i e
      subst e; cases hg
      exact tab_globk (zs := begI) (by decide) fun j hj => hb.cell gBegin j hj
    · split at hg
      · rename_i e
        subst e; cases hg
        exact tab_globk (zs := ksI) (by decide) fun j hj => hk.cell gKs j hj
      · cases hg
noncomputable def laidWorld (os : Os) : World := World.doorLaid Tryd.prog 400 os
theorem laidWorld_met (os : Os) (args : Array Value) : laidMetH Tryd.prog laidL ((laidWorld os).forCall (fun _ _ => 0) ⟨#[], args, []⟩).memory :=
  laidMetH_of_parts3 (fuel := 8) (laidMet_of_run' 8 (by kernel_rfl) (by kernel_rfl)) (by kernel_rfl) (by kernel_rfl)
end Go.Proofs.YteibklnligmanaaDoor


/- KeysNonces. -/
namespace Go.Proofs.YteibklnligmanaaDoor
open Go Abs
set_option linter.unusedSimpArgs false
set_option linter.unusedVariables false
theorem works_call (d : Option Nat) (st : ASt) : callV GW clW d (.fn (.func 7) [] []) [] st = some (.val (.bool true) st) :=
  callVW (first := []) (caps := []) (args := []) E7 (by decide) ext7 rfl rfl works_eq rfl
end Go.Proofs.YteibklnligmanaaDoor


/- KeysWays. -/
namespace Go.Proofs.YteibklnligmanaaDoor
open Go Abs
set_option linter.unusedSimpArgs false
set_option linter.unusedVariables false
attribute [local simp] canonK canonAll canonSlot canonCell canonBox ownStep restrictTo pureCells pureRows reachL AObj.names List.range_succ appendA
theorem below_root (b : List UInt8) (hb : b.length = 32) (P : Option (List (List UInt8))) (x : List UInt8) : belowS ⟨bRoot, P, b⟩ bEpoch [x] = some ⟨bEpoch, some (pvL P ++ [x]), deriveS b [bEpoch, x]⟩ := by
  unfold belowS
  have h1 : conS (bEpoch, 1) (mayP bRoot).1 (mayP bRoot).2 = true := by decide
  rw [if_pos ⟨h1, hb⟩]
theorem below_epoch (b : List UInt8) (hb : b.length = 32) (P : Option (List (List UInt8))) (x : List UInt8) : belowS ⟨bEpoch, P, b⟩ bColl [x] = some ⟨bColl, some (pvL P ++ [x]), deriveS b [bColl, x]⟩ := by
  unfold belowS
  have h1 : conS (bColl, 1) (mayP bEpoch).1 (mayP bEpoch).2 = true := by decide
  rw [if_pos ⟨h1, hb⟩]
theorem below_word (b : List UInt8) (hb : b.length = 32) (P : Option (List (List UInt8))) (x y : List UInt8) : belowS ⟨bColl, P, b⟩ bWord [x, y] = some ⟨bWord, some (pvL P ++ [x, y]), deriveS b [bWord, x, y]⟩ := by
  unfold belowS
  have h1 : conS (bWord, 2) (mayP bColl).1 (mayP bColl).2 = true := by decide
  rw [if_pos ⟨h1, hb⟩]
set_option maxHeartbeats 64000000 in
set_option maxRecDepth 100000 in
theorem keysWays_ok (s name path value : List UInt8) (n : Int) (hs : s.length ≤ 150) (hname : name.length ≤ 150) (hpath : path.length ≤ 150) (hvalue : value.length ≤ 150) (hn : 0 ≤ n) (hn63 : n < 9223372036854775808) :
    clW 4 [.str s, .int .i64 n, .str name, .str path, .str value] [] = some (.ret (.bool true), []) := by
  refine fnW Tryd.func4 rfl (by simp) (by decide) rfl ?_
  have hw := fun d st => works_call d st
  have rl : (rootS s).bytes.length = 32 := macS_len _ _
  have e1 : epochS (rootS s) n = some ⟨bEpoch, some [bigB n], deriveS (rootS s).bytes [bEpoch, bigB n]⟩ := by
    unfold epochS
    rw [if_neg (by omega)]
    exact below_root _ rl none _
  have el : (deriveS (rootS s).bytes [bEpoch, bigB n]).length = 32 := derive_len _ _
  have e2 := below_epoch _ el (some [bigB n]) name
  have cl' : (deriveS (deriveS (rootS s).bytes [bEpoch, bigB n]) [bColl, name]).length = 32 := derive_len _ _
  have e3 := below_word _ cl' (some [bigB n, name]) path value
  have e4 := below_word _ cl' none path value
  have h0 := fun d st => cRoot d st s (by omega)
  have h1 := fun d st => cEpoch d st (rootS s) (few_of (by show 0 ≤ 1000; omega) rl) n hn63
  have h2 := fun d st => cColl d st ⟨bEpoch, some [bigB n], deriveS (rootS s).bytes [bEpoch, bigB n]⟩ (few_of (by show 1 ≤ 1000; omega) el) name (by omega)
  have h3 := fun d st => cWord d st ⟨bColl, some [bigB n, name], deriveS (deriveS (rootS s).bytes [bEpoch, bigB n]) [bColl, name]⟩ (few_of (by show 2 ≤ 1000; omega) cl') path value (by omega) (by omega)
  have h4 := fun d st => cWord d st ⟨bColl, none, deriveS (deriveS (rootS s).bytes [bEpoch, bigB n]) [bColl, name]⟩ (few_of (by show 0 ≤ 1000; omega) cl') path value (by omega) (by omega)
  have h5 := fun d st => cSame d st ⟨bEpoch, some [bigB n], deriveS (rootS s).bytes [bEpoch, bigB n]⟩ ⟨bEpoch, some [bigB n], deriveS (rootS s).bytes [bEpoch, bigB n]⟩ (by show 1 ≤ 1000000; omega)
  have s5 : sameS ⟨bEpoch, some [bigB n], deriveS (rootS s).bytes [bEpoch, bigB n]⟩ ⟨bEpoch, some [bigB n], deriveS (rootS s).bytes [bEpoch, bigB n]⟩ = true := by unfold sameS; simp
  rw [e1] at h1
  rw [e2] at h2
  rw [e3] at h3
  rw [e4] at h4
  rw [s5] at h5
  have eR : (rootS s).v = .agg [.str [114, 111, 111, 116], .nils, .str (rootS s).bytes] := rfl
  generalize (rootS s).v = RV at *
  generalize (rootS s).bytes = b1 at *
  subst eR
  generalize deriveS b1 [bEpoch, bigB n] = b2 at *
  generalize deriveS b2 [bColl, name] = b3 at *
  generalize deriveS b3 [bWord, path, value] = b4 at *
  generalize bigB n = B at *
  simp only [keyE, KeyM.v, pv, pvL, strsL, Option.getD_some, Option.getD_none, List.nil_append, List.cons_append, List.map_cons, List.map_nil, bEpoch, bColl, bWord] at h0 h1 h2 h3 h4 h5
  have q1 : ¬ (150 : Int) < s.length := by omega
  have q2 : ¬ (150 : Int) < name.length := by omega
  have q3 : ¬ (150 : Int) < path.length := by omega
  have q4 : ¬ (150 : Int) < value.length := by omega
  have q5 : ¬ n < 0 := by omega
  clear e1 e2 e3 e4
  simp [Tryd.f4, hw, h0, h1, h2, h3, h4, h5, hs, hname, hpath, hvalue, q1, q2, q3, q4, q5]
  rfl
set_option maxHeartbeats 64000000 in
theorem keysWays_no (s name path value : List UInt8) (n : Int) (h : ¬ (s.length ≤ 150 ∧ name.length ≤ 150 ∧ path.length ≤ 150 ∧ value.length ≤ 150 ∧ 0 ≤ n)) :
    clW 4 [.str s, .int .i64 n, .str name, .str path, .str value] [] = some (.ret (.bool true), []) := by
  refine fnW Tryd.func4 rfl (by simp) (by decide) rfl ?_
  have hw := fun d st => works_call d st
  by_cases c1 : (150 : Int) < s.length
  · simp [Tryd.f4, hw, c1]
    rfl
  · by_cases c2 : (150 : Int) < name.length
    · simp [Tryd.f4, hw, c1, c2]
      rfl
    · by_cases c3 : (150 : Int) < path.length
      · simp [Tryd.f4, hw, c1, c2, c3]
        rfl
      · by_cases c4 : (150 : Int) < value.length
        · simp [Tryd.f4, hw, c1, c2, c3, c4]
          rfl
        · have c5 : n < 0 := by omega
          simp [Tryd.f4, hw, c1, c2, c3, c4, c5]
          rfl
theorem i64_wf {n : Int} (h : (Lit.int .i64 n).wf = true) : -9223372036854775808 ≤ n ∧ n < 9223372036854775808 := by
  simp [Lit.wf, IntKind.min, IntKind.max, IntKind.signed, IntKind.bits] at h
  omega
theorem keysWays_eq (s : List UInt8) (n : Int) (hn : (Lit.int .i64 n).wf = true) (name path value : List UInt8) : clW 4 [.str s, .int .i64 n, .str name, .str path, .str value] [] = some (.ret (.bool true), []) := by
  by_cases h : s.length ≤ 150 ∧ name.length ≤ 150 ∧ path.length ≤ 150 ∧ value.length ≤ 150 ∧ 0 ≤ n
  · exact keysWays_ok s name path value n h.1 h.2.1 h.2.2.1 h.2.2.2.1 h.2.2.2.2 (i64_wf hn).2
  · exact keysWays_no s name path value n h
theorem args5 {S : Stab} {W : World} {a0 a1 a2 a3 a4 : AV} {u0 u1 u2 u3 u4 : Value} (h0 : PR S W a0 u0) (h1 : PR S W a1 u1) (h2 : PR S W a2 u2) (h3 : PR S W a3 u3) (h4 : PR S W a4 u4) : ∀ (j : Nat) e z, [a0, a1, a2, a3, a4][j]? = some e → #[u0, u1, u2, u3, u4][j]? = some z → PR S W e z := by
  intro j e z hc hx
  match j, hc with
  | 0, hc => cases hc; cases hx; exact h0
  | 1, hc => cases hc; cases hx; exact h1
  | 2, hc => cases hc; cases hx; exact h2
  | 3, hc => cases hc; cases hx; exact h3
  | 4, hc => cases hc; cases hx; exact h4
  | j + 5, hc => simp at hc
end Go.Proofs.YteibklnligmanaaDoor


/- Numbers that are handed in are in range. -/
namespace Go.Proofs.YteibklnligmanaaDoor
open Go Abs Go.RowKit
section
variable {H : Type} {enc : TypeId × Value → H} {W : World}
theorem int_range {t : TypeId} {k : IntKind} {n : Int} {d : DataW H} {p : List MemPlace} (ht : Tryd.prog.underlying t = some (.int k)) (h : DataW.Trod enc Tryd.prog W 0 (fun _ => true) true t (.int k n) d p) : (Lit.int k n).wf = true := by
  obtain ⟨m, hm⟩ := h
  obtain ⟨n', e, _, w⟩ := DataW.trod_int ht hm
  have e2 : (Value.int k n).cells.toList = [.int k n] := rfl
  rw [e2] at e
  cases e
  exact w
end
end Go.Proofs.YteibklnligmanaaDoor

