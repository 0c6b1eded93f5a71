/- What the functions come to: tree.whole. -/
import Derived.Test.YtonaejfpiihfhaaS6
namespace Go.Proofs.Ytonaejfpiihfhaa
open Go Abs
set_option linter.unusedSimpArgs false
set_option linter.unusedVariables false

def zeroSpan : AV := .agg [.int .i64 0, .int .i64 0, .nils]
def st50 (l : List Nd) : ASt := ⟨[(0, nds l), (2, .ptr 1002 0 0), (3, .ptr 1003 0 0)], [(1003, .box (.bool false)), (1002, .box zeroSpan)]⟩
def st50b (l : List Nd) : ASt := ⟨(4, .fn (.func 82) [] [.ptr 1002 0 0, .ptr 1003 0 0]) :: (st50 l).sl, (st50 l).hp⟩
def st50c (l : List Nd) : ASt := ⟨[(4, .fn (.func 82) [] [.ptr 0 0 0, .ptr 1 0 0]), (0, nds l), (2, .ptr 0 0 0), (3, .ptr 1 0 0)], [(0, .box zeroSpan), (1, .box (.bool false))]⟩
def restOf (c : Code) : Code := match splitD c with | some q => q.2.2.2 | none => .skip

def sp3 (x y : Int) (ks : List AV) : AV := .agg [.int .i64 x, .int .i64 y, .list 1 ks]
theorem clo_ok (sl : Slots) (x y : Int) (ks : List AV) : callB G (runClosure G .nili) (some 40000) (.fn (.func 82) [] [.ptr 0 0 0, .ptr 1 0 0]) [] ⟨sl, [(0, .box (sp3 x y ks)), (1, .box (.bool true))]⟩ =
    some (.val (.tup []) ⟨sl, [(0, .box (sp3 x y ks)), (1, .box (.bool true)), (0, .box (sp3 x y ks)), (1, .box (.bool true))]⟩, []) := by kernel_rfl
theorem clo_pan1 (sl : Slots) (x y : Int) (ks : List AV) : callB G (runClosure G oddV) (some 40000) (.fn (.func 82) [] [.ptr 0 0 0, .ptr 1 0 0]) [] ⟨sl, [(0, .box (sp3 x y ks)), (1, .box (.bool false))]⟩ =
    some (.val (.tup []) ⟨sl, [(0, .box zeroSpan), (1, .box (.bool false)), (0, .box (sp3 x y ks)), (1, .box (.bool false))]⟩, []) := by kernel_rfl
theorem clo_pan0 (sl : Slots) : callB G (runClosure G oddV) (some 40000) (.fn (.func 82) [] [.ptr 0 0 0, .ptr 1 0 0]) [] ⟨sl, [(0, .box zeroSpan), (1, .box (.bool false))]⟩ =
    some (.val (.tup []) ⟨sl, [(0, .box zeroSpan), (1, .box (.bool false)), (0, .box zeroSpan), (1, .box (.bool false))]⟩, []) := by kernel_rfl

def sA (c : Code) : Code := match splitD c with | some q => q.1 | none => .skip
def sO (c : Code) : Array Oper := match splitD c with | some q => q.2.1 | none => #[]
def sF (c : Code) : Operand := match splitD c with | some q => q.2.2.1 | none => .func 0
noncomputable abbrev b50 : Code := Try.f50.body.getD .skip
/-- The rest goes well. -/
theorem whole_ok (l : List Nd) (x y : Int) (ks : List AV) (h : codeX G cl lp 50 (restOf (Try.f50.body.getD .skip)) (st50c l) = some (.ret, ⟨[(2, .ptr 0 0 0), (3, .ptr 1 0 0)], [(0, .box (sp3 x y ks)), (1, .box (.bool true))]⟩)) :
    cl 50 [nds l] [] = some (.ret (.tup [sp3 x y ks, .bool true]), []) :=
  call_intro (by decide) rfl (runD_of (fn := Try.f50) (A := sA b50) (ops := sO b50) (f := sF b50) (rest := restOf b50) (s0 := st50 l) (s1 := st50b l) (ns := [1002, 1003]) (x2 := .ret) (rv := .nili) (vs := [sp3 x y ks, .bool true]) (by simp) Try.func50 (by kernel_rfl) (by kernel_rfl) (by kernel_rfl) (by kernel_rfl) (by kernel_rfl) h (by kernel_rfl) rfl (clo_ok _ x y ks) (by kernel_rfl) (by kernel_rfl))
theorem whole_pan0 (l : List Nd) (sl : Slots) (h : codeX G cl lp 50 (restOf (Try.f50.body.getD .skip)) (st50c l) = some (.pan oddV, ⟨[(0, nds l), (2, .ptr 0 0 0), (3, .ptr 1 0 0)], [(0, .box zeroSpan), (1, .box (.bool false))]⟩)) :
    cl 50 [nds l] [] = some (.ret (.tup [zeroSpan, .bool false]), []) :=
  call_intro (by decide) rfl (runD_of (fn := Try.f50) (A := sA b50) (ops := sO b50) (f := sF b50) (rest := restOf b50) (s0 := st50 l) (s1 := st50b l) (ns := [1002, 1003]) (x2 := .pan oddV) (rv := oddV) (vs := [zeroSpan, .bool false]) (by simp) Try.func50 (by kernel_rfl) (by kernel_rfl) (by kernel_rfl) (by kernel_rfl) (by kernel_rfl) h (by kernel_rfl) (by kernel_rfl) (clo_pan0 _) (by kernel_rfl) (by kernel_rfl))
theorem whole_pan1 (l : List Nd) (x y : Int) (ks : List AV) (h : codeX G cl lp 50 (restOf (Try.f50.body.getD .skip)) (st50c l) = some (.pan oddV, ⟨[(2, .ptr 0 0 0), (3, .ptr 1 0 0)], [(0, .box (sp3 x y ks)), (1, .box (.bool false))]⟩)) :
    cl 50 [nds l] [] = some (.ret (.tup [zeroSpan, .bool false]), []) :=
  call_intro (by decide) rfl (runD_of (fn := Try.f50) (A := sA b50) (ops := sO b50) (f := sF b50) (rest := restOf b50) (s0 := st50 l) (s1 := st50b l) (ns := [1002, 1003]) (x2 := .pan oddV) (rv := oddV) (vs := [zeroSpan, .bool false]) (by simp) Try.func50 (by kernel_rfl) (by kernel_rfl) (by kernel_rfl) (by kernel_rfl) (by kernel_rfl) h (by kernel_rfl) (by kernel_rfl) (clo_pan1 _ x y ks) (by kernel_rfl) (by kernel_rfl))

/-- All of it is one value. -/
def wholeS (l : List Nd) : Option Span := (valS l (l.length + 1) 0).bind fun s => if s.stop = l.length then some s else none
def wholeR (l : List Nd) : AV := match wholeS l with | some s => .tup [spanV s, .bool true] | none => .tup [zeroSpan, .bool false]
theorem whole_eq (l : List Nd) (hl : l.length ≤ 900) (hr : ∀ n ∈ l, n.inR) : cl 50 [nds l] [] = some (.ret (wholeR l), []) := by
  have hv : ∀ d (w : ASt), callV G cl d (.fn (.func 51) [] []) [.list 4 (l.map Nd.v), .int .i64 0] w = some (pureR w (valR (valS l (l.length + 1) 0))) := by
    intro d w
    refine callV_pure E51 (by decide) ext51 rfl rfl (value_eq l hl hr (l.length + 1) 0 (by omega)) ?_
    cases valS l (l.length + 1) 0 <;> rfl
  unfold wholeR wholeS
  cases hs : valS l (l.length + 1) 0 with
  | none =>
    refine whole_pan0 l [] ?_
    simp [restOf, Try.f50, splitD, st50c, nds, hv, hs, valR, oddV]
  | some s =>
    simp only [Option.bind_some]
    by_cases he : s.stop = l.length
    · rw [if_pos he]
      have he' : (s.stop : Int) = l.length := by omega
      refine whole_ok l s.stop s.deep (intsL s.kids) ?_
      simp [restOf, Try.f50, splitD, st50c, nds, hv, hs, valR, zeroSpan, spanV, he', need_call_t, sp3]
    · rw [if_neg he]
      have he' : ¬ (s.stop : Int) = l.length := by omega
      refine whole_pan1 l s.stop s.deep (intsL s.kids) ?_
      simp [restOf, Try.f50, splitD, st50c, nds, hv, hs, valR, zeroSpan, spanV, he', need_call_f, sp3, oddV]
end Go.Proofs.Ytonaejfpiihfhaa
