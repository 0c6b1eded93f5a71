/- What the functions come to: tree.whole. What the functions come to: tree.Check, tree.Depth. What the functions come to: the document's value, gone through. What the functions come to: the document's value; nodes that may be, either way. What the functions come to: the document's Check and Depth; TreeChecks. What TreeChecks comes to. -/
import Derived.Test.YtonaejfpiihfhaaPkE

/- What the functions come to: tree.whole. -/
namespace Go.Proofs.Ytonaejfpiihfhaa
open Go Abs
set_option linter.unusedSimpArgs false
set_option linter.unusedVariables false

def zeroSpan : AV := .agg [.int .i64 0, .int .i64 0, .nils]
def st50 (l : List Nd) : ASt := ⟨[(0, nds l), (2, .ptr 1002 0 0), (3, .ptr 1003 0 0)], [(1003, .box 4 (.bool false)), (1002, .box 69 zeroSpan)]⟩
def st50b (l : List Nd) : ASt := ⟨(4, .fn (.func 82) [] [.ptr 1002 0 0, .ptr 1003 0 0]) :: (st50 l).sl, (st50 l).hp⟩
def st50c (l : List Nd) : ASt := ⟨[(4, .fn (.func 82) [] [.ptr 0 0 0, .ptr 1 0 0]), (0, nds l), (2, .ptr 0 0 0), (3, .ptr 1 0 0)], [(0, .box 69 zeroSpan), (1, .box 4 (.bool false))]⟩
def restOf (c : Code) : Code := match splitD c with | some q => q.2.2.2 | none => .skip

def sp3 (x y : Int) (ks : List AV) : AV := .agg [.int .i64 x, .int .i64 y, .list 1 ks]
theorem clo_ok (sl : Slots) (x y : Int) (ks : List AV) : callB G (runClosure G .nili) (some 40000) (.fn (.func 82) [] [.ptr 0 0 0, .ptr 1 0 0]) [] ⟨sl, [(0, .box 69 (sp3 x y ks)), (1, .box 4 (.bool true))]⟩ =
    some (.val (.tup []) ⟨sl, [(0, .box 69 (sp3 x y ks)), (1, .box 4 (.bool true)), (0, .box 69 (sp3 x y ks)), (1, .box 4 (.bool true))]⟩, []) := by kernel_rfl
theorem clo_pan1 (sl : Slots) (x y : Int) (ks : List AV) : callB G (runClosure G oddV) (some 40000) (.fn (.func 82) [] [.ptr 0 0 0, .ptr 1 0 0]) [] ⟨sl, [(0, .box 69 (sp3 x y ks)), (1, .box 4 (.bool false))]⟩ =
    some (.val (.tup []) ⟨sl, [(0, .box 69 zeroSpan), (1, .box 4 (.bool false)), (0, .box 69 (sp3 x y ks)), (1, .box 4 (.bool false))]⟩, []) := by kernel_rfl
theorem clo_pan0 (sl : Slots) : callB G (runClosure G oddV) (some 40000) (.fn (.func 82) [] [.ptr 0 0 0, .ptr 1 0 0]) [] ⟨sl, [(0, .box 69 zeroSpan), (1, .box 4 (.bool false))]⟩ =
    some (.val (.tup []) ⟨sl, [(0, .box 69 zeroSpan), (1, .box 4 (.bool false)), (0, .box 69 zeroSpan), (1, .box 4 (.bool false))]⟩, []) := by kernel_rfl

def sA (c : Code) : Code := match splitD c with | some q => q.1 | none => .skip
def sO (c : Code) : Array Oper := match splitD c with | some q => q.2.1 | none => #[]
def sF (c : Code) : Operand := match splitD c with | some q => q.2.2.1 | none => .func 0
noncomputable abbrev b50 : Code := Try.f50.body.getD .skip
/-- The rest goes well. -/
theorem whole_ok (l : List Nd) (x y : Int) (ks : List AV) (h : codeX G cl lp 50 (restOf (Try.f50.body.getD .skip)) (st50c l) = some (.ret, ⟨[(2, .ptr 0 0 0), (3, .ptr 1 0 0)], [(0, .box 69 (sp3 x y ks)), (1, .box 4 (.bool true))]⟩)) :
    cl 50 [nds l] [] = some (.ret (.tup [sp3 x y ks, .bool true]), []) :=
  call_intro (by decide) rfl (runD_of (fn := Try.f50) (A := sA b50) (ops := sO b50) (f := sF b50) (rest := restOf b50) (s0 := st50 l) (s1 := st50b l) (ns := [1002, 1003]) (x2 := .ret) (rv := .nili) (vs := [sp3 x y ks, .bool true]) (by simp) Try.func50 (by kernel_rfl) (by kernel_rfl) (by kernel_rfl) (by kernel_rfl) (by kernel_rfl) h (by kernel_rfl) rfl (clo_ok _ x y ks) (by kernel_rfl) (by kernel_rfl))
theorem whole_pan0 (l : List Nd) (sl : Slots) (h : codeX G cl lp 50 (restOf (Try.f50.body.getD .skip)) (st50c l) = some (.pan oddV, ⟨[(0, nds l), (2, .ptr 0 0 0), (3, .ptr 1 0 0)], [(0, .box 69 zeroSpan), (1, .box 4 (.bool false))]⟩)) :
    cl 50 [nds l] [] = some (.ret (.tup [zeroSpan, .bool false]), []) :=
  call_intro (by decide) rfl (runD_of (fn := Try.f50) (A := sA b50) (ops := sO b50) (f := sF b50) (rest := restOf b50) (s0 := st50 l) (s1 := st50b l) (ns := [1002, 1003]) (x2 := .pan oddV) (rv := oddV) (vs := [zeroSpan, .bool false]) (by simp) Try.func50 (by kernel_rfl) (by kernel_rfl) (by kernel_rfl) (by kernel_rfl) (by kernel_rfl) h (by kernel_rfl) (by kernel_rfl) (clo_pan0 _) (by kernel_rfl) (by kernel_rfl))
theorem whole_pan1 (l : List Nd) (x y : Int) (ks : List AV) (h : codeX G cl lp 50 (restOf (Try.f50.body.getD .skip)) (st50c l) = some (.pan oddV, ⟨[(2, .ptr 0 0 0), (3, .ptr 1 0 0)], [(0, .box 69 (sp3 x y ks)), (1, .box 4 (.bool false))]⟩)) :
    cl 50 [nds l] [] = some (.ret (.tup [zeroSpan, .bool false]), []) :=
  call_intro (by decide) rfl (runD_of (fn := Try.f50) (A := sA b50) (ops := sO b50) (f := sF b50) (rest := restOf b50) (s0 := st50 l) (s1 := st50b l) (ns := [1002, 1003]) (x2 := .pan oddV) (rv := oddV) (vs := [zeroSpan, .bool false]) (by simp) Try.func50 (by kernel_rfl) (by kernel_rfl) (by kernel_rfl) (by kernel_rfl) (by kernel_rfl) h (by kernel_rfl) (by kernel_rfl) (clo_pan1 _ x y ks) (by kernel_rfl) (by kernel_rfl))

/-- All of it is one value. -/
def wholeS (l : List Nd) : Option Span := (valS l (l.length + 1) 0).bind fun s => if s.stop = l.length then some s else none
def wholeR (l : List Nd) : AV := match wholeS l with | some s => .tup [spanV s, .bool true] | none => .tup [zeroSpan, .bool false]
theorem whole_eq (l : List Nd) (hl : l.length ≤ 900) (hr : ∀ n ∈ l, n.inR) : cl 50 [nds l] [] = some (.ret (wholeR l), []) := by
  have hv : ∀ d (w : ASt), callV G cl d (.fn (.func 51) [] []) [.list 4 (l.map Nd.v), .int .i64 0] w = some (pureR w (valR (valS l (l.length + 1) 0))) := by
    intro d w
    refine callV_pure E51 (by decide) ext51 rfl rfl (value_eq l hl hr (l.length + 1) 0 (by omega)) ?_
    cases valS l (l.length + 1) 0 <;> rfl
  unfold wholeR wholeS
  cases hs : valS l (l.length + 1) 0 with
  | none =>
    refine whole_pan0 l [] ?_
    simp [restOf, Try.f50, splitD, st50c, nds, hv, hs, valR, oddV]
  | some s =>
    simp only [Option.bind_some]
    by_cases he : s.stop = l.length
    · rw [if_pos he]
      have he' : (s.stop : Int) = l.length := by omega
      refine whole_ok l s.stop s.deep (intsL s.kids) ?_
      simp [restOf, Try.f50, splitD, st50c, nds, hv, hs, valR, zeroSpan, spanV, he', need_call_t, sp3]
    · rw [if_neg he]
      have he' : ¬ (s.stop : Int) = l.length := by omega
      refine whole_pan1 l s.stop s.deep (intsL s.kids) ?_
      simp [restOf, Try.f50, splitD, st50c, nds, hv, hs, valR, zeroSpan, spanV, he', need_call_f, sp3, oddV]
end Go.Proofs.Ytonaejfpiihfhaa

/- What the functions come to: tree.Check, tree.Depth. -/
namespace Go.Proofs.Ytonaejfpiihfhaa
open Go Abs
set_option linter.unusedSimpArgs false
set_option linter.unusedVariables false

/-- The error's number. -/
def checkS (l : List Nd) : Int :=
  if 120 < l.length ∨ longS l = true then 4 else match wholeS l with
    | none => 1
    | some s => if 32 < s.deep then 3 else 0

theorem whole_call {l : List Nd} (hl : l.length ≤ 900) (hr : ∀ n ∈ l, n.inR) {d : Option Nat} {st : ASt} : callV G cl d (.fn (.func 50) [] []) [nds l] st = some (.val (wholeR l) st) := by
  refine callV_ret E50 (by decide) ext50 rfl rfl (whole_eq l hl hr) ?_
  unfold wholeR; cases wholeS l <;> rfl

set_option maxHeartbeats 8000000 in
theorem check_eq (l : List Nd) (hb : l.length ≤ 9223372036854775806) (hr : ∀ n ∈ l, n.inR) : cl 19 [nds l] [] = some (.ret (.int .i64 (checkS l)), []) := by
  have hc := fun d st => contains49_call (l := l) hb (d := d) (st := st)
  refine fn_intro Try.func19 rfl (by simp) (by decide) rfl ?_
  simp only [nds] at hc
  by_cases h1 : 120 < l.length
  · have h1' : (120 : Int) < l.length := by omega
    simp [Try.f19, nds, h1']
    exact end_is (.inr rfl) (by simp; rfl) rfl (by simp [checkS, h1])
  have h1' : ¬ (120 : Int) < l.length := by omega
  cases h2 : longS l with
  | true =>
    simp [Try.f19, nds, h1', hc, h2]
    exact end_is (.inr rfl) (by simp; rfl) rfl (by simp [checkS, h2])
  | false =>
    have hw := fun d st => whole_call (l := l) (by omega) hr (d := d) (st := st)
    simp only [nds] at hw
    cases h3 : wholeS l with
    | none =>
      simp [Try.f19, nds, h1', hc, h2, hw, wholeR, h3, zeroSpan]
      exact end_is (.inr rfl) (by simp; rfl) rfl (by simp [checkS, h1, h2, h3])
    | some s =>
      by_cases h4 : 32 < s.deep
      · have h4' : (32 : Int) < s.deep := by omega
        simp [Try.f19, nds, h1', hc, h2, hw, wholeR, h3, spanV, h4']
        exact end_is (.inr rfl) (by simp; rfl) rfl (by simp [checkS, h1, h2, h3, h4])
      · have h4' : ¬ (32 : Int) < s.deep := by omega
        simp [Try.f19, nds, h1', hc, h2, hw, wholeR, h3, spanV, h4']
        exact end_is (.inr rfl) (by simp; rfl) rfl (by simp [checkS, h1, h2, h3, h4])
theorem check_call {l : List Nd} (hb : l.length ≤ 9223372036854775806) (hr : ∀ n ∈ l, n.inR) {d : Option Nat} {st : ASt} : callV G cl d (.fn (.func 19) [] []) [nds l] st = some (.val (.int .i64 (checkS l)) st) :=
  callV_ret E19 (by decide) ext19 rfl rfl (check_eq l hb hr) rfl

theorem checkS_ok {l : List Nd} (h : checkS l = 0) : l.length ≤ 120 ∧ longS l = false ∧ ∃ s, wholeS l = some s ∧ s.deep ≤ 32 := by
  unfold checkS at h
  split at h
  · cases h
  · rename_i hc
    simp only [not_or, Bool.not_eq_true] at hc
    split at h
    · cases h
    · rename_i s hs
      split at h
      · cases h
      · exact ⟨by omega, hc.2, s, hs, by omega⟩
theorem wholeS_some {l : List Nd} {s : Span} (h : wholeS l = some s) : valS l (l.length + 1) 0 = some s ∧ s.stop = l.length := by
  unfold wholeS at h
  rw [Option.bind_eq_some_iff] at h
  obtain ⟨t, h1, h2⟩ := h
  split at h2
  · cases h2; exact ⟨h1, by assumption⟩
  · cases h2

def depthS (l : List Nd) : Int := if checkS l = 0 then (match wholeS l with | some s => (s.deep : Int) | none => 0) else 0
set_option maxHeartbeats 8000000 in
theorem depth_eq (l : List Nd) (hb : l.length ≤ 9223372036854775806) (hr : ∀ n ∈ l, n.inR) : cl 20 [nds l] [] = some (.ret (.int .i64 (depthS l)), []) := by
  have hc := fun d st => check_call (l := l) hb hr (d := d) (st := st)
  simp only [nds] at hc
  refine fn_intro Try.func20 rfl (by simp) (by decide) rfl ?_
  by_cases h : checkS l = 0
  · obtain ⟨h1, h2, s, h3, h4⟩ := checkS_ok h
    obtain ⟨h5, h6⟩ := wholeS_some h3
    have hv : ∀ d (w : ASt), callV G cl d (.fn (.func 51) [] []) [.list 4 (l.map Nd.v), .int .i64 0] w = some (.val (spanV s) w) := by
      intro d w
      refine callV_ret E51 (by decide) ext51 rfl rfl ?_ rfl
      have := value_eq l (by omega) hr (l.length + 1) 0 (by omega)
      rw [h5] at this; exact this
    simp [Try.f20, nds, hc, h, hv, spanV]
    exact end_is (.inr rfl) (by simp; rfl) rfl (by simp [depthS, h, h3])
  · simp [Try.f20, nds, hc, h]
    exact end_is (.inr rfl) (by simp; rfl) rfl (by simp [depthS, h])
end Go.Proofs.Ytonaejfpiihfhaa

/- What the functions come to: the document's value, gone through. -/
namespace Go.Proofs.Ytonaejfpiihfhaa
open Go Abs
set_option linter.unusedSimpArgs false
set_option linter.unusedVariables false

/-- Numbers, in a row that may be nil. -/
def rowV (l : List Nat) : AV := if l = [] then .nils else .list 1 (intsL l)
@[simp high] theorem rowV_rv {hp l} : (rowV l).rv hp = rowV l := by unfold rowV; split <;> rfl
@[simp high] theorem rowV_names {l} : (rowV l).names = [] := by unfold rowV; split <;> rfl
@[simp high] theorem rowV_rows {l} : (rowV l).rows = [] := by unfold rowV; split <;> rfl
@[simp high] theorem rowV_ren {m l} : (rowV l).ren m = rowV l := by unfold rowV; split <;> rfl
@[simp high] theorem rowV_kill {n l} : (rowV l).kill n = rowV l := by unfold rowV; split <;> rfl
@[simp high] theorem rowV_cells {l} : (rowV l).cells = [rowV l] := by unfold rowV; split <;> rfl
@[simp high] theorem rowV_ok {l} : okCell (rowV l) = true := by unfold rowV; split <;> rfl
@[simp high] theorem rowV_known {l} : (rowV l).known = true := by unfold rowV; split <;> rfl
@[simp high] theorem rowV_beq {l} : AV.beq (rowV l) (rowV l) = true := by
  refine beq_self ?_
  unfold rowV
  split
  · rfl
  · exact plainBL_map (fun a => rfl) l
theorem rowV_nil : rowV [] = .nils := rfl
@[simp high] theorem rowV_src {hp l} : srcEls hp 1 (rowV l) = some (intsL l) := by
  unfold rowV
  split
  · rename_i h; subst h; rfl
  · simp
theorem rowV_app {l x} : rowV (l ++ [x]) = .list 1 (intsL (l ++ [x])) := by unfold rowV; rw [if_neg (by simp)]
theorem rowV_index {hp : Heap} {l : List Nat} {j k : Nat} (h : l[j]? = some k) : indexD Try.prog hp (some (.slice 3)) (rowV l) (j : Int) = some (.ep (.int .i64 (k : Int)) 0) := by
  have : l ≠ [] := by intro e; subst e; simp at h
  unfold rowV
  rw [if_neg this]
  simp [intsL, h]
@[simp] theorem plainBL_ints {l : List Nat} : AV.plainBL (intsL l) = true := plainBL_map (fun a => rfl) l

def seenV (stop deep : Int) (bad : Bool) (kids keys : List Nat) : AV := .agg [.int .i64 stop, .int .i64 deep, .bool bad, rowV kids, rowV keys]
def seenσ (l : List Nd) (at_ : Nat) (stop deep : Int) (bad : Bool) (kids keys : List Nat) (i : Nat) : ASt :=
  ⟨[(0, nds l), (1, .int .i64 at_), (4, .ptr 1004 0 0), (5, .ptr 1005 0 0), (6, .int .i64 i)],
   [(1004, .box 64 (.agg [.int .i64 0, .int .i64 0, .bool false, .nils, .nils])), (1005, .box 64 (seenV stop deep bad kids keys))]⟩

@[simp] theorem nds_beq {l : List Nd} : AV.beqL (l.map Nd.v) (l.map Nd.v) = true := beqL_self (plainBL_map (fun _ => rfl) l)
-- What a loop's head is unfolded by, where there is memory.
attribute [local simp] canonK canonAll canonSlot canonCell canonBox ownStep restrictTo pureCells pureRows reachL AObj.names List.range_succ appendA nds Nd.v seenσ seenV bsvV

set_option maxHeartbeats 8000000 in
theorem seen_plain (l : List Nd) (at_ : Nat) (n : Nd) (hn : l[at_]? = some n) (hk : n.kind ≠ 5) (stop deep : Int) (kids keys : List Nat) (i : Nat) (hi : (i : Int) < n.kids) (hkb : n.kids ≤ 9223372036854775807) (hc : kids.length ≤ 1000)
    (e d : Int) (b : Bool) (ks qs : List Nat) (st : Nat) (hst : stop = st) (hcall : ∀ d' w, callV G cl d' (.fn (.func 47) [] []) [nds l, .int .i64 stop] w = some (.val (seenV e d b ks qs) w)) :
    rX 47 (lc Try.f47 0) (codeX G cl lp 47 (lc Try.f47 0) (seenσ l at_ stop deep false kids keys i)) = some (.normal, seenσ l at_ e (max deep d) b (kids ++ [st]) keys (i + 1)) := by
  have h1 : (at_ : Int) < l.length := by have := (List.getElem?_eq_some_iff.1 hn).1; omega
  have hL : kids.length + 1 ≤ LIM := by unfold LIM; omega
  have hL' : kids.length ≤ LIM := by unfold LIM; omega
  have hw : IntKind.i64.wrap ((i : Int) + 1) = (i : Int) + 1 := i64_wrap (by omega) (by have := hi; omega)
  simp [lc, loopsOf, Try.f47]
  simp at hcall
  subst hst
  simp [h1, hn, hi, hk, hcall, hL, hL', hw, rowV_app, intsL]
set_option maxHeartbeats 8000000 in
theorem seen_map (l : List Nd) (at_ : Nat) (n : Nd) (hn : l[at_]? = some n) (hk : n.kind = 5) (st : Nat) (deep : Int) (kids keys : List Nat) (i : Nat) (hi : (i : Int) < n.kids) (hkb : n.kids ≤ 9223372036854775807) (hc : kids.length ≤ 1000) (hq : keys.length ≤ 1000) (hsb : st ≤ 1000)
    (m : Nd) (hm : l[st]? = some m) (hmk : m.kind = 3) (hmf : plainS m = true) (hml : i = 0 ∨ ∃ j q b, i = j + 1 ∧ keys[j]? = some q ∧ l[q]? = some b ∧ ltB b.text m.text = true)
    (e d : Int) (b : Bool) (ks qs : List Nat) (hcall : ∀ d' w, callV G cl d' (.fn (.func 47) [] []) [nds l, .int .i64 ((st + 1 : Nat) : Int)] w = some (.val (seenV e d b ks qs) w)) :
    rX 47 (lc Try.f47 0) (codeX G cl lp 47 (lc Try.f47 0) (seenσ l at_ st deep false kids keys i)) = some (.normal, seenσ l at_ e (max deep d) b (kids ++ [st + 1]) (keys ++ [st]) (i + 1)) := by
  have h1 : (at_ : Int) < l.length := by have := (List.getElem?_eq_some_iff.1 hn).1; omega
  have h2 : (st : Int) < l.length := by have := (List.getElem?_eq_some_iff.1 hm).1; omega
  have h2' : ¬ (l.length : Int) ≤ st := by omega
  have hL : kids.length + 1 ≤ LIM := by unfold LIM; omega
  have hL' : kids.length ≤ LIM := by unfold LIM; omega
  have hL2 : keys.length + 1 ≤ LIM := by unfold LIM; omega
  have hL2' : keys.length ≤ LIM := by unfold LIM; omega
  have hw : IntKind.i64.wrap ((i : Int) + 1) = (i : Int) + 1 := i64_wrap (by omega) (by have := hi; omega)
  have hw2 : IntKind.i64.wrap ((st : Int) + 1) = (st : Int) + 1 := i64_wrap (by omega) (by omega)
  have hmf' : plainS ⟨3, m.num, m.text, m.kids⟩ = true := by rw [← hmk]; exact hmf
  simp [lc, loopsOf, Try.f47]
  simp at hcall
  rcases hml with hml | ⟨j, q, nb, hij, hkj, hlq, hlt⟩
  · subst hml
    simp only [Int.natCast_zero, Int.zero_add] at hi hw
    simp [h1, h2, h2', hn, hm, hmk, hmf', hi, hk, hcall, hL, hL', hL2, hL2', hw, hw2, rowV_app, intsL, plain_call]
  · subst hij
    have hij0 : (0 : Int) < ((j + 1 : Nat) : Int) := by omega
    have hw3 : IntKind.i64.wrap (((j + 1 : Nat) : Int) - 1) = (j : Int) := by rw [i64_wrap (by omega) (by omega)]; omega
    have hx : ∀ hp, indexD Try.prog hp (some (.slice 3)) (rowV keys) (j : Int) = some (.ep (.int .i64 (q : Int)) 0) := fun hp => rowV_index hkj
    generalize ((j + 1 : Nat) : Int) = I at *
    simp [h1, h2, h2', hn, hm, hmk, hmf', hi, hk, hcall, hL, hL', hL2, hL2', hw, hw2, hw3, hij0, hx, hlq, hlt, rowV_app, intsL, plain_call]
set_option maxHeartbeats 8000000 in
theorem seen_map_bad (l : List Nd) (at_ : Nat) (n : Nd) (hn : l[at_]? = some n) (hk : n.kind = 5) (st : Nat) (deep : Int) (kids keys : List Nat) (i : Nat) (hi : (i : Int) < n.kids) (hkb : n.kids ≤ 9223372036854775807)
    (hbad : l[st]? = none ∨ ∃ m, l[st]? = some m ∧ (m.kind ≠ 3 ∨ (m.kind = 3 ∧ plainS m = false) ∨ (m.kind = 3 ∧ plainS m = true ∧ ∃ j q b, i = j + 1 ∧ keys[j]? = some q ∧ l[q]? = some b ∧ ltB b.text m.text = false))) :
    rX 47 (lc Try.f47 0) (codeX G cl lp 47 (lc Try.f47 0) (seenσ l at_ st deep false kids keys i)) =
      some (.ret, ⟨[(4, .ptr 1004 0 0)], [(1004, .box 64 (.agg [.int .i64 0, .int .i64 0, .bool true, .nils, .nils])), (1005, .box 64 (seenV st deep false kids keys))]⟩) := by
  have h1 : (at_ : Int) < l.length := by have := (List.getElem?_eq_some_iff.1 hn).1; omega
  simp [lc, loopsOf, Try.f47]
  rcases hbad with hm | ⟨m, hm, hbad⟩
  · have h2' : (l.length : Int) ≤ st := by have := List.getElem?_eq_none_iff.1 hm; omega
    simp [h1, h2', hn, hi, hk]
  have h2 : (st : Int) < l.length := by have := (List.getElem?_eq_some_iff.1 hm).1; omega
  have h2' : ¬ (l.length : Int) ≤ st := by omega
  rcases hbad with q | ⟨q1, q⟩ | ⟨q1, q2, j, q, nb, hij, hkj, hlq, hlt⟩
  · simp [h1, h2, h2', hn, hm, q, hi, hk, plain_call]
  · have hmf' : plainS ⟨3, m.num, m.text, m.kids⟩ = false := by rw [← q1]; exact q
    simp [h1, h2, h2', hn, hm, q1, hmf', hi, hk, plain_call]
  · have hmf' : plainS ⟨3, m.num, m.text, m.kids⟩ = true := by rw [← q1]; exact q2
    subst hij
    have hij0 : (0 : Int) < ((j + 1 : Nat) : Int) := by omega
    have hw3 : IntKind.i64.wrap (((j + 1 : Nat) : Int) - 1) = (j : Int) := by rw [i64_wrap (by omega) (by omega)]; omega
    have hx : ∀ hp, indexD Try.prog hp (some (.slice 3)) (rowV keys) (j : Int) = some (.ep (.int .i64 (q : Int)) 0) := fun hp => rowV_index hkj
    generalize ((j + 1 : Nat) : Int) = I at *
    simp [h1, h2, h2', hn, hm, q1, hmf', hi, hk, hw3, hij0, hx, hlq, hlt, plain_call]
def seenE (l : List Nd) (at_ : Nat) (stop deep : Int) (bad : Bool) (kids keys : List Nat) (i : Nat) : ASt :=
  ⟨[(0, nds l), (1, .int .i64 at_), (4, .ptr 1004 0 0), (5, .ptr 1005 0 0), (6, .int .i64 i), (40, .bool false)], (seenσ l at_ stop deep bad kids keys i).hp⟩
theorem seen_exit (l : List Nd) (at_ : Nat) (n : Nd) (hn : l[at_]? = some n) (stop deep : Int) (bad : Bool) (kids keys : List Nat) (i : Nat) (hi : ¬ (i : Int) < n.kids ∨ bad = true) :
    rX 47 (lc Try.f47 0) (codeX G cl lp 47 (lc Try.f47 0) (seenσ l at_ stop deep bad kids keys i)) = some (.exit 0, seenE l at_ stop deep bad kids keys i) := by
  have h1 : (at_ : Int) < l.length := by have := (List.getElem?_eq_some_iff.1 hn).1; omega
  simp [lc, loopsOf, Try.f47]
  by_cases hx : (i : Int) < n.kids
  · have hb := hi.resolve_left (by simpa using hx)
    simp [h1, hn, hx, hb, seenE]
  · simp [h1, hn, hx, seenE]
end Go.Proofs.Ytonaejfpiihfhaa

/- What the functions come to: the document's value; nodes that may be, either way. -/
namespace Go.Proofs.Ytonaejfpiihfhaa
open Go Abs
set_option linter.unusedSimpArgs false
set_option linter.unusedVariables false

theorem andNot1 {a : Int} (h1 : -9223372036854775808 ≤ a) (h2 : a ≤ 9223372036854775807) : wAndNot .i64 a 1 = 0 ↔ a = 0 ∨ a = 1 := by
  have hbits : IntKind.i64.bits = 64 := rfl
  unfold wAndNot
  rw [hbits]
  have key : ∀ x : BitVec 64, x &&& ~~~(1#64) = 0#64 → x.toNat ≤ 1 := by
    intro x hx
    have e : x = (x &&& 1#64) ||| (x &&& ~~~(1#64)) := by
      ext i hi
      simp only [BitVec.getElem_or, BitVec.getElem_and, BitVec.getElem_not]
      cases x[i] <;> cases (1#64)[i] <;> rfl
    rw [hx, BitVec.or_zero] at e
    have : x.toNat = x.toNat &&& 1 := by
      conv => lhs; rw [e]
      simp
    rw [Nat.and_one_is_mod] at this
    omega
  constructor
  · intro h
    have hlt := (BitVec.ofInt 64 a &&& ~~~BitVec.ofInt 64 1).isLt
    rw [IntKind.wrap_i64] at h
    have h0 : (BitVec.ofInt 64 a &&& ~~~BitVec.ofInt 64 1).toNat = 0 := by omega
    have hz : BitVec.ofInt 64 a &&& ~~~(1#64) = 0#64 := by
      apply BitVec.eq_of_toNat_eq
      simpa using h0
    have := key _ hz
    rw [BitVec.toNat_ofInt] at this
    omega
  · rintro (rfl | rfl) <;> rfl

theorem fits_plain {n : Nd} (h : n.inR) : fitsS n = plainS n := by
  obtain ⟨k, nu, t, c⟩ := n
  obtain ⟨h1, h2, h3, h4⟩ := h
  simp only at h1 h2 h3 h4
  unfold fitsS plainS
  simp only
  have hcc : (decide (c = 0) || decide (0 < c)) = decide (0 ≤ c) := by
    rw [← Bool.decide_or]; congr 1; apply propext; omega
  by_cases k1 : k = 1
  · subst k1
    have : decide (wAndNot .i64 nu 1 = 0) = (decide (nu = 0) || decide (nu = 1)) := by
      rw [← Bool.decide_or]; congr 1; exact propext (andNot1 h1 h2)
    simp [this]
  by_cases k0 : k = 0
  · subst k0; simp
  by_cases k2 : k = 2
  · subst k2; simp
  by_cases k3 : k = 3
  · subst k3; simp
  by_cases k4 : k = 4
  · subst k4; simp [hcc]
  by_cases k5 : k = 5
  · subst k5; simp [hcc]
  have : ¬ (0 ≤ k ∧ k ≤ 5) := by omega
  simp only [k1, k0, k2, k3, k4, k5, if_false, or_self, decide_false]
  by_cases q : 0 ≤ k
  · have q' : ¬ k ≤ 5 := fun h => this ⟨q, h⟩
    simp [q']
  · simp [q]

/-- What the document's value is told as. -/
def keysN (m : Bool) (ks : List Nat) : List Nat := if m then ks.map (· - 1) else []
def mapAt (l : List Nd) (a : Nat) : Bool := match l[a]? with | some n => decide (n.kind = 5) | none => false
def seenR (m : Bool) (r : Option Span) (v : AV) : Prop :=
  match r with
  | some s => ∃ keys, v = seenV s.stop s.deep false s.kids keys ∧ keys = keysN m s.kids
  | none => ∃ a d ks qs, v = seenV a d true ks qs

theorem seen_bad (l : List Nd) (a : Int) (n : Option Nd) (hn : a < 0 ∨ (0 ≤ a ∧ l[a.toNat]? = n)) (hb : a < 0 ∨ n = none ∨ ∃ m, n = some m ∧ plainS m = false) : cl 47 [nds l, .int .i64 a] [] = some (.ret (seenV 0 0 true [] []), []) := by
  refine fn_intro Try.func47 rfl (by simp) (by decide) rfl ?_
  by_cases h0 : a < 0
  · simp [Try.f47, h0]
    exact end_rv (.inr rfl) (by simp [resL]; rfl) (by simp) (by simp; rfl) rfl
  obtain ⟨h0', hn⟩ := hn.resolve_left h0
  rcases hb.resolve_left h0 with rfl | ⟨m, rfl, hm⟩
  · have h2 : (l.length : Int) ≤ a := by have := List.getElem?_eq_none_iff.1 hn; omega
    simp [Try.f47, h0, h2, nds]
    exact end_rv (.inr rfl) (by simp [resL]; rfl) (by simp) (by simp; rfl) rfl
  · have h2 : ¬ (l.length : Int) ≤ a := by have := (List.getElem?_eq_some_iff.1 hn).1; omega
    simp [Try.f47, h0, h0', h2, nds, hn, Nd.v, plain_call, hm]
    exact end_rv (.inr rfl) (by simp [resL]; rfl) (by simp) (by simp; rfl) rfl

def lastOK (l : List Nd) (keys : List Nat) (i : Nat) (last : List UInt8) : Prop := keys.length = i ∧ (i = 0 ∨ ∃ j q b, i = j + 1 ∧ keys[j]? = some q ∧ l[q]? = some b ∧ b.text = last)

theorem seen_loop (l : List Nd) (hl : l.length ≤ 900) (hr : ∀ n ∈ l, n.inR) (k at_ : Nat) (n : Nd) (hn : l[at_]? = some n) (hkb : n.kids ≤ 9223372036854775807)
    (ih : ∀ st, at_ < st → ∃ v, cl 47 [nds l, .int .i64 (st : Int)] [] = some (.ret v, []) ∧ seenR (mapAt l st) (valS l k st) v) : ∀ (c i : Nat) (s : Span) (keys : List Nat) (last : List UInt8), i + c = n.kids.toNat → at_ < s.stop → s.stop ≤ l.length → s.kids.length ≤ s.stop → (n.kind = 5 → lastOK l keys i last ∧ keys.length ≤ s.stop) → keys = keysN (decide (n.kind = 5)) s.kids →
    match kidsS (valS l k) l (decide (n.kind = 5)) c i s last with
    | some sp => ∃ keys' i', lp 47 (lc Try.f47 0) (seenσ l at_ s.stop s.deep false s.kids keys i) = some (.exit 0, seenE l at_ sp.stop sp.deep false sp.kids keys' i') ∧ keys' = keysN (decide (n.kind = 5)) sp.kids
    | none => (∃ b, lp 47 (lc Try.f47 0) (seenσ l at_ s.stop s.deep false s.kids keys i) = some (.ret, ⟨[(4, .ptr 1004 0 0)], [(1004, .box 64 (.agg [.int .i64 0, .int .i64 0, .bool true, .nils, .nils])), (1005, .box 64 b)]⟩)) ∨
        ∃ a d ks qs i', lp 47 (lc Try.f47 0) (seenσ l at_ s.stop s.deep false s.kids keys i) = some (.exit 0, seenE l at_ a d true ks qs i') := by
  have call : ∀ st : Nat, at_ < st → ∃ v, (∀ d (w : ASt), callV G cl d (.fn (.func 47) [] []) [nds l, .int .i64 (st : Int)] w = some (.val v w)) ∧ seenR (mapAt l st) (valS l k st) v := by
    intro st hst
    obtain ⟨v, h1, h2⟩ := ih st hst
    refine ⟨v, fun d w => callV_ret E47 (by decide) ext47 rfl rfl h1 ?_, h2⟩
    unfold seenR at h2
    split at h2
    · obtain ⟨_, rfl, _⟩ := h2; simp [seenV]
    · obtain ⟨_, _, _, _, rfl⟩ := h2; simp [seenV]
  intro c
  induction c with
  | zero =>
    intro i s keys last hi h1 h2 h3 h4 h5
    exact ⟨keys, i, loop_out (seen_exit l at_ n hn s.stop s.deep false s.kids keys i (.inl (by omega))) (by simp), h5⟩
  | succ c ihc =>
    intro i s keys last hi h1 h2 h3 h4 h5
    have hi' : (i : Int) < n.kids := by omega
    have hL : s.kids.length ≤ 1000 := by omega
    simp only [kidsS]
    by_cases hk : n.kind = 5
    · obtain ⟨⟨hlo1, hlo⟩, hkl⟩ := h4 hk
      simp only [hk, decide_true] at ihc ⊢
      simp only [keyS, if_true]
      cases hm : l[s.stop]? with
      | none =>
        simp only [Option.bind_none]
        exact .inl ⟨_, loop_out (seen_map_bad l at_ n hn hk s.stop s.deep s.kids keys i hi' hkb (.inl hm)) (by simp)⟩
      | some m =>
        simp only []
        have hmr : fitsS m = plainS m := fits_plain (hr m (List.mem_of_getElem? hm))
        by_cases hc : m.kind = 3 ∧ fitsS m = true ∧ (i = 0 ∨ ltB last m.text = true)
        · obtain ⟨c1, c2, c3⟩ := hc
          rw [if_pos ⟨c1, c2, c3⟩]
          simp only [Option.bind_some]
          have hml : i = 0 ∨ ∃ j q b, i = j + 1 ∧ keys[j]? = some q ∧ l[q]? = some b ∧ ltB b.text m.text = true := by
            rcases hlo with hz | ⟨j, q, b, q1, q2, q3, q4⟩
            · exact .inl hz
            · exact .inr ⟨j, q, b, q1, q2, q3, by rw [q4]; exact c3.resolve_left (by omega)⟩
          obtain ⟨v, hcall, hv⟩ := call (s.stop + 1) (by omega)
          cases hvs : valS l k (s.stop + 1) with
          | none =>
            rw [hvs] at hv
            obtain ⟨a, d, ks, qs, rfl⟩ := hv
            have h := seen_map l at_ n hn hk s.stop s.deep s.kids keys i hi' hkb hL (by omega) (by omega) m hm c1 (by rw [← hmr]; exact c2) hml a d true ks qs hcall
            simp only [Option.bind_none]
            exact .inr ⟨_, _, _, _, _, loop_next h (loop_out (seen_exit l at_ n hn _ _ true _ _ (i + 1) (.inr rfl)) (by simp))⟩
          | some kid =>
            rw [hvs] at hv
            obtain ⟨ks', rfl, _⟩ := hv
            have h := seen_map l at_ n hn hk s.stop s.deep s.kids keys i hi' hkb hL (by omega) (by omega) m hm c1 (by rw [← hmr]; exact c2) hml kid.stop kid.deep false kid.kids ks' hcall
            rw [← max_cast] at h
            obtain ⟨g1, g2, g3⟩ := valS_spec hvs
            have := ihc (i + 1) ⟨kid.stop, max s.deep kid.deep, s.kids ++ [s.stop + 1]⟩ (keys ++ [s.stop]) m.text (by omega) (by simp only; omega) g2 (by simp; omega) (fun _ => ⟨⟨by simp [hlo1], .inr ⟨i, s.stop, m, rfl, by rw [List.getElem?_append_right (by omega)]; simp [hlo1], hm, rfl⟩⟩, by simp; omega⟩) (by rw [h5]; simp [keysN, hk])
            simp only [Option.bind_some]
            split at this
            · obtain ⟨keys', i', hr, hkk⟩ := this
              exact ⟨keys', i', loop_next h hr, hkk⟩
            · rcases this with ⟨b, hr⟩ | ⟨a, d, ks, qs, i', hr⟩
              · exact .inl ⟨b, loop_next h hr⟩
              · exact .inr ⟨a, d, ks, qs, i', loop_next h hr⟩
        · rw [if_neg hc]
          simp only [Option.bind_none]
          have hbad : m.kind ≠ 3 ∨ (m.kind = 3 ∧ plainS m = false) ∨ (m.kind = 3 ∧ plainS m = true ∧ ∃ j q b, i = j + 1 ∧ keys[j]? = some q ∧ l[q]? = some b ∧ ltB b.text m.text = false) := by
            rw [hmr] at hc
            by_cases q1 : m.kind = 3
            · cases q2 : plainS m with
              | false => exact .inr (.inl ⟨q1, rfl⟩)
              | true =>
                refine .inr (.inr ⟨q1, rfl, ?_⟩)
                rcases hlo with hz | ⟨j, q, b, p1, p2, p3, p4⟩
                · exact absurd ⟨q1, q2, .inl hz⟩ hc
                · refine ⟨j, q, b, p1, p2, p3, ?_⟩
                  cases q4 : ltB b.text m.text with
                  | true => rw [p4] at q4; exact absurd ⟨q1, q2, .inr q4⟩ hc
                  | false => rfl
            · exact .inl q1
          exact .inl ⟨_, loop_out (seen_map_bad l at_ n hn hk s.stop s.deep s.kids keys i hi' hkb (.inr ⟨m, hm, hbad⟩)) (by simp)⟩
    · simp only [hk, decide_false] at ihc ⊢
      simp only [keyS, Bool.false_eq_true, if_false, Option.bind_some]
      obtain ⟨v, hcall, hv⟩ := call s.stop h1
      cases hvs : valS l k s.stop with
      | none =>
        rw [hvs] at hv
        obtain ⟨a, d, ks, qs, rfl⟩ := hv
        have h := seen_plain l at_ n hn hk s.stop s.deep s.kids keys i hi' hkb hL a d true ks qs s.stop rfl hcall
        simp only [Option.bind_none]
        exact .inr ⟨_, _, _, _, _, loop_next h (loop_out (seen_exit l at_ n hn _ _ true _ _ (i + 1) (.inr rfl)) (by simp))⟩
      | some kid =>
        rw [hvs] at hv
        obtain ⟨ks', rfl, _⟩ := hv
        have h := seen_plain l at_ n hn hk s.stop s.deep s.kids keys i hi' hkb hL kid.stop kid.deep false kid.kids ks' s.stop rfl hcall
        rw [← max_cast] at h
        obtain ⟨g1, g2, g3⟩ := valS_spec hvs
        have := ihc (i + 1) ⟨kid.stop, max s.deep kid.deep, s.kids ++ [s.stop]⟩ keys last (by omega) (by simp only; omega) g2 (by simp; omega) (fun e => e.elim) (by rw [h5]; simp [keysN, hk])
        simp only [Option.bind_some]
        split at this
        · obtain ⟨keys', i', hr, hkk⟩ := this
          exact ⟨keys', i', loop_next h hr, hkk⟩
        · rcases this with ⟨b, hr⟩ | ⟨a, d, ks, qs, i', hr⟩
          · exact .inl ⟨b, loop_next h hr⟩
          · exact .inr ⟨a, d, ks, qs, i', loop_next h hr⟩

-- What a loop's head is unfolded by, where there is memory.
attribute [local simp] canonK canonAll canonSlot canonCell canonBox ownStep restrictTo pureCells pureRows reachL AObj.names List.range_succ appendA nds Nd.v seenσ seenV bsvV

set_option maxHeartbeats 8000000 in
theorem seen_eq (l : List Nd) (hl : l.length ≤ 900) (hr : ∀ n ∈ l, n.inR) : ∀ (k at_ : Nat), l.length < at_ + k → ∃ v, cl 47 [nds l, .int .i64 (at_ : Int)] [] = some (.ret v, []) ∧ seenR (mapAt l at_) (valS l k at_) v := by
  intro k
  induction k with
  | zero =>
    intro at_ h
    exact ⟨_, seen_bad l at_ none (.inr ⟨by omega, by simpa using by omega⟩) (.inr (.inl rfl)), 0, 0, [], [], rfl⟩
  | succ k ih =>
    intro at_ h
    simp only [valS]
    cases hn : l[at_]? with
    | none => exact ⟨_, seen_bad l at_ none (.inr ⟨by omega, by simpa using hn⟩) (.inr (.inl rfl)), 0, 0, [], [], rfl⟩
    | some n =>
      have hlt := (List.getElem?_eq_some_iff.1 hn).1
      have hnr := hr n (List.mem_of_getElem? hn)
      have hmr : fitsS n = plainS n := fits_plain hnr
      simp only [Option.bind_some]
      cases hf : fitsS n with
      | false => exact ⟨_, seen_bad l at_ (some n) (.inr ⟨by omega, by simpa using hn⟩) (.inr (.inr ⟨n, rfl, by rw [← hmr]; exact hf⟩)), 0, 0, [], [], rfl⟩
      | true =>
        have hpl : plainS n = true := by rw [← hmr]; exact hf
        have h1 : ¬ (l.length : Int) ≤ at_ := by omega
        have h0 : ¬ (at_ : Int) < 0 := by omega
        have hw : IntKind.i64.wrap ((at_ : Int) + 1) = (at_ : Int) + 1 := i64_wrap (by omega) (by omega)
        have hloop := seen_loop l hl hr k at_ n hn hnr.2.2.2 (fun st hst => ih st (by omega)) n.kids.toNat 0 ⟨at_ + 1, 0, []⟩ [] [] (by omega) (by simp) (by simp only; omega) (by simp) (fun _ => ⟨⟨rfl, .inl rfl⟩, by simp⟩) (by simp [keysN])
        have hbd : ∀ r, kidsS (valS l k) l (decide (n.kind = 5)) n.kids.toNat 0 ⟨at_ + 1, 0, []⟩ [] = some r → r.deep ≤ 900 := fun r hr => by
          obtain ⟨_, q1, q2⟩ := kidsS_spec (A := at_ + 1) (fun st s hs => valS_spec hs) hr (by simp only; omega) (by simp) (by simp)
          omega
        cases hks : kidsS (valS l k) l (decide (n.kind = 5)) n.kids.toNat 0 ⟨at_ + 1, 0, []⟩ [] with
        | none =>
          rw [hks] at hloop
          rcases hloop with ⟨b, hx⟩ | ⟨a, d, ks, qs, i', hx⟩
          · refine ⟨seenV 0 0 true [] [], fn_intro Try.func47 rfl (by simp) (by decide) rfl ?_, 0, 0, [], [], rfl⟩
            simp [lc, loopsOf, Try.f47, rowV_nil] at hx
            simp [Try.f47, h1, h0, hn, hpl, plain_call, hw, hx]
            exact end_rv (.inr rfl) (by simp [resL]; rfl) (by simp) (by simp; rfl) rfl
          · refine ⟨seenV a (IntKind.i64.wrap (d + 1)) true ks qs, fn_intro Try.func47 rfl (by simp) (by decide) rfl ?_, _, _, _, _, rfl⟩
            simp [lc, loopsOf, Try.f47, rowV_nil] at hx
            simp [Try.f47, h1, h0, hn, hpl, plain_call, hw, hx, seenE]
            exact end_rv (.inr rfl) (by simp [resL]; rfl) (by simp) (by simp) (by simp)
        | some sp =>
          rw [hks] at hloop
          obtain ⟨keys', i', hx, hkk⟩ := hloop
          have hd := hbd sp hks
          have hw2 : IntKind.i64.wrap ((sp.deep : Int) + 1) = (sp.deep : Int) + 1 := i64_wrap (by omega) (by omega)
          refine ⟨seenV sp.stop ((sp.deep + 1 : Nat) : Int) false sp.kids keys', fn_intro Try.func47 rfl (by simp) (by decide) rfl ?_, keys', rfl, by rw [hkk]; unfold mapAt; rw [hn]⟩
          simp [lc, loopsOf, Try.f47, rowV_nil] at hx
          simp [Try.f47, h1, h0, hn, hpl, plain_call, hw, hx, seenE, hw2]
          exact end_rv (.inr rfl) (by simp [resL]; rfl) (by simp) (by simp) (by simp)
end Go.Proofs.Ytonaejfpiihfhaa

/- What the functions come to: the document's Check and Depth; TreeChecks. -/
namespace Go.Proofs.Ytonaejfpiihfhaa
open Go Abs
set_option linter.unusedSimpArgs false
set_option linter.unusedVariables false

set_option maxHeartbeats 8000000 in
theorem rcheck_loop (l : List Nd) (hb : l.length ≤ 120) : ∃ x s, lp 16 (lc Try.f16 0) { sl := [(0, nds l), (3, .int .i64 0)], hp := [] } = some (x, s) ∧
    ((x = .ret ∧ s = { sl := [(2, .int .i64 4)], hp := [] } ∧ longS l = true) ∨ (x = .exit 0 ∧ (∃ sl, s = { sl := (0, nds l) :: sl, hp := [] }) ∧ longS l = false)) := by
  refine for_loop (f := 16) (c := lc Try.f16 0) (n := l.length) (σ := fun i => { sl := [(0, nds l), (3, .int .i64 (i : Int))], hp := [] }) (P := fun i => (l.take i).any (fun n => decide (120 < n.text.length)) = false)
    (Q := fun x s => (x = .ret ∧ s = { sl := [(2, .int .i64 4)], hp := [] } ∧ longS l = true) ∨ (x = .exit 0 ∧ (∃ sl, s = { sl := (0, nds l) :: sl, hp := [] }) ∧ longS l = false))
    (fun i hi hp => ?_) (fun hp => ?_) 0 (by omega) (by simp)
  · obtain ⟨n, hn⟩ : ∃ n, l[i]? = some n := ⟨l[i], List.getElem?_eq_getElem hi⟩
    have h1 : (i : Int) < l.length := by omega
    have hw : IntKind.i64.wrap ((i : Int) + 1) = (i : Int) + 1 := i64_wrap (by omega) (by omega)
    by_cases ht : 120 < n.text.length
    · right
      have ht' : (120 : Int) < n.text.length := by omega
      exact ⟨.ret, ⟨[(2, .int .i64 4)], []⟩, by simp [lc, loopsOf, Try.f16, nds, h1, hn, Nd.v, hw, ht'], by simp, .inl ⟨rfl, rfl, List.any_eq_true.2 ⟨n, List.mem_of_getElem? hn, by simpa using ht⟩⟩⟩
    · left
      have ht' : ¬ (120 : Int) < n.text.length := by omega
      refine ⟨by simp [lc, loopsOf, Try.f16, nds, h1, hn, Nd.v, hw, ht'], ?_⟩
      rw [List.take_add_one, hn, List.any_append, hp]; simpa using ht
  · rw [List.take_of_length_le (Nat.le_refl _)] at hp
    exact ⟨.exit 0, ⟨[(0, nds l), (3, .int .i64 l.length), (11, .bool false)], []⟩, by simp [lc, loopsOf, Try.f16, nds], by simp, .inr ⟨rfl, ⟨_, rfl⟩, hp⟩⟩

set_option maxHeartbeats 8000000 in
theorem rcheck_eq (l : List Nd) (hb : l.length ≤ 9223372036854775806) (hr : ∀ n ∈ l, n.inR) : cl 16 [nds l] [] = some (.ret (.int .i64 (checkS l)), []) := by
  refine fn_intro Try.func16 rfl (by simp) (by decide) rfl ?_
  by_cases h1 : 120 < l.length
  · have h1' : (120 : Int) < l.length := by omega
    simp [Try.f16, nds, h1']
    exact end_is (.inr rfl) (by simp; rfl) rfl (by simp [checkS, h1])
  have h1' : ¬ (120 : Int) < l.length := by omega
  obtain ⟨x, s, h, hx⟩ := rcheck_loop l (by omega)
  simp [lc, loopsOf, Try.f16, nds] at h
  rcases hx with ⟨rfl, rfl, h2⟩ | ⟨rfl, ⟨sl, rfl⟩, h2⟩
  · simp [Try.f16, nds, h1', h]
    exact end_is (.inr rfl) (by simp; rfl) rfl (by simp [checkS, h2])
  obtain ⟨v, hv, hs⟩ := seen_eq l (by omega) hr (l.length + 1) 0 (by omega)
  cases h5 : valS l (l.length + 1) 0 with
  | none =>
    rw [h5] at hs
    obtain ⟨a, d, ks, qs, rfl⟩ := hs
    have hcall : ∀ d' w, callV G cl d' (.fn (.func 47) [] []) [.list 4 (l.map Nd.v), .int .i64 0] w = some (.val (seenV a d true ks qs) w) := fun d' w => callV_ret E47 (by decide) ext47 rfl rfl hv (by simp [seenV])
    have h3 : wholeS l = none := by unfold wholeS; rw [h5]; rfl
    simp [Try.f16, nds, h1', h, hcall, seenV]
    exact end_is (.inr rfl) (by simp; rfl) rfl (by simp [checkS, h1, h2, h3])
  | some sp =>
    rw [h5] at hs
    obtain ⟨keys, rfl, hkeys⟩ := hs
    have hcall : ∀ d' w, callV G cl d' (.fn (.func 47) [] []) [.list 4 (l.map Nd.v), .int .i64 0] w = some (.val (seenV sp.stop sp.deep false sp.kids keys) w) := fun d' w => callV_ret E47 (by decide) ext47 rfl rfl hv (by simp [seenV])
    by_cases he : sp.stop = l.length
    · have h3 : wholeS l = some sp := by unfold wholeS; rw [h5]; simp [he]
      by_cases h4 : 32 < sp.deep
      · have h4' : (32 : Int) < sp.deep := by omega
        simp [Try.f16, nds, h1', h, hcall, seenV, he, h4']
        exact end_is (.inr rfl) (by simp; rfl) rfl (by simp [checkS, h1, h2, h3, h4])
      · have h4' : ¬ (32 : Int) < sp.deep := by omega
        simp [Try.f16, nds, h1', h, hcall, seenV, he, h4']
        exact end_is (.inr rfl) (by simp; rfl) rfl (by simp [checkS, h1, h2, h3, h4])
    · have h3 : wholeS l = none := by unfold wholeS; rw [h5]; simp [he]
      have he' : ¬ (sp.stop : Int) = l.length := by omega
      simp [Try.f16, nds, h1', h, hcall, seenV, he']
      exact end_is (.inr rfl) (by simp; rfl) rfl (by simp [checkS, h1, h2, h3])
theorem rcheck_call {l : List Nd} (hb : l.length ≤ 9223372036854775806) (hr : ∀ n ∈ l, n.inR) {d : Option Nat} {st : ASt} : callV G cl d (.fn (.func 16) [] []) [nds l] st = some (.val (.int .i64 (checkS l)) st) :=
  callV_ret E16 (by decide) ext16 rfl rfl (rcheck_eq l hb hr) rfl
set_option maxHeartbeats 8000000 in
theorem rdepth_eq (l : List Nd) (hb : l.length ≤ 9223372036854775806) (hr : ∀ n ∈ l, n.inR) : cl 17 [nds l] [] = some (.ret (.int .i64 (depthS l)), []) := by
  have hc := fun d st => rcheck_call (l := l) hb hr (d := d) (st := st)
  simp only [nds] at hc
  refine fn_intro Try.func17 rfl (by simp) (by decide) rfl ?_
  by_cases h : checkS l = 0
  · obtain ⟨h1, h2, s, h3, h4⟩ := checkS_ok h
    obtain ⟨h5, h6⟩ := wholeS_some h3
    obtain ⟨v, hv, hs⟩ := seen_eq l (by omega) hr (l.length + 1) 0 (by omega)
    rw [h5] at hs
    obtain ⟨keys, rfl, hkeys⟩ := hs
    have hcall : ∀ d' w, callV G cl d' (.fn (.func 47) [] []) [.list 4 (l.map Nd.v), .int .i64 0] w = some (.val (seenV s.stop s.deep false s.kids keys) w) := fun d' w => callV_ret E47 (by decide) ext47 rfl rfl hv (by simp [seenV])
    simp [Try.f17, nds, hc, h, hcall, seenV]
    exact end_is (.inr rfl) (by simp; rfl) rfl (by simp [depthS, h, h3])
  · simp [Try.f17, nds, hc, h]
    exact end_is (.inr rfl) (by simp; rfl) rfl (by simp [depthS, h])
end Go.Proofs.Ytonaejfpiihfhaa

/- What TreeChecks comes to. -/
namespace Go.Proofs.Ytonaejfpiihfhaa
open Go Abs
set_option linter.unusedSimpArgs false
set_option linter.unusedVariables false

theorem works_call {d : Option Nat} {st : ASt} : callV G cl d (.fn (.func 14) [] []) [] st = some (.val (.bool true) st) :=
  callV_ret E14 (by decide) ext14 rfl rfl (call_prim (p := worksP) (by decide) (by rfl) rfl) rfl
theorem few_call {l : List Nd} {d : Option Nat} {st : ASt} : callV G cl d (.fn (.func 15) [] []) [nds l] st = some (.val (.bool (fewS l)) st) :=
  callV_ret E15 (by decide) ext15 rfl rfl (few_eq l) rfl
theorem fewS_len {l : List Nd} (h : fewS l = true) : l.length ≤ 130 := by
  unfold fewS at h
  simp only [Bool.and_eq_true, decide_eq_true_eq] at h
  exact h.1

set_option maxHeartbeats 8000000 in
theorem treeChecks_eq (a b : List Nd) (ha : ∀ n ∈ a, n.inR) (hb : ∀ n ∈ b, n.inR) : cl 3 [nds a, nds b] [] = some (.ret (.bool true), []) := by
  refine fn_intro Try.func3 rfl (by simp) (by decide) rfl ?_
  cases h1 : fewS a with
  | false =>
    simp [Try.f3, works_call, few_call, h1]
    exact end_is (.inr rfl) (by simp; rfl) rfl rfl
  | true =>
    cases h2 : fewS b with
    | false =>
      simp [Try.f3, works_call, few_call, h1, h2]
      exact end_is (.inr rfl) (by simp; rfl) rfl rfl
    | true =>
      have l1 := fewS_len h1
      have l2 := fewS_len h2
      have c16 : ∀ d st, callV G cl d (.fn (.func 16) [] []) [nds a] st = some (.val (.int .i64 (checkS a)) st) := fun d st => rcheck_call (by omega) ha
      have c17 : ∀ d st, callV G cl d (.fn (.func 17) [] []) [nds a] st = some (.val (.int .i64 (depthS a)) st) := fun d st => callV_ret E17 (by decide) ext17 rfl rfl (rdepth_eq a (by omega) ha) rfl
      have c18 : ∀ d st, callV G cl d (.fn (.func 18) [] []) [nds a, nds b] st = some (.val (.bool (decide (a = b))) st) := fun d st => callV_ret E18 (by decide) ext18 rfl rfl (same18_eq a b (by omega)) rfl
      have c19 : ∀ d st, callV G cl d (.fn (.func 19) [] []) [nds a] st = some (.val (.int .i64 (checkS a)) st) := fun d st => check_call (by omega) ha
      have c20 : ∀ d st, callV G cl d (.fn (.func 20) [] []) [nds a] st = some (.val (.int .i64 (depthS a)) st) := fun d st => callV_ret E20 (by decide) ext20 rfl rfl (depth_eq a (by omega) ha) rfl
      have c21 : ∀ d st, callV G cl d (.fn (.func 21) [] []) [nds a, nds b] st = some (.val (.bool (decide (a = b))) st) := fun d st => callV_ret E21 (by decide) ext21 rfl rfl (tsame_eq a b (by omega)) rfl
      simp [Try.f3, works_call, few_call, h1, h2, c16, c17, c18, c19, c20, c21]
      exact end_is (.inr rfl) (by simp; rfl) rfl rfl
end Go.Proofs.Ytonaejfpiihfhaa
