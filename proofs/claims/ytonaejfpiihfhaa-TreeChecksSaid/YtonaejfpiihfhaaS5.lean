/- What the functions come to: a value, gone through. -/
import Derived.Test.YtonaejfpiihfhaaS4
namespace Go.Proofs.Ytonaejfpiihfhaa
open Go Abs
set_option linter.unusedSimpArgs false
set_option linter.unusedVariables false

structure Span where
  stop : Nat
  deep : Nat
  kids : List Nat
def intsL (l : List Nat) : List AV := l.map fun (k : Nat) => AV.int .i64 (k : Int)
def spanV (s : Span) : AV := .agg [.int .i64 s.stop, .int .i64 s.deep, .list 1 (intsL s.kids)]
def oddV : AV := .iface 114 (.agg [])
def valσ (l : List Nd) (at_ : Nat) (s : Span) (last : List UInt8) (i : Nat) (mv : Bool) : ASt :=
  ⟨[(0, nds l), (1, .int .i64 at_), (4, .ptr 1004 0 0), (5, .ptr 1005 0 0), (6, .str last), (7, .int .i64 i)],
   [(1004, .box (.agg [.int .i64 0, .int .i64 0, .nils])), (1005, .box (.agg [.int .i64 s.stop, .int .i64 s.deep, .own 200502])), (200502, .row 1 (intsL s.kids) false mv)]⟩

-- What a loop's head is unfolded by, where there is memory.
attribute [local simp] canonK canonAll canonSlot canonCell canonBox ownStep restrictTo pureCells pureRows reachL AObj.names List.range_succ appendA spanV intsL valσ nds Nd.v

theorem max_cast (a b : Nat) : ((max a b : Nat) : Int) = max (a : Int) b := by omega

set_option maxHeartbeats 8000000 in
theorem value_plain (l : List Nd) (at_ : Nat) (n : Nd) (hn : l[at_]? = some n) (hk : n.kind ≠ 5) (s : Span) (last : List UInt8) (i : Nat) (mv : Bool) (hi : (i : Int) < n.kids) (hkb : n.kids ≤ 9223372036854775807) (hc : s.kids.length ≤ 1000)
    (kid : Span) (hcall : ∀ d st, callV G cl d (.fn (.func 51) [] []) [nds l, .int .i64 s.stop] st = some (.val (spanV kid) st)) :
    rX 51 (lc Try.f51 0) (codeX G cl lp 51 (lc Try.f51 0) (valσ l at_ s last i mv)) = some (.normal, valσ l at_ ⟨kid.stop, max s.deep kid.deep, s.kids ++ [s.stop]⟩ last (i + 1) true) := by
  have h1 : (at_ : Int) < l.length := by have := (List.getElem?_eq_some_iff.1 hn).1; omega
  have hL : s.kids.length + 1 ≤ LIM := by unfold LIM; omega
  have hw : IntKind.i64.wrap ((i : Int) + 1) = (i : Int) + 1 := i64_wrap (by omega) (by have := hi; omega)
  simp [lc, loopsOf, Try.f51]
  simp at hcall
  simp [h1, hn, hi, hk, hcall, hL, hw, max_cast]
set_option maxHeartbeats 8000000 in
theorem value_plain_pan (l : List Nd) (at_ : Nat) (n : Nd) (hn : l[at_]? = some n) (hk : n.kind ≠ 5) (s : Span) (last : List UInt8) (i : Nat) (mv : Bool) (hi : (i : Int) < n.kids) (hc : s.kids.length ≤ 1000)
    (hcall : ∀ d st, callV G cl d (.fn (.func 51) [] []) [nds l, .int .i64 s.stop] st = some (.pan oddV st)) :
    ∃ s', rX 51 (lc Try.f51 0) (codeX G cl lp 51 (lc Try.f51 0) (valσ l at_ s last i mv)) = some (.pan oddV, s') := by
  have h1 : (at_ : Int) < l.length := by have := (List.getElem?_eq_some_iff.1 hn).1; omega
  have hL : s.kids.length + 1 ≤ LIM := by unfold LIM; omega
  simp [lc, loopsOf, Try.f51]
  simp at hcall
  simp [h1, hn, hi, hk, hcall, hL]
set_option maxHeartbeats 8000000 in
theorem value_map (l : List Nd) (at_ : Nat) (n : Nd) (hn : l[at_]? = some n) (hk : n.kind = 5) (s : Span) (last : List UInt8) (i : Nat) (mv : Bool) (hi : (i : Int) < n.kids) (hkb : n.kids ≤ 9223372036854775807) (hc : s.kids.length ≤ 1000)
    (m : Nd) (hm : l[s.stop]? = some m) (hmk : m.kind = 3) (hmf : fitsS m = true) (hml : i = 0 ∨ ltB last m.text = true) (hsb : s.stop ≤ 1000)
    (kid : Span) (hcall : ∀ d st, callV G cl d (.fn (.func 51) [] []) [nds l, .int .i64 ((s.stop + 1 : Nat) : Int)] st = some (.val (spanV kid) st)) :
    rX 51 (lc Try.f51 0) (codeX G cl lp 51 (lc Try.f51 0) (valσ l at_ s last i mv)) = some (.normal, valσ l at_ ⟨kid.stop, max s.deep kid.deep, s.kids ++ [s.stop + 1]⟩ m.text (i + 1) true) := by
  have h1 : (at_ : Int) < l.length := by have := (List.getElem?_eq_some_iff.1 hn).1; omega
  have h2 : (s.stop : Int) < l.length := by have := (List.getElem?_eq_some_iff.1 hm).1; omega
  have hL : s.kids.length + 1 ≤ LIM := by unfold LIM; omega
  have hw : IntKind.i64.wrap ((i : Int) + 1) = (i : Int) + 1 := i64_wrap (by omega) (by have := hi; omega)
  have hw2 : IntKind.i64.wrap ((s.stop : Int) + 1) = (s.stop : Int) + 1 := i64_wrap (by omega) (by omega)
  have hmf' : fitsS ⟨3, m.num, m.text, m.kids⟩ = true := by rw [← hmk]; exact hmf
  simp [lc, loopsOf, Try.f51]
  simp at hcall
  rcases hml with hml | hml
  · subst hml
    simp only [Int.natCast_zero, Int.zero_add] at hi hw
    simp [h1, h2, hn, hm, hmk, hmf', hi, hk, hcall, hL, hw, hw2, max_cast, need_call_t, fits_call]
  · simp [h1, h2, hn, hm, hmk, hmf', hml, hi, hk, hcall, hL, hw, hw2, max_cast, need_call_t, fits_call]
set_option maxHeartbeats 8000000 in
theorem value_map_pan (l : List Nd) (at_ : Nat) (n : Nd) (hn : l[at_]? = some n) (hk : n.kind = 5) (s : Span) (last : List UInt8) (i : Nat) (mv : Bool) (hi : (i : Int) < n.kids) (hc : s.kids.length ≤ 1000)
    (m : Nd) (hm : l[s.stop]? = some m) (hmk : m.kind = 3) (hmf : fitsS m = true) (hml : i = 0 ∨ ltB last m.text = true) (hsb : s.stop ≤ 1000)
    (hcall : ∀ d st, callV G cl d (.fn (.func 51) [] []) [nds l, .int .i64 ((s.stop + 1 : Nat) : Int)] st = some (.pan oddV st)) :
    ∃ s', rX 51 (lc Try.f51 0) (codeX G cl lp 51 (lc Try.f51 0) (valσ l at_ s last i mv)) = some (.pan oddV, s') := by
  have h1 : (at_ : Int) < l.length := by have := (List.getElem?_eq_some_iff.1 hn).1; omega
  have h2 : (s.stop : Int) < l.length := by have := (List.getElem?_eq_some_iff.1 hm).1; omega
  have hL : s.kids.length + 1 ≤ LIM := by unfold LIM; omega
  have hw2 : IntKind.i64.wrap ((s.stop : Int) + 1) = (s.stop : Int) + 1 := i64_wrap (by omega) (by omega)
  have hmf' : fitsS ⟨3, m.num, m.text, m.kids⟩ = true := by rw [← hmk]; exact hmf
  simp [lc, loopsOf, Try.f51]
  simp at hcall
  rcases hml with hml | hml
  · subst hml
    simp only [Int.natCast_zero] at hi
    simp [h1, h2, hn, hm, hmk, hmf', hi, hk, hcall, hL, hw2, need_call_t, fits_call]
  · simp [h1, h2, hn, hm, hmk, hmf', hml, hi, hk, hcall, hL, hw2, need_call_t, fits_call]
set_option maxHeartbeats 8000000 in
theorem value_map_end (l : List Nd) (at_ : Nat) (n : Nd) (hn : l[at_]? = some n) (hk : n.kind = 5) (s : Span) (last : List UInt8) (i : Nat) (mv : Bool) (hi : (i : Int) < n.kids) (hm : l[s.stop]? = none) :
    ∃ s', rX 51 (lc Try.f51 0) (codeX G cl lp 51 (lc Try.f51 0) (valσ l at_ s last i mv)) = some (.pan oddV, s') := by
  have h1 : (at_ : Int) < l.length := by have := (List.getElem?_eq_some_iff.1 hn).1; omega
  have h2 : ¬ (s.stop : Int) < l.length := by have := List.getElem?_eq_none_iff.1 hm; omega
  simp [lc, loopsOf, Try.f51]
  simp [h1, h2, hn, hi, hk, need_call_f, oddV]
set_option maxHeartbeats 8000000 in
theorem value_map_bad (l : List Nd) (at_ : Nat) (n : Nd) (hn : l[at_]? = some n) (hk : n.kind = 5) (s : Span) (last : List UInt8) (i : Nat) (mv : Bool) (hi : (i : Int) < n.kids)
    (m : Nd) (hm : l[s.stop]? = some m) (hbad : m.kind ≠ 3 ∨ (m.kind = 3 ∧ fitsS m = false) ∨ (m.kind = 3 ∧ fitsS m = true ∧ i ≠ 0 ∧ ltB last m.text = false)) :
    ∃ s', rX 51 (lc Try.f51 0) (codeX G cl lp 51 (lc Try.f51 0) (valσ l at_ s last i mv)) = some (.pan oddV, s') := by
  have h1 : (at_ : Int) < l.length := by have := (List.getElem?_eq_some_iff.1 hn).1; omega
  have h2 : (s.stop : Int) < l.length := by have := (List.getElem?_eq_some_iff.1 hm).1; omega
  simp [lc, loopsOf, Try.f51]
  rcases hbad with q | ⟨q1, q⟩ | ⟨q1, q2, q3, q4⟩
  · simp [h1, h2, hn, hm, q, hi, hk, need_call_t, need_call_f, fits_call, oddV]
  · have hmf' : fitsS ⟨3, m.num, m.text, m.kids⟩ = false := by rw [← q1]; exact q
    simp [h1, h2, hn, hm, q1, hmf', hi, hk, need_call_t, need_call_f, fits_call, oddV]
  · have hmf' : fitsS ⟨3, m.num, m.text, m.kids⟩ = true := by rw [← q1]; exact q2
    simp [h1, h2, hn, hm, q1, hmf', q3, q4, hi, hk, need_call_t, need_call_f, fits_call, oddV]
def valE (l : List Nd) (at_ : Nat) (s : Span) (last : List UInt8) (i : Nat) (mv : Bool) : ASt :=
  ⟨[(0, nds l), (1, .int .i64 at_), (4, .ptr 1004 0 0), (5, .ptr 1005 0 0), (6, .str last), (7, .int .i64 i), (31, .bool false)], (valσ l at_ s last i mv).hp⟩
theorem value_exit (l : List Nd) (at_ : Nat) (n : Nd) (hn : l[at_]? = some n) (s : Span) (last : List UInt8) (i : Nat) (mv : Bool) (hi : ¬ (i : Int) < n.kids) :
    rX 51 (lc Try.f51 0) (codeX G cl lp 51 (lc Try.f51 0) (valσ l at_ s last i mv)) = some (.exit 0, valE l at_ s last i mv) := by
  have h1 : (at_ : Int) < l.length := by have := (List.getElem?_eq_some_iff.1 hn).1; omega
  simp [lc, loopsOf, Try.f51]
  simp [h1, hn, hi, valE]
end Go.Proofs.Ytonaejfpiihfhaa
