/- What the functions come to: the document's value, gone through. -/
import Derived.Test.YtonaejfpiihfhaaS8
namespace Go.Proofs.Ytonaejfpiihfhaa
open Go Abs
set_option linter.unusedSimpArgs false
set_option linter.unusedVariables false

/-- Numbers, in a row that may be nil. -/
def rowV (l : List Nat) : AV := if l = [] then .nils else .list 1 (intsL l)
@[simp high] theorem rowV_rv {hp l} : (rowV l).rv hp = rowV l := by unfold rowV; split <;> rfl
@[simp high] theorem rowV_names {l} : (rowV l).names = [] := by unfold rowV; split <;> rfl
@[simp high] theorem rowV_rows {l} : (rowV l).rows = [] := by unfold rowV; split <;> rfl
@[simp high] theorem rowV_ren {m l} : (rowV l).ren m = rowV l := by unfold rowV; split <;> rfl
@[simp high] theorem rowV_kill {n l} : (rowV l).kill n = rowV l := by unfold rowV; split <;> rfl
@[simp high] theorem rowV_cells {l} : (rowV l).cells = [rowV l] := by unfold rowV; split <;> rfl
@[simp high] theorem rowV_ok {l} : okCell (rowV l) = true := by unfold rowV; split <;> rfl
@[simp high] theorem rowV_known {l} : (rowV l).known = true := by unfold rowV; split <;> rfl
@[simp high] theorem rowV_beq {l} : AV.beq (rowV l) (rowV l) = true := by
  refine beq_self ?_
  unfold rowV
  split
  · rfl
  · exact plainBL_map (fun a => rfl) l
theorem rowV_nil : rowV [] = .nils := rfl
@[simp high] theorem rowV_src {hp l} : srcEls hp 1 (rowV l) = some (intsL l) := by
  unfold rowV
  split
  · rename_i h; subst h; rfl
  · simp
theorem rowV_app {l x} : rowV (l ++ [x]) = .list 1 (intsL (l ++ [x])) := by unfold rowV; rw [if_neg (by simp)]
theorem rowV_index {hp : Heap} {l : List Nat} {j k : Nat} (h : l[j]? = some k) : indexD Try.prog hp (some (.slice 3)) (rowV l) (j : Int) = some (.ep (.int .i64 (k : Int)) 0) := by
  have : l ≠ [] := by intro e; subst e; simp at h
  unfold rowV
  rw [if_neg this]
  simp [intsL, h]
@[simp] theorem plainBL_ints {l : List Nat} : AV.plainBL (intsL l) = true := plainBL_map (fun a => rfl) l

def seenV (stop deep : Int) (bad : Bool) (kids keys : List Nat) : AV := .agg [.int .i64 stop, .int .i64 deep, .bool bad, rowV kids, rowV keys]
def seenσ (l : List Nd) (at_ : Nat) (stop deep : Int) (bad : Bool) (kids keys : List Nat) (i : Nat) : ASt :=
  ⟨[(0, nds l), (1, .int .i64 at_), (4, .ptr 1004 0 0), (5, .ptr 1005 0 0), (6, .int .i64 i)],
   [(1004, .box (.agg [.int .i64 0, .int .i64 0, .bool false, .nils, .nils])), (1005, .box (seenV stop deep bad kids keys))]⟩

@[simp] theorem nds_beq {l : List Nd} : AV.beqL (l.map Nd.v) (l.map Nd.v) = true := beqL_self (plainBL_map (fun _ => rfl) l)
-- What a loop's head is unfolded by, where there is memory.
attribute [local simp] canonK canonAll canonSlot canonCell canonBox ownStep restrictTo pureCells pureRows reachL AObj.names List.range_succ appendA nds Nd.v seenσ seenV bsvV

set_option maxHeartbeats 8000000 in
theorem seen_plain (l : List Nd) (at_ : Nat) (n : Nd) (hn : l[at_]? = some n) (hk : n.kind ≠ 5) (stop deep : Int) (kids keys : List Nat) (i : Nat) (hi : (i : Int) < n.kids) (hkb : n.kids ≤ 9223372036854775807) (hc : kids.length ≤ 1000)
    (e d : Int) (b : Bool) (ks qs : List Nat) (st : Nat) (hst : stop = st) (hcall : ∀ d' w, callV G cl d' (.fn (.func 47) [] []) [nds l, .int .i64 stop] w = some (.val (seenV e d b ks qs) w)) :
    rX 47 (lc Try.f47 0) (codeX G cl lp 47 (lc Try.f47 0) (seenσ l at_ stop deep false kids keys i)) = some (.normal, seenσ l at_ e (max deep d) b (kids ++ [st]) keys (i + 1)) := by
  have h1 : (at_ : Int) < l.length := by have := (List.getElem?_eq_some_iff.1 hn).1; omega
  have hL : kids.length + 1 ≤ LIM := by unfold LIM; omega
  have hL' : kids.length ≤ LIM := by unfold LIM; omega
  have hw : IntKind.i64.wrap ((i : Int) + 1) = (i : Int) + 1 := i64_wrap (by omega) (by have := hi; omega)
  simp [lc, loopsOf, Try.f47]
  simp at hcall
  subst hst
  simp [h1, hn, hi, hk, hcall, hL, hL', hw, rowV_app, intsL]
set_option maxHeartbeats 8000000 in
theorem seen_map (l : List Nd) (at_ : Nat) (n : Nd) (hn : l[at_]? = some n) (hk : n.kind = 5) (st : Nat) (deep : Int) (kids keys : List Nat) (i : Nat) (hi : (i : Int) < n.kids) (hkb : n.kids ≤ 9223372036854775807) (hc : kids.length ≤ 1000) (hq : keys.length ≤ 1000) (hsb : st ≤ 1000)
    (m : Nd) (hm : l[st]? = some m) (hmk : m.kind = 3) (hmf : plainS m = true) (hml : i = 0 ∨ ∃ j q b, i = j + 1 ∧ keys[j]? = some q ∧ l[q]? = some b ∧ ltB b.text m.text = true)
    (e d : Int) (b : Bool) (ks qs : List Nat) (hcall : ∀ d' w, callV G cl d' (.fn (.func 47) [] []) [nds l, .int .i64 ((st + 1 : Nat) : Int)] w = some (.val (seenV e d b ks qs) w)) :
    rX 47 (lc Try.f47 0) (codeX G cl lp 47 (lc Try.f47 0) (seenσ l at_ st deep false kids keys i)) = some (.normal, seenσ l at_ e (max deep d) b (kids ++ [st + 1]) (keys ++ [st]) (i + 1)) := by
  have h1 : (at_ : Int) < l.length := by have := (List.getElem?_eq_some_iff.1 hn).1; omega
  have h2 : (st : Int) < l.length := by have := (List.getElem?_eq_some_iff.1 hm).1; omega
  have h2' : ¬ (l.length : Int) ≤ st := by omega
  have hL : kids.length + 1 ≤ LIM := by unfold LIM; omega
  have hL' : kids.length ≤ LIM := by unfold LIM; omega
  have hL2 : keys.length + 1 ≤ LIM := by unfold LIM; omega
  have hL2' : keys.length ≤ LIM := by unfold LIM; omega
  have hw : IntKind.i64.wrap ((i : Int) + 1) = (i : Int) + 1 := i64_wrap (by omega) (by have := hi; omega)
  have hw2 : IntKind.i64.wrap ((st : Int) + 1) = (st : Int) + 1 := i64_wrap (by omega) (by omega)
  have hmf' : plainS ⟨3, m.num, m.text, m.kids⟩ = true := by rw [← hmk]; exact hmf
  simp [lc, loopsOf, Try.f47]
  simp at hcall
  rcases hml with hml | ⟨j, q, nb, hij, hkj, hlq, hlt⟩
  · subst hml
    simp only [Int.natCast_zero, Int.zero_add] at hi hw
    simp [h1, h2, h2', hn, hm, hmk, hmf', hi, hk, hcall, hL, hL', hL2, hL2', hw, hw2, rowV_app, intsL, plain_call]
  · subst hij
    have hij0 : (0 : Int) < ((j + 1 : Nat) : Int) := by omega
    have hw3 : IntKind.i64.wrap (((j + 1 : Nat) : Int) - 1) = (j : Int) := by rw [i64_wrap (by omega) (by omega)]; omega
    have hx : ∀ hp, indexD Try.prog hp (some (.slice 3)) (rowV keys) (j : Int) = some (.ep (.int .i64 (q : Int)) 0) := fun hp => rowV_index hkj
    generalize ((j + 1 : Nat) : Int) = I at *
    simp [h1, h2, h2', hn, hm, hmk, hmf', hi, hk, hcall, hL, hL', hL2, hL2', hw, hw2, hw3, hij0, hx, hlq, hlt, rowV_app, intsL, plain_call]
set_option maxHeartbeats 8000000 in
theorem seen_map_bad (l : List Nd) (at_ : Nat) (n : Nd) (hn : l[at_]? = some n) (hk : n.kind = 5) (st : Nat) (deep : Int) (kids keys : List Nat) (i : Nat) (hi : (i : Int) < n.kids) (hkb : n.kids ≤ 9223372036854775807)
    (hbad : l[st]? = none ∨ ∃ m, l[st]? = some m ∧ (m.kind ≠ 3 ∨ (m.kind = 3 ∧ plainS m = false) ∨ (m.kind = 3 ∧ plainS m = true ∧ ∃ j q b, i = j + 1 ∧ keys[j]? = some q ∧ l[q]? = some b ∧ ltB b.text m.text = false))) :
    rX 47 (lc Try.f47 0) (codeX G cl lp 47 (lc Try.f47 0) (seenσ l at_ st deep false kids keys i)) =
      some (.ret, ⟨[(4, .ptr 1004 0 0)], [(1004, .box (.agg [.int .i64 0, .int .i64 0, .bool true, .nils, .nils])), (1005, .box (seenV st deep false kids keys))]⟩) := by
  have h1 : (at_ : Int) < l.length := by have := (List.getElem?_eq_some_iff.1 hn).1; omega
  simp [lc, loopsOf, Try.f47]
  rcases hbad with hm | ⟨m, hm, hbad⟩
  · have h2' : (l.length : Int) ≤ st := by have := List.getElem?_eq_none_iff.1 hm; omega
    simp [h1, h2', hn, hi, hk]
  have h2 : (st : Int) < l.length := by have := (List.getElem?_eq_some_iff.1 hm).1; omega
  have h2' : ¬ (l.length : Int) ≤ st := by omega
  rcases hbad with q | ⟨q1, q⟩ | ⟨q1, q2, j, q, nb, hij, hkj, hlq, hlt⟩
  · simp [h1, h2, h2', hn, hm, q, hi, hk, plain_call]
  · have hmf' : plainS ⟨3, m.num, m.text, m.kids⟩ = false := by rw [← q1]; exact q
    simp [h1, h2, h2', hn, hm, q1, hmf', hi, hk, plain_call]
  · have hmf' : plainS ⟨3, m.num, m.text, m.kids⟩ = true := by rw [← q1]; exact q2
    subst hij
    have hij0 : (0 : Int) < ((j + 1 : Nat) : Int) := by omega
    have hw3 : IntKind.i64.wrap (((j + 1 : Nat) : Int) - 1) = (j : Int) := by rw [i64_wrap (by omega) (by omega)]; omega
    have hx : ∀ hp, indexD Try.prog hp (some (.slice 3)) (rowV keys) (j : Int) = some (.ep (.int .i64 (q : Int)) 0) := fun hp => rowV_index hkj
    generalize ((j + 1 : Nat) : Int) = I at *
    simp [h1, h2, h2', hn, hm, q1, hmf', hi, hk, hw3, hij0, hx, hlq, hlt, plain_call]
def seenE (l : List Nd) (at_ : Nat) (stop deep : Int) (bad : Bool) (kids keys : List Nat) (i : Nat) : ASt :=
  ⟨[(0, nds l), (1, .int .i64 at_), (4, .ptr 1004 0 0), (5, .ptr 1005 0 0), (6, .int .i64 i), (40, .bool false)], (seenσ l at_ stop deep bad kids keys i).hp⟩
theorem seen_exit (l : List Nd) (at_ : Nat) (n : Nd) (hn : l[at_]? = some n) (stop deep : Int) (bad : Bool) (kids keys : List Nat) (i : Nat) (hi : ¬ (i : Int) < n.kids ∨ bad = true) :
    rX 47 (lc Try.f47 0) (codeX G cl lp 47 (lc Try.f47 0) (seenσ l at_ stop deep bad kids keys i)) = some (.exit 0, seenE l at_ stop deep bad kids keys i) := by
  have h1 : (at_ : Int) < l.length := by have := (List.getElem?_eq_some_iff.1 hn).1; omega
  simp [lc, loopsOf, Try.f47]
  by_cases hx : (i : Int) < n.kids
  · have hb := hi.resolve_left (by simpa using hx)
    simp [h1, hn, hx, hb, seenE]
  · simp [h1, hn, hx, seenE]
end Go.Proofs.Ytonaejfpiihfhaa
