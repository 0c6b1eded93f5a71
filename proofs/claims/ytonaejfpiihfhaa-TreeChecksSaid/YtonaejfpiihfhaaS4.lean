/- What the functions come to: slices.Equal, ContainsFunc over nodes. -/
import Derived.Test.YtonaejfpiihfhaaS3
namespace Go.Proofs.Ytonaejfpiihfhaa
open Go Abs
set_option linter.unusedSimpArgs false
set_option linter.unusedVariables false

set_option maxHeartbeats 8000000 in
theorem equal52_loop (a b : List Nd) (hl : a.length = b.length) (hb : a.length ≤ 9223372036854775806) : ∃ x s, lp 52 (lc Try.f52 0) { sl := [(0, nds a), (1, nds b), (12, .int .i64 a.length), (13, .int .i64 0)], hp := [] } = some (x, s) ∧
    ((x = .ret ∧ s = { sl := [(4, .bool false)], hp := [] } ∧ a ≠ b) ∨ (x = .exit 0 ∧ (∃ sl, s = { sl, hp := [] }) ∧ a = b)) := by
  refine for_loop (f := 52) (c := lc Try.f52 0) (n := a.length) (σ := fun i => { sl := [(0, nds a), (1, nds b), (12, .int .i64 a.length), (13, .int .i64 (i : Int))], hp := [] }) (P := fun i => a.take i = b.take i)
    (Q := fun x s => (x = .ret ∧ s = { sl := [(4, .bool false)], hp := [] } ∧ a ≠ b) ∨ (x = .exit 0 ∧ (∃ sl, s = { sl, hp := [] }) ∧ a = b))
    (fun i hi hp => ?_) (fun hp => ?_) 0 (by omega) (by simp)
  · obtain ⟨n, hn⟩ : ∃ n, a[i]? = some n := ⟨a[i], List.getElem?_eq_getElem hi⟩
    obtain ⟨m, hm⟩ : ∃ m, b[i]? = some m := ⟨b[i], List.getElem?_eq_getElem (by omega)⟩
    have h1 : (i : Int) < a.length := by omega
    have hw : IntKind.i64.wrap ((i : Int) + 1) = (i : Int) + 1 := i64_wrap (by omega) (by omega)
    by_cases hnm : n = m
    · subst hnm
      left
      refine ⟨?_, (take_eq_of hp hn hm).2 rfl⟩
      simp [lc, loopsOf, Try.f52, nds, h1, hn, hm, Nd.v, hw]
    · right
      have hne : a ≠ b := fun e => hnm (by subst e; rw [hn] at hm; exact Option.some.inj hm)
      have : rX 52 (lc Try.f52 0) (codeX G cl lp 52 (lc Try.f52 0) { sl := [(0, nds a), (1, nds b), (12, .int .i64 a.length), (13, .int .i64 (i : Int))], hp := [] }) = some (.ret, { sl := [(4, .bool false)], hp := [] }) := by
        rcases nd_ne hnm with q | ⟨q1, q⟩ | ⟨q1, q2, q⟩ | ⟨q1, q2, q3, q⟩
        · simp [lc, loopsOf, Try.f52, nds, h1, hn, hm, Nd.v, hw, q]
        · simp [lc, loopsOf, Try.f52, nds, h1, hn, hm, Nd.v, hw, q1, q]
        · simp [lc, loopsOf, Try.f52, nds, h1, hn, hm, Nd.v, hw, q1, q2, q]
        · simp [lc, loopsOf, Try.f52, nds, h1, hn, hm, Nd.v, hw, q1, q2, q3, q]
      exact ⟨.ret, _, this, by simp, .inl ⟨rfl, rfl, hne⟩⟩
  · have e : a = b := by rw [List.take_of_length_le (Nat.le_refl _), List.take_of_length_le (by omega)] at hp; exact hp
    exact ⟨.exit 0, ⟨[(0, nds a), (1, nds b), (12, .int .i64 a.length), (13, .int .i64 a.length), (14, .bool false)], []⟩, by simp [lc, loopsOf, Try.f52, nds], by simp, .inr ⟨rfl, ⟨_, rfl⟩, e⟩⟩
theorem equal52_eq (a b : List Nd) (hb : a.length ≤ 9223372036854775806) : cl 52 [nds a, nds b] [] = some (.ret (.bool (decide (a = b))), []) := by
  refine fn_intro Try.func52 rfl (by simp) (by decide) rfl ?_
  by_cases hl : a.length = b.length
  · obtain ⟨x, s, h, hx⟩ := equal52_loop a b hl hb
    simp [lc, loopsOf, Try.f52, nds, Option.getD_some] at h
    rcases hx with ⟨rfl, rfl, hf⟩ | ⟨rfl, ⟨sl, rfl⟩, hall⟩
    · rw [hl] at h
      simp [Try.f52, nds, h, hl]
      exact end_is (.inr rfl) (by simp; rfl) rfl (by simp [hf])
    · rw [hl] at h
      simp [Try.f52, nds, h, hl]
      exact end_is (.inr rfl) (by simp; rfl) rfl (by simp [hall])
  · have hl' : ¬ (a.length : Int) = b.length := by omega
    have hne : a ≠ b := fun e => hl (by rw [e])
    simp [Try.f52, nds, hl']
    exact end_is (.inr rfl) (by simp; rfl) rfl (by simp [hne])
theorem equal52_call {a b : List Nd} (hb : a.length ≤ 9223372036854775806) {d : Option Nat} {st : ASt} : callV G cl d (.fn (.func 52) [] []) [nds a, nds b] st = some (.val (.bool (decide (a = b))) st) :=
  callV_ret E52 (by decide) ext52 rfl rfl (equal52_eq a b hb) rfl
theorem tsame_eq (a b : List Nd) (hb : a.length ≤ 9223372036854775806) : cl 21 [nds a, nds b] [] = some (.ret (.bool (decide (a = b))), []) := by
  refine fn_intro Try.func21 rfl (by simp) (by decide) rfl ?_
  simp [Try.f21, equal52_call hb]
  exact end_is (.inr rfl) (by simp; rfl) rfl (by simp)

/-! Texts that are too long -/
theorem long_eq (n : Nd) : cl 48 [n.v] [] = some (.ret (.bool (decide (120 < n.text.length))), []) := by
  obtain ⟨k, nu, t, c⟩ := n
  refine fn_intro Try.func48 rfl (by simp) (by decide) rfl ?_
  simp [Try.f48, Nd.v]
  exact end_is (.inr rfl) (by simp; rfl) rfl (by simp; omega)
theorem long_call {d : Option Nat} {st : ASt} {k n c : Int} {t : List UInt8} : callV G cl d (.fn (.func 48) [] []) [.agg [.int .i64 k, .int .i64 n, .str t, .int .i64 c]] st = some (.val (.bool (decide (120 < t.length))) st) :=
  callV_ret E48 (by decide) ext48 rfl rfl (long_eq ⟨k, n, t, c⟩) rfl

set_option maxHeartbeats 8000000 in
theorem index81_loop (l : List Nd) (hb : l.length ≤ 9223372036854775806) : ∃ x s, lp 81 (lc Try.f81 0) { sl := [(0, nds l), (1, .fn (.func 48) [] []), (7, .int .i64 l.length), (8, .int .i64 0)], hp := [] } = some (x, s) ∧
    ((x = .ret ∧ (∃ j : Nat, s = { sl := [(4, .int .i64 j)], hp := [] }) ∧ l.any (fun n => decide (120 < n.text.length)) = true) ∨ (x = .exit 0 ∧ (∃ sl, s = { sl, hp := [] }) ∧ l.any (fun n => decide (120 < n.text.length)) = false)) := by
  refine for_loop (f := 81) (c := lc Try.f81 0) (n := l.length) (σ := fun i => { sl := [(0, nds l), (1, .fn (.func 48) [] []), (7, .int .i64 l.length), (8, .int .i64 (i : Int))], hp := [] }) (P := fun i => (l.take i).any (fun n => decide (120 < n.text.length)) = false)
    (Q := fun x s => (x = .ret ∧ (∃ j : Nat, s = { sl := [(4, .int .i64 j)], hp := [] }) ∧ l.any (fun n => decide (120 < n.text.length)) = true) ∨ (x = .exit 0 ∧ (∃ sl, s = { sl, hp := [] }) ∧ l.any (fun n => decide (120 < n.text.length)) = false))
    (fun i hi hp => ?_) (fun hp => ?_) 0 (by omega) (by simp)
  · obtain ⟨n, hn⟩ : ∃ n, l[i]? = some n := ⟨l[i], List.getElem?_eq_getElem hi⟩
    have h1 : (i : Int) < l.length := by omega
    have hw : IntKind.i64.wrap ((i : Int) + 1) = (i : Int) + 1 := i64_wrap (by omega) (by omega)
    by_cases ht : 120 < n.text.length
    · right
      exact ⟨.ret, ⟨[(4, .int .i64 i)], []⟩, by simp [lc, loopsOf, Try.f81, nds, h1, hn, Nd.v, hw, long_call, ht], by simp, .inl ⟨rfl, ⟨i, rfl⟩, List.any_eq_true.2 ⟨n, List.mem_of_getElem? hn, by simpa using ht⟩⟩⟩
    · left
      refine ⟨by simp [lc, loopsOf, Try.f81, nds, h1, hn, Nd.v, hw, long_call, ht], ?_⟩
      rw [List.take_add_one, hn, List.any_append, hp]; simpa using ht
  · rw [List.take_of_length_le (Nat.le_refl _)] at hp
    exact ⟨.exit 0, ⟨[(0, nds l), (1, .fn (.func 48) [] []), (7, .int .i64 l.length), (8, .int .i64 l.length), (9, .bool false)], []⟩, by simp [lc, loopsOf, Try.f81, nds], by simp, .inr ⟨rfl, ⟨_, rfl⟩, hp⟩⟩
theorem index81_eq (l : List Nd) (hb : l.length ≤ 9223372036854775806) : ∃ j : Int, cl 81 [nds l, .fn (.func 48) [] []] [] = some (.ret (.int .i64 j), []) ∧ (0 ≤ j ↔ l.any (fun n => decide (120 < n.text.length)) = true) := by
  obtain ⟨x, s, h, hx⟩ := index81_loop l hb
  simp [lc, loopsOf, Try.f81, nds, Option.getD_some] at h
  rcases hx with ⟨rfl, ⟨j, rfl⟩, hf⟩ | ⟨rfl, ⟨sl, rfl⟩, hf⟩
  · refine ⟨j, fn_intro Try.func81 rfl (by simp) (by decide) rfl ?_, by simp [hf]⟩
    simp [Try.f81, nds, h]
    exact end_is (.inr rfl) (by simp; rfl) rfl rfl
  · refine ⟨-1, fn_intro Try.func81 rfl (by simp) (by decide) rfl ?_, by simp [hf]⟩
    simp [Try.f81, nds, h]
    exact end_is (.inr rfl) (by simp; rfl) rfl rfl
def longS (l : List Nd) : Bool := l.any fun n => decide (120 < n.text.length)
theorem contains49_eq (l : List Nd) (hb : l.length ≤ 9223372036854775806) : cl 49 [nds l, .fn (.func 48) [] []] [] = some (.ret (.bool (longS l)), []) := by
  obtain ⟨j, h, hj⟩ := index81_eq l hb
  have hc : ∀ {d : Option Nat} {st : ASt}, callV G cl d (.fn (.func 81) [] []) [nds l, .fn (.func 48) [] []] st = some (.val (.int .i64 j) st) := fun {d st} => callV_ret E81 (by decide) ext81 rfl rfl h rfl
  refine fn_intro Try.func49 rfl (by simp) (by decide) rfl ?_
  simp [Try.f49, hc]
  refine end_is (.inr rfl) (by simp; rfl) rfl ?_
  simp only [resOf_one, AV.bool.injEq]
  rw [Bool.eq_iff_iff, decide_eq_true_eq, hj]; rfl
theorem contains49_call {l : List Nd} (hb : l.length ≤ 9223372036854775806) {d : Option Nat} {st : ASt} : callV G cl d (.fn (.func 49) [] []) [nds l, .fn (.func 48) [] []] st = some (.val (.bool (longS l)) st) :=
  callV_ret E49 (by decide) ext49 rfl rfl (contains49_eq l hb) rfl
end Go.Proofs.Ytonaejfpiihfhaa
