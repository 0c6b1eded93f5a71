/- What TreeChecks comes to. -/
import Derived.Test.YtonaejfpiihfhaaS11
namespace Go.Proofs.Ytonaejfpiihfhaa
open Go Abs
set_option linter.unusedSimpArgs false
set_option linter.unusedVariables false

theorem works_call {d : Option Nat} {st : ASt} : callV G cl d (.fn (.func 14) [] []) [] st = some (.val (.bool true) st) :=
  callV_ret E14 (by decide) ext14 rfl rfl (call_prim (p := worksP) (by decide) (by rfl) rfl) rfl
theorem few_call {l : List Nd} {d : Option Nat} {st : ASt} : callV G cl d (.fn (.func 15) [] []) [nds l] st = some (.val (.bool (fewS l)) st) :=
  callV_ret E15 (by decide) ext15 rfl rfl (few_eq l) rfl
theorem fewS_len {l : List Nd} (h : fewS l = true) : l.length ≤ 130 := by
  unfold fewS at h
  simp only [Bool.and_eq_true, decide_eq_true_eq] at h
  exact h.1

set_option maxHeartbeats 8000000 in
theorem treeChecks_eq (a b : List Nd) (ha : ∀ n ∈ a, n.inR) (hb : ∀ n ∈ b, n.inR) : cl 3 [nds a, nds b] [] = some (.ret (.bool true), []) := by
  refine fn_intro Try.func3 rfl (by simp) (by decide) rfl ?_
  cases h1 : fewS a with
  | false =>
    simp [Try.f3, works_call, few_call, h1]
    exact end_is (.inr rfl) (by simp; rfl) rfl rfl
  | true =>
    cases h2 : fewS b with
    | false =>
      simp [Try.f3, works_call, few_call, h1, h2]
      exact end_is (.inr rfl) (by simp; rfl) rfl rfl
    | true =>
      have l1 := fewS_len h1
      have l2 := fewS_len h2
      have c16 : ∀ d st, callV G cl d (.fn (.func 16) [] []) [nds a] st = some (.val (.int .i64 (checkS a)) st) := fun d st => rcheck_call (by omega) ha
      have c17 : ∀ d st, callV G cl d (.fn (.func 17) [] []) [nds a] st = some (.val (.int .i64 (depthS a)) st) := fun d st => callV_ret E17 (by decide) ext17 rfl rfl (rdepth_eq a (by omega) ha) rfl
      have c18 : ∀ d st, callV G cl d (.fn (.func 18) [] []) [nds a, nds b] st = some (.val (.bool (decide (a = b))) st) := fun d st => callV_ret E18 (by decide) ext18 rfl rfl (same18_eq a b (by omega)) rfl
      have c19 : ∀ d st, callV G cl d (.fn (.func 19) [] []) [nds a] st = some (.val (.int .i64 (checkS a)) st) := fun d st => check_call (by omega) ha
      have c20 : ∀ d st, callV G cl d (.fn (.func 20) [] []) [nds a] st = some (.val (.int .i64 (depthS a)) st) := fun d st => callV_ret E20 (by decide) ext20 rfl rfl (depth_eq a (by omega) ha) rfl
      have c21 : ∀ d st, callV G cl d (.fn (.func 21) [] []) [nds a, nds b] st = some (.val (.bool (decide (a = b))) st) := fun d st => callV_ret E21 (by decide) ext21 rfl rfl (tsame_eq a b (by omega)) rfl
      simp [Try.f3, works_call, few_call, h1, h2, c16, c17, c18, c19, c20, c21]
      exact end_is (.inr rfl) (by simp; rfl) rfl rfl
end Go.Proofs.Ytonaejfpiihfhaa
