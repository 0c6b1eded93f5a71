/- What the functions come to: tree.Check, tree.Depth. -/
import Derived.Test.YtonaejfpiihfhaaS7
namespace Go.Proofs.Ytonaejfpiihfhaa
open Go Abs
set_option linter.unusedSimpArgs false
set_option linter.unusedVariables false

/-- The error's number. -/
def checkS (l : List Nd) : Int :=
  if 120 < l.length ∨ longS l = true then 4 else match wholeS l with
    | none => 1
    | some s => if 32 < s.deep then 3 else 0

theorem whole_call {l : List Nd} (hl : l.length ≤ 900) (hr : ∀ n ∈ l, n.inR) {d : Option Nat} {st : ASt} : callV G cl d (.fn (.func 50) [] []) [nds l] st = some (.val (wholeR l) st) := by
  refine callV_ret E50 (by decide) ext50 rfl rfl (whole_eq l hl hr) ?_
  unfold wholeR; cases wholeS l <;> rfl

set_option maxHeartbeats 8000000 in
theorem check_eq (l : List Nd) (hb : l.length ≤ 9223372036854775806) (hr : ∀ n ∈ l, n.inR) : cl 19 [nds l] [] = some (.ret (.int .i64 (checkS l)), []) := by
  have hc := fun d st => contains49_call (l := l) hb (d := d) (st := st)
  refine fn_intro Try.func19 rfl (by simp) (by decide) rfl ?_
  simp only [nds] at hc
  by_cases h1 : 120 < l.length
  · have h1' : (120 : Int) < l.length := by omega
    simp [Try.f19, nds, h1']
    exact end_is (.inr rfl) (by simp; rfl) rfl (by simp [checkS, h1])
  have h1' : ¬ (120 : Int) < l.length := by omega
  cases h2 : longS l with
  | true =>
    simp [Try.f19, nds, h1', hc, h2]
    exact end_is (.inr rfl) (by simp; rfl) rfl (by simp [checkS, h2])
  | false =>
    have hw := fun d st => whole_call (l := l) (by omega) hr (d := d) (st := st)
    simp only [nds] at hw
    cases h3 : wholeS l with
    | none =>
      simp [Try.f19, nds, h1', hc, h2, hw, wholeR, h3, zeroSpan]
      exact end_is (.inr rfl) (by simp; rfl) rfl (by simp [checkS, h1, h2, h3])
    | some s =>
      by_cases h4 : 32 < s.deep
      · have h4' : (32 : Int) < s.deep := by omega
        simp [Try.f19, nds, h1', hc, h2, hw, wholeR, h3, spanV, h4']
        exact end_is (.inr rfl) (by simp; rfl) rfl (by simp [checkS, h1, h2, h3, h4])
      · have h4' : ¬ (32 : Int) < s.deep := by omega
        simp [Try.f19, nds, h1', hc, h2, hw, wholeR, h3, spanV, h4']
        exact end_is (.inr rfl) (by simp; rfl) rfl (by simp [checkS, h1, h2, h3, h4])
theorem check_call {l : List Nd} (hb : l.length ≤ 9223372036854775806) (hr : ∀ n ∈ l, n.inR) {d : Option Nat} {st : ASt} : callV G cl d (.fn (.func 19) [] []) [nds l] st = some (.val (.int .i64 (checkS l)) st) :=
  callV_ret E19 (by decide) ext19 rfl rfl (check_eq l hb hr) rfl

theorem checkS_ok {l : List Nd} (h : checkS l = 0) : l.length ≤ 120 ∧ longS l = false ∧ ∃ s, wholeS l = some s ∧ s.deep ≤ 32 := by
  unfold checkS at h
  split at h
  · cases h
  · rename_i hc
    simp only [not_or, Bool.not_eq_true] at hc
    split at h
    · cases h
    · rename_i s hs
      split at h
      · cases h
      · exact ⟨by omega, hc.2, s, hs, by omega⟩
theorem wholeS_some {l : List Nd} {s : Span} (h : wholeS l = some s) : valS l (l.length + 1) 0 = some s ∧ s.stop = l.length := by
  unfold wholeS at h
  rw [Option.bind_eq_some_iff] at h
  obtain ⟨t, h1, h2⟩ := h
  split at h2
  · cases h2; exact ⟨h1, by assumption⟩
  · cases h2

def depthS (l : List Nd) : Int := if checkS l = 0 then (match wholeS l with | some s => (s.deep : Int) | none => 0) else 0
set_option maxHeartbeats 8000000 in
theorem depth_eq (l : List Nd) (hb : l.length ≤ 9223372036854775806) (hr : ∀ n ∈ l, n.inR) : cl 20 [nds l] [] = some (.ret (.int .i64 (depthS l)), []) := by
  have hc := fun d st => check_call (l := l) hb hr (d := d) (st := st)
  simp only [nds] at hc
  refine fn_intro Try.func20 rfl (by simp) (by decide) rfl ?_
  by_cases h : checkS l = 0
  · obtain ⟨h1, h2, s, h3, h4⟩ := checkS_ok h
    obtain ⟨h5, h6⟩ := wholeS_some h3
    have hv : ∀ d (w : ASt), callV G cl d (.fn (.func 51) [] []) [.list 4 (l.map Nd.v), .int .i64 0] w = some (.val (spanV s) w) := by
      intro d w
      refine callV_ret E51 (by decide) ext51 rfl rfl ?_ rfl
      have := value_eq l (by omega) hr (l.length + 1) 0 (by omega)
      rw [h5] at this; exact this
    simp [Try.f20, nds, hc, h, hv, spanV]
    exact end_is (.inr rfl) (by simp; rfl) rfl (by simp [depthS, h, h3])
  · simp [Try.f20, nds, hc, h]
    exact end_is (.inr rfl) (by simp; rfl) rfl (by simp [depthS, h])
end Go.Proofs.Ytonaejfpiihfhaa
