/- What the functions come to: the document's Check and Depth; TreeChecks. -/
import Derived.Test.YtonaejfpiihfhaaS10
import Derived.Test.YtonaejfpiihfhaaWorks
namespace Go.Proofs.Ytonaejfpiihfhaa
open Go Abs
set_option linter.unusedSimpArgs false
set_option linter.unusedVariables false

set_option maxHeartbeats 8000000 in
theorem rcheck_loop (l : List Nd) (hb : l.length ≤ 120) : ∃ x s, lp 16 (lc Try.f16 0) { sl := [(0, nds l), (3, .int .i64 0)], hp := [] } = some (x, s) ∧
    ((x = .ret ∧ s = { sl := [(2, .int .i64 4)], hp := [] } ∧ longS l = true) ∨ (x = .exit 0 ∧ (∃ sl, s = { sl := (0, nds l) :: sl, hp := [] }) ∧ longS l = false)) := by
  refine for_loop (f := 16) (c := lc Try.f16 0) (n := l.length) (σ := fun i => { sl := [(0, nds l), (3, .int .i64 (i : Int))], hp := [] }) (P := fun i => (l.take i).any (fun n => decide (120 < n.text.length)) = false)
    (Q := fun x s => (x = .ret ∧ s = { sl := [(2, .int .i64 4)], hp := [] } ∧ longS l = true) ∨ (x = .exit 0 ∧ (∃ sl, s = { sl := (0, nds l) :: sl, hp := [] }) ∧ longS l = false))
    (fun i hi hp => ?_) (fun hp => ?_) 0 (by omega) (by simp)
  · obtain ⟨n, hn⟩ : ∃ n, l[i]? = some n := ⟨l[i], List.getElem?_eq_getElem hi⟩
    have h1 : (i : Int) < l.length := by omega
    have hw : IntKind.i64.wrap ((i : Int) + 1) = (i : Int) + 1 := i64_wrap (by omega) (by omega)
    by_cases ht : 120 < n.text.length
    · right
      have ht' : (120 : Int) < n.text.length := by omega
      exact ⟨.ret, ⟨[(2, .int .i64 4)], []⟩, by simp [lc, loopsOf, Try.f16, nds, h1, hn, Nd.v, hw, ht'], by simp, .inl ⟨rfl, rfl, List.any_eq_true.2 ⟨n, List.mem_of_getElem? hn, by simpa using ht⟩⟩⟩
    · left
      have ht' : ¬ (120 : Int) < n.text.length := by omega
      refine ⟨by simp [lc, loopsOf, Try.f16, nds, h1, hn, Nd.v, hw, ht'], ?_⟩
      rw [List.take_add_one, hn, List.any_append, hp]; simpa using ht
  · rw [List.take_of_length_le (Nat.le_refl _)] at hp
    exact ⟨.exit 0, ⟨[(0, nds l), (3, .int .i64 l.length), (11, .bool false)], []⟩, by simp [lc, loopsOf, Try.f16, nds], by simp, .inr ⟨rfl, ⟨_, rfl⟩, hp⟩⟩

set_option maxHeartbeats 8000000 in
theorem rcheck_eq (l : List Nd) (hb : l.length ≤ 9223372036854775806) (hr : ∀ n ∈ l, n.inR) : cl 16 [nds l] [] = some (.ret (.int .i64 (checkS l)), []) := by
  refine fn_intro Try.func16 rfl (by simp) (by decide) rfl ?_
  by_cases h1 : 120 < l.length
  · have h1' : (120 : Int) < l.length := by omega
    simp [Try.f16, nds, h1']
    exact end_is (.inr rfl) (by simp; rfl) rfl (by simp [checkS, h1])
  have h1' : ¬ (120 : Int) < l.length := by omega
  obtain ⟨x, s, h, hx⟩ := rcheck_loop l (by omega)
  simp [lc, loopsOf, Try.f16, nds] at h
  rcases hx with ⟨rfl, rfl, h2⟩ | ⟨rfl, ⟨sl, rfl⟩, h2⟩
  · simp [Try.f16, nds, h1', h]
    exact end_is (.inr rfl) (by simp; rfl) rfl (by simp [checkS, h2])
  obtain ⟨v, hv, hs⟩ := seen_eq l (by omega) hr (l.length + 1) 0 (by omega)
  cases h5 : valS l (l.length + 1) 0 with
  | none =>
    rw [h5] at hs
    obtain ⟨a, d, ks, qs, rfl⟩ := hs
    have hcall : ∀ d' w, callV G cl d' (.fn (.func 47) [] []) [.list 4 (l.map Nd.v), .int .i64 0] w = some (.val (seenV a d true ks qs) w) := fun d' w => callV_ret E47 (by decide) ext47 rfl rfl hv (by simp [seenV])
    have h3 : wholeS l = none := by unfold wholeS; rw [h5]; rfl
    simp [Try.f16, nds, h1', h, hcall, seenV]
    exact end_is (.inr rfl) (by simp; rfl) rfl (by simp [checkS, h1, h2, h3])
  | some sp =>
    rw [h5] at hs
    obtain ⟨keys, rfl⟩ := hs
    have hcall : ∀ d' w, callV G cl d' (.fn (.func 47) [] []) [.list 4 (l.map Nd.v), .int .i64 0] w = some (.val (seenV sp.stop sp.deep false sp.kids keys) w) := fun d' w => callV_ret E47 (by decide) ext47 rfl rfl hv (by simp [seenV])
    by_cases he : sp.stop = l.length
    · have h3 : wholeS l = some sp := by unfold wholeS; rw [h5]; simp [he]
      by_cases h4 : 32 < sp.deep
      · have h4' : (32 : Int) < sp.deep := by omega
        simp [Try.f16, nds, h1', h, hcall, seenV, he, h4']
        exact end_is (.inr rfl) (by simp; rfl) rfl (by simp [checkS, h1, h2, h3, h4])
      · have h4' : ¬ (32 : Int) < sp.deep := by omega
        simp [Try.f16, nds, h1', h, hcall, seenV, he, h4']
        exact end_is (.inr rfl) (by simp; rfl) rfl (by simp [checkS, h1, h2, h3, h4])
    · have h3 : wholeS l = none := by unfold wholeS; rw [h5]; simp [he]
      have he' : ¬ (sp.stop : Int) = l.length := by omega
      simp [Try.f16, nds, h1', h, hcall, seenV, he']
      exact end_is (.inr rfl) (by simp; rfl) rfl (by simp [checkS, h1, h2, h3])
theorem rcheck_call {l : List Nd} (hb : l.length ≤ 9223372036854775806) (hr : ∀ n ∈ l, n.inR) {d : Option Nat} {st : ASt} : callV G cl d (.fn (.func 16) [] []) [nds l] st = some (.val (.int .i64 (checkS l)) st) :=
  callV_ret E16 (by decide) ext16 rfl rfl (rcheck_eq l hb hr) rfl
set_option maxHeartbeats 8000000 in
theorem rdepth_eq (l : List Nd) (hb : l.length ≤ 9223372036854775806) (hr : ∀ n ∈ l, n.inR) : cl 17 [nds l] [] = some (.ret (.int .i64 (depthS l)), []) := by
  have hc := fun d st => rcheck_call (l := l) hb hr (d := d) (st := st)
  simp only [nds] at hc
  refine fn_intro Try.func17 rfl (by simp) (by decide) rfl ?_
  by_cases h : checkS l = 0
  · obtain ⟨h1, h2, s, h3, h4⟩ := checkS_ok h
    obtain ⟨h5, h6⟩ := wholeS_some h3
    obtain ⟨v, hv, hs⟩ := seen_eq l (by omega) hr (l.length + 1) 0 (by omega)
    rw [h5] at hs
    obtain ⟨keys, rfl⟩ := hs
    have hcall : ∀ d' w, callV G cl d' (.fn (.func 47) [] []) [.list 4 (l.map Nd.v), .int .i64 0] w = some (.val (seenV s.stop s.deep false s.kids keys) w) := fun d' w => callV_ret E47 (by decide) ext47 rfl rfl hv (by simp [seenV])
    simp [Try.f17, nds, hc, h, hcall, seenV]
    exact end_is (.inr rfl) (by simp; rfl) rfl (by simp [depthS, h, h3])
  · simp [Try.f17, nds, hc, h]
    exact end_is (.inr rfl) (by simp; rfl) rfl (by simp [depthS, h])
end Go.Proofs.Ytonaejfpiihfhaa
