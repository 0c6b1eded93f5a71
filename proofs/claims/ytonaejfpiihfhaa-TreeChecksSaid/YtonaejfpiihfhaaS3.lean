/- What the functions come to: rows of nodes that are the same; texts that are too long. -/
import Derived.Test.YtonaejfpiihfhaaS2
namespace Go.Proofs.Ytonaejfpiihfhaa
open Go Abs
set_option linter.unusedSimpArgs false
set_option linter.unusedVariables false

theorem nd_ne {n m : Nd} (h : n ≠ m) : ¬ n.kind = m.kind ∨ (n.kind = m.kind ∧ ¬ n.num = m.num) ∨ (n.kind = m.kind ∧ n.num = m.num ∧ ¬ n.text = m.text) ∨ (n.kind = m.kind ∧ n.num = m.num ∧ n.text = m.text ∧ ¬ n.kids = m.kids) := by
  obtain ⟨a, b, c, d⟩ := n; obtain ⟨a', b', c', d'⟩ := m
  simp only [ne_eq, Nd.mk.injEq, not_and] at h ⊢
  by_cases h1 : a = a' <;> by_cases h2 : b = b' <;> by_cases h3 : c = c' <;> simp_all

theorem take_eq_of {α : Type} {l m : List α} {i : Nat} (h : l.take i = m.take i) {x y : α} (hx : l[i]? = some x) (hy : m[i]? = some y) : l.take (i + 1) = m.take (i + 1) ↔ x = y := by
  rw [List.take_add_one, List.take_add_one, hx, hy, h]
  simp

set_option maxHeartbeats 8000000 in
theorem same18_loop (a b : List Nd) (hl : a.length = b.length) (hb : a.length ≤ 9223372036854775806) : ∃ x s, lp 18 (lc Try.f18 0) { sl := [(0, nds a), (1, nds b), (5, .int .i64 0)], hp := [] } = some (x, s) ∧
    ((x = .ret ∧ s = { sl := [(4, .bool false)], hp := [] } ∧ a ≠ b) ∨ (x = .exit 0 ∧ (∃ sl, s = { sl, hp := [] }) ∧ a = b)) := by
  refine for_loop (f := 18) (c := lc Try.f18 0) (n := a.length) (σ := fun i => { sl := [(0, nds a), (1, nds b), (5, .int .i64 (i : Int))], hp := [] }) (P := fun i => a.take i = b.take i)
    (Q := fun x s => (x = .ret ∧ s = { sl := [(4, .bool false)], hp := [] } ∧ a ≠ b) ∨ (x = .exit 0 ∧ (∃ sl, s = { sl, hp := [] }) ∧ a = b))
    (fun i hi hp => ?_) (fun hp => ?_) 0 (by omega) (by simp)
  · obtain ⟨n, hn⟩ : ∃ n, a[i]? = some n := ⟨a[i], List.getElem?_eq_getElem hi⟩
    obtain ⟨m, hm⟩ : ∃ m, b[i]? = some m := ⟨b[i], List.getElem?_eq_getElem (by omega)⟩
    have h1 : (i : Int) < a.length := by omega
    have hw : IntKind.i64.wrap ((i : Int) + 1) = (i : Int) + 1 := i64_wrap (by omega) (by omega)
    by_cases hnm : n = m
    · subst hnm
      left
      refine ⟨?_, (take_eq_of hp hn hm).2 rfl⟩
      simp [lc, loopsOf, Try.f18, nds, h1, hn, hm, Nd.v, hw]
    · right
      have hne : a ≠ b := fun e => hnm (by subst e; rw [hn] at hm; exact Option.some.inj hm)
      have : rX 18 (lc Try.f18 0) (codeX G cl lp 18 (lc Try.f18 0) { sl := [(0, nds a), (1, nds b), (5, .int .i64 (i : Int))], hp := [] }) = some (.ret, { sl := [(4, .bool false)], hp := [] }) := by
        rcases nd_ne hnm with q | ⟨q1, q⟩ | ⟨q1, q2, q⟩ | ⟨q1, q2, q3, q⟩
        · simp [lc, loopsOf, Try.f18, nds, h1, hn, hm, Nd.v, hw, q]
        · simp [lc, loopsOf, Try.f18, nds, h1, hn, hm, Nd.v, hw, q1, q]
        · simp [lc, loopsOf, Try.f18, nds, h1, hn, hm, Nd.v, hw, q1, q2, q]
        · simp [lc, loopsOf, Try.f18, nds, h1, hn, hm, Nd.v, hw, q1, q2, q3, q]
      exact ⟨.ret, _, this, by simp, .inl ⟨rfl, rfl, hne⟩⟩
  · have e : a = b := by rw [List.take_of_length_le (Nat.le_refl _), List.take_of_length_le (by omega)] at hp; exact hp
    exact ⟨.exit 0, ⟨[(0, nds a), (1, nds b), (5, .int .i64 a.length), (14, .bool false)], []⟩, by simp [lc, loopsOf, Try.f18, nds], by simp, .inr ⟨rfl, ⟨_, rfl⟩, e⟩⟩
theorem same18_eq (a b : List Nd) (hb : a.length ≤ 9223372036854775806) : cl 18 [nds a, nds b] [] = some (.ret (.bool (decide (a = b))), []) := by
  refine fn_intro Try.func18 rfl (by simp) (by decide) rfl ?_
  by_cases hl : a.length = b.length
  · obtain ⟨x, s, h, hx⟩ := same18_loop a b hl hb
    simp [lc, loopsOf, Try.f18, nds, Option.getD_some] at h
    rcases hx with ⟨rfl, rfl, hf⟩ | ⟨rfl, ⟨sl, rfl⟩, hall⟩
    · simp [Try.f18, nds, h, hl]
      exact end_is (.inr rfl) (by simp; rfl) rfl (by simp [hf])
    · simp [Try.f18, nds, h, hl]
      exact end_is (.inr rfl) (by simp; rfl) rfl (by simp [hall])
  · have hl' : ¬ (a.length : Int) = b.length := by omega
    have hne : a ≠ b := fun e => hl (by rw [e])
    simp [Try.f18, nds, hl']
    exact end_is (.inr rfl) (by simp; rfl) rfl (by simp [hne])
end Go.Proofs.Ytonaejfpiihfhaa
