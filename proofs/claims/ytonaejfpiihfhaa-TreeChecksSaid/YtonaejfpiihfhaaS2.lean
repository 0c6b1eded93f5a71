/- What the functions come to: nodes, by the document. -/
import Derived.Test.YtonaejfpiihfhaaS1
namespace Go.Proofs.Ytonaejfpiihfhaa
open Go Abs
set_option linter.unusedSimpArgs false
set_option linter.unusedVariables false

/-- Whether a node's fields may be, by the document. -/
def plainS (n : Nd) : Bool :=
  decide (0 ≤ n.kind) && decide (n.kind ≤ 5) && (decide (n.kind = 2) || decide (n.num = 0) || decide (n.kind = 1) && decide (n.num = 1)) && (decide (n.kind = 3) || decide (n.text = [])) &&
    (decide (n.kids = 0) || decide (0 < n.kids) && (decide (n.kind = 4) || decide (n.kind = 5)))

set_option maxHeartbeats 8000000 in
theorem plain_eq (n : Nd) : cl 80 [n.v] [] = some (.ret (.bool (plainS n)), []) := by
  obtain ⟨k, nu, t, c⟩ := n
  refine fn_intro Try.func80 rfl (by simp) (by decide) rfl ?_
  simp only [Try.f80, Nd.v]
  simp
  exact end_is (.inr rfl) (by simp; rfl) rfl (by simp [plainS, Bool.and_assoc, Bool.or_assoc])
theorem plain_call {d : Option Nat} {st : ASt} {k n c : Int} {t : List UInt8} : callV G cl d (.fn (.func 80) [] []) [.agg [.int .i64 k, .int .i64 n, .str t, .int .i64 c]] st = some (.val (.bool (plainS ⟨k, n, t, c⟩)) st) :=
  callV_ret E80 (by decide) ext80 rfl rfl (plain_eq ⟨k, n, t, c⟩) rfl

/-- A round, and the loop's head behind it. -/
noncomputable def rX (f : FuncId) (c : Code) : Option (AX × ASt) → Option (AX × ASt)
  | some (.normal, s) => (canon G f c s).map fun s => (.normal, s)
  | r => r
@[simp] theorem rX_n {f c s} : rX f c (some (.normal, s)) = (canon G f c s).map fun s => (.normal, s) := rfl
@[simp] theorem rX_e {f c i s} : rX f c (some (.exit i, s)) = some (.exit i, s) := rfl
@[simp] theorem rX_r {f c s} : rX f c (some (.ret, s)) = some (.ret, s) := rfl
@[simp] theorem rX_p {f c v s} : rX f c (some (.pan v, s)) = some (.pan v, s) := rfl
theorem loop_next {f : FuncId} {c : Code} {st st' : ASt} {r : AX × ASt} (h : rX f c (codeX G cl lp f c st) = some (.normal, st')) (hr : lp f c st' = some r) : lp f c st = some r := by
  refine loop_intro ?_
  unfold loopStep
  cases hx : codeX G cl lp f c st with
  | none => rw [hx] at h; cases h
  | some y =>
    obtain ⟨x, s⟩ := y
    rw [hx] at h
    cases x with
    | normal =>
      obtain ⟨s2, h1, h2⟩ := Option.map_eq_some_iff.1 h
      cases h2
      simp only [Option.bind_some, h1]; exact hr
    | _ => cases h
theorem loop_out {f : FuncId} {c : Code} {st s : ASt} {x : AX} (h : rX f c (codeX G cl lp f c st) = some (x, s)) (hx : x ≠ .normal) : lp f c st = some (x, s) := by
  refine loop_intro ?_
  unfold loopStep
  cases hy : codeX G cl lp f c st with
  | none => rw [hy] at h; cases h
  | some y =>
    obtain ⟨x', s'⟩ := y
    rw [hy] at h
    cases x' with
    | normal =>
      obtain ⟨s2, h1, h2⟩ := Option.map_eq_some_iff.1 h
      cases h2; exact absurd rfl hx
    | _ => exact h
/-- The code of a function's first loop; of the next. -/
def loopsOf : Code → List Code
  | .seq a b => loopsOf a ++ loopsOf b
  | .cond _ a b => loopsOf a ++ loopsOf b
  | .block _ b => loopsOf b
  | .loop b => b :: loopsOf b
  | _ => []
noncomputable def lc (f : Func) (k : Nat) : Code := ((loopsOf (f.body.getD .skip))[k]?).getD .skip

theorem i64_wrap {a : Int} (h1 : -9223372036854775808 ≤ a) (h2 : a ≤ 9223372036854775807) : IntKind.i64.wrap a = a := by rw [IntKind.wrap_i64]; omega

/-- A loop over the numbers below n, that may be left early. -/
theorem for_loop {f : FuncId} {c : Code} {n : Nat} {σ : Nat → ASt} {P : Nat → Prop} {Q : AX → ASt → Prop}
    (hstep : ∀ i, i < n → P i → (rX f c (codeX G cl lp f c (σ i)) = some (.normal, σ (i + 1)) ∧ P (i + 1)) ∨ ∃ x s, rX f c (codeX G cl lp f c (σ i)) = some (x, s) ∧ x ≠ .normal ∧ Q x s)
    (hend : P n → ∃ x s, rX f c (codeX G cl lp f c (σ n)) = some (x, s) ∧ x ≠ .normal ∧ Q x s) : ∀ i, i ≤ n → P i → ∃ x s, lp f c (σ i) = some (x, s) ∧ Q x s := by
  intro i hi
  generalize hk : n - i = k
  induction k generalizing i with
  | zero =>
    intro hp
    obtain rfl : i = n := by omega
    obtain ⟨x, s, h1, h2, h3⟩ := hend hp
    exact ⟨x, s, loop_out h1 h2, h3⟩
  | succ k ih =>
    intro hp
    rcases hstep i (by omega) hp with ⟨h1, h2⟩ | ⟨x, s, h1, h2, h3⟩
    · obtain ⟨x, s, h3, h4⟩ := ih (i + 1) (by omega) (by omega) h2
      exact ⟨x, s, loop_next h1 h3, h4⟩
    · exact ⟨x, s, loop_out h1 h2, h3⟩
attribute [simp] canonK_p

/-! Few -/
def fewS (l : List Nd) : Bool := decide (l.length ≤ 130) && (l.take 131).all fun n => decide (n.text.length ≤ 130)
theorem few_loop (l : List Nd) : ∃ x s, lp 15 (lc Try.f15 0) { sl := [(0, nds l), (3, .int .i64 0)], hp := [] } = some (x, s) ∧
    ((x = .ret ∧ s = { sl := [(2, .bool false)], hp := [] } ∧ fewS l = false) ∨ (x = .exit 0 ∧ (∃ sl, s = { sl := (0, nds l) :: sl, hp := [] }) ∧ (l.take 131).all (fun n => decide (n.text.length ≤ 130)) = true)) := by
  have := for_loop (f := 15) (c := lc Try.f15 0) (n := min l.length 131) (σ := fun i => { sl := [(0, nds l), (3, .int .i64 (i : Int))], hp := [] }) (P := fun i => (l.take i).all (fun n => decide (n.text.length ≤ 130)) = true)
    (Q := fun x s => (x = .ret ∧ s = { sl := [(2, .bool false)], hp := [] } ∧ fewS l = false) ∨ (x = .exit 0 ∧ (∃ sl, s = { sl := (0, nds l) :: sl, hp := [] }) ∧ (l.take 131).all (fun n => decide (n.text.length ≤ 130)) = true))
    (fun i hi hp => ?_) (fun hp => ?_) 0 (by omega) (by simp)
  · exact this
  · have h1 : i < l.length := by omega
    obtain ⟨n, hn⟩ : ∃ n, l[i]? = some n := ⟨l[i], List.getElem?_eq_getElem h1⟩
    have h1' : (i : Int) < l.length := by omega
    have h2' : (i : Int) ≤ 130 := by omega
    have hw : IntKind.i64.wrap ((i : Int) + 1) = (i : Int) + 1 := i64_wrap (by omega) (by omega)
    by_cases ht : n.text.length ≤ 130
    · left
      have h3' : ¬ (130 < (n.text.length : Int)) := by omega
      refine ⟨by simp [lc, loopsOf, Try.f15, nds, h1', h2', hn, Nd.v, h3', hw], ?_⟩
      rw [List.take_add_one, hn]
      simp only [List.all_append, hp, Option.toList_some, List.all_cons, List.all_nil, Bool.and_true, Bool.true_and]
      simpa using ht
    · right
      have h3' : 130 < (n.text.length : Int) := by omega
      refine ⟨.ret, _, by simp [lc, loopsOf, Try.f15, nds, h1', h2', hn, Nd.v, h3', hw], by simp, .inl ⟨rfl, rfl, ?_⟩⟩
      have : n ∈ l.take 131 := List.mem_of_getElem? (i := i) (by rw [List.getElem?_take, if_pos (by omega)]; exact hn)
      unfold fewS
      rw [Bool.and_eq_false_iff]; right
      rw [List.all_eq_false]
      exact ⟨n, this, by simpa using ht⟩
  · have hall : (l.take 131).all (fun n => decide (n.text.length ≤ 130)) = true := by
      rcases Nat.le_total l.length 131 with h | h
      · rw [Nat.min_eq_left h, List.take_of_length_le (Nat.le_refl _)] at hp
        rw [List.take_of_length_le h]; exact hp
      · rwa [Nat.min_eq_right h] at hp
    rcases Nat.lt_or_ge l.length 131 with h | h
    · have e : min l.length 131 = l.length := by omega
      exact ⟨.exit 0, ⟨[(0, nds l), (3, .int .i64 (min l.length 131 : Nat)), (11, .bool false)], []⟩, by simp [lc, loopsOf, Try.f15, nds, e], by simp, .inr ⟨rfl, ⟨_, rfl⟩, hall⟩⟩
    · have e : min l.length 131 = 131 := by omega
      by_cases h2 : l.length = 131
      · exact ⟨.exit 0, ⟨[(0, nds l), (3, .int .i64 (min l.length 131 : Nat)), (11, .bool false)], []⟩, by simp [lc, loopsOf, Try.f15, nds, e, h2], by simp, .inr ⟨rfl, ⟨_, rfl⟩, hall⟩⟩
      · have h3 : (131 : Int) < l.length := by omega
        exact ⟨.exit 0, ⟨[(0, nds l), (3, .int .i64 (min l.length 131 : Nat)), (11, .bool false)], []⟩, by simp [lc, loopsOf, Try.f15, nds, e, h3], by simp, .inr ⟨rfl, ⟨_, rfl⟩, hall⟩⟩

theorem few_eq (l : List Nd) : cl 15 [nds l] [] = some (.ret (.bool (fewS l)), []) := by
  obtain ⟨x, s, h, hx⟩ := few_loop l
  refine fn_intro Try.func15 rfl (by simp) (by decide) rfl ?_
  simp only [lc, loopsOf, Try.f15, nds, Option.getD_some] at h
  simp [loopsOf] at h
  rcases hx with ⟨rfl, rfl, hf⟩ | ⟨rfl, ⟨sl, rfl⟩, hall⟩
  · simp [Try.f15, nds, h]
    exact end_is (.inr rfl) (by simp; rfl) rfl (by simp [hf])
  · by_cases hl : l.length ≤ 130
    · have hl' : (l.length : Int) ≤ 130 := by omega
      simp [Try.f15, nds, h, hl']
      exact end_is (.inr rfl) (by simp; rfl) rfl (by simp [fewS, hl]; simpa using hall)
    · have hl' : ¬ (l.length : Int) ≤ 130 := by omega
      simp [Try.f15, nds, h, hl']
      exact end_is (.inr rfl) (by simp; rfl) rfl (by simp [fewS, hl])
end Go.Proofs.Ytonaejfpiihfhaa
