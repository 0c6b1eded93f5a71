/- What 'works' comes to. The seat's tables are sound. What the functions come to: nodes. What the functions come to: nodes, by the document. What the functions come to: rows of nodes that are the same; texts that are too long. What the functions come to: slices.Equal, ContainsFunc over nodes. What the functions come to: a value, gone through. What the functions come to: tree.value. -/
import Derived.Test.YtonaejfpiihfhaaPkD

/- What 'works' comes to. -/
namespace Go.Proofs.Ytonaejfpiihfhaa
open Go Abs
theorem works_run : (both G prim1 60).1 14 [] [] = some (.ret (.bool true), []) := by kernel_rfl
theorem works35_run : (both G prim1 60).1 35 [] [] = some (.ret (.bool true), []) := by kernel_rfl
end Go.Proofs.Ytonaejfpiihfhaa

/- The seat's tables are sound. -/
namespace Go.Proofs.Ytonaejfpiihfhaa
open Go Abs
theorem extOK : ExtOK G := by
  intro g p hp args v hv S ρ w vs hl hvs
  have hp : (if cmpT.contains g then some cmpStr else if escT.contains g then some idP else none) = some p := hp
  split at hp
  · rename_i hc
    cases hp
    have hg : g = 123 := by simpa [cmpT] using hc
    subst hg
    exact cmpStr_ok Try.func123 (by kernel_rfl) (by kernel_rfl) (by kernel_rfl) (by kernel_rfl) hv hl hvs
  · split at hp
    · rename_i hc
      cases hp
      have hg : g = 126 := by simpa [escT] using hc
      subst hg
      exact idP_ok Try.func126 (by kernel_rfl) (by kernel_rfl) (by kernel_rfl) (by kernel_rfl) hv hl hvs
    · cases hp
theorem E_lt (g : FuncId) (h : G.E g = true) : g < 157 := by
  have h : (hasBody[g]?).getD false = true := h
  rcases Nat.lt_or_ge g 157 with h1 | h1
  · exact h1
  · exfalso
    have hl : hasBody.length = 157 := by kernel_rfl
    rw [List.getElem?_eq_none_iff.2 (by omega)] at h
    cases h
theorem plansB_G0 (f : FuncId) (c : Code) : plansB G0 f c = plansB G f c := by
  induction c with
  | seq a b iha ihb => simp only [plansB, iha, ihb]
  | cond c a b iha ihb => simp only [plansB, iha, ihb]
  | block id b ih => simp only [plansB, ih]
  | scope b ih => simp only [plansB, ih]
  | loop b ih => simp only [plansB, ih]
  | rangeFunc g ps a b iha ihb => simp only [plansB, iha, ihb]
  | _ => rfl
theorem rOK_G0 (r : LRec) : rOK G0 r = rOK G r := by unfold rOK; simp only [plansB_G0]
theorem ext_lt : ∀ g p, G.ext g = some p → g < NF := by
  intro g p hp
  have hp : (if cmpT.contains g then some cmpStr else if escT.contains g then some idP else none) = some p := hp
  split at hp
  · rename_i hc
    have hg : g = 123 := by simpa [cmpT] using hc
    subst hg; decide
  · split at hp
    · rename_i hc
      have hg : g = 126 := by simpa [escT] using hc
      subst hg; decide
    · cases hp
theorem GS : GSound G := gsound 157 E_lt all_ok follows (fun r h => by rw [← rOK_G0]; exact h) extOK (by kernel_rfl) ext_lt
theorem prim1OK : PrimSound G prim1 := by
  intro g p args hp r hE h1 h2
  have h1 : (if strT.contains g then some (strP 5) else none) = some p := h1
  split at h1
  · rename_i hc
    cases h1
    have hg : g = 62 := by simpa [strT] using hc
    subst hg
    exact strP_ok strRun h2
  · cases h1
theorem primOK : PrimSound G prim0 := by
  intro g p args hp r hE h1 h2
  have h1 : (if worksT.contains g then some worksP else prim1 g) = some p := h1
  split at h1
  · rename_i hc
    cases h1
    have hg : g = 14 ∨ g = 35 := by simpa [worksT] using hc
    unfold worksP at h2
    split at h2
    · cases h2
      rcases hg with rfl | rfl
      · exact CallSound.of_run GS prim1OK (by decide) hE works_run
      · exact CallSound.of_run GS prim1OK (by decide) hE works35_run
    · cases h2
  · exact prim1OK g p args hp r hE h1 h2
end Go.Proofs.Ytonaejfpiihfhaa

/- What the functions come to: nodes. -/
namespace Go.Proofs.Ytonaejfpiihfhaa
open Go Abs
set_option linter.unusedSimpArgs false
set_option linter.unusedVariables false
structure Nd where
  kind : Int
  num : Int
  text : List UInt8
  kids : Int
  deriving DecidableEq
def Nd.v (n : Nd) : AV := .agg [.int .i64 n.kind, .int .i64 n.num, .str n.text, .int .i64 n.kids]
def nds (l : List Nd) : AV := .list 4 (l.map Nd.v)

noncomputable abbrev cl : CallFn := callL G prim0
noncomputable abbrev lp : LoopFn := loopL G prim0

/-- A function's body, gone through. -/
theorem fn_intro {g : FuncId} {fn : Func} {c : Code} {args : List AV} {hp : Heap} {r : ARes × Heap} (hf : Try.prog.funcs[g]? = some fn) (hb : fn.body = some c) (hd : G.dfr g = false) (hg : g < RB) (hp0 : prim0 g = none)
    (h : endX G g (hp.map (·.1)) fn.results.toList (codeX G cl lp g c { sl := zipIx args 0, hp }) = some r) : cl g args hp = some r :=
  call_intro hg hp0 (by rw [runFn_body hd hf hb]; exact h)

theorem need_t : cl 83 [.bool true] [] = some (.ret (.tup []), []) := call_intro (by decide) rfl (by kernel_rfl)
theorem need_f : cl 83 [.bool false] [] = some (.pan (.iface 114 (.agg [])), []) := call_intro (by decide) rfl (by kernel_rfl)

theorem bare_eq (n : Nd) : cl 112 [n.v] [] = some (.ret (.agg [.int .i64 n.kind, .int .i64 0, .str [], .int .i64 n.kids]), []) := by
  refine fn_intro Try.func112 rfl (by simp) (by decide) rfl ?_
  simp only [Try.f112]
  simp [Nd.v]
  exact end_is (.inr rfl) (by simp [resL]; rfl) rfl rfl

theorem bare_call {d : Option Nat} {st : ASt} {k n c : Int} {t : List UInt8} : callV G cl d (.fn (.func 112) [] []) [.agg [.int .i64 k, .int .i64 n, .str t, .int .i64 c]] st = some (.val (.agg [.int .i64 k, .int .i64 0, .str [], .int .i64 c]) st) :=
  callV_ret E112 (by decide) ext112 rfl rfl (bare_eq ⟨k, n, t, c⟩) rfl
attribute [simp] eqAggA eqFieldsA Try.stoodInHeld46 Try.eqGuardType46

/-- Whether a node's fields may be. -/
def fitsS (n : Nd) : Bool :=
  if n.kind = 1 then decide (wAndNot .i64 n.num 1 = 0) && decide (n.text = []) && decide (n.kids = 0)
  else if n.kind = 0 then decide (n.num = 0) && decide (n.text = []) && decide (n.kids = 0)
  else if n.kind = 2 then decide (n.text = []) && decide (n.kids = 0)
  else if n.kind = 3 then decide (n.num = 0) && decide (n.kids = 0)
  else if n.kind = 4 ∨ n.kind = 5 then decide (n.num = 0) && decide (n.text = []) && decide (0 ≤ n.kids)
  else false

set_option maxHeartbeats 8000000 in
theorem fits_eq (n : Nd) : cl 84 [n.v] [] = some (.ret (.bool (fitsS n)), []) := by
  obtain ⟨k, nu, t, c⟩ := n
  refine fn_intro Try.func84 rfl (by simp) (by decide) rfl ?_
  simp only [Try.f84, Nd.v]
  by_cases h1 : k = 1
  · simp [h1, bare_call, fitsS]; exact end_is (.inr rfl) (by simp; rfl) rfl rfl
  by_cases h2 : k = 0
  · simp [h2, bare_call, fitsS]; exact end_is (.inr rfl) (by simp; rfl) rfl rfl
  by_cases h3 : k = 2
  · simp [h3, bare_call, fitsS]; exact end_is (.inr rfl) (by simp; rfl) rfl rfl
  by_cases h4 : k = 3
  · simp [h4, bare_call, fitsS]; exact end_is (.inr rfl) (by simp; rfl) rfl rfl
  by_cases h5 : k = 4
  · simp [h5, bare_call, fitsS]; exact end_is (.inr rfl) (by simp; rfl) rfl rfl
  by_cases h6 : k = 5
  · simp [h6, bare_call, fitsS]; exact end_is (.inr rfl) (by simp; rfl) rfl rfl
  simp [h1, h2, h3, h4, h5, h6, fitsS]
  exact end_is (.inr rfl) (by simp; rfl) rfl rfl
theorem fits_call {d : Option Nat} {st : ASt} {k n c : Int} {t : List UInt8} : callV G cl d (.fn (.func 84) [] []) [.agg [.int .i64 k, .int .i64 n, .str t, .int .i64 c]] st = some (.val (.bool (fitsS ⟨k, n, t, c⟩)) st) :=
  callV_ret E84 (by decide) ext84 rfl rfl (fits_eq ⟨k, n, t, c⟩) rfl
theorem need_call_t {d : Option Nat} {st : ASt} : callV G cl d (.fn (.func 83) [] []) [.bool true] st = some (.val (.tup []) st) := callV_ret E83 (by decide) ext83 rfl rfl need_t rfl
theorem need_call_f {d : Option Nat} {st : ASt} : callV G cl d (.fn (.func 83) [] []) [.bool false] st = some (.pan (.iface 114 (.agg [])) st) := callV_pan E83 (by decide) ext83 rfl rfl need_f rfl
end Go.Proofs.Ytonaejfpiihfhaa

/- What the functions come to: nodes, by the document. -/
namespace Go.Proofs.Ytonaejfpiihfhaa
open Go Abs
set_option linter.unusedSimpArgs false
set_option linter.unusedVariables false

/-- Whether a node's fields may be, by the document. -/
def plainS (n : Nd) : Bool :=
  decide (0 ≤ n.kind) && decide (n.kind ≤ 5) && (decide (n.kind = 2) || decide (n.num = 0) || decide (n.kind = 1) && decide (n.num = 1)) && (decide (n.kind = 3) || decide (n.text = [])) &&
    (decide (n.kids = 0) || decide (0 < n.kids) && (decide (n.kind = 4) || decide (n.kind = 5)))

set_option maxHeartbeats 8000000 in
theorem plain_eq (n : Nd) : cl 80 [n.v] [] = some (.ret (.bool (plainS n)), []) := by
  obtain ⟨k, nu, t, c⟩ := n
  refine fn_intro Try.func80 rfl (by simp) (by decide) rfl ?_
  simp only [Try.f80, Nd.v]
  simp
  exact end_is (.inr rfl) (by simp; rfl) rfl (by simp [plainS, Bool.and_assoc, Bool.or_assoc])
theorem plain_call {d : Option Nat} {st : ASt} {k n c : Int} {t : List UInt8} : callV G cl d (.fn (.func 80) [] []) [.agg [.int .i64 k, .int .i64 n, .str t, .int .i64 c]] st = some (.val (.bool (plainS ⟨k, n, t, c⟩)) st) :=
  callV_ret E80 (by decide) ext80 rfl rfl (plain_eq ⟨k, n, t, c⟩) rfl

/-- A round, and the loop's head behind it. -/
noncomputable def rX (f : FuncId) (c : Code) : Option (AX × ASt) → Option (AX × ASt)
  | some (.normal, s) => (canon G f c s).map fun s => (.normal, s)
  | r => r
@[simp] theorem rX_n {f c s} : rX f c (some (.normal, s)) = (canon G f c s).map fun s => (.normal, s) := rfl
@[simp] theorem rX_e {f c i s} : rX f c (some (.exit i, s)) = some (.exit i, s) := rfl
@[simp] theorem rX_r {f c s} : rX f c (some (.ret, s)) = some (.ret, s) := rfl
@[simp] theorem rX_p {f c v s} : rX f c (some (.pan v, s)) = some (.pan v, s) := rfl
theorem loop_next {f : FuncId} {c : Code} {st st' : ASt} {r : AX × ASt} (h : rX f c (codeX G cl lp f c st) = some (.normal, st')) (hr : lp f c st' = some r) : lp f c st = some r := by
  refine loop_intro ?_
  unfold loopStep
  cases hx : codeX G cl lp f c st with
  | none => rw [hx] at h; cases h
  | some y =>
    obtain ⟨x, s⟩ := y
    rw [hx] at h
    cases x with
    | normal =>
      obtain ⟨s2, h1, h2⟩ := Option.map_eq_some_iff.1 h
      cases h2
      simp only [Option.bind_some, h1]; exact hr
    | _ => cases h
theorem loop_out {f : FuncId} {c : Code} {st s : ASt} {x : AX} (h : rX f c (codeX G cl lp f c st) = some (x, s)) (hx : x ≠ .normal) : lp f c st = some (x, s) := by
  refine loop_intro ?_
  unfold loopStep
  cases hy : codeX G cl lp f c st with
  | none => rw [hy] at h; cases h
  | some y =>
    obtain ⟨x', s'⟩ := y
    rw [hy] at h
    cases x' with
    | normal =>
      obtain ⟨s2, h1, h2⟩ := Option.map_eq_some_iff.1 h
      cases h2; exact absurd rfl hx
    | _ => exact h
/-- The code of a function's first loop; of the next. -/
def loopsOf : Code → List Code
  | .seq a b => loopsOf a ++ loopsOf b
  | .cond _ a b => loopsOf a ++ loopsOf b
  | .block _ b => loopsOf b
  | .loop b => b :: loopsOf b
  | _ => []
noncomputable def lc (f : Func) (k : Nat) : Code := ((loopsOf (f.body.getD .skip))[k]?).getD .skip

theorem i64_wrap {a : Int} (h1 : -9223372036854775808 ≤ a) (h2 : a ≤ 9223372036854775807) : IntKind.i64.wrap a = a := by rw [IntKind.wrap_i64]; omega

/-- A loop over the numbers below n, that may be left early. -/
theorem for_loop {f : FuncId} {c : Code} {n : Nat} {σ : Nat → ASt} {P : Nat → Prop} {Q : AX → ASt → Prop}
    (hstep : ∀ i, i < n → P i → (rX f c (codeX G cl lp f c (σ i)) = some (.normal, σ (i + 1)) ∧ P (i + 1)) ∨ ∃ x s, rX f c (codeX G cl lp f c (σ i)) = some (x, s) ∧ x ≠ .normal ∧ Q x s)
    (hend : P n → ∃ x s, rX f c (codeX G cl lp f c (σ n)) = some (x, s) ∧ x ≠ .normal ∧ Q x s) : ∀ i, i ≤ n → P i → ∃ x s, lp f c (σ i) = some (x, s) ∧ Q x s := by
  intro i hi
  generalize hk : n - i = k
  induction k generalizing i with
  | zero =>
    intro hp
    obtain rfl : i = n := by omega
    obtain ⟨x, s, h1, h2, h3⟩ := hend hp
    exact ⟨x, s, loop_out h1 h2, h3⟩
  | succ k ih =>
    intro hp
    rcases hstep i (by omega) hp with ⟨h1, h2⟩ | ⟨x, s, h1, h2, h3⟩
    · obtain ⟨x, s, h3, h4⟩ := ih (i + 1) (by omega) (by omega) h2
      exact ⟨x, s, loop_next h1 h3, h4⟩
    · exact ⟨x, s, loop_out h1 h2, h3⟩
attribute [simp] canonK_p

/-! Few -/
def fewS (l : List Nd) : Bool := decide (l.length ≤ 130) && (l.take 131).all fun n => decide (n.text.length ≤ 130)
theorem few_loop (l : List Nd) : ∃ x s, lp 15 (lc Try.f15 0) { sl := [(0, nds l), (3, .int .i64 0)], hp := [] } = some (x, s) ∧
    ((x = .ret ∧ s = { sl := [(2, .bool false)], hp := [] } ∧ fewS l = false) ∨ (x = .exit 0 ∧ (∃ sl, s = { sl := (0, nds l) :: sl, hp := [] }) ∧ (l.take 131).all (fun n => decide (n.text.length ≤ 130)) = true)) := by
  have := for_loop (f := 15) (c := lc Try.f15 0) (n := min l.length 131) (σ := fun i => { sl := [(0, nds l), (3, .int .i64 (i : Int))], hp := [] }) (P := fun i => (l.take i).all (fun n => decide (n.text.length ≤ 130)) = true)
    (Q := fun x s => (x = .ret ∧ s = { sl := [(2, .bool false)], hp := [] } ∧ fewS l = false) ∨ (x = .exit 0 ∧ (∃ sl, s = { sl := (0, nds l) :: sl, hp := [] }) ∧ (l.take 131).all (fun n => decide (n.text.length ≤ 130)) = true))
    (fun i hi hp => ?_) (fun hp => ?_) 0 (by omega) (by simp)
  · exact this
  · have h1 : i < l.length := by omega
    obtain ⟨n, hn⟩ : ∃ n, l[i]? = some n := ⟨l[i], List.getElem?_eq_getElem h1⟩
    have h1' : (i : Int) < l.length := by omega
    have h2' : (i : Int) ≤ 130 := by omega
    have hw : IntKind.i64.wrap ((i : Int) + 1) = (i : Int) + 1 := i64_wrap (by omega) (by omega)
    by_cases ht : n.text.length ≤ 130
    · left
      have h3' : ¬ (130 < (n.text.length : Int)) := by omega
      refine ⟨by simp [lc, loopsOf, Try.f15, nds, h1', h2', hn, Nd.v, h3', hw], ?_⟩
      rw [List.take_add_one, hn]
      simp only [List.all_append, hp, Option.toList_some, List.all_cons, List.all_nil, Bool.and_true, Bool.true_and]
      simpa using ht
    · right
      have h3' : 130 < (n.text.length : Int) := by omega
      refine ⟨.ret, _, by simp [lc, loopsOf, Try.f15, nds, h1', h2', hn, Nd.v, h3', hw], by simp, .inl ⟨rfl, rfl, ?_⟩⟩
      have : n ∈ l.take 131 := List.mem_of_getElem? (i := i) (by rw [List.getElem?_take, if_pos (by omega)]; exact hn)
      unfold fewS
      rw [Bool.and_eq_false_iff]; right
      rw [List.all_eq_false]
      exact ⟨n, this, by simpa using ht⟩
  · have hall : (l.take 131).all (fun n => decide (n.text.length ≤ 130)) = true := by
      rcases Nat.le_total l.length 131 with h | h
      · rw [Nat.min_eq_left h, List.take_of_length_le (Nat.le_refl _)] at hp
        rw [List.take_of_length_le h]; exact hp
      · rwa [Nat.min_eq_right h] at hp
    rcases Nat.lt_or_ge l.length 131 with h | h
    · have e : min l.length 131 = l.length := by omega
      exact ⟨.exit 0, ⟨[(0, nds l), (3, .int .i64 (min l.length 131 : Nat)), (11, .bool false)], []⟩, by simp [lc, loopsOf, Try.f15, nds, e], by simp, .inr ⟨rfl, ⟨_, rfl⟩, hall⟩⟩
    · have e : min l.length 131 = 131 := by omega
      by_cases h2 : l.length = 131
      · exact ⟨.exit 0, ⟨[(0, nds l), (3, .int .i64 (min l.length 131 : Nat)), (11, .bool false)], []⟩, by simp [lc, loopsOf, Try.f15, nds, e, h2], by simp, .inr ⟨rfl, ⟨_, rfl⟩, hall⟩⟩
      · have h3 : (131 : Int) < l.length := by omega
        exact ⟨.exit 0, ⟨[(0, nds l), (3, .int .i64 (min l.length 131 : Nat)), (11, .bool false)], []⟩, by simp [lc, loopsOf, Try.f15, nds, e, h3], by simp, .inr ⟨rfl, ⟨_, rfl⟩, hall⟩⟩

theorem few_eq (l : List Nd) : cl 15 [nds l] [] = some (.ret (.bool (fewS l)), []) := by
  obtain ⟨x, s, h, hx⟩ := few_loop l
  refine fn_intro Try.func15 rfl (by simp) (by decide) rfl ?_
  simp only [lc, loopsOf, Try.f15, nds, Option.getD_some] at h
  simp [loopsOf] at h
  rcases hx with ⟨rfl, rfl, hf⟩ | ⟨rfl, ⟨sl, rfl⟩, hall⟩
  · simp [Try.f15, nds, h]
    exact end_is (.inr rfl) (by simp; rfl) rfl (by simp [hf])
  · by_cases hl : l.length ≤ 130
    · have hl' : (l.length : Int) ≤ 130 := by omega
      simp [Try.f15, nds, h, hl']
      exact end_is (.inr rfl) (by simp; rfl) rfl (by simp [fewS, hl]; simpa using hall)
    · have hl' : ¬ (l.length : Int) ≤ 130 := by omega
      simp [Try.f15, nds, h, hl']
      exact end_is (.inr rfl) (by simp; rfl) rfl (by simp [fewS, hl])
end Go.Proofs.Ytonaejfpiihfhaa

/- What the functions come to: rows of nodes that are the same; texts that are too long. -/
namespace Go.Proofs.Ytonaejfpiihfhaa
open Go Abs
set_option linter.unusedSimpArgs false
set_option linter.unusedVariables false

theorem nd_ne {n m : Nd} (h : n ≠ m) : ¬ n.kind = m.kind ∨ (n.kind = m.kind ∧ ¬ n.num = m.num) ∨ (n.kind = m.kind ∧ n.num = m.num ∧ ¬ n.text = m.text) ∨ (n.kind = m.kind ∧ n.num = m.num ∧ n.text = m.text ∧ ¬ n.kids = m.kids) := by
  obtain ⟨a, b, c, d⟩ := n; obtain ⟨a', b', c', d'⟩ := m
  simp only [ne_eq, Nd.mk.injEq, not_and] at h ⊢
  by_cases h1 : a = a' <;> by_cases h2 : b = b' <;> by_cases h3 : c = c' <;> simp_all

theorem take_eq_of {α : Type} {l m : List α} {i : Nat} (h : l.take i = m.take i) {x y : α} (hx : l[i]? = some x) (hy : m[i]? = some y) : l.take (i + 1) = m.take (i + 1) ↔ x = y := by
  rw [List.take_add_one, List.take_add_one, hx, hy, h]
  simp

set_option maxHeartbeats 8000000 in
theorem same18_loop (a b : List Nd) (hl : a.length = b.length) (hb : a.length ≤ 9223372036854775806) : ∃ x s, lp 18 (lc Try.f18 0) { sl := [(0, nds a), (1, nds b), (5, .int .i64 0)], hp := [] } = some (x, s) ∧
    ((x = .ret ∧ s = { sl := [(4, .bool false)], hp := [] } ∧ a ≠ b) ∨ (x = .exit 0 ∧ (∃ sl, s = { sl, hp := [] }) ∧ a = b)) := by
  refine for_loop (f := 18) (c := lc Try.f18 0) (n := a.length) (σ := fun i => { sl := [(0, nds a), (1, nds b), (5, .int .i64 (i : Int))], hp := [] }) (P := fun i => a.take i = b.take i)
    (Q := fun x s => (x = .ret ∧ s = { sl := [(4, .bool false)], hp := [] } ∧ a ≠ b) ∨ (x = .exit 0 ∧ (∃ sl, s = { sl, hp := [] }) ∧ a = b))
    (fun i hi hp => ?_) (fun hp => ?_) 0 (by omega) (by simp)
  · obtain ⟨n, hn⟩ : ∃ n, a[i]? = some n := ⟨a[i], List.getElem?_eq_getElem hi⟩
    obtain ⟨m, hm⟩ : ∃ m, b[i]? = some m := ⟨b[i], List.getElem?_eq_getElem (by omega)⟩
    have h1 : (i : Int) < a.length := by omega
    have hw : IntKind.i64.wrap ((i : Int) + 1) = (i : Int) + 1 := i64_wrap (by omega) (by omega)
    by_cases hnm : n = m
    · subst hnm
      left
      refine ⟨?_, (take_eq_of hp hn hm).2 rfl⟩
      simp [lc, loopsOf, Try.f18, nds, h1, hn, hm, Nd.v, hw]
    · right
      have hne : a ≠ b := fun e => hnm (by subst e; rw [hn] at hm; exact Option.some.inj hm)
      have : rX 18 (lc Try.f18 0) (codeX G cl lp 18 (lc Try.f18 0) { sl := [(0, nds a), (1, nds b), (5, .int .i64 (i : Int))], hp := [] }) = some (.ret, { sl := [(4, .bool false)], hp := [] }) := by
        rcases nd_ne hnm with q | ⟨q1, q⟩ | ⟨q1, q2, q⟩ | ⟨q1, q2, q3, q⟩
        · simp [lc, loopsOf, Try.f18, nds, h1, hn, hm, Nd.v, hw, q]
        · simp [lc, loopsOf, Try.f18, nds, h1, hn, hm, Nd.v, hw, q1, q]
        · simp [lc, loopsOf, Try.f18, nds, h1, hn, hm, Nd.v, hw, q1, q2, q]
        · simp [lc, loopsOf, Try.f18, nds, h1, hn, hm, Nd.v, hw, q1, q2, q3, q]
      exact ⟨.ret, _, this, by simp, .inl ⟨rfl, rfl, hne⟩⟩
  · have e : a = b := by rw [List.take_of_length_le (Nat.le_refl _), List.take_of_length_le (by omega)] at hp; exact hp
    exact ⟨.exit 0, ⟨[(0, nds a), (1, nds b), (5, .int .i64 a.length), (14, .bool false)], []⟩, by simp [lc, loopsOf, Try.f18, nds], by simp, .inr ⟨rfl, ⟨_, rfl⟩, e⟩⟩
theorem same18_eq (a b : List Nd) (hb : a.length ≤ 9223372036854775806) : cl 18 [nds a, nds b] [] = some (.ret (.bool (decide (a = b))), []) := by
  refine fn_intro Try.func18 rfl (by simp) (by decide) rfl ?_
  by_cases hl : a.length = b.length
  · obtain ⟨x, s, h, hx⟩ := same18_loop a b hl hb
    simp [lc, loopsOf, Try.f18, nds, Option.getD_some] at h
    rcases hx with ⟨rfl, rfl, hf⟩ | ⟨rfl, ⟨sl, rfl⟩, hall⟩
    · simp [Try.f18, nds, h, hl]
      exact end_is (.inr rfl) (by simp; rfl) rfl (by simp [hf])
    · simp [Try.f18, nds, h, hl]
      exact end_is (.inr rfl) (by simp; rfl) rfl (by simp [hall])
  · have hl' : ¬ (a.length : Int) = b.length := by omega
    have hne : a ≠ b := fun e => hl (by rw [e])
    simp [Try.f18, nds, hl']
    exact end_is (.inr rfl) (by simp; rfl) rfl (by simp [hne])
end Go.Proofs.Ytonaejfpiihfhaa

/- What the functions come to: slices.Equal, ContainsFunc over nodes. -/
namespace Go.Proofs.Ytonaejfpiihfhaa
open Go Abs
set_option linter.unusedSimpArgs false
set_option linter.unusedVariables false

set_option maxHeartbeats 8000000 in
theorem equal52_loop (a b : List Nd) (hl : a.length = b.length) (hb : a.length ≤ 9223372036854775806) : ∃ x s, lp 52 (lc Try.f52 0) { sl := [(0, nds a), (1, nds b), (12, .int .i64 a.length), (13, .int .i64 0)], hp := [] } = some (x, s) ∧
    ((x = .ret ∧ s = { sl := [(4, .bool false)], hp := [] } ∧ a ≠ b) ∨ (x = .exit 0 ∧ (∃ sl, s = { sl, hp := [] }) ∧ a = b)) := by
  refine for_loop (f := 52) (c := lc Try.f52 0) (n := a.length) (σ := fun i => { sl := [(0, nds a), (1, nds b), (12, .int .i64 a.length), (13, .int .i64 (i : Int))], hp := [] }) (P := fun i => a.take i = b.take i)
    (Q := fun x s => (x = .ret ∧ s = { sl := [(4, .bool false)], hp := [] } ∧ a ≠ b) ∨ (x = .exit 0 ∧ (∃ sl, s = { sl, hp := [] }) ∧ a = b))
    (fun i hi hp => ?_) (fun hp => ?_) 0 (by omega) (by simp)
  · obtain ⟨n, hn⟩ : ∃ n, a[i]? = some n := ⟨a[i], List.getElem?_eq_getElem hi⟩
    obtain ⟨m, hm⟩ : ∃ m, b[i]? = some m := ⟨b[i], List.getElem?_eq_getElem (by omega)⟩
    have h1 : (i : Int) < a.length := by omega
    have hw : IntKind.i64.wrap ((i : Int) + 1) = (i : Int) + 1 := i64_wrap (by omega) (by omega)
    by_cases hnm : n = m
    · subst hnm
      left
      refine ⟨?_, (take_eq_of hp hn hm).2 rfl⟩
      simp [lc, loopsOf, Try.f52, nds, h1, hn, hm, Nd.v, hw]
    · right
      have hne : a ≠ b := fun e => hnm (by subst e; rw [hn] at hm; exact Option.some.inj hm)
      have : rX 52 (lc Try.f52 0) (codeX G cl lp 52 (lc Try.f52 0) { sl := [(0, nds a), (1, nds b), (12, .int .i64 a.length), (13, .int .i64 (i : Int))], hp := [] }) = some (.ret, { sl := [(4, .bool false)], hp := [] }) := by
        rcases nd_ne hnm with q | ⟨q1, q⟩ | ⟨q1, q2, q⟩ | ⟨q1, q2, q3, q⟩
        · simp [lc, loopsOf, Try.f52, nds, h1, hn, hm, Nd.v, hw, q]
        · simp [lc, loopsOf, Try.f52, nds, h1, hn, hm, Nd.v, hw, q1, q]
        · simp [lc, loopsOf, Try.f52, nds, h1, hn, hm, Nd.v, hw, q1, q2, q]
        · simp [lc, loopsOf, Try.f52, nds, h1, hn, hm, Nd.v, hw, q1, q2, q3, q]
      exact ⟨.ret, _, this, by simp, .inl ⟨rfl, rfl, hne⟩⟩
  · have e : a = b := by rw [List.take_of_length_le (Nat.le_refl _), List.take_of_length_le (by omega)] at hp; exact hp
    exact ⟨.exit 0, ⟨[(0, nds a), (1, nds b), (12, .int .i64 a.length), (13, .int .i64 a.length), (14, .bool false)], []⟩, by simp [lc, loopsOf, Try.f52, nds], by simp, .inr ⟨rfl, ⟨_, rfl⟩, e⟩⟩
theorem equal52_eq (a b : List Nd) (hb : a.length ≤ 9223372036854775806) : cl 52 [nds a, nds b] [] = some (.ret (.bool (decide (a = b))), []) := by
  refine fn_intro Try.func52 rfl (by simp) (by decide) rfl ?_
  by_cases hl : a.length = b.length
  · obtain ⟨x, s, h, hx⟩ := equal52_loop a b hl hb
    simp [lc, loopsOf, Try.f52, nds, Option.getD_some] at h
    rcases hx with ⟨rfl, rfl, hf⟩ | ⟨rfl, ⟨sl, rfl⟩, hall⟩
    · rw [hl] at h
      simp [Try.f52, nds, h, hl]
      exact end_is (.inr rfl) (by simp; rfl) rfl (by simp [hf])
    · rw [hl] at h
      simp [Try.f52, nds, h, hl]
      exact end_is (.inr rfl) (by simp; rfl) rfl (by simp [hall])
  · have hl' : ¬ (a.length : Int) = b.length := by omega
    have hne : a ≠ b := fun e => hl (by rw [e])
    simp [Try.f52, nds, hl']
    exact end_is (.inr rfl) (by simp; rfl) rfl (by simp [hne])
theorem equal52_call {a b : List Nd} (hb : a.length ≤ 9223372036854775806) {d : Option Nat} {st : ASt} : callV G cl d (.fn (.func 52) [] []) [nds a, nds b] st = some (.val (.bool (decide (a = b))) st) :=
  callV_ret E52 (by decide) ext52 rfl rfl (equal52_eq a b hb) rfl
theorem tsame_eq (a b : List Nd) (hb : a.length ≤ 9223372036854775806) : cl 21 [nds a, nds b] [] = some (.ret (.bool (decide (a = b))), []) := by
  refine fn_intro Try.func21 rfl (by simp) (by decide) rfl ?_
  simp [Try.f21, equal52_call hb]
  exact end_is (.inr rfl) (by simp; rfl) rfl (by simp)

/-! Texts that are too long -/
theorem long_eq (n : Nd) : cl 48 [n.v] [] = some (.ret (.bool (decide (120 < n.text.length))), []) := by
  obtain ⟨k, nu, t, c⟩ := n
  refine fn_intro Try.func48 rfl (by simp) (by decide) rfl ?_
  simp [Try.f48, Nd.v]
  exact end_is (.inr rfl) (by simp; rfl) rfl (by simp; omega)
theorem long_call {d : Option Nat} {st : ASt} {k n c : Int} {t : List UInt8} : callV G cl d (.fn (.func 48) [] []) [.agg [.int .i64 k, .int .i64 n, .str t, .int .i64 c]] st = some (.val (.bool (decide (120 < t.length))) st) :=
  callV_ret E48 (by decide) ext48 rfl rfl (long_eq ⟨k, n, t, c⟩) rfl

set_option maxHeartbeats 8000000 in
theorem index81_loop (l : List Nd) (hb : l.length ≤ 9223372036854775806) : ∃ x s, lp 81 (lc Try.f81 0) { sl := [(0, nds l), (1, .fn (.func 48) [] []), (7, .int .i64 l.length), (8, .int .i64 0)], hp := [] } = some (x, s) ∧
    ((x = .ret ∧ (∃ j : Nat, s = { sl := [(4, .int .i64 j)], hp := [] }) ∧ l.any (fun n => decide (120 < n.text.length)) = true) ∨ (x = .exit 0 ∧ (∃ sl, s = { sl, hp := [] }) ∧ l.any (fun n => decide (120 < n.text.length)) = false)) := by
  refine for_loop (f := 81) (c := lc Try.f81 0) (n := l.length) (σ := fun i => { sl := [(0, nds l), (1, .fn (.func 48) [] []), (7, .int .i64 l.length), (8, .int .i64 (i : Int))], hp := [] }) (P := fun i => (l.take i).any (fun n => decide (120 < n.text.length)) = false)
    (Q := fun x s => (x = .ret ∧ (∃ j : Nat, s = { sl := [(4, .int .i64 j)], hp := [] }) ∧ l.any (fun n => decide (120 < n.text.length)) = true) ∨ (x = .exit 0 ∧ (∃ sl, s = { sl, hp := [] }) ∧ l.any (fun n => decide (120 < n.text.length)) = false))
    (fun i hi hp => ?_) (fun hp => ?_) 0 (by omega) (by simp)
  · obtain ⟨n, hn⟩ : ∃ n, l[i]? = some n := ⟨l[i], List.getElem?_eq_getElem hi⟩
    have h1 : (i : Int) < l.length := by omega
    have hw : IntKind.i64.wrap ((i : Int) + 1) = (i : Int) + 1 := i64_wrap (by omega) (by omega)
    by_cases ht : 120 < n.text.length
    · right
      exact ⟨.ret, ⟨[(4, .int .i64 i)], []⟩, by simp [lc, loopsOf, Try.f81, nds, h1, hn, Nd.v, hw, long_call, ht], by simp, .inl ⟨rfl, ⟨i, rfl⟩, List.any_eq_true.2 ⟨n, List.mem_of_getElem? hn, by simpa using ht⟩⟩⟩
    · left
      refine ⟨by simp [lc, loopsOf, Try.f81, nds, h1, hn, Nd.v, hw, long_call, ht], ?_⟩
      rw [List.take_add_one, hn, List.any_append, hp]; simpa using ht
  · rw [List.take_of_length_le (Nat.le_refl _)] at hp
    exact ⟨.exit 0, ⟨[(0, nds l), (1, .fn (.func 48) [] []), (7, .int .i64 l.length), (8, .int .i64 l.length), (9, .bool false)], []⟩, by simp [lc, loopsOf, Try.f81, nds], by simp, .inr ⟨rfl, ⟨_, rfl⟩, hp⟩⟩
theorem index81_eq (l : List Nd) (hb : l.length ≤ 9223372036854775806) : ∃ j : Int, cl 81 [nds l, .fn (.func 48) [] []] [] = some (.ret (.int .i64 j), []) ∧ (0 ≤ j ↔ l.any (fun n => decide (120 < n.text.length)) = true) := by
  obtain ⟨x, s, h, hx⟩ := index81_loop l hb
  simp [lc, loopsOf, Try.f81, nds, Option.getD_some] at h
  rcases hx with ⟨rfl, ⟨j, rfl⟩, hf⟩ | ⟨rfl, ⟨sl, rfl⟩, hf⟩
  · refine ⟨j, fn_intro Try.func81 rfl (by simp) (by decide) rfl ?_, by simp [hf]⟩
    simp [Try.f81, nds, h]
    exact end_is (.inr rfl) (by simp; rfl) rfl rfl
  · refine ⟨-1, fn_intro Try.func81 rfl (by simp) (by decide) rfl ?_, by simp [hf]⟩
    simp [Try.f81, nds, h]
    exact end_is (.inr rfl) (by simp; rfl) rfl rfl
def longS (l : List Nd) : Bool := l.any fun n => decide (120 < n.text.length)
theorem contains49_eq (l : List Nd) (hb : l.length ≤ 9223372036854775806) : cl 49 [nds l, .fn (.func 48) [] []] [] = some (.ret (.bool (longS l)), []) := by
  obtain ⟨j, h, hj⟩ := index81_eq l hb
  have hc : ∀ {d : Option Nat} {st : ASt}, callV G cl d (.fn (.func 81) [] []) [nds l, .fn (.func 48) [] []] st = some (.val (.int .i64 j) st) := fun {d st} => callV_ret E81 (by decide) ext81 rfl rfl h rfl
  refine fn_intro Try.func49 rfl (by simp) (by decide) rfl ?_
  simp [Try.f49, hc]
  refine end_is (.inr rfl) (by simp; rfl) rfl ?_
  simp only [resOf_one, AV.bool.injEq]
  rw [Bool.eq_iff_iff, decide_eq_true_eq, hj]; rfl
theorem contains49_call {l : List Nd} (hb : l.length ≤ 9223372036854775806) {d : Option Nat} {st : ASt} : callV G cl d (.fn (.func 49) [] []) [nds l, .fn (.func 48) [] []] st = some (.val (.bool (longS l)) st) :=
  callV_ret E49 (by decide) ext49 rfl rfl (contains49_eq l hb) rfl
end Go.Proofs.Ytonaejfpiihfhaa

/- What the functions come to: a value, gone through. -/
namespace Go.Proofs.Ytonaejfpiihfhaa
open Go Abs
set_option linter.unusedSimpArgs false
set_option linter.unusedVariables false

structure Span where
  stop : Nat
  deep : Nat
  kids : List Nat
def intsL (l : List Nat) : List AV := l.map fun (k : Nat) => AV.int .i64 (k : Int)
def spanV (s : Span) : AV := .agg [.int .i64 s.stop, .int .i64 s.deep, .list 1 (intsL s.kids)]
def oddV : AV := .iface 114 (.agg [])
def valσ (l : List Nd) (at_ : Nat) (s : Span) (last : List UInt8) (i : Nat) (mv : Bool) : ASt :=
  ⟨[(0, nds l), (1, .int .i64 at_), (4, .ptr 1004 0 0), (5, .ptr 1005 0 0), (6, .str last), (7, .int .i64 i)],
   [(1004, .box 69 (.agg [.int .i64 0, .int .i64 0, .nils])), (1005, .box 69 (.agg [.int .i64 s.stop, .int .i64 s.deep, .own 200502])), (200502, .row 1 (intsL s.kids) false ⟨mv, 3⟩)]⟩

-- What a loop's head is unfolded by, where there is memory.
attribute [local simp] canonK canonAll canonSlot canonCell canonBox ownStep restrictTo pureCells pureRows reachL AObj.names List.range_succ appendA spanV intsL valσ nds Nd.v

theorem max_cast (a b : Nat) : ((max a b : Nat) : Int) = max (a : Int) b := by omega

set_option maxHeartbeats 8000000 in
theorem value_plain (l : List Nd) (at_ : Nat) (n : Nd) (hn : l[at_]? = some n) (hk : n.kind ≠ 5) (s : Span) (last : List UInt8) (i : Nat) (mv : Bool) (hi : (i : Int) < n.kids) (hkb : n.kids ≤ 9223372036854775807) (hc : s.kids.length ≤ 1000)
    (kid : Span) (hcall : ∀ d st, callV G cl d (.fn (.func 51) [] []) [nds l, .int .i64 s.stop] st = some (.val (spanV kid) st)) :
    rX 51 (lc Try.f51 0) (codeX G cl lp 51 (lc Try.f51 0) (valσ l at_ s last i mv)) = some (.normal, valσ l at_ ⟨kid.stop, max s.deep kid.deep, s.kids ++ [s.stop]⟩ last (i + 1) true) := by
  have h1 : (at_ : Int) < l.length := by have := (List.getElem?_eq_some_iff.1 hn).1; omega
  have hL : s.kids.length + 1 ≤ LIM := by unfold LIM; omega
  have hw : IntKind.i64.wrap ((i : Int) + 1) = (i : Int) + 1 := i64_wrap (by omega) (by have := hi; omega)
  simp [lc, loopsOf, Try.f51]
  simp at hcall
  simp [h1, hn, hi, hk, hcall, hL, hw, max_cast]
set_option maxHeartbeats 8000000 in
theorem value_plain_pan (l : List Nd) (at_ : Nat) (n : Nd) (hn : l[at_]? = some n) (hk : n.kind ≠ 5) (s : Span) (last : List UInt8) (i : Nat) (mv : Bool) (hi : (i : Int) < n.kids) (hc : s.kids.length ≤ 1000)
    (hcall : ∀ d st, callV G cl d (.fn (.func 51) [] []) [nds l, .int .i64 s.stop] st = some (.pan oddV st)) :
    ∃ s', rX 51 (lc Try.f51 0) (codeX G cl lp 51 (lc Try.f51 0) (valσ l at_ s last i mv)) = some (.pan oddV, s') := by
  have h1 : (at_ : Int) < l.length := by have := (List.getElem?_eq_some_iff.1 hn).1; omega
  have hL : s.kids.length + 1 ≤ LIM := by unfold LIM; omega
  simp [lc, loopsOf, Try.f51]
  simp at hcall
  simp [h1, hn, hi, hk, hcall, hL]
set_option maxHeartbeats 8000000 in
theorem value_map (l : List Nd) (at_ : Nat) (n : Nd) (hn : l[at_]? = some n) (hk : n.kind = 5) (s : Span) (last : List UInt8) (i : Nat) (mv : Bool) (hi : (i : Int) < n.kids) (hkb : n.kids ≤ 9223372036854775807) (hc : s.kids.length ≤ 1000)
    (m : Nd) (hm : l[s.stop]? = some m) (hmk : m.kind = 3) (hmf : fitsS m = true) (hml : i = 0 ∨ ltB last m.text = true) (hsb : s.stop ≤ 1000)
    (kid : Span) (hcall : ∀ d st, callV G cl d (.fn (.func 51) [] []) [nds l, .int .i64 ((s.stop + 1 : Nat) : Int)] st = some (.val (spanV kid) st)) :
    rX 51 (lc Try.f51 0) (codeX G cl lp 51 (lc Try.f51 0) (valσ l at_ s last i mv)) = some (.normal, valσ l at_ ⟨kid.stop, max s.deep kid.deep, s.kids ++ [s.stop + 1]⟩ m.text (i + 1) true) := by
  have h1 : (at_ : Int) < l.length := by have := (List.getElem?_eq_some_iff.1 hn).1; omega
  have h2 : (s.stop : Int) < l.length := by have := (List.getElem?_eq_some_iff.1 hm).1; omega
  have hL : s.kids.length + 1 ≤ LIM := by unfold LIM; omega
  have hw : IntKind.i64.wrap ((i : Int) + 1) = (i : Int) + 1 := i64_wrap (by omega) (by have := hi; omega)
  have hw2 : IntKind.i64.wrap ((s.stop : Int) + 1) = (s.stop : Int) + 1 := i64_wrap (by omega) (by omega)
  have hmf' : fitsS ⟨3, m.num, m.text, m.kids⟩ = true := by rw [← hmk]; exact hmf
  simp [lc, loopsOf, Try.f51]
  simp at hcall
  rcases hml with hml | hml
  · subst hml
    simp only [Int.natCast_zero, Int.zero_add] at hi hw
    simp [h1, h2, hn, hm, hmk, hmf', hi, hk, hcall, hL, hw, hw2, max_cast, need_call_t, fits_call]
  · simp [h1, h2, hn, hm, hmk, hmf', hml, hi, hk, hcall, hL, hw, hw2, max_cast, need_call_t, fits_call]
set_option maxHeartbeats 8000000 in
theorem value_map_pan (l : List Nd) (at_ : Nat) (n : Nd) (hn : l[at_]? = some n) (hk : n.kind = 5) (s : Span) (last : List UInt8) (i : Nat) (mv : Bool) (hi : (i : Int) < n.kids) (hc : s.kids.length ≤ 1000)
    (m : Nd) (hm : l[s.stop]? = some m) (hmk : m.kind = 3) (hmf : fitsS m = true) (hml : i = 0 ∨ ltB last m.text = true) (hsb : s.stop ≤ 1000)
    (hcall : ∀ d st, callV G cl d (.fn (.func 51) [] []) [nds l, .int .i64 ((s.stop + 1 : Nat) : Int)] st = some (.pan oddV st)) :
    ∃ s', rX 51 (lc Try.f51 0) (codeX G cl lp 51 (lc Try.f51 0) (valσ l at_ s last i mv)) = some (.pan oddV, s') := by
  have h1 : (at_ : Int) < l.length := by have := (List.getElem?_eq_some_iff.1 hn).1; omega
  have h2 : (s.stop : Int) < l.length := by have := (List.getElem?_eq_some_iff.1 hm).1; omega
  have hL : s.kids.length + 1 ≤ LIM := by unfold LIM; omega
  have hw2 : IntKind.i64.wrap ((s.stop : Int) + 1) = (s.stop : Int) + 1 := i64_wrap (by omega) (by omega)
  have hmf' : fitsS ⟨3, m.num, m.text, m.kids⟩ = true := by rw [← hmk]; exact hmf
  simp [lc, loopsOf, Try.f51]
  simp at hcall
  rcases hml with hml | hml
  · subst hml
    simp only [Int.natCast_zero] at hi
    simp [h1, h2, hn, hm, hmk, hmf', hi, hk, hcall, hL, hw2, need_call_t, fits_call]
  · simp [h1, h2, hn, hm, hmk, hmf', hml, hi, hk, hcall, hL, hw2, need_call_t, fits_call]
set_option maxHeartbeats 8000000 in
theorem value_map_end (l : List Nd) (at_ : Nat) (n : Nd) (hn : l[at_]? = some n) (hk : n.kind = 5) (s : Span) (last : List UInt8) (i : Nat) (mv : Bool) (hi : (i : Int) < n.kids) (hm : l[s.stop]? = none) :
    ∃ s', rX 51 (lc Try.f51 0) (codeX G cl lp 51 (lc Try.f51 0) (valσ l at_ s last i mv)) = some (.pan oddV, s') := by
  have h1 : (at_ : Int) < l.length := by have := (List.getElem?_eq_some_iff.1 hn).1; omega
  have h2 : ¬ (s.stop : Int) < l.length := by have := List.getElem?_eq_none_iff.1 hm; omega
  simp [lc, loopsOf, Try.f51]
  simp [h1, h2, hn, hi, hk, need_call_f, oddV]
set_option maxHeartbeats 8000000 in
theorem value_map_bad (l : List Nd) (at_ : Nat) (n : Nd) (hn : l[at_]? = some n) (hk : n.kind = 5) (s : Span) (last : List UInt8) (i : Nat) (mv : Bool) (hi : (i : Int) < n.kids)
    (m : Nd) (hm : l[s.stop]? = some m) (hbad : m.kind ≠ 3 ∨ (m.kind = 3 ∧ fitsS m = false) ∨ (m.kind = 3 ∧ fitsS m = true ∧ i ≠ 0 ∧ ltB last m.text = false)) :
    ∃ s', rX 51 (lc Try.f51 0) (codeX G cl lp 51 (lc Try.f51 0) (valσ l at_ s last i mv)) = some (.pan oddV, s') := by
  have h1 : (at_ : Int) < l.length := by have := (List.getElem?_eq_some_iff.1 hn).1; omega
  have h2 : (s.stop : Int) < l.length := by have := (List.getElem?_eq_some_iff.1 hm).1; omega
  simp [lc, loopsOf, Try.f51]
  rcases hbad with q | ⟨q1, q⟩ | ⟨q1, q2, q3, q4⟩
  · simp [h1, h2, hn, hm, q, hi, hk, need_call_t, need_call_f, fits_call, oddV]
  · have hmf' : fitsS ⟨3, m.num, m.text, m.kids⟩ = false := by rw [← q1]; exact q
    simp [h1, h2, hn, hm, q1, hmf', hi, hk, need_call_t, need_call_f, fits_call, oddV]
  · have hmf' : fitsS ⟨3, m.num, m.text, m.kids⟩ = true := by rw [← q1]; exact q2
    simp [h1, h2, hn, hm, q1, hmf', q3, q4, hi, hk, need_call_t, need_call_f, fits_call, oddV]
def valE (l : List Nd) (at_ : Nat) (s : Span) (last : List UInt8) (i : Nat) (mv : Bool) : ASt :=
  ⟨[(0, nds l), (1, .int .i64 at_), (4, .ptr 1004 0 0), (5, .ptr 1005 0 0), (6, .str last), (7, .int .i64 i), (31, .bool false)], (valσ l at_ s last i mv).hp⟩
theorem value_exit (l : List Nd) (at_ : Nat) (n : Nd) (hn : l[at_]? = some n) (s : Span) (last : List UInt8) (i : Nat) (mv : Bool) (hi : ¬ (i : Int) < n.kids) :
    rX 51 (lc Try.f51 0) (codeX G cl lp 51 (lc Try.f51 0) (valσ l at_ s last i mv)) = some (.exit 0, valE l at_ s last i mv) := by
  have h1 : (at_ : Int) < l.length := by have := (List.getElem?_eq_some_iff.1 hn).1; omega
  simp [lc, loopsOf, Try.f51]
  simp [h1, hn, hi, valE]
end Go.Proofs.Ytonaejfpiihfhaa

/- What the functions come to: tree.value. -/
namespace Go.Proofs.Ytonaejfpiihfhaa
open Go Abs
set_option linter.unusedSimpArgs false
set_option linter.unusedVariables false

/-- Where a kid begins; of a map behind its key. -/
def keyS (l : List Nd) (isMap : Bool) (i : Nat) (stop : Nat) (last : List UInt8) : Option (Nat × List UInt8) :=
  if isMap then (match l[stop]? with
    | some k => if k.kind = 3 ∧ fitsS k = true ∧ (i = 0 ∨ ltB last k.text = true) then some (stop + 1, k.text) else none
    | none => none)
  else some (stop, last)
def kidsS (val : Nat → Option Span) (l : List Nd) (isMap : Bool) : Nat → Nat → Span → List UInt8 → Option Span
  | 0, _, s, _ => some s
  | c + 1, i, s, last => (keyS l isMap i s.stop last).bind fun p => (val p.1).bind fun kid => kidsS val l isMap c (i + 1) ⟨kid.stop, max s.deep kid.deep, s.kids ++ [p.1]⟩ p.2
/-- The value at a place, gone through. -/
def valS (l : List Nd) : Nat → Nat → Option Span
  | 0, _ => none
  | k + 1, at_ => (l[at_]?).bind fun n => if fitsS n then (kidsS (valS l k) l (decide (n.kind = 5)) n.kids.toNat 0 ⟨at_ + 1, 0, []⟩ []).map fun s => { s with deep := s.deep + 1 } else none

theorem keyS_ge {l : List Nd} {b i stop last p} (h : keyS l b i stop last = some p) : stop ≤ p.1 := by
  unfold keyS at h
  split at h
  · split at h
    · split at h
      · cases h; simp
      · cases h
    · cases h
  · cases h; simp
theorem kidsS_spec {val : Nat → Option Span} {l : List Nd} {b : Bool} {A : Nat} (hv : ∀ st s, val st = some s → st < s.stop ∧ s.stop ≤ l.length ∧ s.deep + st ≤ s.stop) : ∀ {c i s last r}, kidsS val l b c i s last = some r → s.stop ≤ l.length → A ≤ s.stop → s.deep + A ≤ s.stop → s.stop ≤ r.stop ∧ r.stop ≤ l.length ∧ r.deep + A ≤ r.stop := by
  intro c
  induction c with
  | zero => intro i s last r h h1 h2 h3; cases h; exact ⟨Nat.le_refl _, h1, h3⟩
  | succ c ih =>
    intro i s last r h h1 h2 h3
    simp only [kidsS] at h
    rw [Option.bind_eq_some_iff] at h; obtain ⟨p, hp, h⟩ := h
    rw [Option.bind_eq_some_iff] at h; obtain ⟨kid, hk, h⟩ := h
    obtain ⟨g1, g2, g3⟩ := hv _ _ hk
    have := keyS_ge hp
    obtain ⟨k1, k2, k3⟩ := ih h g2 (by simp only; omega) (by simp only; omega)
    simp only at k1
    exact ⟨by omega, k2, k3⟩
theorem valS_spec {l : List Nd} : ∀ {k at_ s}, valS l k at_ = some s → at_ < s.stop ∧ s.stop ≤ l.length ∧ s.deep + at_ ≤ s.stop := by
  intro k
  induction k with
  | zero => intro at_ s h; cases h
  | succ k ih =>
    intro at_ s h
    simp only [valS] at h
    rw [Option.bind_eq_some_iff] at h; obtain ⟨n, hn, h⟩ := h
    split at h
    · obtain ⟨r, hr, rfl⟩ := Option.map_eq_some_iff.1 h
      have hlt := (List.getElem?_eq_some_iff.1 hn).1
      obtain ⟨h1, h2, h3⟩ := kidsS_spec (A := at_ + 1) (fun st s hs => ih hs) hr (by simp only; omega) (by simp) (by simp)
      simp only at h1 ⊢
      exact ⟨by omega, h2, by omega⟩
    · cases h

/-- What 'value' is told as. -/
def valR : Option Span → ARes
  | some s => .ret (spanV s)
  | none => .pan oddV

theorem value_loop (l : List Nd) (hl : l.length ≤ 900) (k at_ : Nat) (n : Nd) (hn : l[at_]? = some n) (hkb : n.kids ≤ 9223372036854775807)
    (ih : ∀ st, at_ < st → cl 51 [nds l, .int .i64 (st : Int)] [] = some (valR (valS l k st), [])) : ∀ (c i : Nat) (s : Span) (last : List UInt8) (mv : Bool), i + c = n.kids.toNat → at_ < s.stop → s.stop ≤ l.length → s.kids.length ≤ s.stop →
    match kidsS (valS l k) l (decide (n.kind = 5)) c i s last with
    | some sp => ∃ mv' last' i', lp 51 (lc Try.f51 0) (valσ l at_ s last i mv) = some (.exit 0, valE l at_ sp last' i' mv')
    | none => ∃ s', lp 51 (lc Try.f51 0) (valσ l at_ s last i mv) = some (.pan oddV, s') := by
  have call : ∀ st : Nat, at_ < st → ∀ d (w : ASt), callV G cl d (.fn (.func 51) [] []) [nds l, .int .i64 (st : Int)] w = some (pureR w (valR (valS l k st))) := by
    intro st hst d w
    refine callV_pure E51 (by decide) ext51 rfl rfl (ih st hst) ?_
    cases valS l k st <;> rfl
  intro c
  induction c with
  | zero =>
    intro i s last mv hi h1 h2 h3
    exact ⟨mv, last, i, loop_out (value_exit l at_ n hn s last i mv (by omega)) (by simp)⟩
  | succ c ihc =>
    intro i s last mv hi h1 h2 h3
    have hi' : (i : Int) < n.kids := by omega
    have hL : s.kids.length ≤ 1000 := by omega
    simp only [kidsS]
    by_cases hk : n.kind = 5
    · simp only [hk, decide_true] at ihc ⊢
      cases hm : l[s.stop]? with
      | none =>
        simp only [keyS, hm, if_true, Option.bind_none]
        obtain ⟨s', h⟩ := value_map_end l at_ n hn hk s last i mv hi' hm
        exact ⟨s', loop_out h (by simp)⟩
      | some m =>
        simp only [keyS, hm, if_true]
        by_cases hc : m.kind = 3 ∧ fitsS m = true ∧ (i = 0 ∨ ltB last m.text = true)
        · obtain ⟨c1, c2, c3⟩ := hc
          rw [if_pos ⟨c1, c2, c3⟩]
          simp only [Option.bind_some]
          have hcall := call (s.stop + 1) (by omega)
          cases hv : valS l k (s.stop + 1) with
          | none =>
            rw [hv] at hcall
            obtain ⟨s', h⟩ := value_map_pan l at_ n hn hk s last i mv hi' hL m hm c1 c2 c3 (by omega) (fun d st => hcall d st)
            exact ⟨s', loop_out h (by simp)⟩
          | some kid =>
            rw [hv] at hcall
            have h := value_map l at_ n hn hk s last i mv hi' hkb hL m hm c1 c2 c3 (by omega) kid (fun d st => hcall d st)
            obtain ⟨g1, g2, g3⟩ := valS_spec hv
            have := ihc (i + 1) ⟨kid.stop, max s.deep kid.deep, s.kids ++ [s.stop + 1]⟩ m.text true (by omega) (by simp only; omega) g2 (by simp; omega)
            simp only [Option.bind_some]
            split at this
            · rename_i sp hsp
              obtain ⟨mv', last', i', hr⟩ := this
              exact ⟨mv', last', i', loop_next h hr⟩
            · rename_i hsp
              obtain ⟨s', hr⟩ := this
              exact ⟨s', loop_next h hr⟩
        · rw [if_neg hc]
          simp only [Option.bind_none]
          have hbad : m.kind ≠ 3 ∨ (m.kind = 3 ∧ fitsS m = false) ∨ (m.kind = 3 ∧ fitsS m = true ∧ i ≠ 0 ∧ ltB last m.text = false) := by
            by_cases q1 : m.kind = 3
            · cases q2 : fitsS m with
              | false => exact .inr (.inl ⟨q1, rfl⟩)
              | true =>
                by_cases q3 : i = 0
                · exact absurd ⟨q1, q2, .inl q3⟩ hc
                · cases q4 : ltB last m.text with
                  | true => exact absurd ⟨q1, q2, .inr q4⟩ hc
                  | false => exact .inr (.inr ⟨q1, rfl, q3, rfl⟩)
            · exact .inl q1
          obtain ⟨s', h⟩ := value_map_bad l at_ n hn hk s last i mv hi' m hm hbad
          exact ⟨s', loop_out h (by simp)⟩
    · simp only [hk, decide_false] at ihc ⊢
      simp only [keyS, Bool.false_eq_true, if_false, Option.bind_some]
      have hcall := call s.stop h1
      cases hv : valS l k s.stop with
      | none =>
        rw [hv] at hcall
        obtain ⟨s', h⟩ := value_plain_pan l at_ n hn hk s last i mv hi' hL (fun d st => hcall d st)
        exact ⟨s', loop_out h (by simp)⟩
      | some kid =>
        rw [hv] at hcall
        have h := value_plain l at_ n hn hk s last i mv hi' hkb hL kid (fun d st => hcall d st)
        obtain ⟨g1, g2, g3⟩ := valS_spec hv
        have := ihc (i + 1) ⟨kid.stop, max s.deep kid.deep, s.kids ++ [s.stop]⟩ last true (by omega) (by simp only; omega) g2 (by simp; omega)
        simp only [Option.bind_some]
        split at this
        · rename_i sp hsp
          obtain ⟨mv', last', i', hr⟩ := this
          exact ⟨mv', last', i', loop_next h hr⟩
        · rename_i hsp
          obtain ⟨s', hr⟩ := this
          exact ⟨s', loop_next h hr⟩

-- What a loop's head is unfolded by, where there is memory.
attribute [local simp] canonK canonAll canonSlot canonCell canonBox ownStep restrictTo pureCells pureRows reachL AObj.names List.range_succ appendA spanV intsL valσ nds Nd.v

def Nd.inR (n : Nd) : Prop := -9223372036854775808 ≤ n.num ∧ n.num ≤ 9223372036854775807 ∧ -9223372036854775808 ≤ n.kids ∧ n.kids ≤ 9223372036854775807

theorem fits_kids {n : Nd} (h : fitsS n = true) : 0 ≤ n.kids := by
  unfold fitsS at h
  split at h
  · simp at h; omega
  split at h
  · simp at h; omega
  split at h
  · simp at h; omega
  split at h
  · simp at h; omega
  split at h
  · simp at h; omega
  · cases h

set_option maxHeartbeats 8000000 in
theorem value_beyond (l : List Nd) (at_ : Nat) (h : l[at_]? = none) : cl 51 [nds l, .int .i64 (at_ : Int)] [] = some (.pan oddV, []) := by
  have h1 : ¬ (at_ : Int) < l.length := by have := List.getElem?_eq_none_iff.1 h; omega
  refine fn_intro Try.func51 rfl (by simp) (by decide) rfl ?_
  simp [Try.f51, h1, need_call_f]
  exact end_pan rfl
set_option maxHeartbeats 8000000 in
theorem value_bad (l : List Nd) (at_ : Nat) (n : Nd) (hn : l[at_]? = some n) (hf : fitsS n = false) : cl 51 [nds l, .int .i64 (at_ : Int)] [] = some (.pan oddV, []) := by
  have h1 : (at_ : Int) < l.length := by have := (List.getElem?_eq_some_iff.1 hn).1; omega
  refine fn_intro Try.func51 rfl (by simp) (by decide) rfl ?_
  simp [Try.f51, h1, hn, hf, need_call_f, fits_call]
  exact end_pan rfl
set_option maxHeartbeats 8000000 in
theorem value_eq (l : List Nd) (hl : l.length ≤ 900) (hr : ∀ n ∈ l, n.inR) : ∀ (k at_ : Nat), l.length < at_ + k → cl 51 [nds l, .int .i64 (at_ : Int)] [] = some (valR (valS l k at_), []) := by
  intro k
  induction k with
  | zero =>
    intro at_ h
    exact value_beyond l at_ (List.getElem?_eq_none_iff.2 (by omega))
  | succ k ih =>
    intro at_ h
    simp only [valS]
    cases hn : l[at_]? with
    | none => exact value_beyond l at_ hn
    | some n =>
      simp only [Option.bind_some]
      cases hf : fitsS n with
      | false => exact value_bad l at_ n hn hf
      | true =>
        have hlt := (List.getElem?_eq_some_iff.1 hn).1
        have hnr := hr n (List.mem_of_getElem? hn)
        have h1 : (at_ : Int) < l.length := by omega
        have hw : IntKind.i64.wrap ((at_ : Int) + 1) = (at_ : Int) + 1 := i64_wrap (by omega) (by omega)
        have hloop := value_loop l hl k at_ n hn hnr.2.2.2 (fun st hst => ih st (by omega)) n.kids.toNat 0 ⟨at_ + 1, 0, []⟩ [] false (by omega) (by simp) (by simp only; omega) (by simp)
        have hbd : ∀ r, kidsS (valS l k) l (decide (n.kind = 5)) n.kids.toNat 0 ⟨at_ + 1, 0, []⟩ [] = some r → r.deep ≤ 900 := fun r hr => by
          obtain ⟨_, q1, q2⟩ := kidsS_spec (A := at_ + 1) (fun st s hs => valS_spec hs) hr (by simp only; omega) (by simp) (by simp)
          omega
        refine fn_intro Try.func51 rfl (by simp) (by decide) rfl ?_
        cases hks : kidsS (valS l k) l (decide (n.kind = 5)) n.kids.toNat 0 ⟨at_ + 1, 0, []⟩ [] with
        | none =>
          rw [hks] at hloop
          obtain ⟨s', hx⟩ := hloop
          simp [lc, loopsOf, Try.f51] at hx
          simp [Try.f51, h1, hn, hf, need_call_t, fits_call, hw, hx, valR]
          exact end_pan rfl
        | some sp =>
          rw [hks] at hloop
          obtain ⟨mv', last', i', hx⟩ := hloop
          have hd := hbd sp hks
          simp [lc, loopsOf, Try.f51] at hx
          have hw2 : IntKind.i64.wrap ((sp.deep : Int) + 1) = (sp.deep : Int) + 1 := i64_wrap (by omega) (by omega)
          simp [Try.f51, h1, hn, hf, need_call_t, fits_call, hw, hx, valR, valE, hw2]
          exact end_rv (.inr rfl) (by simp [resL]; rfl) (by simp) (by simp) rfl
end Go.Proofs.Ytonaejfpiihfhaa
