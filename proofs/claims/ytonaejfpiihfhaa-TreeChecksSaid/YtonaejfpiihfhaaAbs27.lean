/- All of it: WHAT THE INTERPRETER TELLS IS SO. -/
import Derived.Test.YtonaejfpiihfhaaAbs26b
namespace Go.Proofs.Ytonaejfpiihfhaa.Abs
open Go Go.RowKit
set_option linter.unusedSimpArgs false
set_option linter.unusedVariables false

variable {G : Cfg} {S : Stab} {ρ : Rho} {w : World} {E : Env} {st : ASt} {a : Act}

/-! ### All of them -/
def PrimSound (G : Cfg) (prim : FuncId → Option CallFn) : Prop := ∀ g p args hp r, G.E g = true → prim g = some p → p g args hp = some r → CallSound G.P g args hp r

theorem least_ex {p : Nat → Prop} (h : ∃ j, p j) : ∃ j, p j ∧ ∀ i, p i → j ≤ i := by
  obtain ⟨j, hj⟩ := h
  induction j using Nat.strongRecOn with
  | _ j ih =>
    by_cases hx : ∃ i, i < j ∧ p i
    · obtain ⟨i, hi, hp⟩ := hx; exact ih i hi hp
    · exact ⟨j, hj, fun i hi => Nat.le_of_not_lt fun hlt => hx ⟨i, hlt, hi⟩⟩

theorem sound (GE : GSound G) {prim : FuncId → Option CallFn} (hprim : PrimSound G prim) : ∀ k,
    CallOK G (cK G prim k) ∧ ∀ f c st r, lK G prim k f c st = some r → LoopSound G f c st r := by
  intro k
  induction k using Nat.strongRecOn with
  | _ k ih =>
    refine ⟨⟨?_, ?_⟩, ?_⟩
    · intro g args hp r hg hE hr
      cases k with
      | zero => cases hr
      | succ k =>
        simp only [cK, both, if_pos hg] at hr
        cases hp0 : prim g with
        | some p => rw [hp0] at hr; exact hprim g p args hp r hE hp0 hr
        | none =>
          rw [hp0] at hr
          exact runFn_ok GE (ih k (by omega)).1 (ih k (by omega)).2 hE hr
    · intro L args hp r hr
      cases k with
      | zero => cases hr
      | succ k =>
        simp only [cK, both, if_neg (show ¬ RB + L < RB by omega), Nat.add_sub_cancel_left] at hr
        exact runRound_ok GE (ih k (by omega)).1 (ih k (by omega)).2 hr
    · intro f c st r hr base n ro E S ρ a w hro hd hpl hm h hn
      classical
      let J : Nat → Act → World → Prop := fun j a' w' => ∃ st S ρ, lK G prim j f c st = some r ∧ SR E st S ρ a'.tmps w' ∧ MarksB E.W0.heap.size base a'.defers w' ∧ a'.tmps.size = n
      let μ : Act → World → Nat := fun a' w' => if h : ∃ j, J j a' w' then (least_ex h).choose else 0
      refine wpIn_loop (fun a' w' => ∃ j, j ≤ k ∧ J j a' w') μ ⟨k, Nat.le_refl _, st, S, ρ, hr, h, hm, hn⟩ ?_
      rintro a1 w1 ⟨j0, hj0, hJ0⟩
      have hex : ∃ j, J j a1 w1 := ⟨j0, hJ0⟩
      have hμ : μ a1 w1 = (least_ex hex).choose := by simp only [μ]; rw [dif_pos hex]
      have hle : (least_ex hex).choose ≤ k := Nat.le_trans ((least_ex hex).choose_spec.2 j0 hJ0) hj0
      obtain ⟨st1, S1, ρ1, hr1, h1, hm1, hn1⟩ := (least_ex hex).choose_spec.1
      rw [hμ]
      generalize (least_ex hex).choose = j at *
      cases j with
      | zero => cases hr1
      | succ j =>
        simp only [lK, both] at hr1
        unfold loopStep at hr1
        rw [Option.bind_eq_some_iff] at hr1
        obtain ⟨⟨x, s⟩, hx, hr1⟩ := hr1
        have hw := codeX_ok (ro := ro) (n := n) GE (ih j (by omega)).1 (ih j (by omega)).2 c hro hd hpl hm1 h1 hn1 hx
        refine wpIn_mono hw fun e a2 w2 ⟨k1, k2, S2, ρ2, k3, k4⟩ => ?_
        cases x with
        | normal =>
          cases e with
          | normal =>
            simp only at hr1
            rw [Option.bind_eq_some_iff] at hr1
            obtain ⟨s', hs', hr2⟩ := hr1
            obtain ⟨S3, ρ3, k5⟩ := canon_ok k3 hs'
            have hJ : J j a2 w2 := ⟨s', S3, ρ3, hr2, k5, k1, k2⟩
            refine ⟨⟨j, by omega, hJ⟩, ?_⟩
            have hex2 : ∃ j, J j a2 w2 := ⟨j, hJ⟩
            simp only [μ]
            rw [dif_pos hex2]
            exact Nat.lt_succ_of_le ((least_ex hex2).choose_spec.2 j hJ)
          | _ => exact k4.elim
        | exit i =>
          simp only [Option.some.injEq] at hr1
          subst hr1
          cases e with
          | exit i' => exact ⟨k1, k2, S2, ρ2, k3, k4⟩
          | _ => exact k4.elim
        | ret =>
          simp only [Option.some.injEq] at hr1
          subst hr1
          cases e with
          | ret => exact ⟨k1, k2, S2, ρ2, k3, k4⟩
          | _ => exact k4.elim
        | pan v =>
          simp only [Option.some.injEq] at hr1
          subst hr1
          cases e with
          | panic ch => exact ⟨k1, k2, S2, ρ2, k3, k4⟩
          | _ => exact k4.elim

/-- WHAT THE INTERPRETER TELLS OF A CALL IS SO. -/
theorem callL_ok (GE : GSound G) {prim : FuncId → Option CallFn} (hprim : PrimSound G prim) {g : FuncId} (hg : g < RB) {args : List AV} {hp : Heap} {r : ARes × Heap} (hE : G.E g = true) (hr : callL G prim g args hp = some r) : CallSound G.P g args hp r := by
  obtain ⟨K, hK⟩ := of_limit hr
  exact (sound GE hprim K).1.fn g args hp r hg hE (hK K (Nat.le_refl _))

end Go.Proofs.Ytonaejfpiihfhaa.Abs
