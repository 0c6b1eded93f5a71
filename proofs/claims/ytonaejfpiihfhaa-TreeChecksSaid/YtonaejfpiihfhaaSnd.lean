/- The seat's tables are sound. -/
import Derived.Test.YtonaejfpiihfhaaWorks
namespace Go.Proofs.Ytonaejfpiihfhaa
open Go Abs
theorem extOK : ExtOK G := by
  intro g p hp args v hv S ρ w vs hl hvs
  have h : g = 123 ∧ p = cmpStr := by
    have hp : (if cmpT.contains g then some cmpStr else none) = some p := hp
    split at hp
    · rename_i hc
      cases hp
      exact ⟨by simpa [cmpT] using hc, rfl⟩
    · cases hp
  obtain ⟨rfl, rfl⟩ := h
  exact cmpStr_ok Try.func123 (by kernel_rfl) (by kernel_rfl) (by kernel_rfl) (by kernel_rfl) hv hl hvs
theorem E_lt (g : FuncId) (h : G.E g = true) : g < 157 := by
  have h : (hasBody[g]?).getD false = true := h
  rcases Nat.lt_or_ge g 157 with h1 | h1
  · exact h1
  · exfalso
    have hl : hasBody.length = 157 := by kernel_rfl
    rw [List.getElem?_eq_none_iff.2 (by omega)] at h
    cases h
theorem plansB_G0 (f : FuncId) (c : Code) : plansB G0 f c = plansB G f c := by
  induction c with
  | seq a b iha ihb => simp only [plansB, iha, ihb]
  | cond c a b iha ihb => simp only [plansB, iha, ihb]
  | block id b ih => simp only [plansB, ih]
  | scope b ih => simp only [plansB, ih]
  | loop b ih => simp only [plansB, ih]
  | rangeFunc g ps a b iha ihb => simp only [plansB, iha, ihb]
  | _ => rfl
theorem rOK_G0 (r : LRec) : rOK G0 r = rOK G r := by unfold rOK; simp only [plansB_G0]
theorem GS : GSound G := gsound 157 E_lt all_ok follows (fun r h => by rw [← rOK_G0]; exact h) extOK
theorem primOK : PrimSound G prim0 := by
  intro g p args hp r hE h1 h2
  have h1 : (if worksT.contains g then some worksP else none) = some p := h1
  split at h1
  · rename_i hc
    cases h1
    have hg : g = 14 := by simpa [worksT] using hc
    subst hg
    unfold worksP at h2
    split at h2
    · cases h2
      exact CallSound.of_run GS (fun g p args hp r _ h => by cases h) (by decide) hE works_run
    · cases h2
  · cases h1
end Go.Proofs.Ytonaejfpiihfhaa
