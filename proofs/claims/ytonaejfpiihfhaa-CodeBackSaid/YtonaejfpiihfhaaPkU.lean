/- What the laws CodeFirst and CodeCuts come to. What the law CodeCuts comes to. -/
import Derived.Test.YtonaejfpiihfhaaPkX
import Derived.Test.YtonaejfpiihfhaaPkN

/- What the laws CodeFirst and CodeCuts come to. -/
namespace Go.Proofs.Ytonaejfpiihfhaa
open Go Abs
set_option linter.unusedSimpArgs false
set_option linter.unusedVariables false
theorem putB_small {l : List Nd} (hc : checkS l = 0) : (putB l).length ≤ 30000 := valB_small l hc (l.length + 1) 0
/-- Of two values' bytes the one begins not the other's. -/
theorem put_alone {a b : List Nd} (ra : ∀ n ∈ a, n.inR) (ca : checkS a = 0) (rb : ∀ n ∈ b, n.inR) (cb : checkS b = 0) (hl : (putB a).length ≤ (putB b).length) (h : (putB b).take (putB a).length = putB a) : putB a = putB b := by
  have e : putB b = putB a ++ (putB b).drop (putB a).length := by
    conv => lhs; rw [← List.take_append_drop (putB a).length (putB b), h]
  have := put_prefix ra ca rb cb e
  rw [this, List.append_nil] at e
  exact e.symm
set_option maxHeartbeats 8000000 in
theorem codeFirst_eq (a : List Nd) (ra : ∀ n ∈ a, n.inR) (b : List Nd) (rb : ∀ n ∈ b, n.inR) (s : List UInt8) : cl 11 [nds a, nds b, .str s] [] = some (.ret (.bool true), []) := by
  refine fn_intro Try.func11 rfl (by simp) (by decide) rfl ?_
  have h35 := fun d st => works12_call (d := d) (st := st)
  have h15 := fun d st => few_call (l := a) (d := d) (st := st)
  have k15 := fun d st => few_call (l := b) (d := d) (st := st)
  simp only [nds] at h15 k15
  cases hf : fewS a with
  | false =>
    rw [hf] at h15
    simp [Try.f11, nds, h35, h15]
    exact end_is (.inr rfl) (by first | rfl | (simp; rfl)) rfl rfl
  | true =>
    rw [hf] at h15
    cases hg : fewS b with
    | false =>
      rw [hg] at k15
      simp [Try.f11, nds, h35, h15, k15]
      exact end_is (.inr rfl) (by first | rfl | (simp; rfl)) rfl rfl
    | true =>
      rw [hg] at k15
      have la := fewS_len hf
      have lb := fewS_len hg
      by_cases hl : 400 < s.length
      · have hl' : (400 : Int) < (s.length : Int) := by omega
        simp [Try.f11, nds, h35, h15, k15, hl']
        exact end_is (.inr rfl) (by first | rfl | (simp; rfl)) rfl rfl
      have hl' : ¬ (400 : Int) < (s.length : Int) := by omega
      have h36 := fun d st => put_call (l := a) (by omega) ra (d := d) (st := st)
      have k36 := fun d st => put_call (l := b) (by omega) rb (d := d) (st := st)
      unfold putV at h36 k36
      simp only [nds] at h36 k36
      by_cases ca : checkS a = 0
      case neg =>
        rw [if_neg ca] at h36
        by_cases cb : checkS b = 0
        · rw [if_pos cb] at k36
          simp [Try.f11, nds, h35, h15, k15, hl', h36, k36, ca]
          exact end_is (.inr rfl) (by first | rfl | (simp; rfl)) rfl rfl
        · rw [if_neg cb] at k36
          simp [Try.f11, nds, h35, h15, k15, hl', h36, k36, ca]
          exact end_is (.inr rfl) (by first | rfl | (simp; rfl)) rfl rfl
      rw [if_pos ca] at h36
      by_cases cb : checkS b = 0
      case neg =>
        rw [if_neg cb] at k36
        simp [Try.f11, nds, h35, h15, k15, hl', h36, k36, cb]
        exact end_is (.inr rfl) (by first | rfl | (simp; rfl)) rfl rfl
      rw [if_pos cb] at k36
      have sa := putB_small ca
      have sb := putB_small cb
      have h42 := fun d st => first_call (s := putB a ++ (putB b ++ s)) (by simp; omega) (d := d) (st := st)
      have k42 := fun d st => first_call (s := putB b ++ s) (by simp; omega) (d := d) (st := st)
      have l1 : (putB a).length + (putB b).length ≤ LIM := by unfold LIM; omega
      have l2 : (putB a).length + (putB b).length + s.length ≤ LIM := by unfold LIM; omega
      have l3 : (putB b).length + s.length ≤ LIM := by unfold LIM; omega
      have l4 : (putB b).length + (putB b).length ≤ LIM := by unfold LIM; omega
      have l5 : (putB b).length + (putB b).length + s.length ≤ LIM := by unfold LIM; omega
      have l6 : (putB a).length + ((putB b).length + s.length) ≤ LIM := by unfold LIM; omega
      have l7 : (putB b).length + ((putB b).length + s.length) ≤ LIM := by unfold LIM; omega
      rw [first_put ra ca] at h42
      rw [first_put rb cb] at k42
      by_cases hlen : (putB b).length < (putB a).length
      · simp [Try.f11, nds, h35, h15, k15, hl', h36, k36, h42, k42, hlen, l1, l2, l3, l6]
        exact end_is (.inr rfl) (by first | rfl | (simp; rfl)) rfl rfl
      · by_cases hp : (putB b).take (putB a).length = putB a
        · have he := put_alone ra ca rb cb (by omega) hp
          rw [he] at h36 h42 hlen hp
          simp [Try.f11, nds, h35, h15, k15, hl', h36, k36, h42, k42, hlen, hp, l3, l4, l5, l7]
          exact end_is (.inr rfl) (by first | rfl | (simp; rfl)) rfl rfl
        · have hle := Nat.le_of_not_lt hlen
          simp [Try.f11, nds, h35, h15, k15, hl', h36, k36, h42, k42, hlen, hle, hp, l1, l2, l3, l6]
          exact end_is (.inr rfl) (by first | rfl | (simp; rfl)) rfl rfl
end Go.Proofs.Ytonaejfpiihfhaa

/- What the law CodeCuts comes to. -/
namespace Go.Proofs.Ytonaejfpiihfhaa
open Go Abs
set_option linter.unusedSimpArgs false
set_option linter.unusedVariables false
theorem check_any {l : List Nd} (hr : ∀ n ∈ l, n.inR) {d : Option Nat} {st : ASt} : callV G cl d (.fn (.func 19) [] []) [nds l] st = some (.val (.int .i64 (checkS l)) st) := by
  by_cases h1 : 120 < l.length
  · refine callV_ret E19 (by decide) ext19 rfl rfl ?_ rfl
    refine fn_intro Try.func19 rfl (by simp) (by decide) rfl ?_
    have h1' : (120 : Int) < l.length := by omega
    simp [Try.f19, nds, h1']
    exact end_is (.inr rfl) (by simp; rfl) rfl (by simp [checkS, h1])
  · exact check_call (by omega) hr
theorem put_any {l : List Nd} (hr : ∀ n ∈ l, n.inR) {d : Option Nat} {st : ASt} : callV G cl d (.fn (.func 36) [] []) [nds l] st = some (.val (putV l) st) := by
  by_cases hc : checkS l = 0
  · exact put_call (by have := (checkS_ok hc).1; omega) hr
  · refine callV_ret E36 (by decide) ext36 rfl rfl ?_ putV_names
    refine fn_intro Try.func36 rfl (by simp) (by decide) rfl ?_
    have h19 := fun d st => check_any hr (d := d) (st := st)
    simp only [nds] at h19
    unfold putV
    rw [if_neg hc]
    simp [Try.f36, nds, h19, hc]
    exact end_is (.inr rfl) (by simp; rfl) rfl rfl
set_option maxHeartbeats 8000000 in
theorem codeCuts_eq (l : List Nd) (hr : ∀ n ∈ l, n.inR) (at_ : Int) (hw : (Lit.int .u16 at_).wf = true) (more : List UInt8) : cl 12 [nds l, .int .u16 at_, .str more] [] = some (.ret (.bool true), []) := by
  have hw2 : 0 ≤ at_ ∧ at_ < 65536 := by
    simp [Lit.wf, IntKind.min, IntKind.max, IntKind.signed, IntKind.bits] at hw
    omega
  obtain ⟨h0, h1⟩ := hw2
  refine fn_intro Try.func12 rfl (by simp) (by decide) rfl ?_
  have h35 := fun d st => works12_call (d := d) (st := st)
  have h15 := fun d st => few_call (l := l) (d := d) (st := st)
  have h36 := fun d st => put_any (l := l) hr (d := d) (st := st)
  unfold putV at h36
  simp only [nds] at h15 h36
  by_cases hc : checkS l = 0
  case neg =>
    rw [if_neg hc] at h36
    cases hf : fewS l with
    | false => rw [hf] at h15; simp [Try.f12, nds, h35, h15, h36, hc]; exact end_is (.inr rfl) (by first | rfl | (simp; rfl)) rfl rfl
    | true => rw [hf] at h15; simp [Try.f12, nds, h35, h15, h36, hc]; exact end_is (.inr rfl) (by first | rfl | (simp; rfl)) rfl rfl
  rw [if_pos hc] at h36
  cases hf : fewS l with
  | false => rw [hf] at h15; simp [Try.f12, nds, h35, h15, h36]; exact end_is (.inr rfl) (by first | rfl | (simp; rfl)) rfl rfl
  | true =>
    rw [hf] at h15
    by_cases hm : 400 < more.length
    · have hm' : (400 : Int) < (more.length : Int) := by omega
      simp [Try.f12, nds, h35, h15, h36, hm']
      exact end_is (.inr rfl) (by first | rfl | (simp; rfl)) rfl rfl
    have hm' : ¬ (400 : Int) < (more.length : Int) := by omega
    have sa := putB_small hc
    have sp := put_pos hr hc
    have e1 : IntKind.i64.wrap at_ = at_ := i64_wrap (by omega) (by omega)
    obtain ⟨i, hi, e2⟩ : ∃ i : Nat, i < (putB l).length ∧ at_.tmod ((putB l).length : Int) = i := by
      refine ⟨(at_.tmod ((putB l).length : Int)).toNat, ?_, ?_⟩
      · have := Int.tmod_lt_of_pos at_ (show (0 : Int) < (putB l).length by omega)
        have := Int.tmod_nonneg (putB l).length h0
        omega
      · have := Int.tmod_nonneg (putB l).length h0
        omega
    have hne : ¬ ((putB l).length : Int) = 0 := by omega
    have hne' : putB l ≠ [] := List.ne_nil_of_length_pos sp
    have hle : i ≤ (putB l).length := by omega
    have hcut := cut_none hr hc (by omega) hi (((putB l).take i).length + 1)
    have h40 := fun d st => get_call (s := (putB l).take i) (by simp; omega) (d := d) (st := st)
    have h42 := fun d st => first_call (s := (putB l).take i) (by simp; omega) (d := d) (st := st)
    have k40 := fun d st => get_call (s := putB l ++ more) (by simp; omega) (d := d) (st := st)
    rw [get_none hcut] at h40
    rw [first_none hcut] at h42
    have l1 : (putB l).length + more.length ≤ LIM := by unfold LIM; omega
    have l2 : (putB l).length ≤ LIM := by unfold LIM; omega
    by_cases hmore : more = []
    · subst hmore
      rw [List.append_nil, get_put hr hc] at k40
      simp only [getO, nds] at h40 k40
      simp [Try.f12, nds, h35, h15, h36, hm', e1, e2, hne, hne', hle, h40, h42, k40, l2]
      exact end_is (.inr rfl) (by first | rfl | (simp; rfl)) rfl rfl
    · rw [get_more hr hc hmore] at k40
      simp only [getO] at h40 k40
      simp [Try.f12, nds, h35, h15, h36, hm', e1, e2, hne, hne', hle, h40, h42, k40, l1, hmore]
      exact end_is (.inr rfl) (by first | rfl | (simp; rfl)) rfl rfl
end Go.Proofs.Ytonaejfpiihfhaa
