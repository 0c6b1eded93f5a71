/- More equations: indexing, small numbers. What comes to something at one limit comes to it at every greater one, and without a limit. -/
import Derived.Test.YtonaejfpiihfhaaPkC
import Derived.Test.YtonaejfpiihfhaaPkA

/- More equations: indexing, small numbers. -/
namespace Go.Proofs.Ytonaejfpiihfhaa.Abs
open Go Go.RowKit
set_option linter.unusedSimpArgs false
set_option linter.unusedVariables false
def indexT (P : Program) (d : Option TypeDesc) (x : AV) (n : Int) : Option AV :=
  match d, x with
  | some (.array m e), .agg cs => if 0 ≤ n ∧ n < m then partT P e cs (n.toNat * P.cellsOf e) else none
  | some .string, .str s => if 0 ≤ n then (s[n.toNat]?).map fun b => .int .u8 b.toNat else none
  | _, _ => none
@[simp] theorem indexv_T {P t x k n} : indexv P t x (.int k n) = indexT P (P.underlying t) x n := rfl
@[simp] theorem indexT_str {P s n} : indexT P (some .string) (.str s) n = if 0 ≤ n then (s[n.toNat]?).map fun b => .int .u8 b.toNat else none := rfl
@[simp] theorem indexT_agg {P m e cs n} : indexT P (some (.array m e)) (.agg cs) n = if 0 ≤ n ∧ n < m then partT P e cs (n.toNat * P.cellsOf e) else none := rfl
theorem u64_wrap (n : Int) : IntKind.u64.wrap n = n % 18446744073709551616 := by simp [IntKind.wrap, IntKind.bits, IntKind.signed]
theorem u32_wrap (n : Int) : IntKind.u32.wrap n = n % 4294967296 := by simp [IntKind.wrap, IntKind.bits, IntKind.signed]
theorem u8_wrap (n : Int) : IntKind.u8.wrap n = n % 256 := by simp [IntKind.wrap, IntKind.bits, IntKind.signed]
@[simp] theorem wrap_0 : IntKind.i64.wrap 0 = 0 := rfl
@[simp] theorem wrap_1 : IntKind.i64.wrap 1 = 1 := rfl
end Go.Proofs.Ytonaejfpiihfhaa.Abs

/- What comes to something at one limit comes to it at every greater one, and without a limit. -/
namespace Go.Proofs.Ytonaejfpiihfhaa.Abs
open Go
set_option linter.unusedSimpArgs false
set_option linter.unusedVariables false
section
variable {G : Cfg} {cf : CallFn} {lf : LoopFn} {ck : Nat → CallFn} {lk : Nat → LoopFn}
theorem callA_evG (HC : ∀ g args hp r, cf g args hp = some r → Ev (fun k => ck k g args hp) r) {d : Option Nat} {fv : AV} {args : List AV} {st : ASt} {r : AR} (h : callA G cf d fv args st = some r) :
    Ev (fun k => callA G (ck k) d fv args st) r := by
  unfold callA at h ⊢
  obtain ⟨y, hy, rfl⟩ := Option.map_eq_some_iff.1 h
  exact (callB_evG HC hy).map _

theorem aop_evG (HC : ∀ g args hp r, cf g args hp = some r → Ev (fun k => ck k g args hp) r) {o : Oper} {st : ASt} {r : AR} (h : aop G cf o st = some r) : Ev (fun k => aop G (ck k) o st) r := by
  unfold aop at h ⊢
  split at h
  · split at h
    · exact ⟨0, fun _ _ => h⟩
    · exact callA_evG HC h
  · exact ⟨0, fun _ _ => h⟩

theorem aops_evG (HC : ∀ g args hp r, cf g args hp = some r → Ev (fun k => ck k g args hp) r) {ops : Array Oper} (l : List Nat) : ∀ {st : ASt} {r : AX × ASt}, aops G cf ops l st = some r → Ev (fun k => aops G (ck k) ops l st) r := by
  induction l with
  | nil => intro st r h; exact ⟨0, fun _ _ => h⟩
  | cons i l ih =>
    intro st r h
    simp only [aops] at h ⊢
    cases ho : ops[i]? with
    | none => simp only [ho] at h ⊢; exact ih h
    | some o =>
      simp only [ho] at h ⊢
      rw [Option.bind_eq_some_iff] at h
      obtain ⟨g, hg, h⟩ := h
      refine Ev.bind ⟨0, fun _ _ => hg⟩ ?_
      cases g with
      | false => simp only [Bool.false_eq_true, if_false] at h ⊢; exact ih h
      | true =>
        simp only [if_true] at h ⊢
        rw [Option.bind_eq_some_iff] at h
        obtain ⟨a, ha, h⟩ := h
        refine Ev.bind (aop_evG HC ha) ?_
        cases a with
        | val v s => exact ih h
        | pan v s => exact ⟨0, fun _ _ => h⟩

theorem runPlan_evG (HC : ∀ g args hp r, cf g args hp = some r → Ev (fun k => ck k g args hp) r) {ops : Array Oper} (l : List PS) : ∀ {st r : ASt}, runPlan G cf ops l st = some r → Ev (fun k => runPlan G (ck k) ops l st) r := by
  induction l with
  | nil => intro st r h; exact ⟨0, fun _ _ => h⟩
  | cons x l ih =>
    intro st r h
    cases x with
    | n i =>
      simp only [runPlan] at h ⊢
      rw [Option.bind_eq_some_iff] at h
      obtain ⟨o, ho, h⟩ := h
      rw [Option.bind_eq_some_iff] at h
      obtain ⟨v, hv, h⟩ := h
      exact Ev.bind ⟨0, fun _ _ => ho⟩ (Ev.bind ⟨0, fun _ _ => hv⟩ (ih h))
    | e j re =>
      simp only [runPlan] at h ⊢
      rw [Option.bind_eq_some_iff] at h
      obtain ⟨o, ho, h⟩ := h
      rw [Option.bind_eq_some_iff] at h
      obtain ⟨a, ha, h⟩ := h
      refine Ev.bind ⟨0, fun _ _ => ho⟩ (Ev.bind (a := a) ?_ ?_)
      · unfold stepE at ha ⊢
        rw [Option.bind_eq_some_iff] at ha
        obtain ⟨g, hg, ha⟩ := ha
        refine Ev.bind ⟨0, fun _ _ => hg⟩ ?_
        cases g with
        | true => simp only [if_true] at ha ⊢; exact aop_evG HC ha
        | false => simp only [Bool.false_eq_true, if_false] at ha ⊢; exact ⟨0, fun _ _ => ha⟩
      · cases a with
        | pan v s => cases h
        | val v s =>
          simp only at h ⊢
          split at h
          · rename_i hc; simp only [hc, if_true]; exact ih h
          · cases h

theorem codeX_evG (HC : ∀ g args hp r, cf g args hp = some r → Ev (fun k => ck k g args hp) r) (HL : ∀ f c st r, lf f c st = some r → Ev (fun k => lk k f c st) r) {f : FuncId} (c : Code) : ∀ {st : ASt} {r : AX × ASt}, codeX G cf lf f c st = some r →
    Ev (fun k => codeX G (ck k) (lk k) f c st) r := by
  induction c with
  | skip => intro st r h; exact ⟨0, fun _ _ => h⟩
  | label l => intro st r h; exact ⟨0, fun _ _ => h⟩
  | exit id => intro st r h; exact ⟨0, fun _ _ => h⟩
  | ret => intro st r h; exact ⟨0, fun _ _ => h⟩
  | scope b _ => intro st r h; exact ⟨0, fun _ _ => h⟩
  | goto l => intro st r h; exact ⟨0, fun _ _ => h⟩
  | refuse w => intro st r h; exact ⟨0, fun _ _ => h⟩
  | rangeFunc g ps a b _ _ =>
    intro st r h
    simp only [codeX] at h ⊢
    split at h
    · cases h
    · rename_i hc
      simp only [if_neg hc]
      rw [Option.bind_eq_some_iff] at h
      obtain ⟨y, hy, h⟩ := h
      exact Ev.bind (callB_evG HC hy) ⟨0, fun _ _ => h⟩
  | region id ops draw =>
    intro st r h
    simp only [codeX] at h ⊢
    obtain ⟨y, h1, rfl⟩ := Option.map_eq_some_iff.1 h
    clear h
    refine Ev.map ?_ _
    split at h1
    · rename_i hd
      simp only [hd, if_true]
      obtain ⟨s, hs, rfl⟩ := Option.map_eq_some_iff.1 h1
      rw [Option.bind_eq_some_iff] at hs
      obtain ⟨p, hp, hs⟩ := hs
      have := Ev.bind (f := fun k (p : List PS) => runPlan G (ck k) ops p st) ⟨0, fun _ _ => hp⟩ (runPlan_evG HC p hs)
      obtain ⟨K, hK⟩ := this
      exact ⟨K, fun k hk => congrArg (Option.map fun s => (AX.normal, s)) (hK k hk)⟩
    · rename_i hd; simp only [if_neg hd]; exact aops_evG HC _ h1
  | seq a b iha ihb =>
    intro st r h
    simp only [codeX] at h ⊢
    rw [Option.bind_eq_some_iff] at h
    obtain ⟨⟨x, s⟩, h1, h2⟩ := h
    refine Ev.bind (iha h1) ?_
    cases x with
    | normal => exact ihb h2
    | exit i => exact ⟨0, fun _ _ => h2⟩
    | ret => exact ⟨0, fun _ _ => h2⟩
    | pan v => exact ⟨0, fun _ _ => h2⟩
  | cond c a b iha ihb =>
    intro st r h
    cases hc : st.ev c with
    | bool t =>
      simp only [codeX, hc] at h ⊢
      cases t with
      | true => simp only [if_true] at h ⊢; exact iha h
      | false => simp only [Bool.false_eq_true, if_false] at h ⊢; exact ihb h
    | _ => simp [codeX, hc] at h
  | block id b ih =>
    intro st r h
    simp only [codeX] at h ⊢
    rw [Option.bind_eq_some_iff] at h
    obtain ⟨⟨x, s⟩, h1, h2⟩ := h
    exact Ev.bind (ih h1) ⟨0, fun _ _ => h2⟩
  | loop b _ =>
    intro st r h
    simp only [codeX] at h ⊢
    rw [Option.bind_eq_some_iff] at h
    obtain ⟨s, h1, h2⟩ := h
    exact Ev.bind ⟨0, fun _ _ => h1⟩ (HL _ _ _ _ h2)

theorem runBody_evG (HC : ∀ g args hp r, cf g args hp = some r → Ev (fun k => ck k g args hp) r) (HL : ∀ f c st r, lf f c st = some r → Ev (fun k => lk k f c st) r) {g : FuncId} {args : List AV} {hp : Heap} {r : ARes × Heap} (h : runBody G cf lf g args hp = some r) :
    Ev (fun k => runBody G (ck k) (lk k) g args hp) r := by
  unfold runBody at h ⊢
  rw [Option.bind_eq_some_iff] at h
  obtain ⟨fn, h1, h⟩ := h
  refine Ev.bind ⟨0, fun _ _ => h1⟩ ?_
  rw [Option.bind_eq_some_iff] at h
  obtain ⟨c, h2, h⟩ := h
  refine Ev.bind ⟨0, fun _ _ => h2⟩ ?_
  rw [Option.bind_eq_some_iff] at h
  obtain ⟨y, h3, h⟩ := h
  exact Ev.bind (codeX_evG HC HL c h3) ⟨0, fun _ _ => h⟩

theorem runRound_evG (HC : ∀ g args hp r, cf g args hp = some r → Ev (fun k => ck k g args hp) r) (HL : ∀ f c st r, lf f c st = some r → Ev (fun k => lk k f c st) r) {L : Nat} {args : List AV} {hp : Heap} {r : ARes × Heap} (h : runRound G cf lf L args hp = some r) :
    Ev (fun k => runRound G (ck k) (lk k) L args hp) r := by
  unfold runRound at h ⊢
  split at h
  · rename_i r0 sl h0
    simp only [h0]
    split at h
    · rename_i hc
      simp only [if_pos hc]
      rw [Option.bind_eq_some_iff] at h
      obtain ⟨⟨y1, y2⟩, hy, h⟩ := h
      refine Ev.bind (codeX_evG HC HL _ hy) ?_
      cases y1 with
      | normal =>
        simp only at h ⊢
        cases h1 : aget y2.hp L with
        | none => rw [h1] at h; cases h
        | some o =>
          rw [h1] at h
          cases o with
          | loop r1 sl1 =>
            simp only at h ⊢
            split at h
            · rename_i hc1
              simp only [if_pos hc1]
              rw [Option.bind_eq_some_iff] at h
              obtain ⟨z, hz, h⟩ := h
              exact Ev.bind (codeX_evG HC HL _ hz) ⟨0, fun _ _ => h⟩
            · cases h
          | _ => cases h
      | _ => cases h
    · cases h
  · cases h

theorem runBodyD_evG (HC : ∀ g args hp r, cf g args hp = some r → Ev (fun k => ck k g args hp) r) (HL : ∀ f c st r, lf f c st = some r → Ev (fun k => lk k f c st) r) {g : FuncId} {args : List AV} {hp : Heap} {r : ARes × Heap} (h : runBodyD G cf lf g args hp = some r) :
    Ev (fun k => runBodyD G (ck k) (lk k) g args hp) r := by
  unfold runBodyD at h ⊢
  rw [Option.bind_eq_some_iff] at h; obtain ⟨fn, h1, h⟩ := h
  refine Ev.bind ⟨0, fun _ _ => h1⟩ ?_
  rw [Option.bind_eq_some_iff] at h; obtain ⟨q, h2, h⟩ := h
  refine Ev.bind ⟨0, fun _ _ => h2⟩ ?_
  rw [Option.bind_eq_some_iff] at h; obtain ⟨⟨x0, s0⟩, h3, h⟩ := h
  refine Ev.bind (codeX_evG HC HL _ h3) ?_
  cases x0 with
  | normal =>
    simp only at h ⊢
    rw [Option.bind_eq_some_iff] at h; obtain ⟨⟨x1, s1⟩, h4, h⟩ := h
    refine Ev.bind (aops_evG HC _ h4) ?_
    cases x1 with
    | normal =>
      simp only at h ⊢
      split at h
      · rename_i hc
        simp only [if_pos hc]
        rw [Option.bind_eq_some_iff] at h; obtain ⟨y2, h5, h⟩ := h
        refine Ev.bind (codeX_evG HC HL _ h5) ?_
        split at h
        · cases h
        rename_i hbx
        simp only [if_neg hbx]
        rw [Option.bind_eq_some_iff] at h; obtain ⟨rv, h6, h⟩ := h
        refine Ev.bind ⟨0, fun _ _ => h6⟩ ?_
        rw [Option.bind_eq_some_iff] at h; obtain ⟨z, h7, h⟩ := h
        exact Ev.bind ⟨0, fun _ _ => h7⟩ ⟨0, fun _ _ => h⟩
      · cases h
    | _ => cases h
  | _ => cases h
theorem runFn_evG (HC : ∀ g args hp r, cf g args hp = some r → Ev (fun k => ck k g args hp) r) (HL : ∀ f c st r, lf f c st = some r → Ev (fun k => lk k f c st) r) {g : FuncId} {args : List AV} {hp : Heap} {r : ARes × Heap} (h : runFn G cf lf g args hp = some r) :
    Ev (fun k => runFn G (ck k) (lk k) g args hp) r := by
  unfold runFn at h ⊢
  split at h
  · rename_i hd; simp only [if_pos hd]; exact runBodyD_evG HC HL h
  · rename_i hd; simp only [if_neg hd]; exact runBody_evG HC HL h


theorem loopStep_evG (HC : ∀ g args hp r, cf g args hp = some r → Ev (fun k => ck k g args hp) r) (HL : ∀ f c st r, lf f c st = some r → Ev (fun k => lk k f c st) r) {f : FuncId} {c : Code} {st : ASt} {r : AX × ASt} (h : loopStep G cf lf f c st = some r) : Ev (fun k => loopStep G (ck k) (lk k) f c st) r := by
  unfold loopStep at h ⊢
  rw [Option.bind_eq_some_iff] at h
  obtain ⟨⟨x, s⟩, h1, h2⟩ := h
  refine Ev.bind (codeX_evG HC HL c h1) ?_
  cases x with
  | normal =>
    rw [Option.bind_eq_some_iff] at h2
    obtain ⟨s', h3, h4⟩ := h2
    exact Ev.bind ⟨0, fun _ _ => h3⟩ (HL _ _ _ _ h4)
  | exit i => exact ⟨0, fun _ _ => h2⟩
  | ret => exact ⟨0, fun _ _ => h2⟩
  | pan v => exact ⟨0, fun _ _ => h2⟩
end
theorem Ev.const {α : Type} {x : Option α} {y : α} (h : Ev (fun _ => x) y) : x = some y := by
  obtain ⟨K, h⟩ := h; exact h K (Nat.le_refl _)
theorem both_succ {G : Cfg} {prim : FuncId → Option CallFn} : ∀ k, (∀ g args hp r, (both G prim k).1 g args hp = some r → (both G prim (k + 1)).1 g args hp = some r) ∧ (∀ f c st r, (both G prim k).2 f c st = some r → (both G prim (k + 1)).2 f c st = some r) := by
  intro k
  induction k with
  | zero => exact ⟨fun g args hp r h => (by cases h), fun f c st r h => (by cases h)⟩
  | succ k ih =>
    have hc : ∀ g args hp r, (both G prim k).1 g args hp = some r → Ev (fun _ => (both G prim (k + 1)).1 g args hp) r := fun g args hp r h => ⟨0, fun _ _ => ih.1 g args hp r h⟩
    have hl : ∀ f c st r, (both G prim k).2 f c st = some r → Ev (fun _ => (both G prim (k + 1)).2 f c st) r := fun f c st r h => ⟨0, fun _ _ => ih.2 f c st r h⟩
    refine ⟨fun g args hp r h => ?_, fun f c st r h => ?_⟩
    · rw [both] at h ⊢
      simp only at h ⊢
      split at h
      · rename_i hg
        rw [if_pos hg]
        split at h
        · exact h
        · exact Ev.const (runFn_evG (ck := fun _ => (both G prim (k + 1)).1) (lk := fun _ => (both G prim (k + 1)).2) hc hl h)
      · rename_i hg
        rw [if_neg hg]
        exact Ev.const (runRound_evG (ck := fun _ => (both G prim (k + 1)).1) (lk := fun _ => (both G prim (k + 1)).2) hc hl h)
    · rw [both] at h ⊢
      simp only at h ⊢
      exact Ev.const (loopStep_evG (ck := fun _ => (both G prim (k + 1)).1) (lk := fun _ => (both G prim (k + 1)).2) hc hl h)
theorem both_le {G : Cfg} {prim : FuncId → Option CallFn} {k k' : Nat} (h : k ≤ k') {g : FuncId} {args : List AV} {hp : Heap} {r : ARes × Heap} (hr : (both G prim k).1 g args hp = some r) : (both G prim k').1 g args hp = some r := by
  induction h with
  | refl => exact hr
  | step _ ih => exact (both_succ _).1 _ _ _ _ ih
/-- What was gone through is what it comes to. -/
theorem callL_of_run {G : Cfg} {prim : FuncId → Option CallFn} {k : Nat} {g : FuncId} {args : List AV} {hp : Heap} {r : ARes × Heap} (hr : (both G prim k).1 g args hp = some r) : callL G prim g args hp = some r :=
  limit_of ⟨k, fun _ hk => both_le hk hr⟩
end Go.Proofs.Ytonaejfpiihfhaa.Abs
