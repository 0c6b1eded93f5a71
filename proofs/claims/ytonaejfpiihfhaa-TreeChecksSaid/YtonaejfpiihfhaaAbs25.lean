/- Rounds; and all of it: WHAT THE INTERPRETER TELLS IS SO. -/
import Derived.Test.YtonaejfpiihfhaaAbs24
namespace Go.Proofs.Ytonaejfpiihfhaa.Abs
open Go Go.RowKit
set_option linter.unusedSimpArgs false
set_option linter.unusedVariables false

variable {G : Cfg} {S : Stab} {ρ : Rho} {w : World} {E : Env} {st : ASt} {a : Act}

theorem params_ok : ∀ (ps : List Nat) (xs : List AV) (us : List Value) (sl : Slots) (tm : Array Value), (∀ t ∈ ps, t < tm.size) → xs.length = us.length →
    (∀ (j : Nat) c v, xs[j]? = some c → us[j]? = some v → VR S ρ w c v) → (∀ t, VR S ρ w ((aget sl t).getD .undef) (tm.getD t Go.undef)) →
    ∀ t, VR S ρ w ((aget ((ps.zip xs).reverse ++ sl) t).getD .undef) (((ps.zip us).foldl (fun tmps (t, a) => tmps.setIfInBounds t a) tm).getD t Go.undef) := by
  intro ps
  induction ps with
  | nil => intro xs us sl tm _ _ _ h t; simpa using h t
  | cons p ps ih =>
    intro xs us sl tm hp hl hv h t
    match xs, us, hl with
    | [], [], _ => simpa using h t
    | x :: xs, u :: us, hl =>
      simp only [List.zip_cons_cons, List.reverse_cons, List.append_assoc, List.singleton_append, List.foldl_cons]
      refine ih xs us ((p, x) :: sl) (tm.setIfInBounds p u) (fun t ht => by simpa using hp t (List.mem_cons_of_mem _ ht)) (by simpa using hl) (fun j c v hc hu => hv (j + 1) c v (by simpa using hc) (by simpa using hu)) (fun t => ?_) t
      rw [aget_cons]
      by_cases e : p = t
      · subst e
        have hlt := hp p (by simp)
        simp only [if_true, Option.getD_some, Array.getD_eq_getD_getElem?, Array.getElem?_setIfInBounds_self_of_lt hlt]
        exact hv 0 x u rfl rfl
      · rw [if_neg e]
        simp only [Array.getD_eq_getD_getElem?, Array.getElem?_setIfInBounds_ne e]
        simpa only [Array.getD_eq_getD_getElem?] using h t

theorem foldl_size (l : List (Nat × Value)) : ∀ tm : Array Value, (l.foldl (fun tmps (t, a) => tmps.setIfInBounds t a) tm).size = tm.size := by
  induction l with
  | nil => intro tm; rfl
  | cons p l ih => intro tm; rw [List.foldl_cons, ih]; simp

/-- The record, found again. -/
theorem loop_again {hl : ∀ n r, ρ n = some r → n < 1000} {S' : Stab} {ρ' : Rho} {tm : Array Value} {w' : World} (h : SR (envOf S ρ w hl) st S' ρ' tm w') {L : Nat} {b sz k : Nat} (hρ : ρ L = some ⟨some (b, sz), k⟩) {r : LRec} {sl : Slots} (ho : aget st.hp L = some (.loop r sl)) :
    ρ' L = some ⟨some (b, sz), k⟩ ∧ ∃ R : Loop, w'.heap[b]? = some (.loop R) ∧ R.state = r.state ∧ R.pending = r.pending := by
  have h1 := h.old L _ ho rfl _ hρ
  obtain ⟨b', R, k1, k2, _, k4, k5, _⟩ := h.heap.obj L _ ho
  rw [h1] at k1; cases k1
  exact ⟨h1, R, k2, k4, k5⟩

theorem runRound_ok (GE : GSound G) {call : CallFn} (hcall : CallOK G call) {loop : LoopFn} (hloop : ∀ f c st r, loop f c st = some r → LoopSound G f c st r)
    {L : Nat} {args : List AV} {hp : Heap} {r : ARes × Heap} (hr : runRound G call loop L args hp = some r) : RoundSound G.P L args hp r := by
  intro S ρ w us hl H hb hlen hargs b sz k hρ
  unfold runRound at hr
  split at hr
  case h_2 => cases hr
  rename_i r0 sl hob
  split at hr
  case isFalse => cases hr
  rename_i hck
  obtain ⟨c1, c2, c3⟩ := hck
  obtain ⟨⟨q1, q2, q3⟩, q4, q5, q6, q7⟩ := GE.rounds _ c3
  simp only at q1 q2 q3 q4 q5 q6 q7
  rw [Option.bind_eq_some_iff] at hr
  obtain ⟨⟨x, s1⟩, hx, hr⟩ := hr
  obtain ⟨b', R, k1, k2, k3, k4, k5, k7, k8, k9, k10, k11⟩ := H.obj L _ hob
  rw [hρ] at k1; cases k1
  refine ⟨R, k2, by rw [k7, ← hlen]; exact c2, ?_⟩
  rw [← Array.foldl_toList, Array.toList_zip]
  generalize htm : (R.params.toList.zip us.toList).foldl (fun tmps (t, a) => tmps.setIfInBounds t a) R.tmps = tm
  have hsz : tm.size = R.tmps.size := by rw [← htm]; exact foldl_size _ _
  have hbeg : SR (envOf S ρ w hl) { sl := (r0.ps.toList.zip args).reverse ++ sl, hp } S ρ tm w := by
    refine ⟨fun t => ?_, H, fun n b sz k h => .inl ⟨n, sz, k, h⟩, fun n o _ _ r hr => hr, ⟨Ext.refl S w, fun _ _ h => .inl h, hb, Nat.le_refl _, fun _ _ _ => rfl, fun _ h => h, rfl, rfl, rfl⟩⟩
    rw [← htm, k7]
    exact params_ok r0.ps.toList args us.toList sl R.tmps (fun t ht => by
      have := List.all_eq_true.1 q4 t ht
      have this : t < r0.nt := by simpa using this
      omega) (by simpa using hlen) (fun j c v hc hv => hargs j c v hc (by simpa using hv)) k11 t
  refine roundIn_of_wpIn (F := Fence.wide) trivial ?_
  rw [k8, k9]
  have hasg := codeX_ok (ro := some b) (a := { tmps := tm, defers := [] }) GE hcall hloop r0.assign (.inr q3) (dstsB_mono (by show r0.nt ≤ tm.size; omega) _ q1) q2 (base := []) ⟨[], rfl, List.nodup_nil, fun d hd => by simp at hd⟩ hbeg rfl hx
  refine wpIn_mono hasg fun e a1 w1 ⟨m1, m2, S1, ρ1, m3, m4⟩ => ?_
  cases x with
  | exit i => cases hr
  | ret => cases hr
  | pan v => cases hr
  | normal =>
    cases e with
    | normal =>
      simp only at hr
      split at hr
      case h_2 => cases hr
      rename_i r1 sl1 hob1
      split at hr
      case isFalse => cases hr
      rename_i hready
      rw [Option.bind_eq_some_iff] at hr
      obtain ⟨⟨z, s3⟩, hz, hr⟩ := hr
      rw [Option.bind_eq_some_iff] at hr
      obtain ⟨j, hj, hr⟩ := hr
      split at hr
      case h_2 => cases hr
      rename_i r2 sl2 hob2
      cases hr
      obtain ⟨hρ1, R1, n1, n2, n3⟩ := loop_again m3 hρ hob1
      refine ⟨_, run_beginRound n1 (by rw [n2]; exact hready), ?_⟩
      have hturn := m3.turn hob1 hρ1 n1 (r' := { r1 with state := .busy }) (R' := { R1 with state := .busy }) rfl n3 rfl rfl rfl rfl rfl rfl rfl rfl
      have hbody := codeX_ok (ro := some b) (n := a1.tmps.size) GE hcall hloop r0.body (.inr q7) (dstsB_mono (by rw [m2]; show r0.nt ≤ tm.size; omega) _ q5) q6 (E := envOf S ρ w hl) (a := a1) (by
        obtain ⟨ms, hms, m1⟩ := m1
        refine ⟨ms, hms, m1.1, fun d hd => ?_⟩
        obtain ⟨b', e1, e2, e3⟩ := m1.2 d hd
        refine ⟨b', e1, e2, ?_⟩
        have : b' ≠ b := fun e => by subst e; rw [n1] at e3; cases e3
        rw [World.putObj_heap_other this]; exact e3) hturn rfl hz
      refine wpIn_mono hbody fun e a3 w3 ⟨p1, p2, S3, ρ3, p3, p4⟩ => ?_
      obtain ⟨hρ3, R3, o1, o2, o3⟩ := loop_again p3 hρ hob2
      have fin : ∀ jump : Option Code, jump = j → ∃ v w', (Instr.endRound b jump).run G.P w3 = .ok v w' ∧ ∃ S' ρ', Out (envOf S ρ w hl) (retA (outOf (hp.map (·.1)) (hput L (.loop { r2 with state := if j.isNone then .ready else .done, pending := j } sl2) s3.hp) (.bool j.isNone))).2 S' ρ' w' ∧ AnswerR S' ρ' w' (retA (outOf (hp.map (·.1)) (hput L (.loop { r2 with state := if j.isNone then .ready else .done, pending := j } sl2) s3.hp) (.bool j.isNone))).1 (.returned v) := by
        intro jump e
        subst e
        have ht := p3.turn hob2 hρ3 o1 (r' := { r2 with state := if jump.isNone then .ready else .done, pending := jump }) (R' := { R3 with state := if jump.isNone then .ready else .done, pending := jump }) rfl rfl rfl rfl rfl rfl rfl rfl rfl rfl
        obtain ⟨ρ'', u1, u2⟩ := out_ok (m := hp.map (·.1)) (v := .bool jump.isNone) (u := .bool jump.isNone) ht.heap ht.mine ht.old ht.fr (.pure (.bool _))
        exact ⟨_, _, run_endRound jump o1, S3, ρ'', u1, u2⟩
      cases z with
      | pan v => cases hj
      | normal =>
        cases hj
        cases e with
        | normal => exact fin none rfl
        | _ => exact p4.elim
      | exit i =>
        cases hj
        cases e with
        | exit i' =>
          have e1 : i = i' := p4
          subst e1
          exact fin (some (.exit i)) rfl
        | _ => exact p4.elim
      | ret =>
        cases hj
        cases e with
        | ret => exact fin (some .ret) rfl
        | _ => exact p4.elim
    | _ => exact m4.elim

end Go.Proofs.Ytonaejfpiihfhaa.Abs
