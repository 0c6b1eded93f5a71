/- What the row of this claim leans on: own texts, merged. -/
import Derived.RecoverIn
import Derived.Maps.RangeRun
import Derived.KernelRfl
import Derived.Lib.Bytealg
import Derived.Laws.Externs
import Derived.Lib.UnsafeStr
import Derived.Lib.AtoiAll
import Derived.Below
import Derived.Deep.Draws
import Derived.Lib.Repeat
import Derived.Shelf.Strings.Repeat
import Derived.Ground.NamesProg
import Derived.Test.YteibklnligmanaaDoorProg
import Derived.Test.YteibklnligmanaaDoorPkX62

/- Rounds; and all of it: WHAT THE INTERPRETER TELLS IS SO. -/
namespace Go.Proofs.YteibklnligmanaaDoor.Abs
open Go Go.RowKit
set_option linter.unusedSimpArgs false
set_option linter.unusedVariables false

variable {G : Cfg} {S : Stab} {ρ : Rho} {w : World} {E : Env} {st : ASt} {a : Act}

theorem params_ok : ∀ (ps : List Nat) (xs : List AV) (us : List Value) (sl : Slots) (tm : Array Value), (∀ t ∈ ps, t < tm.size) → xs.length = us.length →
    (∀ (j : Nat) c v, xs[j]? = some c → us[j]? = some v → VR S ρ w c v) → (∀ t, VR S ρ w ((aget sl t).getD .undef) (tm.getD t Go.undef)) →
    ∀ t, VR S ρ w ((aget ((ps.zip xs).reverse ++ sl) t).getD .undef) (((ps.zip us).foldl (fun tmps (t, a) => tmps.setIfInBounds t a) tm).getD t Go.undef) := by
  intro ps
  induction ps with
  | nil => intro xs us sl tm _ _ _ h t; simpa using h t
  | cons p ps ih =>
    intro xs us sl tm hp hl hv h t
    match xs, us, hl with
    | [], [], _ => simpa using h t
    | x :: xs, u :: us, hl =>
      simp only [List.zip_cons_cons, List.reverse_cons, List.append_assoc, List.singleton_append, List.foldl_cons]
      refine ih xs us ((p, x) :: sl) (tm.setIfInBounds p u) (fun t ht => by simpa using hp t (List.mem_cons_of_mem _ ht)) (by simpa using hl) (fun j c v hc hu => hv (j + 1) c v (by simpa using hc) (by simpa using hu)) (fun t => ?_) t
      rw [aget_cons]
      by_cases e : p = t
      · subst e
        have hlt := hp p (by simp)
        simp only [if_true, Option.getD_some, Array.getD_eq_getD_getElem?, Array.getElem?_setIfInBounds_self_of_lt hlt]
        exact hv 0 x u rfl rfl
      · rw [if_neg e]
        simp only [Array.getD_eq_getD_getElem?, Array.getElem?_setIfInBounds_ne e]
        simpa only [Array.getD_eq_getD_getElem?] using h t

theorem foldl_size (l : List (Nat × Value)) : ∀ tm : Array Value, (l.foldl (fun tmps (t, a) => tmps.setIfInBounds t a) tm).size = tm.size := by
  induction l with
  | nil => intro tm; rfl
  | cons p l ih => intro tm; rw [List.foldl_cons, ih]; simp

/-- The record, found again. -/
theorem loop_again {hl : Ent S ρ w} {S' : Stab} {ρ' : Rho} {tm : Array Value} {w' : World} (h : SR (envOf S ρ w hl) st S' ρ' tm w') {L : Nat} {b sz k : Nat} (hρ : ρ L = some ⟨some (b, sz), k⟩) {r : LRec} {sl : Slots} (ho : aget st.hp L = some (.loop r sl)) :
    ρ' L = some ⟨some (b, sz), k⟩ ∧ ∃ R : Loop, w'.heap[b]? = some (.loop R) ∧ R.state = r.state ∧ R.pending = r.pending := by
  have h1 := h.old L _ ho rfl _ hρ
  obtain ⟨b', R, k1, k2, _, k4, k5, _⟩ := h.heap.obj L _ ho
  rw [h1] at k1; cases k1
  exact ⟨h1, R, k2, k4, k5⟩

/-- What is asked at a round's end; by a panic, too. -/
def roundPost2 (P : Program) (F : Fence) (n l : Nat) (f : FuncId) (fn : Func) (R : Ending → World → Prop) : Exit → Act → World → Prop
  | .panic chain, a, w => P.funcs[f]? = some fn ∧ LeavesInM (F.inRound l) n P fn a.tmps R a.defers (.panicking chain) w
  | .normal, a, w => roundPost P l R .normal a w
  | .ret, a, w => roundPost P l R .ret a w
  | .exit id, a, w => roundPost P l R (.exit id) a w
  | .goto t, a, w => roundPost P l R (.goto t) a w
  | .outgrown, _, _ => False
theorem roundIn_of_wpIn2 {P : Program} {F : Fence} {n l : Nat} {f : FuncId} {fn : Func} {tmps : Array Value} {assign body : Code} {w : World} {R : Ending → World → Prop} (hF : F.fn f)
    (h : assign.wpIn (F.inRound l) n P (Exit.then (fun a₁ w₁ => ∃ w₂, (Instr.beginRound l).run P w₁ = .ok () w₂ ∧ body.wpIn (F.inRound l) n P (roundPost2 P F n l f fn R) a₁ w₂) (fun _ _ _ => False))
      { tmps := tmps, defers := [] } w) :
    RoundIn F n P l f tmps assign body w R := by
  refine ⟨hF, fun c cs hr => ?_⟩
  let b : Frame := { (default : Frame) with fn := f, kind := .normal, roundOf := some l }
  have hb0 : Frame.round l f tmps assign body .normal = b.atR { tmps := tmps, defers := [] } [.code assign, .beginRound, .code body] := by
    simp [Frame.round, Frame.atR, b]
  have hr' : (F.inRound l).room ((c :: cs).length + 1 + n) := hr
  have hF' : (F.inRound l).fn b.fn := hF
  obtain ⟨e, a₁, w₁, hq, harr⟩ := h b [.beginRound, .code body] (c :: cs) rfl hF' hr'
  rw [← hb0] at harr
  cases e with
  | normal =>
    obtain ⟨w₂, hbr, hbody⟩ := hq
    have s1 : StepsIn (Machine.fenced P (F.inRound l)) P (lone (b.atR a₁ [.beginRound, .code body]) (c :: cs) w₁) (lone (b.atR a₁ [.code body]) (c :: cs) w₂) :=
      .one (fenced_calm (fr := b.atR a₁ [.beginRound, .code body]) hF' hr' rfl) (stepR_beginRound rfl hbr)
    obtain ⟨e₂, a₂, w₃, hq₂, harr₂⟩ := hbody b [] (c :: cs) rfl hF' hr'
    cases e₂ with
    | normal =>
      obtain ⟨v, w₄, hend, hR⟩ := hq₂
      exact ⟨.returned v, w₄, hR, (StepsIn.trans harr s1).trans (StepsIn.trans harr₂ (.one (fenced_calm (fr := b.atR a₂ []) hF' hr' rfl) (stepR_round_end rfl rfl hend)))⟩
    | ret =>
      obtain ⟨v, w₄, hend, hR⟩ := hq₂
      obtain ⟨k₁, hs⟩ := harr₂.2 rfl
      exact ⟨.returned v, w₄, hR, (StepsIn.trans harr s1).trans (StepsIn.trans hs (.one (fenced_calm (fr := b.atR a₂ (.code .ret :: k₁)) hF' hr' rfl) (stepR_round_ret rfl rfl hend)))⟩
    | exit id =>
      obtain ⟨v, w₄, hend, hR⟩ := hq₂
      obtain ⟨k₁, hk, hs⟩ := harr₂.2 rfl rfl
      exact ⟨.returned v, w₄, hR, (StepsIn.trans harr s1).trans (StepsIn.trans hs (.one (fenced_calm (fr := b.atR a₂ (.code (.exit id) :: k₁)) hF' hr' rfl) (stepR_round_exit rfl rfl hk hend)))⟩
    | goto t =>
      obtain ⟨v, w₄, hend, hR⟩ := hq₂
      obtain ⟨k₁, hk, hs⟩ := harr₂.2 rfl rfl
      exact ⟨.returned v, w₄, hR, (StepsIn.trans harr s1).trans (StepsIn.trans hs (.one (fenced_calm (fr := b.atR a₂ (.code (.goto t) :: k₁)) hF' hr' rfl) (stepR_round_goto rfl rfl hk hend)))⟩
    | panic chain =>
      obtain ⟨todo, hs₀⟩ := harr₂
      obtain ⟨hfn, hq₂⟩ := hq₂
      obtain ⟨e', w', fr', hR, hs, hfn', hl⟩ := leaves_stepsInM (F := F.inRound l) a₂.defers (.panicking chain) w₃ { b.atR a₂ todo with mode := .panicking chain } (c :: cs) rfl rfl rfl hfn rfl hF' hr' hq₂
      have h0 : StepsIn (Machine.fenced P (F.inRound l)) P (lone (Frame.round l f tmps assign body .normal) (c :: cs) w) (lone { b.atR a₂ todo with mode := .panicking chain } (c :: cs) w₃) := (StepsIn.trans harr s1).trans hs₀
      cases e' with
      | returned v => exact ⟨.returned v, w', hR, h0.trans (StepsIn.trans hs (.one (fenced_leaving (n := n) (hfn' ▸ hF') hr' hl) (step_leave_returned hl)))⟩
      | panicked ch => exact ⟨.panicked ch, w', hR, h0.trans (StepsIn.trans hs (.one (fenced_leaving (n := n) (hfn' ▸ hF') hr' hl) (step_leave_panicked hl)))⟩
      | outgrown => exact ⟨.outgrown, w', hR, Outgrown.of_steps h0.steps hs⟩
    | outgrown => exact hq₂.elim
  | exit id => exact hq.elim
  | goto t => exact hq.elim
  | ret => exact hq.elim
  | panic chain => exact hq.elim
  | outgrown => exact hq.elim

theorem runRound_ok (GE : GSound G) {call : CallFn} (hcall : CallOK G call) {loop : LoopFn} (hloop : ∀ f c st r, loop f c st = some r → LoopSound G f c st r)
    {L : Nat} {args : List AV} {hp : Heap} {r : ARes × Heap} (hr : runRound G call loop L args hp = some r) : RoundSound G.wd G.P L args hp r := by
  intro S ρ w us hl H hb hlen hargs b sz k hρ
  unfold runRound at hr
  split at hr
  case h_2 => cases hr
  rename_i r0 sl hob
  split at hr
  case isFalse => cases hr
  rename_i hck
  obtain ⟨c1, c2, c3, c4⟩ := hck
  obtain ⟨⟨q1, q2, q3⟩, q4, q5, q6, q7⟩ := GE.rounds _ c3
  simp only at q1 q2 q3 q4 q5 q6 q7
  rw [Option.bind_eq_some_iff] at hr
  obtain ⟨⟨x, s1⟩, hx, hr⟩ := hr
  obtain ⟨b', R, k1, k2, k3, k4, k5, k7, k8, k9, k10, k11⟩ := H.obj L _ hob
  rw [hρ] at k1; cases k1
  refine ⟨R, k2, by rw [k7, ← hlen]; exact c2, ?_⟩
  rw [← Array.foldl_toList, Array.toList_zip]
  generalize htm : (R.params.toList.zip us.toList).foldl (fun tmps (t, a) => tmps.setIfInBounds t a) R.tmps = tm
  have hsz : tm.size = R.tmps.size := by rw [← htm]; exact foldl_size _ _
  have hbeg : SR (envOf S ρ w hl) { sl := (r0.ps.toList.zip args).reverse ++ sl, hp } S ρ tm w := by
    refine ⟨fun t => ?_, H, fun n b sz k h => .inl ⟨n, sz, k, h⟩, fun n o _ _ r hr => hr, ⟨Ext.refl S w, fun _ _ h => .inl h, hb, Nat.le_refl _, fun _ _ _ => rfl, fun _ h => h, rfl, rfl, rfl⟩⟩
    rw [← htm, k7]
    exact params_ok r0.ps.toList args us.toList sl R.tmps (fun t ht => by
      have := List.all_eq_true.1 q4 t ht
      have this : t < r0.nt := by simpa using this
      omega) (by simpa using hlen) (fun j c v hc hv => hargs j c v hc (by simpa using hv)) k11 t
  refine roundIn_of_wpIn2 (fn := (G.P.funcs[R.fn]?).getD default) (F := FW G.wd none) (by cases hw : G.wd with | true => exact .inl rfl | false => exact .inr (k10.2 (by rw [hw] at c4; exact c4))) ?_
  rw [k8, k9]
  have hasg := codeX_ok (ro := some b) (a := { tmps := tm, defers := [] }) GE hcall hloop r0.assign (.inr q3) (dstsB_mono (by show r0.nt ≤ tm.size; omega) _ q1) q2 (base := []) ⟨[], rfl, List.nodup_nil, fun d hd => by simp at hd⟩ hbeg rfl hx
  refine wpIn_mono hasg fun e a1 w1 ⟨m1, m2, S1, ρ1, m3, m4⟩ => ?_
  cases x with
  | exit i => cases hr
  | ret => cases hr
  | pan v => cases hr
  | normal =>
    cases e with
    | normal =>
      simp only at hr
      split at hr
      case h_2 => cases hr
      rename_i r1 sl1 hob1
      split at hr
      case isFalse => cases hr
      rename_i hready
      rw [Option.bind_eq_some_iff] at hr
      obtain ⟨⟨z, s3⟩, hz, hr⟩ := hr
      obtain ⟨hρ1, R1, n1, n2, n3⟩ := loop_again m3 hρ hob1
      refine ⟨_, run_beginRound n1 (by rw [n2]; exact hready), ?_⟩
      have hturn := m3.turn hob1 hρ1 n1 (r' := { r1 with state := .busy }) (R' := { R1 with state := .busy }) rfl n3 rfl rfl rfl rfl rfl rfl rfl rfl
      have hbody := codeX_ok (ro := some b) (n := a1.tmps.size) GE hcall hloop r0.body (.inr q7) (dstsB_mono (by rw [m2]; show r0.nt ≤ tm.size; omega) _ q5) q6 (E := envOf S ρ w hl) (a := a1) (by
        obtain ⟨ms, hms, m1⟩ := m1
        refine ⟨ms, hms, m1.1, fun d hd => ?_⟩
        obtain ⟨b', e1, e2, e3⟩ := m1.2 d hd
        refine ⟨b', e1, e2, ?_⟩
        have : b' ≠ b := fun e => by subst e; rw [n1] at e3; cases e3
        rw [World.putObj_heap_other this]; exact e3) hturn rfl hz
      refine wpIn_mono hbody fun e a3 w3 ⟨p1, p2, S3, ρ3, p3, p4⟩ => ?_
      have fin : ∀ jump : Option Code, ((jumpOf z).bind fun j => match aget s3.hp L with
          | some (.loop r2 sl2) => some (retA (outOf (hp.map (·.1)) (hput L (.loop { r2 with state := if j.isNone then .ready else .done, pending := j } sl2) s3.hp) (.bool j.isNone)))
          | _ => none) = some r → jumpOf z = some jump → ∃ v w', (Instr.endRound b jump).run G.P w3 = .ok v w' ∧ ∃ S' ρ', Out (envOf S ρ w hl) r.2 S' ρ' w' ∧ AnswerR S' ρ' w' r.1 (.returned v) := by
        intro jump hr e
        rw [e, Option.bind_some] at hr
        split at hr
        case h_2 => cases hr
        rename_i r2 sl2 hob2
        cases hr
        obtain ⟨hρ3, R3, o1, o2, o3⟩ := loop_again p3 hρ hob2
        have ht := p3.turn hob2 hρ3 o1 (r' := { r2 with state := if jump.isNone then .ready else .done, pending := jump }) (R' := { R3 with state := if jump.isNone then .ready else .done, pending := jump }) rfl rfl rfl rfl rfl rfl rfl rfl rfl rfl
        obtain ⟨ρ'', u1, u2⟩ := out_ok (m := hp.map (·.1)) (v := .bool jump.isNone) (u := .bool jump.isNone) ht.heap ht.mine ht.old ht.fr (.pure (.bool _))
        exact ⟨_, _, run_endRound jump o1, S3, ρ'', u1, u2⟩
      cases z with
      | pan v =>
        simp only at hr
        split at hr
        · cases hr
        rename_i hw
        have hw : G.wd = false := by simpa using hw
        cases hr
        cases e with
        | panic ch =>
          refine ⟨by rw [Array.getElem?_eq_getElem (by rw [GE.ok.size]; exact k10.2 (by rw [hw] at c4; exact c4))]; rfl, ?_⟩
          obtain ⟨ms, hms, p1⟩ := p1
          rw [List.append_nil] at hms
          rw [← hms] at p1
          have dead0 : Dead (envOf S ρ w hl).W0.heap.size w3 w3 := ⟨rfl, fun _ => .inl rfl, rfl, rfl, rfl⟩
          refine leaves_ok (by simp) a3.defers w3 p1 dead0 fun w4 hdead => ?_
          have p3 := p3.dead hdead
          obtain ⟨u, rfl, hvu⟩ := p4
          have hx2 : VR S3 ρ3 w4 v u := hvu.ext (hdead.ext S3) fun _ _ h => h
          obtain ⟨S4, f1, f2, f3, f4⟩ := p3.fix v.rows
          have hv2 := rv_fixed p3 f1 f2 f3 f4 hx2 fun n hn => hn
          obtain ⟨ρ'', o1, o2⟩ := out_ok (m := hp.map (·.1)) f2.heap f2.mine f2.old f2.fr hv2
          exact ⟨S4, ρ'', o1, u, rfl, o2⟩
        | _ => exact p4.elim
      | normal =>
        cases e with
        | normal => exact (fin none hr rfl)
        | _ => exact p4.elim
      | exit i =>
        cases e with
        | exit i' =>
          have e1 : i = i' := p4
          subst e1
          exact (fin (some (.exit i)) hr rfl)
        | _ => exact p4.elim
      | ret =>
        cases e with
        | ret => exact (fin (some .ret) hr rfl)
        | _ => exact p4.elim
    | _ => exact m4.elim

end Go.Proofs.YteibklnligmanaaDoor.Abs


/- Functions that defer one closure, which may recover. -/
namespace Go.Proofs.YteibklnligmanaaDoor.Abs
open Go Go.RowKit
set_option linter.unusedSimpArgs false
set_option linter.unusedVariables false

variable {G : Cfg} {S : Stab} {ρ : Rho} {w : World} {E : Env} {st : ASt} {a : Act}

/-- Operations without calls, in a deferred call's frame. -/
theorem aopsB_ok (GE : GOK G) {ops : Array Oper} {n : Nat} (hd : ops.toList.all (opDst n) = true) {cs : List Frame} {Q : Exit → Act → List Frame → World → Prop} (l : List Nat) :
    ∀ {E : Env} {st : ASt} {S : Stab} {ρ : Rho} {a : Act} {w : World} {r : ASt}, SR E st S ρ a.tmps w → a.tmps.size = n → aopsB G ops l st = some r →
      (∀ a' w' S' ρ', a'.defers = a.defers → a'.tmps.size = n → SR E r S' ρ' a'.tmps w' → Q .normal a' cs w') → wpOpsSIn (FW G.wd none) 0 G.P ops Q l a cs w := by
  induction l with
  | nil => intro E st S ρ a w r h hn hr hQ; cases hr; exact hQ a w S ρ rfl hn h
  | cons i l ih =>
    intro E st S ρ a w r h hn hr hQ
    simp only [aopsB] at hr
    rw [Option.bind_eq_some_iff] at hr; obtain ⟨o, ho, hr⟩ := hr
    rw [Option.bind_eq_some_iff] at hr; obtain ⟨g, hg, hr⟩ := hr
    simp only [wpOpsSIn, ho]
    have hw := guard_ok h hg
    have next : ∀ {u : Value} {w' : World} {S' : Stab} {ρ' : Rho} {v : AV} {s : ASt}, SR E s S' ρ' a.tmps w' → VR S' ρ' w' v u → aopsB G ops l (s.put o.dst v) = some r → wpOpsSIn (FW G.wd none) 0 G.P ops Q l (a.put o.dst u) cs w' := by
      intro u w' S' ρ' v s hs hv hr
      exact ih (hs.putA hn (opDst_lt hd ho) hv) ((put_size _ _ _).trans hn) hr fun a' w' S' ρ' h1 h2 h3 => hQ a' w' S' ρ' (h1.trans (put_defers _ _ _)) h2 h3
    cases g with
    | false =>
      rw [hw]
      simp only [Bool.false_eq_true, if_false] at hr ⊢
      split at hr
      case isFalse => cases hr
      rename_i hsk
      refine ⟨fun f hf => .inr (about_skip GE.methIn h (about_of hd ho) (guard_off hg) hsk f hf), ?_⟩
      exact next h (.tup [] #[] rfl (fun j c v hc => by simp at hc)) hr
    | true =>
      rw [hw]
      simp only [if_true] at hr ⊢
      rw [Option.bind_eq_some_iff] at hr; obtain ⟨x, hx, hr⟩ := hr
      split at hx
      · cases hx
      · rename_i hcal
        refine ⟨fun f hf => .inr (about_calm (about_of hd ho) (by simpa using hcal) (aopB_invoked hx) f hf), ?_⟩
        have hdone := aopB_ok h o hx
        cases x with
        | pan v s => cases hr
        | val v s =>
          obtain ⟨m, u, w', S', ρ', hrun, hm, hs, hv⟩ := hdone
          rw [hrun]
          rcases hm with rfl | ⟨rfl, rfl⟩
          · exact next hs hv hr
          · exact next hs hv hr

theorem codeB_ok (GE : GOK G) {n : Nat} {cs : List Frame} (c : Code) : ∀ {Q : Exit → Act → List Frame → World → Prop} {E : Env} {st : ASt} {S : Stab} {ρ : Rho} {a : Act} {w : World} {r : ASt}, dstsB n c = true → SR E st S ρ a.tmps w → a.tmps.size = n → codeB G c st = some r →
    (∀ a' w' S' ρ', a'.defers = a.defers → a'.tmps.size = n → SR E r S' ρ' a'.tmps w' → Q .normal a' cs w') → c.wpSIn (FW G.wd none) 0 G.P Q a cs w := by
  induction c with
  | skip => intro Q E st S ρ a w r _ h hn hr hQ; cases hr; exact wpSIn_of_wpIn rfl (wpIn_skip (hQ a w S ρ rfl hn h))
  | region id ops draw =>
    intro Q E st S ρ a w r hd h hn hr hQ
    simp only [codeB] at hr
    cases draw with
    | true => simp at hr
    | false => simp only [Bool.false_eq_true, if_false] at hr; exact wpSIn_region (aopsB_ok GE hd _ h hn hr hQ)
  | seq x y ihx ihy =>
    intro Q E st S ρ a w r hd h hn hr hQ
    simp only [dstsB, Bool.and_eq_true] at hd
    simp only [codeB] at hr
    rw [Option.bind_eq_some_iff] at hr; obtain ⟨s, h1, h2⟩ := hr
    exact wpSIn_seq (ihx hd.1 h hn h1 fun a' w' S' ρ' g1 g2 g3 => ihy hd.2 g3 g2 h2 fun a'' w'' S'' ρ'' k1 k2 k3 => hQ a'' w'' S'' ρ'' (k1.trans g1) k2 k3)
  | cond c x y ihx ihy =>
    intro Q E st S ρ a w r hd h hn hr hQ
    simp only [dstsB, Bool.and_eq_true] at hd
    cases hc : st.ev c with
    | bool t =>
      have hv := h.ev c
      rw [hc] at hv
      simp only [codeB, hc] at hr
      cases t with
      | true => exact wpSIn_cond (vr_bool hv) (ihx hd.1 h hn (by simpa using hr) hQ)
      | false => exact wpSIn_cond (vr_bool hv) (ihy hd.2 h hn (by simpa using hr) hQ)
    | _ => simp [codeB, hc] at hr
  | _ => intro Q E st S ρ a w r _ _ _ hr; cases hr

/-- What recover finds in the frame below. -/
def Finds (u : FrameMode) (uv : Value) : Prop := (u = .returning ∧ uv = .nilIface) ∨ u = .panicking [{ v := uv, recovered := false }]

theorem recover_call {o : Oper} (h : isRecover o.op = true) : ∀ c, o.op = .call c → ∃ b, c.callee = .builtin b := by
  intro c e
  unfold isRecover at h
  rw [e] at h
  simp only at h
  split at h
  · rename_i h1 _; exact ⟨_, h1⟩
  · cases h
theorem recover_op {o : Oper} (h : isRecover o.op = true) {P : Program} : (execOp a.eval o).run P w = .ok .recover w := by
  unfold isRecover at h
  split at h
  · rename_i c hc
    split at h
    · rename_i h1 h2
      unfold execOp
      rw [hc]
      simp only [resolve, h1]
      rfl
    · cases h
  · cases h

/-- The closure, entered as a deferred call. -/
theorem runClosure_ok (GE : GSound G)
    {h : FuncId} (hE : G.E h = true) {args : List AV} {hp : Heap} {rv : AV} {r : ARes × Heap} (hr : runClosure G rv h args hp = some r)
    (hl : Ent S ρ w) (H : HR S ρ w hp) (hb : ∀ b o, S b o → b < w.heap.size) {vs : Array Value} (hlen : args.length = vs.size)
    (hargs : ∀ (j : Nat) c v, args[j]? = some c → vs[j]? = some v → VR S ρ w c v) {u : FrameMode} {uv : Value} (hu : Finds u uv) (hrv : VR S ρ w rv uv) :
    CallsDIn (FW G.wd none) 0 G.P h vs u w fun e u' w' => settle u' = .returning ∧ (∃ v, e = .returned v) ∧ ∃ S' ρ', Out (envOf S ρ w hl) r.2 S' ρ' w' ∧ AnswerR S' ρ' w' r.1 e := by
  unfold runClosure at hr
  rw [Option.bind_eq_some_iff] at hr; obtain ⟨fn, hfn, hr⟩ := hr
  rw [Option.bind_eq_some_iff] at hr; obtain ⟨c, hc, hr⟩ := hr
  split at hr
  case h_2 => cases hr
  rename_i id ops rest
  rw [Option.bind_eq_some_iff] at hr; obtain ⟨o, ho, hr⟩ := hr
  split at hr
  case isFalse => cases hr
  rename_i hck
  simp only [Bool.and_eq_true] at hck
  obtain ⟨⟨hrec, hguard⟩, hres⟩ := hck
  rw [Option.bind_eq_some_iff] at hr; obtain ⟨s1, hs1, hr⟩ := hr
  obtain ⟨s2, hx, rfl⟩ := Option.map_eq_some_iff.1 hr
  have hbeg := begin_ok (k := fn.ntmps - vs.size) hl H hb hlen hargs
  have hge : fn.ntmps ≤ (vs ++ Array.replicate (fn.ntmps - vs.size) Go.undef).size := by simp; omega
  generalize htm : vs ++ Array.replicate (fn.ntmps - vs.size) Go.undef = tm at *
  have hd := dstsB_mono hge _ (GE.ok.dsts h fn _ hE hfn hc)
  simp only [dstsB, Bool.and_eq_true] at hd
  have hsz : ∃ k, ops.size = k + 1 := by
    have := (Array.getElem?_eq_some_iff.1 ho).1
    exact ⟨ops.size - 1, by omega⟩
  obtain ⟨k, hk⟩ := hsz
  refine callsDIn_of_wpSIn hfn hc (.inr (GE.ok.inP h hE)) fun c₀ cs hc0 => ?_
  rw [htm]
  -- what the stack is behind recover
  obtain ⟨u', cs', hcs', hset, hstep⟩ : ∃ u' cs', cs' = { c₀ with mode := u' } :: cs ∧ settle u' = .returning ∧
      (recoverD (c₀ :: cs) = some (uv, cs') ∨ (recoverD (c₀ :: cs) = none ∧ uv = .nilIface ∧ cs' = c₀ :: cs)) := by
    rcases hu with ⟨e1, e2⟩ | e1
    · refine ⟨.returning, c₀ :: cs, ?_, rfl, .inr ⟨?_, e2, rfl⟩⟩
      · have : c₀ = { c₀ with mode := .returning } := by rw [← e1, ← hc0]
        rw [← this]
      · simp [recoverD, hc0, e1]
    · refine ⟨.panicking [{ v := uv, recovered := true }], _, rfl, rfl, .inl ?_⟩
      simp [recoverD, hc0, e1]
  refine wpSIn_seq (wpSIn_region ?_)
  have hrange : List.range ops.size = 0 :: List.range' 1 (ops.size - 1) := by
    rw [hk, List.range_eq_range', List.range'_succ]; simp
  rw [hrange]
  simp only [wpOpsSIn, ho]
  refine ⟨fun q hq => (by rw [about_none (recover_call hrec)] at hq; cases hq), ?_⟩
  have hw : Region.wanted o (yielded ops tm) = true := by
    unfold Region.wanted
    cases hg : o.guard with
    | none => rfl
    | some p => rw [hg] at hguard; cases hguard
  rw [hw]
  simp only [if_true]
  rw [recover_op hrec]
  simp only
  have hput : SR (envOf S ρ w hl) (({ sl := zipIx args 0, hp } : ASt).put o.dst rv) S ρ (({ tmps := tm, defers := [] } : Act).put o.dst uv).tmps w :=
    SR.putA (a := { tmps := tm, defers := [] }) hbeg rfl (opDst_lt hd.1 ho) hrv
  have goal : wpOpsSIn (FW G.wd none) 0 G.P ops (Exit.thenS (rest.wpSIn (FW G.wd none) 0 G.P (bodyPostS G.P fn c₀ cs fun e u' w' => settle u' = .returning ∧ (∃ v, e = .returned v) ∧ ∃ S' ρ', Out (envOf S ρ w hl) (retA (outOf (hp.map (·.1)) s2.hp (.tup []))).2 S' ρ' w' ∧ AnswerR S' ρ' w' (retA (outOf (hp.map (·.1)) s2.hp (.tup []))).1 e)) (bodyPostS G.P fn c₀ cs fun e u' w' => settle u' = .returning ∧ (∃ v, e = .returned v) ∧ ∃ S' ρ', Out (envOf S ρ w hl) (retA (outOf (hp.map (·.1)) s2.hp (.tup []))).2 S' ρ' w' ∧ AnswerR S' ρ' w' (retA (outOf (hp.map (·.1)) s2.hp (.tup []))).1 e))
      (List.range' 1 (ops.size - 1)) (({ tmps := tm, defers := [] } : Act).put o.dst uv) cs' w := by
    refine aopsB_ok GE.ok (n := tm.size) hd.1 _ hput (put_size _ _ _) hs1 fun a1 w1 S1 ρ1 g1 g2 g3 => ?_
    show rest.wpSIn (FW G.wd none) 0 G.P _ a1 cs' w1
    have g1' : a1.defers = [] := g1.trans (put_defers _ _ _)
    refine codeB_ok GE.ok rest hd.2 g3 g2 hx fun a2 w2 S2 ρ2 m1 m2 m3 => ?_
    have hresults : (results fn a2.tmps).run G.P w2 = .ok (.tuple #[]) w2 := by
      have : fn.results = #[] := by simpa using hres
      simp [results, this]
    obtain ⟨ρ3, o1, o2⟩ := out_ok (m := hp.map (·.1)) (v := .tup []) (u := .tuple #[]) m3.heap m3.mine m3.old m3.fr (.tup [] #[] rfl fun j c v hc => by simp at hc)
    exact ⟨m1.trans g1', u', hcs', .tuple #[], hresults, hset, ⟨_, rfl⟩, S2, ρ3, o1, o2⟩
  rcases hstep with e | ⟨e1, e2, e3⟩
  · rw [e]; exact goal
  · rw [e1]; subst e2; rw [← e3]; exact goal

/-- A function value that is called, in whatever way. -/
theorem callF_ok {tm : Array Value} (h : SR E st S ρ tm w) {cf : CallFn} {Cc : Array Value → (Ending → World → Prop) → Prop} (hmono : ∀ vs R R', Cc vs R → (∀ e w, R e w → R' e w) → Cc vs R') {g : FuncId} {first caps : List AV}
    (hfn : ∀ (S' : Stab) (ρ' : Rho) args hp r (vs : Array Value) (hl : Ent S' ρ' w), (∀ b o, S b o → S' b o) → cf g args hp = some r → HR S' ρ' w hp → (∀ b o, S' b o → b < w.heap.size) → args.length = vs.size →
      (∀ (j : Nat) c v, args[j]? = some c → vs[j]? = some v → VR S' ρ' w c v) → Cc vs fun e w' => ∃ S'' ρ'', Out (envOf S' ρ' w hl) r.2 S'' ρ'' w' ∧ AnswerR S'' ρ'' w' r.1 e)
    {d : Option Nat} {uf : Value} (hf : VR S ρ w (.fn (.func g) first caps) uf) {r : AR × List Nat} (hr : callB G cf d (.fn (.func g) first caps) [] st = some r) :
    ∃ vx vy, G.E g = true ∧ uf = .func (.func g) vx vy ∧ Cc (vx ++ vy) (CallDone E tm ρ r.2 r.1) := by
  unfold callB at hr
  dsimp only at hr
  split at hr
  case isFalse => cases hr
  rename_i hc
  simp only [Bool.and_eq_true, List.all_eq_true, decide_eq_true_eq] at hc
  obtain ⟨⟨hE, hRB⟩, hns⟩ := hc
  obtain ⟨vx, vy, e, hx, hy, hvx, hvy⟩ := vr_fn hf
  refine ⟨vx, vy, hE, e, ?_⟩
  rw [List.append_nil] at *
  generalize hall : first ++ caps = all at *
  have hal : all.length = (vx ++ vy).size := by rw [← hall]; simp; omega
  have hav : ∀ (j : Nat) c v, all[j]? = some c → (vx ++ vy)[j]? = some v → VR S ρ w c v := by
    intro j c v hcj hvj
    rw [← hall] at hcj
    rcases Nat.lt_or_ge j first.length with h1 | h1
    · rw [List.getElem?_append_left h1] at hcj
      rw [Array.getElem?_append_left (by omega)] at hvj
      exact hvx j c v hcj hvj
    · rw [List.getElem?_append_right h1] at hcj
      rw [Array.getElem?_append_right (by omega), ← hx] at hvj
      exact hvy _ c v hcj hvj
  obtain ⟨S1, k1, k2, k3, k4⟩ := h.fix (prepRows G g all 0)
  generalize hst1 : st.fix (prepRows G g all 0) = st1 at *
  generalize hpre : prepL G g st.hp all 0 = pre at *
  generalize hnsd : reachL 40 st1.hp (AV.namesL pre) [] = ns at *
  have hnd : ns.Nodup := by rw [← hnsd]; exact reachL_nodup _ _ _ _ List.nodup_nil
  have hlen : ns.length ≤ 40 := by rw [← hnsd]; simpa using reachL_length st1.hp 40 (AV.namesL pre) []
  have hprev : ∀ (j : Nat) c v, pre[j]? = some c → (vx ++ vy)[j]? = some v → VR S1 ρ w c v := by
    intro j c v hcj hvj
    rw [← hpre, prepL_get] at hcj
    obtain ⟨x, hx, rfl⟩ := Option.map_eq_some_iff.1 hcj
    rw [Nat.zero_add]
    split
    · exact (hav j x v hx hvj).ext (Ext.more k1 w) fun _ _ h => h
    · rename_i hi
      refine rv_fixed h k1 (hst1 ▸ k2) k3 (hst1 ▸ k4) (hav j x v hx hvj) fun n hn => prepRows_mem G g all 0 j x n hx (by rw [Nat.zero_add]; simpa using hi) hn
  rw [Option.bind_eq_some_iff] at hr
  obtain ⟨⟨res, hp1⟩, hy1, hr⟩ := hr
  obtain ⟨st3, hst3, rfl⟩ := Option.map_eq_some_iff.1 hr
  refine hmono _ _ _ (hfn S1 (subRho ns ρ) _ _ _ (vx ++ vy) ⟨subRho_low hlen, k2.fr.glob⟩ k1 hy1 (k2.heap.sub hnd) k2.fr.bnd (by rw [renL_length, ← hpre, prepL_length]; exact hal) fun j c v hcj hvj => ?_) fun e w' hh => back_ok k2 hnd hlen hns hst3 hh
  rw [renL_get] at hcj
  obtain ⟨x, hx, rfl⟩ := Option.map_eq_some_iff.1 hcj
  exact (hprev j x v hx hvj).sub

/-! ### The whole state under other names -/
theorem aget_renHeap (ns : List Nat) (hp : Heap) (k : Nat) : aget (renHeap ns hp) k = (ns[k]?).bind fun n => (aget hp n).map (AObj.ren (toMap ns)) := by
  have := aget_subHeap' (fun n => (aget hp n).map (AObj.ren (toMap ns))) ns 0 k
  rw [Nat.zero_add] at this
  rw [← this]
  unfold renHeap
  congr 2
  funext p
  cases aget hp p.2 <;> rfl

def envR (E : Env) (S : Stab) (ρ : Rho) (w : World) (hl : Ent S ρ w) : Env := ⟨w, S, fun b => E.F b ∨ E.W0.heap.size ≤ b, ρ, hl.low, hl.glob⟩

theorem SR.rename {tm : Array Value} (h : SR E st S ρ tm w) {ns : List Nat} (hnd : ns.Nodup) (hl : Ent S (subRho ns ρ) w) :
    SR (envR E S (subRho ns ρ) w hl) { sl := st.sl.map fun p => (p.1, p.2.ren (toMap ns)), hp := renHeap ns st.hp } S (subRho ns ρ) tm w := by
  refine ⟨fun t => ?_, ⟨fun k o ho => ?_, fun k hk => ?_, fun k k' b sz sz' j j' h1 h2 => ?_⟩, fun n b sz k hn => ?_, fun n o _ _ r hr => hr, ⟨Ext.refl S w, fun _ _ h => .inl h, h.fr.bnd, Nat.le_refl _, fun _ _ _ => rfl, fun _ h => h, rfl, rfl, rfl⟩⟩
  · show VR S (subRho ns ρ) w ((aget (st.sl.map fun p => (p.1, p.2.ren (toMap ns))) t).getD .undef) _
    rw [aget_map]
    have := h.slot t
    unfold ASt.slot at this
    cases hs : aget st.sl t with
    | none => exact .undef _
    | some v => rw [hs] at this; exact this.sub
  · rw [aget_renHeap, Option.bind_eq_some_iff] at ho
    obtain ⟨n, hn, ho⟩ := ho
    obtain ⟨o', ho', rfl⟩ := Option.map_eq_some_iff.1 ho
    refine (h.heap.obj n o' ho').ren (fun m j r hm hr => ?_) (fun r hr => ?_)
    · have := toMap_some hm; simp [subRho, this, hr]
    · simp [subRho, hn, hr]
  · rw [aget_renHeap] at hk
    unfold subRho
    cases hn : ns[k]? with
    | none => rfl
    | some n =>
      simp only [hn, Option.bind_some, Option.map_eq_none_iff] at hk
      exact h.heap.dom n hk
  · exact (h.heap.sub hnd).inj k k' b sz sz' j j' h1 h2
  · simp only [subRho] at hn
    rw [Option.bind_eq_some_iff] at hn
    obtain ⟨m, hm, hr⟩ := hn
    exact .inl (h.mine m b sz k hr)

theorem SR.unname {tm : Array Value} (h : SR E st S ρ tm w) {ns : List Nat} {hl : Ent S (subRho ns ρ) w} (hin : ∀ n r, E.R0 n = some r → ns[n]? = some n ∧ ∃ o, aget st.hp n = some o ∧ o.moved = false)
    {st' : ASt} {S' : Stab} {ρ' : Rho} {tm' : Array Value} {w' : World} (h' : SR (envR E S (subRho ns ρ) w hl) st' S' ρ' tm' w') : SR E st' S' ρ' tm' w' := by
  have f := h'.fr
  have h0 := h.fr
  refine ⟨h'.slot, h'.heap, fun n b sz k hn => ?_, fun n o ho hm r hr => ?_, ⟨h0.ext.trans f.ext, fun b o hS => ?_, f.bnd, Nat.le_trans h0.size f.size, fun b hb hnF => ?_, fun b hb => f.dfr b (h0.dfr b hb), f.os.trans h0.os, f.tape.trans h0.tape, f.output.trans h0.output⟩⟩
  · rcases h'.mine n b sz k hn with hx | hx
    · exact hx
    · exact .inr (Nat.le_trans h0.size hx)
  · obtain ⟨g1, o0, g2, g3⟩ := hin n r hr
    exact h'.old n o ho hm r (by show subRho ns ρ n = some r; simp [subRho, g1, h.old n o0 g2 g3 r hr])
  · rcases f.new b o hS with hx | hx | hx
    · exact h0.new b o hx
    · exact .inr hx
    · exact .inr (.inr (Nat.le_trans h0.size hx))
  · refine (f.keep b (Nat.lt_of_lt_of_le hb h0.size) fun hx => ?_).trans (h0.keep b hb hnF)
    rcases hx with hx | hx
    · exact hnF hx
    · omega

end Go.Proofs.YteibklnligmanaaDoor.Abs


/- Functions that defer one closure, on: their bodies. -/
namespace Go.Proofs.YteibklnligmanaaDoor.Abs
open Go Go.RowKit
set_option linter.unusedSimpArgs false
set_option linter.unusedVariables false

variable {G : Cfg} {S : Stab} {ρ : Rho} {w : World} {E : Env} {st : ASt} {a : Act}

theorem wpOpIn_mono2 {F : Fence} {n : Nat} {P : Program} {ops : Array Oper} {Q Q' : Exit → Act → World → Prop} {i : Nat} {a : Act} {w : World} {K K' : Act → World → Prop} (h : ∀ a w, K a w → K' a w) (hq : ∀ e a w, e ≠ .normal → Q e a w → Q' e a w)
    (hh : wpOpIn F n P ops Q i K a w) : wpOpIn F n P ops Q' i K' a w := by
  have hq' : LetsOut Q → LetsOut Q' := fun ⟨a, w, h⟩ => ⟨a, w, hq _ _ _ (by simp) h⟩
  unfold wpOpIn at *
  split
  · exact h _ _ (by simpa [*] using hh)
  · rename_i o ho
    simp only [ho] at hh
    split
    · rename_i hw
      simp only [hw, if_true] at hh
      unfold Oper.wpIn at *
      refine ⟨hh.1, ?_⟩
      have hh := hh.2
      generalize (o.semAt F.round a.eval).run P w = r at *
      cases r with
      | ok x w' =>
        cases x <;> simp only [Oper.uponIn] at hh ⊢ <;>
          first
            | exact h _ _ hh
            | exact ⟨hh.1, CallsIn.mono hh.2 (fun e w'' he => by cases e <;> first | exact h _ _ he | exact hq _ _ _ (by simp) he | exact hq' he)⟩
            | exact ⟨hh.1, RowsIn.mono hh.2 (fun _ _ he => h _ _ he)⟩
            | exact ⟨hh.1, RoundIn.mono hh.2 (fun e w'' he => by cases e <;> first | exact h _ _ he | exact hq _ _ _ (by simp) he | exact hq' he)⟩
      | halt x w' => cases x <;> simp only [Oper.uponIn] at hh ⊢ <;> exact hq _ _ _ (by simp) hh
    · rename_i hw; simp only [hw] at hh; exact ⟨hh.1, h _ _ hh.2⟩

theorem wpOpsIn_append {F : Fence} {n : Nat} {P : Program} {ops : Array Oper} {Q Q' : Exit → Act → World → Prop} (l2 : List Nat) (hq : ∀ e a w, e ≠ .normal → Q e a w → Q' e a w) (hn : ∀ a w, Q .normal a w → wpOpsIn F n P ops Q' l2 a w) :
    ∀ (l : List Nat) (a : Act) (w : World), wpOpsIn F n P ops Q l a w → wpOpsIn F n P ops Q' (l ++ l2) a w := by
  intro l
  induction l with
  | nil => intro a w h; exact hn a w h
  | cons i l ih =>
    intro a w h
    rw [List.cons_append, wpOpsIn_cons]
    rw [wpOpsIn_cons] at h
    exact wpOpIn_mono2 (fun a w h => ih a w h) hq h

theorem splitD_spec {c A rest : Code} {ops : Array Oper} {f : Operand} (h : splitD c = some (A, ops, f, rest)) :
    ∃ id o cc, c = .seq A (.seq (.region id ops false) rest) ∧ ops[ops.size - 1]? = some o ∧ o.op = .defer cc ∧ o.guard = none ∧ o.dst = none ∧ cc.callee = .value f ∧ cc.args = #[] := by
  unfold splitD at h
  split at h
  · split at h
    · rename_i o ho
      split at h
      · rename_i cc h1 h2 h3
        split at h
        · rename_i g e1 e2
          cases h
          exact ⟨_, o, cc, rfl, ho, h1, h2, h3, e1, by apply Array.ext'; exact e2⟩
        · cases h
      · cases h
    · cases h
  · cases h

theorem MarksB.cons {m : Nat} {base ds : List Deferred} {w : World} (d : Deferred) (h : ds = d :: base) : MarksB m (d :: base) ds w := ⟨[], by simp [h], List.nodup_nil, fun d hd => by simp at hd⟩

/-- The defer. -/
theorem defer_ok {P : Program} {ops : Array Oper} {i : Nat} {o : Oper} {cc : Call} {f : Operand} {h : FuncId} {vx vy : Array Value} (ho : ops[i]? = some o) (hop : o.op = .defer cc) (hog : o.guard = none) (hod : o.dst = none) (hcf : cc.callee = .value f) (hca : cc.args = #[])
    (hf : a.eval f = .func (.func h) vx vy) {Q : Exit → Act → World → Prop} (hQ : Q .normal { a with defers := { target := .fn (.func h) vy, args := vx } :: a.defers } w) : wpOpsIn (FW G.wd none) 0 P ops Q [i] a w := by
  rw [wpOpsIn_cons]
  unfold wpOpIn
  simp only [ho]
  have hw : Region.wanted o (yielded ops a.tmps) = true := by unfold Region.wanted; rw [hog]
  rw [hw]
  simp only [if_true]
  refine ⟨fun q hq => (by rw [about_none (fun c e => by rw [hop] at e; cases e)] at hq; cases hq), ?_⟩
  have hrun : (o.semAt (FW G.wd none).round a.eval).run P w = .ok (.defer { target := .fn (.func h) vy, args := vx }) w := by
    show Sem.run P (execOp a.eval o) w = _
    unfold execOp
    rw [hop]
    simp only [resolve, hcf, hca, hf, Deferred.ofValue]
    simp
  rw [hrun, Oper.uponIn_defer, hod]
  exact hQ

/-- Marks first, then what was deferred before. -/
theorem leaves_pre {P : Program} {F : Fence} {n : Nat} {fn : Func} {tmps : Array Value} {R : Ending → World → Prop} {u : FrameMode} (hu : u ≠ .run) {m : Nat} {w0 : World} {ds2 : List Deferred} : ∀ (ds : List Deferred) (w : World), Marks m ds w → Dead m w0 w →
    (∀ w', Dead m w0 w' → LeavesInM F n P fn tmps R ds2 u w') → LeavesInM F n P fn tmps R (ds ++ ds2) u w := by
  intro ds
  induction ds with
  | nil => intro w _ hd h; exact h w hd
  | cons d ds ih =>
    intro w hm hd h
    obtain ⟨b, e1, e2, e3⟩ := hm.2 d (by simp)
    have hlt := lt_of_block e3
    have hnd := List.nodup_cons.1 hm.1
    refine ⟨hu, .inl ⟨b, w.putObj b (.deferred none), by rw [e1], run_takeDeferred e3, ih _ ⟨hnd.2, fun d' hd' => ?_⟩ ⟨by rw [World.putObj_size]; exact hd.size, fun b' => ?_, hd.os, hd.tape, hd.output⟩ h⟩⟩
    · obtain ⟨b', g1, g2, g3⟩ := hm.2 d' (List.mem_cons_of_mem _ hd')
      have hne : b' ≠ b := fun e => by subst e; rw [← e1] at g1; subst g1; exact hnd.1 hd'
      exact ⟨b', g1, g2, by rw [World.putObj_heap_other hne]; exact g3⟩
    · by_cases e : b' = b
      · subst e
        rw [World.putObj_heap_same hlt]
        rcases hd.blocks b' with h1 | ⟨h1, h2, h3⟩
        · exact .inr ⟨e2, h1 ▸ e3, rfl⟩
        · exact .inr ⟨h1, h2, rfl⟩
      · rw [World.putObj_heap_other e]; exact hd.blocks b'

theorem namesL_mem {l : List AV} {j : Nat} {x : AV} {n : Nat} (h : l[j]? = some x) (hn : n ∈ x.names) : n ∈ AV.namesL l := by
  induction l generalizing j with
  | nil => simp at h
  | cons y l ih =>
    simp only [AV.namesL, List.mem_append]
    cases j with
    | zero => simp at h; subst h; exact .inl hn
    | succ j => exact .inr (ih (by simpa using h))

/-- A value hangs on its names alone. -/
theorem VR.byNames {S S' : Stab} {ρ ρ' : Rho} {w w' : World} (x : Ext S w S' w') {a : AV} {v : Value} (h : VR S ρ w a v) : (∀ id ∈ a.names, ∀ r, ρ id = some r → ρ' id = some r) → VR S' ρ' w' a v := by
  induction h with
  | pure h => intro _; exact .pure (h.ext x)
  | undef v => intro _; exact .undef v
  | own0 id h => intro hr; exact .own0 id (hr _ (by simp [AV.names]) _ h)
  | own id b sz n cap h hc hb =>
    intro hr
    obtain ⟨c, t, fr, h1, h2⟩ := hb
    obtain ⟨c', fr', h3, h4⟩ := x.shape b c t fr h1
    exact .own id b sz n cap (hr _ (by simp [AV.names]) _ h) hc ⟨c', t, fr', h3, h4 ▸ h2⟩
  | row0 id o c a => intro _; exact .row0 id o c a
  | row id o l b sz n cap h hl => intro hr; exact .row id o l b sz n cap (hr _ (by simp [AV.names]) _ h) hl
  | ptr id i o b sz n h => intro hr; exact .ptr id i o b sz n (hr _ (by simp [AV.names]) _ h)
  | yld id b sz n h => intro hr; exact .yld id b sz n (hr _ (by simp [AV.names]) _ h)
  | mp id b sz n h => intro hr; exact .mp id b sz n (hr _ (by simp [AV.names]) _ h)
  | win id o l s b sz n cap h hl => intro hr; exact .win id o l s b sz n cap (hr _ (by simp [AV.names]) _ h) hl
  | agg cs vs hl _ ih => intro hr; exact .agg cs vs hl fun j c v hc hv => ih j c v hc hv fun id hid => hr id (by simp only [AV.names]; exact namesL_mem hc hid)
  | tup cs vs hl _ ih => intro hr; exact .tup cs vs hl fun j c v hc hv => ih j c v hc hv fun id hid => hr id (by simp only [AV.names]; exact namesL_mem hc hid)
  | iface t a v _ ih => intro hr; exact .iface t a v (ih fun id hid => hr id (by simpa only [AV.names] using hid))
  | fn g a b va vb h1 h2 _ _ i1 i2 =>
    intro hr
    exact .fn g a b va vb h1 h2 (fun j c v hc hv => i1 j c v hc hv fun id hid => hr id (by simp only [AV.names, List.mem_append]; exact .inl (namesL_mem hc hid)))
      (fun j c v hc hv => i2 j c v hc hv fun id hid => hr id (by simp only [AV.names, List.mem_append]; exact .inr (namesL_mem hc hid)))

theorem runBodyD_ok (GE : GSound G) {call : CallFn} (hcall : CallOK G call) {loop : LoopFn} (hloop : ∀ f c st r, loop f c st = some r → LoopSound G f c st r)
    {g : FuncId} {args : List AV} {hp : Heap} {r : ARes × Heap} (hE : G.E g = true) (hr : runBodyD G call loop g args hp = some r) : CallSound G.wd G.P g args hp r := by
  intro S ρ w vs hl H hb hlen hargs
  unfold runBodyD at hr
  rw [Option.bind_eq_some_iff] at hr; obtain ⟨fn, hfn, hr⟩ := hr
  rw [Option.bind_eq_some_iff] at hr; obtain ⟨q, hq, hr⟩ := hr
  rw [Option.bind_eq_some_iff] at hq; obtain ⟨c, hc, hs⟩ := hq
  obtain ⟨A, ops, f, rest⟩ := q
  obtain ⟨id, o, cc, rfl, ho, hop, hog, hod, hcf, hca⟩ := splitD_spec hs
  simp only at hr
  rw [Option.bind_eq_some_iff] at hr; obtain ⟨⟨x0, s0⟩, hA, hr⟩ := hr
  cases x0 with
  | exit i => cases hr
  | ret => cases hr
  | pan v => cases hr
  | normal =>
    simp only at hr
    rw [Option.bind_eq_some_iff] at hr; obtain ⟨⟨x1, s1⟩, hops, hr⟩ := hr
    cases x1 with
    | exit i => cases hr
    | ret => cases hr
    | pan v => cases hr
    | normal =>
      simp only at hr
      split at hr
      case isFalse => cases hr
      rename_i hck
      simp only [Bool.and_eq_true] at hck
      obtain ⟨⟨⟨hk1, hk5⟩, hk2⟩, hk3⟩ := hck
      rw [Option.bind_eq_some_iff] at hr; obtain ⟨⟨x2, s3⟩, hrest, hr⟩ := hr
      split at hr
      · cases hr
      rename_i hk4
      rw [Option.bind_eq_some_iff] at hr; obtain ⟨rv, hrv, hr⟩ := hr
      rw [Option.bind_eq_some_iff] at hr; obtain ⟨⟨z1, mvd⟩, hclo, hr⟩ := hr
      cases z1 with
      | pan v s => cases hr
      | val v s4 =>
        simp only at hr
        obtain ⟨vsr, hres, rfl⟩ := Option.map_eq_some_iff.1 hr
        have hbeg := begin_ok (k := fn.ntmps - vs.size) hl H hb hlen hargs
        have hge : fn.ntmps ≤ (vs ++ Array.replicate (fn.ntmps - vs.size) Go.undef).size := by simp; omega
        generalize htm : vs ++ Array.replicate (fn.ntmps - vs.size) Go.undef = tm at *
        have hd := dstsB_mono hge _ (GE.ok.dsts g fn _ hE hfn hc)
        have hpl := GE.plans g fn _ hE hfn hc
        simp only [dstsB, plansB, Bool.and_eq_true] at hd hpl
        have hnt := Nat.le_trans (GE.ntm g fn hE hfn) hge
        refine callsIn_of_wp_marks hfn hc (.inr (GE.ok.inP g hE)) ?_
        rw [htm]
        have hAw := codeX_ok (ro := none) (n := tm.size) (base := []) (a := { tmps := tm, defers := [] }) GE hcall hloop A (.inl ⟨rfl, hnt⟩) hd.1 hpl.1 ⟨[], rfl, List.nodup_nil, fun d hd => by simp at hd⟩ hbeg rfl hA
        refine wpIn_seq (wpIn_mono hAw fun e a0 w0 ⟨⟨ms0, hms0, hM0⟩, hn0, S0, ρ0, h0, hx0⟩ => ?_)
        cases e with
        | normal =>
          rw [List.append_nil] at hms0
          have hpos := (Array.getElem?_eq_some_iff.1 ho).1
          have hrange : List.range ops.size = List.range (ops.size - 1) ++ [ops.size - 1] := by
            obtain ⟨k, hk⟩ : ∃ k, ops.size = k + 1 := ⟨ops.size - 1, by omega⟩
            rw [hk, List.range_succ]; simp
          refine wpIn_seq (wpIn_region ?_)
          rw [hrange]
          refine wpOpsIn_append [ops.size - 1] (Q := CodeDone (rebase (envOf S ρ w hl) h0.fr) a0.defers tm.size (.normal, s1)) (fun e a w hne hq => ?_) (fun a1 w1 hq1 => ?_) _ _ _ (aops_ok GE.ok hcall hd.2.1 _ h0.base hn0 hops)
          · obtain ⟨_, _, _, _, _, hx⟩ := hq
            cases e <;> first | exact absurd rfl hne | exact hx.elim
          · obtain ⟨d1, n1, S1, ρ1, h1, _⟩ := hq1
            have h1' := h1.unbase h0.fr
            simp only at h1'
            have hfv := h1'.ev f
            obtain ⟨hh, first, caps, hfe⟩ : ∃ hh first caps, s1.ev f = .fn (.func hh) first caps := by
              cases hev : s1.ev f with
              | fn q x y => rw [hev] at hk5; cases q <;> simp [isFn] at hk5; exact ⟨_, _, _, rfl⟩
              | _ => rw [hev] at hk5; simp [isFn] at hk5
            rw [hfe] at hfv hclo hk4
            obtain ⟨vx, vy, hfe2, hx1, hx2, hvx, hvy⟩ := vr_fn hfv
            refine defer_ok ho hop hog hod hcf hca hfe2 ?_
            generalize hns : reachL 60 s1.hp (hp.map (·.1) ++ AV.namesL (s1.sl.map (·.2))) [] = ns at *
            have hnd : ns.Nodup := by rw [← hns]; exact reachL_nodup _ _ _ _ List.nodup_nil
            have hlen2 : ns.length ≤ 60 := by rw [← hns]; simpa using reachL_length s1.hp 60 (hp.map (·.1) ++ AV.namesL (s1.sl.map (·.2))) []
            have hlow : ∀ n q, subRho ns ρ1 n = some q → n < 1000 := by
              intro n q hq
              unfold subRho at hq
              rw [Option.bind_eq_some_iff] at hq
              obtain ⟨m, hm, _⟩ := hq
              have := (List.getElem?_eq_some_iff.1 hm).1
              omega
            have hlow : Ent S1 (subRho ns ρ1) w1 := ⟨hlow, h1'.fr.glob⟩
            have hR := h1'.rename hnd hlow
            have hRw := codeX_ok (ro := none) (n := tm.size) (base := { target := .fn (.func hh) vy, args := vx } :: ms0) (a := { a1 with defers := { target := .fn (.func hh) vy, args := vx } :: a1.defers }) GE hcall hloop rest (.inl ⟨rfl, hnt⟩) hd.2.2 hpl.2.2 (MarksB.cons _ (by simp [d1, hms0])) hR n1 hrest
            refine wpIn_mono hRw fun e a2 w2 ⟨⟨ms2, hms2, hM2⟩, n2, S3, ρ3, h3, hx3⟩ => ?_
            have hpure : rv.pureB = true := by
              unfold recOf at hrv
              split at hrv
              · cases hrv; rfl
              · cases hrv; rfl
              · split at hrv
                · cases hrv; assumption
                · cases hrv
              · cases hrv
            have hin : ∀ n r, (envOf S ρ w hl).R0 n = some r → ns[n]? = some n ∧ ∃ o, aget s1.hp n = some o ∧ o.moved = false := by
              intro n r hn
              have hn : ρ n = some r := hn
              have hmem : n ∈ hp.map (·.1) := by
                cases ho : aget hp n with
                | none => rw [H.dom n ho] at hn; cases hn
                | some o => exact List.mem_map.2 ⟨(n, o), aget_mem ho, rfl⟩
              have g1 : ns[n]? = some n := by simpa using (List.all_eq_true.1 hk2) n hmem
              have g2 : n ∈ ns := List.mem_of_getElem? g1
              have g3 := (List.all_eq_true.1 hk1) n g2
              have g4 := (List.all_eq_true.1 hk3) n g2
              cases ho : aget s1.hp n with
              | none => rw [ho] at g3; cases g3
              | some o => rw [ho] at g4; exact ⟨g1, o, rfl, by simpa using g4⟩
            have core : ∀ u uv, u ≠ .run → Finds u uv → VR S3 ρ3 w2 rv uv → LeavesInM (FW G.wd none) 0 G.P fn a2.tmps (fun e w' => ∃ S' ρ', Out (envOf S ρ w hl) (retA (finishA G g (hp.map (·.1)) (resOf vsr) s4)).2 S' ρ' w' ∧ AnswerR S' ρ' w' (retA (finishA G g (hp.map (·.1)) (resOf vsr) s4)).1 e) a2.defers u w2 := by
              intro u uv hu hF hv
              rw [hms2]
              refine leaves_pre hu ms2 w2 hM2 ⟨rfl, fun _ => .inl rfl, rfl, rfl, rfl⟩ fun w3 hdead => ?_
              have h3' := h3.dead hdead
              have hbx : ∀ n ∈ (AV.ren (toMap ns) (.fn (.func hh) first caps)).names, isBoxAt s3.hp n = true := by
                simpa using hk4
              have hval : VR S3 ρ3 w3 (AV.ren (toMap ns) (.fn (.func hh) first caps)) (a1.eval f) := by
                refine VR.byNames h3'.fr.ext hfv.sub fun n hn q hq => ?_
                have hb := hbx n hn
                unfold isBoxAt at hb
                split at hb
                · rename_i v hv
                  exact h3'.old n _ hv rfl q hq
                · cases hb
              have hrv3 : VR S3 ρ3 w3 rv uv := hv.ext (hdead.ext S3) fun _ _ h => h
              have hfne : AV.ren (toMap ns) (.fn (.func hh) first caps) = .fn (.func hh) (AV.renL (toMap ns) first) (AV.renL (toMap ns) caps) := by simp only [AV.ren]
              rw [hfne] at hval hclo
              obtain ⟨vx', vy', hEh, hev', hcc⟩ := callF_ok (E := envR (envOf S ρ w hl) S1 (subRho ns ρ1) w1 hlow) (Cc := fun vs R => CallsDIn (FW G.wd none) 0 G.P hh vs u w3 fun e u' w' => settle u' = .returning ∧ (∃ v, e = .returned v) ∧ R e w')
                h3' (fun vs R R' hh hRR => CallsDIn.mono hh fun e u' w' ⟨q1, q2, q3⟩ => ⟨q1, q2, hRR _ _ q3⟩)
                (fun S' ρ' args hp' r' vs' hl' hSS hcf' HH hb' hlen' hargs' => runClosure_ok GE (by
                  unfold callB at hclo
                  dsimp only at hclo
                  split at hclo
                  · rename_i hc'; simp only [Bool.and_eq_true] at hc'; exact hc'.1.1
                  · cases hclo) hcf' hl' HH hb' hlen' hargs' hF (.pure ((hrv3.pr hpure).ext (Ext.more hSS w3))))
                hval hclo
              rw [hfe2] at hev'
              cases hev'
              refine ⟨hu, .inr ⟨fun hd => absurd hd (by simp [FW]), .func hh, vy, hh, vx ++ vy, rfl, GE.ok.enter hh hEh _ _, fun q hq => (by simp only [Target.leads, Option.some.injEq] at hq; subst hq; exact .inr (GE.ok.inP _ hEh)), ?_⟩⟩
              refine CallsDIn.mono hcc fun e u' w5 ⟨q1, ⟨vv, q2⟩, q3⟩ => ?_
              subst q2
              simp only
              rw [q1]
              obtain ⟨uu, S5, ρ5, _, h5, _, _⟩ := q3
              have hM5 : Marks (envOf S ρ w hl).W0.heap.size ms0 w5 := by
                refine ⟨hM0.1, fun d' hd' => ?_⟩
                obtain ⟨b, g1, g2, g3⟩ := hM0.2 d' hd'
                exact ⟨b, g1, g2, h5.fr.dfr b (h1.fr.dfr b g3)⟩
              have h6 := SR.unname h1' hin h5
              refine leaves_ok (by simp) ms0 w5 hM5 ⟨rfl, fun _ => .inl rfl, rfl, rfl, rfl⟩ fun w6 hdead6 => ?_
              have k3 := h6.dead hdead6
              obtain ⟨u6, hu6, hvu6⟩ := results_ok k3 hres
              refine ⟨u6, hu6, ?_⟩
              unfold finishA
              split
              · obtain ⟨ρ'', o1, o2⟩ := out_ok (m := hp.map (·.1)) k3.heap k3.mine k3.old k3.fr hvu6
                exact ⟨S5, ρ'', o1, o2⟩
              · obtain ⟨S2, f1, f2, f3, f4⟩ := k3.fix (resOf vsr).rows
                have hv2 := rv_fixed k3 f1 f2 f3 f4 hvu6 fun n hn => hn
                obtain ⟨ρ'', o1, o2⟩ := out_ok (m := hp.map (·.1)) f2.heap f2.mine f2.old f2.fr hv2
                exact ⟨S2, ρ'', o1, o2⟩
            cases x2 with
            | exit i => cases hrv
            | normal =>
              cases hrv
              cases e with
              | normal => exact core .returning .nilIface (by simp) (.inl ⟨rfl, rfl⟩) (.pure .nili)
              | _ => exact hx3.elim
            | ret =>
              cases hrv
              cases e with
              | ret => exact core .returning .nilIface (by simp) (.inl ⟨rfl, rfl⟩) (.pure .nili)
              | _ => exact hx3.elim
            | pan v2 =>
              simp only [recOf] at hrv
              split at hrv
              · cases hrv
                cases e with
                | panic ch =>
                  obtain ⟨u, rfl, hv⟩ := hx3
                  exact core _ u (by simp) (.inr rfl) hv
                | _ => exact hx3.elim
              · cases hrv
        | _ => exact hx0.elim

theorem runFn_ok (GE : GSound G) {call : CallFn} (hcall : CallOK G call) {loop : LoopFn} (hloop : ∀ f c st r, loop f c st = some r → LoopSound G f c st r)
    {g : FuncId} {args : List AV} {hp : Heap} {r : ARes × Heap} (hE : G.E g = true) (hr : runFn G call loop g args hp = some r) : CallSound G.wd G.P g args hp r := by
  unfold runFn at hr
  split at hr
  · exact runBodyD_ok GE hcall hloop hE hr
  · exact runBody_ok GE hcall hloop hE hr

end Go.Proofs.YteibklnligmanaaDoor.Abs


/- Loops over maps: whichever entry comes next, it comes to the same. -/
namespace Go.Proofs.YteibklnligmanaaDoor.Abs
open Go Go.RowKit
set_option linter.unusedSimpArgs false
set_option linter.unusedVariables false

variable {G : Cfg} {S : Stab} {ρ : Rho} {w : World} {E : Env} {st : ASt} {a : Act}

/-! ### The same -/
theorem entBeq_eq : ∀ {x y : List (Nat × AV × AV)}, entBeq x y = true → x = y
  | [], [], _ => rfl
  | [], _ :: _, h => by simp [entBeq] at h
  | _ :: _, [], h => by simp [entBeq] at h
  | a :: x, b :: y, h => by
    simp only [entBeq, Bool.and_eq_true, beq_iff_eq] at h
    obtain ⟨⟨⟨h1, h2⟩, h3⟩, h4⟩ := h
    obtain ⟨a1, a2, a3⟩ := a; obtain ⟨b1, b2, b3⟩ := b
    simp only at h1 h2 h3
    rw [h1, beq_eq _ _ h2, beq_eq _ _ h3, entBeq_eq h4]
theorem aobjBeq_eq {x y : AObj} (h : AObj.beq x y = true) : x = y := by
  cases x <;> cases y <;> simp only [AObj.beq, Bool.and_eq_true, beq_iff_eq, decide_eq_true_eq] at h <;> try (cases h; done)
  · rw [h.1, beq_eq _ _ h.2]
  · rw [h.1.1.1, beqL_eq _ _ h.1.1.2, h.1.2, h.2]
  · rw [entBeq_eq h.1, h.2]
  · rw [beq_eq _ _ h.1.1.1, h.1.1.2, h.1.2, h.2]
theorem slBeq_eq : ∀ {x y : Slots}, slBeq x y = true → x = y
  | [], [], _ => rfl
  | [], _ :: _, h => by simp [slBeq] at h
  | _ :: _, [], h => by simp [slBeq] at h
  | a :: x, b :: y, h => by
    simp only [slBeq, Bool.and_eq_true, beq_iff_eq] at h
    obtain ⟨a1, a2⟩ := a; obtain ⟨b1, b2⟩ := b
    rw [show a1 = b1 from h.1.1, show a2 = b2 from beq_eq _ _ h.1.2, slBeq_eq h.2]
theorem hpBeq_eq : ∀ {x y : Heap}, hpBeq x y = true → x = y
  | [], [], _ => rfl
  | [], _ :: _, h => by simp [hpBeq] at h
  | _ :: _, [], h => by simp [hpBeq] at h
  | a :: x, b :: y, h => by
    simp only [hpBeq, Bool.and_eq_true, beq_iff_eq] at h
    obtain ⟨a1, a2⟩ := a; obtain ⟨b1, b2⟩ := b
    rw [show a1 = b1 from h.1.1, show a2 = b2 from aobjBeq_eq h.1.2, hpBeq_eq h.2]
theorem axBeq_eq {x y : AX} (h : AX.beq x y = true) : x = y := by
  cases x <;> cases y <;> simp only [AX.beq, beq_iff_eq] at h <;> try (cases h; done)
  · rfl
  · rw [h]
  · rfl
  · rw [beq_eq _ _ h]
theorem resBeq_eq {x y : AX × ASt} (h : resBeq x y = true) : x = y := by
  unfold resBeq at h
  simp only [Bool.and_eq_true] at h
  obtain ⟨x1, x2, x3⟩ := x; obtain ⟨y1, y2, y3⟩ := y
  rw [show x1 = y1 from axBeq_eq h.1.1, show x2 = y2 from slBeq_eq h.1.2, show x3 = y3 from hpBeq_eq h.2]
theorem sameAll_all : ∀ {l : List (Option (AX × ASt))} {r : AX × ASt}, sameAll l = some r → ∀ x ∈ l, x = some r
  | [], _, h, _, _ => by cases h
  | x :: l, r, h, z, hz => by
    unfold sameAll at h
    split at h
    · rename_i he
      have : l = [] := by simpa using he
      subst this
      obtain rfl : z = x := by simpa using hz
      exact h
    · rw [Option.bind_eq_some_iff] at h
      obtain ⟨y, hy, h⟩ := h
      rw [Option.bind_eq_some_iff] at h
      obtain ⟨x', hx, h⟩ := h
      split at h
      · rename_i hb
        cases h
        rcases List.mem_cons.1 hz with rfl | hz
        · rw [hx, resBeq_eq hb]
        · exact sameAll_all hy z hz
      · cases h

theorem entR_mem {es : List (Nat × AV × AV)} {M : Array MapEntry} (hE : EntR S w es M) {m : MapEntry} (hm : m ∈ M.toList) : ∃ e ∈ es, m.born = e.1 ∧ PR S w e.2.1 m.key ∧ PR S w e.2.2 m.val := by
  obtain ⟨j, hj, rfl⟩ := List.getElem_of_mem hm
  have hlt : j < es.length := by rw [← hE.1]; simpa using hj
  obtain ⟨m', h1, h2⟩ := hE.2 j es[j] (List.getElem?_eq_getElem hlt)
  have : m' = M.toList[j] := by
    have : M[j]? = some M.toList[j] := by rw [← Array.getElem?_toList]; exact List.getElem?_eq_getElem hj
    rw [h1] at this; exact Option.some.inj this
  subst this
  exact ⟨es[j], List.getElem_mem hlt, h2⟩
theorem entR_mem' {es : List (Nat × AV × AV)} {M : Array MapEntry} (hE : EntR S w es M) {e : Nat × AV × AV} (he : e ∈ es) : ∃ m ∈ M.toList, m.born = e.1 := by
  obtain ⟨j, hj, rfl⟩ := List.getElem_of_mem he
  obtain ⟨m, h1, h2, _⟩ := hE.2 j _ (List.getElem?_eq_getElem hj)
  exact ⟨m, List.mem_of_getElem? (by rw [Array.getElem?_toList]; exact h1), h2⟩
/-- What a step of the iterator comes to. -/
theorem next_ok (h : SR E st S ρ a.tmps w) {it n nx mo : Nat} (hit : st.slot it = .ptr n 0 0) {v : AV} {since last : Nat} {seen : List Nat} (hn : aget st.hp n = some (.iter v since seen last)) {es : List (Nat × AV × AV)} {k : Nat} (he : mapObj st.hp v = some (es, k))
    (hall : (es.all fun e => decide (e.1 < since)) = true) (hsl : since ≤ last) {P : Program} (ty : TypeId) :
    ∃ (c : Option (Nat × AV × AV)) (u : Value) (w' : World) (hp' : Heap), c ∈ (if (es.filter fun e => !seen.contains e.1).isEmpty then [none] else (es.filter fun e => !seen.contains e.1).map some) ∧
      (Instr.next (a.eval (.tmp it)) false ty).run P w = .ok u w' ∧ SR E { st with hp := hp' } S ρ a.tmps w' ∧
      ((c = none ∧ u = .tuple #[.bool false] ∧ hp' = st.hp) ∨ ∃ e ek ev, c = some e ∧ u = .tuple #[.bool true, ek, ev] ∧ PR S w' e.2.1 ek ∧ PR S w' e.2.2 ev ∧ hp' = hput n (.iter v since (seen ++ [e.1]) k) st.hp) := by
  have hx := h.ev (.tmp it)
  have hx' : VR S ρ w (.ptr n 0 0) (a.eval (.tmp it)) := by rw [← hit]; exact hx
  obtain ⟨bp, sz, kk, hρ, eu⟩ := vr_ptr hx'
  obtain ⟨b, r, h1, h2, h3, h4⟩ := h.heap.obj n _ hn
  rw [hρ] at h1; cases h1
  obtain ⟨mb, M, e1, hmb, hE⟩ := mapObj_ok h.heap h4 he
  cases e1
  have ea : a.eval (.tmp it) = .pointer (some ⟨bp, 0, none⟩) := by rw [eu]; simp [at0]
  have hold : ∀ x ∈ M.toList, x.born < since := fun x hx => by
    obtain ⟨e, he1, he2, _⟩ := entR_mem hE hx
    rw [he2]
    simpa using List.all_eq_true.1 hall e he1
  rcases run_next_at (P := P) w ty bp mb since last seen.toArray M k h2 hmb hold hsl with ⟨h0, hrun⟩ | ⟨e, hel, w1, hw1, hrun⟩
  · have hem : (es.filter fun e => !seen.contains e.1).isEmpty = true := by
      rw [List.isEmpty_iff, List.filter_eq_nil_iff]
      intro x hx hc
      obtain ⟨m, hm, hmb'⟩ := entR_mem' hE hx
      have : m ∈ (leftOf M seen.toArray).toList := by
        unfold leftOf
        simp only [Array.toList_filter, List.mem_filter]
        refine ⟨hm, ?_⟩
        rw [hmb']; simpa using hc
      have hz : (leftOf M seen.toArray).toList.length = 0 := by simpa using h0
      rw [List.length_eq_zero_iff] at hz
      rw [hz] at this
      cases this
    exact ⟨none, _, w, st.hp, by rw [if_pos hem]; simp, by rw [ea]; exact hrun, h, .inl ⟨rfl, rfl, rfl⟩⟩
  · unfold leftOf at hel
    simp only [Array.toList_filter, List.mem_filter] at hel
    obtain ⟨x, hx1, hx2, hx3, hx4⟩ := entR_mem hE hel.1
    have hmem : x ∈ es.filter fun e => !seen.contains e.1 := by
      rw [List.mem_filter]
      refine ⟨hx1, ?_⟩
      have := hel.2
      rw [hx2] at this
      simpa using this
    have hne : ¬ (es.filter fun e => !seen.contains e.1).isEmpty = true := by
      rw [List.isEmpty_iff]; intro hh; rw [hh] at hmem; cases hmem
    have hd : SR E st S ρ a.tmps w1 ∧ Ext S w S w1 := by
      rcases hw1 with rfl | rfl
      · exact ⟨h, Ext.refl _ _⟩
      · exact ⟨h.drew, Ext.drew _ _⟩
    have h2' : w1.heap[bp]? = some (.mapIter (some mb) since seen.toArray last) := by rcases hw1 with rfl | rfl <;> exact h2
    have hbk : ChangeMaps.setBlock w1 bp (.mapIter (some mb) since (seen.toArray.push e.born) k) = w1.putObj bp (.mapIter (some mb) since (seen.toArray.push e.born) k) := rfl
    have hlt := lt_of_block h2'
    have hxt : Ext S w1 S (w1.putObj bp (.mapIter (some mb) since (seen.toArray.push e.born) k)) := by
      refine ⟨fun _ _ h => h, fun b o' _ => ?_, fun b c t fr hb => ?_, fun b _ _ _ _ hb => by
        have : b ≠ bp := fun e' => by subst e'; rw [h2'] at hb; cases hb
        rw [World.putObj_heap_other this]; exact hb⟩
      · by_cases e' : b = bp
        · subst e'
          have hh : (w1.putObj b (Obj.mapIter (some mb) since (seen.toArray.push e.born) k)).heap[b]? = some (Obj.mapIter (some mb) since (seen.toArray.push e.born) k) := World.putObj_heap_same hlt
          have : w1.cell? (at0 b o') = none := by simp [World.cell?, at0, h2']
          rw [this]
          unfold World.cell?
          simp only [at0, hh]
        · exact cell_same (World.putObj_heap_other e') o'
      · have : b ≠ bp := fun e' => by subst e'; rw [h2'] at hb; cases hb
        exact ⟨c, fr, by rw [World.putObj_heap_other this]; exact hb, rfl⟩
    have hch := hd.1.change (o := .iter v since (seen ++ [x.1]) k) hn hρ hxt (fun b' hne => World.putObj_heap_other hne) World.putObj_size ⟨rfl, rfl, rfl⟩
      ⟨bp, some mb, hρ, by rw [World.putObj_heap_same hlt, hx2]; simp, h3, (h4.ext hd.2 fun _ _ h => h).ext hxt fun _ _ h => h⟩ (fun _ => rfl)
    exact ⟨some x, _, _, _, by rw [if_neg hne]; exact List.mem_map_of_mem hmem, by rw [ea]; exact hrun, hch, .inr ⟨x, e.key, e.val, rfl, rfl, (hx3.ext hd.2).ext hxt, (hx4.ext hd.2).ext hxt, rfl⟩⟩

/-- How a round of a loop is left. -/
def StepP (G : Cfg) (loop : LoopFn) (E : Env) (base : List Deferred) (n : Nat) (f : FuncId) (c : Code) (r : AX × ASt) (e : Exit) (a : Act) (w : World) : Prop :=
  match e with
  | .normal => ∃ s S ρ, loop f c s = some r ∧ SR E s S ρ a.tmps w ∧ MarksB E.W0.heap.size base a.defers w ∧ a.tmps.size = n
  | e => CodeM E base n r e a w

theorem mapStep_ok (GE : GSound G) {call : CallFn} (hcall : CallOK G call) {loop : LoopFn} (hloop : ∀ f c st r, loop f c st = some r → LoopSound G f c st r)
    {base : List Deferred} {n : Nat} {ro : Option Nat} {f : FuncId} {c : Code} {q : Nat × Nat × Nat × Nat × Code × Code} (hq : mapHead c = some q) {r : AX × ASt} (hro : (ro = none ∧ G.ntm f ≤ n) ∨ noRange c = true) (hd : dstsB n c = true) (hpl : plansB G f c = true)
    (hm : MarksB E.W0.heap.size base a.defers w) (h : SR E st S ρ a.tmps w) (hn : a.tmps.size = n) (hr : mapStep G call loop f c st q = some r) : c.wpIn (FW G.wd ro) 0 G.P (StepP G loop E base n f c r) a w := by
  obtain ⟨id, it, nx, mo, cnd, rest⟩ := q
  -- the code's shape
  obtain ⟨ops, hshape, ty0, p0, af0, ty1, p1, af1, hops, hmn⟩ : ∃ ops, (c = .seq (.seq (.region id ops false) cnd) rest ∨ c = .seq (.region id ops false) (.seq cnd rest)) ∧ ∃ ty0 p0 af0 ty1 p1 af1, ops.toList = [⟨some nx, .next (.tmp it) false, ty0, p0, af0, none⟩, ⟨some mo, .extract (.tmp nx) 0, ty1, p1, af1, none⟩] ∧ mo ≠ nx := by
    have reg : ∀ id' ops cnd' rest', mapRegion id' ops cnd' rest' = some (id, it, nx, mo, cnd, rest) → id' = id ∧ cnd' = cnd ∧ rest' = rest ∧ ∃ ty0 p0 af0 ty1 p1 af1, ops.toList = [⟨some nx, .next (.tmp it) false, ty0, p0, af0, none⟩, ⟨some mo, .extract (.tmp nx) 0, ty1, p1, af1, none⟩] ∧ mo ≠ nx := by
      intro id' ops cnd' rest' hq
      unfold mapRegion at hq
      split at hq
      · rename_i nx0 it0 ty0 p0 af0 mo0 nx1 ty1 p1 af1 ho
        split at hq
        · rename_i hc
          cases hq
          obtain ⟨rfl, hne⟩ := hc
          exact ⟨rfl, rfl, rfl, ty0, p0, af0, ty1, p1, af1, ho, hne⟩
        · cases hq
      · cases hq
    unfold mapHead at hq
    split at hq
    · obtain ⟨rfl, rfl, rfl, hh⟩ := reg _ _ _ _ hq
      exact ⟨_, .inl rfl, hh⟩
    · obtain ⟨rfl, rfl, rfl, hh⟩ := reg _ _ _ _ hq
      exact ⟨_, .inr rfl, hh⟩
    · cases hq
  have hd' : ops.toList.all (opDst n) = true ∧ dstsB n cnd = true ∧ dstsB n rest = true := by
    rcases hshape with rfl | rfl
    · simp only [dstsB, Bool.and_eq_true] at hd; exact ⟨hd.1.1, hd.1.2, hd.2⟩
    · simp only [dstsB, Bool.and_eq_true] at hd; exact ⟨hd.1, hd.2.1, hd.2.2⟩
  have hpl' : plansB G f cnd = true ∧ plansB G f rest = true := by
    rcases hshape with rfl | rfl
    · simp only [plansB, Bool.and_eq_true] at hpl; exact ⟨hpl.1.2, hpl.2⟩
    · simp only [plansB, Bool.and_eq_true] at hpl; exact ⟨hpl.2.1, hpl.2.2⟩
  obtain ⟨hd0, hd1, hd2⟩ := hd'
  obtain ⟨hp1, hp2⟩ := hpl'
  have hro' : ((ro = none ∧ G.ntm f ≤ n) ∨ noRange cnd = true) ∧ ((ro = none ∧ G.ntm f ≤ n) ∨ noRange rest = true) := by
    rcases hro with hh | hh
    · exact ⟨.inl hh, .inl hh⟩
    · rcases hshape with rfl | rfl
      · simp only [noRange, Bool.and_eq_true] at hh; exact ⟨.inr hh.1.2, .inr hh.2⟩
      · simp only [noRange, Bool.and_eq_true] at hh; exact ⟨.inr hh.2.1, .inr hh.2.2⟩
  have hsz : ops.size = 2 := by rw [← Array.length_toList, hops]; rfl
  have ho0 : ops[0]? = some ⟨some nx, .next (.tmp it) false, ty0, p0, af0, none⟩ := by rw [← Array.getElem?_toList, hops]; rfl
  have ho1 : ops[1]? = some ⟨some mo, .extract (.tmp nx) 0, ty1, p1, af1, none⟩ := by rw [← Array.getElem?_toList, hops]; rfl
  unfold mapStep at hr
  simp only at hr
  split at hr
  case h_2 => cases hr
  rename_i n0 hit
  split at hr
  case h_2 => cases hr
  rename_i v since seen last hob
  rw [Option.bind_eq_some_iff] at hr
  obtain ⟨⟨es, k⟩, he, hr⟩ := hr
  split at hr
  case isFalse => cases hr
  rename_i hcond
  simp only [Bool.and_eq_true, decide_eq_true_eq] at hcond
  obtain ⟨cc, u, w', hp', hc, hrun, hsr, hcase⟩ := next_ok (P := G.P) (nx := nx) (mo := mo) h.base hit hob he hcond.1 hcond.2 ty0
  have hb := sameAll_all hr _ (List.mem_map_of_mem hc)
  unfold mapBranch at hb
  rw [Option.bind_eq_some_iff] at hb
  obtain ⟨y, hy, hb⟩ := hb
  rw [Option.bind_eq_some_iff] at hb
  obtain ⟨z, hz, hb⟩ := hb
  -- the end of a round
  have fin : ∀ (x : AX) (s : ASt) (e : Exit) (a3 : Act) (w3 : World), z = (x, s) → CodeM E base n (x, s) e a3 w3 → StepP G loop E base n f c r e a3 w3 := by
    intro x s e a3 w3 hzz hM
    subst hzz
    obtain ⟨m1, m2, S3, ρ3, m3, m4⟩ := hM
    cases x with
    | normal =>
      cases e with
      | normal =>
        simp only at hb
        rw [Option.bind_eq_some_iff] at hb
        obtain ⟨s', hs', hl⟩ := hb
        obtain ⟨S4, ρ4, m5⟩ := canon_ok m3 hs'
        exact ⟨s', S4, ρ4, hl, m5, m1, m2⟩
      | _ => exact m4.elim
    | exit i =>
      simp only [Option.some.injEq] at hb
      subst hb
      cases e with
      | exit i' => exact ⟨m1, m2, S3, _, m3.drop n0, m4⟩
      | _ => exact m4.elim
    | ret =>
      simp only [Option.some.injEq] at hb
      subst hb
      cases e with
      | ret => exact ⟨m1, m2, S3, _, m3.drop n0, m4⟩
      | _ => exact m4.elim
    | pan pv =>
      simp only [Option.some.injEq] at hb
      subst hb
      cases e with
      | panic ch =>
        obtain ⟨pu, e1, e2⟩ := m4
        exact ⟨m1, m2, S3, _, m3.drop n0, pu, e1, e2.kill n0 fun id r hid hh => by simp [hid, hh]⟩
      | _ => exact m4.elim
  have hv0 : ∃ v0 b0, VR S ρ w' v0 u ∧ nextSt st n0 nx mo v since seen k cc = { sl := (mo, .bool b0) :: (nx, v0) :: st.sl, hp := hp' } ∧ (∃ l, v0 = .tup (.bool b0 :: l)) := by
    rcases hcase with ⟨rfl, rfl, rfl⟩ | ⟨x, ek, ev, rfl, rfl, q1, q2, rfl⟩
    · exact ⟨.tup [.bool false], false, .tup _ _ rfl fun j c v e1 e2 => by
        match j with
        | 0 => simp at e1 e2; subst e1 e2; exact .pure (.bool _)
        | j + 1 => simp at e1, rfl, [], rfl⟩
    · exact ⟨.tup [.bool true, x.2.1, x.2.2], true, .tup _ _ rfl fun j c v e1 e2 => by
        match j with
        | 0 => simp at e1 e2; subst e1 e2; exact .pure (.bool _)
        | 1 => simp at e1 e2; subst e1 e2; exact .pure q1
        | 2 => simp at e1 e2; subst e1 e2; exact .pure q2
        | j + 3 => simp at e1, rfl, _, rfl⟩
  obtain ⟨v0, b0, hvu, hns, ll, hv0l⟩ := hv0
  rw [hns] at hy
  have hdst : ∀ t, (some nx : Option Nat) = some t → t < n := fun t e => opDst_lt hd0 ho0 t e
  have hregion : wpOpsIn (FW G.wd ro) 0 G.P ops (CodeDone (rebase E h.fr) a.defers n (.normal, { sl := (mo, .bool b0) :: (nx, v0) :: st.sl, hp := hp' })) (List.range ops.size) a w := by
    rw [hsz, show List.range 2 = [0, 1] from rfl, wpOpsIn_cons]
    unfold wpOpIn
    simp only [ho0]
    rw [guard_ok (ops := ops) h.base (show guardA ops st ⟨some nx, .next (.tmp it) false, ty0, p0, af0, none⟩ = some true from rfl)]
    simp only [if_true]
    refine ⟨fun f hf => .inr (about_calm (about_of hd0 ho0) rfl rfl f hf), ?_⟩
    rw [semAt_ok (fun c e => by cases e)]
    have hex : (execOp a.eval ⟨some nx, .next (.tmp it) false, ty0, p0, af0, none⟩).run G.P w = .ok (.value u) w' := by
      unfold execOp
      simp only
      rw [runB hrun]; rfl
    rw [hex, Oper.uponIn_value]
    have hs1 := hsr.putA (d := some nx) hn hdst hvu
    have ha1 : aops G call ops [1] (({ st with hp := hp' } : ASt).put (some nx) v0) = some (.normal, { sl := (mo, .bool b0) :: (nx, v0) :: st.sl, hp := hp' }) := by
      simp only [aops, ho1, guardA, Option.bind_some, if_true]
      simp [aop, calledA, invokedA, aopB, opv, ASt.put, ASt.ev, ASt.slot, aget, hv0l]
    have := aops_ok GE.ok hcall hd0 [1] (ro := ro) hs1 ((put_size _ _ _).trans hn) ha1
    rwa [put_defers] at this
  have after : ∀ e a1 w1, CodeDone (rebase E h.fr) a.defers n (.normal, { sl := (mo, .bool b0) :: (nx, v0) :: st.sl, hp := hp' }) e a1 w1 → e = .normal ∧ cnd.wpIn (FW G.wd ro) 0 G.P (Exit.then (rest.wpIn (FW G.wd ro) 0 G.P (StepP G loop E base n f c r)) (StepP G loop E base n f c r)) a1 w1 := ?_
  · rcases hshape with hs | hs
    · rw [hs]
      refine wpIn_seq (wpIn_seq (wpIn_mono (wpIn_region hregion) fun e a1 w1 hh => ?_))
      obtain ⟨rfl, hw⟩ := after e a1 w1 hh
      rw [← hs]
      exact hw
    · rw [hs]
      refine wpIn_seq (wpIn_mono (wpIn_region hregion) fun e a1 w1 hh => ?_)
      obtain ⟨rfl, hw⟩ := after e a1 w1 hh
      rw [← hs]
      exact wpIn_seq hw
  intro e a1 w1 hh
  have hM := CodeM.grow hy (codeM_of h.fr hm hh)
  have hyn : y.1 = .normal := by
    unfold growX at hy
    split at hy
    · obtain ⟨s', _, rfl⟩ := Option.map_eq_some_iff.1 hy; rfl
    · cases hy; rfl
  obtain ⟨yx, ys⟩ := y
  simp only at hyn
  subst hyn
  obtain ⟨k1, k2, S2, ρ2, k3, k4⟩ := hM
  cases e with
  | normal =>
    refine ⟨rfl, ?_⟩
    simp only [codeX] at hz
    rw [Option.bind_eq_some_iff] at hz
    obtain ⟨⟨q1, s1⟩, hz1, hz2⟩ := hz
    refine wpIn_mono (codeX_ok GE hcall hloop cnd hro'.1 hd1 hp1 k1 k3 k2 hz1) fun e2 a2 w2 hM2 => ?_
    have hM2' := hM2
    obtain ⟨m1, m2, S3, ρ3, m3, m4⟩ := hM2
    cases q1 with
    | normal =>
      cases e2 with
      | normal =>
        simp only at hz2
        obtain ⟨zx, zs⟩ := z
        exact wpIn_mono (codeX_ok GE hcall hloop rest hro'.2 hd2 hp2 m1 m3 m2 hz2) fun e3 a3 w3 hM3 => fin zx zs e3 a3 w3 rfl hM3
      | _ => exact m4.elim
    | exit i =>
      cases hz2
      cases e2 with
      | exit i' => exact fin _ _ _ _ _ rfl hM2'
      | _ => exact m4.elim
    | ret =>
      cases hz2
      cases e2 with
      | ret => exact fin _ _ _ _ _ rfl hM2'
      | _ => exact m4.elim
    | pan pv =>
      cases hz2
      cases e2 with
      | panic ch => exact fin _ _ _ _ _ rfl hM2'
      | _ => exact m4.elim
  | _ => exact k4.elim
end Go.Proofs.YteibklnligmanaaDoor.Abs


/- All of it: WHAT THE INTERPRETER TELLS IS SO. -/
namespace Go.Proofs.YteibklnligmanaaDoor.Abs
open Go Go.RowKit
set_option linter.unusedSimpArgs false
set_option linter.unusedVariables false

variable {G : Cfg} {S : Stab} {ρ : Rho} {w : World} {E : Env} {st : ASt} {a : Act}

/-! ### All of them -/
def PrimSound (G : Cfg) (prim : FuncId → Option CallFn) : Prop := ∀ g p args hp r, G.E g = true → prim g = some p → p g args hp = some r → CallSound G.wd G.P g args hp r

theorem least_ex {p : Nat → Prop} (h : ∃ j, p j) : ∃ j, p j ∧ ∀ i, p i → j ≤ i := by
  obtain ⟨j, hj⟩ := h
  induction j using Nat.strongRecOn with
  | _ j ih =>
    by_cases hx : ∃ i, i < j ∧ p i
    · obtain ⟨i, hi, hp⟩ := hx; exact ih i hi hp
    · exact ⟨j, hj, fun i hi => Nat.le_of_not_lt fun hlt => hx ⟨i, hlt, hi⟩⟩

theorem sound (GE : GSound G) {prim : FuncId → Option CallFn} (hprim : PrimSound G prim) : ∀ k,
    CallOK G (cK G prim k) ∧ ∀ f c st r, lK G prim k f c st = some r → LoopSound G f c st r := by
  intro k
  induction k using Nat.strongRecOn with
  | _ k ih =>
    refine ⟨⟨?_, ?_⟩, ?_⟩
    · intro g args hp r hg hE hr
      cases k with
      | zero => cases hr
      | succ k =>
        simp only [cK, both, if_pos hg] at hr
        cases hp0 : (prim g).bind fun p => p g args hp with
        | some r' =>
          rw [hp0] at hr
          obtain ⟨p, h1, h2⟩ := Option.bind_eq_some_iff.1 hp0
          cases hr
          exact hprim g p args hp _ hE h1 h2
        | none =>
          rw [hp0] at hr
          exact runFn_ok GE (ih k (by omega)).1 (ih k (by omega)).2 hE hr
    · intro L args hp r hr
      cases k with
      | zero => cases hr
      | succ k =>
        simp only [cK, both, if_neg (show ¬ RB + L < RB by omega), Nat.add_sub_cancel_left] at hr
        exact runRound_ok GE (ih k (by omega)).1 (ih k (by omega)).2 hr
    · intro f c st r hr base n ro E S ρ a w hro hd hpl hm h hn
      classical
      let J : Nat → Act → World → Prop := fun j a' w' => ∃ st S ρ, lK G prim j f c st = some r ∧ SR E st S ρ a'.tmps w' ∧ MarksB E.W0.heap.size base a'.defers w' ∧ a'.tmps.size = n
      let μ : Act → World → Nat := fun a' w' => if h : ∃ j, J j a' w' then (least_ex h).choose else 0
      refine wpIn_loop (fun a' w' => ∃ j, j ≤ k ∧ J j a' w') μ ⟨k, Nat.le_refl _, st, S, ρ, hr, h, hm, hn⟩ ?_
      rintro a1 w1 ⟨j0, hj0, hJ0⟩
      have hex : ∃ j, J j a1 w1 := ⟨j0, hJ0⟩
      have hμ : μ a1 w1 = (least_ex hex).choose := by simp only [μ]; rw [dif_pos hex]
      have hle : (least_ex hex).choose ≤ k := Nat.le_trans ((least_ex hex).choose_spec.2 j0 hJ0) hj0
      obtain ⟨st1, S1, ρ1, hr1, h1, hm1, hn1⟩ := (least_ex hex).choose_spec.1
      rw [hμ]
      generalize (least_ex hex).choose = j at *
      cases j with
      | zero => cases hr1
      | succ j =>
        simp only [lK, both] at hr1
        unfold loopStep at hr1
        split at hr1
        case h_2 q hq =>
          refine wpIn_mono (mapStep_ok (ro := ro) (n := n) GE (ih j (by omega)).1 (ih j (by omega)).2 hq hro hd hpl hm1 h1 hn1 hr1) fun e a2 w2 hP => ?_
          cases e with
          | normal =>
            obtain ⟨s', S3, ρ3, hr2, k5, k1, k2⟩ := hP
            have hJ : J j a2 w2 := ⟨s', S3, ρ3, hr2, k5, k1, k2⟩
            refine ⟨⟨j, by omega, hJ⟩, ?_⟩
            have hex2 : ∃ j, J j a2 w2 := ⟨j, hJ⟩
            simp only [μ]
            rw [dif_pos hex2]
            exact Nat.lt_succ_of_le ((least_ex hex2).choose_spec.2 j hJ)
          | _ => exact hP
        unfold loopStep0 at hr1
        rw [Option.bind_eq_some_iff] at hr1
        obtain ⟨⟨x, s⟩, hx, hr1⟩ := hr1
        have hw := codeX_ok (ro := ro) (n := n) GE (ih j (by omega)).1 (ih j (by omega)).2 c hro hd hpl hm1 h1 hn1 hx
        refine wpIn_mono hw fun e a2 w2 ⟨k1, k2, S2, ρ2, k3, k4⟩ => ?_
        cases x with
        | normal =>
          cases e with
          | normal =>
            simp only at hr1
            rw [Option.bind_eq_some_iff] at hr1
            obtain ⟨s', hs', hr2⟩ := hr1
            obtain ⟨S3, ρ3, k5⟩ := canon_ok k3 hs'
            have hJ : J j a2 w2 := ⟨s', S3, ρ3, hr2, k5, k1, k2⟩
            refine ⟨⟨j, by omega, hJ⟩, ?_⟩
            have hex2 : ∃ j, J j a2 w2 := ⟨j, hJ⟩
            simp only [μ]
            rw [dif_pos hex2]
            exact Nat.lt_succ_of_le ((least_ex hex2).choose_spec.2 j hJ)
          | _ => exact k4.elim
        | exit i =>
          simp only [Option.some.injEq] at hr1
          subst hr1
          cases e with
          | exit i' => exact ⟨k1, k2, S2, ρ2, k3, k4⟩
          | _ => exact k4.elim
        | ret =>
          simp only [Option.some.injEq] at hr1
          subst hr1
          cases e with
          | ret => exact ⟨k1, k2, S2, ρ2, k3, k4⟩
          | _ => exact k4.elim
        | pan v =>
          simp only [Option.some.injEq] at hr1
          subst hr1
          cases e with
          | panic ch => exact ⟨k1, k2, S2, ρ2, k3, k4⟩
          | _ => exact k4.elim

/-- WHAT THE INTERPRETER TELLS OF A CALL IS SO. -/
theorem callL_ok (GE : GSound G) {prim : FuncId → Option CallFn} (hprim : PrimSound G prim) {g : FuncId} (hg : g < RB) {args : List AV} {hp : Heap} {r : ARes × Heap} (hE : G.E g = true) (hr : callL G prim g args hp = some r) : CallSound G.wd G.P g args hp r := by
  obtain ⟨K, hK⟩ := of_limit hr
  exact (sound GE hprim K).1.fn g args hp r hg hE (hK K (Nat.le_refl _))

end Go.Proofs.YteibklnligmanaaDoor.Abs


/- What a seat's tables are asked, told by one look; what the library's outer functions come to. -/
namespace Go.Proofs.YteibklnligmanaaDoor.Abs
open Go Go.RowKit
set_option linter.unusedSimpArgs false
set_option linter.unusedVariables false

def fnOK (G : Cfg) (g : FuncId) : Bool :=
  match G.P.funcs[g]? with
  | some fn => !(fn.name == "runtime.NumGoroutine") && (match fn.body with | some c => dstsB fn.ntmps c && plansB G g c && decide (G.ntm g ≤ fn.ntmps) | none => false)
  | none => false
def rOK (G : Cfg) (r : LRec) : Bool :=
  dstsB r.nt r.assign && plansB G r.g r.assign && noRange r.assign && (r.ps.toList.all fun t => decide (t < r.nt)) && dstsB r.nt r.body && plansB G r.g r.body && noRange r.body

def ExtOK (G : Cfg) : Prop := ∀ g p, G.ext g = some p → ∀ args v, p args = some v → ∀ (S : Stab) (ρ : Rho) (w : World) (vs : Array Value), args.length = vs.size → (∀ (j : Nat) c u, args[j]? = some c → vs[j]? = some u → VR S ρ w c u) →
    ∃ u, (callFunc g vs).run G.P w = .ok (.value u) w ∧ VR S ρ w v u

/-- Whom the methods' names lead to. -/
def MethOK (G : Cfg) : Prop := ∀ t n m, G.meth t n = some m → ∀ (v u : Value) (w : World), (match m.2 with | none => u = v | some te => (Instr.loadAt te v).run G.P w = .ok u w) → (method (G.P.types.size + Made.depth) t v n).run G.P w = .ok (m.1, u) w
def MethIn (G : Cfg) : Prop := ∀ t n v f r w w', (metT.lookup (t, n)).isSome = true → (method (G.P.types.size + Made.depth) t v n).run G.P w = .ok (f, r) w' → f < NF
theorem gsound {G : Cfg} (n : Nat) (hE : ∀ g, G.E g = true → g < n) (hall : ((List.range n).all fun g => !G.E g || fnOK G g) = true) (hm : G.P.follows .mixedOrders = true) (hr : ∀ r, G.roundOK r = true → rOK G r = true) (hx : ExtOK G) (hs : G.P.funcs.size = NF) (hxp : ∀ g p, G.ext g = some p → g < NF) (hme : MethOK G := by intro t n m h; cases h) (hmi : MethIn G := by intro t n v f r w w' h; cases h) : GSound G := by
  have key : ∀ g, G.E g = true → fnOK G g = true := by
    intro g hg
    have := List.all_eq_true.1 hall g (List.mem_range.2 (hE g hg))
    simpa [hg] using this
  have parts : ∀ g, G.E g = true → ∃ fn c, G.P.funcs[g]? = some fn ∧ fn.body = some c ∧ (fn.name == "runtime.NumGoroutine") = false ∧ dstsB fn.ntmps c = true ∧ plansB G g c = true ∧ G.ntm g ≤ fn.ntmps := by
    intro g hg
    have := key g hg
    unfold fnOK at this
    split at this
    · rename_i fn hfn
      simp only [Bool.and_eq_true] at this
      obtain ⟨h1, h2⟩ := this
      split at h2
      · rename_i c hc
        simp only [Bool.and_eq_true, decide_eq_true_eq] at h2
        exact ⟨fn, c, hfn, hc, by simpa using h1, h2.1.1, h2.1.2, h2.2⟩
      · cases h2
    · cases this
  refine ⟨⟨fun g hg args w => ?_, hs, fun g hg => ?_, hxp, hx, hmi, hme, fun g fn c hg hf hb => ?_⟩, hm, fun g fn c hg hf hb => ?_, fun g fn hg hf => ?_, fun r h => ?_⟩
  · obtain ⟨fn, c, h1, h2, h3, _⟩ := parts g hg
    have h3' : fn.name ≠ "runtime.NumGoroutine" := by simpa using h3
    simp [callFunc, h1, h2, h3']
  · obtain ⟨fn, c, h1, h2, h3, _⟩ := parts g hg
    rw [← hs]; exact (Array.getElem?_eq_some_iff.1 h1).1
  · obtain ⟨fn', c', h1, h2, _, h4, _⟩ := parts g hg
    rw [hf] at h1; cases h1; rw [hb] at h2; cases h2; exact h4
  · obtain ⟨fn', c', h1, h2, _, _, h5, _⟩ := parts g hg
    rw [hf] at h1; cases h1; rw [hb] at h2; cases h2; exact h5
  · obtain ⟨fn', c', h1, h2, _, _, _, h6⟩ := parts g hg
    rw [hf] at h1; cases h1; exact h6
  · have := hr r h
    unfold rOK at this
    simp only [Bool.and_eq_true] at this
    obtain ⟨⟨⟨⟨⟨⟨a, b⟩, c⟩, d⟩, e⟩, f⟩, g⟩ := this
    exact ⟨⟨a, b, c⟩, d, e, f, g⟩

/-! ### Outer functions -/
def cmpStr : List AV → Option AV
  | [.str a, .str b] => some (.int .i64 (Lib.compareBytes a b))
  | _ => none

theorem cmpStr_ok {P : Program} {g : FuncId} {fn : Func} (hf : P.funcs[g]? = some fn) (hn : (fn.name == "runtime.NumGoroutine") = false) (hb : fn.body = none) (h1 : Extern.findNext fn = none) (h2 : Extern.find fn = some Extern.BytealgCompare.compare)
    {args : List AV} {v : AV} (h : cmpStr args = some v) {S : Stab} {ρ : Rho} {w : World} {vs : Array Value} (hl : args.length = vs.size) (hv : ∀ (j : Nat) c u, args[j]? = some c → vs[j]? = some u → VR S ρ w c u) :
    ∃ u, (callFunc g vs).run P w = .ok (.value u) w ∧ VR S ρ w v u := by
  unfold cmpStr at h
  split at h
  case h_2 => cases h
  rename_i a b
  cases h
  obtain ⟨x, y, rfl⟩ : ∃ x y, vs = #[x, y] := by
    obtain ⟨l⟩ := vs
    match l, hl with
    | [x, y], _ => exact ⟨x, y, rfl⟩
  obtain ⟨s, rfl, rfl⟩ := vr_str (hv 0 _ x rfl rfl)
  obtain ⟨t, rfl, rfl⟩ := vr_str (hv 1 _ y rfl rfl)
  refine ⟨_, ?_, .pure (.int _ _)⟩
  rw [run_callFunc_extern hf hn (by rw [hb]; rfl) h1 h2, Lib.run_compareString]
  rfl

/-- slices.Clone, told by hand. -/
def clonePrim : CallFn := fun _ args hp =>
  match args with
  | [.list sz es] => some (.ret (.list sz es), hp)
  | [.nils] => some (.ret .nils, hp)
  | _ => none

/-- What was gone through at a text's own values, told by hand. -/
def worksP : CallFn := fun _ args hp =>
  match args, hp with
  | [], [] => some (.ret (.bool true), [])
  | _, _ => none
def primN : FuncId → Option CallFn := fun _ => none

/-- A call whose end is told by hand, since it was gone through. -/
theorem CallSound.of_run {G : Cfg} (GE : GSound G) {prim : FuncId → Option CallFn} (hp : PrimSound G prim) {k : Nat} {g : FuncId} {args : List AV} {hp0 : Heap} {r : ARes × Heap} (hg : g < RB) (hE : G.E g = true) (h : (both G prim k).1 g args hp0 = some r) : CallSound G.wd G.P g args hp0 r :=
  (sound GE hp k).1.fn g args hp0 r hg hE h

end Go.Proofs.YteibklnligmanaaDoor.Abs


/- strings.Builder's String, told by hand; what it is sound by. -/
namespace Go.Proofs.YteibklnligmanaaDoor.Abs
open Go Go.RowKit
set_option linter.unusedSimpArgs false
set_option linter.unusedVariables false

/-- A byte's value. -/
def bV (b : UInt8) : AV := .int .u8 b.toNat
def bytesR? : List AV → Option (List UInt8)
  | [] => some []
  | .int .u8 n :: r => if 0 ≤ n ∧ n < 256 then (bytesR? r).map fun l => UInt8.ofNat n.toNat :: l else none
  | _ => none
theorem toNat_ofNat {n : Int} (h0 : 0 ≤ n) (h1 : n < 256) : ((UInt8.ofNat n.toNat).toNat : Int) = n := by
  rw [UInt8.toNat_ofNat']
  have : n.toNat < 256 := by omega
  rw [Nat.mod_eq_of_lt this]; omega
theorem bytesR_map (l : List UInt8) : bytesR? (l.map bV) = some l := by
  induction l with
  | nil => rfl
  | cons b l ih =>
    have h1 : (b.toNat : Int) < 256 := by have := b.toNat_lt; omega
    simp only [List.map_cons, bV, bytesR?]
    rw [if_pos ⟨by omega, h1⟩]
    have : List.map (fun b : UInt8 => AV.int .u8 b.toNat) l = l.map bV := rfl
    rw [show (List.map bV l) = l.map bV from rfl, ih]
    simp
theorem bytesR_eq : ∀ {es : List AV} {l : List UInt8}, bytesR? es = some l → es = l.map bV
  | [], l, h => by cases h; rfl
  | .int .u8 n :: r, l, h => by
    simp only [bytesR?] at h
    split at h
    · rename_i hc
      obtain ⟨l', h', rfl⟩ := Option.map_eq_some_iff.1 h
      simp only [List.map_cons, bV, toNat_ofNat hc.1 hc.2, ← bytesR_eq h']
    · cases h

def cellAt (v : AV) (i : Nat) : Option AV := v.cells[i]?
/-- What String tells; the row is not looked at, or written, any more. -/
def strP (B : TypeId) : CallFn := fun _ args hp =>
  match args with
  | [.ptr id 0 0] => (match aget hp id with
    | some (.box _ v) => (match cellAt v 1 with
      | some (.own k) => (match aget hp k with
        | some (.row 1 es _ m) => if m.t = B ∧ es.length ≤ LIM then (bytesR? es).map fun bs => (.ret (.str bs), hput k (.row 1 [] false ⟨true, m.t⟩) (({ sl := [], hp } : ASt).killn k).hp) else none
        | _ => none)
      | _ => none)
    | _ => none)
  | _ => none

structure StrRun (P : Program) (g : FuncId) (B : TypeId) : Prop where
  some_ : ∀ (w : World) (b k : Nat) (l : List UInt8) (cap : Nat) (cells : Array Value) (fr : Nat × Nat), w.cell? (at0 b 1) = some (.slice (some (at0 k 0)) l.length cap) → w.heap[k]? = some (.cells cells B fr) → l ≠ [] → l.length ≤ cap →
    (∀ (j : Nat) x, l[j]? = some x → w.cell? (at0 k j) = some (.int .u8 x.toNat)) → l.length ≤ cells.size → l.length ≤ 9223372036854775807 →
    CallsIn (FW false none) 0 P g #[.pointer (some (at0 b 0))] w fun e w' => e = .returned (.string ⟨l.toArray⟩) ∧ w' = w.drew.freeze (at0 k 0) l.length
  none_ : ∀ (w : World) (b : Nat), w.cell? (at0 b 1) = some (.slice none 0 0) → CallsIn (FW false none) 0 P g #[.pointer (some (at0 b 0))] w fun e w' => e = .returned (.string ⟨#[]⟩) ∧ w' = w.drew
  zero_ : ∀ (w : World) (b k cap : Nat) (cells : Array Value) (t : TypeId) (fr : Nat × Nat), w.cell? (at0 b 1) = some (.slice (some (at0 k 0)) 0 cap) → w.heap[k]? = some (.cells cells t fr) →
    CallsIn (FW false none) 0 P g #[.pointer (some (at0 b 0))] w fun e w' => e = .returned (.string ⟨#[]⟩) ∧ (w' = w.drew ∨ ∃ o, w' = w.drew.alloc o)

theorem freeze_other {w : World} {k n : Nat} {b : Nat} (h : b ≠ k) : (w.freeze (at0 k 0) n).heap[b]? = w.heap[b]? := by
  unfold World.freeze
  split
  · rfl
  · simp only [at0, Array.getElem?_modify, if_neg (Ne.symm h)]
theorem freeze_same {w : World} {k n : Nat} {c : Array Value} {t : TypeId} {fr : Nat × Nat} (h : w.heap[k]? = some (.cells c t fr)) : ∃ fr', (w.freeze (at0 k 0) n).heap[k]? = some (.cells c t fr') := by
  unfold World.freeze
  split
  · exact ⟨fr, h⟩
  · obtain ⟨lo, hi⟩ := fr
    simp only [at0, Array.getElem?_modify, if_true, h, Option.map_some]
    exact ⟨_, rfl⟩
theorem freeze_cell {w : World} {k n : Nat} (b o : Nat) : (w.freeze (at0 k 0) n).cell? (at0 b o) = w.cell? (at0 b o) := by
  by_cases h : b = k
  · subst h
    cases hb : w.heap[b]? with
    | none =>
      have : (w.freeze (at0 b 0) n).heap[b]? = none := by
        unfold World.freeze
        split
        · exact hb
        · simp only [at0, Array.getElem?_modify, if_true, hb, Option.map_none]
      simp [World.cell?, at0, hb, this]
      simp [at0] at this
      simp [this]
    | some ob =>
      cases ob with
      | cells c t fr =>
        obtain ⟨fr', h'⟩ := freeze_same (n := n) hb
        simp only [cell_block hb, cell_block h']
      | _ =>
        have : (w.freeze (at0 b 0) n).heap[b]? = w.heap[b]? := by
          unfold World.freeze
          split
          · rfl
          · simp only [at0, Array.getElem?_modify, if_true, hb, Option.map_some]
        exact cell_same this o
  · exact cell_same (freeze_other h) o
theorem freeze_size {w : World} {a : Addr} {n : Nat} : (w.freeze a n).heap.size = w.heap.size := by
  unfold World.freeze
  split <;> simp

variable {G : Cfg}
theorem strP_ok0 {g : FuncId} {B : TypeId} (R : StrRun G.P g B) {args : List AV} {hp : Heap} {r : ARes × Heap} (h : strP B g args hp = some r) : CallSound false G.P g args hp r := by
  unfold strP at h
  split at h
  case h_2 => cases h
  rename_i id
  split at h
  case h_2 => cases h
  rename_i T v hob
  split at h
  case h_2 => cases h
  rename_i k hk
  split at h
  case h_2 => cases h
  rename_i es fx m hrow
  split at h
  case isFalse => cases h
  rename_i hc
  obtain ⟨bs, hbs, rfl⟩ := Option.map_eq_some_iff.1 h
  have hes := bytesR_eq hbs
  have hlen : es.length = bs.length := by rw [hes]; simp
  intro S ρ w vs hl H hS hal hv
  obtain ⟨u0, rfl⟩ : ∃ u0, vs = #[u0] := by
    obtain ⟨l⟩ := vs
    match l, hal with
    | [x], _ => exact ⟨x, rfl⟩
  obtain ⟨b, sz, n, hρ, rfl⟩ := vr_ptr (hv 0 _ u0 rfl rfl)
  rw [Nat.zero_mul, Nat.zero_add]
  obtain ⟨rfl, cells, t, fr, g2, g3, g4, g5, g6⟩ := box_of H hob hρ
  obtain ⟨u, hu, hvu⟩ := g6 1 _ hk
  have hcell : w.cell? (at0 b 1) = some u := by rw [cell_block g2]; exact hu
  have S0 : SR (envOf S ρ w hl) { sl := [], hp } S ρ #[] w := by
    refine ⟨fun t => .undef _, H, fun n b sz k hn => .inl ⟨n, sz, k, hn⟩, fun n o _ _ r hr => hr, ⟨Ext.refl S w, fun _ _ h => .inl h, hS, Nat.le_refl _, fun _ _ _ => rfl, fun _ h => h, rfl, rfl, rfl⟩⟩
  have fin : ∀ (w' : World) (e : Ending), e = .returned (.string ⟨bs.toArray⟩) → SR (envOf S ρ w hl) { sl := (({ sl := [], hp } : ASt).killn k).sl, hp := hput k (.row 1 [] false ⟨true, m.t⟩) (({ sl := [], hp } : ASt).killn k).hp } S (upd ρ k ⟨none, 0⟩) #[] w' →
      ∃ S' ρ', Out (envOf S ρ w hl) (hput k (.row 1 [] false ⟨true, m.t⟩) (({ sl := [], hp } : ASt).killn k).hp) S' ρ' w' ∧ AnswerR S' ρ' w' (.ret (.str bs)) e := by
    rintro w' e rfl k1
    refine ⟨S, _, ⟨k1.heap, k1.mine, k1.old, k1.fr⟩, ?_⟩
    have := VR.pure (ρ := upd ρ k ⟨none, 0⟩) (PR.str (S := S) (w := w') ⟨bs.toArray⟩)
    exact this
  have hst0 : Step (envOf S ρ w hl) S w S w.drew := Step.drew S0.fr
  cases hvu with
  | pure hp => cases hp
  | own0 _ h0 =>
    have he := row0_of H hrow h0
    have hb0 : bs = [] := by subst he; simpa [eq_comm] using hlen
    subst hb0
    refine (R.none_ w b hcell).mono fun e w' ⟨he, hw⟩ => ?_
    subst hw
    exact fin _ e he (S0.regrow hrow hst0 (fun m b s k _ _ => ⟨rfl, fun _ h => h⟩) (fun b s k e => by cases e) (.inl ⟨rfl, by simp [upd]⟩) rfl)
  | own _ gb s n cap hρk hcap hr =>
    obtain ⟨rfl, rfl, _, hsz, cells', t', fr', k2, k3, k4, k5, k6⟩ := rowobj_of H hrow hρk
    by_cases hb0 : bs = []
    · subst hb0
      have he0 : es = [] := by simpa using hlen
      subst he0
      refine (R.zero_ w b gb cap cells' t' fr' hcell k2).mono fun e w' ⟨he, hw⟩ => ?_
      refine fin _ e he ?_
      rcases hw with rfl | ⟨o, rfl⟩
      · exact S0.regrow hrow hst0 (fun m b s k _ _ => ⟨rfl, fun _ h => h⟩) (fun b s k e => by cases e) (.inl ⟨rfl, by simp [upd]⟩) rfl
      · have h1 := S0.drew
        refine h1.regrow hrow (Step.alloc h1.fr o) (fun m b' s k _ hb => ⟨Below.heap_alloc w.drew o b' (h1.heap.lt hb), fun _ h => h⟩) (fun b s k e => by cases e) (.inl ⟨rfl, by simp [upd]⟩) rfl
    · rw [hlen] at hcell
      have hlim := hc.2
      unfold LIM at hlim
      have hcells : ∀ (j : Nat) x, bs[j]? = some x → w.cell? (at0 gb j) = some (.int .u8 x.toNat) := by
        intro j x hx
        have he : es[j]? = some (bV x) := by rw [hes, List.getElem?_map, hx]; rfl
        obtain ⟨q, hq, hp, _⟩ := k5 j 0 (bV x) (bV x) he rfl
        rw [Nat.mul_one, Nat.add_zero] at hq
        rw [cell_block k2, hq]
        cases hp; rfl
      obtain ⟨k3a, k3b⟩ := k3
      refine (R.some_ w b gb bs cap cells' fr' hcell (by rw [k2, k3b.1, hc.1]) hb0 (by omega) hcells (by omega) (by omega)).mono fun e w' ⟨he, hw⟩ => ?_
      subst hw
      refine fin _ e he ?_
      have h1 := S0.drew
      have hF : (envOf S ρ w hl).F gb := ⟨k, _, _, hρk⟩
      have hg2 : w.drew.heap[gb]? = some (.cells cells' t' fr') := k2
      refine h1.regrow hrow (w' := w.drew.freeze (at0 gb 0) bs.length) ⟨⟨fun _ _ h => h, fun b' o _ => freeze_cell b' o, fun b' c t2 f2 hb' => ?_, fun b' o _ _ _ hb' => by
        have hne : b' ≠ gb := fun e => by subst e; rw [hg2] at hb'; cases hb'
        exact (freeze_other hne).trans hb'⟩, by rw [freeze_size]; exact Nat.le_refl _, fun b' _ hnF => freeze_other (fun e => hnF (e ▸ hF)), fun b' hb' => ?_, fun _ _ h => .inl h, fun b' o hb' => by rw [freeze_size]; exact hS b' o hb', ?_, ?_, ?_⟩
        (fun n b' s' k' hn hb' => ⟨freeze_other fun e => ?_, fun _ h => h⟩) (fun b s k e => by cases e) (.inl ⟨rfl, by simp [upd]⟩) rfl
      · by_cases e : b' = gb
        · subst e
          rw [hg2] at hb'; cases hb'
          obtain ⟨fr3, h3⟩ := freeze_same (n := bs.length) hg2
          exact ⟨cells', fr3, h3, rfl⟩
        · exact ⟨c, f2, by rw [freeze_other e]; exact hb', rfl⟩
      · have e : b' ≠ gb := fun e => by subst e; rw [hg2] at hb'; cases hb'
        rw [freeze_other e]; exact hb'
      · unfold World.freeze; split <;> rfl
      · unfold World.freeze; split <;> rfl
      · unfold World.freeze; split <;> rfl
      · subst e
        exact hn (H.inj _ _ _ _ _ _ _ hb' hρk)
theorem strP_ok {g : FuncId} {B : TypeId} (R : StrRun G.P g B) {args : List AV} {hp : Heap} {r : ARes × Heap} (h : strP B g args hp = some r) : CallSound G.wd G.P g args hp r := (strP_ok0 R h).any
/-- A pointer that does not escape is as it is. -/
def idP : List AV → Option AV
  | [v] => some v
  | _ => none
theorem idP_ok {P : Program} {g : FuncId} {fn : Func} (hf : P.funcs[g]? = some fn) (hn : (fn.name == "runtime.NumGoroutine") = false) (hb : fn.body = none) (h1 : Extern.findNext fn = none) (h2 : Extern.find fn = some Extern.AbiNoEscape.same)
    {args : List AV} {v : AV} (h : idP args = some v) {S : Stab} {ρ : Rho} {w : World} {vs : Array Value} (hl : args.length = vs.size) (hv : ∀ (j : Nat) c u, args[j]? = some c → vs[j]? = some u → VR S ρ w c u) :
    ∃ u, (callFunc g vs).run P w = .ok (.value u) w ∧ VR S ρ w v u := by
  unfold idP at h
  split at h
  case h_2 => cases h
  cases h
  obtain ⟨x, rfl⟩ : ∃ x, vs = #[x] := by
    obtain ⟨l⟩ := vs
    match l, hl with
    | [x], _ => exact ⟨x, rfl⟩
  refine ⟨x, ?_, hv 0 _ x rfl rfl⟩
  rw [run_callFunc_extern hf hn (by rw [hb]; rfl) h1 h2, Lib.run_noEscape]
  rfl

/-- internal/bytealg.IndexByteString. -/
def ixbP : List AV → Option AV
  | [.str s, .int .u8 c] => some (.int .i64 (Lib.indexByte s c.toNat.toUInt8))
  | _ => none
theorem ixbP_ok {P : Program} {g : FuncId} {fn : Func} (hf : P.funcs[g]? = some fn) (hn : (fn.name == "runtime.NumGoroutine") = false) (hb : fn.body = none) (h1 : Extern.findNext fn = none) (h2 : Extern.find fn = some Extern.BytealgIndexByte.indexByte)
    {args : List AV} {v : AV} (h : ixbP args = some v) {S : Stab} {ρ : Rho} {w : World} {vs : Array Value} (hl : args.length = vs.size) (hv : ∀ (j : Nat) c u, args[j]? = some c → vs[j]? = some u → VR S ρ w c u) :
    ∃ u, (callFunc g vs).run P w = .ok (.value u) w ∧ VR S ρ w v u := by
  unfold ixbP at h
  split at h
  case h_2 => cases h
  rename_i s c
  cases h
  obtain ⟨x, y, rfl⟩ : ∃ x y, vs = #[x, y] := by
    obtain ⟨l⟩ := vs
    match l, hl with
    | [x, y], _ => exact ⟨x, y, rfl⟩
  obtain ⟨b, rfl, rfl⟩ := vr_str (hv 0 _ x rfl rfl)
  have := vr_int (hv 1 _ y rfl rfl); subst this
  refine ⟨_, ?_, .pure (.int _ _)⟩
  rw [run_callFunc_extern hf hn (by rw [hb]; rfl) h1 h2, Lib.run_indexByteString]
  rfl
end Go.Proofs.YteibklnligmanaaDoor.Abs


/- slices.Delete on a row of one's own, told by hand; what it is sound by. -/
namespace Go.Proofs.YteibklnligmanaaDoor.Abs
open Go Go.RowKit
set_option linter.unusedSimpArgs false
set_option linter.unusedVariables false

/-- What Delete tells, where something is taken out of a row of things of one cell. -/
def delP : CallFn := fun _ args hp =>
  match args with
  | [.own k, .int .i64 a, .int .i64 b] => (match aget hp k with
    | some (.row 1 es false m) => if 0 ≤ a ∧ a < b ∧ b ≤ es.length ∧ es.length ≤ LIM then some (.ret (.own k), hput k (.row 1 (es.take a.toNat ++ es.drop b.toNat) false ⟨true, m.t⟩) (({ sl := [], hp } : ASt).killn k).hp) else none
    | _ => none)
  | _ => none

structure DelRun (P : Program) (g : FuncId) : Prop where
  run : ∀ (w : World) (blk cap i j : Nat) (d : List Value), (∀ k x, d[k]? = some x → w.cell? (at0 blk k) = some x ∧ w.frozen? (at0 blk k) = false) → (∀ x ∈ d, scalarV x = true) → d.length ≤ cap → d.length ≤ 9223372036854775807 → i < j → j ≤ d.length →
    CallsIn (FW false none) 0 P g #[.slice (some (at0 blk 0)) d.length cap, .int .i64 i, .int .i64 j] w fun e w' => e = .returned (.slice (some (at0 blk 0)) (d.length - (j - i)) cap) ∧
      ∃ zs : List Value, zs.length = j - i ∧ w' = setCells (setCells w.drew blk i (d.drop j)) blk (i + (d.length - j)) zs

variable {G : Cfg}
theorem Step.write {E : Env} {S : Stab} {w : World} (hf : FrameR E S w) {b o : Nat} {l : List Value} {cells : Array Value} {t : TypeId} {fr : Nat × Nat} (hb : w.heap[b]? = some (.cells cells t fr)) (hl : o + l.length ≤ cells.size) (hS : ∀ i, ¬ S b i)
    (hmine : E.F b ∨ E.W0.heap.size ≤ b) : Step E S w S (setCells w b o l) := by
  refine ⟨Ext.write hb hl hS, by rw [setCells_size]; exact Nat.le_refl _, fun b' hb' hF => ?_, fun b' hb' => ?_, fun _ _ h => .inl h, fun b' i h => ?_, (setCells_outer b l w _).1, (setCells_outer b l w _).2.1, (setCells_outer b l w _).2.2⟩
  · refine setCells_other b l w _ b' fun e => ?_
    subst e
    rcases hmine with hh | hh
    · exact hF hh
    · omega
  · have hne : b' ≠ b := fun e => by subst e; rw [hb] at hb'; cases hb'
    rw [setCells_other b l w _ b' hne]; exact hb'
  · rw [setCells_size]; exact hf.bnd _ _ h

theorem Step.then {E : Env} {S S1 S2 : Stab} {w w1 w2 : World} (h : Step E S w S1 w1) (k : Step E S1 w1 S2 w2) : Step E S w S2 w2 :=
  ⟨h.ext.trans k.ext, Nat.le_trans h.size k.size, fun b hb hF => (k.keep b hb hF).trans (h.keep b hb hF), fun b hb => k.dfr b (h.dfr b hb),
   fun b o x => (k.new b o x).elim (fun y => h.new b o y) .inr, k.bnd, k.os.trans h.os, k.tape.trans h.tape, k.output.trans h.output⟩

theorem delP_ok0 {g : FuncId} (R : DelRun G.P g) {args : List AV} {hp : Heap} {r : ARes × Heap} (h : delP g args hp = some r) : CallSound false G.P g args hp r := by
  unfold delP at h
  split at h
  case h_2 => cases h
  rename_i k a b
  split at h
  case h_2 => cases h
  rename_i es m hrow
  split at h
  case isFalse => cases h
  rename_i hc
  cases h
  obtain ⟨ha0, hab, hbl, hlim⟩ := hc
  obtain ⟨i, rfl⟩ := Int.eq_ofNat_of_zero_le ha0
  obtain ⟨j, rfl⟩ := Int.eq_ofNat_of_zero_le (show 0 ≤ b by omega)
  have hij : i < j := by omega
  have hjl : j ≤ es.length := by omega
  simp only [Int.toNat_natCast]
  intro S ρ w vs hl H hS hal hv
  obtain ⟨u0, u1, u2, rfl⟩ : ∃ u0 u1 u2, vs = #[u0, u1, u2] := by
    obtain ⟨l⟩ := vs
    match l, hal with
    | [x, y, z], _ => exact ⟨x, y, z, rfl⟩
  have h1 := hv 1 _ u1 rfl rfl
  have h2 := hv 2 _ u2 rfl rfl
  obtain rfl : u1 = .int .i64 i := by cases h1 with | pure hp => cases hp; rfl
  obtain rfl : u2 = .int .i64 j := by cases h2 with | pure hp => cases hp; rfl
  have h0 := hv 0 _ u0 rfl rfl
  have S0 : SR (envOf S ρ w hl) { sl := [], hp } S ρ #[] w := by
    refine ⟨fun t => .undef _, H, fun n b sz k hn => .inl ⟨n, sz, k, hn⟩, fun n o _ _ r hr => hr, ⟨Ext.refl S w, fun _ _ h => .inl h, hS, Nat.le_refl _, fun _ _ _ => rfl, fun _ h => h, rfl, rfl, rfl⟩⟩
  cases h0 with
  | pure hp => cases hp
  | own0 _ h0 =>
    have he := row0_of H hrow h0
    subst he
    simp at hjl; omega
  | own _ gb s n cap hρk hcap hr =>
    obtain ⟨rfl, rfl, _, hsz, cells, t', fr', k2, k3, k4, k5, k6⟩ := rowobj_of H hrow hρk
    have hnS : ∀ o, ¬ S gb o := fun o h => by have := (k6 o h).1; cases this
    have hle : es.length ≤ cells.size := by have := k3.1; omega
    have hd : ∀ q x, (cells.toList.take es.length)[q]? = some x → q < es.length ∧ cells[q]? = some x := by
      intro q x hx
      rw [List.getElem?_take] at hx
      split at hx
      · exact ⟨by assumption, by simpa using hx⟩
      · cases hx
    have hel : ∀ (q : Nat) (e : AV), es[q]? = some e → ∃ c u, e.cells = [c] ∧ cells[q]? = some u ∧ PR S w c u ∧ scalarV u = true := by
      intro q e he
      have h1 := hsz e (List.mem_of_getElem? he)
      obtain ⟨c, hc⟩ := List.length_eq_one_iff.1 h1
      obtain ⟨u, hu, hp, _, hs⟩ := k5 q 0 e c he (by rw [hc]; rfl)
      exact ⟨c, u, hc, by simpa using hu, hp, hs⟩
    have hlen : (cells.toList.take es.length).length = es.length := by simp; omega
    have hcell : ∀ q x, (cells.toList.take es.length)[q]? = some x → w.cell? (at0 gb q) = some x ∧ w.frozen? (at0 gb q) = false := by
      intro q x hx
      obtain ⟨hq, hx⟩ := hd q x hx
      exact ⟨by rw [cell_block k2]; exact hx, k4 q (by omega)⟩
    have hsc : ∀ x ∈ cells.toList.take es.length, scalarV x = true := by
      intro x hx
      obtain ⟨q, hq⟩ := List.getElem?_of_mem hx
      obtain ⟨hq, hx⟩ := hd q x hq
      obtain ⟨c, u, _, hu, _, hs⟩ := hel q es[q] (List.getElem?_eq_getElem hq)
      rw [hx] at hu; cases hu; exact hs
    have hrun := R.run w gb cap i j (cells.toList.take es.length) hcell hsc (by rw [hlen]; exact hcap) (by rw [hlen]; unfold LIM at hlim; omega) hij (by rw [hlen]; exact hjl)
    rw [hlen] at hrun
    refine hrun.mono fun e w' ⟨he, zs, hz, hw⟩ => ?_
    subst he; subst hw
    have k2' : w.drew.heap[gb]? = some (.cells cells t' fr') := k2
    have hdl : ((cells.toList.take es.length).drop j).length = es.length - j := by rw [List.length_drop, hlen]
    obtain ⟨c1, m1, m2, m3, m4⟩ := setCells_block gb ((cells.toList.take es.length).drop j) w.drew i cells t' fr' k2' (by rw [hdl]; omega)
    obtain ⟨c2, n1, n2, n3, n4⟩ := setCells_block gb zs (setCells w.drew gb i ((cells.toList.take es.length).drop j)) (i + (es.length - j)) c1 t' fr' m1 (by omega)
    have hmine : (envOf S ρ w hl).F gb := ⟨k, _, _, hρk⟩
    have st0 : Step (envOf S ρ w hl) S w S w.drew := Step.drew S0.fr
    have fr1 := S0.fr.step st0
    have st1 := Step.write fr1 (o := i) (l := (cells.toList.take es.length).drop j) k2' (by rw [hdl]; omega) hnS (.inl hmine)
    have st2 := Step.write (fr1.step st1) (o := i + (es.length - j)) (l := zs) m1 (by omega) hnS (.inl hmine)
    have hst := (st0.then st1).then st2
    have hother : ∀ b', b' ≠ gb → (setCells (setCells w.drew gb i ((cells.toList.take es.length).drop j)) gb (i + (es.length - j)) zs).heap[b']? = w.heap[b']? := by
      intro b' hb'
      rw [setCells_other _ _ _ _ _ hb', setCells_other _ _ _ _ _ hb']; rfl
    have k1 := S0.regrow hrow (o := .row 1 (es.take i ++ es.drop j) false ⟨true, m.t⟩) (info := ⟨some (gb, 1), (es.take i ++ es.drop j).length⟩) hst
      (fun n b' s' k' hn hb' => ⟨hother b' fun e => hn (H.inj _ _ _ _ _ _ _ hb' (e ▸ hρk)), fun _ h => h⟩)
      (fun b' s' k' e => by cases e; exact ⟨.inl hmine, fun n s' k' hn hb' => hn (H.inj _ _ _ _ _ _ _ hb' hρk)⟩)
      (.inr ⟨gb, c2, t', fr', by omega, by simp [upd], fun e he => ?_, n1, ?_, ?_, ?_, fun o h => absurd h (hnS o)⟩) rfl
    · refine ⟨S, _, ⟨k1.heap, k1.mine, k1.old, k1.fr⟩, ?_⟩
      have hlen2 : (es.take i ++ es.drop j).length = es.length - (j - i) := by simp; omega
      show VR _ _ _ _ _
      refine VR.own k gb 1 (es.length - (j - i)) cap (by rw [← hlen2]; simp [upd]) (by omega) ⟨c2, t', fr', n1, by rw [n2, m2]; obtain ⟨c, t, fr, h1, h2⟩ := hr; rw [k2] at h1; cases h1; exact h2⟩
    · rcases List.mem_append.1 he with he | he
      · exact hsz e (List.mem_of_mem_take he)
      · exact hsz e (List.mem_of_mem_drop he)
    · refine ⟨?_, k3.2⟩
      have : (es.take i ++ es.drop j).length = es.length - (j - i) := by simp; omega
      rw [this, n2, m2]; omega
    · intro o ho
      rw [frozen_block k2 n1]; exact k4 o (by omega)
    · intro q p e c he hp
      have hp0 : ∀ c0, e.cells = [c0] → p = 0 ∧ c = c0 := by
        intro c0 h
        rw [h] at hp
        match p, hp with
        | 0, hp => exact ⟨rfl, by simpa using hp.symm⟩
      have go : ∀ (q' : Nat) (u : Value), cells[q']? = some u → es[q']? = some e → c2[q]? = some u → ∃ u, c2[q * 1 + p]? = some u ∧ PR S (setCells (setCells w.drew gb i ((cells.toList.take es.length).drop j)) gb (i + (es.length - j)) zs) c u ∧ (false = true → S gb (q * 1 + p)) ∧ scalarV u = true := by
        intro q' u hu he' hu2
        obtain ⟨c0, u', hc0, hu', hpr, hs⟩ := hel q' e he'
        rw [hu] at hu'; cases hu'
        obtain ⟨rfl, rfl⟩ := hp0 c0 hc0
        exact ⟨u, by simpa using hu2, hpr.ext hst.ext, (fun h => by cases h), hs⟩
      rw [List.getElem?_append] at he
      split at he
      · rename_i hq
        have hq' : q < i := by simp at hq; omega
        rw [List.getElem?_take, if_pos hq'] at he
        obtain ⟨c0, u', hc0, hu', hpr, hs⟩ := hel q e he
        refine go q u' hu' he ?_
        rw [n3 q (.inl (by omega)), m3 q (.inl hq')]; exact hu'
      · rename_i hq
        have hti : (es.take i).length = i := by simp; omega
        rw [hti] at he hq
        rw [List.getElem?_drop] at he
        have hb : j + (q - i) < es.length := (List.getElem?_eq_some_iff.1 he).1
        obtain ⟨c0, u', hc0, hu', hpr, hs⟩ := hel _ e he
        refine go _ u' hu' he ?_
        rw [n3 q (.inl (by omega)), show q = i + (q - i) by omega, m4 (q - i) (by rw [hdl]; omega), List.getElem?_drop, List.getElem?_take, if_pos hb]
        simpa using hu'
theorem delP_ok {g : FuncId} (R : DelRun G.P g) {args : List AV} {hp : Heap} {r : ARes × Heap} (h : delP g args hp = some r) : CallSound G.wd G.P g args hp r := (delP_ok0 R h).any
end Go.Proofs.YteibklnligmanaaDoor.Abs


/- strconv.Atoi, told by hand; what it is sound by. -/
namespace Go.Proofs.YteibklnligmanaaDoor.Abs
open Go Go.RowKit
set_option linter.unusedSimpArgs false
set_option linter.unusedVariables false

/-- What Atoi tells: the number; an error is somewhere, and nothing is known of it. -/
def atoiV (T : TypeId) (s : List UInt8) : AV :=
  match Lib.atoiAll s with
  | .ok v => .tup [.int .i64 v, .nili]
  | .range => .tup [.int .i64 (Lib.atoiSat s), .iface T .undef]
  | _ => .tup [.int .i64 0, .iface T .undef]
def atoiP (T : TypeId) : CallFn := fun _ args hp =>
  match args with
  | [.str s] => if s.length ≤ 281474976710656 then some (.ret (atoiV T s), hp) else none
  | _ => none

structure AtoiRun (P : Program) (g : FuncId) (T : TypeId) : Prop where
  run : ∀ (S : Stab) (w : World), GlobOK S w → ∀ (s : ByteArray), s.size ≤ 281474976710656 → CallsIn (FW false none) 0 P g #[.string s] w fun e w' => Below w.heap.size w w' ∧
    (match Lib.atoiAll s.data.toList with
     | .ok v => e = .returned (.tuple #[.int .i64 v, .nilIface])
     | .range => ∃ p, e = .returned (.tuple #[.int .i64 (Lib.atoiSat s.data.toList), .iface T p])
     | _ => ∃ p, e = .returned (.tuple #[.int .i64 0, .iface T p]))

theorem Ext.below {S : Stab} {w w' : World} (hS : ∀ b o, S b o → b < w.heap.size) (h : Below w.heap.size w w') : Ext S w S w' := by
  refine ⟨fun _ _ x => x, fun b o x => cell_same (h.block b (hS b o x)) o, fun b c t fr hb => ⟨c, fr, ?_, rfl⟩, fun b o _ _ x hb => (h.block b (hS b o x)).trans hb⟩
  rw [h.block b (lt_of_block hb)]; exact hb
theorem Step.below {E : Env} {S : Stab} {w w' : World} (hf : FrameR E S w) (h : Below w.heap.size w w') : Step E S w S w' :=
  ⟨Ext.below hf.bnd h, h.size, fun b hb _ => h.block b (Nat.lt_of_lt_of_le hb hf.size), fun b hb => by rw [h.block b (lt_of_block hb)]; exact hb, fun _ _ h => .inl h, fun b o x => Nat.lt_of_lt_of_le (hf.bnd b o x) h.size, h.os, h.tape, h.output⟩
theorem SR.below {E : Env} {st : ASt} {S : Stab} {ρ : Rho} {tm : Array Value} {w w' : World} (h : SR E st S ρ tm w) (k : Below w.heap.size w w') : SR E st S ρ tm w' :=
  h.step (Step.below h.fr k) (fun _ _ h => h)
    ⟨fun n o ho => (h.heap.obj n o ho).keep (Ext.below h.fr.bnd k) rfl (fun _ _ h => h) (fun b sz q hb => ⟨k.block b (h.heap.lt hb), fun _ h => h⟩), h.heap.dom, h.heap.inj⟩ h.mine (fun _ => rfl) h.old

variable {G : Cfg}
theorem tup2 {S : Stab} {ρ : Rho} {w : World} {a b : AV} {x y : Value} (h1 : VR S ρ w a x) (h2 : VR S ρ w b y) : VR S ρ w (.tup [a, b]) (.tuple #[x, y]) :=
  .tup _ _ rfl fun j c v hc hv => by
    match j, hc, hv with
    | 0, hc, hv => cases hc; cases hv; exact h1
    | 1, hc, hv => cases hc; cases hv; exact h2
theorem atoiP_ok0 {g : FuncId} {T : TypeId} (R : AtoiRun G.P g T) {args : List AV} {hp : Heap} {r : ARes × Heap} (h : atoiP T g args hp = some r) : CallSound false G.P g args hp r := by
  unfold atoiP at h
  split at h
  case h_2 => cases h
  rename_i s
  split at h
  case isFalse => cases h
  rename_i hlen
  cases h
  intro S ρ w vs hl H hS hal hv
  obtain ⟨u0, rfl⟩ : ∃ u0, vs = #[u0] := by
    obtain ⟨l⟩ := vs
    match l, hal with
    | [x], _ => exact ⟨x, rfl⟩
  have h0 := hv 0 _ u0 rfl rfl
  obtain ⟨b, rfl, rfl⟩ : ∃ b : ByteArray, u0 = .string b ∧ s = b.data.toList := by cases h0 with | pure hp => cases hp; exact ⟨_, rfl, rfl⟩
  have S0 : SR (envOf S ρ w hl) { sl := [], hp } S ρ #[] w := by
    refine ⟨fun t => .undef _, H, fun n b sz k hn => .inl ⟨n, sz, k, hn⟩, fun n o _ _ r hr => hr, ⟨Ext.refl S w, fun _ _ h => .inl h, hS, Nat.le_refl _, fun _ _ _ => rfl, fun _ h => h, rfl, rfl, rfl⟩⟩
  refine (R.run S w hl.glob b (by simpa using hlen)).mono fun e w' ⟨hb, he⟩ => ?_
  have k1 := S0.below hb
  refine ⟨S, ρ, ⟨k1.heap, k1.mine, k1.old, k1.fr⟩, ?_⟩
  unfold atoiV
  cases hx : Lib.atoiAll b.data.toList with
  | ok v =>
    simp only [hx] at he ⊢
    subst he
    exact tup2 (.pure (.int _ _)) (.pure .nili)
  | range =>
    simp only [hx] at he ⊢
    obtain ⟨p, rfl⟩ := he
    exact tup2 (.pure (.int _ _)) (.iface _ _ _ (.undef _))
  | _ =>
    simp only [hx] at he ⊢
    obtain ⟨p, rfl⟩ := he
    exact tup2 (.pure (.int _ _)) (.iface _ _ _ (.undef _))
theorem atoiP_ok {g : FuncId} {T : TypeId} (R : AtoiRun G.P g T) {args : List AV} {hp : Heap} {r : ARes × Heap} (h : atoiP T g args hp = some r) : CallSound G.wd G.P g args hp r := (atoiP_ok0 R h).any
end Go.Proofs.YteibklnligmanaaDoor.Abs


/- strconv.FormatInt at base ten, of numbers below a thousand, told by hand; what it is sound by. -/
namespace Go.Proofs.YteibklnligmanaaDoor.Abs
open Go Go.RowKit
set_option linter.unusedSimpArgs false
set_option linter.unusedVariables false

/-- A number's digits, one to three. -/
def digs (n : Nat) : List UInt8 := if n < 10 then [UInt8.ofNat (48 + n)] else if n < 100 then [UInt8.ofNat (48 + n / 10), UInt8.ofNat (48 + n % 10)] else [UInt8.ofNat (48 + n / 100), UInt8.ofNat (48 + n / 10 % 10), UInt8.ofNat (48 + n % 10)]
def fmtP : CallFn := fun _ args hp =>
  match args with
  | [.int .i64 n, .int .i64 b] => if 0 ≤ n ∧ n < 1000 ∧ b = 10 then some (.ret (.str (digs n.toNat)), hp) else none
  | _ => none
structure FmtRun (P : Program) (g : FuncId) : Prop where
  run : ∀ (S : Stab) (ρ : Rho) (w : World) (hl : Ent S ρ w), (∀ b o, S b o → b < w.heap.size) → ∀ n : Nat, n < 1000 → CallsIn (FW false none) 0 P g #[.int .i64 n, .int .i64 10] w fun e w' => e = .returned (.string ⟨(digs n).toArray⟩) ∧ Below w.heap.size w w'
variable {G : Cfg}
theorem fmtP_ok0 {g : FuncId} (R : FmtRun G.P g) {args : List AV} {hp : Heap} {r : ARes × Heap} (h : fmtP g args hp = some r) : CallSound false G.P g args hp r := by
  unfold fmtP at h
  split at h
  case h_2 => cases h
  rename_i n b
  split at h
  case isFalse => cases h
  rename_i hc
  cases h
  obtain ⟨h0, h1, rfl⟩ := hc
  obtain ⟨n, rfl⟩ := Int.eq_ofNat_of_zero_le h0
  simp only [Int.toNat_natCast]
  intro S ρ w vs hl H hS hal hv
  obtain ⟨u0, u1, rfl⟩ : ∃ u0 u1, vs = #[u0, u1] := by
    obtain ⟨l⟩ := vs
    match l, hal with
    | [x, y], _ => exact ⟨x, y, rfl⟩
  have h0 := hv 0 _ u0 rfl rfl
  have h1 := hv 1 _ u1 rfl rfl
  obtain rfl : u0 = .int .i64 n := by cases h0 with | pure hp => cases hp; rfl
  obtain rfl : u1 = .int .i64 10 := by cases h1 with | pure hp => cases hp; rfl
  have S0 : SR (envOf S ρ w hl) { sl := [], hp } S ρ #[] w := by
    refine ⟨fun t => .undef _, H, fun n b sz k hn => .inl ⟨n, sz, k, hn⟩, fun n o _ _ r hr => hr, ⟨Ext.refl S w, fun _ _ h => .inl h, hS, Nat.le_refl _, fun _ _ _ => rfl, fun _ h => h, rfl, rfl, rfl⟩⟩
  refine (R.run S ρ w hl hS n (by omega)).mono fun e w' ⟨he, hb⟩ => ?_
  subst he
  have k1 := S0.below hb
  refine ⟨S, ρ, ⟨k1.heap, k1.mine, k1.old, k1.fr⟩, ?_⟩
  have := VR.pure (ρ := ρ) (PR.str (S := S) (w := w') ⟨(digs n).toArray⟩)
  exact this
theorem fmtP_ok {g : FuncId} (R : FmtRun G.P g) {args : List AV} {hp : Heap} {r : ARes × Heap} (h : fmtP g args hp = some r) : CallSound G.wd G.P g args hp r := (fmtP_ok0 R h).any
end Go.Proofs.YteibklnligmanaaDoor.Abs


/- slices.Insert in the midst of a row of one's own, told by hand; what it is sound by. -/
namespace Go.Proofs.YteibklnligmanaaDoor.Abs
open Go Go.RowKit
set_option linter.unusedSimpArgs false
set_option linter.unusedVariables false

/-- What Insert tells, where one thing is put in ahead of another one of a row of things of one cell, which are no bytes. -/
def insP (e : TypeId) : CallFn := fun _ args hp =>
  match args with
  | [.own k, .int .i64 a, .list 1 [x]] => (match aget hp k with
    | some (.row 1 es false m) => if 0 ≤ a ∧ a < es.length ∧ es.length < 1000000 ∧ m.t = e ∧ byT e = false then some (.ret (.own k), hput k (.row 1 (es.take a.toNat ++ x :: es.drop a.toNat) false ⟨true, m.t⟩) (({ sl := [], hp } : ASt).killn k).hp) else none
    | _ => none)
  | _ => none

structure InsRun (P : Program) (g : FuncId) (te : TypeId) : Prop where
  run : ∀ (w : World) (blk cap i vb voff vc : Nat) (d : List Value) (x : Value) (cells : Array Value) (t : TypeId) (fr : Nat × Nat), w.heap[blk]? = some (.cells cells t fr) → (∀ o, o < cells.size → w.frozen? (at0 blk o) = false) → fr.1 = fr.2 → cap ≤ cells.size →
    (∀ (k : Nat) v, d[k]? = some v → cells[k]? = some v) → (∀ v ∈ d, scalarV v = true) → d.length ≤ cap → d.length < 1000000 → i < d.length → vb ≠ blk → w.cell? (at0 vb voff) = some x → scalarV x = true →
    CallsIn (FW false none) 0 P g #[.slice (some (at0 blk 0)) d.length cap, .int .i64 i, .slice (some (at0 vb voff)) 1 vc] w fun e w' =>
      (d.length + 1 ≤ cap ∧ e = .returned (.slice (some (at0 blk 0)) (d.length + 1) cap) ∧ w' = setCells (setCells w.drew blk (i + 1) (d.drop i)) blk i [x]) ∨
      (∃ (cap' : Nat) (row : Array Value), d.length + 1 ≤ cap' ∧ cap' ≤ row.size ∧ e = .returned (.slice (some (at0 w.heap.size 0)) (d.length + 1) cap') ∧ (∀ (q : Nat) v, (d.take i ++ x :: d.drop i)[q]? = some v → row[q]? = some v) ∧
        ∃ n, w' = (w.alloc (.cells row te)).drewN n)

variable {G : Cfg}
theorem SR.drewN {E : Env} {st : ASt} {S : Stab} {ρ : Rho} {tm : Array Value} {w : World} (h : SR E st S ρ tm w) : ∀ n, SR E st S ρ tm (w.drewN n)
  | 0 => h
  | n + 1 => by
    have := (SR.drewN h n).drew
    exact this

theorem insP_ok0 {g : FuncId} {te : TypeId} (R : InsRun G.P g te) {args : List AV} {hp : Heap} {r : ARes × Heap} (h : insP te g args hp = some r) : CallSound false G.P g args hp r := by
  unfold insP at h
  split at h
  case h_2 => cases h
  rename_i k a x
  split at h
  case h_2 => cases h
  rename_i es m hrow
  split at h
  case isFalse => cases h
  rename_i hc
  cases h
  obtain ⟨ha0, hal, hlim, hmt, hbt⟩ := hc
  obtain ⟨i, rfl⟩ := Int.eq_ofNat_of_zero_le ha0
  have hil : i < es.length := by omega
  simp only [Int.toNat_natCast]
  intro S ρ w vs hl H hS hal' hv
  obtain ⟨u0, u1, u2, rfl⟩ : ∃ u0 u1 u2, vs = #[u0, u1, u2] := by
    obtain ⟨l⟩ := vs
    match l, hal' with
    | [x, y, z], _ => exact ⟨x, y, z, rfl⟩
  have h1 := hv 1 _ u1 rfl rfl
  have h2 := hv 2 _ u2 rfl rfl
  obtain rfl : u1 = .int .i64 i := by cases h1 with | pure hp => cases hp; rfl
  have h2p : PR S w (.list 1 [x]) u2 := by cases h2 with | pure hp => exact hp
  have h0 := hv 0 _ u0 rfl rfl
  have S0 : SR (envOf S ρ w hl) { sl := [], hp } S ρ #[] w := by
    refine ⟨fun t => .undef _, H, fun n b sz k hn => .inl ⟨n, sz, k, hn⟩, fun n o _ _ r hr => hr, ⟨Ext.refl S w, fun _ _ h => .inl h, hS, Nat.le_refl _, fun _ _ _ => rfl, fun _ h => h, rfl, rfl, rfl⟩⟩
  cases h0 with
  | pure hp => cases hp
  | own0 _ h0 =>
    have he := row0_of H hrow h0
    subst he
    simp at hil
  | own _ gb s n cap hρk hcap hr =>
    obtain ⟨rfl, rfl, _, hsz, cells, t', fr', k2, k3, k4, k5, k6⟩ := rowobj_of H hrow hρk
    have hnS : ∀ o, ¬ S gb o := fun o h => by have := (k6 o h).1; cases this
    have hle : es.length ≤ cells.size := by have := k3.1; omega
    obtain ⟨c0, t0, fr0, r1, r2⟩ := hr
    rw [k2] at r1; cases r1
    have hmark : fr'.1 = fr'.2 := by
      rcases k3.2.2 with hh | hh
      · rw [k3.2.1, hmt, hbt] at hh; cases hh
      · exact hh
    have hd : ∀ q x, (cells.toList.take es.length)[q]? = some x → q < es.length ∧ cells[q]? = some x := by
      intro q x hx
      rw [List.getElem?_take] at hx
      split at hx
      · exact ⟨by assumption, by simpa using hx⟩
      · cases hx
    have hel : ∀ (q : Nat) (e : AV), es[q]? = some e → ∃ c u, e.cells = [c] ∧ cells[q]? = some u ∧ PR S w c u ∧ scalarV u = true := by
      intro q e he
      have h1 := hsz e (List.mem_of_getElem? he)
      obtain ⟨c, hc⟩ := List.length_eq_one_iff.1 h1
      obtain ⟨u, hu, hp, _, hs⟩ := k5 q 0 e c he (by rw [hc]; rfl)
      exact ⟨c, u, hc, by simpa using hu, hp, hs⟩
    have hlen : (cells.toList.take es.length).length = es.length := by simp; omega
    have hsc : ∀ x ∈ cells.toList.take es.length, scalarV x = true := by
      intro x hx
      obtain ⟨q, hq⟩ := List.getElem?_of_mem hx
      obtain ⟨hq, hx⟩ := hd q x hq
      obtain ⟨c, u, _, hu, _, hs⟩ := hel q es[q] (List.getElem?_eq_getElem hq)
      rw [hx] at hu; cases hu; exact hs
    obtain ⟨vb, voff, vc, xc, xv, rfl, hxc, hxv, hxp, hxs, hxS⟩ : ∃ vb voff vc xc xv, u2 = .slice (some (at0 vb voff)) 1 vc ∧ x.cells = [xc] ∧ w.cell? (at0 vb voff) = some xv ∧ PR S w xc xv ∧ scalarV xv = true ∧ S vb voff := by
      cases h2p with
      | list _ b off cap sz f h0 hc hs hS hw hq hp =>
        obtain ⟨c, hc1⟩ := List.length_eq_one_iff.1 (hs x (by simp))
        have e1 : ([x] : List AV)[0]? = some x := rfl
        have e2 : x.cells[0]? = some c := by rw [hc1]; rfl
        exact ⟨b, off, cap, c, f 0 0, rfl, hc1, hw 0 0 x c e1 e2, hp 0 0 x c e1 e2, hq 0 0 x c e1 e2, hS 0 0 x c e1 e2⟩
    have hvb : vb ≠ gb := fun e => hnS voff (e ▸ hxS)
    obtain ⟨d, hdd⟩ : ∃ d, d = cells.toList.take es.length := ⟨_, rfl⟩
    rw [← hdd] at hd hlen hsc
    have hrun := R.run w gb cap i vb voff vc d xv cells t' fr' k2 k4 hmark (by omega) (fun q v hq => (hd q v hq).2) hsc (by rw [hlen]; exact hcap) (by rw [hlen]; exact hlim) (by rw [hlen]; exact hil) hvb hxv hxs
    rw [hlen] at hrun
    have hmine : (envOf S ρ w hl).F gb := ⟨k, _, _, hρk⟩
    have hnl : (es.take i ++ x :: es.drop i).length = es.length + 1 := by simp; omega
    -- each thing of the new row stands where the new cells tell
    have each : ∀ (q : Nat) (e : AV), (es.take i ++ x :: es.drop i)[q]? = some e → ∃ c u, e.cells = [c] ∧ (d.take i ++ xv :: d.drop i)[q]? = some u ∧ PR S w c u ∧ scalarV u = true := by
      intro q e he
      have hdl : (d.take i).length = i := by rw [List.length_take, hlen]; omega
      have hel' : ∀ (q : Nat) (e : AV), es[q]? = some e → ∃ c u, e.cells = [c] ∧ d[q]? = some u ∧ PR S w c u ∧ scalarV u = true := by
        intro q e he
        obtain ⟨c, u, p1, p2, p3, p4⟩ := hel q e he
        refine ⟨c, u, p1, ?_, p3, p4⟩
        have hq := (List.getElem?_eq_some_iff.1 he).1
        rw [hdd, List.getElem?_take, if_pos hq]; simpa using p2
      have htl : (es.take i).length = i := by rw [List.length_take]; omega
      by_cases hq : q < i
      · rw [List.getElem?_append_left (by omega), List.getElem?_take, if_pos hq] at he
        rw [List.getElem?_append_left (by omega), List.getElem?_take, if_pos hq]
        exact hel' q e he
      · rw [List.getElem?_append_right (by omega), htl] at he
        rw [List.getElem?_append_right (by omega), hdl]
        obtain ⟨q', hq'⟩ : ∃ q', q - i = q' := ⟨_, rfl⟩
        rw [hq'] at he ⊢
        cases q' with
        | zero => cases he; exact ⟨xc, xv, hxc, rfl, hxp, hxs⟩
        | succ q' =>
          simp only [List.getElem?_cons_succ, List.getElem?_drop] at he ⊢
          exact hel' _ e he
    have hall : ∀ e ∈ es.take i ++ x :: es.drop i, e.cells.length = 1 := by
      intro e he
      obtain ⟨q, hq⟩ := List.getElem?_of_mem he
      obtain ⟨c, u, p1, _⟩ := each q e hq
      rw [p1]; rfl
    refine hrun.mono fun e w' hpost => ?_
    rcases hpost with ⟨hroom, he, hw⟩ | ⟨cap', row, hcap', hrs, he, hrow', dn, hw⟩
    · subst he; subst hw
      have k2' : w.drew.heap[gb]? = some (.cells cells t' fr') := k2
      have hdl : (d.drop i).length = es.length - i := by rw [List.length_drop, hlen]
      obtain ⟨c1, m1, m2, m3, m4⟩ := setCells_block gb (d.drop i) w.drew (i + 1) cells t' fr' k2' (by rw [hdl]; omega)
      obtain ⟨c2, n1, n2, n3, n4⟩ := setCells_block gb [xv] (setCells w.drew gb (i + 1) (d.drop i)) i c1 t' fr' m1 (by simp; omega)
      have st0 : Step (envOf S ρ w hl) S w S w.drew := Step.drew S0.fr
      have fr1 := S0.fr.step st0
      have st1 := Step.write fr1 (o := i + 1) (l := d.drop i) k2' (by rw [hdl]; omega) hnS (.inl hmine)
      have st2 := Step.write (fr1.step st1) (o := i) (l := [xv]) m1 (by simp; omega) hnS (.inl hmine)
      have hst := (st0.then st1).then st2
      have hother : ∀ b', b' ≠ gb → (setCells (setCells w.drew gb (i + 1) (d.drop i)) gb i [xv]).heap[b']? = w.heap[b']? := by
        intro b' hb'
        rw [setCells_other _ _ _ _ _ hb', setCells_other _ _ _ _ _ hb']; rfl
      have hnew : ∀ (q : Nat) (v : Value), (d.take i ++ xv :: d.drop i)[q]? = some v → c2[q]? = some v := by
        intro q v hq
        have hdl' : (d.take i).length = i := by rw [List.length_take, hlen]; omega
        by_cases c : q < i
        · rw [List.getElem?_append_left (by omega), List.getElem?_take, if_pos c] at hq
          rw [n3 q (.inl c), m3 q (.inl (by omega))]
          exact (hd q v hq).2
        · rw [List.getElem?_append_right (by omega), hdl'] at hq
          obtain ⟨q', hq'⟩ : ∃ q', q - i = q' := ⟨_, rfl⟩
          rw [hq'] at hq
          cases q' with
          | zero =>
            have : q = i + 0 := by omega
            rw [this, n4 0 (by simp)]
            exact hq
          | succ q' =>
            simp only [List.getElem?_cons_succ] at hq
            have hb := (List.getElem?_eq_some_iff.1 hq).1
            have : q = (i + 1) + q' := by omega
            rw [n3 q (.inr (by simp; omega)), this, m4 q' hb]
            exact hq
      have k1 := S0.regrow hrow (o := .row 1 (es.take i ++ x :: es.drop i) false ⟨true, m.t⟩) (info := ⟨some (gb, 1), (es.take i ++ x :: es.drop i).length⟩) hst
        (fun n b' s' k' hn hb' => ⟨hother b' fun e => hn (H.inj _ _ _ _ _ _ _ hb' (e ▸ hρk)), fun _ h => h⟩)
        (fun b' s' k' e => by cases e; exact ⟨.inl hmine, fun n s' k' hn hb' => hn (H.inj _ _ _ _ _ _ _ hb' hρk)⟩)
        (.inr ⟨gb, c2, t', fr', by omega, by simp [upd], hall, n1, ⟨by rw [hnl, n2, m2]; omega, k3.2⟩, ?_, ?_, fun o h => absurd h (hnS o)⟩) rfl
      · refine ⟨S, _, ⟨k1.heap, k1.mine, k1.old, k1.fr⟩, ?_⟩
        show VR _ _ _ _ _
        refine VR.own k gb 1 (es.length + 1) cap (by rw [← hnl]; simp [upd]) (by omega) ⟨c2, t', fr', n1, by rw [n2, m2]; omega⟩
      · intro o ho
        rw [frozen_block k2 n1]; exact k4 o (by omega)
      · intro q p e c he hp
        obtain ⟨c0, u, p1, p2, p3, p4⟩ := each q e he
        rw [p1] at hp
        match p, hp with
        | 0, hp =>
          cases hp
          exact ⟨u, by simpa using hnew q u p2, p3.ext hst.ext, (fun h => by cases h), p4⟩
    · subst he; subst hw
      obtain ⟨S', k1⟩ := SR.growNew (a := ⟨#[], []⟩) (t := te) (fx := false) S0 hrow (sz := 1) (es := es.take i ++ x :: es.drop i) Nat.one_pos hall row (by rw [hnl]; omega) (fun q p e c he hp => by
        obtain ⟨c0, u, p1, p2, p3, p4⟩ := each q e he
        rw [p1] at hp
        match p, hp with
        | 0, hp =>
          cases hp
          exact ⟨u, by simpa using hrow' q u p2, p3, p4⟩)
      have k1 := SR.drewN k1 dn
      rw [← hmt] at k1 ⊢
      refine ⟨S', _, ⟨k1.heap, k1.mine, k1.old, k1.fr⟩, ?_⟩
      show VR _ _ _ _ _
      exact VR.own k w.heap.size 1 (es.length + 1) cap' (by rw [← hnl]; simp [upd]) (by omega) ⟨row, _, _, heap_new w _, by omega⟩
theorem insP_ok {g : FuncId} {te : TypeId} (R : InsRun G.P g te) {args : List AV} {hp : Heap} {r : ARes × Heap} (h : insP te g args hp = some r) : CallSound G.wd G.P g args hp r := (insP_ok0 R h).any
end Go.Proofs.YteibklnligmanaaDoor.Abs


/- What the library's shelf tells of calls, without a fence; strings.Repeat. -/
namespace Go.Proofs.YteibklnligmanaaDoor.Abs
open Go Go.RowKit
set_option linter.unusedSimpArgs false
set_option linter.unusedVariables false

/-- A function that is told by its answer, and leaves what was as it was. -/
theorem below_sound {P : Program} {g : FuncId} {args : List AV} {hp : Heap} {v : AV}
    (run : ∀ (S : Stab) (ρ : Rho) (w : World) (vs : Array Value), GlobOK S w → args.length = vs.size → (∀ (j : Nat) c u, args[j]? = some c → vs[j]? = some u → VR S ρ w c u) →
      Calls P g vs w fun e w' => ∃ u, e = .returned u ∧ Below w.heap.size w w' ∧ PR S w' v u) : CallSound true P g args hp (.ret v, hp) := by
  intro S ρ w vs hl H hS hal hv
  have S0 : SR (envOf S ρ w hl) { sl := [], hp } S ρ #[] w := by
    refine ⟨fun t => .undef _, H, fun n b sz k hn => .inl ⟨n, sz, k, hn⟩, fun n o _ _ r hr => hr, ⟨Ext.refl S w, fun _ _ h => .inl h, hS, Nat.le_refl _, fun _ _ _ => rfl, fun _ h => h, rfl, rfl, rfl⟩⟩
  refine calls_FW ((run S ρ w vs hl.glob hal hv).mono fun e w' ⟨u, he, hb, hp⟩ => ?_)
  subst he
  have k1 := S0.below hb
  exact ⟨S, ρ, ⟨k1.heap, k1.mine, k1.old, k1.fr⟩, .pure hp⟩
theorem vs1 {vs : Array Value} {a : AV} (h : [a].length = vs.size) : ∃ u, vs = #[u] := by
  obtain ⟨l⟩ := vs
  match l, h with
  | [x], _ => exact ⟨x, rfl⟩
theorem vs2 {vs : Array Value} {a b : AV} (h : [a, b].length = vs.size) : ∃ u v, vs = #[u, v] := by
  obtain ⟨l⟩ := vs
  match l, h with
  | [x, y], _ => exact ⟨x, y, rfl⟩
theorem vs3 {vs : Array Value} {a b c : AV} (h : [a, b, c].length = vs.size) : ∃ u v x, vs = #[u, v, x] := by
  obtain ⟨l⟩ := vs
  match l, h with
  | [x, y, z], _ => exact ⟨x, y, z, rfl⟩

/-! strings.Repeat -/
def repS (s : List UInt8) : Nat → List UInt8
  | 0 => []
  | n + 1 => s ++ repS s n
theorem repS_lib (s : List UInt8) : ∀ n, Lib.repeatL s n = repS s n
  | 0 => rfl
  | n + 1 => by simp [Lib.repeatL, repS, repS_lib s n]
def repP : CallFn := fun _ args hp =>
  match args with
  | [.str s, .int .i64 n] => if 0 ≤ n ∧ n ≤ 1000000 ∧ s.length ≤ 1000000 then some (.ret (.str (repS s n.toNat)), hp) else none
  | _ => none
structure RepRun (P : Program) (g : FuncId) : Prop where
  run : ∀ (s : ByteArray) (c : Nat) (w : World), c ≤ 9223372036854775807 → s.size * c ≤ 140737488355328 →
    Calls P g #[.string s, .int .i64 c] w fun e w' => e = .returned (.string ⟨(Lib.repeatL s.data.toList c).toArray⟩) ∧ Below w.heap.size w w'
theorem repP_ok {P : Program} {g : FuncId} (R : RepRun P g) {args : List AV} {hp : Heap} {r : ARes × Heap} (h : repP g args hp = some r) : CallSound true P g args hp r := by
  unfold repP at h
  split at h
  case h_2 => cases h
  rename_i s n
  split at h
  case isFalse => cases h
  rename_i hc
  cases h
  obtain ⟨h0, h1, h2⟩ := hc
  obtain ⟨n, rfl⟩ := Int.eq_ofNat_of_zero_le h0
  simp only [Int.toNat_natCast]
  refine below_sound fun S ρ w vs _ hal hv => ?_
  obtain ⟨u0, u1, rfl⟩ := vs2 hal
  obtain ⟨b, rfl, rfl⟩ := vr_str (hv 0 _ u0 rfl rfl)
  obtain rfl := vr_int (hv 1 _ u1 rfl rfl)
  have hsz : b.size ≤ 1000000 := by simpa using h2
  refine (R.run b n w (by omega) (Nat.le_trans (Nat.mul_le_mul hsz (show n ≤ 1000000 by omega)) (by decide))).mono fun e w' ⟨he, hb⟩ => ⟨_, he, hb, ?_⟩
  have := PR.str (S := S) (w := w') ⟨(Lib.repeatL b.data.toList n).toArray⟩
  simp only [List.toList_toArray, repS_lib] at this
  rw [repS_lib]
  exact this
end Go.Proofs.YteibklnligmanaaDoor.Abs


/- strings.Repeat, by the shelf's contract. -/
namespace Go.Proofs.YteibklnligmanaaDoor
open Go Abs Go.RowKit Go.Shelf
set_option linter.unusedSimpArgs false
set_option linter.unusedVariables false

def layRep_ren : Go.Shelf.Ren := ⟨fun | 105 => 72 | 212 => 85 | 99 => 86 | 165 => 87 | 166 => 55 | 170 => 68 | 169 => 43 | 263 => 94 | 264 => 95 | 206 => 96 | 240 => 54 | 241 => 97 | 276 => 66 | 277 => 99 | n => n, fun | 9 => 9 | 3 => 3 | 4 => 4 | 20 => 20 | 0 => 0 | 46 => 132 | 109 => 133 | 5 => 5 | 72 => 72 | 76 => 96 | 51 => 115 | 146 => 139 | 53 => 25 | 148 => 141 | 70 => 70 | 37 => 49 | 75 => 77 | 127 => 98 | 164 => 110 | 80 => 65 | n => n, fun | n => n⟩
theorem layRep : Go.Proofs.Lays.n105 Tryd.prog layRep_ren := {
  mixed := by kernel_rfl
  f99 := Tryd.func86.trans (congrArg some (by kernel_rfl))
  f105 := Tryd.func72.trans (congrArg some (by kernel_rfl))
  f165 := Tryd.func87.trans (congrArg some (by kernel_rfl))
  f166 := Tryd.func55.trans (congrArg some (by kernel_rfl))
  f169 := Tryd.func43.trans (congrArg some (by kernel_rfl))
  f170 := Tryd.func68.trans (congrArg some (by kernel_rfl))
  f206 := Tryd.func96.trans (congrArg some (by kernel_rfl))
  f212 := Tryd.func85.trans (congrArg some (by kernel_rfl))
  f240 := Tryd.func54.trans (congrArg some (by kernel_rfl))
  f241 := Tryd.func97.trans (congrArg some (by kernel_rfl))
  f263 := Tryd.func94.trans (congrArg some (by kernel_rfl))
  f264 := Tryd.func95.trans (congrArg some (by kernel_rfl))
  f276 := Tryd.func66.trans (congrArg some (by kernel_rfl))
  f277 := Tryd.func99.trans (congrArg some (by kernel_rfl))
  t0 := Tryd.underlying0
  a0 := Tryd.isAgg0
  z0 := Tryd.sizeOf0
  v0 := Tryd.zeroValue0
  t3 := Tryd.underlying3
  a3 := Tryd.isAgg3
  z3 := Tryd.sizeOf3
  v3 := Tryd.zeroValue3
  t4 := Tryd.underlying4
  a4 := Tryd.isAgg4
  z4 := Tryd.sizeOf4
  v4 := Tryd.zeroValue4
  t5 := Tryd.underlying5
  a5 := Tryd.isAgg5
  z5 := Tryd.sizeOf5
  v5 := Tryd.zeroValue5
  t9 := Tryd.underlying9
  a9 := Tryd.isAgg9
  z9 := Tryd.sizeOf9
  v9 := Tryd.zeroValue9
  t20 := Tryd.underlying20
  a20 := Tryd.isAgg20
  z20 := Tryd.sizeOf20
  v20 := Tryd.zeroValue20
  t37 := Tryd.underlying49
  a37 := Tryd.isAgg49
  z37 := Tryd.sizeOf49
  v37 := Tryd.zeroValue49
  t46 := Tryd.underlying132
  a46 := Tryd.isAgg132
  z46 := Tryd.sizeOf132
  v46 := Tryd.zeroValue132
  t51 := Tryd.underlying115
  a51 := Tryd.isAgg115
  z51 := Tryd.sizeOf115
  v51 := Tryd.zeroValue115
  t53 := Tryd.underlying25
  a53 := Tryd.isAgg25
  z53 := Tryd.sizeOf25
  v53 := Tryd.zeroValue25
  t70 := Tryd.underlying70
  a70 := Tryd.isAgg70
  z70 := Tryd.sizeOf70
  v70 := Tryd.zeroValue70
  t72 := Tryd.underlying72
  a72 := Tryd.isAgg72
  z72 := Tryd.sizeOf72
  v72 := Tryd.zeroValue72
  t75 := Tryd.underlying77
  a75 := Tryd.isAgg77
  z75 := Tryd.sizeOf77
  v75 := Tryd.zeroValue77
  t76 := Tryd.underlying96
  a76 := Tryd.isAgg96
  z76 := Tryd.sizeOf96
  v76 := Tryd.zeroValue96
  t109 := Tryd.underlying133
  a109 := Tryd.isAgg133
  z109 := Tryd.sizeOf133
  v109 := Tryd.zeroValue133
  t127 := Tryd.underlying98
  a127 := Tryd.isAgg98
  z127 := Tryd.sizeOf98
  v127 := Tryd.zeroValue98
  t146 := Tryd.underlying139
  a146 := Tryd.isAgg139
  z146 := Tryd.sizeOf139
  v146 := Tryd.zeroValue139
  t148 := Tryd.underlying141
  a148 := Tryd.isAgg141
  z148 := Tryd.sizeOf141
  v148 := Tryd.zeroValue141
  t164 := Tryd.underlying110
  a164 := Tryd.isAgg110
  z164 := Tryd.sizeOf110
  v164 := Tryd.zeroValue110 }
theorem extRep : Builder.Extra Tryd.prog layRep_ren := {
  sizeBuilder := by kernel_rfl
  liesBuilder := by kernel_rfl
  t5 := Tryd.underlying5
  a5 := Tryd.isAgg5
  z5 := Tryd.sizeOf5
  v5 := Tryd.zeroValue5
  infoByte := by kernel_rfl
  cellsByte := by kernel_rfl
  sizeByte := by kernel_rfl
  neB5 := by decide }
theorem repRun : RepRun Tryd.prog 72 := ⟨fun s c w h1 h2 => Any.strings_Repeat layRep extRep s c w h1 h2⟩
end Go.Proofs.YteibklnligmanaaDoor


/- The tables of the seat. -/
namespace Go.Proofs.YteibklnligmanaaDoor
open Go Abs

noncomputable def hasBody : List Bool := [false, false, true, true, true, true, true, true, true, true, true, true, true, true, true, true, true, true, true, true, true, true, true, true, true, true, true, true, true, true, true, true, true, true, true, true, true, true, true, true, true, true, true, true, true, true, true, true, true, true, true, true, false, true, true, true, true, true, true, true, true, true, true, true, true, true, false, true, true, true, true, true, true, true, true, true, true, true, true, true, true, true, true, true, true, true, true, true, true, true, true, true, true, true, true, true, true, true, true, false, false, false, false, false, false, false, false, false, false, false, false, false, false, false, false, false, false, false, false, false, false, false, false, false, false, true]
noncomputable def keepT : List (Nat × List (Nat × Keep)) := [
  (8, [(2, ⟨[(1, none), (3, none)], [(1001, [])]⟩)]),
  (21, [(4, ⟨[(0, none), (1, none), (5, none)], []⟩)]),
  (24, [(3, ⟨[(3, none), (8, none), (9, none), (10, none)], []⟩)]),
  (27, [(3, ⟨[(0, none), (5, some (1, 5)), (11, none), (12, none)], []⟩), (8, ⟨[(5, some (1, 5)), (7, none), (8, none)], []⟩)]),
  (28, [(3, ⟨[(0, none), (1, none), (5, none), (6, none)], []⟩)]),
  (30, [(6, ⟨[(0, none), (1, none), (2, none), (8, none), (9, none), (10, none)], []⟩)]),
  (31, [(3, ⟨[(0, none), (3, none), (4, none)], []⟩)]),
  (32, [(4, ⟨[(0, none), (1, none), (12, none), (13, none)], []⟩)]),
  (35, [(0, ⟨[(0, none), (1, none)], []⟩)]),
  (42, [(1, ⟨[(0, none), (1, none), (6, none), (7, none)], []⟩)]),
  (46, [(3, ⟨[(0, none), (3, none), (9, none), (10, none), (11, none)], []⟩), (11, ⟨[(6, some (1, 9)), (25, none), (26, none), (27, none)], []⟩)]),
  (48, [(3, ⟨[(0, none), (1, none)], []⟩)]),
  (49, [(3, ⟨[(5, none), (6, none), (14, none), (15, none), (16, none)], []⟩)]),
  (56, [(2, ⟨[(0, none), (3, none), (7, none), (8, none)], [(1003, [])]⟩)]),
  (58, [(3, ⟨[(3, none), (6, none), (7, none), (8, none)], [(1003, [(1, 1, 5)])]⟩)]),
  (60, [(4, ⟨[(0, none), (3, none), (4, none)], []⟩), (9, ⟨[(3, none), (5, none), (6, none)], []⟩)]),
  (61, [(3, ⟨[(1, none), (5, some (1, 5)), (6, none)], []⟩)]),
  (64, [(0, ⟨[(0, none), (1, none)], []⟩)]),
  (69, [(4, ⟨[(0, none), (3, none)], []⟩)]),
  (70, [(3, ⟨[(0, none), (1, none), (5, some (1, 115)), (6, none)], []⟩), (10, ⟨[(0, none), (5, none), (7, none), (8, none), (9, none)], []⟩), (19, ⟨[(0, none), (8, none), (14, some (1, 115)), (15, none)], []⟩)]),
  (72, [(38, ⟨[(7, none), (8, none), (9, none)], [(1009, [(1, 1, 5)])]⟩)]),
  (74, [(3, ⟨[(0, none), (1, none), (5, some (1, 5)), (14, none), (15, none)], []⟩)]),
  (76, [(5, ⟨[(4, none), (19, none), (20, none)], []⟩)]),
  (78, [(3, ⟨[(1, none), (2, none), (4, none), (5, none), (17, none)], [(1002, []), (1004, []), (1005, [])]⟩), (9, ⟨[(2, none), (4, none), (5, none), (7, none), (33, none), (34, none)], [(1002, []), (1004, []), (1005, []), (1007, [])]⟩), (27, ⟨[(2, none), (4, none), (7, none), (162, none)], [(1002, []), (1004, []), (1007, [])]⟩)]),
  (79, [(1, ⟨[(0, some (1, 9)), (2, none), (3, none)], []⟩)]),
  (80, [(2, ⟨[(0, none), (1, none), (2, none), (4, none), (5, none)], []⟩)]),
  (81, [(3, ⟨[(0, none), (3, none), (4, none)], []⟩)]),
  (82, [(2, ⟨[(0, some (1, 115)), (3, none)], []⟩)]),
  (90, [(0, ⟨[(0, none), (1, none)], []⟩)]),
  (91, [(3, ⟨[(0, none), (3, none), (6, none), (7, none)], []⟩)]),
  (93, [(5, ⟨[(0, none), (1, none), (5, none)], []⟩)])]
noncomputable def planT : List (Nat × List (Nat × List PS)) := [
  (3, [(15, [.n 0, .n 2, .e 1 [2], .e 3 [], .n 4, .n 5, .n 6, .n 8, .e 7 [8, 0], .e 9 [0], .n 10, .n 11, .n 12, .n 13, .n 15, .e 14 [15, 6, 4, 2, 0], .e 16 [6, 4, 2, 0], .n 17, .n 18, .n 19, .n 20, .n 22, .e 21 [22, 13, 11, 10, 8, 6, 5, 4, 2, 0], .e 23 [13, 11, 10, 8, 6, 5, 4, 2, 0], .n 24, .n 25]), (18, [.n 0, .n 2, .e 1 [2], .e 3 [], .e 4 [], .n 5])]),
  (6, [(10, [.n 0, .n 1, .n 2, .n 4, .n 7, .e 3 [7, 4], .e 5 [7], .n 6, .n 8, .n 9, .n 10, .n 11, .n 12, .n 13, .n 14, .n 15, .n 16, .n 17])]),
  (7, [(7, [.n 0, .n 1, .n 2, .n 3, .n 4, .n 5, .n 6, .n 7, .n 8, .n 9, .n 10, .n 11, .n 12, .n 13, .n 14, .n 15, .n 16, .n 17, .n 18, .n 19, .n 20, .n 21, .n 22, .n 23, .n 24, .n 25, .n 26, .n 27, .n 28, .n 29, .n 30, .n 31, .n 32, .n 33, .n 34, .n 35, .n 37, .n 38, .e 36 [38, 37, 32, 31, 28, 27, 26, 25, 23, 22, 21, 20, 19, 18, 17, 16, 15, 14, 13, 12, 11, 10, 9, 8, 7, 6, 5, 4, 3, 2, 1, 0], .n 39, .n 40, .n 41, .n 42, .n 43, .e 44 [38, 37, 34, 33, 32, 31, 30, 29, 28, 27, 26, 25, 24, 23, 22, 21, 20, 19, 18, 17, 16, 15, 14, 13, 12, 11, 10, 9, 8, 7, 6, 5, 4, 3, 2, 1, 0], .n 45, .n 46, .n 47, .n 48, .e 49 [40, 39, 38, 37, 35, 34, 33, 32, 31, 30, 29, 28, 27, 26, 25, 24, 23, 22, 21, 20, 19, 18, 17, 16, 15, 14, 13, 12, 11, 10, 9, 8, 7, 6, 5, 4, 3, 2, 1, 0], .n 50, .n 51, .n 52, .n 53, .n 55, .e 54 [55, 45, 43, 42, 41, 40, 39, 38, 37, 35, 34, 33, 32, 31, 30, 29, 28, 27, 26, 25, 24, 23, 22, 21, 20, 19, 18, 17, 16, 15, 14, 13, 12, 11, 10, 9, 8, 7, 6, 5, 4, 3, 2, 1, 0], .e 56 [45, 43, 42, 41, 40, 39, 38, 37, 35, 34, 33, 32, 31, 30, 29, 28, 27, 26, 25, 24, 23, 22, 21, 20, 19, 18, 17, 16, 15, 14, 13, 12, 11, 10, 9, 8, 7, 6, 5, 4, 3, 2, 1, 0], .n 57, .n 58, .n 59])]),
  (9, [(3, [.n 0, .n 1, .n 2, .n 3, .e 4 [1, 0], .n 5, .e 6 [], .n 7, .n 8, .e 9 [], .n 10])]),
  (10, [(3, [.n 0, .n 1, .n 2, .e 3 [0], .n 4, .e 5 [], .n 6, .n 7, .e 8 [], .n 9])]),
  (13, [(9, [.n 0, .n 1, .n 2, .e 3 [1, 0], .e 4 [], .n 5, .n 6, .n 7, .n 8, .n 9])]),
  (21, [(6, [.n 0, .n 1, .n 2, .n 3, .n 4, .n 5, .n 6, .n 7, .n 8])]),
  (23, [(1, [.n 0, .n 1, .n 3, .n 4, .n 5, .e 2 [5, 4, 3], .e 6 [], .e 7 [3, 0], .n 8])]),
  (26, [(4, [.n 0, .n 1, .n 2, .n 4, .n 5, .e 3 [5, 4, 1, 0], .e 6 [1, 0], .e 7 [], .n 8, .n 9, .n 10, .n 11, .n 12])]),
  (27, [(10, [.n 0, .n 1, .n 2, .n 3, .n 4, .n 5, .n 6, .n 7, .n 8, .n 9, .n 10, .n 11, .n 12, .e 13 [3, 2], .n 14, .e 15 []])]),
  (31, [(5, [.n 0, .n 1, .n 2, .n 3, .n 4, .n 5, .n 6, .n 9, .n 10, .n 11, .n 12, .e 7 [12, 11, 10, 9, 3, 2, 1, 0], .n 8, .n 13, .e 14 []])]),
  (32, [(6, [.n 0, .n 1, .n 2, .n 3, .n 4, .n 5, .n 6, .n 7, .n 8])]),
  (35, [(2, [.n 0, .n 1, .e 2 [0], .n 3, .e 4 [], .e 5 []])]),
  (39, [(11, [.n 0, .n 1, .n 2, .n 3, .n 4, .n 5, .n 6, .n 7, .e 8 []]), (15, [.n 0, .n 1, .n 2, .n 3, .n 4, .n 5, .n 6, .n 7, .e 8 []])]),
  (42, [(3, [.n 0, .n 1, .n 2, .n 3, .n 4, .n 5, .e 6 []])]),
  (43, [(1, [.n 0, .n 1, .n 2, .n 3, .n 5, .n 6, .n 7, .n 8, .n 9, .e 4 [9, 8, 7, 6, 5, 0], .e 10 [6, 5, 1, 0], .n 11])]),
  (56, [(4, [.n 0, .n 1, .n 2, .n 3, .n 4, .n 5])]),
  (57, [(6, [.n 1, .e 0 [1], .n 2]), (8, [.n 1, .e 0 [1], .e 2 [], .n 3, .n 4])]),
  (62, [(3, [.n 0, .n 1, .n 2, .n 3, .e 4 [0], .n 5, .e 6 []]), (5, [.n 0, .n 1, .e 2 [1, 0], .e 3 [0], .e 4 []])]),
  (63, [(6, [.n 0, .n 1, .n 2, .n 3, .n 4, .n 5, .e 6 [1, 0], .n 7, .n 8, .e 9 []])]),
  (64, [(1, [.n 0, .n 1, .n 2, .n 3, .n 4, .n 5, .n 6, .n 7, .n 8, .n 9, .n 10, .n 11])]),
  (70, [(14, [.n 0, .n 1, .n 2, .n 3, .n 5, .n 8, .n 12, .n 13, .n 14, .n 15, .n 16, .n 17, .n 18, .n 19, .n 20, .n 21, .n 22, .n 23, .n 25, .n 26, .n 27, .n 28, .n 30, .n 31, .n 32, .n 33, .e 4 [33, 32, 31, 30, 28, 27, 26, 25, 23, 22, 21, 20, 19, 18, 17, 16, 15, 14, 13, 12, 8, 5, 2, 1, 0], .e 6 [33, 32, 31, 30, 28, 27, 26, 25, 23, 22, 21, 20, 19, 18, 17, 16, 15, 14, 13, 12, 8, 2, 1, 0], .n 7, .e 9 [7, 33, 32, 31, 30, 28, 27, 26, 25, 23, 22, 21, 20, 19, 18, 17, 16, 15, 14, 13, 12, 2, 1, 0], .n 10, .n 11, .n 24, .n 29, .n 34, .n 35]), (15, [.n 0, .n 2, .n 5, .n 8, .n 9, .n 10, .n 11, .n 12, .n 13, .n 14, .n 15, .n 16, .n 17, .n 18, .n 19, .n 20, .n 21, .n 22, .n 23, .n 24, .n 25, .n 26, .e 1 [26, 25, 24, 23, 22, 21, 20, 19, 18, 17, 16, 15, 14, 13, 12, 11, 10, 9, 8, 5, 2], .e 3 [26, 25, 24, 23, 22, 21, 20, 19, 18, 17, 16, 15, 14, 13, 12, 11, 10, 9, 8, 5], .n 4, .e 6 [4, 26, 25, 24, 23, 22, 21, 20, 19, 18, 17, 16, 15, 14, 13, 12, 11, 10, 9, 8], .n 7, .n 27, .n 28]), (16, [.n 0, .n 1, .n 2, .n 3, .n 4, .n 5, .n 6, .n 7, .n 8, .n 9, .n 10, .n 11, .n 12, .n 13, .n 14, .n 15, .n 16, .n 17, .n 18, .n 19, .n 20, .n 21, .n 22, .n 23, .n 24, .n 25, .n 26, .e 27 []]), (21, [.n 0, .n 1, .n 2, .n 3, .n 4, .n 5, .n 6, .n 7, .n 8, .n 9, .n 10, .e 11 [7, 6, 5, 3, 2, 1], .e 12 []])]),
  (74, [(5, [.n 0, .n 1, .n 2, .n 3, .n 4, .n 5, .n 6, .n 7, .n 8, .n 9, .e 10 []])]),
  (75, [(1, [.n 0, .n 3, .e 1 [3, 0], .e 2 [3], .e 4 [], .n 5, .e 6 [], .n 7])]),
  (78, [(12, [.n 0, .n 1, .n 2, .n 3, .n 4, .n 5, .n 6, .n 7, .n 8, .n 9, .n 10, .n 11]), (13, [.n 0, .n 1, .n 2, .n 3, .n 4, .n 6, .n 9, .n 10, .e 5 [10, 9, 6, 3, 2, 1, 0], .e 7 [10, 9, 3, 2, 1, 0], .n 8, .n 11, .n 12, .n 13, .e 14 []]), (14, [.n 0, .n 1, .n 2, .n 3, .n 4, .n 5, .n 6, .n 7, .n 8, .n 9, .n 10, .e 11 []]), (15, [.n 0, .n 1, .n 2, .n 3, .n 4, .n 6, .n 9, .n 10, .e 5 [10, 9, 6, 3, 2, 1, 0], .e 7 [10, 9, 3, 2, 1, 0], .n 8, .n 11, .n 12, .n 13, .e 14 []]), (16, [.n 0, .n 1, .n 2, .n 3, .n 4, .n 5]), (17, [.n 0, .n 1, .n 2, .n 3, .n 4, .n 5, .n 6, .n 7, .n 8, .n 9]), (22, [.n 0, .e 1 [0], .e 2 []]), (29, [.n 0, .n 1, .n 2, .n 3, .n 4, .n 5, .n 6, .n 7, .e 8 []])]),
  (79, [(3, [.n 0, .n 1, .n 2, .n 3, .n 4, .n 5, .n 6, .n 7, .n 8, .n 9, .n 10, .n 11, .n 12, .e 13 [3, 2], .n 14, .e 15 []])]),
  (82, [(8, [.n 0, .n 1, .n 2, .n 3, .n 4, .n 5, .n 6, .n 7, .n 8, .n 9, .n 10, .n 11, .n 12, .n 13, .n 14, .n 15, .n 16, .e 17 [12, 11, 10, 9, 8, 7, 6, 5, 4, 3, 2, 1], .e 18 []])]),
  (87, [(3, [.n 0, .n 1, .n 2, .n 3, .n 5, .n 6, .n 7, .n 8, .n 9, .n 11, .e 4 [11, 9, 8, 7, 6, 5, 0], .n 10, .n 12])]),
  (97, [(0, [.n 0, .n 1, .n 2, .n 3, .n 6, .n 9, .n 10, .n 11, .n 12, .n 13, .e 4 [13, 12, 11, 10, 9, 6, 0], .n 5, .n 7, .e 8 [13, 12, 11, 10, 9, 3, 2, 1, 0], .e 14 [10, 9, 3, 2, 1, 0], .n 15])])]
noncomputable def liveT : List (Nat × List (Nat × Trim)) := [
  (2, [(0, ⟨[], []⟩)]),
  (3, [(0, ⟨[2, 3, 4, 5, 6, 7], []⟩), (1, ⟨[2, 3, 4, 5, 6, 7, 13], []⟩), (2, ⟨[2, 3, 4, 5, 6, 7, 13, 35], []⟩), (3, ⟨[12], []⟩), (4, ⟨[2, 3, 4, 5, 6, 7, 13, 14], []⟩), (5, ⟨[2, 3, 4, 5, 6, 7, 13, 53], []⟩), (6, ⟨[12], []⟩), (7, ⟨[2, 3, 4, 5, 6, 7, 13, 15, 16], []⟩), (8, ⟨[3, 4, 5, 6, 7, 13, 15, 16, 17, 18], []⟩), (9, ⟨[3, 4, 5, 6, 7, 13, 15, 16, 17, 18, 19, 20], []⟩), (10, ⟨[3, 4, 5, 6, 7, 13, 15, 16, 17, 18, 19, 20, 21, 22], []⟩), (11, ⟨[3, 4, 5, 6, 7, 13, 15, 16, 17, 18, 19, 20, 21, 22, 23, 24], []⟩), (12, ⟨[3, 4, 5, 6, 7, 13, 15, 16, 17, 18, 19, 20, 21, 22, 23, 24, 25, 26], []⟩), (13, ⟨[3, 4, 5, 6, 7, 13, 15, 16, 17, 18, 19, 20, 21, 22, 23, 24, 25, 26, 27, 28], []⟩), (14, ⟨[5, 6, 7, 13, 15, 16, 17, 18, 19, 20, 21, 22, 23, 24, 25, 26, 27, 28, 29, 30], []⟩), (15, ⟨[5, 6, 7, 13, 16, 18, 20, 22, 24, 26, 28, 30, 137], []⟩), (16, ⟨[12], []⟩), (17, ⟨[5, 6, 7, 13, 16, 18, 20, 22, 24, 26, 28, 30, 31], []⟩), (18, ⟨[5, 6, 7, 13, 16, 18, 20, 22, 24, 26, 28, 30, 31, 32], []⟩), (19, ⟨[12], []⟩)]),
  (4, [(0, ⟨[0, 1, 2, 3, 4], []⟩), (1, ⟨[0, 1, 2, 3, 4, 11], []⟩), (2, ⟨[0, 1, 2, 3, 4, 11, 25], []⟩), (3, ⟨[10], []⟩), (4, ⟨[0, 1, 2, 3, 4, 11, 47], []⟩), (5, ⟨[10], []⟩), (6, ⟨[0, 1, 2, 3, 4, 11, 12], []⟩), (7, ⟨[0, 1, 2, 3, 4, 11, 13, 14], []⟩), (8, ⟨[0, 1, 2, 3, 4, 11, 13, 14, 15, 16], []⟩), (9, ⟨[0, 1, 2, 3, 4, 11, 13, 14, 15, 16, 17, 18], []⟩), (10, ⟨[0, 1, 2, 3, 4, 11, 13, 14, 16, 17, 18, 19, 20], []⟩), (11, ⟨[2, 3, 4, 11, 13, 14, 16, 17, 18, 19, 20, 21, 22], []⟩), (12, ⟨[2, 3, 4, 11, 13, 17, 19, 21, 103], []⟩), (13, ⟨[10], []⟩), (14, ⟨[10], []⟩)]),
  (5, [(0, ⟨[0, 1], []⟩), (1, ⟨[0, 1, 5], []⟩), (2, ⟨[0, 1, 5, 10], []⟩), (3, ⟨[4], []⟩), (4, ⟨[0, 1, 5, 6], []⟩), (5, ⟨[0, 1, 5, 6, 7], []⟩), (6, ⟨[4], []⟩)]),
  (6, [(0, ⟨[2, 3], []⟩), (1, ⟨[2, 3, 5], []⟩), (2, ⟨[2, 3, 5, 13], []⟩), (3, ⟨[4], []⟩), (4, ⟨[2, 3, 5, 6], []⟩), (5, ⟨[2, 3, 5, 21], []⟩), (6, ⟨[4], []⟩), (7, ⟨[2, 3, 5, 7], []⟩), (8, ⟨[2, 3, 5, 7, 8, 9], []⟩), (9, ⟨[2, 3, 5, 7, 9, 10], []⟩), (10, ⟨[4], []⟩)]),
  (7, [(0, ⟨[], []⟩), (1, ⟨[1], []⟩), (2, ⟨[1, 2, 3], []⟩), (3, ⟨[1, 3, 4, 5], []⟩), (4, ⟨[1, 3, 4, 5, 6, 7], []⟩), (5, ⟨[1, 3, 5, 6, 7, 8, 9], []⟩), (6, ⟨[1, 3, 5, 6, 7, 8, 9, 11], []⟩), (7, ⟨[0], []⟩)]),
  (8, [(0, ⟨[1], []⟩), (1, ⟨[1, 3], []⟩), (2, ⟨[1, 3, 12], []⟩), (4, ⟨[1, 3, 21], []⟩), (5, ⟨[2], []⟩), (3, ⟨[1, 3], []⟩), (6, ⟨[2], []⟩)]),
  (9, [(0, ⟨[1, 2, 4], []⟩), (1, ⟨[1, 2, 4, 7], []⟩), (2, ⟨[4, 5], []⟩), (3, ⟨[4, 5], []⟩)]),
  (10, [(0, ⟨[1, 2, 4], []⟩), (1, ⟨[1, 2, 4, 7], []⟩), (2, ⟨[4, 5], []⟩), (3, ⟨[4, 5], []⟩)]),
  (11, [(0, ⟨[1, 2], []⟩), (1, ⟨[2], []⟩)]),
  (12, [(0, ⟨[1, 2, 4], []⟩), (1, ⟨[4, 5], []⟩)]),
  (13, [(0, ⟨[1, 2, 3, 6], []⟩), (1, ⟨[1, 2, 3, 6, 24], []⟩), (2, ⟨[6, 7], []⟩), (3, ⟨[1, 2, 3, 6, 8], []⟩), (4, ⟨[1, 2, 3, 6, 8], []⟩), (5, ⟨[1, 2, 3, 6, 8], []⟩), (6, ⟨[1, 2, 3, 6, 8, 9], []⟩), (7, ⟨[1, 2, 3, 6, 8, 9], []⟩), (8, ⟨[1, 3, 6, 8, 9], []⟩), (9, ⟨[1, 6, 9, 10], []⟩), (10, ⟨[6, 7], []⟩)]),
  (14, [(0, ⟨[1, 2, 4], []⟩), (1, ⟨[4, 5], []⟩)]),
  (15, [(0, ⟨[1, 2, 3, 6], []⟩), (1, ⟨[6, 7], []⟩)]),
  (16, [(0, ⟨[2, 3], []⟩), (1, ⟨[4], []⟩)]),
  (17, [(0, ⟨[0], []⟩), (1, ⟨[2], []⟩)]),
  (18, [(0, ⟨[0], []⟩), (1, ⟨[2], []⟩)]),
  (19, [(0, ⟨[2, 3], []⟩), (1, ⟨[4], []⟩)]),
  (20, [(0, ⟨[0, 2], []⟩), (1, ⟨[2], []⟩)]),
  (21, [(0, ⟨[0, 1], []⟩), (1, ⟨[0, 1, 10], []⟩), (2, ⟨[4], []⟩), (3, ⟨[0, 1, 5], []⟩), (4, ⟨[0, 1, 5, 14], []⟩), (6, ⟨[0, 1, 5, 25], []⟩), (7, ⟨[4], []⟩), (5, ⟨[0, 1, 5], []⟩), (8, ⟨[4], []⟩)]),
  (22, [(0, ⟨[0], []⟩), (1, ⟨[0, 4], [(1004, (0, (1, 9)))]⟩), (2, ⟨[4, 6], []⟩), (3, ⟨[4, 14], []⟩), (4, ⟨[2, 3], []⟩), (5, ⟨[2, 3], []⟩)]),
  (23, [(0, ⟨[1], []⟩), (1, ⟨[2], []⟩)]),
  (24, [(0, ⟨[0], []⟩), (1, ⟨[0, 3], [(1007, (1, (1, 5)))]⟩), (2, ⟨[3, 8, 9, 10], []⟩), (3, ⟨[3, 8, 9, 10, 11], []⟩), (4, ⟨[3, 5, 8, 9, 10], []⟩), (5, ⟨[3, 5, 8, 9, 10], []⟩), (6, ⟨[3, 8, 9, 10], []⟩), (7, ⟨[3, 8, 9, 10], []⟩), (8, ⟨[2], []⟩)]),
  (25, [(0, ⟨[0, 1, 2, 6], []⟩), (1, ⟨[6, 7], []⟩)]),
  (26, [(0, ⟨[1, 2, 3, 6], []⟩), (1, ⟨[1, 2, 3, 6, 8], []⟩), (2, ⟨[1, 2, 3, 6, 32], []⟩), (3, ⟨[6, 7], []⟩), (4, ⟨[1, 2, 3, 6, 9, 10], []⟩), (5, ⟨[1, 2, 3, 6, 9, 10, 46], []⟩), (6, ⟨[6, 7], []⟩), (7, ⟨[6, 7], []⟩)]),
  (27, [(0, ⟨[0, 1], []⟩), (1, ⟨[0, 1, 5], []⟩), (2, ⟨[0, 5, 11, 12], []⟩), (3, ⟨[0, 5, 11, 12, 13], []⟩), (4, ⟨[0, 5, 6, 11, 12], []⟩), (5, ⟨[0, 5, 11, 12], []⟩), (6, ⟨[0, 5, 11, 12], []⟩), (7, ⟨[5, 7, 8], []⟩), (8, ⟨[5, 7, 8, 29], []⟩), (10, ⟨[5, 7, 8], []⟩), (9, ⟨[5, 7, 8], []⟩), (11, ⟨[4], []⟩)]),
  (28, [(0, ⟨[0, 1], []⟩), (1, ⟨[0, 1, 5], []⟩), (2, ⟨[0, 1, 5, 6], []⟩), (3, ⟨[0, 1, 5, 6, 13], []⟩), (5, ⟨[0, 1, 5, 6], []⟩), (6, ⟨[0, 1, 5, 6], []⟩), (4, ⟨[0, 1, 5, 6], []⟩), (7, ⟨[4], []⟩)]),
  (29, [(0, ⟨[0, 1, 2], []⟩), (1, ⟨[6], []⟩)]),
  (30, [(0, ⟨[0, 1, 2], []⟩), (1, ⟨[0, 1, 2, 16], []⟩), (2, ⟨[6, 7], []⟩), (3, ⟨[0, 1, 2, 8], []⟩), (4, ⟨[0, 1, 2, 8, 9], []⟩), (5, ⟨[0, 1, 2, 8, 9, 10], []⟩), (6, ⟨[0, 1, 2, 8, 9, 10, 20], []⟩), (8, ⟨[0, 1, 2, 8, 9, 10], []⟩), (9, ⟨[0, 1, 2, 8, 9, 10], []⟩), (7, ⟨[0, 1, 2, 8, 9, 10], []⟩), (10, ⟨[6, 7], []⟩)]),
  (31, [(0, ⟨[0], []⟩), (1, ⟨[0, 3], []⟩), (2, ⟨[0, 3, 4], []⟩), (3, ⟨[0, 3, 4, 8], []⟩), (5, ⟨[0, 3, 4], []⟩), (4, ⟨[0, 3, 4], []⟩), (6, ⟨[2], []⟩)]),
  (32, [(0, ⟨[0, 1], []⟩), (1, ⟨[0, 1, 10], []⟩), (2, ⟨[4], []⟩), (3, ⟨[0, 1, 12, 13], []⟩), (4, ⟨[0, 1, 12, 13, 14], []⟩), (5, ⟨[0, 1, 5, 12, 13], []⟩), (6, ⟨[0, 1, 12, 13, 24], []⟩), (7, ⟨[4], []⟩), (8, ⟨[0, 1, 12, 13], []⟩), (9, ⟨[4], []⟩)]),
  (33, [(0, ⟨[0, 1], []⟩), (1, ⟨[4], []⟩)]),
  (34, [(0, ⟨[0, 1, 4, 5], []⟩), (1, ⟨[0, 1, 4, 5], []⟩), (2, ⟨[1, 4, 5, 6], []⟩), (3, ⟨[4, 5, 6], []⟩), (4, ⟨[4, 5], []⟩)]),
  (35, [(0, ⟨[0, 1, 7], []⟩), (1, ⟨[0, 1], []⟩), (2, ⟨[0, 1], []⟩)]),
  (36, [(0, ⟨[3], []⟩), (1, ⟨[], []⟩)]),
  (37, [(0, ⟨[0, 1], []⟩), (1, ⟨[0, 1, 12], []⟩), (2, ⟨[0, 1], []⟩), (3, ⟨[0, 1, 5], []⟩), (4, ⟨[5], []⟩), (5, ⟨[4], []⟩)]),
  (38, [(0, ⟨[0, 8, 9], []⟩), (1, ⟨[0, 3, 8, 9], [(1003, (0, (1, 5)))]⟩), (2, ⟨[3, 7, 8, 9], []⟩), (3, ⟨[3, 4, 7, 8, 9], []⟩), (4, ⟨[3, 4, 5, 7, 8, 9], []⟩), (5, ⟨[3, 4, 5, 7, 8, 9, 15], []⟩), (6, ⟨[3, 4, 7, 8, 9], []⟩), (7, ⟨[3, 7, 8, 9], []⟩), (8, ⟨[2], []⟩)]),
  (39, [(0, ⟨[0, 1, 2], []⟩), (1, ⟨[0, 1, 2], []⟩), (2, ⟨[0, 1, 2, 7], []⟩), (3, ⟨[0, 1, 2, 7, 16], []⟩), (4, ⟨[6], []⟩), (5, ⟨[0, 1, 2, 7, 8], []⟩), (6, ⟨[0, 1, 2, 7, 8, 22], []⟩), (7, ⟨[6], []⟩), (8, ⟨[0, 1, 2, 7, 8, 31], []⟩), (9, ⟨[0, 1, 2, 7, 9], []⟩), (10, ⟨[0, 1, 7, 9], []⟩), (11, ⟨[9], []⟩), (12, ⟨[6], []⟩), (13, ⟨[0, 1, 2, 7, 8], []⟩), (14, ⟨[0, 1, 2, 7, 8, 68], []⟩), (15, ⟨[0, 1, 2], []⟩), (16, ⟨[0], []⟩), (17, ⟨[6], []⟩), (18, ⟨[0, 1, 7], []⟩), (19, ⟨[0], []⟩), (20, ⟨[6], []⟩)]),
  (40, [(0, ⟨[0], []⟩), (1, ⟨[0, 4], []⟩), (2, ⟨[2], []⟩), (3, ⟨[2], []⟩)]),
  (41, [(0, ⟨[0, 1], []⟩), (1, ⟨[0, 1], []⟩), (2, ⟨[], []⟩), (3, ⟨[4], []⟩)]),
  (42, [(0, ⟨[0, 1, 6, 7], []⟩), (1, ⟨[0, 1, 6, 7, 8], []⟩), (2, ⟨[0, 1, 4, 6, 7], []⟩), (3, ⟨[0, 1, 4, 6, 7], []⟩), (4, ⟨[0, 1, 6, 7, 20], []⟩), (5, ⟨[0, 1, 6, 7], []⟩), (6, ⟨[0, 1, 6, 7], []⟩), (7, ⟨[], []⟩)]),
  (43, [(0, ⟨[0], []⟩), (1, ⟨[2], []⟩)]),
  (44, [(0, ⟨[0, 3], []⟩), (1, ⟨[4], []⟩)]),
  (45, [(0, ⟨[0, 1, 2], []⟩), (1, ⟨[6, 7], []⟩)]),
  (46, [(0, ⟨[0], []⟩), (1, ⟨[0, 3], []⟩), (2, ⟨[0, 3, 9, 10, 11], []⟩), (3, ⟨[0, 3, 9, 10, 11, 12], []⟩), (4, ⟨[0, 3, 5, 9, 10, 11], []⟩), (5, ⟨[0, 3, 9, 10, 11], []⟩), (6, ⟨[0, 3, 9, 10, 11, 20], []⟩), (7, ⟨[0, 3, 9, 10, 11], []⟩), (8, ⟨[0, 3, 9, 10, 11], []⟩), (9, ⟨[0, 6], []⟩), (10, ⟨[6, 25, 26, 27], []⟩), (11, ⟨[6, 25, 26, 27, 28], []⟩), (12, ⟨[6, 8, 25, 26, 27], []⟩), (13, ⟨[6, 25, 26, 27], []⟩), (14, ⟨[6, 25, 26, 27], []⟩), (15, ⟨[2], []⟩)]),
  (47, [(0, ⟨[0], []⟩), (1, ⟨[2], []⟩)]),
  (48, [(0, ⟨[0, 1], []⟩), (1, ⟨[0, 1, 7], []⟩), (2, ⟨[0, 1], []⟩), (3, ⟨[0, 1, 12], []⟩), (4, ⟨[0, 1], []⟩), (5, ⟨[4], []⟩)]),
  (49, [(0, ⟨[0, 1], []⟩), (1, ⟨[1, 5, 6], []⟩), (2, ⟨[5, 6, 14, 15, 16], []⟩), (3, ⟨[5, 6, 14, 15, 16, 17], []⟩), (4, ⟨[5, 6, 8, 14, 15, 16], []⟩), (5, ⟨[5, 6, 14, 15, 16], []⟩), (6, ⟨[5, 6, 14, 15, 16], []⟩), (7, ⟨[4], []⟩)]),
  (50, [(0, ⟨[0, 1, 3], []⟩), (1, ⟨[0, 1, 9], []⟩), (2, ⟨[], []⟩)]),
  (51, [(0, ⟨[1], []⟩), (1, ⟨[2], []⟩)]),
  (53, [(0, ⟨[], []⟩)]),
  (54, [(0, ⟨[0, 6], []⟩), (1, ⟨[], []⟩), (2, ⟨[19], []⟩)]),
  (55, [(0, ⟨[0, 1], []⟩), (1, ⟨[0, 1], []⟩), (2, ⟨[1], []⟩), (3, ⟨[4, 5], []⟩)]),
  (56, [(0, ⟨[0, 3], []⟩), (1, ⟨[0, 3, 7, 8], []⟩), (2, ⟨[0, 3, 7, 8, 9], []⟩), (3, ⟨[0, 3, 5, 7, 8], []⟩), (4, ⟨[0, 3, 5, 7, 8, 16], []⟩), (5, ⟨[4], []⟩), (6, ⟨[0, 3, 7, 8], []⟩), (7, ⟨[4], []⟩)]),
  (57, [(0, ⟨[0, 1, 5, 19], []⟩), (1, ⟨[0, 1, 5, 15, 19], []⟩), (2, ⟨[6, 7], []⟩), (3, ⟨[0, 1, 5, 8, 19], []⟩), (4, ⟨[5, 8, 18, 19], []⟩), (5, ⟨[5, 8, 9, 18, 19], []⟩), (6, ⟨[5, 8, 9, 18, 19, 22], []⟩), (7, ⟨[5, 8, 18, 19], []⟩), (8, ⟨[6, 7], []⟩)]),
  (58, [(0, ⟨[0], []⟩), (1, ⟨[0, 3], []⟩), (2, ⟨[3, 6, 7, 8], []⟩), (3, ⟨[3, 6, 7, 8, 9], []⟩), (4, ⟨[3, 5, 6, 7, 8], []⟩), (5, ⟨[3, 5, 6, 7, 8], []⟩), (6, ⟨[3, 6, 7, 8], []⟩), (7, ⟨[3, 6, 7, 8], []⟩), (8, ⟨[2], []⟩)]),
  (59, [(0, ⟨[0, 1], []⟩), (1, ⟨[0, 1, 6], []⟩), (2, ⟨[0, 1], []⟩), (3, ⟨[0, 1], []⟩), (4, ⟨[0, 1, 16], []⟩), (5, ⟨[0], []⟩), (6, ⟨[4], []⟩)]),
  (60, [(0, ⟨[0], []⟩), (1, ⟨[0], []⟩), (2, ⟨[0, 3], []⟩), (3, ⟨[0, 3, 4], []⟩), (4, ⟨[0, 3, 4, 16], []⟩), (6, ⟨[0, 3, 4], []⟩), (5, ⟨[0, 3, 4], []⟩), (7, ⟨[3, 5], []⟩), (8, ⟨[3, 5, 6], []⟩), (9, ⟨[3, 5, 6, 27], []⟩), (11, ⟨[3, 5, 6], []⟩), (10, ⟨[3, 5, 6], []⟩), (12, ⟨[2], []⟩)]),
  (61, [(0, ⟨[0, 1], []⟩), (1, ⟨[1, 5], []⟩), (2, ⟨[1, 5, 6], []⟩), (3, ⟨[1, 5, 6, 12], []⟩), (5, ⟨[1, 5, 6], []⟩), (4, ⟨[1, 5, 6], []⟩), (6, ⟨[4], []⟩)]),
  (62, [(0, ⟨[1], []⟩), (1, ⟨[1, 7], []⟩), (2, ⟨[1], []⟩), (3, ⟨[1], []⟩), (4, ⟨[1, 4], []⟩), (5, ⟨[1, 4], []⟩), (6, ⟨[2, 3], []⟩)]),
  (63, [(0, ⟨[1, 2, 28, 29], []⟩), (1, ⟨[1, 2, 28, 29], []⟩), (2, ⟨[2, 28, 29], []⟩), (3, ⟨[2, 27, 28, 29], []⟩), (4, ⟨[2, 4, 27, 28, 29], []⟩), (5, ⟨[2, 4, 5, 27, 28, 29], []⟩), (6, ⟨[2, 5, 27, 28, 29], []⟩), (7, ⟨[2, 27, 28, 29], []⟩)]),
  (64, [(0, ⟨[0, 1], []⟩), (1, ⟨[0, 1, 3, 4], []⟩), (2, ⟨[0, 1, 3, 4], []⟩), (3, ⟨[0, 1, 3, 4, 25], []⟩), (4, ⟨[0, 1, 3, 4], []⟩), (5, ⟨[0, 1, 32], []⟩)]),
  (65, [(0, ⟨[0, 1], []⟩), (1, ⟨[0], []⟩), (2, ⟨[], []⟩)]),
  (67, [(0, ⟨[2, 3], []⟩), (1, ⟨[4], []⟩)]),
  (68, [(0, ⟨[0], []⟩), (1, ⟨[2], []⟩)]),
  (69, [(0, ⟨[0], []⟩), (1, ⟨[0, 5], []⟩), (2, ⟨[2], []⟩), (3, ⟨[0, 3], []⟩), (4, ⟨[0, 3, 14], []⟩), (5, ⟨[0, 3], []⟩), (6, ⟨[2], []⟩)]),
  (70, [(0, ⟨[0, 1], []⟩), (1, ⟨[0, 1, 5], []⟩), (2, ⟨[0, 1, 5, 6], []⟩), (3, ⟨[0, 1, 5, 6, 17], []⟩), (5, ⟨[0, 1, 5, 6], []⟩), (4, ⟨[0, 1, 5, 6], []⟩), (6, ⟨[0, 5], []⟩), (7, ⟨[0, 5, 7], []⟩), (8, ⟨[0, 5, 7, 8], []⟩), (9, ⟨[0, 5, 7, 8, 9], []⟩), (10, ⟨[0, 5, 7, 8, 9, 37], []⟩), (12, ⟨[0, 5, 7, 8, 9, 10], []⟩), (13, ⟨[0, 5, 7, 8, 9, 10, 11], []⟩), (14, ⟨[0, 5, 7, 8, 9, 10, 12], []⟩), (15, ⟨[0, 5, 7, 8, 9, 12, 13], []⟩), (16, ⟨[0, 5, 7, 8, 9], []⟩), (11, ⟨[0, 5, 7, 8, 9], []⟩), (17, ⟨[0, 8, 14], []⟩), (18, ⟨[0, 8, 14, 15], []⟩), (19, ⟨[0, 8, 14, 15, 137], []⟩), (21, ⟨[0, 8, 14, 15], []⟩), (20, ⟨[0, 8, 14, 15], []⟩), (22, ⟨[4], []⟩)]),
  (71, [(0, ⟨[0], []⟩), (1, ⟨[0, 3], []⟩), (2, ⟨[3], []⟩), (3, ⟨[2], []⟩)]),
  (72, [(0, ⟨[0, 1], []⟩), (1, ⟨[0, 1, 11], []⟩), (2, ⟨[0, 1, 11, 12], []⟩), (3, ⟨[4], []⟩), (4, ⟨[0, 1, 14], []⟩), (5, ⟨[4], []⟩), (6, ⟨[0, 1, 18], []⟩), (7, ⟨[0, 1], []⟩), (8, ⟨[0, 5, 6], []⟩), (9, ⟨[0, 6, 34], []⟩), (10, ⟨[0, 6], []⟩), (11, ⟨[0, 7], []⟩), (12, ⟨[0, 7, 40], []⟩), (13, ⟨[4], []⟩), (14, ⟨[0, 7, 42], []⟩), (15, ⟨[0, 7, 42, 43], []⟩), (16, ⟨[0, 7, 42, 43], []⟩), (17, ⟨[0, 7, 42, 43], []⟩), (18, ⟨[0, 7, 42, 43], []⟩), (19, ⟨[0, 7, 43], []⟩), (20, ⟨[0, 7, 49], []⟩), (21, ⟨[4], []⟩), (22, ⟨[0, 7, 58], []⟩), (23, ⟨[4], []⟩), (24, ⟨[0, 7, 67], []⟩), (25, ⟨[4], []⟩), (26, ⟨[0, 7, 76], []⟩), (27, ⟨[4], []⟩), (28, ⟨[0, 7, 85], []⟩), (29, ⟨[4], []⟩), (30, ⟨[0, 7, 8], []⟩), (31, ⟨[0, 7, 8, 96], []⟩), (32, ⟨[0, 7, 8], []⟩), (33, ⟨[0, 7, 8, 104], []⟩), (34, ⟨[0, 7, 8], []⟩), (35, ⟨[0, 7, 8, 9], []⟩), (36, ⟨[0, 7, 8, 9], []⟩), (37, ⟨[7, 8, 9], []⟩), (38, ⟨[7, 8, 9, 113], []⟩), (39, ⟨[7, 8, 9, 10], []⟩), (40, ⟨[7, 8, 9], []⟩), (41, ⟨[4], []⟩)]),
  (73, [(0, ⟨[], []⟩), (1, ⟨[0], []⟩)]),
  (74, [(0, ⟨[0, 1], []⟩), (1, ⟨[0, 1, 5], []⟩), (2, ⟨[0, 1, 5, 14, 15], []⟩), (3, ⟨[0, 1, 5, 14, 15, 16], []⟩), (4, ⟨[0, 1, 5, 6, 14, 15], []⟩), (5, ⟨[0, 1, 5, 14, 15], []⟩), (6, ⟨[0, 1, 5, 14, 15], []⟩), (7, ⟨[4], []⟩)]),
  (75, [(0, ⟨[0, 1], []⟩), (1, ⟨[3], []⟩)]),
  (76, [(0, ⟨[0], []⟩), (1, ⟨[0, 3], []⟩), (2, ⟨[3], []⟩), (3, ⟨[3, 4], []⟩), (4, ⟨[4, 19, 20], []⟩), (5, ⟨[4, 19, 20, 21], []⟩), (6, ⟨[4, 6, 19, 20], []⟩), (7, ⟨[4, 19, 20], []⟩), (8, ⟨[4, 19, 20], []⟩), (9, ⟨[2], []⟩)]),
  (77, [(0, ⟨[1], []⟩), (1, ⟨[2], []⟩)]),
  (78, [(0, ⟨[1, 2, 4], []⟩), (1, ⟨[1, 2, 4, 5], []⟩), (2, ⟨[1, 2, 4, 5, 17], []⟩), (3, ⟨[1, 2, 4, 5, 17, 18], []⟩), (4, ⟨[1, 2, 4, 5, 6, 17], []⟩), (5, ⟨[1, 2, 4, 5, 17], []⟩), (6, ⟨[1, 2, 4, 5, 17], []⟩), (7, ⟨[2, 4, 5, 7], []⟩), (8, ⟨[2, 4, 5, 7, 33, 34], []⟩), (9, ⟨[2, 4, 5, 7, 33, 34, 35], []⟩), (10, ⟨[2, 4, 5, 7, 8, 9, 33, 34], []⟩), (11, ⟨[2, 4, 5, 7, 8, 9, 33, 34, 39], []⟩), (12, ⟨[2, 4, 5, 7, 8, 9, 10, 11, 33, 34], []⟩), (13, ⟨[2, 4, 5, 7, 8, 9, 11, 33, 34], []⟩), (14, ⟨[2, 4, 5, 7, 8, 9, 11, 33, 34], []⟩), (15, ⟨[2, 4, 5, 7, 8, 9, 33, 34], []⟩), (16, ⟨[2, 4, 5, 7, 8, 9, 12, 13, 33, 34], []⟩), (17, ⟨[2, 4, 5, 7, 12, 13, 14, 33, 34], []⟩), (18, ⟨[2, 4, 5, 7, 12, 13, 14, 33, 34], []⟩), (19, ⟨[2, 4, 5, 7, 12, 14, 33, 34], []⟩), (20, ⟨[2, 4, 5, 7, 12, 14, 15, 33, 34], []⟩), (21, ⟨[2, 4, 5, 7, 14, 15, 33, 34], []⟩), (22, ⟨[2, 4, 5, 7, 14, 15, 33, 34], []⟩), (23, ⟨[2, 4, 5, 7, 14, 15, 33, 34], []⟩), (24, ⟨[2, 4, 5, 7, 33, 34], []⟩), (25, ⟨[2, 4, 5, 7, 33, 34], []⟩), (26, ⟨[2, 4, 7, 162], []⟩), (27, ⟨[2, 4, 7, 162, 163], []⟩), (28, ⟨[2, 4, 7, 16, 162], []⟩), (29, ⟨[2, 4, 7, 162], []⟩), (30, ⟨[2, 4, 7, 162], []⟩), (31, ⟨[4], []⟩)]),
  (79, [(0, ⟨[0, 2, 3], []⟩), (1, ⟨[0, 2, 3, 9], []⟩), (3, ⟨[0, 2, 3], []⟩), (2, ⟨[0, 2, 3], []⟩)]),
  (80, [(0, ⟨[0, 1, 2, 4], []⟩), (1, ⟨[0, 1, 2, 4, 5], []⟩), (2, ⟨[0, 1, 2, 4, 5, 7], []⟩), (4, ⟨[0, 1, 2, 4, 5], []⟩), (5, ⟨[0, 1, 2, 4, 5, 22], []⟩), (3, ⟨[0, 1, 2, 4, 5], []⟩)]),
  (81, [(0, ⟨[0], []⟩), (1, ⟨[0, 3], []⟩), (2, ⟨[0, 3, 4], []⟩), (3, ⟨[0, 3, 4, 8], []⟩), (5, ⟨[0, 3, 4], []⟩), (4, ⟨[0, 3, 4], []⟩), (6, ⟨[2], []⟩)]),
  (82, [(0, ⟨[0], []⟩), (1, ⟨[0, 3], []⟩), (2, ⟨[0, 3, 9], []⟩), (4, ⟨[0, 3, 4], []⟩), (5, ⟨[0, 3, 4, 5], []⟩), (6, ⟨[0, 3, 5, 6], []⟩), (7, ⟨[0, 3, 6, 7], []⟩), (8, ⟨[0, 3], []⟩), (3, ⟨[0, 3], []⟩), (9, ⟨[2], []⟩)]),
  (83, [(0, ⟨[], []⟩), (1, ⟨[0], []⟩)]),
  (84, [(0, ⟨[0, 1], []⟩), (1, ⟨[4], []⟩)]),
  (85, [(0, ⟨[0, 1], []⟩), (1, ⟨[6, 7], []⟩), (2, ⟨[4, 5], []⟩), (3, ⟨[8, 9], []⟩), (4, ⟨[4, 5], []⟩)]),
  (86, [(0, ⟨[0, 1], []⟩), (1, ⟨[4], []⟩)]),
  (87, [(0, ⟨[0, 1], []⟩), (1, ⟨[0, 1, 7], []⟩), (2, ⟨[0, 1], []⟩), (3, ⟨[0, 1, 21], []⟩), (4, ⟨[], []⟩)]),
  (88, [(0, ⟨[0], []⟩), (1, ⟨[3], []⟩), (2, ⟨[2], []⟩)]),
  (89, [(0, ⟨[0], []⟩), (1, ⟨[0, 5], []⟩), (2, ⟨[2], []⟩), (3, ⟨[0, 3], []⟩), (4, ⟨[2], []⟩)]),
  (90, [(0, ⟨[0, 1, 6], []⟩), (1, ⟨[0, 1, 3], []⟩), (2, ⟨[0, 1, 3], []⟩), (3, ⟨[0, 1, 15], []⟩)]),
  (91, [(0, ⟨[0], []⟩), (1, ⟨[0, 3], []⟩), (2, ⟨[0, 3, 6, 7], []⟩), (3, ⟨[0, 3, 6, 7, 8], []⟩), (4, ⟨[0, 3, 4, 6, 7], []⟩), (5, ⟨[0, 3, 6, 7], []⟩), (6, ⟨[0, 3, 6, 7], []⟩), (7, ⟨[2], []⟩)]),
  (92, [(0, ⟨[0, 1], []⟩), (1, ⟨[4], []⟩)]),
  (93, [(0, ⟨[0, 1], []⟩), (1, ⟨[0, 1], []⟩), (2, ⟨[0, 1, 9], []⟩), (3, ⟨[0, 1], []⟩), (4, ⟨[0, 1, 5], []⟩), (5, ⟨[0, 1, 5, 14], []⟩), (7, ⟨[0, 1, 5], []⟩), (6, ⟨[0, 1, 5], []⟩), (8, ⟨[4], []⟩)]),
  (94, [(0, ⟨[0, 1], []⟩), (1, ⟨[6], []⟩), (2, ⟨[4, 5], []⟩)]),
  (95, [(0, ⟨[0, 1], []⟩), (1, ⟨[0, 1, 6], []⟩), (2, ⟨[0, 1, 6, 7], []⟩), (3, ⟨[0, 1, 6, 7, 8], []⟩), (4, ⟨[0, 1, 6, 7, 8, 9], []⟩), (5, ⟨[0, 1, 6, 7, 8, 9, 10], []⟩), (6, ⟨[0, 1, 6, 7, 9, 11], []⟩), (7, ⟨[0, 1, 6, 7, 9, 11, 12], []⟩), (8, ⟨[0, 1, 6, 7, 9, 12, 13], []⟩), (9, ⟨[0, 1, 7, 9, 12, 13], []⟩), (10, ⟨[0, 1, 4], []⟩), (11, ⟨[4, 5], []⟩)]),
  (96, [(0, ⟨[0, 1], []⟩), (1, ⟨[4], []⟩)]),
  (97, [(0, ⟨[0, 4], []⟩), (1, ⟨[0, 4], []⟩), (2, ⟨[], []⟩)]),
  (98, [(0, ⟨[0, 1], []⟩), (1, ⟨[0, 5], []⟩), (2, ⟨[4], []⟩)]),
  (125, [(0, ⟨[], []⟩), (1, ⟨[], []⟩), (2, ⟨[], []⟩), (3, ⟨[], []⟩), (4, ⟨[], []⟩), (5, ⟨[], []⟩)])]
noncomputable def ownT : List Nat := [39, 40, 59]
noncomputable def inpT : List Nat := [39, 79]
noncomputable def inp2T : List (Nat × List Nat) := []
noncomputable def dfrT : List Nat := [34]
noncomputable def ntmT : List Nat := [0, 0, 1, 179, 153, 39, 66, 97, 38, 18, 17, 10, 13, 52, 13, 16, 24, 7, 7, 24, 6, 26, 16, 11, 26, 14, 57, 50, 26, 49, 39, 26, 26, 9, 18, 18, 6, 31, 29, 95, 8, 17, 30, 14, 9, 15, 36, 5, 26, 27, 10, 4, 2, 10, 20, 19, 19, 28, 21, 27, 39, 26, 24, 43, 33, 14, 1, 6, 8, 25, 153, 10, 125, 4, 31, 11, 30, 4, 175, 28, 23, 19, 57, 2, 9, 30, 8, 25, 7, 20, 16, 19, 9, 23, 17, 51, 18, 30, 17, 1, 1, 1, 1, 1, 1, 1, 1, 1, 1, 1, 1, 1, 1, 1, 1, 1, 1, 1, 1, 1, 0, 0, 0, 0, 0, 13]
noncomputable def cmpT : List Nat := []
noncomputable def ixbT : List Nat := []
noncomputable def escT : List Nat := [66]
noncomputable def strT : List Nat := [43]
noncomputable def methT : List ((Nat × String) × (Nat × Option Nat)) := []
noncomputable def G0 : Cfg := { P := Tryd.prog, E := fun g => (hasBody[g]?).getD false, keep := fun f r => (keepT.lookup f).bind fun l => l.lookup r, inplace := fun f i => inpT.contains f && (match inp2T.lookup f with | some l => l.contains i | none => i == 0), retOwn := fun f => ownT.contains f, plan := fun f r => (planT.lookup f).bind fun l => l.lookup r, roundOK := fun _ => false, ntm := fun f => (ntmT[f]?).getD 0, live := fun f r => (liveT.lookup f).bind fun l => l.lookup r, dfr := fun f => dfrT.contains f, meth := fun t n => metT.lookup (t, n), ext := fun f => if cmpT.contains f then some cmpStr else if escT.contains f then some idP else if ixbT.contains f then some ixbP else none }
noncomputable def delT : List Nat := []
noncomputable def atoT : List Nat := []
noncomputable def fmtT : List Nat := []
noncomputable def insT : List (Nat × Nat) := [(39, 9)]
noncomputable def prim1 : FuncId → Option CallFn := fun f => if strT.contains f then some (strP 5) else if delT.contains f then some delP else if atoT.contains f then some (atoiP 0) else if fmtT.contains f then some fmtP else (insT.lookup f).map insP
noncomputable def worksT : List Nat := []
noncomputable def prim0 : FuncId → Option CallFn := fun f => if worksT.contains f then some worksP else prim1 f
noncomputable def G : Cfg := { G0 with roundOK := fun r => rOK G0 r }
theorem follows : G.P.follows .mixedOrders = true := by kernel_rfl
theorem all_ok : ((List.range 126).all fun g => !G.E g || fnOK G g) = true := by kernel_rfl
end Go.Proofs.YteibklnligmanaaDoor


/- The interpreter, step by step, as equations: code is gone through by rewriting. -/
namespace Go.Proofs.YteibklnligmanaaDoor.Abs
open Go Go.RowKit
set_option linter.unusedSimpArgs false
set_option linter.unusedVariables false

section
variable {G : Cfg} {call : CallFn} {loop : LoopFn} {f : FuncId} {ops : Array Oper} {r : List Oper} {st : ASt} {d : Option Nat} {t t' t'' : TypeId} {p : String} {af : Array Edge} {x y z : Operand}

/-! ### Code -/
def seqX (G : Cfg) (call : CallFn) (loop : LoopFn) (f : FuncId) (r : Option (AX × ASt)) (b : Code) : Option (AX × ASt) := r.bind fun | (.normal, s) => codeX G call loop f b s | r => some r
@[simp] theorem cx_seq {a b : Code} : codeX G call loop f (.seq a b) st = seqX G call loop f (codeX G call loop f a st) b := rfl
@[simp] theorem seqX_n {s b} : seqX G call loop f (some (.normal, s)) b = codeX G call loop f b s := rfl
@[simp] theorem seqX_r {s b} : seqX G call loop f (some (.ret, s)) b = some (.ret, s) := rfl
@[simp] theorem seqX_e {i s b} : seqX G call loop f (some (.exit i, s)) b = some (.exit i, s) := rfl
@[simp] theorem seqX_p {i s b} : seqX G call loop f (some (.pan i, s)) b = some (.pan i, s) := rfl
theorem seqX_if {c : Prop} [Decidable c] {x y b} : seqX G call loop f (if c then x else y) b = if c then seqX G call loop f x b else seqX G call loop f y b := by split <;> rfl
def blkX (id : Nat) (r : Option (AX × ASt)) : Option (AX × ASt) := r.bind fun | (.exit i, s) => some (if i = id then .normal else .exit i, s) | r => some r
@[simp] theorem cx_block {id} {b : Code} : codeX G call loop f (.block id b) st = blkX id (codeX G call loop f b st) := rfl
@[simp] theorem blkX_n {id s} : blkX id (some (.normal, s)) = some (.normal, s) := rfl
@[simp] theorem blkX_r {id s} : blkX id (some (.ret, s)) = some (.ret, s) := rfl
@[simp] theorem blkX_p {id s i} : blkX id (some (.pan i, s)) = some (.pan i, s) := rfl
@[simp] theorem blkX_e {id i s} : blkX id (some (.exit i, s)) = some (if i = id then .normal else .exit i, s) := rfl
theorem blkX_if {id} {c : Prop} [Decidable c] {x y} : blkX id (if c then x else y) = if c then blkX id x else blkX id y := by split <;> rfl
@[simp] theorem cx_skip : codeX G call loop f .skip st = some (.normal, st) := rfl
@[simp] theorem cx_exit {i} : codeX G call loop f (.exit i) st = some (.exit i, st) := rfl
@[simp] theorem cx_ret : codeX G call loop f .ret st = some (.ret, st) := rfl
@[simp] theorem cx_label {l} : codeX G call loop f (.label l) st = some (.normal, st) := rfl
def condX (G : Cfg) (call : CallFn) (loop : LoopFn) (f : FuncId) (v : AV) (a b : Code) (st : ASt) : Option (AX × ASt) := match v with | .bool t => if t then codeX G call loop f a st else codeX G call loop f b st | _ => none
@[simp] theorem cx_cond {c a b} : codeX G call loop f (.cond c a b) st = condX G call loop f (st.ev c) a b st := rfl
@[simp] theorem condX_t {a b} : condX G call loop f (.bool true) a b st = codeX G call loop f a st := rfl
@[simp] theorem condX_f {a b} : condX G call loop f (.bool false) a b st = codeX G call loop f b st := rfl
theorem condX_b {t a b} : condX G call loop f (.bool t) a b st = if t = true then codeX G call loop f a st else codeX G call loop f b st := by cases t <;> rfl
def loopX (loop : LoopFn) (f : FuncId) (b : Code) (st : Option ASt) : Option (AX × ASt) := st.bind (loop f b)
@[simp] theorem cx_loop {b} : codeX G call loop f (.loop b) st = loopX loop f b (canon G f b st) := rfl
@[simp] theorem loopX_s {b s} : loopX loop f b (some s) = loop f b s := rfl

/-! ### Operations -/
def aopsL (G : Cfg) (call : CallFn) (ops : Array Oper) : List Oper → ASt → Option (AX × ASt)
  | [], st => some (.normal, st)
  | o :: r, st =>
      (guardA ops st o).bind fun g =>
        if g then
          (aop G call o st).bind fun
            | .val v s => aopsL G call ops r (s.put o.dst v)
            | .pan v s => some (.pan v, s)
        else if skipA st o.op then aopsL G call ops r (st.put o.dst (.tup [])) else none

theorem aops_L (G : Cfg) (call : CallFn) (ops : Array Oper) (n : Nat) : ∀ (k : Nat) (st : ASt), n + k = ops.size → aops G call ops (List.range' n k) st = aopsL G call ops (ops.toList.drop n) st := by
  intro k
  induction k generalizing n with
  | zero => intro st h; rw [List.drop_of_length_le (by simp; omega)]; rfl
  | succ k ih =>
    intro st h
    have hlt : n < ops.toList.length := by simp; omega
    rw [List.drop_eq_getElem_cons hlt, List.range'_succ]
    simp only [aops, aopsL]
    rw [show ops[n]? = some ops.toList[n] by rw [← Array.getElem?_toList]; exact List.getElem?_eq_getElem hlt]
    simp only
    congr 1
    funext g
    cases g with
    | true =>
      simp only [if_true]
      congr 1
      funext a
      cases a with
      | val v s => exact ih (n + 1) _ (by omega)
      | pan v s => rfl
    | false =>
      simp only [Bool.false_eq_true, if_false]
      split
      · exact ih (n + 1) _ (by omega)
      · rfl
/-- A region's end. -/
def trimX (L : Option Trim) (r : Option (AX × ASt)) : Option (AX × ASt) := r.bind (growX L)
@[simp] theorem trimX_n {l s} : trimX (some ⟨l, []⟩) (some (.normal, s)) = some (.normal, s.trim (some ⟨l, []⟩)) := rfl
@[simp] theorem trimX_g {l g gs s} : trimX (some ⟨l, g :: gs⟩) (some (.normal, s)) = (canonAll (fun (p : Nat × Nat × Nat × TypeId) s => canonCell p.1 p.2.1 p.2.2 s) (g :: gs) s).map fun s => (.normal, s.trim (some ⟨l, g :: gs⟩)) := rfl
@[simp] theorem trimX_p {L v s} : trimX L (some (.pan v, s)) = some (.pan v, s.trim L) := by cases L <;> rfl
theorem trimX_if {L} {c : Prop} [Decidable c] {x y} : trimX L (if c then x else y) = if c then trimX L x else trimX L y := by split <;> rfl
@[simp] theorem trim_some {sl hp l g} : ASt.trim ⟨sl, hp⟩ (some ⟨l, g⟩) = ⟨l.map fun t => (t, (aget sl t).getD .undef), hp⟩ := rfl
@[simp] theorem cx_region {id} : codeX G call loop f (.region id ops false) st = trimX (G.live f id) (aopsL G call ops ops.toList st) := by
  simp only [codeX, Bool.false_eq_true, if_false]
  rw [List.range_eq_range', aops_L G call ops 0 ops.size st (by simp)]; simp only [List.drop_zero]; rfl

def valX (G : Cfg) (call : CallFn) (ops : Array Oper) (d : Option Nat) (r : List Oper) (st : ASt) : Option AV → Option (AX × ASt)
  | some v => aopsL G call ops r (st.put d v)
  | none => none
@[simp] theorem valX_s {v} : valX G call ops d r st (some v) = aopsL G call ops r (st.put d v) := rfl
def resX (G : Cfg) (call : CallFn) (ops : Array Oper) (d : Option Nat) (r : List Oper) : Option AR → Option (AX × ASt)
  | some (.val v s) => aopsL G call ops r (s.put d v)
  | some (.pan v s) => some (.pan v, s)
  | none => none
@[simp] theorem resX_v {v s} : resX G call ops d r (some (.val v s)) = aopsL G call ops r (s.put d v) := rfl
@[simp] theorem resX_p {v s} : resX G call ops d r (some (.pan v s)) = some (.pan v, s) := rfl

@[simp] theorem ao_nil : aopsL G call ops [] st = some (.normal, st) := rfl
theorem ao_any {op : Op} : aopsL G call ops (⟨d, op, t, p, af, none⟩ :: r) st = resX G call ops d r (aop G call ⟨d, op, t, p, af, none⟩ st) := by
  simp only [aopsL, guardA, Option.bind_some, if_true]
  cases aop G call ⟨d, op, t, p, af, none⟩ st with
  | none => rfl
  | some a => cases a <;> rfl
theorem ao_read {op : Op} (h : aop G call ⟨d, op, t, p, af, none⟩ st = (opv G.P st.ev st.hp op).map fun v => .val v st) : aopsL G call ops (⟨d, op, t, p, af, none⟩ :: r) st = valX G call ops d r st (opv G.P st.ev st.hp op) := by
  rw [ao_any, h]
  cases opv G.P st.ev st.hp op <;> rfl

/-- What a guard's slot says. -/
def gV (want : Bool) : AV → Option Bool
  | .bool b => some (b == want)
  | .tup [] => some false
  | _ => none
@[simp] theorem gV_b {w b} : gV w (.bool b) = some (b == w) := rfl
@[simp] theorem gV_n {w} : gV w (.tup []) = some false := rfl
@[simp] theorem skipV_f {g a b} : skipV (.fn (.func g) a b) = decide (g < NF) := rfl
@[simp] theorem skipV_n : skipV (.tup []) = true := rfl
attribute [simp] skipA
/-- What is skipped may be. -/
def skX {α : Type} : Bool → Option α → Option α
  | true, r => r
  | false, _ => none
theorem skX_if {α : Type} {b : Bool} {r : Option α} : (if b = true then r else none) = skX b r := by cases b <;> rfl
@[simp] theorem skX_t {α : Type} {r : Option α} : skX true r = r := rfl
theorem aop_guard (o : Oper) (g : Option (Nat × Bool)) : aop G call { o with guard := g } st = aop G call o st := rfl
/-- An operation behind a guard, whose slot holds this. -/
def gW (G : Cfg) (call : CallFn) (ops : Array Oper) (k : Nat) (w : Bool) (o : Oper) (r : List Oper) (st : ASt) : AV → Option (AX × ASt)
  | .bool b => if b == w then aopsL G call ops ({ o with guard := none } :: r) st else skX (skipA st o.op) (aopsL G call ops r (st.put o.dst (.tup [])))
  | .tup [] => skX (skipA st o.op) (aopsL G call ops r (st.put o.dst (.tup [])))
  | _ => none
@[simp] theorem gW_tt {k o} : gW G call ops k true o r st (.bool true) = aopsL G call ops ({ o with guard := none } :: r) st := rfl
@[simp] theorem gW_ff {k o} : gW G call ops k false o r st (.bool false) = aopsL G call ops ({ o with guard := none } :: r) st := rfl
@[simp] theorem gW_tf {k o} : gW G call ops k true o r st (.bool false) = skX (skipA st o.op) (aopsL G call ops r (st.put o.dst (.tup []))) := rfl
@[simp] theorem gW_ft {k o} : gW G call ops k false o r st (.bool true) = skX (skipA st o.op) (aopsL G call ops r (st.put o.dst (.tup []))) := rfl
@[simp] theorem gW_n {k w o} : gW G call ops k w o r st (.tup []) = skX (skipA st o.op) (aopsL G call ops r (st.put o.dst (.tup []))) := rfl
def gK (G : Cfg) (call : CallFn) (ops : Array Oper) (w : Bool) (o : Oper) (r : List Oper) (st : ASt) : Option Nat → Option (AX × ASt)
  | some k => gW G call ops k w o r st (st.slot k)
  | none => none
@[simp] theorem gK_s {k w o} : gK G call ops w o r st (some k) = gW G call ops k w o r st (st.slot k) := rfl
@[simp] theorem ao_guard {op : Op} {j w} : aopsL G call ops (⟨d, op, t, p, af, some (j, w)⟩ :: r) st = gK G call ops w ⟨d, op, t, p, af, some (j, w)⟩ r st ((ops[j]?).bind (·.dst)) := by
  simp only [aopsL, guardA, skX_if]
  cases (ops[j]?).bind (·.dst) with
  | none => rfl
  | some k =>
    simp only [gK]
    cases st.slot k with
    | bool b => cases b <;> cases w <;> rfl
    | tup l => cases l <;> rfl
    | _ => rfl
/-! Two ways of a guard are told as one, at the region's end. -/
def mergeX (b : Bool) (x y : Option (AX × ASt)) : Option (AX × ASt) := if b = true then x else y
def mergeV (b : Bool) (x y : AV) : AV := if b = true then x else y
def mergeS (b : Bool) (x y : Slots) : Slots := if b = true then x else y
def aset : Slots → Nat → AV → Slots
  | [], _, _ => []
  | (k', x) :: l, k, v => if k' = k then (k', v) :: l else (k', x) :: aset l k v
@[simp] theorem aset_nil {k v} : aset [] k v = [] := rfl
@[simp] theorem aset_cons {k' x l k v} : aset ((k', x) :: l) k v = if k' = k then (k', v) :: l else (k', x) :: aset l k v := rfl
theorem aset_same {v : AV} {k : Nat} : ∀ {sl : Slots}, aget sl k = some v → aset sl k v = sl
  | [], h => by cases h
  | (k', x) :: l, h => by
    simp only [aget] at h
    simp only [aset]
    split
    · rename_i e; rw [if_pos e] at h; cases h; rfl
    · rename_i e; rw [if_neg e] at h; rw [aset_same h]
@[simp low] theorem gW_split {L} {sl : Slots} {hp : Heap} {k w o} {b : Bool} (hk : aget sl k = some (.bool b)) : trimX L (gW G call ops k w o r ⟨sl, hp⟩ (.bool b)) =
    mergeX b (trimX L (gW G call ops k w o r ⟨aset sl k (.bool true), hp⟩ (.bool true))) (trimX L (gW G call ops k w o r ⟨aset sl k (.bool false), hp⟩ (.bool false))) := by
  cases b with
  | true => rw [aset_same hk]; rfl
  | false => rw [aset_same hk]; rfl
@[simp] theorem mergeX_s {b x l m hp} : mergeX b (some (x, ⟨l, hp⟩)) (some (x, ⟨m, hp⟩)) = some (x, ⟨mergeS b l m, hp⟩) := by cases b <;> rfl
@[simp] theorem mergeS_n {b} : mergeS b [] [] = [] := by cases b <;> rfl
@[simp] theorem mergeS_c {b t x y l m} : mergeS b ((t, x) :: l) ((t, y) :: m) = (t, mergeV b x y) :: mergeS b l m := by cases b <;> rfl
@[simp] theorem mergeV_same {b x} : mergeV b x x = x := by cases b <;> rfl
@[simp] theorem mergeV_b {b x y} : mergeV b (.bool x) (.bool y) = .bool (bif b then x else y) := by cases b <;> rfl
@[simp] theorem mergeV_i {b k x y} : mergeV b (.int k x) (.int k y) = .int k (bif b then x else y) := by cases b <;> rfl

@[simp] theorem ao_move : aopsL G call ops (⟨d, .move x, t, p, af, none⟩ :: r) st = aopsL G call ops r (st.put d (st.ev x)) := ao_read rfl
@[simp] theorem ao_assign : aopsL G call ops (⟨d, .assign x, t, p, af, none⟩ :: r) st = aopsL G call ops r (st.put d (st.ev x)) := ao_read rfl
def pickV (c a b : AV) : Option AV := match c with | .bool t => some (if t then a else b) | _ => none
@[simp] theorem pickV_t {a b} : pickV (.bool true) a b = some a := rfl
@[simp] theorem pickV_f {a b} : pickV (.bool false) a b = some b := rfl
theorem pickV_b {t a b} : pickV (.bool t) a b = some (if t = true then a else b) := by cases t <;> rfl
@[simp] theorem ao_pick : aopsL G call ops (⟨d, .pick x y z, t, p, af, none⟩ :: r) st = valX G call ops d r st (pickV (st.ev x) (st.ev y) (st.ev z)) := ao_read rfl
def binO (P : Program) (op : BinOp) (t : TypeId) (cx cy : Bool) (a b : AV) : Option AV :=
  match a, b with
    | .nili, .nili => (match op, P.underlying t with
      | .eql, some (.interface _) => if cx || cy then some (.bool true) else none
      | .neq, some (.interface _) => if cx || cy then some (.bool false) else none
      | _, _ => none)
    | a, b => binv P op t a b
@[simp] theorem ao_binOp {op} : aopsL G call ops (⟨d, .binOp op t' x y t'', t, p, af, none⟩ :: r) st = valX G call ops d r st (binO G.P op t' (isConst x) (isConst y) (st.ev x) (st.ev y)) := ao_read rfl
@[simp] theorem ao_unOp {op} : aopsL G call ops (⟨d, .unOp op t' x, t, p, af, none⟩ :: r) st = valX G call ops d r st (unv op (st.ev x)) := ao_read rfl
def fieldV (P : Program) (t : TypeId) (k : Nat) (v : AV) : Option AV := match fieldOff P t k, v with
    | some fd, .agg cs => partT P fd.type cs fd.offset
    | _, _ => none
@[simp] theorem ao_field {k} : aopsL G call ops (⟨d, .field t' x k, t, p, af, none⟩ :: r) st = valX G call ops d r st (fieldV G.P t' k (st.ev x)) := ao_read rfl
def fieldAddrV (P : Program) (t : TypeId) (k : Nat) (v : AV) : Option AV := match fieldOff P t k, v with
    | some fd, .ptr id i o => if P.cellsOf fd.type = 0 then none else some (.ptr id i (o + fd.offset))
    | some fd, .ep v o => if P.cellsOf fd.type = 0 ∨ v.cells.length ≤ o + fd.offset then none else some (.ep v (o + fd.offset))
    | _, _ => none
@[simp] theorem ao_fieldAddr {k} : aopsL G call ops (⟨d, .fieldAddr t' x k, t, p, af, none⟩ :: r) st = valX G call ops d r st (fieldAddrV G.P t' k (st.ev x)) := ao_read rfl
@[simp] theorem ao_indexAddr : aopsL G call ops (⟨d, .indexAddr t' x y, t, p, af, none⟩ :: r) st = valX G call ops d r st (indexA G.P st.hp t' (st.ev x) (st.ev y)) := ao_read rfl
@[simp] theorem ao_index : aopsL G call ops (⟨d, .index t' x y, t, p, af, none⟩ :: r) st = valX G call ops d r st (indexv G.P t' (st.ev x) (st.ev y)) := ao_read rfl
def loadV (P : Program) (hp : Heap) (t : TypeId) (v : AV) : Option AV := match v with
    | .ptr id i o => (aget hp id).bind fun ob => (objCells ob i).bind fun cs => partT P t cs o
    | .ep v o => partT P t v.cells o
    | _ => none
@[simp] theorem ao_load : aopsL G call ops (⟨d, .load t' x, t, p, af, none⟩ :: r) st = valX G call ops d r st (loadV G.P st.hp t' (st.ev x)) := ao_read rfl
def extractV (i : Nat) : AV → Option AV | .tup vs => vs[i]? | _ => none
@[simp] theorem extractV_t {i vs} : extractV i (.tup vs) = vs[i]? := rfl
@[simp] theorem ao_extract {i} : aopsL G call ops (⟨d, .extract x i, t, p, af, none⟩ :: r) st = valX G call ops d r st (extractV i (st.ev x)) := ao_read rfl
@[simp] theorem ao_build {ps : Array (Nat × Operand)} : aopsL G call ops (⟨d, .build t' ps, t, p, af, none⟩ :: r) st = valX G call ops d r st (buildA G.P t' (ps.toList.map fun q => (q.1, st.ev q.2))) := ao_read rfl
def mkIface (P : Program) (t : TypeId) (v : AV) : Option AV := match P.underlying t with | some (.interface _) => none | some _ => some (.iface t v) | none => none
@[simp] theorem ao_makeInterface : aopsL G call ops (⟨d, .makeInterface t' x, t, p, af, none⟩ :: r) st = valX G call ops d r st (mkIface G.P t' (st.ev x)) := ao_read rfl
@[simp] theorem ao_makeFunc {g : Fn} {a b : Array Operand} : aopsL G call ops (⟨d, .makeFunc g a b, t, p, af, none⟩ :: r) st = aopsL G call ops r (st.put d (.fn g (a.toList.map st.ev) (b.toList.map st.ev))) := ao_read rfl
def nilCheckV : AV → Option AV | .ptr id i o => some (.ptr id i o) | .ep v o => some (.ep v o) | .iface t v => some (.iface t v) | _ => none
@[simp] theorem nilCheckV_p {id i o} : nilCheckV (.ptr id i o) = some (.ptr id i o) := rfl
@[simp] theorem nilCheckV_e {v o} : nilCheckV (.ep v o) = some (.ep v o) := rfl
@[simp] theorem ao_nilCheck : aopsL G call ops (⟨d, .nilCheck x, t, p, af, none⟩ :: r) st = valX G call ops d r st (nilCheckV (st.ev x)) := ao_read rfl
def assertV (P : Program) (t : TypeId) (ok : Bool) (v : AV) : Option AV := match P.underlying t, v with
    | some (.interface _), _ => none
    | some _, .iface t' v => if t' = t then some (if ok then .tup [v, .bool true] else v) else (if ok then ((P.info? t).bind (·.zero)).map fun z => .tup [ofValue z, .bool false] else none)
    | some _, .nili => if ok then ((P.info? t).bind (·.zero)).map fun z => .tup [ofValue z, .bool false] else none
    | _, _ => none
@[simp] theorem ao_typeAssert {ok} : aopsL G call ops (⟨d, .typeAssert x t'' t' ok, t, p, af, none⟩ :: r) st = valX G call ops d r st (assertV G.P t' ok (st.ev x)) := ao_read rfl

/-! Those that write. -/
theorem ao_alloc {e : TypeId} {d : Nat} : aopsL G call ops (⟨some d, .alloc e, t, p, af, none⟩ :: r) st = resX G call ops (some d) r (((G.P.info? e).bind (·.zero)).bind fun z => if okCells (ofValue z) ∧ (ofValue z).cells.length = G.P.cellsOf e then newObj d (.box e (ofValue z)) (fun n => .ptr n 0 0) st else none) := ao_any
def allocX (G : Cfg) (e : TypeId) (d : Nat) (st : ASt) : Option AR := ((G.P.info? e).bind (·.zero)).bind fun z => if okCells (ofValue z) ∧ (ofValue z).cells.length = G.P.cellsOf e then newObj d (.box e (ofValue z)) (fun n => .ptr n 0 0) st else none
@[simp] theorem ao_alloc' {e : TypeId} {d : Nat} : aopsL G call ops (⟨some d, .alloc e, t, p, af, none⟩ :: r) st = resX G call ops (some d) r (allocX G e d st) := ao_any
def boxX (G : Cfg) (e : TypeId) (v : AV) (d : Nat) (st : ASt) : Option AR := if 0 < G.P.cellsOf e ∧ okCells v ∧ v.cells.length = G.P.cellsOf e then newObj d (.box e v) (fun n => .ptr n 0 0) st else if G.P.cellsOf e = 0 then some (.val .undef st) else none
@[simp] theorem ao_box {e : TypeId} {d : Nat} : aopsL G call ops (⟨some d, .box e x, t, p, af, none⟩ :: r) st = resX G call ops (some d) r (boxX G e (st.ev x) d st) := ao_any
@[simp] theorem ao_store : aopsL G call ops (⟨d, .store t' x y, t, p, af, none⟩ :: r) st = resX G call ops d r ((storeA G t' (st.ev x) (st.ev y) st).map fun s => .val .undef s) := ao_any
def buildSliceX (G : Cfg) (t : TypeId) (len : Nat) (is : List Nat) (vs : List AV) (d : Nat) (st : ASt) : Option AR :=
  (elemOf? G.P t).bind fun e =>
      let ys := AV.rvL st.hp vs
      if is = List.range len ∧ ((G.P.info? e).bind (·.zero)).isSome ∧ AV.pureL ys ∧ (ys.all fun y => okCells y && y.cells.length == G.P.cellsOf e) ∧ 0 < G.P.cellsOf e ∧ len * G.P.cellsOf e ≤ 16777216 then
        newObj d (.row (G.P.cellsOf e) ys false ⟨false, e⟩) .own (st.fix (AV.rowsL vs))
      else none
@[simp] theorem ao_buildSlice {len} {ps : Array (Nat × Operand)} {d : Nat} : aopsL G call ops (⟨some d, .buildSlice t' len ps, t, p, af, none⟩ :: r) st = resX G call ops (some d) r (buildSliceX G t' len (ps.toList.map (·.1)) (ps.toList.map fun q => st.ev q.2) d st) := ao_any
def panicX (v : AV) (st : ASt) : Option AR := match v with
    | .iface t v => some (.pan ((AV.iface t v).rv st.hp) (st.fix (AV.iface t v).rows))
    | _ => none
@[simp] theorem ao_panic : aopsL G call ops (⟨d, .panic x, t, p, af, none⟩ :: r) st = resX G call ops d r (panicX (st.ev x) st) := ao_any
def makeSliceX (G : Cfg) (t : TypeId) (l c : AV) (d : Nat) (st : ASt) : Option AR :=
  (elemOf? G.P t).bind fun e => ((G.P.info? e).bind (·.zero)).bind fun z =>
      match l, c with
      | .int .i64 n, .int .i64 m =>
        if 0 ≤ n ∧ n ≤ m ∧ m ≤ LIM ∧ ((G.P.info? e).map (·.bytes)).getD 4097 ≤ 4096 ∧ (ofValue z).pureB ∧ okCells (ofValue z) ∧ 0 < G.P.cellsOf e ∧ (ofValue z).cells.length = G.P.cellsOf e then newObj d (.row (G.P.cellsOf e) (List.replicate n.toNat (ofValue z)) false ⟨false, e⟩) .own st else none
      | _, _ => none
@[simp] theorem ao_makeSlice {d : Nat} : aopsL G call ops (⟨some d, .makeSlice t' x y, t, p, af, none⟩ :: r) st = resX G call ops (some d) r (makeSliceX G t' (st.ev x) (st.ev y) d st) := ao_any
def convertX (G : Cfg) (s t : TypeId) (v : AV) (d : Option Nat) (st : ASt) : Option AR := match G.P.underlying t, v with
    | some (.slice e), .str l =>
      (match G.P.underlying e with
       | some (.int .u8) => d.bind fun d => if isStringT G.P s && byT e then newObj d (.row 1 (l.map fun b => .int .u8 b.toNat) false ⟨false, e⟩) .own st else none
       | _ => none)
    | _, _ => (convv G.P st.hp s t v).map fun v => .val v st
@[simp] theorem ao_convert : aopsL G call ops (⟨d, .convert t' t'' x, t, p, af, none⟩ :: r) st = resX G call ops d r (convertX G t' t'' (st.ev x) d st) := ao_any
def sliceX (G : Cfg) (t : TypeId) (v : AV) (lo hi mx : Option AV) (st : ASt) : Option AR := match winA G.P st.hp t v lo hi mx with
    | some q => winX G q st
    | none => match cutA st.hp v lo hi mx with
    | some q => if (elemOf? G.P t).map (G.P.cellsOf ·) = some q.2.1 then some (.val (.own q.1) (st.cut q)) else none
    | none => (sliceW G.P st.hp t v lo hi mx).map fun v => .val v st
@[simp] theorem ao_slice {lo hi mx : Option Operand} : aopsL G call ops (⟨d, .slice t' x lo hi mx, t, p, af, none⟩ :: r) st = resX G call ops d r (sliceX G t' (st.ev x) (lo.map st.ev) (hi.map st.ev) (mx.map st.ev) st) := ao_any

/-! Calls. -/
@[simp] theorem ao_len {ts : TypeId} : aopsL G call ops (⟨d, .call ⟨.builtin .len, #[x], #[ts]⟩, t, p, af, none⟩ :: r) st = valX G call ops d r st (lenv G.P st.hp ts (st.ev x)) := ao_read rfl
@[simp] theorem ao_cap {ts : TypeId} : aopsL G call ops (⟨d, .call ⟨.builtin .cap, #[x], #[ts]⟩, t, p, af, none⟩ :: r) st = valX G call ops d r st (capv G.P ts (st.ev x)) := ao_read rfl
@[simp] theorem ao_min {ts} : aopsL G call ops (⟨d, .call ⟨.builtin .min, #[x, y], ts⟩, t, p, af, none⟩ :: r) st = valX G call ops d r st (minmax false (st.ev x) (st.ev y)) := by
  refine ao_read ?_
  simp only [aop, calledA, invokedA, aopB]
@[simp] theorem ao_max {ts} : aopsL G call ops (⟨d, .call ⟨.builtin .max, #[x, y], ts⟩, t, p, af, none⟩ :: r) st = valX G call ops d r st (minmax true (st.ev x) (st.ev y)) := by
  refine ao_read ?_
  simp only [aop, calledA, invokedA, aopB]
@[simp] theorem ao_append {d : Nat} {t1 t2 : TypeId} : aopsL G call ops (⟨some d, .call ⟨.builtin .append, #[x, y], #[t1, t2]⟩, t, p, af, none⟩ :: r) st = resX G call ops (some d) r (appendA G d t1 t2 (st.ev x) (st.ev y) st) := ao_any
def callV (G : Cfg) (call : CallFn) (d : Option Nat) (fv : AV) (args : List AV) (st : ASt) : Option AR := match extA G fv args with
    | some v => some (.val v st)
    | none => callA G call d fv args st
@[simp] theorem ao_call {args : Array Operand} {ts} : aopsL G call ops (⟨d, .call ⟨.value x, args, ts⟩, t, p, af, none⟩ :: r) st = resX G call ops d r (callV G call d (st.ev x) (args.toList.map st.ev) st) := ao_any
@[simp] theorem ao_inv {args : Array Operand} {ts} {n : String} : aopsL G call ops (⟨d, .call ⟨.invoke x n, args, ts⟩, t, p, af, none⟩ :: r) st = resX G call ops d r (invA G call d (st.ev x) n (args.toList.map st.ev) st) := ao_any
@[simp] theorem invA_iface {d : Option Nat} {v : AV} {n : String} {args : List AV} : invA G call d (.iface t v) n args st = (G.meth t n).bind fun m => (recvA G st v m.2).bind fun u => callA G call d (.fn (.func m.1) [] []) (u :: args) st := rfl
@[simp] theorem recvA_n {v : AV} : recvA G st v none = some v := rfl
end
end Go.Proofs.YteibklnligmanaaDoor.Abs


/- States, values, calls: as equations. -/
namespace Go.Proofs.YteibklnligmanaaDoor.Abs
open Go Go.RowKit
set_option linter.unusedSimpArgs false
set_option linter.unusedVariables false

section
variable {G : Cfg} {call : CallFn} {loop : LoopFn} {f : FuncId} {st : ASt} {sl : Slots} {hp : Heap}

/-! ### Slots -/
@[simp] theorem ev_tmp {t} : ASt.ev ⟨sl, hp⟩ (.tmp t) = (aget sl t).getD .undef := rfl
@[simp] theorem ev_const {v} : st.ev (.const v) = ofValue v := rfl
@[simp] theorem ev_func {g} : st.ev (.func g) = .fn (.func g) [] [] := rfl
@[simp] theorem slot_mk {t} : ASt.slot ⟨sl, hp⟩ t = (aget sl t).getD .undef := rfl
@[simp] theorem put_some {t v} : ASt.put ⟨sl, hp⟩ (some t) v = ⟨(t, v) :: sl, hp⟩ := rfl
@[simp] theorem put_none {v} : st.put none v = st := rfl
@[simp] theorem aget_nil {α : Type} {n : Nat} : aget ([] : List (Nat × α)) n = none := rfl
@[simp] theorem aget_cons' {α : Type} {k n : Nat} {v : α} {r : List (Nat × α)} : aget ((k, v) :: r) n = if k = n then some v else aget r n := rfl
@[simp] theorem isConst_c {v} : isConst (.const v) = true := rfl
@[simp] theorem isConst_t {v} : isConst (.tmp v) = false := rfl
@[simp] theorem ofValue_b {b} : ofValue (.bool b) = .bool b := rfl
@[simp] theorem ofValue_i {k n} : ofValue (.int k n) = .int k n := rfl
@[simp] theorem ofValue_s {s} : ofValue (.string s) = .str s.data.toList := rfl
@[simp] theorem ofValue_np : ofValue (.pointer none) = .nilp := rfl
@[simp] theorem ofValue_ns : ofValue (.slice none 0 0) = .nils := rfl
@[simp] theorem ofValue_nf : ofValue .nilFunc = .nilf := rfl
@[simp] theorem ofValue_nm : ofValue (.map none) = .nilm := rfl
@[simp] theorem ofValue_ni : ofValue .nilIface = .nili := rfl
@[simp] theorem ofValue_a {cs} : ofValue (.agg cs) = .agg (cs.toList.map ofScalar) := rfl
@[simp] theorem ofScalar_b {b} : ofScalar (.bool b) = .bool b := rfl
@[simp] theorem ofScalar_i {k n} : ofScalar (.int k n) = .int k n := rfl
@[simp] theorem ofScalar_s {s} : ofScalar (.string s) = .str s.data.toList := rfl
@[simp] theorem ofScalar_np : ofScalar (.pointer none) = .nilp := rfl
@[simp] theorem ofScalar_ns : ofScalar (.slice none 0 0) = .nils := rfl
@[simp] theorem ofScalar_nf : ofScalar .nilFunc = .nilf := rfl
@[simp] theorem ofScalar_nm : ofScalar (.map none) = .nilm := rfl
@[simp] theorem ofScalar_ni : ofScalar .nilIface = .nili := rfl

/-! ### Whole numbers, strings, comparisons -/
def wAnd (k : IntKind) (a b : Int) : Int := k.wrap (BitVec.ofInt k.bits a &&& BitVec.ofInt k.bits b).toNat
def wOr (k : IntKind) (a b : Int) : Int := k.wrap (BitVec.ofInt k.bits a ||| BitVec.ofInt k.bits b).toNat
def wXor (k : IntKind) (a b : Int) : Int := k.wrap (BitVec.ofInt k.bits a ^^^ BitVec.ofInt k.bits b).toNat
def wAndNot (k : IntKind) (a b : Int) : Int := k.wrap (BitVec.ofInt k.bits a &&& ~~~BitVec.ofInt k.bits b).toNat
section
variable {P : Program} {t : TypeId} {cx cy : Bool} {k : IntKind} {a b : Int} {s u : List UInt8}
theorem beqS (s u : List UInt8) : (s == u) = decide (s = u) := by
  by_cases h : s = u
  · subst h; simp
  · rw [decide_eq_false h]; exact beq_eq_false_iff_ne.2 h
@[simp] theorem bo_add : binO P .add t cx cy (.int k a) (.int k b) = some (.int k (k.wrap (a + b))) := by simp [binO, binv, arith]
@[simp] theorem bo_sub : binO P .sub t cx cy (.int k a) (.int k b) = some (.int k (k.wrap (a - b))) := by simp [binO, binv, arith]
@[simp] theorem bo_mul : binO P .mul t cx cy (.int k a) (.int k b) = some (.int k (k.wrap (a * b))) := by simp [binO, binv, arith]
@[simp] theorem bo_quo : binO P .quo t cx cy (.int k a) (.int k b) = if b = 0 then none else some (.int k (k.wrap (a.tdiv b))) := by simp [binO, binv, arith]
@[simp] theorem bo_rem : binO P .rem t cx cy (.int k a) (.int k b) = if b = 0 then none else some (.int k (a.tmod b)) := by simp [binO, binv, arith]
@[simp] theorem bo_and : binO P .and t cx cy (.int k a) (.int k b) = some (.int k (wAnd k a b)) := by simp [binO, binv, arith, wAnd]
@[simp] theorem bo_or : binO P .or t cx cy (.int k a) (.int k b) = some (.int k (wOr k a b)) := by simp [binO, binv, arith, wOr]
@[simp] theorem bo_xor : binO P .xor t cx cy (.int k a) (.int k b) = some (.int k (wXor k a b)) := by simp [binO, binv, arith, wXor]
@[simp] theorem bo_andNot : binO P .andNot t cx cy (.int k a) (.int k b) = some (.int k (wAndNot k a b)) := by simp [binO, binv, arith, wAndNot]
@[simp] theorem bo_eql : binO P .eql t cx cy (.int k a) (.int k b) = some (.bool (decide (a = b))) := by simp [binO, binv, arith]; rfl
@[simp] theorem bo_neq : binO P .neq t cx cy (.int k a) (.int k b) = some (.bool (!decide (a = b))) := by simp [binO, binv, arith]; rfl
@[simp] theorem bo_lss : binO P .lss t cx cy (.int k a) (.int k b) = some (.bool (decide (a < b))) := by simp [binO, binv, arith]
@[simp] theorem bo_leq : binO P .leq t cx cy (.int k a) (.int k b) = some (.bool (decide (a ≤ b))) := by simp [binO, binv, arith]
@[simp] theorem bo_gtr : binO P .gtr t cx cy (.int k a) (.int k b) = some (.bool (decide (b < a))) := by simp [binO, binv, arith]
@[simp] theorem bo_geq : binO P .geq t cx cy (.int k a) (.int k b) = some (.bool (decide (b ≤ a))) := by simp [binO, binv, arith]
@[simp] theorem bo_shl {k' : IntKind} : binO P .shl t cx cy (.int k a) (.int k' b) = if b < 0 then none else some (.int k (k.wrap (a * 2 ^ (min b.toNat k.bits)))) := by simp [binO, binv, arith]
@[simp] theorem bo_shr {k' : IntKind} : binO P .shr t cx cy (.int k a) (.int k' b) = if b < 0 then none else some (.int k (a.fdiv (2 ^ (min b.toNat k.bits)))) := by simp [binO, binv, arith]
@[simp] theorem bs_add : binO P .add t cx cy (.str s) (.str u) = if s.length + u.length ≤ LIM then some (.str (s ++ u)) else none := by simp [binO, binv, strOp]
@[simp] theorem bs_eql : binO P .eql t cx cy (.str s) (.str u) = some (.bool (decide (s = u))) := by simp [binO, binv, strOp, beqS]
@[simp] theorem bs_neq : binO P .neq t cx cy (.str s) (.str u) = some (.bool (!decide (s = u))) := by simp [binO, binv, strOp, beqS]
@[simp] theorem bs_lss : binO P .lss t cx cy (.str s) (.str u) = some (.bool (ltB s u)) := by simp [binO, binv, strOp]
@[simp] theorem bs_leq : binO P .leq t cx cy (.str s) (.str u) = some (.bool (ltB s u || decide (s = u))) := by simp [binO, binv, strOp, beqS]
@[simp] theorem bs_gtr : binO P .gtr t cx cy (.str s) (.str u) = some (.bool (!(ltB s u || decide (s = u)))) := by simp [binO, binv, strOp, beqS]
@[simp] theorem bs_geq : binO P .geq t cx cy (.str s) (.str u) = some (.bool (!ltB s u)) := by simp [binO, binv, strOp]
@[simp] theorem ba_eql {x y : List AV} : binO P .eql t cx cy (.agg x) (.agg y) = (eqAggA P t x y).map .bool := by simp [binO, binv, eqv]
@[simp] theorem ba_neq {x y : List AV} : binO P .neq t cx cy (.agg x) (.agg y) = (eqAggA P t x y).map fun b => .bool (!b) := by simp [binO, binv, eqv]
@[simp] theorem un_not {b : Bool} : unv .not (.bool b) = some (.bool (!b)) := rfl
@[simp] theorem un_neg : unv .neg (.int k a) = some (.int k (k.wrap (0 - a))) := rfl
@[simp] theorem un_xor : unv .xor (.int k a) = some (.int k (wXor k (if k.signed then -1 else k.max) a)) := rfl
@[simp] theorem ef_bool {x y : Bool} (h : P.underlying t = some .bool) : eqFieldA P t (.bool x) (.bool y) = some (decide (x = y)) := by simp only [eqFieldA, h]; cases x <;> cases y <;> rfl
@[simp] theorem ef_int {k' : IntKind} (h : P.underlying t = some (.int k')) : eqFieldA P t (.int k a) (.int k b) = some (decide (a = b)) := by simp only [eqFieldA, h, if_true]; rfl
@[simp] theorem ef_str (h : P.underlying t = some .string) : eqFieldA P t (.str s) (.str u) = some (decide (s = u)) := by simp only [eqFieldA, h, beqS]
end

/-! ### Names and rows: a plain value has none -/
@[simp] theorem rv_list {sz es} : (AV.list sz es).rv hp = .list sz es := rfl
@[simp] theorem rv_int {k n} : (AV.int k n).rv hp = .int k n := rfl
@[simp] theorem rv_str {s} : (AV.str s).rv hp = .str s := rfl
@[simp] theorem rv_bool {b} : (AV.bool b).rv hp = .bool b := rfl
@[simp] theorem rv_nils : AV.nils.rv hp = .nils := rfl
@[simp] theorem rv_nilp : AV.nilp.rv hp = .nilp := rfl
@[simp] theorem rv_nilf : AV.nilf.rv hp = .nilf := rfl
@[simp] theorem rv_nilm : AV.nilm.rv hp = .nilm := rfl
@[simp] theorem rv_nili : AV.nili.rv hp = .nili := rfl
@[simp] theorem rv_undef : AV.undef.rv hp = .undef := rfl
@[simp] theorem rv_ptr {i j o} : (AV.ptr i j o).rv hp = .ptr i j o := rfl
@[simp] theorem rv_yld {i} : (AV.yld i).rv hp = .yld i := rfl
@[simp] theorem rv_mp {i} : (AV.mp i).rv hp = .mp i := rfl
@[simp] theorem rv_win {i o l s} : (AV.win i o l s).rv hp = .win i o l s := rfl
@[simp] theorem rv_cm {i} : (AV.cm i).rv hp = .cm i := rfl
@[simp] theorem rv_ep {v o} : (AV.ep v o).rv hp = .ep v o := rfl
@[simp] theorem rv_agg {cs} : (AV.agg cs).rv hp = .agg (AV.rvL hp cs) := rfl
@[simp] theorem rv_tup {cs} : (AV.tup cs).rv hp = .tup (AV.rvL hp cs) := rfl
@[simp] theorem rv_iface {t v} : (AV.iface t v).rv hp = .iface t (v.rv hp) := rfl
@[simp] theorem rv_fn {g a b} : (AV.fn g a b).rv hp = .fn g (AV.rvL hp a) (AV.rvL hp b) := rfl
@[simp] theorem rv_own {id} : (AV.own id).rv hp = (match aget hp id with | some (.row sz es _ _) => if sz = 0 then .undef else .list sz es | _ => .undef) := rfl
@[simp] theorem rv_row {id o l} : (AV.row id o l).rv hp = (match aget hp id with | some (.row sz es _ _) => if sz ≠ 0 ∧ o + l ≤ es.length then .list sz ((es.drop o).take l) else .undef | _ => .undef) := rfl
@[simp] theorem rvL_nil : AV.rvL hp [] = [] := rfl
@[simp] theorem rvL_cons {v l} : AV.rvL hp (v :: l) = v.rv hp :: AV.rvL hp l := rfl
@[simp] theorem rows_list {sz es} : (AV.list sz es).rows = [] := rfl
@[simp] theorem rows_int {k n} : (AV.int k n).rows = [] := rfl
@[simp] theorem rows_str {s} : (AV.str s).rows = [] := rfl
@[simp] theorem rows_bool {b} : (AV.bool b).rows = [] := rfl
@[simp] theorem rows_nils : AV.nils.rows = [] := rfl
@[simp] theorem rows_nilp : AV.nilp.rows = [] := rfl
@[simp] theorem rows_nilf : AV.nilf.rows = [] := rfl
@[simp] theorem rows_nilm : AV.nilm.rows = [] := rfl
@[simp] theorem rows_nili : AV.nili.rows = [] := rfl
@[simp] theorem rows_undef : AV.undef.rows = [] := rfl
@[simp] theorem rows_ptr {i j o} : (AV.ptr i j o).rows = [] := rfl
@[simp] theorem rows_yld {i} : (AV.yld i).rows = [] := rfl
@[simp] theorem rows_mp {i} : (AV.mp i).rows = [] := rfl
@[simp] theorem rows_win {i o l s} : (AV.win i o l s).rows = [] := rfl
@[simp] theorem rows_cm {i} : (AV.cm i).rows = [] := rfl
@[simp] theorem rows_ep {v o} : (AV.ep v o).rows = [] := rfl
@[simp] theorem rows_own {i} : (AV.own i).rows = [i] := rfl
@[simp] theorem rows_row {i o l} : (AV.row i o l).rows = [i] := rfl
@[simp] theorem rows_agg {cs} : (AV.agg cs).rows = AV.rowsL cs := rfl
@[simp] theorem rows_tup {cs} : (AV.tup cs).rows = AV.rowsL cs := rfl
@[simp] theorem rows_iface {t v} : (AV.iface t v).rows = v.rows := rfl
@[simp] theorem rows_fn {g a b} : (AV.fn g a b).rows = AV.rowsL a ++ AV.rowsL b := rfl
@[simp] theorem rowsL_nil : AV.rowsL [] = [] := rfl
@[simp] theorem rowsL_cons {v l} : AV.rowsL (v :: l) = v.rows ++ AV.rowsL l := rfl
@[simp] theorem names_list {sz es} : (AV.list sz es).names = [] := rfl
@[simp] theorem names_int {k n} : (AV.int k n).names = [] := rfl
@[simp] theorem names_str {s} : (AV.str s).names = [] := rfl
@[simp] theorem names_bool {b} : (AV.bool b).names = [] := rfl
@[simp] theorem names_nils : AV.nils.names = [] := rfl
@[simp] theorem names_nilp : AV.nilp.names = [] := rfl
@[simp] theorem names_nilf : AV.nilf.names = [] := rfl
@[simp] theorem names_nilm : AV.nilm.names = [] := rfl
@[simp] theorem names_nili : AV.nili.names = [] := rfl
@[simp] theorem names_undef : AV.undef.names = [] := rfl
@[simp] theorem names_ptr {i j o} : (AV.ptr i j o).names = [i] := rfl
@[simp] theorem names_yld {i} : (AV.yld i).names = [i] := rfl
@[simp] theorem names_mp {i} : (AV.mp i).names = [i] := rfl
@[simp] theorem names_win {i o l s} : (AV.win i o l s).names = [i] := rfl
@[simp] theorem names_cm {i} : (AV.cm i).names = [] := rfl
@[simp] theorem names_ep {v o} : (AV.ep v o).names = [] := rfl
@[simp] theorem names_own {i} : (AV.own i).names = [i] := rfl
@[simp] theorem names_row {i o l} : (AV.row i o l).names = [i] := rfl
@[simp] theorem names_agg {cs} : (AV.agg cs).names = AV.namesL cs := rfl
@[simp] theorem names_tup {cs} : (AV.tup cs).names = AV.namesL cs := rfl
@[simp] theorem names_iface {t v} : (AV.iface t v).names = v.names := rfl
@[simp] theorem names_fn {g a b} : (AV.fn g a b).names = AV.namesL a ++ AV.namesL b := rfl
@[simp] theorem namesL_nil : AV.namesL [] = [] := rfl
@[simp] theorem namesL_cons {v l} : AV.namesL (v :: l) = v.names ++ AV.namesL l := rfl
@[simp] theorem ren_list {m sz es} : (AV.list sz es).ren m = .list sz es := rfl
@[simp] theorem ren_int {m k n} : (AV.int k n).ren m = .int k n := rfl
@[simp] theorem ren_str {m s} : (AV.str s).ren m = .str s := rfl
@[simp] theorem ren_bool {m b} : (AV.bool b).ren m = .bool b := rfl
@[simp] theorem ren_nils {m} : AV.nils.ren m = .nils := rfl
@[simp] theorem ren_nilp {m} : AV.nilp.ren m = .nilp := rfl
@[simp] theorem ren_nilf {m} : AV.nilf.ren m = .nilf := rfl
@[simp] theorem ren_nilm {m} : AV.nilm.ren m = .nilm := rfl
@[simp] theorem ren_nili {m} : AV.nili.ren m = .nili := rfl
@[simp] theorem ren_undef {m} : AV.undef.ren m = .undef := rfl
@[simp] theorem ren_ep {m v o} : (AV.ep v o).ren m = .ep v o := rfl
@[simp] theorem ren_agg {m cs} : (AV.agg cs).ren m = .agg (AV.renL m cs) := rfl
@[simp] theorem ren_tup {m cs} : (AV.tup cs).ren m = .tup (AV.renL m cs) := rfl
@[simp] theorem ren_iface {m t v} : (AV.iface t v).ren m = .iface t (v.ren m) := rfl
@[simp] theorem ren_fn {m g a b} : (AV.fn g a b).ren m = .fn g (AV.renL m a) (AV.renL m b) := rfl
@[simp] theorem ren_own {m i} : (AV.own i).ren m = (match aget m i with | some k => .own k | none => .undef) := rfl
@[simp] theorem ren_row {m i o l} : (AV.row i o l).ren m = (match aget m i with | some k => .row k o l | none => .undef) := rfl
@[simp] theorem ren_ptr {m i j o} : (AV.ptr i j o).ren m = (match aget m i with | some k => .ptr k j o | none => .undef) := rfl
@[simp] theorem ren_yld {m i} : (AV.yld i).ren m = (match aget m i with | some k => .yld k | none => .undef) := rfl
@[simp] theorem ren_mp {m i} : (AV.mp i).ren m = (match aget m i with | some k => .mp k | none => .undef) := rfl
@[simp] theorem ren_win {m i o l s} : (AV.win i o l s).ren m = (match aget m i with | some k => .win k o l s | none => .undef) := rfl
@[simp] theorem ren_cm {m i} : (AV.cm i).ren m = .cm i := rfl
@[simp] theorem renL_nil {m} : AV.renL m [] = [] := rfl
@[simp] theorem renL_cons {m v l} : AV.renL m (v :: l) = v.ren m :: AV.renL m l := rfl
@[simp] theorem cells_agg {cs} : (AV.agg cs).cells = cs := rfl
@[simp] theorem cells_int {k n} : (AV.int k n).cells = [.int k n] := rfl
@[simp] theorem cells_str {s} : (AV.str s).cells = [.str s] := rfl
@[simp] theorem cells_bool {b} : (AV.bool b).cells = [.bool b] := rfl
@[simp] theorem cells_list {z es} : (AV.list z es).cells = [.list z es] := rfl
@[simp] theorem cells_nils : AV.nils.cells = [.nils] := rfl
@[simp] theorem cells_own {i} : (AV.own i).cells = [.own i] := rfl
@[simp] theorem cells_ptr {i j o} : (AV.ptr i j o).cells = [.ptr i j o] := rfl
@[simp] theorem cells_nilp : AV.nilp.cells = [.nilp] := rfl
@[simp] theorem cells_fn {g a b} : (AV.fn g a b).cells = [.fn g a b] := rfl

theorem nameless_ren {m : List (Nat × Nat)} : ∀ {v : AV}, v.names = [] → v.ren m = v
  | .agg cs, h => by simp only [ren_agg, nameless_renL (l := cs) h]
  | .tup cs, h => by simp only [ren_tup, nameless_renL (l := cs) h]
  | .iface t v, h => by simp only [ren_iface, nameless_ren (v := v) h]
  | .fn g a b, h => by
    simp only [names_fn, List.append_eq_nil_iff] at h
    simp only [ren_fn, nameless_renL h.1, nameless_renL h.2]
  | .undef, _ => rfl | .bool _, _ => rfl | .int _ _, _ => rfl | .str _, _ => rfl | .nilp, _ => rfl | .nils, _ => rfl | .nilf, _ => rfl | .nilm, _ => rfl | .nili, _ => rfl | .list _ _, _ => rfl | .ep _ _, _ => rfl
  | .own i, h => by cases h
  | .row i _ _, h => by cases h
  | .ptr i _ _, h => by cases h
  | .yld i, h => by cases h
  | .mp i, h => by cases h
  | .win i _ _ _, h => by cases h
  | .cm _, _ => rfl
where nameless_renL : ∀ {l : List AV}, AV.namesL l = [] → AV.renL m l = l
  | [], _ => rfl
  | v :: l, h => by
    simp only [namesL_cons, List.append_eq_nil_iff] at h
    simp only [renL_cons, nameless_ren h.1, nameless_renL h.2]
theorem namesL_of : ∀ {l : List AV}, AV.namesL l = [] → ∀ v ∈ l, v.names = []
  | [], _, v, hv => by simp at hv
  | x :: l, h, v, hv => by
    simp only [namesL_cons, List.append_eq_nil_iff] at h
    rcases List.mem_cons.1 hv with rfl | hv
    · exact h.1
    · exact namesL_of h.2 v hv
theorem nameless_rows : ∀ {v : AV}, v.names = [] → v.rows = []
  | .agg cs, h => nameless_rowsL (l := cs) h
  | .tup cs, h => nameless_rowsL (l := cs) h
  | .iface t v, h => nameless_rows (v := v) h
  | .fn g a b, h => by
    simp only [names_fn, List.append_eq_nil_iff] at h
    simp only [rows_fn, nameless_rowsL h.1, nameless_rowsL h.2]; rfl
  | .undef, _ => rfl | .bool _, _ => rfl | .int _ _, _ => rfl | .str _, _ => rfl | .nilp, _ => rfl | .nils, _ => rfl | .nilf, _ => rfl | .nilm, _ => rfl | .nili, _ => rfl | .list _ _, _ => rfl | .ep _ _, _ => rfl
  | .own i, h => by cases h
  | .row i _ _, h => by cases h
  | .ptr i _ _, h => by cases h
  | .yld i, h => by cases h
  | .mp i, h => by cases h
  | .win i _ _ _, h => by cases h
  | .cm _, _ => rfl
where nameless_rowsL : ∀ {l : List AV}, AV.namesL l = [] → AV.rowsL l = []
  | [], _ => rfl
  | v :: l, h => by
    simp only [namesL_cons, List.append_eq_nil_iff] at h
    simp only [rowsL_cons, nameless_rows h.1, nameless_rowsL h.2]; rfl
theorem nameless_rv : ∀ {v : AV}, v.names = [] → v.rv hp = v
  | .agg cs, h => by simp only [rv_agg, nameless_rvL (l := cs) h]
  | .tup cs, h => by simp only [rv_tup, nameless_rvL (l := cs) h]
  | .iface t v, h => by simp only [rv_iface, nameless_rv (v := v) h]
  | .fn g a b, h => by
    simp only [names_fn, List.append_eq_nil_iff] at h
    simp only [rv_fn, nameless_rvL h.1, nameless_rvL h.2]
  | .undef, _ => rfl | .bool _, _ => rfl | .int _ _, _ => rfl | .str _, _ => rfl | .nilp, _ => rfl | .nils, _ => rfl | .nilf, _ => rfl | .nilm, _ => rfl | .nili, _ => rfl | .list _ _, _ => rfl | .ep _ _, _ => rfl
  | .own i, h => by cases h
  | .row i _ _, h => by cases h
  | .ptr i _ _, h => by cases h
  | .yld i, h => by cases h
  | .mp i, h => by cases h
  | .win i _ _ _, h => by cases h
  | .cm _, _ => rfl
where nameless_rvL : ∀ {l : List AV}, AV.namesL l = [] → AV.rvL hp l = l
  | [], _ => rfl
  | v :: l, h => by
    simp only [namesL_cons, List.append_eq_nil_iff] at h
    simp only [rvL_cons, nameless_rv h.1, nameless_rvL h.2]

/-! ### Calls of plain values -/
theorem prepL_pure {g : FuncId} : ∀ {l : List AV} {j : Nat}, AV.namesL l = [] → prepL G g hp l j = l
  | [], _, _ => rfl
  | v :: l, j, h => by
    simp only [namesL_cons, List.append_eq_nil_iff] at h
    simp only [prepL, nameless_rv h.1, prepL_pure h.2]
    split <;> rfl
theorem prepRows_pure {g : FuncId} : ∀ {l : List AV} {j : Nat}, AV.namesL l = [] → prepRows G g l j = []
  | [], _, _ => rfl
  | v :: l, j, h => by
    simp only [namesL_cons, List.append_eq_nil_iff] at h
    simp only [prepRows, nameless_rows h.1, prepRows_pure h.2]
    split <;> rfl

/-- A call that is told by its answer alone. -/
def pureR (st : ASt) : ARes → AR
  | .ret v => .val v st
  | .pan v => .pan v st
@[simp] theorem pureR_r {v} : pureR st (.ret v) = .val v st := rfl
@[simp] theorem pureR_p {v} : pureR st (.pan v) = .pan v st := rfl
def ARes.val : ARes → AV
  | .ret v => v
  | .pan v => v

theorem callV_pure {d : Option Nat} {g : FuncId} {first caps args all : List AV} {res : ARes} (hE : G.E g = true) (hg : g < RB) (hx : G.ext g = none) (ha : first ++ args ++ caps = all) (hn : AV.namesL all = []) (hc : call g all [] = some (res, [])) (hv : res.val.names = []) :
    callV G call d (.fn (.func g) first caps) args st = some (pureR st res) := by
  unfold callV extA
  simp only [hx, Option.bind_none]
  unfold callA callB
  simp only [ha, prepL_pure hn, prepRows_pure hn, hn]
  have h1 : st.fix [] = st := rfl
  rw [h1]
  have h2 : reachL 40 st.hp [] [] = [] := rfl
  rw [h2]
  have h3 : toMap [] = [] := rfl
  rw [h3, nameless_ren.nameless_renL hn]
  have h4 : subHeap [] st.hp = [] := rfl
  rw [h4, hc]
  simp only [hE, hg, decide_true, Bool.and_self, List.all_nil, if_true, Option.bind_some, Option.map_map]
  have h5 : afterCall d [] st [] = some st := rfl
  rw [h5]
  cases res with
  | ret v =>
    have : v.ren [] = v := nameless_ren hv
    simp [answered, backMap, pureR, this]
  | pan v =>
    have : v.ren [] = v := nameless_ren hv
    simp [answered, backMap, pureR, this]

theorem callV_ret {d : Option Nat} {g : FuncId} {first caps args all : List AV} {v : AV} (hE : G.E g = true) (hg : g < RB) (hx : G.ext g = none) (ha : first ++ args ++ caps = all) (hn : AV.namesL all = []) (hc : call g all [] = some (.ret v, [])) (hv : v.names = []) :
    callV G call d (.fn (.func g) first caps) args st = some (.val v st) := callV_pure (res := .ret v) hE hg hx ha hn hc hv
theorem callV_pan {d : Option Nat} {g : FuncId} {first caps args all : List AV} {v : AV} (hE : G.E g = true) (hg : g < RB) (hx : G.ext g = none) (ha : first ++ args ++ caps = all) (hn : AV.namesL all = []) (hc : call g all [] = some (.pan v, [])) (hv : v.names = []) :
    callV G call d (.fn (.func g) first caps) args st = some (.pan v st) := callV_pure (res := .pan v) hE hg hx ha hn hc hv

theorem callV_ext {d : Option Nat} {g : FuncId} {first caps args : List AV} {p : List AV → Option AV} {v : AV} (hx : G.ext g = some p) (h : p (first ++ args ++ caps) = some v) : callV G call d (.fn (.func g) first caps) args st = some (.val v st) := by
  unfold callV extA
  simp only [hx, h, Option.bind_some]

/-! ### Bodies -/
/-- What a body's end is told as. -/
def endX (G : Cfg) (g : FuncId) (m : List Nat) (res : List ResultVar) : Option (AX × ASt) → Option (ARes × Heap)
  | some (.normal, s) => (resL G s res).map fun vs => retA (finishA G g m (resOf vs) s)
  | some (.ret, s) => (resL G s res).map fun vs => retA (finishA G g m (resOf vs) s)
  | some (.pan v, s) => some (panA (outOf m (hfix v.rows s.hp) (v.rv s.hp)))
  | _ => none
theorem runFn_body {g : FuncId} {fn : Func} {c : Code} {args : List AV} (hd : G.dfr g = false) (hf : G.P.funcs[g]? = some fn) (hb : fn.body = some c) :
    runFn G call loop g args hp = endX G g (hp.map (·.1)) fn.results.toList (codeX G call loop g c { sl := zipIx args 0, hp }) := by
  unfold runFn runBody
  simp only [hd, Bool.false_eq_true, if_false, hf, hb, Option.bind_some]
  cases codeX G call loop g c { sl := zipIx args 0, hp } with
  | none => rfl
  | some y => obtain ⟨x, s⟩ := y; cases x <;> rfl
@[simp] theorem resL_nil : resL G st [] = some [] := rfl
@[simp] theorem resL_tmp {t l} : resL G st (.tmp t :: l) = (resL G st l).map fun vs => st.slot t :: vs := by simp [resL, resv]
@[simp] theorem resOf_one {v} : resOf [v] = v := rfl
@[simp] theorem resOf_nil : resOf [] = .tup [] := rfl
@[simp] theorem resOf_two {v w l} : resOf (v :: w :: l) = .tup (v :: w :: l) := rfl

/-- A body without memory: its end. -/
theorem end_pure {g : FuncId} {res : List ResultVar} {x : AX} {s : ASt} {vs : List AV} (hx : x = .normal ∨ x = .ret) (hr : resL G s res = some vs) (hn : AV.namesL vs = []) : endX G g [] res (some (x, s)) = some (.ret (resOf vs), []) := by
  have hv : (resOf vs).names = [] := by
    unfold resOf
    split
    · simpa using hn
    · exact hn
  have hf : finishA G g [] (resOf vs) s = (resOf vs, []) := by
    unfold finishA
    simp only [nameless_rows hv, nameless_rv hv]
    have ho : ∀ h : Heap, outOf [] h (resOf vs) = (resOf vs, []) := by
      intro h
      unfold outOf
      simp only [hv, List.append_nil]
      have : reachL 60 h [] [] = [] := rfl
      rw [this, nameless_ren hv]; rfl
    split <;> exact ho _
  rcases hx with rfl | rfl <;> simp [endX, hr, hf, retA]
theorem end_pan {g : FuncId} {res : List ResultVar} {s : ASt} {v : AV} (hn : v.names = []) : endX G g [] res (some (.pan v, s)) = some (.pan v, []) := by
  unfold endX
  simp only [nameless_rows hn, nameless_rv hn]
  unfold outOf
  simp only [hn, List.append_nil]
  have : reachL 60 (hfix [] s.hp) [] [] = [] := rfl
  rw [this, nameless_ren hn]; rfl
end
end Go.Proofs.YteibklnligmanaaDoor.Abs


/- What is unfolded, when code is gone through. -/
namespace Go.Proofs.YteibklnligmanaaDoor.Abs
open Go Go.RowKit
set_option linter.unusedSimpArgs false
set_option linter.unusedVariables false
attribute [simp] boxX allocX newObj okCells storeA fieldAddrV fieldOff loadV partT partA objCells putA reCell hput hmod buildA fillA resv zipIx AObj.fix hfix ASt.fix fieldV
  assertV panicX mkIface buildSliceX AV.pureL elemOf? zeroFits makeSliceX capv rowAt slicev sliceW winA winX arrT snapA copyA bound? sliceX cutA convertX convv isStringT
attribute [simp] Go.undef
@[simp] theorem src_list {hp k sz es} : srcEls hp k (.list sz es) = if sz = k then some es else if sz = 0 ∧ es = [] then some [] else none := rfl
@[simp] theorem src_nils {hp k} : srcEls hp k .nils = some [] := rfl
@[simp] theorem src_str {hp k s} : srcEls hp k (.str s) = if 1 = k then some (s.map fun b => .int .u8 b.toNat) else none := rfl
@[simp] theorem src_own {hp k id} : srcEls hp k (.own id) = (aget hp id).bind fun | .row sz es _ _ => if sz = k then some es else none | _ => none := rfl
@[simp] theorem src_row {hp k id o l} : srcEls hp k (.row id o l) = (aget hp id).bind fun | .row sz es _ _ => if sz = k ∧ o + l ≤ es.length then some ((es.drop o).take l) else none | _ => none := rfl
def lenD (hp : Heap) (d : Option TypeDesc) (x : AV) : Option AV :=
  match d, x with
  | some (.map _ _), x => (mapObj hp x).map fun es => .int .i64 es.1.length
  | some .string, .str s => some (.int .i64 s.length)
  | some (.array n _), _ => some (.int .i64 n)
  | some (.slice _), .list _ es => some (.int .i64 es.length)
  | some (.slice _), .nils => some (.int .i64 0)
  | some (.slice _), .own id => (rowAt hp id).map fun r => .int .i64 r.2.length
  | some (.slice _), .row _ _ l => some (.int .i64 l)
  | _, _ => none
@[simp] theorem lenv_D {P hp t x} : lenv P hp t x = lenD hp (P.underlying t) x := rfl
@[simp] theorem lenD_str {hp s} : lenD hp (some .string) (.str s) = some (.int .i64 s.length) := rfl
@[simp] theorem lenD_arr {hp n e x} : lenD hp (some (.array n e)) x = some (.int .i64 n) := rfl
@[simp] theorem lenD_list {hp e z es} : lenD hp (some (.slice e)) (.list z es) = some (.int .i64 es.length) := rfl
@[simp] theorem lenD_nils {hp e} : lenD hp (some (.slice e)) .nils = some (.int .i64 0) := rfl
@[simp] theorem lenD_own {hp e id} : lenD hp (some (.slice e)) (.own id) = (rowAt hp id).map fun r => .int .i64 r.2.length := rfl
@[simp] theorem lenD_row {hp e id o l} : lenD hp (some (.slice e)) (.row id o l) = some (.int .i64 l) := rfl
def indexD (P : Program) (hp : Heap) (d : Option TypeDesc) (x : AV) (n : Int) : Option AV :=
  match d, x with
     | some (.slice e), .list sz es => if sz = P.cellsOf e ∧ 0 < sz ∧ 0 ≤ n then (es[n.toNat]?).map fun e => .ep e 0 else none
     | some (.slice e), .own id => (rowAt hp id).bind fun r => if r.1 = P.cellsOf e ∧ 0 < r.1 ∧ 0 ≤ n ∧ n < r.2.length then some (.ptr id n.toNat 0) else none
     | some (.slice e), .row id o l => (rowAt hp id).bind fun r => if r.1 = P.cellsOf e ∧ 0 < r.1 ∧ 0 ≤ n ∧ n < l ∧ o + l ≤ r.2.length then some (.ptr id (o + n.toNat) 0) else none
     | some (.array m e), .ptr id j o => if 0 ≤ n ∧ n < m ∧ 0 < P.cellsOf e then some (.ptr id j (o + n.toNat * P.cellsOf e)) else none
     | some (.array m e), .ep v o => if 0 ≤ n ∧ n < m ∧ 0 < P.cellsOf e ∧ o + n.toNat * P.cellsOf e < v.cells.length then some (.ep v (o + n.toNat * P.cellsOf e)) else none
     | _, _ => none
@[simp] theorem indexA_D {P hp t x k n} : indexA P hp t x (.int k n) = indexD P hp (P.underlying t) x n := by
  unfold indexA indexD
  cases P.underlying t with
  | none => rfl
  | some d => cases d <;> cases x <;> rfl
@[simp] theorem indexD_list {P hp e sz es n} : indexD P hp (some (.slice e)) (.list sz es) n = if sz = P.cellsOf e ∧ 0 < sz ∧ 0 ≤ n then (es[n.toNat]?).map fun e => .ep e 0 else none := rfl
@[simp] theorem indexD_own {P hp e id n} : indexD P hp (some (.slice e)) (.own id) n = (rowAt hp id).bind fun r => if r.1 = P.cellsOf e ∧ 0 < r.1 ∧ 0 ≤ n ∧ n < r.2.length then some (.ptr id n.toNat 0) else none := rfl
@[simp] theorem indexD_row {P hp e id o l n} : indexD P hp (some (.slice e)) (.row id o l) n = (rowAt hp id).bind fun r => if r.1 = P.cellsOf e ∧ 0 < r.1 ∧ 0 ≤ n ∧ n < l ∧ o + l ≤ r.2.length then some (.ptr id (o + n.toNat) 0) else none := rfl
@[simp] theorem indexD_ptr {P hp m e id j o n} : indexD P hp (some (.array m e)) (.ptr id j o) n = if 0 ≤ n ∧ n < m ∧ 0 < P.cellsOf e then some (.ptr id j (o + n.toNat * P.cellsOf e)) else none := rfl
@[simp] theorem indexD_ep {P hp m e v o n} : indexD P hp (some (.array m e)) (.ep v o) n = if 0 ≤ n ∧ n < m ∧ 0 < P.cellsOf e ∧ o + n.toNat * P.cellsOf e < v.cells.length then some (.ep v (o + n.toNat * P.cellsOf e)) else none := rfl
@[simp] theorem okc_undef  : okCell AV.undef = false := rfl
@[simp] theorem kno_undef  : AV.known AV.undef = false := rfl
@[simp] theorem isA_undef  : AV.isA AV.undef = false := rfl
@[simp] theorem pur_undef  : AV.pureB AV.undef = false := by simp [AV.pureB]
@[simp] theorem okc_bool {b} : okCell (.bool b) = true := rfl
@[simp] theorem kno_bool {b} : AV.known (.bool b) = true := rfl
@[simp] theorem isA_bool {b} : AV.isA (.bool b) = false := rfl
@[simp] theorem pur_bool {b} : AV.pureB (.bool b) = true := by simp [AV.pureB]
@[simp] theorem okc_int {k n} : okCell (.int k n) = true := rfl
@[simp] theorem kno_int {k n} : AV.known (.int k n) = true := rfl
@[simp] theorem isA_int {k n} : AV.isA (.int k n) = false := rfl
@[simp] theorem pur_int {k n} : AV.pureB (.int k n) = true := by simp [AV.pureB]
@[simp] theorem okc_str {s} : okCell (.str s) = true := rfl
@[simp] theorem kno_str {s} : AV.known (.str s) = true := rfl
@[simp] theorem isA_str {s} : AV.isA (.str s) = false := rfl
@[simp] theorem pur_str {s} : AV.pureB (.str s) = true := by simp [AV.pureB]
@[simp] theorem okc_nilp  : okCell AV.nilp = true := rfl
@[simp] theorem kno_nilp  : AV.known AV.nilp = true := rfl
@[simp] theorem isA_nilp  : AV.isA AV.nilp = false := rfl
@[simp] theorem pur_nilp  : AV.pureB AV.nilp = true := by simp [AV.pureB]
@[simp] theorem okc_nils  : okCell AV.nils = true := rfl
@[simp] theorem kno_nils  : AV.known AV.nils = true := rfl
@[simp] theorem isA_nils  : AV.isA AV.nils = false := rfl
@[simp] theorem pur_nils  : AV.pureB AV.nils = true := by simp [AV.pureB]
@[simp] theorem okc_nilf  : okCell AV.nilf = true := rfl
@[simp] theorem okc_nilm  : okCell AV.nilm = true := rfl
@[simp] theorem kno_nilf  : AV.known AV.nilf = true := rfl
@[simp] theorem kno_nilm  : AV.known AV.nilm = true := rfl
@[simp] theorem isA_nilf  : AV.isA AV.nilf = false := rfl
@[simp] theorem isA_nilm  : AV.isA AV.nilm = false := rfl
@[simp] theorem pur_nilf  : AV.pureB AV.nilf = true := by simp [AV.pureB]
@[simp] theorem pur_nilm  : AV.pureB AV.nilm = true := by simp [AV.pureB]
@[simp] theorem okc_nili  : okCell AV.nili = true := rfl
@[simp] theorem kno_nili  : AV.known AV.nili = true := rfl
@[simp] theorem isA_nili  : AV.isA AV.nili = false := rfl
@[simp] theorem pur_nili  : AV.pureB AV.nili = true := by simp [AV.pureB]
@[simp] theorem okc_list {z l} : okCell (.list z l) = true := rfl
@[simp] theorem kno_list {z l} : AV.known (.list z l) = true := rfl
@[simp] theorem isA_list {z l} : AV.isA (.list z l) = false := rfl
@[simp] theorem pur_list {z l} : AV.pureB (.list z l) = true := by simp [AV.pureB]
@[simp] theorem okc_ep {v o} : okCell (.ep v o) = true := rfl
@[simp] theorem kno_ep {v o} : AV.known (.ep v o) = true := rfl
@[simp] theorem isA_ep {v o} : AV.isA (.ep v o) = false := rfl
@[simp] theorem pur_ep {v o} : AV.pureB (.ep v o) = true := by simp [AV.pureB]
@[simp] theorem okc_own {i} : okCell (.own i) = true := rfl
@[simp] theorem kno_own {i} : AV.known (.own i) = true := rfl
@[simp] theorem isA_own {i} : AV.isA (.own i) = false := rfl
@[simp] theorem pur_own {i} : AV.pureB (.own i) = false := by simp [AV.pureB]
@[simp] theorem okc_row {i o l} : okCell (.row i o l) = true := rfl
@[simp] theorem kno_row {i o l} : AV.known (.row i o l) = true := rfl
@[simp] theorem isA_row {i o l} : AV.isA (.row i o l) = false := rfl
@[simp] theorem pur_row {i o l} : AV.pureB (.row i o l) = false := by simp [AV.pureB]
@[simp] theorem okc_ptr {i o l} : okCell (.ptr i o l) = true := rfl
@[simp] theorem kno_ptr {i o l} : AV.known (.ptr i o l) = true := rfl
@[simp] theorem isA_ptr {i o l} : AV.isA (.ptr i o l) = false := rfl
@[simp] theorem pur_ptr {i o l} : AV.pureB (.ptr i o l) = false := by simp [AV.pureB]
@[simp] theorem okc_yld {i} : okCell (.yld i) = true := rfl
@[simp] theorem okc_mp {i} : okCell (.mp i) = true := rfl
@[simp] theorem okc_win {i o l s} : okCell (.win i o l s) = true := rfl
@[simp] theorem okc_cm {i} : okCell (.cm i) = true := rfl
@[simp] theorem kno_win {i o l s} : AV.known (.win i o l s) = true := rfl
@[simp] theorem kno_cm {i} : AV.known (.cm i) = true := rfl
@[simp] theorem isA_win {i o l s} : AV.isA (.win i o l s) = false := rfl
@[simp] theorem isA_cm {i} : AV.isA (.cm i) = false := rfl
@[simp] theorem pur_win {i o l s} : AV.pureB (.win i o l s) = false := by simp [AV.pureB]
@[simp] theorem pur_cm {i} : AV.pureB (.cm i) = true := by simp [AV.pureB]
@[simp] theorem kno_yld {i} : AV.known (.yld i) = true := rfl
@[simp] theorem kno_mp {i} : AV.known (.mp i) = true := rfl
@[simp] theorem isA_yld {i} : AV.isA (.yld i) = false := rfl
@[simp] theorem isA_mp {i} : AV.isA (.mp i) = false := rfl
@[simp] theorem pur_yld {i} : AV.pureB (.yld i) = false := by simp [AV.pureB]
@[simp] theorem pur_mp {i} : AV.pureB (.mp i) = false := by simp [AV.pureB]
@[simp] theorem okc_agg {l} : okCell (.agg l) = false := rfl
@[simp] theorem kno_agg {l} : AV.known (.agg l) = true := rfl
@[simp] theorem isA_agg {l} : AV.isA (.agg l) = true := rfl
@[simp] theorem pur_agg {l} : AV.pureB (.agg l) = AV.pureL l := by simp [AV.pureB]
@[simp] theorem okc_tup {l} : okCell (.tup l) = false := rfl
@[simp] theorem kno_tup {l} : AV.known (.tup l) = true := rfl
@[simp] theorem isA_tup {l} : AV.isA (.tup l) = false := rfl
@[simp] theorem pur_tup {l} : AV.pureB (.tup l) = AV.pureL l := by simp [AV.pureB]
@[simp] theorem okc_iface {t v} : okCell (.iface t v) = true := rfl
@[simp] theorem kno_iface {t v} : AV.known (.iface t v) = true := rfl
@[simp] theorem isA_iface {t v} : AV.isA (.iface t v) = false := rfl
@[simp] theorem pur_iface {t v} : AV.pureB (.iface t v) = AV.pureB v := by simp [AV.pureB]
@[simp] theorem okc_fn {g a b} : okCell (.fn g a b) = true := rfl
@[simp] theorem kno_fn {g a b} : AV.known (.fn g a b) = true := rfl
@[simp] theorem isA_fn {g a b} : AV.isA (.fn g a b) = false := rfl
@[simp] theorem pur_fn {g a b} : AV.pureB (.fn g a b) = (AV.pureL a && AV.pureL b) := by simp [AV.pureB]
@[simp] theorem mm_max {k : IntKind} {x y : Int} : minmax true (.int k x) (.int k y) = some (.int k (max x y)) := by
  simp only [minmax, if_true]
  congr 2
  by_cases h : x < y
  · rw [if_pos h]; omega
  · rw [if_neg h]; omega
@[simp] theorem mm_min {k : IntKind} {x y : Int} : minmax false (.int k x) (.int k y) = some (.int k (min x y)) := by
  simp only [minmax, if_true, Bool.false_eq_true, if_false]
  congr 2
  by_cases h : y < x
  · rw [if_pos h]; omega
  · rw [if_neg h]; omega
@[simp] theorem kill_int {n k m} : (AV.int k m).kill n = .int k m := rfl
@[simp] theorem kill_list {n k m} : (AV.list k m).kill n = .list k m := rfl
@[simp] theorem kill_str {n m} : (AV.str m).kill n = .str m := rfl
@[simp] theorem kill_bool {n m} : (AV.bool m).kill n = .bool m := rfl
@[simp] theorem kill_undef {n} : AV.undef.kill n = .undef := rfl
@[simp] theorem kill_nils {n} : AV.nils.kill n = .nils := rfl
@[simp] theorem kill_nilp {n} : AV.nilp.kill n = .nilp := rfl
@[simp] theorem kill_nilf {n} : AV.nilf.kill n = .nilf := rfl
@[simp] theorem kill_nilm {n} : AV.nilm.kill n = .nilm := rfl
@[simp] theorem kill_nili {n} : AV.nili.kill n = .nili := rfl
@[simp] theorem kill_ep {n v o} : (AV.ep v o).kill n = .ep v o := rfl
@[simp] theorem kill_own {n i} : (AV.own i).kill n = if i = n then .undef else .own i := rfl
@[simp] theorem kill_row_v {n i o l} : (AV.row i o l).kill n = if i = n then .undef else .row i o l := rfl
@[simp] theorem kill_ptr {n i o l} : (AV.ptr i o l).kill n = if i = n then .undef else .ptr i o l := rfl
@[simp] theorem kill_yld {n i} : (AV.yld i).kill n = if i = n then .undef else .yld i := rfl
@[simp] theorem kill_mp {n i} : (AV.mp i).kill n = if i = n then .undef else .mp i := rfl
@[simp] theorem kill_win {n i o l s} : (AV.win i o l s).kill n = if i = n then .undef else .win i o l s := rfl
@[simp] theorem kill_cm {n i} : (AV.cm i).kill n = .cm i := rfl
@[simp] theorem kill_agg {n cs} : (AV.agg cs).kill n = .agg (AV.killL n cs) := rfl
@[simp] theorem kill_tup {n cs} : (AV.tup cs).kill n = .tup (AV.killL n cs) := rfl
@[simp] theorem kill_iface {n t v} : (AV.iface t v).kill n = .iface t (v.kill n) := rfl
@[simp] theorem kill_fn {n g a b} : (AV.fn g a b).kill n = .fn g (AV.killL n a) (AV.killL n b) := rfl
@[simp] theorem killL_nil' {n} : AV.killL n [] = [] := rfl
@[simp] theorem killL_cons' {n v l} : AV.killL n (v :: l) = v.kill n :: AV.killL n l := rfl
@[simp] theorem okill_box {n t v} : (AObj.box t v).kill n = .box t (v.kill n) := rfl
@[simp] theorem okill_row {n sz es fx mv} : (AObj.row sz es fx mv).kill n = .row sz es fx mv := rfl
@[simp] theorem oren_box {m t v} : (AObj.box t v).ren m = .box t (v.ren m) := rfl
@[simp] theorem oren_row {m sz es fx mv} : (AObj.row sz es fx mv).ren m = .row sz es fx mv := rfl
@[simp] theorem onames_box {t v} : (AObj.box t v).names = v.names := rfl
@[simp] theorem onames_row {sz es fx mv} : (AObj.row sz es fx mv).names = [] := rfl
@[simp] theorem killn_mk {sl hp n} : ASt.killn ⟨sl, hp⟩ n = ⟨sl.map fun p => (p.1, p.2.kill n), hp.map fun p => (p.1, p.2.kill n)⟩ := rfl
/-- A loop's head, where there is no memory. -/
def canonK (G : Cfg) (K : Option Keep) (st : ASt) : Option ASt :=
  K.bind fun K =>
    (canonAll (fun p s => canonAll (fun (j : Nat × Nat × TypeId) s => canonCell p.1 j.1 j.2 s) p.2 s) K.boxes st).bind fun st1 =>
    (canonAll canonSlot K.slots st1).bind fun st2 =>
    (canonAll canonBox K.boxes st2).bind fun st3 =>
      let names := reachL 60 st3.hp ((List.range 12) ++ K.boxes.map (·.1) ++ AV.namesL (K.slots.map fun s => st3.slot s.1)) []
      some (restrictTo (K.slots.map (·.1)) (names.filter fun n => (aget st3.hp n).isSome) st3)
@[simp] theorem canon_eq {G : Cfg} {f : FuncId} {c : Code} {st : ASt} : canon G f c st = canonK G (G.keep f (firstRegion c)) st := rfl
@[simp] theorem fr_region {id ops d} : firstRegion (.region id ops d) = id := rfl
@[simp] theorem fr_seq {a b} : firstRegion (.seq a b) = firstRegion a := rfl
@[simp] theorem fr_block {i b} : firstRegion (.block i b) = firstRegion b := rfl
@[simp] theorem fr_loop {b} : firstRegion (.loop b) = firstRegion b := rfl

theorem reach_none {hp : Heap} (h : hp = []) : ∀ (k : Nat) (l acc : List Nat), (∀ n ∈ reachL k hp l acc, n ∈ acc ∨ n ∈ l) := by
  subst h
  intro k
  induction k with
  | zero => intro l acc n hn; exact .inl (by simpa [reachL] using hn)
  | succ k ih =>
    intro l acc n hn
    cases l with
    | nil => exact .inl (by simpa [reachL] using hn)
    | cons x r =>
      simp only [reachL] at hn
      split at hn
      · rcases ih _ _ _ hn with h | h
        · exact .inl h
        · exact .inr (List.mem_cons_of_mem _ h)
      · simp only [aget_nil, Option.map_none, Option.getD_none, List.append_nil] at hn
        rcases ih _ _ _ hn with h | h
        · rcases List.mem_append.1 h with h | h
          · exact .inl h
          · exact .inr (by simp at h; simp [h])
        · exact .inr (List.mem_cons_of_mem _ h)

theorem canonK_pure {G : Cfg} {slots : List (Nat × Option (Nat × TypeId))} {sl : Slots} (h1 : slots.all (fun s => s.2.isNone) = true) (h2 : AV.namesL (slots.map fun s => (aget sl s.1).getD .undef) = []) :
    ∃ sl', canonK G (some ⟨slots, []⟩) ⟨sl, []⟩ = some ⟨sl', []⟩ ∧ sl' = slots.map fun s => (s.1, (aget sl s.1).getD .undef) := by
  have key : ∀ (l : List (Nat × Option (Nat × TypeId))) (cur : Slots), l.all (fun s => s.2.isNone) = true → (∀ s ∈ l, ((aget cur s.1).getD .undef).names = []) →
      ∃ cur', canonAll canonSlot l ⟨cur, []⟩ = some ⟨cur', []⟩ ∧ ∀ n, (aget cur' n).getD .undef = (aget cur n).getD .undef := by
    intro l
    induction l with
    | nil => intro cur _ _; exact ⟨cur, rfl, fun _ => rfl⟩
    | cons s l ih =>
      intro cur ha hn
      simp only [List.all_cons, Bool.and_eq_true] at ha
      obtain ⟨t, z⟩ := s
      cases z with
      | some z => simp at ha
      | none =>
        have hv := hn (t, none) (by simp)
        simp only at hv
        have hstep : canonSlot (t, none) ⟨cur, []⟩ = some ⟨(t, (aget cur t).getD .undef) :: cur, []⟩ := by
          simp only [canonSlot, slot_mk, nameless_rv hv, nameless_rows hv]; rfl
        have hsame : ∀ n, (aget ((t, (aget cur t).getD .undef) :: cur) n).getD .undef = (aget cur n).getD .undef := by
          intro n
          rw [aget_cons']
          split
          · rename_i e; subst e; rfl
          · rfl
        obtain ⟨cur', h3, h4⟩ := ih ((t, (aget cur t).getD .undef) :: cur) ha.2 (fun s hs => by rw [hsame]; exact hn s (List.mem_cons_of_mem _ hs))
        refine ⟨cur', ?_, fun n => (h4 n).trans (hsame n)⟩
        simp only [canonAll, hstep, Option.bind_some]; exact h3
  obtain ⟨cur', h3, h4⟩ := key slots sl h1 (fun s hs => namesL_of h2 _ (List.mem_map.2 ⟨s, hs, rfl⟩))
  refine ⟨_, ?_, rfl⟩
  simp only [canonK, Option.bind_some, canonAll, h3]
  have hnames : ∀ l : List Nat, (l.filter fun n => (aget ([] : Heap) n).isSome) = [] := by
    intro l; simp
  simp only [hnames]
  congr 1
  unfold restrictTo
  congr 1
  rw [List.map_map]
  refine List.map_congr_left fun s hs => ?_
  simp only [Function.comp, slot_mk, h4, List.map_nil]
  have := namesL_of h2 _ (List.mem_map.2 ⟨s, hs, rfl⟩)
  rw [nameless_ren this]

theorem canonK_p {G : Cfg} {slots : List (Nat × Option (Nat × TypeId))} {sl : Slots} (h1 : slots.all (fun s => s.2.isNone) = true) (h2 : AV.namesL (slots.map fun s => (aget sl s.1).getD .undef) = []) :
    canonK G (some ⟨slots, []⟩) ⟨sl, []⟩ = some ⟨slots.map fun s => (s.1, (aget sl s.1).getD .undef), []⟩ := by
  obtain ⟨_, h, rfl⟩ := canonK_pure (G := G) h1 h2; exact h

/-! Comparisons of other kinds. -/
section
variable {P : Program} {t : TypeId} {cx cy : Bool}
@[simp] theorem bb_eql {a b : Bool} (h : P.underlying t = some .bool) : binO P .eql t cx cy (.bool a) (.bool b) = some (.bool (a == b)) := by simp [binO, binv, eqv, h]
@[simp] theorem bb_neq {a b : Bool} (h : P.underlying t = some .bool) : binO P .neq t cx cy (.bool a) (.bool b) = some (.bool (!(a == b))) := by simp [binO, binv, eqv, h]
@[simp] theorem bnp_eql {e} (h : P.underlying t = some (.pointer e)) : binO P .eql t cx cy .nilp .nilp = some (.bool true) := by simp [binO, binv, eqv, h]
@[simp] theorem bnp_neq {e} (h : P.underlying t = some (.pointer e)) : binO P .neq t cx cy .nilp .nilp = some (.bool false) := by simp [binO, binv, eqv, h]
@[simp] theorem bpn_eql {e i j o} (h : P.underlying t = some (.pointer e)) : binO P .eql t cx cy (.ptr i j o) .nilp = some (.bool false) := by simp [binO, binv, eqv, h]
@[simp] theorem bpn_neq {e i j o} (h : P.underlying t = some (.pointer e)) : binO P .neq t cx cy (.ptr i j o) .nilp = some (.bool true) := by simp [binO, binv, eqv, h]
@[simp] theorem bss_eql {e} (h : P.underlying t = some (.slice e)) : binO P .eql t cx cy .nils .nils = some (.bool true) := by simp [binO, binv, eqv, h]
@[simp] theorem bss_neq {e} (h : P.underlying t = some (.slice e)) : binO P .neq t cx cy .nils .nils = some (.bool false) := by simp [binO, binv, eqv, h]
@[simp] theorem bls_eql {e z es} (h : P.underlying t = some (.slice e)) (hz : z = 0 ∨ es ≠ []) : binO P .eql t cx cy (.list z es) .nils = some (.bool false) := by simp [binO, binv, eqv, h, hz]
@[simp] theorem bls_neq {e z es} (h : P.underlying t = some (.slice e)) (hz : z = 0 ∨ es ≠ []) : binO P .neq t cx cy (.list z es) .nils = some (.bool true) := by simp [binO, binv, eqv, h, hz]
end

/-! ### Regions that draw their order -/
section
variable {G : Cfg} {call : CallFn} {loop : LoopFn} {f : FuncId} {ops : Array Oper} {r : List PS} {st : ASt} {d : Option Nat} {t t' t'' : TypeId} {p : String} {af : Array Edge} {x y z : Operand} {g : Option (Nat × Bool)}
def drawX (G : Cfg) (call : CallFn) (ops : Array Oper) (p : Option (List PS)) (st : ASt) : Option (AX × ASt) := p.bind fun p => runPlan G call ops p st
@[simp] theorem cx_draw {id} : codeX G call loop f (.region id ops true) st = trimX (G.live f id) (drawX G call ops (G.plan f id) st) := rfl
/-- On with the plan. -/
def planX (G : Cfg) (call : CallFn) (ops : Array Oper) (p : List PS) (st : ASt) : Option (AX × ASt) := runPlan G call ops p st
@[simp] theorem drawX_s {p} : drawX G call ops (some p) st = planX G call ops p st := rfl
@[simp] theorem planX_nil : planX G call ops [] st = some (.normal, st) := rfl
def nvX (G : Cfg) (call : CallFn) (ops : Array Oper) (d : Option Nat) (r : List PS) (st : ASt) : Option AV → Option (AX × ASt)
  | some v => planX G call ops r (st.put d v)
  | none => none
@[simp] theorem nvX_s {v} : nvX G call ops d r st (some v) = planX G call ops r (st.put d v) := rfl
def nX (G : Cfg) (call : CallFn) (ops : Array Oper) (r : List PS) (st : ASt) : Option Oper → Option (AX × ASt)
  | some o => nvX G call ops o.dst r st (nval G ops st o)
  | none => none
/-- A step of a plan behind a guard, whose slot holds this. -/
def gN' (G : Cfg) (call : CallFn) (ops : Array Oper) (k : Nat) (w : Bool) (d : Option Nat) (op : Op) (r : List PS) (st : ASt) : AV → Option (AX × ASt)
  | .bool b => if b == w then nvX G call ops d r st (nopv G st op) else planX G call ops r (st.put d (.tup []))
  | .tup [] => planX G call ops r (st.put d (.tup []))
  | _ => none
@[simp] theorem gN_tt {k d op} : gN' G call ops k true d op r st (.bool true) = nvX G call ops d r st (nopv G st op) := rfl
@[simp] theorem gN_ff {k d op} : gN' G call ops k false d op r st (.bool false) = nvX G call ops d r st (nopv G st op) := rfl
@[simp] theorem gN_tf {k d op} : gN' G call ops k true d op r st (.bool false) = planX G call ops r (st.put d (.tup [])) := rfl
@[simp] theorem gN_ft {k d op} : gN' G call ops k false d op r st (.bool true) = planX G call ops r (st.put d (.tup [])) := rfl
@[simp] theorem gN_n {k w d op} : gN' G call ops k w d op r st (.tup []) = planX G call ops r (st.put d (.tup [])) := rfl
@[simp low] theorem gN_split {L} {sl : Slots} {hp : Heap} {k w d op} {b : Bool} (hk : aget sl k = some (.bool b)) : trimX L (gN' G call ops k w d op r ⟨sl, hp⟩ (.bool b)) =
    mergeX b (trimX L (gN' G call ops k w d op r ⟨aset sl k (.bool true), hp⟩ (.bool true))) (trimX L (gN' G call ops k w d op r ⟨aset sl k (.bool false), hp⟩ (.bool false))) := by
  cases b with
  | true => rw [aset_same hk]; rfl
  | false => rw [aset_same hk]; rfl
def gNK (G : Cfg) (call : CallFn) (ops : Array Oper) (w : Bool) (d : Option Nat) (op : Op) (r : List PS) (st : ASt) : Option Nat → Option (AX × ASt)
  | some k => gN' G call ops k w d op r st (st.slot k)
  | none => none
@[simp] theorem gNK_s {k w d op} : gNK G call ops w d op r st (some k) = gN' G call ops k w d op r st (st.slot k) := rfl
@[simp] theorem nX_u {op : Op} : nX G call ops r st (some ⟨d, op, t, p, af, none⟩) = nvX G call ops d r st (nopv G st op) := by
  simp only [nX, nval, guardA, Option.bind_some, if_true]
@[simp] theorem nX_g {op : Op} {j w} : nX G call ops r st (some ⟨d, op, t, p, af, some (j, w)⟩) = gNK G call ops w d op r st ((ops[j]?).bind (·.dst)) := by
  simp only [nX, nval, guardA]
  cases (ops[j]?).bind (·.dst) with
  | none => rfl
  | some k =>
    simp only [gNK]
    cases st.slot k with
    | bool b => cases b <;> cases w <;> rfl
    | tup l => cases l <;> rfl
    | _ => rfl
@[simp] theorem planX_n {i} : planX G call ops (.n i :: r) st = nX G call ops r st ops[i]? := by
  unfold planX
  simp only [runPlan, nX]
  cases ops[i]? with
  | none => rfl
  | some o =>
    simp only [Option.bind_some]
    cases nval G ops st o <;> rfl
def erX (G : Cfg) (call : CallFn) (ops : Array Oper) (d : Option Nat) (re : List Nat) (r : List PS) (c : Bool) : Option AR → Option (AX × ASt)
  | some (.pan v s) => if c = true then some (.pan v, ⟨[], s.hp⟩) else none
  | some (.val v s) => if re.all (again G ops (s.put d v)) = true then planX G call ops r (s.put d v) else none
  | _ => none
@[simp] theorem calledA_v {f args tys} : calledA (.call ⟨.value f, args, tys⟩) = some (f, args.toList) := rfl
@[simp] theorem erX_p {re v s} : erX G call ops d re r true (some (.pan v s)) = some (.pan v, ⟨[], s.hp⟩) := rfl
@[simp] theorem erX_s {re c v s} : erX G call ops d re r c (some (.val v s)) = if re.all (again G ops (s.put d v)) = true then planX G call ops r (s.put d v) else none := rfl
def eX (G : Cfg) (call : CallFn) (ops : Array Oper) (re : List Nat) (r : List PS) (st : ASt) : Option Oper → Option (AX × ASt)
  | some o => erX G call ops o.dst re r (calledA o.op).isSome (stepE G call ops st o)
  | none => none
def gE' (G : Cfg) (call : CallFn) (ops : Array Oper) (k : Nat) (w : Bool) (o : Oper) (re : List Nat) (r : List PS) (st : ASt) : AV → Option (AX × ASt)
  | .bool b => if b == w then erX G call ops o.dst re r (calledA o.op).isSome (aop G call o st) else erX G call ops o.dst re r (calledA o.op).isSome (skX (skipA st o.op) (some (.val (.tup []) st)))
  | .tup [] => erX G call ops o.dst re r (calledA o.op).isSome (skX (skipA st o.op) (some (.val (.tup []) st)))
  | _ => none
@[simp] theorem gE_tt {k o re} : gE' G call ops k true o re r st (.bool true) = erX G call ops o.dst re r (calledA o.op).isSome (aop G call o st) := rfl
@[simp] theorem gE_ff {k o re} : gE' G call ops k false o re r st (.bool false) = erX G call ops o.dst re r (calledA o.op).isSome (aop G call o st) := rfl
@[simp] theorem gE_tf {k o re} : gE' G call ops k true o re r st (.bool false) = erX G call ops o.dst re r (calledA o.op).isSome (skX (skipA st o.op) (some (.val (.tup []) st))) := rfl
@[simp] theorem gE_ft {k o re} : gE' G call ops k false o re r st (.bool true) = erX G call ops o.dst re r (calledA o.op).isSome (skX (skipA st o.op) (some (.val (.tup []) st))) := rfl
@[simp] theorem gE_n {k w o re} : gE' G call ops k w o re r st (.tup []) = erX G call ops o.dst re r (calledA o.op).isSome (skX (skipA st o.op) (some (.val (.tup []) st))) := rfl
@[simp low] theorem gE_split {L} {sl : Slots} {hp : Heap} {k w o re} {b : Bool} (hk : aget sl k = some (.bool b)) : trimX L (gE' G call ops k w o re r ⟨sl, hp⟩ (.bool b)) =
    mergeX b (trimX L (gE' G call ops k w o re r ⟨aset sl k (.bool true), hp⟩ (.bool true))) (trimX L (gE' G call ops k w o re r ⟨aset sl k (.bool false), hp⟩ (.bool false))) := by
  cases b with
  | true => rw [aset_same hk]; rfl
  | false => rw [aset_same hk]; rfl
def gEK (G : Cfg) (call : CallFn) (ops : Array Oper) (w : Bool) (o : Oper) (re : List Nat) (r : List PS) (st : ASt) : Option Nat → Option (AX × ASt)
  | some k => gE' G call ops k w o re r st (st.slot k)
  | none => none
@[simp] theorem gEK_s {k w o re} : gEK G call ops w o re r st (some k) = gE' G call ops k w o re r st (st.slot k) := rfl
@[simp] theorem eX_u {re} {op : Op} : eX G call ops re r st (some ⟨d, op, t, p, af, none⟩) = erX G call ops d re r (calledA op).isSome (aop G call ⟨d, op, t, p, af, none⟩ st) := by
  simp only [eX, stepE, guardA, Option.bind_some, if_true]
@[simp] theorem eX_g {re} {op : Op} {j w} : eX G call ops re r st (some ⟨d, op, t, p, af, some (j, w)⟩) = gEK G call ops w ⟨d, op, t, p, af, some (j, w)⟩ re r st ((ops[j]?).bind (·.dst)) := by
  simp only [eX, stepE, guardA, skX_if]
  cases (ops[j]?).bind (·.dst) with
  | none => rfl
  | some k =>
    simp only [gEK]
    cases st.slot k with
    | bool b => cases b <;> cases w <;> rfl
    | tup l => cases l <;> rfl
    | _ => rfl
@[simp] theorem planX_e {j re} : planX G call ops (.e j re :: r) st = eX G call ops re r st ops[j]? := by
  unfold planX
  simp only [runPlan, eX]
  cases ops[j]? with
  | none => rfl
  | some o =>
    simp only [Option.bind_some]
    cases stepE G call ops st o with
    | none => rfl
    | some a =>
      cases a with
      | pan v s => rfl
      | val v s => simp only [Option.bind_some, erX]; split <;> rfl
/-- A guard before a value. -/
def gN (b : Option Bool) (v : Option AV) : Option AV := match b with | some true => v | some false => some (.tup []) | none => none
@[simp] theorem gN_t {v} : gN (some true) v = v := rfl
@[simp] theorem gN_f {v} : gN (some false) v = some (.tup []) := rfl
theorem gN_b {b v} : gN (some b) v = if b = true then v else some (.tup []) := by cases b <;> rfl
def gE (b : Option Bool) (st : ASt) (k : Bool) (v : Option AR) : Option AR := match b with | some true => v | some false => skX k (some (.val (.tup []) st)) | none => none
@[simp] theorem gE_t {k v} : gE (some true) st k v = v := rfl
@[simp] theorem gE_f {k v} : gE (some false) st k v = skX k (some (.val (.tup []) st)) := rfl
theorem gE_b {b v} : gE (some b) st true v = if b = true then v else some (.val (.tup []) st) := by cases b <;> rfl
def gA (ops : Array Oper) (st : ASt) : Option (Nat × Bool) → Option Bool
  | none => some true
  | some (j, w) => ((ops[j]?).bind (·.dst)).bind fun k => gV w (st.slot k)
@[simp] theorem gA_n : gA ops st none = some true := rfl
@[simp] theorem gA_s {j w} : gA ops st (some (j, w)) = ((ops[j]?).bind (·.dst)).bind fun k => gV w (st.slot k) := rfl
theorem guardA_gA {op : Op} : guardA ops st ⟨d, op, t, p, af, g⟩ = gA ops st g := by
  unfold guardA
  cases g with
  | none => rfl
  | some q =>
    obtain ⟨j, w⟩ := q
    simp only [gA]
    cases (ops[j]?).bind (·.dst) with
    | none => rfl
    | some k =>
      simp only [Option.bind_some, gV]
      split <;> simp_all
@[simp] theorem nval_o {op : Op} : nval G ops st ⟨d, op, t, p, af, g⟩ = gN (gA ops st g) (nopv G st op) := by
  unfold nval
  rw [guardA_gA]
  cases gA ops st g with
  | none => rfl
  | some b => cases b <;> rfl
@[simp] theorem stepE_o {op : Op} : stepE G call ops st ⟨d, op, t, p, af, g⟩ = gE (gA ops st g) st (skipA st op) (aop G call ⟨d, op, t, p, af, g⟩ st) := by
  unfold stepE
  simp only [skX_if]
  rw [guardA_gA]
  cases gA ops st g with
  | none => rfl
  | some b => cases b <;> rfl
def againV (v : Option AV) (d : Option Nat) (s : ASt) : Bool := match v, d with | some v, some d => AV.beq v (s.slot d) | _, _ => false
@[simp] theorem againV_s {v d s} : againV (some v) (some d) s = AV.beq v (s.slot d) := rfl
def againO (G : Cfg) (ops : Array Oper) (s : ASt) : Option Oper → Bool
  | some o => againV (nval G ops s o) o.dst s
  | none => false
@[simp] theorem againO_s {o} : againO G ops st (some o) = againV (nval G ops st o) o.dst st := rfl
@[simp] theorem again_o {i} : again G ops st i = againO G ops st ops[i]? := by
  unfold again againO againV
  cases ops[i]? <;> rfl

@[simp] theorem nopv_move : nopv G st (.move x) = some (st.ev x) := rfl
@[simp] theorem nopv_assign : nopv G st (.assign x) = some (st.ev x) := rfl
@[simp] theorem nopv_pick : nopv G st (.pick x y z) = pickV (st.ev x) (st.ev y) (st.ev z) := rfl
@[simp] theorem nopv_binOp {op} : nopv G st (.binOp op t' x y t'') = binO G.P op t' (isConst x) (isConst y) (st.ev x) (st.ev y) := rfl
@[simp] theorem nopv_unOp {op} : nopv G st (.unOp op t' x) = unv op (st.ev x) := rfl
@[simp] theorem nopv_field {k} : nopv G st (.field t' x k) = fieldV G.P t' k (st.ev x) := rfl
@[simp] theorem nopv_fieldAddr {k} : nopv G st (.fieldAddr t' x k) = fieldAddrV G.P t' k (st.ev x) := rfl
@[simp] theorem allocB_s {d d' : Nat} {e e' : TypeId} {t t' p p' af af'} : allocB (some ⟨some d, .alloc e, t, p, af, none⟩) (some ⟨some d', .alloc e', t', p', af', none⟩) = (d != d') := rfl
def swR (G : Cfg) (ops : Array Oper) (d : Option Nat) (re : List Nat) : Option AR → Option ASt
  | some (.val v s) => if re.all (again G ops (s.put d v)) then some (s.put d v) else none
  | _ => none
@[simp] theorem swR_s {d re v s} : swR G ops d re (some (.val v s)) = if re.all (again G ops (s.put d v)) = true then some (s.put d v) else none := rfl
@[simp] theorem swStep_s {re} {d : Nat} {e : TypeId} {t p af} : swStep G ops re st (some ⟨some d, .alloc e, t, p, af, none⟩) = swR G ops (some d) re (allocX G e d st) := rfl
@[simp] theorem planX_sw {j k re} : planX G call ops (.sw j k re :: r) st = if allocB ops[j]? ops[k]? = true then (swStep G ops re st ops[k]?).bind fun _ => (swStep G ops re st ops[j]?).bind fun s => (swStep G ops re s ops[k]?).bind fun s' => planX G call ops r s' else none := rfl
@[simp] theorem nopv_indexAddr : nopv G st (.indexAddr t' x y) = indexA G.P st.hp t' (st.ev x) (st.ev y) := rfl
@[simp] theorem nopv_index : nopv G st (.index t' x y) = indexv G.P t' (st.ev x) (st.ev y) := rfl
@[simp] theorem nopv_load : nopv G st (.load t' x) = loadV G.P st.hp t' (st.ev x) := rfl
@[simp] theorem nopv_extract {i} : nopv G st (.extract x i) = extractV i (st.ev x) := rfl
@[simp] theorem nopv_build {ps : Array (Nat × Operand)} : nopv G st (.build t' ps) = buildA G.P t' (ps.toList.map fun q => (q.1, st.ev q.2)) := rfl
@[simp] theorem nopv_makeInterface : nopv G st (.makeInterface t' x) = mkIface G.P t' (st.ev x) := rfl
@[simp] theorem nopv_makeFunc {g : Fn} {a b : Array Operand} : nopv G st (.makeFunc g a b) = some (.fn g (a.toList.map st.ev) (b.toList.map st.ev)) := rfl
@[simp] theorem nopv_nilCheck : nopv G st (.nilCheck x) = nilCheckV (st.ev x) := rfl
@[simp] theorem nopv_convert : nopv G st (.convert t' t'' x) = convv G.P st.hp t' t'' (st.ev x) := rfl
@[simp] theorem nopv_typeAssert {ok} : nopv G st (.typeAssert x t'' t' ok) = assertV G.P t' ok (st.ev x) := rfl
@[simp] theorem nopv_slice {lo hi mx : Option Operand} : nopv G st (.slice t' x lo hi mx) = sliceW G.P st.hp t' (st.ev x) (lo.map st.ev) (hi.map st.ev) (mx.map st.ev) := rfl
@[simp] theorem nopv_len {ts : TypeId} : nopv G st (.call ⟨.builtin .len, #[x], #[ts]⟩) = lenv G.P st.hp ts (st.ev x) := rfl
@[simp] theorem nopv_min {ts} : nopv G st (.call ⟨.builtin .min, #[x, y], ts⟩) = minmax false (st.ev x) (st.ev y) := by simp [nopv, opv]
@[simp] theorem nopv_max {ts} : nopv G st (.call ⟨.builtin .max, #[x, y], ts⟩) = minmax true (st.ev x) (st.ev y) := by simp [nopv, opv]
def bsvV (G : Cfg) (t : TypeId) (len : Nat) (is : List Nat) (vs : List AV) : Option AV :=
  (elemOf? G.P t).bind fun e =>
    if is = List.range len ∧ ((G.P.info? e).bind (·.zero)).isSome = true ∧ AV.pureL vs = true ∧ (vs.all fun y => okCells y && y.cells.length == G.P.cellsOf e) = true ∧ 0 < G.P.cellsOf e ∧ len * G.P.cellsOf e ≤ 16777216 then some (.list (G.P.cellsOf e) vs) else none
@[simp] theorem nopv_lay {len} {ps : Array (Nat × Operand)} : nopv G st (.buildSlice t' len ps) = bsvV G t' len (ps.toList.map (·.1)) (ps.toList.map fun q => st.ev q.2) := rfl

@[simp] theorem aop_load : aop G call ⟨d, .load t' x, t, p, af, g⟩ st = (loadV G.P st.hp t' (st.ev x)).map fun v => .val v st := rfl
@[simp] theorem aop_store : aop G call ⟨d, .store t' x y, t, p, af, g⟩ st = (storeA G t' (st.ev x) (st.ev y) st).map fun s => .val .undef s := rfl
@[simp] theorem aop_alloc {e : TypeId} {d : Nat} : aop G call ⟨some d, .alloc e, t, p, af, g⟩ st = allocX G e d st := rfl
@[simp] theorem aop_box {e : TypeId} {d : Nat} : aop G call ⟨some d, .box e x, t, p, af, g⟩ st = boxX G e (st.ev x) d st := rfl
@[simp] theorem aop_lay {len} {ps : Array (Nat × Operand)} {d : Nat} : aop G call ⟨some d, .buildSlice t' len ps, t, p, af, g⟩ st = buildSliceX G t' len (ps.toList.map (·.1)) (ps.toList.map fun q => st.ev q.2) d st := rfl
@[simp] theorem aop_assign : aop G call ⟨d, .assign x, t, p, af, g⟩ st = some (.val (st.ev x) st) := rfl
@[simp] theorem aop_move : aop G call ⟨d, .move x, t, p, af, g⟩ st = some (.val (st.ev x) st) := rfl
@[simp] theorem aop_pick : aop G call ⟨d, .pick x y z, t, p, af, g⟩ st = (pickV (st.ev x) (st.ev y) (st.ev z)).map fun v => .val v st := rfl
@[simp] theorem aop_binOp {op} : aop G call ⟨d, .binOp op t' x y t'', t, p, af, g⟩ st = (binO G.P op t' (isConst x) (isConst y) (st.ev x) (st.ev y)).map fun v => .val v st := rfl
@[simp] theorem aop_convert : aop G call ⟨d, .convert t' t'' x, t, p, af, g⟩ st = convertX G t' t'' (st.ev x) d st := rfl
@[simp] theorem aop_slice {lo hi mx : Option Operand} : aop G call ⟨d, .slice t' x lo hi mx, t, p, af, g⟩ st = sliceX G t' (st.ev x) (lo.map st.ev) (hi.map st.ev) (mx.map st.ev) st := rfl
@[simp] theorem aop_append {d : Nat} {t1 t2 : TypeId} : aop G call ⟨some d, .call ⟨.builtin .append, #[x, y], #[t1, t2]⟩, t, p, af, g⟩ st = appendA G d t1 t2 (st.ev x) (st.ev y) st := rfl
@[simp] theorem aop_call {args : Array Operand} {ts} : aop G call ⟨d, .call ⟨.value x, args, ts⟩, t, p, af, g⟩ st = callV G call d (st.ev x) (args.toList.map st.ev) st := rfl

/-! Values that are alike. -/
mutual
def AV.plainB : AV → Bool
  | .fn (.func _) a b => AV.plainBL a && AV.plainBL b
  | .fn _ _ _ => false
  | .list _ es => AV.plainBL es
  | .ep v _ => AV.plainB v
  | .agg cs => AV.plainBL cs
  | .tup cs => AV.plainBL cs
  | .iface _ v => AV.plainB v
  | _ => true
def AV.plainBL : List AV → Bool
  | [] => true
  | v :: l => AV.plainB v && AV.plainBL l
end
mutual
theorem beq_self : ∀ {v : AV}, v.plainB = true → AV.beq v v = true
  | .undef, _ => rfl | .nilp, _ => rfl | .nils, _ => rfl | .nilf, _ => rfl | .nilm, _ => rfl | .nili, _ => rfl
  | .bool _, _ => by simp [AV.beq]
  | .int _ _, _ => by simp [AV.beq]
  | .str _, _ => by simp [AV.beq]
  | .own _, _ => by simp [AV.beq]
  | .row _ _ _, _ => by simp [AV.beq]
  | .ptr _ _ _, _ => by simp [AV.beq]
  | .yld _, _ => by simp [AV.beq]
  | .mp _, _ => by simp [AV.beq]
  | .win _ _ _ _, _ => by simp [AV.beq]
  | .cm _, _ => by simp [AV.beq]
  | .list _ es, h => by simp only [AV.plainB] at h; simp [AV.beq, beqL_self (l := es) h]
  | .ep v _, h => by simp only [AV.plainB] at h; simp [AV.beq, beq_self (v := v) h]
  | .agg cs, h => by simp only [AV.plainB] at h; simp [AV.beq, beqL_self (l := cs) h]
  | .tup cs, h => by simp only [AV.plainB] at h; simp [AV.beq, beqL_self (l := cs) h]
  | .iface _ v, h => by simp only [AV.plainB] at h; simp [AV.beq, beq_self (v := v) h]
  | .fn g a b, h => by
    cases g with
    | func k => simp only [AV.plainB, Bool.and_eq_true] at h; simp [AV.beq, beqL_self (l := a) h.1, beqL_self (l := b) h.2]
    | _ => simp [AV.plainB] at h
theorem beqL_self : ∀ {l : List AV}, AV.plainBL l = true → AV.beqL l l = true
  | [], _ => rfl
  | v :: l, h => by simp only [AV.plainBL, Bool.and_eq_true] at h; simp [AV.beqL, beq_self h.1, beqL_self h.2]
end
theorem plainBL_map {α : Type} {f : α → AV} (h : ∀ a, (f a).plainB = true) : ∀ l : List α, AV.plainBL (l.map f) = true
  | [] => rfl
  | a :: l => by simp [AV.plainBL, h a, plainBL_map h l]
attribute [simp] AV.beq AV.beqL AV.plainB AV.plainBL
end

/-- A body's end: rows are told as lists. -/
theorem end_rv {G : Cfg} {g : FuncId} {res : List ResultVar} {x : AX} {s : ASt} {vs : List AV} {v : AV} (hx : x = .normal ∨ x = .ret) (hr : resL G s res = some vs) (ho : G.retOwn g = false) (hv : (resOf vs).rv s.hp = v) (hn : v.names = []) : endX G g [] res (some (x, s)) = some (.ret v, []) := by
  subst hv
  have hf : finishA G g [] (resOf vs) s = ((resOf vs).rv s.hp, []) := by
    unfold finishA
    simp only [ho, Bool.false_eq_true, if_false]
    unfold outOf
    simp only [hn, List.append_nil]
    have : ∀ h : Heap, reachL 60 h [] [] = [] := fun _ => rfl
    rw [this, nameless_ren hn]; rfl
  rcases hx with rfl | rfl <;> simp [endX, hr, hf, retA]
/-- A body's end, told. -/
theorem end_is {G : Cfg} {g : FuncId} {res : List ResultVar} {x : AX} {s : ASt} {vs : List AV} {v : AV} (hx : x = .normal ∨ x = .ret) (hr : resL G s res = some vs) (hn : AV.namesL vs = []) (hv : resOf vs = v) : endX G g [] res (some (x, s)) = some (.ret v, []) := by
  subst hv; exact end_pure hx hr hn

/-- A body that defers, step by step. -/
theorem runD_of {G : Cfg} {call : CallFn} {loop : LoopFn} {g : FuncId} {args : List AV} {hp : Heap} {fn : Func} {A rest : Code} {ops : Array Oper} {f : Operand} {s0 s1 s3 s4 : ASt} {ns : List Nat} {x2 : AX} {rv v : AV} {m : List Nat} {vs : List AV} {r : ARes × Heap}
    (hd : G.dfr g = true) (hfn : G.P.funcs[g]? = some fn) (hb : fn.body.bind splitD = some (A, ops, f, rest)) (hA : codeX G call loop g A { sl := zipIx args 0, hp } = some (.normal, s0))
    (hops : aops G call ops (List.range (ops.size - 1)) s0 = some (.normal, s1)) (hns : reachL 60 s1.hp (hp.map (·.1) ++ AV.namesL (s1.sl.map (·.2))) [] = ns)
    (hck : ((ns.all fun n => (aget s1.hp n).isSome) && isFn (s1.ev f) && ((hp.map (·.1)).all fun n => ns[n]? == some n) && (ns.all fun n => !((aget s1.hp n).map AObj.moved).getD false)) = true)
    (hrest : codeX G call loop g rest { sl := s1.sl.map fun p => (p.1, p.2.ren (toMap ns)), hp := renHeap ns s1.hp } = some (x2, s3))
    (hbx : (((s1.ev f).ren (toMap ns)).names.all fun n => isBoxAt s3.hp n) = true) (hrv : recOf x2 = some rv)
    (hclo : callB G (runClosure G rv) (some 40000) ((s1.ev f).ren (toMap ns)) [] s3 = some (.val v s4, m)) (hres : resL G s4 fn.results.toList = some vs) (hr : retA (finishA G g (hp.map (·.1)) (resOf vs) s4) = r) :
    runFn G call loop g args hp = some r := by
  unfold runFn runBodyD
  simp only [hd, if_true, hfn, hb, Option.bind_some, hA, hops, hns, hck, hrest, hbx, Bool.not_true, Bool.false_eq_true, if_false, hrv, hclo, hres, Option.map_some, hr]
end Go.Proofs.YteibklnligmanaaDoor.Abs

