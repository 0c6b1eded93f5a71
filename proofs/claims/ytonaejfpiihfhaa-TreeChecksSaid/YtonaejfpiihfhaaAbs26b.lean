/- Functions that defer one closure, on: their bodies. -/
import Derived.Test.YtonaejfpiihfhaaAbs26
namespace Go.Proofs.Ytonaejfpiihfhaa.Abs
open Go Go.RowKit
set_option linter.unusedSimpArgs false
set_option linter.unusedVariables false

variable {G : Cfg} {S : Stab} {ρ : Rho} {w : World} {E : Env} {st : ASt} {a : Act}

theorem wpOpIn_mono2 {F : Fence} {n : Nat} {P : Program} {ops : Array Oper} {Q Q' : Exit → Act → World → Prop} {i : Nat} {a : Act} {w : World} {K K' : Act → World → Prop} (h : ∀ a w, K a w → K' a w) (hq : ∀ e a w, e ≠ .normal → Q e a w → Q' e a w)
    (hh : wpOpIn F n P ops Q i K a w) : wpOpIn F n P ops Q' i K' a w := by
  have hq' : LetsOut Q → LetsOut Q' := fun ⟨a, w, h⟩ => ⟨a, w, hq _ _ _ (by simp) h⟩
  unfold wpOpIn at *
  split
  · exact h _ _ (by simpa [*] using hh)
  · rename_i o ho
    simp only [ho] at hh
    split
    · rename_i hw
      simp only [hw, if_true] at hh
      unfold Oper.wpIn at *
      refine ⟨hh.1, ?_⟩
      have hh := hh.2
      generalize (o.semAt F.round a.eval).run P w = r at *
      cases r with
      | ok x w' =>
        cases x <;> simp only [Oper.uponIn] at hh ⊢ <;>
          first
            | exact h _ _ hh
            | exact ⟨hh.1, CallsIn.mono hh.2 (fun e w'' he => by cases e <;> first | exact h _ _ he | exact hq _ _ _ (by simp) he | exact hq' he)⟩
            | exact ⟨hh.1, RowsIn.mono hh.2 (fun _ _ he => h _ _ he)⟩
            | exact ⟨hh.1, RoundIn.mono hh.2 (fun e w'' he => by cases e <;> first | exact h _ _ he | exact hq _ _ _ (by simp) he | exact hq' he)⟩
      | halt x w' => cases x <;> simp only [Oper.uponIn] at hh ⊢ <;> exact hq _ _ _ (by simp) hh
    · rename_i hw; simp only [hw] at hh; exact ⟨hh.1, h _ _ hh.2⟩

theorem wpOpsIn_append {F : Fence} {n : Nat} {P : Program} {ops : Array Oper} {Q Q' : Exit → Act → World → Prop} (l2 : List Nat) (hq : ∀ e a w, e ≠ .normal → Q e a w → Q' e a w) (hn : ∀ a w, Q .normal a w → wpOpsIn F n P ops Q' l2 a w) :
    ∀ (l : List Nat) (a : Act) (w : World), wpOpsIn F n P ops Q l a w → wpOpsIn F n P ops Q' (l ++ l2) a w := by
  intro l
  induction l with
  | nil => intro a w h; exact hn a w h
  | cons i l ih =>
    intro a w h
    rw [List.cons_append, wpOpsIn_cons]
    rw [wpOpsIn_cons] at h
    exact wpOpIn_mono2 (fun a w h => ih a w h) hq h

theorem splitD_spec {c A rest : Code} {ops : Array Oper} {f : Operand} (h : splitD c = some (A, ops, f, rest)) :
    ∃ id o cc, c = .seq A (.seq (.region id ops false) rest) ∧ ops[ops.size - 1]? = some o ∧ o.op = .defer cc ∧ o.guard = none ∧ o.dst = none ∧ cc.callee = .value f ∧ cc.args = #[] := by
  unfold splitD at h
  split at h
  · split at h
    · rename_i o ho
      split at h
      · rename_i cc h1 h2 h3
        split at h
        · rename_i g e1 e2
          cases h
          exact ⟨_, o, cc, rfl, ho, h1, h2, h3, e1, by apply Array.ext'; exact e2⟩
        · cases h
      · cases h
    · cases h
  · cases h

theorem MarksB.cons {m : Nat} {base ds : List Deferred} {w : World} (d : Deferred) (h : ds = d :: base) : MarksB m (d :: base) ds w := ⟨[], by simp [h], List.nodup_nil, fun d hd => by simp at hd⟩

/-- The defer. -/
theorem defer_ok {P : Program} {ops : Array Oper} {i : Nat} {o : Oper} {cc : Call} {f : Operand} {h : FuncId} {vx vy : Array Value} (ho : ops[i]? = some o) (hop : o.op = .defer cc) (hog : o.guard = none) (hod : o.dst = none) (hcf : cc.callee = .value f) (hca : cc.args = #[])
    (hf : a.eval f = .func (.func h) vx vy) {Q : Exit → Act → World → Prop} (hQ : Q .normal { a with defers := { target := .fn (.func h) vy, args := vx } :: a.defers } w) : wpOpsIn (FW none) 0 P ops Q [i] a w := by
  rw [wpOpsIn_cons]
  unfold wpOpIn
  simp only [ho]
  have hw : Region.wanted o (yielded ops a.tmps) = true := by unfold Region.wanted; rw [hog]
  rw [hw]
  simp only [if_true]
  refine ⟨fun _ _ => trivial, ?_⟩
  have hrun : (o.semAt (FW none).round a.eval).run P w = .ok (.defer { target := .fn (.func h) vy, args := vx }) w := by
    show Sem.run P (execOp a.eval o) w = _
    unfold execOp
    rw [hop]
    simp only [resolve, hcf, hca, hf, Deferred.ofValue]
    simp
  rw [hrun, Oper.uponIn_defer, hod]
  exact hQ

/-- Marks first, then what was deferred before. -/
theorem leaves_pre {P : Program} {F : Fence} {n : Nat} {fn : Func} {tmps : Array Value} {R : Ending → World → Prop} {u : FrameMode} (hu : u ≠ .run) {m : Nat} {w0 : World} {ds2 : List Deferred} : ∀ (ds : List Deferred) (w : World), Marks m ds w → Dead m w0 w →
    (∀ w', Dead m w0 w' → LeavesInM F n P fn tmps R ds2 u w') → LeavesInM F n P fn tmps R (ds ++ ds2) u w := by
  intro ds
  induction ds with
  | nil => intro w _ hd h; exact h w hd
  | cons d ds ih =>
    intro w hm hd h
    obtain ⟨b, e1, e2, e3⟩ := hm.2 d (by simp)
    have hlt := lt_of_block e3
    have hnd := List.nodup_cons.1 hm.1
    refine ⟨hu, .inl ⟨b, w.putObj b (.deferred none), by rw [e1], run_takeDeferred e3, ih _ ⟨hnd.2, fun d' hd' => ?_⟩ ⟨by rw [World.putObj_size]; exact hd.size, fun b' => ?_, hd.os, hd.tape, hd.output⟩ h⟩⟩
    · obtain ⟨b', g1, g2, g3⟩ := hm.2 d' (List.mem_cons_of_mem _ hd')
      have hne : b' ≠ b := fun e => by subst e; rw [← e1] at g1; subst g1; exact hnd.1 hd'
      exact ⟨b', g1, g2, by rw [World.putObj_heap_other hne]; exact g3⟩
    · by_cases e : b' = b
      · subst e
        rw [World.putObj_heap_same hlt]
        rcases hd.blocks b' with h1 | ⟨h1, h2, h3⟩
        · exact .inr ⟨e2, h1 ▸ e3, rfl⟩
        · exact .inr ⟨h1, h2, rfl⟩
      · rw [World.putObj_heap_other e]; exact hd.blocks b'

theorem namesL_mem {l : List AV} {j : Nat} {x : AV} {n : Nat} (h : l[j]? = some x) (hn : n ∈ x.names) : n ∈ AV.namesL l := by
  induction l generalizing j with
  | nil => simp at h
  | cons y l ih =>
    simp only [AV.namesL, List.mem_append]
    cases j with
    | zero => simp at h; subst h; exact .inl hn
    | succ j => exact .inr (ih (by simpa using h))

/-- A value hangs on its names alone. -/
theorem VR.byNames {S S' : Stab} {ρ ρ' : Rho} {w w' : World} (x : Ext S w S' w') {a : AV} {v : Value} (h : VR S ρ w a v) : (∀ id ∈ a.names, ∀ r, ρ id = some r → ρ' id = some r) → VR S' ρ' w' a v := by
  induction h with
  | pure h => intro _; exact .pure (h.ext x)
  | undef v => intro _; exact .undef v
  | own0 id h => intro hr; exact .own0 id (hr _ (by simp [AV.names]) _ h)
  | own id b sz n cap h hc hb =>
    intro hr
    obtain ⟨c, t, fr, h1, h2⟩ := hb
    obtain ⟨c', h3, h4⟩ := x.shape b c t fr h1
    exact .own id b sz n cap (hr _ (by simp [AV.names]) _ h) hc ⟨c', t, fr, h3, h4 ▸ h2⟩
  | row0 id o c a => intro _; exact .row0 id o c a
  | row id o l b sz n cap h hl => intro hr; exact .row id o l b sz n cap (hr _ (by simp [AV.names]) _ h) hl
  | ptr id i o b sz n h => intro hr; exact .ptr id i o b sz n (hr _ (by simp [AV.names]) _ h)
  | yld id b sz n h => intro hr; exact .yld id b sz n (hr _ (by simp [AV.names]) _ h)
  | agg cs vs hl _ ih => intro hr; exact .agg cs vs hl fun j c v hc hv => ih j c v hc hv fun id hid => hr id (by simp only [AV.names]; exact namesL_mem hc hid)
  | tup cs vs hl _ ih => intro hr; exact .tup cs vs hl fun j c v hc hv => ih j c v hc hv fun id hid => hr id (by simp only [AV.names]; exact namesL_mem hc hid)
  | iface t a v _ ih => intro hr; exact .iface t a v (ih fun id hid => hr id (by simpa only [AV.names] using hid))
  | fn g a b va vb h1 h2 _ _ i1 i2 =>
    intro hr
    exact .fn g a b va vb h1 h2 (fun j c v hc hv => i1 j c v hc hv fun id hid => hr id (by simp only [AV.names, List.mem_append]; exact .inl (namesL_mem hc hid)))
      (fun j c v hc hv => i2 j c v hc hv fun id hid => hr id (by simp only [AV.names, List.mem_append]; exact .inr (namesL_mem hc hid)))

theorem runBodyD_ok (GE : GSound G) {call : CallFn} (hcall : CallOK G call) {loop : LoopFn} (hloop : ∀ f c st r, loop f c st = some r → LoopSound G f c st r)
    {g : FuncId} {args : List AV} {hp : Heap} {r : ARes × Heap} (hE : G.E g = true) (hr : runBodyD G call loop g args hp = some r) : CallSound G.P g args hp r := by
  intro S ρ w vs hl H hb hlen hargs
  unfold runBodyD at hr
  rw [Option.bind_eq_some_iff] at hr; obtain ⟨fn, hfn, hr⟩ := hr
  rw [Option.bind_eq_some_iff] at hr; obtain ⟨q, hq, hr⟩ := hr
  rw [Option.bind_eq_some_iff] at hq; obtain ⟨c, hc, hs⟩ := hq
  obtain ⟨A, ops, f, rest⟩ := q
  obtain ⟨id, o, cc, rfl, ho, hop, hog, hod, hcf, hca⟩ := splitD_spec hs
  simp only at hr
  rw [Option.bind_eq_some_iff] at hr; obtain ⟨⟨x0, s0⟩, hA, hr⟩ := hr
  cases x0 with
  | exit i => cases hr
  | ret => cases hr
  | pan v => cases hr
  | normal =>
    simp only at hr
    rw [Option.bind_eq_some_iff] at hr; obtain ⟨⟨x1, s1⟩, hops, hr⟩ := hr
    cases x1 with
    | exit i => cases hr
    | ret => cases hr
    | pan v => cases hr
    | normal =>
      simp only at hr
      split at hr
      case isFalse => cases hr
      rename_i hck
      simp only [Bool.and_eq_true] at hck
      obtain ⟨⟨⟨hk1, hk5⟩, hk2⟩, hk3⟩ := hck
      rw [Option.bind_eq_some_iff] at hr; obtain ⟨⟨x2, s3⟩, hrest, hr⟩ := hr
      split at hr
      · cases hr
      rename_i hk4
      rw [Option.bind_eq_some_iff] at hr; obtain ⟨rv, hrv, hr⟩ := hr
      rw [Option.bind_eq_some_iff] at hr; obtain ⟨⟨z1, mvd⟩, hclo, hr⟩ := hr
      cases z1 with
      | pan v s => cases hr
      | val v s4 =>
        simp only at hr
        obtain ⟨vsr, hres, rfl⟩ := Option.map_eq_some_iff.1 hr
        have hbeg := begin_ok (k := fn.ntmps - vs.size) hl H hb hlen hargs
        have hge : fn.ntmps ≤ (vs ++ Array.replicate (fn.ntmps - vs.size) Go.undef).size := by simp; omega
        generalize htm : vs ++ Array.replicate (fn.ntmps - vs.size) Go.undef = tm at *
        have hd := dstsB_mono hge _ (GE.ok.dsts g fn _ hE hfn hc)
        have hpl := GE.plans g fn _ hE hfn hc
        simp only [dstsB, plansB, Bool.and_eq_true] at hd hpl
        have hnt := Nat.le_trans (GE.ntm g fn hE hfn) hge
        refine (callsIn_wide (n := 0)).1 (callsIn_of_wp_marks hfn hc trivial ?_)
        rw [htm]
        have hAw := codeX_ok (ro := none) (n := tm.size) (base := []) (a := { tmps := tm, defers := [] }) GE hcall hloop A (.inl ⟨rfl, hnt⟩) hd.1 hpl.1 ⟨[], rfl, List.nodup_nil, fun d hd => by simp at hd⟩ hbeg rfl hA
        refine wpIn_seq (wpIn_mono hAw fun e a0 w0 ⟨⟨ms0, hms0, hM0⟩, hn0, S0, ρ0, h0, hx0⟩ => ?_)
        cases e with
        | normal =>
          rw [List.append_nil] at hms0
          have hpos := (Array.getElem?_eq_some_iff.1 ho).1
          have hrange : List.range ops.size = List.range (ops.size - 1) ++ [ops.size - 1] := by
            obtain ⟨k, hk⟩ : ∃ k, ops.size = k + 1 := ⟨ops.size - 1, by omega⟩
            rw [hk, List.range_succ]; simp
          refine wpIn_seq (wpIn_region ?_)
          rw [hrange]
          refine wpOpsIn_append [ops.size - 1] (Q := CodeDone (rebase (envOf S ρ w hl) S0 w0) a0.defers tm.size (.normal, s1)) (fun e a w hne hq => ?_) (fun a1 w1 hq1 => ?_) _ _ _ (aops_ok GE.ok hcall hd.2.1 _ h0.base hn0 hops)
          · obtain ⟨_, _, _, _, _, hx⟩ := hq
            cases e <;> first | exact absurd rfl hne | exact hx.elim
          · obtain ⟨d1, n1, S1, ρ1, h1, _⟩ := hq1
            have h1' := h1.unbase h0.fr
            simp only at h1'
            have hfv := h1'.ev f
            obtain ⟨hh, first, caps, hfe⟩ : ∃ hh first caps, s1.ev f = .fn (.func hh) first caps := by
              cases hev : s1.ev f with
              | fn q x y => rw [hev] at hk5; cases q <;> simp [isFn] at hk5; exact ⟨_, _, _, rfl⟩
              | _ => rw [hev] at hk5; simp [isFn] at hk5
            rw [hfe] at hfv hclo hk4
            obtain ⟨vx, vy, hfe2, hx1, hx2, hvx, hvy⟩ := vr_fn hfv
            refine defer_ok ho hop hog hod hcf hca hfe2 ?_
            generalize hns : reachL 60 s1.hp (hp.map (·.1) ++ AV.namesL (s1.sl.map (·.2))) [] = ns at *
            have hnd : ns.Nodup := by rw [← hns]; exact reachL_nodup _ _ _ _ List.nodup_nil
            have hlen2 : ns.length ≤ 60 := by rw [← hns]; simpa using reachL_length s1.hp 60 (hp.map (·.1) ++ AV.namesL (s1.sl.map (·.2))) []
            have hlow : ∀ n q, subRho ns ρ1 n = some q → n < 1000 := by
              intro n q hq
              unfold subRho at hq
              rw [Option.bind_eq_some_iff] at hq
              obtain ⟨m, hm, _⟩ := hq
              have := (List.getElem?_eq_some_iff.1 hm).1
              omega
            have hR := h1'.rename hnd hlow
            have hRw := codeX_ok (ro := none) (n := tm.size) (base := { target := .fn (.func hh) vy, args := vx } :: ms0) (a := { a1 with defers := { target := .fn (.func hh) vy, args := vx } :: a1.defers }) GE hcall hloop rest (.inl ⟨rfl, hnt⟩) hd.2.2 hpl.2.2 (MarksB.cons _ (by simp [d1, hms0])) hR n1 hrest
            refine wpIn_mono hRw fun e a2 w2 ⟨⟨ms2, hms2, hM2⟩, n2, S3, ρ3, h3, hx3⟩ => ?_
            have hpure : rv.pureB = true := by
              unfold recOf at hrv
              split at hrv
              · cases hrv; rfl
              · cases hrv; rfl
              · split at hrv
                · cases hrv; assumption
                · cases hrv
              · cases hrv
            have hin : ∀ n r, (envOf S ρ w hl).R0 n = some r → ns[n]? = some n ∧ ∃ o, aget s1.hp n = some o ∧ o.moved = false := by
              intro n r hn
              have hn : ρ n = some r := hn
              have hmem : n ∈ hp.map (·.1) := by
                cases ho : aget hp n with
                | none => rw [H.dom n ho] at hn; cases hn
                | some o => exact List.mem_map.2 ⟨(n, o), aget_mem ho, rfl⟩
              have g1 : ns[n]? = some n := by simpa using (List.all_eq_true.1 hk2) n hmem
              have g2 : n ∈ ns := List.mem_of_getElem? g1
              have g3 := (List.all_eq_true.1 hk1) n g2
              have g4 := (List.all_eq_true.1 hk3) n g2
              cases ho : aget s1.hp n with
              | none => rw [ho] at g3; cases g3
              | some o => rw [ho] at g4; exact ⟨g1, o, rfl, by simpa using g4⟩
            have core : ∀ u uv, u ≠ .run → Finds u uv → VR S3 ρ3 w2 rv uv → LeavesInM (FW none) 0 G.P fn a2.tmps (fun e w' => ∃ S' ρ', Out (envOf S ρ w hl) (retA (finishA G g (hp.map (·.1)) (resOf vsr) s4)).2 S' ρ' w' ∧ AnswerR S' ρ' w' (retA (finishA G g (hp.map (·.1)) (resOf vsr) s4)).1 e) a2.defers u w2 := by
              intro u uv hu hF hv
              rw [hms2]
              refine leaves_pre hu ms2 w2 hM2 ⟨rfl, fun _ => .inl rfl, rfl, rfl, rfl⟩ fun w3 hdead => ?_
              have h3' := h3.dead hdead
              have hbx : ∀ n ∈ (AV.ren (toMap ns) (.fn (.func hh) first caps)).names, isBoxAt s3.hp n = true := by
                simpa using hk4
              have hval : VR S3 ρ3 w3 (AV.ren (toMap ns) (.fn (.func hh) first caps)) (a1.eval f) := by
                refine VR.byNames h3'.fr.ext hfv.sub fun n hn q hq => ?_
                have hb := hbx n hn
                unfold isBoxAt at hb
                split at hb
                · rename_i v hv
                  exact h3'.old n _ hv rfl q hq
                · cases hb
              have hrv3 : VR S3 ρ3 w3 rv uv := hv.ext (hdead.ext S3) fun _ _ h => h
              have hfne : AV.ren (toMap ns) (.fn (.func hh) first caps) = .fn (.func hh) (AV.renL (toMap ns) first) (AV.renL (toMap ns) caps) := by simp only [AV.ren]
              rw [hfne] at hval hclo
              obtain ⟨vx', vy', hEh, hev', hcc⟩ := callF_ok (E := envR (envOf S ρ w hl) S1 (subRho ns ρ1) w1 hlow) (Cc := fun vs R => CallsDIn (FW none) 0 G.P hh vs u w3 fun e u' w' => settle u' = .returning ∧ (∃ v, e = .returned v) ∧ R e w')
                h3' (fun vs R R' hh hRR => CallsDIn.mono hh fun e u' w' ⟨q1, q2, q3⟩ => ⟨q1, q2, hRR _ _ q3⟩)
                (fun S' ρ' args hp' r' vs' hl' hSS hcf' HH hb' hlen' hargs' => runClosure_ok GE (by
                  unfold callB at hclo
                  dsimp only at hclo
                  split at hclo
                  · rename_i hc'; simp only [Bool.and_eq_true] at hc'; exact hc'.1.1
                  · cases hclo) hcf' hl' HH hb' hlen' hargs' hF (.pure ((hrv3.pr hpure).ext (Ext.more hSS w3))))
                hval hclo
              rw [hfe2] at hev'
              cases hev'
              refine ⟨hu, .inr ⟨fun hd => absurd hd (by decide), .func hh, vy, hh, vx ++ vy, rfl, GE.ok.enter hh hEh _ _, fun _ _ => trivial, ?_⟩⟩
              refine CallsDIn.mono hcc fun e u' w5 ⟨q1, ⟨vv, q2⟩, q3⟩ => ?_
              subst q2
              simp only
              rw [q1]
              obtain ⟨uu, S5, ρ5, _, h5, _, _⟩ := q3
              have hM5 : Marks (envOf S ρ w hl).W0.heap.size ms0 w5 := by
                refine ⟨hM0.1, fun d' hd' => ?_⟩
                obtain ⟨b, g1, g2, g3⟩ := hM0.2 d' hd'
                exact ⟨b, g1, g2, h5.fr.dfr b (h1.fr.dfr b g3)⟩
              have h6 := SR.unname h1' hin h5
              refine leaves_ok (by simp) ms0 w5 hM5 ⟨rfl, fun _ => .inl rfl, rfl, rfl, rfl⟩ fun w6 hdead6 => ?_
              have k3 := h6.dead hdead6
              obtain ⟨u6, hu6, hvu6⟩ := results_ok k3 hres
              refine ⟨u6, hu6, ?_⟩
              unfold finishA
              split
              · obtain ⟨ρ'', o1, o2⟩ := out_ok (m := hp.map (·.1)) k3.heap k3.mine k3.old k3.fr hvu6
                exact ⟨S5, ρ'', o1, o2⟩
              · obtain ⟨S2, f1, f2, f3, f4⟩ := k3.fix (resOf vsr).rows
                have hv2 := rv_fixed k3 f1 f2 f3 f4 hvu6 fun n hn => hn
                obtain ⟨ρ'', o1, o2⟩ := out_ok (m := hp.map (·.1)) f2.heap f2.mine f2.old f2.fr hv2
                exact ⟨S2, ρ'', o1, o2⟩
            cases x2 with
            | exit i => cases hrv
            | normal =>
              cases hrv
              cases e with
              | normal => exact core .returning .nilIface (by simp) (.inl ⟨rfl, rfl⟩) (.pure .nili)
              | _ => exact hx3.elim
            | ret =>
              cases hrv
              cases e with
              | ret => exact core .returning .nilIface (by simp) (.inl ⟨rfl, rfl⟩) (.pure .nili)
              | _ => exact hx3.elim
            | pan v2 =>
              simp only [recOf] at hrv
              split at hrv
              · cases hrv
                cases e with
                | panic ch =>
                  obtain ⟨u, rfl, hv⟩ := hx3
                  exact core _ u (by simp) (.inr rfl) hv
                | _ => exact hx3.elim
              · cases hrv
        | _ => exact hx0.elim

theorem runFn_ok (GE : GSound G) {call : CallFn} (hcall : CallOK G call) {loop : LoopFn} (hloop : ∀ f c st r, loop f c st = some r → LoopSound G f c st r)
    {g : FuncId} {args : List AV} {hp : Heap} {r : ARes × Heap} (hE : G.E g = true) (hr : runFn G call loop g args hp = some r) : CallSound G.P g args hp r := by
  unfold runFn at hr
  split at hr
  · exact runBodyD_ok GE hcall hloop hE hr
  · exact runBody_ok GE hcall hloop hE hr

end Go.Proofs.Ytonaejfpiihfhaa.Abs
