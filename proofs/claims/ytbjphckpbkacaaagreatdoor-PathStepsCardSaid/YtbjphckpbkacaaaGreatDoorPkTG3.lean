/- What the row of this claim leans on: own texts, merged. -/
import Derived.Maps.RangeRun
import Derived.KernelRfl
import Derived.Lib.Bytealg
import Derived.Laws.Externs
import Derived.Lib.UnsafeStr
import Derived.Lib.AtoiAll
import Derived.Below
import Derived.Test.YtbjphckpbkacaaaGreatDoorProg
import Derived.Test.YtbjphckpbkacaaaGreatDoorPkTG2

/- Functions that defer one closure, on: their bodies. -/
namespace Go.Proofs.YtbjphckpbkacaaaGreatDoor.Abs
open Go Go.RowKit
set_option linter.unusedSimpArgs false
set_option linter.unusedVariables false

variable {G : Cfg} {S : Stab} {ρ : Rho} {w : World} {E : Env} {st : ASt} {a : Act}

theorem wpOpIn_mono2 {F : Fence} {n : Nat} {P : Program} {ops : Array Oper} {Q Q' : Exit → Act → World → Prop} {i : Nat} {a : Act} {w : World} {K K' : Act → World → Prop} (h : ∀ a w, K a w → K' a w) (hq : ∀ e a w, e ≠ .normal → Q e a w → Q' e a w)
    (hh : wpOpIn F n P ops Q i K a w) : wpOpIn F n P ops Q' i K' a w := by
  have hq' : LetsOut Q → LetsOut Q' := fun ⟨a, w, h⟩ => ⟨a, w, hq _ _ _ (by simp) h⟩
  unfold wpOpIn at *
  split
  · exact h _ _ (by simpa [*] using hh)
  · rename_i o ho
    simp only [ho] at hh
    split
    · rename_i hw
      simp only [hw, if_true] at hh
      unfold Oper.wpIn at *
      refine ⟨hh.1, ?_⟩
      have hh := hh.2
      generalize (o.semAt F.round a.eval).run P w = r at *
      cases r with
      | ok x w' =>
        cases x <;> simp only [Oper.uponIn] at hh ⊢ <;>
          first
            | exact h _ _ hh
            | exact ⟨hh.1, CallsIn.mono hh.2 (fun e w'' he => by cases e <;> first | exact h _ _ he | exact hq _ _ _ (by simp) he | exact hq' he)⟩
            | exact ⟨hh.1, RowsIn.mono hh.2 (fun _ _ he => h _ _ he)⟩
            | exact ⟨hh.1, RoundIn.mono hh.2 (fun e w'' he => by cases e <;> first | exact h _ _ he | exact hq _ _ _ (by simp) he | exact hq' he)⟩
      | halt x w' => cases x <;> simp only [Oper.uponIn] at hh ⊢ <;> exact hq _ _ _ (by simp) hh
    · rename_i hw; simp only [hw] at hh; exact ⟨hh.1, h _ _ hh.2⟩

theorem wpOpsIn_append {F : Fence} {n : Nat} {P : Program} {ops : Array Oper} {Q Q' : Exit → Act → World → Prop} (l2 : List Nat) (hq : ∀ e a w, e ≠ .normal → Q e a w → Q' e a w) (hn : ∀ a w, Q .normal a w → wpOpsIn F n P ops Q' l2 a w) :
    ∀ (l : List Nat) (a : Act) (w : World), wpOpsIn F n P ops Q l a w → wpOpsIn F n P ops Q' (l ++ l2) a w := by
  intro l
  induction l with
  | nil => intro a w h; exact hn a w h
  | cons i l ih =>
    intro a w h
    rw [List.cons_append, wpOpsIn_cons]
    rw [wpOpsIn_cons] at h
    exact wpOpIn_mono2 (fun a w h => ih a w h) hq h

theorem splitD_spec {c A rest : Code} {ops : Array Oper} {f : Operand} (h : splitD c = some (A, ops, f, rest)) :
    ∃ id o cc, c = .seq A (.seq (.region id ops false) rest) ∧ ops[ops.size - 1]? = some o ∧ o.op = .defer cc ∧ o.guard = none ∧ o.dst = none ∧ cc.callee = .value f ∧ cc.args = #[] := by
  unfold splitD at h
  split at h
  · split at h
    · rename_i o ho
      split at h
      · rename_i cc h1 h2 h3
        split at h
        · rename_i g e1 e2
          cases h
          exact ⟨_, o, cc, rfl, ho, h1, h2, h3, e1, by apply Array.ext'; exact e2⟩
        · cases h
      · cases h
    · cases h
  · cases h

theorem MarksB.cons {m : Nat} {base ds : List Deferred} {w : World} (d : Deferred) (h : ds = d :: base) : MarksB m (d :: base) ds w := ⟨[], by simp [h], List.nodup_nil, fun d hd => by simp at hd⟩

/-- The defer. -/
theorem defer_ok {P : Program} {ops : Array Oper} {i : Nat} {o : Oper} {cc : Call} {f : Operand} {h : FuncId} {vx vy : Array Value} (ho : ops[i]? = some o) (hop : o.op = .defer cc) (hog : o.guard = none) (hod : o.dst = none) (hcf : cc.callee = .value f) (hca : cc.args = #[])
    (hf : a.eval f = .func (.func h) vx vy) {Q : Exit → Act → World → Prop} (hQ : Q .normal { a with defers := { target := .fn (.func h) vy, args := vx } :: a.defers } w) : wpOpsIn (FW none) 0 P ops Q [i] a w := by
  rw [wpOpsIn_cons]
  unfold wpOpIn
  simp only [ho]
  have hw : Region.wanted o (yielded ops a.tmps) = true := by unfold Region.wanted; rw [hog]
  rw [hw]
  simp only [if_true]
  refine ⟨fun q hq => (by rw [about_none (fun c e => by rw [hop] at e; cases e)] at hq; cases hq), ?_⟩
  have hrun : (o.semAt (FW none).round a.eval).run P w = .ok (.defer { target := .fn (.func h) vy, args := vx }) w := by
    show Sem.run P (execOp a.eval o) w = _
    unfold execOp
    rw [hop]
    simp only [resolve, hcf, hca, hf, Deferred.ofValue]
    simp
  rw [hrun, Oper.uponIn_defer, hod]
  exact hQ

/-- Marks first, then what was deferred before. -/
theorem leaves_pre {P : Program} {F : Fence} {n : Nat} {fn : Func} {tmps : Array Value} {R : Ending → World → Prop} {u : FrameMode} (hu : u ≠ .run) {m : Nat} {w0 : World} {ds2 : List Deferred} : ∀ (ds : List Deferred) (w : World), Marks m ds w → Dead m w0 w →
    (∀ w', Dead m w0 w' → LeavesInM F n P fn tmps R ds2 u w') → LeavesInM F n P fn tmps R (ds ++ ds2) u w := by
  intro ds
  induction ds with
  | nil => intro w _ hd h; exact h w hd
  | cons d ds ih =>
    intro w hm hd h
    obtain ⟨b, e1, e2, e3⟩ := hm.2 d (by simp)
    have hlt := lt_of_block e3
    have hnd := List.nodup_cons.1 hm.1
    refine ⟨hu, .inl ⟨b, w.putObj b (.deferred none), by rw [e1], run_takeDeferred e3, ih _ ⟨hnd.2, fun d' hd' => ?_⟩ ⟨by rw [World.putObj_size]; exact hd.size, fun b' => ?_, hd.os, hd.tape, hd.output⟩ h⟩⟩
    · obtain ⟨b', g1, g2, g3⟩ := hm.2 d' (List.mem_cons_of_mem _ hd')
      have hne : b' ≠ b := fun e => by subst e; rw [← e1] at g1; subst g1; exact hnd.1 hd'
      exact ⟨b', g1, g2, by rw [World.putObj_heap_other hne]; exact g3⟩
    · by_cases e : b' = b
      · subst e
        rw [World.putObj_heap_same hlt]
        rcases hd.blocks b' with h1 | ⟨h1, h2, h3⟩
        · exact .inr ⟨e2, h1 ▸ e3, rfl⟩
        · exact .inr ⟨h1, h2, rfl⟩
      · rw [World.putObj_heap_other e]; exact hd.blocks b'

theorem namesL_mem {l : List AV} {j : Nat} {x : AV} {n : Nat} (h : l[j]? = some x) (hn : n ∈ x.names) : n ∈ AV.namesL l := by
  induction l generalizing j with
  | nil => simp at h
  | cons y l ih =>
    simp only [AV.namesL, List.mem_append]
    cases j with
    | zero => simp at h; subst h; exact .inl hn
    | succ j => exact .inr (ih (by simpa using h))

/-- A value hangs on its names alone. -/
theorem VR.byNames {S S' : Stab} {ρ ρ' : Rho} {w w' : World} (x : Ext S w S' w') {a : AV} {v : Value} (h : VR S ρ w a v) : (∀ id ∈ a.names, ∀ r, ρ id = some r → ρ' id = some r) → VR S' ρ' w' a v := by
  induction h with
  | pure h => intro _; exact .pure (h.ext x)
  | undef v => intro _; exact .undef v
  | own0 id h => intro hr; exact .own0 id (hr _ (by simp [AV.names]) _ h)
  | own id b sz n cap h hc hb =>
    intro hr
    obtain ⟨c, t, fr, h1, h2⟩ := hb
    obtain ⟨c', fr', h3, h4⟩ := x.shape b c t fr h1
    exact .own id b sz n cap (hr _ (by simp [AV.names]) _ h) hc ⟨c', t, fr', h3, h4 ▸ h2⟩
  | row0 id o c a => intro _; exact .row0 id o c a
  | row id o l b sz n cap h hl => intro hr; exact .row id o l b sz n cap (hr _ (by simp [AV.names]) _ h) hl
  | ptr id i o b sz n h => intro hr; exact .ptr id i o b sz n (hr _ (by simp [AV.names]) _ h)
  | yld id b sz n h => intro hr; exact .yld id b sz n (hr _ (by simp [AV.names]) _ h)
  | mp id b sz n h => intro hr; exact .mp id b sz n (hr _ (by simp [AV.names]) _ h)
  | agg cs vs hl _ ih => intro hr; exact .agg cs vs hl fun j c v hc hv => ih j c v hc hv fun id hid => hr id (by simp only [AV.names]; exact namesL_mem hc hid)
  | tup cs vs hl _ ih => intro hr; exact .tup cs vs hl fun j c v hc hv => ih j c v hc hv fun id hid => hr id (by simp only [AV.names]; exact namesL_mem hc hid)
  | iface t a v _ ih => intro hr; exact .iface t a v (ih fun id hid => hr id (by simpa only [AV.names] using hid))
  | fn g a b va vb h1 h2 _ _ i1 i2 =>
    intro hr
    exact .fn g a b va vb h1 h2 (fun j c v hc hv => i1 j c v hc hv fun id hid => hr id (by simp only [AV.names, List.mem_append]; exact .inl (namesL_mem hc hid)))
      (fun j c v hc hv => i2 j c v hc hv fun id hid => hr id (by simp only [AV.names, List.mem_append]; exact .inr (namesL_mem hc hid)))

theorem runBodyD_ok (GE : GSound G) {call : CallFn} (hcall : CallOK G call) {loop : LoopFn} (hloop : ∀ f c st r, loop f c st = some r → LoopSound G f c st r)
    {g : FuncId} {args : List AV} {hp : Heap} {r : ARes × Heap} (hE : G.E g = true) (hr : runBodyD G call loop g args hp = some r) : CallSound G.P g args hp r := by
  intro S ρ w vs hl H hb hlen hargs
  unfold runBodyD at hr
  rw [Option.bind_eq_some_iff] at hr; obtain ⟨fn, hfn, hr⟩ := hr
  rw [Option.bind_eq_some_iff] at hr; obtain ⟨q, hq, hr⟩ := hr
  rw [Option.bind_eq_some_iff] at hq; obtain ⟨c, hc, hs⟩ := hq
  obtain ⟨A, ops, f, rest⟩ := q
  obtain ⟨id, o, cc, rfl, ho, hop, hog, hod, hcf, hca⟩ := splitD_spec hs
  simp only at hr
  rw [Option.bind_eq_some_iff] at hr; obtain ⟨⟨x0, s0⟩, hA, hr⟩ := hr
  cases x0 with
  | exit i => cases hr
  | ret => cases hr
  | pan v => cases hr
  | normal =>
    simp only at hr
    rw [Option.bind_eq_some_iff] at hr; obtain ⟨⟨x1, s1⟩, hops, hr⟩ := hr
    cases x1 with
    | exit i => cases hr
    | ret => cases hr
    | pan v => cases hr
    | normal =>
      simp only at hr
      split at hr
      case isFalse => cases hr
      rename_i hck
      simp only [Bool.and_eq_true] at hck
      obtain ⟨⟨⟨hk1, hk5⟩, hk2⟩, hk3⟩ := hck
      rw [Option.bind_eq_some_iff] at hr; obtain ⟨⟨x2, s3⟩, hrest, hr⟩ := hr
      split at hr
      · cases hr
      rename_i hk4
      rw [Option.bind_eq_some_iff] at hr; obtain ⟨rv, hrv, hr⟩ := hr
      rw [Option.bind_eq_some_iff] at hr; obtain ⟨⟨z1, mvd⟩, hclo, hr⟩ := hr
      cases z1 with
      | pan v s => cases hr
      | val v s4 =>
        simp only at hr
        obtain ⟨vsr, hres, rfl⟩ := Option.map_eq_some_iff.1 hr
        have hbeg := begin_ok (k := fn.ntmps - vs.size) hl H hb hlen hargs
        have hge : fn.ntmps ≤ (vs ++ Array.replicate (fn.ntmps - vs.size) Go.undef).size := by simp; omega
        generalize htm : vs ++ Array.replicate (fn.ntmps - vs.size) Go.undef = tm at *
        have hd := dstsB_mono hge _ (GE.ok.dsts g fn _ hE hfn hc)
        have hpl := GE.plans g fn _ hE hfn hc
        simp only [dstsB, plansB, Bool.and_eq_true] at hd hpl
        have hnt := Nat.le_trans (GE.ntm g fn hE hfn) hge
        refine callsIn_of_wp_marks hfn hc (GE.ok.inP g hE) ?_
        rw [htm]
        have hAw := codeX_ok (ro := none) (n := tm.size) (base := []) (a := { tmps := tm, defers := [] }) GE hcall hloop A (.inl ⟨rfl, hnt⟩) hd.1 hpl.1 ⟨[], rfl, List.nodup_nil, fun d hd => by simp at hd⟩ hbeg rfl hA
        refine wpIn_seq (wpIn_mono hAw fun e a0 w0 ⟨⟨ms0, hms0, hM0⟩, hn0, S0, ρ0, h0, hx0⟩ => ?_)
        cases e with
        | normal =>
          rw [List.append_nil] at hms0
          have hpos := (Array.getElem?_eq_some_iff.1 ho).1
          have hrange : List.range ops.size = List.range (ops.size - 1) ++ [ops.size - 1] := by
            obtain ⟨k, hk⟩ : ∃ k, ops.size = k + 1 := ⟨ops.size - 1, by omega⟩
            rw [hk, List.range_succ]; simp
          refine wpIn_seq (wpIn_region ?_)
          rw [hrange]
          refine wpOpsIn_append [ops.size - 1] (Q := CodeDone (rebase (envOf S ρ w hl) h0.fr) a0.defers tm.size (.normal, s1)) (fun e a w hne hq => ?_) (fun a1 w1 hq1 => ?_) _ _ _ (aops_ok GE.ok hcall hd.2.1 _ h0.base hn0 hops)
          · obtain ⟨_, _, _, _, _, hx⟩ := hq
            cases e <;> first | exact absurd rfl hne | exact hx.elim
          · obtain ⟨d1, n1, S1, ρ1, h1, _⟩ := hq1
            have h1' := h1.unbase h0.fr
            simp only at h1'
            have hfv := h1'.ev f
            obtain ⟨hh, first, caps, hfe⟩ : ∃ hh first caps, s1.ev f = .fn (.func hh) first caps := by
              cases hev : s1.ev f with
              | fn q x y => rw [hev] at hk5; cases q <;> simp [isFn] at hk5; exact ⟨_, _, _, rfl⟩
              | _ => rw [hev] at hk5; simp [isFn] at hk5
            rw [hfe] at hfv hclo hk4
            obtain ⟨vx, vy, hfe2, hx1, hx2, hvx, hvy⟩ := vr_fn hfv
            refine defer_ok ho hop hog hod hcf hca hfe2 ?_
            generalize hns : reachL 60 s1.hp (hp.map (·.1) ++ AV.namesL (s1.sl.map (·.2))) [] = ns at *
            have hnd : ns.Nodup := by rw [← hns]; exact reachL_nodup _ _ _ _ List.nodup_nil
            have hlen2 : ns.length ≤ 60 := by rw [← hns]; simpa using reachL_length s1.hp 60 (hp.map (·.1) ++ AV.namesL (s1.sl.map (·.2))) []
            have hlow : ∀ n q, subRho ns ρ1 n = some q → n < 1000 := by
              intro n q hq
              unfold subRho at hq
              rw [Option.bind_eq_some_iff] at hq
              obtain ⟨m, hm, _⟩ := hq
              have := (List.getElem?_eq_some_iff.1 hm).1
              omega
            have hlow : Ent S1 (subRho ns ρ1) w1 := ⟨hlow, h1'.fr.glob⟩
            have hR := h1'.rename hnd hlow
            have hRw := codeX_ok (ro := none) (n := tm.size) (base := { target := .fn (.func hh) vy, args := vx } :: ms0) (a := { a1 with defers := { target := .fn (.func hh) vy, args := vx } :: a1.defers }) GE hcall hloop rest (.inl ⟨rfl, hnt⟩) hd.2.2 hpl.2.2 (MarksB.cons _ (by simp [d1, hms0])) hR n1 hrest
            refine wpIn_mono hRw fun e a2 w2 ⟨⟨ms2, hms2, hM2⟩, n2, S3, ρ3, h3, hx3⟩ => ?_
            have hpure : rv.pureB = true := by
              unfold recOf at hrv
              split at hrv
              · cases hrv; rfl
              · cases hrv; rfl
              · split at hrv
                · cases hrv; assumption
                · cases hrv
              · cases hrv
            have hin : ∀ n r, (envOf S ρ w hl).R0 n = some r → ns[n]? = some n ∧ ∃ o, aget s1.hp n = some o ∧ o.moved = false := by
              intro n r hn
              have hn : ρ n = some r := hn
              have hmem : n ∈ hp.map (·.1) := by
                cases ho : aget hp n with
                | none => rw [H.dom n ho] at hn; cases hn
                | some o => exact List.mem_map.2 ⟨(n, o), aget_mem ho, rfl⟩
              have g1 : ns[n]? = some n := by simpa using (List.all_eq_true.1 hk2) n hmem
              have g2 : n ∈ ns := List.mem_of_getElem? g1
              have g3 := (List.all_eq_true.1 hk1) n g2
              have g4 := (List.all_eq_true.1 hk3) n g2
              cases ho : aget s1.hp n with
              | none => rw [ho] at g3; cases g3
              | some o => rw [ho] at g4; exact ⟨g1, o, rfl, by simpa using g4⟩
            have core : ∀ u uv, u ≠ .run → Finds u uv → VR S3 ρ3 w2 rv uv → LeavesInM (FW none) 0 G.P fn a2.tmps (fun e w' => ∃ S' ρ', Out (envOf S ρ w hl) (retA (finishA G g (hp.map (·.1)) (resOf vsr) s4)).2 S' ρ' w' ∧ AnswerR S' ρ' w' (retA (finishA G g (hp.map (·.1)) (resOf vsr) s4)).1 e) a2.defers u w2 := by
              intro u uv hu hF hv
              rw [hms2]
              refine leaves_pre hu ms2 w2 hM2 ⟨rfl, fun _ => .inl rfl, rfl, rfl, rfl⟩ fun w3 hdead => ?_
              have h3' := h3.dead hdead
              have hbx : ∀ n ∈ (AV.ren (toMap ns) (.fn (.func hh) first caps)).names, isBoxAt s3.hp n = true := by
                simpa using hk4
              have hval : VR S3 ρ3 w3 (AV.ren (toMap ns) (.fn (.func hh) first caps)) (a1.eval f) := by
                refine VR.byNames h3'.fr.ext hfv.sub fun n hn q hq => ?_
                have hb := hbx n hn
                unfold isBoxAt at hb
                split at hb
                · rename_i v hv
                  exact h3'.old n _ hv rfl q hq
                · cases hb
              have hrv3 : VR S3 ρ3 w3 rv uv := hv.ext (hdead.ext S3) fun _ _ h => h
              have hfne : AV.ren (toMap ns) (.fn (.func hh) first caps) = .fn (.func hh) (AV.renL (toMap ns) first) (AV.renL (toMap ns) caps) := by simp only [AV.ren]
              rw [hfne] at hval hclo
              obtain ⟨vx', vy', hEh, hev', hcc⟩ := callF_ok (E := envR (envOf S ρ w hl) S1 (subRho ns ρ1) w1 hlow) (Cc := fun vs R => CallsDIn (FW none) 0 G.P hh vs u w3 fun e u' w' => settle u' = .returning ∧ (∃ v, e = .returned v) ∧ R e w')
                h3' (fun vs R R' hh hRR => CallsDIn.mono hh fun e u' w' ⟨q1, q2, q3⟩ => ⟨q1, q2, hRR _ _ q3⟩)
                (fun S' ρ' args hp' r' vs' hl' hSS hcf' HH hb' hlen' hargs' => runClosure_ok GE (by
                  unfold callB at hclo
                  dsimp only at hclo
                  split at hclo
                  · rename_i hc'; simp only [Bool.and_eq_true] at hc'; exact hc'.1.1
                  · cases hclo) hcf' hl' HH hb' hlen' hargs' hF (.pure ((hrv3.pr hpure).ext (Ext.more hSS w3))))
                hval hclo
              rw [hfe2] at hev'
              cases hev'
              refine ⟨hu, .inr ⟨fun hd => absurd hd (by decide), .func hh, vy, hh, vx ++ vy, rfl, GE.ok.enter hh hEh _ _, fun q hq => (by simp only [Target.leads, Option.some.injEq] at hq; subst hq; exact GE.ok.inP _ hEh), ?_⟩⟩
              refine CallsDIn.mono hcc fun e u' w5 ⟨q1, ⟨vv, q2⟩, q3⟩ => ?_
              subst q2
              simp only
              rw [q1]
              obtain ⟨uu, S5, ρ5, _, h5, _, _⟩ := q3
              have hM5 : Marks (envOf S ρ w hl).W0.heap.size ms0 w5 := by
                refine ⟨hM0.1, fun d' hd' => ?_⟩
                obtain ⟨b, g1, g2, g3⟩ := hM0.2 d' hd'
                exact ⟨b, g1, g2, h5.fr.dfr b (h1.fr.dfr b g3)⟩
              have h6 := SR.unname h1' hin h5
              refine leaves_ok (by simp) ms0 w5 hM5 ⟨rfl, fun _ => .inl rfl, rfl, rfl, rfl⟩ fun w6 hdead6 => ?_
              have k3 := h6.dead hdead6
              obtain ⟨u6, hu6, hvu6⟩ := results_ok k3 hres
              refine ⟨u6, hu6, ?_⟩
              unfold finishA
              split
              · obtain ⟨ρ'', o1, o2⟩ := out_ok (m := hp.map (·.1)) k3.heap k3.mine k3.old k3.fr hvu6
                exact ⟨S5, ρ'', o1, o2⟩
              · obtain ⟨S2, f1, f2, f3, f4⟩ := k3.fix (resOf vsr).rows
                have hv2 := rv_fixed k3 f1 f2 f3 f4 hvu6 fun n hn => hn
                obtain ⟨ρ'', o1, o2⟩ := out_ok (m := hp.map (·.1)) f2.heap f2.mine f2.old f2.fr hv2
                exact ⟨S2, ρ'', o1, o2⟩
            cases x2 with
            | exit i => cases hrv
            | normal =>
              cases hrv
              cases e with
              | normal => exact core .returning .nilIface (by simp) (.inl ⟨rfl, rfl⟩) (.pure .nili)
              | _ => exact hx3.elim
            | ret =>
              cases hrv
              cases e with
              | ret => exact core .returning .nilIface (by simp) (.inl ⟨rfl, rfl⟩) (.pure .nili)
              | _ => exact hx3.elim
            | pan v2 =>
              simp only [recOf] at hrv
              split at hrv
              · cases hrv
                cases e with
                | panic ch =>
                  obtain ⟨u, rfl, hv⟩ := hx3
                  exact core _ u (by simp) (.inr rfl) hv
                | _ => exact hx3.elim
              · cases hrv
        | _ => exact hx0.elim

theorem runFn_ok (GE : GSound G) {call : CallFn} (hcall : CallOK G call) {loop : LoopFn} (hloop : ∀ f c st r, loop f c st = some r → LoopSound G f c st r)
    {g : FuncId} {args : List AV} {hp : Heap} {r : ARes × Heap} (hE : G.E g = true) (hr : runFn G call loop g args hp = some r) : CallSound G.P g args hp r := by
  unfold runFn at hr
  split at hr
  · exact runBodyD_ok GE hcall hloop hE hr
  · exact runBody_ok GE hcall hloop hE hr

end Go.Proofs.YtbjphckpbkacaaaGreatDoor.Abs


/- Loops over maps: whichever entry comes next, it comes to the same. -/
namespace Go.Proofs.YtbjphckpbkacaaaGreatDoor.Abs
open Go Go.RowKit
set_option linter.unusedSimpArgs false
set_option linter.unusedVariables false

variable {G : Cfg} {S : Stab} {ρ : Rho} {w : World} {E : Env} {st : ASt} {a : Act}

/-! ### The same -/
theorem entBeq_eq : ∀ {x y : List (Nat × AV × AV)}, entBeq x y = true → x = y
  | [], [], _ => rfl
  | [], _ :: _, h => by simp [entBeq] at h
  | _ :: _, [], h => by simp [entBeq] at h
  | a :: x, b :: y, h => by
    simp only [entBeq, Bool.and_eq_true, beq_iff_eq] at h
    obtain ⟨⟨⟨h1, h2⟩, h3⟩, h4⟩ := h
    obtain ⟨a1, a2, a3⟩ := a; obtain ⟨b1, b2, b3⟩ := b
    simp only at h1 h2 h3
    rw [h1, beq_eq _ _ h2, beq_eq _ _ h3, entBeq_eq h4]
theorem aobjBeq_eq {x y : AObj} (h : AObj.beq x y = true) : x = y := by
  cases x <;> cases y <;> simp only [AObj.beq, Bool.and_eq_true, beq_iff_eq, decide_eq_true_eq] at h <;> try (cases h; done)
  · rw [h.1, beq_eq _ _ h.2]
  · rw [h.1.1.1, beqL_eq _ _ h.1.1.2, h.1.2, h.2]
  · rw [entBeq_eq h.1, h.2]
  · rw [beq_eq _ _ h.1.1.1, h.1.1.2, h.1.2, h.2]
theorem slBeq_eq : ∀ {x y : Slots}, slBeq x y = true → x = y
  | [], [], _ => rfl
  | [], _ :: _, h => by simp [slBeq] at h
  | _ :: _, [], h => by simp [slBeq] at h
  | a :: x, b :: y, h => by
    simp only [slBeq, Bool.and_eq_true, beq_iff_eq] at h
    obtain ⟨a1, a2⟩ := a; obtain ⟨b1, b2⟩ := b
    rw [show a1 = b1 from h.1.1, show a2 = b2 from beq_eq _ _ h.1.2, slBeq_eq h.2]
theorem hpBeq_eq : ∀ {x y : Heap}, hpBeq x y = true → x = y
  | [], [], _ => rfl
  | [], _ :: _, h => by simp [hpBeq] at h
  | _ :: _, [], h => by simp [hpBeq] at h
  | a :: x, b :: y, h => by
    simp only [hpBeq, Bool.and_eq_true, beq_iff_eq] at h
    obtain ⟨a1, a2⟩ := a; obtain ⟨b1, b2⟩ := b
    rw [show a1 = b1 from h.1.1, show a2 = b2 from aobjBeq_eq h.1.2, hpBeq_eq h.2]
theorem axBeq_eq {x y : AX} (h : AX.beq x y = true) : x = y := by
  cases x <;> cases y <;> simp only [AX.beq, beq_iff_eq] at h <;> try (cases h; done)
  · rfl
  · rw [h]
  · rfl
  · rw [beq_eq _ _ h]
theorem resBeq_eq {x y : AX × ASt} (h : resBeq x y = true) : x = y := by
  unfold resBeq at h
  simp only [Bool.and_eq_true] at h
  obtain ⟨x1, x2, x3⟩ := x; obtain ⟨y1, y2, y3⟩ := y
  rw [show x1 = y1 from axBeq_eq h.1.1, show x2 = y2 from slBeq_eq h.1.2, show x3 = y3 from hpBeq_eq h.2]
theorem sameAll_all : ∀ {l : List (Option (AX × ASt))} {r : AX × ASt}, sameAll l = some r → ∀ x ∈ l, x = some r
  | [], _, h, _, _ => by cases h
  | x :: l, r, h, z, hz => by
    unfold sameAll at h
    split at h
    · rename_i he
      have : l = [] := by simpa using he
      subst this
      obtain rfl : z = x := by simpa using hz
      exact h
    · rw [Option.bind_eq_some_iff] at h
      obtain ⟨y, hy, h⟩ := h
      rw [Option.bind_eq_some_iff] at h
      obtain ⟨x', hx, h⟩ := h
      split at h
      · rename_i hb
        cases h
        rcases List.mem_cons.1 hz with rfl | hz
        · rw [hx, resBeq_eq hb]
        · exact sameAll_all hy z hz
      · cases h

/-! ### An iterator goes -/
theorem SR.drop {tm : Array Value} (h : SR E st S ρ tm w) (n : Nat) : SR E (dropSt n st) S (fun m => if m = n then none else ρ m) tm w := by
  have hr : ∀ id r, id ≠ n → ρ id = some r → (fun m => if m = n then none else ρ m) id = some r := fun id r hid hh => by simp [hid, hh]
  have hget : ∀ m, aget (dropSt n st).hp m = if m = n then none else (aget st.hp m).map (AObj.kill n) := fun m => by
    show aget ((st.hp.filter fun p => p.1 != n).map fun p => (p.1, p.2.kill n)) m = _
    rw [aget_map, aget_filter_ne]
    split <;> rfl
  refine ⟨fun t => ?_, ⟨fun m o ho => ?_, fun m hm => ?_, fun m k b sz sz' j j' h1 h2 => ?_⟩, fun m b sz k hh => ?_, fun m o ho hmv r hr0 => ?_, h.fr⟩
  · have e : (dropSt n st).slot t = (st.slot t).kill n := slot_killn st n t
    rw [e]
    exact (h.slot t).kill n hr
  · rw [hget] at ho
    split at ho
    · cases ho
    · rename_i hne
      obtain ⟨q, hq, rfl⟩ := Option.map_eq_some_iff.1 ho
      exact (h.heap.obj m q hq).kill hr hne
  · rw [hget] at hm
    split at hm
    · rename_i e; simp [e]
    · rename_i hne; simp only [hne, if_false]
      exact h.heap.dom m (by simpa using hm)
  · have h1 : (if m = n then none else ρ m) = some ⟨some (b, sz), j⟩ := h1
    have h2 : (if k = n then none else ρ k) = some ⟨some (b, sz'), j'⟩ := h2
    split at h1
    · cases h1
    · split at h2
      · cases h2
      · exact h.heap.inj _ _ _ _ _ _ _ h1 h2
  · have hh : (if m = n then none else ρ m) = some ⟨some (b, sz), k⟩ := hh
    split at hh
    · cases hh
    · exact h.mine m b sz k hh
  · rw [hget] at ho
    split at ho
    · cases ho
    · rename_i hne
      obtain ⟨q, hq, rfl⟩ := Option.map_eq_some_iff.1 ho
      rw [moved_kill] at hmv
      simp only [hne, if_false]
      exact h.old m q hq hmv r hr0

/-! ### The next entry -/
theorem entR_mem {es : List (Nat × AV × AV)} {M : Array MapEntry} (hE : EntR S w es M) {m : MapEntry} (hm : m ∈ M.toList) : ∃ e ∈ es, m.born = e.1 ∧ PR S w e.2.1 m.key ∧ PR S w e.2.2 m.val := by
  obtain ⟨j, hj, rfl⟩ := List.getElem_of_mem hm
  have hlt : j < es.length := by rw [← hE.1]; simpa using hj
  obtain ⟨m', h1, h2⟩ := hE.2 j es[j] (List.getElem?_eq_getElem hlt)
  have : m' = M.toList[j] := by
    have : M[j]? = some M.toList[j] := by rw [← Array.getElem?_toList]; exact List.getElem?_eq_getElem hj
    rw [h1] at this; exact Option.some.inj this
  subst this
  exact ⟨es[j], List.getElem_mem hlt, h2⟩
theorem entR_mem' {es : List (Nat × AV × AV)} {M : Array MapEntry} (hE : EntR S w es M) {e : Nat × AV × AV} (he : e ∈ es) : ∃ m ∈ M.toList, m.born = e.1 := by
  obtain ⟨j, hj, rfl⟩ := List.getElem_of_mem he
  obtain ⟨m, h1, h2, _⟩ := hE.2 j _ (List.getElem?_eq_getElem hj)
  exact ⟨m, List.mem_of_getElem? (by rw [Array.getElem?_toList]; exact h1), h2⟩
/-- What a step of the iterator comes to. -/
theorem next_ok (h : SR E st S ρ a.tmps w) {it n nx mo : Nat} (hit : st.slot it = .ptr n 0 0) {v : AV} {since last : Nat} {seen : List Nat} (hn : aget st.hp n = some (.iter v since seen last)) {es : List (Nat × AV × AV)} {k : Nat} (he : mapObj st.hp v = some (es, k))
    (hall : (es.all fun e => decide (e.1 < since)) = true) (hsl : since ≤ last) {P : Program} (ty : TypeId) :
    ∃ (c : Option (Nat × AV × AV)) (u : Value) (w' : World) (hp' : Heap), c ∈ (if (es.filter fun e => !seen.contains e.1).isEmpty then [none] else (es.filter fun e => !seen.contains e.1).map some) ∧
      (Instr.next (a.eval (.tmp it)) false ty).run P w = .ok u w' ∧ SR E { st with hp := hp' } S ρ a.tmps w' ∧
      ((c = none ∧ u = .tuple #[.bool false] ∧ hp' = st.hp) ∨ ∃ e ek ev, c = some e ∧ u = .tuple #[.bool true, ek, ev] ∧ PR S w' e.2.1 ek ∧ PR S w' e.2.2 ev ∧ hp' = hput n (.iter v since (seen ++ [e.1]) k) st.hp) := by
  have hx := h.ev (.tmp it)
  have hx' : VR S ρ w (.ptr n 0 0) (a.eval (.tmp it)) := by rw [← hit]; exact hx
  obtain ⟨bp, sz, kk, hρ, eu⟩ := vr_ptr hx'
  obtain ⟨b, r, h1, h2, h3, h4⟩ := h.heap.obj n _ hn
  rw [hρ] at h1; cases h1
  obtain ⟨mb, M, e1, hmb, hE⟩ := mapObj_ok h.heap h4 he
  cases e1
  have ea : a.eval (.tmp it) = .pointer (some ⟨bp, 0, none⟩) := by rw [eu]; simp [at0]
  have hold : ∀ x ∈ M.toList, x.born < since := fun x hx => by
    obtain ⟨e, he1, he2, _⟩ := entR_mem hE hx
    rw [he2]
    simpa using List.all_eq_true.1 hall e he1
  rcases run_next_at (P := P) w ty bp mb since last seen.toArray M k h2 hmb hold hsl with ⟨h0, hrun⟩ | ⟨e, hel, w1, hw1, hrun⟩
  · have hem : (es.filter fun e => !seen.contains e.1).isEmpty = true := by
      rw [List.isEmpty_iff, List.filter_eq_nil_iff]
      intro x hx hc
      obtain ⟨m, hm, hmb'⟩ := entR_mem' hE hx
      have : m ∈ (leftOf M seen.toArray).toList := by
        unfold leftOf
        simp only [Array.toList_filter, List.mem_filter]
        refine ⟨hm, ?_⟩
        rw [hmb']; simpa using hc
      have hz : (leftOf M seen.toArray).toList.length = 0 := by simpa using h0
      rw [List.length_eq_zero_iff] at hz
      rw [hz] at this
      cases this
    exact ⟨none, _, w, st.hp, by rw [if_pos hem]; simp, by rw [ea]; exact hrun, h, .inl ⟨rfl, rfl, rfl⟩⟩
  · unfold leftOf at hel
    simp only [Array.toList_filter, List.mem_filter] at hel
    obtain ⟨x, hx1, hx2, hx3, hx4⟩ := entR_mem hE hel.1
    have hmem : x ∈ es.filter fun e => !seen.contains e.1 := by
      rw [List.mem_filter]
      refine ⟨hx1, ?_⟩
      have := hel.2
      rw [hx2] at this
      simpa using this
    have hne : ¬ (es.filter fun e => !seen.contains e.1).isEmpty = true := by
      rw [List.isEmpty_iff]; intro hh; rw [hh] at hmem; cases hmem
    have hd : SR E st S ρ a.tmps w1 ∧ Ext S w S w1 := by
      rcases hw1 with rfl | rfl
      · exact ⟨h, Ext.refl _ _⟩
      · exact ⟨h.drew, Ext.drew _ _⟩
    have h2' : w1.heap[bp]? = some (.mapIter (some mb) since seen.toArray last) := by rcases hw1 with rfl | rfl <;> exact h2
    have hbk : ChangeMaps.setBlock w1 bp (.mapIter (some mb) since (seen.toArray.push e.born) k) = w1.putObj bp (.mapIter (some mb) since (seen.toArray.push e.born) k) := rfl
    have hlt := lt_of_block h2'
    have hxt : Ext S w1 S (w1.putObj bp (.mapIter (some mb) since (seen.toArray.push e.born) k)) := by
      refine ⟨fun _ _ h => h, fun b o' _ => ?_, fun b c t fr hb => ?_⟩
      · by_cases e' : b = bp
        · subst e'
          have hh : (w1.putObj b (Obj.mapIter (some mb) since (seen.toArray.push e.born) k)).heap[b]? = some (Obj.mapIter (some mb) since (seen.toArray.push e.born) k) := World.putObj_heap_same hlt
          have : w1.cell? (at0 b o') = none := by simp [World.cell?, at0, h2']
          rw [this]
          unfold World.cell?
          simp only [at0, hh]
        · exact cell_same (World.putObj_heap_other e') o'
      · have : b ≠ bp := fun e' => by subst e'; rw [h2'] at hb; cases hb
        exact ⟨c, fr, by rw [World.putObj_heap_other this]; exact hb, rfl⟩
    have hch := hd.1.change (o := .iter v since (seen ++ [x.1]) k) hn hρ hxt (fun b' hne => World.putObj_heap_other hne) World.putObj_size ⟨rfl, rfl, rfl⟩
      ⟨bp, some mb, hρ, by rw [World.putObj_heap_same hlt, hx2]; simp, h3, (h4.ext hd.2 fun _ _ h => h).ext hxt fun _ _ h => h⟩ (fun _ => rfl)
    exact ⟨some x, _, _, _, by rw [if_neg hne]; exact List.mem_map_of_mem hmem, by rw [ea]; exact hrun, hch, .inr ⟨x, e.key, e.val, rfl, rfl, (hx3.ext hd.2).ext hxt, (hx4.ext hd.2).ext hxt, rfl⟩⟩

/-- How a round of a loop is left. -/
def StepP (G : Cfg) (loop : LoopFn) (E : Env) (base : List Deferred) (n : Nat) (f : FuncId) (c : Code) (r : AX × ASt) (e : Exit) (a : Act) (w : World) : Prop :=
  match e with
  | .normal => ∃ s S ρ, loop f c s = some r ∧ SR E s S ρ a.tmps w ∧ MarksB E.W0.heap.size base a.defers w ∧ a.tmps.size = n
  | e => CodeM E base n r e a w

theorem mapStep_ok (GE : GSound G) {call : CallFn} (hcall : CallOK G call) {loop : LoopFn} (hloop : ∀ f c st r, loop f c st = some r → LoopSound G f c st r)
    {base : List Deferred} {n : Nat} {ro : Option Nat} {f : FuncId} {c : Code} {q : Nat × Nat × Nat × Nat × Code × Code} (hq : mapHead c = some q) {r : AX × ASt} (hro : (ro = none ∧ G.ntm f ≤ n) ∨ noRange c = true) (hd : dstsB n c = true) (hpl : plansB G f c = true)
    (hm : MarksB E.W0.heap.size base a.defers w) (h : SR E st S ρ a.tmps w) (hn : a.tmps.size = n) (hr : mapStep G call loop f c st q = some r) : c.wpIn (FW ro) 0 G.P (StepP G loop E base n f c r) a w := by
  obtain ⟨id, it, nx, mo, cnd, rest⟩ := q
  -- the code's shape
  obtain ⟨ops, hshape, ty0, p0, af0, ty1, p1, af1, hops, hmn⟩ : ∃ ops, (c = .seq (.seq (.region id ops false) cnd) rest ∨ c = .seq (.region id ops false) (.seq cnd rest)) ∧ ∃ ty0 p0 af0 ty1 p1 af1, ops.toList = [⟨some nx, .next (.tmp it) false, ty0, p0, af0, none⟩, ⟨some mo, .extract (.tmp nx) 0, ty1, p1, af1, none⟩] ∧ mo ≠ nx := by
    have reg : ∀ id' ops cnd' rest', mapRegion id' ops cnd' rest' = some (id, it, nx, mo, cnd, rest) → id' = id ∧ cnd' = cnd ∧ rest' = rest ∧ ∃ ty0 p0 af0 ty1 p1 af1, ops.toList = [⟨some nx, .next (.tmp it) false, ty0, p0, af0, none⟩, ⟨some mo, .extract (.tmp nx) 0, ty1, p1, af1, none⟩] ∧ mo ≠ nx := by
      intro id' ops cnd' rest' hq
      unfold mapRegion at hq
      split at hq
      · rename_i nx0 it0 ty0 p0 af0 mo0 nx1 ty1 p1 af1 ho
        split at hq
        · rename_i hc
          cases hq
          obtain ⟨rfl, hne⟩ := hc
          exact ⟨rfl, rfl, rfl, ty0, p0, af0, ty1, p1, af1, ho, hne⟩
        · cases hq
      · cases hq
    unfold mapHead at hq
    split at hq
    · obtain ⟨rfl, rfl, rfl, hh⟩ := reg _ _ _ _ hq
      exact ⟨_, .inl rfl, hh⟩
    · obtain ⟨rfl, rfl, rfl, hh⟩ := reg _ _ _ _ hq
      exact ⟨_, .inr rfl, hh⟩
    · cases hq
  have hd' : ops.toList.all (opDst n) = true ∧ dstsB n cnd = true ∧ dstsB n rest = true := by
    rcases hshape with rfl | rfl
    · simp only [dstsB, Bool.and_eq_true] at hd; exact ⟨hd.1.1, hd.1.2, hd.2⟩
    · simp only [dstsB, Bool.and_eq_true] at hd; exact ⟨hd.1, hd.2.1, hd.2.2⟩
  have hpl' : plansB G f cnd = true ∧ plansB G f rest = true := by
    rcases hshape with rfl | rfl
    · simp only [plansB, Bool.and_eq_true] at hpl; exact ⟨hpl.1.2, hpl.2⟩
    · simp only [plansB, Bool.and_eq_true] at hpl; exact ⟨hpl.2.1, hpl.2.2⟩
  obtain ⟨hd0, hd1, hd2⟩ := hd'
  obtain ⟨hp1, hp2⟩ := hpl'
  have hro' : ((ro = none ∧ G.ntm f ≤ n) ∨ noRange cnd = true) ∧ ((ro = none ∧ G.ntm f ≤ n) ∨ noRange rest = true) := by
    rcases hro with hh | hh
    · exact ⟨.inl hh, .inl hh⟩
    · rcases hshape with rfl | rfl
      · simp only [noRange, Bool.and_eq_true] at hh; exact ⟨.inr hh.1.2, .inr hh.2⟩
      · simp only [noRange, Bool.and_eq_true] at hh; exact ⟨.inr hh.2.1, .inr hh.2.2⟩
  have hsz : ops.size = 2 := by rw [← Array.length_toList, hops]; rfl
  have ho0 : ops[0]? = some ⟨some nx, .next (.tmp it) false, ty0, p0, af0, none⟩ := by rw [← Array.getElem?_toList, hops]; rfl
  have ho1 : ops[1]? = some ⟨some mo, .extract (.tmp nx) 0, ty1, p1, af1, none⟩ := by rw [← Array.getElem?_toList, hops]; rfl
  unfold mapStep at hr
  simp only at hr
  split at hr
  case h_2 => cases hr
  rename_i n0 hit
  split at hr
  case h_2 => cases hr
  rename_i v since seen last hob
  rw [Option.bind_eq_some_iff] at hr
  obtain ⟨⟨es, k⟩, he, hr⟩ := hr
  split at hr
  case isFalse => cases hr
  rename_i hcond
  simp only [Bool.and_eq_true, decide_eq_true_eq] at hcond
  obtain ⟨cc, u, w', hp', hc, hrun, hsr, hcase⟩ := next_ok (P := G.P) (nx := nx) (mo := mo) h.base hit hob he hcond.1 hcond.2 ty0
  have hb := sameAll_all hr _ (List.mem_map_of_mem hc)
  unfold mapBranch at hb
  rw [Option.bind_eq_some_iff] at hb
  obtain ⟨y, hy, hb⟩ := hb
  rw [Option.bind_eq_some_iff] at hb
  obtain ⟨z, hz, hb⟩ := hb
  -- the end of a round
  have fin : ∀ (x : AX) (s : ASt) (e : Exit) (a3 : Act) (w3 : World), z = (x, s) → CodeM E base n (x, s) e a3 w3 → StepP G loop E base n f c r e a3 w3 := by
    intro x s e a3 w3 hzz hM
    subst hzz
    obtain ⟨m1, m2, S3, ρ3, m3, m4⟩ := hM
    cases x with
    | normal =>
      cases e with
      | normal =>
        simp only at hb
        rw [Option.bind_eq_some_iff] at hb
        obtain ⟨s', hs', hl⟩ := hb
        obtain ⟨S4, ρ4, m5⟩ := canon_ok m3 hs'
        exact ⟨s', S4, ρ4, hl, m5, m1, m2⟩
      | _ => exact m4.elim
    | exit i =>
      simp only [Option.some.injEq] at hb
      subst hb
      cases e with
      | exit i' => exact ⟨m1, m2, S3, _, m3.drop n0, m4⟩
      | _ => exact m4.elim
    | ret =>
      simp only [Option.some.injEq] at hb
      subst hb
      cases e with
      | ret => exact ⟨m1, m2, S3, _, m3.drop n0, m4⟩
      | _ => exact m4.elim
    | pan pv =>
      simp only [Option.some.injEq] at hb
      subst hb
      cases e with
      | panic ch =>
        obtain ⟨pu, e1, e2⟩ := m4
        exact ⟨m1, m2, S3, _, m3.drop n0, pu, e1, e2.kill n0 fun id r hid hh => by simp [hid, hh]⟩
      | _ => exact m4.elim
  have hv0 : ∃ v0 b0, VR S ρ w' v0 u ∧ nextSt st n0 nx mo v since seen k cc = { sl := (mo, .bool b0) :: (nx, v0) :: st.sl, hp := hp' } ∧ (∃ l, v0 = .tup (.bool b0 :: l)) := by
    rcases hcase with ⟨rfl, rfl, rfl⟩ | ⟨x, ek, ev, rfl, rfl, q1, q2, rfl⟩
    · exact ⟨.tup [.bool false], false, .tup _ _ rfl fun j c v e1 e2 => by
        match j with
        | 0 => simp at e1 e2; subst e1 e2; exact .pure (.bool _)
        | j + 1 => simp at e1, rfl, [], rfl⟩
    · exact ⟨.tup [.bool true, x.2.1, x.2.2], true, .tup _ _ rfl fun j c v e1 e2 => by
        match j with
        | 0 => simp at e1 e2; subst e1 e2; exact .pure (.bool _)
        | 1 => simp at e1 e2; subst e1 e2; exact .pure q1
        | 2 => simp at e1 e2; subst e1 e2; exact .pure q2
        | j + 3 => simp at e1, rfl, _, rfl⟩
  obtain ⟨v0, b0, hvu, hns, ll, hv0l⟩ := hv0
  rw [hns] at hy
  have hdst : ∀ t, (some nx : Option Nat) = some t → t < n := fun t e => opDst_lt hd0 ho0 t e
  have hregion : wpOpsIn (FW ro) 0 G.P ops (CodeDone (rebase E h.fr) a.defers n (.normal, { sl := (mo, .bool b0) :: (nx, v0) :: st.sl, hp := hp' })) (List.range ops.size) a w := by
    rw [hsz, show List.range 2 = [0, 1] from rfl, wpOpsIn_cons]
    unfold wpOpIn
    simp only [ho0]
    rw [guard_ok (ops := ops) h.base (show guardA ops st ⟨some nx, .next (.tmp it) false, ty0, p0, af0, none⟩ = some true from rfl)]
    simp only [if_true]
    refine ⟨about_calm (about_of hd0 ho0) rfl rfl, ?_⟩
    rw [semAt_ok (fun c e => by cases e)]
    have hex : (execOp a.eval ⟨some nx, .next (.tmp it) false, ty0, p0, af0, none⟩).run G.P w = .ok (.value u) w' := by
      unfold execOp
      simp only
      rw [runB hrun]; rfl
    rw [hex, Oper.uponIn_value]
    have hs1 := hsr.putA (d := some nx) hn hdst hvu
    have ha1 : aops G call ops [1] (({ st with hp := hp' } : ASt).put (some nx) v0) = some (.normal, { sl := (mo, .bool b0) :: (nx, v0) :: st.sl, hp := hp' }) := by
      simp only [aops, ho1, guardA, Option.bind_some, if_true]
      simp [aop, calledA, invokedA, aopB, opv, ASt.put, ASt.ev, ASt.slot, aget, hv0l]
    have := aops_ok GE.ok hcall hd0 [1] (ro := ro) hs1 ((put_size _ _ _).trans hn) ha1
    rwa [put_defers] at this
  have after : ∀ e a1 w1, CodeDone (rebase E h.fr) a.defers n (.normal, { sl := (mo, .bool b0) :: (nx, v0) :: st.sl, hp := hp' }) e a1 w1 → e = .normal ∧ cnd.wpIn (FW ro) 0 G.P (Exit.then (rest.wpIn (FW ro) 0 G.P (StepP G loop E base n f c r)) (StepP G loop E base n f c r)) a1 w1 := ?_
  · rcases hshape with hs | hs
    · rw [hs]
      refine wpIn_seq (wpIn_seq (wpIn_mono (wpIn_region hregion) fun e a1 w1 hh => ?_))
      obtain ⟨rfl, hw⟩ := after e a1 w1 hh
      rw [← hs]
      exact hw
    · rw [hs]
      refine wpIn_seq (wpIn_mono (wpIn_region hregion) fun e a1 w1 hh => ?_)
      obtain ⟨rfl, hw⟩ := after e a1 w1 hh
      rw [← hs]
      exact wpIn_seq hw
  intro e a1 w1 hh
  have hM := CodeM.grow hy (codeM_of h.fr hm hh)
  have hyn : y.1 = .normal := by
    unfold growX at hy
    split at hy
    · obtain ⟨s', _, rfl⟩ := Option.map_eq_some_iff.1 hy; rfl
    · cases hy; rfl
  obtain ⟨yx, ys⟩ := y
  simp only at hyn
  subst hyn
  obtain ⟨k1, k2, S2, ρ2, k3, k4⟩ := hM
  cases e with
  | normal =>
    refine ⟨rfl, ?_⟩
    simp only [codeX] at hz
    rw [Option.bind_eq_some_iff] at hz
    obtain ⟨⟨q1, s1⟩, hz1, hz2⟩ := hz
    refine wpIn_mono (codeX_ok GE hcall hloop cnd hro'.1 hd1 hp1 k1 k3 k2 hz1) fun e2 a2 w2 hM2 => ?_
    have hM2' := hM2
    obtain ⟨m1, m2, S3, ρ3, m3, m4⟩ := hM2
    cases q1 with
    | normal =>
      cases e2 with
      | normal =>
        simp only at hz2
        obtain ⟨zx, zs⟩ := z
        exact wpIn_mono (codeX_ok GE hcall hloop rest hro'.2 hd2 hp2 m1 m3 m2 hz2) fun e3 a3 w3 hM3 => fin zx zs e3 a3 w3 rfl hM3
      | _ => exact m4.elim
    | exit i =>
      cases hz2
      cases e2 with
      | exit i' => exact fin _ _ _ _ _ rfl hM2'
      | _ => exact m4.elim
    | ret =>
      cases hz2
      cases e2 with
      | ret => exact fin _ _ _ _ _ rfl hM2'
      | _ => exact m4.elim
    | pan pv =>
      cases hz2
      cases e2 with
      | panic ch => exact fin _ _ _ _ _ rfl hM2'
      | _ => exact m4.elim
  | _ => exact k4.elim
end Go.Proofs.YtbjphckpbkacaaaGreatDoor.Abs


/- All of it: WHAT THE INTERPRETER TELLS IS SO. -/
namespace Go.Proofs.YtbjphckpbkacaaaGreatDoor.Abs
open Go Go.RowKit
set_option linter.unusedSimpArgs false
set_option linter.unusedVariables false

variable {G : Cfg} {S : Stab} {ρ : Rho} {w : World} {E : Env} {st : ASt} {a : Act}

/-! ### All of them -/
def PrimSound (G : Cfg) (prim : FuncId → Option CallFn) : Prop := ∀ g p args hp r, G.E g = true → prim g = some p → p g args hp = some r → CallSound G.P g args hp r

theorem least_ex {p : Nat → Prop} (h : ∃ j, p j) : ∃ j, p j ∧ ∀ i, p i → j ≤ i := by
  obtain ⟨j, hj⟩ := h
  induction j using Nat.strongRecOn with
  | _ j ih =>
    by_cases hx : ∃ i, i < j ∧ p i
    · obtain ⟨i, hi, hp⟩ := hx; exact ih i hi hp
    · exact ⟨j, hj, fun i hi => Nat.le_of_not_lt fun hlt => hx ⟨i, hlt, hi⟩⟩

theorem sound (GE : GSound G) {prim : FuncId → Option CallFn} (hprim : PrimSound G prim) : ∀ k,
    CallOK G (cK G prim k) ∧ ∀ f c st r, lK G prim k f c st = some r → LoopSound G f c st r := by
  intro k
  induction k using Nat.strongRecOn with
  | _ k ih =>
    refine ⟨⟨?_, ?_⟩, ?_⟩
    · intro g args hp r hg hE hr
      cases k with
      | zero => cases hr
      | succ k =>
        simp only [cK, both, if_pos hg] at hr
        cases hp0 : prim g with
        | some p => rw [hp0] at hr; exact hprim g p args hp r hE hp0 hr
        | none =>
          rw [hp0] at hr
          exact runFn_ok GE (ih k (by omega)).1 (ih k (by omega)).2 hE hr
    · intro L args hp r hr
      cases k with
      | zero => cases hr
      | succ k =>
        simp only [cK, both, if_neg (show ¬ RB + L < RB by omega), Nat.add_sub_cancel_left] at hr
        exact runRound_ok GE (ih k (by omega)).1 (ih k (by omega)).2 hr
    · intro f c st r hr base n ro E S ρ a w hro hd hpl hm h hn
      classical
      let J : Nat → Act → World → Prop := fun j a' w' => ∃ st S ρ, lK G prim j f c st = some r ∧ SR E st S ρ a'.tmps w' ∧ MarksB E.W0.heap.size base a'.defers w' ∧ a'.tmps.size = n
      let μ : Act → World → Nat := fun a' w' => if h : ∃ j, J j a' w' then (least_ex h).choose else 0
      refine wpIn_loop (fun a' w' => ∃ j, j ≤ k ∧ J j a' w') μ ⟨k, Nat.le_refl _, st, S, ρ, hr, h, hm, hn⟩ ?_
      rintro a1 w1 ⟨j0, hj0, hJ0⟩
      have hex : ∃ j, J j a1 w1 := ⟨j0, hJ0⟩
      have hμ : μ a1 w1 = (least_ex hex).choose := by simp only [μ]; rw [dif_pos hex]
      have hle : (least_ex hex).choose ≤ k := Nat.le_trans ((least_ex hex).choose_spec.2 j0 hJ0) hj0
      obtain ⟨st1, S1, ρ1, hr1, h1, hm1, hn1⟩ := (least_ex hex).choose_spec.1
      rw [hμ]
      generalize (least_ex hex).choose = j at *
      cases j with
      | zero => cases hr1
      | succ j =>
        simp only [lK, both] at hr1
        unfold loopStep at hr1
        split at hr1
        case h_2 q hq =>
          refine wpIn_mono (mapStep_ok (ro := ro) (n := n) GE (ih j (by omega)).1 (ih j (by omega)).2 hq hro hd hpl hm1 h1 hn1 hr1) fun e a2 w2 hP => ?_
          cases e with
          | normal =>
            obtain ⟨s', S3, ρ3, hr2, k5, k1, k2⟩ := hP
            have hJ : J j a2 w2 := ⟨s', S3, ρ3, hr2, k5, k1, k2⟩
            refine ⟨⟨j, by omega, hJ⟩, ?_⟩
            have hex2 : ∃ j, J j a2 w2 := ⟨j, hJ⟩
            simp only [μ]
            rw [dif_pos hex2]
            exact Nat.lt_succ_of_le ((least_ex hex2).choose_spec.2 j hJ)
          | _ => exact hP
        unfold loopStep0 at hr1
        rw [Option.bind_eq_some_iff] at hr1
        obtain ⟨⟨x, s⟩, hx, hr1⟩ := hr1
        have hw := codeX_ok (ro := ro) (n := n) GE (ih j (by omega)).1 (ih j (by omega)).2 c hro hd hpl hm1 h1 hn1 hx
        refine wpIn_mono hw fun e a2 w2 ⟨k1, k2, S2, ρ2, k3, k4⟩ => ?_
        cases x with
        | normal =>
          cases e with
          | normal =>
            simp only at hr1
            rw [Option.bind_eq_some_iff] at hr1
            obtain ⟨s', hs', hr2⟩ := hr1
            obtain ⟨S3, ρ3, k5⟩ := canon_ok k3 hs'
            have hJ : J j a2 w2 := ⟨s', S3, ρ3, hr2, k5, k1, k2⟩
            refine ⟨⟨j, by omega, hJ⟩, ?_⟩
            have hex2 : ∃ j, J j a2 w2 := ⟨j, hJ⟩
            simp only [μ]
            rw [dif_pos hex2]
            exact Nat.lt_succ_of_le ((least_ex hex2).choose_spec.2 j hJ)
          | _ => exact k4.elim
        | exit i =>
          simp only [Option.some.injEq] at hr1
          subst hr1
          cases e with
          | exit i' => exact ⟨k1, k2, S2, ρ2, k3, k4⟩
          | _ => exact k4.elim
        | ret =>
          simp only [Option.some.injEq] at hr1
          subst hr1
          cases e with
          | ret => exact ⟨k1, k2, S2, ρ2, k3, k4⟩
          | _ => exact k4.elim
        | pan v =>
          simp only [Option.some.injEq] at hr1
          subst hr1
          cases e with
          | panic ch => exact ⟨k1, k2, S2, ρ2, k3, k4⟩
          | _ => exact k4.elim

/-- WHAT THE INTERPRETER TELLS OF A CALL IS SO. -/
theorem callL_ok (GE : GSound G) {prim : FuncId → Option CallFn} (hprim : PrimSound G prim) {g : FuncId} (hg : g < RB) {args : List AV} {hp : Heap} {r : ARes × Heap} (hE : G.E g = true) (hr : callL G prim g args hp = some r) : CallSound G.P g args hp r := by
  obtain ⟨K, hK⟩ := of_limit hr
  exact (sound GE hprim K).1.fn g args hp r hg hE (hK K (Nat.le_refl _))

end Go.Proofs.YtbjphckpbkacaaaGreatDoor.Abs


/- What a seat's tables are asked, told by one look; what the library's outer functions come to. -/
namespace Go.Proofs.YtbjphckpbkacaaaGreatDoor.Abs
open Go Go.RowKit
set_option linter.unusedSimpArgs false
set_option linter.unusedVariables false

def fnOK (G : Cfg) (g : FuncId) : Bool :=
  match G.P.funcs[g]? with
  | some fn => !(fn.name == "runtime.NumGoroutine") && (match fn.body with | some c => dstsB fn.ntmps c && plansB G g c && decide (G.ntm g ≤ fn.ntmps) | none => false)
  | none => false
def rOK (G : Cfg) (r : LRec) : Bool :=
  dstsB r.nt r.assign && plansB G r.g r.assign && noRange r.assign && (r.ps.toList.all fun t => decide (t < r.nt)) && dstsB r.nt r.body && plansB G r.g r.body && noRange r.body

def ExtOK (G : Cfg) : Prop := ∀ g p, G.ext g = some p → ∀ args v, p args = some v → ∀ (S : Stab) (ρ : Rho) (w : World) (vs : Array Value), args.length = vs.size → (∀ (j : Nat) c u, args[j]? = some c → vs[j]? = some u → VR S ρ w c u) →
    ∃ u, (callFunc g vs).run G.P w = .ok (.value u) w ∧ VR S ρ w v u

/-- Whom the methods' names lead to. -/
def MethOK (G : Cfg) : Prop := ∀ t n m, G.meth t n = some m → ∀ (v u : Value) (w : World), (match m.2 with | none => u = v | some te => (Instr.loadAt te v).run G.P w = .ok u w) → (method (G.P.types.size + Made.depth) t v n).run G.P w = .ok (m.1, u) w
def MethIn (G : Cfg) : Prop := ∀ t n v f r w w', (metT.lookup (t, n)).isSome = true → (method (G.P.types.size + Made.depth) t v n).run G.P w = .ok (f, r) w' → f < NF
theorem gsound {G : Cfg} (n : Nat) (hE : ∀ g, G.E g = true → g < n) (hall : ((List.range n).all fun g => !G.E g || fnOK G g) = true) (hm : G.P.follows .mixedOrders = true) (hr : ∀ r, G.roundOK r = true → rOK G r = true) (hx : ExtOK G) (hs : G.P.funcs.size = NF) (hxp : ∀ g p, G.ext g = some p → g < NF) (hme : MethOK G := by intro t n m h; cases h) (hmi : MethIn G := by intro t n v f r w w' h; cases h) : GSound G := by
  have key : ∀ g, G.E g = true → fnOK G g = true := by
    intro g hg
    have := List.all_eq_true.1 hall g (List.mem_range.2 (hE g hg))
    simpa [hg] using this
  have parts : ∀ g, G.E g = true → ∃ fn c, G.P.funcs[g]? = some fn ∧ fn.body = some c ∧ (fn.name == "runtime.NumGoroutine") = false ∧ dstsB fn.ntmps c = true ∧ plansB G g c = true ∧ G.ntm g ≤ fn.ntmps := by
    intro g hg
    have := key g hg
    unfold fnOK at this
    split at this
    · rename_i fn hfn
      simp only [Bool.and_eq_true] at this
      obtain ⟨h1, h2⟩ := this
      split at h2
      · rename_i c hc
        simp only [Bool.and_eq_true, decide_eq_true_eq] at h2
        exact ⟨fn, c, hfn, hc, by simpa using h1, h2.1.1, h2.1.2, h2.2⟩
      · cases h2
    · cases this
  refine ⟨⟨fun g hg args w => ?_, hs, fun g hg => ?_, hxp, hx, hmi, hme, fun g fn c hg hf hb => ?_⟩, hm, fun g fn c hg hf hb => ?_, fun g fn hg hf => ?_, fun r h => ?_⟩
  · obtain ⟨fn, c, h1, h2, h3, _⟩ := parts g hg
    have h3' : fn.name ≠ "runtime.NumGoroutine" := by simpa using h3
    simp [callFunc, h1, h2, h3']
  · obtain ⟨fn, c, h1, h2, h3, _⟩ := parts g hg
    rw [← hs]; exact (Array.getElem?_eq_some_iff.1 h1).1
  · obtain ⟨fn', c', h1, h2, _, h4, _⟩ := parts g hg
    rw [hf] at h1; cases h1; rw [hb] at h2; cases h2; exact h4
  · obtain ⟨fn', c', h1, h2, _, _, h5, _⟩ := parts g hg
    rw [hf] at h1; cases h1; rw [hb] at h2; cases h2; exact h5
  · obtain ⟨fn', c', h1, h2, _, _, _, h6⟩ := parts g hg
    rw [hf] at h1; cases h1; exact h6
  · have := hr r h
    unfold rOK at this
    simp only [Bool.and_eq_true] at this
    obtain ⟨⟨⟨⟨⟨⟨a, b⟩, c⟩, d⟩, e⟩, f⟩, g⟩ := this
    exact ⟨⟨a, b, c⟩, d, e, f, g⟩

/-! ### Outer functions -/
def cmpStr : List AV → Option AV
  | [.str a, .str b] => some (.int .i64 (Lib.compareBytes a b))
  | _ => none

theorem cmpStr_ok {P : Program} {g : FuncId} {fn : Func} (hf : P.funcs[g]? = some fn) (hn : (fn.name == "runtime.NumGoroutine") = false) (hb : fn.body = none) (h1 : Extern.findNext fn = none) (h2 : Extern.find fn = some Extern.BytealgCompare.compare)
    {args : List AV} {v : AV} (h : cmpStr args = some v) {S : Stab} {ρ : Rho} {w : World} {vs : Array Value} (hl : args.length = vs.size) (hv : ∀ (j : Nat) c u, args[j]? = some c → vs[j]? = some u → VR S ρ w c u) :
    ∃ u, (callFunc g vs).run P w = .ok (.value u) w ∧ VR S ρ w v u := by
  unfold cmpStr at h
  split at h
  case h_2 => cases h
  rename_i a b
  cases h
  obtain ⟨x, y, rfl⟩ : ∃ x y, vs = #[x, y] := by
    obtain ⟨l⟩ := vs
    match l, hl with
    | [x, y], _ => exact ⟨x, y, rfl⟩
  obtain ⟨s, rfl, rfl⟩ := vr_str (hv 0 _ x rfl rfl)
  obtain ⟨t, rfl, rfl⟩ := vr_str (hv 1 _ y rfl rfl)
  refine ⟨_, ?_, .pure (.int _ _)⟩
  rw [run_callFunc_extern hf hn (by rw [hb]; rfl) h1 h2, Lib.run_compareString]
  rfl

/-- slices.Clone, told by hand. -/
def clonePrim : CallFn := fun _ args hp =>
  match args with
  | [.list sz es] => some (.ret (.list sz es), hp)
  | [.nils] => some (.ret .nils, hp)
  | _ => none

/-- What was gone through at a text's own values, told by hand. -/
def worksP : CallFn := fun _ args hp =>
  match args, hp with
  | [], [] => some (.ret (.bool true), [])
  | _, _ => none
def primN : FuncId → Option CallFn := fun _ => none

/-- A call whose end is told by hand, since it was gone through. -/
theorem CallSound.of_run {G : Cfg} (GE : GSound G) {prim : FuncId → Option CallFn} (hp : PrimSound G prim) {k : Nat} {g : FuncId} {args : List AV} {hp0 : Heap} {r : ARes × Heap} (hg : g < RB) (hE : G.E g = true) (h : (both G prim k).1 g args hp0 = some r) : CallSound G.P g args hp0 r :=
  (sound GE hp k).1.fn g args hp0 r hg hE h

end Go.Proofs.YtbjphckpbkacaaaGreatDoor.Abs


/- strings.Builder's String, told by hand; what it is sound by. -/
namespace Go.Proofs.YtbjphckpbkacaaaGreatDoor.Abs
open Go Go.RowKit
set_option linter.unusedSimpArgs false
set_option linter.unusedVariables false

/-- A byte's value. -/
def bV (b : UInt8) : AV := .int .u8 b.toNat
def bytesR? : List AV → Option (List UInt8)
  | [] => some []
  | .int .u8 n :: r => if 0 ≤ n ∧ n < 256 then (bytesR? r).map fun l => UInt8.ofNat n.toNat :: l else none
  | _ => none
theorem toNat_ofNat {n : Int} (h0 : 0 ≤ n) (h1 : n < 256) : ((UInt8.ofNat n.toNat).toNat : Int) = n := by
  rw [UInt8.toNat_ofNat']
  have : n.toNat < 256 := by omega
  rw [Nat.mod_eq_of_lt this]; omega
theorem bytesR_map (l : List UInt8) : bytesR? (l.map bV) = some l := by
  induction l with
  | nil => rfl
  | cons b l ih =>
    have h1 : (b.toNat : Int) < 256 := by have := b.toNat_lt; omega
    simp only [List.map_cons, bV, bytesR?]
    rw [if_pos ⟨by omega, h1⟩]
    have : List.map (fun b : UInt8 => AV.int .u8 b.toNat) l = l.map bV := rfl
    rw [show (List.map bV l) = l.map bV from rfl, ih]
    simp
theorem bytesR_eq : ∀ {es : List AV} {l : List UInt8}, bytesR? es = some l → es = l.map bV
  | [], l, h => by cases h; rfl
  | .int .u8 n :: r, l, h => by
    simp only [bytesR?] at h
    split at h
    · rename_i hc
      obtain ⟨l', h', rfl⟩ := Option.map_eq_some_iff.1 h
      simp only [List.map_cons, bV, toNat_ofNat hc.1 hc.2, ← bytesR_eq h']
    · cases h

def cellAt (v : AV) (i : Nat) : Option AV := v.cells[i]?
/-- What String tells; the row is not looked at, or written, any more. -/
def strP (B : TypeId) : CallFn := fun _ args hp =>
  match args with
  | [.ptr id 0 0] => (match aget hp id with
    | some (.box _ v) => (match cellAt v 1 with
      | some (.own k) => (match aget hp k with
        | some (.row 1 es _ m) => if m.t = B ∧ es.length ≤ LIM then (bytesR? es).map fun bs => (.ret (.str bs), hput k (.row 1 [] false ⟨true, m.t⟩) (({ sl := [], hp } : ASt).killn k).hp) else none
        | _ => none)
      | _ => none)
    | _ => none)
  | _ => none

structure StrRun (P : Program) (g : FuncId) (B : TypeId) : Prop where
  some_ : ∀ (w : World) (b k : Nat) (l : List UInt8) (cap : Nat) (cells : Array Value) (fr : Nat × Nat), w.cell? (at0 b 1) = some (.slice (some (at0 k 0)) l.length cap) → w.heap[k]? = some (.cells cells B fr) → l ≠ [] → l.length ≤ cap →
    (∀ (j : Nat) x, l[j]? = some x → w.cell? (at0 k j) = some (.int .u8 x.toNat)) → l.length ≤ cells.size → l.length ≤ 9223372036854775807 →
    CallsIn (FW none) 0 P g #[.pointer (some (at0 b 0))] w fun e w' => e = .returned (.string ⟨l.toArray⟩) ∧ w' = w.drew.freeze (at0 k 0) l.length
  none_ : ∀ (w : World) (b : Nat), w.cell? (at0 b 1) = some (.slice none 0 0) → CallsIn (FW none) 0 P g #[.pointer (some (at0 b 0))] w fun e w' => e = .returned (.string ⟨#[]⟩) ∧ w' = w.drew
  zero_ : ∀ (w : World) (b k cap : Nat) (cells : Array Value) (t : TypeId) (fr : Nat × Nat), w.cell? (at0 b 1) = some (.slice (some (at0 k 0)) 0 cap) → w.heap[k]? = some (.cells cells t fr) →
    CallsIn (FW none) 0 P g #[.pointer (some (at0 b 0))] w fun e w' => e = .returned (.string ⟨#[]⟩) ∧ (w' = w.drew ∨ ∃ o, w' = w.drew.alloc o)

theorem freeze_other {w : World} {k n : Nat} {b : Nat} (h : b ≠ k) : (w.freeze (at0 k 0) n).heap[b]? = w.heap[b]? := by
  unfold World.freeze
  split
  · rfl
  · simp only [at0, Array.getElem?_modify, if_neg (Ne.symm h)]
theorem freeze_same {w : World} {k n : Nat} {c : Array Value} {t : TypeId} {fr : Nat × Nat} (h : w.heap[k]? = some (.cells c t fr)) : ∃ fr', (w.freeze (at0 k 0) n).heap[k]? = some (.cells c t fr') := by
  unfold World.freeze
  split
  · exact ⟨fr, h⟩
  · obtain ⟨lo, hi⟩ := fr
    simp only [at0, Array.getElem?_modify, if_true, h, Option.map_some]
    exact ⟨_, rfl⟩
theorem freeze_cell {w : World} {k n : Nat} (b o : Nat) : (w.freeze (at0 k 0) n).cell? (at0 b o) = w.cell? (at0 b o) := by
  by_cases h : b = k
  · subst h
    cases hb : w.heap[b]? with
    | none =>
      have : (w.freeze (at0 b 0) n).heap[b]? = none := by
        unfold World.freeze
        split
        · exact hb
        · simp only [at0, Array.getElem?_modify, if_true, hb, Option.map_none]
      simp [World.cell?, at0, hb, this]
      simp [at0] at this
      simp [this]
    | some ob =>
      cases ob with
      | cells c t fr =>
        obtain ⟨fr', h'⟩ := freeze_same (n := n) hb
        simp only [cell_block hb, cell_block h']
      | _ =>
        have : (w.freeze (at0 b 0) n).heap[b]? = w.heap[b]? := by
          unfold World.freeze
          split
          · rfl
          · simp only [at0, Array.getElem?_modify, if_true, hb, Option.map_some]
        exact cell_same this o
  · exact cell_same (freeze_other h) o
theorem freeze_size {w : World} {a : Addr} {n : Nat} : (w.freeze a n).heap.size = w.heap.size := by
  unfold World.freeze
  split <;> simp

variable {G : Cfg}
theorem strP_ok {g : FuncId} {B : TypeId} (R : StrRun G.P g B) {args : List AV} {hp : Heap} {r : ARes × Heap} (h : strP B g args hp = some r) : CallSound G.P g args hp r := by
  unfold strP at h
  split at h
  case h_2 => cases h
  rename_i id
  split at h
  case h_2 => cases h
  rename_i T v hob
  split at h
  case h_2 => cases h
  rename_i k hk
  split at h
  case h_2 => cases h
  rename_i es fx m hrow
  split at h
  case isFalse => cases h
  rename_i hc
  obtain ⟨bs, hbs, rfl⟩ := Option.map_eq_some_iff.1 h
  have hes := bytesR_eq hbs
  have hlen : es.length = bs.length := by rw [hes]; simp
  intro S ρ w vs hl H hS hal hv
  obtain ⟨u0, rfl⟩ : ∃ u0, vs = #[u0] := by
    obtain ⟨l⟩ := vs
    match l, hal with
    | [x], _ => exact ⟨x, rfl⟩
  obtain ⟨b, sz, n, hρ, rfl⟩ := vr_ptr (hv 0 _ u0 rfl rfl)
  rw [Nat.zero_mul, Nat.zero_add]
  obtain ⟨rfl, cells, t, fr, g2, g3, g4, g5, g6⟩ := box_of H hob hρ
  obtain ⟨u, hu, hvu⟩ := g6 1 _ hk
  have hcell : w.cell? (at0 b 1) = some u := by rw [cell_block g2]; exact hu
  have S0 : SR (envOf S ρ w hl) { sl := [], hp } S ρ #[] w := by
    refine ⟨fun t => .undef _, H, fun n b sz k hn => .inl ⟨n, sz, k, hn⟩, fun n o _ _ r hr => hr, ⟨Ext.refl S w, fun _ _ h => .inl h, hS, Nat.le_refl _, fun _ _ _ => rfl, fun _ h => h, rfl, rfl, rfl⟩⟩
  have fin : ∀ (w' : World) (e : Ending), e = .returned (.string ⟨bs.toArray⟩) → SR (envOf S ρ w hl) { sl := (({ sl := [], hp } : ASt).killn k).sl, hp := hput k (.row 1 [] false ⟨true, m.t⟩) (({ sl := [], hp } : ASt).killn k).hp } S (upd ρ k ⟨none, 0⟩) #[] w' →
      ∃ S' ρ', Out (envOf S ρ w hl) (hput k (.row 1 [] false ⟨true, m.t⟩) (({ sl := [], hp } : ASt).killn k).hp) S' ρ' w' ∧ AnswerR S' ρ' w' (.ret (.str bs)) e := by
    rintro w' e rfl k1
    refine ⟨S, _, ⟨k1.heap, k1.mine, k1.old, k1.fr⟩, ?_⟩
    have := VR.pure (ρ := upd ρ k ⟨none, 0⟩) (PR.str (S := S) (w := w') ⟨bs.toArray⟩)
    exact this
  have hst0 : Step (envOf S ρ w hl) S w S w.drew := Step.drew S0.fr
  cases hvu with
  | pure hp => cases hp
  | own0 _ h0 =>
    have he := row0_of H hrow h0
    have hb0 : bs = [] := by subst he; simpa [eq_comm] using hlen
    subst hb0
    refine (R.none_ w b hcell).mono fun e w' ⟨he, hw⟩ => ?_
    subst hw
    exact fin _ e he (S0.regrow hrow hst0 (fun m b s k _ _ => ⟨rfl, fun _ h => h⟩) (fun b s k e => by cases e) (.inl ⟨rfl, by simp [upd]⟩) rfl)
  | own _ gb s n cap hρk hcap hr =>
    obtain ⟨rfl, rfl, _, hsz, cells', t', fr', k2, k3, k4, k5, k6⟩ := rowobj_of H hrow hρk
    by_cases hb0 : bs = []
    · subst hb0
      have he0 : es = [] := by simpa using hlen
      subst he0
      refine (R.zero_ w b gb cap cells' t' fr' hcell k2).mono fun e w' ⟨he, hw⟩ => ?_
      refine fin _ e he ?_
      rcases hw with rfl | ⟨o, rfl⟩
      · exact S0.regrow hrow hst0 (fun m b s k _ _ => ⟨rfl, fun _ h => h⟩) (fun b s k e => by cases e) (.inl ⟨rfl, by simp [upd]⟩) rfl
      · have h1 := S0.drew
        refine h1.regrow hrow (Step.alloc h1.fr o) (fun m b' s k _ hb => ⟨Below.heap_alloc w.drew o b' (h1.heap.lt hb), fun _ h => h⟩) (fun b s k e => by cases e) (.inl ⟨rfl, by simp [upd]⟩) rfl
    · rw [hlen] at hcell
      have hlim := hc.2
      unfold LIM at hlim
      have hcells : ∀ (j : Nat) x, bs[j]? = some x → w.cell? (at0 gb j) = some (.int .u8 x.toNat) := by
        intro j x hx
        have he : es[j]? = some (bV x) := by rw [hes, List.getElem?_map, hx]; rfl
        obtain ⟨q, hq, hp, _⟩ := k5 j 0 (bV x) (bV x) he rfl
        rw [Nat.mul_one, Nat.add_zero] at hq
        rw [cell_block k2, hq]
        cases hp; rfl
      obtain ⟨k3a, k3b⟩ := k3
      refine (R.some_ w b gb bs cap cells' fr' hcell (by rw [k2, k3b, hc.1]) hb0 (by omega) hcells (by omega) (by omega)).mono fun e w' ⟨he, hw⟩ => ?_
      subst hw
      refine fin _ e he ?_
      have h1 := S0.drew
      have hF : (envOf S ρ w hl).F gb := ⟨k, _, _, hρk⟩
      have hg2 : w.drew.heap[gb]? = some (.cells cells' t' fr') := k2
      refine h1.regrow hrow (w' := w.drew.freeze (at0 gb 0) bs.length) ⟨⟨fun _ _ h => h, fun b' o _ => freeze_cell b' o, fun b' c t2 f2 hb' => ?_⟩, by rw [freeze_size]; exact Nat.le_refl _, fun b' _ hnF => freeze_other (fun e => hnF (e ▸ hF)), fun b' hb' => ?_, fun _ _ h => .inl h, fun b' o hb' => by rw [freeze_size]; exact hS b' o hb', ?_, ?_, ?_⟩
        (fun n b' s' k' hn hb' => ⟨freeze_other fun e => ?_, fun _ h => h⟩) (fun b s k e => by cases e) (.inl ⟨rfl, by simp [upd]⟩) rfl
      · by_cases e : b' = gb
        · subst e
          rw [hg2] at hb'; cases hb'
          obtain ⟨fr3, h3⟩ := freeze_same (n := bs.length) hg2
          exact ⟨cells', fr3, h3, rfl⟩
        · exact ⟨c, f2, by rw [freeze_other e]; exact hb', rfl⟩
      · have e : b' ≠ gb := fun e => by subst e; rw [hg2] at hb'; cases hb'
        rw [freeze_other e]; exact hb'
      · unfold World.freeze; split <;> rfl
      · unfold World.freeze; split <;> rfl
      · unfold World.freeze; split <;> rfl
      · subst e
        exact hn (H.inj _ _ _ _ _ _ _ hb' hρk)

/-- A pointer that does not escape is as it is. -/
def idP : List AV → Option AV
  | [v] => some v
  | _ => none
theorem idP_ok {P : Program} {g : FuncId} {fn : Func} (hf : P.funcs[g]? = some fn) (hn : (fn.name == "runtime.NumGoroutine") = false) (hb : fn.body = none) (h1 : Extern.findNext fn = none) (h2 : Extern.find fn = some Extern.AbiNoEscape.same)
    {args : List AV} {v : AV} (h : idP args = some v) {S : Stab} {ρ : Rho} {w : World} {vs : Array Value} (hl : args.length = vs.size) (hv : ∀ (j : Nat) c u, args[j]? = some c → vs[j]? = some u → VR S ρ w c u) :
    ∃ u, (callFunc g vs).run P w = .ok (.value u) w ∧ VR S ρ w v u := by
  unfold idP at h
  split at h
  case h_2 => cases h
  cases h
  obtain ⟨x, rfl⟩ : ∃ x, vs = #[x] := by
    obtain ⟨l⟩ := vs
    match l, hl with
    | [x], _ => exact ⟨x, rfl⟩
  refine ⟨x, ?_, hv 0 _ x rfl rfl⟩
  rw [run_callFunc_extern hf hn (by rw [hb]; rfl) h1 h2, Lib.run_noEscape]
  rfl

/-- internal/bytealg.IndexByteString. -/
def ixbP : List AV → Option AV
  | [.str s, .int .u8 c] => some (.int .i64 (Lib.indexByte s c.toNat.toUInt8))
  | _ => none
theorem ixbP_ok {P : Program} {g : FuncId} {fn : Func} (hf : P.funcs[g]? = some fn) (hn : (fn.name == "runtime.NumGoroutine") = false) (hb : fn.body = none) (h1 : Extern.findNext fn = none) (h2 : Extern.find fn = some Extern.BytealgIndexByte.indexByte)
    {args : List AV} {v : AV} (h : ixbP args = some v) {S : Stab} {ρ : Rho} {w : World} {vs : Array Value} (hl : args.length = vs.size) (hv : ∀ (j : Nat) c u, args[j]? = some c → vs[j]? = some u → VR S ρ w c u) :
    ∃ u, (callFunc g vs).run P w = .ok (.value u) w ∧ VR S ρ w v u := by
  unfold ixbP at h
  split at h
  case h_2 => cases h
  rename_i s c
  cases h
  obtain ⟨x, y, rfl⟩ : ∃ x y, vs = #[x, y] := by
    obtain ⟨l⟩ := vs
    match l, hl with
    | [x, y], _ => exact ⟨x, y, rfl⟩
  obtain ⟨b, rfl, rfl⟩ := vr_str (hv 0 _ x rfl rfl)
  have := vr_int (hv 1 _ y rfl rfl); subst this
  refine ⟨_, ?_, .pure (.int _ _)⟩
  rw [run_callFunc_extern hf hn (by rw [hb]; rfl) h1 h2, Lib.run_indexByteString]
  rfl
end Go.Proofs.YtbjphckpbkacaaaGreatDoor.Abs


/- slices.Delete on a row of one's own, told by hand; what it is sound by. -/
namespace Go.Proofs.YtbjphckpbkacaaaGreatDoor.Abs
open Go Go.RowKit
set_option linter.unusedSimpArgs false
set_option linter.unusedVariables false

/-- What Delete tells, where something is taken out of a row of things of one cell. -/
def delP : CallFn := fun _ args hp =>
  match args with
  | [.own k, .int .i64 a, .int .i64 b] => (match aget hp k with
    | some (.row 1 es false m) => if 0 ≤ a ∧ a < b ∧ b ≤ es.length ∧ es.length ≤ LIM then some (.ret (.own k), hput k (.row 1 (es.take a.toNat ++ es.drop b.toNat) false ⟨true, m.t⟩) (({ sl := [], hp } : ASt).killn k).hp) else none
    | _ => none)
  | _ => none

structure DelRun (P : Program) (g : FuncId) : Prop where
  run : ∀ (w : World) (blk cap i j : Nat) (d : List Value), (∀ k x, d[k]? = some x → w.cell? (at0 blk k) = some x ∧ w.frozen? (at0 blk k) = false) → (∀ x ∈ d, scalarV x = true) → d.length ≤ cap → d.length ≤ 9223372036854775807 → i < j → j ≤ d.length →
    CallsIn (FW none) 0 P g #[.slice (some (at0 blk 0)) d.length cap, .int .i64 i, .int .i64 j] w fun e w' => e = .returned (.slice (some (at0 blk 0)) (d.length - (j - i)) cap) ∧
      ∃ zs : List Value, zs.length = j - i ∧ w' = setCells (setCells w.drew blk i (d.drop j)) blk (i + (d.length - j)) zs

variable {G : Cfg}
theorem Step.write {E : Env} {S : Stab} {w : World} (hf : FrameR E S w) {b o : Nat} {l : List Value} {cells : Array Value} {t : TypeId} {fr : Nat × Nat} (hb : w.heap[b]? = some (.cells cells t fr)) (hl : o + l.length ≤ cells.size) (hS : ∀ i, ¬ S b i)
    (hmine : E.F b ∨ E.W0.heap.size ≤ b) : Step E S w S (setCells w b o l) := by
  refine ⟨Ext.write hb hl hS, by rw [setCells_size]; exact Nat.le_refl _, fun b' hb' hF => ?_, fun b' hb' => ?_, fun _ _ h => .inl h, fun b' i h => ?_, (setCells_outer b l w _).1, (setCells_outer b l w _).2.1, (setCells_outer b l w _).2.2⟩
  · refine setCells_other b l w _ b' fun e => ?_
    subst e
    rcases hmine with hh | hh
    · exact hF hh
    · omega
  · have hne : b' ≠ b := fun e => by subst e; rw [hb] at hb'; cases hb'
    rw [setCells_other b l w _ b' hne]; exact hb'
  · rw [setCells_size]; exact hf.bnd _ _ h

theorem Step.then {E : Env} {S S1 S2 : Stab} {w w1 w2 : World} (h : Step E S w S1 w1) (k : Step E S1 w1 S2 w2) : Step E S w S2 w2 :=
  ⟨h.ext.trans k.ext, Nat.le_trans h.size k.size, fun b hb hF => (k.keep b hb hF).trans (h.keep b hb hF), fun b hb => k.dfr b (h.dfr b hb),
   fun b o x => (k.new b o x).elim (fun y => h.new b o y) .inr, k.bnd, k.os.trans h.os, k.tape.trans h.tape, k.output.trans h.output⟩

theorem delP_ok {g : FuncId} (R : DelRun G.P g) {args : List AV} {hp : Heap} {r : ARes × Heap} (h : delP g args hp = some r) : CallSound G.P g args hp r := by
  unfold delP at h
  split at h
  case h_2 => cases h
  rename_i k a b
  split at h
  case h_2 => cases h
  rename_i es m hrow
  split at h
  case isFalse => cases h
  rename_i hc
  cases h
  obtain ⟨ha0, hab, hbl, hlim⟩ := hc
  obtain ⟨i, rfl⟩ := Int.eq_ofNat_of_zero_le ha0
  obtain ⟨j, rfl⟩ := Int.eq_ofNat_of_zero_le (show 0 ≤ b by omega)
  have hij : i < j := by omega
  have hjl : j ≤ es.length := by omega
  simp only [Int.toNat_natCast]
  intro S ρ w vs hl H hS hal hv
  obtain ⟨u0, u1, u2, rfl⟩ : ∃ u0 u1 u2, vs = #[u0, u1, u2] := by
    obtain ⟨l⟩ := vs
    match l, hal with
    | [x, y, z], _ => exact ⟨x, y, z, rfl⟩
  have h1 := hv 1 _ u1 rfl rfl
  have h2 := hv 2 _ u2 rfl rfl
  obtain rfl : u1 = .int .i64 i := by cases h1 with | pure hp => cases hp; rfl
  obtain rfl : u2 = .int .i64 j := by cases h2 with | pure hp => cases hp; rfl
  have h0 := hv 0 _ u0 rfl rfl
  have S0 : SR (envOf S ρ w hl) { sl := [], hp } S ρ #[] w := by
    refine ⟨fun t => .undef _, H, fun n b sz k hn => .inl ⟨n, sz, k, hn⟩, fun n o _ _ r hr => hr, ⟨Ext.refl S w, fun _ _ h => .inl h, hS, Nat.le_refl _, fun _ _ _ => rfl, fun _ h => h, rfl, rfl, rfl⟩⟩
  cases h0 with
  | pure hp => cases hp
  | own0 _ h0 =>
    have he := row0_of H hrow h0
    subst he
    simp at hjl; omega
  | own _ gb s n cap hρk hcap hr =>
    obtain ⟨rfl, rfl, _, hsz, cells, t', fr', k2, k3, k4, k5, k6⟩ := rowobj_of H hrow hρk
    have hnS : ∀ o, ¬ S gb o := fun o h => by have := (k6 o h).1; cases this
    have hle : es.length ≤ cells.size := by have := k3.1; omega
    have hd : ∀ q x, (cells.toList.take es.length)[q]? = some x → q < es.length ∧ cells[q]? = some x := by
      intro q x hx
      rw [List.getElem?_take] at hx
      split at hx
      · exact ⟨by assumption, by simpa using hx⟩
      · cases hx
    have hel : ∀ (q : Nat) (e : AV), es[q]? = some e → ∃ c u, e.cells = [c] ∧ cells[q]? = some u ∧ PR S w c u ∧ scalarV u = true := by
      intro q e he
      have h1 := hsz e (List.mem_of_getElem? he)
      obtain ⟨c, hc⟩ := List.length_eq_one_iff.1 h1
      obtain ⟨u, hu, hp, _, hs⟩ := k5 q 0 e c he (by rw [hc]; rfl)
      exact ⟨c, u, hc, by simpa using hu, hp, hs⟩
    have hlen : (cells.toList.take es.length).length = es.length := by simp; omega
    have hcell : ∀ q x, (cells.toList.take es.length)[q]? = some x → w.cell? (at0 gb q) = some x ∧ w.frozen? (at0 gb q) = false := by
      intro q x hx
      obtain ⟨hq, hx⟩ := hd q x hx
      exact ⟨by rw [cell_block k2]; exact hx, k4 q (by omega)⟩
    have hsc : ∀ x ∈ cells.toList.take es.length, scalarV x = true := by
      intro x hx
      obtain ⟨q, hq⟩ := List.getElem?_of_mem hx
      obtain ⟨hq, hx⟩ := hd q x hq
      obtain ⟨c, u, _, hu, _, hs⟩ := hel q es[q] (List.getElem?_eq_getElem hq)
      rw [hx] at hu; cases hu; exact hs
    have hrun := R.run w gb cap i j (cells.toList.take es.length) hcell hsc (by rw [hlen]; exact hcap) (by rw [hlen]; unfold LIM at hlim; omega) hij (by rw [hlen]; exact hjl)
    rw [hlen] at hrun
    refine hrun.mono fun e w' ⟨he, zs, hz, hw⟩ => ?_
    subst he; subst hw
    have k2' : w.drew.heap[gb]? = some (.cells cells t' fr') := k2
    have hdl : ((cells.toList.take es.length).drop j).length = es.length - j := by rw [List.length_drop, hlen]
    obtain ⟨c1, m1, m2, m3, m4⟩ := setCells_block gb ((cells.toList.take es.length).drop j) w.drew i cells t' fr' k2' (by rw [hdl]; omega)
    obtain ⟨c2, n1, n2, n3, n4⟩ := setCells_block gb zs (setCells w.drew gb i ((cells.toList.take es.length).drop j)) (i + (es.length - j)) c1 t' fr' m1 (by omega)
    have hmine : (envOf S ρ w hl).F gb := ⟨k, _, _, hρk⟩
    have st0 : Step (envOf S ρ w hl) S w S w.drew := Step.drew S0.fr
    have fr1 := S0.fr.step st0
    have st1 := Step.write fr1 (o := i) (l := (cells.toList.take es.length).drop j) k2' (by rw [hdl]; omega) hnS (.inl hmine)
    have st2 := Step.write (fr1.step st1) (o := i + (es.length - j)) (l := zs) m1 (by omega) hnS (.inl hmine)
    have hst := (st0.then st1).then st2
    have hother : ∀ b', b' ≠ gb → (setCells (setCells w.drew gb i ((cells.toList.take es.length).drop j)) gb (i + (es.length - j)) zs).heap[b']? = w.heap[b']? := by
      intro b' hb'
      rw [setCells_other _ _ _ _ _ hb', setCells_other _ _ _ _ _ hb']; rfl
    have k1 := S0.regrow hrow (o := .row 1 (es.take i ++ es.drop j) false ⟨true, m.t⟩) (info := ⟨some (gb, 1), (es.take i ++ es.drop j).length⟩) hst
      (fun n b' s' k' hn hb' => ⟨hother b' fun e => hn (H.inj _ _ _ _ _ _ _ hb' (e ▸ hρk)), fun _ h => h⟩)
      (fun b' s' k' e => by cases e; exact ⟨.inl hmine, fun n s' k' hn hb' => hn (H.inj _ _ _ _ _ _ _ hb' hρk)⟩)
      (.inr ⟨gb, c2, t', fr', by omega, by simp [upd], fun e he => ?_, n1, ?_, ?_, ?_, fun o h => absurd h (hnS o)⟩) rfl
    · refine ⟨S, _, ⟨k1.heap, k1.mine, k1.old, k1.fr⟩, ?_⟩
      have hlen2 : (es.take i ++ es.drop j).length = es.length - (j - i) := by simp; omega
      show VR _ _ _ _ _
      refine VR.own k gb 1 (es.length - (j - i)) cap (by rw [← hlen2]; simp [upd]) (by omega) ⟨c2, t', fr', n1, by rw [n2, m2]; obtain ⟨c, t, fr, h1, h2⟩ := hr; rw [k2] at h1; cases h1; exact h2⟩
    · rcases List.mem_append.1 he with he | he
      · exact hsz e (List.mem_of_mem_take he)
      · exact hsz e (List.mem_of_mem_drop he)
    · refine ⟨?_, k3.2⟩
      have : (es.take i ++ es.drop j).length = es.length - (j - i) := by simp; omega
      rw [this, n2, m2]; omega
    · intro o ho
      rw [frozen_block k2 n1]; exact k4 o (by omega)
    · intro q p e c he hp
      have hp0 : ∀ c0, e.cells = [c0] → p = 0 ∧ c = c0 := by
        intro c0 h
        rw [h] at hp
        match p, hp with
        | 0, hp => exact ⟨rfl, by simpa using hp.symm⟩
      have go : ∀ (q' : Nat) (u : Value), cells[q']? = some u → es[q']? = some e → c2[q]? = some u → ∃ u, c2[q * 1 + p]? = some u ∧ PR S (setCells (setCells w.drew gb i ((cells.toList.take es.length).drop j)) gb (i + (es.length - j)) zs) c u ∧ (false = true → S gb (q * 1 + p)) ∧ scalarV u = true := by
        intro q' u hu he' hu2
        obtain ⟨c0, u', hc0, hu', hpr, hs⟩ := hel q' e he'
        rw [hu] at hu'; cases hu'
        obtain ⟨rfl, rfl⟩ := hp0 c0 hc0
        exact ⟨u, by simpa using hu2, hpr.ext hst.ext, (fun h => by cases h), hs⟩
      rw [List.getElem?_append] at he
      split at he
      · rename_i hq
        have hq' : q < i := by simp at hq; omega
        rw [List.getElem?_take, if_pos hq'] at he
        obtain ⟨c0, u', hc0, hu', hpr, hs⟩ := hel q e he
        refine go q u' hu' he ?_
        rw [n3 q (.inl (by omega)), m3 q (.inl hq')]; exact hu'
      · rename_i hq
        have hti : (es.take i).length = i := by simp; omega
        rw [hti] at he hq
        rw [List.getElem?_drop] at he
        have hb : j + (q - i) < es.length := (List.getElem?_eq_some_iff.1 he).1
        obtain ⟨c0, u', hc0, hu', hpr, hs⟩ := hel _ e he
        refine go _ u' hu' he ?_
        rw [n3 q (.inl (by omega)), show q = i + (q - i) by omega, m4 (q - i) (by rw [hdl]; omega), List.getElem?_drop, List.getElem?_take, if_pos hb]
        simpa using hu'
end Go.Proofs.YtbjphckpbkacaaaGreatDoor.Abs


/- strconv.Atoi, told by hand; what it is sound by. -/
namespace Go.Proofs.YtbjphckpbkacaaaGreatDoor.Abs
open Go Go.RowKit
set_option linter.unusedSimpArgs false
set_option linter.unusedVariables false

/-- What Atoi tells: the number; an error is somewhere, and nothing is known of it. -/
def atoiV (T : TypeId) (s : List UInt8) : AV :=
  match Lib.atoiAll s with
  | .ok v => .tup [.int .i64 v, .nili]
  | .range => .tup [.int .i64 (Lib.atoiSat s), .iface T .undef]
  | _ => .tup [.int .i64 0, .iface T .undef]
def atoiP (T : TypeId) : CallFn := fun _ args hp =>
  match args with
  | [.str s] => if s.length ≤ 281474976710656 then some (.ret (atoiV T s), hp) else none
  | _ => none

structure AtoiRun (P : Program) (g : FuncId) (T : TypeId) : Prop where
  run : ∀ (S : Stab) (w : World), GlobOK S w → ∀ (s : ByteArray), s.size ≤ 281474976710656 → CallsIn (FW none) 0 P g #[.string s] w fun e w' => Below w.heap.size w w' ∧
    (match Lib.atoiAll s.data.toList with
     | .ok v => e = .returned (.tuple #[.int .i64 v, .nilIface])
     | .range => ∃ p, e = .returned (.tuple #[.int .i64 (Lib.atoiSat s.data.toList), .iface T p])
     | _ => ∃ p, e = .returned (.tuple #[.int .i64 0, .iface T p]))

theorem Ext.below {S : Stab} {w w' : World} (hS : ∀ b o, S b o → b < w.heap.size) (h : Below w.heap.size w w') : Ext S w S w' := by
  refine ⟨fun _ _ x => x, fun b o x => cell_same (h.block b (hS b o x)) o, fun b c t fr hb => ⟨c, fr, ?_, rfl⟩⟩
  rw [h.block b (lt_of_block hb)]; exact hb
theorem Step.below {E : Env} {S : Stab} {w w' : World} (hf : FrameR E S w) (h : Below w.heap.size w w') : Step E S w S w' :=
  ⟨Ext.below hf.bnd h, h.size, fun b hb _ => h.block b (Nat.lt_of_lt_of_le hb hf.size), fun b hb => by rw [h.block b (lt_of_block hb)]; exact hb, fun _ _ h => .inl h, fun b o x => Nat.lt_of_lt_of_le (hf.bnd b o x) h.size, h.os, h.tape, h.output⟩
theorem SR.below {E : Env} {st : ASt} {S : Stab} {ρ : Rho} {tm : Array Value} {w w' : World} (h : SR E st S ρ tm w) (k : Below w.heap.size w w') : SR E st S ρ tm w' :=
  h.step (Step.below h.fr k) (fun _ _ h => h)
    ⟨fun n o ho => (h.heap.obj n o ho).keep (Ext.below h.fr.bnd k) rfl (fun _ _ h => h) (fun b sz q hb => ⟨k.block b (h.heap.lt hb), fun _ h => h⟩), h.heap.dom, h.heap.inj⟩ h.mine (fun _ => rfl) h.old

variable {G : Cfg}
theorem tup2 {S : Stab} {ρ : Rho} {w : World} {a b : AV} {x y : Value} (h1 : VR S ρ w a x) (h2 : VR S ρ w b y) : VR S ρ w (.tup [a, b]) (.tuple #[x, y]) :=
  .tup _ _ rfl fun j c v hc hv => by
    match j, hc, hv with
    | 0, hc, hv => cases hc; cases hv; exact h1
    | 1, hc, hv => cases hc; cases hv; exact h2
theorem atoiP_ok {g : FuncId} {T : TypeId} (R : AtoiRun G.P g T) {args : List AV} {hp : Heap} {r : ARes × Heap} (h : atoiP T g args hp = some r) : CallSound G.P g args hp r := by
  unfold atoiP at h
  split at h
  case h_2 => cases h
  rename_i s
  split at h
  case isFalse => cases h
  rename_i hlen
  cases h
  intro S ρ w vs hl H hS hal hv
  obtain ⟨u0, rfl⟩ : ∃ u0, vs = #[u0] := by
    obtain ⟨l⟩ := vs
    match l, hal with
    | [x], _ => exact ⟨x, rfl⟩
  have h0 := hv 0 _ u0 rfl rfl
  obtain ⟨b, rfl, rfl⟩ : ∃ b : ByteArray, u0 = .string b ∧ s = b.data.toList := by cases h0 with | pure hp => cases hp; exact ⟨_, rfl, rfl⟩
  have S0 : SR (envOf S ρ w hl) { sl := [], hp } S ρ #[] w := by
    refine ⟨fun t => .undef _, H, fun n b sz k hn => .inl ⟨n, sz, k, hn⟩, fun n o _ _ r hr => hr, ⟨Ext.refl S w, fun _ _ h => .inl h, hS, Nat.le_refl _, fun _ _ _ => rfl, fun _ h => h, rfl, rfl, rfl⟩⟩
  refine (R.run S w hl.glob b (by simpa using hlen)).mono fun e w' ⟨hb, he⟩ => ?_
  have k1 := S0.below hb
  refine ⟨S, ρ, ⟨k1.heap, k1.mine, k1.old, k1.fr⟩, ?_⟩
  unfold atoiV
  cases hx : Lib.atoiAll b.data.toList with
  | ok v =>
    simp only [hx] at he ⊢
    subst he
    exact tup2 (.pure (.int _ _)) (.pure .nili)
  | range =>
    simp only [hx] at he ⊢
    obtain ⟨p, rfl⟩ := he
    exact tup2 (.pure (.int _ _)) (.iface _ _ _ (.undef _))
  | _ =>
    simp only [hx] at he ⊢
    obtain ⟨p, rfl⟩ := he
    exact tup2 (.pure (.int _ _)) (.iface _ _ _ (.undef _))
end Go.Proofs.YtbjphckpbkacaaaGreatDoor.Abs


/- strconv.FormatInt at base ten, of numbers below a thousand, told by hand; what it is sound by. -/
namespace Go.Proofs.YtbjphckpbkacaaaGreatDoor.Abs
open Go Go.RowKit
set_option linter.unusedSimpArgs false
set_option linter.unusedVariables false

/-- A number's digits, one to three. -/
def digs (n : Nat) : List UInt8 := if n < 10 then [UInt8.ofNat (48 + n)] else if n < 100 then [UInt8.ofNat (48 + n / 10), UInt8.ofNat (48 + n % 10)] else [UInt8.ofNat (48 + n / 100), UInt8.ofNat (48 + n / 10 % 10), UInt8.ofNat (48 + n % 10)]
def fmtP : CallFn := fun _ args hp =>
  match args with
  | [.int .i64 n, .int .i64 b] => if 0 ≤ n ∧ n < 1000 ∧ b = 10 then some (.ret (.str (digs n.toNat)), hp) else none
  | _ => none
structure FmtRun (P : Program) (g : FuncId) : Prop where
  run : ∀ (S : Stab) (ρ : Rho) (w : World) (hl : Ent S ρ w), (∀ b o, S b o → b < w.heap.size) → ∀ n : Nat, n < 1000 → CallsIn (FW none) 0 P g #[.int .i64 n, .int .i64 10] w fun e w' => e = .returned (.string ⟨(digs n).toArray⟩) ∧ Below w.heap.size w w'
variable {G : Cfg}
theorem fmtP_ok {g : FuncId} (R : FmtRun G.P g) {args : List AV} {hp : Heap} {r : ARes × Heap} (h : fmtP g args hp = some r) : CallSound G.P g args hp r := by
  unfold fmtP at h
  split at h
  case h_2 => cases h
  rename_i n b
  split at h
  case isFalse => cases h
  rename_i hc
  cases h
  obtain ⟨h0, h1, rfl⟩ := hc
  obtain ⟨n, rfl⟩ := Int.eq_ofNat_of_zero_le h0
  simp only [Int.toNat_natCast]
  intro S ρ w vs hl H hS hal hv
  obtain ⟨u0, u1, rfl⟩ : ∃ u0 u1, vs = #[u0, u1] := by
    obtain ⟨l⟩ := vs
    match l, hal with
    | [x, y], _ => exact ⟨x, y, rfl⟩
  have h0 := hv 0 _ u0 rfl rfl
  have h1 := hv 1 _ u1 rfl rfl
  obtain rfl : u0 = .int .i64 n := by cases h0 with | pure hp => cases hp; rfl
  obtain rfl : u1 = .int .i64 10 := by cases h1 with | pure hp => cases hp; rfl
  have S0 : SR (envOf S ρ w hl) { sl := [], hp } S ρ #[] w := by
    refine ⟨fun t => .undef _, H, fun n b sz k hn => .inl ⟨n, sz, k, hn⟩, fun n o _ _ r hr => hr, ⟨Ext.refl S w, fun _ _ h => .inl h, hS, Nat.le_refl _, fun _ _ _ => rfl, fun _ h => h, rfl, rfl, rfl⟩⟩
  refine (R.run S ρ w hl hS n (by omega)).mono fun e w' ⟨he, hb⟩ => ?_
  subst he
  have k1 := S0.below hb
  refine ⟨S, ρ, ⟨k1.heap, k1.mine, k1.old, k1.fr⟩, ?_⟩
  have := VR.pure (ρ := ρ) (PR.str (S := S) (w := w') ⟨(digs n).toArray⟩)
  exact this
end Go.Proofs.YtbjphckpbkacaaaGreatDoor.Abs


/- The tables of the seat. -/
namespace Go.Proofs.YtbjphckpbkacaaaGreatDoor
open Go Abs

noncomputable def hasBody : List Bool := [false, false, true, true, true, true, true, true, true, true, true, true, true, true, true, true, true, true, true, true, true, true, true, true, true, true, true, true, true, true, true, true, true, true, true, true, true, true, true, true, true, true, true, true, true, true, true, true, true, true, true, true, true, true, true, true, true, true, true, true, true, true, true, true, true, true, true, true, true, true, false, false, false, true, true, true, true, true, true, true, true, true, false, true, true, true, true, true, true, true, true, false, false, false, true, false, true, true, true, true, true, true, true, true, true, true, true, true, true, true, true, true, true, true, true, true, false, true, true, true, true, true, true, true, true, true, true, true, true, true, true, true, true, true, true, true, true, true, true, true, true, false, false, false, false, false, false, false, false, false, false, false, false, false, false, false, false, false, false, false, true, true, true, true, true, true, true, true, true, false, true, false, true, true, true, true, true, true, false, true, false, false, false, false, false, true, false, false, false, false, false, false, false, false, false, false, false, false, false, false, false, false, false, false, false, false, false, false, false, false, false, true]
noncomputable def keepT : List (Nat × List (Nat × Keep)) := [
  (7, [(2, ⟨[(0, none), (3, none)], []⟩)]),
  (8, [(5, ⟨[(4, some (2, 43)), (5, none)], []⟩)]),
  (9, [(5, ⟨[(0, none), (4, some (2, 68)), (5, none)], []⟩), (8, ⟨[(0, none), (4, some (2, 68)), (5, none), (6, none)], []⟩), (19, ⟨[(0, none), (4, some (2, 68)), (5, none), (7, none)], []⟩)]),
  (10, [(3, ⟨[(4, none), (9, none), (10, none), (11, none)], [(1004, [(1, 1, 5)])]⟩)]),
  (11, [(3, ⟨[(0, none), (4, none), (5, none)], []⟩)]),
  (12, [(3, ⟨[(0, none), (3, some (2, 68)), (4, none)], []⟩)]),
  (13, [(4, ⟨[(0, none), (1, none), (5, none)], []⟩)]),
  (14, [(2, ⟨[(0, none), (3, none)], []⟩)]),
  (15, [(5, ⟨[(0, none), (20, none), (21, none), (22, none)], []⟩)]),
  (27, [(2, ⟨[(0, none), (3, none)], []⟩)]),
  (29, [(5, ⟨[(0, none), (3, none), (4, none)], []⟩)]),
  (37, [(2, ⟨[(0, none), (3, none)], []⟩)]),
  (42, [(7, ⟨[(0, none), (1, none), (2, none), (8, none), (9, none), (10, none), (11, some (1, 37)), (42, none), (43, none), (44, none)], [(1009, [])]⟩)]),
  (46, [(4, ⟨[(0, none), (1, none), (12, none), (13, none)], []⟩)]),
  (49, [(4, ⟨[(0, none), (1, none), (3, none), (29, none), (30, none), (31, none)], []⟩)]),
  (53, [(10, ⟨[(5, none), (6, none), (47, none), (48, none), (49, none)], []⟩)]),
  (58, [(2, ⟨[(0, none), (1, none), (7, none), (8, none)], []⟩)]),
  (61, [(5, ⟨[(0, none), (1, none), (4, none), (5, none), (6, none), (7, none)], [(1004, []), (1005, [(2, 1, 3)])]⟩)]),
  (62, [(3, ⟨[(0, none), (1, none), (7, some (4, 54)), (15, none), (16, none), (17, none)], []⟩)]),
  (63, [(2, ⟨[(0, none), (1, none), (7, none), (8, none)], []⟩)]),
  (73, [(1, ⟨[(0, none), (1, none), (3, none), (6, none)], [(1006, [])]⟩), (18, ⟨[(1, none), (3, none), (6, none), (48, none), (49, none), (50, none)], [(1006, [])]⟩)]),
  (75, [(15, ⟨[(0, none), (1, none), (5, none), (6, none), (7, none), (8, none), (9, none), (10, none)], []⟩)]),
  (87, [(2, ⟨[(0, none), (7, none)], []⟩), (6, ⟨[(0, none), (3, none), (4, none), (26, none)], [(1004, [])]⟩)]),
  (97, [(5, ⟨[(0, none), (1, none), (5, none), (6, none), (7, none), (8, none), (9, none)], []⟩), (11, ⟨[(0, none), (1, none), (5, none), (6, none), (7, none), (8, none), (10, none)], []⟩)]),
  (98, [(36, ⟨[(1, none), (8, none), (9, none), (10, none), (11, none), (12, none), (13, none), (99, none), (100, none), (101, none)], []⟩)]),
  (103, [(1, ⟨[(0, some (1, 5)), (1, none), (4, none)], []⟩)]),
  (104, [(11, ⟨[(0, none), (1, none), (3, none), (4, none), (10, none), (11, none), (12, none), (13, none), (14, none), (15, none), (16, none)], [(1012, [])]⟩), (18, ⟨[(0, none), (1, none), (3, none), (4, none), (10, none), (11, none), (12, none), (13, none), (17, none)], [(1012, [])]⟩)]),
  (105, [(2, ⟨[(0, none), (1, none), (21, none), (22, none), (23, none)], []⟩)]),
  (107, [(2, ⟨[(0, none), (1, none), (2, none)], []⟩)]),
  (111, [(3, ⟨[(0, none), (3, some (4, 54)), (4, none), (5, none)], []⟩), (7, ⟨[(0, none), (3, some (4, 54)), (4, none), (5, none), (6, none), (7, none), (20, none)], []⟩)]),
  (113, [(5, ⟨[(0, none), (1, none), (7, some (1, 5)), (8, none)], []⟩)]),
  (114, [(8, ⟨[(0, none), (1, none), (7, none)], []⟩)]),
  (117, [(3, ⟨[(0, none), (4, none), (5, none)], []⟩), (8, ⟨[(4, none), (6, none), (7, none), (8, none)], []⟩)]),
  (119, [(10, ⟨[(0, none), (3, none), (4, none), (5, none)], []⟩)]),
  (128, [(1, ⟨[(0, none), (1, none)], []⟩)]),
  (129, [(2, ⟨[(0, none), (2, none), (4, none)], [(1002, [])]⟩)]),
  (130, [(1, ⟨[(0, none), (1, none)], []⟩)]),
  (131, [(1, ⟨[(0, none), (1, none)], []⟩)]),
  (139, [(38, ⟨[(175, none)], []⟩), (5, ⟨[(0, none), (7, none), (8, none), (9, none)], []⟩), (12, ⟨[(0, none), (7, none), (8, none), (9, none), (12, none)], []⟩), (25, ⟨[(0, none), (7, none), (8, none), (9, none), (14, none), (15, none)], []⟩), (29, ⟨[(0, none), (7, none), (8, none), (9, none), (14, none), (15, none), (16, none)], []⟩)]),
  (164, [(3, ⟨[(0, none), (1, none), (6, none), (7, none), (8, none)], []⟩)]),
  (176, [(1, ⟨[(0, some (1, 9)), (2, none), (3, none)], []⟩)]),
  (177, [(1, ⟨[(0, some (1, 37)), (2, none), (3, none)], []⟩)])]
noncomputable def planT : List (Nat × List (Nat × List PS)) := [
  (8, [(21, [.n 0, .n 1, .n 5, .n 6, .n 7, .n 8, .e 2 [8, 7, 6, 5, 0], .n 3, .e 4 [8, 7, 6, 5], .e 9 [8, 7, 6, 5], .e 10 []])]),
  (12, [(5, [.n 0, .n 1, .n 2, .n 3, .n 4, .n 5, .n 6, .n 7, .n 8, .n 9, .n 10, .n 11, .n 12, .e 13 [9, 8, 7, 6, 4, 3, 2, 1], .e 14 []])]),
  (13, [(6, [.n 0, .n 1, .n 2, .n 3, .n 4, .n 5, .n 6, .n 7, .n 8])]),
  (20, [(8, [.n 0, .n 1, .n 2, .n 3, .n 4, .n 5, .n 6, .n 7])]),
  (21, [(7, [.n 0, .n 1, .n 3, .e 2 [3, 0], .e 4 []])]),
  (31, [(1, [.n 0, .n 1, .n 2, .e 3 [0], .n 4, .n 5, .n 6, .n 7, .n 8, .n 9, .n 10, .n 11, .n 12, .n 13, .n 14, .n 15]), (3, [.n 0, .n 1, .n 2, .e 3 [0], .n 4, .n 5, .n 6, .n 7, .n 8, .n 9, .n 10, .n 11, .n 12, .n 14, .n 15, .e 13 [15, 14, 7, 6, 2, 1, 0], .n 16, .n 17, .n 18])]),
  (35, [(1, [.n 0, .n 1, .n 2, .n 3, .n 5, .n 6, .n 7, .n 8, .n 9, .e 4 [9, 8, 7, 6, 5, 0], .e 10 [6, 5, 1, 0], .n 11])]),
  (36, [(8, [.n 0, .n 1, .n 3, .n 4, .n 5, .n 6, .n 7, .e 2 [7, 6, 5, 4, 3], .n 8, .n 9])]),
  (39, [(4, [.n 0, .n 2, .n 3, .e 1 [3, 2], .e 4 [], .n 5])]),
  (42, [(1, [.n 0, .n 1, .n 2, .n 3, .n 4, .n 5, .n 6, .e 7 [6, 5, 4, 3, 2, 1, 0], .n 8, .e 9 []]), (20, [.n 0, .n 1, .n 2, .n 3, .n 4, .n 5, .n 6, .n 7, .n 8, .e 9 [1, 0], .n 10, .n 11, .n 12, .n 13, .e 14 [12], .n 15])]),
  (46, [(6, [.n 0, .n 1, .n 2, .n 3, .n 4, .n 5, .n 6, .n 7, .n 8])]),
  (47, [(7, [.n 0, .n 1, .n 2, .n 3, .n 4, .e 5 [4, 3, 2, 1, 0], .e 6 []])]),
  (49, [(7, [.n 0, .n 1, .n 2, .n 4, .e 3 [4, 0], .e 5 []]), (11, [.n 0, .n 1, .n 2, .n 4, .n 5, .e 3 [5, 4, 0], .e 6 []])]),
  (52, [(3, [.n 0, .n 1, .n 3, .n 4, .n 5, .n 6, .n 7, .n 8, .e 2 [8, 7, 6, 5, 4, 3], .n 9, .n 10, .n 11])]),
  (61, [(15, [.n 0, .n 1, .n 2, .n 3, .n 4, .n 5, .n 6, .n 7, .e 8 [6, 5, 4], .n 9, .e 10 []])]),
  (68, [(1, [.n 0, .n 1, .n 2, .n 3, .n 4, .n 5, .n 6, .n 7, .n 8, .e 9 [5, 1, 0], .n 10, .n 11, .e 12 []]), (2, [.n 0, .n 1, .n 2, .n 3, .n 4, .n 5, .n 6, .n 7, .n 8, .n 9]), (4, [.n 0, .n 1, .n 2, .n 3, .n 4, .n 5, .n 6, .n 7, .n 8, .n 9])]),
  (77, [(1, [.n 0, .n 1, .n 3, .e 2 [3, 0], .n 4, .e 5 [], .n 6])]),
  (78, [(1, [.n 0, .n 1, .n 3, .e 2 [3, 0], .n 4, .e 5 [], .n 6])]),
  (84, [(10, [.n 0, .n 1, .e 2 [0], .n 3, .n 4, .n 5, .n 6, .n 7, .n 8, .n 9]), (12, [.n 0, .n 1, .e 2 [0], .n 3, .n 4, .n 5, .n 6, .n 7, .n 8, .n 9]), (14, [.n 0, .n 1, .e 2 [0], .n 3, .n 4, .n 5, .n 6, .n 7, .n 8, .n 9]), (15, [.n 0, .n 1, .e 2 [0], .n 3, .n 4, .n 5, .n 6, .n 7, .n 8, .n 9])]),
  (87, [(4, [.n 0, .n 1, .n 2, .n 3, .n 4, .n 5, .n 6, .n 7, .n 8, .n 9, .n 10, .n 11]), (8, [.n 0, .n 1, .n 2, .n 3, .n 4, .n 5, .n 6, .n 7, .n 8, .n 9, .n 10, .n 11, .n 12, .n 13, .e 14 [5, 1, 0], .e 15 [11, 6, 5, 2, 1]])]),
  (88, [(2, [.n 0, .n 1, .n 2, .n 3, .n 4, .n 5, .n 6, .n 7, .e 8 [4, 0], .n 9, .n 10, .n 11, .n 12, .n 13, .n 14, .n 15])]),
  (89, [(1, [.n 0, .n 1, .n 2, .n 3, .n 4, .n 5, .n 6, .n 7, .e 8 [4, 0], .n 9, .n 10, .n 11, .n 12, .n 13, .n 14, .n 15]), (2, [.n 0, .n 1, .n 2, .n 3, .n 4, .n 5, .n 6, .n 7, .n 8, .n 9, .n 10, .e 11 [7, 3], .n 12, .n 13, .n 14, .n 15, .n 16, .n 17, .n 18, .n 19, .n 20, .n 21, .n 22, .e 23 [19, 18, 14, 9, 8, 7, 5, 4, 3, 1, 0], .n 24, .n 25])]),
  (103, [(7, [.n 0, .n 1, .n 2, .n 3, .n 4, .n 5, .n 6, .n 7, .n 8, .n 9, .n 10, .n 11, .e 12 [10, 9, 5, 4, 3], .n 13, .e 14 []]), (8, [.n 0, .n 1, .n 2, .n 3, .n 4, .n 5, .n 6, .n 7, .n 8, .n 9, .n 10, .n 11, .e 12 [10, 9, 5, 4, 3], .n 13, .e 14 []]), (9, [.n 0, .n 1, .n 2, .n 3, .n 4, .n 5, .n 6, .n 7, .n 8, .n 9, .n 10, .n 11, .e 12 [10, 9, 5, 4, 3], .n 13, .e 14 []]), (10, [.n 0, .n 1, .n 2, .n 3, .n 4, .n 5, .n 6, .n 7, .n 8, .n 9, .n 10, .n 11, .e 12 [10, 9, 5, 4, 3], .n 13, .e 14 []]), (17, [.n 0, .n 1, .n 2, .n 3, .n 4, .n 5, .n 6, .n 7, .n 8, .n 9, .n 10, .n 11, .e 12 [10, 9, 5, 4, 3], .n 13, .e 14 []]), (18, [.n 0, .n 1, .n 2, .n 3, .n 4, .n 5, .n 6, .n 7, .n 8, .n 9, .n 10, .n 11, .e 12 [10, 9, 5, 4, 3], .n 13, .e 14 []]), (23, [.n 0, .n 1, .n 2, .n 3, .n 4, .n 5, .n 6, .n 7, .n 8, .n 9, .n 10, .n 11, .e 12 [10, 9, 5, 4, 3], .n 13, .e 14 []])]),
  (108, [(0, [.n 0, .n 1, .e 2 [0], .e 3 [], .e 4 []])]),
  (109, [(6, [.n 0, .n 1, .e 2 [0], .e 3 []]), (7, [.n 0, .n 1, .n 2, .e 3 [1, 0], .e 4 []])]),
  (110, [(1, [.n 0, .n 2, .e 1 [2], .n 3, .n 4, .n 5, .n 6, .n 7, .n 8, .n 9, .n 10, .n 11, .n 12, .n 13, .n 14, .n 15])]),
  (126, [(3, [.n 0, .n 1, .n 2, .e 3 [], .n 4, .n 5, .n 6, .n 7, .n 8]), (9, [.n 0, .n 1, .n 2, .n 3, .n 4, .n 5, .n 6])]),
  (139, [(6, [.n 0, .n 1, .n 2, .n 3, .n 4, .n 5, .n 6]), (7, [.n 0, .n 1, .n 2, .n 3, .n 4, .n 5, .n 6, .e 7 [], .n 8]), (14, [.n 0, .n 1, .n 2, .n 3, .n 4, .n 5, .n 6, .n 7, .n 8, .n 9, .n 10]), (31, [.n 0, .n 1, .n 2, .n 3, .n 4, .n 5, .n 6, .n 7, .n 8, .n 9, .n 10])]),
  (161, [(5, [.n 0, .n 1, .n 3, .n 4, .n 5, .e 2 [5, 4, 3], .e 6 [], .e 7 []])]),
  (162, [(5, [.n 0, .n 1, .n 3, .n 4, .n 5, .e 2 [5, 4, 3], .e 6 [], .e 7 []])]),
  (163, [(6, [.n 0, .n 1, .n 2, .n 3, .n 4, .n 6, .n 7, .n 8, .n 9, .n 10, .e 5 [10, 9, 8, 7, 6], .e 11 [2], .e 12 [8], .e 13 []])]),
  (165, [(11, [.n 0, .n 1, .n 2, .n 3, .n 4, .n 5, .n 6, .n 7, .e 8 []]), (15, [.n 0, .n 1, .n 2, .n 3, .n 4, .n 5, .n 6, .n 7, .e 8 []])]),
  (166, [(11, [.n 0, .n 1, .n 2, .n 3, .n 4, .n 5, .n 6, .n 7, .e 8 []]), (15, [.n 0, .n 1, .n 2, .n 3, .n 4, .n 5, .n 6, .n 7, .e 8 []])]),
  (176, [(3, [.n 0, .n 1, .n 2, .n 3, .n 4, .n 5, .n 6, .n 7, .n 8, .n 9, .n 10, .n 11, .n 12, .e 13 [3, 2], .n 14, .e 15 []])]),
  (177, [(3, [.n 0, .n 1, .n 2, .n 3, .n 4, .n 5, .n 6, .n 7, .n 8, .n 9, .n 10, .n 11, .n 12, .e 13 [3, 2], .n 14, .e 15 []])])]
noncomputable def liveT : List (Nat × List (Nat × Trim)) := [
  (2, [(0, ⟨[], []⟩)]),
  (3, [(0, ⟨[0, 1], []⟩), (1, ⟨[0, 1, 5], []⟩), (2, ⟨[0, 1, 5, 18], []⟩), (3, ⟨[4], []⟩), (4, ⟨[0, 1, 5, 6], []⟩), (5, ⟨[0, 1, 5, 27], []⟩), (6, ⟨[4], []⟩), (7, ⟨[0, 1, 5, 7, 8], []⟩), (8, ⟨[1, 5, 7, 8, 9, 10], []⟩), (9, ⟨[1, 5, 7, 8, 9, 10, 11, 12], []⟩), (10, ⟨[5, 7, 8, 9, 10, 11, 12, 13, 14], []⟩), (11, ⟨[5, 8, 10, 11, 12, 13, 14, 15], []⟩), (12, ⟨[4], []⟩)]),
  (4, [(0, ⟨[0, 1], []⟩), (1, ⟨[0, 1, 5], []⟩), (2, ⟨[0, 1, 5, 18], []⟩), (3, ⟨[4], []⟩), (4, ⟨[0, 1, 5, 6], []⟩), (5, ⟨[0, 1, 5, 27], []⟩), (6, ⟨[4], []⟩), (7, ⟨[0, 1, 5, 7, 8], []⟩), (8, ⟨[0, 1, 5, 7, 8, 9, 10], []⟩), (9, ⟨[1, 5, 58], []⟩), (10, ⟨[4], []⟩), (11, ⟨[1, 5, 11, 12], []⟩), (12, ⟨[1, 5, 11, 12, 13, 14], []⟩), (13, ⟨[5, 11, 12, 14, 15], []⟩), (14, ⟨[4], []⟩)]),
  (5, [(0, ⟨[0, 1, 2], []⟩), (1, ⟨[0, 1, 2, 7], []⟩), (2, ⟨[0, 1, 2, 7, 24], []⟩), (3, ⟨[6], []⟩), (4, ⟨[0, 1, 2, 7, 8], []⟩), (5, ⟨[0, 1, 2, 7, 37], []⟩), (6, ⟨[6], []⟩), (7, ⟨[0, 1, 2, 7, 9, 10], []⟩), (8, ⟨[0, 1, 2, 7, 9, 10, 11, 12], []⟩), (9, ⟨[0, 1, 2, 7, 9, 10, 11, 12, 13, 14], []⟩), (10, ⟨[0, 1, 2, 7, 9, 10, 11, 12, 13, 62], []⟩), (11, ⟨[6], []⟩), (12, ⟨[0, 1, 2, 7, 9, 10, 11, 12, 13, 75], []⟩), (13, ⟨[6], []⟩), (14, ⟨[0, 1, 2, 7, 9, 10, 11, 13, 83], []⟩), (15, ⟨[6], []⟩), (16, ⟨[0, 1, 2, 7, 9, 11, 13, 85], []⟩), (17, ⟨[0, 1, 7, 11, 13, 15], []⟩), (18, ⟨[0, 1, 7, 11, 15, 95], []⟩), (19, ⟨[0, 1, 7, 11, 15], []⟩), (20, ⟨[0, 7, 11, 15, 17], []⟩), (21, ⟨[0, 7, 11, 15, 105], []⟩), (22, ⟨[6], []⟩), (23, ⟨[6], []⟩), (24, ⟨[0, 1, 7, 18, 19], []⟩), (25, ⟨[0, 1, 7, 18, 129], []⟩), (26, ⟨[6], []⟩), (27, ⟨[0, 7, 20, 21], []⟩), (28, ⟨[6], []⟩)]),
  (6, [(0, ⟨[], []⟩), (1, ⟨[1], []⟩), (2, ⟨[1, 4, 5], []⟩), (3, ⟨[1, 4, 5, 6, 7], []⟩), (4, ⟨[1, 4, 5, 6, 7, 8, 9], []⟩), (5, ⟨[1, 4, 5, 6, 7, 9, 10, 11], []⟩), (6, ⟨[1, 4, 5, 6, 7, 9, 10, 11, 13], []⟩), (7, ⟨[4, 5, 6, 7, 9, 10, 11, 13, 15], []⟩), (8, ⟨[4, 5, 6, 7, 9, 10, 11, 13, 15, 16], []⟩), (9, ⟨[4, 5, 6, 7, 9, 10, 11, 13, 15, 16, 19, 20], []⟩), (10, ⟨[4, 5, 6, 7, 9, 10, 11, 13, 15, 16, 19, 20, 21, 22], []⟩), (11, ⟨[0], []⟩)]),
  (7, [(0, ⟨[0], []⟩), (1, ⟨[0, 3], []⟩), (2, ⟨[0, 3, 11], []⟩), (4, ⟨[0, 3, 20], []⟩), (5, ⟨[2], []⟩), (3, ⟨[0, 3], []⟩), (6, ⟨[2], []⟩)]),
  (8, [(0, ⟨[0], []⟩), (1, ⟨[0, 18], []⟩), (2, ⟨[2, 3], []⟩), (3, ⟨[0, 4], []⟩), (4, ⟨[4, 5], []⟩), (5, ⟨[4, 5, 21], []⟩), (6, ⟨[4, 5, 6, 7], []⟩), (7, ⟨[4, 5, 6, 27], []⟩), (8, ⟨[4, 8, 9, 10], []⟩), (9, ⟨[4, 8, 9, 10, 11, 12], []⟩), (10, ⟨[4, 9, 11, 58], []⟩), (11, ⟨[2, 3], []⟩), (12, ⟨[4, 5], []⟩), (13, ⟨[4, 5, 67], []⟩), (14, ⟨[4, 13, 14], []⟩), (15, ⟨[4, 13, 74], []⟩), (16, ⟨[2, 3], []⟩), (17, ⟨[4, 5], []⟩), (18, ⟨[4, 5, 15], []⟩), (19, ⟨[4, 5, 15, 79], []⟩), (20, ⟨[2, 3], []⟩), (21, ⟨[4, 5], []⟩), (22, ⟨[2, 3], []⟩)]),
  (9, [(0, ⟨[0], []⟩), (1, ⟨[0, 4], []⟩), (2, ⟨[0, 4, 10], []⟩), (3, ⟨[2, 3], []⟩), (4, ⟨[0, 4, 5], []⟩), (5, ⟨[0, 4, 5, 14], []⟩), (6, ⟨[0, 4, 5, 18], []⟩), (7, ⟨[0, 4, 5, 6], []⟩), (8, ⟨[0, 4, 5, 6, 29], []⟩), (9, ⟨[0, 4, 5, 6], []⟩), (10, ⟨[0, 4, 5, 6, 44], []⟩), (11, ⟨[2, 3], []⟩), (12, ⟨[0, 4, 6], []⟩), (13, ⟨[0, 4, 5], []⟩), (14, ⟨[0, 4, 5, 58], []⟩), (15, ⟨[0, 4, 5, 62], []⟩), (16, ⟨[2, 3], []⟩), (17, ⟨[0, 4, 5], []⟩), (18, ⟨[0, 4, 5, 7], []⟩), (19, ⟨[0, 4, 5, 7, 75], []⟩), (20, ⟨[0, 4, 5, 7], []⟩), (21, ⟨[0, 4, 5, 7, 80], []⟩), (22, ⟨[2, 3], []⟩), (23, ⟨[0, 4, 7], []⟩), (24, ⟨[0, 4, 5], []⟩), (25, ⟨[2, 3], []⟩)]),
  (10, [(0, ⟨[0], []⟩), (1, ⟨[0, 4], []⟩), (2, ⟨[4, 9, 10, 11], []⟩), (3, ⟨[4, 9, 10, 11, 12], []⟩), (4, ⟨[4, 5, 6, 9, 10, 11], []⟩), (5, ⟨[4, 5, 6, 7, 8, 9, 10, 11], []⟩), (6, ⟨[4, 7, 8, 9, 10, 11, 27], []⟩), (7, ⟨[4, 7, 8, 9, 10, 11], []⟩), (8, ⟨[4, 8, 9, 10, 11], []⟩), (9, ⟨[4, 8, 9, 10, 11, 32], []⟩), (10, ⟨[2, 3], []⟩), (11, ⟨[4, 9, 10, 11, 34], []⟩), (12, ⟨[2, 3], []⟩), (13, ⟨[4, 9, 10, 11], []⟩), (14, ⟨[2, 3], []⟩)]),
  (11, [(0, ⟨[0], []⟩), (1, ⟨[0, 4], []⟩), (2, ⟨[0, 4, 5], []⟩), (3, ⟨[0, 4, 5, 14], []⟩), (5, ⟨[0, 4, 5, 38], []⟩), (6, ⟨[0, 4, 5], []⟩), (7, ⟨[0, 4, 5, 63], []⟩), (8, ⟨[2, 3], []⟩), (9, ⟨[0, 4, 5, 65], []⟩), (10, ⟨[0, 4, 5], []⟩), (11, ⟨[0, 4, 5], []⟩), (4, ⟨[0, 4, 5], []⟩), (12, ⟨[4, 77], []⟩), (13, ⟨[2, 3], []⟩), (14, ⟨[2, 3], []⟩)]),
  (12, [(0, ⟨[0], []⟩), (1, ⟨[0, 3], []⟩), (2, ⟨[0, 3, 4], []⟩), (3, ⟨[0, 3, 4, 8], []⟩), (5, ⟨[0, 3, 4], []⟩), (4, ⟨[0, 3, 4], []⟩), (6, ⟨[2], []⟩)]),
  (13, [(0, ⟨[0, 1], []⟩), (1, ⟨[0, 1, 10], []⟩), (2, ⟨[4], []⟩), (3, ⟨[0, 1, 5], []⟩), (4, ⟨[0, 1, 5, 14], []⟩), (6, ⟨[0, 1, 5, 25], []⟩), (7, ⟨[4], []⟩), (5, ⟨[0, 1, 5], []⟩), (8, ⟨[4], []⟩)]),
  (14, [(0, ⟨[0], []⟩), (1, ⟨[0, 3], []⟩), (2, ⟨[0, 3, 11], []⟩), (4, ⟨[0, 3, 20], []⟩), (5, ⟨[2], []⟩), (3, ⟨[0, 3], []⟩), (6, ⟨[2], []⟩)]),
  (15, [(0, ⟨[0, 1], []⟩), (1, ⟨[0, 6, 7], []⟩), (2, ⟨[0, 6, 7, 18], []⟩), (3, ⟨[4, 5], []⟩), (4, ⟨[0, 20, 21, 22], []⟩), (5, ⟨[0, 20, 21, 22, 23], []⟩), (6, ⟨[0, 9, 20, 21, 22], []⟩), (7, ⟨[0, 10, 20, 21, 22], []⟩), (8, ⟨[0, 10, 20, 21, 22, 30], []⟩), (9, ⟨[4, 5], []⟩), (10, ⟨[0, 20, 21, 22], []⟩), (11, ⟨[0, 20, 21, 22], []⟩), (12, ⟨[4, 5], []⟩)]),
  (16, [(0, ⟨[0, 1], []⟩), (1, ⟨[0, 6, 7], []⟩), (2, ⟨[0, 6, 7, 16], []⟩), (3, ⟨[4, 5], []⟩), (4, ⟨[0, 6, 20], []⟩), (5, ⟨[4, 5], []⟩), (6, ⟨[8, 9], []⟩), (7, ⟨[8, 33], []⟩), (8, ⟨[4, 5], []⟩), (9, ⟨[4, 5], []⟩)]),
  (17, [(0, ⟨[0], []⟩), (1, ⟨[0, 3], []⟩), (2, ⟨[0, 13], []⟩), (3, ⟨[2], []⟩), (4, ⟨[4, 5], []⟩), (5, ⟨[4, 19], []⟩), (6, ⟨[2], []⟩), (7, ⟨[22], []⟩), (8, ⟨[2], []⟩), (9, ⟨[2], []⟩)]),
  (18, [(0, ⟨[0, 1, 2], []⟩), (1, ⟨[0, 2, 8, 9], []⟩), (2, ⟨[0, 2, 8, 9, 21], []⟩), (3, ⟨[6, 7], []⟩), (4, ⟨[0, 2, 8, 10], []⟩), (5, ⟨[0, 2, 8, 10, 26], []⟩), (6, ⟨[6, 7], []⟩), (7, ⟨[0, 2, 8, 30], []⟩), (8, ⟨[6, 7], []⟩), (9, ⟨[11, 12], []⟩), (10, ⟨[11, 43], []⟩), (11, ⟨[6, 7], []⟩), (12, ⟨[11, 13], []⟩), (13, ⟨[11, 13, 47], []⟩), (14, ⟨[6, 7], []⟩), (15, ⟨[6, 7], []⟩)]),
  (19, [(0, ⟨[0, 1], []⟩), (1, ⟨[4], []⟩)]),
  (20, [(0, ⟨[0], []⟩), (1, ⟨[0, 12], []⟩), (2, ⟨[2, 3, 4], []⟩), (3, ⟨[0, 5, 6], []⟩), (4, ⟨[0, 5, 6, 7], []⟩), (5, ⟨[0, 5, 6, 7, 20], []⟩), (6, ⟨[6, 7, 8], []⟩), (7, ⟨[7, 8], []⟩), (8, ⟨[2, 3, 4], []⟩), (9, ⟨[0, 5, 9], []⟩), (10, ⟨[0, 5, 9, 32], []⟩), (11, ⟨[2, 3, 4], []⟩), (12, ⟨[2, 3, 4], []⟩)]),
  (21, [(0, ⟨[0, 1], []⟩), (1, ⟨[0, 6, 7], []⟩), (2, ⟨[0, 6, 7, 17], []⟩), (3, ⟨[4, 5], []⟩), (4, ⟨[0, 6, 8], []⟩), (5, ⟨[0, 6, 8, 9], []⟩), (6, ⟨[0, 6, 8, 9], []⟩), (7, ⟨[8], []⟩), (8, ⟨[4, 5], []⟩)]),
  (22, [(0, ⟨[0, 1], []⟩), (1, ⟨[4, 5], []⟩)]),
  (23, [(0, ⟨[0, 1], []⟩), (1, ⟨[4, 5, 6], []⟩)]),
  (24, [(0, ⟨[0], []⟩), (1, ⟨[0, 4, 5], []⟩), (2, ⟨[0, 4, 5, 12], []⟩), (3, ⟨[2, 3], []⟩), (4, ⟨[2, 3], []⟩)]),
  (25, [(0, ⟨[0], []⟩), (1, ⟨[2], []⟩)]),
  (26, [(0, ⟨[0, 2], []⟩), (1, ⟨[2], []⟩)]),
  (27, [(0, ⟨[0], []⟩), (1, ⟨[0, 3], []⟩), (2, ⟨[0, 3, 13], []⟩), (3, ⟨[0, 3], []⟩), (4, ⟨[2], []⟩)]),
  (28, [(0, ⟨[0, 2], []⟩), (1, ⟨[2], []⟩)]),
  (29, [(0, ⟨[0], []⟩), (1, ⟨[0, 21], []⟩), (2, ⟨[2], []⟩), (3, ⟨[0, 3], []⟩), (4, ⟨[0, 3, 4], []⟩), (5, ⟨[0, 3, 4, 25], []⟩), (7, ⟨[0, 3, 4, 37], []⟩), (8, ⟨[2], []⟩), (9, ⟨[0, 3, 4], []⟩), (6, ⟨[0, 3, 4], []⟩), (10, ⟨[2], []⟩)]),
  (30, [(0, ⟨[0], []⟩), (1, ⟨[2], []⟩)]),
  (31, [(0, ⟨[1], []⟩), (1, ⟨[1, 4], []⟩), (2, ⟨[2, 3], []⟩), (3, ⟨[1, 25], []⟩), (4, ⟨[2, 3], []⟩), (5, ⟨[2, 3], []⟩)]),
  (32, [(0, ⟨[0, 1], []⟩), (1, ⟨[0, 1], []⟩), (2, ⟨[], []⟩), (3, ⟨[4], []⟩)]),
  (33, [(0, ⟨[0, 1], []⟩), (1, ⟨[0, 1], []⟩), (2, ⟨[1], []⟩), (3, ⟨[4, 5], []⟩)]),
  (34, [(0, ⟨[0], []⟩), (1, ⟨[2], []⟩)]),
  (35, [(0, ⟨[0], []⟩), (1, ⟨[2], []⟩)]),
  (36, [(0, ⟨[0], []⟩), (1, ⟨[0, 9], []⟩), (2, ⟨[2], []⟩), (3, ⟨[0, 20], []⟩), (4, ⟨[2], []⟩), (5, ⟨[0, 3], []⟩), (6, ⟨[0, 3, 30], []⟩), (7, ⟨[0, 3], []⟩), (8, ⟨[2], []⟩)]),
  (37, [(0, ⟨[0], []⟩), (1, ⟨[0, 3], []⟩), (2, ⟨[0, 3, 7], []⟩), (4, ⟨[0, 3, 14], []⟩), (5, ⟨[2], []⟩), (3, ⟨[0, 3], []⟩), (6, ⟨[2], []⟩)]),
  (38, [(0, ⟨[0, 1], []⟩), (1, ⟨[1, 6], []⟩), (2, ⟨[1, 6, 10], []⟩), (3, ⟨[4, 5], []⟩), (4, ⟨[4, 5], []⟩)]),
  (39, [(0, ⟨[0, 3], []⟩), (1, ⟨[0, 3, 5], []⟩), (2, ⟨[0, 3, 5, 6], []⟩), (3, ⟨[0, 3, 5, 6, 13], []⟩), (4, ⟨[0, 3, 5, 6], []⟩), (5, ⟨[5, 6, 38], []⟩), (6, ⟨[4], []⟩), (7, ⟨[4], []⟩)]),
  (40, [(0, ⟨[0, 1], []⟩), (1, ⟨[0, 1, 8], []⟩), (2, ⟨[4], []⟩), (3, ⟨[4], []⟩)]),
  (41, [(0, ⟨[0], []⟩), (1, ⟨[0, 4], []⟩), (2, ⟨[2], []⟩), (3, ⟨[2], []⟩)]),
  (42, [(0, ⟨[0, 1, 2], []⟩), (1, ⟨[0, 1, 2, 8, 9], []⟩), (2, ⟨[0, 1, 2, 8, 9, 38], []⟩), (3, ⟨[6, 7], []⟩), (4, ⟨[0, 1, 2, 8, 9, 10], []⟩), (5, ⟨[0, 1, 2, 8, 9, 10, 11], []⟩), (6, ⟨[0, 1, 2, 8, 9, 10, 11, 42, 43, 44], []⟩), (7, ⟨[0, 1, 2, 8, 9, 10, 11, 42, 43, 44, 45], []⟩), (8, ⟨[0, 1, 2, 8, 9, 10, 11, 13, 42, 43, 44], []⟩), (9, ⟨[0, 1, 2, 8, 9, 10, 11, 42, 43, 44], []⟩), (10, ⟨[0, 1, 2, 8, 9, 10, 11, 42, 43, 44], []⟩), (11, ⟨[1, 2, 8, 9, 10, 11, 14], []⟩), (12, ⟨[1, 2, 8, 9, 10, 11, 14, 61], []⟩), (13, ⟨[1, 2, 8, 9, 10, 11, 14], []⟩), (14, ⟨[1, 2, 8, 9, 10, 11, 14, 67], []⟩), (15, ⟨[1, 2, 8, 9, 10, 11, 14], []⟩), (16, ⟨[1, 2, 8, 9, 10, 11, 14, 15], []⟩), (17, ⟨[1, 2, 8, 9, 10, 11, 14, 15, 72], []⟩), (18, ⟨[8, 10, 11, 15], []⟩), (19, ⟨[1, 2, 8, 10, 11, 14, 15, 84], []⟩), (20, ⟨[8, 10, 11, 15], []⟩), (21, ⟨[8, 10, 11, 100], []⟩), (22, ⟨[6, 7], []⟩), (23, ⟨[6, 7], []⟩)]),
  (43, [(0, ⟨[1], []⟩), (1, ⟨[2], []⟩)]),
  (44, [(0, ⟨[0, 1], []⟩), (1, ⟨[4], []⟩)]),
  (45, [(0, ⟨[0, 2, 3], []⟩), (1, ⟨[0, 2, 3], []⟩), (2, ⟨[0, 2, 3], []⟩), (3, ⟨[2, 3], []⟩), (4, ⟨[2, 3], []⟩)]),
  (46, [(0, ⟨[0, 1], []⟩), (1, ⟨[0, 1, 10], []⟩), (2, ⟨[4], []⟩), (3, ⟨[0, 1, 12, 13], []⟩), (4, ⟨[0, 1, 12, 13, 14], []⟩), (5, ⟨[0, 1, 5, 12, 13], []⟩), (6, ⟨[0, 1, 12, 13, 24], []⟩), (7, ⟨[4], []⟩), (8, ⟨[0, 1, 12, 13], []⟩), (9, ⟨[4], []⟩)]),
  (47, [(0, ⟨[0, 2, 3], []⟩), (1, ⟨[0, 2, 3], []⟩), (2, ⟨[0, 2, 3, 4], []⟩), (3, ⟨[0, 2, 3, 4], []⟩), (4, ⟨[0, 2, 3, 4], []⟩), (5, ⟨[2, 3, 4], []⟩), (6, ⟨[2, 3, 4, 26], []⟩), (7, ⟨[2, 3], []⟩), (8, ⟨[2, 3], []⟩)]),
  (48, [(0, ⟨[0, 1], []⟩), (1, ⟨[0, 1, 9], []⟩), (2, ⟨[4], []⟩), (3, ⟨[0, 1, 11], []⟩), (4, ⟨[0, 1], []⟩), (5, ⟨[0, 1, 5], []⟩), (6, ⟨[0, 1, 5, 6], []⟩), (7, ⟨[0, 1, 5, 6, 23], []⟩), (8, ⟨[0, 1, 5, 6], []⟩), (9, ⟨[0, 1, 5, 7], []⟩), (10, ⟨[0, 1, 5, 7, 35], []⟩), (11, ⟨[0, 1, 5, 7], []⟩), (12, ⟨[4], []⟩)]),
  (49, [(0, ⟨[0, 1, 2, 3, 11], []⟩), (1, ⟨[], []⟩), (2, ⟨[0, 1, 3, 27], []⟩), (3, ⟨[0, 1, 3, 29, 30, 31], []⟩), (4, ⟨[0, 1, 3, 29, 30, 31, 32], []⟩), (5, ⟨[0, 1, 3, 7, 29, 30, 31], []⟩), (6, ⟨[0, 1, 3, 7, 29, 30, 31, 40], []⟩), (7, ⟨[0, 1, 3, 29, 30, 31], []⟩), (8, ⟨[0, 1, 3, 29, 30, 31], []⟩), (9, ⟨[0, 1, 3, 8], []⟩), (10, ⟨[0, 1, 3, 8, 54], []⟩), (11, ⟨[], []⟩)]),
  (50, [(0, ⟨[0, 1], []⟩), (1, ⟨[0, 1, 8], []⟩), (2, ⟨[4], []⟩), (3, ⟨[4], []⟩)]),
  (51, [(0, ⟨[0, 1], []⟩), (1, ⟨[0, 1, 9], []⟩), (2, ⟨[4, 5], []⟩), (3, ⟨[4, 5], []⟩)]),
  (52, [(0, ⟨[0, 1], []⟩), (1, ⟨[0, 1, 7], []⟩), (2, ⟨[0, 1, 7, 12], []⟩), (3, ⟨[4, 5, 6], []⟩), (4, ⟨[4, 5, 6], []⟩)]),
  (53, [(0, ⟨[0], []⟩), (1, ⟨[0, 4], []⟩), (2, ⟨[0, 30], []⟩), (3, ⟨[0, 5], []⟩), (4, ⟨[0, 5, 39], []⟩), (5, ⟨[0, 5], []⟩), (6, ⟨[0, 5, 44], []⟩), (7, ⟨[2, 3], []⟩), (8, ⟨[0, 5, 6], []⟩), (9, ⟨[5, 6, 47, 48, 49], []⟩), (10, ⟨[5, 6, 47, 48, 49, 50], []⟩), (11, ⟨[5, 6, 8, 47, 48, 49], []⟩), (12, ⟨[5, 6, 8, 47, 48, 49], []⟩), (13, ⟨[5, 6, 8, 47, 48, 49, 56], []⟩), (14, ⟨[2, 3], []⟩), (15, ⟨[5, 6, 47, 48, 49], []⟩), (16, ⟨[5, 6, 47, 48, 49], []⟩), (17, ⟨[6, 66], []⟩), (18, ⟨[6], []⟩), (19, ⟨[2, 3], []⟩), (20, ⟨[9, 10], []⟩), (21, ⟨[2, 3], []⟩)]),
  (54, [(0, ⟨[0, 1, 2, 3, 4], []⟩), (1, ⟨[0, 1, 2, 3, 4, 11], []⟩), (2, ⟨[0, 1, 2, 3, 4, 11, 12], []⟩), (3, ⟨[10], []⟩), (4, ⟨[0, 1, 2, 3, 4, 11, 19], []⟩), (5, ⟨[10], []⟩), (6, ⟨[0, 1, 2, 3, 4, 11, 26], []⟩), (7, ⟨[10], []⟩), (8, ⟨[0, 1, 3, 4, 34], []⟩), (9, ⟨[10], []⟩), (10, ⟨[10], []⟩)]),
  (55, [(0, ⟨[0], []⟩), (1, ⟨[2], []⟩)]),
  (56, [(0, ⟨[0], []⟩), (1, ⟨[0, 3], []⟩), (2, ⟨[0, 3], []⟩), (3, ⟨[0, 3], []⟩), (4, ⟨[3], []⟩), (5, ⟨[2], []⟩), (6, ⟨[2], []⟩)]),
  (57, [(0, ⟨[0, 6], []⟩), (1, ⟨[], []⟩), (2, ⟨[19], []⟩)]),
  (58, [(0, ⟨[0, 1], []⟩), (1, ⟨[0, 1, 7, 8], []⟩), (2, ⟨[0, 1, 7, 8, 9], []⟩), (3, ⟨[0, 1, 5, 7, 8], []⟩), (4, ⟨[0, 1, 5, 7, 8, 16], []⟩), (5, ⟨[4], []⟩), (6, ⟨[0, 1, 7, 8], []⟩), (7, ⟨[4], []⟩)]),
  (59, [(0, ⟨[0, 1, 10], []⟩), (1, ⟨[0, 1, 5, 10], []⟩), (2, ⟨[5, 9, 10], []⟩), (3, ⟨[5, 6, 9, 10], []⟩), (4, ⟨[5, 9, 10], []⟩), (5, ⟨[4], []⟩)]),
  (60, [(0, ⟨[0, 1], []⟩), (1, ⟨[4], []⟩)]),
  (61, [(0, ⟨[0, 1, 4], []⟩), (1, ⟨[0, 1, 4], []⟩), (2, ⟨[0, 1, 4, 5], []⟩), (3, ⟨[0, 1, 4, 5, 6], []⟩), (4, ⟨[0, 1, 4, 5, 6, 7], []⟩), (5, ⟨[0, 1, 4, 5, 6, 7, 31], []⟩), (7, ⟨[0, 1, 4, 5, 6, 7, 39], []⟩), (8, ⟨[0, 1, 4, 5, 6, 7], []⟩), (9, ⟨[0, 1, 4, 5, 6, 7, 8], []⟩), (10, ⟨[0, 1, 4, 5, 7, 8], []⟩), (11, ⟨[0, 1, 4, 5, 6, 7], []⟩), (12, ⟨[0, 1, 4, 5, 6, 7], []⟩), (13, ⟨[0, 1, 4, 5, 6, 7], []⟩), (14, ⟨[0, 1, 4, 5, 6, 7, 9], []⟩), (15, ⟨[0, 1, 4, 5, 6, 7], []⟩), (6, ⟨[0, 1, 4, 5, 6, 7], []⟩), (16, ⟨[4, 5], []⟩), (17, ⟨[4], []⟩)]),
  (62, [(0, ⟨[0, 1, 2], []⟩), (1, ⟨[0, 1, 2, 7], []⟩), (2, ⟨[0, 1, 7, 15, 16, 17], []⟩), (3, ⟨[0, 1, 7, 15, 16, 17, 18], []⟩), (4, ⟨[0, 1, 7, 8, 9, 15, 16, 17], []⟩), (5, ⟨[0, 1, 7, 8, 9, 15, 16, 17, 23], []⟩), (6, ⟨[0, 1, 7, 9, 15, 16, 17], []⟩), (7, ⟨[0, 1, 7, 15, 16, 17], []⟩), (8, ⟨[0, 1, 7, 15, 16, 17], []⟩), (9, ⟨[6], []⟩)]),
  (63, [(0, ⟨[0, 1], []⟩), (1, ⟨[0, 1, 7, 8], []⟩), (2, ⟨[0, 1, 7, 8, 9], []⟩), (3, ⟨[0, 1, 5, 7, 8], []⟩), (4, ⟨[0, 1, 5, 7, 8, 16], []⟩), (5, ⟨[4], []⟩), (6, ⟨[0, 1, 7, 8], []⟩), (7, ⟨[4], []⟩)]),
  (64, [(0, ⟨[0, 1, 3], []⟩), (1, ⟨[0, 1, 9], []⟩), (2, ⟨[], []⟩)]),
  (65, [(0, ⟨[3], []⟩), (1, ⟨[], []⟩)]),
  (66, [(0, ⟨[0, 1, 2, 3], []⟩), (1, ⟨[0, 1, 2, 9], []⟩), (2, ⟨[], []⟩)]),
  (67, [(0, ⟨[0], []⟩), (1, ⟨[0, 4], []⟩), (2, ⟨[0, 4, 5], []⟩), (3, ⟨[0, 4, 7], []⟩), (4, ⟨[0, 4, 9], []⟩), (5, ⟨[0, 4, 11], []⟩), (6, ⟨[0, 4, 13], []⟩), (7, ⟨[0, 15], []⟩), (8, ⟨[2], []⟩), (9, ⟨[2], []⟩), (10, ⟨[2], []⟩), (11, ⟨[2], []⟩), (12, ⟨[2], []⟩)]),
  (68, [(0, ⟨[0], []⟩), (1, ⟨[0], []⟩), (2, ⟨[0, 24], []⟩), (3, ⟨[2], []⟩), (4, ⟨[2], []⟩)]),
  (69, [(0, ⟨[0, 5], []⟩), (1, ⟨[], []⟩)]),
  (73, [(0, ⟨[0, 1, 3, 6], []⟩), (1, ⟨[0, 1, 3, 6, 19], []⟩), (2, ⟨[], []⟩), (3, ⟨[8], []⟩), (4, ⟨[0, 1, 3, 6, 9, 10], []⟩), (5, ⟨[0, 1, 3, 6, 35], []⟩), (6, ⟨[8], []⟩), (7, ⟨[1, 3, 6, 36], []⟩), (10, ⟨[1, 3, 6, 36, 38, 39], []⟩), (11, ⟨[1, 3, 6, 11], []⟩), (12, ⟨[0, 1, 3, 6], []⟩), (13, ⟨[0, 1, 3, 6, 43], []⟩), (14, ⟨[8], []⟩), (15, ⟨[1, 3, 6, 36, 45, 46], []⟩), (16, ⟨[1, 3, 6, 12], []⟩), (17, ⟨[1, 3, 6, 48, 49, 50], []⟩), (18, ⟨[1, 3, 6, 48, 49, 50, 51], []⟩), (19, ⟨[1, 3, 6, 14, 48, 49, 50], []⟩), (20, ⟨[1, 3, 6, 14, 48, 49, 50, 55], []⟩), (21, ⟨[1, 3, 6, 48, 49, 50, 60], []⟩), (22, ⟨[8], []⟩), (23, ⟨[1, 3, 6, 48, 49, 50], []⟩), (24, ⟨[8], []⟩), (8, ⟨[], []⟩), (9, ⟨[8], []⟩)]),
  (74, [(0, ⟨[0, 1], []⟩), (1, ⟨[4], []⟩)]),
  (75, [(0, ⟨[0, 1], []⟩), (1, ⟨[0, 1, 5], []⟩), (2, ⟨[0, 1, 5, 16], []⟩), (3, ⟨[4], []⟩), (4, ⟨[0, 1, 5, 24], []⟩), (5, ⟨[4], []⟩), (6, ⟨[0, 1, 5, 31], []⟩), (7, ⟨[4], []⟩), (8, ⟨[0, 1, 5, 36], []⟩), (9, ⟨[4], []⟩), (10, ⟨[0, 1, 5, 6], []⟩), (11, ⟨[0, 1, 5, 6, 7], []⟩), (12, ⟨[0, 1, 5, 6, 7, 8], []⟩), (13, ⟨[0, 1, 5, 6, 7, 8, 9], []⟩), (14, ⟨[0, 1, 5, 6, 7, 8, 9, 10], []⟩), (15, ⟨[0, 1, 5, 6, 7, 8, 9, 10, 59], []⟩), (16, ⟨[0, 1, 5, 6, 7, 8, 9, 10, 64], []⟩), (17, ⟨[0, 1, 5, 6, 7, 8, 9, 10, 11], []⟩), (18, ⟨[0, 1, 5, 6, 7, 8, 9, 10, 11, 73], []⟩), (19, ⟨[4], []⟩), (20, ⟨[0, 1, 5, 6, 7, 8, 9, 10], []⟩), (21, ⟨[0, 1, 5, 6, 7, 8, 9, 10, 93], []⟩), (22, ⟨[4], []⟩), (23, ⟨[0, 1, 5, 6, 7, 8, 9, 10], []⟩), (24, ⟨[0, 1, 5, 6, 7, 8, 9, 10], []⟩), (25, ⟨[0, 1, 5, 6, 7, 8, 9, 10, 107], []⟩), (26, ⟨[8, 12], []⟩), (27, ⟨[8, 12, 114], []⟩), (28, ⟨[4], []⟩), (29, ⟨[4], []⟩), (30, ⟨[0, 1, 5, 6, 7, 8, 9, 10, 132], []⟩), (31, ⟨[8, 13], []⟩), (32, ⟨[8, 13, 139], []⟩), (33, ⟨[4], []⟩), (34, ⟨[4], []⟩), (35, ⟨[4], []⟩)]),
  (76, [(0, ⟨[0, 1, 2], []⟩), (1, ⟨[0, 1, 2, 13], []⟩), (2, ⟨[6, 7], []⟩), (3, ⟨[0, 1, 2, 8], []⟩), (4, ⟨[0, 1, 2, 8, 16], []⟩), (5, ⟨[0, 1, 2, 8, 16, 17], []⟩), (6, ⟨[0, 1, 2, 8], []⟩), (7, ⟨[0, 1, 2, 8, 21], []⟩), (8, ⟨[0, 1, 2], []⟩), (9, ⟨[0, 1, 2, 8], []⟩), (10, ⟨[0, 1, 2, 8], []⟩), (11, ⟨[2, 7, 8, 9], []⟩), (12, ⟨[2, 7, 8, 9, 38], []⟩), (13, ⟨[6, 7], []⟩), (14, ⟨[2, 8, 9, 41], []⟩), (15, ⟨[2, 8, 9], []⟩), (16, ⟨[8, 9, 10], []⟩), (17, ⟨[8, 9, 10, 52], []⟩), (18, ⟨[6, 7], []⟩), (19, ⟨[8, 9, 10, 62], []⟩), (20, ⟨[6, 7], []⟩), (21, ⟨[8, 11], []⟩), (22, ⟨[11, 69], []⟩), (23, ⟨[11], []⟩), (24, ⟨[6, 7], []⟩)]),
  (77, [(0, ⟨[0, 1], []⟩), (1, ⟨[4], []⟩)]),
  (78, [(0, ⟨[0, 1], []⟩), (1, ⟨[4], []⟩)]),
  (79, [(0, ⟨[0, 1, 2], []⟩), (1, ⟨[6], []⟩)]),
  (80, [(0, ⟨[0, 1, 2], []⟩), (1, ⟨[6], []⟩)]),
  (81, [(0, ⟨[0, 1], []⟩), (1, ⟨[0, 1, 11], []⟩), (2, ⟨[0, 17], []⟩), (3, ⟨[4], []⟩), (4, ⟨[0, 5], []⟩), (5, ⟨[0, 5, 6], []⟩), (6, ⟨[0, 5, 6, 23], []⟩), (7, ⟨[0, 5, 6], []⟩), (8, ⟨[0, 5, 6, 7], []⟩), (9, ⟨[0, 5, 7], []⟩), (10, ⟨[5, 7, 34], []⟩), (11, ⟨[5, 7], []⟩), (12, ⟨[4], []⟩), (13, ⟨[4], []⟩), (14, ⟨[9], []⟩), (15, ⟨[4], []⟩)]),
  (83, [(0, ⟨[2, 3], []⟩), (1, ⟨[4], []⟩)]),
  (84, [(0, ⟨[1], []⟩), (1, ⟨[1, 3], []⟩), (2, ⟨[1, 3, 6], []⟩), (3, ⟨[1, 3, 6, 7], []⟩), (4, ⟨[1, 3, 6, 9], []⟩), (5, ⟨[1, 3, 6, 11], []⟩), (6, ⟨[1, 3, 6, 13], []⟩), (7, ⟨[1, 3, 6, 15], []⟩), (8, ⟨[1, 3, 15], []⟩), (9, ⟨[1, 3], []⟩), (10, ⟨[2], []⟩), (11, ⟨[1, 3], []⟩), (12, ⟨[2], []⟩), (13, ⟨[1, 3], []⟩), (14, ⟨[2], []⟩), (15, ⟨[2], []⟩), (16, ⟨[2], []⟩)]),
  (85, [(0, ⟨[1], []⟩), (1, ⟨[1, 3], []⟩), (2, ⟨[3], []⟩), (3, ⟨[2], []⟩)]),
  (86, [(0, ⟨[1], []⟩), (1, ⟨[1, 3], []⟩), (2, ⟨[3], []⟩), (3, ⟨[2], []⟩)]),
  (87, [(0, ⟨[0], []⟩), (1, ⟨[0, 7], []⟩), (2, ⟨[0, 7, 9], []⟩), (3, ⟨[0, 3, 4, 7], []⟩), (4, ⟨[0, 3, 4, 7, 24], []⟩), (5, ⟨[0, 3, 4, 26], []⟩), (6, ⟨[0, 3, 4, 26, 27, 28], []⟩), (7, ⟨[0, 3, 4, 5, 26], []⟩), (8, ⟨[0, 3, 4, 26], []⟩), (9, ⟨[0, 3, 4, 26], []⟩), (10, ⟨[2], []⟩), (11, ⟨[2], []⟩)]),
  (88, [(0, ⟨[0], []⟩), (1, ⟨[0], []⟩), (2, ⟨[0, 3, 4, 5], []⟩), (3, ⟨[0, 3, 4], []⟩), (4, ⟨[3], []⟩), (5, ⟨[2], []⟩)]),
  (89, [(0, ⟨[0], []⟩), (1, ⟨[0, 3, 4, 5], []⟩), (2, ⟨[0, 3, 4, 5, 44], []⟩), (3, ⟨[0, 3, 4, 5], []⟩), (4, ⟨[0, 3, 4], []⟩), (5, ⟨[3], []⟩), (6, ⟨[2], []⟩)]),
  (90, [(0, ⟨[0, 1], []⟩), (1, ⟨[0, 1], []⟩), (2, ⟨[4], []⟩)]),
  (94, [(0, ⟨[0, 1], []⟩), (1, ⟨[4], []⟩)]),
  (96, [(0, ⟨[0], []⟩), (1, ⟨[2], []⟩)]),
  (97, [(0, ⟨[0, 1], []⟩), (1, ⟨[0, 1, 5, 6], []⟩), (2, ⟨[0, 1, 5, 6, 7], []⟩), (3, ⟨[0, 1, 5, 6, 7, 8], []⟩), (4, ⟨[0, 1, 5, 6, 7, 8, 9], []⟩), (5, ⟨[0, 1, 5, 6, 7, 8, 9, 20], []⟩), (7, ⟨[0, 1, 5, 6, 7, 8, 9], []⟩), (6, ⟨[0, 1, 5, 6, 7, 8, 9], []⟩), (8, ⟨[0, 1, 5, 6, 7, 8, 39], []⟩), (9, ⟨[4], []⟩), (10, ⟨[0, 1, 5, 6, 7, 8, 10], []⟩), (11, ⟨[0, 1, 5, 6, 7, 8, 10, 44], []⟩), (12, ⟨[0, 1, 5, 6, 7, 8, 10], []⟩), (13, ⟨[0, 1, 5, 6, 7, 8, 10], []⟩), (14, ⟨[0, 1, 5, 6, 7, 8, 10], []⟩), (15, ⟨[0, 1, 5, 6, 7, 8, 10], []⟩), (16, ⟨[0, 1, 5, 6, 7, 8, 10, 77], []⟩), (17, ⟨[4], []⟩), (18, ⟨[4], []⟩)]),
  (98, [(0, ⟨[0, 1, 2], []⟩), (1, ⟨[0, 1, 2, 19], []⟩), (2, ⟨[6, 7], []⟩), (3, ⟨[0, 1, 2, 8], []⟩), (4, ⟨[0, 1, 2, 8, 9], []⟩), (6, ⟨[0, 1, 2, 8, 9, 25], []⟩), (7, ⟨[0, 2, 8, 9, 32], []⟩), (8, ⟨[0, 1, 2, 8, 9], []⟩), (9, ⟨[0, 1, 2, 8, 9, 37], []⟩), (12, ⟨[0, 2, 8, 9, 40], []⟩), (13, ⟨[0, 1, 2, 8, 9], []⟩), (14, ⟨[0, 1, 2, 8, 9], []⟩), (15, ⟨[0, 2, 8, 9, 52], []⟩), (16, ⟨[0, 1, 2, 8, 9], []⟩), (17, ⟨[0, 1, 2, 8, 9], []⟩), (18, ⟨[0, 2, 8, 9, 64], []⟩), (19, ⟨[0, 1, 2, 8, 9], []⟩), (20, ⟨[0, 1, 2, 8, 9], []⟩), (10, ⟨[0, 1, 2, 8, 9], []⟩), (11, ⟨[0, 1, 2, 8, 9], []⟩), (5, ⟨[6, 7], []⟩), (21, ⟨[0, 1, 2, 8, 9, 77], []⟩), (22, ⟨[0, 1, 2, 8, 9], []⟩), (23, ⟨[0, 1, 2, 8, 9, 83], []⟩), (24, ⟨[6, 7], []⟩), (25, ⟨[0, 1, 2, 8, 9], []⟩), (26, ⟨[0, 1, 2, 8, 9, 85], []⟩), (28, ⟨[0, 1, 2, 8, 9, 85, 90], []⟩), (29, ⟨[0, 1, 2, 8, 9, 10], []⟩), (30, ⟨[0, 1, 2, 8, 9, 92], []⟩), (31, ⟨[0, 1, 2, 8, 9, 10], []⟩), (27, ⟨[0, 1, 2, 8, 9, 10], []⟩), (32, ⟨[0, 1, 8, 9, 10, 11], []⟩), (33, ⟨[0, 1, 8, 9, 10, 11, 12], []⟩), (34, ⟨[0, 1, 8, 9, 10, 11, 12, 13], []⟩), (35, ⟨[1, 8, 9, 10, 11, 12, 13, 99, 100, 101], []⟩), (36, ⟨[1, 8, 9, 10, 11, 12, 13, 99, 100, 101, 102], []⟩), (37, ⟨[1, 8, 9, 10, 11, 12, 13, 15, 99, 100, 101], []⟩), (38, ⟨[1, 8, 9, 10, 11, 12, 13, 15, 99, 100, 101], []⟩), (40, ⟨[1, 8, 9, 10, 11, 12, 13, 15, 99, 100, 101, 106], []⟩), (41, ⟨[1, 8, 9, 10, 11, 12, 13, 99, 100, 101], []⟩), (42, ⟨[1, 8, 9, 10, 11, 12, 13, 15, 99, 100, 101, 112], []⟩), (43, ⟨[1, 8, 9, 10, 11, 12, 13, 16, 99, 100, 101], []⟩), (44, ⟨[1, 8, 9, 10, 11, 12, 13, 15, 99, 100, 101, 121], []⟩), (45, ⟨[1, 8, 9, 10, 11, 12, 13, 16, 99, 100, 101], []⟩), (39, ⟨[6, 7], []⟩), (46, ⟨[1, 8, 9, 10, 11, 12, 13, 16, 99, 100, 101, 137], []⟩), (47, ⟨[6, 7], []⟩), (48, ⟨[1, 8, 9, 10, 11, 12, 13, 16, 99, 100, 101, 141], []⟩), (49, ⟨[6, 7], []⟩), (50, ⟨[1, 8, 9, 10, 11, 12, 13, 16, 99, 100, 101], []⟩), (51, ⟨[1, 8, 9, 10, 11, 12, 13, 17, 99, 100, 101], []⟩), (52, ⟨[1, 8, 9, 10, 11, 12, 17, 99, 100, 101, 159], []⟩), (53, ⟨[6, 7], []⟩), (54, ⟨[1, 8, 9, 10, 11, 12, 13, 99, 100, 101], []⟩), (55, ⟨[1, 8, 9, 10, 11, 12, 13, 99, 100, 101], []⟩), (56, ⟨[13, 169], []⟩), (57, ⟨[6, 7], []⟩), (58, ⟨[6, 7], []⟩)]),
  (99, [(0, ⟨[0], []⟩), (1, ⟨[0, 6], []⟩), (2, ⟨[2], []⟩), (3, ⟨[0, 3], []⟩), (4, ⟨[3], []⟩), (5, ⟨[2], []⟩)]),
  (100, [(0, ⟨[0], []⟩), (1, ⟨[2], []⟩)]),
  (101, [(0, ⟨[0], []⟩), (1, ⟨[0, 4], []⟩), (2, ⟨[2], []⟩), (3, ⟨[2], []⟩)]),
  (102, [(0, ⟨[0], []⟩), (1, ⟨[0, 3], []⟩), (2, ⟨[2], []⟩)]),
  (103, [(0, ⟨[0, 1, 4], []⟩), (1, ⟨[0, 1, 4, 20], []⟩), (2, ⟨[0, 1, 4, 5], []⟩), (3, ⟨[0, 1, 4, 5], []⟩), (4, ⟨[0, 1, 4, 6, 7], []⟩), (5, ⟨[0, 1, 4, 6, 8, 9], []⟩), (6, ⟨[0, 1, 4, 8, 9, 10, 11], []⟩), (7, ⟨[0, 1, 4, 8, 10, 11], []⟩), (8, ⟨[0, 1, 4, 10, 11], []⟩), (9, ⟨[0, 1, 4, 10], []⟩), (10, ⟨[0, 1, 4], []⟩), (11, ⟨[0, 1, 4], []⟩), (12, ⟨[0, 4, 12], []⟩), (13, ⟨[0, 4, 12, 99], []⟩), (14, ⟨[0, 4, 12, 13], []⟩), (15, ⟨[0, 4, 12, 13], []⟩), (16, ⟨[0, 4, 12, 14, 15], []⟩), (17, ⟨[0, 4, 12, 14], []⟩), (18, ⟨[0, 4, 12], []⟩), (19, ⟨[0, 4, 12], []⟩), (20, ⟨[0, 4, 12, 139], []⟩), (21, ⟨[0, 4, 12, 16], []⟩), (22, ⟨[0, 4, 12, 16], []⟩), (23, ⟨[0, 4, 12], []⟩), (24, ⟨[0, 4, 12], []⟩), (25, ⟨[0, 12, 161], []⟩), (26, ⟨[], []⟩)]),
  (104, [(0, ⟨[0, 1, 2, 3, 4, 10, 11], []⟩), (1, ⟨[0, 1, 2, 3, 4, 10, 11, 28], []⟩), (2, ⟨[0, 1, 2, 3, 4, 10, 11], []⟩), (3, ⟨[0, 1, 2, 3, 4, 10, 11, 12], []⟩), (4, ⟨[0, 1, 2, 3, 4, 10, 11, 12, 13], []⟩), (5, ⟨[0, 1, 2, 3, 4, 10, 11, 12, 13, 30], []⟩), (6, ⟨[0, 1, 2, 3, 4, 10, 11, 12, 13], []⟩), (7, ⟨[0, 1, 2, 3, 4, 10, 11, 12, 13, 34], []⟩), (8, ⟨[0, 1, 2, 3, 4, 10, 11, 12, 13, 14], []⟩), (9, ⟨[0, 1, 2, 3, 4, 10, 11, 12, 13, 14, 15], []⟩), (10, ⟨[0, 1, 3, 4, 10, 11, 12, 13, 14, 15, 16], []⟩), (11, ⟨[0, 1, 3, 4, 10, 11, 12, 13, 14, 15, 16, 46], []⟩), (12, ⟨[0, 1, 3, 4, 10, 11, 12, 13, 14, 15, 16], []⟩), (13, ⟨[0, 1, 3, 4, 10, 11, 12, 13, 14, 15, 16], []⟩), (14, ⟨[0, 1, 3, 4, 10, 11, 12, 13, 14, 15, 16], []⟩), (15, ⟨[0, 1, 3, 4, 10, 11, 12, 13], []⟩), (16, ⟨[0, 3, 4, 10, 11, 12, 13], []⟩), (17, ⟨[0, 1, 3, 4, 10, 11, 12, 13, 17], []⟩), (18, ⟨[0, 1, 3, 4, 10, 11, 12, 13, 17, 68], []⟩), (19, ⟨[0, 1, 3, 4, 10, 11, 12, 13, 17], []⟩), (20, ⟨[0, 1, 3, 4, 10, 11, 12, 13, 17, 18], []⟩), (21, ⟨[0, 3, 4, 10, 11, 12, 13, 17, 18], []⟩), (22, ⟨[0, 1, 3, 4, 10, 11, 12, 13, 17], []⟩), (23, ⟨[0, 1, 3, 4, 10, 11, 12, 13], []⟩), (24, ⟨[0, 3, 4, 10, 11, 12, 13], []⟩), (25, ⟨[0, 4, 10, 11, 12, 13, 89], []⟩), (26, ⟨[0, 4, 10, 11, 12, 13], []⟩), (27, ⟨[0, 4, 10, 11, 12, 13], []⟩), (28, ⟨[0, 10, 11, 12, 13, 94], []⟩), (29, ⟨[10, 11], []⟩), (30, ⟨[10, 11], []⟩)]),
  (105, [(0, ⟨[0, 1, 2, 17], []⟩), (1, ⟨[0, 1, 21, 22, 23], []⟩), (2, ⟨[0, 1, 21, 22, 23, 24], []⟩), (3, ⟨[0, 1, 5, 21, 22, 23], []⟩), (4, ⟨[0, 1, 21, 22, 23, 36], []⟩), (5, ⟨[0, 1, 21, 22, 23], []⟩)]),
  (106, [(0, ⟨[1, 2], []⟩), (1, ⟨[2], []⟩)]),
  (107, [(0, ⟨[0, 1, 2], []⟩), (1, ⟨[0, 1, 2, 15], []⟩), (2, ⟨[0, 1, 2], []⟩), (3, ⟨[0, 1, 2, 20], []⟩), (4, ⟨[0, 1, 2], []⟩)]),
  (108, [(0, ⟨[0], []⟩), (1, ⟨[], []⟩)]),
  (109, [(0, ⟨[0, 1], []⟩), (1, ⟨[0, 1, 2], []⟩), (2, ⟨[0, 1, 2, 3], []⟩), (3, ⟨[0, 1, 2, 3, 5], []⟩), (4, ⟨[0, 1, 2, 3, 38], []⟩), (5, ⟨[0, 1, 3], []⟩), (6, ⟨[0, 1, 3], []⟩), (7, ⟨[], []⟩)]),
  (110, [(0, ⟨[0, 1], []⟩), (1, ⟨[0, 20], []⟩), (2, ⟨[4], []⟩), (3, ⟨[], []⟩), (4, ⟨[4], []⟩)]),
  (111, [(0, ⟨[0], []⟩), (1, ⟨[0, 3], []⟩), (2, ⟨[0, 3, 4, 5], []⟩), (3, ⟨[0, 3, 4, 5, 16], []⟩), (5, ⟨[0, 3, 4, 5, 6, 7], []⟩), (6, ⟨[0, 3, 4, 5, 6, 7, 20], []⟩), (7, ⟨[0, 3, 4, 5, 6, 7, 20, 22], []⟩), (8, ⟨[0, 3, 4, 5, 6, 7, 8, 20], []⟩), (9, ⟨[0, 3, 4, 5, 6, 7, 8, 20, 42], []⟩), (10, ⟨[0, 3, 4, 5, 6, 7, 20], []⟩), (11, ⟨[0, 3, 5, 6], []⟩), (12, ⟨[0, 3, 5, 6], []⟩), (13, ⟨[0, 3, 4, 5], []⟩), (4, ⟨[0, 3, 4, 5], []⟩), (14, ⟨[2], []⟩)]),
  (112, [(0, ⟨[0, 1, 2], []⟩), (1, ⟨[6], []⟩)]),
  (113, [(0, ⟨[0, 1], []⟩), (1, ⟨[0, 1, 16], []⟩), (2, ⟨[4, 5, 6], []⟩), (3, ⟨[0, 1, 7], []⟩), (4, ⟨[0, 1, 7, 8], []⟩), (5, ⟨[0, 1, 7, 8, 23], []⟩), (7, ⟨[0, 1, 7, 8, 9], []⟩), (9, ⟨[0, 1, 7, 8, 9, 33], []⟩), (10, ⟨[4, 5, 6], []⟩), (11, ⟨[0, 1, 7, 8, 9, 40], []⟩), (12, ⟨[4, 5, 6], []⟩), (13, ⟨[0, 1, 7, 8, 9, 48], []⟩), (14, ⟨[0, 1, 7, 8, 10, 11, 12], []⟩), (15, ⟨[0, 1, 7, 8, 10, 11, 61], []⟩), (16, ⟨[4, 5, 6], []⟩), (17, ⟨[0, 1, 7, 8, 11], []⟩), (18, ⟨[0, 1, 7, 8], []⟩), (8, ⟨[0, 1, 7, 8], []⟩), (6, ⟨[0, 1, 7, 8], []⟩), (19, ⟨[4, 5, 6], []⟩)]),
  (114, [(0, ⟨[0, 1], []⟩), (1, ⟨[0, 1, 7], []⟩), (2, ⟨[0, 1, 7, 13], []⟩), (3, ⟨[0, 1, 7], []⟩), (4, ⟨[0, 1, 7, 16], []⟩), (5, ⟨[4, 5, 6], []⟩), (6, ⟨[0, 1, 7, 22], []⟩), (7, ⟨[4, 5, 6], []⟩), (8, ⟨[0, 1, 7, 30], []⟩), (9, ⟨[0, 1, 7], []⟩), (10, ⟨[1, 7, 8, 9], []⟩), (11, ⟨[1, 7, 8, 42], []⟩), (12, ⟨[4, 5, 6], []⟩), (13, ⟨[4, 5, 6], []⟩)]),
  (115, [(0, ⟨[0, 1], []⟩), (1, ⟨[0, 1, 12], []⟩), (2, ⟨[4], []⟩), (3, ⟨[0, 1, 21], []⟩), (4, ⟨[4], []⟩), (5, ⟨[0, 1, 5, 6], []⟩), (6, ⟨[0, 1, 5, 31], []⟩), (7, ⟨[4], []⟩), (8, ⟨[4], []⟩)]),
  (117, [(0, ⟨[0], []⟩), (1, ⟨[0, 4], []⟩), (2, ⟨[0, 4, 5], []⟩), (3, ⟨[0, 4, 5, 12], []⟩), (5, ⟨[0, 4, 5], []⟩), (4, ⟨[0, 4, 5], []⟩), (6, ⟨[0, 4, 6, 7], []⟩), (7, ⟨[4, 6, 7, 8], []⟩), (8, ⟨[4, 6, 7, 8, 25], []⟩), (10, ⟨[4, 6, 7, 8, 30], []⟩), (11, ⟨[4, 6, 7, 8], []⟩), (12, ⟨[4, 6, 7, 8], []⟩), (9, ⟨[4, 6, 7, 8], []⟩), (13, ⟨[2, 3], []⟩)]),
  (118, [(0, ⟨[0], []⟩), (1, ⟨[2], []⟩)]),
  (119, [(0, ⟨[0], []⟩), (1, ⟨[0, 3], []⟩), (2, ⟨[0, 3, 4], []⟩), (3, ⟨[0, 3, 4, 18], []⟩), (4, ⟨[0, 3, 4], []⟩), (5, ⟨[0, 3, 4, 5], []⟩), (6, ⟨[0, 3, 4, 5, 46], []⟩), (7, ⟨[0, 4], []⟩), (8, ⟨[0, 3, 4], []⟩), (9, ⟨[0, 3, 4, 5], []⟩), (10, ⟨[0, 3, 4, 5, 54], []⟩), (12, ⟨[0, 3, 4, 5, 83], []⟩), (13, ⟨[0, 3, 4, 5], []⟩), (14, ⟨[0, 3, 4, 5, 87], []⟩), (15, ⟨[0, 4, 5, 89], []⟩), (16, ⟨[2], []⟩), (17, ⟨[0, 3, 4, 5], []⟩), (18, ⟨[0, 4, 5, 91], []⟩), (19, ⟨[2], []⟩), (20, ⟨[0, 3, 4, 5], []⟩), (11, ⟨[0, 3, 4, 5], []⟩), (21, ⟨[2], []⟩)]),
  (120, [(0, ⟨[0], []⟩), (1, ⟨[2], []⟩)]),
  (121, [(0, ⟨[0, 2], []⟩), (1, ⟨[0, 2, 4], []⟩), (2, ⟨[0], []⟩), (3, ⟨[0, 2], []⟩), (4, ⟨[0, 2, 8], []⟩), (5, ⟨[0, 2], []⟩), (6, ⟨[0, 2], []⟩), (7, ⟨[0, 2, 14], []⟩), (8, ⟨[0, 2], []⟩), (9, ⟨[0, 2], []⟩), (10, ⟨[2], []⟩)]),
  (122, [(0, ⟨[0], []⟩), (1, ⟨[3], []⟩), (2, ⟨[2], []⟩), (3, ⟨[2], []⟩)]),
  (123, [(0, ⟨[0], []⟩), (1, ⟨[2], []⟩)]),
  (124, [(0, ⟨[0], []⟩), (1, ⟨[2], []⟩), (2, ⟨[2], []⟩)]),
  (125, [(0, ⟨[0, 1], []⟩), (1, ⟨[4], []⟩)]),
  (126, [(0, ⟨[0], []⟩), (1, ⟨[0, 10], []⟩), (2, ⟨[2, 3, 4], []⟩), (3, ⟨[0, 5, 6], []⟩), (4, ⟨[0, 5, 18], []⟩), (5, ⟨[2, 3, 4], []⟩), (6, ⟨[0, 27], []⟩), (7, ⟨[2, 3, 4], []⟩), (8, ⟨[7, 8], []⟩), (9, ⟨[2, 3, 4], []⟩)]),
  (127, [(0, ⟨[0, 1, 2], []⟩), (1, ⟨[0, 1, 2, 7, 8], []⟩), (2, ⟨[0, 1, 2, 7, 8, 17], []⟩), (3, ⟨[6, 7], []⟩), (4, ⟨[6, 7], []⟩)]),
  (128, [(0, ⟨[0, 1], []⟩), (1, ⟨[0, 1, 13], []⟩), (2, ⟨[0, 1], []⟩), (3, ⟨[4], []⟩)]),
  (129, [(0, ⟨[0, 2], []⟩), (1, ⟨[0, 2, 4], []⟩), (2, ⟨[0, 2, 4, 9], []⟩), (4, ⟨[0, 2, 4, 5], []⟩), (5, ⟨[0, 2, 4, 5, 16], []⟩), (6, ⟨[2, 3], []⟩), (7, ⟨[0, 2, 4], []⟩), (3, ⟨[0, 2, 4], []⟩), (8, ⟨[2, 3], []⟩)]),
  (130, [(0, ⟨[0, 1], []⟩), (1, ⟨[0, 1, 7], []⟩), (2, ⟨[0, 1, 12], []⟩), (3, ⟨[0, 1], []⟩), (4, ⟨[4], []⟩)]),
  (131, [(0, ⟨[0, 1], []⟩), (1, ⟨[0, 1, 9], []⟩), (2, ⟨[0, 1, 5, 6], []⟩), (3, ⟨[0, 1, 6, 18], []⟩), (4, ⟨[0, 1], []⟩), (5, ⟨[4], []⟩)]),
  (132, [(0, ⟨[0], []⟩), (1, ⟨[0, 4], []⟩), (2, ⟨[2], []⟩), (3, ⟨[2], []⟩)]),
  (133, [(0, ⟨[0], []⟩), (1, ⟨[0, 4], []⟩), (2, ⟨[2], []⟩), (3, ⟨[2], []⟩)]),
  (134, [(0, ⟨[0, 1, 2], []⟩), (1, ⟨[0, 1, 2, 8, 9], []⟩), (2, ⟨[0, 1, 2, 8, 9, 18], []⟩), (3, ⟨[6, 7], []⟩), (4, ⟨[6, 7], []⟩)]),
  (135, [(0, ⟨[0, 1], []⟩), (1, ⟨[4], []⟩)]),
  (136, [(0, ⟨[0], []⟩), (1, ⟨[0, 10], []⟩), (2, ⟨[2, 3], []⟩), (3, ⟨[2, 3], []⟩)]),
  (137, [(0, ⟨[0, 1], []⟩), (1, ⟨[4], []⟩)]),
  (138, [(0, ⟨[0], []⟩), (1, ⟨[0, 4], []⟩), (2, ⟨[0, 4, 16], []⟩), (3, ⟨[2, 3], []⟩), (4, ⟨[0, 4, 5], []⟩), (5, ⟨[0, 4, 5, 6], []⟩), (6, ⟨[0, 4, 5, 6, 23], []⟩), (7, ⟨[0, 7], []⟩), (8, ⟨[2, 3], []⟩), (9, ⟨[0, 4, 5, 6, 8], []⟩), (10, ⟨[0, 4, 5, 8, 9], []⟩), (11, ⟨[0, 5, 8, 9, 45], []⟩), (12, ⟨[2, 3], []⟩), (13, ⟨[0, 5, 8, 9, 10], []⟩), (14, ⟨[0, 5, 8, 10, 57], []⟩), (15, ⟨[2, 3], []⟩), (16, ⟨[0, 5, 8, 10, 59], []⟩), (17, ⟨[2, 3], []⟩), (18, ⟨[0, 5, 8, 10, 11], []⟩), (19, ⟨[0, 5, 8, 10, 11, 75], []⟩), (20, ⟨[2, 3], []⟩), (21, ⟨[0, 5, 10, 11, 77], []⟩), (22, ⟨[2, 3], []⟩), (23, ⟨[5, 10, 11, 12], []⟩), (24, ⟨[5, 10, 11, 12, 98], []⟩), (25, ⟨[2, 3], []⟩), (26, ⟨[2, 3], []⟩)]),
  (139, [(0, ⟨[0, 1], []⟩), (34, ⟨[0, 1, 160], []⟩), (35, ⟨[4], []⟩), (36, ⟨[0, 1, 171], []⟩), (37, ⟨[175], []⟩), (38, ⟨[175, 176, 177], []⟩), (39, ⟨[5, 6, 175], []⟩), (40, ⟨[5, 175, 181], []⟩), (41, ⟨[4], []⟩), (42, ⟨[4], []⟩), (43, ⟨[0, 1, 183], []⟩), (44, ⟨[4], []⟩), (1, ⟨[0, 7], []⟩), (2, ⟨[0, 7, 8], []⟩), (3, ⟨[0, 7, 8, 9], []⟩), (4, ⟨[0, 7, 8, 9], []⟩), (5, ⟨[0, 7, 8, 9, 26], []⟩), (6, ⟨[0, 7, 8, 9, 33], []⟩), (7, ⟨[0, 7, 8, 9, 11], []⟩), (8, ⟨[0, 7, 8, 9, 11, 43], []⟩), (9, ⟨[4], []⟩), (10, ⟨[0, 7, 8, 9], []⟩), (11, ⟨[0, 7, 8, 9, 12], []⟩), (12, ⟨[0, 7, 8, 9, 12, 51], []⟩), (14, ⟨[0, 7, 8, 9, 12, 64], []⟩), (13, ⟨[0, 7, 8, 9, 12], []⟩), (15, ⟨[4], []⟩), (16, ⟨[0, 7, 8, 9, 10], []⟩), (17, ⟨[0, 7, 8, 9, 10], []⟩), (18, ⟨[0, 7, 8, 9, 98], []⟩), (19, ⟨[4], []⟩), (20, ⟨[8, 9, 13], []⟩), (21, ⟨[8, 9, 13, 108], []⟩), (22, ⟨[4], []⟩), (23, ⟨[0, 7, 8, 9, 14], []⟩), (24, ⟨[0, 7, 8, 9, 14, 15], []⟩), (25, ⟨[0, 7, 8, 9, 14, 15, 124], []⟩), (27, ⟨[0, 7, 8, 9, 14, 15, 139], []⟩), (28, ⟨[0, 7, 8, 9, 14, 15, 16], []⟩), (29, ⟨[0, 7, 8, 9, 14, 15, 16, 143], []⟩), (31, ⟨[0, 7, 8, 9, 14, 15, 16, 156], []⟩), (30, ⟨[0, 7, 8, 9, 14, 15, 16], []⟩), (32, ⟨[4], []⟩), (26, ⟨[0, 7, 8, 9, 14, 15], []⟩), (33, ⟨[4], []⟩)]),
  (140, [(0, ⟨[0], []⟩), (1, ⟨[0, 3], []⟩), (2, ⟨[2], []⟩), (3, ⟨[10], []⟩), (4, ⟨[2], []⟩), (5, ⟨[2], []⟩)]),
  (160, [(0, ⟨[1, 2, 3, 5], []⟩), (1, ⟨[1, 2, 3, 5, 16], []⟩), (2, ⟨[12, 13, 14], []⟩), (3, ⟨[2, 3, 5, 18], []⟩), (4, ⟨[2, 3, 5], []⟩), (5, ⟨[12, 13, 14], []⟩)]),
  (161, [(0, ⟨[0, 1, 2], []⟩), (1, ⟨[0, 1, 2], []⟩), (2, ⟨[0, 1, 2, 16], []⟩), (3, ⟨[6], []⟩), (4, ⟨[0, 1, 2, 7], []⟩), (5, ⟨[0, 7], []⟩), (6, ⟨[0], []⟩), (7, ⟨[6], []⟩)]),
  (162, [(0, ⟨[0, 1, 2], []⟩), (1, ⟨[0, 1, 2], []⟩), (2, ⟨[0, 1, 2, 16], []⟩), (3, ⟨[6], []⟩), (4, ⟨[0, 1, 2, 7], []⟩), (5, ⟨[0, 7], []⟩), (6, ⟨[0], []⟩), (7, ⟨[6], []⟩)]),
  (163, [(0, ⟨[1, 2, 3, 5, 6, 10], []⟩), (2, ⟨[1, 2, 3, 5, 6, 10, 20], []⟩), (3, ⟨[2, 3], []⟩), (4, ⟨[2, 3, 6, 10, 28], []⟩), (5, ⟨[2, 3, 5, 6, 10], []⟩), (6, ⟨[2, 3], []⟩), (7, ⟨[2, 3, 6, 50], []⟩), (8, ⟨[12, 13, 14], []⟩), (1, ⟨[2, 3], []⟩), (9, ⟨[12, 13, 14], []⟩)]),
  (164, [(0, ⟨[0, 1], []⟩), (1, ⟨[0, 1, 6], []⟩), (2, ⟨[0, 1, 6, 7, 8], []⟩), (3, ⟨[0, 1, 6, 7, 8, 15], []⟩), (4, ⟨[0, 1, 6, 7, 8, 9], []⟩), (5, ⟨[0, 1, 6, 7, 8, 9, 27], []⟩), (6, ⟨[0, 1, 6, 7, 8], []⟩), (7, ⟨[0, 1, 6, 7, 8], []⟩), (8, ⟨[4, 5], []⟩)]),
  (165, [(0, ⟨[0, 1, 2], []⟩), (1, ⟨[0, 1, 2], []⟩), (2, ⟨[0, 1, 2, 7], []⟩), (3, ⟨[0, 1, 2, 7, 16], []⟩), (4, ⟨[6], []⟩), (5, ⟨[0, 1, 2, 7, 8], []⟩), (6, ⟨[0, 1, 2, 7, 8, 22], []⟩), (7, ⟨[6], []⟩), (8, ⟨[0, 1, 2, 7, 8, 31], []⟩), (9, ⟨[0, 1, 2, 7, 9], []⟩), (10, ⟨[0, 1, 7, 9], []⟩), (11, ⟨[9], []⟩), (12, ⟨[6], []⟩), (13, ⟨[0, 1, 2, 7, 8], []⟩), (14, ⟨[0, 1, 2, 7, 8, 68], []⟩), (15, ⟨[0, 1, 2], []⟩), (16, ⟨[0], []⟩), (17, ⟨[6], []⟩), (18, ⟨[0, 1, 7], []⟩), (19, ⟨[0], []⟩), (20, ⟨[6], []⟩)]),
  (166, [(0, ⟨[0, 1, 2], []⟩), (1, ⟨[0, 1, 2], []⟩), (2, ⟨[0, 1, 2, 7], []⟩), (3, ⟨[0, 1, 2, 7, 16], []⟩), (4, ⟨[6], []⟩), (5, ⟨[0, 1, 2, 7, 8], []⟩), (6, ⟨[0, 1, 2, 7, 8, 22], []⟩), (7, ⟨[6], []⟩), (8, ⟨[0, 1, 2, 7, 8, 31], []⟩), (9, ⟨[0, 1, 2, 7, 9], []⟩), (10, ⟨[0, 1, 7, 9], []⟩), (11, ⟨[9], []⟩), (12, ⟨[6], []⟩), (13, ⟨[0, 1, 2, 7, 8], []⟩), (14, ⟨[0, 1, 2, 7, 8, 68], []⟩), (15, ⟨[0, 1, 2], []⟩), (16, ⟨[0], []⟩), (17, ⟨[6], []⟩), (18, ⟨[0, 1, 7], []⟩), (19, ⟨[0], []⟩), (20, ⟨[6], []⟩)]),
  (167, [(0, ⟨[0, 1], []⟩), (1, ⟨[4], []⟩)]),
  (168, [(0, ⟨[0], []⟩), (1, ⟨[2], []⟩)]),
  (170, [(0, ⟨[], []⟩)]),
  (172, [(0, ⟨[], []⟩)]),
  (173, [(0, ⟨[0], []⟩), (1, ⟨[2], []⟩)]),
  (174, [(0, ⟨[0, 1], []⟩), (1, ⟨[0], []⟩), (2, ⟨[], []⟩)]),
  (175, [(0, ⟨[0, 1], []⟩), (1, ⟨[0], []⟩), (2, ⟨[], []⟩)]),
  (176, [(0, ⟨[0, 2, 3], []⟩), (1, ⟨[0, 2, 3, 9], []⟩), (3, ⟨[0, 2, 3], []⟩), (2, ⟨[0, 2, 3], []⟩)]),
  (177, [(0, ⟨[0, 2, 3], []⟩), (1, ⟨[0, 2, 3, 9], []⟩), (3, ⟨[0, 2, 3], []⟩), (2, ⟨[0, 2, 3], []⟩)]),
  (179, [(0, ⟨[0], []⟩), (1, ⟨[2], []⟩)]),
  (185, [(0, ⟨[0], []⟩), (1, ⟨[2], []⟩)]),
  (211, [(0, ⟨[], []⟩), (1, ⟨[], []⟩), (2, ⟨[], []⟩), (3, ⟨[], []⟩), (4, ⟨[], []⟩), (5, ⟨[], []⟩), (6, ⟨[], []⟩), (7, ⟨[], []⟩), (8, ⟨[], []⟩), (9, ⟨[], []⟩), (10, ⟨[], []⟩), (11, ⟨[], []⟩), (12, ⟨[], []⟩), (13, ⟨[], []⟩), (14, ⟨[], []⟩), (15, ⟨[], []⟩), (16, ⟨[], []⟩), (17, ⟨[], []⟩), (18, ⟨[], []⟩), (19, ⟨[], []⟩)])]
noncomputable def ownT : List Nat := [59, 160, 161, 162, 163, 165, 166]
noncomputable def inpT : List Nat := [160, 161, 162, 163, 165, 166, 176, 177]
noncomputable def inp2T : List (Nat × List Nat) := [(160, [2, 3]), (163, [2, 3])]
noncomputable def dfrT : List Nat := [45, 47]
noncomputable def ntmT : List Nat := [0, 0, 1, 73, 94, 147, 134, 24, 90, 91, 37, 79, 26, 26, 24, 37, 35, 26, 50, 8, 37, 26, 11, 13, 18, 5, 5, 19, 5, 47, 29, 46, 17, 19, 8, 14, 42, 17, 16, 43, 17, 8, 105, 7, 9, 14, 26, 33, 42, 62, 13, 15, 23, 77, 43, 5, 24, 20, 19, 17, 18, 100, 37, 19, 11, 6, 12, 29, 34, 14, 1, 1, 1, 62, 18, 143, 73, 11, 11, 16, 16, 54, 1, 6, 60, 10, 10, 55, 29, 62, 18, 1, 1, 2, 8, 2, 6, 81, 172, 18, 7, 15, 15, 167, 102, 38, 8, 25, 13, 54, 28, 56, 23, 71, 46, 37, 2, 39, 5, 94, 6, 25, 4, 8, 8, 8, 38, 25, 17, 21, 16, 23, 14, 14, 26, 10, 19, 9, 117, 187, 17, 1, 1, 1, 1, 1, 1, 1, 1, 1, 1, 1, 1, 1, 1, 1, 1, 1, 1, 1, 30, 33, 33, 58, 54, 95, 95, 17, 6, 2, 10, 2, 10, 6, 14, 14, 28, 28, 1, 7, 1, 1, 1, 1, 1, 7, 1, 2, 1, 1, 2, 1, 1, 1, 1, 1, 1, 1, 1, 0, 0, 0, 0, 0, 0, 0, 0, 0, 0, 0, 0, 30]
noncomputable def cmpT : List Nat := []
noncomputable def ixbT : List Nat := [116]
noncomputable def escT : List Nat := [82]
noncomputable def strT : List Nat := [35]
noncomputable def methT : List ((Nat × String) × (Nat × Option Nat)) := [((17, "Kind"), (155, none)), ((17, "Elem"), (154, none)), ((87, "cryptex/path.change"), (160, none)), ((96, "cryptex/path.change"), (163, none)), ((99, "Unwrap"), (179, none)), ((132, "Kind"), (181, none)), ((132, "Elem"), (92, none)), ((146, "Unwrap"), (185, none)), ((155, "Elem"), (189, none)), ((155, "Implements"), (190, none)), ((155, "AssignableTo"), (187, none))]
noncomputable def G0 : Cfg := { P := Tryz.prog, E := fun g => (hasBody[g]?).getD false, keep := fun f r => (keepT.lookup f).bind fun l => l.lookup r, inplace := fun f i => inpT.contains f && (match inp2T.lookup f with | some l => l.contains i | none => i == 0), retOwn := fun f => ownT.contains f, plan := fun f r => (planT.lookup f).bind fun l => l.lookup r, roundOK := fun _ => false, ntm := fun f => (ntmT[f]?).getD 0, live := fun f r => (liveT.lookup f).bind fun l => l.lookup r, dfr := fun f => dfrT.contains f, meth := fun t n => metT.lookup (t, n), ext := fun f => if cmpT.contains f then some cmpStr else if escT.contains f then some idP else if ixbT.contains f then some ixbP else none }
noncomputable def delT : List Nat := [161, 162]
noncomputable def atoT : List Nat := [24]
noncomputable def fmtT : List Nat := [81]
noncomputable def prim1 : FuncId → Option CallFn := fun f => if strT.contains f then some (strP 5) else if delT.contains f then some delP else if atoT.contains f then some (atoiP 146) else if fmtT.contains f then some fmtP else none
noncomputable def worksT : List Nat := [6]
noncomputable def prim0 : FuncId → Option CallFn := fun f => if worksT.contains f then some worksP else prim1 f
noncomputable def G : Cfg := { G0 with roundOK := fun r => rOK G0 r }
theorem follows : G.P.follows .mixedOrders = true := by kernel_rfl
theorem all_ok : ((List.range 212).all fun g => !G.E g || fnOK G g) = true := by kernel_rfl
end Go.Proofs.YtbjphckpbkacaaaGreatDoor


/- The interpreter, step by step, as equations: code is gone through by rewriting. -/
namespace Go.Proofs.YtbjphckpbkacaaaGreatDoor.Abs
open Go Go.RowKit
set_option linter.unusedSimpArgs false
set_option linter.unusedVariables false

section
variable {G : Cfg} {call : CallFn} {loop : LoopFn} {f : FuncId} {ops : Array Oper} {r : List Oper} {st : ASt} {d : Option Nat} {t t' t'' : TypeId} {p : String} {af : Array Edge} {x y z : Operand}

/-! ### Code -/
def seqX (G : Cfg) (call : CallFn) (loop : LoopFn) (f : FuncId) (r : Option (AX × ASt)) (b : Code) : Option (AX × ASt) := r.bind fun | (.normal, s) => codeX G call loop f b s | r => some r
@[simp] theorem cx_seq {a b : Code} : codeX G call loop f (.seq a b) st = seqX G call loop f (codeX G call loop f a st) b := rfl
@[simp] theorem seqX_n {s b} : seqX G call loop f (some (.normal, s)) b = codeX G call loop f b s := rfl
@[simp] theorem seqX_r {s b} : seqX G call loop f (some (.ret, s)) b = some (.ret, s) := rfl
@[simp] theorem seqX_e {i s b} : seqX G call loop f (some (.exit i, s)) b = some (.exit i, s) := rfl
@[simp] theorem seqX_p {i s b} : seqX G call loop f (some (.pan i, s)) b = some (.pan i, s) := rfl
theorem seqX_if {c : Prop} [Decidable c] {x y b} : seqX G call loop f (if c then x else y) b = if c then seqX G call loop f x b else seqX G call loop f y b := by split <;> rfl
def blkX (id : Nat) (r : Option (AX × ASt)) : Option (AX × ASt) := r.bind fun | (.exit i, s) => some (if i = id then .normal else .exit i, s) | r => some r
@[simp] theorem cx_block {id} {b : Code} : codeX G call loop f (.block id b) st = blkX id (codeX G call loop f b st) := rfl
@[simp] theorem blkX_n {id s} : blkX id (some (.normal, s)) = some (.normal, s) := rfl
@[simp] theorem blkX_r {id s} : blkX id (some (.ret, s)) = some (.ret, s) := rfl
@[simp] theorem blkX_p {id s i} : blkX id (some (.pan i, s)) = some (.pan i, s) := rfl
@[simp] theorem blkX_e {id i s} : blkX id (some (.exit i, s)) = some (if i = id then .normal else .exit i, s) := rfl
theorem blkX_if {id} {c : Prop} [Decidable c] {x y} : blkX id (if c then x else y) = if c then blkX id x else blkX id y := by split <;> rfl
@[simp] theorem cx_skip : codeX G call loop f .skip st = some (.normal, st) := rfl
@[simp] theorem cx_exit {i} : codeX G call loop f (.exit i) st = some (.exit i, st) := rfl
@[simp] theorem cx_ret : codeX G call loop f .ret st = some (.ret, st) := rfl
@[simp] theorem cx_label {l} : codeX G call loop f (.label l) st = some (.normal, st) := rfl
def condX (G : Cfg) (call : CallFn) (loop : LoopFn) (f : FuncId) (v : AV) (a b : Code) (st : ASt) : Option (AX × ASt) := match v with | .bool t => if t then codeX G call loop f a st else codeX G call loop f b st | _ => none
@[simp] theorem cx_cond {c a b} : codeX G call loop f (.cond c a b) st = condX G call loop f (st.ev c) a b st := rfl
@[simp] theorem condX_t {a b} : condX G call loop f (.bool true) a b st = codeX G call loop f a st := rfl
@[simp] theorem condX_f {a b} : condX G call loop f (.bool false) a b st = codeX G call loop f b st := rfl
theorem condX_b {t a b} : condX G call loop f (.bool t) a b st = if t = true then codeX G call loop f a st else codeX G call loop f b st := by cases t <;> rfl
def loopX (loop : LoopFn) (f : FuncId) (b : Code) (st : Option ASt) : Option (AX × ASt) := st.bind (loop f b)
@[simp] theorem cx_loop {b} : codeX G call loop f (.loop b) st = loopX loop f b (canon G f b st) := rfl
@[simp] theorem loopX_s {b s} : loopX loop f b (some s) = loop f b s := rfl

/-! ### Operations -/
def aopsL (G : Cfg) (call : CallFn) (ops : Array Oper) : List Oper → ASt → Option (AX × ASt)
  | [], st => some (.normal, st)
  | o :: r, st =>
      (guardA ops st o).bind fun g =>
        if g then
          (aop G call o st).bind fun
            | .val v s => aopsL G call ops r (s.put o.dst v)
            | .pan v s => some (.pan v, s)
        else if skipA st o.op then aopsL G call ops r (st.put o.dst (.tup [])) else none

theorem aops_L (G : Cfg) (call : CallFn) (ops : Array Oper) (n : Nat) : ∀ (k : Nat) (st : ASt), n + k = ops.size → aops G call ops (List.range' n k) st = aopsL G call ops (ops.toList.drop n) st := by
  intro k
  induction k generalizing n with
  | zero => intro st h; rw [List.drop_of_length_le (by simp; omega)]; rfl
  | succ k ih =>
    intro st h
    have hlt : n < ops.toList.length := by simp; omega
    rw [List.drop_eq_getElem_cons hlt, List.range'_succ]
    simp only [aops, aopsL]
    rw [show ops[n]? = some ops.toList[n] by rw [← Array.getElem?_toList]; exact List.getElem?_eq_getElem hlt]
    simp only
    congr 1
    funext g
    cases g with
    | true =>
      simp only [if_true]
      congr 1
      funext a
      cases a with
      | val v s => exact ih (n + 1) _ (by omega)
      | pan v s => rfl
    | false =>
      simp only [Bool.false_eq_true, if_false]
      split
      · exact ih (n + 1) _ (by omega)
      · rfl
/-- A region's end. -/
def trimX (L : Option Trim) (r : Option (AX × ASt)) : Option (AX × ASt) := r.bind (growX L)
@[simp] theorem trimX_n {l s} : trimX (some ⟨l, []⟩) (some (.normal, s)) = some (.normal, s.trim (some ⟨l, []⟩)) := rfl
@[simp] theorem trimX_g {l g gs s} : trimX (some ⟨l, g :: gs⟩) (some (.normal, s)) = (canonAll (fun (p : Nat × Nat × Nat × TypeId) s => canonCell p.1 p.2.1 p.2.2 s) (g :: gs) s).map fun s => (.normal, s.trim (some ⟨l, g :: gs⟩)) := rfl
@[simp] theorem trimX_p {L v s} : trimX L (some (.pan v, s)) = some (.pan v, s.trim L) := by cases L <;> rfl
theorem trimX_if {L} {c : Prop} [Decidable c] {x y} : trimX L (if c then x else y) = if c then trimX L x else trimX L y := by split <;> rfl
@[simp] theorem trim_some {sl hp l g} : ASt.trim ⟨sl, hp⟩ (some ⟨l, g⟩) = ⟨l.map fun t => (t, (aget sl t).getD .undef), hp⟩ := rfl
@[simp] theorem cx_region {id} : codeX G call loop f (.region id ops false) st = trimX (G.live f id) (aopsL G call ops ops.toList st) := by
  simp only [codeX, Bool.false_eq_true, if_false]
  rw [List.range_eq_range', aops_L G call ops 0 ops.size st (by simp)]; simp only [List.drop_zero]; rfl

def valX (G : Cfg) (call : CallFn) (ops : Array Oper) (d : Option Nat) (r : List Oper) (st : ASt) : Option AV → Option (AX × ASt)
  | some v => aopsL G call ops r (st.put d v)
  | none => none
@[simp] theorem valX_s {v} : valX G call ops d r st (some v) = aopsL G call ops r (st.put d v) := rfl
def resX (G : Cfg) (call : CallFn) (ops : Array Oper) (d : Option Nat) (r : List Oper) : Option AR → Option (AX × ASt)
  | some (.val v s) => aopsL G call ops r (s.put d v)
  | some (.pan v s) => some (.pan v, s)
  | none => none
@[simp] theorem resX_v {v s} : resX G call ops d r (some (.val v s)) = aopsL G call ops r (s.put d v) := rfl
@[simp] theorem resX_p {v s} : resX G call ops d r (some (.pan v s)) = some (.pan v, s) := rfl

@[simp] theorem ao_nil : aopsL G call ops [] st = some (.normal, st) := rfl
theorem ao_any {op : Op} : aopsL G call ops (⟨d, op, t, p, af, none⟩ :: r) st = resX G call ops d r (aop G call ⟨d, op, t, p, af, none⟩ st) := by
  simp only [aopsL, guardA, Option.bind_some, if_true]
  cases aop G call ⟨d, op, t, p, af, none⟩ st with
  | none => rfl
  | some a => cases a <;> rfl
theorem ao_read {op : Op} (h : aop G call ⟨d, op, t, p, af, none⟩ st = (opv G.P st.ev st.hp op).map fun v => .val v st) : aopsL G call ops (⟨d, op, t, p, af, none⟩ :: r) st = valX G call ops d r st (opv G.P st.ev st.hp op) := by
  rw [ao_any, h]
  cases opv G.P st.ev st.hp op <;> rfl

/-- What a guard's slot says. -/
def gV (want : Bool) : AV → Option Bool
  | .bool b => some (b == want)
  | .tup [] => some false
  | _ => none
@[simp] theorem gV_b {w b} : gV w (.bool b) = some (b == w) := rfl
@[simp] theorem gV_n {w} : gV w (.tup []) = some false := rfl
@[simp] theorem skipV_f {g a b} : skipV (.fn (.func g) a b) = decide (g < NF) := rfl
@[simp] theorem skipV_n : skipV (.tup []) = true := rfl
attribute [simp] skipA
/-- What is skipped may be. -/
def skX {α : Type} : Bool → Option α → Option α
  | true, r => r
  | false, _ => none
theorem skX_if {α : Type} {b : Bool} {r : Option α} : (if b = true then r else none) = skX b r := by cases b <;> rfl
@[simp] theorem skX_t {α : Type} {r : Option α} : skX true r = r := rfl
theorem aop_guard (o : Oper) (g : Option (Nat × Bool)) : aop G call { o with guard := g } st = aop G call o st := rfl
/-- An operation behind a guard, whose slot holds this. -/
def gW (G : Cfg) (call : CallFn) (ops : Array Oper) (k : Nat) (w : Bool) (o : Oper) (r : List Oper) (st : ASt) : AV → Option (AX × ASt)
  | .bool b => if b == w then aopsL G call ops ({ o with guard := none } :: r) st else skX (skipA st o.op) (aopsL G call ops r (st.put o.dst (.tup [])))
  | .tup [] => skX (skipA st o.op) (aopsL G call ops r (st.put o.dst (.tup [])))
  | _ => none
@[simp] theorem gW_tt {k o} : gW G call ops k true o r st (.bool true) = aopsL G call ops ({ o with guard := none } :: r) st := rfl
@[simp] theorem gW_ff {k o} : gW G call ops k false o r st (.bool false) = aopsL G call ops ({ o with guard := none } :: r) st := rfl
@[simp] theorem gW_tf {k o} : gW G call ops k true o r st (.bool false) = skX (skipA st o.op) (aopsL G call ops r (st.put o.dst (.tup []))) := rfl
@[simp] theorem gW_ft {k o} : gW G call ops k false o r st (.bool true) = skX (skipA st o.op) (aopsL G call ops r (st.put o.dst (.tup []))) := rfl
@[simp] theorem gW_n {k w o} : gW G call ops k w o r st (.tup []) = skX (skipA st o.op) (aopsL G call ops r (st.put o.dst (.tup []))) := rfl
def gK (G : Cfg) (call : CallFn) (ops : Array Oper) (w : Bool) (o : Oper) (r : List Oper) (st : ASt) : Option Nat → Option (AX × ASt)
  | some k => gW G call ops k w o r st (st.slot k)
  | none => none
@[simp] theorem gK_s {k w o} : gK G call ops w o r st (some k) = gW G call ops k w o r st (st.slot k) := rfl
@[simp] theorem ao_guard {op : Op} {j w} : aopsL G call ops (⟨d, op, t, p, af, some (j, w)⟩ :: r) st = gK G call ops w ⟨d, op, t, p, af, some (j, w)⟩ r st ((ops[j]?).bind (·.dst)) := by
  simp only [aopsL, guardA, skX_if]
  cases (ops[j]?).bind (·.dst) with
  | none => rfl
  | some k =>
    simp only [gK]
    cases st.slot k with
    | bool b => cases b <;> cases w <;> rfl
    | tup l => cases l <;> rfl
    | _ => rfl
/-! Two ways of a guard are told as one, at the region's end. -/
def mergeX (b : Bool) (x y : Option (AX × ASt)) : Option (AX × ASt) := if b = true then x else y
def mergeV (b : Bool) (x y : AV) : AV := if b = true then x else y
def mergeS (b : Bool) (x y : Slots) : Slots := if b = true then x else y
def aset : Slots → Nat → AV → Slots
  | [], _, _ => []
  | (k', x) :: l, k, v => if k' = k then (k', v) :: l else (k', x) :: aset l k v
@[simp] theorem aset_nil {k v} : aset [] k v = [] := rfl
@[simp] theorem aset_cons {k' x l k v} : aset ((k', x) :: l) k v = if k' = k then (k', v) :: l else (k', x) :: aset l k v := rfl
theorem aset_same {v : AV} {k : Nat} : ∀ {sl : Slots}, aget sl k = some v → aset sl k v = sl
  | [], h => by cases h
  | (k', x) :: l, h => by
    simp only [aget] at h
    simp only [aset]
    split
    · rename_i e; rw [if_pos e] at h; cases h; rfl
    · rename_i e; rw [if_neg e] at h; rw [aset_same h]
@[simp low] theorem gW_split {L} {sl : Slots} {hp : Heap} {k w o} {b : Bool} (hk : aget sl k = some (.bool b)) : trimX L (gW G call ops k w o r ⟨sl, hp⟩ (.bool b)) =
    mergeX b (trimX L (gW G call ops k w o r ⟨aset sl k (.bool true), hp⟩ (.bool true))) (trimX L (gW G call ops k w o r ⟨aset sl k (.bool false), hp⟩ (.bool false))) := by
  cases b with
  | true => rw [aset_same hk]; rfl
  | false => rw [aset_same hk]; rfl
@[simp] theorem mergeX_s {b x l m hp} : mergeX b (some (x, ⟨l, hp⟩)) (some (x, ⟨m, hp⟩)) = some (x, ⟨mergeS b l m, hp⟩) := by cases b <;> rfl
@[simp] theorem mergeS_n {b} : mergeS b [] [] = [] := by cases b <;> rfl
@[simp] theorem mergeS_c {b t x y l m} : mergeS b ((t, x) :: l) ((t, y) :: m) = (t, mergeV b x y) :: mergeS b l m := by cases b <;> rfl
@[simp] theorem mergeV_same {b x} : mergeV b x x = x := by cases b <;> rfl
@[simp] theorem mergeV_b {b x y} : mergeV b (.bool x) (.bool y) = .bool (bif b then x else y) := by cases b <;> rfl
@[simp] theorem mergeV_i {b k x y} : mergeV b (.int k x) (.int k y) = .int k (bif b then x else y) := by cases b <;> rfl

@[simp] theorem ao_move : aopsL G call ops (⟨d, .move x, t, p, af, none⟩ :: r) st = aopsL G call ops r (st.put d (st.ev x)) := ao_read rfl
@[simp] theorem ao_assign : aopsL G call ops (⟨d, .assign x, t, p, af, none⟩ :: r) st = aopsL G call ops r (st.put d (st.ev x)) := ao_read rfl
def pickV (c a b : AV) : Option AV := match c with | .bool t => some (if t then a else b) | _ => none
@[simp] theorem pickV_t {a b} : pickV (.bool true) a b = some a := rfl
@[simp] theorem pickV_f {a b} : pickV (.bool false) a b = some b := rfl
theorem pickV_b {t a b} : pickV (.bool t) a b = some (if t = true then a else b) := by cases t <;> rfl
@[simp] theorem ao_pick : aopsL G call ops (⟨d, .pick x y z, t, p, af, none⟩ :: r) st = valX G call ops d r st (pickV (st.ev x) (st.ev y) (st.ev z)) := ao_read rfl
def binO (P : Program) (op : BinOp) (t : TypeId) (cx cy : Bool) (a b : AV) : Option AV :=
  match a, b with
    | .nili, .nili => (match op, P.underlying t with
      | .eql, some (.interface _) => if cx || cy then some (.bool true) else none
      | .neq, some (.interface _) => if cx || cy then some (.bool false) else none
      | _, _ => none)
    | a, b => binv P op t a b
@[simp] theorem ao_binOp {op} : aopsL G call ops (⟨d, .binOp op t' x y t'', t, p, af, none⟩ :: r) st = valX G call ops d r st (binO G.P op t' (isConst x) (isConst y) (st.ev x) (st.ev y)) := ao_read rfl
@[simp] theorem ao_unOp {op} : aopsL G call ops (⟨d, .unOp op t' x, t, p, af, none⟩ :: r) st = valX G call ops d r st (unv op (st.ev x)) := ao_read rfl
def fieldV (P : Program) (t : TypeId) (k : Nat) (v : AV) : Option AV := match fieldOff P t k, v with
    | some fd, .agg cs => partT P fd.type cs fd.offset
    | _, _ => none
@[simp] theorem ao_field {k} : aopsL G call ops (⟨d, .field t' x k, t, p, af, none⟩ :: r) st = valX G call ops d r st (fieldV G.P t' k (st.ev x)) := ao_read rfl
def fieldAddrV (P : Program) (t : TypeId) (k : Nat) (v : AV) : Option AV := match fieldOff P t k, v with
    | some fd, .ptr id i o => if P.cellsOf fd.type = 0 then none else some (.ptr id i (o + fd.offset))
    | some fd, .ep v o => if P.cellsOf fd.type = 0 ∨ v.cells.length ≤ o + fd.offset then none else some (.ep v (o + fd.offset))
    | _, _ => none
@[simp] theorem ao_fieldAddr {k} : aopsL G call ops (⟨d, .fieldAddr t' x k, t, p, af, none⟩ :: r) st = valX G call ops d r st (fieldAddrV G.P t' k (st.ev x)) := ao_read rfl
@[simp] theorem ao_indexAddr : aopsL G call ops (⟨d, .indexAddr t' x y, t, p, af, none⟩ :: r) st = valX G call ops d r st (indexA G.P st.hp t' (st.ev x) (st.ev y)) := ao_read rfl
@[simp] theorem ao_index : aopsL G call ops (⟨d, .index t' x y, t, p, af, none⟩ :: r) st = valX G call ops d r st (indexv G.P t' (st.ev x) (st.ev y)) := ao_read rfl
def loadV (P : Program) (hp : Heap) (t : TypeId) (v : AV) : Option AV := match v with
    | .ptr id i o => (aget hp id).bind fun ob => (objCells ob i).bind fun cs => partT P t cs o
    | .ep v o => partT P t v.cells o
    | _ => none
@[simp] theorem ao_load : aopsL G call ops (⟨d, .load t' x, t, p, af, none⟩ :: r) st = valX G call ops d r st (loadV G.P st.hp t' (st.ev x)) := ao_read rfl
def extractV (i : Nat) : AV → Option AV | .tup vs => vs[i]? | _ => none
@[simp] theorem extractV_t {i vs} : extractV i (.tup vs) = vs[i]? := rfl
@[simp] theorem ao_extract {i} : aopsL G call ops (⟨d, .extract x i, t, p, af, none⟩ :: r) st = valX G call ops d r st (extractV i (st.ev x)) := ao_read rfl
@[simp] theorem ao_build {ps : Array (Nat × Operand)} : aopsL G call ops (⟨d, .build t' ps, t, p, af, none⟩ :: r) st = valX G call ops d r st (buildA G.P t' (ps.toList.map fun q => (q.1, st.ev q.2))) := ao_read rfl
def mkIface (P : Program) (t : TypeId) (v : AV) : Option AV := match P.underlying t with | some (.interface _) => none | some _ => some (.iface t v) | none => none
@[simp] theorem ao_makeInterface : aopsL G call ops (⟨d, .makeInterface t' x, t, p, af, none⟩ :: r) st = valX G call ops d r st (mkIface G.P t' (st.ev x)) := ao_read rfl
@[simp] theorem ao_makeFunc {g : Fn} {a b : Array Operand} : aopsL G call ops (⟨d, .makeFunc g a b, t, p, af, none⟩ :: r) st = aopsL G call ops r (st.put d (.fn g (a.toList.map st.ev) (b.toList.map st.ev))) := ao_read rfl
def nilCheckV : AV → Option AV | .ptr id i o => some (.ptr id i o) | .ep v o => some (.ep v o) | .iface t v => some (.iface t v) | _ => none
@[simp] theorem nilCheckV_p {id i o} : nilCheckV (.ptr id i o) = some (.ptr id i o) := rfl
@[simp] theorem nilCheckV_e {v o} : nilCheckV (.ep v o) = some (.ep v o) := rfl
@[simp] theorem ao_nilCheck : aopsL G call ops (⟨d, .nilCheck x, t, p, af, none⟩ :: r) st = valX G call ops d r st (nilCheckV (st.ev x)) := ao_read rfl
def assertV (P : Program) (t : TypeId) (ok : Bool) (v : AV) : Option AV := match P.underlying t, v with
    | some (.interface _), _ => none
    | some _, .iface t' v => if t' = t then some (if ok then .tup [v, .bool true] else v) else (if ok then ((P.info? t).bind (·.zero)).map fun z => .tup [ofValue z, .bool false] else none)
    | some _, .nili => if ok then ((P.info? t).bind (·.zero)).map fun z => .tup [ofValue z, .bool false] else none
    | _, _ => none
@[simp] theorem ao_typeAssert {ok} : aopsL G call ops (⟨d, .typeAssert x t'' t' ok, t, p, af, none⟩ :: r) st = valX G call ops d r st (assertV G.P t' ok (st.ev x)) := ao_read rfl

/-! Those that write. -/
theorem ao_alloc {e : TypeId} {d : Nat} : aopsL G call ops (⟨some d, .alloc e, t, p, af, none⟩ :: r) st = resX G call ops (some d) r (((G.P.info? e).bind (·.zero)).bind fun z => if okCells (ofValue z) ∧ (ofValue z).cells.length = G.P.cellsOf e then newObj d (.box e (ofValue z)) (fun n => .ptr n 0 0) st else none) := ao_any
def allocX (G : Cfg) (e : TypeId) (d : Nat) (st : ASt) : Option AR := ((G.P.info? e).bind (·.zero)).bind fun z => if okCells (ofValue z) ∧ (ofValue z).cells.length = G.P.cellsOf e then newObj d (.box e (ofValue z)) (fun n => .ptr n 0 0) st else none
@[simp] theorem ao_alloc' {e : TypeId} {d : Nat} : aopsL G call ops (⟨some d, .alloc e, t, p, af, none⟩ :: r) st = resX G call ops (some d) r (allocX G e d st) := ao_any
def boxX (G : Cfg) (e : TypeId) (v : AV) (d : Nat) (st : ASt) : Option AR := if 0 < G.P.cellsOf e ∧ okCells v ∧ v.cells.length = G.P.cellsOf e then newObj d (.box e v) (fun n => .ptr n 0 0) st else if G.P.cellsOf e = 0 then some (.val .undef st) else none
@[simp] theorem ao_box {e : TypeId} {d : Nat} : aopsL G call ops (⟨some d, .box e x, t, p, af, none⟩ :: r) st = resX G call ops (some d) r (boxX G e (st.ev x) d st) := ao_any
@[simp] theorem ao_store : aopsL G call ops (⟨d, .store t' x y, t, p, af, none⟩ :: r) st = resX G call ops d r ((storeA G t' (st.ev x) (st.ev y) st).map fun s => .val .undef s) := ao_any
def buildSliceX (G : Cfg) (t : TypeId) (len : Nat) (is : List Nat) (vs : List AV) (d : Nat) (st : ASt) : Option AR :=
  (elemOf? G.P t).bind fun e =>
      let ys := AV.rvL st.hp vs
      if is = List.range len ∧ ((G.P.info? e).bind (·.zero)).isSome ∧ AV.pureL ys ∧ (ys.all fun y => okCells y && y.cells.length == G.P.cellsOf e) ∧ 0 < G.P.cellsOf e ∧ len * G.P.cellsOf e ≤ 16777216 then
        newObj d (.row (G.P.cellsOf e) ys false ⟨false, e⟩) .own (st.fix (AV.rowsL vs))
      else none
@[simp] theorem ao_buildSlice {len} {ps : Array (Nat × Operand)} {d : Nat} : aopsL G call ops (⟨some d, .buildSlice t' len ps, t, p, af, none⟩ :: r) st = resX G call ops (some d) r (buildSliceX G t' len (ps.toList.map (·.1)) (ps.toList.map fun q => st.ev q.2) d st) := ao_any
def panicX (v : AV) (st : ASt) : Option AR := match v with
    | .iface t v => some (.pan ((AV.iface t v).rv st.hp) (st.fix (AV.iface t v).rows))
    | _ => none
@[simp] theorem ao_panic : aopsL G call ops (⟨d, .panic x, t, p, af, none⟩ :: r) st = resX G call ops d r (panicX (st.ev x) st) := ao_any
def makeSliceX (G : Cfg) (t : TypeId) (l c : AV) (d : Nat) (st : ASt) : Option AR :=
  (elemOf? G.P t).bind fun e => ((G.P.info? e).bind (·.zero)).bind fun z =>
      match l, c with
      | .int .i64 n, .int .i64 m =>
        if 0 ≤ n ∧ n ≤ m ∧ m ≤ LIM ∧ ((G.P.info? e).map (·.bytes)).getD 4097 ≤ 4096 ∧ (ofValue z).pureB ∧ okCells (ofValue z) ∧ 0 < G.P.cellsOf e ∧ (ofValue z).cells.length = G.P.cellsOf e then newObj d (.row (G.P.cellsOf e) (List.replicate n.toNat (ofValue z)) false ⟨false, e⟩) .own st else none
      | _, _ => none
@[simp] theorem ao_makeSlice {d : Nat} : aopsL G call ops (⟨some d, .makeSlice t' x y, t, p, af, none⟩ :: r) st = resX G call ops (some d) r (makeSliceX G t' (st.ev x) (st.ev y) d st) := ao_any
def convertX (G : Cfg) (s t : TypeId) (v : AV) (d : Option Nat) (st : ASt) : Option AR := match G.P.underlying t, v with
    | some (.slice e), .str l =>
      (match G.P.underlying e with
       | some (.int .u8) => d.bind fun d => if isStringT G.P s then newObj d (.row 1 (l.map fun b => .int .u8 b.toNat) false ⟨false, e⟩) .own st else none
       | _ => none)
    | _, _ => (convv G.P st.hp s t v).map fun v => .val v st
@[simp] theorem ao_convert : aopsL G call ops (⟨d, .convert t' t'' x, t, p, af, none⟩ :: r) st = resX G call ops d r (convertX G t' t'' (st.ev x) d st) := ao_any
def sliceX (G : Cfg) (t : TypeId) (v : AV) (lo hi mx : Option AV) (st : ASt) : Option AR := match cutA st.hp v lo hi mx with
    | some q => if (elemOf? G.P t).map (G.P.cellsOf ·) = some q.2.1 then some (.val (.own q.1) (st.cut q)) else none
    | none => (slicev G.P st.hp t v lo hi mx).map fun v => .val v st
@[simp] theorem ao_slice {lo hi mx : Option Operand} : aopsL G call ops (⟨d, .slice t' x lo hi mx, t, p, af, none⟩ :: r) st = resX G call ops d r (sliceX G t' (st.ev x) (lo.map st.ev) (hi.map st.ev) (mx.map st.ev) st) := ao_any

/-! Calls. -/
@[simp] theorem ao_len {ts : TypeId} : aopsL G call ops (⟨d, .call ⟨.builtin .len, #[x], #[ts]⟩, t, p, af, none⟩ :: r) st = valX G call ops d r st (lenv G.P st.hp ts (st.ev x)) := ao_read rfl
@[simp] theorem ao_cap {ts : TypeId} : aopsL G call ops (⟨d, .call ⟨.builtin .cap, #[x], #[ts]⟩, t, p, af, none⟩ :: r) st = valX G call ops d r st (capv G.P ts (st.ev x)) := ao_read rfl
@[simp] theorem ao_min {ts} : aopsL G call ops (⟨d, .call ⟨.builtin .min, #[x, y], ts⟩, t, p, af, none⟩ :: r) st = valX G call ops d r st (minmax false (st.ev x) (st.ev y)) := by
  refine ao_read ?_
  simp only [aop, calledA, invokedA, aopB]
@[simp] theorem ao_max {ts} : aopsL G call ops (⟨d, .call ⟨.builtin .max, #[x, y], ts⟩, t, p, af, none⟩ :: r) st = valX G call ops d r st (minmax true (st.ev x) (st.ev y)) := by
  refine ao_read ?_
  simp only [aop, calledA, invokedA, aopB]
@[simp] theorem ao_append {d : Nat} {t1 t2 : TypeId} : aopsL G call ops (⟨some d, .call ⟨.builtin .append, #[x, y], #[t1, t2]⟩, t, p, af, none⟩ :: r) st = resX G call ops (some d) r (appendA G d t1 t2 (st.ev x) (st.ev y) st) := ao_any
def callV (G : Cfg) (call : CallFn) (d : Option Nat) (fv : AV) (args : List AV) (st : ASt) : Option AR := match extA G fv args with
    | some v => some (.val v st)
    | none => callA G call d fv args st
@[simp] theorem ao_call {args : Array Operand} {ts} : aopsL G call ops (⟨d, .call ⟨.value x, args, ts⟩, t, p, af, none⟩ :: r) st = resX G call ops d r (callV G call d (st.ev x) (args.toList.map st.ev) st) := ao_any
@[simp] theorem ao_inv {args : Array Operand} {ts} {n : String} : aopsL G call ops (⟨d, .call ⟨.invoke x n, args, ts⟩, t, p, af, none⟩ :: r) st = resX G call ops d r (invA G call d (st.ev x) n (args.toList.map st.ev) st) := ao_any
@[simp] theorem invA_iface {d : Option Nat} {v : AV} {n : String} {args : List AV} : invA G call d (.iface t v) n args st = (G.meth t n).bind fun m => (recvA G st v m.2).bind fun u => callA G call d (.fn (.func m.1) [] []) (u :: args) st := rfl
@[simp] theorem recvA_n {v : AV} : recvA G st v none = some v := rfl
end
end Go.Proofs.YtbjphckpbkacaaaGreatDoor.Abs


/- States, values, calls: as equations. -/
namespace Go.Proofs.YtbjphckpbkacaaaGreatDoor.Abs
open Go Go.RowKit
set_option linter.unusedSimpArgs false
set_option linter.unusedVariables false

section
variable {G : Cfg} {call : CallFn} {loop : LoopFn} {f : FuncId} {st : ASt} {sl : Slots} {hp : Heap}

/-! ### Slots -/
@[simp] theorem ev_tmp {t} : ASt.ev ⟨sl, hp⟩ (.tmp t) = (aget sl t).getD .undef := rfl
@[simp] theorem ev_const {v} : st.ev (.const v) = ofValue v := rfl
@[simp] theorem ev_func {g} : st.ev (.func g) = .fn (.func g) [] [] := rfl
@[simp] theorem slot_mk {t} : ASt.slot ⟨sl, hp⟩ t = (aget sl t).getD .undef := rfl
@[simp] theorem put_some {t v} : ASt.put ⟨sl, hp⟩ (some t) v = ⟨(t, v) :: sl, hp⟩ := rfl
@[simp] theorem put_none {v} : st.put none v = st := rfl
@[simp] theorem aget_nil {α : Type} {n : Nat} : aget ([] : List (Nat × α)) n = none := rfl
@[simp] theorem aget_cons' {α : Type} {k n : Nat} {v : α} {r : List (Nat × α)} : aget ((k, v) :: r) n = if k = n then some v else aget r n := rfl
@[simp] theorem isConst_c {v} : isConst (.const v) = true := rfl
@[simp] theorem isConst_t {v} : isConst (.tmp v) = false := rfl
@[simp] theorem ofValue_b {b} : ofValue (.bool b) = .bool b := rfl
@[simp] theorem ofValue_i {k n} : ofValue (.int k n) = .int k n := rfl
@[simp] theorem ofValue_s {s} : ofValue (.string s) = .str s.data.toList := rfl
@[simp] theorem ofValue_np : ofValue (.pointer none) = .nilp := rfl
@[simp] theorem ofValue_ns : ofValue (.slice none 0 0) = .nils := rfl
@[simp] theorem ofValue_nf : ofValue .nilFunc = .nilf := rfl
@[simp] theorem ofValue_nm : ofValue (.map none) = .nilm := rfl
@[simp] theorem ofValue_ni : ofValue .nilIface = .nili := rfl
@[simp] theorem ofValue_a {cs} : ofValue (.agg cs) = .agg (cs.toList.map ofScalar) := rfl
@[simp] theorem ofScalar_b {b} : ofScalar (.bool b) = .bool b := rfl
@[simp] theorem ofScalar_i {k n} : ofScalar (.int k n) = .int k n := rfl
@[simp] theorem ofScalar_s {s} : ofScalar (.string s) = .str s.data.toList := rfl
@[simp] theorem ofScalar_np : ofScalar (.pointer none) = .nilp := rfl
@[simp] theorem ofScalar_ns : ofScalar (.slice none 0 0) = .nils := rfl
@[simp] theorem ofScalar_nf : ofScalar .nilFunc = .nilf := rfl
@[simp] theorem ofScalar_nm : ofScalar (.map none) = .nilm := rfl
@[simp] theorem ofScalar_ni : ofScalar .nilIface = .nili := rfl

/-! ### Whole numbers, strings, comparisons -/
def wAnd (k : IntKind) (a b : Int) : Int := k.wrap (BitVec.ofInt k.bits a &&& BitVec.ofInt k.bits b).toNat
def wOr (k : IntKind) (a b : Int) : Int := k.wrap (BitVec.ofInt k.bits a ||| BitVec.ofInt k.bits b).toNat
def wXor (k : IntKind) (a b : Int) : Int := k.wrap (BitVec.ofInt k.bits a ^^^ BitVec.ofInt k.bits b).toNat
def wAndNot (k : IntKind) (a b : Int) : Int := k.wrap (BitVec.ofInt k.bits a &&& ~~~BitVec.ofInt k.bits b).toNat
section
variable {P : Program} {t : TypeId} {cx cy : Bool} {k : IntKind} {a b : Int} {s u : List UInt8}
theorem beqS (s u : List UInt8) : (s == u) = decide (s = u) := by
  by_cases h : s = u
  · subst h; simp
  · rw [decide_eq_false h]; exact beq_eq_false_iff_ne.2 h
@[simp] theorem bo_add : binO P .add t cx cy (.int k a) (.int k b) = some (.int k (k.wrap (a + b))) := by simp [binO, binv, arith]
@[simp] theorem bo_sub : binO P .sub t cx cy (.int k a) (.int k b) = some (.int k (k.wrap (a - b))) := by simp [binO, binv, arith]
@[simp] theorem bo_mul : binO P .mul t cx cy (.int k a) (.int k b) = some (.int k (k.wrap (a * b))) := by simp [binO, binv, arith]
@[simp] theorem bo_quo : binO P .quo t cx cy (.int k a) (.int k b) = if b = 0 then none else some (.int k (k.wrap (a.tdiv b))) := by simp [binO, binv, arith]
@[simp] theorem bo_rem : binO P .rem t cx cy (.int k a) (.int k b) = if b = 0 then none else some (.int k (a.tmod b)) := by simp [binO, binv, arith]
@[simp] theorem bo_and : binO P .and t cx cy (.int k a) (.int k b) = some (.int k (wAnd k a b)) := by simp [binO, binv, arith, wAnd]
@[simp] theorem bo_or : binO P .or t cx cy (.int k a) (.int k b) = some (.int k (wOr k a b)) := by simp [binO, binv, arith, wOr]
@[simp] theorem bo_xor : binO P .xor t cx cy (.int k a) (.int k b) = some (.int k (wXor k a b)) := by simp [binO, binv, arith, wXor]
@[simp] theorem bo_andNot : binO P .andNot t cx cy (.int k a) (.int k b) = some (.int k (wAndNot k a b)) := by simp [binO, binv, arith, wAndNot]
@[simp] theorem bo_eql : binO P .eql t cx cy (.int k a) (.int k b) = some (.bool (decide (a = b))) := by simp [binO, binv, arith]; rfl
@[simp] theorem bo_neq : binO P .neq t cx cy (.int k a) (.int k b) = some (.bool (!decide (a = b))) := by simp [binO, binv, arith]; rfl
@[simp] theorem bo_lss : binO P .lss t cx cy (.int k a) (.int k b) = some (.bool (decide (a < b))) := by simp [binO, binv, arith]
@[simp] theorem bo_leq : binO P .leq t cx cy (.int k a) (.int k b) = some (.bool (decide (a ≤ b))) := by simp [binO, binv, arith]
@[simp] theorem bo_gtr : binO P .gtr t cx cy (.int k a) (.int k b) = some (.bool (decide (b < a))) := by simp [binO, binv, arith]
@[simp] theorem bo_geq : binO P .geq t cx cy (.int k a) (.int k b) = some (.bool (decide (b ≤ a))) := by simp [binO, binv, arith]
@[simp] theorem bo_shl {k' : IntKind} : binO P .shl t cx cy (.int k a) (.int k' b) = if b < 0 then none else some (.int k (k.wrap (a * 2 ^ (min b.toNat k.bits)))) := by simp [binO, binv, arith]
@[simp] theorem bo_shr {k' : IntKind} : binO P .shr t cx cy (.int k a) (.int k' b) = if b < 0 then none else some (.int k (a.fdiv (2 ^ (min b.toNat k.bits)))) := by simp [binO, binv, arith]
@[simp] theorem bs_add : binO P .add t cx cy (.str s) (.str u) = if s.length + u.length ≤ LIM then some (.str (s ++ u)) else none := by simp [binO, binv, strOp]
@[simp] theorem bs_eql : binO P .eql t cx cy (.str s) (.str u) = some (.bool (decide (s = u))) := by simp [binO, binv, strOp, beqS]
@[simp] theorem bs_neq : binO P .neq t cx cy (.str s) (.str u) = some (.bool (!decide (s = u))) := by simp [binO, binv, strOp, beqS]
@[simp] theorem bs_lss : binO P .lss t cx cy (.str s) (.str u) = some (.bool (ltB s u)) := by simp [binO, binv, strOp]
@[simp] theorem bs_leq : binO P .leq t cx cy (.str s) (.str u) = some (.bool (ltB s u || decide (s = u))) := by simp [binO, binv, strOp, beqS]
@[simp] theorem bs_gtr : binO P .gtr t cx cy (.str s) (.str u) = some (.bool (!(ltB s u || decide (s = u)))) := by simp [binO, binv, strOp, beqS]
@[simp] theorem bs_geq : binO P .geq t cx cy (.str s) (.str u) = some (.bool (!ltB s u)) := by simp [binO, binv, strOp]
@[simp] theorem ba_eql {x y : List AV} : binO P .eql t cx cy (.agg x) (.agg y) = (eqAggA P t x y).map .bool := by simp [binO, binv, eqv]
@[simp] theorem ba_neq {x y : List AV} : binO P .neq t cx cy (.agg x) (.agg y) = (eqAggA P t x y).map fun b => .bool (!b) := by simp [binO, binv, eqv]
@[simp] theorem un_not {b : Bool} : unv .not (.bool b) = some (.bool (!b)) := rfl
@[simp] theorem un_neg : unv .neg (.int k a) = some (.int k (k.wrap (0 - a))) := rfl
@[simp] theorem un_xor : unv .xor (.int k a) = some (.int k (wXor k (if k.signed then -1 else k.max) a)) := rfl
@[simp] theorem ef_bool {x y : Bool} (h : P.underlying t = some .bool) : eqFieldA P t (.bool x) (.bool y) = some (decide (x = y)) := by simp only [eqFieldA, h]; cases x <;> cases y <;> rfl
@[simp] theorem ef_int {k' : IntKind} (h : P.underlying t = some (.int k')) : eqFieldA P t (.int k a) (.int k b) = some (decide (a = b)) := by simp only [eqFieldA, h, if_true]; rfl
@[simp] theorem ef_str (h : P.underlying t = some .string) : eqFieldA P t (.str s) (.str u) = some (decide (s = u)) := by simp only [eqFieldA, h, beqS]
end

/-! ### Names and rows: a plain value has none -/
@[simp] theorem rv_list {sz es} : (AV.list sz es).rv hp = .list sz es := rfl
@[simp] theorem rv_int {k n} : (AV.int k n).rv hp = .int k n := rfl
@[simp] theorem rv_str {s} : (AV.str s).rv hp = .str s := rfl
@[simp] theorem rv_bool {b} : (AV.bool b).rv hp = .bool b := rfl
@[simp] theorem rv_nils : AV.nils.rv hp = .nils := rfl
@[simp] theorem rv_nilp : AV.nilp.rv hp = .nilp := rfl
@[simp] theorem rv_nilf : AV.nilf.rv hp = .nilf := rfl
@[simp] theorem rv_nilm : AV.nilm.rv hp = .nilm := rfl
@[simp] theorem rv_nili : AV.nili.rv hp = .nili := rfl
@[simp] theorem rv_undef : AV.undef.rv hp = .undef := rfl
@[simp] theorem rv_ptr {i j o} : (AV.ptr i j o).rv hp = .ptr i j o := rfl
@[simp] theorem rv_yld {i} : (AV.yld i).rv hp = .yld i := rfl
@[simp] theorem rv_mp {i} : (AV.mp i).rv hp = .mp i := rfl
@[simp] theorem rv_ep {v o} : (AV.ep v o).rv hp = .ep v o := rfl
@[simp] theorem rv_agg {cs} : (AV.agg cs).rv hp = .agg (AV.rvL hp cs) := rfl
@[simp] theorem rv_tup {cs} : (AV.tup cs).rv hp = .tup (AV.rvL hp cs) := rfl
@[simp] theorem rv_iface {t v} : (AV.iface t v).rv hp = .iface t (v.rv hp) := rfl
@[simp] theorem rv_fn {g a b} : (AV.fn g a b).rv hp = .fn g (AV.rvL hp a) (AV.rvL hp b) := rfl
@[simp] theorem rv_own {id} : (AV.own id).rv hp = (match aget hp id with | some (.row sz es _ _) => if sz = 0 then .undef else .list sz es | _ => .undef) := rfl
@[simp] theorem rv_row {id o l} : (AV.row id o l).rv hp = (match aget hp id with | some (.row sz es _ _) => if sz ≠ 0 ∧ o + l ≤ es.length then .list sz ((es.drop o).take l) else .undef | _ => .undef) := rfl
@[simp] theorem rvL_nil : AV.rvL hp [] = [] := rfl
@[simp] theorem rvL_cons {v l} : AV.rvL hp (v :: l) = v.rv hp :: AV.rvL hp l := rfl
@[simp] theorem rows_list {sz es} : (AV.list sz es).rows = [] := rfl
@[simp] theorem rows_int {k n} : (AV.int k n).rows = [] := rfl
@[simp] theorem rows_str {s} : (AV.str s).rows = [] := rfl
@[simp] theorem rows_bool {b} : (AV.bool b).rows = [] := rfl
@[simp] theorem rows_nils : AV.nils.rows = [] := rfl
@[simp] theorem rows_nilp : AV.nilp.rows = [] := rfl
@[simp] theorem rows_nilf : AV.nilf.rows = [] := rfl
@[simp] theorem rows_nilm : AV.nilm.rows = [] := rfl
@[simp] theorem rows_nili : AV.nili.rows = [] := rfl
@[simp] theorem rows_undef : AV.undef.rows = [] := rfl
@[simp] theorem rows_ptr {i j o} : (AV.ptr i j o).rows = [] := rfl
@[simp] theorem rows_yld {i} : (AV.yld i).rows = [] := rfl
@[simp] theorem rows_mp {i} : (AV.mp i).rows = [] := rfl
@[simp] theorem rows_ep {v o} : (AV.ep v o).rows = [] := rfl
@[simp] theorem rows_own {i} : (AV.own i).rows = [i] := rfl
@[simp] theorem rows_row {i o l} : (AV.row i o l).rows = [i] := rfl
@[simp] theorem rows_agg {cs} : (AV.agg cs).rows = AV.rowsL cs := rfl
@[simp] theorem rows_tup {cs} : (AV.tup cs).rows = AV.rowsL cs := rfl
@[simp] theorem rows_iface {t v} : (AV.iface t v).rows = v.rows := rfl
@[simp] theorem rows_fn {g a b} : (AV.fn g a b).rows = AV.rowsL a ++ AV.rowsL b := rfl
@[simp] theorem rowsL_nil : AV.rowsL [] = [] := rfl
@[simp] theorem rowsL_cons {v l} : AV.rowsL (v :: l) = v.rows ++ AV.rowsL l := rfl
@[simp] theorem names_list {sz es} : (AV.list sz es).names = [] := rfl
@[simp] theorem names_int {k n} : (AV.int k n).names = [] := rfl
@[simp] theorem names_str {s} : (AV.str s).names = [] := rfl
@[simp] theorem names_bool {b} : (AV.bool b).names = [] := rfl
@[simp] theorem names_nils : AV.nils.names = [] := rfl
@[simp] theorem names_nilp : AV.nilp.names = [] := rfl
@[simp] theorem names_nilf : AV.nilf.names = [] := rfl
@[simp] theorem names_nilm : AV.nilm.names = [] := rfl
@[simp] theorem names_nili : AV.nili.names = [] := rfl
@[simp] theorem names_undef : AV.undef.names = [] := rfl
@[simp] theorem names_ptr {i j o} : (AV.ptr i j o).names = [i] := rfl
@[simp] theorem names_yld {i} : (AV.yld i).names = [i] := rfl
@[simp] theorem names_mp {i} : (AV.mp i).names = [i] := rfl
@[simp] theorem names_ep {v o} : (AV.ep v o).names = [] := rfl
@[simp] theorem names_own {i} : (AV.own i).names = [i] := rfl
@[simp] theorem names_row {i o l} : (AV.row i o l).names = [i] := rfl
@[simp] theorem names_agg {cs} : (AV.agg cs).names = AV.namesL cs := rfl
@[simp] theorem names_tup {cs} : (AV.tup cs).names = AV.namesL cs := rfl
@[simp] theorem names_iface {t v} : (AV.iface t v).names = v.names := rfl
@[simp] theorem names_fn {g a b} : (AV.fn g a b).names = AV.namesL a ++ AV.namesL b := rfl
@[simp] theorem namesL_nil : AV.namesL [] = [] := rfl
@[simp] theorem namesL_cons {v l} : AV.namesL (v :: l) = v.names ++ AV.namesL l := rfl
@[simp] theorem ren_list {m sz es} : (AV.list sz es).ren m = .list sz es := rfl
@[simp] theorem ren_int {m k n} : (AV.int k n).ren m = .int k n := rfl
@[simp] theorem ren_str {m s} : (AV.str s).ren m = .str s := rfl
@[simp] theorem ren_bool {m b} : (AV.bool b).ren m = .bool b := rfl
@[simp] theorem ren_nils {m} : AV.nils.ren m = .nils := rfl
@[simp] theorem ren_nilp {m} : AV.nilp.ren m = .nilp := rfl
@[simp] theorem ren_nilf {m} : AV.nilf.ren m = .nilf := rfl
@[simp] theorem ren_nilm {m} : AV.nilm.ren m = .nilm := rfl
@[simp] theorem ren_nili {m} : AV.nili.ren m = .nili := rfl
@[simp] theorem ren_undef {m} : AV.undef.ren m = .undef := rfl
@[simp] theorem ren_ep {m v o} : (AV.ep v o).ren m = .ep v o := rfl
@[simp] theorem ren_agg {m cs} : (AV.agg cs).ren m = .agg (AV.renL m cs) := rfl
@[simp] theorem ren_tup {m cs} : (AV.tup cs).ren m = .tup (AV.renL m cs) := rfl
@[simp] theorem ren_iface {m t v} : (AV.iface t v).ren m = .iface t (v.ren m) := rfl
@[simp] theorem ren_fn {m g a b} : (AV.fn g a b).ren m = .fn g (AV.renL m a) (AV.renL m b) := rfl
@[simp] theorem ren_own {m i} : (AV.own i).ren m = (match aget m i with | some k => .own k | none => .undef) := rfl
@[simp] theorem ren_row {m i o l} : (AV.row i o l).ren m = (match aget m i with | some k => .row k o l | none => .undef) := rfl
@[simp] theorem ren_ptr {m i j o} : (AV.ptr i j o).ren m = (match aget m i with | some k => .ptr k j o | none => .undef) := rfl
@[simp] theorem ren_yld {m i} : (AV.yld i).ren m = (match aget m i with | some k => .yld k | none => .undef) := rfl
@[simp] theorem ren_mp {m i} : (AV.mp i).ren m = (match aget m i with | some k => .mp k | none => .undef) := rfl
@[simp] theorem renL_nil {m} : AV.renL m [] = [] := rfl
@[simp] theorem renL_cons {m v l} : AV.renL m (v :: l) = v.ren m :: AV.renL m l := rfl
@[simp] theorem cells_agg {cs} : (AV.agg cs).cells = cs := rfl
@[simp] theorem cells_int {k n} : (AV.int k n).cells = [.int k n] := rfl
@[simp] theorem cells_str {s} : (AV.str s).cells = [.str s] := rfl
@[simp] theorem cells_bool {b} : (AV.bool b).cells = [.bool b] := rfl
@[simp] theorem cells_list {z es} : (AV.list z es).cells = [.list z es] := rfl
@[simp] theorem cells_nils : AV.nils.cells = [.nils] := rfl
@[simp] theorem cells_own {i} : (AV.own i).cells = [.own i] := rfl
@[simp] theorem cells_ptr {i j o} : (AV.ptr i j o).cells = [.ptr i j o] := rfl
@[simp] theorem cells_nilp : AV.nilp.cells = [.nilp] := rfl
@[simp] theorem cells_fn {g a b} : (AV.fn g a b).cells = [.fn g a b] := rfl

theorem nameless_ren {m : List (Nat × Nat)} : ∀ {v : AV}, v.names = [] → v.ren m = v
  | .agg cs, h => by simp only [ren_agg, nameless_renL (l := cs) h]
  | .tup cs, h => by simp only [ren_tup, nameless_renL (l := cs) h]
  | .iface t v, h => by simp only [ren_iface, nameless_ren (v := v) h]
  | .fn g a b, h => by
    simp only [names_fn, List.append_eq_nil_iff] at h
    simp only [ren_fn, nameless_renL h.1, nameless_renL h.2]
  | .undef, _ => rfl | .bool _, _ => rfl | .int _ _, _ => rfl | .str _, _ => rfl | .nilp, _ => rfl | .nils, _ => rfl | .nilf, _ => rfl | .nilm, _ => rfl | .nili, _ => rfl | .list _ _, _ => rfl | .ep _ _, _ => rfl
  | .own i, h => by cases h
  | .row i _ _, h => by cases h
  | .ptr i _ _, h => by cases h
  | .yld i, h => by cases h
  | .mp i, h => by cases h
where nameless_renL : ∀ {l : List AV}, AV.namesL l = [] → AV.renL m l = l
  | [], _ => rfl
  | v :: l, h => by
    simp only [namesL_cons, List.append_eq_nil_iff] at h
    simp only [renL_cons, nameless_ren h.1, nameless_renL h.2]
theorem namesL_of : ∀ {l : List AV}, AV.namesL l = [] → ∀ v ∈ l, v.names = []
  | [], _, v, hv => by simp at hv
  | x :: l, h, v, hv => by
    simp only [namesL_cons, List.append_eq_nil_iff] at h
    rcases List.mem_cons.1 hv with rfl | hv
    · exact h.1
    · exact namesL_of h.2 v hv
theorem nameless_rows : ∀ {v : AV}, v.names = [] → v.rows = []
  | .agg cs, h => nameless_rowsL (l := cs) h
  | .tup cs, h => nameless_rowsL (l := cs) h
  | .iface t v, h => nameless_rows (v := v) h
  | .fn g a b, h => by
    simp only [names_fn, List.append_eq_nil_iff] at h
    simp only [rows_fn, nameless_rowsL h.1, nameless_rowsL h.2]; rfl
  | .undef, _ => rfl | .bool _, _ => rfl | .int _ _, _ => rfl | .str _, _ => rfl | .nilp, _ => rfl | .nils, _ => rfl | .nilf, _ => rfl | .nilm, _ => rfl | .nili, _ => rfl | .list _ _, _ => rfl | .ep _ _, _ => rfl
  | .own i, h => by cases h
  | .row i _ _, h => by cases h
  | .ptr i _ _, h => by cases h
  | .yld i, h => by cases h
  | .mp i, h => by cases h
where nameless_rowsL : ∀ {l : List AV}, AV.namesL l = [] → AV.rowsL l = []
  | [], _ => rfl
  | v :: l, h => by
    simp only [namesL_cons, List.append_eq_nil_iff] at h
    simp only [rowsL_cons, nameless_rows h.1, nameless_rowsL h.2]; rfl
theorem nameless_rv : ∀ {v : AV}, v.names = [] → v.rv hp = v
  | .agg cs, h => by simp only [rv_agg, nameless_rvL (l := cs) h]
  | .tup cs, h => by simp only [rv_tup, nameless_rvL (l := cs) h]
  | .iface t v, h => by simp only [rv_iface, nameless_rv (v := v) h]
  | .fn g a b, h => by
    simp only [names_fn, List.append_eq_nil_iff] at h
    simp only [rv_fn, nameless_rvL h.1, nameless_rvL h.2]
  | .undef, _ => rfl | .bool _, _ => rfl | .int _ _, _ => rfl | .str _, _ => rfl | .nilp, _ => rfl | .nils, _ => rfl | .nilf, _ => rfl | .nilm, _ => rfl | .nili, _ => rfl | .list _ _, _ => rfl | .ep _ _, _ => rfl
  | .own i, h => by cases h
  | .row i _ _, h => by cases h
  | .ptr i _ _, h => by cases h
  | .yld i, h => by cases h
  | .mp i, h => by cases h
where nameless_rvL : ∀ {l : List AV}, AV.namesL l = [] → AV.rvL hp l = l
  | [], _ => rfl
  | v :: l, h => by
    simp only [namesL_cons, List.append_eq_nil_iff] at h
    simp only [rvL_cons, nameless_rv h.1, nameless_rvL h.2]

/-! ### Calls of plain values -/
theorem prepL_pure {g : FuncId} : ∀ {l : List AV} {j : Nat}, AV.namesL l = [] → prepL G g hp l j = l
  | [], _, _ => rfl
  | v :: l, j, h => by
    simp only [namesL_cons, List.append_eq_nil_iff] at h
    simp only [prepL, nameless_rv h.1, prepL_pure h.2]
    split <;> rfl
theorem prepRows_pure {g : FuncId} : ∀ {l : List AV} {j : Nat}, AV.namesL l = [] → prepRows G g l j = []
  | [], _, _ => rfl
  | v :: l, j, h => by
    simp only [namesL_cons, List.append_eq_nil_iff] at h
    simp only [prepRows, nameless_rows h.1, prepRows_pure h.2]
    split <;> rfl

/-- A call that is told by its answer alone. -/
def pureR (st : ASt) : ARes → AR
  | .ret v => .val v st
  | .pan v => .pan v st
@[simp] theorem pureR_r {v} : pureR st (.ret v) = .val v st := rfl
@[simp] theorem pureR_p {v} : pureR st (.pan v) = .pan v st := rfl
def ARes.val : ARes → AV
  | .ret v => v
  | .pan v => v

theorem callV_pure {d : Option Nat} {g : FuncId} {first caps args all : List AV} {res : ARes} (hE : G.E g = true) (hg : g < RB) (hx : G.ext g = none) (ha : first ++ args ++ caps = all) (hn : AV.namesL all = []) (hc : call g all [] = some (res, [])) (hv : res.val.names = []) :
    callV G call d (.fn (.func g) first caps) args st = some (pureR st res) := by
  unfold callV extA
  simp only [hx, Option.bind_none]
  unfold callA callB
  simp only [ha, prepL_pure hn, prepRows_pure hn, hn]
  have h1 : st.fix [] = st := rfl
  rw [h1]
  have h2 : reachL 40 st.hp [] [] = [] := rfl
  rw [h2]
  have h3 : toMap [] = [] := rfl
  rw [h3, nameless_ren.nameless_renL hn]
  have h4 : subHeap [] st.hp = [] := rfl
  rw [h4, hc]
  simp only [hE, hg, decide_true, Bool.and_self, List.all_nil, if_true, Option.bind_some, Option.map_map]
  have h5 : afterCall d [] st [] = some st := rfl
  rw [h5]
  cases res with
  | ret v =>
    have : v.ren [] = v := nameless_ren hv
    simp [answered, backMap, pureR, this]
  | pan v =>
    have : v.ren [] = v := nameless_ren hv
    simp [answered, backMap, pureR, this]

theorem callV_ret {d : Option Nat} {g : FuncId} {first caps args all : List AV} {v : AV} (hE : G.E g = true) (hg : g < RB) (hx : G.ext g = none) (ha : first ++ args ++ caps = all) (hn : AV.namesL all = []) (hc : call g all [] = some (.ret v, [])) (hv : v.names = []) :
    callV G call d (.fn (.func g) first caps) args st = some (.val v st) := callV_pure (res := .ret v) hE hg hx ha hn hc hv
theorem callV_pan {d : Option Nat} {g : FuncId} {first caps args all : List AV} {v : AV} (hE : G.E g = true) (hg : g < RB) (hx : G.ext g = none) (ha : first ++ args ++ caps = all) (hn : AV.namesL all = []) (hc : call g all [] = some (.pan v, [])) (hv : v.names = []) :
    callV G call d (.fn (.func g) first caps) args st = some (.pan v st) := callV_pure (res := .pan v) hE hg hx ha hn hc hv

theorem callV_ext {d : Option Nat} {g : FuncId} {first caps args : List AV} {p : List AV → Option AV} {v : AV} (hx : G.ext g = some p) (h : p (first ++ args ++ caps) = some v) : callV G call d (.fn (.func g) first caps) args st = some (.val v st) := by
  unfold callV extA
  simp only [hx, h, Option.bind_some]

/-! ### Bodies -/
/-- What a body's end is told as. -/
def endX (G : Cfg) (g : FuncId) (m : List Nat) (res : List ResultVar) : Option (AX × ASt) → Option (ARes × Heap)
  | some (.normal, s) => (resL G s res).map fun vs => retA (finishA G g m (resOf vs) s)
  | some (.ret, s) => (resL G s res).map fun vs => retA (finishA G g m (resOf vs) s)
  | some (.pan v, s) => some (panA (outOf m (hfix v.rows s.hp) (v.rv s.hp)))
  | _ => none
theorem runFn_body {g : FuncId} {fn : Func} {c : Code} {args : List AV} (hd : G.dfr g = false) (hf : G.P.funcs[g]? = some fn) (hb : fn.body = some c) :
    runFn G call loop g args hp = endX G g (hp.map (·.1)) fn.results.toList (codeX G call loop g c { sl := zipIx args 0, hp }) := by
  unfold runFn runBody
  simp only [hd, Bool.false_eq_true, if_false, hf, hb, Option.bind_some]
  cases codeX G call loop g c { sl := zipIx args 0, hp } with
  | none => rfl
  | some y => obtain ⟨x, s⟩ := y; cases x <;> rfl
@[simp] theorem resL_nil : resL G st [] = some [] := rfl
@[simp] theorem resL_tmp {t l} : resL G st (.tmp t :: l) = (resL G st l).map fun vs => st.slot t :: vs := by simp [resL, resv]
@[simp] theorem resOf_one {v} : resOf [v] = v := rfl
@[simp] theorem resOf_nil : resOf [] = .tup [] := rfl
@[simp] theorem resOf_two {v w l} : resOf (v :: w :: l) = .tup (v :: w :: l) := rfl

/-- A body without memory: its end. -/
theorem end_pure {g : FuncId} {res : List ResultVar} {x : AX} {s : ASt} {vs : List AV} (hx : x = .normal ∨ x = .ret) (hr : resL G s res = some vs) (hn : AV.namesL vs = []) : endX G g [] res (some (x, s)) = some (.ret (resOf vs), []) := by
  have hv : (resOf vs).names = [] := by
    unfold resOf
    split
    · simpa using hn
    · exact hn
  have hf : finishA G g [] (resOf vs) s = (resOf vs, []) := by
    unfold finishA
    simp only [nameless_rows hv, nameless_rv hv]
    have ho : ∀ h : Heap, outOf [] h (resOf vs) = (resOf vs, []) := by
      intro h
      unfold outOf
      simp only [hv, List.append_nil]
      have : reachL 60 h [] [] = [] := rfl
      rw [this, nameless_ren hv]; rfl
    split <;> exact ho _
  rcases hx with rfl | rfl <;> simp [endX, hr, hf, retA]
theorem end_pan {g : FuncId} {res : List ResultVar} {s : ASt} {v : AV} (hn : v.names = []) : endX G g [] res (some (.pan v, s)) = some (.pan v, []) := by
  unfold endX
  simp only [nameless_rows hn, nameless_rv hn]
  unfold outOf
  simp only [hn, List.append_nil]
  have : reachL 60 (hfix [] s.hp) [] [] = [] := rfl
  rw [this, nameless_ren hn]; rfl
end
end Go.Proofs.YtbjphckpbkacaaaGreatDoor.Abs


/- What is unfolded, when code is gone through. -/
namespace Go.Proofs.YtbjphckpbkacaaaGreatDoor.Abs
open Go Go.RowKit
set_option linter.unusedSimpArgs false
set_option linter.unusedVariables false
attribute [simp] boxX allocX newObj okCells storeA fieldAddrV fieldOff loadV partT partA objCells putA reCell hput hmod buildA fillA resv zipIx AObj.fix hfix ASt.fix fieldV
  assertV panicX mkIface buildSliceX AV.pureL elemOf? zeroFits makeSliceX capv rowAt slicev bound? sliceX cutA convertX convv isStringT
attribute [simp] Go.undef
@[simp] theorem src_list {hp k sz es} : srcEls hp k (.list sz es) = if sz = k then some es else if sz = 0 ∧ es = [] then some [] else none := rfl
@[simp] theorem src_nils {hp k} : srcEls hp k .nils = some [] := rfl
@[simp] theorem src_str {hp k s} : srcEls hp k (.str s) = if 1 = k then some (s.map fun b => .int .u8 b.toNat) else none := rfl
@[simp] theorem src_own {hp k id} : srcEls hp k (.own id) = (aget hp id).bind fun | .row sz es _ _ => if sz = k then some es else none | _ => none := rfl
@[simp] theorem src_row {hp k id o l} : srcEls hp k (.row id o l) = (aget hp id).bind fun | .row sz es _ _ => if sz = k ∧ o + l ≤ es.length then some ((es.drop o).take l) else none | _ => none := rfl
def lenD (hp : Heap) (d : Option TypeDesc) (x : AV) : Option AV :=
  match d, x with
  | some (.map _ _), x => (mapObj hp x).map fun es => .int .i64 es.1.length
  | some .string, .str s => some (.int .i64 s.length)
  | some (.array n _), _ => some (.int .i64 n)
  | some (.slice _), .list _ es => some (.int .i64 es.length)
  | some (.slice _), .nils => some (.int .i64 0)
  | some (.slice _), .own id => (rowAt hp id).map fun r => .int .i64 r.2.length
  | some (.slice _), .row _ _ l => some (.int .i64 l)
  | _, _ => none
@[simp] theorem lenv_D {P hp t x} : lenv P hp t x = lenD hp (P.underlying t) x := rfl
@[simp] theorem lenD_str {hp s} : lenD hp (some .string) (.str s) = some (.int .i64 s.length) := rfl
@[simp] theorem lenD_arr {hp n e x} : lenD hp (some (.array n e)) x = some (.int .i64 n) := rfl
@[simp] theorem lenD_list {hp e z es} : lenD hp (some (.slice e)) (.list z es) = some (.int .i64 es.length) := rfl
@[simp] theorem lenD_nils {hp e} : lenD hp (some (.slice e)) .nils = some (.int .i64 0) := rfl
@[simp] theorem lenD_own {hp e id} : lenD hp (some (.slice e)) (.own id) = (rowAt hp id).map fun r => .int .i64 r.2.length := rfl
@[simp] theorem lenD_row {hp e id o l} : lenD hp (some (.slice e)) (.row id o l) = some (.int .i64 l) := rfl
def indexD (P : Program) (hp : Heap) (d : Option TypeDesc) (x : AV) (n : Int) : Option AV :=
  match d, x with
     | some (.slice e), .list sz es => if sz = P.cellsOf e ∧ 0 < sz ∧ 0 ≤ n then (es[n.toNat]?).map fun e => .ep e 0 else none
     | some (.slice e), .own id => (rowAt hp id).bind fun r => if r.1 = P.cellsOf e ∧ 0 < r.1 ∧ 0 ≤ n ∧ n < r.2.length then some (.ptr id n.toNat 0) else none
     | some (.slice e), .row id o l => (rowAt hp id).bind fun r => if r.1 = P.cellsOf e ∧ 0 < r.1 ∧ 0 ≤ n ∧ n < l ∧ o + l ≤ r.2.length then some (.ptr id (o + n.toNat) 0) else none
     | some (.array m e), .ptr id j o => if 0 ≤ n ∧ n < m ∧ 0 < P.cellsOf e then some (.ptr id j (o + n.toNat * P.cellsOf e)) else none
     | some (.array m e), .ep v o => if 0 ≤ n ∧ n < m ∧ 0 < P.cellsOf e ∧ o + n.toNat * P.cellsOf e < v.cells.length then some (.ep v (o + n.toNat * P.cellsOf e)) else none
     | _, _ => none
@[simp] theorem indexA_D {P hp t x k n} : indexA P hp t x (.int k n) = indexD P hp (P.underlying t) x n := by
  unfold indexA indexD
  cases P.underlying t with
  | none => rfl
  | some d => cases d <;> cases x <;> rfl
@[simp] theorem indexD_list {P hp e sz es n} : indexD P hp (some (.slice e)) (.list sz es) n = if sz = P.cellsOf e ∧ 0 < sz ∧ 0 ≤ n then (es[n.toNat]?).map fun e => .ep e 0 else none := rfl
@[simp] theorem indexD_own {P hp e id n} : indexD P hp (some (.slice e)) (.own id) n = (rowAt hp id).bind fun r => if r.1 = P.cellsOf e ∧ 0 < r.1 ∧ 0 ≤ n ∧ n < r.2.length then some (.ptr id n.toNat 0) else none := rfl
@[simp] theorem indexD_row {P hp e id o l n} : indexD P hp (some (.slice e)) (.row id o l) n = (rowAt hp id).bind fun r => if r.1 = P.cellsOf e ∧ 0 < r.1 ∧ 0 ≤ n ∧ n < l ∧ o + l ≤ r.2.length then some (.ptr id (o + n.toNat) 0) else none := rfl
@[simp] theorem indexD_ptr {P hp m e id j o n} : indexD P hp (some (.array m e)) (.ptr id j o) n = if 0 ≤ n ∧ n < m ∧ 0 < P.cellsOf e then some (.ptr id j (o + n.toNat * P.cellsOf e)) else none := rfl
@[simp] theorem indexD_ep {P hp m e v o n} : indexD P hp (some (.array m e)) (.ep v o) n = if 0 ≤ n ∧ n < m ∧ 0 < P.cellsOf e ∧ o + n.toNat * P.cellsOf e < v.cells.length then some (.ep v (o + n.toNat * P.cellsOf e)) else none := rfl
@[simp] theorem okc_undef  : okCell AV.undef = false := rfl
@[simp] theorem kno_undef  : AV.known AV.undef = false := rfl
@[simp] theorem isA_undef  : AV.isA AV.undef = false := rfl
@[simp] theorem pur_undef  : AV.pureB AV.undef = false := by simp [AV.pureB]
@[simp] theorem okc_bool {b} : okCell (.bool b) = true := rfl
@[simp] theorem kno_bool {b} : AV.known (.bool b) = true := rfl
@[simp] theorem isA_bool {b} : AV.isA (.bool b) = false := rfl
@[simp] theorem pur_bool {b} : AV.pureB (.bool b) = true := by simp [AV.pureB]
@[simp] theorem okc_int {k n} : okCell (.int k n) = true := rfl
@[simp] theorem kno_int {k n} : AV.known (.int k n) = true := rfl
@[simp] theorem isA_int {k n} : AV.isA (.int k n) = false := rfl
@[simp] theorem pur_int {k n} : AV.pureB (.int k n) = true := by simp [AV.pureB]
@[simp] theorem okc_str {s} : okCell (.str s) = true := rfl
@[simp] theorem kno_str {s} : AV.known (.str s) = true := rfl
@[simp] theorem isA_str {s} : AV.isA (.str s) = false := rfl
@[simp] theorem pur_str {s} : AV.pureB (.str s) = true := by simp [AV.pureB]
@[simp] theorem okc_nilp  : okCell AV.nilp = true := rfl
@[simp] theorem kno_nilp  : AV.known AV.nilp = true := rfl
@[simp] theorem isA_nilp  : AV.isA AV.nilp = false := rfl
@[simp] theorem pur_nilp  : AV.pureB AV.nilp = true := by simp [AV.pureB]
@[simp] theorem okc_nils  : okCell AV.nils = true := rfl
@[simp] theorem kno_nils  : AV.known AV.nils = true := rfl
@[simp] theorem isA_nils  : AV.isA AV.nils = false := rfl
@[simp] theorem pur_nils  : AV.pureB AV.nils = true := by simp [AV.pureB]
@[simp] theorem okc_nilf  : okCell AV.nilf = true := rfl
@[simp] theorem okc_nilm  : okCell AV.nilm = true := rfl
@[simp] theorem kno_nilf  : AV.known AV.nilf = true := rfl
@[simp] theorem kno_nilm  : AV.known AV.nilm = true := rfl
@[simp] theorem isA_nilf  : AV.isA AV.nilf = false := rfl
@[simp] theorem isA_nilm  : AV.isA AV.nilm = false := rfl
@[simp] theorem pur_nilf  : AV.pureB AV.nilf = true := by simp [AV.pureB]
@[simp] theorem pur_nilm  : AV.pureB AV.nilm = true := by simp [AV.pureB]
@[simp] theorem okc_nili  : okCell AV.nili = true := rfl
@[simp] theorem kno_nili  : AV.known AV.nili = true := rfl
@[simp] theorem isA_nili  : AV.isA AV.nili = false := rfl
@[simp] theorem pur_nili  : AV.pureB AV.nili = true := by simp [AV.pureB]
@[simp] theorem okc_list {z l} : okCell (.list z l) = true := rfl
@[simp] theorem kno_list {z l} : AV.known (.list z l) = true := rfl
@[simp] theorem isA_list {z l} : AV.isA (.list z l) = false := rfl
@[simp] theorem pur_list {z l} : AV.pureB (.list z l) = true := by simp [AV.pureB]
@[simp] theorem okc_ep {v o} : okCell (.ep v o) = true := rfl
@[simp] theorem kno_ep {v o} : AV.known (.ep v o) = true := rfl
@[simp] theorem isA_ep {v o} : AV.isA (.ep v o) = false := rfl
@[simp] theorem pur_ep {v o} : AV.pureB (.ep v o) = true := by simp [AV.pureB]
@[simp] theorem okc_own {i} : okCell (.own i) = true := rfl
@[simp] theorem kno_own {i} : AV.known (.own i) = true := rfl
@[simp] theorem isA_own {i} : AV.isA (.own i) = false := rfl
@[simp] theorem pur_own {i} : AV.pureB (.own i) = false := by simp [AV.pureB]
@[simp] theorem okc_row {i o l} : okCell (.row i o l) = true := rfl
@[simp] theorem kno_row {i o l} : AV.known (.row i o l) = true := rfl
@[simp] theorem isA_row {i o l} : AV.isA (.row i o l) = false := rfl
@[simp] theorem pur_row {i o l} : AV.pureB (.row i o l) = false := by simp [AV.pureB]
@[simp] theorem okc_ptr {i o l} : okCell (.ptr i o l) = true := rfl
@[simp] theorem kno_ptr {i o l} : AV.known (.ptr i o l) = true := rfl
@[simp] theorem isA_ptr {i o l} : AV.isA (.ptr i o l) = false := rfl
@[simp] theorem pur_ptr {i o l} : AV.pureB (.ptr i o l) = false := by simp [AV.pureB]
@[simp] theorem okc_yld {i} : okCell (.yld i) = true := rfl
@[simp] theorem okc_mp {i} : okCell (.mp i) = true := rfl
@[simp] theorem kno_yld {i} : AV.known (.yld i) = true := rfl
@[simp] theorem kno_mp {i} : AV.known (.mp i) = true := rfl
@[simp] theorem isA_yld {i} : AV.isA (.yld i) = false := rfl
@[simp] theorem isA_mp {i} : AV.isA (.mp i) = false := rfl
@[simp] theorem pur_yld {i} : AV.pureB (.yld i) = false := by simp [AV.pureB]
@[simp] theorem pur_mp {i} : AV.pureB (.mp i) = false := by simp [AV.pureB]
@[simp] theorem okc_agg {l} : okCell (.agg l) = false := rfl
@[simp] theorem kno_agg {l} : AV.known (.agg l) = true := rfl
@[simp] theorem isA_agg {l} : AV.isA (.agg l) = true := rfl
@[simp] theorem pur_agg {l} : AV.pureB (.agg l) = AV.pureL l := by simp [AV.pureB]
@[simp] theorem okc_tup {l} : okCell (.tup l) = false := rfl
@[simp] theorem kno_tup {l} : AV.known (.tup l) = true := rfl
@[simp] theorem isA_tup {l} : AV.isA (.tup l) = false := rfl
@[simp] theorem pur_tup {l} : AV.pureB (.tup l) = AV.pureL l := by simp [AV.pureB]
@[simp] theorem okc_iface {t v} : okCell (.iface t v) = true := rfl
@[simp] theorem kno_iface {t v} : AV.known (.iface t v) = true := rfl
@[simp] theorem isA_iface {t v} : AV.isA (.iface t v) = false := rfl
@[simp] theorem pur_iface {t v} : AV.pureB (.iface t v) = AV.pureB v := by simp [AV.pureB]
@[simp] theorem okc_fn {g a b} : okCell (.fn g a b) = true := rfl
@[simp] theorem kno_fn {g a b} : AV.known (.fn g a b) = true := rfl
@[simp] theorem isA_fn {g a b} : AV.isA (.fn g a b) = false := rfl
@[simp] theorem pur_fn {g a b} : AV.pureB (.fn g a b) = (AV.pureL a && AV.pureL b) := by simp [AV.pureB]
@[simp] theorem mm_max {k : IntKind} {x y : Int} : minmax true (.int k x) (.int k y) = some (.int k (max x y)) := by
  simp only [minmax, if_true]
  congr 2
  by_cases h : x < y
  · rw [if_pos h]; omega
  · rw [if_neg h]; omega
@[simp] theorem mm_min {k : IntKind} {x y : Int} : minmax false (.int k x) (.int k y) = some (.int k (min x y)) := by
  simp only [minmax, if_true, Bool.false_eq_true, if_false]
  congr 2
  by_cases h : y < x
  · rw [if_pos h]; omega
  · rw [if_neg h]; omega
@[simp] theorem kill_int {n k m} : (AV.int k m).kill n = .int k m := rfl
@[simp] theorem kill_list {n k m} : (AV.list k m).kill n = .list k m := rfl
@[simp] theorem kill_str {n m} : (AV.str m).kill n = .str m := rfl
@[simp] theorem kill_bool {n m} : (AV.bool m).kill n = .bool m := rfl
@[simp] theorem kill_undef {n} : AV.undef.kill n = .undef := rfl
@[simp] theorem kill_nils {n} : AV.nils.kill n = .nils := rfl
@[simp] theorem kill_nilp {n} : AV.nilp.kill n = .nilp := rfl
@[simp] theorem kill_nilf {n} : AV.nilf.kill n = .nilf := rfl
@[simp] theorem kill_nilm {n} : AV.nilm.kill n = .nilm := rfl
@[simp] theorem kill_nili {n} : AV.nili.kill n = .nili := rfl
@[simp] theorem kill_ep {n v o} : (AV.ep v o).kill n = .ep v o := rfl
@[simp] theorem kill_own {n i} : (AV.own i).kill n = if i = n then .undef else .own i := rfl
@[simp] theorem kill_row_v {n i o l} : (AV.row i o l).kill n = if i = n then .undef else .row i o l := rfl
@[simp] theorem kill_ptr {n i o l} : (AV.ptr i o l).kill n = if i = n then .undef else .ptr i o l := rfl
@[simp] theorem kill_yld {n i} : (AV.yld i).kill n = if i = n then .undef else .yld i := rfl
@[simp] theorem kill_mp {n i} : (AV.mp i).kill n = if i = n then .undef else .mp i := rfl
@[simp] theorem kill_agg {n cs} : (AV.agg cs).kill n = .agg (AV.killL n cs) := rfl
@[simp] theorem kill_tup {n cs} : (AV.tup cs).kill n = .tup (AV.killL n cs) := rfl
@[simp] theorem kill_iface {n t v} : (AV.iface t v).kill n = .iface t (v.kill n) := rfl
@[simp] theorem kill_fn {n g a b} : (AV.fn g a b).kill n = .fn g (AV.killL n a) (AV.killL n b) := rfl
@[simp] theorem killL_nil' {n} : AV.killL n [] = [] := rfl
@[simp] theorem killL_cons' {n v l} : AV.killL n (v :: l) = v.kill n :: AV.killL n l := rfl
@[simp] theorem okill_box {n t v} : (AObj.box t v).kill n = .box t (v.kill n) := rfl
@[simp] theorem okill_row {n sz es fx mv} : (AObj.row sz es fx mv).kill n = .row sz es fx mv := rfl
@[simp] theorem oren_box {m t v} : (AObj.box t v).ren m = .box t (v.ren m) := rfl
@[simp] theorem oren_row {m sz es fx mv} : (AObj.row sz es fx mv).ren m = .row sz es fx mv := rfl
@[simp] theorem onames_box {t v} : (AObj.box t v).names = v.names := rfl
@[simp] theorem onames_row {sz es fx mv} : (AObj.row sz es fx mv).names = [] := rfl
@[simp] theorem killn_mk {sl hp n} : ASt.killn ⟨sl, hp⟩ n = ⟨sl.map fun p => (p.1, p.2.kill n), hp.map fun p => (p.1, p.2.kill n)⟩ := rfl
/-- A loop's head, where there is no memory. -/
def canonK (G : Cfg) (K : Option Keep) (st : ASt) : Option ASt :=
  K.bind fun K =>
    (canonAll (fun p s => canonAll (fun (j : Nat × Nat × TypeId) s => canonCell p.1 j.1 j.2 s) p.2 s) K.boxes st).bind fun st1 =>
    (canonAll canonSlot K.slots st1).bind fun st2 =>
    (canonAll canonBox K.boxes st2).bind fun st3 =>
      let names := reachL 60 st3.hp ((List.range 12) ++ K.boxes.map (·.1) ++ AV.namesL (K.slots.map fun s => st3.slot s.1)) []
      some (restrictTo (K.slots.map (·.1)) (names.filter fun n => (aget st3.hp n).isSome) st3)
@[simp] theorem canon_eq {G : Cfg} {f : FuncId} {c : Code} {st : ASt} : canon G f c st = canonK G (G.keep f (firstRegion c)) st := rfl
@[simp] theorem fr_region {id ops d} : firstRegion (.region id ops d) = id := rfl
@[simp] theorem fr_seq {a b} : firstRegion (.seq a b) = firstRegion a := rfl
@[simp] theorem fr_block {i b} : firstRegion (.block i b) = firstRegion b := rfl
@[simp] theorem fr_loop {b} : firstRegion (.loop b) = firstRegion b := rfl

theorem reach_none {hp : Heap} (h : hp = []) : ∀ (k : Nat) (l acc : List Nat), (∀ n ∈ reachL k hp l acc, n ∈ acc ∨ n ∈ l) := by
  subst h
  intro k
  induction k with
  | zero => intro l acc n hn; exact .inl (by simpa [reachL] using hn)
  | succ k ih =>
    intro l acc n hn
    cases l with
    | nil => exact .inl (by simpa [reachL] using hn)
    | cons x r =>
      simp only [reachL] at hn
      split at hn
      · rcases ih _ _ _ hn with h | h
        · exact .inl h
        · exact .inr (List.mem_cons_of_mem _ h)
      · simp only [aget_nil, Option.map_none, Option.getD_none, List.append_nil] at hn
        rcases ih _ _ _ hn with h | h
        · rcases List.mem_append.1 h with h | h
          · exact .inl h
          · exact .inr (by simp at h; simp [h])
        · exact .inr (List.mem_cons_of_mem _ h)

theorem canonK_pure {G : Cfg} {slots : List (Nat × Option (Nat × TypeId))} {sl : Slots} (h1 : slots.all (fun s => s.2.isNone) = true) (h2 : AV.namesL (slots.map fun s => (aget sl s.1).getD .undef) = []) :
    ∃ sl', canonK G (some ⟨slots, []⟩) ⟨sl, []⟩ = some ⟨sl', []⟩ ∧ sl' = slots.map fun s => (s.1, (aget sl s.1).getD .undef) := by
  have key : ∀ (l : List (Nat × Option (Nat × TypeId))) (cur : Slots), l.all (fun s => s.2.isNone) = true → (∀ s ∈ l, ((aget cur s.1).getD .undef).names = []) →
      ∃ cur', canonAll canonSlot l ⟨cur, []⟩ = some ⟨cur', []⟩ ∧ ∀ n, (aget cur' n).getD .undef = (aget cur n).getD .undef := by
    intro l
    induction l with
    | nil => intro cur _ _; exact ⟨cur, rfl, fun _ => rfl⟩
    | cons s l ih =>
      intro cur ha hn
      simp only [List.all_cons, Bool.and_eq_true] at ha
      obtain ⟨t, z⟩ := s
      cases z with
      | some z => simp at ha
      | none =>
        have hv := hn (t, none) (by simp)
        simp only at hv
        have hstep : canonSlot (t, none) ⟨cur, []⟩ = some ⟨(t, (aget cur t).getD .undef) :: cur, []⟩ := by
          simp only [canonSlot, slot_mk, nameless_rv hv, nameless_rows hv]; rfl
        have hsame : ∀ n, (aget ((t, (aget cur t).getD .undef) :: cur) n).getD .undef = (aget cur n).getD .undef := by
          intro n
          rw [aget_cons']
          split
          · rename_i e; subst e; rfl
          · rfl
        obtain ⟨cur', h3, h4⟩ := ih ((t, (aget cur t).getD .undef) :: cur) ha.2 (fun s hs => by rw [hsame]; exact hn s (List.mem_cons_of_mem _ hs))
        refine ⟨cur', ?_, fun n => (h4 n).trans (hsame n)⟩
        simp only [canonAll, hstep, Option.bind_some]; exact h3
  obtain ⟨cur', h3, h4⟩ := key slots sl h1 (fun s hs => namesL_of h2 _ (List.mem_map.2 ⟨s, hs, rfl⟩))
  refine ⟨_, ?_, rfl⟩
  simp only [canonK, Option.bind_some, canonAll, h3]
  have hnames : ∀ l : List Nat, (l.filter fun n => (aget ([] : Heap) n).isSome) = [] := by
    intro l; simp
  simp only [hnames]
  congr 1
  unfold restrictTo
  congr 1
  rw [List.map_map]
  refine List.map_congr_left fun s hs => ?_
  simp only [Function.comp, slot_mk, h4, List.map_nil]
  have := namesL_of h2 _ (List.mem_map.2 ⟨s, hs, rfl⟩)
  rw [nameless_ren this]

theorem canonK_p {G : Cfg} {slots : List (Nat × Option (Nat × TypeId))} {sl : Slots} (h1 : slots.all (fun s => s.2.isNone) = true) (h2 : AV.namesL (slots.map fun s => (aget sl s.1).getD .undef) = []) :
    canonK G (some ⟨slots, []⟩) ⟨sl, []⟩ = some ⟨slots.map fun s => (s.1, (aget sl s.1).getD .undef), []⟩ := by
  obtain ⟨_, h, rfl⟩ := canonK_pure (G := G) h1 h2; exact h

/-! Comparisons of other kinds. -/
section
variable {P : Program} {t : TypeId} {cx cy : Bool}
@[simp] theorem bb_eql {a b : Bool} (h : P.underlying t = some .bool) : binO P .eql t cx cy (.bool a) (.bool b) = some (.bool (a == b)) := by simp [binO, binv, eqv, h]
@[simp] theorem bb_neq {a b : Bool} (h : P.underlying t = some .bool) : binO P .neq t cx cy (.bool a) (.bool b) = some (.bool (!(a == b))) := by simp [binO, binv, eqv, h]
@[simp] theorem bnp_eql {e} (h : P.underlying t = some (.pointer e)) : binO P .eql t cx cy .nilp .nilp = some (.bool true) := by simp [binO, binv, eqv, h]
@[simp] theorem bnp_neq {e} (h : P.underlying t = some (.pointer e)) : binO P .neq t cx cy .nilp .nilp = some (.bool false) := by simp [binO, binv, eqv, h]
@[simp] theorem bpn_eql {e i j o} (h : P.underlying t = some (.pointer e)) : binO P .eql t cx cy (.ptr i j o) .nilp = some (.bool false) := by simp [binO, binv, eqv, h]
@[simp] theorem bpn_neq {e i j o} (h : P.underlying t = some (.pointer e)) : binO P .neq t cx cy (.ptr i j o) .nilp = some (.bool true) := by simp [binO, binv, eqv, h]
@[simp] theorem bss_eql {e} (h : P.underlying t = some (.slice e)) : binO P .eql t cx cy .nils .nils = some (.bool true) := by simp [binO, binv, eqv, h]
@[simp] theorem bss_neq {e} (h : P.underlying t = some (.slice e)) : binO P .neq t cx cy .nils .nils = some (.bool false) := by simp [binO, binv, eqv, h]
@[simp] theorem bls_eql {e z es} (h : P.underlying t = some (.slice e)) (hz : z = 0 ∨ es ≠ []) : binO P .eql t cx cy (.list z es) .nils = some (.bool false) := by simp [binO, binv, eqv, h, hz]
@[simp] theorem bls_neq {e z es} (h : P.underlying t = some (.slice e)) (hz : z = 0 ∨ es ≠ []) : binO P .neq t cx cy (.list z es) .nils = some (.bool true) := by simp [binO, binv, eqv, h, hz]
end

/-! ### Regions that draw their order -/
section
variable {G : Cfg} {call : CallFn} {loop : LoopFn} {f : FuncId} {ops : Array Oper} {r : List PS} {st : ASt} {d : Option Nat} {t t' t'' : TypeId} {p : String} {af : Array Edge} {x y z : Operand} {g : Option (Nat × Bool)}
def drawX (G : Cfg) (call : CallFn) (ops : Array Oper) (p : Option (List PS)) (st : ASt) : Option (AX × ASt) := p.bind fun p => runPlan G call ops p st
@[simp] theorem cx_draw {id} : codeX G call loop f (.region id ops true) st = trimX (G.live f id) (drawX G call ops (G.plan f id) st) := rfl
/-- On with the plan. -/
def planX (G : Cfg) (call : CallFn) (ops : Array Oper) (p : List PS) (st : ASt) : Option (AX × ASt) := runPlan G call ops p st
@[simp] theorem drawX_s {p} : drawX G call ops (some p) st = planX G call ops p st := rfl
@[simp] theorem planX_nil : planX G call ops [] st = some (.normal, st) := rfl
def nvX (G : Cfg) (call : CallFn) (ops : Array Oper) (d : Option Nat) (r : List PS) (st : ASt) : Option AV → Option (AX × ASt)
  | some v => planX G call ops r (st.put d v)
  | none => none
@[simp] theorem nvX_s {v} : nvX G call ops d r st (some v) = planX G call ops r (st.put d v) := rfl
def nX (G : Cfg) (call : CallFn) (ops : Array Oper) (r : List PS) (st : ASt) : Option Oper → Option (AX × ASt)
  | some o => nvX G call ops o.dst r st (nval G ops st o)
  | none => none
/-- A step of a plan behind a guard, whose slot holds this. -/
def gN' (G : Cfg) (call : CallFn) (ops : Array Oper) (k : Nat) (w : Bool) (d : Option Nat) (op : Op) (r : List PS) (st : ASt) : AV → Option (AX × ASt)
  | .bool b => if b == w then nvX G call ops d r st (nopv G st op) else planX G call ops r (st.put d (.tup []))
  | .tup [] => planX G call ops r (st.put d (.tup []))
  | _ => none
@[simp] theorem gN_tt {k d op} : gN' G call ops k true d op r st (.bool true) = nvX G call ops d r st (nopv G st op) := rfl
@[simp] theorem gN_ff {k d op} : gN' G call ops k false d op r st (.bool false) = nvX G call ops d r st (nopv G st op) := rfl
@[simp] theorem gN_tf {k d op} : gN' G call ops k true d op r st (.bool false) = planX G call ops r (st.put d (.tup [])) := rfl
@[simp] theorem gN_ft {k d op} : gN' G call ops k false d op r st (.bool true) = planX G call ops r (st.put d (.tup [])) := rfl
@[simp] theorem gN_n {k w d op} : gN' G call ops k w d op r st (.tup []) = planX G call ops r (st.put d (.tup [])) := rfl
@[simp low] theorem gN_split {L} {sl : Slots} {hp : Heap} {k w d op} {b : Bool} (hk : aget sl k = some (.bool b)) : trimX L (gN' G call ops k w d op r ⟨sl, hp⟩ (.bool b)) =
    mergeX b (trimX L (gN' G call ops k w d op r ⟨aset sl k (.bool true), hp⟩ (.bool true))) (trimX L (gN' G call ops k w d op r ⟨aset sl k (.bool false), hp⟩ (.bool false))) := by
  cases b with
  | true => rw [aset_same hk]; rfl
  | false => rw [aset_same hk]; rfl
def gNK (G : Cfg) (call : CallFn) (ops : Array Oper) (w : Bool) (d : Option Nat) (op : Op) (r : List PS) (st : ASt) : Option Nat → Option (AX × ASt)
  | some k => gN' G call ops k w d op r st (st.slot k)
  | none => none
@[simp] theorem gNK_s {k w d op} : gNK G call ops w d op r st (some k) = gN' G call ops k w d op r st (st.slot k) := rfl
@[simp] theorem nX_u {op : Op} : nX G call ops r st (some ⟨d, op, t, p, af, none⟩) = nvX G call ops d r st (nopv G st op) := by
  simp only [nX, nval, guardA, Option.bind_some, if_true]
@[simp] theorem nX_g {op : Op} {j w} : nX G call ops r st (some ⟨d, op, t, p, af, some (j, w)⟩) = gNK G call ops w d op r st ((ops[j]?).bind (·.dst)) := by
  simp only [nX, nval, guardA]
  cases (ops[j]?).bind (·.dst) with
  | none => rfl
  | some k =>
    simp only [gNK]
    cases st.slot k with
    | bool b => cases b <;> cases w <;> rfl
    | tup l => cases l <;> rfl
    | _ => rfl
@[simp] theorem planX_n {i} : planX G call ops (.n i :: r) st = nX G call ops r st ops[i]? := by
  unfold planX
  simp only [runPlan, nX]
  cases ops[i]? with
  | none => rfl
  | some o =>
    simp only [Option.bind_some]
    cases nval G ops st o <;> rfl
def erX (G : Cfg) (call : CallFn) (ops : Array Oper) (d : Option Nat) (re : List Nat) (r : List PS) (c : Bool) : Option AR → Option (AX × ASt)
  | some (.pan v s) => if c = true then some (.pan v, ⟨[], s.hp⟩) else none
  | some (.val v s) => if re.all (again G ops (s.put d v)) = true then planX G call ops r (s.put d v) else none
  | _ => none
@[simp] theorem calledA_v {f args tys} : calledA (.call ⟨.value f, args, tys⟩) = some (f, args.toList) := rfl
@[simp] theorem erX_p {re v s} : erX G call ops d re r true (some (.pan v s)) = some (.pan v, ⟨[], s.hp⟩) := rfl
@[simp] theorem erX_s {re c v s} : erX G call ops d re r c (some (.val v s)) = if re.all (again G ops (s.put d v)) = true then planX G call ops r (s.put d v) else none := rfl
def eX (G : Cfg) (call : CallFn) (ops : Array Oper) (re : List Nat) (r : List PS) (st : ASt) : Option Oper → Option (AX × ASt)
  | some o => erX G call ops o.dst re r (calledA o.op).isSome (stepE G call ops st o)
  | none => none
def gE' (G : Cfg) (call : CallFn) (ops : Array Oper) (k : Nat) (w : Bool) (o : Oper) (re : List Nat) (r : List PS) (st : ASt) : AV → Option (AX × ASt)
  | .bool b => if b == w then erX G call ops o.dst re r (calledA o.op).isSome (aop G call o st) else erX G call ops o.dst re r (calledA o.op).isSome (skX (skipA st o.op) (some (.val (.tup []) st)))
  | .tup [] => erX G call ops o.dst re r (calledA o.op).isSome (skX (skipA st o.op) (some (.val (.tup []) st)))
  | _ => none
@[simp] theorem gE_tt {k o re} : gE' G call ops k true o re r st (.bool true) = erX G call ops o.dst re r (calledA o.op).isSome (aop G call o st) := rfl
@[simp] theorem gE_ff {k o re} : gE' G call ops k false o re r st (.bool false) = erX G call ops o.dst re r (calledA o.op).isSome (aop G call o st) := rfl
@[simp] theorem gE_tf {k o re} : gE' G call ops k true o re r st (.bool false) = erX G call ops o.dst re r (calledA o.op).isSome (skX (skipA st o.op) (some (.val (.tup []) st))) := rfl
@[simp] theorem gE_ft {k o re} : gE' G call ops k false o re r st (.bool true) = erX G call ops o.dst re r (calledA o.op).isSome (skX (skipA st o.op) (some (.val (.tup []) st))) := rfl
@[simp] theorem gE_n {k w o re} : gE' G call ops k w o re r st (.tup []) = erX G call ops o.dst re r (calledA o.op).isSome (skX (skipA st o.op) (some (.val (.tup []) st))) := rfl
@[simp low] theorem gE_split {L} {sl : Slots} {hp : Heap} {k w o re} {b : Bool} (hk : aget sl k = some (.bool b)) : trimX L (gE' G call ops k w o re r ⟨sl, hp⟩ (.bool b)) =
    mergeX b (trimX L (gE' G call ops k w o re r ⟨aset sl k (.bool true), hp⟩ (.bool true))) (trimX L (gE' G call ops k w o re r ⟨aset sl k (.bool false), hp⟩ (.bool false))) := by
  cases b with
  | true => rw [aset_same hk]; rfl
  | false => rw [aset_same hk]; rfl
def gEK (G : Cfg) (call : CallFn) (ops : Array Oper) (w : Bool) (o : Oper) (re : List Nat) (r : List PS) (st : ASt) : Option Nat → Option (AX × ASt)
  | some k => gE' G call ops k w o re r st (st.slot k)
  | none => none
@[simp] theorem gEK_s {k w o re} : gEK G call ops w o re r st (some k) = gE' G call ops k w o re r st (st.slot k) := rfl
@[simp] theorem eX_u {re} {op : Op} : eX G call ops re r st (some ⟨d, op, t, p, af, none⟩) = erX G call ops d re r (calledA op).isSome (aop G call ⟨d, op, t, p, af, none⟩ st) := by
  simp only [eX, stepE, guardA, Option.bind_some, if_true]
@[simp] theorem eX_g {re} {op : Op} {j w} : eX G call ops re r st (some ⟨d, op, t, p, af, some (j, w)⟩) = gEK G call ops w ⟨d, op, t, p, af, some (j, w)⟩ re r st ((ops[j]?).bind (·.dst)) := by
  simp only [eX, stepE, guardA, skX_if]
  cases (ops[j]?).bind (·.dst) with
  | none => rfl
  | some k =>
    simp only [gEK]
    cases st.slot k with
    | bool b => cases b <;> cases w <;> rfl
    | tup l => cases l <;> rfl
    | _ => rfl
@[simp] theorem planX_e {j re} : planX G call ops (.e j re :: r) st = eX G call ops re r st ops[j]? := by
  unfold planX
  simp only [runPlan, eX]
  cases ops[j]? with
  | none => rfl
  | some o =>
    simp only [Option.bind_some]
    cases stepE G call ops st o with
    | none => rfl
    | some a =>
      cases a with
      | pan v s => rfl
      | val v s => simp only [Option.bind_some, erX]; split <;> rfl
/-- A guard before a value. -/
def gN (b : Option Bool) (v : Option AV) : Option AV := match b with | some true => v | some false => some (.tup []) | none => none
@[simp] theorem gN_t {v} : gN (some true) v = v := rfl
@[simp] theorem gN_f {v} : gN (some false) v = some (.tup []) := rfl
theorem gN_b {b v} : gN (some b) v = if b = true then v else some (.tup []) := by cases b <;> rfl
def gE (b : Option Bool) (st : ASt) (k : Bool) (v : Option AR) : Option AR := match b with | some true => v | some false => skX k (some (.val (.tup []) st)) | none => none
@[simp] theorem gE_t {k v} : gE (some true) st k v = v := rfl
@[simp] theorem gE_f {k v} : gE (some false) st k v = skX k (some (.val (.tup []) st)) := rfl
theorem gE_b {b v} : gE (some b) st true v = if b = true then v else some (.val (.tup []) st) := by cases b <;> rfl
def gA (ops : Array Oper) (st : ASt) : Option (Nat × Bool) → Option Bool
  | none => some true
  | some (j, w) => ((ops[j]?).bind (·.dst)).bind fun k => gV w (st.slot k)
@[simp] theorem gA_n : gA ops st none = some true := rfl
@[simp] theorem gA_s {j w} : gA ops st (some (j, w)) = ((ops[j]?).bind (·.dst)).bind fun k => gV w (st.slot k) := rfl
theorem guardA_gA {op : Op} : guardA ops st ⟨d, op, t, p, af, g⟩ = gA ops st g := by
  unfold guardA
  cases g with
  | none => rfl
  | some q =>
    obtain ⟨j, w⟩ := q
    simp only [gA]
    cases (ops[j]?).bind (·.dst) with
    | none => rfl
    | some k =>
      simp only [Option.bind_some, gV]
      split <;> simp_all
@[simp] theorem nval_o {op : Op} : nval G ops st ⟨d, op, t, p, af, g⟩ = gN (gA ops st g) (nopv G st op) := by
  unfold nval
  rw [guardA_gA]
  cases gA ops st g with
  | none => rfl
  | some b => cases b <;> rfl
@[simp] theorem stepE_o {op : Op} : stepE G call ops st ⟨d, op, t, p, af, g⟩ = gE (gA ops st g) st (skipA st op) (aop G call ⟨d, op, t, p, af, g⟩ st) := by
  unfold stepE
  simp only [skX_if]
  rw [guardA_gA]
  cases gA ops st g with
  | none => rfl
  | some b => cases b <;> rfl
def againV (v : Option AV) (d : Option Nat) (s : ASt) : Bool := match v, d with | some v, some d => AV.beq v (s.slot d) | _, _ => false
@[simp] theorem againV_s {v d s} : againV (some v) (some d) s = AV.beq v (s.slot d) := rfl
def againO (G : Cfg) (ops : Array Oper) (s : ASt) : Option Oper → Bool
  | some o => againV (nval G ops s o) o.dst s
  | none => false
@[simp] theorem againO_s {o} : againO G ops st (some o) = againV (nval G ops st o) o.dst st := rfl
@[simp] theorem again_o {i} : again G ops st i = againO G ops st ops[i]? := by
  unfold again againO againV
  cases ops[i]? <;> rfl

@[simp] theorem nopv_move : nopv G st (.move x) = some (st.ev x) := rfl
@[simp] theorem nopv_assign : nopv G st (.assign x) = some (st.ev x) := rfl
@[simp] theorem nopv_pick : nopv G st (.pick x y z) = pickV (st.ev x) (st.ev y) (st.ev z) := rfl
@[simp] theorem nopv_binOp {op} : nopv G st (.binOp op t' x y t'') = binO G.P op t' (isConst x) (isConst y) (st.ev x) (st.ev y) := rfl
@[simp] theorem nopv_unOp {op} : nopv G st (.unOp op t' x) = unv op (st.ev x) := rfl
@[simp] theorem nopv_field {k} : nopv G st (.field t' x k) = fieldV G.P t' k (st.ev x) := rfl
@[simp] theorem nopv_fieldAddr {k} : nopv G st (.fieldAddr t' x k) = fieldAddrV G.P t' k (st.ev x) := rfl
@[simp] theorem allocB_s {d d' : Nat} {e e' : TypeId} {t t' p p' af af'} : allocB (some ⟨some d, .alloc e, t, p, af, none⟩) (some ⟨some d', .alloc e', t', p', af', none⟩) = (d != d') := rfl
def swR (G : Cfg) (ops : Array Oper) (d : Option Nat) (re : List Nat) : Option AR → Option ASt
  | some (.val v s) => if re.all (again G ops (s.put d v)) then some (s.put d v) else none
  | _ => none
@[simp] theorem swR_s {d re v s} : swR G ops d re (some (.val v s)) = if re.all (again G ops (s.put d v)) = true then some (s.put d v) else none := rfl
@[simp] theorem swStep_s {re} {d : Nat} {e : TypeId} {t p af} : swStep G ops re st (some ⟨some d, .alloc e, t, p, af, none⟩) = swR G ops (some d) re (allocX G e d st) := rfl
@[simp] theorem planX_sw {j k re} : planX G call ops (.sw j k re :: r) st = if allocB ops[j]? ops[k]? = true then (swStep G ops re st ops[k]?).bind fun _ => (swStep G ops re st ops[j]?).bind fun s => (swStep G ops re s ops[k]?).bind fun s' => planX G call ops r s' else none := rfl
@[simp] theorem nopv_indexAddr : nopv G st (.indexAddr t' x y) = indexA G.P st.hp t' (st.ev x) (st.ev y) := rfl
@[simp] theorem nopv_index : nopv G st (.index t' x y) = indexv G.P t' (st.ev x) (st.ev y) := rfl
@[simp] theorem nopv_load : nopv G st (.load t' x) = loadV G.P st.hp t' (st.ev x) := rfl
@[simp] theorem nopv_extract {i} : nopv G st (.extract x i) = extractV i (st.ev x) := rfl
@[simp] theorem nopv_build {ps : Array (Nat × Operand)} : nopv G st (.build t' ps) = buildA G.P t' (ps.toList.map fun q => (q.1, st.ev q.2)) := rfl
@[simp] theorem nopv_makeInterface : nopv G st (.makeInterface t' x) = mkIface G.P t' (st.ev x) := rfl
@[simp] theorem nopv_makeFunc {g : Fn} {a b : Array Operand} : nopv G st (.makeFunc g a b) = some (.fn g (a.toList.map st.ev) (b.toList.map st.ev)) := rfl
@[simp] theorem nopv_nilCheck : nopv G st (.nilCheck x) = nilCheckV (st.ev x) := rfl
@[simp] theorem nopv_convert : nopv G st (.convert t' t'' x) = convv G.P st.hp t' t'' (st.ev x) := rfl
@[simp] theorem nopv_typeAssert {ok} : nopv G st (.typeAssert x t'' t' ok) = assertV G.P t' ok (st.ev x) := rfl
@[simp] theorem nopv_slice {lo hi mx : Option Operand} : nopv G st (.slice t' x lo hi mx) = slicev G.P st.hp t' (st.ev x) (lo.map st.ev) (hi.map st.ev) (mx.map st.ev) := rfl
@[simp] theorem nopv_len {ts : TypeId} : nopv G st (.call ⟨.builtin .len, #[x], #[ts]⟩) = lenv G.P st.hp ts (st.ev x) := rfl
@[simp] theorem nopv_min {ts} : nopv G st (.call ⟨.builtin .min, #[x, y], ts⟩) = minmax false (st.ev x) (st.ev y) := by simp [nopv, opv]
@[simp] theorem nopv_max {ts} : nopv G st (.call ⟨.builtin .max, #[x, y], ts⟩) = minmax true (st.ev x) (st.ev y) := by simp [nopv, opv]
def bsvV (G : Cfg) (t : TypeId) (len : Nat) (is : List Nat) (vs : List AV) : Option AV :=
  (elemOf? G.P t).bind fun e =>
    if is = List.range len ∧ ((G.P.info? e).bind (·.zero)).isSome = true ∧ AV.pureL vs = true ∧ (vs.all fun y => okCells y && y.cells.length == G.P.cellsOf e) = true ∧ 0 < G.P.cellsOf e ∧ len * G.P.cellsOf e ≤ 16777216 then some (.list (G.P.cellsOf e) vs) else none
@[simp] theorem nopv_lay {len} {ps : Array (Nat × Operand)} : nopv G st (.buildSlice t' len ps) = bsvV G t' len (ps.toList.map (·.1)) (ps.toList.map fun q => st.ev q.2) := rfl

@[simp] theorem aop_load : aop G call ⟨d, .load t' x, t, p, af, g⟩ st = (loadV G.P st.hp t' (st.ev x)).map fun v => .val v st := rfl
@[simp] theorem aop_store : aop G call ⟨d, .store t' x y, t, p, af, g⟩ st = (storeA G t' (st.ev x) (st.ev y) st).map fun s => .val .undef s := rfl
@[simp] theorem aop_alloc {e : TypeId} {d : Nat} : aop G call ⟨some d, .alloc e, t, p, af, g⟩ st = allocX G e d st := rfl
@[simp] theorem aop_box {e : TypeId} {d : Nat} : aop G call ⟨some d, .box e x, t, p, af, g⟩ st = boxX G e (st.ev x) d st := rfl
@[simp] theorem aop_lay {len} {ps : Array (Nat × Operand)} {d : Nat} : aop G call ⟨some d, .buildSlice t' len ps, t, p, af, g⟩ st = buildSliceX G t' len (ps.toList.map (·.1)) (ps.toList.map fun q => st.ev q.2) d st := rfl
@[simp] theorem aop_assign : aop G call ⟨d, .assign x, t, p, af, g⟩ st = some (.val (st.ev x) st) := rfl
@[simp] theorem aop_move : aop G call ⟨d, .move x, t, p, af, g⟩ st = some (.val (st.ev x) st) := rfl
@[simp] theorem aop_pick : aop G call ⟨d, .pick x y z, t, p, af, g⟩ st = (pickV (st.ev x) (st.ev y) (st.ev z)).map fun v => .val v st := rfl
@[simp] theorem aop_binOp {op} : aop G call ⟨d, .binOp op t' x y t'', t, p, af, g⟩ st = (binO G.P op t' (isConst x) (isConst y) (st.ev x) (st.ev y)).map fun v => .val v st := rfl
@[simp] theorem aop_convert : aop G call ⟨d, .convert t' t'' x, t, p, af, g⟩ st = convertX G t' t'' (st.ev x) d st := rfl
@[simp] theorem aop_slice {lo hi mx : Option Operand} : aop G call ⟨d, .slice t' x lo hi mx, t, p, af, g⟩ st = sliceX G t' (st.ev x) (lo.map st.ev) (hi.map st.ev) (mx.map st.ev) st := rfl
@[simp] theorem aop_append {d : Nat} {t1 t2 : TypeId} : aop G call ⟨some d, .call ⟨.builtin .append, #[x, y], #[t1, t2]⟩, t, p, af, g⟩ st = appendA G d t1 t2 (st.ev x) (st.ev y) st := rfl
@[simp] theorem aop_call {args : Array Operand} {ts} : aop G call ⟨d, .call ⟨.value x, args, ts⟩, t, p, af, g⟩ st = callV G call d (st.ev x) (args.toList.map st.ev) st := rfl

/-! Values that are alike. -/
mutual
def AV.plainB : AV → Bool
  | .fn (.func _) a b => AV.plainBL a && AV.plainBL b
  | .fn _ _ _ => false
  | .list _ es => AV.plainBL es
  | .ep v _ => AV.plainB v
  | .agg cs => AV.plainBL cs
  | .tup cs => AV.plainBL cs
  | .iface _ v => AV.plainB v
  | _ => true
def AV.plainBL : List AV → Bool
  | [] => true
  | v :: l => AV.plainB v && AV.plainBL l
end
mutual
theorem beq_self : ∀ {v : AV}, v.plainB = true → AV.beq v v = true
  | .undef, _ => rfl | .nilp, _ => rfl | .nils, _ => rfl | .nilf, _ => rfl | .nilm, _ => rfl | .nili, _ => rfl
  | .bool _, _ => by simp [AV.beq]
  | .int _ _, _ => by simp [AV.beq]
  | .str _, _ => by simp [AV.beq]
  | .own _, _ => by simp [AV.beq]
  | .row _ _ _, _ => by simp [AV.beq]
  | .ptr _ _ _, _ => by simp [AV.beq]
  | .yld _, _ => by simp [AV.beq]
  | .mp _, _ => by simp [AV.beq]
  | .list _ es, h => by simp only [AV.plainB] at h; simp [AV.beq, beqL_self (l := es) h]
  | .ep v _, h => by simp only [AV.plainB] at h; simp [AV.beq, beq_self (v := v) h]
  | .agg cs, h => by simp only [AV.plainB] at h; simp [AV.beq, beqL_self (l := cs) h]
  | .tup cs, h => by simp only [AV.plainB] at h; simp [AV.beq, beqL_self (l := cs) h]
  | .iface _ v, h => by simp only [AV.plainB] at h; simp [AV.beq, beq_self (v := v) h]
  | .fn g a b, h => by
    cases g with
    | func k => simp only [AV.plainB, Bool.and_eq_true] at h; simp [AV.beq, beqL_self (l := a) h.1, beqL_self (l := b) h.2]
    | _ => simp [AV.plainB] at h
theorem beqL_self : ∀ {l : List AV}, AV.plainBL l = true → AV.beqL l l = true
  | [], _ => rfl
  | v :: l, h => by simp only [AV.plainBL, Bool.and_eq_true] at h; simp [AV.beqL, beq_self h.1, beqL_self h.2]
end
theorem plainBL_map {α : Type} {f : α → AV} (h : ∀ a, (f a).plainB = true) : ∀ l : List α, AV.plainBL (l.map f) = true
  | [] => rfl
  | a :: l => by simp [AV.plainBL, h a, plainBL_map h l]
attribute [simp] AV.beq AV.beqL AV.plainB AV.plainBL
end

/-- A body's end: rows are told as lists. -/
theorem end_rv {G : Cfg} {g : FuncId} {res : List ResultVar} {x : AX} {s : ASt} {vs : List AV} {v : AV} (hx : x = .normal ∨ x = .ret) (hr : resL G s res = some vs) (ho : G.retOwn g = false) (hv : (resOf vs).rv s.hp = v) (hn : v.names = []) : endX G g [] res (some (x, s)) = some (.ret v, []) := by
  subst hv
  have hf : finishA G g [] (resOf vs) s = ((resOf vs).rv s.hp, []) := by
    unfold finishA
    simp only [ho, Bool.false_eq_true, if_false]
    unfold outOf
    simp only [hn, List.append_nil]
    have : ∀ h : Heap, reachL 60 h [] [] = [] := fun _ => rfl
    rw [this, nameless_ren hn]; rfl
  rcases hx with rfl | rfl <;> simp [endX, hr, hf, retA]
/-- A body's end, told. -/
theorem end_is {G : Cfg} {g : FuncId} {res : List ResultVar} {x : AX} {s : ASt} {vs : List AV} {v : AV} (hx : x = .normal ∨ x = .ret) (hr : resL G s res = some vs) (hn : AV.namesL vs = []) (hv : resOf vs = v) : endX G g [] res (some (x, s)) = some (.ret v, []) := by
  subst hv; exact end_pure hx hr hn

/-- A body that defers, step by step. -/
theorem runD_of {G : Cfg} {call : CallFn} {loop : LoopFn} {g : FuncId} {args : List AV} {hp : Heap} {fn : Func} {A rest : Code} {ops : Array Oper} {f : Operand} {s0 s1 s3 s4 : ASt} {ns : List Nat} {x2 : AX} {rv v : AV} {m : List Nat} {vs : List AV} {r : ARes × Heap}
    (hd : G.dfr g = true) (hfn : G.P.funcs[g]? = some fn) (hb : fn.body.bind splitD = some (A, ops, f, rest)) (hA : codeX G call loop g A { sl := zipIx args 0, hp } = some (.normal, s0))
    (hops : aops G call ops (List.range (ops.size - 1)) s0 = some (.normal, s1)) (hns : reachL 60 s1.hp (hp.map (·.1) ++ AV.namesL (s1.sl.map (·.2))) [] = ns)
    (hck : ((ns.all fun n => (aget s1.hp n).isSome) && isFn (s1.ev f) && ((hp.map (·.1)).all fun n => ns[n]? == some n) && (ns.all fun n => !((aget s1.hp n).map AObj.moved).getD false)) = true)
    (hrest : codeX G call loop g rest { sl := s1.sl.map fun p => (p.1, p.2.ren (toMap ns)), hp := renHeap ns s1.hp } = some (x2, s3))
    (hbx : (((s1.ev f).ren (toMap ns)).names.all fun n => isBoxAt s3.hp n) = true) (hrv : recOf x2 = some rv)
    (hclo : callB G (runClosure G rv) (some 40000) ((s1.ev f).ren (toMap ns)) [] s3 = some (.val v s4, m)) (hres : resL G s4 fn.results.toList = some vs) (hr : retA (finishA G g (hp.map (·.1)) (resOf vs) s4) = r) :
    runFn G call loop g args hp = some r := by
  unfold runFn runBodyD
  simp only [hd, if_true, hfn, hb, Option.bind_some, hA, hops, hns, hck, hrest, hbx, Bool.not_true, Bool.false_eq_true, if_false, hrv, hclo, hres, Option.map_some, hr]
end Go.Proofs.YtbjphckpbkacaaaGreatDoor.Abs

