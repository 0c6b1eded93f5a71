/- Code: what it comes to, the machine's comes to. -/
import Derived.Test.YtonaejfpiihfhaaAbs20
import Derived.OrdersIn
import Derived.RangeFuncIn
import Derived.RangeFuncLeaves
import Derived.RangeFuncRecord
namespace Go.Proofs.Ytonaejfpiihfhaa.Abs
open Go Go.RowKit
set_option linter.unusedSimpArgs false
set_option linter.unusedVariables false

variable {G : Cfg} {S : Stab} {ρ : Rho} {w : World} {E : Env} {st : ASt} {a : Act}

/-- The fence that lets all in, in a round, or in none. -/
def FW (ro : Option Nat) : Fence := { Fence.wide with round := ro }
theorem calls_fw {ro : Option Nat} {n : Nat} {P : Program} {f : FuncId} {args : Array Value} {w : World} {R : Ending → World → Prop} (h : Calls P f args w R) : CallsIn (FW ro) n P f args w R :=
  (callsIn_wide (n := n)).2 h

theorem round_fw {ro : Option Nat} {n : Nat} {P : Program} {l : Nat} {f : FuncId} {tmps : Array Value} {asg body : Code} {w : World} {R : Ending → World → Prop} (h : RoundIn Fence.wide n P l f tmps asg body w R) : RoundIn (FW ro) n P l f tmps asg body w R := h

def opDst (n : Nat) (o : Oper) : Bool :=
  match o.dst with
  | some d => decide (d < n)
  | none => true
/-- Each operation's place is one of n. -/
def dstsB (n : Nat) : Code → Bool
  | .region _ ops _ => ops.toList.all (opDst n)
  | .seq a b => dstsB n a && dstsB n b
  | .cond _ a b => dstsB n a && dstsB n b
  | .block _ b => dstsB n b
  | .scope b => dstsB n b
  | .loop b => dstsB n b
  | .rangeFunc _ _ a b => dstsB n a && dstsB n b
  | _ => true

/-- What is asked of the functions that are called. -/
structure GOK (G : Cfg) : Prop where
  enter : ∀ g, G.E g = true → ∀ args w, (callFunc g args).run G.P w = .ok (.enter g args) w
  ext : ∀ g p, G.ext g = some p → ∀ args v, p args = some v → ∀ (S : Stab) (ρ : Rho) (w : World) (vs : Array Value), args.length = vs.size → (∀ (j : Nat) c u, args[j]? = some c → vs[j]? = some u → VR S ρ w c u) →
    ∃ u, (callFunc g vs).run G.P w = .ok (.value u) w ∧ VR S ρ w v u
  dsts : ∀ g fn c, G.E g = true → G.P.funcs[g]? = some fn → fn.body = some c → dstsB fn.ntmps c = true

def ExitR (S : Stab) (ρ : Rho) (w : World) : AX → Exit → Prop
  | .normal, .normal => True
  | .exit i, .exit j => i = j
  | .ret, .ret => True
  | .pan v, .panic ch => ∃ u, ch = [{ v := u, recovered := false }] ∧ VR S ρ w v u
  | _, _ => False

def CodeDone (E : Env) (df : List Deferred) (n : Nat) (r : AX × ASt) (e : Exit) (a : Act) (w : World) : Prop :=
  a.defers = df ∧ a.tmps.size = n ∧ ∃ S ρ, SR E r.2 S ρ a.tmps w ∧ ExitR S ρ w r.1 e

theorem put_defers (a : Act) (d : Option Tmp) (v : Value) : (a.put d v).defers = a.defers := by cases d <;> rfl
theorem put_size (a : Act) (d : Option Tmp) (v : Value) : (a.put d v).tmps.size = a.tmps.size := by cases d <;> simp [Act.put]
theorem SR.putA (h : SR E st S ρ a.tmps w) {d : Option Nat} {n : Nat} (hn : a.tmps.size = n) (hd : ∀ t, d = some t → t < n) {v : AV} {u : Value} (hv : VR S ρ w v u) : SR E (st.put d v) S ρ (a.put d u).tmps w := by
  have := h.put d (fun t ht => hn ▸ hd t ht) hv
  cases d with
  | none => exact this
  | some t => exact this

theorem guard_ok (h : SR E st S ρ a.tmps w) {ops : Array Oper} {o : Oper} {g : Bool} (hg : guardA ops st o = some g) : Region.wanted o (yielded ops a.tmps) = g := by
  unfold guardA at hg
  unfold Region.wanted
  split at hg
  · rename_i he; rw [he]; cases hg; rfl
  · rename_i j want he
    rw [he]
    simp only
    split at hg
    · rename_i d hd
      have hs := h.slot d
      unfold yielded
      rw [hd]
      simp only [Option.bind_some]
      split at hg
      · rename_i b hb
        cases hg
        rw [hb] at hs
        have := vr_bool hs
        have hget : a.tmps[d]? = some (.bool b) := by
          rw [Array.getD_eq_getD_getElem?] at this
          cases ht : a.tmps[d]? with
          | none => rw [ht] at this; simp [Go.undef] at this
          | some x => rw [ht] at this; simpa using this
        rw [hget]; simp
      · rename_i hb
        cases hg
        rw [hb] at hs
        obtain ⟨vs, e, _⟩ := vr_tup hs
        have : ∀ b, a.tmps[d]? ≠ some (.bool b) := by
          intro b hb'
          rw [Array.getD_eq_getD_getElem?, hb'] at e; cases e
        cases ht : a.tmps[d]? with
        | none => simp
        | some x => cases x <;> simp; exact absurd ht (this _)
      · cases hg
    · cases hg

theorem semAt_ok {o : Oper} {ro : Option Nat} {ρ : Operand → Value} (h : ∀ c, o.op ≠ .defer c) : o.semAt ro ρ = execOp ρ o := Oper.semAt_eq ro ρ o h

theorem called_op {op : Op} {f : Operand} {l : List Operand} (h : calledA op = some (f, l)) : ∃ c, op = .call c ∧ c.callee = .value f ∧ c.args.toList = l := by
  unfold calledA at h
  split at h
  · rename_i c
    split at h
    · rename_i f' hf; cases h; exact ⟨c, rfl, hf, rfl⟩
    · cases h
  · cases h

theorem run_call {P : Program} {o : Oper} {c : Call} {f : Operand} {g : FuncId} {vx vy : Array Value} (ho : o.op = .call c) (hc : c.callee = .value f) (hf : a.eval f = .func (.func g) vx vy)
    (he : ∀ args w, (callFunc g args).run P w = .ok (.enter g args) w) : (execOp a.eval o).run P w = .ok (.enter g (vx ++ c.args.map a.eval ++ vy)) w := by
  unfold execOp
  rw [ho]
  simp only [resolve, hc, hf, Deferred.ofValue]
  show Sem.run P (invoke (.fn (.func g) vy) (vx ++ c.args.map a.eval)) w = _
  exact he _ _

theorem run_yielded {P : Program} {o : Oper} {c : Call} {f : Operand} {b : Nat} {R : Loop} (ho : o.op = .call c) (hc : c.callee = .value f) (hf : a.eval f = .func (.yield b) #[] #[]) (hb : w.heap[b]? = some (.loop R)) (hs : (c.args.map a.eval).size = R.params.size) :
    (execOp a.eval o).run P w = .ok (.round b R.fn ((R.params.zip (c.args.map a.eval)).foldl (fun tmps (t, a) => tmps.setIfInBounds t a) R.tmps) R.assign R.body) w := by
  unfold execOp
  rw [ho]
  simp only [resolve, hc, hf, Deferred.ofValue]
  show Sem.run P (invoke (.fn (.yield b) #[]) (#[] ++ c.args.map a.eval)) w = _
  rw [Array.empty_append]
  exact run_yield hb hs

theorem vr_two {S : Stab} {ρ : Rho} {w : World} {x y : List AV} {vx vy : Array Value} (hx : x.length = vx.size) (h1 : ∀ (j : Nat) c v, x[j]? = some c → vx[j]? = some v → VR S ρ w c v) (h2 : ∀ (j : Nat) c v, y[j]? = some c → vy[j]? = some v → VR S ρ w c v) :
    ∀ (j : Nat) c v, (x ++ y)[j]? = some c → (vx ++ vy)[j]? = some v → VR S ρ w c v := by
  intro j c v hcj hvj
  rcases Nat.lt_or_ge j x.length with h | h
  · rw [List.getElem?_append_left h] at hcj
    rw [Array.getElem?_append_left (by omega)] at hvj
    exact h1 j c v hcj hvj
  · rw [List.getElem?_append_right h] at hcj
    rw [Array.getElem?_append_right (by omega), ← hx] at hvj
    exact h2 _ c v hcj hvj
theorem vr_three {S : Stab} {ρ : Rho} {w : World} {x y z : List AV} {vx vy vz : Array Value} (hx : x.length = vx.size) (hy : y.length = vy.size) (hz : z.length = vz.size) (h1 : ∀ (j : Nat) c v, x[j]? = some c → vx[j]? = some v → VR S ρ w c v) (h2 : ∀ (j : Nat) c v, y[j]? = some c → vy[j]? = some v → VR S ρ w c v)
    (h3 : ∀ (j : Nat) c v, z[j]? = some c → vz[j]? = some v → VR S ρ w c v) : ∀ (j : Nat) c v, (x ++ y ++ z)[j]? = some c → (vx ++ vy ++ vz)[j]? = some v → VR S ρ w c v :=
  vr_two (by simp [hx, hy]) (vr_two hx h1 h2) h3

/-- One operation. -/
theorem op_ok (GE : GOK G) {call : CallFn} (hcall : CallOK G call) {ops : Array Oper} {ro : Option Nat} {i : Nat} {o : Oper} (ho : ops[i]? = some o)
    {Q : Exit → Act → World → Prop} {K : Act → World → Prop} (h : SR E st S ρ a.tmps w) {x : AR} (hx : stepE G call ops st o = some x)
    (hval : ∀ v s, x = .val v s → ∀ u w' S' ρ', SR E s S' ρ' a.tmps w' → VR S' ρ' w' v u → K (a.put o.dst u) w')
    (hpan : ∀ v s, x = .pan v s → ∀ u w' S' ρ', SR E s S' ρ' a.tmps w' → VR S' ρ' w' v u → Q (.panic [{ v := u, recovered := false }]) a w') : wpOpIn (FW ro) 0 G.P ops Q i K a w := by
  unfold wpOpIn
  simp only [ho]
  unfold stepE at hx
  rw [Option.bind_eq_some_iff] at hx
  obtain ⟨g, hg, hx⟩ := hx
  have hw := guard_ok h hg
  cases g with
  | false =>
    rw [hw]
    simp only [Bool.false_eq_true, if_false, Option.some.injEq] at hx ⊢
    subst hx
    exact ⟨fun _ _ => trivial, hval _ _ rfl _ _ S ρ h (.tup [] #[] rfl (fun j c v hc => by simp at hc))⟩
  | true =>
    rw [hw]
    simp only [if_true] at hx ⊢
    refine ⟨fun _ _ => trivial, ?_⟩
    unfold aop at hx
    split at hx
    · rename_i f args hcal
      obtain ⟨c, hop, hcc, hca⟩ := called_op hcal
      have hl : (args.map st.ev).length = (c.args.map a.eval).size := by rw [← hca]; simp
      have hargsV : ∀ (j : Nat) cc v, (args.map st.ev)[j]? = some cc → (c.args.map a.eval)[j]? = some v → VR S ρ w cc v := fun j cc v hcj hvj => by
        rw [List.getElem?_map] at hcj
        obtain ⟨p, hp, rfl⟩ := Option.map_eq_some_iff.1 hcj
        rw [← hca, Array.getElem?_toList] at hp
        rw [Array.getElem?_map, hp] at hvj
        cases hvj
        exact h.ev p
      split at hx
      · rename_i v hext
        cases hx
        unfold extA at hext
        split at hext
        case h_2 => cases hext
        rename_i g first caps hfv
        rw [Option.bind_eq_some_iff] at hext; obtain ⟨p, hp, hext⟩ := hext
        have hf := h.ev f
        rw [hfv] at hf
        obtain ⟨vx, vy, hfe, hx1, hx2, hvx, hvy⟩ := vr_fn hf
        obtain ⟨u, hrun, hv⟩ := GE.ext g p hp _ v hext S ρ w (vx ++ c.args.map a.eval ++ vy) (by simp at hl ⊢; omega) (vr_three hx1 hl hx2 hvx hargsV hvy)
        have hnd : ∀ c', o.op ≠ .defer c' := fun c' e => by rw [hop] at e; cases e
        have hrun' : (execOp a.eval o).run G.P w = .ok (.value u) w := by
          unfold execOp
          rw [hop]
          simp only [resolve, hcc, hfe, Deferred.ofValue]
          exact hrun
        rw [semAt_ok hnd, hrun', Oper.uponIn_value]
        exact hval v st rfl u w S ρ h hv
      unfold callA at hx
      obtain ⟨⟨x', mvd⟩, hB, e⟩ := Option.map_eq_some_iff.1 hx
      simp only at e
      subst e
      have hnd : ∀ c', o.op ≠ .defer c' := fun c' e => by rw [hop] at e; cases e
      have done : ∀ e w', CallDone E a.tmps ρ mvd x' e w' → (match e with
          | .returned v => K (a.put o.dst v) w'
          | .panicked chain => Q (.panic chain) a w'
          | .outgrown => LetsOut Q) := by
        intro e w' hcd
        cases x' with
        | val v s =>
          obtain ⟨u, S', ρ', rfl, hs, hv, _⟩ := hcd
          exact hval v s rfl u w' S' ρ' hs hv
        | pan v s =>
          obtain ⟨u, S', ρ', rfl, hs, hv⟩ := hcd
          exact hpan v s rfl u w' S' ρ' hs hv
      rcases callB_ok h hcall (h.ev f) hl (fun j cc v hcj hvj => by
        rw [List.getElem?_map] at hcj
        obtain ⟨p, hp, rfl⟩ := Option.map_eq_some_iff.1 hcj
        rw [← hca, Array.getElem?_toList] at hp
        rw [Array.getElem?_map, hp] at hvj
        cases hvj
        exact h.ev p) hB with ⟨g, vx, vy, hE, hf, hcalls⟩ | ⟨b, R, hf, hb, hsz, hround⟩
      · rw [semAt_ok hnd, run_call hop hcc hf (GE.enter g hE), Oper.uponIn_enter]
        refine ⟨fun hdp => by simp [FW, Fence.wide] at hdp, calls_fw (hcalls.mono fun e w' hcd => ?_)⟩
        have := done e w' hcd
        cases e <;> exact this
      · rw [semAt_ok hnd, run_yielded hop hcc hf hb hsz, Oper.uponIn_round]
        refine ⟨fun hdp => by simp [FW, Fence.wide] at hdp, round_fw (hround.mono fun e w' hcd => ?_)⟩
        have := done e w' hcd
        cases e <;> exact this
    · have hnd : ∀ c, o.op ≠ .defer c := by
        intro c e
        unfold aopB at hx
        rw [e] at hx
        simp [opv] at hx
      have hdone := aopB_ok h o hx
      rw [semAt_ok hnd]
      cases x with
      | val v s =>
        obtain ⟨m, u, w', S', ρ', hrun, hm, hs, hv⟩ := hdone
        rw [hrun]
        rcases hm with rfl | ⟨rfl, rfl⟩
        · rw [Oper.uponIn_value]; exact hval v s rfl u w' S' ρ' hs hv
        · rw [Oper.uponIn_skip]; exact hval v s rfl _ w' S' ρ' hs hv
      | pan v s =>
        obtain ⟨u, w', S', ρ', hrun, hs, hv⟩ := hdone
        rw [hrun, Oper.uponIn_panic]
        exact hpan v s rfl u w' S' ρ' hs hv

theorem opDst_lt {ops : Array Oper} {n : Nat} (hd : ops.toList.all (opDst n) = true) {i : Nat} {o : Oper} (ho : ops[i]? = some o) : ∀ t, o.dst = some t → t < n := by
  intro t ht
  have hm : o ∈ ops.toList := by
    rw [← Array.getElem?_toList] at ho
    exact List.mem_of_getElem? ho
  have := List.all_eq_true.1 hd o hm
  simpa [opDst, ht] using this

theorem aops_ok (GE : GOK G) {call : CallFn} (hcall : CallOK G call) {ops : Array Oper} {n : Nat} (hd : ops.toList.all (opDst n) = true) {ro : Option Nat} (l : List Nat) :
    ∀ {E : Env} {st : ASt} {S : Stab} {ρ : Rho} {a : Act} {w : World} {r : AX × ASt}, SR E st S ρ a.tmps w → a.tmps.size = n → aops G call ops l st = some r → wpOpsIn (FW ro) 0 G.P ops (CodeDone E a.defers n r) l a w := by
  induction l with
  | nil => intro E st S ρ a w r h hn hr; cases hr; exact ⟨rfl, hn, S, ρ, h, trivial⟩
  | cons i l ih =>
    intro E st S ρ a w r h hn hr
    simp only [aops] at hr
    cases ho : ops[i]? with
    | none => simp only [ho] at hr; simp only [wpOpsIn, ho]; exact ih h hn hr
    | some o =>
      simp only [ho] at hr
      rw [wpOpsIn_cons]
      have hstep : ∃ x, stepE G call ops st o = some x ∧ (match x with | .val v s => aops G call ops l (s.put o.dst v) | .pan v s => some (.pan v, s)) = some r := by
        rw [Option.bind_eq_some_iff] at hr
        obtain ⟨g, hg, hr⟩ := hr
        unfold stepE
        rw [hg]
        cases g with
        | false => exact ⟨_, rfl, by simpa using hr⟩
        | true =>
          simp only [if_true] at hr
          rw [Option.bind_eq_some_iff] at hr
          obtain ⟨x, hx, hr⟩ := hr
          exact ⟨x, by simpa using hx, by cases x <;> exact hr⟩
      obtain ⟨x, hx, hr⟩ := hstep
      refine op_ok GE hcall ho h hx (fun v s e u w' S' ρ' hs hv => ?_) (fun v s e u w' S' ρ' hs hv => ?_)
      · subst e
        have := ih (hs.putA hn (opDst_lt hd ho) hv) ((put_size _ _ _).trans hn) hr
        rwa [put_defers] at this
      · subst e
        cases hr
        exact ⟨rfl, hn, S', ρ', hs, u, rfl, hv⟩

end Go.Proofs.Ytonaejfpiihfhaa.Abs
