/- Functions that defer one closure, which may recover. -/
import Derived.Test.YtonaejfpiihfhaaAbs25
import Derived.RecoverIn
namespace Go.Proofs.Ytonaejfpiihfhaa.Abs
open Go Go.RowKit
set_option linter.unusedSimpArgs false
set_option linter.unusedVariables false

variable {G : Cfg} {S : Stab} {ρ : Rho} {w : World} {E : Env} {st : ASt} {a : Act}

/-- Operations without calls, in a deferred call's frame. -/
theorem aopsB_ok {ops : Array Oper} {n : Nat} (hd : ops.toList.all (opDst n) = true) {cs : List Frame} {Q : Exit → Act → List Frame → World → Prop} (l : List Nat) :
    ∀ {E : Env} {st : ASt} {S : Stab} {ρ : Rho} {a : Act} {w : World} {r : ASt}, SR E st S ρ a.tmps w → a.tmps.size = n → aopsB G ops l st = some r →
      (∀ a' w' S' ρ', a'.defers = a.defers → a'.tmps.size = n → SR E r S' ρ' a'.tmps w' → Q .normal a' cs w') → wpOpsSIn (FW none) 0 G.P ops Q l a cs w := by
  induction l with
  | nil => intro E st S ρ a w r h hn hr hQ; cases hr; exact hQ a w S ρ rfl hn h
  | cons i l ih =>
    intro E st S ρ a w r h hn hr hQ
    simp only [aopsB] at hr
    rw [Option.bind_eq_some_iff] at hr; obtain ⟨o, ho, hr⟩ := hr
    rw [Option.bind_eq_some_iff] at hr; obtain ⟨g, hg, hr⟩ := hr
    simp only [wpOpsSIn, ho]
    refine ⟨fun _ _ => trivial, ?_⟩
    have hw := guard_ok h hg
    have next : ∀ {u : Value} {w' : World} {S' : Stab} {ρ' : Rho} {v : AV} {s : ASt}, SR E s S' ρ' a.tmps w' → VR S' ρ' w' v u → aopsB G ops l (s.put o.dst v) = some r → wpOpsSIn (FW none) 0 G.P ops Q l (a.put o.dst u) cs w' := by
      intro u w' S' ρ' v s hs hv hr
      exact ih (hs.putA hn (opDst_lt hd ho) hv) ((put_size _ _ _).trans hn) hr fun a' w' S' ρ' h1 h2 h3 => hQ a' w' S' ρ' (h1.trans (put_defers _ _ _)) h2 h3
    cases g with
    | false =>
      rw [hw]
      simp only [Bool.false_eq_true, if_false] at hr ⊢
      exact next h (.tup [] #[] rfl (fun j c v hc => by simp at hc)) hr
    | true =>
      rw [hw]
      simp only [if_true] at hr ⊢
      rw [Option.bind_eq_some_iff] at hr; obtain ⟨x, hx, hr⟩ := hr
      split at hx
      · cases hx
      · have hdone := aopB_ok h o hx
        cases x with
        | pan v s => cases hr
        | val v s =>
          obtain ⟨m, u, w', S', ρ', hrun, hm, hs, hv⟩ := hdone
          rw [hrun]
          rcases hm with rfl | ⟨rfl, rfl⟩
          · exact next hs hv hr
          · exact next hs hv hr

theorem codeB_ok {n : Nat} {cs : List Frame} (c : Code) : ∀ {Q : Exit → Act → List Frame → World → Prop} {E : Env} {st : ASt} {S : Stab} {ρ : Rho} {a : Act} {w : World} {r : ASt}, dstsB n c = true → SR E st S ρ a.tmps w → a.tmps.size = n → codeB G c st = some r →
    (∀ a' w' S' ρ', a'.defers = a.defers → a'.tmps.size = n → SR E r S' ρ' a'.tmps w' → Q .normal a' cs w') → c.wpSIn (FW none) 0 G.P Q a cs w := by
  induction c with
  | skip => intro Q E st S ρ a w r _ h hn hr hQ; cases hr; exact wpSIn_of_wpIn rfl (wpIn_skip (hQ a w S ρ rfl hn h))
  | region id ops draw =>
    intro Q E st S ρ a w r hd h hn hr hQ
    simp only [codeB] at hr
    cases draw with
    | true => simp at hr
    | false => simp only [Bool.false_eq_true, if_false] at hr; exact wpSIn_region (aopsB_ok hd _ h hn hr hQ)
  | seq x y ihx ihy =>
    intro Q E st S ρ a w r hd h hn hr hQ
    simp only [dstsB, Bool.and_eq_true] at hd
    simp only [codeB] at hr
    rw [Option.bind_eq_some_iff] at hr; obtain ⟨s, h1, h2⟩ := hr
    exact wpSIn_seq (ihx hd.1 h hn h1 fun a' w' S' ρ' g1 g2 g3 => ihy hd.2 g3 g2 h2 fun a'' w'' S'' ρ'' k1 k2 k3 => hQ a'' w'' S'' ρ'' (k1.trans g1) k2 k3)
  | cond c x y ihx ihy =>
    intro Q E st S ρ a w r hd h hn hr hQ
    simp only [dstsB, Bool.and_eq_true] at hd
    cases hc : st.ev c with
    | bool t =>
      have hv := h.ev c
      rw [hc] at hv
      simp only [codeB, hc] at hr
      cases t with
      | true => exact wpSIn_cond (vr_bool hv) (ihx hd.1 h hn (by simpa using hr) hQ)
      | false => exact wpSIn_cond (vr_bool hv) (ihy hd.2 h hn (by simpa using hr) hQ)
    | _ => simp [codeB, hc] at hr
  | _ => intro Q E st S ρ a w r _ _ _ hr; cases hr

/-- What recover finds in the frame below. -/
def Finds (u : FrameMode) (uv : Value) : Prop := (u = .returning ∧ uv = .nilIface) ∨ u = .panicking [{ v := uv, recovered := false }]

theorem recover_op {o : Oper} (h : isRecover o.op = true) {P : Program} : (execOp a.eval o).run P w = .ok .recover w := by
  unfold isRecover at h
  split at h
  · rename_i c hc
    split at h
    · rename_i h1 h2
      unfold execOp
      rw [hc]
      simp only [resolve, h1]
      rfl
    · cases h
  · cases h

/-- The closure, entered as a deferred call. -/
theorem runClosure_ok (GE : GSound G)
    {h : FuncId} (hE : G.E h = true) {args : List AV} {hp : Heap} {rv : AV} {r : ARes × Heap} (hr : runClosure G rv h args hp = some r)
    (hl : ∀ n q, ρ n = some q → n < 1000) (H : HR S ρ w hp) (hb : ∀ b o, S b o → b < w.heap.size) {vs : Array Value} (hlen : args.length = vs.size)
    (hargs : ∀ (j : Nat) c v, args[j]? = some c → vs[j]? = some v → VR S ρ w c v) {u : FrameMode} {uv : Value} (hu : Finds u uv) (hrv : VR S ρ w rv uv) :
    CallsDIn (FW none) 0 G.P h vs u w fun e u' w' => settle u' = .returning ∧ (∃ v, e = .returned v) ∧ ∃ S' ρ', Out (envOf S ρ w hl) r.2 S' ρ' w' ∧ AnswerR S' ρ' w' r.1 e := by
  unfold runClosure at hr
  rw [Option.bind_eq_some_iff] at hr; obtain ⟨fn, hfn, hr⟩ := hr
  rw [Option.bind_eq_some_iff] at hr; obtain ⟨c, hc, hr⟩ := hr
  split at hr
  case h_2 => cases hr
  rename_i id ops rest
  rw [Option.bind_eq_some_iff] at hr; obtain ⟨o, ho, hr⟩ := hr
  split at hr
  case isFalse => cases hr
  rename_i hck
  simp only [Bool.and_eq_true] at hck
  obtain ⟨⟨hrec, hguard⟩, hres⟩ := hck
  rw [Option.bind_eq_some_iff] at hr; obtain ⟨s1, hs1, hr⟩ := hr
  obtain ⟨s2, hx, rfl⟩ := Option.map_eq_some_iff.1 hr
  have hbeg := begin_ok (k := fn.ntmps - vs.size) hl H hb hlen hargs
  have hge : fn.ntmps ≤ (vs ++ Array.replicate (fn.ntmps - vs.size) Go.undef).size := by simp; omega
  generalize htm : vs ++ Array.replicate (fn.ntmps - vs.size) Go.undef = tm at *
  have hd := dstsB_mono hge _ (GE.ok.dsts h fn _ hE hfn hc)
  simp only [dstsB, Bool.and_eq_true] at hd
  have hsz : ∃ k, ops.size = k + 1 := by
    have := (Array.getElem?_eq_some_iff.1 ho).1
    exact ⟨ops.size - 1, by omega⟩
  obtain ⟨k, hk⟩ := hsz
  refine callsDIn_of_wpSIn hfn hc trivial fun c₀ cs hc0 => ?_
  rw [htm]
  -- what the stack is behind recover
  obtain ⟨u', cs', hcs', hset, hstep⟩ : ∃ u' cs', cs' = { c₀ with mode := u' } :: cs ∧ settle u' = .returning ∧
      (recoverD (c₀ :: cs) = some (uv, cs') ∨ (recoverD (c₀ :: cs) = none ∧ uv = .nilIface ∧ cs' = c₀ :: cs)) := by
    rcases hu with ⟨e1, e2⟩ | e1
    · refine ⟨.returning, c₀ :: cs, ?_, rfl, .inr ⟨?_, e2, rfl⟩⟩
      · have : c₀ = { c₀ with mode := .returning } := by rw [← e1, ← hc0]
        rw [← this]
      · simp [recoverD, hc0, e1]
    · refine ⟨.panicking [{ v := uv, recovered := true }], _, rfl, rfl, .inl ?_⟩
      simp [recoverD, hc0, e1]
  refine wpSIn_seq (wpSIn_region ?_)
  have hrange : List.range ops.size = 0 :: List.range' 1 (ops.size - 1) := by
    rw [hk, List.range_eq_range', List.range'_succ]; simp
  rw [hrange]
  simp only [wpOpsSIn, ho]
  refine ⟨fun _ _ => trivial, ?_⟩
  have hw : Region.wanted o (yielded ops tm) = true := by
    unfold Region.wanted
    cases hg : o.guard with
    | none => rfl
    | some p => rw [hg] at hguard; cases hguard
  rw [hw]
  simp only [if_true]
  rw [recover_op hrec]
  simp only
  have hput : SR (envOf S ρ w hl) (({ sl := zipIx args 0, hp } : ASt).put o.dst rv) S ρ (({ tmps := tm, defers := [] } : Act).put o.dst uv).tmps w :=
    SR.putA (a := { tmps := tm, defers := [] }) hbeg rfl (opDst_lt hd.1 ho) hrv
  have goal : wpOpsSIn (FW none) 0 G.P ops (Exit.thenS (rest.wpSIn (FW none) 0 G.P (bodyPostS G.P fn c₀ cs fun e u' w' => settle u' = .returning ∧ (∃ v, e = .returned v) ∧ ∃ S' ρ', Out (envOf S ρ w hl) (retA (outOf (hp.map (·.1)) s2.hp (.tup []))).2 S' ρ' w' ∧ AnswerR S' ρ' w' (retA (outOf (hp.map (·.1)) s2.hp (.tup []))).1 e)) (bodyPostS G.P fn c₀ cs fun e u' w' => settle u' = .returning ∧ (∃ v, e = .returned v) ∧ ∃ S' ρ', Out (envOf S ρ w hl) (retA (outOf (hp.map (·.1)) s2.hp (.tup []))).2 S' ρ' w' ∧ AnswerR S' ρ' w' (retA (outOf (hp.map (·.1)) s2.hp (.tup []))).1 e))
      (List.range' 1 (ops.size - 1)) (({ tmps := tm, defers := [] } : Act).put o.dst uv) cs' w := by
    refine aopsB_ok (n := tm.size) hd.1 _ hput (put_size _ _ _) hs1 fun a1 w1 S1 ρ1 g1 g2 g3 => ?_
    show rest.wpSIn (FW none) 0 G.P _ a1 cs' w1
    have g1' : a1.defers = [] := g1.trans (put_defers _ _ _)
    refine codeB_ok rest hd.2 g3 g2 hx fun a2 w2 S2 ρ2 m1 m2 m3 => ?_
    have hresults : (results fn a2.tmps).run G.P w2 = .ok (.tuple #[]) w2 := by
      have : fn.results = #[] := by simpa using hres
      simp [results, this]
    obtain ⟨ρ3, o1, o2⟩ := out_ok (m := hp.map (·.1)) (v := .tup []) (u := .tuple #[]) m3.heap m3.mine m3.old m3.fr (.tup [] #[] rfl fun j c v hc => by simp at hc)
    exact ⟨m1.trans g1', u', hcs', .tuple #[], hresults, hset, ⟨_, rfl⟩, S2, ρ3, o1, o2⟩
  rcases hstep with e | ⟨e1, e2, e3⟩
  · rw [e]; exact goal
  · rw [e1]; subst e2; rw [← e3]; exact goal

/-- A function value that is called, in whatever way. -/
theorem callF_ok {tm : Array Value} (h : SR E st S ρ tm w) {cf : CallFn} {Cc : Array Value → (Ending → World → Prop) → Prop} (hmono : ∀ vs R R', Cc vs R → (∀ e w, R e w → R' e w) → Cc vs R') {g : FuncId} {first caps : List AV}
    (hfn : ∀ (S' : Stab) (ρ' : Rho) args hp r (vs : Array Value) (hl : ∀ n q, ρ' n = some q → n < 1000), (∀ b o, S b o → S' b o) → cf g args hp = some r → HR S' ρ' w hp → (∀ b o, S' b o → b < w.heap.size) → args.length = vs.size →
      (∀ (j : Nat) c v, args[j]? = some c → vs[j]? = some v → VR S' ρ' w c v) → Cc vs fun e w' => ∃ S'' ρ'', Out (envOf S' ρ' w hl) r.2 S'' ρ'' w' ∧ AnswerR S'' ρ'' w' r.1 e)
    {d : Option Nat} {uf : Value} (hf : VR S ρ w (.fn (.func g) first caps) uf) {r : AR × List Nat} (hr : callB G cf d (.fn (.func g) first caps) [] st = some r) :
    ∃ vx vy, G.E g = true ∧ uf = .func (.func g) vx vy ∧ Cc (vx ++ vy) (CallDone E tm ρ r.2 r.1) := by
  unfold callB at hr
  dsimp only at hr
  split at hr
  case isFalse => cases hr
  rename_i hc
  simp only [Bool.and_eq_true, List.all_eq_true, decide_eq_true_eq] at hc
  obtain ⟨⟨hE, hRB⟩, hns⟩ := hc
  obtain ⟨vx, vy, e, hx, hy, hvx, hvy⟩ := vr_fn hf
  refine ⟨vx, vy, hE, e, ?_⟩
  rw [List.append_nil] at *
  generalize hall : first ++ caps = all at *
  have hal : all.length = (vx ++ vy).size := by rw [← hall]; simp; omega
  have hav : ∀ (j : Nat) c v, all[j]? = some c → (vx ++ vy)[j]? = some v → VR S ρ w c v := by
    intro j c v hcj hvj
    rw [← hall] at hcj
    rcases Nat.lt_or_ge j first.length with h1 | h1
    · rw [List.getElem?_append_left h1] at hcj
      rw [Array.getElem?_append_left (by omega)] at hvj
      exact hvx j c v hcj hvj
    · rw [List.getElem?_append_right h1] at hcj
      rw [Array.getElem?_append_right (by omega), ← hx] at hvj
      exact hvy _ c v hcj hvj
  obtain ⟨S1, k1, k2, k3, k4⟩ := h.fix (prepRows G g all 0)
  generalize hst1 : st.fix (prepRows G g all 0) = st1 at *
  generalize hpre : prepL G g st.hp all 0 = pre at *
  generalize hnsd : reachL 40 st1.hp (AV.namesL pre) [] = ns at *
  have hnd : ns.Nodup := by rw [← hnsd]; exact reachL_nodup _ _ _ _ List.nodup_nil
  have hlen : ns.length ≤ 40 := by rw [← hnsd]; simpa using reachL_length st1.hp 40 (AV.namesL pre) []
  have hprev : ∀ (j : Nat) c v, pre[j]? = some c → (vx ++ vy)[j]? = some v → VR S1 ρ w c v := by
    intro j c v hcj hvj
    rw [← hpre, prepL_get] at hcj
    obtain ⟨x, hx, rfl⟩ := Option.map_eq_some_iff.1 hcj
    rw [Nat.zero_add]
    split
    · exact (hav j x v hx hvj).ext (Ext.more k1 w) fun _ _ h => h
    · rename_i hi
      refine rv_fixed h k1 (hst1 ▸ k2) k3 (hst1 ▸ k4) (hav j x v hx hvj) fun n hn => prepRows_mem G g all 0 j x n hx (by rw [Nat.zero_add]; simpa using hi) hn
  rw [Option.bind_eq_some_iff] at hr
  obtain ⟨⟨res, hp1⟩, hy1, hr⟩ := hr
  obtain ⟨st3, hst3, rfl⟩ := Option.map_eq_some_iff.1 hr
  refine hmono _ _ _ (hfn S1 (subRho ns ρ) _ _ _ (vx ++ vy) (subRho_low hlen) k1 hy1 (k2.heap.sub hnd) k2.fr.bnd (by rw [renL_length, ← hpre, prepL_length]; exact hal) fun j c v hcj hvj => ?_) fun e w' hh => back_ok k2 hnd hlen hns hst3 hh
  rw [renL_get] at hcj
  obtain ⟨x, hx, rfl⟩ := Option.map_eq_some_iff.1 hcj
  exact (hprev j x v hx hvj).sub

/-! ### The whole state under other names -/
theorem aget_renHeap (ns : List Nat) (hp : Heap) (k : Nat) : aget (renHeap ns hp) k = (ns[k]?).bind fun n => (aget hp n).map (AObj.ren (toMap ns)) := by
  have := aget_subHeap' (fun n => (aget hp n).map (AObj.ren (toMap ns))) ns 0 k
  rw [Nat.zero_add] at this
  rw [← this]
  unfold renHeap
  congr 2
  funext p
  cases aget hp p.2 <;> rfl

def envR (E : Env) (S : Stab) (ρ : Rho) (w : World) (hl : ∀ n q, ρ n = some q → n < 1000) : Env := ⟨w, S, fun b => E.F b ∨ E.W0.heap.size ≤ b, ρ, hl⟩

theorem SR.rename {tm : Array Value} (h : SR E st S ρ tm w) {ns : List Nat} (hnd : ns.Nodup) (hl : ∀ n q, subRho ns ρ n = some q → n < 1000) :
    SR (envR E S (subRho ns ρ) w hl) { sl := st.sl.map fun p => (p.1, p.2.ren (toMap ns)), hp := renHeap ns st.hp } S (subRho ns ρ) tm w := by
  refine ⟨fun t => ?_, ⟨fun k o ho => ?_, fun k hk => ?_, fun k k' b sz sz' j j' h1 h2 => ?_⟩, fun n b sz k hn => ?_, fun n o _ _ r hr => hr, ⟨Ext.refl S w, fun _ _ h => .inl h, h.fr.bnd, Nat.le_refl _, fun _ _ _ => rfl, fun _ h => h, rfl, rfl, rfl⟩⟩
  · show VR S (subRho ns ρ) w ((aget (st.sl.map fun p => (p.1, p.2.ren (toMap ns))) t).getD .undef) _
    rw [aget_map]
    have := h.slot t
    unfold ASt.slot at this
    cases hs : aget st.sl t with
    | none => exact .undef _
    | some v => rw [hs] at this; exact this.sub
  · rw [aget_renHeap, Option.bind_eq_some_iff] at ho
    obtain ⟨n, hn, ho⟩ := ho
    obtain ⟨o', ho', rfl⟩ := Option.map_eq_some_iff.1 ho
    refine (h.heap.obj n o' ho').ren (fun m j r hm hr => ?_) (fun r hr => ?_)
    · have := toMap_some hm; simp [subRho, this, hr]
    · simp [subRho, hn, hr]
  · rw [aget_renHeap] at hk
    unfold subRho
    cases hn : ns[k]? with
    | none => rfl
    | some n =>
      simp only [hn, Option.bind_some, Option.map_eq_none_iff] at hk
      exact h.heap.dom n hk
  · exact (h.heap.sub hnd).inj k k' b sz sz' j j' h1 h2
  · simp only [subRho] at hn
    rw [Option.bind_eq_some_iff] at hn
    obtain ⟨m, hm, hr⟩ := hn
    exact .inl (h.mine m b sz k hr)

theorem SR.unname {tm : Array Value} (h : SR E st S ρ tm w) {ns : List Nat} {hl : ∀ n q, subRho ns ρ n = some q → n < 1000} (hin : ∀ n r, E.R0 n = some r → ns[n]? = some n ∧ ∃ o, aget st.hp n = some o ∧ o.moved = false)
    {st' : ASt} {S' : Stab} {ρ' : Rho} {tm' : Array Value} {w' : World} (h' : SR (envR E S (subRho ns ρ) w hl) st' S' ρ' tm' w') : SR E st' S' ρ' tm' w' := by
  have f := h'.fr
  have h0 := h.fr
  refine ⟨h'.slot, h'.heap, fun n b sz k hn => ?_, fun n o ho hm r hr => ?_, ⟨h0.ext.trans f.ext, fun b o hS => ?_, f.bnd, Nat.le_trans h0.size f.size, fun b hb hnF => ?_, fun b hb => f.dfr b (h0.dfr b hb), f.os.trans h0.os, f.tape.trans h0.tape, f.output.trans h0.output⟩⟩
  · rcases h'.mine n b sz k hn with hx | hx
    · exact hx
    · exact .inr (Nat.le_trans h0.size hx)
  · obtain ⟨g1, o0, g2, g3⟩ := hin n r hr
    exact h'.old n o ho hm r (by show subRho ns ρ n = some r; simp [subRho, g1, h.old n o0 g2 g3 r hr])
  · rcases f.new b o hS with hx | hx | hx
    · exact h0.new b o hx
    · exact .inr hx
    · exact .inr (.inr (Nat.le_trans h0.size hx))
  · refine (f.keep b (Nat.lt_of_lt_of_le hb h0.size) fun hx => ?_).trans (h0.keep b hb hnF)
    rcases hx with hx | hx
    · exact hnF hx
    · omega

end Go.Proofs.Ytonaejfpiihfhaa.Abs
