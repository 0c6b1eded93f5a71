/- Bodies, calls and loops: WHAT THE INTERPRETER TELLS IS SO. -/
import Derived.Test.YtonaejfpiihfhaaAbs23
namespace Go.Proofs.Ytonaejfpiihfhaa.Abs
open Go Go.RowKit
set_option linter.unusedSimpArgs false
set_option linter.unusedVariables false

variable {G : Cfg} {S : Stab} {ρ : Rho} {w : World} {E : Env} {st : ASt} {a : Act}

theorem dstsB_mono {n m : Nat} (hnm : n ≤ m) (c : Code) : dstsB n c = true → dstsB m c = true := by
  induction c with
  | region id ops draw =>
    intro h
    simp only [dstsB, List.all_eq_true] at h ⊢
    intro o ho
    have := h o ho
    unfold opDst at this ⊢
    cases hd : o.dst with
    | none => rfl
    | some d => simp only [hd, decide_eq_true_eq] at this ⊢; exact Nat.lt_of_lt_of_le this hnm
  | seq a b iha ihb => intro h; simp only [dstsB, Bool.and_eq_true] at h ⊢; exact ⟨iha h.1, ihb h.2⟩
  | cond c a b iha ihb => intro h; simp only [dstsB, Bool.and_eq_true] at h ⊢; exact ⟨iha h.1, ihb h.2⟩
  | block id b ih => exact ih
  | scope b ih => exact ih
  | loop b ih => exact ih
  | rangeFunc g ps a b iha ihb => intro h; simp only [dstsB, Bool.and_eq_true] at h ⊢; exact ⟨iha h.1, ihb h.2⟩
  | _ => intro _; rfl

/-! ### Results -/
def resSem (tmps : Array Value) : ResultVar → Sem Value
  | .tmp t => pure (tmps.getD t Go.undef)
  | .cell a t => do loadVar t (← asAddr (tmps.getD a Go.undef))

theorem resv_ok (h : SR E st S ρ a.tmps w) {r : ResultVar} {v : AV} (hr : resv G st r = some v) : ∃ u, (resSem a.tmps r).run G.P w = .ok u w ∧ VR S ρ w v u := by
  cases r with
  | tmp t => cases hr; exact ⟨_, rfl, h.slot t⟩
  | cell p t =>
    simp only [resv] at hr
    have hp := h.slot p
    split at hr
    · rename_i id i o he
      rw [he] at hp
      obtain ⟨b, sz, n, hρ, ev⟩ := vr_ptr hp
      rw [Option.bind_eq_some_iff] at hr
      obtain ⟨ob, hob, hr⟩ := hr
      rw [Option.bind_eq_some_iff] at hr
      obtain ⟨cs, hcs, hr⟩ := hr
      obtain ⟨f, hf⟩ := ptr_cells h.heap hob hcs hρ
      obtain ⟨d, h1, h2, h3⟩ := partT_some hr
      obtain ⟨u, hu, hv⟩ := load_ok (P := G.P) f h1 h2 hf h3
      refine ⟨u, ?_, hv⟩
      show Sem.run G.P (asAddr (a.tmps.getD p Go.undef) >>= fun x => loadVar t x) w = _
      rw [ev, runB (a := at0 b (i * sz + o)) (by rfl)]
      exact hu
    · rename_i x o he
      rw [he] at hp
      obtain ⟨b, base, ev, ho, f, hf⟩ := vr_ep hp
      obtain ⟨d, h1, h2, h3⟩ := partT_some hr
      obtain ⟨u, hu, hv⟩ := load_ok (P := G.P) (S := S) (ρ := ρ) f h1 h2 (fun j c hj => ⟨(hf j c hj).2.1, .pure (hf j c hj).2.2⟩) h3
      refine ⟨u, ?_, hv⟩
      show Sem.run G.P (asAddr (a.tmps.getD p Go.undef) >>= fun x => loadVar t x) w = _
      rw [ev, runB (a := at0 b (base + o)) (by rfl)]
      exact hu
    · cases hr

theorem resL_ok (h : SR E st S ρ a.tmps w) : ∀ (l : List ResultVar) {vs : List AV}, resL G st l = some vs → ∃ us : List Value, (l.mapM (resSem a.tmps)).run G.P w = .ok us w ∧ us.length = vs.length ∧ ∀ (j : Nat) c u, vs[j]? = some c → us[j]? = some u → VR S ρ w c u := by
  intro l
  induction l with
  | nil => intro vs hr; cases hr; exact ⟨[], rfl, rfl, fun j c u hc => by simp at hc⟩
  | cons r l ih =>
    intro vs hr
    simp only [resL] at hr
    rw [Option.bind_eq_some_iff] at hr
    obtain ⟨v, hv, hr⟩ := hr
    obtain ⟨vs', hvs, rfl⟩ := Option.map_eq_some_iff.1 hr
    obtain ⟨u, hu, hvu⟩ := resv_ok h hv
    obtain ⟨us, h1, h2, h3⟩ := ih hvs
    refine ⟨u :: us, ?_, by simp [h2], fun j c x hc hx => ?_⟩
    · rw [List.mapM_cons, runB hu, runB h1]; rfl
    · cases j with
      | zero => simp at hc hx; subst hc hx; exact hvu
      | succ j => exact h3 j c x (by simpa using hc) (by simpa using hx)

theorem results_ok (h : SR E st S ρ a.tmps w) {fn : Func} {vs : List AV} (hr : resL G st fn.results.toList = some vs) : ∃ u, (results fn a.tmps).run G.P w = .ok u w ∧ VR S ρ w (resOf vs) u := by
  obtain ⟨us, h1, h2, h3⟩ := resL_ok h _ hr
  have hm : (fn.results.mapM (resSem a.tmps)).run G.P w = .ok us.toArray w := by
    rw [Array.mapM_eq_mapM_toList]
    show Sem.run G.P ((fn.results.toList.mapM (resSem a.tmps)) >>= fun x => pure x.toArray) w = _
    rw [runB h1]; rfl
  have he : results fn a.tmps = (do let vs ← fn.results.mapM (resSem a.tmps); pure (if h : vs.size = 1 then vs[0] else .tuple vs)) := by
    unfold results
    congr 1
  rw [he, runB hm]
  refine ⟨_, rfl, ?_⟩
  unfold resOf
  split
  · rename_i v
    have hl : us.length = 1 := by rw [h2]; rfl
    obtain ⟨u, rfl⟩ := List.length_eq_one_iff.1 hl
    exact h3 0 v u rfl rfl
  · rename_i hne
    have hl : us.length ≠ 1 := by
      rw [h2]; intro e
      obtain ⟨v, rfl⟩ := List.length_eq_one_iff.1 e
      exact hne v rfl
    simp only [List.size_toArray, hl, dif_neg, not_false_eq_true]
    exact .tup _ _ (by simp [h2]) fun j c u hc hu => h3 j c u hc (by simpa using hu)

/-- A body: its beginning. -/
theorem begin_ok {args : List AV} {hp : Heap} {vs : Array Value} {k : Nat} (hl : ∀ n r, ρ n = some r → n < 1000) (H : HR S ρ w hp) (hb : ∀ b o, S b o → b < w.heap.size) (hlen : args.length = vs.size)
    (hargs : ∀ (j : Nat) c v, args[j]? = some c → vs[j]? = some v → VR S ρ w c v) : SR (envOf S ρ w hl) { sl := zipIx args 0, hp } S ρ (vs ++ Array.replicate k Go.undef) w := by
  refine ⟨fun t => ?_, H, fun n b sz k h => .inl ⟨n, sz, k, h⟩, fun n o _ _ r hr => hr, ⟨Ext.refl S w, fun _ _ h => .inl h, hb, Nat.le_refl _, fun _ _ _ => rfl, fun _ h => h, rfl, rfl, rfl⟩⟩
  show VR S ρ w ((aget (zipIx args 0) t).getD .undef) _
  rw [aget_zipIx]
  cases ht : args[t]? with
  | none => exact .undef _
  | some c =>
    have hlt : t < vs.size := by rw [← hlen]; exact (List.getElem?_eq_some_iff.1 ht).1
    have := hargs t c _ ht (Array.getElem?_eq_getElem hlt)
    simp only [Option.getD_some]
    rw [Array.getD_eq_getD_getElem?, Array.getElem?_append_left hlt, Array.getElem?_eq_getElem hlt]
    exact this

/-- Blocks of marks, shut. -/
structure Dead (m : Nat) (w w' : World) : Prop where
  size : w'.heap.size = w.heap.size
  blocks : ∀ b : Nat, w'.heap[b]? = w.heap[b]? ∨ (m ≤ b ∧ w.heap[b]? = some (.deferred (some [])) ∧ w'.heap[b]? = some (.deferred none))
  os : w'.os = w.os
  tape : w'.tape = w.tape
  output : w'.output = w.output

theorem Dead.ext {m : Nat} {w' : World} (hd : Dead m w w') (S : Stab) : Ext S w S w' := by
  refine ⟨fun _ _ h => h, fun b o _ => ?_, fun b c t fr hb => ?_⟩
  · rcases hd.blocks b with e | ⟨_, e1, e2⟩
    · exact cell_same e o
    · simp [World.cell?, at0, e1, e2]
  · rcases hd.blocks b with e | ⟨_, e1, e2⟩
    · exact ⟨c, by rw [e]; exact hb, rfl⟩
    · rw [e1] at hb; cases hb

theorem SR.dead {tm : Array Value} {w' : World} (h : SR E st S ρ tm w) (hd : Dead E.W0.heap.size w w') : SR E st S ρ tm w' := by
  have hx : Ext S w S w' := by
    refine ⟨fun _ _ h => h, fun b o _ => ?_, fun b c t fr hb => ?_⟩
    · rcases hd.blocks b with e | ⟨_, e1, e2⟩
      · exact cell_same e o
      · simp [World.cell?, at0, e1, e2]
    · rcases hd.blocks b with e | ⟨_, e1, e2⟩
      · exact ⟨c, by rw [e]; exact hb, rfl⟩
      · rw [e1] at hb; cases hb
  have same : ∀ n o, aget st.hp n = some o → ∀ b sz k, ρ n = some ⟨some (b, sz), k⟩ → w'.heap[b]? = w.heap[b]? := by
    intro n o ho b sz k hρ
    have hob := h.heap.obj n o ho
    rcases hd.blocks b with e | ⟨_, e1, e2⟩
    · exact e
    · exfalso
      cases o with
      | box v => obtain ⟨b', cells, t, fr, h1, h2, _⟩ := hob; rw [hρ] at h1; cases h1; rw [e1] at h2; cases h2
      | row sz es fx mv =>
        rcases hob with ⟨_, h1⟩ | ⟨b', cells, t, fr, _, h1, _, h2, _⟩
        · rw [hρ] at h1; cases h1
        · rw [hρ] at h1; cases h1; rw [e1] at h2; cases h2
      | loop r l => obtain ⟨b', L, h1, h2, _⟩ := hob; rw [hρ] at h1; cases h1; rw [e1] at h2; cases h2
      | dblk => exact hob
  refine ⟨fun t => (h.slot t).ext hx fun _ _ h => h, ⟨fun n o ho => (h.heap.obj n o ho).keep hx rfl (fun _ _ h => h) (fun b sz k hb => ⟨same n o ho b sz k hb, fun _ h => h⟩), h.heap.dom, h.heap.inj⟩, h.mine, h.old, ?_⟩
  have f := h.fr
  refine ⟨f.ext.trans hx, f.new, fun b o hb => by rw [hd.size]; exact f.bnd b o hb, by rw [hd.size]; exact f.size, fun b hb hF => ?_, fun b hb => ?_, hd.os.trans f.os, hd.tape.trans f.tape, hd.output.trans f.output⟩
  · rcases hd.blocks b with e | ⟨e1, _⟩
    · exact e.trans (f.keep b hb hF)
    · omega
  · rcases hd.blocks b with e | ⟨e1, _⟩
    · exact e.trans (f.dfr b hb)
    · exact absurd (lt_of_block hb) (Nat.not_lt.2 e1)

theorem leaves_ok {P : Program} {F : Fence} {n : Nat} {fn : Func} {tmps : Array Value} {R : Ending → World → Prop} {u : FrameMode} (hu : u ≠ .run) {m : Nat} {w0 : World} : ∀ (ds : List Deferred) (w : World), Marks m ds w → Dead m w0 w →
    (∀ w', Dead m w0 w' → LeavesIn F n P fn tmps R [] u w') → LeavesInM F n P fn tmps R ds u w := by
  intro ds
  induction ds with
  | nil => intro w _ hd h; exact h w hd
  | cons d ds ih =>
    intro w hm hd h
    obtain ⟨b, e1, e2, e3⟩ := hm.2 d (by simp)
    have hlt := lt_of_block e3
    have hnd := List.nodup_cons.1 hm.1
    refine ⟨hu, .inl ⟨b, w.putObj b (.deferred none), by rw [e1], run_takeDeferred e3, ih _ ⟨hnd.2, fun d' hd' => ?_⟩ ⟨by rw [World.putObj_size]; exact hd.size, fun b' => ?_, hd.os, hd.tape, hd.output⟩ h⟩⟩
    · obtain ⟨b', g1, g2, g3⟩ := hm.2 d' (List.mem_cons_of_mem _ hd')
      have hne : b' ≠ b := fun e => by subst e; rw [← e1] at g1; subst g1; exact hnd.1 hd'
      exact ⟨b', g1, g2, by rw [World.putObj_heap_other hne]; exact g3⟩
    · by_cases e : b' = b
      · subst e
        rw [World.putObj_heap_same hlt]
        rcases hd.blocks b' with h1 | ⟨h1, h2, h3⟩
        · exact .inr ⟨e2, h1 ▸ e3, rfl⟩
        · exact .inr ⟨h1, h2, rfl⟩
      · rw [World.putObj_heap_other e]; exact hd.blocks b'

theorem runBody_ok (GE : GSound G) {call : CallFn} (hcall : CallOK G call) {loop : LoopFn} (hloop : ∀ f c st r, loop f c st = some r → LoopSound G f c st r)
    {g : FuncId} {args : List AV} {hp : Heap} {r : ARes × Heap} (hE : G.E g = true) (hr : runBody G call loop g args hp = some r) : CallSound G.P g args hp r := by
  intro S ρ w vs hl H hb hlen hargs
  unfold runBody at hr
  rw [Option.bind_eq_some_iff] at hr; obtain ⟨fn, hfn, hr⟩ := hr
  rw [Option.bind_eq_some_iff] at hr; obtain ⟨c, hc, hr⟩ := hr
  rw [Option.bind_eq_some_iff] at hr; obtain ⟨⟨x, s⟩, hx, hr⟩ := hr
  have hbeg := begin_ok (k := fn.ntmps - vs.size) hl H hb hlen hargs
  have hge : fn.ntmps ≤ (vs ++ Array.replicate (fn.ntmps - vs.size) Go.undef).size := by simp; omega
  have hd := dstsB_mono hge c (GE.ok.dsts g fn c hE hfn hc)
  have hw := codeX_ok (ro := none) (a := { tmps := vs ++ Array.replicate (fn.ntmps - vs.size) Go.undef, defers := [] }) GE hcall hloop c (.inl ⟨rfl, Nat.le_trans (GE.ntm g fn hE hfn) hge⟩) hd (GE.plans g fn c hE hfn hc) (base := []) ⟨[], rfl, List.nodup_nil, fun d hd => by simp at hd⟩ hbeg rfl hx
  refine (callsIn_wide (n := 0)).1 (callsIn_of_wp_marks hfn hc trivial (wpIn_mono hw fun e a' w' ⟨k1, k2, S', ρ', k3, k4⟩ => ?_))
  have fin : ∀ {vs}, resL G s fn.results.toList = some vs → ∀ w2, Dead (envOf S ρ w hl).W0.heap.size w' w2 → ∃ v, (results fn a'.tmps).run G.P w2 = .ok v w2 ∧ ∃ S'' ρ'', Out (envOf S ρ w hl) (finishA G g (hp.map (·.1)) (resOf vs) s).2 S'' ρ'' w2 ∧ VR S'' ρ'' w2 (finishA G g (hp.map (·.1)) (resOf vs) s).1 v := by
    intro vs hvs w2 hdead
    have k3 := k3.dead hdead
    obtain ⟨u, hu, hvu⟩ := results_ok k3 hvs
    refine ⟨u, hu, ?_⟩
    unfold finishA
    split
    · obtain ⟨ρ'', o1, o2⟩ := out_ok (m := hp.map (·.1)) k3.heap k3.mine k3.old k3.fr hvu
      exact ⟨S', ρ'', o1, o2⟩
    · obtain ⟨S2, f1, f2, f3, f4⟩ := k3.fix (resOf vs).rows
      have hv2 := rv_fixed k3 f1 f2 f3 f4 hvu fun n hn => hn
      obtain ⟨ρ'', o1, o2⟩ := out_ok (m := hp.map (·.1)) f2.heap f2.mine f2.old f2.fr hv2
      exact ⟨S2, ρ'', o1, o2⟩
  obtain ⟨ms, hms, k1⟩ := k1
  rw [List.append_nil] at hms
  rw [← hms] at k1
  have dead0 : Dead (envOf S ρ w hl).W0.heap.size w' w' := ⟨rfl, fun _ => .inl rfl, rfl, rfl, rfl⟩
  have retd : ∀ {vs}, resL G s fn.results.toList = some vs → r = retA (finishA G g (hp.map (·.1)) (resOf vs) s) → LeavesInM (FW none) 0 G.P fn a'.tmps (fun e w' => ∃ S' ρ', Out (envOf S ρ w hl) r.2 S' ρ' w' ∧ AnswerR S' ρ' w' r.1 e) a'.defers .returning w' := by
    intro vs hvs e
    subst e
    refine leaves_ok (by simp) a'.defers w' k1 dead0 fun w2 hdead => ?_
    obtain ⟨v, h1, S'', ρ'', h2, h3⟩ := fin hvs w2 hdead
    exact ⟨v, h1, S'', ρ'', h2, h3⟩
  cases x with
  | normal =>
    cases e with
    | normal =>
      simp only at hr
      obtain ⟨vs, hvs, e⟩ := Option.map_eq_some_iff.1 hr
      exact retd hvs e.symm
    | _ => exact k4.elim
  | ret =>
    cases e with
    | ret =>
      simp only at hr
      obtain ⟨vs, hvs, e⟩ := Option.map_eq_some_iff.1 hr
      exact retd hvs e.symm
    | _ => exact k4.elim
  | pan v =>
    cases e with
    | panic ch =>
      simp only [Option.some.injEq] at hr
      subst hr
      refine leaves_ok (by simp) a'.defers w' k1 dead0 fun w2 hdead => ?_
      have k3 := k3.dead hdead
      obtain ⟨u, rfl, hvu⟩ := k4
      have hx2 : VR S' ρ' w2 v u := hvu.ext (hdead.ext S') fun _ _ h => h
      obtain ⟨S2, f1, f2, f3, f4⟩ := k3.fix v.rows
      have hv2 := rv_fixed k3 f1 f2 f3 f4 hx2 fun n hn => hn
      obtain ⟨ρ'', o1, o2⟩ := out_ok (m := hp.map (·.1)) f2.heap f2.mine f2.old f2.fr hv2
      exact ⟨S2, ρ'', o1, u, rfl, o2⟩
    | _ => exact k4.elim
  | exit i => simp at hr

end Go.Proofs.Ytonaejfpiihfhaa.Abs
