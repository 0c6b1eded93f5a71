/- Code: what it comes to, the machine's comes to. Bodies, calls and loops: WHAT THE INTERPRETER TELLS IS SO. Rounds; and all of it: WHAT THE INTERPRETER TELLS IS SO. Functions that defer one closure, which may recover. Functions that defer one closure, on: their bodies. All of it: WHAT THE INTERPRETER TELLS IS SO. What a seat's tables are asked, told by one look; what the library's outer functions come to. The interpreter, step by step, as equations: code is gone through by rewriting. States, values, calls: as equations. What is unfolded, when code is gone through. -/
import Derived.Test.YtonaejfpiihfhaaPkB
import Derived.RecoverIn
import Derived.KernelRfl
import Derived.Lib.Bytealg
import Derived.Laws.Externs

/- Code: what it comes to, the machine's comes to. -/
namespace Go.Proofs.Ytonaejfpiihfhaa.Abs
open Go Go.RowKit
set_option linter.unusedSimpArgs false
set_option linter.unusedVariables false

variable {G : Cfg} {S : Stab} {ρ : Rho} {w : World} {E : Env} {st : ASt} {a : Act}

/-- Each region that draws has a plan that may be. -/
def plansB (G : Cfg) (f : FuncId) : Code → Bool
  | .region id ops draw => !draw || (match G.plan f id with | some l => vplan ops [] [] l | none => true)
  | .seq a b => plansB G f a && plansB G f b
  | .cond _ a b => plansB G f a && plansB G f b
  | .block _ b => plansB G f b
  | .scope b => plansB G f b
  | .loop b => plansB G f b
  | .rangeFunc _ _ a b => plansB G f a && plansB G f b
  | _ => true

def noRange : Code → Bool
  | .seq a b => noRange a && noRange b
  | .cond _ a b => noRange a && noRange b
  | .block _ b => noRange b
  | .scope b => noRange b
  | .loop b => noRange b
  | .rangeFunc _ _ _ _ => false
  | _ => true

/-- What is asked of the tables, whole. -/
structure GSound (G : Cfg) : Prop where
  ok : GOK G
  mixed : G.P.follows .mixedOrders = true
  plans : ∀ g fn c, G.E g = true → G.P.funcs[g]? = some fn → fn.body = some c → plansB G g c = true
  ntm : ∀ g fn, G.E g = true → G.P.funcs[g]? = some fn → G.ntm g ≤ fn.ntmps
  rounds : ∀ r, G.roundOK r = true → (dstsB r.nt r.assign = true ∧ plansB G r.g r.assign = true ∧ noRange r.assign = true) ∧ (r.ps.toList.all fun t => decide (t < r.nt)) = true ∧ dstsB r.nt r.body = true ∧ plansB G r.g r.body = true ∧ noRange r.body = true

/-- The marks of loops over functions. -/
def Marks (m : Nat) (ds : List Deferred) (w : World) : Prop := ds.Nodup ∧ ∀ d ∈ ds, ∃ b, d = { target := .collected b, args := #[] } ∧ m ≤ b ∧ w.heap[b]? = some (.deferred (some []))
/-- Marks, laid before what was deferred already. -/
def MarksB (m : Nat) (base ds : List Deferred) (w : World) : Prop := ∃ ms, ds = ms ++ base ∧ Marks m ms w
def CodeM (E : Env) (base : List Deferred) (n : Nat) (r : AX × ASt) (e : Exit) (a : Act) (w : World) : Prop :=
  MarksB E.W0.heap.size base a.defers w ∧ a.tmps.size = n ∧ ∃ S ρ, SR E r.2 S ρ a.tmps w ∧ ExitR S ρ w r.1 e

theorem SR.trim {tm : Array Value} (h : SR E st S ρ tm w) (L : Option Trim) : SR E (st.trim L) S ρ tm w := by
  cases L with
  | none => exact h
  | some l =>
    refine ⟨fun t => ?_, h.heap, h.mine, h.old, h.fr⟩
    show VR S ρ w ((aget (l.slots.map fun t => (t, st.slot t)) t).getD .undef) _
    have : ∀ l : List Nat, aget (l.map fun t => (t, st.slot t)) t = none ∨ aget (l.map fun t => (t, st.slot t)) t = some (st.slot t) := by
      intro l
      induction l with
      | nil => exact .inl rfl
      | cons x l ih =>
        simp only [List.map_cons, aget]
        split
        · rename_i e; subst e; exact .inr rfl
        · exact ih
    rcases this l.slots with e | e
    · rw [e]; exact .undef _
    · rw [e]; exact h.slot t
theorem CodeM.grow {base : List Deferred} {n : Nat} {y r : AX × ASt} {e : Exit} {L : Option Trim} (hg : growX L y = some r) (h : CodeM E base n y e a w) : CodeM E base n r e a w := by
  obtain ⟨h1, h2, S, ρ, h3, h4⟩ := h
  obtain ⟨x, s⟩ := y
  unfold growX at hg
  split at hg
  · rename_i t hx
    simp only at hx
    subst hx
    obtain ⟨s', hs', rfl⟩ := Option.map_eq_some_iff.1 hg
    obtain ⟨S', ρ', k⟩ := canonAll_ok (fun p st S ρ st' h hf => by obtain ⟨ρ', k⟩ := canonCell_ok h hf; exact ⟨S, ρ', k⟩) t.grow h3 hs'
    exact ⟨h1, h2, S', ρ', k.trim (some t), by cases e <;> first | exact h4 | exact h4.elim⟩
  · cases hg
    exact ⟨h1, h2, S, ρ, h3.trim _, h4⟩

/-- The beginning, told anew. -/
def rebase (E : Env) {S : Stab} {w : World} (h : FrameR E S w) : Env := ⟨w, S, fun b => E.F b ∨ E.W0.heap.size ≤ b, E.R0, E.low, h.glob⟩
theorem SR.base {tm : Array Value} (h : SR E st S ρ tm w) : SR (rebase E h.fr) st S ρ tm w :=
  ⟨h.slot, h.heap, fun n b sz k hn => .inl (h.mine n b sz k hn), h.old, ⟨Ext.refl S w, fun _ _ h => .inl h, h.fr.bnd, Nat.le_refl _, fun _ _ _ => rfl, fun _ h => h, rfl, rfl, rfl⟩⟩
theorem SR.unbase {st' : ASt} {S' : Stab} {ρ' : Rho} {tm' : Array Value} {w' : World} (h0 : FrameR E S w) (h : SR (rebase E h0) st' S' ρ' tm' w') : SR E st' S' ρ' tm' w' := by
  have f := h.fr
  refine ⟨h.slot, h.heap, fun n b sz k hn => ?_, h.old, ⟨h0.ext.trans f.ext, fun b o hS => ?_, f.bnd, Nat.le_trans h0.size f.size, fun b hb hnF => ?_, fun b hb => f.dfr b (h0.dfr b hb), f.os.trans h0.os, f.tape.trans h0.tape, f.output.trans h0.output⟩⟩
  · rcases h.mine n b sz k hn with hx | hx
    · exact hx
    · exact .inr (Nat.le_trans h0.size hx)
  · rcases f.new b o hS with hx | hx | hx
    · exact h0.new b o hx
    · exact .inr hx
    · exact .inr (.inr (Nat.le_trans h0.size hx))
  · refine (f.keep b (Nat.lt_of_lt_of_le hb h0.size) fun hx => ?_).trans (h0.keep b hb hnF)
    rcases hx with hx | hx
    · exact hnF hx
    · omega

theorem codeM_of {base : List Deferred} {n : Nat} {r : AX × ASt} {a' : Act} {w' : World} {e : Exit} (h0 : FrameR E S w) (hm : MarksB E.W0.heap.size base a.defers w) (h : CodeDone (rebase E h0) a.defers n r e a' w') : CodeM E base n r e a' w' := by
  obtain ⟨k1, k2, S', ρ', k3, k4⟩ := h
  obtain ⟨ms, hms, hm⟩ := hm
  refine ⟨⟨ms, by rw [k1, hms], hm.1, fun d hd => ?_⟩, k2, S', ρ', k3.unbase h0, k4⟩
  obtain ⟨b, e1, e2, e3⟩ := hm.2 d hd
  exact ⟨b, e1, e2, k3.fr.dfr b e3⟩

def LoopSound (G : Cfg) (f : FuncId) (c : Code) (st : ASt) (r : AX × ASt) : Prop :=
  ∀ (base : List Deferred) (n : Nat) (ro : Option Nat) (E : Env) (S : Stab) (ρ : Rho) (a : Act) (w : World), ((ro = none ∧ G.ntm f ≤ n) ∨ noRange c = true) → dstsB n c = true → plansB G f c = true → MarksB E.W0.heap.size base a.defers w → SR E st S ρ a.tmps w → a.tmps.size = n → (Code.loop c).wpIn (FW ro) 0 G.P (CodeM E base n r) a w

theorem Ext.putLoop {S : Stab} {l : Nat} {R R' : Loop} (h : w.heap[l]? = some (.loop R)) : Ext S w S (w.putObj l (.loop R')) := by
  have hlt := lt_of_block h
  refine ⟨fun _ _ h => h, fun b o _ => ?_, fun b c t fr hb => ?_⟩
  · by_cases e : b = l
    · subst e; simp [World.cell?, at0, h, World.putObj_heap_same hlt]
    · exact cell_same (World.putObj_heap_other e) o
  · have : b ≠ l := fun e => by subst e; rw [h] at hb; cases hb
    exact ⟨c, fr, by rw [World.putObj_heap_other this]; exact hb, rfl⟩

/-- A loop's record, turned. -/
theorem SR.turn {tm : Array Value} (h : SR E st S ρ tm w) {L : Nat} {r r' : LRec} {sl : Slots} (ho : aget st.hp L = some (.loop r sl)) {b sz k : Nat} (hρ : ρ L = some ⟨some (b, sz), k⟩) {R R' : Loop} (hb : w.heap[b]? = some (.loop R))
    (h1 : R'.state = r'.state) (h2 : R'.pending = r'.pending) (h3 : R'.params = R.params) (h4 : R'.assign = R.assign) (h5 : R'.body = R.body) (h6 : R'.tmps = R.tmps) (g1 : r'.ps = r.ps) (g2 : r'.assign = r.assign) (g3 : r'.body = r.body) (g4 : r'.nt = r.nt) (h7 : R'.fn = R.fn := by rfl) :
    SR E { st with hp := hput L (.loop r' sl) st.hp } S ρ tm (w.putObj b (.loop R')) := by
  obtain ⟨b', R0, k1, k2, k3, k4, k5, k7, k8, k9, k10, k11⟩ := h.heap.obj L _ ho
  rw [hρ] at k1; cases k1
  rw [hb] at k2; cases k2
  have hx := Ext.putLoop (S := S) (R' := R') hb
  exact h.change ho hρ hx (fun b' hne => World.putObj_heap_other hne) World.putObj_size ⟨rfl, rfl, rfl⟩
    ⟨b, R', hρ, World.putObj_heap_same (lt_of_block hb), k3, h1, h2, by rw [h3, g1, k7], by rw [h4, g2, k8], by rw [h5, g3, k9], by rw [h6, g4, h7]; exact k10, fun t => by rw [h6]; exact (k11 t).ext hx fun _ _ h => h⟩ (fun _ => rfl)

theorem codeX_ok (GE : GSound G) {call : CallFn} (hcall : CallOK G call) {loop : LoopFn} (hloop : ∀ f c st r, loop f c st = some r → LoopSound G f c st r)
    {base : List Deferred} {n : Nat} {ro : Option Nat} {f : FuncId} (c : Code) : ∀ {E : Env} {st : ASt} {S : Stab} {ρ : Rho} {a : Act} {w : World} {r : AX × ASt}, ((ro = none ∧ G.ntm f ≤ n) ∨ noRange c = true) → dstsB n c = true → plansB G f c = true → MarksB E.W0.heap.size base a.defers w → SR E st S ρ a.tmps w → a.tmps.size = n → codeX G call loop f c st = some r →
      c.wpIn (FW ro) 0 G.P (CodeM E base n r) a w := by
  induction c with
  | skip => intro E st S ρ a w r _ _ _ hm h hn hr; cases hr; exact wpIn_skip ⟨hm, hn, S, ρ, h, trivial⟩
  | label l => intro E st S ρ a w r _ _ _ hm h hn hr; cases hr; exact wpIn_label ⟨hm, hn, S, ρ, h, trivial⟩
  | exit id => intro E st S ρ a w r _ _ _ hm h hn hr; cases hr; exact wpIn_exit ⟨hm, hn, S, ρ, h, rfl⟩
  | ret => intro E st S ρ a w r _ _ _ hm h hn hr; cases hr; exact wpIn_ret ⟨hm, hn, S, ρ, h, trivial⟩
  | scope b _ => intro E st S ρ a w r _ _ _ hm h hn hr; cases hr
  | goto l => intro E st S ρ a w r _ _ _ hm h hn hr; cases hr
  | refuse why => intro E st S ρ a w r _ _ _ hm h hn hr; cases hr
  | region id ops draw =>
    intro E st S ρ a w r _ hd hpl hm h hn hr
    simp only [codeX] at hr
    rw [Option.bind_eq_some_iff] at hr
    obtain ⟨y, hr1, hr2⟩ := hr
    refine wpIn_mono (P := G.P) ?_ fun e a' w' hh => CodeM.grow hr2 hh
    cases draw with
    | true =>
      simp only [if_true] at hr1
      rw [Option.bind_eq_some_iff] at hr1
      obtain ⟨l, hl, hs⟩ := hr1
      simp only [plansB, hl, Bool.not_true, Bool.false_or] at hpl
      exact wpIn_mono (draw_ok GE.ok hcall GE.mixed hd hpl hs h.base hn) fun e a' w' hh => codeM_of h.fr hm hh
    | false =>
      simp only [Bool.false_eq_true, if_false] at hr1
      exact wpIn_mono (wpIn_region (aops_ok GE.ok hcall hd _ h.base hn hr1)) fun e a' w' hh => codeM_of h.fr hm hh
  | seq x y ihx ihy =>
    intro E st S ρ a w r hro hd hpl hm h hn hr
    simp only [dstsB, Bool.and_eq_true] at hd
    simp only [plansB, Bool.and_eq_true] at hpl
    simp only [noRange, Bool.and_eq_true] at hro
    simp only [codeX] at hr
    rw [Option.bind_eq_some_iff] at hr
    obtain ⟨⟨q, s⟩, h1, h2⟩ := hr
    refine wpIn_seq (wpIn_mono (ihx (hro.imp id (·.1)) hd.1 hpl.1 hm h hn h1) fun e a' w' ⟨k1, k2, S', ρ', k3, k4⟩ => ?_)
    cases q with
    | normal =>
      cases e with
      | normal => exact ihy (hro.imp id (·.2)) hd.2 hpl.2 k1 k3 k2 h2
      | _ => exact k4.elim
    | exit i => cases h2; cases e with
      | exit j => exact ⟨k1, k2, S', ρ', k3, k4⟩
      | _ => exact k4.elim
    | ret => cases h2; cases e with
      | ret => exact ⟨k1, k2, S', ρ', k3, k4⟩
      | _ => exact k4.elim
    | pan v => cases h2; cases e with
      | panic ch => exact ⟨k1, k2, S', ρ', k3, k4⟩
      | _ => exact k4.elim
  | cond c x y ihx ihy =>
    intro E st S ρ a w r hro hd hpl hm h hn hr
    simp only [dstsB, Bool.and_eq_true] at hd
    simp only [plansB, Bool.and_eq_true] at hpl
    simp only [noRange, Bool.and_eq_true] at hro
    cases hc : st.ev c with
    | bool t =>
      have hv := h.ev c
      rw [hc] at hv
      simp only [codeX, hc] at hr
      cases t with
      | true => exact wpIn_cond_true (vr_bool hv) (ihx (hro.imp id (·.1)) hd.1 hpl.1 hm h hn (by simpa using hr))
      | false => exact wpIn_cond_false (vr_bool hv) (ihy (hro.imp id (·.2)) hd.2 hpl.2 hm h hn (by simpa using hr))
    | _ => simp [codeX, hc] at hr
  | block id b ih =>
    intro E st S ρ a w r hro hd hpl hm h hn hr
    simp only [codeX] at hr
    rw [Option.bind_eq_some_iff] at hr
    obtain ⟨⟨q, s⟩, h1, h2⟩ := hr
    refine wpIn_block (wpIn_mono (ih hro hd hpl hm h hn h1) fun e a' w' ⟨k1, k2, S', ρ', k3, k4⟩ => ?_)
    cases q with
    | normal => cases h2; cases e with
      | normal => exact ⟨k1, k2, S', ρ', k3, k4⟩
      | _ => exact k4.elim
    | exit i => cases h2; cases e with
      | exit j =>
        have e1 : i = j := k4
        subst e1
        simp only [Exit.inBlock]
        by_cases e : i = id
        · rw [if_pos e]; exact ⟨k1, k2, S', ρ', k3, by rw [if_pos e]; trivial⟩
        · rw [if_neg e]; exact ⟨k1, k2, S', ρ', k3, by rw [if_neg e]; exact rfl⟩
      | _ => exact k4.elim
    | ret => cases h2; cases e with
      | ret => exact ⟨k1, k2, S', ρ', k3, k4⟩
      | _ => exact k4.elim
    | pan v => cases h2; cases e with
      | panic ch => exact ⟨k1, k2, S', ρ', k3, k4⟩
      | _ => exact k4.elim
  | loop b _ =>
    intro E st S ρ a w r hro hd hpl hm h hn hr
    simp only [codeX] at hr
    rw [Option.bind_eq_some_iff] at hr
    obtain ⟨s, h1, h2⟩ := hr
    obtain ⟨S', ρ', k⟩ := canon_ok h h1
    exact hloop f b s r h2 base n ro E S' ρ' a w hro hd hpl hm k hn
  | rangeFunc g ps asg body _ _ =>
    intro E st S ρ a w r hro hd hpl hm h hn hr
    obtain ⟨rfl, hnt⟩ := hro.resolve_right (by simp [noRange])
    simp only [codeX] at hr
    split at hr
    · cases hr
    rename_i hck
    simp only [Bool.or_eq_true, not_or, Bool.not_eq_true, Bool.not_eq_false'] at hck
    obtain ⟨⟨hck1, hck2⟩, hck3⟩ := hck
    generalize hL : 20000 + firstRegion body = L at *
    have hLn : aget st.hp L = none := by simpa using hck1
    rw [Option.bind_eq_some_iff] at hr
    obtain ⟨⟨x, mvd⟩, hB, hr⟩ := hr
    simp only at hr
    obtain ⟨r0, hr0⟩ : ∃ r0 : LRec, r0 = ⟨f, G.ntm f, ps, asg, body, .ready, none⟩ := ⟨_, rfl⟩
    rw [← hr0] at hB hck2
    refine wpIn_rangeFunc fun fn hfnF => ?_
    -- the blocks that are laid
    obtain ⟨R, hR⟩ : ∃ R : Loop, R = { state := .ready, pending := none, fn, tmps := a.tmps, params := ps, assign := asg, body, defers := w.heap.size } := ⟨_, rfl⟩
    have hA := h.allocs (.deferred (some []))
    have hρL : ρ L = none := h.heap.dom L hLn
    have hup : ∀ id q, ρ id = some q → upd ρ L ⟨some ((w.alloc (.deferred (some []))).heap.size, 0), 0⟩ id = some q := by
      intro id q hid
      have : id ≠ L := fun e => by subst e; rw [hρL] at hid; cases hid
      simp [upd, this, hid]
    have hS1 := hA.newG (n := L) hLn (by omega) (.loop r0 st.sl) (.loop R) 0 0
      ⟨_, R, by simp [upd], heap_new _ _, fun o ho => absurd (hA.fr.bnd _ _ ho) (Nat.lt_irrefl _), by rw [hR, hr0], by rw [hR, hr0], by rw [hR, hr0], by rw [hR, hr0], by rw [hR, hr0], by rw [hR, hr0]; exact ⟨by show G.ntm f ≤ a.tmps.size; rw [hn]; exact hnt, hfnF⟩, fun t => by
        have := (hA.slot t).ext (Ext.alloc hA.fr.bnd (.loop R)) hup
        rw [hR]; rw [hR] at this; exact this⟩
    generalize hw1 : (w.alloc (.deferred (some []))).alloc (.loop R) = w1 at *
    have hsz1 : (w.alloc (.deferred (some []))).heap.size = w.heap.size + 1 := by simp
    have hD1 : w1.heap[w.heap.size]? = some (.deferred (some [])) := by
      rw [← hw1, Below.heap_alloc _ _ _ (by simp)]; exact heap_new w _
    have hkeep1 : ∀ b : Nat, b < w.heap.size → w1.heap[b]? = w.heap[b]? := by
      intro b hb
      rw [← hw1, Below.heap_alloc _ _ _ (by simp; omega), Below.heap_alloc _ _ _ hb]
    obtain ⟨ms, hms, hm⟩ := hm
    have hnd : ([{ target := .collected w.heap.size, args := #[] }] ++ ms : List Deferred).Nodup := by
      rw [List.singleton_append, List.nodup_cons]
      refine ⟨fun hmem => ?_, hm.1⟩
      obtain ⟨b, e1, e2, e3⟩ := hm.2 _ hmem
      cases e1
      exact absurd (lt_of_block e3) (Nat.lt_irrefl _)
    have hfun := hS1.ev g
    have hyld : VR S (upd ρ L ⟨some ((w.alloc (.deferred (some []))).heap.size, 0), 0⟩) w1 (.yld L) (.func (.yield (w.heap.size + 1)) #[] #[]) := .yld L _ 0 0 (by simp [upd, hsz1])
    rcases callB_ok (E := rebase E hS1.fr) (a := a) hS1.base hcall hfun (us := #[.func (.yield (w.heap.size + 1)) #[] #[]]) (by rfl) (fun j c v hc hv => by
      cases j with
      | zero => simp at hc hv; subst hc hv; exact hyld
      | succ j => simp at hc) hB with ⟨g', vx, vy, hE, hf, hcalls⟩ | ⟨b, R', hf, _⟩
    case inr =>
      exfalso
      have hg : st.ev g = ({ st with hp := (L, AObj.loop r0 st.sl) :: st.hp } : ASt).ev g := by cases g <;> rfl
      rw [← hg] at hfun
      cases hev : st.ev g with
      | fn q x y =>
        rw [hev] at hfun hck3
        obtain ⟨vx, vy, e, _⟩ := vr_fn hfun
        rw [hf] at e
        cases q <;> simp [isFn] at hck3
        cases e
      | _ => rw [hev] at hck3; simp [isFn] at hck3
    refine ⟨w.heap.size + 1, [{ target := .collected w.heap.size, args := #[] }], w1, { target := .fn (.func g') vy, args := vx ++ #[.func (.yield (w.heap.size + 1)) #[] #[]] }, w1, g', vx ++ #[.func (.yield (w.heap.size + 1)) #[] #[]] ++ vy, w1, ?_, ?_, fun q hq => ?_, ?_, fun hdp => by simp [FW] at hdp, ?_⟩
    · rw [← hw1, hR]
      exact run_enterLoop_outer fn a.tmps ps asg body
    · simp only [resolve, rangeCall, hf, Deferred.ofValue]
      simp [Act.eval]
    · simp only [Target.leads, Option.some.injEq] at hq; subst hq; exact GE.ok.inP _ hE
    · exact GE.ok.enter g' hE _ _
    · refine calls_fw (hcalls.mono fun e w3 hcd => ?_)
      cases x with
      | pan v s =>
        obtain ⟨u, S', ρ', rfl, hs, hv⟩ := hcd
        simp only [Option.some.injEq] at hr
        subst hr
        refine ⟨⟨[{ target := .collected w.heap.size, args := #[] }] ++ ms, by simp [hms], hnd, fun d hd => ?_⟩, hn, S', ρ', hs.unbase hS1.fr, u, rfl, hv⟩
        rcases List.mem_append.1 hd with hd | hd
        · simp only [List.mem_singleton] at hd
          exact ⟨w.heap.size, hd, h.fr.size, hs.fr.dfr _ hD1⟩
        · obtain ⟨b, e1, e2, e3⟩ := hm.2 d hd
          exact ⟨b, e1, e2, hs.fr.dfr b (by show w1.heap[b]? = _; rw [hkeep1 b (lt_of_block e3)]; exact e3)⟩
      | val v s =>
        obtain ⟨u, S', ρ', rfl, hs, hv, hper⟩ := hcd
        simp only at hr
        split at hr
        · cases hr
        rename_i hmv
        have hLm : L ∉ mvd := by simpa using hmv
        split at hr
        case h_2 => cases hr
        rename_i r1 sl1 hob
        split at hr
        · cases hr
        rename_i hbusy
        obtain ⟨x', hx', rfl⟩ := Option.map_eq_some_iff.1 hr
        have hρ' : ρ' L = some ⟨some (w.heap.size + 1, 0), 0⟩ := by
          have := hper L ⟨some (w.heap.size + 1, 0), 0⟩ hLm (by simp [upd, hsz1])
          exact this
        obtain ⟨b, R3, k1, k2, k3, k4, k5, _⟩ := hs.heap.obj L _ hob
        rw [hρ'] at k1
        simp only [Option.some.injEq, RI.mk.injEq, Prod.mk.injEq, and_true] at k1
        subst k1
        have hturn := hs.turn hob hρ' k2 (r' := { r1 with state := .exhausted }) (R' := { R3 with state := .exhausted }) rfl k5 rfl rfl rfl rfl rfl rfl rfl rfl
        have hdone : CodeM E base n (x', { s with hp := hput L (.loop { r1 with state := .exhausted } sl1) s.hp }) (match x' with | .normal => .normal | .exit i => .exit i | .ret => .ret | .pan _ => .normal) { a with defers := [{ target := .collected w.heap.size, args := #[] }] ++ a.defers } (w3.putObj (w.heap.size + 1) (.loop { R3 with state := .exhausted })) := by
          refine ⟨⟨[{ target := .collected w.heap.size, args := #[] }] ++ ms, by simp [hms], hnd, fun d hd => ?_⟩, hn, S', ρ', hturn.unbase hS1.fr, ?_⟩
          · rcases List.mem_append.1 hd with hd | hd
            · simp only [List.mem_singleton] at hd
              exact ⟨w.heap.size, hd, h.fr.size, hturn.fr.dfr _ hD1⟩
            · obtain ⟨b, e1, e2, e3⟩ := hm.2 d hd
              exact ⟨b, e1, e2, hturn.fr.dfr b (by show w1.heap[b]? = _; rw [hkeep1 b (lt_of_block e3)]; exact e3)⟩
          · cases x' with
            | pan v =>
              unfold jumpX at hx'
              split at hx' <;> cases hx'
            | normal => trivial
            | exit i => rfl
            | ret => trivial
        obtain ⟨jp, hjp⟩ : ∃ jp, jp = r1.pending := ⟨_, rfl⟩
        rw [← hjp] at hx'
        refine ⟨jp, _, by rw [hjp, ← k5]; exact run_endLoop k2 (by rw [k4]; exact hbusy), ?_⟩
        cases jp with
        | none => cases hx'; exact hdone
        | some c =>
          cases c with
          | ret => cases hx'; exact wpIn_ret hdone
          | exit id => cases hx'; exact wpIn_exit hdone
          | _ => simp [jumpX] at hx'

end Go.Proofs.Ytonaejfpiihfhaa.Abs

/- Bodies, calls and loops: WHAT THE INTERPRETER TELLS IS SO. -/
namespace Go.Proofs.Ytonaejfpiihfhaa.Abs
open Go Go.RowKit
set_option linter.unusedSimpArgs false
set_option linter.unusedVariables false

variable {G : Cfg} {S : Stab} {ρ : Rho} {w : World} {E : Env} {st : ASt} {a : Act}

theorem dstsB_mono {n m : Nat} (hnm : n ≤ m) (c : Code) : dstsB n c = true → dstsB m c = true := by
  induction c with
  | region id ops draw =>
    intro h
    simp only [dstsB, List.all_eq_true] at h ⊢
    intro o ho
    have := h o ho
    unfold opDst dstB at this ⊢
    cases hd : o.dst with
    | none => rw [hd] at this; exact this
    | some d => simp only [hd, decide_eq_true_eq, Bool.and_eq_true] at this ⊢; exact ⟨Nat.lt_of_lt_of_le this.1 hnm, this.2⟩
  | seq a b iha ihb => intro h; simp only [dstsB, Bool.and_eq_true] at h ⊢; exact ⟨iha h.1, ihb h.2⟩
  | cond c a b iha ihb => intro h; simp only [dstsB, Bool.and_eq_true] at h ⊢; exact ⟨iha h.1, ihb h.2⟩
  | block id b ih => exact ih
  | scope b ih => exact ih
  | loop b ih => exact ih
  | rangeFunc g ps a b iha ihb => intro h; simp only [dstsB, Bool.and_eq_true] at h ⊢; exact ⟨iha h.1, ihb h.2⟩
  | _ => intro _; rfl

/-! ### Results -/
def resSem (tmps : Array Value) : ResultVar → Sem Value
  | .tmp t => pure (tmps.getD t Go.undef)
  | .cell a t => do loadVar t (← asAddr (tmps.getD a Go.undef))

theorem resv_ok (h : SR E st S ρ a.tmps w) {r : ResultVar} {v : AV} (hr : resv G st r = some v) : ∃ u, (resSem a.tmps r).run G.P w = .ok u w ∧ VR S ρ w v u := by
  cases r with
  | tmp t => cases hr; exact ⟨_, rfl, h.slot t⟩
  | cell p t =>
    simp only [resv] at hr
    have hp := h.slot p
    split at hr
    · rename_i id i o he
      rw [he] at hp
      obtain ⟨b, sz, n, hρ, ev⟩ := vr_ptr hp
      rw [Option.bind_eq_some_iff] at hr
      obtain ⟨ob, hob, hr⟩ := hr
      rw [Option.bind_eq_some_iff] at hr
      obtain ⟨cs, hcs, hr⟩ := hr
      obtain ⟨f, hf⟩ := ptr_cells h.heap hob hcs hρ
      obtain ⟨d, h1, h2, h3⟩ := partT_some hr
      obtain ⟨u, hu, hv⟩ := load_ok (P := G.P) f h1 h2 hf h3
      refine ⟨u, ?_, hv⟩
      show Sem.run G.P (asAddr (a.tmps.getD p Go.undef) >>= fun x => loadVar t x) w = _
      rw [ev, runB (a := at0 b (i * sz + o)) (by rfl)]
      exact hu
    · rename_i x o he
      rw [he] at hp
      obtain ⟨b, base, ev, ho, f, hf⟩ := vr_ep hp
      obtain ⟨d, h1, h2, h3⟩ := partT_some hr
      obtain ⟨u, hu, hv⟩ := load_ok (P := G.P) (S := S) (ρ := ρ) f h1 h2 (fun j c hj => ⟨(hf j c hj).2.1, .pure (hf j c hj).2.2⟩) h3
      refine ⟨u, ?_, hv⟩
      show Sem.run G.P (asAddr (a.tmps.getD p Go.undef) >>= fun x => loadVar t x) w = _
      rw [ev, runB (a := at0 b (base + o)) (by rfl)]
      exact hu
    · cases hr

theorem resL_ok (h : SR E st S ρ a.tmps w) : ∀ (l : List ResultVar) {vs : List AV}, resL G st l = some vs → ∃ us : List Value, (l.mapM (resSem a.tmps)).run G.P w = .ok us w ∧ us.length = vs.length ∧ ∀ (j : Nat) c u, vs[j]? = some c → us[j]? = some u → VR S ρ w c u := by
  intro l
  induction l with
  | nil => intro vs hr; cases hr; exact ⟨[], rfl, rfl, fun j c u hc => by simp at hc⟩
  | cons r l ih =>
    intro vs hr
    simp only [resL] at hr
    rw [Option.bind_eq_some_iff] at hr
    obtain ⟨v, hv, hr⟩ := hr
    obtain ⟨vs', hvs, rfl⟩ := Option.map_eq_some_iff.1 hr
    obtain ⟨u, hu, hvu⟩ := resv_ok h hv
    obtain ⟨us, h1, h2, h3⟩ := ih hvs
    refine ⟨u :: us, ?_, by simp [h2], fun j c x hc hx => ?_⟩
    · rw [List.mapM_cons, runB hu, runB h1]; rfl
    · cases j with
      | zero => simp at hc hx; subst hc hx; exact hvu
      | succ j => exact h3 j c x (by simpa using hc) (by simpa using hx)

theorem results_ok (h : SR E st S ρ a.tmps w) {fn : Func} {vs : List AV} (hr : resL G st fn.results.toList = some vs) : ∃ u, (results fn a.tmps).run G.P w = .ok u w ∧ VR S ρ w (resOf vs) u := by
  obtain ⟨us, h1, h2, h3⟩ := resL_ok h _ hr
  have hm : (fn.results.mapM (resSem a.tmps)).run G.P w = .ok us.toArray w := by
    rw [Array.mapM_eq_mapM_toList]
    show Sem.run G.P ((fn.results.toList.mapM (resSem a.tmps)) >>= fun x => pure x.toArray) w = _
    rw [runB h1]; rfl
  have he : results fn a.tmps = (do let vs ← fn.results.mapM (resSem a.tmps); pure (if h : vs.size = 1 then vs[0] else .tuple vs)) := by
    unfold results
    congr 1
  rw [he, runB hm]
  refine ⟨_, rfl, ?_⟩
  unfold resOf
  split
  · rename_i v
    have hl : us.length = 1 := by rw [h2]; rfl
    obtain ⟨u, rfl⟩ := List.length_eq_one_iff.1 hl
    exact h3 0 v u rfl rfl
  · rename_i hne
    have hl : us.length ≠ 1 := by
      rw [h2]; intro e
      obtain ⟨v, rfl⟩ := List.length_eq_one_iff.1 e
      exact hne v rfl
    simp only [List.size_toArray, hl, dif_neg, not_false_eq_true]
    exact .tup _ _ (by simp [h2]) fun j c u hc hu => h3 j c u hc (by simpa using hu)

/-- A body: its beginning. -/
theorem begin_ok {args : List AV} {hp : Heap} {vs : Array Value} {k : Nat} (hl : Ent S ρ w) (H : HR S ρ w hp) (hb : ∀ b o, S b o → b < w.heap.size) (hlen : args.length = vs.size)
    (hargs : ∀ (j : Nat) c v, args[j]? = some c → vs[j]? = some v → VR S ρ w c v) : SR (envOf S ρ w hl) { sl := zipIx args 0, hp } S ρ (vs ++ Array.replicate k Go.undef) w := by
  refine ⟨fun t => ?_, H, fun n b sz k h => .inl ⟨n, sz, k, h⟩, fun n o _ _ r hr => hr, ⟨Ext.refl S w, fun _ _ h => .inl h, hb, Nat.le_refl _, fun _ _ _ => rfl, fun _ h => h, rfl, rfl, rfl⟩⟩
  show VR S ρ w ((aget (zipIx args 0) t).getD .undef) _
  rw [aget_zipIx]
  cases ht : args[t]? with
  | none => exact .undef _
  | some c =>
    have hlt : t < vs.size := by rw [← hlen]; exact (List.getElem?_eq_some_iff.1 ht).1
    have := hargs t c _ ht (Array.getElem?_eq_getElem hlt)
    simp only [Option.getD_some]
    rw [Array.getD_eq_getD_getElem?, Array.getElem?_append_left hlt, Array.getElem?_eq_getElem hlt]
    exact this

/-- Blocks of marks, shut. -/
structure Dead (m : Nat) (w w' : World) : Prop where
  size : w'.heap.size = w.heap.size
  blocks : ∀ b : Nat, w'.heap[b]? = w.heap[b]? ∨ (m ≤ b ∧ w.heap[b]? = some (.deferred (some [])) ∧ w'.heap[b]? = some (.deferred none))
  os : w'.os = w.os
  tape : w'.tape = w.tape
  output : w'.output = w.output

theorem Dead.ext {m : Nat} {w' : World} (hd : Dead m w w') (S : Stab) : Ext S w S w' := by
  refine ⟨fun _ _ h => h, fun b o _ => ?_, fun b c t fr hb => ?_⟩
  · rcases hd.blocks b with e | ⟨_, e1, e2⟩
    · exact cell_same e o
    · simp [World.cell?, at0, e1, e2]
  · rcases hd.blocks b with e | ⟨_, e1, e2⟩
    · exact ⟨c, fr, by rw [e]; exact hb, rfl⟩
    · rw [e1] at hb; cases hb

theorem SR.dead {tm : Array Value} {w' : World} (h : SR E st S ρ tm w) (hd : Dead E.W0.heap.size w w') : SR E st S ρ tm w' := by
  have hx : Ext S w S w' := by
    refine ⟨fun _ _ h => h, fun b o _ => ?_, fun b c t fr hb => ?_⟩
    · rcases hd.blocks b with e | ⟨_, e1, e2⟩
      · exact cell_same e o
      · simp [World.cell?, at0, e1, e2]
    · rcases hd.blocks b with e | ⟨_, e1, e2⟩
      · exact ⟨c, fr, by rw [e]; exact hb, rfl⟩
      · rw [e1] at hb; cases hb
  have same : ∀ n o, aget st.hp n = some o → ∀ b sz k, ρ n = some ⟨some (b, sz), k⟩ → w'.heap[b]? = w.heap[b]? := by
    intro n o ho b sz k hρ
    have hob := h.heap.obj n o ho
    rcases hd.blocks b with e | ⟨_, e1, e2⟩
    · exact e
    · exfalso
      cases o with
      | box T v => obtain ⟨b', cells, t, fr, h1, h2, _⟩ := hob; rw [hρ] at h1; cases h1; rw [e1] at h2; cases h2
      | row sz es fx mv =>
        rcases hob with ⟨_, h1⟩ | ⟨b', cells, t, fr, _, h1, _, h2, _⟩
        · rw [hρ] at h1; cases h1
        · rw [hρ] at h1; cases h1; rw [e1] at h2; cases h2
      | loop r l => obtain ⟨b', L, h1, h2, _⟩ := hob; rw [hρ] at h1; cases h1; rw [e1] at h2; cases h2
      | dblk => exact hob
  refine ⟨fun t => (h.slot t).ext hx fun _ _ h => h, ⟨fun n o ho => (h.heap.obj n o ho).keep hx rfl (fun _ _ h => h) (fun b sz k hb => ⟨same n o ho b sz k hb, fun _ h => h⟩), h.heap.dom, h.heap.inj⟩, h.mine, h.old, ?_⟩
  have f := h.fr
  refine ⟨f.ext.trans hx, f.new, fun b o hb => by rw [hd.size]; exact f.bnd b o hb, by rw [hd.size]; exact f.size, fun b hb hF => ?_, fun b hb => ?_, hd.os.trans f.os, hd.tape.trans f.tape, hd.output.trans f.output⟩
  · rcases hd.blocks b with e | ⟨e1, _⟩
    · exact e.trans (f.keep b hb hF)
    · omega
  · rcases hd.blocks b with e | ⟨e1, _⟩
    · exact e.trans (f.dfr b hb)
    · exact absurd (lt_of_block hb) (Nat.not_lt.2 e1)

theorem leaves_ok {P : Program} {F : Fence} {n : Nat} {fn : Func} {tmps : Array Value} {R : Ending → World → Prop} {u : FrameMode} (hu : u ≠ .run) {m : Nat} {w0 : World} : ∀ (ds : List Deferred) (w : World), Marks m ds w → Dead m w0 w →
    (∀ w', Dead m w0 w' → LeavesIn F n P fn tmps R [] u w') → LeavesInM F n P fn tmps R ds u w := by
  intro ds
  induction ds with
  | nil => intro w _ hd h; exact h w hd
  | cons d ds ih =>
    intro w hm hd h
    obtain ⟨b, e1, e2, e3⟩ := hm.2 d (by simp)
    have hlt := lt_of_block e3
    have hnd := List.nodup_cons.1 hm.1
    refine ⟨hu, .inl ⟨b, w.putObj b (.deferred none), by rw [e1], run_takeDeferred e3, ih _ ⟨hnd.2, fun d' hd' => ?_⟩ ⟨by rw [World.putObj_size]; exact hd.size, fun b' => ?_, hd.os, hd.tape, hd.output⟩ h⟩⟩
    · obtain ⟨b', g1, g2, g3⟩ := hm.2 d' (List.mem_cons_of_mem _ hd')
      have hne : b' ≠ b := fun e => by subst e; rw [← e1] at g1; subst g1; exact hnd.1 hd'
      exact ⟨b', g1, g2, by rw [World.putObj_heap_other hne]; exact g3⟩
    · by_cases e : b' = b
      · subst e
        rw [World.putObj_heap_same hlt]
        rcases hd.blocks b' with h1 | ⟨h1, h2, h3⟩
        · exact .inr ⟨e2, h1 ▸ e3, rfl⟩
        · exact .inr ⟨h1, h2, rfl⟩
      · rw [World.putObj_heap_other e]; exact hd.blocks b'

theorem runBody_ok (GE : GSound G) {call : CallFn} (hcall : CallOK G call) {loop : LoopFn} (hloop : ∀ f c st r, loop f c st = some r → LoopSound G f c st r)
    {g : FuncId} {args : List AV} {hp : Heap} {r : ARes × Heap} (hE : G.E g = true) (hr : runBody G call loop g args hp = some r) : CallSound G.P g args hp r := by
  intro S ρ w vs hl H hb hlen hargs
  unfold runBody at hr
  rw [Option.bind_eq_some_iff] at hr; obtain ⟨fn, hfn, hr⟩ := hr
  rw [Option.bind_eq_some_iff] at hr; obtain ⟨c, hc, hr⟩ := hr
  rw [Option.bind_eq_some_iff] at hr; obtain ⟨⟨x, s⟩, hx, hr⟩ := hr
  have hbeg := begin_ok (k := fn.ntmps - vs.size) hl H hb hlen hargs
  have hge : fn.ntmps ≤ (vs ++ Array.replicate (fn.ntmps - vs.size) Go.undef).size := by simp; omega
  have hd := dstsB_mono hge c (GE.ok.dsts g fn c hE hfn hc)
  have hw := codeX_ok (ro := none) (a := { tmps := vs ++ Array.replicate (fn.ntmps - vs.size) Go.undef, defers := [] }) GE hcall hloop c (.inl ⟨rfl, Nat.le_trans (GE.ntm g fn hE hfn) hge⟩) hd (GE.plans g fn c hE hfn hc) (base := []) ⟨[], rfl, List.nodup_nil, fun d hd => by simp at hd⟩ hbeg rfl hx
  refine (callsIn_of_wp_marks hfn hc (GE.ok.inP g hE) (wpIn_mono hw fun e a' w' ⟨k1, k2, S', ρ', k3, k4⟩ => ?_))
  have fin : ∀ {vs}, resL G s fn.results.toList = some vs → ∀ w2, Dead (envOf S ρ w hl).W0.heap.size w' w2 → ∃ v, (results fn a'.tmps).run G.P w2 = .ok v w2 ∧ ∃ S'' ρ'', Out (envOf S ρ w hl) (finishA G g (hp.map (·.1)) (resOf vs) s).2 S'' ρ'' w2 ∧ VR S'' ρ'' w2 (finishA G g (hp.map (·.1)) (resOf vs) s).1 v := by
    intro vs hvs w2 hdead
    have k3 := k3.dead hdead
    obtain ⟨u, hu, hvu⟩ := results_ok k3 hvs
    refine ⟨u, hu, ?_⟩
    unfold finishA
    split
    · obtain ⟨ρ'', o1, o2⟩ := out_ok (m := hp.map (·.1)) k3.heap k3.mine k3.old k3.fr hvu
      exact ⟨S', ρ'', o1, o2⟩
    · obtain ⟨S2, f1, f2, f3, f4⟩ := k3.fix (resOf vs).rows
      have hv2 := rv_fixed k3 f1 f2 f3 f4 hvu fun n hn => hn
      obtain ⟨ρ'', o1, o2⟩ := out_ok (m := hp.map (·.1)) f2.heap f2.mine f2.old f2.fr hv2
      exact ⟨S2, ρ'', o1, o2⟩
  obtain ⟨ms, hms, k1⟩ := k1
  rw [List.append_nil] at hms
  rw [← hms] at k1
  have dead0 : Dead (envOf S ρ w hl).W0.heap.size w' w' := ⟨rfl, fun _ => .inl rfl, rfl, rfl, rfl⟩
  have retd : ∀ {vs}, resL G s fn.results.toList = some vs → r = retA (finishA G g (hp.map (·.1)) (resOf vs) s) → LeavesInM (FW none) 0 G.P fn a'.tmps (fun e w' => ∃ S' ρ', Out (envOf S ρ w hl) r.2 S' ρ' w' ∧ AnswerR S' ρ' w' r.1 e) a'.defers .returning w' := by
    intro vs hvs e
    subst e
    refine leaves_ok (by simp) a'.defers w' k1 dead0 fun w2 hdead => ?_
    obtain ⟨v, h1, S'', ρ'', h2, h3⟩ := fin hvs w2 hdead
    exact ⟨v, h1, S'', ρ'', h2, h3⟩
  cases x with
  | normal =>
    cases e with
    | normal =>
      simp only at hr
      obtain ⟨vs, hvs, e⟩ := Option.map_eq_some_iff.1 hr
      exact retd hvs e.symm
    | _ => exact k4.elim
  | ret =>
    cases e with
    | ret =>
      simp only at hr
      obtain ⟨vs, hvs, e⟩ := Option.map_eq_some_iff.1 hr
      exact retd hvs e.symm
    | _ => exact k4.elim
  | pan v =>
    cases e with
    | panic ch =>
      simp only [Option.some.injEq] at hr
      subst hr
      refine leaves_ok (by simp) a'.defers w' k1 dead0 fun w2 hdead => ?_
      have k3 := k3.dead hdead
      obtain ⟨u, rfl, hvu⟩ := k4
      have hx2 : VR S' ρ' w2 v u := hvu.ext (hdead.ext S') fun _ _ h => h
      obtain ⟨S2, f1, f2, f3, f4⟩ := k3.fix v.rows
      have hv2 := rv_fixed k3 f1 f2 f3 f4 hx2 fun n hn => hn
      obtain ⟨ρ'', o1, o2⟩ := out_ok (m := hp.map (·.1)) f2.heap f2.mine f2.old f2.fr hv2
      exact ⟨S2, ρ'', o1, u, rfl, o2⟩
    | _ => exact k4.elim
  | exit i => simp at hr

end Go.Proofs.Ytonaejfpiihfhaa.Abs

/- Rounds; and all of it: WHAT THE INTERPRETER TELLS IS SO. -/
namespace Go.Proofs.Ytonaejfpiihfhaa.Abs
open Go Go.RowKit
set_option linter.unusedSimpArgs false
set_option linter.unusedVariables false

variable {G : Cfg} {S : Stab} {ρ : Rho} {w : World} {E : Env} {st : ASt} {a : Act}

theorem params_ok : ∀ (ps : List Nat) (xs : List AV) (us : List Value) (sl : Slots) (tm : Array Value), (∀ t ∈ ps, t < tm.size) → xs.length = us.length →
    (∀ (j : Nat) c v, xs[j]? = some c → us[j]? = some v → VR S ρ w c v) → (∀ t, VR S ρ w ((aget sl t).getD .undef) (tm.getD t Go.undef)) →
    ∀ t, VR S ρ w ((aget ((ps.zip xs).reverse ++ sl) t).getD .undef) (((ps.zip us).foldl (fun tmps (t, a) => tmps.setIfInBounds t a) tm).getD t Go.undef) := by
  intro ps
  induction ps with
  | nil => intro xs us sl tm _ _ _ h t; simpa using h t
  | cons p ps ih =>
    intro xs us sl tm hp hl hv h t
    match xs, us, hl with
    | [], [], _ => simpa using h t
    | x :: xs, u :: us, hl =>
      simp only [List.zip_cons_cons, List.reverse_cons, List.append_assoc, List.singleton_append, List.foldl_cons]
      refine ih xs us ((p, x) :: sl) (tm.setIfInBounds p u) (fun t ht => by simpa using hp t (List.mem_cons_of_mem _ ht)) (by simpa using hl) (fun j c v hc hu => hv (j + 1) c v (by simpa using hc) (by simpa using hu)) (fun t => ?_) t
      rw [aget_cons]
      by_cases e : p = t
      · subst e
        have hlt := hp p (by simp)
        simp only [if_true, Option.getD_some, Array.getD_eq_getD_getElem?, Array.getElem?_setIfInBounds_self_of_lt hlt]
        exact hv 0 x u rfl rfl
      · rw [if_neg e]
        simp only [Array.getD_eq_getD_getElem?, Array.getElem?_setIfInBounds_ne e]
        simpa only [Array.getD_eq_getD_getElem?] using h t

theorem foldl_size (l : List (Nat × Value)) : ∀ tm : Array Value, (l.foldl (fun tmps (t, a) => tmps.setIfInBounds t a) tm).size = tm.size := by
  induction l with
  | nil => intro tm; rfl
  | cons p l ih => intro tm; rw [List.foldl_cons, ih]; simp

/-- The record, found again. -/
theorem loop_again {hl : Ent S ρ w} {S' : Stab} {ρ' : Rho} {tm : Array Value} {w' : World} (h : SR (envOf S ρ w hl) st S' ρ' tm w') {L : Nat} {b sz k : Nat} (hρ : ρ L = some ⟨some (b, sz), k⟩) {r : LRec} {sl : Slots} (ho : aget st.hp L = some (.loop r sl)) :
    ρ' L = some ⟨some (b, sz), k⟩ ∧ ∃ R : Loop, w'.heap[b]? = some (.loop R) ∧ R.state = r.state ∧ R.pending = r.pending := by
  have h1 := h.old L _ ho rfl _ hρ
  obtain ⟨b', R, k1, k2, _, k4, k5, _⟩ := h.heap.obj L _ ho
  rw [h1] at k1; cases k1
  exact ⟨h1, R, k2, k4, k5⟩

/-- What is asked at a round's end; by a panic, too. -/
def roundPost2 (P : Program) (F : Fence) (n l : Nat) (fn : Func) (R : Ending → World → Prop) : Exit → Act → World → Prop
  | .panic chain, a, w => LeavesInM (F.inRound l) n P fn a.tmps R a.defers (.panicking chain) w
  | .normal, a, w => roundPost P l R .normal a w
  | .ret, a, w => roundPost P l R .ret a w
  | .exit id, a, w => roundPost P l R (.exit id) a w
  | .goto t, a, w => roundPost P l R (.goto t) a w
  | .outgrown, _, _ => False
theorem roundIn_of_wpIn2 {P : Program} {F : Fence} {n l : Nat} {f : FuncId} {fn : Func} {tmps : Array Value} {assign body : Code} {w : World} {R : Ending → World → Prop} (hF : F.fn f) (hfn : P.funcs[f]? = some fn)
    (h : assign.wpIn (F.inRound l) n P (Exit.then (fun a₁ w₁ => ∃ w₂, (Instr.beginRound l).run P w₁ = .ok () w₂ ∧ body.wpIn (F.inRound l) n P (roundPost2 P F n l fn R) a₁ w₂) (fun _ _ _ => False))
      { tmps := tmps, defers := [] } w) :
    RoundIn F n P l f tmps assign body w R := by
  refine ⟨hF, fun c cs hr => ?_⟩
  let b : Frame := { (default : Frame) with fn := f, kind := .normal, roundOf := some l }
  have hb0 : Frame.round l f tmps assign body .normal = b.atR { tmps := tmps, defers := [] } [.code assign, .beginRound, .code body] := by
    simp [Frame.round, Frame.atR, b]
  have hr' : (F.inRound l).room ((c :: cs).length + 1 + n) := hr
  have hF' : (F.inRound l).fn b.fn := hF
  obtain ⟨e, a₁, w₁, hq, harr⟩ := h b [.beginRound, .code body] (c :: cs) rfl hF' hr'
  rw [← hb0] at harr
  cases e with
  | normal =>
    obtain ⟨w₂, hbr, hbody⟩ := hq
    have s1 : StepsIn (Machine.fenced P (F.inRound l)) P (lone (b.atR a₁ [.beginRound, .code body]) (c :: cs) w₁) (lone (b.atR a₁ [.code body]) (c :: cs) w₂) :=
      .one (fenced_calm (fr := b.atR a₁ [.beginRound, .code body]) hF' hr' rfl) (stepR_beginRound rfl hbr)
    obtain ⟨e₂, a₂, w₃, hq₂, harr₂⟩ := hbody b [] (c :: cs) rfl hF' hr'
    cases e₂ with
    | normal =>
      obtain ⟨v, w₄, hend, hR⟩ := hq₂
      exact ⟨.returned v, w₄, hR, (StepsIn.trans harr s1).trans (StepsIn.trans harr₂ (.one (fenced_calm (fr := b.atR a₂ []) hF' hr' rfl) (stepR_round_end rfl rfl hend)))⟩
    | ret =>
      obtain ⟨v, w₄, hend, hR⟩ := hq₂
      obtain ⟨k₁, hs⟩ := harr₂.2 rfl
      exact ⟨.returned v, w₄, hR, (StepsIn.trans harr s1).trans (StepsIn.trans hs (.one (fenced_calm (fr := b.atR a₂ (.code .ret :: k₁)) hF' hr' rfl) (stepR_round_ret rfl rfl hend)))⟩
    | exit id =>
      obtain ⟨v, w₄, hend, hR⟩ := hq₂
      obtain ⟨k₁, hk, hs⟩ := harr₂.2 rfl rfl
      exact ⟨.returned v, w₄, hR, (StepsIn.trans harr s1).trans (StepsIn.trans hs (.one (fenced_calm (fr := b.atR a₂ (.code (.exit id) :: k₁)) hF' hr' rfl) (stepR_round_exit rfl rfl hk hend)))⟩
    | goto t =>
      obtain ⟨v, w₄, hend, hR⟩ := hq₂
      obtain ⟨k₁, hk, hs⟩ := harr₂.2 rfl rfl
      exact ⟨.returned v, w₄, hR, (StepsIn.trans harr s1).trans (StepsIn.trans hs (.one (fenced_calm (fr := b.atR a₂ (.code (.goto t) :: k₁)) hF' hr' rfl) (stepR_round_goto rfl rfl hk hend)))⟩
    | panic chain =>
      obtain ⟨todo, hs₀⟩ := harr₂
      obtain ⟨e', w', fr', hR, hs, hfn', hl⟩ := leaves_stepsInM (F := F.inRound l) a₂.defers (.panicking chain) w₃ { b.atR a₂ todo with mode := .panicking chain } (c :: cs) rfl rfl rfl hfn rfl hF' hr' hq₂
      have h0 : StepsIn (Machine.fenced P (F.inRound l)) P (lone (Frame.round l f tmps assign body .normal) (c :: cs) w) (lone { b.atR a₂ todo with mode := .panicking chain } (c :: cs) w₃) := (StepsIn.trans harr s1).trans hs₀
      cases e' with
      | returned v => exact ⟨.returned v, w', hR, h0.trans (StepsIn.trans hs (.one (fenced_leaving (n := n) (hfn' ▸ hF') hr' hl) (step_leave_returned hl)))⟩
      | panicked ch => exact ⟨.panicked ch, w', hR, h0.trans (StepsIn.trans hs (.one (fenced_leaving (n := n) (hfn' ▸ hF') hr' hl) (step_leave_panicked hl)))⟩
      | outgrown => exact ⟨.outgrown, w', hR, Outgrown.of_steps h0.steps hs⟩
    | outgrown => exact hq₂.elim
  | exit id => exact hq.elim
  | goto t => exact hq.elim
  | ret => exact hq.elim
  | panic chain => exact hq.elim
  | outgrown => exact hq.elim

theorem runRound_ok (GE : GSound G) {call : CallFn} (hcall : CallOK G call) {loop : LoopFn} (hloop : ∀ f c st r, loop f c st = some r → LoopSound G f c st r)
    {L : Nat} {args : List AV} {hp : Heap} {r : ARes × Heap} (hr : runRound G call loop L args hp = some r) : RoundSound G.P L args hp r := by
  intro S ρ w us hl H hb hlen hargs b sz k hρ
  unfold runRound at hr
  split at hr
  case h_2 => cases hr
  rename_i r0 sl hob
  split at hr
  case isFalse => cases hr
  rename_i hck
  obtain ⟨c1, c2, c3⟩ := hck
  obtain ⟨⟨q1, q2, q3⟩, q4, q5, q6, q7⟩ := GE.rounds _ c3
  simp only at q1 q2 q3 q4 q5 q6 q7
  rw [Option.bind_eq_some_iff] at hr
  obtain ⟨⟨x, s1⟩, hx, hr⟩ := hr
  obtain ⟨b', R, k1, k2, k3, k4, k5, k7, k8, k9, k10, k11⟩ := H.obj L _ hob
  rw [hρ] at k1; cases k1
  refine ⟨R, k2, by rw [k7, ← hlen]; exact c2, ?_⟩
  rw [← Array.foldl_toList, Array.toList_zip]
  generalize htm : (R.params.toList.zip us.toList).foldl (fun tmps (t, a) => tmps.setIfInBounds t a) R.tmps = tm
  have hsz : tm.size = R.tmps.size := by rw [← htm]; exact foldl_size _ _
  have hbeg : SR (envOf S ρ w hl) { sl := (r0.ps.toList.zip args).reverse ++ sl, hp } S ρ tm w := by
    refine ⟨fun t => ?_, H, fun n b sz k h => .inl ⟨n, sz, k, h⟩, fun n o _ _ r hr => hr, ⟨Ext.refl S w, fun _ _ h => .inl h, hb, Nat.le_refl _, fun _ _ _ => rfl, fun _ h => h, rfl, rfl, rfl⟩⟩
    rw [← htm, k7]
    exact params_ok r0.ps.toList args us.toList sl R.tmps (fun t ht => by
      have := List.all_eq_true.1 q4 t ht
      have this : t < r0.nt := by simpa using this
      omega) (by simpa using hlen) (fun j c v hc hv => hargs j c v hc (by simpa using hv)) k11 t
  refine roundIn_of_wpIn2 (fn := (G.P.funcs[R.fn]?).getD default) (F := FW none) k10.2 (by rw [Array.getElem?_eq_getElem (by rw [GE.ok.size]; exact k10.2)]; rfl) ?_
  rw [k8, k9]
  have hasg := codeX_ok (ro := some b) (a := { tmps := tm, defers := [] }) GE hcall hloop r0.assign (.inr q3) (dstsB_mono (by show r0.nt ≤ tm.size; omega) _ q1) q2 (base := []) ⟨[], rfl, List.nodup_nil, fun d hd => by simp at hd⟩ hbeg rfl hx
  refine wpIn_mono hasg fun e a1 w1 ⟨m1, m2, S1, ρ1, m3, m4⟩ => ?_
  cases x with
  | exit i => cases hr
  | ret => cases hr
  | pan v => cases hr
  | normal =>
    cases e with
    | normal =>
      simp only at hr
      split at hr
      case h_2 => cases hr
      rename_i r1 sl1 hob1
      split at hr
      case isFalse => cases hr
      rename_i hready
      rw [Option.bind_eq_some_iff] at hr
      obtain ⟨⟨z, s3⟩, hz, hr⟩ := hr
      obtain ⟨hρ1, R1, n1, n2, n3⟩ := loop_again m3 hρ hob1
      refine ⟨_, run_beginRound n1 (by rw [n2]; exact hready), ?_⟩
      have hturn := m3.turn hob1 hρ1 n1 (r' := { r1 with state := .busy }) (R' := { R1 with state := .busy }) rfl n3 rfl rfl rfl rfl rfl rfl rfl rfl
      have hbody := codeX_ok (ro := some b) (n := a1.tmps.size) GE hcall hloop r0.body (.inr q7) (dstsB_mono (by rw [m2]; show r0.nt ≤ tm.size; omega) _ q5) q6 (E := envOf S ρ w hl) (a := a1) (by
        obtain ⟨ms, hms, m1⟩ := m1
        refine ⟨ms, hms, m1.1, fun d hd => ?_⟩
        obtain ⟨b', e1, e2, e3⟩ := m1.2 d hd
        refine ⟨b', e1, e2, ?_⟩
        have : b' ≠ b := fun e => by subst e; rw [n1] at e3; cases e3
        rw [World.putObj_heap_other this]; exact e3) hturn rfl hz
      refine wpIn_mono hbody fun e a3 w3 ⟨p1, p2, S3, ρ3, p3, p4⟩ => ?_
      have fin : ∀ jump : Option Code, ((jumpOf z).bind fun j => match aget s3.hp L with
          | some (.loop r2 sl2) => some (retA (outOf (hp.map (·.1)) (hput L (.loop { r2 with state := if j.isNone then .ready else .done, pending := j } sl2) s3.hp) (.bool j.isNone)))
          | _ => none) = some r → jumpOf z = some jump → ∃ v w', (Instr.endRound b jump).run G.P w3 = .ok v w' ∧ ∃ S' ρ', Out (envOf S ρ w hl) r.2 S' ρ' w' ∧ AnswerR S' ρ' w' r.1 (.returned v) := by
        intro jump hr e
        rw [e, Option.bind_some] at hr
        split at hr
        case h_2 => cases hr
        rename_i r2 sl2 hob2
        cases hr
        obtain ⟨hρ3, R3, o1, o2, o3⟩ := loop_again p3 hρ hob2
        have ht := p3.turn hob2 hρ3 o1 (r' := { r2 with state := if jump.isNone then .ready else .done, pending := jump }) (R' := { R3 with state := if jump.isNone then .ready else .done, pending := jump }) rfl rfl rfl rfl rfl rfl rfl rfl rfl rfl
        obtain ⟨ρ'', u1, u2⟩ := out_ok (m := hp.map (·.1)) (v := .bool jump.isNone) (u := .bool jump.isNone) ht.heap ht.mine ht.old ht.fr (.pure (.bool _))
        exact ⟨_, _, run_endRound jump o1, S3, ρ'', u1, u2⟩
      cases z with
      | pan v =>
        simp only at hr
        cases hr
        cases e with
        | panic ch =>
          obtain ⟨ms, hms, p1⟩ := p1
          rw [List.append_nil] at hms
          rw [← hms] at p1
          have dead0 : Dead (envOf S ρ w hl).W0.heap.size w3 w3 := ⟨rfl, fun _ => .inl rfl, rfl, rfl, rfl⟩
          refine leaves_ok (by simp) a3.defers w3 p1 dead0 fun w4 hdead => ?_
          have p3 := p3.dead hdead
          obtain ⟨u, rfl, hvu⟩ := p4
          have hx2 : VR S3 ρ3 w4 v u := hvu.ext (hdead.ext S3) fun _ _ h => h
          obtain ⟨S4, f1, f2, f3, f4⟩ := p3.fix v.rows
          have hv2 := rv_fixed p3 f1 f2 f3 f4 hx2 fun n hn => hn
          obtain ⟨ρ'', o1, o2⟩ := out_ok (m := hp.map (·.1)) f2.heap f2.mine f2.old f2.fr hv2
          exact ⟨S4, ρ'', o1, u, rfl, o2⟩
        | _ => exact p4.elim
      | normal =>
        cases e with
        | normal => exact (fin none hr rfl)
        | _ => exact p4.elim
      | exit i =>
        cases e with
        | exit i' =>
          have e1 : i = i' := p4
          subst e1
          exact (fin (some (.exit i)) hr rfl)
        | _ => exact p4.elim
      | ret =>
        cases e with
        | ret => exact (fin (some .ret) hr rfl)
        | _ => exact p4.elim
    | _ => exact m4.elim

end Go.Proofs.Ytonaejfpiihfhaa.Abs

/- Functions that defer one closure, which may recover. -/
namespace Go.Proofs.Ytonaejfpiihfhaa.Abs
open Go Go.RowKit
set_option linter.unusedSimpArgs false
set_option linter.unusedVariables false

variable {G : Cfg} {S : Stab} {ρ : Rho} {w : World} {E : Env} {st : ASt} {a : Act}

/-- Operations without calls, in a deferred call's frame. -/
theorem aopsB_ok {ops : Array Oper} {n : Nat} (hd : ops.toList.all (opDst n) = true) {cs : List Frame} {Q : Exit → Act → List Frame → World → Prop} (l : List Nat) :
    ∀ {E : Env} {st : ASt} {S : Stab} {ρ : Rho} {a : Act} {w : World} {r : ASt}, SR E st S ρ a.tmps w → a.tmps.size = n → aopsB G ops l st = some r →
      (∀ a' w' S' ρ', a'.defers = a.defers → a'.tmps.size = n → SR E r S' ρ' a'.tmps w' → Q .normal a' cs w') → wpOpsSIn (FW none) 0 G.P ops Q l a cs w := by
  induction l with
  | nil => intro E st S ρ a w r h hn hr hQ; cases hr; exact hQ a w S ρ rfl hn h
  | cons i l ih =>
    intro E st S ρ a w r h hn hr hQ
    simp only [aopsB] at hr
    rw [Option.bind_eq_some_iff] at hr; obtain ⟨o, ho, hr⟩ := hr
    rw [Option.bind_eq_some_iff] at hr; obtain ⟨g, hg, hr⟩ := hr
    simp only [wpOpsSIn, ho]
    have hw := guard_ok h hg
    have next : ∀ {u : Value} {w' : World} {S' : Stab} {ρ' : Rho} {v : AV} {s : ASt}, SR E s S' ρ' a.tmps w' → VR S' ρ' w' v u → aopsB G ops l (s.put o.dst v) = some r → wpOpsSIn (FW none) 0 G.P ops Q l (a.put o.dst u) cs w' := by
      intro u w' S' ρ' v s hs hv hr
      exact ih (hs.putA hn (opDst_lt hd ho) hv) ((put_size _ _ _).trans hn) hr fun a' w' S' ρ' h1 h2 h3 => hQ a' w' S' ρ' (h1.trans (put_defers _ _ _)) h2 h3
    cases g with
    | false =>
      rw [hw]
      simp only [Bool.false_eq_true, if_false] at hr ⊢
      split at hr
      case isFalse => cases hr
      rename_i hsk
      refine ⟨about_skip h (about_of hd ho) (guard_off hg) hsk, ?_⟩
      exact next h (.tup [] #[] rfl (fun j c v hc => by simp at hc)) hr
    | true =>
      rw [hw]
      simp only [if_true] at hr ⊢
      rw [Option.bind_eq_some_iff] at hr; obtain ⟨x, hx, hr⟩ := hr
      split at hx
      · cases hx
      · rename_i hcal
        refine ⟨about_calm (about_of hd ho) (by simpa using hcal), ?_⟩
        have hdone := aopB_ok h o hx
        cases x with
        | pan v s => cases hr
        | val v s =>
          obtain ⟨m, u, w', S', ρ', hrun, hm, hs, hv⟩ := hdone
          rw [hrun]
          rcases hm with rfl | ⟨rfl, rfl⟩
          · exact next hs hv hr
          · exact next hs hv hr

theorem codeB_ok {n : Nat} {cs : List Frame} (c : Code) : ∀ {Q : Exit → Act → List Frame → World → Prop} {E : Env} {st : ASt} {S : Stab} {ρ : Rho} {a : Act} {w : World} {r : ASt}, dstsB n c = true → SR E st S ρ a.tmps w → a.tmps.size = n → codeB G c st = some r →
    (∀ a' w' S' ρ', a'.defers = a.defers → a'.tmps.size = n → SR E r S' ρ' a'.tmps w' → Q .normal a' cs w') → c.wpSIn (FW none) 0 G.P Q a cs w := by
  induction c with
  | skip => intro Q E st S ρ a w r _ h hn hr hQ; cases hr; exact wpSIn_of_wpIn rfl (wpIn_skip (hQ a w S ρ rfl hn h))
  | region id ops draw =>
    intro Q E st S ρ a w r hd h hn hr hQ
    simp only [codeB] at hr
    cases draw with
    | true => simp at hr
    | false => simp only [Bool.false_eq_true, if_false] at hr; exact wpSIn_region (aopsB_ok hd _ h hn hr hQ)
  | seq x y ihx ihy =>
    intro Q E st S ρ a w r hd h hn hr hQ
    simp only [dstsB, Bool.and_eq_true] at hd
    simp only [codeB] at hr
    rw [Option.bind_eq_some_iff] at hr; obtain ⟨s, h1, h2⟩ := hr
    exact wpSIn_seq (ihx hd.1 h hn h1 fun a' w' S' ρ' g1 g2 g3 => ihy hd.2 g3 g2 h2 fun a'' w'' S'' ρ'' k1 k2 k3 => hQ a'' w'' S'' ρ'' (k1.trans g1) k2 k3)
  | cond c x y ihx ihy =>
    intro Q E st S ρ a w r hd h hn hr hQ
    simp only [dstsB, Bool.and_eq_true] at hd
    cases hc : st.ev c with
    | bool t =>
      have hv := h.ev c
      rw [hc] at hv
      simp only [codeB, hc] at hr
      cases t with
      | true => exact wpSIn_cond (vr_bool hv) (ihx hd.1 h hn (by simpa using hr) hQ)
      | false => exact wpSIn_cond (vr_bool hv) (ihy hd.2 h hn (by simpa using hr) hQ)
    | _ => simp [codeB, hc] at hr
  | _ => intro Q E st S ρ a w r _ _ _ hr; cases hr

/-- What recover finds in the frame below. -/
def Finds (u : FrameMode) (uv : Value) : Prop := (u = .returning ∧ uv = .nilIface) ∨ u = .panicking [{ v := uv, recovered := false }]

theorem recover_call {o : Oper} (h : isRecover o.op = true) : ∀ c, o.op = .call c → ∃ b, c.callee = .builtin b := by
  intro c e
  unfold isRecover at h
  rw [e] at h
  simp only at h
  split at h
  · rename_i h1 _; exact ⟨_, h1⟩
  · cases h
theorem recover_op {o : Oper} (h : isRecover o.op = true) {P : Program} : (execOp a.eval o).run P w = .ok .recover w := by
  unfold isRecover at h
  split at h
  · rename_i c hc
    split at h
    · rename_i h1 h2
      unfold execOp
      rw [hc]
      simp only [resolve, h1]
      rfl
    · cases h
  · cases h

/-- The closure, entered as a deferred call. -/
theorem runClosure_ok (GE : GSound G)
    {h : FuncId} (hE : G.E h = true) {args : List AV} {hp : Heap} {rv : AV} {r : ARes × Heap} (hr : runClosure G rv h args hp = some r)
    (hl : Ent S ρ w) (H : HR S ρ w hp) (hb : ∀ b o, S b o → b < w.heap.size) {vs : Array Value} (hlen : args.length = vs.size)
    (hargs : ∀ (j : Nat) c v, args[j]? = some c → vs[j]? = some v → VR S ρ w c v) {u : FrameMode} {uv : Value} (hu : Finds u uv) (hrv : VR S ρ w rv uv) :
    CallsDIn (FW none) 0 G.P h vs u w fun e u' w' => settle u' = .returning ∧ (∃ v, e = .returned v) ∧ ∃ S' ρ', Out (envOf S ρ w hl) r.2 S' ρ' w' ∧ AnswerR S' ρ' w' r.1 e := by
  unfold runClosure at hr
  rw [Option.bind_eq_some_iff] at hr; obtain ⟨fn, hfn, hr⟩ := hr
  rw [Option.bind_eq_some_iff] at hr; obtain ⟨c, hc, hr⟩ := hr
  split at hr
  case h_2 => cases hr
  rename_i id ops rest
  rw [Option.bind_eq_some_iff] at hr; obtain ⟨o, ho, hr⟩ := hr
  split at hr
  case isFalse => cases hr
  rename_i hck
  simp only [Bool.and_eq_true] at hck
  obtain ⟨⟨hrec, hguard⟩, hres⟩ := hck
  rw [Option.bind_eq_some_iff] at hr; obtain ⟨s1, hs1, hr⟩ := hr
  obtain ⟨s2, hx, rfl⟩ := Option.map_eq_some_iff.1 hr
  have hbeg := begin_ok (k := fn.ntmps - vs.size) hl H hb hlen hargs
  have hge : fn.ntmps ≤ (vs ++ Array.replicate (fn.ntmps - vs.size) Go.undef).size := by simp; omega
  generalize htm : vs ++ Array.replicate (fn.ntmps - vs.size) Go.undef = tm at *
  have hd := dstsB_mono hge _ (GE.ok.dsts h fn _ hE hfn hc)
  simp only [dstsB, Bool.and_eq_true] at hd
  have hsz : ∃ k, ops.size = k + 1 := by
    have := (Array.getElem?_eq_some_iff.1 ho).1
    exact ⟨ops.size - 1, by omega⟩
  obtain ⟨k, hk⟩ := hsz
  refine callsDIn_of_wpSIn hfn hc (GE.ok.inP h hE) fun c₀ cs hc0 => ?_
  rw [htm]
  -- what the stack is behind recover
  obtain ⟨u', cs', hcs', hset, hstep⟩ : ∃ u' cs', cs' = { c₀ with mode := u' } :: cs ∧ settle u' = .returning ∧
      (recoverD (c₀ :: cs) = some (uv, cs') ∨ (recoverD (c₀ :: cs) = none ∧ uv = .nilIface ∧ cs' = c₀ :: cs)) := by
    rcases hu with ⟨e1, e2⟩ | e1
    · refine ⟨.returning, c₀ :: cs, ?_, rfl, .inr ⟨?_, e2, rfl⟩⟩
      · have : c₀ = { c₀ with mode := .returning } := by rw [← e1, ← hc0]
        rw [← this]
      · simp [recoverD, hc0, e1]
    · refine ⟨.panicking [{ v := uv, recovered := true }], _, rfl, rfl, .inl ?_⟩
      simp [recoverD, hc0, e1]
  refine wpSIn_seq (wpSIn_region ?_)
  have hrange : List.range ops.size = 0 :: List.range' 1 (ops.size - 1) := by
    rw [hk, List.range_eq_range', List.range'_succ]; simp
  rw [hrange]
  simp only [wpOpsSIn, ho]
  refine ⟨fun q hq => (by rw [about_none (recover_call hrec)] at hq; cases hq), ?_⟩
  have hw : Region.wanted o (yielded ops tm) = true := by
    unfold Region.wanted
    cases hg : o.guard with
    | none => rfl
    | some p => rw [hg] at hguard; cases hguard
  rw [hw]
  simp only [if_true]
  rw [recover_op hrec]
  simp only
  have hput : SR (envOf S ρ w hl) (({ sl := zipIx args 0, hp } : ASt).put o.dst rv) S ρ (({ tmps := tm, defers := [] } : Act).put o.dst uv).tmps w :=
    SR.putA (a := { tmps := tm, defers := [] }) hbeg rfl (opDst_lt hd.1 ho) hrv
  have goal : wpOpsSIn (FW none) 0 G.P ops (Exit.thenS (rest.wpSIn (FW none) 0 G.P (bodyPostS G.P fn c₀ cs fun e u' w' => settle u' = .returning ∧ (∃ v, e = .returned v) ∧ ∃ S' ρ', Out (envOf S ρ w hl) (retA (outOf (hp.map (·.1)) s2.hp (.tup []))).2 S' ρ' w' ∧ AnswerR S' ρ' w' (retA (outOf (hp.map (·.1)) s2.hp (.tup []))).1 e)) (bodyPostS G.P fn c₀ cs fun e u' w' => settle u' = .returning ∧ (∃ v, e = .returned v) ∧ ∃ S' ρ', Out (envOf S ρ w hl) (retA (outOf (hp.map (·.1)) s2.hp (.tup []))).2 S' ρ' w' ∧ AnswerR S' ρ' w' (retA (outOf (hp.map (·.1)) s2.hp (.tup []))).1 e))
      (List.range' 1 (ops.size - 1)) (({ tmps := tm, defers := [] } : Act).put o.dst uv) cs' w := by
    refine aopsB_ok (n := tm.size) hd.1 _ hput (put_size _ _ _) hs1 fun a1 w1 S1 ρ1 g1 g2 g3 => ?_
    show rest.wpSIn (FW none) 0 G.P _ a1 cs' w1
    have g1' : a1.defers = [] := g1.trans (put_defers _ _ _)
    refine codeB_ok rest hd.2 g3 g2 hx fun a2 w2 S2 ρ2 m1 m2 m3 => ?_
    have hresults : (results fn a2.tmps).run G.P w2 = .ok (.tuple #[]) w2 := by
      have : fn.results = #[] := by simpa using hres
      simp [results, this]
    obtain ⟨ρ3, o1, o2⟩ := out_ok (m := hp.map (·.1)) (v := .tup []) (u := .tuple #[]) m3.heap m3.mine m3.old m3.fr (.tup [] #[] rfl fun j c v hc => by simp at hc)
    exact ⟨m1.trans g1', u', hcs', .tuple #[], hresults, hset, ⟨_, rfl⟩, S2, ρ3, o1, o2⟩
  rcases hstep with e | ⟨e1, e2, e3⟩
  · rw [e]; exact goal
  · rw [e1]; subst e2; rw [← e3]; exact goal

/-- A function value that is called, in whatever way. -/
theorem callF_ok {tm : Array Value} (h : SR E st S ρ tm w) {cf : CallFn} {Cc : Array Value → (Ending → World → Prop) → Prop} (hmono : ∀ vs R R', Cc vs R → (∀ e w, R e w → R' e w) → Cc vs R') {g : FuncId} {first caps : List AV}
    (hfn : ∀ (S' : Stab) (ρ' : Rho) args hp r (vs : Array Value) (hl : Ent S' ρ' w), (∀ b o, S b o → S' b o) → cf g args hp = some r → HR S' ρ' w hp → (∀ b o, S' b o → b < w.heap.size) → args.length = vs.size →
      (∀ (j : Nat) c v, args[j]? = some c → vs[j]? = some v → VR S' ρ' w c v) → Cc vs fun e w' => ∃ S'' ρ'', Out (envOf S' ρ' w hl) r.2 S'' ρ'' w' ∧ AnswerR S'' ρ'' w' r.1 e)
    {d : Option Nat} {uf : Value} (hf : VR S ρ w (.fn (.func g) first caps) uf) {r : AR × List Nat} (hr : callB G cf d (.fn (.func g) first caps) [] st = some r) :
    ∃ vx vy, G.E g = true ∧ uf = .func (.func g) vx vy ∧ Cc (vx ++ vy) (CallDone E tm ρ r.2 r.1) := by
  unfold callB at hr
  dsimp only at hr
  split at hr
  case isFalse => cases hr
  rename_i hc
  simp only [Bool.and_eq_true, List.all_eq_true, decide_eq_true_eq] at hc
  obtain ⟨⟨hE, hRB⟩, hns⟩ := hc
  obtain ⟨vx, vy, e, hx, hy, hvx, hvy⟩ := vr_fn hf
  refine ⟨vx, vy, hE, e, ?_⟩
  rw [List.append_nil] at *
  generalize hall : first ++ caps = all at *
  have hal : all.length = (vx ++ vy).size := by rw [← hall]; simp; omega
  have hav : ∀ (j : Nat) c v, all[j]? = some c → (vx ++ vy)[j]? = some v → VR S ρ w c v := by
    intro j c v hcj hvj
    rw [← hall] at hcj
    rcases Nat.lt_or_ge j first.length with h1 | h1
    · rw [List.getElem?_append_left h1] at hcj
      rw [Array.getElem?_append_left (by omega)] at hvj
      exact hvx j c v hcj hvj
    · rw [List.getElem?_append_right h1] at hcj
      rw [Array.getElem?_append_right (by omega), ← hx] at hvj
      exact hvy _ c v hcj hvj
  obtain ⟨S1, k1, k2, k3, k4⟩ := h.fix (prepRows G g all 0)
  generalize hst1 : st.fix (prepRows G g all 0) = st1 at *
  generalize hpre : prepL G g st.hp all 0 = pre at *
  generalize hnsd : reachL 40 st1.hp (AV.namesL pre) [] = ns at *
  have hnd : ns.Nodup := by rw [← hnsd]; exact reachL_nodup _ _ _ _ List.nodup_nil
  have hlen : ns.length ≤ 40 := by rw [← hnsd]; simpa using reachL_length st1.hp 40 (AV.namesL pre) []
  have hprev : ∀ (j : Nat) c v, pre[j]? = some c → (vx ++ vy)[j]? = some v → VR S1 ρ w c v := by
    intro j c v hcj hvj
    rw [← hpre, prepL_get] at hcj
    obtain ⟨x, hx, rfl⟩ := Option.map_eq_some_iff.1 hcj
    rw [Nat.zero_add]
    split
    · exact (hav j x v hx hvj).ext (Ext.more k1 w) fun _ _ h => h
    · rename_i hi
      refine rv_fixed h k1 (hst1 ▸ k2) k3 (hst1 ▸ k4) (hav j x v hx hvj) fun n hn => prepRows_mem G g all 0 j x n hx (by rw [Nat.zero_add]; simpa using hi) hn
  rw [Option.bind_eq_some_iff] at hr
  obtain ⟨⟨res, hp1⟩, hy1, hr⟩ := hr
  obtain ⟨st3, hst3, rfl⟩ := Option.map_eq_some_iff.1 hr
  refine hmono _ _ _ (hfn S1 (subRho ns ρ) _ _ _ (vx ++ vy) ⟨subRho_low hlen, k2.fr.glob⟩ k1 hy1 (k2.heap.sub hnd) k2.fr.bnd (by rw [renL_length, ← hpre, prepL_length]; exact hal) fun j c v hcj hvj => ?_) fun e w' hh => back_ok k2 hnd hlen hns hst3 hh
  rw [renL_get] at hcj
  obtain ⟨x, hx, rfl⟩ := Option.map_eq_some_iff.1 hcj
  exact (hprev j x v hx hvj).sub

/-! ### The whole state under other names -/
theorem aget_renHeap (ns : List Nat) (hp : Heap) (k : Nat) : aget (renHeap ns hp) k = (ns[k]?).bind fun n => (aget hp n).map (AObj.ren (toMap ns)) := by
  have := aget_subHeap' (fun n => (aget hp n).map (AObj.ren (toMap ns))) ns 0 k
  rw [Nat.zero_add] at this
  rw [← this]
  unfold renHeap
  congr 2
  funext p
  cases aget hp p.2 <;> rfl

def envR (E : Env) (S : Stab) (ρ : Rho) (w : World) (hl : Ent S ρ w) : Env := ⟨w, S, fun b => E.F b ∨ E.W0.heap.size ≤ b, ρ, hl.low, hl.glob⟩

theorem SR.rename {tm : Array Value} (h : SR E st S ρ tm w) {ns : List Nat} (hnd : ns.Nodup) (hl : Ent S (subRho ns ρ) w) :
    SR (envR E S (subRho ns ρ) w hl) { sl := st.sl.map fun p => (p.1, p.2.ren (toMap ns)), hp := renHeap ns st.hp } S (subRho ns ρ) tm w := by
  refine ⟨fun t => ?_, ⟨fun k o ho => ?_, fun k hk => ?_, fun k k' b sz sz' j j' h1 h2 => ?_⟩, fun n b sz k hn => ?_, fun n o _ _ r hr => hr, ⟨Ext.refl S w, fun _ _ h => .inl h, h.fr.bnd, Nat.le_refl _, fun _ _ _ => rfl, fun _ h => h, rfl, rfl, rfl⟩⟩
  · show VR S (subRho ns ρ) w ((aget (st.sl.map fun p => (p.1, p.2.ren (toMap ns))) t).getD .undef) _
    rw [aget_map]
    have := h.slot t
    unfold ASt.slot at this
    cases hs : aget st.sl t with
    | none => exact .undef _
    | some v => rw [hs] at this; exact this.sub
  · rw [aget_renHeap, Option.bind_eq_some_iff] at ho
    obtain ⟨n, hn, ho⟩ := ho
    obtain ⟨o', ho', rfl⟩ := Option.map_eq_some_iff.1 ho
    refine (h.heap.obj n o' ho').ren (fun m j r hm hr => ?_) (fun r hr => ?_)
    · have := toMap_some hm; simp [subRho, this, hr]
    · simp [subRho, hn, hr]
  · rw [aget_renHeap] at hk
    unfold subRho
    cases hn : ns[k]? with
    | none => rfl
    | some n =>
      simp only [hn, Option.bind_some, Option.map_eq_none_iff] at hk
      exact h.heap.dom n hk
  · exact (h.heap.sub hnd).inj k k' b sz sz' j j' h1 h2
  · simp only [subRho] at hn
    rw [Option.bind_eq_some_iff] at hn
    obtain ⟨m, hm, hr⟩ := hn
    exact .inl (h.mine m b sz k hr)

theorem SR.unname {tm : Array Value} (h : SR E st S ρ tm w) {ns : List Nat} {hl : Ent S (subRho ns ρ) w} (hin : ∀ n r, E.R0 n = some r → ns[n]? = some n ∧ ∃ o, aget st.hp n = some o ∧ o.moved = false)
    {st' : ASt} {S' : Stab} {ρ' : Rho} {tm' : Array Value} {w' : World} (h' : SR (envR E S (subRho ns ρ) w hl) st' S' ρ' tm' w') : SR E st' S' ρ' tm' w' := by
  have f := h'.fr
  have h0 := h.fr
  refine ⟨h'.slot, h'.heap, fun n b sz k hn => ?_, fun n o ho hm r hr => ?_, ⟨h0.ext.trans f.ext, fun b o hS => ?_, f.bnd, Nat.le_trans h0.size f.size, fun b hb hnF => ?_, fun b hb => f.dfr b (h0.dfr b hb), f.os.trans h0.os, f.tape.trans h0.tape, f.output.trans h0.output⟩⟩
  · rcases h'.mine n b sz k hn with hx | hx
    · exact hx
    · exact .inr (Nat.le_trans h0.size hx)
  · obtain ⟨g1, o0, g2, g3⟩ := hin n r hr
    exact h'.old n o ho hm r (by show subRho ns ρ n = some r; simp [subRho, g1, h.old n o0 g2 g3 r hr])
  · rcases f.new b o hS with hx | hx | hx
    · exact h0.new b o hx
    · exact .inr hx
    · exact .inr (.inr (Nat.le_trans h0.size hx))
  · refine (f.keep b (Nat.lt_of_lt_of_le hb h0.size) fun hx => ?_).trans (h0.keep b hb hnF)
    rcases hx with hx | hx
    · exact hnF hx
    · omega

end Go.Proofs.Ytonaejfpiihfhaa.Abs

/- Functions that defer one closure, on: their bodies. -/
namespace Go.Proofs.Ytonaejfpiihfhaa.Abs
open Go Go.RowKit
set_option linter.unusedSimpArgs false
set_option linter.unusedVariables false

variable {G : Cfg} {S : Stab} {ρ : Rho} {w : World} {E : Env} {st : ASt} {a : Act}

theorem wpOpIn_mono2 {F : Fence} {n : Nat} {P : Program} {ops : Array Oper} {Q Q' : Exit → Act → World → Prop} {i : Nat} {a : Act} {w : World} {K K' : Act → World → Prop} (h : ∀ a w, K a w → K' a w) (hq : ∀ e a w, e ≠ .normal → Q e a w → Q' e a w)
    (hh : wpOpIn F n P ops Q i K a w) : wpOpIn F n P ops Q' i K' a w := by
  have hq' : LetsOut Q → LetsOut Q' := fun ⟨a, w, h⟩ => ⟨a, w, hq _ _ _ (by simp) h⟩
  unfold wpOpIn at *
  split
  · exact h _ _ (by simpa [*] using hh)
  · rename_i o ho
    simp only [ho] at hh
    split
    · rename_i hw
      simp only [hw, if_true] at hh
      unfold Oper.wpIn at *
      refine ⟨hh.1, ?_⟩
      have hh := hh.2
      generalize (o.semAt F.round a.eval).run P w = r at *
      cases r with
      | ok x w' =>
        cases x <;> simp only [Oper.uponIn] at hh ⊢ <;>
          first
            | exact h _ _ hh
            | exact ⟨hh.1, CallsIn.mono hh.2 (fun e w'' he => by cases e <;> first | exact h _ _ he | exact hq _ _ _ (by simp) he | exact hq' he)⟩
            | exact ⟨hh.1, RowsIn.mono hh.2 (fun _ _ he => h _ _ he)⟩
            | exact ⟨hh.1, RoundIn.mono hh.2 (fun e w'' he => by cases e <;> first | exact h _ _ he | exact hq _ _ _ (by simp) he | exact hq' he)⟩
      | halt x w' => cases x <;> simp only [Oper.uponIn] at hh ⊢ <;> exact hq _ _ _ (by simp) hh
    · rename_i hw; simp only [hw] at hh; exact ⟨hh.1, h _ _ hh.2⟩

theorem wpOpsIn_append {F : Fence} {n : Nat} {P : Program} {ops : Array Oper} {Q Q' : Exit → Act → World → Prop} (l2 : List Nat) (hq : ∀ e a w, e ≠ .normal → Q e a w → Q' e a w) (hn : ∀ a w, Q .normal a w → wpOpsIn F n P ops Q' l2 a w) :
    ∀ (l : List Nat) (a : Act) (w : World), wpOpsIn F n P ops Q l a w → wpOpsIn F n P ops Q' (l ++ l2) a w := by
  intro l
  induction l with
  | nil => intro a w h; exact hn a w h
  | cons i l ih =>
    intro a w h
    rw [List.cons_append, wpOpsIn_cons]
    rw [wpOpsIn_cons] at h
    exact wpOpIn_mono2 (fun a w h => ih a w h) hq h

theorem splitD_spec {c A rest : Code} {ops : Array Oper} {f : Operand} (h : splitD c = some (A, ops, f, rest)) :
    ∃ id o cc, c = .seq A (.seq (.region id ops false) rest) ∧ ops[ops.size - 1]? = some o ∧ o.op = .defer cc ∧ o.guard = none ∧ o.dst = none ∧ cc.callee = .value f ∧ cc.args = #[] := by
  unfold splitD at h
  split at h
  · split at h
    · rename_i o ho
      split at h
      · rename_i cc h1 h2 h3
        split at h
        · rename_i g e1 e2
          cases h
          exact ⟨_, o, cc, rfl, ho, h1, h2, h3, e1, by apply Array.ext'; exact e2⟩
        · cases h
      · cases h
    · cases h
  · cases h

theorem MarksB.cons {m : Nat} {base ds : List Deferred} {w : World} (d : Deferred) (h : ds = d :: base) : MarksB m (d :: base) ds w := ⟨[], by simp [h], List.nodup_nil, fun d hd => by simp at hd⟩

/-- The defer. -/
theorem defer_ok {P : Program} {ops : Array Oper} {i : Nat} {o : Oper} {cc : Call} {f : Operand} {h : FuncId} {vx vy : Array Value} (ho : ops[i]? = some o) (hop : o.op = .defer cc) (hog : o.guard = none) (hod : o.dst = none) (hcf : cc.callee = .value f) (hca : cc.args = #[])
    (hf : a.eval f = .func (.func h) vx vy) {Q : Exit → Act → World → Prop} (hQ : Q .normal { a with defers := { target := .fn (.func h) vy, args := vx } :: a.defers } w) : wpOpsIn (FW none) 0 P ops Q [i] a w := by
  rw [wpOpsIn_cons]
  unfold wpOpIn
  simp only [ho]
  have hw : Region.wanted o (yielded ops a.tmps) = true := by unfold Region.wanted; rw [hog]
  rw [hw]
  simp only [if_true]
  refine ⟨fun q hq => (by rw [about_none (fun c e => by rw [hop] at e; cases e)] at hq; cases hq), ?_⟩
  have hrun : (o.semAt (FW none).round a.eval).run P w = .ok (.defer { target := .fn (.func h) vy, args := vx }) w := by
    show Sem.run P (execOp a.eval o) w = _
    unfold execOp
    rw [hop]
    simp only [resolve, hcf, hca, hf, Deferred.ofValue]
    simp
  rw [hrun, Oper.uponIn_defer, hod]
  exact hQ

/-- Marks first, then what was deferred before. -/
theorem leaves_pre {P : Program} {F : Fence} {n : Nat} {fn : Func} {tmps : Array Value} {R : Ending → World → Prop} {u : FrameMode} (hu : u ≠ .run) {m : Nat} {w0 : World} {ds2 : List Deferred} : ∀ (ds : List Deferred) (w : World), Marks m ds w → Dead m w0 w →
    (∀ w', Dead m w0 w' → LeavesInM F n P fn tmps R ds2 u w') → LeavesInM F n P fn tmps R (ds ++ ds2) u w := by
  intro ds
  induction ds with
  | nil => intro w _ hd h; exact h w hd
  | cons d ds ih =>
    intro w hm hd h
    obtain ⟨b, e1, e2, e3⟩ := hm.2 d (by simp)
    have hlt := lt_of_block e3
    have hnd := List.nodup_cons.1 hm.1
    refine ⟨hu, .inl ⟨b, w.putObj b (.deferred none), by rw [e1], run_takeDeferred e3, ih _ ⟨hnd.2, fun d' hd' => ?_⟩ ⟨by rw [World.putObj_size]; exact hd.size, fun b' => ?_, hd.os, hd.tape, hd.output⟩ h⟩⟩
    · obtain ⟨b', g1, g2, g3⟩ := hm.2 d' (List.mem_cons_of_mem _ hd')
      have hne : b' ≠ b := fun e => by subst e; rw [← e1] at g1; subst g1; exact hnd.1 hd'
      exact ⟨b', g1, g2, by rw [World.putObj_heap_other hne]; exact g3⟩
    · by_cases e : b' = b
      · subst e
        rw [World.putObj_heap_same hlt]
        rcases hd.blocks b' with h1 | ⟨h1, h2, h3⟩
        · exact .inr ⟨e2, h1 ▸ e3, rfl⟩
        · exact .inr ⟨h1, h2, rfl⟩
      · rw [World.putObj_heap_other e]; exact hd.blocks b'

theorem namesL_mem {l : List AV} {j : Nat} {x : AV} {n : Nat} (h : l[j]? = some x) (hn : n ∈ x.names) : n ∈ AV.namesL l := by
  induction l generalizing j with
  | nil => simp at h
  | cons y l ih =>
    simp only [AV.namesL, List.mem_append]
    cases j with
    | zero => simp at h; subst h; exact .inl hn
    | succ j => exact .inr (ih (by simpa using h))

/-- A value hangs on its names alone. -/
theorem VR.byNames {S S' : Stab} {ρ ρ' : Rho} {w w' : World} (x : Ext S w S' w') {a : AV} {v : Value} (h : VR S ρ w a v) : (∀ id ∈ a.names, ∀ r, ρ id = some r → ρ' id = some r) → VR S' ρ' w' a v := by
  induction h with
  | pure h => intro _; exact .pure (h.ext x)
  | undef v => intro _; exact .undef v
  | own0 id h => intro hr; exact .own0 id (hr _ (by simp [AV.names]) _ h)
  | own id b sz n cap h hc hb =>
    intro hr
    obtain ⟨c, t, fr, h1, h2⟩ := hb
    obtain ⟨c', fr', h3, h4⟩ := x.shape b c t fr h1
    exact .own id b sz n cap (hr _ (by simp [AV.names]) _ h) hc ⟨c', t, fr', h3, h4 ▸ h2⟩
  | row0 id o c a => intro _; exact .row0 id o c a
  | row id o l b sz n cap h hl => intro hr; exact .row id o l b sz n cap (hr _ (by simp [AV.names]) _ h) hl
  | ptr id i o b sz n h => intro hr; exact .ptr id i o b sz n (hr _ (by simp [AV.names]) _ h)
  | yld id b sz n h => intro hr; exact .yld id b sz n (hr _ (by simp [AV.names]) _ h)
  | agg cs vs hl _ ih => intro hr; exact .agg cs vs hl fun j c v hc hv => ih j c v hc hv fun id hid => hr id (by simp only [AV.names]; exact namesL_mem hc hid)
  | tup cs vs hl _ ih => intro hr; exact .tup cs vs hl fun j c v hc hv => ih j c v hc hv fun id hid => hr id (by simp only [AV.names]; exact namesL_mem hc hid)
  | iface t a v _ ih => intro hr; exact .iface t a v (ih fun id hid => hr id (by simpa only [AV.names] using hid))
  | fn g a b va vb h1 h2 _ _ i1 i2 =>
    intro hr
    exact .fn g a b va vb h1 h2 (fun j c v hc hv => i1 j c v hc hv fun id hid => hr id (by simp only [AV.names, List.mem_append]; exact .inl (namesL_mem hc hid)))
      (fun j c v hc hv => i2 j c v hc hv fun id hid => hr id (by simp only [AV.names, List.mem_append]; exact .inr (namesL_mem hc hid)))

theorem runBodyD_ok (GE : GSound G) {call : CallFn} (hcall : CallOK G call) {loop : LoopFn} (hloop : ∀ f c st r, loop f c st = some r → LoopSound G f c st r)
    {g : FuncId} {args : List AV} {hp : Heap} {r : ARes × Heap} (hE : G.E g = true) (hr : runBodyD G call loop g args hp = some r) : CallSound G.P g args hp r := by
  intro S ρ w vs hl H hb hlen hargs
  unfold runBodyD at hr
  rw [Option.bind_eq_some_iff] at hr; obtain ⟨fn, hfn, hr⟩ := hr
  rw [Option.bind_eq_some_iff] at hr; obtain ⟨q, hq, hr⟩ := hr
  rw [Option.bind_eq_some_iff] at hq; obtain ⟨c, hc, hs⟩ := hq
  obtain ⟨A, ops, f, rest⟩ := q
  obtain ⟨id, o, cc, rfl, ho, hop, hog, hod, hcf, hca⟩ := splitD_spec hs
  simp only at hr
  rw [Option.bind_eq_some_iff] at hr; obtain ⟨⟨x0, s0⟩, hA, hr⟩ := hr
  cases x0 with
  | exit i => cases hr
  | ret => cases hr
  | pan v => cases hr
  | normal =>
    simp only at hr
    rw [Option.bind_eq_some_iff] at hr; obtain ⟨⟨x1, s1⟩, hops, hr⟩ := hr
    cases x1 with
    | exit i => cases hr
    | ret => cases hr
    | pan v => cases hr
    | normal =>
      simp only at hr
      split at hr
      case isFalse => cases hr
      rename_i hck
      simp only [Bool.and_eq_true] at hck
      obtain ⟨⟨⟨hk1, hk5⟩, hk2⟩, hk3⟩ := hck
      rw [Option.bind_eq_some_iff] at hr; obtain ⟨⟨x2, s3⟩, hrest, hr⟩ := hr
      split at hr
      · cases hr
      rename_i hk4
      rw [Option.bind_eq_some_iff] at hr; obtain ⟨rv, hrv, hr⟩ := hr
      rw [Option.bind_eq_some_iff] at hr; obtain ⟨⟨z1, mvd⟩, hclo, hr⟩ := hr
      cases z1 with
      | pan v s => cases hr
      | val v s4 =>
        simp only at hr
        obtain ⟨vsr, hres, rfl⟩ := Option.map_eq_some_iff.1 hr
        have hbeg := begin_ok (k := fn.ntmps - vs.size) hl H hb hlen hargs
        have hge : fn.ntmps ≤ (vs ++ Array.replicate (fn.ntmps - vs.size) Go.undef).size := by simp; omega
        generalize htm : vs ++ Array.replicate (fn.ntmps - vs.size) Go.undef = tm at *
        have hd := dstsB_mono hge _ (GE.ok.dsts g fn _ hE hfn hc)
        have hpl := GE.plans g fn _ hE hfn hc
        simp only [dstsB, plansB, Bool.and_eq_true] at hd hpl
        have hnt := Nat.le_trans (GE.ntm g fn hE hfn) hge
        refine callsIn_of_wp_marks hfn hc (GE.ok.inP g hE) ?_
        rw [htm]
        have hAw := codeX_ok (ro := none) (n := tm.size) (base := []) (a := { tmps := tm, defers := [] }) GE hcall hloop A (.inl ⟨rfl, hnt⟩) hd.1 hpl.1 ⟨[], rfl, List.nodup_nil, fun d hd => by simp at hd⟩ hbeg rfl hA
        refine wpIn_seq (wpIn_mono hAw fun e a0 w0 ⟨⟨ms0, hms0, hM0⟩, hn0, S0, ρ0, h0, hx0⟩ => ?_)
        cases e with
        | normal =>
          rw [List.append_nil] at hms0
          have hpos := (Array.getElem?_eq_some_iff.1 ho).1
          have hrange : List.range ops.size = List.range (ops.size - 1) ++ [ops.size - 1] := by
            obtain ⟨k, hk⟩ : ∃ k, ops.size = k + 1 := ⟨ops.size - 1, by omega⟩
            rw [hk, List.range_succ]; simp
          refine wpIn_seq (wpIn_region ?_)
          rw [hrange]
          refine wpOpsIn_append [ops.size - 1] (Q := CodeDone (rebase (envOf S ρ w hl) h0.fr) a0.defers tm.size (.normal, s1)) (fun e a w hne hq => ?_) (fun a1 w1 hq1 => ?_) _ _ _ (aops_ok GE.ok hcall hd.2.1 _ h0.base hn0 hops)
          · obtain ⟨_, _, _, _, _, hx⟩ := hq
            cases e <;> first | exact absurd rfl hne | exact hx.elim
          · obtain ⟨d1, n1, S1, ρ1, h1, _⟩ := hq1
            have h1' := h1.unbase h0.fr
            simp only at h1'
            have hfv := h1'.ev f
            obtain ⟨hh, first, caps, hfe⟩ : ∃ hh first caps, s1.ev f = .fn (.func hh) first caps := by
              cases hev : s1.ev f with
              | fn q x y => rw [hev] at hk5; cases q <;> simp [isFn] at hk5; exact ⟨_, _, _, rfl⟩
              | _ => rw [hev] at hk5; simp [isFn] at hk5
            rw [hfe] at hfv hclo hk4
            obtain ⟨vx, vy, hfe2, hx1, hx2, hvx, hvy⟩ := vr_fn hfv
            refine defer_ok ho hop hog hod hcf hca hfe2 ?_
            generalize hns : reachL 60 s1.hp (hp.map (·.1) ++ AV.namesL (s1.sl.map (·.2))) [] = ns at *
            have hnd : ns.Nodup := by rw [← hns]; exact reachL_nodup _ _ _ _ List.nodup_nil
            have hlen2 : ns.length ≤ 60 := by rw [← hns]; simpa using reachL_length s1.hp 60 (hp.map (·.1) ++ AV.namesL (s1.sl.map (·.2))) []
            have hlow : ∀ n q, subRho ns ρ1 n = some q → n < 1000 := by
              intro n q hq
              unfold subRho at hq
              rw [Option.bind_eq_some_iff] at hq
              obtain ⟨m, hm, _⟩ := hq
              have := (List.getElem?_eq_some_iff.1 hm).1
              omega
            have hlow : Ent S1 (subRho ns ρ1) w1 := ⟨hlow, h1'.fr.glob⟩
            have hR := h1'.rename hnd hlow
            have hRw := codeX_ok (ro := none) (n := tm.size) (base := { target := .fn (.func hh) vy, args := vx } :: ms0) (a := { a1 with defers := { target := .fn (.func hh) vy, args := vx } :: a1.defers }) GE hcall hloop rest (.inl ⟨rfl, hnt⟩) hd.2.2 hpl.2.2 (MarksB.cons _ (by simp [d1, hms0])) hR n1 hrest
            refine wpIn_mono hRw fun e a2 w2 ⟨⟨ms2, hms2, hM2⟩, n2, S3, ρ3, h3, hx3⟩ => ?_
            have hpure : rv.pureB = true := by
              unfold recOf at hrv
              split at hrv
              · cases hrv; rfl
              · cases hrv; rfl
              · split at hrv
                · cases hrv; assumption
                · cases hrv
              · cases hrv
            have hin : ∀ n r, (envOf S ρ w hl).R0 n = some r → ns[n]? = some n ∧ ∃ o, aget s1.hp n = some o ∧ o.moved = false := by
              intro n r hn
              have hn : ρ n = some r := hn
              have hmem : n ∈ hp.map (·.1) := by
                cases ho : aget hp n with
                | none => rw [H.dom n ho] at hn; cases hn
                | some o => exact List.mem_map.2 ⟨(n, o), aget_mem ho, rfl⟩
              have g1 : ns[n]? = some n := by simpa using (List.all_eq_true.1 hk2) n hmem
              have g2 : n ∈ ns := List.mem_of_getElem? g1
              have g3 := (List.all_eq_true.1 hk1) n g2
              have g4 := (List.all_eq_true.1 hk3) n g2
              cases ho : aget s1.hp n with
              | none => rw [ho] at g3; cases g3
              | some o => rw [ho] at g4; exact ⟨g1, o, rfl, by simpa using g4⟩
            have core : ∀ u uv, u ≠ .run → Finds u uv → VR S3 ρ3 w2 rv uv → LeavesInM (FW none) 0 G.P fn a2.tmps (fun e w' => ∃ S' ρ', Out (envOf S ρ w hl) (retA (finishA G g (hp.map (·.1)) (resOf vsr) s4)).2 S' ρ' w' ∧ AnswerR S' ρ' w' (retA (finishA G g (hp.map (·.1)) (resOf vsr) s4)).1 e) a2.defers u w2 := by
              intro u uv hu hF hv
              rw [hms2]
              refine leaves_pre hu ms2 w2 hM2 ⟨rfl, fun _ => .inl rfl, rfl, rfl, rfl⟩ fun w3 hdead => ?_
              have h3' := h3.dead hdead
              have hbx : ∀ n ∈ (AV.ren (toMap ns) (.fn (.func hh) first caps)).names, isBoxAt s3.hp n = true := by
                simpa using hk4
              have hval : VR S3 ρ3 w3 (AV.ren (toMap ns) (.fn (.func hh) first caps)) (a1.eval f) := by
                refine VR.byNames h3'.fr.ext hfv.sub fun n hn q hq => ?_
                have hb := hbx n hn
                unfold isBoxAt at hb
                split at hb
                · rename_i v hv
                  exact h3'.old n _ hv rfl q hq
                · cases hb
              have hrv3 : VR S3 ρ3 w3 rv uv := hv.ext (hdead.ext S3) fun _ _ h => h
              have hfne : AV.ren (toMap ns) (.fn (.func hh) first caps) = .fn (.func hh) (AV.renL (toMap ns) first) (AV.renL (toMap ns) caps) := by simp only [AV.ren]
              rw [hfne] at hval hclo
              obtain ⟨vx', vy', hEh, hev', hcc⟩ := callF_ok (E := envR (envOf S ρ w hl) S1 (subRho ns ρ1) w1 hlow) (Cc := fun vs R => CallsDIn (FW none) 0 G.P hh vs u w3 fun e u' w' => settle u' = .returning ∧ (∃ v, e = .returned v) ∧ R e w')
                h3' (fun vs R R' hh hRR => CallsDIn.mono hh fun e u' w' ⟨q1, q2, q3⟩ => ⟨q1, q2, hRR _ _ q3⟩)
                (fun S' ρ' args hp' r' vs' hl' hSS hcf' HH hb' hlen' hargs' => runClosure_ok GE (by
                  unfold callB at hclo
                  dsimp only at hclo
                  split at hclo
                  · rename_i hc'; simp only [Bool.and_eq_true] at hc'; exact hc'.1.1
                  · cases hclo) hcf' hl' HH hb' hlen' hargs' hF (.pure ((hrv3.pr hpure).ext (Ext.more hSS w3))))
                hval hclo
              rw [hfe2] at hev'
              cases hev'
              refine ⟨hu, .inr ⟨fun hd => absurd hd (by decide), .func hh, vy, hh, vx ++ vy, rfl, GE.ok.enter hh hEh _ _, fun q hq => (by simp only [Target.leads, Option.some.injEq] at hq; subst hq; exact GE.ok.inP _ hEh), ?_⟩⟩
              refine CallsDIn.mono hcc fun e u' w5 ⟨q1, ⟨vv, q2⟩, q3⟩ => ?_
              subst q2
              simp only
              rw [q1]
              obtain ⟨uu, S5, ρ5, _, h5, _, _⟩ := q3
              have hM5 : Marks (envOf S ρ w hl).W0.heap.size ms0 w5 := by
                refine ⟨hM0.1, fun d' hd' => ?_⟩
                obtain ⟨b, g1, g2, g3⟩ := hM0.2 d' hd'
                exact ⟨b, g1, g2, h5.fr.dfr b (h1.fr.dfr b g3)⟩
              have h6 := SR.unname h1' hin h5
              refine leaves_ok (by simp) ms0 w5 hM5 ⟨rfl, fun _ => .inl rfl, rfl, rfl, rfl⟩ fun w6 hdead6 => ?_
              have k3 := h6.dead hdead6
              obtain ⟨u6, hu6, hvu6⟩ := results_ok k3 hres
              refine ⟨u6, hu6, ?_⟩
              unfold finishA
              split
              · obtain ⟨ρ'', o1, o2⟩ := out_ok (m := hp.map (·.1)) k3.heap k3.mine k3.old k3.fr hvu6
                exact ⟨S5, ρ'', o1, o2⟩
              · obtain ⟨S2, f1, f2, f3, f4⟩ := k3.fix (resOf vsr).rows
                have hv2 := rv_fixed k3 f1 f2 f3 f4 hvu6 fun n hn => hn
                obtain ⟨ρ'', o1, o2⟩ := out_ok (m := hp.map (·.1)) f2.heap f2.mine f2.old f2.fr hv2
                exact ⟨S2, ρ'', o1, o2⟩
            cases x2 with
            | exit i => cases hrv
            | normal =>
              cases hrv
              cases e with
              | normal => exact core .returning .nilIface (by simp) (.inl ⟨rfl, rfl⟩) (.pure .nili)
              | _ => exact hx3.elim
            | ret =>
              cases hrv
              cases e with
              | ret => exact core .returning .nilIface (by simp) (.inl ⟨rfl, rfl⟩) (.pure .nili)
              | _ => exact hx3.elim
            | pan v2 =>
              simp only [recOf] at hrv
              split at hrv
              · cases hrv
                cases e with
                | panic ch =>
                  obtain ⟨u, rfl, hv⟩ := hx3
                  exact core _ u (by simp) (.inr rfl) hv
                | _ => exact hx3.elim
              · cases hrv
        | _ => exact hx0.elim

theorem runFn_ok (GE : GSound G) {call : CallFn} (hcall : CallOK G call) {loop : LoopFn} (hloop : ∀ f c st r, loop f c st = some r → LoopSound G f c st r)
    {g : FuncId} {args : List AV} {hp : Heap} {r : ARes × Heap} (hE : G.E g = true) (hr : runFn G call loop g args hp = some r) : CallSound G.P g args hp r := by
  unfold runFn at hr
  split at hr
  · exact runBodyD_ok GE hcall hloop hE hr
  · exact runBody_ok GE hcall hloop hE hr

end Go.Proofs.Ytonaejfpiihfhaa.Abs

/- All of it: WHAT THE INTERPRETER TELLS IS SO. -/
namespace Go.Proofs.Ytonaejfpiihfhaa.Abs
open Go Go.RowKit
set_option linter.unusedSimpArgs false
set_option linter.unusedVariables false

variable {G : Cfg} {S : Stab} {ρ : Rho} {w : World} {E : Env} {st : ASt} {a : Act}

/-! ### All of them -/
def PrimSound (G : Cfg) (prim : FuncId → Option CallFn) : Prop := ∀ g p args hp r, G.E g = true → prim g = some p → p g args hp = some r → CallSound G.P g args hp r

theorem least_ex {p : Nat → Prop} (h : ∃ j, p j) : ∃ j, p j ∧ ∀ i, p i → j ≤ i := by
  obtain ⟨j, hj⟩ := h
  induction j using Nat.strongRecOn with
  | _ j ih =>
    by_cases hx : ∃ i, i < j ∧ p i
    · obtain ⟨i, hi, hp⟩ := hx; exact ih i hi hp
    · exact ⟨j, hj, fun i hi => Nat.le_of_not_lt fun hlt => hx ⟨i, hlt, hi⟩⟩

theorem sound (GE : GSound G) {prim : FuncId → Option CallFn} (hprim : PrimSound G prim) : ∀ k,
    CallOK G (cK G prim k) ∧ ∀ f c st r, lK G prim k f c st = some r → LoopSound G f c st r := by
  intro k
  induction k using Nat.strongRecOn with
  | _ k ih =>
    refine ⟨⟨?_, ?_⟩, ?_⟩
    · intro g args hp r hg hE hr
      cases k with
      | zero => cases hr
      | succ k =>
        simp only [cK, both, if_pos hg] at hr
        cases hp0 : prim g with
        | some p => rw [hp0] at hr; exact hprim g p args hp r hE hp0 hr
        | none =>
          rw [hp0] at hr
          exact runFn_ok GE (ih k (by omega)).1 (ih k (by omega)).2 hE hr
    · intro L args hp r hr
      cases k with
      | zero => cases hr
      | succ k =>
        simp only [cK, both, if_neg (show ¬ RB + L < RB by omega), Nat.add_sub_cancel_left] at hr
        exact runRound_ok GE (ih k (by omega)).1 (ih k (by omega)).2 hr
    · intro f c st r hr base n ro E S ρ a w hro hd hpl hm h hn
      classical
      let J : Nat → Act → World → Prop := fun j a' w' => ∃ st S ρ, lK G prim j f c st = some r ∧ SR E st S ρ a'.tmps w' ∧ MarksB E.W0.heap.size base a'.defers w' ∧ a'.tmps.size = n
      let μ : Act → World → Nat := fun a' w' => if h : ∃ j, J j a' w' then (least_ex h).choose else 0
      refine wpIn_loop (fun a' w' => ∃ j, j ≤ k ∧ J j a' w') μ ⟨k, Nat.le_refl _, st, S, ρ, hr, h, hm, hn⟩ ?_
      rintro a1 w1 ⟨j0, hj0, hJ0⟩
      have hex : ∃ j, J j a1 w1 := ⟨j0, hJ0⟩
      have hμ : μ a1 w1 = (least_ex hex).choose := by simp only [μ]; rw [dif_pos hex]
      have hle : (least_ex hex).choose ≤ k := Nat.le_trans ((least_ex hex).choose_spec.2 j0 hJ0) hj0
      obtain ⟨st1, S1, ρ1, hr1, h1, hm1, hn1⟩ := (least_ex hex).choose_spec.1
      rw [hμ]
      generalize (least_ex hex).choose = j at *
      cases j with
      | zero => cases hr1
      | succ j =>
        simp only [lK, both] at hr1
        unfold loopStep at hr1
        rw [Option.bind_eq_some_iff] at hr1
        obtain ⟨⟨x, s⟩, hx, hr1⟩ := hr1
        have hw := codeX_ok (ro := ro) (n := n) GE (ih j (by omega)).1 (ih j (by omega)).2 c hro hd hpl hm1 h1 hn1 hx
        refine wpIn_mono hw fun e a2 w2 ⟨k1, k2, S2, ρ2, k3, k4⟩ => ?_
        cases x with
        | normal =>
          cases e with
          | normal =>
            simp only at hr1
            rw [Option.bind_eq_some_iff] at hr1
            obtain ⟨s', hs', hr2⟩ := hr1
            obtain ⟨S3, ρ3, k5⟩ := canon_ok k3 hs'
            have hJ : J j a2 w2 := ⟨s', S3, ρ3, hr2, k5, k1, k2⟩
            refine ⟨⟨j, by omega, hJ⟩, ?_⟩
            have hex2 : ∃ j, J j a2 w2 := ⟨j, hJ⟩
            simp only [μ]
            rw [dif_pos hex2]
            exact Nat.lt_succ_of_le ((least_ex hex2).choose_spec.2 j hJ)
          | _ => exact k4.elim
        | exit i =>
          simp only [Option.some.injEq] at hr1
          subst hr1
          cases e with
          | exit i' => exact ⟨k1, k2, S2, ρ2, k3, k4⟩
          | _ => exact k4.elim
        | ret =>
          simp only [Option.some.injEq] at hr1
          subst hr1
          cases e with
          | ret => exact ⟨k1, k2, S2, ρ2, k3, k4⟩
          | _ => exact k4.elim
        | pan v =>
          simp only [Option.some.injEq] at hr1
          subst hr1
          cases e with
          | panic ch => exact ⟨k1, k2, S2, ρ2, k3, k4⟩
          | _ => exact k4.elim

/-- WHAT THE INTERPRETER TELLS OF A CALL IS SO. -/
theorem callL_ok (GE : GSound G) {prim : FuncId → Option CallFn} (hprim : PrimSound G prim) {g : FuncId} (hg : g < RB) {args : List AV} {hp : Heap} {r : ARes × Heap} (hE : G.E g = true) (hr : callL G prim g args hp = some r) : CallSound G.P g args hp r := by
  obtain ⟨K, hK⟩ := of_limit hr
  exact (sound GE hprim K).1.fn g args hp r hg hE (hK K (Nat.le_refl _))

end Go.Proofs.Ytonaejfpiihfhaa.Abs

/- What a seat's tables are asked, told by one look; what the library's outer functions come to. -/
namespace Go.Proofs.Ytonaejfpiihfhaa.Abs
open Go Go.RowKit
set_option linter.unusedSimpArgs false
set_option linter.unusedVariables false

def fnOK (G : Cfg) (g : FuncId) : Bool :=
  match G.P.funcs[g]? with
  | some fn => !(fn.name == "runtime.NumGoroutine") && (match fn.body with | some c => dstsB fn.ntmps c && plansB G g c && decide (G.ntm g ≤ fn.ntmps) | none => false)
  | none => false
def rOK (G : Cfg) (r : LRec) : Bool :=
  dstsB r.nt r.assign && plansB G r.g r.assign && noRange r.assign && (r.ps.toList.all fun t => decide (t < r.nt)) && dstsB r.nt r.body && plansB G r.g r.body && noRange r.body

def ExtOK (G : Cfg) : Prop := ∀ g p, G.ext g = some p → ∀ args v, p args = some v → ∀ (S : Stab) (ρ : Rho) (w : World) (vs : Array Value), args.length = vs.size → (∀ (j : Nat) c u, args[j]? = some c → vs[j]? = some u → VR S ρ w c u) →
    ∃ u, (callFunc g vs).run G.P w = .ok (.value u) w ∧ VR S ρ w v u

theorem gsound {G : Cfg} (n : Nat) (hE : ∀ g, G.E g = true → g < n) (hall : ((List.range n).all fun g => !G.E g || fnOK G g) = true) (hm : G.P.follows .mixedOrders = true) (hr : ∀ r, G.roundOK r = true → rOK G r = true) (hx : ExtOK G) (hs : G.P.funcs.size = NF) (hxp : ∀ g p, G.ext g = some p → g < NF) : GSound G := by
  have key : ∀ g, G.E g = true → fnOK G g = true := by
    intro g hg
    have := List.all_eq_true.1 hall g (List.mem_range.2 (hE g hg))
    simpa [hg] using this
  have parts : ∀ g, G.E g = true → ∃ fn c, G.P.funcs[g]? = some fn ∧ fn.body = some c ∧ (fn.name == "runtime.NumGoroutine") = false ∧ dstsB fn.ntmps c = true ∧ plansB G g c = true ∧ G.ntm g ≤ fn.ntmps := by
    intro g hg
    have := key g hg
    unfold fnOK at this
    split at this
    · rename_i fn hfn
      simp only [Bool.and_eq_true] at this
      obtain ⟨h1, h2⟩ := this
      split at h2
      · rename_i c hc
        simp only [Bool.and_eq_true, decide_eq_true_eq] at h2
        exact ⟨fn, c, hfn, hc, by simpa using h1, h2.1.1, h2.1.2, h2.2⟩
      · cases h2
    · cases this
  refine ⟨⟨fun g hg args w => ?_, hs, fun g hg => ?_, hxp, hx, fun g fn c hg hf hb => ?_⟩, hm, fun g fn c hg hf hb => ?_, fun g fn hg hf => ?_, fun r h => ?_⟩
  · obtain ⟨fn, c, h1, h2, h3, _⟩ := parts g hg
    have h3' : fn.name ≠ "runtime.NumGoroutine" := by simpa using h3
    simp [callFunc, h1, h2, h3']
  · obtain ⟨fn, c, h1, h2, h3, _⟩ := parts g hg
    rw [← hs]; exact (Array.getElem?_eq_some_iff.1 h1).1
  · obtain ⟨fn', c', h1, h2, _, h4, _⟩ := parts g hg
    rw [hf] at h1; cases h1; rw [hb] at h2; cases h2; exact h4
  · obtain ⟨fn', c', h1, h2, _, _, h5, _⟩ := parts g hg
    rw [hf] at h1; cases h1; rw [hb] at h2; cases h2; exact h5
  · obtain ⟨fn', c', h1, h2, _, _, _, h6⟩ := parts g hg
    rw [hf] at h1; cases h1; exact h6
  · have := hr r h
    unfold rOK at this
    simp only [Bool.and_eq_true] at this
    obtain ⟨⟨⟨⟨⟨⟨a, b⟩, c⟩, d⟩, e⟩, f⟩, g⟩ := this
    exact ⟨⟨a, b, c⟩, d, e, f, g⟩

/-! ### Outer functions -/
def cmpStr : List AV → Option AV
  | [.str a, .str b] => some (.int .i64 (Lib.compareBytes a b))
  | _ => none

theorem cmpStr_ok {P : Program} {g : FuncId} {fn : Func} (hf : P.funcs[g]? = some fn) (hn : (fn.name == "runtime.NumGoroutine") = false) (hb : fn.body = none) (h1 : Extern.findNext fn = none) (h2 : Extern.find fn = some Extern.BytealgCompare.compare)
    {args : List AV} {v : AV} (h : cmpStr args = some v) {S : Stab} {ρ : Rho} {w : World} {vs : Array Value} (hl : args.length = vs.size) (hv : ∀ (j : Nat) c u, args[j]? = some c → vs[j]? = some u → VR S ρ w c u) :
    ∃ u, (callFunc g vs).run P w = .ok (.value u) w ∧ VR S ρ w v u := by
  unfold cmpStr at h
  split at h
  case h_2 => cases h
  rename_i a b
  cases h
  obtain ⟨x, y, rfl⟩ : ∃ x y, vs = #[x, y] := by
    obtain ⟨l⟩ := vs
    match l, hl with
    | [x, y], _ => exact ⟨x, y, rfl⟩
  obtain ⟨s, rfl, rfl⟩ := vr_str (hv 0 _ x rfl rfl)
  obtain ⟨t, rfl, rfl⟩ := vr_str (hv 1 _ y rfl rfl)
  refine ⟨_, ?_, .pure (.int _ _)⟩
  rw [run_callFunc_extern hf hn (by rw [hb]; rfl) h1 h2, Lib.run_compareString]
  rfl

/-- slices.Clone, told by hand. -/
def clonePrim : CallFn := fun _ args hp =>
  match args with
  | [.list sz es] => some (.ret (.list sz es), hp)
  | [.nils] => some (.ret .nils, hp)
  | _ => none

/-- What was gone through at a text's own values, told by hand. -/
def worksP : CallFn := fun _ args hp =>
  match args, hp with
  | [], [] => some (.ret (.bool true), [])
  | _, _ => none
def primN : FuncId → Option CallFn := fun _ => none

/-- A call whose end is told by hand, since it was gone through. -/
theorem CallSound.of_run {G : Cfg} (GE : GSound G) {prim : FuncId → Option CallFn} (hp : PrimSound G prim) {k : Nat} {g : FuncId} {args : List AV} {hp0 : Heap} {r : ARes × Heap} (hg : g < RB) (hE : G.E g = true) (h : (both G prim k).1 g args hp0 = some r) : CallSound G.P g args hp0 r :=
  (sound GE hp k).1.fn g args hp0 r hg hE h

end Go.Proofs.Ytonaejfpiihfhaa.Abs

/- The interpreter, step by step, as equations: code is gone through by rewriting. -/
namespace Go.Proofs.Ytonaejfpiihfhaa.Abs
open Go Go.RowKit
set_option linter.unusedSimpArgs false
set_option linter.unusedVariables false

section
variable {G : Cfg} {call : CallFn} {loop : LoopFn} {f : FuncId} {ops : Array Oper} {r : List Oper} {st : ASt} {d : Option Nat} {t t' t'' : TypeId} {p : String} {af : Array Edge} {x y z : Operand}

/-! ### Code -/
def seqX (G : Cfg) (call : CallFn) (loop : LoopFn) (f : FuncId) (r : Option (AX × ASt)) (b : Code) : Option (AX × ASt) := r.bind fun | (.normal, s) => codeX G call loop f b s | r => some r
@[simp] theorem cx_seq {a b : Code} : codeX G call loop f (.seq a b) st = seqX G call loop f (codeX G call loop f a st) b := rfl
@[simp] theorem seqX_n {s b} : seqX G call loop f (some (.normal, s)) b = codeX G call loop f b s := rfl
@[simp] theorem seqX_r {s b} : seqX G call loop f (some (.ret, s)) b = some (.ret, s) := rfl
@[simp] theorem seqX_e {i s b} : seqX G call loop f (some (.exit i, s)) b = some (.exit i, s) := rfl
@[simp] theorem seqX_p {i s b} : seqX G call loop f (some (.pan i, s)) b = some (.pan i, s) := rfl
theorem seqX_if {c : Prop} [Decidable c] {x y b} : seqX G call loop f (if c then x else y) b = if c then seqX G call loop f x b else seqX G call loop f y b := by split <;> rfl
def blkX (id : Nat) (r : Option (AX × ASt)) : Option (AX × ASt) := r.bind fun | (.exit i, s) => some (if i = id then .normal else .exit i, s) | r => some r
@[simp] theorem cx_block {id} {b : Code} : codeX G call loop f (.block id b) st = blkX id (codeX G call loop f b st) := rfl
@[simp] theorem blkX_n {id s} : blkX id (some (.normal, s)) = some (.normal, s) := rfl
@[simp] theorem blkX_r {id s} : blkX id (some (.ret, s)) = some (.ret, s) := rfl
@[simp] theorem blkX_p {id s i} : blkX id (some (.pan i, s)) = some (.pan i, s) := rfl
@[simp] theorem blkX_e {id i s} : blkX id (some (.exit i, s)) = some (if i = id then .normal else .exit i, s) := rfl
theorem blkX_if {id} {c : Prop} [Decidable c] {x y} : blkX id (if c then x else y) = if c then blkX id x else blkX id y := by split <;> rfl
@[simp] theorem cx_skip : codeX G call loop f .skip st = some (.normal, st) := rfl
@[simp] theorem cx_exit {i} : codeX G call loop f (.exit i) st = some (.exit i, st) := rfl
@[simp] theorem cx_ret : codeX G call loop f .ret st = some (.ret, st) := rfl
@[simp] theorem cx_label {l} : codeX G call loop f (.label l) st = some (.normal, st) := rfl
def condX (G : Cfg) (call : CallFn) (loop : LoopFn) (f : FuncId) (v : AV) (a b : Code) (st : ASt) : Option (AX × ASt) := match v with | .bool t => if t then codeX G call loop f a st else codeX G call loop f b st | _ => none
@[simp] theorem cx_cond {c a b} : codeX G call loop f (.cond c a b) st = condX G call loop f (st.ev c) a b st := rfl
@[simp] theorem condX_t {a b} : condX G call loop f (.bool true) a b st = codeX G call loop f a st := rfl
@[simp] theorem condX_f {a b} : condX G call loop f (.bool false) a b st = codeX G call loop f b st := rfl
theorem condX_b {t a b} : condX G call loop f (.bool t) a b st = if t = true then codeX G call loop f a st else codeX G call loop f b st := by cases t <;> rfl
def loopX (loop : LoopFn) (f : FuncId) (b : Code) (st : Option ASt) : Option (AX × ASt) := st.bind (loop f b)
@[simp] theorem cx_loop {b} : codeX G call loop f (.loop b) st = loopX loop f b (canon G f b st) := rfl
@[simp] theorem loopX_s {b s} : loopX loop f b (some s) = loop f b s := rfl

/-! ### Operations -/
def aopsL (G : Cfg) (call : CallFn) (ops : Array Oper) : List Oper → ASt → Option (AX × ASt)
  | [], st => some (.normal, st)
  | o :: r, st =>
      (guardA ops st o).bind fun g =>
        if g then
          (aop G call o st).bind fun
            | .val v s => aopsL G call ops r (s.put o.dst v)
            | .pan v s => some (.pan v, s)
        else if skipA st o.op then aopsL G call ops r (st.put o.dst (.tup [])) else none

theorem aops_L (G : Cfg) (call : CallFn) (ops : Array Oper) (n : Nat) : ∀ (k : Nat) (st : ASt), n + k = ops.size → aops G call ops (List.range' n k) st = aopsL G call ops (ops.toList.drop n) st := by
  intro k
  induction k generalizing n with
  | zero => intro st h; rw [List.drop_of_length_le (by simp; omega)]; rfl
  | succ k ih =>
    intro st h
    have hlt : n < ops.toList.length := by simp; omega
    rw [List.drop_eq_getElem_cons hlt, List.range'_succ]
    simp only [aops, aopsL]
    rw [show ops[n]? = some ops.toList[n] by rw [← Array.getElem?_toList]; exact List.getElem?_eq_getElem hlt]
    simp only
    congr 1
    funext g
    cases g with
    | true =>
      simp only [if_true]
      congr 1
      funext a
      cases a with
      | val v s => exact ih (n + 1) _ (by omega)
      | pan v s => rfl
    | false =>
      simp only [Bool.false_eq_true, if_false]
      split
      · exact ih (n + 1) _ (by omega)
      · rfl
/-- A region's end. -/
def trimX (L : Option Trim) (r : Option (AX × ASt)) : Option (AX × ASt) := r.bind (growX L)
@[simp] theorem trimX_n {l s} : trimX (some ⟨l, []⟩) (some (.normal, s)) = some (.normal, s.trim (some ⟨l, []⟩)) := rfl
@[simp] theorem trimX_g {l g gs s} : trimX (some ⟨l, g :: gs⟩) (some (.normal, s)) = (canonAll (fun (p : Nat × Nat × Nat × TypeId) s => canonCell p.1 p.2.1 p.2.2 s) (g :: gs) s).map fun s => (.normal, s.trim (some ⟨l, g :: gs⟩)) := rfl
@[simp] theorem trimX_p {L v s} : trimX L (some (.pan v, s)) = some (.pan v, s.trim L) := by cases L <;> rfl
theorem trimX_if {L} {c : Prop} [Decidable c] {x y} : trimX L (if c then x else y) = if c then trimX L x else trimX L y := by split <;> rfl
@[simp] theorem trim_some {sl hp l g} : ASt.trim ⟨sl, hp⟩ (some ⟨l, g⟩) = ⟨l.map fun t => (t, (aget sl t).getD .undef), hp⟩ := rfl
@[simp] theorem cx_region {id} : codeX G call loop f (.region id ops false) st = trimX (G.live f id) (aopsL G call ops ops.toList st) := by
  simp only [codeX, Bool.false_eq_true, if_false]
  rw [List.range_eq_range', aops_L G call ops 0 ops.size st (by simp)]; simp only [List.drop_zero]; rfl

def valX (G : Cfg) (call : CallFn) (ops : Array Oper) (d : Option Nat) (r : List Oper) (st : ASt) : Option AV → Option (AX × ASt)
  | some v => aopsL G call ops r (st.put d v)
  | none => none
@[simp] theorem valX_s {v} : valX G call ops d r st (some v) = aopsL G call ops r (st.put d v) := rfl
def resX (G : Cfg) (call : CallFn) (ops : Array Oper) (d : Option Nat) (r : List Oper) : Option AR → Option (AX × ASt)
  | some (.val v s) => aopsL G call ops r (s.put d v)
  | some (.pan v s) => some (.pan v, s)
  | none => none
@[simp] theorem resX_v {v s} : resX G call ops d r (some (.val v s)) = aopsL G call ops r (s.put d v) := rfl
@[simp] theorem resX_p {v s} : resX G call ops d r (some (.pan v s)) = some (.pan v, s) := rfl

@[simp] theorem ao_nil : aopsL G call ops [] st = some (.normal, st) := rfl
theorem ao_any {op : Op} : aopsL G call ops (⟨d, op, t, p, af, none⟩ :: r) st = resX G call ops d r (aop G call ⟨d, op, t, p, af, none⟩ st) := by
  simp only [aopsL, guardA, Option.bind_some, if_true]
  cases aop G call ⟨d, op, t, p, af, none⟩ st with
  | none => rfl
  | some a => cases a <;> rfl
theorem ao_read {op : Op} (h : aop G call ⟨d, op, t, p, af, none⟩ st = (opv G.P st.ev st.hp op).map fun v => .val v st) : aopsL G call ops (⟨d, op, t, p, af, none⟩ :: r) st = valX G call ops d r st (opv G.P st.ev st.hp op) := by
  rw [ao_any, h]
  cases opv G.P st.ev st.hp op <;> rfl

/-- What a guard's slot says. -/
def gV (want : Bool) : AV → Option Bool
  | .bool b => some (b == want)
  | .tup [] => some false
  | _ => none
@[simp] theorem gV_b {w b} : gV w (.bool b) = some (b == w) := rfl
@[simp] theorem gV_n {w} : gV w (.tup []) = some false := rfl
@[simp] theorem skipV_f {g a b} : skipV (.fn (.func g) a b) = decide (g < NF) := rfl
@[simp] theorem skipV_n : skipV (.tup []) = true := rfl
attribute [simp] skipA
/-- What is skipped may be. -/
def skX {α : Type} : Bool → Option α → Option α
  | true, r => r
  | false, _ => none
theorem skX_if {α : Type} {b : Bool} {r : Option α} : (if b = true then r else none) = skX b r := by cases b <;> rfl
@[simp] theorem skX_t {α : Type} {r : Option α} : skX true r = r := rfl
theorem aop_guard (o : Oper) (g : Option (Nat × Bool)) : aop G call { o with guard := g } st = aop G call o st := rfl
/-- An operation behind a guard, whose slot holds this. -/
def gW (G : Cfg) (call : CallFn) (ops : Array Oper) (k : Nat) (w : Bool) (o : Oper) (r : List Oper) (st : ASt) : AV → Option (AX × ASt)
  | .bool b => if b == w then aopsL G call ops ({ o with guard := none } :: r) st else skX (skipA st o.op) (aopsL G call ops r (st.put o.dst (.tup [])))
  | .tup [] => skX (skipA st o.op) (aopsL G call ops r (st.put o.dst (.tup [])))
  | _ => none
@[simp] theorem gW_tt {k o} : gW G call ops k true o r st (.bool true) = aopsL G call ops ({ o with guard := none } :: r) st := rfl
@[simp] theorem gW_ff {k o} : gW G call ops k false o r st (.bool false) = aopsL G call ops ({ o with guard := none } :: r) st := rfl
@[simp] theorem gW_tf {k o} : gW G call ops k true o r st (.bool false) = skX (skipA st o.op) (aopsL G call ops r (st.put o.dst (.tup []))) := rfl
@[simp] theorem gW_ft {k o} : gW G call ops k false o r st (.bool true) = skX (skipA st o.op) (aopsL G call ops r (st.put o.dst (.tup []))) := rfl
@[simp] theorem gW_n {k w o} : gW G call ops k w o r st (.tup []) = skX (skipA st o.op) (aopsL G call ops r (st.put o.dst (.tup []))) := rfl
def gK (G : Cfg) (call : CallFn) (ops : Array Oper) (w : Bool) (o : Oper) (r : List Oper) (st : ASt) : Option Nat → Option (AX × ASt)
  | some k => gW G call ops k w o r st (st.slot k)
  | none => none
@[simp] theorem gK_s {k w o} : gK G call ops w o r st (some k) = gW G call ops k w o r st (st.slot k) := rfl
@[simp] theorem ao_guard {op : Op} {j w} : aopsL G call ops (⟨d, op, t, p, af, some (j, w)⟩ :: r) st = gK G call ops w ⟨d, op, t, p, af, some (j, w)⟩ r st ((ops[j]?).bind (·.dst)) := by
  simp only [aopsL, guardA, skX_if]
  cases (ops[j]?).bind (·.dst) with
  | none => rfl
  | some k =>
    simp only [gK]
    cases st.slot k with
    | bool b => cases b <;> cases w <;> rfl
    | tup l => cases l <;> rfl
    | _ => rfl
/-! Two ways of a guard are told as one, at the region's end. -/
def mergeX (b : Bool) (x y : Option (AX × ASt)) : Option (AX × ASt) := if b = true then x else y
def mergeV (b : Bool) (x y : AV) : AV := if b = true then x else y
def mergeS (b : Bool) (x y : Slots) : Slots := if b = true then x else y
def aset : Slots → Nat → AV → Slots
  | [], _, _ => []
  | (k', x) :: l, k, v => if k' = k then (k', v) :: l else (k', x) :: aset l k v
@[simp] theorem aset_nil {k v} : aset [] k v = [] := rfl
@[simp] theorem aset_cons {k' x l k v} : aset ((k', x) :: l) k v = if k' = k then (k', v) :: l else (k', x) :: aset l k v := rfl
theorem aset_same {v : AV} {k : Nat} : ∀ {sl : Slots}, aget sl k = some v → aset sl k v = sl
  | [], h => by cases h
  | (k', x) :: l, h => by
    simp only [aget] at h
    simp only [aset]
    split
    · rename_i e; rw [if_pos e] at h; cases h; rfl
    · rename_i e; rw [if_neg e] at h; rw [aset_same h]
@[simp low] theorem gW_split {L} {sl : Slots} {hp : Heap} {k w o} {b : Bool} (hk : aget sl k = some (.bool b)) : trimX L (gW G call ops k w o r ⟨sl, hp⟩ (.bool b)) =
    mergeX b (trimX L (gW G call ops k w o r ⟨aset sl k (.bool true), hp⟩ (.bool true))) (trimX L (gW G call ops k w o r ⟨aset sl k (.bool false), hp⟩ (.bool false))) := by
  cases b with
  | true => rw [aset_same hk]; rfl
  | false => rw [aset_same hk]; rfl
@[simp] theorem mergeX_s {b x l m hp} : mergeX b (some (x, ⟨l, hp⟩)) (some (x, ⟨m, hp⟩)) = some (x, ⟨mergeS b l m, hp⟩) := by cases b <;> rfl
@[simp] theorem mergeS_n {b} : mergeS b [] [] = [] := by cases b <;> rfl
@[simp] theorem mergeS_c {b t x y l m} : mergeS b ((t, x) :: l) ((t, y) :: m) = (t, mergeV b x y) :: mergeS b l m := by cases b <;> rfl
@[simp] theorem mergeV_same {b x} : mergeV b x x = x := by cases b <;> rfl
@[simp] theorem mergeV_b {b x y} : mergeV b (.bool x) (.bool y) = .bool (bif b then x else y) := by cases b <;> rfl
@[simp] theorem mergeV_i {b k x y} : mergeV b (.int k x) (.int k y) = .int k (bif b then x else y) := by cases b <;> rfl

@[simp] theorem ao_move : aopsL G call ops (⟨d, .move x, t, p, af, none⟩ :: r) st = aopsL G call ops r (st.put d (st.ev x)) := ao_read rfl
@[simp] theorem ao_assign : aopsL G call ops (⟨d, .assign x, t, p, af, none⟩ :: r) st = aopsL G call ops r (st.put d (st.ev x)) := ao_read rfl
def pickV (c a b : AV) : Option AV := match c with | .bool t => some (if t then a else b) | _ => none
@[simp] theorem pickV_t {a b} : pickV (.bool true) a b = some a := rfl
@[simp] theorem pickV_f {a b} : pickV (.bool false) a b = some b := rfl
theorem pickV_b {t a b} : pickV (.bool t) a b = some (if t = true then a else b) := by cases t <;> rfl
@[simp] theorem ao_pick : aopsL G call ops (⟨d, .pick x y z, t, p, af, none⟩ :: r) st = valX G call ops d r st (pickV (st.ev x) (st.ev y) (st.ev z)) := ao_read rfl
def binO (P : Program) (op : BinOp) (t : TypeId) (cx cy : Bool) (a b : AV) : Option AV :=
  match a, b with
    | .nili, .nili => (match op, P.underlying t with
      | .eql, some (.interface _) => if cx || cy then some (.bool true) else none
      | .neq, some (.interface _) => if cx || cy then some (.bool false) else none
      | _, _ => none)
    | a, b => binv P op t a b
@[simp] theorem ao_binOp {op} : aopsL G call ops (⟨d, .binOp op t' x y t'', t, p, af, none⟩ :: r) st = valX G call ops d r st (binO G.P op t' (isConst x) (isConst y) (st.ev x) (st.ev y)) := ao_read rfl
@[simp] theorem ao_unOp {op} : aopsL G call ops (⟨d, .unOp op t' x, t, p, af, none⟩ :: r) st = valX G call ops d r st (unv op (st.ev x)) := ao_read rfl
def fieldV (P : Program) (t : TypeId) (k : Nat) (v : AV) : Option AV := match fieldOff P t k, v with
    | some fd, .agg cs => partT P fd.type cs fd.offset
    | _, _ => none
@[simp] theorem ao_field {k} : aopsL G call ops (⟨d, .field t' x k, t, p, af, none⟩ :: r) st = valX G call ops d r st (fieldV G.P t' k (st.ev x)) := ao_read rfl
def fieldAddrV (P : Program) (t : TypeId) (k : Nat) (v : AV) : Option AV := match fieldOff P t k, v with
    | some fd, .ptr id i o => if P.cellsOf fd.type = 0 then none else some (.ptr id i (o + fd.offset))
    | some fd, .ep v o => if P.cellsOf fd.type = 0 ∨ v.cells.length ≤ o + fd.offset then none else some (.ep v (o + fd.offset))
    | _, _ => none
@[simp] theorem ao_fieldAddr {k} : aopsL G call ops (⟨d, .fieldAddr t' x k, t, p, af, none⟩ :: r) st = valX G call ops d r st (fieldAddrV G.P t' k (st.ev x)) := ao_read rfl
@[simp] theorem ao_indexAddr : aopsL G call ops (⟨d, .indexAddr t' x y, t, p, af, none⟩ :: r) st = valX G call ops d r st (indexA G.P st.hp t' (st.ev x) (st.ev y)) := ao_read rfl
@[simp] theorem ao_index : aopsL G call ops (⟨d, .index t' x y, t, p, af, none⟩ :: r) st = valX G call ops d r st (indexv G.P t' (st.ev x) (st.ev y)) := ao_read rfl
def loadV (P : Program) (hp : Heap) (t : TypeId) (v : AV) : Option AV := match v with
    | .ptr id i o => (aget hp id).bind fun ob => (objCells ob i).bind fun cs => partT P t cs o
    | .ep v o => partT P t v.cells o
    | _ => none
@[simp] theorem ao_load : aopsL G call ops (⟨d, .load t' x, t, p, af, none⟩ :: r) st = valX G call ops d r st (loadV G.P st.hp t' (st.ev x)) := ao_read rfl
def extractV (i : Nat) : AV → Option AV | .tup vs => vs[i]? | _ => none
@[simp] theorem extractV_t {i vs} : extractV i (.tup vs) = vs[i]? := rfl
@[simp] theorem ao_extract {i} : aopsL G call ops (⟨d, .extract x i, t, p, af, none⟩ :: r) st = valX G call ops d r st (extractV i (st.ev x)) := ao_read rfl
@[simp] theorem ao_build {ps : Array (Nat × Operand)} : aopsL G call ops (⟨d, .build t' ps, t, p, af, none⟩ :: r) st = valX G call ops d r st (buildA G.P t' (ps.toList.map fun q => (q.1, st.ev q.2))) := ao_read rfl
def mkIface (P : Program) (t : TypeId) (v : AV) : Option AV := match P.underlying t with | some (.interface _) => none | some _ => some (.iface t v) | none => none
@[simp] theorem ao_makeInterface : aopsL G call ops (⟨d, .makeInterface t' x, t, p, af, none⟩ :: r) st = valX G call ops d r st (mkIface G.P t' (st.ev x)) := ao_read rfl
@[simp] theorem ao_makeFunc {g : Fn} {a b : Array Operand} : aopsL G call ops (⟨d, .makeFunc g a b, t, p, af, none⟩ :: r) st = aopsL G call ops r (st.put d (.fn g (a.toList.map st.ev) (b.toList.map st.ev))) := ao_read rfl
def nilCheckV : AV → Option AV | .ptr id i o => some (.ptr id i o) | .ep v o => some (.ep v o) | .iface t v => some (.iface t v) | _ => none
@[simp] theorem nilCheckV_p {id i o} : nilCheckV (.ptr id i o) = some (.ptr id i o) := rfl
@[simp] theorem nilCheckV_e {v o} : nilCheckV (.ep v o) = some (.ep v o) := rfl
@[simp] theorem ao_nilCheck : aopsL G call ops (⟨d, .nilCheck x, t, p, af, none⟩ :: r) st = valX G call ops d r st (nilCheckV (st.ev x)) := ao_read rfl
def assertV (P : Program) (t : TypeId) (ok : Bool) (v : AV) : Option AV := match P.underlying t, v with
    | some (.interface _), _ => none
    | some _, .iface t' v => if t' = t then some (if ok then .tup [v, .bool true] else v) else (if ok then ((P.info? t).bind (·.zero)).map fun z => .tup [ofValue z, .bool false] else none)
    | some _, .nili => if ok then ((P.info? t).bind (·.zero)).map fun z => .tup [ofValue z, .bool false] else none
    | _, _ => none
@[simp] theorem ao_typeAssert {ok} : aopsL G call ops (⟨d, .typeAssert x t'' t' ok, t, p, af, none⟩ :: r) st = valX G call ops d r st (assertV G.P t' ok (st.ev x)) := ao_read rfl

/-! Those that write. -/
theorem ao_alloc {e : TypeId} {d : Nat} : aopsL G call ops (⟨some d, .alloc e, t, p, af, none⟩ :: r) st = resX G call ops (some d) r (((G.P.info? e).bind (·.zero)).bind fun z => if okCells (ofValue z) ∧ (ofValue z).cells.length = G.P.cellsOf e then newObj d (.box e (ofValue z)) (fun n => .ptr n 0 0) st else none) := ao_any
def allocX (G : Cfg) (e : TypeId) (d : Nat) (st : ASt) : Option AR := ((G.P.info? e).bind (·.zero)).bind fun z => if okCells (ofValue z) ∧ (ofValue z).cells.length = G.P.cellsOf e then newObj d (.box e (ofValue z)) (fun n => .ptr n 0 0) st else none
@[simp] theorem ao_alloc' {e : TypeId} {d : Nat} : aopsL G call ops (⟨some d, .alloc e, t, p, af, none⟩ :: r) st = resX G call ops (some d) r (allocX G e d st) := ao_any
def boxX (G : Cfg) (e : TypeId) (v : AV) (d : Nat) (st : ASt) : Option AR := if 0 < G.P.cellsOf e ∧ okCells v ∧ v.cells.length = G.P.cellsOf e then newObj d (.box e v) (fun n => .ptr n 0 0) st else none
@[simp] theorem ao_box {e : TypeId} {d : Nat} : aopsL G call ops (⟨some d, .box e x, t, p, af, none⟩ :: r) st = resX G call ops (some d) r (boxX G e (st.ev x) d st) := ao_any
@[simp] theorem ao_store : aopsL G call ops (⟨d, .store t' x y, t, p, af, none⟩ :: r) st = resX G call ops d r ((storeA G t' (st.ev x) (st.ev y) st).map fun s => .val .undef s) := ao_any
def buildSliceX (G : Cfg) (t : TypeId) (len : Nat) (is : List Nat) (vs : List AV) (d : Nat) (st : ASt) : Option AR :=
  (elemOf? G.P t).bind fun e =>
      let ys := AV.rvL st.hp vs
      if is = List.range len ∧ ((G.P.info? e).bind (·.zero)).isSome ∧ AV.pureL ys ∧ (ys.all fun y => okCells y && y.cells.length == G.P.cellsOf e) ∧ 0 < G.P.cellsOf e ∧ len * G.P.cellsOf e ≤ 16777216 then
        newObj d (.row (G.P.cellsOf e) ys false ⟨false, e⟩) .own (st.fix (AV.rowsL vs))
      else none
@[simp] theorem ao_buildSlice {len} {ps : Array (Nat × Operand)} {d : Nat} : aopsL G call ops (⟨some d, .buildSlice t' len ps, t, p, af, none⟩ :: r) st = resX G call ops (some d) r (buildSliceX G t' len (ps.toList.map (·.1)) (ps.toList.map fun q => st.ev q.2) d st) := ao_any
def panicX (v : AV) (st : ASt) : Option AR := match v with
    | .iface t v => some (.pan ((AV.iface t v).rv st.hp) (st.fix (AV.iface t v).rows))
    | _ => none
@[simp] theorem ao_panic : aopsL G call ops (⟨d, .panic x, t, p, af, none⟩ :: r) st = resX G call ops d r (panicX (st.ev x) st) := ao_any
def makeSliceX (G : Cfg) (t : TypeId) (l c : AV) (d : Nat) (st : ASt) : Option AR :=
  (elemOf? G.P t).bind fun e => ((G.P.info? e).bind (·.zero)).bind fun z =>
      match l, c with
      | .int .i64 n, .int .i64 m =>
        if 0 ≤ n ∧ n ≤ m ∧ m ≤ LIM ∧ ((G.P.info? e).map (·.bytes)).getD 4097 ≤ 4096 ∧ (ofValue z).pureB ∧ okCells (ofValue z) ∧ 0 < G.P.cellsOf e ∧ (ofValue z).cells.length = G.P.cellsOf e then newObj d (.row (G.P.cellsOf e) (List.replicate n.toNat (ofValue z)) false ⟨false, e⟩) .own st else none
      | _, _ => none
@[simp] theorem ao_makeSlice {d : Nat} : aopsL G call ops (⟨some d, .makeSlice t' x y, t, p, af, none⟩ :: r) st = resX G call ops (some d) r (makeSliceX G t' (st.ev x) (st.ev y) d st) := ao_any
def convertX (G : Cfg) (s t : TypeId) (v : AV) (d : Option Nat) (st : ASt) : Option AR := match G.P.underlying t, v with
    | some (.slice e), .str l =>
      (match G.P.underlying e with
       | some (.int .u8) => d.bind fun d => if isStringT G.P s then newObj d (.row 1 (l.map fun b => .int .u8 b.toNat) false ⟨false, e⟩) .own st else none
       | _ => none)
    | _, _ => (convv G.P st.hp s t v).map fun v => .val v st
@[simp] theorem ao_convert : aopsL G call ops (⟨d, .convert t' t'' x, t, p, af, none⟩ :: r) st = resX G call ops d r (convertX G t' t'' (st.ev x) d st) := ao_any
def sliceX (G : Cfg) (t : TypeId) (v : AV) (lo hi mx : Option AV) (st : ASt) : Option AR := match cutA st.hp v lo hi mx with
    | some q => if (elemOf? G.P t).map (G.P.cellsOf ·) = some q.2.1 then some (.val (.own q.1) (st.cut q)) else none
    | none => (slicev G.P st.hp t v lo hi mx).map fun v => .val v st
@[simp] theorem ao_slice {lo hi mx : Option Operand} : aopsL G call ops (⟨d, .slice t' x lo hi mx, t, p, af, none⟩ :: r) st = resX G call ops d r (sliceX G t' (st.ev x) (lo.map st.ev) (hi.map st.ev) (mx.map st.ev) st) := ao_any

/-! Calls. -/
@[simp] theorem ao_len {ts : TypeId} : aopsL G call ops (⟨d, .call ⟨.builtin .len, #[x], #[ts]⟩, t, p, af, none⟩ :: r) st = valX G call ops d r st (lenv G.P st.hp ts (st.ev x)) := ao_read rfl
@[simp] theorem ao_cap {ts : TypeId} : aopsL G call ops (⟨d, .call ⟨.builtin .cap, #[x], #[ts]⟩, t, p, af, none⟩ :: r) st = valX G call ops d r st (capv G.P ts (st.ev x)) := ao_read rfl
@[simp] theorem ao_min {ts} : aopsL G call ops (⟨d, .call ⟨.builtin .min, #[x, y], ts⟩, t, p, af, none⟩ :: r) st = valX G call ops d r st (minmax false (st.ev x) (st.ev y)) := by
  refine ao_read ?_
  simp only [aop, calledA, aopB]
@[simp] theorem ao_max {ts} : aopsL G call ops (⟨d, .call ⟨.builtin .max, #[x, y], ts⟩, t, p, af, none⟩ :: r) st = valX G call ops d r st (minmax true (st.ev x) (st.ev y)) := by
  refine ao_read ?_
  simp only [aop, calledA, aopB]
@[simp] theorem ao_append {d : Nat} {t1 t2 : TypeId} : aopsL G call ops (⟨some d, .call ⟨.builtin .append, #[x, y], #[t1, t2]⟩, t, p, af, none⟩ :: r) st = resX G call ops (some d) r (appendA G d t1 t2 (st.ev x) (st.ev y) st) := ao_any
def callV (G : Cfg) (call : CallFn) (d : Option Nat) (fv : AV) (args : List AV) (st : ASt) : Option AR := match extA G fv args with
    | some v => some (.val v st)
    | none => callA G call d fv args st
@[simp] theorem ao_call {args : Array Operand} {ts} : aopsL G call ops (⟨d, .call ⟨.value x, args, ts⟩, t, p, af, none⟩ :: r) st = resX G call ops d r (callV G call d (st.ev x) (args.toList.map st.ev) st) := ao_any
end
end Go.Proofs.Ytonaejfpiihfhaa.Abs

/- States, values, calls: as equations. -/
namespace Go.Proofs.Ytonaejfpiihfhaa.Abs
open Go Go.RowKit
set_option linter.unusedSimpArgs false
set_option linter.unusedVariables false

section
variable {G : Cfg} {call : CallFn} {loop : LoopFn} {f : FuncId} {st : ASt} {sl : Slots} {hp : Heap}

/-! ### Slots -/
@[simp] theorem ev_tmp {t} : ASt.ev ⟨sl, hp⟩ (.tmp t) = (aget sl t).getD .undef := rfl
@[simp] theorem ev_const {v} : st.ev (.const v) = ofValue v := rfl
@[simp] theorem ev_func {g} : st.ev (.func g) = .fn (.func g) [] [] := rfl
@[simp] theorem slot_mk {t} : ASt.slot ⟨sl, hp⟩ t = (aget sl t).getD .undef := rfl
@[simp] theorem put_some {t v} : ASt.put ⟨sl, hp⟩ (some t) v = ⟨(t, v) :: sl, hp⟩ := rfl
@[simp] theorem put_none {v} : st.put none v = st := rfl
@[simp] theorem aget_nil {α : Type} {n : Nat} : aget ([] : List (Nat × α)) n = none := rfl
@[simp] theorem aget_cons' {α : Type} {k n : Nat} {v : α} {r : List (Nat × α)} : aget ((k, v) :: r) n = if k = n then some v else aget r n := rfl
@[simp] theorem isConst_c {v} : isConst (.const v) = true := rfl
@[simp] theorem isConst_t {v} : isConst (.tmp v) = false := rfl
@[simp] theorem ofValue_b {b} : ofValue (.bool b) = .bool b := rfl
@[simp] theorem ofValue_i {k n} : ofValue (.int k n) = .int k n := rfl
@[simp] theorem ofValue_s {s} : ofValue (.string s) = .str s.data.toList := rfl
@[simp] theorem ofValue_np : ofValue (.pointer none) = .nilp := rfl
@[simp] theorem ofValue_ns : ofValue (.slice none 0 0) = .nils := rfl
@[simp] theorem ofValue_nf : ofValue .nilFunc = .nilf := rfl
@[simp] theorem ofValue_ni : ofValue .nilIface = .nili := rfl
@[simp] theorem ofValue_a {cs} : ofValue (.agg cs) = .agg (cs.toList.map ofScalar) := rfl
@[simp] theorem ofScalar_b {b} : ofScalar (.bool b) = .bool b := rfl
@[simp] theorem ofScalar_i {k n} : ofScalar (.int k n) = .int k n := rfl
@[simp] theorem ofScalar_s {s} : ofScalar (.string s) = .str s.data.toList := rfl
@[simp] theorem ofScalar_np : ofScalar (.pointer none) = .nilp := rfl
@[simp] theorem ofScalar_ns : ofScalar (.slice none 0 0) = .nils := rfl
@[simp] theorem ofScalar_nf : ofScalar .nilFunc = .nilf := rfl
@[simp] theorem ofScalar_ni : ofScalar .nilIface = .nili := rfl

/-! ### Whole numbers, strings, comparisons -/
def wAnd (k : IntKind) (a b : Int) : Int := k.wrap (BitVec.ofInt k.bits a &&& BitVec.ofInt k.bits b).toNat
def wOr (k : IntKind) (a b : Int) : Int := k.wrap (BitVec.ofInt k.bits a ||| BitVec.ofInt k.bits b).toNat
def wXor (k : IntKind) (a b : Int) : Int := k.wrap (BitVec.ofInt k.bits a ^^^ BitVec.ofInt k.bits b).toNat
def wAndNot (k : IntKind) (a b : Int) : Int := k.wrap (BitVec.ofInt k.bits a &&& ~~~BitVec.ofInt k.bits b).toNat
section
variable {P : Program} {t : TypeId} {cx cy : Bool} {k : IntKind} {a b : Int} {s u : List UInt8}
theorem beqS (s u : List UInt8) : (s == u) = decide (s = u) := by
  by_cases h : s = u
  · subst h; simp
  · rw [decide_eq_false h]; exact beq_eq_false_iff_ne.2 h
@[simp] theorem bo_add : binO P .add t cx cy (.int k a) (.int k b) = some (.int k (k.wrap (a + b))) := by simp [binO, binv, arith]
@[simp] theorem bo_sub : binO P .sub t cx cy (.int k a) (.int k b) = some (.int k (k.wrap (a - b))) := by simp [binO, binv, arith]
@[simp] theorem bo_mul : binO P .mul t cx cy (.int k a) (.int k b) = some (.int k (k.wrap (a * b))) := by simp [binO, binv, arith]
@[simp] theorem bo_quo : binO P .quo t cx cy (.int k a) (.int k b) = if b = 0 then none else some (.int k (k.wrap (a.tdiv b))) := by simp [binO, binv, arith]
@[simp] theorem bo_rem : binO P .rem t cx cy (.int k a) (.int k b) = if b = 0 then none else some (.int k (a.tmod b)) := by simp [binO, binv, arith]
@[simp] theorem bo_and : binO P .and t cx cy (.int k a) (.int k b) = some (.int k (wAnd k a b)) := by simp [binO, binv, arith, wAnd]
@[simp] theorem bo_or : binO P .or t cx cy (.int k a) (.int k b) = some (.int k (wOr k a b)) := by simp [binO, binv, arith, wOr]
@[simp] theorem bo_xor : binO P .xor t cx cy (.int k a) (.int k b) = some (.int k (wXor k a b)) := by simp [binO, binv, arith, wXor]
@[simp] theorem bo_andNot : binO P .andNot t cx cy (.int k a) (.int k b) = some (.int k (wAndNot k a b)) := by simp [binO, binv, arith, wAndNot]
@[simp] theorem bo_eql : binO P .eql t cx cy (.int k a) (.int k b) = some (.bool (decide (a = b))) := by simp [binO, binv, arith]; rfl
@[simp] theorem bo_neq : binO P .neq t cx cy (.int k a) (.int k b) = some (.bool (!decide (a = b))) := by simp [binO, binv, arith]; rfl
@[simp] theorem bo_lss : binO P .lss t cx cy (.int k a) (.int k b) = some (.bool (decide (a < b))) := by simp [binO, binv, arith]
@[simp] theorem bo_leq : binO P .leq t cx cy (.int k a) (.int k b) = some (.bool (decide (a ≤ b))) := by simp [binO, binv, arith]
@[simp] theorem bo_gtr : binO P .gtr t cx cy (.int k a) (.int k b) = some (.bool (decide (b < a))) := by simp [binO, binv, arith]
@[simp] theorem bo_geq : binO P .geq t cx cy (.int k a) (.int k b) = some (.bool (decide (b ≤ a))) := by simp [binO, binv, arith]
@[simp] theorem bo_shl {k' : IntKind} : binO P .shl t cx cy (.int k a) (.int k' b) = if b < 0 then none else some (.int k (k.wrap (a * 2 ^ (min b.toNat k.bits)))) := by simp [binO, binv, arith]
@[simp] theorem bo_shr {k' : IntKind} : binO P .shr t cx cy (.int k a) (.int k' b) = if b < 0 then none else some (.int k (a.fdiv (2 ^ (min b.toNat k.bits)))) := by simp [binO, binv, arith]
@[simp] theorem bs_add : binO P .add t cx cy (.str s) (.str u) = if s.length + u.length ≤ LIM then some (.str (s ++ u)) else none := by simp [binO, binv, strOp]
@[simp] theorem bs_eql : binO P .eql t cx cy (.str s) (.str u) = some (.bool (decide (s = u))) := by simp [binO, binv, strOp, beqS]
@[simp] theorem bs_neq : binO P .neq t cx cy (.str s) (.str u) = some (.bool (!decide (s = u))) := by simp [binO, binv, strOp, beqS]
@[simp] theorem bs_lss : binO P .lss t cx cy (.str s) (.str u) = some (.bool (ltB s u)) := by simp [binO, binv, strOp]
@[simp] theorem bs_leq : binO P .leq t cx cy (.str s) (.str u) = some (.bool (ltB s u || decide (s = u))) := by simp [binO, binv, strOp, beqS]
@[simp] theorem bs_gtr : binO P .gtr t cx cy (.str s) (.str u) = some (.bool (!(ltB s u || decide (s = u)))) := by simp [binO, binv, strOp, beqS]
@[simp] theorem bs_geq : binO P .geq t cx cy (.str s) (.str u) = some (.bool (!ltB s u)) := by simp [binO, binv, strOp]
@[simp] theorem ba_eql {x y : List AV} : binO P .eql t cx cy (.agg x) (.agg y) = (eqAggA P t x y).map .bool := by simp [binO, binv, eqv]
@[simp] theorem ba_neq {x y : List AV} : binO P .neq t cx cy (.agg x) (.agg y) = (eqAggA P t x y).map fun b => .bool (!b) := by simp [binO, binv, eqv]
@[simp] theorem un_not {b : Bool} : unv .not (.bool b) = some (.bool (!b)) := rfl
@[simp] theorem un_neg : unv .neg (.int k a) = some (.int k (k.wrap (0 - a))) := rfl
@[simp] theorem un_xor : unv .xor (.int k a) = some (.int k (wXor k (if k.signed then -1 else k.max) a)) := rfl
@[simp] theorem ef_bool {x y : Bool} (h : P.underlying t = some .bool) : eqFieldA P t (.bool x) (.bool y) = some (decide (x = y)) := by simp only [eqFieldA, h]; cases x <;> cases y <;> rfl
@[simp] theorem ef_int {k' : IntKind} (h : P.underlying t = some (.int k')) : eqFieldA P t (.int k a) (.int k b) = some (decide (a = b)) := by simp only [eqFieldA, h, if_true]; rfl
@[simp] theorem ef_str (h : P.underlying t = some .string) : eqFieldA P t (.str s) (.str u) = some (decide (s = u)) := by simp only [eqFieldA, h, beqS]
end

/-! ### Names and rows: a plain value has none -/
@[simp] theorem rv_list {sz es} : (AV.list sz es).rv hp = .list sz es := rfl
@[simp] theorem rv_int {k n} : (AV.int k n).rv hp = .int k n := rfl
@[simp] theorem rv_str {s} : (AV.str s).rv hp = .str s := rfl
@[simp] theorem rv_bool {b} : (AV.bool b).rv hp = .bool b := rfl
@[simp] theorem rv_nils : AV.nils.rv hp = .nils := rfl
@[simp] theorem rv_nilp : AV.nilp.rv hp = .nilp := rfl
@[simp] theorem rv_nilf : AV.nilf.rv hp = .nilf := rfl
@[simp] theorem rv_nili : AV.nili.rv hp = .nili := rfl
@[simp] theorem rv_undef : AV.undef.rv hp = .undef := rfl
@[simp] theorem rv_ptr {i j o} : (AV.ptr i j o).rv hp = .ptr i j o := rfl
@[simp] theorem rv_yld {i} : (AV.yld i).rv hp = .yld i := rfl
@[simp] theorem rv_ep {v o} : (AV.ep v o).rv hp = .ep v o := rfl
@[simp] theorem rv_agg {cs} : (AV.agg cs).rv hp = .agg (AV.rvL hp cs) := rfl
@[simp] theorem rv_tup {cs} : (AV.tup cs).rv hp = .tup (AV.rvL hp cs) := rfl
@[simp] theorem rv_iface {t v} : (AV.iface t v).rv hp = .iface t (v.rv hp) := rfl
@[simp] theorem rv_fn {g a b} : (AV.fn g a b).rv hp = .fn g (AV.rvL hp a) (AV.rvL hp b) := rfl
@[simp] theorem rv_own {id} : (AV.own id).rv hp = (match aget hp id with | some (.row sz es _ _) => if sz = 0 then .undef else .list sz es | _ => .undef) := rfl
@[simp] theorem rv_row {id o l} : (AV.row id o l).rv hp = (match aget hp id with | some (.row sz es _ _) => if sz ≠ 0 ∧ o + l ≤ es.length then .list sz ((es.drop o).take l) else .undef | _ => .undef) := rfl
@[simp] theorem rvL_nil : AV.rvL hp [] = [] := rfl
@[simp] theorem rvL_cons {v l} : AV.rvL hp (v :: l) = v.rv hp :: AV.rvL hp l := rfl
@[simp] theorem rows_list {sz es} : (AV.list sz es).rows = [] := rfl
@[simp] theorem rows_int {k n} : (AV.int k n).rows = [] := rfl
@[simp] theorem rows_str {s} : (AV.str s).rows = [] := rfl
@[simp] theorem rows_bool {b} : (AV.bool b).rows = [] := rfl
@[simp] theorem rows_nils : AV.nils.rows = [] := rfl
@[simp] theorem rows_nilp : AV.nilp.rows = [] := rfl
@[simp] theorem rows_nilf : AV.nilf.rows = [] := rfl
@[simp] theorem rows_nili : AV.nili.rows = [] := rfl
@[simp] theorem rows_undef : AV.undef.rows = [] := rfl
@[simp] theorem rows_ptr {i j o} : (AV.ptr i j o).rows = [] := rfl
@[simp] theorem rows_yld {i} : (AV.yld i).rows = [] := rfl
@[simp] theorem rows_ep {v o} : (AV.ep v o).rows = [] := rfl
@[simp] theorem rows_own {i} : (AV.own i).rows = [i] := rfl
@[simp] theorem rows_row {i o l} : (AV.row i o l).rows = [i] := rfl
@[simp] theorem rows_agg {cs} : (AV.agg cs).rows = AV.rowsL cs := rfl
@[simp] theorem rows_tup {cs} : (AV.tup cs).rows = AV.rowsL cs := rfl
@[simp] theorem rows_iface {t v} : (AV.iface t v).rows = v.rows := rfl
@[simp] theorem rows_fn {g a b} : (AV.fn g a b).rows = AV.rowsL a ++ AV.rowsL b := rfl
@[simp] theorem rowsL_nil : AV.rowsL [] = [] := rfl
@[simp] theorem rowsL_cons {v l} : AV.rowsL (v :: l) = v.rows ++ AV.rowsL l := rfl
@[simp] theorem names_list {sz es} : (AV.list sz es).names = [] := rfl
@[simp] theorem names_int {k n} : (AV.int k n).names = [] := rfl
@[simp] theorem names_str {s} : (AV.str s).names = [] := rfl
@[simp] theorem names_bool {b} : (AV.bool b).names = [] := rfl
@[simp] theorem names_nils : AV.nils.names = [] := rfl
@[simp] theorem names_nilp : AV.nilp.names = [] := rfl
@[simp] theorem names_nilf : AV.nilf.names = [] := rfl
@[simp] theorem names_nili : AV.nili.names = [] := rfl
@[simp] theorem names_undef : AV.undef.names = [] := rfl
@[simp] theorem names_ptr {i j o} : (AV.ptr i j o).names = [i] := rfl
@[simp] theorem names_yld {i} : (AV.yld i).names = [i] := rfl
@[simp] theorem names_ep {v o} : (AV.ep v o).names = [] := rfl
@[simp] theorem names_own {i} : (AV.own i).names = [i] := rfl
@[simp] theorem names_row {i o l} : (AV.row i o l).names = [i] := rfl
@[simp] theorem names_agg {cs} : (AV.agg cs).names = AV.namesL cs := rfl
@[simp] theorem names_tup {cs} : (AV.tup cs).names = AV.namesL cs := rfl
@[simp] theorem names_iface {t v} : (AV.iface t v).names = v.names := rfl
@[simp] theorem names_fn {g a b} : (AV.fn g a b).names = AV.namesL a ++ AV.namesL b := rfl
@[simp] theorem namesL_nil : AV.namesL [] = [] := rfl
@[simp] theorem namesL_cons {v l} : AV.namesL (v :: l) = v.names ++ AV.namesL l := rfl
@[simp] theorem ren_list {m sz es} : (AV.list sz es).ren m = .list sz es := rfl
@[simp] theorem ren_int {m k n} : (AV.int k n).ren m = .int k n := rfl
@[simp] theorem ren_str {m s} : (AV.str s).ren m = .str s := rfl
@[simp] theorem ren_bool {m b} : (AV.bool b).ren m = .bool b := rfl
@[simp] theorem ren_nils {m} : AV.nils.ren m = .nils := rfl
@[simp] theorem ren_nilp {m} : AV.nilp.ren m = .nilp := rfl
@[simp] theorem ren_nilf {m} : AV.nilf.ren m = .nilf := rfl
@[simp] theorem ren_nili {m} : AV.nili.ren m = .nili := rfl
@[simp] theorem ren_undef {m} : AV.undef.ren m = .undef := rfl
@[simp] theorem ren_ep {m v o} : (AV.ep v o).ren m = .ep v o := rfl
@[simp] theorem ren_agg {m cs} : (AV.agg cs).ren m = .agg (AV.renL m cs) := rfl
@[simp] theorem ren_tup {m cs} : (AV.tup cs).ren m = .tup (AV.renL m cs) := rfl
@[simp] theorem ren_iface {m t v} : (AV.iface t v).ren m = .iface t (v.ren m) := rfl
@[simp] theorem ren_fn {m g a b} : (AV.fn g a b).ren m = .fn g (AV.renL m a) (AV.renL m b) := rfl
@[simp] theorem ren_own {m i} : (AV.own i).ren m = (match aget m i with | some k => .own k | none => .undef) := rfl
@[simp] theorem ren_row {m i o l} : (AV.row i o l).ren m = (match aget m i with | some k => .row k o l | none => .undef) := rfl
@[simp] theorem ren_ptr {m i j o} : (AV.ptr i j o).ren m = (match aget m i with | some k => .ptr k j o | none => .undef) := rfl
@[simp] theorem ren_yld {m i} : (AV.yld i).ren m = (match aget m i with | some k => .yld k | none => .undef) := rfl
@[simp] theorem renL_nil {m} : AV.renL m [] = [] := rfl
@[simp] theorem renL_cons {m v l} : AV.renL m (v :: l) = v.ren m :: AV.renL m l := rfl
@[simp] theorem cells_agg {cs} : (AV.agg cs).cells = cs := rfl
@[simp] theorem cells_int {k n} : (AV.int k n).cells = [.int k n] := rfl
@[simp] theorem cells_str {s} : (AV.str s).cells = [.str s] := rfl
@[simp] theorem cells_bool {b} : (AV.bool b).cells = [.bool b] := rfl
@[simp] theorem cells_list {z es} : (AV.list z es).cells = [.list z es] := rfl
@[simp] theorem cells_nils : AV.nils.cells = [.nils] := rfl
@[simp] theorem cells_own {i} : (AV.own i).cells = [.own i] := rfl
@[simp] theorem cells_ptr {i j o} : (AV.ptr i j o).cells = [.ptr i j o] := rfl
@[simp] theorem cells_nilp : AV.nilp.cells = [.nilp] := rfl
@[simp] theorem cells_fn {g a b} : (AV.fn g a b).cells = [.fn g a b] := rfl

theorem nameless_ren {m : List (Nat × Nat)} : ∀ {v : AV}, v.names = [] → v.ren m = v
  | .agg cs, h => by simp only [ren_agg, nameless_renL (l := cs) h]
  | .tup cs, h => by simp only [ren_tup, nameless_renL (l := cs) h]
  | .iface t v, h => by simp only [ren_iface, nameless_ren (v := v) h]
  | .fn g a b, h => by
    simp only [names_fn, List.append_eq_nil_iff] at h
    simp only [ren_fn, nameless_renL h.1, nameless_renL h.2]
  | .undef, _ => rfl | .bool _, _ => rfl | .int _ _, _ => rfl | .str _, _ => rfl | .nilp, _ => rfl | .nils, _ => rfl | .nilf, _ => rfl | .nili, _ => rfl | .list _ _, _ => rfl | .ep _ _, _ => rfl
  | .own i, h => by cases h
  | .row i _ _, h => by cases h
  | .ptr i _ _, h => by cases h
  | .yld i, h => by cases h
where nameless_renL : ∀ {l : List AV}, AV.namesL l = [] → AV.renL m l = l
  | [], _ => rfl
  | v :: l, h => by
    simp only [namesL_cons, List.append_eq_nil_iff] at h
    simp only [renL_cons, nameless_ren h.1, nameless_renL h.2]
theorem namesL_of : ∀ {l : List AV}, AV.namesL l = [] → ∀ v ∈ l, v.names = []
  | [], _, v, hv => by simp at hv
  | x :: l, h, v, hv => by
    simp only [namesL_cons, List.append_eq_nil_iff] at h
    rcases List.mem_cons.1 hv with rfl | hv
    · exact h.1
    · exact namesL_of h.2 v hv
theorem nameless_rows : ∀ {v : AV}, v.names = [] → v.rows = []
  | .agg cs, h => nameless_rowsL (l := cs) h
  | .tup cs, h => nameless_rowsL (l := cs) h
  | .iface t v, h => nameless_rows (v := v) h
  | .fn g a b, h => by
    simp only [names_fn, List.append_eq_nil_iff] at h
    simp only [rows_fn, nameless_rowsL h.1, nameless_rowsL h.2]; rfl
  | .undef, _ => rfl | .bool _, _ => rfl | .int _ _, _ => rfl | .str _, _ => rfl | .nilp, _ => rfl | .nils, _ => rfl | .nilf, _ => rfl | .nili, _ => rfl | .list _ _, _ => rfl | .ep _ _, _ => rfl
  | .own i, h => by cases h
  | .row i _ _, h => by cases h
  | .ptr i _ _, h => by cases h
  | .yld i, h => by cases h
where nameless_rowsL : ∀ {l : List AV}, AV.namesL l = [] → AV.rowsL l = []
  | [], _ => rfl
  | v :: l, h => by
    simp only [namesL_cons, List.append_eq_nil_iff] at h
    simp only [rowsL_cons, nameless_rows h.1, nameless_rowsL h.2]; rfl
theorem nameless_rv : ∀ {v : AV}, v.names = [] → v.rv hp = v
  | .agg cs, h => by simp only [rv_agg, nameless_rvL (l := cs) h]
  | .tup cs, h => by simp only [rv_tup, nameless_rvL (l := cs) h]
  | .iface t v, h => by simp only [rv_iface, nameless_rv (v := v) h]
  | .fn g a b, h => by
    simp only [names_fn, List.append_eq_nil_iff] at h
    simp only [rv_fn, nameless_rvL h.1, nameless_rvL h.2]
  | .undef, _ => rfl | .bool _, _ => rfl | .int _ _, _ => rfl | .str _, _ => rfl | .nilp, _ => rfl | .nils, _ => rfl | .nilf, _ => rfl | .nili, _ => rfl | .list _ _, _ => rfl | .ep _ _, _ => rfl
  | .own i, h => by cases h
  | .row i _ _, h => by cases h
  | .ptr i _ _, h => by cases h
  | .yld i, h => by cases h
where nameless_rvL : ∀ {l : List AV}, AV.namesL l = [] → AV.rvL hp l = l
  | [], _ => rfl
  | v :: l, h => by
    simp only [namesL_cons, List.append_eq_nil_iff] at h
    simp only [rvL_cons, nameless_rv h.1, nameless_rvL h.2]

/-! ### Calls of plain values -/
theorem prepL_pure {g : FuncId} : ∀ {l : List AV} {j : Nat}, AV.namesL l = [] → prepL G g hp l j = l
  | [], _, _ => rfl
  | v :: l, j, h => by
    simp only [namesL_cons, List.append_eq_nil_iff] at h
    simp only [prepL, nameless_rv h.1, prepL_pure h.2]
    split <;> rfl
theorem prepRows_pure {g : FuncId} : ∀ {l : List AV} {j : Nat}, AV.namesL l = [] → prepRows G g l j = []
  | [], _, _ => rfl
  | v :: l, j, h => by
    simp only [namesL_cons, List.append_eq_nil_iff] at h
    simp only [prepRows, nameless_rows h.1, prepRows_pure h.2]
    split <;> rfl

/-- A call that is told by its answer alone. -/
def pureR (st : ASt) : ARes → AR
  | .ret v => .val v st
  | .pan v => .pan v st
@[simp] theorem pureR_r {v} : pureR st (.ret v) = .val v st := rfl
@[simp] theorem pureR_p {v} : pureR st (.pan v) = .pan v st := rfl
def ARes.val : ARes → AV
  | .ret v => v
  | .pan v => v

theorem callV_pure {d : Option Nat} {g : FuncId} {first caps args all : List AV} {res : ARes} (hE : G.E g = true) (hg : g < RB) (hx : G.ext g = none) (ha : first ++ args ++ caps = all) (hn : AV.namesL all = []) (hc : call g all [] = some (res, [])) (hv : res.val.names = []) :
    callV G call d (.fn (.func g) first caps) args st = some (pureR st res) := by
  unfold callV extA
  simp only [hx, Option.bind_none]
  unfold callA callB
  simp only [ha, prepL_pure hn, prepRows_pure hn, hn]
  have h1 : st.fix [] = st := rfl
  rw [h1]
  have h2 : reachL 40 st.hp [] [] = [] := rfl
  rw [h2]
  have h3 : toMap [] = [] := rfl
  rw [h3, nameless_ren.nameless_renL hn]
  have h4 : subHeap [] st.hp = [] := rfl
  rw [h4, hc]
  simp only [hE, hg, decide_true, Bool.and_self, List.all_nil, if_true, Option.bind_some, Option.map_map]
  have h5 : afterCall d [] st [] = some st := rfl
  rw [h5]
  cases res with
  | ret v =>
    have : v.ren [] = v := nameless_ren hv
    simp [answered, backMap, pureR, this]
  | pan v =>
    have : v.ren [] = v := nameless_ren hv
    simp [answered, backMap, pureR, this]

theorem callV_ret {d : Option Nat} {g : FuncId} {first caps args all : List AV} {v : AV} (hE : G.E g = true) (hg : g < RB) (hx : G.ext g = none) (ha : first ++ args ++ caps = all) (hn : AV.namesL all = []) (hc : call g all [] = some (.ret v, [])) (hv : v.names = []) :
    callV G call d (.fn (.func g) first caps) args st = some (.val v st) := callV_pure (res := .ret v) hE hg hx ha hn hc hv
theorem callV_pan {d : Option Nat} {g : FuncId} {first caps args all : List AV} {v : AV} (hE : G.E g = true) (hg : g < RB) (hx : G.ext g = none) (ha : first ++ args ++ caps = all) (hn : AV.namesL all = []) (hc : call g all [] = some (.pan v, [])) (hv : v.names = []) :
    callV G call d (.fn (.func g) first caps) args st = some (.pan v st) := callV_pure (res := .pan v) hE hg hx ha hn hc hv

theorem callV_ext {d : Option Nat} {g : FuncId} {first caps args : List AV} {p : List AV → Option AV} {v : AV} (hx : G.ext g = some p) (h : p (first ++ args ++ caps) = some v) : callV G call d (.fn (.func g) first caps) args st = some (.val v st) := by
  unfold callV extA
  simp only [hx, h, Option.bind_some]

/-! ### Bodies -/
/-- What a body's end is told as. -/
def endX (G : Cfg) (g : FuncId) (m : List Nat) (res : List ResultVar) : Option (AX × ASt) → Option (ARes × Heap)
  | some (.normal, s) => (resL G s res).map fun vs => retA (finishA G g m (resOf vs) s)
  | some (.ret, s) => (resL G s res).map fun vs => retA (finishA G g m (resOf vs) s)
  | some (.pan v, s) => some (panA (outOf m (hfix v.rows s.hp) (v.rv s.hp)))
  | _ => none
theorem runFn_body {g : FuncId} {fn : Func} {c : Code} {args : List AV} (hd : G.dfr g = false) (hf : G.P.funcs[g]? = some fn) (hb : fn.body = some c) :
    runFn G call loop g args hp = endX G g (hp.map (·.1)) fn.results.toList (codeX G call loop g c { sl := zipIx args 0, hp }) := by
  unfold runFn runBody
  simp only [hd, Bool.false_eq_true, if_false, hf, hb, Option.bind_some]
  cases codeX G call loop g c { sl := zipIx args 0, hp } with
  | none => rfl
  | some y => obtain ⟨x, s⟩ := y; cases x <;> rfl
@[simp] theorem resL_nil : resL G st [] = some [] := rfl
@[simp] theorem resL_tmp {t l} : resL G st (.tmp t :: l) = (resL G st l).map fun vs => st.slot t :: vs := by simp [resL, resv]
@[simp] theorem resOf_one {v} : resOf [v] = v := rfl
@[simp] theorem resOf_nil : resOf [] = .tup [] := rfl
@[simp] theorem resOf_two {v w l} : resOf (v :: w :: l) = .tup (v :: w :: l) := rfl

/-- A body without memory: its end. -/
theorem end_pure {g : FuncId} {res : List ResultVar} {x : AX} {s : ASt} {vs : List AV} (hx : x = .normal ∨ x = .ret) (hr : resL G s res = some vs) (hn : AV.namesL vs = []) : endX G g [] res (some (x, s)) = some (.ret (resOf vs), []) := by
  have hv : (resOf vs).names = [] := by
    unfold resOf
    split
    · simpa using hn
    · exact hn
  have hf : finishA G g [] (resOf vs) s = (resOf vs, []) := by
    unfold finishA
    simp only [nameless_rows hv, nameless_rv hv]
    have ho : ∀ h : Heap, outOf [] h (resOf vs) = (resOf vs, []) := by
      intro h
      unfold outOf
      simp only [hv, List.append_nil]
      have : reachL 60 h [] [] = [] := rfl
      rw [this, nameless_ren hv]; rfl
    split <;> exact ho _
  rcases hx with rfl | rfl <;> simp [endX, hr, hf, retA]
theorem end_pan {g : FuncId} {res : List ResultVar} {s : ASt} {v : AV} (hn : v.names = []) : endX G g [] res (some (.pan v, s)) = some (.pan v, []) := by
  unfold endX
  simp only [nameless_rows hn, nameless_rv hn]
  unfold outOf
  simp only [hn, List.append_nil]
  have : reachL 60 (hfix [] s.hp) [] [] = [] := rfl
  rw [this, nameless_ren hn]; rfl
end
end Go.Proofs.Ytonaejfpiihfhaa.Abs

/- What is unfolded, when code is gone through. -/
namespace Go.Proofs.Ytonaejfpiihfhaa.Abs
open Go Go.RowKit
set_option linter.unusedSimpArgs false
set_option linter.unusedVariables false
attribute [simp] boxX allocX newObj okCells storeA fieldAddrV fieldOff loadV partT partA objCells putA reCell hput hmod buildA fillA resv zipIx AObj.fix hfix ASt.fix fieldV
  assertV panicX mkIface buildSliceX AV.pureL elemOf? zeroFits makeSliceX capv rowAt slicev bound? sliceX cutA convertX convv isStringT
attribute [simp] Go.undef
@[simp] theorem src_list {hp k sz es} : srcEls hp k (.list sz es) = if sz = k then some es else if sz = 0 ∧ es = [] then some [] else none := rfl
@[simp] theorem src_nils {hp k} : srcEls hp k .nils = some [] := rfl
@[simp] theorem src_str {hp k s} : srcEls hp k (.str s) = if 1 = k then some (s.map fun b => .int .u8 b.toNat) else none := rfl
@[simp] theorem src_own {hp k id} : srcEls hp k (.own id) = (aget hp id).bind fun | .row sz es _ _ => if sz = k then some es else none | _ => none := rfl
@[simp] theorem src_row {hp k id o l} : srcEls hp k (.row id o l) = (aget hp id).bind fun | .row sz es _ _ => if sz = k ∧ o + l ≤ es.length then some ((es.drop o).take l) else none | _ => none := rfl
def lenD (hp : Heap) (d : Option TypeDesc) (x : AV) : Option AV :=
  match d, x with
  | some .string, .str s => some (.int .i64 s.length)
  | some (.array n _), _ => some (.int .i64 n)
  | some (.slice _), .list _ es => some (.int .i64 es.length)
  | some (.slice _), .nils => some (.int .i64 0)
  | some (.slice _), .own id => (rowAt hp id).map fun r => .int .i64 r.2.length
  | some (.slice _), .row _ _ l => some (.int .i64 l)
  | _, _ => none
@[simp] theorem lenv_D {P hp t x} : lenv P hp t x = lenD hp (P.underlying t) x := rfl
@[simp] theorem lenD_str {hp s} : lenD hp (some .string) (.str s) = some (.int .i64 s.length) := rfl
@[simp] theorem lenD_arr {hp n e x} : lenD hp (some (.array n e)) x = some (.int .i64 n) := rfl
@[simp] theorem lenD_list {hp e z es} : lenD hp (some (.slice e)) (.list z es) = some (.int .i64 es.length) := rfl
@[simp] theorem lenD_nils {hp e} : lenD hp (some (.slice e)) .nils = some (.int .i64 0) := rfl
@[simp] theorem lenD_own {hp e id} : lenD hp (some (.slice e)) (.own id) = (rowAt hp id).map fun r => .int .i64 r.2.length := rfl
@[simp] theorem lenD_row {hp e id o l} : lenD hp (some (.slice e)) (.row id o l) = some (.int .i64 l) := rfl
def indexD (P : Program) (hp : Heap) (d : Option TypeDesc) (x : AV) (n : Int) : Option AV :=
  match d, x with
     | some (.slice e), .list sz es => if sz = P.cellsOf e ∧ 0 < sz ∧ 0 ≤ n then (es[n.toNat]?).map fun e => .ep e 0 else none
     | some (.slice e), .own id => (rowAt hp id).bind fun r => if r.1 = P.cellsOf e ∧ 0 < r.1 ∧ 0 ≤ n ∧ n < r.2.length then some (.ptr id n.toNat 0) else none
     | some (.slice e), .row id o l => (rowAt hp id).bind fun r => if r.1 = P.cellsOf e ∧ 0 < r.1 ∧ 0 ≤ n ∧ n < l ∧ o + l ≤ r.2.length then some (.ptr id (o + n.toNat) 0) else none
     | some (.array m e), .ptr id j o => if 0 ≤ n ∧ n < m ∧ 0 < P.cellsOf e then some (.ptr id j (o + n.toNat * P.cellsOf e)) else none
     | some (.array m e), .ep v o => if 0 ≤ n ∧ n < m ∧ 0 < P.cellsOf e ∧ o + n.toNat * P.cellsOf e < v.cells.length then some (.ep v (o + n.toNat * P.cellsOf e)) else none
     | _, _ => none
@[simp] theorem indexA_D {P hp t x k n} : indexA P hp t x (.int k n) = indexD P hp (P.underlying t) x n := by
  unfold indexA indexD
  cases P.underlying t with
  | none => rfl
  | some d => cases d <;> cases x <;> rfl
@[simp] theorem indexD_list {P hp e sz es n} : indexD P hp (some (.slice e)) (.list sz es) n = if sz = P.cellsOf e ∧ 0 < sz ∧ 0 ≤ n then (es[n.toNat]?).map fun e => .ep e 0 else none := rfl
@[simp] theorem indexD_own {P hp e id n} : indexD P hp (some (.slice e)) (.own id) n = (rowAt hp id).bind fun r => if r.1 = P.cellsOf e ∧ 0 < r.1 ∧ 0 ≤ n ∧ n < r.2.length then some (.ptr id n.toNat 0) else none := rfl
@[simp] theorem indexD_row {P hp e id o l n} : indexD P hp (some (.slice e)) (.row id o l) n = (rowAt hp id).bind fun r => if r.1 = P.cellsOf e ∧ 0 < r.1 ∧ 0 ≤ n ∧ n < l ∧ o + l ≤ r.2.length then some (.ptr id (o + n.toNat) 0) else none := rfl
@[simp] theorem indexD_ptr {P hp m e id j o n} : indexD P hp (some (.array m e)) (.ptr id j o) n = if 0 ≤ n ∧ n < m ∧ 0 < P.cellsOf e then some (.ptr id j (o + n.toNat * P.cellsOf e)) else none := rfl
@[simp] theorem indexD_ep {P hp m e v o n} : indexD P hp (some (.array m e)) (.ep v o) n = if 0 ≤ n ∧ n < m ∧ 0 < P.cellsOf e ∧ o + n.toNat * P.cellsOf e < v.cells.length then some (.ep v (o + n.toNat * P.cellsOf e)) else none := rfl
@[simp] theorem okc_undef  : okCell AV.undef = false := rfl
@[simp] theorem kno_undef  : AV.known AV.undef = false := rfl
@[simp] theorem isA_undef  : AV.isA AV.undef = false := rfl
@[simp] theorem pur_undef  : AV.pureB AV.undef = false := by simp [AV.pureB]
@[simp] theorem okc_bool {b} : okCell (.bool b) = true := rfl
@[simp] theorem kno_bool {b} : AV.known (.bool b) = true := rfl
@[simp] theorem isA_bool {b} : AV.isA (.bool b) = false := rfl
@[simp] theorem pur_bool {b} : AV.pureB (.bool b) = true := by simp [AV.pureB]
@[simp] theorem okc_int {k n} : okCell (.int k n) = true := rfl
@[simp] theorem kno_int {k n} : AV.known (.int k n) = true := rfl
@[simp] theorem isA_int {k n} : AV.isA (.int k n) = false := rfl
@[simp] theorem pur_int {k n} : AV.pureB (.int k n) = true := by simp [AV.pureB]
@[simp] theorem okc_str {s} : okCell (.str s) = true := rfl
@[simp] theorem kno_str {s} : AV.known (.str s) = true := rfl
@[simp] theorem isA_str {s} : AV.isA (.str s) = false := rfl
@[simp] theorem pur_str {s} : AV.pureB (.str s) = true := by simp [AV.pureB]
@[simp] theorem okc_nilp  : okCell AV.nilp = true := rfl
@[simp] theorem kno_nilp  : AV.known AV.nilp = true := rfl
@[simp] theorem isA_nilp  : AV.isA AV.nilp = false := rfl
@[simp] theorem pur_nilp  : AV.pureB AV.nilp = true := by simp [AV.pureB]
@[simp] theorem okc_nils  : okCell AV.nils = true := rfl
@[simp] theorem kno_nils  : AV.known AV.nils = true := rfl
@[simp] theorem isA_nils  : AV.isA AV.nils = false := rfl
@[simp] theorem pur_nils  : AV.pureB AV.nils = true := by simp [AV.pureB]
@[simp] theorem okc_nilf  : okCell AV.nilf = true := rfl
@[simp] theorem kno_nilf  : AV.known AV.nilf = true := rfl
@[simp] theorem isA_nilf  : AV.isA AV.nilf = false := rfl
@[simp] theorem pur_nilf  : AV.pureB AV.nilf = true := by simp [AV.pureB]
@[simp] theorem okc_nili  : okCell AV.nili = true := rfl
@[simp] theorem kno_nili  : AV.known AV.nili = true := rfl
@[simp] theorem isA_nili  : AV.isA AV.nili = false := rfl
@[simp] theorem pur_nili  : AV.pureB AV.nili = true := by simp [AV.pureB]
@[simp] theorem okc_list {z l} : okCell (.list z l) = true := rfl
@[simp] theorem kno_list {z l} : AV.known (.list z l) = true := rfl
@[simp] theorem isA_list {z l} : AV.isA (.list z l) = false := rfl
@[simp] theorem pur_list {z l} : AV.pureB (.list z l) = true := by simp [AV.pureB]
@[simp] theorem okc_ep {v o} : okCell (.ep v o) = true := rfl
@[simp] theorem kno_ep {v o} : AV.known (.ep v o) = true := rfl
@[simp] theorem isA_ep {v o} : AV.isA (.ep v o) = false := rfl
@[simp] theorem pur_ep {v o} : AV.pureB (.ep v o) = true := by simp [AV.pureB]
@[simp] theorem okc_own {i} : okCell (.own i) = true := rfl
@[simp] theorem kno_own {i} : AV.known (.own i) = true := rfl
@[simp] theorem isA_own {i} : AV.isA (.own i) = false := rfl
@[simp] theorem pur_own {i} : AV.pureB (.own i) = false := by simp [AV.pureB]
@[simp] theorem okc_row {i o l} : okCell (.row i o l) = true := rfl
@[simp] theorem kno_row {i o l} : AV.known (.row i o l) = true := rfl
@[simp] theorem isA_row {i o l} : AV.isA (.row i o l) = false := rfl
@[simp] theorem pur_row {i o l} : AV.pureB (.row i o l) = false := by simp [AV.pureB]
@[simp] theorem okc_ptr {i o l} : okCell (.ptr i o l) = true := rfl
@[simp] theorem kno_ptr {i o l} : AV.known (.ptr i o l) = true := rfl
@[simp] theorem isA_ptr {i o l} : AV.isA (.ptr i o l) = false := rfl
@[simp] theorem pur_ptr {i o l} : AV.pureB (.ptr i o l) = false := by simp [AV.pureB]
@[simp] theorem okc_yld {i} : okCell (.yld i) = true := rfl
@[simp] theorem kno_yld {i} : AV.known (.yld i) = true := rfl
@[simp] theorem isA_yld {i} : AV.isA (.yld i) = false := rfl
@[simp] theorem pur_yld {i} : AV.pureB (.yld i) = false := by simp [AV.pureB]
@[simp] theorem okc_agg {l} : okCell (.agg l) = false := rfl
@[simp] theorem kno_agg {l} : AV.known (.agg l) = true := rfl
@[simp] theorem isA_agg {l} : AV.isA (.agg l) = true := rfl
@[simp] theorem pur_agg {l} : AV.pureB (.agg l) = AV.pureL l := by simp [AV.pureB]
@[simp] theorem okc_tup {l} : okCell (.tup l) = false := rfl
@[simp] theorem kno_tup {l} : AV.known (.tup l) = true := rfl
@[simp] theorem isA_tup {l} : AV.isA (.tup l) = false := rfl
@[simp] theorem pur_tup {l} : AV.pureB (.tup l) = AV.pureL l := by simp [AV.pureB]
@[simp] theorem okc_iface {t v} : okCell (.iface t v) = true := rfl
@[simp] theorem kno_iface {t v} : AV.known (.iface t v) = true := rfl
@[simp] theorem isA_iface {t v} : AV.isA (.iface t v) = false := rfl
@[simp] theorem pur_iface {t v} : AV.pureB (.iface t v) = AV.pureB v := by simp [AV.pureB]
@[simp] theorem okc_fn {g a b} : okCell (.fn g a b) = true := rfl
@[simp] theorem kno_fn {g a b} : AV.known (.fn g a b) = true := rfl
@[simp] theorem isA_fn {g a b} : AV.isA (.fn g a b) = false := rfl
@[simp] theorem pur_fn {g a b} : AV.pureB (.fn g a b) = (AV.pureL a && AV.pureL b) := by simp [AV.pureB]
@[simp] theorem mm_max {k : IntKind} {x y : Int} : minmax true (.int k x) (.int k y) = some (.int k (max x y)) := by
  simp only [minmax, if_true]
  congr 2
  by_cases h : x < y
  · rw [if_pos h]; omega
  · rw [if_neg h]; omega
@[simp] theorem mm_min {k : IntKind} {x y : Int} : minmax false (.int k x) (.int k y) = some (.int k (min x y)) := by
  simp only [minmax, if_true, Bool.false_eq_true, if_false]
  congr 2
  by_cases h : y < x
  · rw [if_pos h]; omega
  · rw [if_neg h]; omega
@[simp] theorem kill_int {n k m} : (AV.int k m).kill n = .int k m := rfl
@[simp] theorem kill_list {n k m} : (AV.list k m).kill n = .list k m := rfl
@[simp] theorem kill_str {n m} : (AV.str m).kill n = .str m := rfl
@[simp] theorem kill_bool {n m} : (AV.bool m).kill n = .bool m := rfl
@[simp] theorem kill_undef {n} : AV.undef.kill n = .undef := rfl
@[simp] theorem kill_nils {n} : AV.nils.kill n = .nils := rfl
@[simp] theorem kill_nilp {n} : AV.nilp.kill n = .nilp := rfl
@[simp] theorem kill_nilf {n} : AV.nilf.kill n = .nilf := rfl
@[simp] theorem kill_nili {n} : AV.nili.kill n = .nili := rfl
@[simp] theorem kill_ep {n v o} : (AV.ep v o).kill n = .ep v o := rfl
@[simp] theorem kill_own {n i} : (AV.own i).kill n = if i = n then .undef else .own i := rfl
@[simp] theorem kill_row_v {n i o l} : (AV.row i o l).kill n = if i = n then .undef else .row i o l := rfl
@[simp] theorem kill_ptr {n i o l} : (AV.ptr i o l).kill n = if i = n then .undef else .ptr i o l := rfl
@[simp] theorem kill_yld {n i} : (AV.yld i).kill n = if i = n then .undef else .yld i := rfl
@[simp] theorem kill_agg {n cs} : (AV.agg cs).kill n = .agg (AV.killL n cs) := rfl
@[simp] theorem kill_tup {n cs} : (AV.tup cs).kill n = .tup (AV.killL n cs) := rfl
@[simp] theorem kill_iface {n t v} : (AV.iface t v).kill n = .iface t (v.kill n) := rfl
@[simp] theorem kill_fn {n g a b} : (AV.fn g a b).kill n = .fn g (AV.killL n a) (AV.killL n b) := rfl
@[simp] theorem killL_nil' {n} : AV.killL n [] = [] := rfl
@[simp] theorem killL_cons' {n v l} : AV.killL n (v :: l) = v.kill n :: AV.killL n l := rfl
@[simp] theorem okill_box {n t v} : (AObj.box t v).kill n = .box t (v.kill n) := rfl
@[simp] theorem okill_row {n sz es fx mv} : (AObj.row sz es fx mv).kill n = .row sz es fx mv := rfl
@[simp] theorem oren_box {m t v} : (AObj.box t v).ren m = .box t (v.ren m) := rfl
@[simp] theorem oren_row {m sz es fx mv} : (AObj.row sz es fx mv).ren m = .row sz es fx mv := rfl
@[simp] theorem onames_box {t v} : (AObj.box t v).names = v.names := rfl
@[simp] theorem onames_row {sz es fx mv} : (AObj.row sz es fx mv).names = [] := rfl
@[simp] theorem killn_mk {sl hp n} : ASt.killn ⟨sl, hp⟩ n = ⟨sl.map fun p => (p.1, p.2.kill n), hp.map fun p => (p.1, p.2.kill n)⟩ := rfl
/-- A loop's head, where there is no memory. -/
def canonK (G : Cfg) (K : Option Keep) (st : ASt) : Option ASt :=
  K.bind fun K =>
    (canonAll (fun p s => canonAll (fun (j : Nat × Nat × TypeId) s => canonCell p.1 j.1 j.2 s) p.2 s) K.boxes st).bind fun st1 =>
    (canonAll canonSlot K.slots st1).bind fun st2 =>
    (canonAll canonBox K.boxes st2).bind fun st3 =>
      let names := reachL 60 st3.hp ((List.range 12) ++ K.boxes.map (·.1) ++ AV.namesL (K.slots.map fun s => st3.slot s.1)) []
      some (restrictTo (K.slots.map (·.1)) (names.filter fun n => (aget st3.hp n).isSome) st3)
@[simp] theorem canon_eq {G : Cfg} {f : FuncId} {c : Code} {st : ASt} : canon G f c st = canonK G (G.keep f (firstRegion c)) st := rfl
@[simp] theorem fr_region {id ops d} : firstRegion (.region id ops d) = id := rfl
@[simp] theorem fr_seq {a b} : firstRegion (.seq a b) = firstRegion a := rfl
@[simp] theorem fr_block {i b} : firstRegion (.block i b) = firstRegion b := rfl
@[simp] theorem fr_loop {b} : firstRegion (.loop b) = firstRegion b := rfl

theorem reach_none {hp : Heap} (h : hp = []) : ∀ (k : Nat) (l acc : List Nat), (∀ n ∈ reachL k hp l acc, n ∈ acc ∨ n ∈ l) := by
  subst h
  intro k
  induction k with
  | zero => intro l acc n hn; exact .inl (by simpa [reachL] using hn)
  | succ k ih =>
    intro l acc n hn
    cases l with
    | nil => exact .inl (by simpa [reachL] using hn)
    | cons x r =>
      simp only [reachL] at hn
      split at hn
      · rcases ih _ _ _ hn with h | h
        · exact .inl h
        · exact .inr (List.mem_cons_of_mem _ h)
      · simp only [aget_nil, Option.map_none, Option.getD_none, List.append_nil] at hn
        rcases ih _ _ _ hn with h | h
        · rcases List.mem_append.1 h with h | h
          · exact .inl h
          · exact .inr (by simp at h; simp [h])
        · exact .inr (List.mem_cons_of_mem _ h)

theorem canonK_pure {G : Cfg} {slots : List (Nat × Option (Nat × TypeId))} {sl : Slots} (h1 : slots.all (fun s => s.2.isNone) = true) (h2 : AV.namesL (slots.map fun s => (aget sl s.1).getD .undef) = []) :
    ∃ sl', canonK G (some ⟨slots, []⟩) ⟨sl, []⟩ = some ⟨sl', []⟩ ∧ sl' = slots.map fun s => (s.1, (aget sl s.1).getD .undef) := by
  have key : ∀ (l : List (Nat × Option (Nat × TypeId))) (cur : Slots), l.all (fun s => s.2.isNone) = true → (∀ s ∈ l, ((aget cur s.1).getD .undef).names = []) →
      ∃ cur', canonAll canonSlot l ⟨cur, []⟩ = some ⟨cur', []⟩ ∧ ∀ n, (aget cur' n).getD .undef = (aget cur n).getD .undef := by
    intro l
    induction l with
    | nil => intro cur _ _; exact ⟨cur, rfl, fun _ => rfl⟩
    | cons s l ih =>
      intro cur ha hn
      simp only [List.all_cons, Bool.and_eq_true] at ha
      obtain ⟨t, z⟩ := s
      cases z with
      | some z => simp at ha
      | none =>
        have hv := hn (t, none) (by simp)
        simp only at hv
        have hstep : canonSlot (t, none) ⟨cur, []⟩ = some ⟨(t, (aget cur t).getD .undef) :: cur, []⟩ := by
          simp only [canonSlot, slot_mk, nameless_rv hv, nameless_rows hv]; rfl
        have hsame : ∀ n, (aget ((t, (aget cur t).getD .undef) :: cur) n).getD .undef = (aget cur n).getD .undef := by
          intro n
          rw [aget_cons']
          split
          · rename_i e; subst e; rfl
          · rfl
        obtain ⟨cur', h3, h4⟩ := ih ((t, (aget cur t).getD .undef) :: cur) ha.2 (fun s hs => by rw [hsame]; exact hn s (List.mem_cons_of_mem _ hs))
        refine ⟨cur', ?_, fun n => (h4 n).trans (hsame n)⟩
        simp only [canonAll, hstep, Option.bind_some]; exact h3
  obtain ⟨cur', h3, h4⟩ := key slots sl h1 (fun s hs => namesL_of h2 _ (List.mem_map.2 ⟨s, hs, rfl⟩))
  refine ⟨_, ?_, rfl⟩
  simp only [canonK, Option.bind_some, canonAll, h3]
  have hnames : ∀ l : List Nat, (l.filter fun n => (aget ([] : Heap) n).isSome) = [] := by
    intro l; simp
  simp only [hnames]
  congr 1
  unfold restrictTo
  congr 1
  rw [List.map_map]
  refine List.map_congr_left fun s hs => ?_
  simp only [Function.comp, slot_mk, h4, List.map_nil]
  have := namesL_of h2 _ (List.mem_map.2 ⟨s, hs, rfl⟩)
  rw [nameless_ren this]

theorem canonK_p {G : Cfg} {slots : List (Nat × Option (Nat × TypeId))} {sl : Slots} (h1 : slots.all (fun s => s.2.isNone) = true) (h2 : AV.namesL (slots.map fun s => (aget sl s.1).getD .undef) = []) :
    canonK G (some ⟨slots, []⟩) ⟨sl, []⟩ = some ⟨slots.map fun s => (s.1, (aget sl s.1).getD .undef), []⟩ := by
  obtain ⟨_, h, rfl⟩ := canonK_pure (G := G) h1 h2; exact h

/-! Comparisons of other kinds. -/
section
variable {P : Program} {t : TypeId} {cx cy : Bool}
@[simp] theorem bb_eql {a b : Bool} (h : P.underlying t = some .bool) : binO P .eql t cx cy (.bool a) (.bool b) = some (.bool (a == b)) := by simp [binO, binv, eqv, h]
@[simp] theorem bb_neq {a b : Bool} (h : P.underlying t = some .bool) : binO P .neq t cx cy (.bool a) (.bool b) = some (.bool (!(a == b))) := by simp [binO, binv, eqv, h]
@[simp] theorem bnp_eql {e} (h : P.underlying t = some (.pointer e)) : binO P .eql t cx cy .nilp .nilp = some (.bool true) := by simp [binO, binv, eqv, h]
@[simp] theorem bnp_neq {e} (h : P.underlying t = some (.pointer e)) : binO P .neq t cx cy .nilp .nilp = some (.bool false) := by simp [binO, binv, eqv, h]
@[simp] theorem bpn_eql {e i j o} (h : P.underlying t = some (.pointer e)) : binO P .eql t cx cy (.ptr i j o) .nilp = some (.bool false) := by simp [binO, binv, eqv, h]
@[simp] theorem bpn_neq {e i j o} (h : P.underlying t = some (.pointer e)) : binO P .neq t cx cy (.ptr i j o) .nilp = some (.bool true) := by simp [binO, binv, eqv, h]
@[simp] theorem bss_eql {e} (h : P.underlying t = some (.slice e)) : binO P .eql t cx cy .nils .nils = some (.bool true) := by simp [binO, binv, eqv, h]
@[simp] theorem bss_neq {e} (h : P.underlying t = some (.slice e)) : binO P .neq t cx cy .nils .nils = some (.bool false) := by simp [binO, binv, eqv, h]
@[simp] theorem bls_eql {e z es} (h : P.underlying t = some (.slice e)) (hz : z = 0 ∨ es ≠ []) : binO P .eql t cx cy (.list z es) .nils = some (.bool false) := by simp [binO, binv, eqv, h, hz]
@[simp] theorem bls_neq {e z es} (h : P.underlying t = some (.slice e)) (hz : z = 0 ∨ es ≠ []) : binO P .neq t cx cy (.list z es) .nils = some (.bool true) := by simp [binO, binv, eqv, h, hz]
end

/-! ### Regions that draw their order -/
section
variable {G : Cfg} {call : CallFn} {loop : LoopFn} {f : FuncId} {ops : Array Oper} {r : List PS} {st : ASt} {d : Option Nat} {t t' t'' : TypeId} {p : String} {af : Array Edge} {x y z : Operand} {g : Option (Nat × Bool)}
def drawX (G : Cfg) (call : CallFn) (ops : Array Oper) (p : Option (List PS)) (st : ASt) : Option (AX × ASt) := p.bind fun p => runPlan G call ops p st
@[simp] theorem cx_draw {id} : codeX G call loop f (.region id ops true) st = trimX (G.live f id) (drawX G call ops (G.plan f id) st) := rfl
/-- On with the plan. -/
def planX (G : Cfg) (call : CallFn) (ops : Array Oper) (p : List PS) (st : ASt) : Option (AX × ASt) := runPlan G call ops p st
@[simp] theorem drawX_s {p} : drawX G call ops (some p) st = planX G call ops p st := rfl
@[simp] theorem planX_nil : planX G call ops [] st = some (.normal, st) := rfl
def nvX (G : Cfg) (call : CallFn) (ops : Array Oper) (d : Option Nat) (r : List PS) (st : ASt) : Option AV → Option (AX × ASt)
  | some v => planX G call ops r (st.put d v)
  | none => none
@[simp] theorem nvX_s {v} : nvX G call ops d r st (some v) = planX G call ops r (st.put d v) := rfl
def nX (G : Cfg) (call : CallFn) (ops : Array Oper) (r : List PS) (st : ASt) : Option Oper → Option (AX × ASt)
  | some o => nvX G call ops o.dst r st (nval G ops st o)
  | none => none
/-- A step of a plan behind a guard, whose slot holds this. -/
def gN' (G : Cfg) (call : CallFn) (ops : Array Oper) (k : Nat) (w : Bool) (d : Option Nat) (op : Op) (r : List PS) (st : ASt) : AV → Option (AX × ASt)
  | .bool b => if b == w then nvX G call ops d r st (nopv G st op) else planX G call ops r (st.put d (.tup []))
  | .tup [] => planX G call ops r (st.put d (.tup []))
  | _ => none
@[simp] theorem gN_tt {k d op} : gN' G call ops k true d op r st (.bool true) = nvX G call ops d r st (nopv G st op) := rfl
@[simp] theorem gN_ff {k d op} : gN' G call ops k false d op r st (.bool false) = nvX G call ops d r st (nopv G st op) := rfl
@[simp] theorem gN_tf {k d op} : gN' G call ops k true d op r st (.bool false) = planX G call ops r (st.put d (.tup [])) := rfl
@[simp] theorem gN_ft {k d op} : gN' G call ops k false d op r st (.bool true) = planX G call ops r (st.put d (.tup [])) := rfl
@[simp] theorem gN_n {k w d op} : gN' G call ops k w d op r st (.tup []) = planX G call ops r (st.put d (.tup [])) := rfl
@[simp low] theorem gN_split {L} {sl : Slots} {hp : Heap} {k w d op} {b : Bool} (hk : aget sl k = some (.bool b)) : trimX L (gN' G call ops k w d op r ⟨sl, hp⟩ (.bool b)) =
    mergeX b (trimX L (gN' G call ops k w d op r ⟨aset sl k (.bool true), hp⟩ (.bool true))) (trimX L (gN' G call ops k w d op r ⟨aset sl k (.bool false), hp⟩ (.bool false))) := by
  cases b with
  | true => rw [aset_same hk]; rfl
  | false => rw [aset_same hk]; rfl
def gNK (G : Cfg) (call : CallFn) (ops : Array Oper) (w : Bool) (d : Option Nat) (op : Op) (r : List PS) (st : ASt) : Option Nat → Option (AX × ASt)
  | some k => gN' G call ops k w d op r st (st.slot k)
  | none => none
@[simp] theorem gNK_s {k w d op} : gNK G call ops w d op r st (some k) = gN' G call ops k w d op r st (st.slot k) := rfl
@[simp] theorem nX_u {op : Op} : nX G call ops r st (some ⟨d, op, t, p, af, none⟩) = nvX G call ops d r st (nopv G st op) := by
  simp only [nX, nval, guardA, Option.bind_some, if_true]
@[simp] theorem nX_g {op : Op} {j w} : nX G call ops r st (some ⟨d, op, t, p, af, some (j, w)⟩) = gNK G call ops w d op r st ((ops[j]?).bind (·.dst)) := by
  simp only [nX, nval, guardA]
  cases (ops[j]?).bind (·.dst) with
  | none => rfl
  | some k =>
    simp only [gNK]
    cases st.slot k with
    | bool b => cases b <;> cases w <;> rfl
    | tup l => cases l <;> rfl
    | _ => rfl
@[simp] theorem planX_n {i} : planX G call ops (.n i :: r) st = nX G call ops r st ops[i]? := by
  unfold planX
  simp only [runPlan, nX]
  cases ops[i]? with
  | none => rfl
  | some o =>
    simp only [Option.bind_some]
    cases nval G ops st o <;> rfl
def erX (G : Cfg) (call : CallFn) (ops : Array Oper) (d : Option Nat) (re : List Nat) (r : List PS) (c : Bool) : Option AR → Option (AX × ASt)
  | some (.pan v s) => if c = true then some (.pan v, ⟨[], s.hp⟩) else none
  | some (.val v s) => if re.all (again G ops (s.put d v)) = true then planX G call ops r (s.put d v) else none
  | _ => none
@[simp] theorem calledA_v {f args tys} : calledA (.call ⟨.value f, args, tys⟩) = some (f, args.toList) := rfl
@[simp] theorem erX_p {re v s} : erX G call ops d re r true (some (.pan v s)) = some (.pan v, ⟨[], s.hp⟩) := rfl
@[simp] theorem erX_s {re c v s} : erX G call ops d re r c (some (.val v s)) = if re.all (again G ops (s.put d v)) = true then planX G call ops r (s.put d v) else none := rfl
def eX (G : Cfg) (call : CallFn) (ops : Array Oper) (re : List Nat) (r : List PS) (st : ASt) : Option Oper → Option (AX × ASt)
  | some o => erX G call ops o.dst re r (calledA o.op).isSome (stepE G call ops st o)
  | none => none
def gE' (G : Cfg) (call : CallFn) (ops : Array Oper) (k : Nat) (w : Bool) (o : Oper) (re : List Nat) (r : List PS) (st : ASt) : AV → Option (AX × ASt)
  | .bool b => if b == w then erX G call ops o.dst re r (calledA o.op).isSome (aop G call o st) else erX G call ops o.dst re r (calledA o.op).isSome (skX (skipA st o.op) (some (.val (.tup []) st)))
  | .tup [] => erX G call ops o.dst re r (calledA o.op).isSome (skX (skipA st o.op) (some (.val (.tup []) st)))
  | _ => none
@[simp] theorem gE_tt {k o re} : gE' G call ops k true o re r st (.bool true) = erX G call ops o.dst re r (calledA o.op).isSome (aop G call o st) := rfl
@[simp] theorem gE_ff {k o re} : gE' G call ops k false o re r st (.bool false) = erX G call ops o.dst re r (calledA o.op).isSome (aop G call o st) := rfl
@[simp] theorem gE_tf {k o re} : gE' G call ops k true o re r st (.bool false) = erX G call ops o.dst re r (calledA o.op).isSome (skX (skipA st o.op) (some (.val (.tup []) st))) := rfl
@[simp] theorem gE_ft {k o re} : gE' G call ops k false o re r st (.bool true) = erX G call ops o.dst re r (calledA o.op).isSome (skX (skipA st o.op) (some (.val (.tup []) st))) := rfl
@[simp] theorem gE_n {k w o re} : gE' G call ops k w o re r st (.tup []) = erX G call ops o.dst re r (calledA o.op).isSome (skX (skipA st o.op) (some (.val (.tup []) st))) := rfl
@[simp low] theorem gE_split {L} {sl : Slots} {hp : Heap} {k w o re} {b : Bool} (hk : aget sl k = some (.bool b)) : trimX L (gE' G call ops k w o re r ⟨sl, hp⟩ (.bool b)) =
    mergeX b (trimX L (gE' G call ops k w o re r ⟨aset sl k (.bool true), hp⟩ (.bool true))) (trimX L (gE' G call ops k w o re r ⟨aset sl k (.bool false), hp⟩ (.bool false))) := by
  cases b with
  | true => rw [aset_same hk]; rfl
  | false => rw [aset_same hk]; rfl
def gEK (G : Cfg) (call : CallFn) (ops : Array Oper) (w : Bool) (o : Oper) (re : List Nat) (r : List PS) (st : ASt) : Option Nat → Option (AX × ASt)
  | some k => gE' G call ops k w o re r st (st.slot k)
  | none => none
@[simp] theorem gEK_s {k w o re} : gEK G call ops w o re r st (some k) = gE' G call ops k w o re r st (st.slot k) := rfl
@[simp] theorem eX_u {re} {op : Op} : eX G call ops re r st (some ⟨d, op, t, p, af, none⟩) = erX G call ops d re r (calledA op).isSome (aop G call ⟨d, op, t, p, af, none⟩ st) := by
  simp only [eX, stepE, guardA, Option.bind_some, if_true]
@[simp] theorem eX_g {re} {op : Op} {j w} : eX G call ops re r st (some ⟨d, op, t, p, af, some (j, w)⟩) = gEK G call ops w ⟨d, op, t, p, af, some (j, w)⟩ re r st ((ops[j]?).bind (·.dst)) := by
  simp only [eX, stepE, guardA, skX_if]
  cases (ops[j]?).bind (·.dst) with
  | none => rfl
  | some k =>
    simp only [gEK]
    cases st.slot k with
    | bool b => cases b <;> cases w <;> rfl
    | tup l => cases l <;> rfl
    | _ => rfl
@[simp] theorem planX_e {j re} : planX G call ops (.e j re :: r) st = eX G call ops re r st ops[j]? := by
  unfold planX
  simp only [runPlan, eX]
  cases ops[j]? with
  | none => rfl
  | some o =>
    simp only [Option.bind_some]
    cases stepE G call ops st o with
    | none => rfl
    | some a =>
      cases a with
      | pan v s => rfl
      | val v s => simp only [Option.bind_some, erX]; split <;> rfl
/-- A guard before a value. -/
def gN (b : Option Bool) (v : Option AV) : Option AV := match b with | some true => v | some false => some (.tup []) | none => none
@[simp] theorem gN_t {v} : gN (some true) v = v := rfl
@[simp] theorem gN_f {v} : gN (some false) v = some (.tup []) := rfl
theorem gN_b {b v} : gN (some b) v = if b = true then v else some (.tup []) := by cases b <;> rfl
def gE (b : Option Bool) (st : ASt) (k : Bool) (v : Option AR) : Option AR := match b with | some true => v | some false => skX k (some (.val (.tup []) st)) | none => none
@[simp] theorem gE_t {k v} : gE (some true) st k v = v := rfl
@[simp] theorem gE_f {k v} : gE (some false) st k v = skX k (some (.val (.tup []) st)) := rfl
theorem gE_b {b v} : gE (some b) st true v = if b = true then v else some (.val (.tup []) st) := by cases b <;> rfl
def gA (ops : Array Oper) (st : ASt) : Option (Nat × Bool) → Option Bool
  | none => some true
  | some (j, w) => ((ops[j]?).bind (·.dst)).bind fun k => gV w (st.slot k)
@[simp] theorem gA_n : gA ops st none = some true := rfl
@[simp] theorem gA_s {j w} : gA ops st (some (j, w)) = ((ops[j]?).bind (·.dst)).bind fun k => gV w (st.slot k) := rfl
theorem guardA_gA {op : Op} : guardA ops st ⟨d, op, t, p, af, g⟩ = gA ops st g := by
  unfold guardA
  cases g with
  | none => rfl
  | some q =>
    obtain ⟨j, w⟩ := q
    simp only [gA]
    cases (ops[j]?).bind (·.dst) with
    | none => rfl
    | some k =>
      simp only [Option.bind_some, gV]
      split <;> simp_all
@[simp] theorem nval_o {op : Op} : nval G ops st ⟨d, op, t, p, af, g⟩ = gN (gA ops st g) (nopv G st op) := by
  unfold nval
  rw [guardA_gA]
  cases gA ops st g with
  | none => rfl
  | some b => cases b <;> rfl
@[simp] theorem stepE_o {op : Op} : stepE G call ops st ⟨d, op, t, p, af, g⟩ = gE (gA ops st g) st (skipA st op) (aop G call ⟨d, op, t, p, af, g⟩ st) := by
  unfold stepE
  simp only [skX_if]
  rw [guardA_gA]
  cases gA ops st g with
  | none => rfl
  | some b => cases b <;> rfl
def againV (v : Option AV) (d : Option Nat) (s : ASt) : Bool := match v, d with | some v, some d => AV.beq v (s.slot d) | _, _ => false
@[simp] theorem againV_s {v d s} : againV (some v) (some d) s = AV.beq v (s.slot d) := rfl
def againO (G : Cfg) (ops : Array Oper) (s : ASt) : Option Oper → Bool
  | some o => againV (nval G ops s o) o.dst s
  | none => false
@[simp] theorem againO_s {o} : againO G ops st (some o) = againV (nval G ops st o) o.dst st := rfl
@[simp] theorem again_o {i} : again G ops st i = againO G ops st ops[i]? := by
  unfold again againO againV
  cases ops[i]? <;> rfl

@[simp] theorem nopv_move : nopv G st (.move x) = some (st.ev x) := rfl
@[simp] theorem nopv_assign : nopv G st (.assign x) = some (st.ev x) := rfl
@[simp] theorem nopv_pick : nopv G st (.pick x y z) = pickV (st.ev x) (st.ev y) (st.ev z) := rfl
@[simp] theorem nopv_binOp {op} : nopv G st (.binOp op t' x y t'') = binO G.P op t' (isConst x) (isConst y) (st.ev x) (st.ev y) := rfl
@[simp] theorem nopv_unOp {op} : nopv G st (.unOp op t' x) = unv op (st.ev x) := rfl
@[simp] theorem nopv_field {k} : nopv G st (.field t' x k) = fieldV G.P t' k (st.ev x) := rfl
@[simp] theorem nopv_fieldAddr {k} : nopv G st (.fieldAddr t' x k) = fieldAddrV G.P t' k (st.ev x) := rfl
@[simp] theorem allocB_s {d d' : Nat} {e e' : TypeId} {t t' p p' af af'} : allocB (some ⟨some d, .alloc e, t, p, af, none⟩) (some ⟨some d', .alloc e', t', p', af', none⟩) = (d != d') := rfl
def swR (G : Cfg) (ops : Array Oper) (d : Option Nat) (re : List Nat) : Option AR → Option ASt
  | some (.val v s) => if re.all (again G ops (s.put d v)) then some (s.put d v) else none
  | _ => none
@[simp] theorem swR_s {d re v s} : swR G ops d re (some (.val v s)) = if re.all (again G ops (s.put d v)) = true then some (s.put d v) else none := rfl
@[simp] theorem swStep_s {re} {d : Nat} {e : TypeId} {t p af} : swStep G ops re st (some ⟨some d, .alloc e, t, p, af, none⟩) = swR G ops (some d) re (allocX G e d st) := rfl
@[simp] theorem planX_sw {j k re} : planX G call ops (.sw j k re :: r) st = if allocB ops[j]? ops[k]? = true then (swStep G ops re st ops[k]?).bind fun _ => (swStep G ops re st ops[j]?).bind fun s => (swStep G ops re s ops[k]?).bind fun s' => planX G call ops r s' else none := rfl
@[simp] theorem nopv_indexAddr : nopv G st (.indexAddr t' x y) = indexA G.P st.hp t' (st.ev x) (st.ev y) := rfl
@[simp] theorem nopv_index : nopv G st (.index t' x y) = indexv G.P t' (st.ev x) (st.ev y) := rfl
@[simp] theorem nopv_load : nopv G st (.load t' x) = loadV G.P st.hp t' (st.ev x) := rfl
@[simp] theorem nopv_extract {i} : nopv G st (.extract x i) = extractV i (st.ev x) := rfl
@[simp] theorem nopv_build {ps : Array (Nat × Operand)} : nopv G st (.build t' ps) = buildA G.P t' (ps.toList.map fun q => (q.1, st.ev q.2)) := rfl
@[simp] theorem nopv_makeInterface : nopv G st (.makeInterface t' x) = mkIface G.P t' (st.ev x) := rfl
@[simp] theorem nopv_makeFunc {g : Fn} {a b : Array Operand} : nopv G st (.makeFunc g a b) = some (.fn g (a.toList.map st.ev) (b.toList.map st.ev)) := rfl
@[simp] theorem nopv_nilCheck : nopv G st (.nilCheck x) = nilCheckV (st.ev x) := rfl
@[simp] theorem nopv_typeAssert {ok} : nopv G st (.typeAssert x t'' t' ok) = assertV G.P t' ok (st.ev x) := rfl
@[simp] theorem nopv_slice {lo hi mx : Option Operand} : nopv G st (.slice t' x lo hi mx) = slicev G.P st.hp t' (st.ev x) (lo.map st.ev) (hi.map st.ev) (mx.map st.ev) := rfl
@[simp] theorem nopv_len {ts : TypeId} : nopv G st (.call ⟨.builtin .len, #[x], #[ts]⟩) = lenv G.P st.hp ts (st.ev x) := rfl
@[simp] theorem nopv_min {ts} : nopv G st (.call ⟨.builtin .min, #[x, y], ts⟩) = minmax false (st.ev x) (st.ev y) := by simp [nopv, opv]
@[simp] theorem nopv_max {ts} : nopv G st (.call ⟨.builtin .max, #[x, y], ts⟩) = minmax true (st.ev x) (st.ev y) := by simp [nopv, opv]
def bsvV (G : Cfg) (t : TypeId) (len : Nat) (is : List Nat) (vs : List AV) : Option AV :=
  (elemOf? G.P t).bind fun e =>
    if is = List.range len ∧ ((G.P.info? e).bind (·.zero)).isSome = true ∧ AV.pureL vs = true ∧ (vs.all fun y => okCells y && y.cells.length == G.P.cellsOf e) = true ∧ 0 < G.P.cellsOf e ∧ len * G.P.cellsOf e ≤ 16777216 then some (.list (G.P.cellsOf e) vs) else none
@[simp] theorem nopv_lay {len} {ps : Array (Nat × Operand)} : nopv G st (.buildSlice t' len ps) = bsvV G t' len (ps.toList.map (·.1)) (ps.toList.map fun q => st.ev q.2) := rfl

@[simp] theorem aop_load : aop G call ⟨d, .load t' x, t, p, af, g⟩ st = (loadV G.P st.hp t' (st.ev x)).map fun v => .val v st := rfl
@[simp] theorem aop_store : aop G call ⟨d, .store t' x y, t, p, af, g⟩ st = (storeA G t' (st.ev x) (st.ev y) st).map fun s => .val .undef s := rfl
@[simp] theorem aop_alloc {e : TypeId} {d : Nat} : aop G call ⟨some d, .alloc e, t, p, af, g⟩ st = allocX G e d st := rfl
@[simp] theorem aop_box {e : TypeId} {d : Nat} : aop G call ⟨some d, .box e x, t, p, af, g⟩ st = boxX G e (st.ev x) d st := rfl
@[simp] theorem aop_lay {len} {ps : Array (Nat × Operand)} {d : Nat} : aop G call ⟨some d, .buildSlice t' len ps, t, p, af, g⟩ st = buildSliceX G t' len (ps.toList.map (·.1)) (ps.toList.map fun q => st.ev q.2) d st := rfl
@[simp] theorem aop_assign : aop G call ⟨d, .assign x, t, p, af, g⟩ st = some (.val (st.ev x) st) := rfl
@[simp] theorem aop_move : aop G call ⟨d, .move x, t, p, af, g⟩ st = some (.val (st.ev x) st) := rfl
@[simp] theorem aop_pick : aop G call ⟨d, .pick x y z, t, p, af, g⟩ st = (pickV (st.ev x) (st.ev y) (st.ev z)).map fun v => .val v st := rfl
@[simp] theorem aop_binOp {op} : aop G call ⟨d, .binOp op t' x y t'', t, p, af, g⟩ st = (binO G.P op t' (isConst x) (isConst y) (st.ev x) (st.ev y)).map fun v => .val v st := rfl
@[simp] theorem aop_convert : aop G call ⟨d, .convert t' t'' x, t, p, af, g⟩ st = convertX G t' t'' (st.ev x) d st := rfl
@[simp] theorem aop_slice {lo hi mx : Option Operand} : aop G call ⟨d, .slice t' x lo hi mx, t, p, af, g⟩ st = sliceX G t' (st.ev x) (lo.map st.ev) (hi.map st.ev) (mx.map st.ev) st := rfl
@[simp] theorem aop_append {d : Nat} {t1 t2 : TypeId} : aop G call ⟨some d, .call ⟨.builtin .append, #[x, y], #[t1, t2]⟩, t, p, af, g⟩ st = appendA G d t1 t2 (st.ev x) (st.ev y) st := rfl
@[simp] theorem aop_call {args : Array Operand} {ts} : aop G call ⟨d, .call ⟨.value x, args, ts⟩, t, p, af, g⟩ st = callV G call d (st.ev x) (args.toList.map st.ev) st := rfl

/-! Values that are alike. -/
mutual
def AV.plainB : AV → Bool
  | .fn (.func _) a b => AV.plainBL a && AV.plainBL b
  | .fn _ _ _ => false
  | .list _ es => AV.plainBL es
  | .ep v _ => AV.plainB v
  | .agg cs => AV.plainBL cs
  | .tup cs => AV.plainBL cs
  | .iface _ v => AV.plainB v
  | _ => true
def AV.plainBL : List AV → Bool
  | [] => true
  | v :: l => AV.plainB v && AV.plainBL l
end
mutual
theorem beq_self : ∀ {v : AV}, v.plainB = true → AV.beq v v = true
  | .undef, _ => rfl | .nilp, _ => rfl | .nils, _ => rfl | .nilf, _ => rfl | .nili, _ => rfl
  | .bool _, _ => by simp [AV.beq]
  | .int _ _, _ => by simp [AV.beq]
  | .str _, _ => by simp [AV.beq]
  | .own _, _ => by simp [AV.beq]
  | .row _ _ _, _ => by simp [AV.beq]
  | .ptr _ _ _, _ => by simp [AV.beq]
  | .yld _, _ => by simp [AV.beq]
  | .list _ es, h => by simp only [AV.plainB] at h; simp [AV.beq, beqL_self (l := es) h]
  | .ep v _, h => by simp only [AV.plainB] at h; simp [AV.beq, beq_self (v := v) h]
  | .agg cs, h => by simp only [AV.plainB] at h; simp [AV.beq, beqL_self (l := cs) h]
  | .tup cs, h => by simp only [AV.plainB] at h; simp [AV.beq, beqL_self (l := cs) h]
  | .iface _ v, h => by simp only [AV.plainB] at h; simp [AV.beq, beq_self (v := v) h]
  | .fn g a b, h => by
    cases g with
    | func k => simp only [AV.plainB, Bool.and_eq_true] at h; simp [AV.beq, beqL_self (l := a) h.1, beqL_self (l := b) h.2]
    | _ => simp [AV.plainB] at h
theorem beqL_self : ∀ {l : List AV}, AV.plainBL l = true → AV.beqL l l = true
  | [], _ => rfl
  | v :: l, h => by simp only [AV.plainBL, Bool.and_eq_true] at h; simp [AV.beqL, beq_self h.1, beqL_self h.2]
end
theorem plainBL_map {α : Type} {f : α → AV} (h : ∀ a, (f a).plainB = true) : ∀ l : List α, AV.plainBL (l.map f) = true
  | [] => rfl
  | a :: l => by simp [AV.plainBL, h a, plainBL_map h l]
attribute [simp] AV.beq AV.beqL AV.plainB AV.plainBL
end

/-- A body's end: rows are told as lists. -/
theorem end_rv {G : Cfg} {g : FuncId} {res : List ResultVar} {x : AX} {s : ASt} {vs : List AV} {v : AV} (hx : x = .normal ∨ x = .ret) (hr : resL G s res = some vs) (ho : G.retOwn g = false) (hv : (resOf vs).rv s.hp = v) (hn : v.names = []) : endX G g [] res (some (x, s)) = some (.ret v, []) := by
  subst hv
  have hf : finishA G g [] (resOf vs) s = ((resOf vs).rv s.hp, []) := by
    unfold finishA
    simp only [ho, Bool.false_eq_true, if_false]
    unfold outOf
    simp only [hn, List.append_nil]
    have : ∀ h : Heap, reachL 60 h [] [] = [] := fun _ => rfl
    rw [this, nameless_ren hn]; rfl
  rcases hx with rfl | rfl <;> simp [endX, hr, hf, retA]
/-- A body's end, told. -/
theorem end_is {G : Cfg} {g : FuncId} {res : List ResultVar} {x : AX} {s : ASt} {vs : List AV} {v : AV} (hx : x = .normal ∨ x = .ret) (hr : resL G s res = some vs) (hn : AV.namesL vs = []) (hv : resOf vs = v) : endX G g [] res (some (x, s)) = some (.ret v, []) := by
  subst hv; exact end_pure hx hr hn

/-- A body that defers, step by step. -/
theorem runD_of {G : Cfg} {call : CallFn} {loop : LoopFn} {g : FuncId} {args : List AV} {hp : Heap} {fn : Func} {A rest : Code} {ops : Array Oper} {f : Operand} {s0 s1 s3 s4 : ASt} {ns : List Nat} {x2 : AX} {rv v : AV} {m : List Nat} {vs : List AV} {r : ARes × Heap}
    (hd : G.dfr g = true) (hfn : G.P.funcs[g]? = some fn) (hb : fn.body.bind splitD = some (A, ops, f, rest)) (hA : codeX G call loop g A { sl := zipIx args 0, hp } = some (.normal, s0))
    (hops : aops G call ops (List.range (ops.size - 1)) s0 = some (.normal, s1)) (hns : reachL 60 s1.hp (hp.map (·.1) ++ AV.namesL (s1.sl.map (·.2))) [] = ns)
    (hck : ((ns.all fun n => (aget s1.hp n).isSome) && isFn (s1.ev f) && ((hp.map (·.1)).all fun n => ns[n]? == some n) && (ns.all fun n => !((aget s1.hp n).map AObj.moved).getD false)) = true)
    (hrest : codeX G call loop g rest { sl := s1.sl.map fun p => (p.1, p.2.ren (toMap ns)), hp := renHeap ns s1.hp } = some (x2, s3))
    (hbx : (((s1.ev f).ren (toMap ns)).names.all fun n => isBoxAt s3.hp n) = true) (hrv : recOf x2 = some rv)
    (hclo : callB G (runClosure G rv) (some 40000) ((s1.ev f).ren (toMap ns)) [] s3 = some (.val v s4, m)) (hres : resL G s4 fn.results.toList = some vs) (hr : retA (finishA G g (hp.map (·.1)) (resOf vs) s4) = r) :
    runFn G call loop g args hp = some r := by
  unfold runFn runBodyD
  simp only [hd, if_true, hfn, hb, Option.bind_some, hA, hops, hns, hck, hrest, hbx, Bool.not_true, Bool.false_eq_true, if_false, hrv, hclo, hres, Option.map_some, hr]
end Go.Proofs.Ytonaejfpiihfhaa.Abs
