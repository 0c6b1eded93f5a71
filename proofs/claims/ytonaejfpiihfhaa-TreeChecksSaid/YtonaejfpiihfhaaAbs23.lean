/- Code: what it comes to, the machine's comes to. -/
import Derived.Test.YtonaejfpiihfhaaAbs22b
namespace Go.Proofs.Ytonaejfpiihfhaa.Abs
open Go Go.RowKit
set_option linter.unusedSimpArgs false
set_option linter.unusedVariables false

variable {G : Cfg} {S : Stab} {ρ : Rho} {w : World} {E : Env} {st : ASt} {a : Act}

/-- Each region that draws has a plan that may be. -/
def plansB (G : Cfg) (f : FuncId) : Code → Bool
  | .region id ops draw => !draw || (match G.plan f id with | some l => vplan ops [] [] l | none => true)
  | .seq a b => plansB G f a && plansB G f b
  | .cond _ a b => plansB G f a && plansB G f b
  | .block _ b => plansB G f b
  | .scope b => plansB G f b
  | .loop b => plansB G f b
  | .rangeFunc _ _ a b => plansB G f a && plansB G f b
  | _ => true

def noRange : Code → Bool
  | .seq a b => noRange a && noRange b
  | .cond _ a b => noRange a && noRange b
  | .block _ b => noRange b
  | .scope b => noRange b
  | .loop b => noRange b
  | .rangeFunc _ _ _ _ => false
  | _ => true

/-- What is asked of the tables, whole. -/
structure GSound (G : Cfg) : Prop where
  ok : GOK G
  mixed : G.P.follows .mixedOrders = true
  plans : ∀ g fn c, G.E g = true → G.P.funcs[g]? = some fn → fn.body = some c → plansB G g c = true
  ntm : ∀ g fn, G.E g = true → G.P.funcs[g]? = some fn → G.ntm g ≤ fn.ntmps
  rounds : ∀ r, G.roundOK r = true → (dstsB r.nt r.assign = true ∧ plansB G r.g r.assign = true ∧ noRange r.assign = true) ∧ (r.ps.toList.all fun t => decide (t < r.nt)) = true ∧ dstsB r.nt r.body = true ∧ plansB G r.g r.body = true ∧ noRange r.body = true

/-- The marks of loops over functions. -/
def Marks (m : Nat) (ds : List Deferred) (w : World) : Prop := ds.Nodup ∧ ∀ d ∈ ds, ∃ b, d = { target := .collected b, args := #[] } ∧ m ≤ b ∧ w.heap[b]? = some (.deferred (some []))
/-- Marks, laid before what was deferred already. -/
def MarksB (m : Nat) (base ds : List Deferred) (w : World) : Prop := ∃ ms, ds = ms ++ base ∧ Marks m ms w
def CodeM (E : Env) (base : List Deferred) (n : Nat) (r : AX × ASt) (e : Exit) (a : Act) (w : World) : Prop :=
  MarksB E.W0.heap.size base a.defers w ∧ a.tmps.size = n ∧ ∃ S ρ, SR E r.2 S ρ a.tmps w ∧ ExitR S ρ w r.1 e

theorem SR.trim {tm : Array Value} (h : SR E st S ρ tm w) (L : Option (List Nat)) : SR E (st.trim L) S ρ tm w := by
  cases L with
  | none => exact h
  | some l =>
    refine ⟨fun t => ?_, h.heap, h.mine, h.old, h.fr⟩
    show VR S ρ w ((aget (l.map fun t => (t, st.slot t)) t).getD .undef) _
    have : aget (l.map fun t => (t, st.slot t)) t = none ∨ aget (l.map fun t => (t, st.slot t)) t = some (st.slot t) := by
      induction l with
      | nil => exact .inl rfl
      | cons x l ih =>
        simp only [List.map_cons, aget]
        split
        · rename_i e; subst e; exact .inr rfl
        · exact ih
    rcases this with e | e
    · rw [e]; exact .undef _
    · rw [e]; exact h.slot t
theorem CodeM.trim {base : List Deferred} {n : Nat} {r : AX × ASt} {e : Exit} (L : Option (List Nat)) (h : CodeM E base n r e a w) : CodeM E base n (r.1, r.2.trim L) e a w := by
  obtain ⟨h1, h2, S, ρ, h3, h4⟩ := h
  exact ⟨h1, h2, S, ρ, h3.trim L, h4⟩

/-- The beginning, told anew. -/
def rebase (E : Env) (S : Stab) (w : World) : Env := ⟨w, S, fun b => E.F b ∨ E.W0.heap.size ≤ b, E.R0, E.low⟩
theorem SR.base {tm : Array Value} (h : SR E st S ρ tm w) : SR (rebase E S w) st S ρ tm w :=
  ⟨h.slot, h.heap, fun n b sz k hn => .inl (h.mine n b sz k hn), h.old, ⟨Ext.refl S w, fun _ _ h => .inl h, h.fr.bnd, Nat.le_refl _, fun _ _ _ => rfl, fun _ h => h, rfl, rfl, rfl⟩⟩
theorem SR.unbase {st' : ASt} {S' : Stab} {ρ' : Rho} {tm' : Array Value} {w' : World} (h0 : FrameR E S w) (h : SR (rebase E S w) st' S' ρ' tm' w') : SR E st' S' ρ' tm' w' := by
  have f := h.fr
  refine ⟨h.slot, h.heap, fun n b sz k hn => ?_, h.old, ⟨h0.ext.trans f.ext, fun b o hS => ?_, f.bnd, Nat.le_trans h0.size f.size, fun b hb hnF => ?_, fun b hb => f.dfr b (h0.dfr b hb), f.os.trans h0.os, f.tape.trans h0.tape, f.output.trans h0.output⟩⟩
  · rcases h.mine n b sz k hn with hx | hx
    · exact hx
    · exact .inr (Nat.le_trans h0.size hx)
  · rcases f.new b o hS with hx | hx | hx
    · exact h0.new b o hx
    · exact .inr hx
    · exact .inr (.inr (Nat.le_trans h0.size hx))
  · refine (f.keep b (Nat.lt_of_lt_of_le hb h0.size) fun hx => ?_).trans (h0.keep b hb hnF)
    rcases hx with hx | hx
    · exact hnF hx
    · omega

theorem codeM_of {base : List Deferred} {n : Nat} {r : AX × ASt} {a' : Act} {w' : World} {e : Exit} (h0 : FrameR E S w) (hm : MarksB E.W0.heap.size base a.defers w) (h : CodeDone (rebase E S w) a.defers n r e a' w') : CodeM E base n r e a' w' := by
  obtain ⟨k1, k2, S', ρ', k3, k4⟩ := h
  obtain ⟨ms, hms, hm⟩ := hm
  refine ⟨⟨ms, by rw [k1, hms], hm.1, fun d hd => ?_⟩, k2, S', ρ', k3.unbase h0, k4⟩
  obtain ⟨b, e1, e2, e3⟩ := hm.2 d hd
  exact ⟨b, e1, e2, k3.fr.dfr b e3⟩

def LoopSound (G : Cfg) (f : FuncId) (c : Code) (st : ASt) (r : AX × ASt) : Prop :=
  ∀ (base : List Deferred) (n : Nat) (ro : Option Nat) (E : Env) (S : Stab) (ρ : Rho) (a : Act) (w : World), ((ro = none ∧ G.ntm f ≤ n) ∨ noRange c = true) → dstsB n c = true → plansB G f c = true → MarksB E.W0.heap.size base a.defers w → SR E st S ρ a.tmps w → a.tmps.size = n → (Code.loop c).wpIn (FW ro) 0 G.P (CodeM E base n r) a w

theorem Ext.putLoop {S : Stab} {l : Nat} {R R' : Loop} (h : w.heap[l]? = some (.loop R)) : Ext S w S (w.putObj l (.loop R')) := by
  have hlt := lt_of_block h
  refine ⟨fun _ _ h => h, fun b o _ => ?_, fun b c t fr hb => ?_⟩
  · by_cases e : b = l
    · subst e; simp [World.cell?, at0, h, World.putObj_heap_same hlt]
    · exact cell_same (World.putObj_heap_other e) o
  · have : b ≠ l := fun e => by subst e; rw [h] at hb; cases hb
    exact ⟨c, by rw [World.putObj_heap_other this]; exact hb, rfl⟩

/-- A loop's record, turned. -/
theorem SR.turn {tm : Array Value} (h : SR E st S ρ tm w) {L : Nat} {r r' : LRec} {sl : Slots} (ho : aget st.hp L = some (.loop r sl)) {b sz k : Nat} (hρ : ρ L = some ⟨some (b, sz), k⟩) {R R' : Loop} (hb : w.heap[b]? = some (.loop R))
    (h1 : R'.state = r'.state) (h2 : R'.pending = r'.pending) (h3 : R'.params = R.params) (h4 : R'.assign = R.assign) (h5 : R'.body = R.body) (h6 : R'.tmps = R.tmps) (g1 : r'.ps = r.ps) (g2 : r'.assign = r.assign) (g3 : r'.body = r.body) (g4 : r'.nt = r.nt) :
    SR E { st with hp := hput L (.loop r' sl) st.hp } S ρ tm (w.putObj b (.loop R')) := by
  obtain ⟨b', R0, k1, k2, k3, k4, k5, k7, k8, k9, k10, k11⟩ := h.heap.obj L _ ho
  rw [hρ] at k1; cases k1
  rw [hb] at k2; cases k2
  have hx := Ext.putLoop (S := S) (R' := R') hb
  exact h.change ho hρ hx (fun b' hne => World.putObj_heap_other hne) World.putObj_size ⟨rfl, rfl, rfl⟩
    ⟨b, R', hρ, World.putObj_heap_same (lt_of_block hb), k3, h1, h2, by rw [h3, g1, k7], by rw [h4, g2, k8], by rw [h5, g3, k9], by rw [h6, g4]; exact k10, fun t => by rw [h6]; exact (k11 t).ext hx fun _ _ h => h⟩ (fun _ => rfl)

theorem codeX_ok (GE : GSound G) {call : CallFn} (hcall : CallOK G call) {loop : LoopFn} (hloop : ∀ f c st r, loop f c st = some r → LoopSound G f c st r)
    {base : List Deferred} {n : Nat} {ro : Option Nat} {f : FuncId} (c : Code) : ∀ {E : Env} {st : ASt} {S : Stab} {ρ : Rho} {a : Act} {w : World} {r : AX × ASt}, ((ro = none ∧ G.ntm f ≤ n) ∨ noRange c = true) → dstsB n c = true → plansB G f c = true → MarksB E.W0.heap.size base a.defers w → SR E st S ρ a.tmps w → a.tmps.size = n → codeX G call loop f c st = some r →
      c.wpIn (FW ro) 0 G.P (CodeM E base n r) a w := by
  induction c with
  | skip => intro E st S ρ a w r _ _ _ hm h hn hr; cases hr; exact wpIn_skip ⟨hm, hn, S, ρ, h, trivial⟩
  | label l => intro E st S ρ a w r _ _ _ hm h hn hr; cases hr; exact wpIn_label ⟨hm, hn, S, ρ, h, trivial⟩
  | exit id => intro E st S ρ a w r _ _ _ hm h hn hr; cases hr; exact wpIn_exit ⟨hm, hn, S, ρ, h, rfl⟩
  | ret => intro E st S ρ a w r _ _ _ hm h hn hr; cases hr; exact wpIn_ret ⟨hm, hn, S, ρ, h, trivial⟩
  | scope b _ => intro E st S ρ a w r _ _ _ hm h hn hr; cases hr
  | goto l => intro E st S ρ a w r _ _ _ hm h hn hr; cases hr
  | refuse why => intro E st S ρ a w r _ _ _ hm h hn hr; cases hr
  | region id ops draw =>
    intro E st S ρ a w r _ hd hpl hm h hn hr
    simp only [codeX] at hr
    obtain ⟨y, hr1, rfl⟩ := Option.map_eq_some_iff.1 hr
    clear hr
    refine wpIn_mono (P := G.P) ?_ fun e a' w' hh => CodeM.trim (r := y) (G.live f id) hh
    cases draw with
    | true =>
      simp only [if_true] at hr1
      obtain ⟨s, hs, rfl⟩ := Option.map_eq_some_iff.1 hr1
      rw [Option.bind_eq_some_iff] at hs
      obtain ⟨l, hl, hs⟩ := hs
      simp only [plansB, hl, Bool.not_true, Bool.false_or] at hpl
      exact wpIn_mono (draw_ok GE.ok hcall GE.mixed hd hpl hs h.base hn) fun e a' w' hh => codeM_of h.fr hm hh
    | false =>
      simp only [Bool.false_eq_true, if_false] at hr1
      exact wpIn_mono (wpIn_region (aops_ok GE.ok hcall hd _ h.base hn hr1)) fun e a' w' hh => codeM_of h.fr hm hh
  | seq x y ihx ihy =>
    intro E st S ρ a w r hro hd hpl hm h hn hr
    simp only [dstsB, Bool.and_eq_true] at hd
    simp only [plansB, Bool.and_eq_true] at hpl
    simp only [noRange, Bool.and_eq_true] at hro
    simp only [codeX] at hr
    rw [Option.bind_eq_some_iff] at hr
    obtain ⟨⟨q, s⟩, h1, h2⟩ := hr
    refine wpIn_seq (wpIn_mono (ihx (hro.imp id (·.1)) hd.1 hpl.1 hm h hn h1) fun e a' w' ⟨k1, k2, S', ρ', k3, k4⟩ => ?_)
    cases q with
    | normal =>
      cases e with
      | normal => exact ihy (hro.imp id (·.2)) hd.2 hpl.2 k1 k3 k2 h2
      | _ => exact k4.elim
    | exit i => cases h2; cases e with
      | exit j => exact ⟨k1, k2, S', ρ', k3, k4⟩
      | _ => exact k4.elim
    | ret => cases h2; cases e with
      | ret => exact ⟨k1, k2, S', ρ', k3, k4⟩
      | _ => exact k4.elim
    | pan v => cases h2; cases e with
      | panic ch => exact ⟨k1, k2, S', ρ', k3, k4⟩
      | _ => exact k4.elim
  | cond c x y ihx ihy =>
    intro E st S ρ a w r hro hd hpl hm h hn hr
    simp only [dstsB, Bool.and_eq_true] at hd
    simp only [plansB, Bool.and_eq_true] at hpl
    simp only [noRange, Bool.and_eq_true] at hro
    cases hc : st.ev c with
    | bool t =>
      have hv := h.ev c
      rw [hc] at hv
      simp only [codeX, hc] at hr
      cases t with
      | true => exact wpIn_cond_true (vr_bool hv) (ihx (hro.imp id (·.1)) hd.1 hpl.1 hm h hn (by simpa using hr))
      | false => exact wpIn_cond_false (vr_bool hv) (ihy (hro.imp id (·.2)) hd.2 hpl.2 hm h hn (by simpa using hr))
    | _ => simp [codeX, hc] at hr
  | block id b ih =>
    intro E st S ρ a w r hro hd hpl hm h hn hr
    simp only [codeX] at hr
    rw [Option.bind_eq_some_iff] at hr
    obtain ⟨⟨q, s⟩, h1, h2⟩ := hr
    refine wpIn_block (wpIn_mono (ih hro hd hpl hm h hn h1) fun e a' w' ⟨k1, k2, S', ρ', k3, k4⟩ => ?_)
    cases q with
    | normal => cases h2; cases e with
      | normal => exact ⟨k1, k2, S', ρ', k3, k4⟩
      | _ => exact k4.elim
    | exit i => cases h2; cases e with
      | exit j =>
        have e1 : i = j := k4
        subst e1
        simp only [Exit.inBlock]
        by_cases e : i = id
        · rw [if_pos e]; exact ⟨k1, k2, S', ρ', k3, by rw [if_pos e]; trivial⟩
        · rw [if_neg e]; exact ⟨k1, k2, S', ρ', k3, by rw [if_neg e]; exact rfl⟩
      | _ => exact k4.elim
    | ret => cases h2; cases e with
      | ret => exact ⟨k1, k2, S', ρ', k3, k4⟩
      | _ => exact k4.elim
    | pan v => cases h2; cases e with
      | panic ch => exact ⟨k1, k2, S', ρ', k3, k4⟩
      | _ => exact k4.elim
  | loop b _ =>
    intro E st S ρ a w r hro hd hpl hm h hn hr
    simp only [codeX] at hr
    rw [Option.bind_eq_some_iff] at hr
    obtain ⟨s, h1, h2⟩ := hr
    obtain ⟨S', ρ', k⟩ := canon_ok h h1
    exact hloop f b s r h2 base n ro E S' ρ' a w hro hd hpl hm k hn
  | rangeFunc g ps asg body _ _ =>
    intro E st S ρ a w r hro hd hpl hm h hn hr
    obtain ⟨rfl, hnt⟩ := hro.resolve_right (by simp [noRange])
    simp only [codeX] at hr
    split at hr
    · cases hr
    rename_i hck
    simp only [Bool.or_eq_true, not_or, Bool.not_eq_true, Bool.not_eq_false'] at hck
    obtain ⟨⟨hck1, hck2⟩, hck3⟩ := hck
    generalize hL : 20000 + firstRegion body = L at *
    have hLn : aget st.hp L = none := by simpa using hck1
    rw [Option.bind_eq_some_iff] at hr
    obtain ⟨⟨x, mvd⟩, hB, hr⟩ := hr
    simp only at hr
    obtain ⟨r0, hr0⟩ : ∃ r0 : LRec, r0 = ⟨f, G.ntm f, ps, asg, body, .ready, none⟩ := ⟨_, rfl⟩
    rw [← hr0] at hB hck2
    refine wpIn_rangeFunc fun fn _ => ?_
    -- the blocks that are laid
    obtain ⟨R, hR⟩ : ∃ R : Loop, R = { state := .ready, pending := none, fn, tmps := a.tmps, params := ps, assign := asg, body, defers := w.heap.size } := ⟨_, rfl⟩
    have hA := h.allocs (.deferred (some []))
    have hρL : ρ L = none := h.heap.dom L hLn
    have hup : ∀ id q, ρ id = some q → upd ρ L ⟨some ((w.alloc (.deferred (some []))).heap.size, 0), 0⟩ id = some q := by
      intro id q hid
      have : id ≠ L := fun e => by subst e; rw [hρL] at hid; cases hid
      simp [upd, this, hid]
    have hS1 := hA.newG (n := L) hLn (by omega) (.loop r0 st.sl) (.loop R) 0 0
      ⟨_, R, by simp [upd], heap_new _ _, fun o ho => absurd (hA.fr.bnd _ _ ho) (Nat.lt_irrefl _), by rw [hR, hr0], by rw [hR, hr0], by rw [hR, hr0], by rw [hR, hr0], by rw [hR, hr0], by rw [hR, hr0]; show G.ntm f ≤ a.tmps.size; rw [hn]; exact hnt, fun t => by
        have := (hA.slot t).ext (Ext.alloc hA.fr.bnd (.loop R)) hup
        rw [hR]; rw [hR] at this; exact this⟩
    generalize hw1 : (w.alloc (.deferred (some []))).alloc (.loop R) = w1 at *
    have hsz1 : (w.alloc (.deferred (some []))).heap.size = w.heap.size + 1 := by simp
    have hD1 : w1.heap[w.heap.size]? = some (.deferred (some [])) := by
      rw [← hw1, Below.heap_alloc _ _ _ (by simp)]; exact heap_new w _
    have hkeep1 : ∀ b : Nat, b < w.heap.size → w1.heap[b]? = w.heap[b]? := by
      intro b hb
      rw [← hw1, Below.heap_alloc _ _ _ (by simp; omega), Below.heap_alloc _ _ _ hb]
    obtain ⟨ms, hms, hm⟩ := hm
    have hnd : ([{ target := .collected w.heap.size, args := #[] }] ++ ms : List Deferred).Nodup := by
      rw [List.singleton_append, List.nodup_cons]
      refine ⟨fun hmem => ?_, hm.1⟩
      obtain ⟨b, e1, e2, e3⟩ := hm.2 _ hmem
      cases e1
      exact absurd (lt_of_block e3) (Nat.lt_irrefl _)
    have hfun := hS1.ev g
    have hyld : VR S (upd ρ L ⟨some ((w.alloc (.deferred (some []))).heap.size, 0), 0⟩) w1 (.yld L) (.func (.yield (w.heap.size + 1)) #[] #[]) := .yld L _ 0 0 (by simp [upd, hsz1])
    rcases callB_ok (E := rebase E S w1) (a := a) hS1.base hcall hfun (us := #[.func (.yield (w.heap.size + 1)) #[] #[]]) (by rfl) (fun j c v hc hv => by
      cases j with
      | zero => simp at hc hv; subst hc hv; exact hyld
      | succ j => simp at hc) hB with ⟨g', vx, vy, hE, hf, hcalls⟩ | ⟨b, R', hf, _⟩
    case inr =>
      exfalso
      have hg : st.ev g = ({ st with hp := (L, AObj.loop r0 st.sl) :: st.hp } : ASt).ev g := by cases g <;> rfl
      rw [← hg] at hfun
      cases hev : st.ev g with
      | fn q x y =>
        rw [hev] at hfun hck3
        obtain ⟨vx, vy, e, _⟩ := vr_fn hfun
        rw [hf] at e
        cases q <;> simp [isFn] at hck3
        cases e
      | _ => rw [hev] at hck3; simp [isFn] at hck3
    refine ⟨w.heap.size + 1, [{ target := .collected w.heap.size, args := #[] }], w1, { target := .fn (.func g') vy, args := vx ++ #[.func (.yield (w.heap.size + 1)) #[] #[]] }, w1, g', vx ++ #[.func (.yield (w.heap.size + 1)) #[] #[]] ++ vy, w1, ?_, ?_, fun _ _ => trivial, ?_, fun hdp => by simp [FW, Fence.wide] at hdp, ?_⟩
    · rw [← hw1, hR]
      exact run_enterLoop_outer fn a.tmps ps asg body
    · simp only [resolve, rangeCall, hf, Deferred.ofValue]
      simp [Act.eval]
    · exact GE.ok.enter g' hE _ _
    · refine calls_fw (hcalls.mono fun e w3 hcd => ?_)
      cases x with
      | pan v s =>
        obtain ⟨u, S', ρ', rfl, hs, hv⟩ := hcd
        simp only [Option.some.injEq] at hr
        subst hr
        refine ⟨⟨[{ target := .collected w.heap.size, args := #[] }] ++ ms, by simp [hms], hnd, fun d hd => ?_⟩, hn, S', ρ', hs.unbase hS1.fr, u, rfl, hv⟩
        rcases List.mem_append.1 hd with hd | hd
        · simp only [List.mem_singleton] at hd
          exact ⟨w.heap.size, hd, h.fr.size, hs.fr.dfr _ hD1⟩
        · obtain ⟨b, e1, e2, e3⟩ := hm.2 d hd
          exact ⟨b, e1, e2, hs.fr.dfr b (by show w1.heap[b]? = _; rw [hkeep1 b (lt_of_block e3)]; exact e3)⟩
      | val v s =>
        obtain ⟨u, S', ρ', rfl, hs, hv, hper⟩ := hcd
        simp only at hr
        split at hr
        · cases hr
        rename_i hmv
        have hLm : L ∉ mvd := by simpa using hmv
        split at hr
        case h_2 => cases hr
        rename_i r1 sl1 hob
        split at hr
        · cases hr
        rename_i hbusy
        obtain ⟨x', hx', rfl⟩ := Option.map_eq_some_iff.1 hr
        have hρ' : ρ' L = some ⟨some (w.heap.size + 1, 0), 0⟩ := by
          have := hper L ⟨some (w.heap.size + 1, 0), 0⟩ hLm (by simp [upd, hsz1])
          exact this
        obtain ⟨b, R3, k1, k2, k3, k4, k5, _⟩ := hs.heap.obj L _ hob
        rw [hρ'] at k1
        simp only [Option.some.injEq, RI.mk.injEq, Prod.mk.injEq, and_true] at k1
        subst k1
        have hturn := hs.turn hob hρ' k2 (r' := { r1 with state := .exhausted }) (R' := { R3 with state := .exhausted }) rfl k5 rfl rfl rfl rfl rfl rfl rfl rfl
        have hdone : CodeM E base n (x', { s with hp := hput L (.loop { r1 with state := .exhausted } sl1) s.hp }) (match x' with | .normal => .normal | .exit i => .exit i | .ret => .ret | .pan _ => .normal) { a with defers := [{ target := .collected w.heap.size, args := #[] }] ++ a.defers } (w3.putObj (w.heap.size + 1) (.loop { R3 with state := .exhausted })) := by
          refine ⟨⟨[{ target := .collected w.heap.size, args := #[] }] ++ ms, by simp [hms], hnd, fun d hd => ?_⟩, hn, S', ρ', hturn.unbase hS1.fr, ?_⟩
          · rcases List.mem_append.1 hd with hd | hd
            · simp only [List.mem_singleton] at hd
              exact ⟨w.heap.size, hd, h.fr.size, hturn.fr.dfr _ hD1⟩
            · obtain ⟨b, e1, e2, e3⟩ := hm.2 d hd
              exact ⟨b, e1, e2, hturn.fr.dfr b (by show w1.heap[b]? = _; rw [hkeep1 b (lt_of_block e3)]; exact e3)⟩
          · cases x' with
            | pan v =>
              unfold jumpX at hx'
              split at hx' <;> cases hx'
            | normal => trivial
            | exit i => rfl
            | ret => trivial
        obtain ⟨jp, hjp⟩ : ∃ jp, jp = r1.pending := ⟨_, rfl⟩
        rw [← hjp] at hx'
        refine ⟨jp, _, by rw [hjp, ← k5]; exact run_endLoop k2 (by rw [k4]; exact hbusy), ?_⟩
        cases jp with
        | none => cases hx'; exact hdone
        | some c =>
          cases c with
          | ret => cases hx'; exact wpIn_ret hdone
          | exit id => cases hx'; exact wpIn_exit hdone
          | _ => simp [jumpX] at hx'

end Go.Proofs.Ytonaejfpiihfhaa.Abs
