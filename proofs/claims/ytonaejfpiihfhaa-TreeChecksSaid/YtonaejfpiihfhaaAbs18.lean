/- Calls: what is handed over under other names; what comes back. -/
import Derived.Test.YtonaejfpiihfhaaAbs17
import Derived.CallsIn
namespace Go.Proofs.Ytonaejfpiihfhaa.Abs
open Go Go.RowKit
set_option linter.unusedSimpArgs false
set_option linter.unusedVariables false

variable {G : Cfg} {S : Stab} {ρ : Rho} {w : World} {E : Env} {st : ASt} {a : Act}

theorem renL_get (m : List (Nat × Nat)) (l : List AV) (j : Nat) : (AV.renL m l)[j]? = (l[j]?).map (AV.ren m) := by
  induction l generalizing j with
  | nil => simp [AV.renL]
  | cons a l ih => cases j with
    | zero => simp [AV.renL]
    | succ j => simp [AV.renL, ih]
theorem renL_length (m : List (Nat × Nat)) (l : List AV) : (AV.renL m l).length = l.length := by
  induction l with
  | nil => rfl
  | cons a l ih => simp [AV.renL, ih]
theorem ren_cells (m : List (Nat × Nat)) (a : AV) : (a.ren m).cells = AV.renL m a.cells := by
  cases a with
  | own id => cases h : aget m id <;> simp [AV.ren, AV.cells, AV.renL, h]
  | row id o l => cases h : aget m id <;> simp [AV.ren, AV.cells, AV.renL, h]
  | ptr id i o => cases h : aget m id <;> simp [AV.ren, AV.cells, AV.renL, h]
  | yld id => cases h : aget m id <;> simp [AV.ren, AV.cells, AV.renL, h]
  | _ => simp [AV.ren, AV.cells, AV.renL]

theorem PR.ren (m : List (Nat × Nat)) {a : AV} {v : Value} (h : PR S w a v) : PR S w (a.ren m) v := by
  induction h with
  | agg cs vs hl _ ih =>
    refine .agg _ vs ((renL_length m cs).trans hl) fun j c v hc hv => ?_
    rw [renL_get] at hc
    obtain ⟨d, hd, rfl⟩ := Option.map_eq_some_iff.1 hc
    exact ih j d v hd hv
  | tup cs vs hl _ ih =>
    refine .tup _ vs ((renL_length m cs).trans hl) fun j c v hc hv => ?_
    rw [renL_get] at hc
    obtain ⟨d, hd, rfl⟩ := Option.map_eq_some_iff.1 hc
    exact ih j d v hd hv
  | iface t a v _ ih => exact .iface t _ v ih
  | fn g a b va vb h1 h2 _ _ i1 i2 =>
    refine .fn g _ _ va vb ((renL_length m a).trans h1) ((renL_length m b).trans h2) (fun j c v hc hv => ?_) (fun j c v hc hv => ?_)
    · rw [renL_get] at hc
      obtain ⟨d, hd, rfl⟩ := Option.map_eq_some_iff.1 hc
      exact i1 j d v hd hv
    · rw [renL_get] at hc
      obtain ⟨d, hd, rfl⟩ := Option.map_eq_some_iff.1 hc
      exact i2 j d v hd hv
  | bool b => exact .bool b
  | int k n => exact .int k n
  | str s => exact .str s
  | nilp => exact .nilp
  | nils => exact .nils
  | nilf => exact .nilf
  | nili => exact .nili
  | empty sz a c hz => exact .empty sz a c hz
  | list es b off cap sz f h0 hc hs hS hw hq hp _ => exact .list es b off cap sz f h0 hc hs hS hw hq hp
  | ep v b base off f ho hS hw hp _ => exact .ep v b base off f ho hS hw hp

theorem VR.ren {ρ' : Rho} {m : List (Nat × Nat)} (hm : ∀ n k r, aget m n = some k → ρ n = some r → ρ' k = some r) {a : AV} {v : Value} (h : VR S ρ w a v) : VR S ρ' w (a.ren m) v := by
  induction h with
  | pure h => exact .pure (h.ren m)
  | undef v => exact .undef v
  | own0 id h =>
    simp only [AV.ren]
    split
    · rename_i k hk; exact .own0 k (hm _ _ _ hk h)
    · exact .undef _
  | own id b sz n' cap h hc hb =>
    simp only [AV.ren]
    split
    · rename_i k hk; exact .own k b sz n' cap (hm _ _ _ hk h) hc hb
    · exact .undef _
  | row0 id o c a =>
    simp only [AV.ren]
    split
    · exact .row0 _ o c a
    · exact .undef _
  | row id o l b sz n' cap h hl =>
    simp only [AV.ren]
    split
    · rename_i k hk; exact .row k o l b sz n' cap (hm _ _ _ hk h) hl
    · exact .undef _
  | ptr id i o b sz n' h =>
    simp only [AV.ren]
    split
    · rename_i k hk; exact .ptr k i o b sz n' (hm _ _ _ hk h)
    · exact .undef _
  | yld id b sz n' h =>
    simp only [AV.ren]
    split
    · rename_i k hk; exact .yld k b sz n' (hm _ _ _ hk h)
    · exact .undef _
  | agg cs vs hl _ ih =>
    refine .agg _ vs ((renL_length m cs).trans hl) fun j c v hc hv => ?_
    rw [renL_get] at hc
    obtain ⟨d, hd, rfl⟩ := Option.map_eq_some_iff.1 hc
    exact ih j d v hd hv
  | tup cs vs hl _ ih =>
    refine .tup _ vs ((renL_length m cs).trans hl) fun j c v hc hv => ?_
    rw [renL_get] at hc
    obtain ⟨d, hd, rfl⟩ := Option.map_eq_some_iff.1 hc
    exact ih j d v hd hv
  | iface t a v _ ih => exact .iface t _ v ih
  | fn g a b va vb h1 h2 _ _ i1 i2 =>
    refine .fn g _ _ va vb ((renL_length m a).trans h1) ((renL_length m b).trans h2) (fun j c v hc hv => ?_) (fun j c v hc hv => ?_)
    · rw [renL_get] at hc
      obtain ⟨d, hd, rfl⟩ := Option.map_eq_some_iff.1 hc
      exact i1 j d v hd hv
    · rw [renL_get] at hc
      obtain ⟨d, hd, rfl⟩ := Option.map_eq_some_iff.1 hc
      exact i2 j d v hd hv

theorem ObjR.ren {ρ' : Rho} {m : List (Nat × Nat)} (hm : ∀ n k r, aget m n = some k → ρ n = some r → ρ' k = some r) {n k : Nat} (hk : ∀ r, ρ n = some r → ρ' k = some r) {o : AObj} (h : ObjR S ρ w n o) : ObjR S ρ' w k (o.ren m) := by
  cases o with
  | box v =>
    obtain ⟨b, cells, t, fr, h1, h2, h3, h4, h5, h6⟩ := h
    have hl : (v.ren m).cells.length = v.cells.length := by rw [ren_cells, renL_length]
    refine ⟨b, cells, t, fr, by rw [hl]; exact hk _ h1, h2, by rw [hl]; exact h3, h4, h5, fun j c hc => ?_⟩
    rw [ren_cells, renL_get] at hc
    obtain ⟨d, hd, rfl⟩ := Option.map_eq_some_iff.1 hc
    obtain ⟨u, hu, hv⟩ := h6 j d hd
    exact ⟨u, hu, hv.ren hm⟩
  | row sz es fx mv =>
    rcases h with ⟨h1, h2⟩ | ⟨b, cells, t, fr, h0, h1, rest⟩
    · exact .inl ⟨h1, hk _ h2⟩
    · exact .inr ⟨b, cells, t, fr, h0, hk _ h1, rest⟩
  | loop r sl =>
    obtain ⟨b, L, h1, h2, h3, h4, h5, h7, h8, h9, h10, h11⟩ := h
    refine ⟨b, L, hk _ h1, h2, h3, h4, h5, h7, h8, h9, h10, fun t => ?_⟩
    rw [aget_map]
    have := (h11 t).ren hm
    cases hs : aget sl t with
    | none => rw [hs] at this; exact .undef _
    | some v => rw [hs] at this; exact this
  | dblk => exact h.elim
theorem ObjR.unmv {n : Nat} {o : AObj} (h : ObjR S ρ w n o) : ObjR S ρ w n o.unmv := by cases o <;> exact h
theorem ObjR.ormv {n : Nat} {o : AObj} (b : Bool) (h : ObjR S ρ w n o) : ObjR S ρ w n (o.ormv b) := by cases o <;> exact h

/-! ### Names handed over -/
theorem aget_zipIx' {α : Type} (l : List α) : ∀ (s k : Nat), aget (zipIx l s) (s + k) = l[k]? := by
  induction l with
  | nil => intro s k; rfl
  | cons x l ih =>
    intro s k
    cases k with
    | zero => simp [zipIx, aget]
    | succ k =>
      simp only [zipIx, aget]
      rw [if_neg (by omega)]
      have := ih (s + 1) k
      rw [show s + 1 + k = s + (k + 1) by omega] at this
      rw [this]; simp
theorem aget_zipIx {α : Type} (l : List α) (k : Nat) : aget (zipIx l 0) k = l[k]? := by
  have := aget_zipIx' l 0 k
  rwa [Nat.zero_add] at this
theorem zipIx_mem {α : Type} {l : List α} : ∀ {s : Nat} {p : Nat × α}, p ∈ zipIx l s → ∃ k, p.1 = s + k ∧ l[k]? = some p.2 := by
  induction l with
  | nil => intro s p h; simp [zipIx] at h
  | cons x l ih =>
    intro s p h
    simp only [zipIx, List.mem_cons] at h
    rcases h with rfl | h
    · exact ⟨0, rfl, rfl⟩
    · obtain ⟨k, h1, h2⟩ := ih h
      exact ⟨k + 1, by omega, h2⟩
theorem mem_zipIx {α : Type} {l : List α} : ∀ {s k : Nat} {x : α}, l[k]? = some x → (s + k, x) ∈ zipIx l s := by
  induction l with
  | nil => intro s k x h; simp at h
  | cons y l ih =>
    intro s k x h
    cases k with
    | zero => simp at h; subst h; simp [zipIx]
    | succ k =>
      have := ih (s := s + 1) (k := k) (x := x) (by simpa using h)
      rw [show s + 1 + k = s + (k + 1) by omega] at this
      exact List.mem_cons_of_mem _ this
theorem aget_mem {α : Type} {l : List (Nat × α)} {k : Nat} {x : α} (h : aget l k = some x) : (k, x) ∈ l := by
  induction l with
  | nil => cases h
  | cons p l ih =>
    obtain ⟨j, y⟩ := p
    rw [aget_cons] at h
    split at h
    · rename_i e; cases h; cases e; simp
    · exact List.mem_cons_of_mem _ (ih h)
theorem aget_of_mem {α : Type} {l : List (Nat × α)} {k : Nat} {x : α} (h : (k, x) ∈ l) : ∃ y, aget l k = some y := by
  induction l with
  | nil => cases h
  | cons p l ih =>
    obtain ⟨j, y⟩ := p
    rw [aget_cons]
    split
    · exact ⟨y, rfl⟩
    · rename_i e
      rcases List.mem_cons.1 h with e' | h
      · cases e'; exact absurd rfl e
      · exact ih h
theorem aget_append {α : Type} (l r : List (Nat × α)) (k : Nat) : aget (l ++ r) k = (aget l k).or (aget r k) := by
  induction l with
  | nil => simp [aget]
  | cons p l ih =>
    obtain ⟨j, y⟩ := p
    simp only [List.cons_append, aget_cons]
    split <;> simp [ih]

theorem toMap_some {ns : List Nat} {n k : Nat} (h : aget (toMap ns) n = some k) : ns[k]? = some n := by
  have := aget_mem h
  unfold toMap at this
  obtain ⟨p, hp, e⟩ := List.mem_map.1 this
  cases e
  obtain ⟨j, h1, h2⟩ := zipIx_mem hp
  rw [Nat.zero_add] at h1
  rw [h1]; exact h2

theorem aget_subHeap' (F : Nat → Option AObj) (ns : List Nat) : ∀ (s k : Nat), aget ((zipIx ns s).filterMap fun p => (F p.2).map fun o => (p.1, o)) (s + k) = (ns[k]?).bind F := by
  induction ns with
  | nil => intro s k; simp [zipIx, aget]
  | cons n ns ih =>
    intro s k
    have low : ∀ (l : List Nat) (s k : Nat), k < s → aget ((zipIx l s).filterMap fun p => (F p.2).map fun o => (p.1, o)) k = none := by
      intro l
      induction l with
      | nil => intro s k _; simp [zipIx, aget]
      | cons m l ih2 =>
        intro s k hk
        simp only [zipIx, List.filterMap_cons]
        cases hF : F m with
        | none => simp only [Option.map_none]; exact ih2 _ _ (by omega)
        | some o => simp only [Option.map_some]; rw [aget_cons, if_neg (by omega)]; exact ih2 _ _ (by omega)
    simp only [zipIx, List.filterMap_cons]
    cases k with
    | zero =>
      cases hF : F n with
      | none => simp [hF, low]
      | some o => simp [hF, aget_cons]
    | succ k =>
      have := ih (s + 1) k
      rw [show s + 1 + k = s + (k + 1) by omega] at this
      cases hF : F n with
      | none => simpa [hF] using this
      | some o =>
        simp only [Option.map_some]
        rw [aget_cons, if_neg (by omega), this]; simp
theorem aget_subHeap (ns : List Nat) (hp : Heap) (k : Nat) : aget (subHeap ns hp) k = (ns[k]?).bind fun n => (aget hp n).map fun o => (o.ren (toMap ns)).unmv := by
  have := aget_subHeap' (fun n => (aget hp n).map fun o => (o.ren (toMap ns)).unmv) ns 0 k
  rw [Nat.zero_add] at this
  rw [← this]
  unfold subHeap
  congr 2
  funext p
  cases aget hp p.2 <;> rfl

theorem reachL_nodup (hp : Heap) : ∀ (k : Nat) (l acc : List Nat), acc.Nodup → (reachL k hp l acc).Nodup := by
  intro k
  induction k with
  | zero => intro l acc h; simpa [reachL] using h
  | succ k ih =>
    intro l acc h
    cases l with
    | nil => simpa [reachL] using h
    | cons n r =>
      simp only [reachL]
      split
      · exact ih _ _ h
      · rename_i hn
        exact ih _ _ (List.nodup_append.2 ⟨h, by simp, fun a ha b hb => by simp at hb; subst hb; intro e; subst e; exact hn ha⟩)
theorem reachL_length (hp : Heap) : ∀ (k : Nat) (l acc : List Nat), (reachL k hp l acc).length ≤ k + acc.length := by
  intro k
  induction k with
  | zero => intro l acc; simp [reachL]
  | succ k ih =>
    intro l acc
    cases l with
    | nil => simp [reachL]
    | cons n r =>
      simp only [reachL]
      split
      · exact Nat.le_trans (ih _ _) (by omega)
      · exact Nat.le_trans (ih _ _) (by simp; omega)

def subRho (ns : List Nat) (ρ : Rho) : Rho := fun k => (ns[k]?).bind ρ

theorem nodup_inj {l : List Nat} (h : l.Nodup) {i j n : Nat} (hi : l[i]? = some n) (hj : l[j]? = some n) : i = j := by
  obtain ⟨l1, e1⟩ := List.getElem?_eq_some_iff.1 hi
  obtain ⟨l2, e2⟩ := List.getElem?_eq_some_iff.1 hj
  rcases Nat.lt_trichotomy i j with hlt | he | hgt
  · exact absurd (e1.trans e2.symm) (List.pairwise_iff_getElem.1 h i j l1 l2 hlt)
  · exact he
  · exact absurd (e2.trans e1.symm) (List.pairwise_iff_getElem.1 h j i l2 l1 hgt)

theorem HR.sub {hp : Heap} (H : HR S ρ w hp) {ns : List Nat} (hnd : ns.Nodup) : HR S (subRho ns ρ) w (subHeap ns hp) := by
  refine ⟨fun k o ho => ?_, fun k hk => ?_, fun k k' b sz sz' j j' h1 h2 => ?_⟩
  · rw [aget_subHeap] at ho
    rw [Option.bind_eq_some_iff] at ho
    obtain ⟨n, hn, ho⟩ := ho
    obtain ⟨o', ho', rfl⟩ := Option.map_eq_some_iff.1 ho
    refine ((H.obj n o' ho').ren (fun m j r hm hr => ?_) (fun r hr => ?_)).unmv
    · have := toMap_some hm; simp [subRho, this, hr]
    · simp [subRho, hn, hr]
  · rw [aget_subHeap] at hk
    unfold subRho
    cases hn : ns[k]? with
    | none => rfl
    | some n =>
      simp only [hn, Option.bind_some, Option.map_eq_none_iff] at hk
      exact H.dom n hk
  · simp only [subRho] at h1 h2
    rw [Option.bind_eq_some_iff] at h1 h2
    obtain ⟨n, hn, h1⟩ := h1
    obtain ⟨m, hm, h2⟩ := h2
    have := H.inj n m b sz sz' j j' h1 h2
    subst this
    exact nodup_inj hnd hn hm

theorem VR.sub {ns : List Nat} {x : AV} {v : Value} (h : VR S ρ w x v) : VR S (subRho ns ρ) w (x.ren (toMap ns)) v :=
  h.ren fun m j r hm hr => by have := toMap_some hm; simp [subRho, this, hr]

/-! ### A call's beginning and its end -/
def envOf (S : Stab) (ρ : Rho) (w : World) (h : ∀ n r, ρ n = some r → n < 1000) : Env := ⟨w, S, fun b => ∃ n sz k, ρ n = some ⟨some (b, sz), k⟩, ρ, h⟩

structure Out (E : Env) (hp : Heap) (S : Stab) (ρ : Rho) (w : World) : Prop where
  heap : HR S ρ w hp
  mine : ∀ n b sz k, ρ n = some ⟨some (b, sz), k⟩ → E.F b ∨ E.W0.heap.size ≤ b
  old : ∀ n o, aget hp n = some o → o.moved = false → ∀ r, E.R0 n = some r → ρ n = some r
  fr : FrameR E S w

def AnswerR (S : Stab) (ρ : Rho) (w : World) : ARes → Ending → Prop
  | .ret v, .returned u => VR S ρ w v u
  | .pan v, .panicked ch => ∃ u, ch = [{ v := u, recovered := false }] ∧ VR S ρ w v u
  | _, _ => False

def CallSound (P : Program) (g : FuncId) (args : List AV) (hp : Heap) (r : ARes × Heap) : Prop :=
  ∀ (S : Stab) (ρ : Rho) (w : World) (vs : Array Value) (hl : ∀ n r, ρ n = some r → n < 1000), HR S ρ w hp → (∀ b o, S b o → b < w.heap.size) → args.length = vs.size →
    (∀ (j : Nat) c v, args[j]? = some c → vs[j]? = some v → VR S ρ w c v) →
    Calls P g vs w fun e w' => ∃ S' ρ', Out (envOf S ρ w hl) r.2 S' ρ' w' ∧ AnswerR S' ρ' w' r.1 e

/-! ### Names struck -/
def strike (ns : List Nat) (ρ : Rho) : Rho := fun n => if n ∈ ns then none else ρ n
theorem VR.kills (ns : List Nat) : ∀ {ρ : Rho} {x : AV} {v : Value}, VR S ρ w x v → VR S (strike ns ρ) w (ns.foldl (fun x n => x.kill n) x) v := by
  induction ns with
  | nil => intro ρ x v h; exact h.ext (Ext.refl S w) fun id r hr => by simp [strike, hr]
  | cons n ns ih =>
    intro ρ x v h
    have h1 : VR S (strike [n] ρ) w (x.kill n) v := h.kill n fun id r hid hr => by simp [strike, hid, hr]
    exact (ih h1).ext (Ext.refl S w) fun id r hr => by
      unfold strike at hr ⊢
      split at hr
      · cases hr
      · rename_i hid
        split at hr
        · cases hr
        · rename_i hn
          rw [if_neg (by simp only [List.mem_cons, not_or]; simp only [List.mem_singleton] at hn; exact ⟨hn, hid⟩)]; exact hr
theorem ObjR.kills (ns : List Nat) {m : Nat} (hm : m ∉ ns) : ∀ {ρ : Rho} {o : AObj}, ObjR S ρ w m o → ObjR S (strike ns ρ) w m (ns.foldl (fun o n => o.kill n) o) := by
  induction ns with
  | nil => intro ρ o h; exact h.keep (Ext.refl S w) (by simp [strike]) (fun id r hr => by simp [strike, hr]) (fun b s k _ => ⟨rfl, fun _ x => x⟩)
  | cons n ns ih =>
    intro ρ o h
    simp only [List.mem_cons, not_or] at hm
    have h1 : ObjR S (strike [n] ρ) w m (o.kill n) := h.kill (n := n) (fun id r hid hr => by simp [strike, hid, hr]) hm.1
    have e : strike ns (strike [n] ρ) = strike (n :: ns) ρ := by
      funext id
      unfold strike
      by_cases h1 : id ∈ ns <;> by_cases h2 : id = n <;> simp [h1, h2]
    have := ih hm.2 h1
    rw [e] at this
    exact this
theorem moved_kills (ns : List Nat) : ∀ o : AObj, (ns.foldl (fun o n => o.kill n) o).moved = o.moved := by
  induction ns with
  | nil => intro o; rfl
  | cons n ns ih => intro o; rw [List.foldl_cons, ih, moved_kill]
theorem slot_killAll (ns : List Nat) : ∀ (st : ASt) (t : Nat), (killAll st ns).slot t = ns.foldl (fun x n => x.kill n) (st.slot t) := by
  induction ns with
  | nil => intro st t; rfl
  | cons n ns ih => intro st t; show (killAll (st.killn n) ns).slot t = _; rw [ih, slot_killn]; rfl
theorem hp_killAll (ns : List Nat) : ∀ (st : ASt) (m : Nat), aget (killAll st ns).hp m = (aget st.hp m).map fun o => ns.foldl (fun o n => o.kill n) o := by
  induction ns with
  | nil => intro st m; show aget st.hp m = _; cases aget st.hp m <;> rfl
  | cons n ns ih =>
    intro st m
    show aget (killAll (st.killn n) ns).hp m = _
    rw [ih, hp_killn]
    cases aget st.hp m <;> rfl

end Go.Proofs.Ytonaejfpiihfhaa.Abs
