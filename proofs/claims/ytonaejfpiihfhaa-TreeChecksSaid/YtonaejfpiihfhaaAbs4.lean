/- Memory: cells read and written one behind the other; what the state's objects are; steps that keep it. -/
import Derived.Test.YtonaejfpiihfhaaAbs3
namespace Go.Proofs.Ytonaejfpiihfhaa.Abs
open Go Go.RowKit
set_option linter.unusedSimpArgs false
set_option linter.unusedVariables false

theorem at0_add (b o n : Nat) : (at0 b o).add n = at0 b (o + n) := by
  unfold Addr.add at0
  split
  · subst_vars; rfl
  · rfl

theorem run_loadCellsFrom {P : Program} {w : World} {b o : Nat} (f : Nat → Value) (n : Nat) : ∀ (i : Nat) (acc : Array Value), (∀ j, j < n → w.cell? (at0 b (o + i + j)) = some (f (i + j))) →
    (loadCellsFrom (at0 b o) i n acc).run P w = .ok (acc ++ ((List.range' i n).map f).toArray) w := by
  induction n with
  | zero => intro i acc _; simp [loadCellsFrom, pure, Sem.run]
  | succ n ih =>
    intro i acc h
    have h0 := h 0 (by omega)
    simp only [Nat.add_zero] at h0
    simp only [loadCellsFrom, at0_add, bind, Sem.bind, load, Sem.run, h0]
    rw [ih (i + 1) (acc.push (f i)) (fun j hj => by have := h (j + 1) (by omega); rw [show o + i + (j + 1) = o + (i + 1) + j by omega, show i + (j + 1) = i + 1 + j by omega] at this; exact this)]
    simp [List.range'_succ]

theorem run_loadCells {P : Program} {w : World} {b o n : Nat} (f : Nat → Value) (h : ∀ j, j < n → w.cell? (at0 b (o + j)) = some (f j)) :
    (loadCells (at0 b o) n).run P w = .ok ((List.range n).map f).toArray w := by
  have := run_loadCellsFrom (P := P) (w := w) (b := b) (o := o) f n 0 #[] (fun j hj => by simpa using h j hj)
  simpa [loadCells, List.range_eq_range'] using this

/-- Cells written one behind the other. -/
def setCells (w : World) (b o : Nat) : List Value → World
  | [] => w
  | v :: r => setCells (w.setCell (at0 b o) v) b (o + 1) r

theorem setCells_size (b : Nat) (l : List Value) : ∀ (w : World) (o : Nat), (setCells w b o l).heap.size = w.heap.size := by
  induction l with
  | nil => intro w o; rfl
  | cons v l ih => intro w o; rw [setCells, ih]; simp
theorem setCells_other (b : Nat) (l : List Value) : ∀ (w : World) (o k : Nat), k ≠ b → (setCells w b o l).heap[k]? = w.heap[k]? := by
  induction l with
  | nil => intro w o k _; rfl
  | cons v l ih => intro w o k hk; rw [setCells, ih _ _ _ hk]; exact Below.heap_setCell _ _ _ _ hk
theorem setCells_outer (b : Nat) (l : List Value) : ∀ (w : World) (o : Nat), (setCells w b o l).os = w.os ∧ (setCells w b o l).tape = w.tape ∧ (setCells w b o l).output = w.output := by
  induction l with
  | nil => intro w o; exact ⟨rfl, rfl, rfl⟩
  | cons v l ih => intro w o; exact ih _ _
/-- The block behind it. -/
theorem setCells_block (b : Nat) (l : List Value) : ∀ (w : World) (o : Nat) (cells : Array Value) (t : TypeId) (fr : Nat × Nat), w.heap[b]? = some (.cells cells t fr) → o + l.length ≤ cells.size →
    ∃ cells' : Array Value, (setCells w b o l).heap[b]? = some (.cells cells' t fr) ∧ cells'.size = cells.size ∧
      (∀ j, j < o ∨ o + l.length ≤ j → cells'[j]? = cells[j]?) ∧ (∀ j, j < l.length → cells'[o + j]? = l[j]?) := by
  induction l with
  | nil => intro w o cells t fr h _; exact ⟨cells, h, rfl, fun _ _ => rfl, fun j hj => absurd hj (Nat.not_lt_zero j)⟩
  | cons v l ih =>
    intro w o cells t fr h hl
    simp only [List.length_cons] at hl
    have h1 : (w.setCell (at0 b o) v).heap[b]? = some (.cells (cells.setIfInBounds o v) t fr) := by
      simp [World.setCell, at0, Array.getElem?_modify, h]
    obtain ⟨cells', e1, e2, e3, e4⟩ := ih (w.setCell (at0 b o) v) (o + 1) _ t fr h1 (by simp; omega)
    refine ⟨cells', e1, by simpa using e2, fun j hj => ?_, fun j hj => ?_⟩
    · simp only [List.length_cons] at hj
      rw [e3 j (by omega), Array.getElem?_setIfInBounds_ne (by omega)]
    · cases j with
      | zero => rw [Nat.add_zero, e3 o (by omega), Array.getElem?_setIfInBounds_self_of_lt (by omega)]; rfl
      | succ j => have := e4 j (by simpa using hj); rw [show o + 1 + j = o + (j + 1) by omega] at this; rw [this]; rfl

theorem frozen_block {w w' : World} {b : Nat} {c c' : Array Value} {t : TypeId} {fr : Nat × Nat} (h : w.heap[b]? = some (.cells c t fr)) (h' : w'.heap[b]? = some (.cells c' t fr)) (o : Nat) : w'.frozen? (at0 b o) = w.frozen? (at0 b o) := by
  simp [World.frozen?, at0, h, h']
theorem cell_block {w : World} {b : Nat} {c : Array Value} {t : TypeId} {fr : Nat × Nat} (h : w.heap[b]? = some (.cells c t fr)) (o : Nat) : w.cell? (at0 b o) = c[o]? := by
  simp [World.cell?, at0, h]
theorem cell_same {w w' : World} {b : Nat} (h : w'.heap[b]? = w.heap[b]?) (o : Nat) : w'.cell? (at0 b o) = w.cell? (at0 b o) := by
  simp [World.cell?, at0, h]
theorem frozen_same {w w' : World} {b : Nat} (h : w'.heap[b]? = w.heap[b]?) (o : Nat) : w'.frozen? (at0 b o) = w.frozen? (at0 b o) := by
  simp [World.frozen?, at0, h]
theorem lt_of_block {w : World} {b : Nat} {x : Obj} (h : w.heap[b]? = some x) : b < w.heap.size := by
  have := Array.getElem?_eq_some_iff.1 h; exact this.1

theorem run_storeCells {P : Program} {b o : Nat} (l : List Value) : ∀ (w : World) (i : Nat) (cells : Array Value) (t : TypeId) (fr : Nat × Nat), w.heap[b]? = some (.cells cells t fr) → o + i + l.length ≤ cells.size →
    (∀ j, j < cells.size → w.frozen? (at0 b j) = false) → (∀ v ∈ l, scalarV v = true) → (storeCells (at0 b o) l i).run P w = .ok () (setCells w b (o + i) l) := by
  induction l with
  | nil => intro w i cells t fr _ _ _ _; simp [storeCells, setCells, pure, Sem.run]
  | cons v l ih =>
    intro w i cells t fr h hl hf hs
    simp only [List.length_cons] at hl
    have h1 : (w.setCell (at0 b (o + i)) v).heap[b]? = some (.cells (cells.setIfInBounds (o + i) v) t fr) := by
      simp [World.setCell, at0, Array.getElem?_modify, h]
    have hc : w.cell? (at0 b (o + i)) = some cells[o + i] := by rw [cell_block h]; exact Array.getElem?_eq_getElem (by omega)
    have hz := hf (o + i) (by omega)
    have hv := hs v (by simp)
    have ih' := ih (w.setCell (at0 b (o + i)) v) (i + 1) _ t fr h1 (by simp; omega) (fun j hj => by rw [frozen_block h h1]; exact hf j (by simpa using hj)) (fun u hu => hs u (by simp [hu]))
    simp only [storeCells, at0_add, bind, Sem.bind, store, pure, setCells]
    rw [show o + i + 1 = o + (i + 1) by omega, ← ih']
    cases v <;> simp [scalarV] at hv <;> simp [Sem.run, hc, hz]

/-! ## Objects -/

def Unfrozen (w : World) (b n : Nat) : Prop := ∀ o, o < n → w.frozen? (at0 b o) = false

def ObjR (S : Stab) (ρ : Rho) (w : World) (n : Nat) : AObj → Prop
  | .box v => ∃ b cells t fr, ρ n = some ⟨some (b, v.cells.length), 1⟩ ∧ w.heap[b]? = some (.cells cells t fr) ∧ v.cells.length ≤ cells.size ∧
      Unfrozen w b cells.size ∧ (∀ o, ¬ S b o) ∧ ∀ (j : Nat) c, v.cells[j]? = some c → ∃ u, cells[j]? = some u ∧ VR S ρ w c u
  | .row sz es fx _ => (es = [] ∧ ρ n = some ⟨none, 0⟩) ∨ ∃ b cells t fr, 0 < sz ∧ ρ n = some ⟨some (b, sz), es.length⟩ ∧ (∀ e ∈ es, e.cells.length = sz) ∧
      w.heap[b]? = some (.cells cells t fr) ∧ es.length * sz ≤ cells.size ∧ Unfrozen w b cells.size ∧
      (∀ (i j : Nat) e c, es[i]? = some e → e.cells[j]? = some c → ∃ u, cells[i * sz + j]? = some u ∧ PR S w c u ∧ (fx = true → S b (i * sz + j)) ∧ scalarV u = true) ∧
      (∀ o, S b o → fx = true ∧ o < es.length * sz)
  | .loop r sl => ∃ b L, ρ n = some ⟨some (b, 0), 0⟩ ∧ w.heap[b]? = some (.loop L) ∧ (∀ o, ¬ S b o) ∧ L.state = r.state ∧ L.pending = r.pending ∧ L.params = r.ps ∧ L.assign = r.assign ∧ L.body = r.body ∧
      r.nt ≤ L.tmps.size ∧ ∀ t, VR S ρ w ((aget sl t).getD .undef) (L.tmps.getD t Go.undef)
  | .dblk => False

structure HR (S : Stab) (ρ : Rho) (w : World) (hp : Heap) : Prop where
  obj : ∀ n o, aget hp n = some o → ObjR S ρ w n o
  dom : ∀ n, aget hp n = none → ρ n = none
  inj : ∀ n m b sz sz' k k', ρ n = some ⟨some (b, sz), k⟩ → ρ m = some ⟨some (b, sz'), k'⟩ → n = m

/-- What a call of a function begins with: the memory; what is stable; the blocks that it may write; the names that it was handed. -/
structure Env where
  W0 : World
  S0 : Stab
  F : Nat → Prop
  R0 : Rho
  low : ∀ n r, R0 n = some r → n < 1000

structure FrameR (E : Env) (S : Stab) (w : World) : Prop where
  ext : Ext E.S0 E.W0 S w
  new : ∀ b o, S b o → E.S0 b o ∨ E.F b ∨ E.W0.heap.size ≤ b
  bnd : ∀ b o, S b o → b < w.heap.size
  size : E.W0.heap.size ≤ w.heap.size
  keep : ∀ b, b < E.W0.heap.size → ¬ E.F b → w.heap[b]? = E.W0.heap[b]?
  dfr : ∀ b : Nat, E.W0.heap[b]? = some (.deferred (some [])) → w.heap[b]? = some (.deferred (some []))
  os : w.os = E.W0.os
  tape : w.tape = E.W0.tape
  output : w.output = E.W0.output

structure SR (E : Env) (st : ASt) (S : Stab) (ρ : Rho) (tm : Array Value) (w : World) : Prop where
  slot : ∀ t, VR S ρ w (st.slot t) (tm.getD t Go.undef)
  heap : HR S ρ w st.hp
  mine : ∀ n b sz k, ρ n = some ⟨some (b, sz), k⟩ → E.F b ∨ E.W0.heap.size ≤ b
  old : ∀ n o, aget st.hp n = some o → o.moved = false → ∀ r, E.R0 n = some r → ρ n = some r
  fr : FrameR E S w

theorem slot_put (st : ASt) (d : Option Nat) (v : AV) (t : Nat) : (st.put d v).slot t = if d = some t then v else st.slot t := by
  cases d with
  | none => simp [ASt.put]
  | some k => by_cases h : k = t <;> simp [ASt.put, ASt.slot, aget, h]
theorem hp_put (st : ASt) (d : Option Nat) (v : AV) : (st.put d v).hp = st.hp := by cases d <;> rfl

/-- A slot is written. -/
theorem SR.put {E : Env} {st : ASt} {S : Stab} {ρ : Rho} {tm : Array Value} {w : World} (h : SR E st S ρ tm w) (d : Option Nat) (hd : ∀ t, d = some t → t < tm.size) {v : AV} {u : Value} (hv : VR S ρ w v u) :
    SR E (st.put d v) S ρ (match d with | some t => tm.setIfInBounds t u | none => tm) w := by
  refine ⟨fun t => ?_, hp_put st d v ▸ h.heap, h.mine, hp_put st d v ▸ h.old, h.fr⟩
  rw [slot_put]
  cases d with
  | none => simpa using h.slot t
  | some k =>
    have hk := hd k rfl
    by_cases e : k = t
    · subst e; simp only [if_true]; simp only [Array.getD_eq_getD_getElem?, Array.getElem?_setIfInBounds_self_of_lt hk, Option.getD_some]; exact hv
    · rw [if_neg (by simpa using e)]
      simp only [Array.getD_eq_getD_getElem?, Array.getElem?_setIfInBounds_ne e]
      simpa only [Array.getD_eq_getD_getElem?] using h.slot t

/-- An object that the step didn't touch. -/
theorem ObjR.keep {S S' : Stab} {ρ ρ' : Rho} {w w' : World} (x : Ext S w S' w') {n : Nat} {o : AObj} (h : ObjR S ρ w n o) (hn : ρ' n = ρ n)
    (hr : ∀ id r, ρ id = some r → ρ' id = some r)
    (hb : ∀ b sz k, ρ n = some ⟨some (b, sz), k⟩ → w'.heap[b]? = w.heap[b]? ∧ ∀ o, S' b o → S b o) : ObjR S' ρ' w' n o := by
  cases o with
  | box v =>
    obtain ⟨b, cells, t, fr, h1, h2, h3, h4, h5, h6⟩ := h
    obtain ⟨g1, g2⟩ := hb _ _ _ h1
    refine ⟨b, cells, t, fr, hn.trans h1, g1.trans h2, h3, fun o ho => (frozen_same g1 o).trans (h4 o ho), fun o ho => h5 o (g2 o ho), fun j c hc => ?_⟩
    obtain ⟨u, hu, hv⟩ := h6 j c hc
    exact ⟨u, hu, hv.ext x hr⟩
  | row sz es fx mv =>
    rcases h with ⟨h1, h2⟩ | ⟨b, cells, t, fr, h0, h1, hs, h2, h3, h4, h5, h6⟩
    · exact .inl ⟨h1, hn.trans h2⟩
    · obtain ⟨g1, g2⟩ := hb _ _ _ h1
      refine .inr ⟨b, cells, t, fr, h0, hn.trans h1, hs, g1.trans h2, h3, fun o ho => (frozen_same g1 o).trans (h4 o ho), fun i j e c he hc => ?_, fun o ho => h6 o (g2 o ho)⟩
      obtain ⟨u, hu, hv, hx, hq⟩ := h5 i j e c he hc
      exact ⟨u, hu, hv.ext x, fun e => x.stab _ _ (hx e), hq⟩
  | loop r sl =>
    obtain ⟨b, L, h1, h2, h3, h4, h5, h7, h8, h9, h10, h11⟩ := h
    obtain ⟨g1, g2⟩ := hb _ _ _ h1
    exact ⟨b, L, hn.trans h1, g1.trans h2, fun o ho => h3 o (g2 o ho), h4, h5, h7, h8, h9, h10, fun t => (h11 t).ext x hr⟩
  | dblk => exact h.elim

end Go.Proofs.Ytonaejfpiihfhaa.Abs
