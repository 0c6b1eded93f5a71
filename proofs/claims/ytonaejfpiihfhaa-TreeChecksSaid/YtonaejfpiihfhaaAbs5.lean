/- Steps of the state: a new object, a store, a row that grows, a row that is told. -/
import Derived.Test.YtonaejfpiihfhaaAbs4
namespace Go.Proofs.Ytonaejfpiihfhaa.Abs
open Go Go.RowKit
set_option linter.unusedSimpArgs false
set_option linter.unusedVariables false

structure Step (E : Env) (S : Stab) (w : World) (S' : Stab) (w' : World) : Prop where
  ext : Ext S w S' w'
  size : w.heap.size ≤ w'.heap.size
  keep : ∀ b, b < E.W0.heap.size → ¬ E.F b → w'.heap[b]? = w.heap[b]?
  dfr : ∀ b : Nat, w.heap[b]? = some (.deferred (some [])) → w'.heap[b]? = some (.deferred (some []))
  new : ∀ b o, S' b o → S b o ∨ E.F b ∨ E.W0.heap.size ≤ b
  bnd : ∀ b o, S' b o → b < w'.heap.size
  os : w'.os = w.os
  tape : w'.tape = w.tape
  output : w'.output = w.output

theorem FrameR.step {E : Env} {S S' : Stab} {w w' : World} (h : FrameR E S w) (s : Step E S w S' w') : FrameR E S' w' :=
  ⟨h.ext.trans s.ext, fun b o x => (s.new b o x).elim (h.new b o) .inr, s.bnd, Nat.le_trans h.size s.size, fun b hb hF => (s.keep b hb hF).trans (h.keep b hb hF), fun b hb => s.dfr b (h.dfr b hb),
   s.os.trans h.os, s.tape.trans h.tape, s.output.trans h.output⟩

theorem SR.step {E : Env} {st st' : ASt} {S S' : Stab} {ρ ρ' : Rho} {tm : Array Value} {w w' : World} (h : SR E st S ρ tm w) (s : Step E S w S' w')
    (hr : ∀ id r, ρ id = some r → ρ' id = some r) (hH : HR S' ρ' w' st'.hp) (hm : ∀ n b sz k, ρ' n = some ⟨some (b, sz), k⟩ → E.F b ∨ E.W0.heap.size ≤ b)
    (hs : ∀ t, st'.slot t = st.slot t) (hold : ∀ n o, aget st'.hp n = some o → o.moved = false → ∀ r, E.R0 n = some r → ρ' n = some r) : SR E st' S' ρ' tm w' :=
  ⟨fun t => (hs t).symm ▸ (h.slot t).ext s.ext hr, hH, hm, hold, h.fr.step s⟩

theorem HR.lt {S : Stab} {ρ : Rho} {w : World} {hp : Heap} (h : HR S ρ w hp) {n b sz k : Nat} (hn : ρ n = some ⟨some (b, sz), k⟩) : b < w.heap.size := by
  cases ho : aget hp n with
  | none => rw [h.dom n ho] at hn; cases hn
  | some o =>
    have hx := h.obj n o ho
    cases o with
    | box v => obtain ⟨b', cells, t, fr, h1, h2, _⟩ := hx; rw [hn] at h1; cases h1; exact lt_of_block h2
    | row sz es fx mv =>
      rcases hx with ⟨_, h1⟩ | ⟨b', cells, t, fr, _, h1, _, h2, _⟩
      · rw [hn] at h1; cases h1
      · rw [hn] at h1; cases h1; exact lt_of_block h2
    | loop r sl => obtain ⟨b', L, h1, h2, _⟩ := hx; rw [hn] at h1; cases h1; exact lt_of_block h2
    | dblk => exact hx.elim

/-- The world draws. -/
theorem Ext.drew (S : Stab) (w : World) : Ext S w S w.drew := ⟨fun _ _ h => h, fun _ _ _ => rfl, fun _ c _ _ h => ⟨c, h, rfl⟩⟩
theorem Step.drew {E : Env} {S : Stab} {w : World} (h : FrameR E S w) : Step E S w S w.drew :=
  ⟨Ext.drew S w, Nat.le_refl _, fun _ _ _ => rfl, fun _ h => h, fun _ _ h => .inl h, h.bnd, rfl, rfl, rfl⟩
theorem SR.drew {E : Env} {st : ASt} {S : Stab} {ρ : Rho} {tm : Array Value} {w : World} (h : SR E st S ρ tm w) : SR E st S ρ tm w.drew :=
  h.step (Step.drew h.fr) (fun _ _ h => h)
    ⟨fun n o ho => (h.heap.obj n o ho).keep (Ext.drew S w) rfl (fun _ _ h => h) (fun _ _ _ _ => ⟨rfl, fun _ h => h⟩), h.heap.dom, h.heap.inj⟩ h.mine (fun _ => rfl) h.old

theorem Ext.alloc {S : Stab} {w : World} (hb : ∀ b o, S b o → b < w.heap.size) (o : Obj) : Ext S w S (w.alloc o) :=
  ⟨fun _ _ h => h, fun b i h => World.cell?_alloc_lt _ _ _ (hb b i h), fun b c t fr h => ⟨c, by rw [Below.heap_alloc w o b (lt_of_block h)]; exact h, rfl⟩⟩
theorem Step.alloc {E : Env} {S : Stab} {w : World} (h : FrameR E S w) (o : Obj) : Step E S w S (w.alloc o) :=
  ⟨Ext.alloc h.bnd o, by simp, fun b hb _ => Below.heap_alloc w o b (Nat.lt_of_lt_of_le hb h.size), fun b hb => (Below.heap_alloc w o b (lt_of_block hb)).trans hb, fun _ _ h => .inl h,
   fun b i x => by have := h.bnd b i x; simp; omega, rfl, rfl, rfl⟩

/-- A world that has grown by blocks that nobody has a name for. -/
theorem SR.allocs {E : Env} {st : ASt} {S : Stab} {ρ : Rho} {tm : Array Value} {w : World} (h : SR E st S ρ tm w) (o : Obj) : SR E st S ρ tm (w.alloc o) :=
  h.step (Step.alloc h.fr o) (fun _ _ h => h)
    ⟨fun n x ho => (h.heap.obj n x ho).keep (Ext.alloc h.fr.bnd o) rfl (fun _ _ h => h) (fun b _ _ hb => ⟨Below.heap_alloc w o b (h.heap.lt hb), fun _ h => h⟩), h.heap.dom, h.heap.inj⟩ h.mine (fun _ => rfl) h.old

def upd (ρ : Rho) (n : Nat) (r : RI) : Rho := fun k => if k = n then some r else ρ k

theorem aget_cons {α : Type} (k : Nat) (v : α) (l : List (Nat × α)) (n : Nat) : aget ((k, v) :: l) n = if k = n then some v else aget l n := rfl

/-- A new object in a new block. -/
theorem SR.newG {E : Env} {st : ASt} {S : Stab} {ρ : Rho} {tm : Array Value} {w : World} (h : SR E st S ρ tm w) {n : Nat} (hn : aget st.hp n = none) (hlow : 1000 ≤ n) (o : AObj) (x : Obj) (sz k : Nat)
    (ho : ObjR S (upd ρ n ⟨some (w.heap.size, sz), k⟩) (w.alloc x) n o) :
    SR E { st with hp := (n, o) :: st.hp } S (upd ρ n ⟨some (w.heap.size, sz), k⟩) tm (w.alloc x) := by
  have hρ : ρ n = none := h.heap.dom n hn
  have hr : ∀ id r, ρ id = some r → upd ρ n ⟨some (w.heap.size, sz), k⟩ id = some r := by
    intro id r hid
    have : id ≠ n := fun e => by subst e; rw [hρ] at hid; cases hid
    simp [upd, this, hid]
  have hold : ∀ m x, aget ((n, o) :: st.hp) m = some x → x.moved = false → ∀ r, E.R0 m = some r → upd ρ n ⟨some (w.heap.size, sz), k⟩ m = some r := by
    intro m y hy hmv r hr0
    have hne : m ≠ n := fun e => by have := E.low m r hr0; omega
    rw [aget_cons, if_neg (Ne.symm hne)] at hy
    exact hr _ _ (h.old m y hy hmv r hr0)
  refine h.step (Step.alloc h.fr _) hr ⟨?_, ?_, ?_⟩ ?_ (fun _ => rfl) hold
  · intro m y hx
    rw [aget_cons] at hx
    split at hx
    · rename_i e; cases e; cases hx; exact ho
    · rename_i hne
      refine (h.heap.obj m y hx).keep (Ext.alloc h.fr.bnd _) ?_ hr (fun b _ _ hb => ⟨Below.heap_alloc w _ b (h.heap.lt hb), fun _ h => h⟩)
      simp [upd, Ne.symm hne]
  · intro m hm
    rw [aget_cons] at hm
    split at hm
    · cases hm
    · rename_i hne; simp [upd, Ne.symm hne]; exact h.heap.dom m hm
  · intro m m' b s s' j j' h1 h2
    simp only [upd] at h1 h2
    split at h1 <;> split at h2
    · simp_all
    · rename_i e1 e2; cases h1; exact absurd (h.heap.lt h2) (Nat.lt_irrefl _)
    · rename_i e1 e2; cases h2; exact absurd (h.heap.lt h1) (Nat.lt_irrefl _)
    · exact h.heap.inj m m' b s s' j j' h1 h2
  · intro m b s j h1
    simp only [upd] at h1
    split at h1
    · cases h1; exact .inr h.fr.size
    · exact h.mine m b s j h1

theorem SR.new {E : Env} {st : ASt} {S : Stab} {ρ : Rho} {tm : Array Value} {w : World} (h : SR E st S ρ tm w) {n : Nat} (hn : aget st.hp n = none) (hlow : 1000 ≤ n) (o : AObj) (cells : Array Value) (t : TypeId) (sz k : Nat)
    (ho : ObjR S (upd ρ n ⟨some (w.heap.size, sz), k⟩) (w.alloc (.cells cells t)) n o) :
    SR E { st with hp := (n, o) :: st.hp } S (upd ρ n ⟨some (w.heap.size, sz), k⟩) tm (w.alloc (.cells cells t)) := h.newG hn hlow o _ sz k ho

/-- A row without things, and without a block. -/
theorem SR.new0 {E : Env} {st : ASt} {S : Stab} {ρ : Rho} {tm : Array Value} {w : World} (h : SR E st S ρ tm w) {n : Nat} (hn : aget st.hp n = none) (hlow : 1000 ≤ n) (sz : Nat) (fx mv : Bool) :
    SR E { st with hp := (n, .row sz [] fx mv) :: st.hp } S (upd ρ n ⟨none, 0⟩) tm w := by
  have hρ : ρ n = none := h.heap.dom n hn
  have hr : ∀ id r, ρ id = some r → upd ρ n ⟨none, 0⟩ id = some r := by
    intro id r hid
    have : id ≠ n := fun e => by subst e; rw [hρ] at hid; cases hid
    simp [upd, this, hid]
  have x := Ext.refl S w
  have hold : ∀ m y, aget ((n, .row sz [] fx mv) :: st.hp) m = some y → y.moved = false → ∀ r, E.R0 m = some r → upd ρ n ⟨none, 0⟩ m = some r := by
    intro m y hy hmv r hr0
    have hne : m ≠ n := fun e => by have := E.low m r hr0; omega
    rw [aget_cons, if_neg (Ne.symm hne)] at hy
    exact hr _ _ (h.old m y hy hmv r hr0)
  refine ⟨fun t => (h.slot t).ext x hr, ⟨?_, ?_, ?_⟩, ?_, hold, h.fr⟩
  · intro m o hx
    rw [aget_cons] at hx
    split at hx
    · rename_i e; cases e; cases hx; exact .inl ⟨rfl, by simp [upd]⟩
    · rename_i hne
      refine (h.heap.obj m o hx).keep x ?_ hr (fun b _ _ hb => ⟨rfl, fun _ h => h⟩)
      simp [upd, Ne.symm hne]
  · intro m hm
    rw [aget_cons] at hm
    split at hm
    · cases hm
    · rename_i hne; simp [upd, Ne.symm hne]; exact h.heap.dom m hm
  · intro m m' b s s' j j' h1 h2
    simp only [upd] at h1 h2
    split at h1 <;> split at h2
    · simp_all
    · cases h1
    · cases h2
    · exact h.heap.inj m m' b s s' j j' h1 h2
  · intro m b s j h1
    simp only [upd] at h1
    split at h1
    · cases h1
    · exact h.mine m b s j h1

theorem aget_hmod (f : AObj → AObj) (n : Nat) (hp : Heap) (m : Nat) : aget (hmod f n hp) m = if m = n then (aget hp m).map f else aget hp m := by
  induction hp with
  | nil => simp [hmod, aget]
  | cons p r ih =>
    obtain ⟨k, o⟩ := p
    by_cases hk : k = n
    · subst hk
      by_cases hm : k = m
      · subst hm; simp [hmod, aget]
      · simp [hmod, aget, hm, ih, Ne.symm hm]
    · by_cases hm : k = m
      · subst hm; simp [hmod, aget, hk]
      · simp [hmod, aget, hk, hm, ih]
theorem aget_hput (n : Nat) (o : AObj) (hp : Heap) (m : Nat) : aget (hput n o hp) m = if m = n then (aget hp m).map (fun _ => o) else aget hp m := aget_hmod _ _ _ _

/-- The object n changes in its own block, all else stays. -/
theorem SR.change {E : Env} {st : ASt} {S : Stab} {ρ : Rho} {tm : Array Value} {w w' : World} (h : SR E st S ρ tm w) {n : Nat} {o0 o : AObj} (hn : aget st.hp n = some o0) {b sz k : Nat} (hρ : ρ n = some ⟨some (b, sz), k⟩)
    (x : Ext S w S w') (hw : ∀ b', b' ≠ b → w'.heap[b']? = w.heap[b']?) (hz : w'.heap.size = w.heap.size) (hos : w'.os = w.os ∧ w'.tape = w.tape ∧ w'.output = w.output)
    (ho : ObjR S ρ w' n o) (hmv : o.moved = false → o0.moved = false) (hdb : o0 ≠ .dblk := by simp) : SR E { st with hp := hput n o st.hp } S ρ tm w' := by
  have hs : Step E S w S w' := by
    have hnd : w.heap[b]? ≠ some (.deferred (some [])) := by
      intro e
      have hob := h.heap.obj n o0 hn
      cases o0 with
      | box v => obtain ⟨b', cells, t, fr, h1, h2, _⟩ := hob; rw [hρ] at h1; cases h1; rw [e] at h2; cases h2
      | row sz es fx mv =>
        rcases hob with ⟨_, h1⟩ | ⟨b', cells, t, fr, _, h1, _, h2, _⟩
        · rw [hρ] at h1; cases h1
        · rw [hρ] at h1; cases h1; rw [e] at h2; cases h2
      | loop r l => obtain ⟨b', L, h1, h2, _⟩ := hob; rw [hρ] at h1; cases h1; rw [e] at h2; cases h2
      | dblk => exact hdb rfl
    refine ⟨x, by omega, fun b' hb' hF => hw b' fun e => ?_, fun b' hb' => (hw b' fun e => hnd (e ▸ hb')).trans hb', fun _ _ h => .inl h, fun b' i hi => by rw [hz]; exact h.fr.bnd b' i hi, hos.1, hos.2.1, hos.2.2⟩
    subst e
    rcases h.mine n b' sz k hρ with hh | hh
    · exact hF hh
    · omega
  have hold : ∀ m y, aget (hput n o st.hp) m = some y → y.moved = false → ∀ r, E.R0 m = some r → ρ m = some r := by
    intro m y hy hm r hr0
    rw [aget_hput] at hy
    split at hy
    · rename_i e; subst e; rw [hn] at hy; cases hy; exact h.old m o0 hn (hmv hm) r hr0
    · exact h.old m y hy hm r hr0
  refine h.step hs (fun _ _ h => h) ⟨?_, ?_, h.heap.inj⟩ h.mine (fun _ => rfl) hold
  · intro m p hp
    rw [aget_hput] at hp
    split at hp
    · rename_i e; subst e; rw [hn] at hp; cases hp; exact ho
    · rename_i hne
      refine (h.heap.obj m p hp).keep x rfl (fun _ _ h => h) (fun b' s j hb' => ⟨hw b' fun e => ?_, fun _ h => h⟩)
      subst e; exact hne (h.heap.inj _ _ _ _ _ _ _ hb' hρ)
  · intro m hm
    rw [aget_hput] at hm
    split at hm
    · rename_i e; subst e; rw [hn] at hm; cases hm
    · exact h.heap.dom m hm

end Go.Proofs.Ytonaejfpiihfhaa.Abs
