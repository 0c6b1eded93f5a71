/- What the interpreter's values, boxes and rows are in the machine's memory. -/
import Derived.Test.YtonaejfpiihfhaaAbs2
namespace Go.Proofs.Ytonaejfpiihfhaa.Abs
open Go Go.RowKit
set_option linter.unusedSimpArgs false
set_option linter.unusedVariables false

abbrev Stab := Nat → Nat → Prop
structure RI where
  loc : Option (Nat × Nat)
  n : Nat
abbrev Rho := Nat → Option RI

def at0 (b o : Nat) : Addr := ⟨b, o, none⟩

def scalarV : Value → Bool
  | .agg _ => false
  | .tuple _ => false
  | _ => true

/-- A value that leads to no name. -/
inductive PR (S : Stab) (w : World) : AV → Value → Prop
  | bool (b : Bool) : PR S w (.bool b) (.bool b)
  | int (k : IntKind) (n : Int) : PR S w (.int k n) (.int k n)
  | str (s : ByteArray) : PR S w (.str s.data.toList) (.string s)
  | nilp : PR S w .nilp (.pointer none)
  | nils : PR S w .nils (.slice none 0 0)
  | nilf : PR S w .nilf .nilFunc
  | nili : PR S w .nili .nilIface
  | empty (sz : Nat) (a : Option Addr) (c : Nat) (hz : sz = 0 → a ≠ none) : PR S w (.list sz []) (.slice a 0 c)
  | list (es : List AV) (b off cap sz : Nat) (f : Nat → Nat → Value) (h0 : 0 < sz) (hc : es.length ≤ cap) (hs : ∀ e ∈ es, e.cells.length = sz)
      (hS : ∀ (i j : Nat) e c, es[i]? = some e → e.cells[j]? = some c → S b (off + i * sz + j))
      (hw : ∀ (i j : Nat) e c, es[i]? = some e → e.cells[j]? = some c → w.cell? (at0 b (off + i * sz + j)) = some (f i j))
      (hq : ∀ (i j : Nat) e c, es[i]? = some e → e.cells[j]? = some c → scalarV (f i j) = true)
      (hp : ∀ (i j : Nat) e c, es[i]? = some e → e.cells[j]? = some c → PR S w c (f i j)) : PR S w (.list sz es) (.slice (some (at0 b off)) es.length cap)
  | ep (v : AV) (b base off : Nat) (f : Nat → Value) (ho : off < v.cells.length)
      (hS : ∀ (j : Nat) c, v.cells[j]? = some c → S b (base + j))
      (hw : ∀ (j : Nat) c, v.cells[j]? = some c → w.cell? (at0 b (base + j)) = some (f j))
      (hp : ∀ (j : Nat) c, v.cells[j]? = some c → PR S w c (f j)) : PR S w (.ep v off) (.pointer (some (at0 b (base + off))))
  | agg (cs : List AV) (vs : Array Value) (hl : cs.length = vs.size) (h : ∀ (j : Nat) c v, cs[j]? = some c → vs[j]? = some v → PR S w c v) : PR S w (.agg cs) (.agg vs)
  | tup (cs : List AV) (vs : Array Value) (hl : cs.length = vs.size) (h : ∀ (j : Nat) c v, cs[j]? = some c → vs[j]? = some v → PR S w c v) : PR S w (.tup cs) (.tuple vs)
  | iface (t : TypeId) (a : AV) (v : Value) (h : PR S w a v) : PR S w (.iface t a) (.iface t v)
  | fn (g : Fn) (x y : List AV) (vx vy : Array Value) (hx : x.length = vx.size) (hy : y.length = vy.size)
      (h1 : ∀ (j : Nat) c v, x[j]? = some c → vx[j]? = some v → PR S w c v) (h2 : ∀ (j : Nat) c v, y[j]? = some c → vy[j]? = some v → PR S w c v) : PR S w (.fn g x y) (.func g vx vy)

/-- The memory goes on: what is stable stays; no block turns its shape. -/
structure Ext (S : Stab) (w : World) (S' : Stab) (w' : World) : Prop where
  stab : ∀ b o, S b o → S' b o
  cell : ∀ b o, S b o → w'.cell? (at0 b o) = w.cell? (at0 b o)
  shape : ∀ (b : Nat) c t fr, w.heap[b]? = some (.cells c t fr) → ∃ c' : Array Value, w'.heap[b]? = some (.cells c' t fr) ∧ c'.size = c.size

theorem Ext.refl (S : Stab) (w : World) : Ext S w S w := ⟨fun _ _ h => h, fun _ _ _ => rfl, fun _ c _ _ h => ⟨c, h, rfl⟩⟩
theorem Ext.trans {S S1 S2 : Stab} {w w1 w2 : World} (h : Ext S w S1 w1) (k : Ext S1 w1 S2 w2) : Ext S w S2 w2 :=
  ⟨fun b o x => k.stab b o (h.stab b o x), fun b o x => (k.cell b o (h.stab b o x)).trans (h.cell b o x),
   fun b c t fr x => let ⟨c1, h1, e1⟩ := h.shape b c t fr x; let ⟨c2, h2, e2⟩ := k.shape b c1 t fr h1; ⟨c2, h2, e2.trans e1⟩⟩
theorem Ext.more {S S' : Stab} (h : ∀ b o, S b o → S' b o) (w : World) : Ext S w S' w := ⟨h, fun _ _ _ => rfl, fun _ c _ _ h => ⟨c, h, rfl⟩⟩

theorem PR.ext {S S' : Stab} {w w' : World} (x : Ext S w S' w') {a : AV} {v : Value} (h : PR S w a v) : PR S' w' a v := by
  induction h with
  | bool b => exact .bool b
  | int k n => exact .int k n
  | str s => exact .str s
  | nilp => exact .nilp
  | nils => exact .nils
  | nilf => exact .nilf
  | nili => exact .nili
  | empty sz a c hz => exact .empty sz a c hz
  | list es b off cap sz f h0 hc hs hS hw hq _ ih =>
    exact .list es b off cap sz f h0 hc hs (fun i j e c h1 h2 => x.stab _ _ (hS i j e c h1 h2))
      (fun i j e c h1 h2 => (x.cell _ _ (hS i j e c h1 h2)).trans (hw i j e c h1 h2)) hq ih
  | ep v b base off f ho hS hw _ ih =>
    exact .ep v b base off f ho (fun j c h => x.stab _ _ (hS j c h)) (fun j c h => (x.cell _ _ (hS j c h)).trans (hw j c h)) ih
  | agg cs vs hl _ ih => exact .agg cs vs hl ih
  | tup cs vs hl _ ih => exact .tup cs vs hl ih
  | iface t a v _ ih => exact .iface t a v ih
  | fn g a b va vb h1 h2 _ _ i1 i2 => exact .fn g a b va vb h1 h2 i1 i2

/-- Any value. -/
inductive VR (S : Stab) (ρ : Rho) (w : World) : AV → Value → Prop
  | pure {a : AV} {v : Value} (h : PR S w a v) : VR S ρ w a v
  | undef (v : Value) : VR S ρ w .undef v
  | own0 (id : Nat) (h : ρ id = some ⟨none, 0⟩) : VR S ρ w (.own id) (.slice none 0 0)
  | own (id b sz n cap : Nat) (h : ρ id = some ⟨some (b, sz), n⟩) (hc : n ≤ cap)
      (hr : ∃ c t fr, w.heap[b]? = some (.cells c t fr) ∧ cap * sz ≤ c.size) : VR S ρ w (.own id) (.slice (some (at0 b 0)) n cap)
  | row0 (id o c : Nat) (a : Option Addr) : VR S ρ w (.row id o 0) (.slice a 0 c)
  | row (id o l b sz n cap : Nat) (h : ρ id = some ⟨some (b, sz), n⟩) (hl : l ≤ cap) : VR S ρ w (.row id o l) (.slice (some (at0 b (o * sz))) l cap)
  | ptr (id i o b sz n : Nat) (h : ρ id = some ⟨some (b, sz), n⟩) : VR S ρ w (.ptr id i o) (.pointer (some (at0 b (i * sz + o))))
  | yld (id b sz n : Nat) (h : ρ id = some ⟨some (b, sz), n⟩) : VR S ρ w (.yld id) (.func (.yield b) #[] #[])
  | agg (cs : List AV) (vs : Array Value) (hl : cs.length = vs.size) (h : ∀ (j : Nat) c v, cs[j]? = some c → vs[j]? = some v → VR S ρ w c v) : VR S ρ w (.agg cs) (.agg vs)
  | tup (cs : List AV) (vs : Array Value) (hl : cs.length = vs.size) (h : ∀ (j : Nat) c v, cs[j]? = some c → vs[j]? = some v → VR S ρ w c v) : VR S ρ w (.tup cs) (.tuple vs)
  | iface (t : TypeId) (a : AV) (v : Value) (h : VR S ρ w a v) : VR S ρ w (.iface t a) (.iface t v)
  | fn (g : Fn) (x y : List AV) (vx vy : Array Value) (hx : x.length = vx.size) (hy : y.length = vy.size)
      (h1 : ∀ (j : Nat) c v, x[j]? = some c → vx[j]? = some v → VR S ρ w c v) (h2 : ∀ (j : Nat) c v, y[j]? = some c → vy[j]? = some v → VR S ρ w c v) : VR S ρ w (.fn g x y) (.func g vx vy)

theorem VR.ext {S S' : Stab} {ρ ρ' : Rho} {w w' : World} (x : Ext S w S' w') (hr : ∀ id r, ρ id = some r → ρ' id = some r) {a : AV} {v : Value} (h : VR S ρ w a v) : VR S' ρ' w' a v := by
  induction h with
  | pure h => exact .pure (h.ext x)
  | undef v => exact .undef v
  | own0 id h => exact .own0 id (hr _ _ h)
  | own id b sz n cap h hc hb =>
    obtain ⟨c, t, fr, h1, h2⟩ := hb
    obtain ⟨c', h3, h4⟩ := x.shape b c t fr h1
    exact .own id b sz n cap (hr _ _ h) hc ⟨c', t, fr, h3, h4 ▸ h2⟩
  | row0 id o c a => exact .row0 id o c a
  | row id o l b sz n cap h hl => exact .row id o l b sz n cap (hr _ _ h) hl
  | ptr id i o b sz n h => exact .ptr id i o b sz n (hr _ _ h)
  | yld id b sz n h => exact .yld id b sz n (hr _ _ h)
  | agg cs vs hl _ ih => exact .agg cs vs hl ih
  | tup cs vs hl _ ih => exact .tup cs vs hl ih
  | iface t a v _ ih => exact .iface t a v ih
  | fn g a b va vb h1 h2 _ _ i1 i2 => exact .fn g a b va vb h1 h2 i1 i2

theorem killL_get (n : Nat) (l : List AV) (j : Nat) : (AV.killL n l)[j]? = (l[j]?).map (AV.kill n) := by
  induction l generalizing j with
  | nil => simp [AV.killL]
  | cons a l ih => cases j with
    | zero => simp [AV.killL]
    | succ j => simp [AV.killL, ih]
theorem killL_length (n : Nat) (l : List AV) : (AV.killL n l).length = l.length := by
  induction l with
  | nil => rfl
  | cons a l ih => simp [AV.killL, ih]

/-- A value without names is struck nothing of. -/
theorem PR.kill {S : Stab} {w : World} (n : Nat) {a : AV} {v : Value} (h : PR S w a v) : PR S w (a.kill n) v := by
  induction h with
  | agg cs vs hl _ ih =>
    refine .agg _ vs ((killL_length n cs).trans hl) fun j c v hc hv => ?_
    rw [killL_get] at hc
    obtain ⟨d, hd, rfl⟩ := Option.map_eq_some_iff.1 hc
    exact ih j d v hd hv
  | tup cs vs hl _ ih =>
    refine .tup _ vs ((killL_length n cs).trans hl) fun j c v hc hv => ?_
    rw [killL_get] at hc
    obtain ⟨d, hd, rfl⟩ := Option.map_eq_some_iff.1 hc
    exact ih j d v hd hv
  | iface t a v _ ih => exact .iface t _ v ih
  | fn g a b va vb h1 h2 _ _ i1 i2 =>
    refine .fn g _ _ va vb ((killL_length n a).trans h1) ((killL_length n b).trans h2) (fun j c v hc hv => ?_) (fun j c v hc hv => ?_)
    · rw [killL_get] at hc
      obtain ⟨d, hd, rfl⟩ := Option.map_eq_some_iff.1 hc
      exact i1 j d v hd hv
    · rw [killL_get] at hc
      obtain ⟨d, hd, rfl⟩ := Option.map_eq_some_iff.1 hc
      exact i2 j d v hd hv
  | bool b => exact .bool b
  | int k n => exact .int k n
  | str s => exact .str s
  | nilp => exact .nilp
  | nils => exact .nils
  | nilf => exact .nilf
  | nili => exact .nili
  | empty sz a c hz => exact .empty sz a c hz
  | list es b off cap sz f h0 hc hs hS hw hq hp _ => exact .list es b off cap sz f h0 hc hs hS hw hq hp
  | ep v b base off f ho hS hw hp _ => exact .ep v b base off f ho hS hw hp

/-- Struck of a name, a value doesn't hang on what that name is. -/
theorem VR.kill {S : Stab} {ρ ρ' : Rho} {w : World} (n : Nat) (hr : ∀ id r, id ≠ n → ρ id = some r → ρ' id = some r) {a : AV} {v : Value} (h : VR S ρ w a v) : VR S ρ' w (a.kill n) v := by
  induction h with
  | pure h => exact .pure (h.kill n)
  | undef v => exact .undef v
  | own0 id h =>
    by_cases e : id = n
    · simp only [AV.kill, if_pos e]; exact .undef _
    · simp only [AV.kill, if_neg e]; exact .own0 id (hr _ _ e h)
  | own id b sz n' cap h hc hb =>
    by_cases e : id = n
    · simp only [AV.kill, if_pos e]; exact .undef _
    · simp only [AV.kill, if_neg e]; exact .own id b sz n' cap (hr _ _ e h) hc hb
  | row0 id o c a =>
    by_cases e : id = n
    · simp only [AV.kill, if_pos e]; exact .undef _
    · simp only [AV.kill, if_neg e]; exact .row0 id o c a
  | row id o l b sz n' cap h hl =>
    by_cases e : id = n
    · simp only [AV.kill, if_pos e]; exact .undef _
    · simp only [AV.kill, if_neg e]; exact .row id o l b sz n' cap (hr _ _ e h) hl
  | ptr id i o b sz n' h =>
    by_cases e : id = n
    · simp only [AV.kill, if_pos e]; exact .undef _
    · simp only [AV.kill, if_neg e]; exact .ptr id i o b sz n' (hr _ _ e h)
  | yld id b sz n' h =>
    by_cases e : id = n
    · simp only [AV.kill, if_pos e]; exact .undef _
    · simp only [AV.kill, if_neg e]; exact .yld id b sz n' (hr _ _ e h)
  | agg cs vs hl _ ih =>
    refine .agg _ vs ((killL_length n cs).trans hl) fun j c v hc hv => ?_
    rw [killL_get] at hc
    obtain ⟨d, hd, rfl⟩ := Option.map_eq_some_iff.1 hc
    exact ih j d v hd hv
  | tup cs vs hl _ ih =>
    refine .tup _ vs ((killL_length n cs).trans hl) fun j c v hc hv => ?_
    rw [killL_get] at hc
    obtain ⟨d, hd, rfl⟩ := Option.map_eq_some_iff.1 hc
    exact ih j d v hd hv
  | iface t a v _ ih => exact .iface t _ v ih
  | fn g a b va vb h1 h2 _ _ i1 i2 =>
    refine .fn g _ _ va vb ((killL_length n a).trans h1) ((killL_length n b).trans h2) (fun j c v hc hv => ?_) (fun j c v hc hv => ?_)
    · rw [killL_get] at hc
      obtain ⟨d, hd, rfl⟩ := Option.map_eq_some_iff.1 hc
      exact i1 j d v hd hv
    · rw [killL_get] at hc
      obtain ⟨d, hd, rfl⟩ := Option.map_eq_some_iff.1 hc
      exact i2 j d v hd hv

/-- What a value's cells are. -/
theorem kill_cells (n : Nat) (a : AV) : (a.kill n).cells = AV.killL n a.cells := by
  cases a with
  | own id => by_cases e : id = n <;> simp [AV.kill, AV.cells, AV.killL, e]
  | row id o l => by_cases e : id = n <;> simp [AV.kill, AV.cells, AV.killL, e]
  | ptr id i o => by_cases e : id = n <;> simp [AV.kill, AV.cells, AV.killL, e]
  | yld id => by_cases e : id = n <;> simp [AV.kill, AV.cells, AV.killL, e]
  | _ => simp [AV.kill, AV.cells, AV.killL]

theorem PR.cells {S : Stab} {w : World} {a : AV} {v : Value} (h : PR S w a v) :
    a.cells.length = v.cells.size ∧ ∀ (j : Nat) c u, a.cells[j]? = some c → v.cells[j]? = some u → PR S w c u := by
  cases h with
  | agg cs vs hl h => exact ⟨hl, h⟩
  | _ =>
    refine ⟨rfl, fun j c u hc hu => ?_⟩
    cases j with
    | zero => simp [AV.cells, Value.cells] at hc hu; subst hc hu; constructor <;> assumption
    | succ j => simp [AV.cells] at hc

end Go.Proofs.Ytonaejfpiihfhaa.Abs
