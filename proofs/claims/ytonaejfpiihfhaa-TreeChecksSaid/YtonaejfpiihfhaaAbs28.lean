/- What a seat's tables are asked, told by one look; what the library's outer functions come to. -/
import Derived.Test.YtonaejfpiihfhaaAbs27
import Derived.KernelRfl
import Derived.Lib.Bytealg
import Derived.Laws.Externs
namespace Go.Proofs.Ytonaejfpiihfhaa.Abs
open Go Go.RowKit
set_option linter.unusedSimpArgs false
set_option linter.unusedVariables false

def fnOK (G : Cfg) (g : FuncId) : Bool :=
  match G.P.funcs[g]? with
  | some fn => !(fn.name == "runtime.NumGoroutine") && (match fn.body with | some c => dstsB fn.ntmps c && plansB G g c && decide (G.ntm g ≤ fn.ntmps) | none => false)
  | none => false
def rOK (G : Cfg) (r : LRec) : Bool :=
  dstsB r.nt r.assign && plansB G r.g r.assign && noRange r.assign && (r.ps.toList.all fun t => decide (t < r.nt)) && dstsB r.nt r.body && plansB G r.g r.body && noRange r.body

def ExtOK (G : Cfg) : Prop := ∀ g p, G.ext g = some p → ∀ args v, p args = some v → ∀ (S : Stab) (ρ : Rho) (w : World) (vs : Array Value), args.length = vs.size → (∀ (j : Nat) c u, args[j]? = some c → vs[j]? = some u → VR S ρ w c u) →
    ∃ u, (callFunc g vs).run G.P w = .ok (.value u) w ∧ VR S ρ w v u

theorem gsound {G : Cfg} (n : Nat) (hE : ∀ g, G.E g = true → g < n) (hall : ((List.range n).all fun g => !G.E g || fnOK G g) = true) (hm : G.P.follows .mixedOrders = true) (hr : ∀ r, G.roundOK r = true → rOK G r = true) (hx : ExtOK G) : GSound G := by
  have key : ∀ g, G.E g = true → fnOK G g = true := by
    intro g hg
    have := List.all_eq_true.1 hall g (List.mem_range.2 (hE g hg))
    simpa [hg] using this
  have parts : ∀ g, G.E g = true → ∃ fn c, G.P.funcs[g]? = some fn ∧ fn.body = some c ∧ (fn.name == "runtime.NumGoroutine") = false ∧ dstsB fn.ntmps c = true ∧ plansB G g c = true ∧ G.ntm g ≤ fn.ntmps := by
    intro g hg
    have := key g hg
    unfold fnOK at this
    split at this
    · rename_i fn hfn
      simp only [Bool.and_eq_true] at this
      obtain ⟨h1, h2⟩ := this
      split at h2
      · rename_i c hc
        simp only [Bool.and_eq_true, decide_eq_true_eq] at h2
        exact ⟨fn, c, hfn, hc, by simpa using h1, h2.1.1, h2.1.2, h2.2⟩
      · cases h2
    · cases this
  refine ⟨⟨fun g hg args w => ?_, hx, fun g fn c hg hf hb => ?_⟩, hm, fun g fn c hg hf hb => ?_, fun g fn hg hf => ?_, fun r h => ?_⟩
  · obtain ⟨fn, c, h1, h2, h3, _⟩ := parts g hg
    have h3' : fn.name ≠ "runtime.NumGoroutine" := by simpa using h3
    simp [callFunc, h1, h2, h3']
  · obtain ⟨fn', c', h1, h2, _, h4, _⟩ := parts g hg
    rw [hf] at h1; cases h1; rw [hb] at h2; cases h2; exact h4
  · obtain ⟨fn', c', h1, h2, _, _, h5, _⟩ := parts g hg
    rw [hf] at h1; cases h1; rw [hb] at h2; cases h2; exact h5
  · obtain ⟨fn', c', h1, h2, _, _, _, h6⟩ := parts g hg
    rw [hf] at h1; cases h1; exact h6
  · have := hr r h
    unfold rOK at this
    simp only [Bool.and_eq_true] at this
    obtain ⟨⟨⟨⟨⟨⟨a, b⟩, c⟩, d⟩, e⟩, f⟩, g⟩ := this
    exact ⟨⟨a, b, c⟩, d, e, f, g⟩

/-! ### Outer functions -/
def cmpStr : List AV → Option AV
  | [.str a, .str b] => some (.int .i64 (Lib.compareBytes a b))
  | _ => none

theorem cmpStr_ok {P : Program} {g : FuncId} {fn : Func} (hf : P.funcs[g]? = some fn) (hn : (fn.name == "runtime.NumGoroutine") = false) (hb : fn.body = none) (h1 : Extern.findNext fn = none) (h2 : Extern.find fn = some Extern.BytealgCompare.compare)
    {args : List AV} {v : AV} (h : cmpStr args = some v) {S : Stab} {ρ : Rho} {w : World} {vs : Array Value} (hl : args.length = vs.size) (hv : ∀ (j : Nat) c u, args[j]? = some c → vs[j]? = some u → VR S ρ w c u) :
    ∃ u, (callFunc g vs).run P w = .ok (.value u) w ∧ VR S ρ w v u := by
  unfold cmpStr at h
  split at h
  case h_2 => cases h
  rename_i a b
  cases h
  obtain ⟨x, y, rfl⟩ : ∃ x y, vs = #[x, y] := by
    obtain ⟨l⟩ := vs
    match l, hl with
    | [x, y], _ => exact ⟨x, y, rfl⟩
  obtain ⟨s, rfl, rfl⟩ := vr_str (hv 0 _ x rfl rfl)
  obtain ⟨t, rfl, rfl⟩ := vr_str (hv 1 _ y rfl rfl)
  refine ⟨_, ?_, .pure (.int _ _)⟩
  rw [run_callFunc_extern hf hn (by rw [hb]; rfl) h1 h2, Lib.run_compareString]
  rfl

/-- slices.Clone, told by hand. -/
def clonePrim : CallFn := fun _ args hp =>
  match args with
  | [.list sz es] => some (.ret (.list sz es), hp)
  | [.nils] => some (.ret .nils, hp)
  | _ => none

/-- What was gone through at a text's own values, told by hand. -/
def worksP : CallFn := fun _ args hp =>
  match args, hp with
  | [], [] => some (.ret (.bool true), [])
  | _, _ => none
def primN : FuncId → Option CallFn := fun _ => none

/-- A call whose end is told by hand, since it was gone through. -/
theorem CallSound.of_run {G : Cfg} (GE : GSound G) {prim : FuncId → Option CallFn} (hp : PrimSound G prim) {k : Nat} {g : FuncId} {args : List AV} {hp0 : Heap} {r : ARes × Heap} (hg : g < RB) (hE : G.E g = true) (h : (both G prim k).1 g args hp0 = some r) : CallSound G.P g args hp0 r :=
  (sound GE hp k).1.fn g args hp0 r hg hE h

end Go.Proofs.Ytonaejfpiihfhaa.Abs
