/- A law's row, out of its equation. -/
import Derived.Test.YtonaejfpiihfhaaSnd
import Derived.Test.YtonaejfpiihfhaaS13
import Derived.Test.YtonaejfpiihfhaaRows
import Derived.WalkKit
import Derived.ProofKit
import Derived.OpenShut
import Derived.ShutString
import Derived.ChangeOld
import Derived.Below
import Derived.Carry
namespace Go.Proofs.Ytonaejfpiihfhaa
open Go Abs Go.ChangeShapes Go.WideShapes Go.ChangeAt Go.RowKit
set_option linter.unusedVariables false

theorem own : ownKnob Try.prog.godebug = none := by kernel_rfl
theorem laidOut : laidOutB Try.prog = true := by kernel_rfl

/-- A law that is told to be true is true of whatever lies in memory. -/
theorem law_run {g : FuncId} {args : List AV} (hg : g < RB) (hE : G.E g = true) (h : cl g args [] = some (.ret (.bool true), [])) (W : World) (vs : Array Value) (hl : args.length = vs.size)
    (hv : ∀ (j : Nat) c v, args[j]? = some c → vs[j]? = some v → PR (allS W) W c v) : Calls Try.prog g vs W fun e W' => e = .returned (.bool true) ∧ Below W.heap.size W W' := by
  have hs := callL_ok GS primOK hg hE h
  refine (hs (allS W) (fun _ => none) W vs (fun n q hq => (by cases hq)) ⟨fun n o ho => (by cases ho), fun n _ => rfl, fun n m b sz sz' k k' hq => (by cases hq)⟩ (fun b o hb => hb) hl (fun j c v hc hv' => .pure (hv j c v hc hv'))).mono fun e W' ⟨S', ρ', hout, hans⟩ => ?_
  cases e with
  | panicked ch => exact hans.elim
  | outgrown => exact hans.elim
  | returned u =>
  have hu : VR S' ρ' W' (.bool true) u := hans
  cases vr_bool hu
  refine ⟨rfl, ?_⟩
  have f := hout.fr
  exact ⟨f.os, f.tape, f.output, f.size, fun k hk => f.keep k hk (fun hF => by obtain ⟨n, sz, k', hq⟩ := hF; cases hq)⟩

theorem nodes_Trod {H : Type} {enc : TypeId × Value → H} {W : World} {a : Option Addr} {len cap : Nat} {d : DataW H} {p : List MemPlace} (h : DataW.Trod enc Try.prog W 0 (fun _ => true) true 22 (.slice a len cap) d p) :
    ∃ l : List Nd, (∀ m ∈ l, m.inR) ∧ PR (allS W) W (nds l) (.slice a len cap) := by
  obtain ⟨n, hn⟩ := h
  obtain ⟨v, l, hv, h1, h2⟩ := nodes_open hn
  have : v = .slice a len cap := by
    have e : (Value.slice a len cap).cells.toList = [.slice a len cap] := rfl
    rw [e] at hv
    exact (List.cons.inj hv).1.symm
  subst this
  exact ⟨l, h1, h2⟩

theorem two_args {S : Stab} {W : World} {a b : AV} {v u : Value} (h1 : PR S W a v) (h2 : PR S W b u) : ∀ (j : Nat) c x, [a, b][j]? = some c → #[v, u][j]? = some x → PR S W c x := by
  intro j c x hc hx
  match j, hc with
  | 0, hc => cases hc; cases hx; exact h1
  | 1, hc => cases hc; cases hx; exact h2
  | j + 2, hc => simp at hc
end Go.Proofs.Ytonaejfpiihfhaa
