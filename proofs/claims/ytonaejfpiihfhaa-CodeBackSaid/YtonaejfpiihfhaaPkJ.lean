/- The arguments, as they lie in memory. A law's row, out of its equation. The arguments, as they lie in memory: rows of whatever is known. -/
import Derived.Test.YtonaejfpiihfhaaPkE
import Derived.Lib.SmallJoins
import Derived.Deep.Slices
import Derived.ChangeArms
import Derived.DataReads
import Derived.Test.YtonaejfpiihfhaaRows
import Derived.WalkKit
import Derived.ProofKit
import Derived.OpenShut
import Derived.ShutString
import Derived.ChangeOld
import Derived.Below
import Derived.Carry
import Derived.Test.YtonaejfpiihfhaaPkH

/- The arguments, as they lie in memory. -/
namespace Go.Proofs.Ytonaejfpiihfhaa
open Go Abs Go.RowKit
set_option linter.unusedSimpArgs false
set_option linter.unusedVariables false

section
variable {H : Type} {enc : TypeId × Value → H} {W : World}

theorem Nd.inR_of {k : Int} (h : (Lit.int .i64 k).wf = true) : -9223372036854775808 ≤ k ∧ k ≤ 9223372036854775807 := by
  simp only [Lit.wf, Bool.and_eq_true, decide_eq_true_eq] at h
  exact h

theorem list4 {α : Type} {cs : List α} (h : cs.length = 4) : ∃ a b c d, cs = [a, b, c, d] := by
  match cs, h with
  | [a, b, c, d], _ => exact ⟨a, b, c, d, rfl⟩

theorem node_open {n : Nat} {cs : List Value} {x : DataW H × List MemPlace} (h : DataW.trod enc Try.prog W 0 (fun _ => true) true n 46 cs = some x) :
    ∃ (m : Nd) (s : ByteArray), cs = [.int .i64 m.kind, .int .i64 m.num, .string s, .int .i64 m.kids] ∧ m.text = s.data.toList ∧ m.inR := by
  obtain ⟨y0, y1, y2, y3, n', _, hl, h0, h1, h2, h3⟩ := Joins.trod_struct4 Try.underlying46 h
  rw [show Try.prog.cellsOf 46 = 4 from by kernel_rfl] at hl
  obtain ⟨a, b, c, d, rfl⟩ := list4 hl
  obtain ⟨k0, e0, _, w0⟩ := DataW.trod_int Try.underlying44 h0
  obtain ⟨k1, e1, _, w1⟩ := DataW.trod_int Try.underlying2 h1
  obtain ⟨s, e2, _, _⟩ := DataW.trod_string Try.underlying9 h2
  obtain ⟨k3, e3, _, w3⟩ := DataW.trod_int Try.underlying3 h3
  simp at e0 e1 e2 e3
  subst e0 e1 e2 e3
  exact ⟨⟨k0, k1, s.data.toList, k3⟩, s, rfl, rfl, (Nd.inR_of w1).1, (Nd.inR_of w1).2, (Nd.inR_of w3).1, (Nd.inR_of w3).2⟩

/-- What the memory at the call's beginning holds stays. -/
def allS (W : World) : Stab := fun b _ => b < W.heap.size

theorem spot_none {w : World} {a : Addr} {v : Value} (h : w.cell? a = some v) : a.spot = none ∧ a.block < w.heap.size := by
  unfold World.cell? at h
  split at h
  · rename_i c t fr hb
    split at h
    · cases h
    · rename_i hs
      refine ⟨by cases hsp : a.spot <;> simp_all, (Array.getElem?_eq_some_iff.1 hb).1⟩
  · cases h

theorem nodes_open {n : Nat} {cs : List Value} {x : DataW H × List MemPlace} (h : DataW.trod enc Try.prog W 0 (fun _ => true) true n 22 cs = some x) :
    ∃ (v : Value) (l : List Nd), cs = [v] ∧ (∀ m ∈ l, m.inR) ∧ PR (allS W) W (nds l) v := by
  rcases Deep.open_slice Try.underlying22 h with ⟨rfl, _⟩ | ⟨a, len, cap, m, n', D, Pl, rfl, _, hlc, hcm, hm, _, hel⟩
  · exact ⟨_, [], rfl, fun m hm => by simp at hm, .empty 4 none 0 (fun e => by omega)⟩
  · simp only [if_true] at hm
    subst hm
    have hc46 : Try.prog.cellsOf 46 = 4 := by kernel_rfl
    have each : ∀ i, i < len → ∃ q : Nd × ByteArray, q.1.text = q.2.data.toList ∧ q.1.inR ∧ ∀ j c, [Value.int .i64 q.1.kind, .int .i64 q.1.num, .string q.2, .int .i64 q.1.kids][j]? = some c → W.cell? ((a.add (i * 4)).add j) = some c := by
      intro i hi
      obtain ⟨cs', h1, h2⟩ := hel i (by omega)
      rw [hc46] at h1
      obtain ⟨q, s, rfl, h3, h4⟩ := node_open h2
      obtain ⟨_, _, h5⟩ := World.cells?_some h1
      refine ⟨(q, s), h3, h4, fun j c hj => ?_⟩
      have hj4 : j < 4 := by have := (List.getElem?_eq_some_iff.1 hj).1; simpa using this
      rw [h5 j hj4]; exact hj
    by_cases hlen : len = 0
    · subst hlen
      exact ⟨_, [], rfl, fun m hm => by simp at hm, .empty 4 (some a) _ (fun e => by omega)⟩
    · have hsp : a.spot = none ∧ a.block < W.heap.size := by
        obtain ⟨q, _, _, h3⟩ := each 0 (by omega)
        have := h3 0 _ rfl
        simp only [Nat.zero_mul, Addr.add, if_true] at this
        exact spot_none this
      obtain ⟨b, off, sp⟩ := a
      simp only at hsp
      obtain ⟨rfl, hb⟩ := hsp
      let N : Nat → Nd × ByteArray := fun i => if hi : i < len then (each i hi).choose else (⟨0, 0, [], 0⟩, ByteArray.empty)
      have hN : ∀ i, (hi : i < len) → (N i).1.text = (N i).2.data.toList ∧ (N i).1.inR ∧ ∀ j c, [Value.int .i64 (N i).1.kind, .int .i64 (N i).1.num, .string (N i).2, .int .i64 (N i).1.kids][j]? = some c → W.cell? (((⟨b, off, none⟩ : Addr).add (i * 4)).add j) = some c := by
        intro i hi
        simp only [N, dif_pos hi]
        exact (each i hi).choose_spec
      refine ⟨_, (List.range len).map fun i => (N i).1, rfl, fun m hm => ?_, ?_⟩
      · obtain ⟨i, hi, rfl⟩ := List.mem_map.1 hm
        exact (hN i (List.mem_range.1 hi)).2.1
      · have hget : ∀ (i : Nat) e, (((List.range len).map fun i => (N i).1).map Nd.v)[i]? = some e → i < len ∧ e = (N i).1.v := by
          intro i e he
          simp only [List.getElem?_map] at he
          obtain ⟨q, hq, rfl⟩ := Option.map_eq_some_iff.1 he
          obtain ⟨r, hr, rfl⟩ := Option.map_eq_some_iff.1 hq
          obtain ⟨hi, rfl⟩ := List.getElem?_eq_some_iff.1 hr
          simp only [List.length_range] at hi
          simp [hi]
        have hcell : ∀ (i j : Nat) e c, (((List.range len).map fun i => (N i).1).map Nd.v)[i]? = some e → e.cells[j]? = some c →
            ∃ u, [Value.int .i64 (N i).1.kind, .int .i64 (N i).1.num, .string (N i).2, .int .i64 (N i).1.kids][j]? = some u ∧ PR (allS W) W c u ∧ scalarV u = true := by
          intro i j e c he hj
          obtain ⟨hi, rfl⟩ := hget i e he
          obtain ⟨t1, _, _⟩ := hN i hi
          simp only [Nd.v, AV.cells] at hj
          match j, hj with
          | 0, hj => cases hj; exact ⟨_, rfl, .int _ _, rfl⟩
          | 1, hj => cases hj; exact ⟨_, rfl, .int _ _, rfl⟩
          | 2, hj => cases hj; exact ⟨_, rfl, t1 ▸ .str _, rfl⟩
          | 3, hj => cases hj; exact ⟨_, rfl, .int _ _, rfl⟩
          | j + 4, hj => simp at hj
        have := PR.list (S := allS W) (w := W) (((List.range len).map fun i => (N i).1).map Nd.v) b off m 4
          (fun i j => ([Value.int .i64 (N i).1.kind, .int .i64 (N i).1.num, .string (N i).2, .int .i64 (N i).1.kids][j]?).getD default) (by omega) (by simpa using hlc)
          (fun e he => by obtain ⟨q, _, rfl⟩ := List.mem_map.1 he; rfl) (fun i j e c he hj => hb)
          (fun i j e c he hj => by
            obtain ⟨hi, _⟩ := hget i e he
            obtain ⟨u, hu, _, _⟩ := hcell i j e c he hj
            rw [hu]
            have := (hN i hi).2.2 j u hu
            rwa [Deep.add_add, show (⟨b, off, none⟩ : Addr) = at0 b off from rfl, at0_add, ← Nat.add_assoc] at this)
          (fun i j e c he hj => by obtain ⟨u, hu, _, hs⟩ := hcell i j e c he hj; rw [hu]; exact hs)
          (fun i j e c he hj => by obtain ⟨u, hu, hp, _⟩ := hcell i j e c he hj; rw [hu]; exact hp)
        simp only [List.length_map, List.length_range] at this
        exact this
end
end Go.Proofs.Ytonaejfpiihfhaa

/- A law's row, out of its equation. -/
namespace Go.Proofs.Ytonaejfpiihfhaa
open Go Abs Go.ChangeShapes Go.WideShapes Go.ChangeAt Go.RowKit
set_option linter.unusedVariables false

theorem own : ownKnob Try.prog.godebug = none := by kernel_rfl
theorem laidOut : laidOutB Try.prog = true := by kernel_rfl

/-- A law that is told to be true is true of whatever lies in memory. -/
theorem law_run {g : FuncId} {args : List AV} (hg : g < RB) (hE : G.E g = true) (h : cl g args [] = some (.ret (.bool true), [])) (W : World) (vs : Array Value) (hl : args.length = vs.size)
    (hv : ∀ (j : Nat) c v, args[j]? = some c → vs[j]? = some v → PR (allS W) W c v) (hgl : GlobOK (allS W) W := by (intro g v h; cases h)) : Calls Try.prog g vs W fun e W' => e = .returned (.bool true) ∧ Below W.heap.size W W' := by
  have hs := callL_ok GS primOK hg hE h
  refine (CallsIn.calls (hs (allS W) (fun _ => none) W vs ⟨fun n q hq => (by cases hq), hgl⟩ ⟨fun n o ho => (by cases ho), fun n _ => rfl, fun n m b sz sz' k k' hq => (by cases hq)⟩ (fun b o hb => hb) hl (fun j c v hc hv' =>   .pure (hv j c v hc hv'))) (fun k d hd => by cases hd)).mono fun e W' ⟨S', ρ', hout, hans⟩ => ?_
  cases e with
  | panicked ch => exact hans.elim
  | outgrown => exact hans.elim
  | returned u =>
  have hu : VR S' ρ' W' (.bool true) u := hans
  cases vr_bool hu
  refine ⟨rfl, ?_⟩
  have f := hout.fr
  exact ⟨f.os, f.tape, f.output, f.size, fun k hk => f.keep k hk (fun hF => by obtain ⟨n, sz, k', hq⟩ := hF; cases hq)⟩

theorem nodes_Trod {H : Type} {enc : TypeId × Value → H} {W : World} {a : Option Addr} {len cap : Nat} {d : DataW H} {p : List MemPlace} (h : DataW.Trod enc Try.prog W 0 (fun _ => true) true 22 (.slice a len cap) d p) :
    ∃ l : List Nd, (∀ m ∈ l, m.inR) ∧ PR (allS W) W (nds l) (.slice a len cap) := by
  obtain ⟨n, hn⟩ := h
  obtain ⟨v, l, hv, h1, h2⟩ := nodes_open hn
  have : v = .slice a len cap := by
    have e : (Value.slice a len cap).cells.toList = [.slice a len cap] := rfl
    rw [e] at hv
    exact (List.cons.inj hv).1.symm
  subst this
  exact ⟨l, h1, h2⟩

theorem two_args {S : Stab} {W : World} {a b : AV} {v u : Value} (h1 : PR S W a v) (h2 : PR S W b u) : ∀ (j : Nat) c x, [a, b][j]? = some c → #[v, u][j]? = some x → PR S W c x := by
  intro j c x hc hx
  match j, hc with
  | 0, hc => cases hc; cases hx; exact h1
  | 1, hc => cases hc; cases hx; exact h2
  | j + 2, hc => simp at hc
section
variable {S : Stab} {W : World} {a b c d : AV} {v u x y : Value}
theorem args1 (h1 : PR S W a v) : ∀ (j : Nat) c x, [a][j]? = some c → #[v][j]? = some x → PR S W c x := by
  intro j c x hc hx
  match j, hc with
  | 0, hc => cases hc; cases hx; exact h1
  | j + 1, hc => simp at hc
theorem args2 (h1 : PR S W a v) (h2 : PR S W b u) : ∀ (j : Nat) c x, [a, b][j]? = some c → #[v, u][j]? = some x → PR S W c x := two_args h1 h2
theorem args3 (h1 : PR S W a v) (h2 : PR S W b u) (h3 : PR S W c x) : ∀ (j : Nat) e z, [a, b, c][j]? = some e → #[v, u, x][j]? = some z → PR S W e z := by
  intro j e z hc hx
  match j, hc with
  | 0, hc => cases hc; cases hx; exact h1
  | 1, hc => cases hc; cases hx; exact h2
  | 2, hc => cases hc; cases hx; exact h3
  | j + 3, hc => simp at hc
end
end Go.Proofs.Ytonaejfpiihfhaa

/- The arguments, as they lie in memory: rows of whatever is known. -/
namespace Go.Proofs.Ytonaejfpiihfhaa
open Go Abs Go.RowKit
set_option linter.unusedSimpArgs false
set_option linter.unusedVariables false
section
variable {H : Type} {enc : TypeId × Value → H} {W : World}
/-- A row, whose elements are known when they are opened. -/
theorem slice_open {T E : TypeId} {sz : Nat} (hT : Try.prog.underlying T = some (.slice E)) (hc : Try.prog.cellsOf E = sz) (hz : 0 < sz) {α : Type} [Inhabited α] (V : α → AV) (good : α → Prop) (hcells : ∀ x, (V x).cells.length = sz)
    (elem : ∀ {n : Nat} {cs : List Value} {x : DataW H × List MemPlace}, DataW.trod enc Try.prog W 0 (fun _ => true) true n E cs = some x → ∃ a, good a ∧ cs.length = sz ∧ ∀ (j : Nat) c, (V a).cells[j]? = some c → ∃ u, cs[j]? = some u ∧ PR (allS W) W c u ∧ scalarV u = true)
    {n : Nat} {cs : List Value} {x : DataW H × List MemPlace} (h : DataW.trod enc Try.prog W 0 (fun _ => true) true n T cs = some x) :
    ∃ (v : Value) (l : List α), cs = [v] ∧ (∀ a ∈ l, good a) ∧ PR (allS W) W (.list sz (l.map V)) v := by
  rcases Deep.open_slice hT h with ⟨rfl, _⟩ | ⟨a, len, cap, m, n', D, Pl, rfl, _, hlc, hcm, hm, _, hel⟩
  · exact ⟨_, [], rfl, fun m hm => by simp at hm, .empty sz none 0 (fun e => by omega)⟩
  · simp only [if_true] at hm
    subst hm
    have each : ∀ i, i < len → ∃ q : α × List Value, good q.1 ∧ ∀ (j : Nat) c, (V q.1).cells[j]? = some c → ∃ u, q.2[j]? = some u ∧ W.cell? ((a.add (i * sz)).add j) = some u ∧ PR (allS W) W c u ∧ scalarV u = true := by
      intro i hi
      obtain ⟨cs', h1, h2⟩ := hel i (by omega)
      rw [hc] at h1
      obtain ⟨q, hg, hl, h3⟩ := elem h2
      obtain ⟨_, _, h5⟩ := World.cells?_some h1
      refine ⟨(q, cs'), hg, fun j c hj => ?_⟩
      have hjl : j < sz := by rw [← hcells q]; exact (List.getElem?_eq_some_iff.1 hj).1
      obtain ⟨u, hu, hp, hs⟩ := h3 j c hj
      exact ⟨u, hu, by rw [h5 j hjl]; exact hu, hp, hs⟩
    by_cases hlen : len = 0
    · subst hlen
      exact ⟨_, [], rfl, fun m hm => by simp at hm, .empty sz (some a) _ (fun e => by omega)⟩
    · have hsp : a.spot = none ∧ a.block < W.heap.size := by
        obtain ⟨q, _, h3⟩ := each 0 (by omega)
        have hne : 0 < (V q.1).cells.length := by rw [hcells]; exact hz
        obtain ⟨u, _, this, _⟩ := h3 0 _ (List.getElem?_eq_getElem hne)
        simp only [Nat.zero_mul, Addr.add, if_true] at this
        exact spot_none this
      obtain ⟨b, off, sp⟩ := a
      simp only at hsp
      obtain ⟨rfl, hb⟩ := hsp
      let N : Nat → α × List Value := fun i => if hi : i < len then (each i hi).choose else default
      have hN : ∀ i, (hi : i < len) → good (N i).1 ∧ ∀ (j : Nat) c, (V (N i).1).cells[j]? = some c → ∃ u, (N i).2[j]? = some u ∧ W.cell? (((⟨b, off, none⟩ : Addr).add (i * sz)).add j) = some u ∧ PR (allS W) W c u ∧ scalarV u = true := by
        intro i hi
        simp only [N, dif_pos hi]
        exact (each i hi).choose_spec
      refine ⟨_, (List.range len).map fun i => (N i).1, rfl, fun m hm => ?_, ?_⟩
      · obtain ⟨i, hi, rfl⟩ := List.mem_map.1 hm
        exact (hN i (List.mem_range.1 hi)).1
      · have hget : ∀ (i : Nat) e, (((List.range len).map fun i => (N i).1).map V)[i]? = some e → i < len ∧ e = V (N i).1 := by
          intro i e he
          simp only [List.getElem?_map] at he
          obtain ⟨q, hq, rfl⟩ := Option.map_eq_some_iff.1 he
          obtain ⟨r, hr, rfl⟩ := Option.map_eq_some_iff.1 hq
          obtain ⟨hi, rfl⟩ := List.getElem?_eq_some_iff.1 hr
          simp only [List.length_range] at hi
          simp [hi]
        have hcell : ∀ (i j : Nat) e c, (((List.range len).map fun i => (N i).1).map V)[i]? = some e → e.cells[j]? = some c →
            ∃ u, (N i).2[j]? = some u ∧ W.cell? (((⟨b, off, none⟩ : Addr).add (i * sz)).add j) = some u ∧ PR (allS W) W c u ∧ scalarV u = true := by
          intro i j e c he hj
          obtain ⟨hi, rfl⟩ := hget i e he
          exact (hN i hi).2 j c hj
        have := PR.list (S := allS W) (w := W) (((List.range len).map fun i => (N i).1).map V) b off m sz
          (fun i j => ((N i).2[j]?).getD default) hz (by simpa using hlc)
          (fun e he => by obtain ⟨q, _, rfl⟩ := List.mem_map.1 he; exact hcells _) (fun i j e c he hj => hb)
          (fun i j e c he hj => by
            obtain ⟨u, hu, hw, _, _⟩ := hcell i j e c he hj
            rw [hu]
            rwa [Deep.add_add, show (⟨b, off, none⟩ : Addr) = at0 b off from rfl, at0_add, ← Nat.add_assoc] at hw)
          (fun i j e c he hj => by obtain ⟨u, hu, _, _, hs⟩ := hcell i j e c he hj; rw [hu]; exact hs)
          (fun i j e c he hj => by obtain ⟨u, hu, _, hp, _⟩ := hcell i j e c he hj; rw [hu]; exact hp)
        simp only [List.length_map, List.length_range] at this
        exact this

theorem kids_Trod {a : Option Addr} {len cap : Nat} {d : DataW H} {p : List MemPlace} (h : DataW.Trod enc Try.prog W 0 (fun _ => true) true 39 (.slice a len cap) d p) :
    ∃ l : List (List Nd), (∀ m ∈ l, ∀ n ∈ m, n.inR) ∧ PR (allS W) W (.list 1 (ndsL l)) (.slice a len cap) := by
  obtain ⟨n, hn⟩ := h
  obtain ⟨v, l, hv, h1, h2⟩ := slice_open (T := 39) (E := 22) (sz := 1) Try.underlying39 (by kernel_rfl) (by omega) nds (fun m => ∀ n ∈ m, n.inR) (fun _ => rfl) (fun h => by
    obtain ⟨v, l, rfl, g1, g2⟩ := nodes_open h
    refine ⟨l, g1, rfl, fun j c hc => ?_⟩
    match j, hc with
    | 0, hc =>
      cases hc
      refine ⟨v, rfl, g2, ?_⟩
      unfold nds at g2
      generalize l.map Nd.v = es at g2
      cases g2 <;> rfl
    | j + 1, hc => simp at hc) hn
  have : v = .slice a len cap := by
    have e : (Value.slice a len cap).cells.toList = [.slice a len cap] := rfl
    rw [e] at hv
    exact (List.cons.inj hv).1.symm
  subst this
  exact ⟨l, h1, h2⟩
theorem strs_Trod {a : Option Addr} {len cap : Nat} {d : DataW H} {p : List MemPlace} (h : DataW.Trod enc Try.prog W 0 (fun _ => true) true 34 (.slice a len cap) d p) :
    ∃ l : List (List UInt8), PR (allS W) W (.list 1 (strsL l)) (.slice a len cap) := by
  obtain ⟨n, hn⟩ := h
  obtain ⟨v, l, hv, h1, h2⟩ := slice_open (T := 34) (E := 9) (sz := 1) Try.underlying34 (by kernel_rfl) (by omega) AV.str (fun _ => True) (fun _ => rfl) (fun h => by
    obtain ⟨s, rfl, _, _⟩ := DataW.trod_string Try.underlying9 h
    refine ⟨s.data.toList, trivial, rfl, fun j c hc => ?_⟩
    match j, hc with
    | 0, hc => cases hc; exact ⟨_, rfl, .str _, rfl⟩
    | j + 1, hc => simp at hc) hn
  have : v = .slice a len cap := by
    have e : (Value.slice a len cap).cells.toList = [.slice a len cap] := rfl
    rw [e] at hv
    exact (List.cons.inj hv).1.symm
  subst this
  exact ⟨l, h2⟩
end
end Go.Proofs.Ytonaejfpiihfhaa
