/- What the row of this claim leans on: own texts, merged. -/
import Derived.Test.YteibklnligmanaaDoorRows
import Derived.Stop.LaidErr
import Derived.Lib.LaidTab
import Derived.LaidHandle
import Derived.WalkKit
import Derived.ProofKit
import Derived.LaidMore
import Derived.OpenShut
import Derived.Stop.Joined
import Derived.Deep.Strs
import Derived.Test.YteibklnligmanaaDoorPkX45

/- The program's own variables, as they lie in memory; a world in which they are laid; a law that is told in the wide mode. -/
namespace Go.Proofs.YteibklnligmanaaDoor
open Go Abs Go.RowKit
set_option linter.unusedSimpArgs false
set_option linter.unusedVariables false
theorem law_runW {g : FuncId} {args : List AV} (hg : g < RB) (hE : G.E g = true) (h : clW g args [] = some (.ret (.bool true), [])) (W : World) (vs : Array Value) (hl : args.length = vs.size)
    (hv : ∀ (j : Nat) c v, args[j]? = some c → vs[j]? = some v → PR (allS W) W c v) (hgl : GlobOK (allS W) W) : Calls Tryd.prog g vs W fun e W' => e = .returned (.bool true) ∧ Below W.heap.size W W' := by
  have hs : CallSound true Tryd.prog g args [] (.ret (.bool true), []) := callL_ok GSW primXOK hg hE h
  refine (calls_of_FW (hs (allS W) (fun _ => none) W vs ⟨fun n q hq => (by cases hq), hgl⟩ ⟨fun n o ho => (by cases ho), fun n _ => rfl, fun n m b sz sz' k k' hq => (by cases hq)⟩ (fun b o hb => hb) hl (fun j c v hc hv' => .pure (hv j c v hc hv')))).mono fun e W' ⟨S', ρ', hout, hans⟩ => ?_
  cases e with
  | panicked ch => exact hans.elim
  | outgrown => exact hans.elim
  | returned u =>
  have hu : VR S' ρ' W' (.bool true) u := hans
  cases vr_bool hu
  refine ⟨rfl, ?_⟩
  have f := hout.fr
  exact ⟨f.os, f.tape, f.output, f.size, fun k hk => f.keep k hk (fun hF => by obtain ⟨n, sz, k', hq⟩ := hF; cases hq)⟩
theorem insert_perm' {H : Type} (x : Lit × DataW H) : ∀ l : List (Lit × DataW H), (DataW.insert x l).Perm (x :: l)
  | [] => List.Perm.refl _
  | y :: r => by
    unfold DataW.insert
    split
    · exact List.Perm.refl _
    · exact ((insert_perm' x r).cons y).trans (List.Perm.swap x y r)
theorem sorted_perm' {H : Type} : ∀ l : List (Lit × DataW H), (l.foldr DataW.insert []).Perm l
  | [] => List.Perm.refl _
  | x :: l => (insert_perm' x _).trans ((sorted_perm' l).cons x)
theorem mapM_perm {α β : Type} {f : α → Option β} : ∀ {l : List α} {r s : List β}, l.mapM f = some r → r.Perm s → ∃ l', l.Perm l' ∧ l'.mapM f = some s := by
  intro l r s h hp
  induction hp generalizing l with
  | nil => exact ⟨l, List.Perm.refl _, h⟩
  | cons x _ ih =>
    cases l with
    | nil => simp at h
    | cons a l =>
      simp only [List.mapM_cons, Option.pure_def, Option.bind_eq_bind, Option.bind_eq_some_iff, Option.some.injEq, List.cons.injEq] at h
      obtain ⟨b, hb, t, ht, rfl, rfl⟩ := h
      obtain ⟨l', h1, h2⟩ := ih ht
      exact ⟨a :: l', h1.cons a, by simp [List.mapM_cons, hb, h2]⟩
  | swap x y t =>
    match l, h with
    | a :: b :: l, h =>
      simp only [List.mapM_cons, Option.pure_def, Option.bind_eq_bind, Option.bind_eq_some_iff, Option.some.injEq, List.cons.injEq] at h
      obtain ⟨b1, hb1, t1, ⟨b2, hb2, t2, ht2, rfl⟩, rfl, hc⟩ := h
      cases hc
      exact ⟨b :: a :: l, List.Perm.swap b a l, by simp [List.mapM_cons, hb1, hb2, ht2]⟩
    | [a], h => cases hfa : f a <;> simp [List.mapM_cons, hfa] at h
    | [], h => simp at h
  | trans _ _ ih1 ih2 =>
    obtain ⟨l', h1, h2⟩ := ih1 h
    obtain ⟨l'', h3, h4⟩ := ih2 h2
    exact ⟨l'', h1.trans h3, h4⟩
theorem map_open {P : Program} {w : World} {sp : Nat → Bool} {held : Bool} {t k e : TypeId} {fuel : Nat} {cs : List Value} {D : List (Lit × DataW Unit)} {p : List MemPlace} (ht : P.underlying t = some (.map k e))
    (h : DataW.trod (fun _ => ()) P w 0 sp held fuel t cs = some (.map D, p)) :
    ∃ b es clock n entries, cs = [.map (some b)] ∧ w.heap[b]? = some (.map es clock) ∧
      es.toList.mapM (fun x => (keyOf P k x.key).bind fun key => if x.val.formed P e then (DataW.trod (fun _ => ()) P w 0 sp held n e x.val.cells.toList).map fun y => ((key, y.1), y.2) else none) = some entries ∧
      D = (entries.map (·.1)).foldr DataW.insert [] := by
  cases fuel with
  | zero => simp [DataW.trod] at h
  | succ n =>
    rw [DataW.trod_step] at h
    unfold DataW.trodStep at h
    rw [ht] at h
    split at h <;> simp_all
    rename_i b _
    cases hb : w.heap[b]? with
    | none => simp [hb] at h
    | some o =>
      cases o <;> simp [hb] at h
      rename_i es clock
      obtain ⟨_, h⟩ := h
      obtain ⟨E, hE, h3⟩ := Option.bind_eq_some_iff.1 h
      split at h3
      · simp only [Option.some.injEq, Prod.mk.injEq, DataW.map.injEq] at h3
        exact ⟨es, ⟨clock, rfl⟩, n, E, hE, h3.1.symm⟩
      · cases h3
theorem gMay : Tryd.prog.globalNamed "cryptex/keys.may" = some 0 := by kernel_rfl
theorem gBegin : Tryd.prog.globalNamed "cryptex/sha.begin" = some 1 := by kernel_rfl
theorem gKs : Tryd.prog.globalNamed "cryptex/sha.ks" = some 2 := by kernel_rfl
theorem tMay : (Tryd.prog.globals[0]?).map (·.type) = some 83 := by kernel_rfl
theorem tBegin : (Tryd.prog.globals[1]?).map (·.type) = some 120 := by kernel_rfl
theorem tKs : (Tryd.prog.globals[2]?).map (·.type) = some 138 := by kernel_rfl
theorem list2 {α : Type} {cs : List α} (h : cs.length = 2) : ∃ a b, cs = [a, b] := by
  match cs, h with
  | [a, b], _ => exact ⟨a, b, rfl⟩
theorem list4' {α : Type} {cs : List α} (h : cs.length = 4) : ∃ a b c d, cs = [a, b, c, d] := by
  match cs, h with
  | [a, b, c, d], _ => exact ⟨a, b, c, d, rfl⟩
/-- One entry, read. -/
theorem bel_trod {n : Nat} {W : World} {cs : List Value} {x : DataW Unit × List MemPlace} (h : DataW.trod (fun _ => ()) Tryd.prog W 0 (fun _ => true) false n 81 cs = some x) :
    ∃ (s : ByteArray) (k : Int), cs = [.string s, .int .i64 k] ∧ x.1 = .agg [.lit (.string s.data.toList), .lit (.int .i64 k)] := by
  obtain ⟨y0, y1, n', e, hl, h0, h1⟩ := ChangeShapes.trod_struct2 Tryd.underlying81 h
  rw [show Tryd.prog.cellsOf 81 = 2 from by kernel_rfl] at hl
  obtain ⟨a, b, rfl⟩ := list2 hl
  obtain ⟨s, e0, w0, _⟩ := DataW.trod_string Tryd.underlying9 h0
  obtain ⟨k, e1, w1, _⟩ := DataW.trod_int Tryd.underlying3 h1
  rw [show Tryd.prog.cellsOf 9 = 1 from by kernel_rfl] at e0
  rw [show Tryd.prog.cellsOf 3 = 1 from by kernel_rfl] at e1
  simp at e0 e1
  subst e0 e1
  refine ⟨s, k, rfl, ?_⟩
  simp only [e, w0, w1]
theorem arr2_trod {P : Program} {w : World} {t e : TypeId} {n : Nat} {cs : List Value} {x : DataW Unit × List MemPlace} (ht : P.underlying t = some (.array 2 e)) (hc : P.cellsOf t = 4) (hce : P.cellsOf e = 2) (h : DataW.trod (fun _ => ()) P w 0 (fun _ => true) false n t cs = some x) :
    ∃ a b c d y z m, cs = [a, b, c, d] ∧ DataW.trod (fun _ => ()) P w 0 (fun _ => true) false m e [a, b] = some y ∧ DataW.trod (fun _ => ()) P w 0 (fun _ => true) false m e [c, d] = some z ∧ x.1 = .agg [y.1, z.1] := by
  cases n with
  | zero => simp [DataW.trod] at h
  | succ n =>
    unfold DataW.trod at h
    rw [ht, hc] at h
    simp only at h
    split at h
    · rename_i hl
      obtain ⟨a, b, c, d, rfl⟩ := list4' hl
      simp only [hce] at h
      obtain ⟨xs, hxs, rfl⟩ := Option.map_eq_some_iff.1 h
      simp [List.range_succ, List.mapM_cons, Option.bind_eq_some_iff] at hxs
      obtain ⟨y, y2, hy, l, ⟨z, z2, hz, rfl⟩, rfl⟩ := hxs
      exact ⟨a, b, c, d, (y, y2), (z, z2), n, rfl, hy, hz, rfl⟩
    · cases h
theorem mapM_fst {α β γ : Type} {f : α → Option (β × γ)} : ∀ {l : List α} {E : List (β × γ)}, l.mapM f = some E → l.mapM (fun x => (f x).map (·.1)) = some (E.map (·.1))
  | [], E, h => by simp at h; subst h; rfl
  | a :: l, E, h => by
    simp only [List.mapM_cons, Option.pure_def, Option.bind_eq_bind, Option.bind_eq_some_iff, Option.some.injEq] at h
    obtain ⟨e0, h0, E', hE', rfl⟩ := h
    rw [List.mapM_cons, mapM_fst hE', h0]; rfl
theorem mapM_three {α β : Type} {f : α → Option β} {L : List α} {a b c : β} (h : L.mapM f = some [a, b, c]) : ∃ x y z, L = [x, y, z] ∧ f x = some a ∧ f y = some b ∧ f z = some c := by
  cases L with
  | nil => simp at h
  | cons x L =>
    simp only [List.mapM_cons, Option.pure_def, Option.bind_eq_bind, Option.bind_eq_some_iff, Option.some.injEq, List.cons.injEq] at h
    obtain ⟨_, hx, _, h, rfl, rfl⟩ := h
    cases L with
    | nil => simp at h
    | cons y L =>
      simp only [List.mapM_cons, Option.pure_def, Option.bind_eq_bind, Option.bind_eq_some_iff, Option.some.injEq, List.cons.injEq] at h
      obtain ⟨_, hy, _, h, rfl, rfl⟩ := h
      cases L with
      | nil => simp at h
      | cons z L =>
        simp only [List.mapM_cons, Option.pure_def, Option.bind_eq_bind, Option.bind_eq_some_iff, Option.some.injEq, List.cons.injEq] at h
        obtain ⟨_, hz, _, h, rfl, rfl⟩ := h
        cases L with
        | nil => exact ⟨x, y, z, rfl, hx, hy, hz⟩
        | cons u L =>
          simp only [List.mapM_cons, Option.pure_def, Option.bind_eq_bind, Option.bind_eq_some_iff, Option.some.injEq] at h
          obtain ⟨_, _, _, _, h⟩ := h
          cases h
theorem keyStr {P : Program} {k : TypeId} {v : Value} {l : Lit} (hu : P.underlying k = some .string) (h : keyOf P k v = some l) : ∃ s : ByteArray, v = .string s ∧ l = .string s.data.toList := by
  unfold keyOf at h
  rw [hu] at h
  simp only at h
  unfold mapKey at h
  rw [hu] at h
  cases v <;> simp at h
  exact ⟨_, rfl, h.2.symm⟩
theorem formedArr {P : Program} {t e : TypeId} {n : Nat} {v : Value} (hu : P.underlying t = some (.array n e)) (h : v.formed P t = true) : ∃ cs, v = .agg cs := by
  unfold Value.formed at h
  rw [hu] at h
  cases v <;> simp at h
  exact ⟨_, rfl⟩
theorem ent_of {W : World} {S : Stab} {n : Nat} {m : MapEntry} {kb sb tb : List UInt8} {k j : Int} {q : List MemPlace}
    (h : ((keyOf Tryd.prog 9 m.key).bind fun key => if m.val.formed Tryd.prog 82 then (DataW.trod (fun _ => ()) Tryd.prog W 0 (fun _ => true) false n 82 m.val.cells.toList).map fun y => ((key, y.1), y.2) else none) =
      some ((Lit.string kb, .agg [.agg [.lit (.string sb), .lit (.int .i64 k)], .agg [.lit (.string tb), .lit (.int .i64 j)]]), q)) :
    PR S W (.str kb) m.key ∧ PR S W (.agg [.str sb, .int .i64 k, .str tb, .int .i64 j]) m.val := by
  obtain ⟨key, hk, h⟩ := Option.bind_eq_some_iff.1 h
  split at h
  case isFalse => cases h
  rename_i hf
  obtain ⟨y, hy, he⟩ := Option.map_eq_some_iff.1 h
  simp only [Prod.mk.injEq] at he
  obtain ⟨⟨rfl, h2⟩, _⟩ := he
  obtain ⟨ks, hks, hkl⟩ := keyStr Tryd.underlying9 hk
  obtain ⟨a, b, c, d, y0, y1, n', hcs, t0, t1, hx⟩ := arr2_trod Tryd.underlying82 (by kernel_rfl) (by kernel_rfl) hy
  obtain ⟨s, k', e0, x0⟩ := bel_trod t0
  obtain ⟨t, j', e1, x1⟩ := bel_trod t1
  simp only [List.cons.injEq, and_true] at e0 e1
  obtain ⟨rfl, rfl⟩ := e0
  obtain ⟨rfl, rfl⟩ := e1
  rw [x0, x1, h2] at hx
  simp only [DataW.agg.injEq, List.cons.injEq, DataW.lit.injEq, Lit.string.injEq, Lit.int.injEq, and_true, true_and] at hx
  obtain ⟨⟨rfl, rfl⟩, rfl, rfl⟩ := hx
  constructor
  · rw [hks]
    rw [Lit.string.injEq] at hkl
    rw [hkl]; exact .str _
  · obtain ⟨cs, hv⟩ := formedArr Tryd.underlying82 hf
    rw [hv] at hcs ⊢
    obtain ⟨l⟩ := cs
    have hcs' : l = [.string s, .int .i64 k, .string t, .int .i64 j] := hcs
    subst hcs'
    refine PR.agg _ _ rfl fun i c v hc hv => ?_
    match i, hc, hv with
    | 0, hc, hv => cases hc; cases hv; exact .str _
    | 1, hc, hv => cases hc; cases hv; exact .int _ _
    | 2, hc, hv => cases hc; cases hv; exact .str _
    | 3, hc, hv => cases hc; cases hv; exact .int _ _
    | i + 4, hc, hv => simp at hc
theorem may_trod {W : World} {fuel : Nat} {cs : List Value} {p : List MemPlace} (h : DataW.trod (fun _ => ()) Tryd.prog W 0 (fun _ => true) false fuel 83 cs = some (Rows.laid_cryptex_keys_may, p)) :
    ∃ b, cs = [.map (some b)] ∧ PR (allS W) W (.cm 0) (.map (some b)) := by
  obtain ⟨b, es, clock, n, E, rfl, hb, hE, hD⟩ := map_open Tryd.underlying83 h
  have hE1 : es.toList.mapM (fun x => ((keyOf Tryd.prog 9 x.key).bind fun key => if x.val.formed Tryd.prog 82 then (DataW.trod (fun _ => ()) Tryd.prog W 0 (fun _ => true) false n 82 x.val.cells.toList).map fun y => ((key, y.1), y.2) else none).map (·.1)) = some (E.map (·.1)) := by
    exact mapM_fst hE
  have hperm := sorted_perm' (E.map (·.1))
  rw [← hD] at hperm
  obtain ⟨L, hL, hm⟩ := mapM_perm hE1 hperm.symm
  obtain ⟨m0, m1, m2, rfl, e0, e1, e2⟩ := mapM_three hm
  obtain ⟨⟨z0, q0⟩, f0, g0⟩ := Option.map_eq_some_iff.1 e0
  obtain ⟨⟨z1, q1⟩, f1, g1⟩ := Option.map_eq_some_iff.1 e1
  obtain ⟨⟨z2, q2⟩, f2, g2⟩ := Option.map_eq_some_iff.1 e2
  simp only at g0 g1 g2
  subst g0 g1 g2
  obtain ⟨a0, b0⟩ := ent_of (S := allS W) f0
  obtain ⟨a1, b1⟩ := ent_of (S := allS W) f1
  obtain ⟨a2, b2⟩ := ent_of (S := allS W) f2
  have hbl : b < W.heap.size := by
    obtain ⟨h1, _⟩ := Array.getElem?_eq_some_iff.1 hb
    exact h1
  refine ⟨b, rfl, PR.cm 0 b clock es [m0, m1, m2] hbl hb hL.symm rfl (fun i e m hc hm => ?_) (fun i e m hc hm => ?_)⟩
  · match i, hc, hm with
    | 0, hc, hm => cases hc; cases hm; exact a0
    | 1, hc, hm => cases hc; cases hm; exact a1
    | 2, hc, hm => cases hc; cases hm; exact a2
    | i + 3, hc, hm => simp at hm
  · match i, hc, hm with
    | 0, hc, hm => cases hc; cases hm; exact b0
    | 1, hc, hm => cases hc; cases hm; exact b1
    | 2, hc, hm => cases hc; cases hm; exact b2
    | i + 3, hc, hm => simp at hm
theorem tab_globk {W : World} {g : Nat} {k : IntKind} {zs : List Int} (h0 : 0 < zs.length) (hv : ∀ j, j < zs.length → W.cell? ⟨g, j, none⟩ = some (.int k (zs.getD j 0))) : PR (allS W) W (.ep (.agg (zs.map fun z => .int k z)) 0) (.pointer (some (at0 g 0))) := by
  have h2 := (spot_none (hv 0 h0)).2
  refine PR.ep _ g 0 0 (fun j => .int k (zs.getD j 0)) (by simpa [AV.cells] using h0) (fun j c hj => h2) (fun j c hj => ?_) (fun j c hj => ?_)
  · have hj' : j < zs.length := by have := (List.getElem?_eq_some_iff.1 hj).1; simpa [AV.cells] using this
    rw [Nat.zero_add]; exact hv j hj'
  · simp only [AV.cells, List.getElem?_map] at hj
    obtain ⟨z, hz, rfl⟩ := Option.map_eq_some_iff.1 hj
    rw [List.getD_eq_getElem?_getD, hz]
    exact .int _ _
def begI : List Int := [1779033703, 3144134277, 1013904242, 2773480762, 1359893119, 2600822924, 528734635, 1541459225]
def ksI : List Int := ksL.map fun w => wN w
abbrev laidL : List (String × DataW Unit) := [("cryptex/sha.ks", Rows.laid_cryptex_sha_ks), ("cryptex/sha.begin", Rows.laid_cryptex_sha_begin), ("cryptex/keys.may", Rows.laid_cryptex_keys_may)]
theorem glob_of {W : World} (h : laidMetH Tryd.prog laidL W) : GlobOK (allS W) W := by
  have h' : laidMet Tryd.prog laidL W := h
  have hk : Lib.TabIs Tryd.prog W "cryptex/sha.ks" .u32 ksI := Lib.tabIs_of_head gKs tKs Tryd.underlying138 Tryd.underlying115 (by kernel_rfl) (by kernel_rfl) h'
  have hb : Lib.TabIs Tryd.prog W "cryptex/sha.begin" .u32 begI := Lib.tabIs_of_head gBegin tBegin Tryd.underlying120 Tryd.underlying115 (by kernel_rfl) (by kernel_rfl) h'.tail
  obtain ⟨ps, ⟨g, t, cs, fuel, p, q, hg, ht, hv, hd, _, _⟩, _, _⟩ := h'.tail.tail
  obtain rfl := Option.some.inj (gMay.symm.trans hg)
  obtain rfl := Option.some.inj (tMay.symm.trans ht)
  obtain ⟨b, hcs, hpr⟩ := may_trod hd
  have hc : W.cell? ⟨0, 0, none⟩ = some (.map (some b)) := by
    have := World.var?_cell gMay hv 0
    rw [this]
    obtain ⟨l⟩ := cs
    have : l = [.map (some b)] := hcs
    subst this; rfl
  intro g v hg
  have hg : aget globT g = some v := hg
  simp only [globT, aget] at hg
  split at hg
  · rename_i e
    subst e; cases hg
    refine PR.ep _ 0 0 0 (fun _ => .map (some b)) (by simp [AV.cells]) (fun j c hj => (spot_none hc).2) (fun j c hj => ?_) (fun j c hj => ?_)
    · match j, hj with
      | 0, hj => exact hc
      | j + 1, hj => simp [AV.cells] at hj
    · match j, hj with
      | 0, hj => cases hj; exact hpr
      | j + 1, hj => simp [AV.cells] at hj
  · split at hg
    · rename_i e
      subst e; cases hg
      exact tab_globk (zs := begI) (by decide) fun j hj => hb.cell gBegin j hj
    · split at hg
      · rename_i e
        subst e; cases hg
        exact tab_globk (zs := ksI) (by decide) fun j hj => hk.cell gKs j hj
      · cases hg
noncomputable def laidWorld (os : Os) : World := World.doorLaid Tryd.prog 400 os
theorem laidWorld_met (os : Os) (args : Array Value) : laidMetH Tryd.prog laidL ((laidWorld os).forCall (fun _ _ => 0) ⟨#[], args, []⟩).memory :=
  laidMetH_of_parts3 (fuel := 8) (laidMet_of_run' 8 (by kernel_rfl) (by kernel_rfl)) (by kernel_rfl) (by kernel_rfl)
end Go.Proofs.YteibklnligmanaaDoor


/- Keys that are handed in. -/
namespace Go.Proofs.YteibklnligmanaaDoor
open Go Abs Go.RowKit
set_option linter.unusedSimpArgs false
set_option linter.unusedVariables false
section
variable {H : Type} {enc : TypeId × Value → H} {W : World}
theorem len0_of {W : World} {S : Stab} {a : Option Addr} {len cap : Nat} (h : PR S W (.list 1 []) (.slice a len cap)) : len = 0 := by
  cases h with
  | empty => rfl
  | list => rfl
theorem parts_open {n : Nat} {cs : List Value} {x : DataW H × List MemPlace} (h : DataW.trod enc Tryd.prog W 0 (fun _ => true) true n 22 cs = some x) :
    ∃ o v, cs = [v] ∧ PR (allS W) W (pv o) v := by
  obtain ⟨v, l, hv, h1, h2⟩ := slice_open (T := 22) (E := 9) (sz := 1) Tryd.underlying22 (by kernel_rfl) (by omega) AV.str (fun _ => True) (fun _ => rfl) (fun h => by
    obtain ⟨s, rfl, _, _⟩ := DataW.trod_string Tryd.underlying9 h
    refine ⟨s.data.toList, trivial, rfl, fun j c hc => ?_⟩
    match j, hc with
    | 0, hc => cases hc; exact ⟨_, rfl, .str _, rfl⟩
    | j + 1, hc => simp at hc) h
  rcases Deep.open_slice Tryd.underlying22 h with ⟨e, _⟩ | ⟨a, len, cap, m, n', D, Pl, e, _⟩
  · exact ⟨none, _, e, .nils⟩
  · rw [e] at hv
    have hv := (List.cons.inj hv).1
    subst hv
    cases l with
    | nil =>
      obtain rfl := len0_of h2
      exact ⟨some [], _, e, .empty 0 (some a) _ (fun _ => by simp)⟩
    | cons b l => exact ⟨some (b :: l), _, e, h2⟩
theorem list3' {α : Type} {cs : List α} (h : cs.length = 3) : ∃ a b c, cs = [a, b, c] := by
  match cs, h with
  | [a, b, c], _ => exact ⟨a, b, c, rfl⟩
theorem key_open {n : Nat} {cs : List Value} {x : DataW H × List MemPlace} (h : DataW.trod enc Tryd.prog W 0 (fun _ => true) true n 24 cs = some x) :
    ∃ k : KeyM, cs.length = 3 ∧ PR (allS W) W k.v (.agg cs.toArray) := by
  obtain ⟨y0, y1, y2, n', e, hl, h0, h1, h2⟩ := Deep.trod_struct3 Tryd.underlying24 h
  rw [show Tryd.prog.cellsOf 24 = 3 from by kernel_rfl] at hl
  obtain ⟨a, b, c, rfl⟩ := list3' hl
  obtain ⟨s, e0, _, _⟩ := DataW.trod_string Tryd.underlying9 h0
  obtain ⟨o, v, e1, hp⟩ := parts_open h1
  obtain ⟨t, e2, _, _⟩ := DataW.trod_string Tryd.underlying9 h2
  rw [show Tryd.prog.cellsOf 9 = 1 from by kernel_rfl] at e0 e2
  rw [show Tryd.prog.cellsOf 22 = 1 from by kernel_rfl] at e1
  simp at e0 e1 e2
  subst e0 e1 e2
  refine ⟨⟨s.data.toList, o, t.data.toList⟩, rfl, ?_⟩
  unfold KeyM.v
  refine PR.agg _ _ rfl fun i c v hc hv => ?_
  match i, hc, hv with
  | 0, hc, hv => cases hc; cases hv; exact .str _
  | 1, hc, hv => cases hc; cases hv; exact hp
  | 2, hc, hv => cases hc; cases hv; exact .str _
  | i + 3, hc, hv => simp at hc
theorem key_Trod {v : Value} {d : DataW H} {p : List MemPlace} (h : DataW.Trod enc Tryd.prog W 0 (fun _ => true) true 24 v d p) :
    ∃ k : KeyM, PR (allS W) W k.v v := by
  obtain ⟨n, hn⟩ := h
  obtain ⟨k, hl, hp⟩ := key_open hn
  refine ⟨k, ?_⟩
  have : v = .agg v.cells := by
    cases v <;> simp [Value.cells] at hl ⊢
  rw [this]
  simpa using hp
end
end Go.Proofs.YteibklnligmanaaDoor

