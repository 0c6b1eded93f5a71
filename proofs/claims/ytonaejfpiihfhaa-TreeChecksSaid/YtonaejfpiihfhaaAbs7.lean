/- What an operation that only reads comes to, the machine's comes to. -/
import Derived.Test.YtonaejfpiihfhaaAbs6
import Derived.Laws.StructEq
import Derived.Laws.Entries
import Derived.Laws.Sem
namespace Go.Proofs.Ytonaejfpiihfhaa.Abs
open Go Go.RowKit
set_option linter.unusedSimpArgs false
set_option linter.unusedVariables false

variable {P : Program} {S : Stab} {ρ : Rho} {w : World}

theorem runB {α β : Type} {s : Sem α} {f : α → Sem β} {a : α} {w w' : World} (h : s.run P w = .ok a w') : (s >>= f).run P w = (f a).run P w' := by
  rw [Sem.run_bind, h]; rfl

/-! ## What a value is, by its form -/
theorem vr_bool {b : Bool} {v : Value} (h : VR S ρ w (.bool b) v) : v = .bool b := by cases h with | pure h => cases h; rfl
theorem vr_int {k : IntKind} {n : Int} {v : Value} (h : VR S ρ w (.int k n) v) : v = .int k n := by cases h with | pure h => cases h; rfl
theorem vr_str {s : List UInt8} {v : Value} (h : VR S ρ w (.str s) v) : ∃ b : ByteArray, v = .string b ∧ b.data.toList = s := by cases h with | pure h => cases h; exact ⟨_, rfl, rfl⟩
theorem vr_nilp {v : Value} (h : VR S ρ w .nilp v) : v = .pointer none := by cases h with | pure h => cases h; rfl
theorem vr_nils {v : Value} (h : VR S ρ w .nils v) : v = .slice none 0 0 := by cases h with | pure h => cases h; rfl
theorem vr_nilf {v : Value} (h : VR S ρ w .nilf v) : v = .nilFunc := by cases h with | pure h => cases h; rfl
theorem vr_nili {v : Value} (h : VR S ρ w .nili v) : v = .nilIface := by cases h with | pure h => cases h; rfl
theorem vr_agg {cs : List AV} {v : Value} (h : VR S ρ w (.agg cs) v) : ∃ vs : Array Value, v = .agg vs ∧ cs.length = vs.size ∧ ∀ (j : Nat) c u, cs[j]? = some c → vs[j]? = some u → VR S ρ w c u := by
  cases h with
  | pure h => cases h with | agg _ vs hl h => exact ⟨vs, rfl, hl, fun j c u hc hu => .pure (h j c u hc hu)⟩
  | agg _ vs hl h => exact ⟨vs, rfl, hl, h⟩
theorem vr_tup {cs : List AV} {v : Value} (h : VR S ρ w (.tup cs) v) : ∃ vs : Array Value, v = .tuple vs ∧ cs.length = vs.size ∧ ∀ (j : Nat) c u, cs[j]? = some c → vs[j]? = some u → VR S ρ w c u := by
  cases h with
  | pure h => cases h with | tup _ vs hl h => exact ⟨vs, rfl, hl, fun j c u hc hu => .pure (h j c u hc hu)⟩
  | tup _ vs hl h => exact ⟨vs, rfl, hl, h⟩
theorem vr_iface {t : TypeId} {a : AV} {v : Value} (h : VR S ρ w (.iface t a) v) : ∃ u, v = .iface t u ∧ VR S ρ w a u := by
  cases h with
  | pure h => cases h with | iface _ _ u h => exact ⟨u, rfl, .pure h⟩
  | iface _ _ u h => exact ⟨u, rfl, h⟩
theorem vr_fn {g : Fn} {x y : List AV} {v : Value} (h : VR S ρ w (.fn g x y) v) : ∃ vx vy : Array Value, v = .func g vx vy ∧ x.length = vx.size ∧ y.length = vy.size ∧
    (∀ (j : Nat) c u, x[j]? = some c → vx[j]? = some u → VR S ρ w c u) ∧ ∀ (j : Nat) c u, y[j]? = some c → vy[j]? = some u → VR S ρ w c u := by
  cases h with
  | pure h => cases h with | fn _ _ _ vx vy hx hy h1 h2 => exact ⟨vx, vy, rfl, hx, hy, fun j c u hc hu => .pure (h1 j c u hc hu), fun j c u hc hu => .pure (h2 j c u hc hu)⟩
  | fn _ _ _ vx vy hx hy h1 h2 => exact ⟨vx, vy, rfl, hx, hy, h1, h2⟩
theorem vr_ptr {id i o : Nat} {v : Value} (h : VR S ρ w (.ptr id i o) v) : ∃ b sz n, ρ id = some ⟨some (b, sz), n⟩ ∧ v = .pointer (some (at0 b (i * sz + o))) := by
  cases h with
  | pure h => cases h
  | ptr _ _ _ b sz n h => exact ⟨b, sz, n, h, rfl⟩
theorem vr_ep {a : AV} {o : Nat} {v : Value} (h : VR S ρ w (.ep a o) v) : ∃ b base, v = .pointer (some (at0 b (base + o))) ∧ o < a.cells.length ∧
    ∃ f : Nat → Value, ∀ (j : Nat) c, a.cells[j]? = some c → S b (base + j) ∧ w.cell? (at0 b (base + j)) = some (f j) ∧ PR S w c (f j) := by
  cases h with
  | pure h => cases h with | ep _ b base _ f ho hS hw hp => exact ⟨b, base, rfl, ho, f, fun j c hc => ⟨hS j c hc, hw j c hc, hp j c hc⟩⟩

/-- A value has as many cells, if its form is known. -/
theorem vr_cells {a : AV} {v : Value} (h : VR S ρ w a v) (ha : a ≠ .undef) :
    a.cells.length = v.cells.size ∧ ∀ (j : Nat) c u, a.cells[j]? = some c → v.cells[j]? = some u → VR S ρ w c u := by
  have hh := h
  cases h with
  | undef => exact absurd rfl ha
  | pure h => exact ⟨h.cells.1, fun j c u hc hu => .pure (h.cells.2 j c u hc hu)⟩
  | agg cs vs hl h => exact ⟨hl, h⟩
  | _ =>
    refine ⟨rfl, fun j c u hc hu => ?_⟩
    cases j with
    | zero => simp [AV.cells, Value.cells] at hc hu; subst hc hu; exact hh
    | succ j => simp [AV.cells] at hc

/-- A cell of a known form is one cell of the machine's. -/
theorem vr_scalar {c : AV} {u : Value} (h : VR S ρ w c u) (hc : okCell c = true) : scalarV u = true := by
  cases h with
  | pure h => cases h <;> first | rfl | simp [okCell] at hc
  | undef => simp [okCell] at hc
  | agg => simp [okCell] at hc
  | tup => simp [okCell] at hc
  | _ => rfl

/-! ## Constants, operands -/
theorem vr_ofScalar (v : Value) : VR S ρ w (ofScalar v) v := by
  unfold ofScalar
  split
  · exact .pure (.bool _)
  · exact .pure (.int _ _)
  · exact .pure (.str _)
  · exact .pure .nilp
  · exact .pure .nils
  · exact .pure .nilf
  · exact .pure .nili
  · exact .undef _
theorem vr_ofValue (v : Value) : VR S ρ w (ofValue v) v := by
  unfold ofValue
  split
  · rename_i cs
    refine .agg _ _ (by simp) fun j c u hc hu => ?_
    simp only [List.getElem?_map, Array.getElem?_toList, hu, Option.map_some, Option.some.injEq] at hc
    subst hc; exact vr_ofScalar u
  · rename_i cs
    refine .tup _ _ (by simp) fun j c u hc hu => ?_
    simp only [List.getElem?_map, Array.getElem?_toList, hu, Option.map_some, Option.some.injEq] at hc
    subst hc; exact vr_ofScalar u
  · exact vr_ofScalar v

theorem SR.ev {E : Env} {st : ASt} {a : Act} (h : SR E st S ρ a.tmps w) (x : Operand) : VR S ρ w (st.ev x) (a.eval x) := by
  cases x with
  | tmp t => exact h.slot t
  | const v => exact vr_ofValue v
  | global g => exact .undef _
  | func f => exact .fn _ _ _ _ _ rfl rfl (fun j c u hc _ => by simp at hc) (fun j c u hc _ => by simp at hc)

/-! ## Values of operations -/
theorem run_sizeOf {t : TypeId} {n : Nat} (h : P.cellsOf t = n) (hn : 0 < n) : (sizeOf t).run P w = .ok n w := by
  unfold Program.cellsOf at h
  unfold sizeOf typeInfo
  cases hi : P.info? t with
  | none => simp [hi] at h; omega
  | some i => simp [hi] at h; simp [program, bind, Sem.bind, Sem.run, hi, h, pure]

theorem run_isAgg {t : TypeId} {d : TypeDesc} (h : P.underlying t = some d) : (isAgg t).run P w = .ok (isAggT P t) w := by
  unfold isAgg isAggT
  rw [runB (run_underlying h w), h]
  cases d <;> rfl

theorem run_part_scalar {t : TypeId} {cs : Array Value} {o : Nat} {d : TypeDesc} {v : Value} (h : P.underlying t = some d) (ha : isAggT P t = false) (hv : cs[o]? = some v) : (part t cs o).run P w = .ok v w := by
  unfold part
  rw [runB (run_isAgg h), ha]
  simp [hv]
theorem run_part_agg {t : TypeId} {cs : Array Value} {o n : Nat} {d : TypeDesc} (h : P.underlying t = some d) (ha : isAggT P t = true) (hn : P.cellsOf t = n) (h0 : 0 < n) : (part t cs o).run P w = .ok (.agg (cs.extract o (o + n))) w := by
  unfold part
  rw [runB (run_isAgg h), ha]
  simp only [if_true]
  rw [runB (run_sizeOf hn h0)]
  rfl

/-- A part of cells. -/
theorem part_ok {t : TypeId} {d : TypeDesc} {cs : List AV} {vs : Array Value} {o : Nat} {v : AV} (h : P.underlying t = some d) (h0 : 0 < P.cellsOf t) (hl : cs.length = vs.size)
    (hv : ∀ (j : Nat) c u, cs[j]? = some c → vs[j]? = some u → VR S ρ w c u) (hp : partA (isAggT P t) (P.cellsOf t) cs o = some v) : ∃ u, (part t vs o).run P w = .ok u w ∧ VR S ρ w v u := by
  unfold partA at hp
  cases ha : isAggT P t with
  | true =>
    simp only [ha, if_true] at hp
    split at hp
    · rename_i hle
      cases hp
      refine ⟨_, run_part_agg h ha rfl h0, .agg _ _ (by simp; omega) fun j c u hc hu => ?_⟩
      rw [List.getElem?_take] at hc
      split at hc
      · rename_i hj
        rw [List.getElem?_drop] at hc
        refine hv (o + j) c u hc ?_
        rw [Array.getElem?_extract] at hu
        split at hu
        · exact hu
        · cases hu
      · cases hc
    · cases hp
  | false =>
    simp only [ha, Bool.false_eq_true, if_false] at hp
    have hlt : o < vs.size := by rw [← hl]; exact (List.getElem?_eq_some_iff.1 hp).1
    exact ⟨vs[o], run_part_scalar h ha (Array.getElem?_eq_getElem hlt), hv o v _ hp (Array.getElem?_eq_getElem hlt)⟩

theorem run_loadVar_scalar {t : TypeId} {d : TypeDesc} {b o : Nat} {v : Value} (h : P.underlying t = some d) (ha : isAggT P t = false) (hv : w.cell? (at0 b o) = some v) : (loadVar t (at0 b o)).run P w = .ok v w := by
  unfold loadVar
  rw [runB (run_isAgg h), ha]
  simp [load, Sem.run, hv]
theorem run_loadVar_agg {t : TypeId} {d : TypeDesc} {b o n : Nat} (f : Nat → Value) (h : P.underlying t = some d) (ha : isAggT P t = true) (hn : P.cellsOf t = n) (h0 : 0 < n) (hv : ∀ j, j < n → w.cell? (at0 b (o + j)) = some (f j)) :
    (loadVar t (at0 b o)).run P w = .ok (.agg ((List.range n).map f).toArray) w := by
  unfold loadVar
  rw [runB (run_isAgg h), ha]
  simp only [if_true]
  rw [runB (run_sizeOf hn h0), runB (run_loadCells f hv)]
  rfl

/-- A variable that is loaded: its cells stand one behind the other. -/
theorem load_ok {t : TypeId} {d : TypeDesc} {cs : List AV} {b base o : Nat} {v : AV} (f : Nat → Value) (h : P.underlying t = some d) (h0 : 0 < P.cellsOf t)
    (hv : ∀ (j : Nat) c, cs[j]? = some c → w.cell? (at0 b (base + j)) = some (f j) ∧ VR S ρ w c (f j)) (hp : partA (isAggT P t) (P.cellsOf t) cs o = some v) :
    ∃ u, (loadVar t (at0 b (base + o))).run P w = .ok u w ∧ VR S ρ w v u := by
  unfold partA at hp
  cases ha : isAggT P t with
  | true =>
    simp only [ha, if_true] at hp
    split at hp
    · rename_i hle
      cases hp
      refine ⟨_, run_loadVar_agg (fun j => f (o + j)) h ha rfl h0 (fun j hj => ?_), .agg _ _ (by simp; omega) fun j c u hc hu => ?_⟩
      · have hlt : o + j < cs.length := by omega
        rw [Nat.add_assoc]; exact (hv (o + j) _ (List.getElem?_eq_getElem hlt)).1
      · rw [List.getElem?_take] at hc
        split at hc
        · rename_i hj
          rw [List.getElem?_drop] at hc
          simp only [List.getElem?_toArray, List.getElem?_map, List.getElem?_range hj, Option.map_some, Option.some.injEq] at hu
          subst hu; exact (hv (o + j) c hc).2
        · cases hc
    · cases hp
  | false =>
    simp only [ha, Bool.false_eq_true, if_false] at hp
    exact ⟨f o, run_loadVar_scalar h ha (hv o v hp).1, (hv o v hp).2⟩

end Go.Proofs.Ytonaejfpiihfhaa.Abs
