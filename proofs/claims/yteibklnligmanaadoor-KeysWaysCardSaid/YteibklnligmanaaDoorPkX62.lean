/- What the row of this claim leans on: own texts, merged. -/
import Derived.RangeFuncRecord
import Derived.Laws.IdiomStrings
import Derived.CallsIn
import Derived.OrdersIn
import Derived.FollowTie
import Derived.RangeFuncIn
import Derived.RangeFuncLeaves
import Derived.Test.YteibklnligmanaaDoorPkX61

/- What an operation that makes, or writes, memory comes to, the machine's comes to: all of them but calls of functions. -/
namespace Go.Proofs.YteibklnligmanaaDoor.Abs
open Go Go.RowKit
set_option linter.unusedSimpArgs false
set_option linter.unusedVariables false

variable {G : Cfg} {S : Stab} {ρ : Rho} {w : World} {E : Env} {st : ASt} {a : Act}

theorem elemOf_some {P : Program} {t e : TypeId} (h : elemOf? P t = some e) : P.underlying t = some (.slice e) := by
  unfold elemOf? at h
  split at h
  · rename_i hd; cases h; exact hd
  · cases h

theorem alloc_ok (h : SR E st S ρ a.tmps w) (o : Oper) {e : TypeId} (ho : o.op = .alloc e) {r : AR} (hb : aopB G o st = some r) : OpDone E G.P a o w r := by
  unfold aopB at hb
  rw [ho] at hb
  simp only at hb
  rw [Option.bind_eq_some_iff] at hb; obtain ⟨d, hd, hb⟩ := hb
  rw [Option.bind_eq_some_iff] at hb; obtain ⟨z, hz, hb⟩ := hb
  split at hb
  · rename_i hc
    obtain ⟨hk, hl⟩ := hc
    obtain ⟨hn, rfl⟩ := newObj_some hb
    refine ⟨_, .pointer (some ⟨w.heap.size, 0, none⟩), _, S, _, ?_, .inl rfl, h.newBox hn (Nat.le_add_right _ _) (vr_ofValue z) (okCells_known hk) e, ?_⟩
    · unfold execOp; rw [ho]
      have : (Instr.alloc e true (.tuple #[])).run G.P w = .ok (.pointer (some ⟨w.heap.size, 0, none⟩)) (w.alloc (.cells z.cells e)) := by
        unfold Instr.alloc
        rw [runB (zero_ok hz)]; rfl
      rw [runB this]; rfl
    · have := VR.ptr (S := S) (ρ := upd ρ (1000 + d) ⟨some (w.heap.size, (ofValue z).cells.length), 1⟩) (w := w.alloc (.cells z.cells e)) (1000 + d) 0 0 w.heap.size _ 1 (by simp [upd]; rfl)
      simpa [at0] using this
  · cases hb

theorem box_ok (h : SR E st S ρ a.tmps w) (o : Oper) {e : TypeId} {x : Operand} (ho : o.op = .box e x) {r : AR} (hb : aopB G o st = some r) : OpDone E G.P a o w r := by
  unfold aopB at hb
  rw [ho] at hb
  simp only at hb
  rw [Option.bind_eq_some_iff] at hb; obtain ⟨d, hd, hb⟩ := hb
  split at hb
  · rename_i hc
    obtain ⟨h0, hk, hl⟩ := hc
    obtain ⟨hn, rfl⟩ := newObj_some hb
    refine ⟨_, .pointer (some ⟨w.heap.size, 0, none⟩), _, S, _, ?_, .inl rfl, h.newBox hn (Nat.le_add_right _ _) (h.ev x) (okCells_known hk) e, ?_⟩
    · unfold execOp; rw [ho]; rfl
    · have := VR.ptr (S := S) (ρ := upd ρ (1000 + d) ⟨some (w.heap.size, (st.ev x).cells.length), 1⟩) (w := w.alloc (.cells (a.eval x).cells e)) (1000 + d) 0 0 w.heap.size _ 1 (by simp [upd]; rfl)
      simpa [at0] using this
  · split at hb
    · cases hb
      refine ⟨_, .pointer (some ⟨w.heap.size, 0, none⟩), _, S, ρ, ?_, .inl rfl, h.allocs (.cells (a.eval x).cells e), .undef _⟩
      unfold execOp; rw [ho]; rfl
    · cases hb

theorem own_new {S : Stab} {ρ : Rho} {w : World} {n sz k : Nat} {cells : Array Value} {t : TypeId} (h : k * sz ≤ cells.size) : VR S (upd ρ n ⟨some (w.heap.size, sz), k⟩) (w.alloc (.cells cells t)) (.own n) (.slice (some ⟨w.heap.size, 0, none⟩) k k) :=
  .own n w.heap.size sz k k (by simp [upd]) (Nat.le_refl _) ⟨cells, t, (0, 0), heap_new w _, h⟩
theorem own_newc {S : Stab} {ρ : Rho} {w : World} {n sz k cap : Nat} {cells : Array Value} {t : TypeId} (hc : k ≤ cap) (h : cap * sz ≤ cells.size) : VR S (upd ρ n ⟨some (w.heap.size, sz), k⟩) (w.alloc (.cells cells t)) (.own n) (.slice (some ⟨w.heap.size, 0, none⟩) k cap) :=
  .own n w.heap.size sz k cap (by simp [upd]) hc ⟨cells, t, (0, 0), heap_new w _, h⟩

theorem fix_slot (st : ASt) (ns : List Nat) (t : Nat) : (st.fix ns).slot t = st.slot t := rfl
theorem SameRows.none {hp hp' : Heap} (h : SameRows hp hp') {n : Nat} (hn : aget hp n = none) : aget hp' n = none := by
  have x := h n
  rw [hn] at x
  cases hb : aget hp' n with
  | none => rfl
  | some o => simp [hb] at x

theorem rowsL_mem' {l : List AV} {n : Nat} (h : n ∈ AV.rowsL l) : ∃ a ∈ l, n ∈ a.rows := by
  induction l with
  | nil => simp [AV.rowsL] at h
  | cons x l ih =>
    simp only [AV.rowsL, List.mem_append] at h
    rcases h with h | h
    · exact ⟨x, by simp, h⟩
    · obtain ⟨a, ha, hn⟩ := ih h; exact ⟨a, by simp [ha], hn⟩

theorem Cov.same {S : Stab} {ρ : Rho} {hp hp' : Heap} (s : SameRows hp hp') {n : Nat} (h : Cov S ρ hp n) : Cov S ρ hp' n := by
  intro sz es fx mv b s' k ho hb o hk
  obtain ⟨fx', ho'⟩ := s.symm.row ho
  exact h sz es fx' mv b s' k ho' hb o hk

mutual
theorem rv_same {hp hp' : Heap} (s : SameRows hp hp') : ∀ x : AV, x.rv hp' = x.rv hp
  | .own id => by
    simp only [AV.rv]
    have := s id
    cases h1 : aget hp id <;> cases h2 : aget hp' id <;> simp only [h1, h2] at this ⊢
    rename_i p q
    cases p <;> cases q <;> simp_all
  | .row id o l => by
    simp only [AV.rv]
    have := s id
    cases h1 : aget hp id <;> cases h2 : aget hp' id <;> simp only [h1, h2] at this ⊢
    rename_i p q
    cases p <;> cases q <;> simp_all
  | .agg cs => by simp only [AV.rv, rvL_same s cs]
  | .tup cs => by simp only [AV.rv, rvL_same s cs]
  | .iface t v => by simp only [AV.rv, rv_same s v]
  | .fn g x y => by simp only [AV.rv, rvL_same s x, rvL_same s y]
  | .undef => rfl | .yld _ => rfl | .mp _ => rfl | .win _ _ _ _ => rfl | .cm _ => rfl | .bool _ => rfl | .int _ _ => rfl | .str _ => rfl | .nilp => rfl | .nils => rfl | .nilf => rfl | .nilm => rfl | .nili => rfl | .list _ _ => rfl | .ep _ _ => rfl | .ptr _ _ _ => rfl
theorem rvL_same {hp hp' : Heap} (s : SameRows hp hp') : ∀ l : List AV, AV.rvL hp' l = AV.rvL hp l
  | [] => rfl
  | x :: l => by simp only [AV.rvL, rv_same s x, rvL_same s l]
end

/-- A value told as it stands, behind the rows' fixing. -/
theorem rv_fixed {tm : Array Value} (h : SR E st S ρ tm w) {ns : List Nat} {S' : Stab} (hS : ∀ b o, S b o → S' b o) (h' : SR E (st.fix ns) S' ρ tm w) (hc : ∀ n ∈ ns, Cov S' ρ st.hp n) (hsr : SameRows st.hp (st.fix ns).hp) {x : AV} {u : Value}
    (hx : VR S ρ w x u) (hn : ∀ n ∈ x.rows, n ∈ ns) : VR S' ρ w (x.rv st.hp) u := by
  have := (hx.ext (Ext.more hS w) (fun _ _ h => h)).rv h'.heap (fun n hn' => (hc n (hn n hn')).same hsr)
  rw [rv_same hsr] at this
  exact this

theorem buildSlice_run {P : Program} {S' : Stab} {t e : TypeId} {len : Nat} {parts : Array (Nat × Operand)} {ys : List AV} (he : elemOf? P t = some e) (hidx : parts.toList.map (·.1) = List.range len) (hz : ((P.info? e).bind (·.zero)).isSome = true) (hpure : AV.pureL ys = true)
    (hall : (ys.all fun y => okCells y && y.cells.length == P.cellsOf e) = true) (h0 : 0 < P.cellsOf e) (hsmall : len * P.cellsOf e ≤ 16777216) (hyl : ys.length = parts.size) (hyv : ∀ (j : Nat) y p, ys[j]? = some y → parts[j]? = some p → VR S' ρ w y (a.eval p.2)) :
    ∃ vs : Array Value, (Instr.buildSlice t len (parts.map fun (i, x) => (i, a.eval x))).run P w = .ok (.slice (some ⟨w.heap.size, 0, none⟩) len len) (w.alloc (.cells vs e)) ∧ vs.size = len * P.cellsOf e ∧ parts.size = len ∧ (∀ y ∈ ys, y.cells.length = P.cellsOf e) ∧
      ∀ (i j : Nat) y c, ys[i]? = some y → y.cells[j]? = some c → ∃ u, vs[i * P.cellsOf e + j]? = some u ∧ PR S' w c u ∧ scalarV u = true := by
  have hcell : ∀ y ∈ ys, y.cells.length = P.cellsOf e ∧ okCells y = true := by
    intro y hy
    have := List.all_eq_true.1 hall y hy
    simp only [Bool.and_eq_true, beq_iff_eq] at this
    exact ⟨this.2, this.1⟩
  have hlen : parts.size = len := by have := congrArg List.length hidx; simpa using this
  -- the machine lays it
  obtain ⟨z, hz⟩ := Option.isSome_iff_exists.1 hz
  obtain ⟨zero, hzero⟩ : ∃ zero : Array Value, zero = if len * P.cellsOf e = 0 then #[] else z.cells := ⟨_, rfl⟩
  generalize hbase : (Array.range (len * P.cellsOf e)).map (fun x => zero[x % zero.size]!) = base at *
  have hbs : base.size = len * P.cellsOf e := by rw [← hbase]; simp
  obtain ⟨rr, hrr⟩ := fillRow_some (k := P.cellsOf e) ys hcell 0 (List.replicate base.size .undef) (by simp [hyl, hlen, hbs])
  obtain ⟨f1, f2, f3, f4⟩ := fillRow ys 0 hrr
  obtain ⟨vs, e1, e2, e3⟩ := fill_ok (S := S') (ρ := ρ) (w := w) (pl := fun i => some (i * P.cellsOf e, P.cellsOf e)) (zipIx ys 0) (cs := List.replicate base.size .undef) (vs := base) (ps := (parts.map fun (i, x) => (i, a.eval x)).toList) (by simp)
    (fun j c u hj hu => by
      have : c = .undef := by rw [List.getElem?_replicate] at hj; split at hj <;> simp_all
      subst this; exact .undef u)
    (by
      have hz1 : ∀ (l : List AV) (s : Nat), (zipIx l s).map (·.1) = List.range' s l.length := by
        intro l
        induction l with
        | nil => intro s; rfl
        | cons x l ih => intro s; simp [zipIx, ih, List.range'_succ]
      rw [hz1, hyl, hlen, ← List.range_eq_range', ← hidx]
      simp [Function.comp])
    (fun j p q hp hq => by
      have hz2 : ∀ (l : List AV) (s j : Nat) p, (zipIx l s)[j]? = some p → l[j]? = some p.2 := by
        intro l
        induction l with
        | nil => intro s j p h; simp [zipIx] at h
        | cons x l ih =>
          intro s j p h
          cases j with
          | zero => simp [zipIx] at h; subst h; rfl
          | succ j => simp [zipIx] at h; simpa using ih _ _ _ h
      simp only [Array.toList_map, List.getElem?_map, Array.getElem?_toList] at hq
      obtain ⟨g, hg, rfl⟩ := Option.map_eq_some_iff.1 hq
      exact hyv j _ g (hz2 _ _ _ _ hp) hg) hrr
  have hrun : (Instr.buildSlice t len (parts.map fun (i, x) => (i, a.eval x))).run P w = .ok (.slice (some ⟨w.heap.size, 0, none⟩) len len) (w.alloc (.cells vs e)) := by
    unfold Instr.buildSlice
    rw [runB (run_underlying (elemOf_some he) w)]
    simp only []
    rw [runB (run_sizeOf rfl h0), if_neg (by omega)]
    split
    · rename_i hq
      rw [if_pos hq] at hzero; subst hzero
      rw [runB (Sem.run_pure _ w _), hbase, e1]
      rfl
    · rename_i hq
      rw [if_neg hq] at hzero; subst hzero
      rw [runB (zero_ok hz), runB (Sem.run_pure _ w _), hbase, e1]
      rfl
  have hvsz : vs.size = len * P.cellsOf e := by rw [← e2, f2]; simp [hbs]
  refine ⟨vs, hrun, hvsz, hlen, f1, fun i j y c hy hj => ?_⟩
  have hcr := f3 i j y c hy hj
  rw [Nat.zero_add] at hcr
  have hlt : i * P.cellsOf e + j < vs.size := by rw [← e2]; exact (List.getElem?_eq_some_iff.1 hcr).1
  have hv := e3 _ c _ hcr (Array.getElem?_eq_getElem hlt)
  have hpy : y.pureB = true := pureL_get hpure hy
  have hok := (hcell y (List.mem_of_getElem? hy)).2
  have hokc : okCell c = true := List.all_eq_true.1 hok c (List.mem_of_getElem? hj)
  have hcp : c.pureB = true := by
    cases y with
    | agg cs => exact pureL_get (l := cs) (by simpa [AV.pureB] using hpy) hj
    | _ => cases j with
      | zero => simp [AV.cells] at hj; subst hj; exact hpy
      | succ j => simp [AV.cells] at hj
  exact ⟨_, Array.getElem?_eq_getElem hlt, hv.pr hcp, vr_scalar hv hokc⟩

theorem buildSlice_ok (h : SR E st S ρ a.tmps w) (o : Oper) {t : TypeId} {len : Nat} {parts : Array (Nat × Operand)} (ho : o.op = .buildSlice t len parts) {r : AR} (hb : aopB G o st = some r) : OpDone E G.P a o w r := by
  unfold aopB at hb
  rw [ho] at hb
  simp only at hb
  rw [Option.bind_eq_some_iff] at hb; obtain ⟨d, hd, hb⟩ := hb
  rw [Option.bind_eq_some_iff] at hb; obtain ⟨e, he, hb⟩ := hb
  split at hb
  · rename_i hc
    obtain ⟨hidx, hz, hpure, hall, h0, hsmall⟩ := hc
    obtain ⟨hn, rfl⟩ := newObj_some hb
    obtain ⟨S', k1, k2, k3, k4⟩ := h.fix (AV.rowsL (parts.toList.map fun p => st.ev p.2))
    generalize hys : AV.rvL st.hp (parts.toList.map fun p => st.ev p.2) = ys at *
    have hyl : ys.length = parts.size := by rw [← hys, rvL_length]; simp
    have hyv : ∀ (j : Nat) y p, ys[j]? = some y → parts[j]? = some p → VR S' ρ w y (a.eval p.2) := by
      intro j y p hy hp
      rw [← hys, rvL_get, List.getElem?_map, Array.getElem?_toList, hp] at hy
      simp only [Option.map_some, Option.some.injEq] at hy
      subst hy
      refine rv_fixed h k1 k2 k3 k4 (h.ev p.2) fun n hn' => rowsL_mem (j := j) ?_ hn'
      rw [List.getElem?_map, Array.getElem?_toList, hp]; rfl
    obtain ⟨vs, hrun, hvsz, hlen, f1, f5⟩ := buildSlice_run (P := G.P) he hidx hz hpure hall h0 hsmall hyl hyv
    have hobj := k2.newRow (n := 1000 + d) hn (Nat.le_add_right _ _) (sz := G.P.cellsOf e) (es := ys) h0 f1 vs e (by rw [hyl, hlen, hvsz]; exact Nat.le_refl _) f5 false
    refine ⟨_, .slice (some ⟨w.heap.size, 0, none⟩) len len, w.alloc (.cells vs e), S', _, ?_, .inl rfl, hobj, ?_⟩
    · unfold execOp; rw [ho]; simp only []; rw [runB hrun]; rfl
    · rw [show ys.length = len by omega]
      exact own_new (by rw [hvsz]; exact Nat.le_refl _)
  · cases hb

/-- Cells that nobody has a name for may be stable. -/
theorem SR.stab {tm : Array Value} (h : SR E st S ρ tm w) {b : Nat} (hb : E.W0.heap.size ≤ b) (hlt : b < w.heap.size) (hno : ∀ n b' sz k, ρ n = some ⟨some (b', sz), k⟩ → b' ≠ b) : SR E st (fun b' o => S b' o ∨ b' = b) ρ tm w := by
  have hx : Ext S w (fun b' o => S b' o ∨ b' = b) w := Ext.more (fun _ _ h => .inl h) w
  refine h.step ⟨hx, Nat.le_refl _, fun _ _ _ => rfl, fun _ h => h, ?_, ?_, rfl, rfl, rfl⟩ (fun _ _ h => h)
    ⟨fun n x ho => (h.heap.obj n x ho).keep hx rfl (fun _ _ h => h) (fun b' sz k hb' => ⟨rfl, fun o hS => hS.resolve_right (hno n b' sz k hb')⟩), h.heap.dom, h.heap.inj⟩ h.mine (fun _ => rfl) h.old
  · rintro b' o (x | rfl)
    · exact .inl x
    · exact .inr (.inr hb)
  · rintro b' o (x | rfl)
    · exact h.fr.bnd b' o x
    · exact hlt

/-- A literal of plain things, told as a list that stands. -/
theorem bsv_ok (h : SR E st S ρ a.tmps w) (o : Oper) {t : TypeId} {len : Nat} {parts : Array (Nat × Operand)} (ho : o.op = .buildSlice t len parts) {v : AV} (hb : bsv G st t len parts = some v) :
    ∃ u w' S', (execOp a.eval o).run G.P w = .ok (.value u) w' ∧ SR E st S' ρ a.tmps w' ∧ VR S' ρ w' v u := by
  unfold bsv at hb
  rw [Option.bind_eq_some_iff] at hb; obtain ⟨e, he, hb⟩ := hb
  simp only at hb
  split at hb
  case isFalse => cases hb
  rename_i hc
  obtain ⟨hidx, hz, hpure, hall, h0, hsmall⟩ := hc
  cases hb
  generalize hys : (parts.toList.map fun p => st.ev p.2) = ys at *
  have hyl : ys.length = parts.size := by rw [← hys]; simp
  obtain ⟨vs, hrun, hvsz, hlen, f1, f5⟩ := buildSlice_run (P := G.P) (S' := S) (ρ := ρ) (w := w) (a := a) he hidx hz hpure hall h0 hsmall hyl (fun j y p hy hp => by
    rw [← hys, List.getElem?_map, Array.getElem?_toList, hp] at hy
    simp only [Option.map_some, Option.some.injEq] at hy
    subst hy
    exact h.ev p.2)
  have h1 := h.allocs (.cells vs e)
  have h2 := h1.stab (b := w.heap.size) h.fr.size (by simp) (fun n b' sz k hb' => Nat.ne_of_lt (h.heap.lt hb'))
  refine ⟨.slice (some ⟨w.heap.size, 0, none⟩) len len, w.alloc (.cells vs e), _, by unfold execOp; rw [ho]; simp only []; rw [runB hrun]; rfl, h2, .pure ?_⟩
  have hx : Ext S w (fun b' o => S b' o ∨ b' = w.heap.size) (w.alloc (.cells vs e)) := by
    have k := Ext.alloc h.fr.bnd (.cells vs e)
    exact ⟨fun _ _ h => .inl h, k.cell, k.shape, k.maps⟩
  by_cases hy0 : ys = []
  · subst hy0
    have : len = 0 := by rw [← hlen, ← hyl]; rfl
    subst this
    exact .empty _ _ _ (fun e => by omega)
  · have key : ∀ (i j : Nat) y c, ys[i]? = some y → y.cells[j]? = some c → (w.alloc (.cells vs e)).cell? (at0 w.heap.size (0 + i * G.P.cellsOf e + j)) = some (vs[i * G.P.cellsOf e + j]?.getD default) ∧ scalarV (vs[i * G.P.cellsOf e + j]?.getD default) = true ∧ PR (fun b' o => S b' o ∨ b' = w.heap.size) (w.alloc (.cells vs e)) c (vs[i * G.P.cellsOf e + j]?.getD default) := by
      intro i j y c hy hj
      obtain ⟨u, hu, hp, hs⟩ := f5 i j y c hy hj
      rw [Nat.zero_add, cell_block (heap_new w _), hu]
      exact ⟨rfl, hs, hp.ext hx⟩
    have := PR.list (S := fun b' o => S b' o ∨ b' = w.heap.size) (w := w.alloc (.cells vs e)) ys w.heap.size 0 len (G.P.cellsOf e) (fun i j => vs[i * G.P.cellsOf e + j]?.getD default) h0 (by omega) f1
      (fun i j y c hy hj => .inr rfl) (fun i j y c hy hj => (key i j y c hy hj).1) (fun i j y c hy hj => (key i j y c hy hj).2.1) (fun i j y c hy hj => (key i j y c hy hj).2.2)
    rw [show ys.length = len by omega] at this
    exact this

end Go.Proofs.YteibklnligmanaaDoor.Abs


/- What an operation that makes, or writes, memory comes to, the machine's comes to: stores, appends, panics; all but calls of functions. -/
namespace Go.Proofs.YteibklnligmanaaDoor.Abs
open Go Go.RowKit
set_option linter.unusedSimpArgs false
set_option linter.unusedVariables false

variable {G : Cfg} {S : Stab} {ρ : Rho} {w : World} {E : Env} {st : ASt} {a : Act}

theorem okCell_cells {c : AV} (h : okCell c = true) : c.cells = [c] := by cases c <;> first | rfl | cases h
theorem reCell_cells {v : AV} {cs : List AV} (hl : cs.length = v.cells.length) (ho : (∃ vs, v = .agg vs) ∨ ∀ c ∈ cs, okCell c = true) : (reCell v cs).cells = cs := by
  cases v with
  | agg vs => rfl
  | _ =>
    simp only [AV.cells, List.length_singleton] at hl
    match cs, hl with
    | [c], _ =>
      rcases ho with ⟨vs, e⟩ | ho
      · cases e
      · exact okCell_cells (ho c (by simp))

theorem vr_ptr' {S : Stab} {ρ : Rho} {w : World} {id i o : Nat} {v : Value} (h : VR S ρ w (.ptr id i o) v) : ∃ b sz n, ρ id = some ⟨some (b, sz), n⟩ ∧ v = .pointer (some (at0 b (i * sz + o))) := vr_ptr h

theorem run_storeVar {P : Program} {t : TypeId} {b o : Nat} {v : Value} {cells : Array Value} {t' : TypeId} {fr : Nat × Nat} (hsz : v.cells.size = P.cellsOf t) (h0 : (P.info? t).isSome = true) (hb : w.heap[b]? = some (.cells cells t' fr)) (hl : o + v.cells.size ≤ cells.size)
    (hf : Unfrozen w b cells.size) (hs : ∀ c ∈ v.cells.toList, scalarV c = true) : (storeVar t (at0 b o) v).run P w = .ok () (setCells w b o v.cells.toList) := by
  unfold storeVar
  have hso : (sizeOf t).run P w = .ok (P.cellsOf t) w := by
    obtain ⟨i, hi⟩ := Option.isSome_iff_exists.1 h0
    unfold sizeOf typeInfo Program.cellsOf
    simp [program, bind, Sem.bind, Sem.run, hi, pure]
  rw [runB hso, if_neg (by simpa using hsz)]
  have := run_storeCells (P := P) (b := b) (o := o) v.cells.toList w 0 cells t' fr hb (by simpa using hl) hf hs
  simpa using this

/-- Cells of an object, written over: nothing stable is among them. -/
theorem Ext.write {S : Stab} {b o : Nat} {l : List Value} {cells : Array Value} {t : TypeId} {fr : Nat × Nat} (hb : w.heap[b]? = some (.cells cells t fr)) (hl : o + l.length ≤ cells.size) (hS : ∀ i, ¬ S b i) : Ext S w S (setCells w b o l) := by
  obtain ⟨c', k1, k2, k3, k4⟩ := setCells_block b l w o cells t fr hb hl
  refine ⟨fun _ _ x => x, fun b' i hi => ?_, fun b' c t' fr' h => ?_, fun b' i _ _ hi h => ?_⟩
  · have : b' ≠ b := fun e => by subst e; exact hS i hi
    exact cell_same (setCells_other b l w o b' this) i
  · by_cases e : b' = b
    · subst e; rw [hb] at h; cases h; exact ⟨c', _, k1, k2⟩
    · exact ⟨c, fr', by rw [setCells_other b l w o b' e]; exact h, rfl⟩
  · have : b' ≠ b := fun e => by subst e; exact hS i hi
    rw [setCells_other b l w o b' this]; exact h

theorem putA_ok {v : AV} {cs new : List AV} {off : Nat} (hv : cs = v.cells) (hle : off + new.length ≤ cs.length) (hn : ∀ c ∈ new, okCell c = true) (hnl : 0 < new.length ∨ v.isA = true) : (reCell v (putA cs off new)).cells = putA cs off new := by
  subst hv
  refine reCell_cells (putA_length hle) ?_
  cases v with
  | agg vs => exact .inl ⟨vs, rfl⟩
  | _ =>
    right
    have hnl : 0 < new.length := hnl.resolve_right (by simp [AV.isA])
    simp only [AV.cells, List.length_singleton] at hle
    have h1 : off = 0 := by omega
    have h2 : new.length = 1 := by omega
    subst h1
    intro c hc
    simp only [putA, AV.cells, List.take_zero, List.nil_append, h2, Nat.zero_add, List.drop_succ_cons, List.drop_zero, List.append_nil] at hc
    exact hn c hc

theorem store_ok (h : SR E st S ρ a.tmps w) (o : Oper) {t : TypeId} {x y : Operand} (ho : o.op = .store t x y) {r : AR} (hb : aopB G o st = some r) : OpDone E G.P a o w r := by
  unfold aopB at hb
  rw [ho] at hb
  simp only at hb
  obtain ⟨st', hst, rfl⟩ := Option.map_eq_some_iff.1 hb
  have hx := h.ev x
  have hy := h.ev y
  have fin : ∀ {b off : Nat} {w' : World} {S' : Stab} {ρ' : Rho}, a.eval x = .pointer (some (at0 b off)) → (storeVar t (at0 b off) (a.eval y)).run G.P w = .ok () w' → SR E st' S' ρ' a.tmps w' → OpDone E G.P a o w (.val .undef st') := by
    intro b off w' S' ρ' e hrun hsr
    refine ⟨.skip, Go.undef, w', S', ρ', ?_, .inr ⟨rfl, rfl⟩, hsr, .undef _⟩
    unfold execOp; rw [ho]
    have : (Instr.storeAt t (a.eval x) (a.eval y)).run G.P w = .ok () w' := by
      unfold Instr.storeAt
      rw [e, runB (a := at0 b off) (by rfl)]; exact hrun
    simp only []
    rw [runB this]; rfl
  generalize hxv : st.ev x = X at *
  generalize hyv : st.ev y = Y at *
  generalize hue : a.eval y = u at *
  unfold storeA at hst
  split at hst
  · rename_i id i off
    obtain ⟨b, sz, n, hρ, ev⟩ := vr_ptr hx
    rw [Option.bind_eq_some_iff] at hst
    obtain ⟨ob, hob, hst⟩ := hst
    cases ob with
    | loop r l => cases hst
    | map es clk => cases hst
    | iter v0 a0 b0 c0 => cases hst
    | dblk => cases hst
    | box T v =>
      simp only at hst
      split at hst
      · rename_i hc
        obtain ⟨hi, hk, ⟨hinf, h0⟩, hcl, hle⟩ := hc
        subst hi
        cases hst
        have hn1 : n = 1 := by
          obtain ⟨_, _, _, _, q, _⟩ := h.heap.obj _ _ hob
          rw [hρ] at q; cases q; rfl
        subst hn1
        obtain ⟨rfl, cells, t', fr, g2, g3, g4, g5, g6⟩ := box_of h.heap hob hρ
        obtain ⟨c1, c2⟩ := vr_cells hy (okCells_known hk)
        have hsc := okCells_scalar hy hk
        rw [Nat.zero_mul, Nat.zero_add] at ev
        have hle' : off + u.cells.toList.length ≤ cells.size := by simp; omega
        have hrun := run_storeVar (P := G.P) (t := t) (b := b) (o := off) (v := u) (by omega) hinf g2 (by omega) g4 hsc
        obtain ⟨c', k1, k2, k3, k4⟩ := setCells_block b u.cells.toList w off cells t' fr g2 hle'
        have hxt := Ext.write (S := S) g2 hle' g5
        have hre := putA_ok (v := v) rfl hle (fun c hc => List.all_eq_true.1 hk c hc) (h0.elim (fun h => .inl (by omega)) .inr)
        have hrl : (reCell v (putA v.cells off Y.cells)).cells.length = v.cells.length := by rw [hre, putA_length hle]
        refine fin ev hrun (h.change hob hρ hxt (setCells_other b _ w off) (setCells_size b _ w off) (setCells_outer b _ w off) ⟨b, c', t', fr, by rw [hrl]; exact hρ, k1, by rw [hrl, k2]; exact g3, fun o ho' => by rw [frozen_block g2 k1]; exact g4 o (by omega), g5, fun j c hj => ?_⟩ (fun _ => rfl))
        rw [hre, putA_get hle] at hj
        split at hj
        · rename_i hin
          have hlt : j - off < u.cells.size := by omega
          have := k4 (j - off) (by simpa using hlt)
          rw [show off + (j - off) = j by omega] at this
          refine ⟨u.cells[j - off], by rw [this]; simp [hlt], (c2 (j - off) c _ hj (Array.getElem?_eq_getElem hlt)).ext hxt fun _ _ h => h⟩
        · rename_i hout
          obtain ⟨z, hz, hv⟩ := g6 j c hj
          exact ⟨z, by rw [k3 j (by simp; omega)]; exact hz, hv.ext hxt fun _ _ h => h⟩
      · cases hst
    | row s es fx mv =>
      simp only at hst
      split at hst
      · cases hst
      · rename_i hfx
        simp only [Bool.or_eq_true, not_or] at hfx
        obtain ⟨hfx, hnr⟩ := hfx
        have hfx' : fx = false := by simpa using hfx
        subst hfx'
        have hnr' : id ∉ Y.rows := by simpa using hnr
        rw [Option.bind_eq_some_iff] at hst
        obtain ⟨el, hel, hst⟩ := hst
        split at hst
        · rename_i hc
          obtain ⟨hpu, hk, h0, hcl, hle⟩ := hc
          cases hst
          obtain ⟨S', k1, k2, k3, k4⟩ := h.fix Y.rows
          have hy' : VR S' ρ w (Y.rv st.hp) u := rv_fixed h k1 k2 k3 k4 hy fun n hn => hn
          generalize hY : Y.rv st.hp = Z at *
          have hZ := hy'.pr hpu
          -- the row in the state whose rows are fixed
          have hob' : ∃ fx', aget (st.fix Y.rows).hp id = some (.row s es fx' mv) := k4.row hob
          obtain ⟨fx', hob'⟩ := hob'
          have hfx0 : fx' = false := by
            have : ∀ (ns : List Nat) (hp : Heap), id ∉ ns → aget (hfix ns hp) id = aget hp id := by
              intro ns
              induction ns with
              | nil => intro hp _; rfl
              | cons m ns ih =>
                intro hp hn
                simp only [List.mem_cons, not_or] at hn
                show aget (hfix ns (hmod AObj.fix m hp)) id = _
                rw [ih _ hn.2, aget_hmod, if_neg hn.1]
            have e := this Y.rows st.hp hnr'
            have : aget (st.fix Y.rows).hp id = aget st.hp id := e
            rw [this, hob] at hob'; cases hob'; rfl
          subst hfx0
          obtain ⟨rfl, rfl, hs0, hsl, cells, t', fr, g2, g3, g4, g5, g6⟩ := rowobj_of k2.heap hob' hρ
          have hS0 : ∀ o, ¬ S' b o := fun o ho' => by have := (g6 o ho').1; cases this
          obtain ⟨c1, c2⟩ := vr_cells hy' (okCells_known hk)
          have hsc := okCells_scalar hy' hk
          have hi : i < es.length := (List.getElem?_eq_some_iff.1 hel).1
          have hell : el.cells.length = sz := hsl el (List.mem_of_getElem? hel)
          have hbound : i * sz + sz ≤ cells.size := by
            have : (i + 1) * sz ≤ es.length * sz := Nat.mul_le_mul_right _ hi
            rw [Nat.add_mul, Nat.one_mul] at this; omega
          have hle' : i * sz + off + u.cells.toList.length ≤ cells.size := by simp; omega
          have hrun := run_storeVar (P := G.P) (t := t) (b := b) (o := i * sz + off) (v := u) (by omega) (by obtain ⟨i, hi, _⟩ := info_of_cells (P := G.P) (t := t) h0; simp [hi]) g2 (by omega) g4 hsc
          obtain ⟨c', q1, q2, q3, q4⟩ := setCells_block b u.cells.toList w (i * sz + off) cells t' fr g2 hle'
          have hxt := Ext.write (S := S') g2 hle' hS0
          have hokz : ∀ c ∈ Z.cells, okCell c = true := fun c hc => List.all_eq_true.1 hk c hc
          have hre := putA_ok (v := el) rfl hle hokz (.inl (by omega))
          have hrl : (reCell el (putA el.cells off Z.cells)).cells.length = sz := by rw [hre, putA_length hle, hell]
          have hset : ∀ (i' : Nat) e', (es.set i (reCell el (putA el.cells off Z.cells)))[i']? = some e' → (i' = i ∧ e' = reCell el (putA el.cells off Z.cells)) ∨ (i' ≠ i ∧ es[i']? = some e') := by
            intro i' e' he'
            rw [List.getElem?_set] at he'
            split at he'
            · rename_i e; subst e; simp [hi] at he'; subst he'; exact .inl ⟨rfl, rfl⟩
            · rename_i e; exact .inr ⟨fun e' => e e'.symm, he'⟩
          have hch := k2.change (n := id) hob' hρ hxt (setCells_other b _ w _) (setCells_size b _ w _) (setCells_outer b _ w _) (o := .row sz (es.set i (reCell el (putA el.cells off Z.cells))) false mv)
            (.inr ⟨b, c', t', fr, hs0, by simpa using hρ, fun e' he' => ?_, q1, by rw [List.length_set, q2]; exact g3, fun o ho' => by rw [frozen_block g2 q1]; exact g4 o (by omega), fun i' j e' c he' hj => ?_, fun o ho' => absurd ho' (hS0 o)⟩) (fun h => h)
          · exact fin ev hrun hch
          · obtain ⟨i', hi'⟩ := List.getElem?_of_mem he'
            rcases hset i' e' hi' with ⟨_, rfl⟩ | ⟨_, hh⟩
            · exact hrl
            · exact hsl e' (List.mem_of_getElem? hh)
          · rcases hset i' e' he' with ⟨rfl, rfl⟩ | ⟨hne, hh⟩
            · rw [hre, putA_get hle] at hj
              split at hj
              · rename_i hin
                have hlt : j - off < u.cells.size := by omega
                have := q4 (j - off) (by simpa using hlt)
                rw [show i' * sz + off + (j - off) = i' * sz + j by omega] at this
                have hvc := c2 (j - off) c _ hj (Array.getElem?_eq_getElem hlt)
                refine ⟨u.cells[j - off], by rw [this]; simp [hlt], (hZ.cells.2 (j - off) c _ hj (Array.getElem?_eq_getElem hlt)).ext hxt, (fun e => by cases e), vr_scalar hvc (hokz c (List.mem_of_getElem? hj))⟩
              · rename_i hout
                obtain ⟨z, hz, hv, _, hq⟩ := g5 i' j el c hel hj
                refine ⟨z, by rw [q3 _ (by simp; omega)]; exact hz, hv.ext hxt, (fun e => by cases e), hq⟩
            · obtain ⟨z, hz, hv, _, hq⟩ := g5 i' j e' c hh hj
              have hjk : j < sz := by rw [← hsl e' (List.mem_of_getElem? hh)]; exact (List.getElem?_eq_some_iff.1 hj).1
              have hsep : i' * sz + j < i * sz + off ∨ i * sz + off + u.cells.toList.length ≤ i' * sz + j := by
                simp only [Array.length_toList]
                rcases Nat.lt_or_gt_of_ne hne with hlt | hgt
                · have : (i' + 1) * sz ≤ i * sz := Nat.mul_le_mul_right _ hlt
                  rw [Nat.add_mul, Nat.one_mul] at this; omega
                · have : (i + 1) * sz ≤ i' * sz := Nat.mul_le_mul_right _ hgt
                  rw [Nat.add_mul, Nat.one_mul] at this; omega
              exact ⟨z, by rw [q3 _ hsep]; exact hz, hv.ext hxt, (fun e => by cases e), hq⟩
        · cases hst
  · cases hst

/-- 'append' onto nothing. -/
theorem append_nil_ok {P : Program} (h : SR E st S ρ a.tmps w) {id sz : Nat} {xs : List AV} (hn : aget st.hp id = none) (hlow : 1000 ≤ id) {t tx ty e : TypeId} {ux : Value}
    (ht : P.underlying t = some (.slice e)) (hsz : sz = P.cellsOf e) (h0 : 0 < sz) (hb : ((P.info? e).map (·.bytes)).getD 4097 ≤ 4096) (hz : zeroFits P e = true) (hL : xs.length ≤ LIM)
    {news : List Value} (hs : Src P sz tx ux xs.length news w) (hxl : ∀ x ∈ xs, x.cells.length = sz)
    (hx : ∀ (i j : Nat) e c, xs[i]? = some e → e.cells[j]? = some c → ∃ z, news[i * sz + j]? = some z ∧ PR S w c z ∧ scalarV z = true) :
    ∃ v w' S' ρ', (Builtin.append_ #[t, tx] ty #[.slice none 0 0, ux]).run P w = .ok v w' ∧ SR E { st with hp := (id, .row sz xs false ⟨false, e⟩) :: st.hp } S' ρ' a.tmps w' ∧ VR S' ρ' w' (.own id) v := by
  obtain ⟨ie, hie, hies⟩ := info_of_cells (P := P) (t := e) (by omega)
  obtain ⟨z, hz, hzs⟩ := zeroFits_ok hz
  have hz' : ie.zero = some z := by rw [hie] at hz; simpa using hz
  have hby : ie.bytes ≤ 4096 := by rw [hie] at hb; simpa using hb
  have hs' : Src P ie.size tx ux xs.length news w := by rw [hies, ← hsz]; exact hs
  unfold LIM at hL
  have hnl : news.length = xs.length * sz := hs.newsLen
  by_cases hxs : xs = []
  · subst hxs
    refine ⟨.slice none 0 0, w, S, upd ρ id ⟨none, 0⟩, ?_, h.new0 hn hlow sz false ⟨false, e⟩, .own0 id (by simp [upd])⟩
    rcases hs.kind with ⟨e', hk⟩ | hk <;> (have hn : news = [] := List.length_eq_zero_iff.1 (by simpa using hnl); have hcl := hs'.cells; have hln := hs.len w; subst hn; simp only [List.length_nil] at hcl hln; simp [Builtin.append_, run_underlying ht, run_underlying hk, sizeOf, typeInfo, hie, hln, hcl])
  · have hpos : 0 < xs.length := List.length_pos_iff.2 hxs
    have hfit : Builtin.nextslicecap (0 + xs.length) 0 * ie.bytes ≤ 281474976710656 := by
      have h1 := nextslicecap_le_wide (need := 0 + xs.length) (old := 0) (by omega)
      calc Builtin.nextslicecap (0 + xs.length) 0 * ie.bytes ≤ ((0 + xs.length) + (0 + xs.length) / 4 + 192) * 4096 := Nat.mul_le_mul h1 hby
        _ ≤ 281474976710656 := by omega
    have hrun := run_append_grow_src (P := P) w t tx ty e ie z ht hie hz' none 0 0 [] (by simp [Builtin.firstCells]) ux xs.length news hs' (by omega) (by omega) hfit
    have hge := grownCap_ge w (0 + xs.length) 0 e
    generalize hcp : grownCap w (0 + xs.length) 0 e = cap at hrun hge
    have hsize : (([] ++ news).toArray ++ Builtin.zeroCells z.cells (cap - (0 + xs.length))).size = cap * sz := by
      simp only [Array.size_append, List.size_toArray, List.length_append, size_zeroCells, hzs, hnl, ← hsz, List.length_nil]
      rw [Nat.zero_add, ← Nat.add_mul]; congr 1; omega
    have hS := h.drew.newRow (n := id) hn hlow (sz := sz) (es := xs) h0 hxl (([] ++ news).toArray ++ Builtin.zeroCells z.cells (cap - (0 + xs.length))) e
      (by rw [hsize]; exact Nat.mul_le_mul_right _ (by omega)) (fun i j e c he hj => by
        obtain ⟨q, hq, hp, hsc⟩ := hx i j e c he hj
        refine ⟨q, ?_, hp.ext (Ext.drew S w), hsc⟩
        have : i * sz + j < news.length := (List.getElem?_eq_some_iff.1 hq).1
        rw [Array.getElem?_append_left (by simpa using this)]
        simpa using hq) false
    refine ⟨_, _, S, _, hrun, hS, ?_⟩
    rw [show (0 + xs.length) = xs.length by omega]
    exact own_newc (by omega) (by rw [show (0 + xs.length) = xs.length by omega] at hsize; rw [hsize]; exact Nat.le_refl _)

/-- 'append' of a make, onto nothing. -/
theorem append_zeros_ok {P : Program} (h : SR E st S ρ a.tmps w) {id : Nat} (hn : aget st.hp id = none) (hlow : 1000 ≤ id) {t tx ty e : TypeId} {k : IntKind} {z : Value} {n : Int}
    (ht : P.underlying t = some (.slice e)) (hk : P.underlying tx = some (.int k)) (hz : (P.info? e).bind (·.zero) = some z) (c1 : 0 < n) (c3 : n ≤ LIM) (c4 : ((P.info? e).map (·.bytes)).getD 4097 ≤ 4096)
    (c5 : (ofValue z).pureB = true) (c6 : okCells (ofValue z) = true) (c7 : 0 < P.cellsOf e) (c8 : (ofValue z).cells.length = P.cellsOf e) :
    ∃ w' S' ρ' v, (Builtin.append_ #[t, tx] ty #[.slice none 0 0, .int .i64 n]).run P w = .ok v w' ∧ SR E { st with hp := (id, .row (P.cellsOf e) (List.replicate n.toNat (ofValue z)) false ⟨false, e⟩) :: st.hp } S' ρ' a.tmps w' ∧ VR S' ρ' w' (.own id) v := by
  obtain ⟨ie, hie, hies⟩ := info_of_cells (P := P) (t := e) (by omega)
  have hz' : ie.zero = some z := by rw [hie] at hz; simpa using hz
  have hby : ie.bytes ≤ 4096 := by rw [hie] at c4; simpa using c4
  unfold LIM at c3
  have wl : IntKind.i64.wrap n = n := by rw [IntKind.wrap_i64]; omega
  obtain ⟨zc1, zc2⟩ := vr_cells (S := S) (ρ := ρ) (w := w) (vr_ofValue z) (okCells_known c6)
  have hzs : z.cells.size = ie.size := by omega
  have n1 : ¬ n < 0 := by omega
  have n2 : ¬ (281474976710656 < n * (ie.bytes : Int)) := by
    have : n * (ie.bytes : Int) ≤ n * 4096 := Int.mul_le_mul_of_nonneg_left (by omega) (by omega)
    omega
  have n3 : ¬ n.toNat = 0 := by omega
  have n4 : ¬ (9223372036854775807 < (n.toNat : Int)) := by omega
  have n5 : ¬ (n.toNat * ie.size = 0) := by rw [Nat.mul_eq_zero]; omega
  have hfit : ¬ (281474976710656 < Builtin.nextslicecap n.toNat 0 * ie.bytes) := by
    have h1 := nextslicecap_le_wide (need := n.toNat) (old := 0) (by omega)
    have h2 : Builtin.nextslicecap n.toNat 0 * ie.bytes ≤ (n.toNat + n.toNat / 4 + 192) * 4096 := Nat.mul_le_mul h1 hby
    omega
  have hge := grownCap_ge w n.toNat 0 e
  have n6 : ¬ n ≤ 0 := by omega
  have n7 : ¬ (9223372036854775807 < max n 0) := by omega
  have hrun : (Builtin.append_ #[t, tx] ty #[.slice none 0 0, .int .i64 n]).run P w = .ok (.slice (some ⟨w.heap.size, 0, none⟩) n.toNat (grownCap w n.toNat 0 e))
      (w.drew.alloc (.cells (Builtin.zeroCells z.cells n.toNat ++ Builtin.zeroCells z.cells (grownCap w n.toNat 0 e - n.toNat)) e)) := by
    simp [Builtin.append_, run_underlying ht, run_underlying hk, sizeOf, typeInfo, zeroValue, hie, hz', asInt, asIntOf, wl, n1, n2, n3, n4, n5, n6, n7, hfit, Builtin.firstCells, Question.forced, newRow, grownCap, loadCells, loadCellsFrom]
  generalize hcp : grownCap w n.toNat 0 e = cap at hrun hge
  have hzsz : ∀ m, (Builtin.zeroCells z.cells m).size = m * ie.size := fun m => by rw [size_zeroCells, hzs]
  have hsize : (Builtin.zeroCells z.cells n.toNat ++ Builtin.zeroCells z.cells (cap - n.toNat)).size = cap * ie.size := by
    rw [Array.size_append, hzsz, hzsz, ← Nat.add_mul]; congr 1; omega
  have hS := h.drew.newRow (n := id) hn hlow (sz := P.cellsOf e) (es := List.replicate n.toNat (ofValue z)) c7 (fun y hy => by rw [List.eq_of_mem_replicate hy]; exact c8) (Builtin.zeroCells z.cells n.toNat ++ Builtin.zeroCells z.cells (cap - n.toNat)) e
    (by rw [hsize, hies, List.length_replicate]; exact Nat.mul_le_mul_right _ hge) (fun i j y c hy hj => by
      rw [List.getElem?_replicate] at hy
      split at hy
      · rename_i hi
        cases hy
        have hjl : j < (ofValue z).cells.length := (List.getElem?_eq_some_iff.1 hj).1
        have hjz : j < z.cells.size := by omega
        have hv := zc2 j c _ hj (Array.getElem?_eq_getElem hjz)
        have hcp : c.pureB = true := by
          generalize ofValue z = q at *
          cases q with
          | agg cs => exact pureL_get (l := cs) (by simpa [AV.pureB] using c5) hj
          | _ => cases j with
            | zero => simp [AV.cells] at hj; subst hj; exact c5
            | succ j => simp [AV.cells] at hj
        have hlt : i * ie.size + j < n.toNat * ie.size := by
          have : (i + 1) * ie.size ≤ n.toNat * ie.size := Nat.mul_le_mul_right _ hi
          rw [Nat.add_mul, Nat.one_mul] at this; omega
        have e2 : (i * ie.size + j) % z.cells.size = j := by rw [hzs, Nat.mul_comm, Nat.mul_add_mod, Nat.mod_eq_of_lt (by omega)]
        refine ⟨z.cells[j], ?_, (hv.pr hcp).ext (Ext.drew S w), vr_scalar hv (List.all_eq_true.1 c6 c (List.mem_of_getElem? hj))⟩
        rw [← hies, Array.getElem?_append_left (by rw [hzsz]; exact hlt)]
        unfold Builtin.zeroCells
        simp only [Array.getElem?_map, Array.getElem?_range, hzs, hlt, if_true, Option.map_some]
        rw [hzs] at e2
        rw [e2, getElem!_pos z.cells j hjz]
      · cases hy) false
  refine ⟨_, S, _, _, hrun, hS, ?_⟩
  rw [List.length_replicate]
  exact own_newc hge (by rw [hsize, hies]; exact Nat.le_refl _)

theorem append_ok (h : SR E st S ρ a.tmps w) (o : Oper) {x y : Operand} {t xt : TypeId} (ho : o.op = .call ⟨.builtin .append, #[x, y], #[t, xt]⟩) {r : AR} (hb : (o.dst.bind fun d => appendA G d t xt (st.ev x) (st.ev y) st) = some r) : OpDone E G.P a o w r := by
  rw [Option.bind_eq_some_iff] at hb
  obtain ⟨d, hd, hb⟩ := hb
  have hx := h.ev x
  have hy := h.ev y
  have fin : ∀ {v : Value} {w' : World} {S' : Stab} {ρ' : Rho} {av : AV} {st' : ASt}, (Builtin.append_ #[t, xt] o.type #[a.eval x, a.eval y]).run G.P w = .ok v w' → SR E st' S' ρ' a.tmps w' → VR S' ρ' w' av v → OpDone E G.P a o w (.val av st') := by
    intro v w' S' ρ' av st' hrun hsr hv
    refine ⟨_, v, w', S', ρ', ?_, .inl rfl, hsr, hv⟩
    unfold execOp; rw [ho]
    simp [resolve, invoke, builtin, hrun]
  unfold appendA at hb
  split at hb
  · rename_i e ht
    have main : ∀ (hk : (∃ e', G.P.underlying xt = some (.slice e')) ∨ G.P.underlying xt = some .string)
        (hb : ((srcEls st.hp (G.P.cellsOf e) (st.ev y)).bind fun xs =>
          if G.P.cellsOf e = 0 ∨ 4096 < ((G.P.info? e).map (·.bytes)).getD 4097 ∨ !zeroFits G.P e then none else
          match st.ev x with
          | .nils => if xs.length ≤ LIM then newObj d (.row (G.P.cellsOf e) xs false ⟨false, e⟩) .own st else none
          | .own id => (aget st.hp id).bind fun
            | .row sz es fx m => if sz = G.P.cellsOf e ∧ es.length + xs.length ≤ LIM ∧ m.t = e then some (.val (.own id) { (st.killn id) with hp := hput id (.row sz (es ++ xs) fx ⟨true, e⟩) (st.killn id).hp }) else none
            | _ => none
          | _ => none) = some r), OpDone E G.P a o w r := by
      intro hk hb
      rw [Option.bind_eq_some_iff] at hb
      obtain ⟨xs, hxs, hb⟩ := hb
      split at hb
      · cases hb
      · rename_i hc
        simp only [not_or, Bool.not_eq_true', Bool.not_eq_false] at hc
        obtain ⟨hc0, hcb, hcz⟩ := hc
        have h0 : 0 < G.P.cellsOf e := by omega
        obtain ⟨news, hs, hxl, hxc⟩ := src_ok (P := G.P) h.heap h0 hk hy hxs
        split at hb
        · rename_i hxe
          rw [hxe] at hx
          have ev := vr_nils hx
          split at hb
          · rename_i hL
            obtain ⟨hn, rfl⟩ := newObj_some hb
            rw [ev] at fin
            obtain ⟨v, w', S', ρ', k1, k2, k3⟩ := append_nil_ok (P := G.P) (ty := o.type) h hn (Nat.le_add_right _ _) ht rfl h0 (by omega) (by simpa using hcz) hL hs hxl hxc
            exact fin k1 k2 k3
          · cases hb
        · rename_i id hxe
          rw [hxe] at hx
          rw [Option.bind_eq_some_iff] at hb
          obtain ⟨ob, hob, hb⟩ := hb
          cases ob with
          | box T v => cases hb
          | loop r l => cases hb
          | map es clk => cases hb
          | iter v0 a0 b0 c0 => cases hb
          | dblk => cases hb
          | row sz es fx mv =>
            simp only at hb
            split at hb
            · rename_i hL
              cases hb
              obtain ⟨v, w', S', ρ', k1, k2, k3⟩ := append_own_ok (P := G.P) (ty := o.type) h hob hx ht hL.1 (by omega) (by omega) (by simpa using hcz) hL.2.1 hL.2.2 (by rw [hL.1]; exact hs) (by rw [hL.1]; exact hxl) (by rw [hL.1]; exact hxc)
              exact fin k1 k2 k3
            · cases hb
        · cases hb
    split at hb
    · rename_i e' hk; exact main (.inl ⟨e', hk⟩) hb
    · rename_i hk; exact main (.inr hk) hb
    · rename_i ki hk
      rw [Option.bind_eq_some_iff] at hb; obtain ⟨z, hz, hb⟩ := hb
      split at hb
      · rename_i n hxe hye
        split at hb
        · rename_i hc
          obtain ⟨c1, c3, c4, c5, c6, c7, c8⟩ := hc
          obtain ⟨hn, rfl⟩ := newObj_some hb
          rw [hxe] at hx; rw [hye] at hy
          rw [vr_nils hx, vr_int hy] at fin
          obtain ⟨w', S', ρ', v, k1, k2, k3⟩ := append_zeros_ok (P := G.P) (ty := o.type) h hn (Nat.le_add_right _ _) ht hk hz c1 c3 c4 c5 c6 c7 c8
          exact fin k1 k2 k3
        · cases hb
      · cases hb
    · cases hb
  · cases hb

end Go.Proofs.YteibklnligmanaaDoor.Abs


/- Operations on maps. -/
namespace Go.Proofs.YteibklnligmanaaDoor.Abs
open Go Go.RowKit
set_option linter.unusedSimpArgs false
set_option linter.unusedVariables false

variable {G : Cfg} {S : Stab} {ρ : Rho} {w : World} {E : Env} {st : ASt} {a : Act}

theorem run_setM {P : Program} {r : Nat} {es : Array MapEntry} {k : Nat} {o : Obj} (hb : w.heap[r]? = some (.map es k)) : (setObj r o).run P w = .ok () (w.putObj r o) := by
  simp [setObj, Sem.run, hb, World.putObj]
theorem Ext.putM {S : Stab} {l : Nat} {M : Array MapEntry} {k : Nat} {o : Obj} (h : w.heap[l]? = some (.map M k)) (ho : ∀ c t fr, o ≠ .cells c t fr) (hS : ∀ o, ¬ S l o) : Ext S w S (w.putObj l o) := by
  have hlt := lt_of_block h
  refine ⟨fun _ _ h => h, fun b o' _ => ?_, fun b c t fr hb => ?_, fun b i _ _ hi hb => by
    have : b ≠ l := fun e => by subst e; exact hS i hi
    rw [World.putObj_heap_other this]; exact hb⟩
  · by_cases e : b = l
    · subst e
      have h1 : (w.putObj b o).heap[b]? = some o := World.putObj_heap_same hlt
      have : w.cell? (at0 b o') = none := by simp [World.cell?, at0, h]
      rw [this]
      unfold World.cell?
      simp only [at0, h1]
      cases o <;> first | rfl | exact absurd rfl (ho _ _ _)
    · exact cell_same (World.putObj_heap_other e) o'
  · have : b ≠ l := fun e => by subst e; rw [h] at hb; cases hb
    exact ⟨c, fr, by rw [World.putObj_heap_other this]; exact hb, rfl⟩

theorem findNow_some {d : TypeDesc} {k : Value} : ∀ {L : List MapEntry} {i j : Nat} {v : Value}, Instr.findNow d k L i = some (some (j, v)) → ∃ m : MapEntry, i ≤ j ∧ L[j - i]? = some m ∧ Instr.sameNow d k m.key = some true ∧ m.val = v := by
  intro L
  induction L with
  | nil => intro i j v h; simp [Instr.findNow] at h
  | cons m L ih =>
    intro i j v h
    unfold Instr.findNow at h
    split at h
    · rename_i hs
      cases h
      exact ⟨m, Nat.le_refl _, by simp, hs, rfl⟩
    · obtain ⟨m', h1, h2, h3, h4⟩ := ih h
      refine ⟨m', by omega, ?_, h3, h4⟩
      rw [show j - i = (j - (i + 1)) + 1 by omega]
      simpa using h2
    · cases h
theorem sameNow_bits {d : TypeDesc} {k v : Value} (h : Instr.sameNow d k v = some true) : Instr.sameBits 10000 v k = true := by
  show Instr.sameBits (9999 + 1) v k = true
  unfold Instr.sameNow at h
  split at h
  · split at h
    · rename_i e
      simp only [Option.some.injEq, beq_iff_eq] at h
      subst e h
      simp [Instr.sameBits]
    · cases h
  · simp only [Option.some.injEq, beq_bytes, beq_iff_eq] at h
    simp [Instr.sameBits, beq_bytes, h]
  · simp only [Option.some.injEq, beq_iff_eq] at h
    simp [Instr.sameBits, h]
  · cases h

/-- What is stored is there, and nothing else turned. -/
theorem entR_set {es : List (Nat × AV × AV)} {M : Array MapEntry} (hE : EntR S w es M) {k y : AV} {kv u : Value} (hk : PR S w k kv) (hy : PR S w y u) (i : Nat) :
    EntR S w (es.modify i fun e => (e.1, k, y)) (M.modify i fun e => { e with key := kv, val := u }) := by
  refine ⟨by simpa using hE.1, fun j e he => ?_⟩
  rw [List.getElem?_modify] at he
  obtain ⟨e0, he0, rfl⟩ := Option.map_eq_some_iff.1 he
  obtain ⟨m, h1, h2, h3, h4⟩ := hE.2 j e0 he0
  rw [Array.getElem?_modify, h1]
  by_cases hij : i = j
  · exact ⟨{ m with key := kv, val := u }, by simp [hij], by simp [hij, h2], by simpa [hij] using hk, by simpa [hij] using hy⟩
  · exact ⟨m, by simp [hij], by simp [hij, h2], by simpa [hij] using h3, by simpa [hij] using h4⟩
theorem entR_push {es : List (Nat × AV × AV)} {M : Array MapEntry} (hE : EntR S w es M) {k y : AV} {kv u : Value} (hk : PR S w k kv) (hy : PR S w y u) (b : Nat) :
    EntR S w (es ++ [(b, k, y)]) (M.push { key := kv, val := u, born := b }) := by
  refine ⟨by simp [hE.1], fun j e he => ?_⟩
  rw [List.getElem?_append] at he
  split at he
  · rename_i hlt
    obtain ⟨m, h1, h2⟩ := hE.2 j e he
    exact ⟨m, by rw [Array.getElem?_push_lt (by rw [hE.1]; exact hlt)]; rw [← h1]; exact (Array.getElem?_eq_getElem _).symm, h2⟩
  · rename_i hge
    have hj : j = es.length := by
      rcases Nat.lt_or_ge (j - es.length) 1 with h | h
      · omega
      · rw [List.getElem?_eq_none (by simpa using h)] at he; cases he
    subst hj
    simp at he
    subst he
    exact ⟨{ key := kv, val := u, born := b }, by rw [← hE.1]; simp, rfl, hk, hy⟩
theorem entR_erase {es : List (Nat × AV × AV)} {M : Array MapEntry} (hE : EntR S w es M) (i : Nat) : EntR S w (es.eraseIdx i) (M.eraseIdxIfInBounds i) := by
  have e : (M.eraseIdxIfInBounds i).toList = M.toList.eraseIdx i := by simp
  refine ⟨?_, fun j x hx => ?_⟩
  · have : (M.eraseIdxIfInBounds i).size = (M.toList.eraseIdx i).length := by rw [← e, Array.length_toList]
    rw [this, List.length_eraseIdx, List.length_eraseIdx]
    simp only [Array.length_toList, hE.1]
  · rw [List.getElem?_eraseIdx] at hx
    have h2 : (M.eraseIdxIfInBounds i)[j]? = (M.toList.eraseIdx i)[j]? := by rw [← e, Array.getElem?_toList]
    rw [h2, List.getElem?_eraseIdx]
    split at hx
    · rename_i hlt
      rw [if_pos hlt]
      simpa using hE.2 j x hx
    · rename_i hlt
      rw [if_neg hlt]
      simpa using hE.2 (j + 1) x hx
theorem EntR.ext {S' : Stab} {w' : World} {es : List (Nat × AV × AV)} {M : Array MapEntry} (x : Ext S w S' w') (h : EntR S w es M) : EntR S' w' es M :=
  ⟨h.1, fun j e he => let ⟨m, h1, h2, h3, h4⟩ := h.2 j e he; ⟨m, h1, h2, h3.ext x, h4.ext x⟩⟩

theorem makeMap_ok (h : SR E st S ρ a.tmps w) (o : Oper) {t : TypeId} {rs : Option Operand} (ho : o.op = .makeMap t rs) {r : AR} (hb : aopB G o st = some r) : OpDone E G.P a o w r := by
  unfold aopB at hb
  rw [ho] at hb
  simp only at hb
  rw [Option.bind_eq_some_iff] at hb; obtain ⟨d, hd, hb⟩ := hb
  split at hb
  · rename_i hc
    simp only [Bool.and_eq_true] at hc
    have hrs : rs = none := by cases rs; rfl; simp at hc
    subst hrs
    obtain ⟨hn, rfl⟩ := newObj_some hb
    refine ⟨_, .map (some w.heap.size), _, S, _, ?_, .inl rfl, h.newG hn (Nat.le_add_right _ _) (.map [] 0) (.map #[] 0) 0 0 ⟨w.heap.size, #[], by simp [upd], heap_new w _, fun o ho => absurd (h.fr.bnd _ _ ho) (Nat.lt_irrefl _), rfl, fun j e he => by simp at he⟩, ?_⟩
    · unfold execOp; rw [ho]; rfl
    · exact .mp _ w.heap.size 0 0 (by simp [upd])
  · cases hb
theorem range_ok (h : SR E st S ρ a.tmps w) (o : Oper) {t : TypeId} {x : Operand} (ho : o.op = .range t x) {r : AR} (hb : aopB G o st = some r) : OpDone E G.P a o w r := by
  unfold aopB at hb
  rw [ho] at hb
  simp only at hb
  rw [Option.bind_eq_some_iff] at hb; obtain ⟨d, hd, hb⟩ := hb
  split at hb
  · rename_i hc
    rw [Option.bind_eq_some_iff] at hb; obtain ⟨⟨es, k⟩, he, hb⟩ := hb
    obtain ⟨hn, rfl⟩ := newObj_some hb
    obtain ⟨b, M, ev, hbm, hE⟩ := mapObj_ok h.heap (h.ev x) he
    have hlt := lt_of_block hbm
    have hr : ∀ id r, ρ id = some r → upd ρ (1000 + d) ⟨some (w.heap.size, 0), 0⟩ id = some r := by
      intro id r hid
      have : id ≠ 1000 + d := fun e => by subst e; rw [h.heap.dom _ hn] at hid; cases hid
      simp [upd, this, hid]
    refine ⟨_, .pointer (some ⟨w.heap.size, 0, none⟩), _, S, _, ?_, .inl rfl, h.newG hn (Nat.le_add_right _ _) (.iter (st.ev x) k [] k) (.mapIter (some b) k #[] k) 0 0 ⟨w.heap.size, some b, by simp [upd], heap_new w _, fun o ho => absurd (h.fr.bnd _ _ ho) (Nat.lt_irrefl _), ?_⟩, ?_⟩
    · unfold execOp; rw [ho]
      have : (Instr.range t (a.eval x)).run G.P w = .ok (.pointer (some ⟨w.heap.size, 0, none⟩)) (w.alloc (.mapIter (some b) k #[] k)) := by
        unfold Instr.range
        unfold isMapT at hc
        split at hc
        · rename_i hu
          rw [runB (run_underlying hu w), ev]
          simp only [bind_assoc]
          rw [runB (run_getM hbm)]; rfl
        · cases hc
      rw [runB this]; rfl
    · have := h.ev x
      rw [ev] at this
      exact this.ext (Ext.alloc h.fr.bnd _) hr
    · have := VR.ptr (S := S) (ρ := upd ρ (1000 + d) ⟨some (w.heap.size, 0), 0⟩) (w := w.alloc (.mapIter (some b) k #[] k)) (1000 + d) 0 0 w.heap.size 0 0 (by simp [upd])
      simpa [at0] using this
  · cases hb
theorem update_ok (h : SR E st S ρ a.tmps w) (o : Oper) {t : TypeId} {m k x : Operand} (ho : o.op = .mapUpdate t m k x ∨ o.op = .insert t m k x) {r : AR} (hb : (updA G t (st.ev m) (st.ev k) (st.ev x) st).map (fun s => AR.val .undef s) = some r) : OpDone E G.P a o w r := by
  obtain ⟨st', hst, rfl⟩ := Option.map_eq_some_iff.1 hb
  have hm := h.ev m
  have hk := h.ev k
  have hx := h.ev x
  have fin : ∀ {w' : World} {S' : Stab} {ρ' : Rho}, (Instr.mapUpdate t (a.eval m) (a.eval k) (a.eval x)).run G.P w = .ok () w' → SR E st' S' ρ' a.tmps w' → OpDone E G.P a o w (.val .undef st') := by
    intro w' S' ρ' hrun hsr
    refine ⟨.skip, Go.undef, w', S', ρ', ?_, .inr ⟨rfl, rfl⟩, hsr, .undef _⟩
    unfold execOp
    rcases ho with ho | ho <;> rw [ho] <;> simp only [] <;> rw [runB hrun] <;> rfl
  generalize st.ev m = X at *
  generalize st.ev k = K at *
  generalize st.ev x = Y at *
  generalize a.eval m = um at *
  generalize a.eval k = uk at *
  generalize a.eval x = u at *
  unfold updA at hst
  split at hst
  · rename_i kt et id hu
    rw [Option.bind_eq_some_iff] at hst
    obtain ⟨ob, hob, hst⟩ := hst
    split at hst
    · rename_i es clk
      split at hst
      · rename_i hc
        simp only [Bool.and_eq_true] at hc
        obtain ⟨⟨⟨hpk, hkp⟩, hpu⟩, hnr⟩ := hc
        obtain ⟨rf, hrf, rfl⟩ := Option.map_eq_some_iff.1 hst
        obtain ⟨b, sz, n, hρ, rfl⟩ := vr_mp hm
        obtain ⟨S', k1, k2, k3, k4⟩ := h.fix Y.rows
        have hy' : VR S' ρ w (Y.rv st.hp) u := rv_fixed h k1 k2 k3 k4 hx fun n hn => hn
        generalize Y.rv st.hp = Z at *
        have hZ := hy'.pr hpu
        have hK := (hk.pr hkp).ext (Ext.more k1 w)
        have hob' : aget (st.fix Y.rows).hp id = some (.map es clk) := by
          have q := k4 id
          rw [hob] at q
          cases hq : aget (st.fix Y.rows).hp id with
          | none => simp [hq] at q
          | some o' => cases o' <;> simp [hq] at q; obtain ⟨rfl, rfl⟩ := q; rfl
        obtain ⟨b', M, h1, h2, h3, h4, h5⟩ := k2.heap.obj id _ hob'
        rw [hρ] at h1; cases h1
        have hE : EntR S' w es M := ⟨h4, h5⟩
        cases hd : G.P.underlying kt with
        | none => rw [hd] at hpk; simp [plainKey] at hpk
        | some d =>
          rw [hd] at hpk hrf
          obtain ⟨r', hf, hr'⟩ := findKey_ok (P := G.P) hd (hk.ext (Ext.more k1 w) fun _ _ h => h) hE hrf
          have hrun : ∀ M' clk', (match r' with | some (i, _) => (do let key ← Instr.keyThatStays (((M[i]?).map fun x : MapEntry => x.key).getD uk) uk; setObj b (.map (M.modify i fun e => { e with key, val := u }) clk)) | none => (setObj b (.map (M.push { key := uk, val := u, born := clk }) (clk + 1)) : Sem Unit)).run G.P w = .ok () (w.putObj b (.map M' clk')) →
              (Instr.mapUpdate t (.map (some b)) uk u).run G.P w = .ok () (w.putObj b (.map M' clk')) := by
            intro M' clk' hh
            unfold Instr.mapUpdate
            rw [runB (run_underlying hu w)]
            simp only
            rw [runB (run_getM h2)]
            simp only
            rw [runB (checkKey_ok hd hpk _ _), runB hf]
            exact hh
          have hput1 : ∀ M' clk' ob', ObjR S' ρ (w.putObj b (.map M' clk')) id ob' → (∀ e, ob'.moved = e → e = false) → SR E { st.fix Y.rows with hp := hput id ob' (st.fix Y.rows).hp } S' ρ a.tmps (w.putObj b (.map M' clk')) := fun M' clk' ob' hob2 hmv =>
            k2.change hob' hρ (Ext.putM h2 (fun _ _ _ e => by cases e) h3) (fun b' hne => World.putObj_heap_other hne) World.putObj_size ⟨rfl, rfl, rfl⟩ hob2 (fun _ => rfl)
          have hx2 : ∀ M' clk', Ext S' w S' (w.putObj b (.map M' clk')) := fun M' clk' => Ext.putM h2 (fun _ _ _ e => by cases e) h3
          rcases hr' with ⟨rfl, rfl⟩ | ⟨i, v0, v1, rfl, rfl, _⟩
          · refine fin (hrun _ _ (run_setM h2)) (hput1 _ _ _ ?_ (fun e he => he ▸ rfl))
            have := (entR_push hE hK hZ clk).ext (hx2 (M.push { key := uk, val := u, born := clk }) (clk + 1))
            exact ⟨b, _, hρ, World.putObj_heap_same (lt_of_block h2), h3, this.1, this.2⟩
          · have hstay : (Instr.keyThatStays (((M[i]?).map fun x : MapEntry => x.key).getD uk) uk).run G.P w = .ok uk w := by
              unfold Instr.findKey at hf
              rw [runB (run_underlying hd w)] at hf
              cases hn : Instr.findNow d uk M.toList 0 with
              | none =>
                obtain ⟨rr, e1, _⟩ := findA_ok (hk.ext (Ext.more k1 w) fun _ _ h => h) (L := M.toList) (by simpa using hE.1) (fun j e he => by have := hE.2 j e he; simpa using this) hrf
                rw [hn] at e1; cases e1
              | some rr =>
                rw [hn] at hf
                have : rr = some (i, v1) := by cases hf; rfl
                subst this
                obtain ⟨m, _, e2, e3, _⟩ := findNow_some hn
                have e4 : M[i]? = some m := by simpa using e2
                unfold Instr.keyThatStays
                rw [e4]
                simp [sameNow_bits e3]
            refine fin (hrun _ _ (by simp only; rw [runB hstay]; exact run_setM h2)) (hput1 _ _ _ ?_ (fun e he => he ▸ rfl))
            have := (entR_set hE hK hZ i).ext (hx2 (M.modify i fun e => { e with key := uk, val := u }) clk)
            exact ⟨b, _, hρ, World.putObj_heap_same (lt_of_block h2), h3, this.1, this.2⟩
      · cases hst
    · cases hst
  · cases hst
theorem delete_ok (h : SR E st S ρ a.tmps w) (o : Oper) {t : TypeId} {ts : List TypeId} {m k : Operand} (ho : ∃ c, o.op = .call c ∧ c.callee = .builtin .delete ∧ c.args.toList = [m, k] ∧ c.argTypes.toList = t :: ts) {r : AR} (hb : (delA G t (st.ev m) (st.ev k) st).map (fun s => AR.val (.tup []) s) = some r) : OpDone E G.P a o w r := by
  obtain ⟨st', hst, rfl⟩ := Option.map_eq_some_iff.1 hb
  obtain ⟨⟨cal, args, tys⟩, hop, h1, h2, h3⟩ := ho
  simp only at h1 h2 h3
  obtain rfl : args = #[m, k] := by apply Array.ext'; exact h2
  have hty : tys[0]? = some t := by rw [← Array.getElem?_toList, h3]; rfl
  subst h1
  have hm := h.ev m
  have hk := h.ev k
  have fin : ∀ {w' : World}, (Builtin.delete_ tys o.type #[a.eval m, a.eval k]).run G.P w = .ok (.tuple #[]) w' → SR E st' S ρ a.tmps w' → OpDone E G.P a o w (.val (.tup []) st') := by
    intro w' hrun hsr
    refine ⟨_, .tuple #[], w', S, ρ, ?_, .inl rfl, hsr, .tup _ _ rfl fun j c v e => by simp at e⟩
    unfold execOp
    rw [hop]
    simp [resolve, invoke, builtin, hrun]
  generalize st.ev m = X at *
  generalize st.ev k = K at *
  generalize a.eval m = um at *
  generalize a.eval k = uk at *
  unfold delA at hst
  split at hst
  · rename_i kt et id hu
    rw [Option.bind_eq_some_iff] at hst
    obtain ⟨ob, hob, hst⟩ := hst
    split at hst
    · rename_i es clk
      split at hst
      · rename_i hpk
        obtain ⟨rf, hrf, hst'⟩ := Option.map_eq_some_iff.1 hst
        obtain ⟨b, sz, n, hρ, rfl⟩ := vr_mp hm
        obtain ⟨b', M, h1, h2, h3, h4, h5⟩ := h.heap.obj id _ hob
        rw [hρ] at h1; cases h1
        have hE : EntR S w es M := ⟨h4, h5⟩
        cases hd : G.P.underlying kt with
        | none => rw [hd] at hpk; simp [plainKey] at hpk
        | some d =>
          rw [hd] at hpk hrf
          obtain ⟨r', hf, hr'⟩ := findKey_ok (P := G.P) hd hk hE hrf
          have hx2 : ∀ M' clk', Ext S w S (w.putObj b (.map M' clk')) := fun M' clk' => Ext.putM h2 (fun _ _ _ e => by cases e) h3
          have hput1 : ∀ M' clk' ob', ObjR S ρ (w.putObj b (.map M' clk')) id ob' → SR E { st with hp := hput id ob' st.hp } S ρ a.tmps (w.putObj b (.map M' clk')) := fun M' clk' ob' hob2 =>
            h.change hob hρ (hx2 _ _) (fun b' hne => World.putObj_heap_other hne) World.putObj_size ⟨rfl, rfl, rfl⟩ hob2 (fun _ => rfl)
          have hrun : ∀ M', (match r' with | some (i, _) => (setObj b (.map (M.eraseIdxIfInBounds i) clk) : Sem Unit) | none => setObj b (.map M clk)).run G.P w = .ok () (w.putObj b (.map M' clk)) → (Builtin.delete_ tys o.type #[.map (some b), uk]).run G.P w = .ok (.tuple #[]) (w.putObj b (.map M' clk)) := by
            intro M' hh
            unfold Builtin.delete_
            rw [hty]
            simp only [List.getElem?_toArray, List.getElem?_cons_zero, List.getElem?_cons_succ]
            rw [runB (run_underlying hu w)]
            simp only [bind_assoc]
            rw [runB (run_getM h2)]
            simp only [bind_assoc]
            rw [runB (checkKey_ok hd hpk _ _), runB hf]
            rcases r' with _ | ⟨i, q⟩ <;> (simp only at hh ⊢; rw [runB hh]; rfl)
          rcases hr' with ⟨rfl, rfl⟩ | ⟨i, v0, v1, rfl, rfl, _⟩
          · cases hst'
            refine fin (hrun _ (run_setM h2)) (hput1 _ _ _ ?_)
            have := hE.ext (hx2 M clk)
            exact ⟨b, _, hρ, World.putObj_heap_same (lt_of_block h2), h3, this.1, this.2⟩
          · cases hst'
            refine fin (hrun _ (run_setM h2)) (hput1 _ _ _ ?_)
            have := (entR_erase hE i).ext (hx2 (M.eraseIdxIfInBounds i) clk)
            exact ⟨b, _, hρ, World.putObj_heap_same (lt_of_block h2), h3, this.1, this.2⟩
      · cases hst
    · cases hst
  · cases hst
end Go.Proofs.YteibklnligmanaaDoor.Abs


/- Slices of arrays that lie in boxes; what is copied within one. -/
namespace Go.Proofs.YteibklnligmanaaDoor.Abs
open Go Go.RowKit
set_option linter.unusedSimpArgs false
set_option linter.unusedVariables false

variable {G : Cfg} {S : Stab} {ρ : Rho} {w : World} {E : Env} {st : ASt} {a : Act}

theorem aget_filter_ne {α : Type} (l : List (Nat × α)) (m n : Nat) : aget (l.filter fun p => p.1 != m) n = if n = m then none else aget l n := by
  induction l with
  | nil => simp [aget]
  | cons p l ih =>
    obtain ⟨k, x⟩ := p
    simp only [List.filter_cons]
    by_cases e : k = m
    · subst e
      simp only [bne_self_eq_false, Bool.false_eq_true, if_false, ih, aget_cons]
      by_cases h : n = k
      · simp [h]
      · simp [h, Ne.symm h]
    · have : (k != m) = true := by simpa using e
      simp only [this, if_true, aget_cons, ih]
      by_cases h : k = n
      · subst h; simp [e]
      · simp [h]


/-! ### An object goes -/
theorem SR.drop {tm : Array Value} (h : SR E st S ρ tm w) (n : Nat) : SR E (dropSt n st) S (fun m => if m = n then none else ρ m) tm w := by
  have hr : ∀ id r, id ≠ n → ρ id = some r → (fun m => if m = n then none else ρ m) id = some r := fun id r hid hh => by simp [hid, hh]
  have hget : ∀ m, aget (dropSt n st).hp m = if m = n then none else (aget st.hp m).map (AObj.kill n) := fun m => by
    show aget ((st.hp.filter fun p => p.1 != n).map fun p => (p.1, p.2.kill n)) m = _
    rw [aget_map, aget_filter_ne]
    split <;> rfl
  refine ⟨fun t => ?_, ⟨fun m o ho => ?_, fun m hm => ?_, fun m k b sz sz' j j' h1 h2 => ?_⟩, fun m b sz k hh => ?_, fun m o ho hmv r hr0 => ?_, h.fr⟩
  · have e : (dropSt n st).slot t = (st.slot t).kill n := slot_killn st n t
    rw [e]
    exact (h.slot t).kill n hr
  · rw [hget] at ho
    split at ho
    · cases ho
    · rename_i hne
      obtain ⟨q, hq, rfl⟩ := Option.map_eq_some_iff.1 ho
      exact (h.heap.obj m q hq).kill hr hne
  · rw [hget] at hm
    split at hm
    · rename_i e; simp [e]
    · rename_i hne; simp only [hne, if_false]
      exact h.heap.dom m (by simpa using hm)
  · have h1 : (if m = n then none else ρ m) = some ⟨some (b, sz), j⟩ := h1
    have h2 : (if k = n then none else ρ k) = some ⟨some (b, sz'), j'⟩ := h2
    split at h1
    · cases h1
    · split at h2
      · cases h2
      · exact h.heap.inj _ _ _ _ _ _ _ h1 h2
  · have hh : (if m = n then none else ρ m) = some ⟨some (b, sz), k⟩ := hh
    split at hh
    · cases hh
    · exact h.mine m b sz k hh
  · rw [hget] at ho
    split at ho
    · cases ho
    · rename_i hne
      obtain ⟨q, hq, rfl⟩ := Option.map_eq_some_iff.1 ho
      rw [moved_kill] at hmv
      simp only [hne, if_false]
      exact h.old m q hq hmv r hr0


/-- Cells that nobody has a name for any more may be stable. -/
theorem SR.stabF {tm : Array Value} (h : SR E st S ρ tm w) {b : Nat} (hb : E.F b ∨ E.W0.heap.size ≤ b) (hlt : b < w.heap.size) (hno : ∀ n b' sz k, ρ n = some ⟨some (b', sz), k⟩ → b' ≠ b) : SR E st (fun b' o => S b' o ∨ b' = b) ρ tm w := by
  have hx : Ext S w (fun b' o => S b' o ∨ b' = b) w := Ext.more (fun _ _ h => .inl h) w
  refine h.step ⟨hx, Nat.le_refl _, fun _ _ _ => rfl, fun _ h => h, ?_, ?_, rfl, rfl, rfl⟩ (fun _ _ h => h)
    ⟨fun n x ho => (h.heap.obj n x ho).keep hx rfl (fun _ _ h => h) (fun b' sz k hb' => ⟨rfl, fun o hS => hS.resolve_right (hno n b' sz k hb')⟩), h.heap.dom, h.heap.inj⟩ h.mine (fun _ => rfl) h.old
  · rintro b' o (x | rfl)
    · exact .inl x
    · exact .inr hb
  · rintro b' o (x | rfl)
    · exact h.fr.bnd b' o x
    · exact hlt

theorem partsA_get {ag : Bool} {sz : Nat} {cs : List AV} : ∀ {n o : Nat} {es : List AV}, partsA ag sz cs o n = some es → es.length = n ∧ ∀ (i : Nat) e, es[i]? = some e → partA ag sz cs (o + i * sz) = some e
  | 0, o, es, h => by cases h; exact ⟨rfl, fun i e he => by simp at he⟩
  | n + 1, o, es, h => by
    unfold partsA at h
    rw [Option.bind_eq_some_iff] at h; obtain ⟨x, hx, h⟩ := h
    obtain ⟨r, hr, rfl⟩ := Option.map_eq_some_iff.1 h
    obtain ⟨h1, h2⟩ := partsA_get hr
    refine ⟨by simp [h1], fun i e he => ?_⟩
    cases i with
    | zero => simp at he; subst he; simpa using hx
    | succ i =>
      have := h2 i e (by simpa using he)
      rw [show o + (i + 1) * sz = o + sz + i * sz by rw [Nat.succ_mul]; omega]
      exact this
/-- The cells of a part. -/
theorem partA_cells {ag : Bool} {sz o : Nat} {cs : List AV} {e : AV} (h : partA ag sz cs o = some e) (hk : ∀ c ∈ cs, okCell c = true) {j : Nat} {c : AV} (hj : e.cells[j]? = some c) : cs[o + j]? = some c ∧ (e.pureB = true → c.pureB = true) := by
  unfold partA at h
  cases ag with
  | true =>
    simp only [if_true] at h
    split at h
    · cases h
      simp only [AV.cells, List.getElem?_take, List.getElem?_drop] at hj
      split at hj
      · refine ⟨hj, fun hp => ?_⟩
        rename_i hlt
        exact pureL_get (l := (cs.drop o).take sz) (by simpa [AV.pureB] using hp) (j := j) (by rw [List.getElem?_take, if_pos hlt, List.getElem?_drop]; exact hj)
      · cases hj
    · cases h
  | false =>
    simp only [Bool.false_eq_true, if_false] at h
    have hke := hk e (List.mem_of_getElem? h)
    rw [okCell_cells hke] at hj
    cases j with
    | zero => simp at hj; subst hj; exact ⟨h, fun h => h⟩
    | succ j => simp at hj

theorem win_ok (h : SR E st S ρ a.tmps w) (o : Oper) {t : TypeId} {x : Operand} {lo hi mx : Option Operand} (ho : o.op = .slice t x lo hi mx) {q : Win} (hq : winA G.P st.hp t (st.ev x) (lo.map st.ev) (hi.map st.ev) (mx.map st.ev) = some q)
    {r : AR} (hb : winX G q st = some r) : OpDone E G.P a o w r := by
  have orel : ∀ y : Option Operand, ORel S ρ w (y.map st.ev) (y.map a.eval) := fun y => by
    cases y with
    | none => exact trivial
    | some y => exact h.ev y
  obtain ⟨b, sz, k, cap, T, v, hob, hρ, hlc, h0, hrun0⟩ := winA_ok h.heap (h.ev x) (orel lo) (orel hi) (vm := mx.map a.eval) (fun e => by cases mx <;> simp_all) hq
  have hrun : (execOp a.eval o).run G.P w = .ok (.value (.slice (some (at0 b q.off)) q.len cap)) w := by
    unfold execOp; rw [ho]
    simp only []
    rw [runB hrun0]
    rfl
  unfold winX at hb
  split at hb
  case isFalse =>
    cases hb
    exact ⟨_, _, w, S, ρ, hrun, .inl rfl, h, .win q.id _ _ _ b _ k _ hρ hlc⟩
  obtain ⟨rfl, cells, t', fr, g2, g3, g4, g5, g6⟩ := box_of h.heap hob hρ
  unfold snapA at hb
  simp only [hob, Option.bind_some] at hb
  rw [Option.bind_eq_some_iff] at hb; obtain ⟨es, hes, hb⟩ := hb
  split at hb
  case isFalse => cases hb
  rename_i hcc
  obtain ⟨hpure, hall, hok⟩ := hcc
  cases hb
  obtain ⟨e1, e2⟩ := partsA_get hes
  have hk : ∀ c ∈ v.cells, okCell c = true := fun c hc => List.all_eq_true.1 hok c hc
  have k1 := h.drop q.id
  have k2 := k1.stabF (b := b) (h.mine q.id b _ _ hρ) (lt_of_block g2) (fun m b' s k' hm => by
    have hm : (if m = q.id then none else ρ m) = some ⟨some (b', s), k'⟩ := hm
    split at hm
    · cases hm
    · rename_i hne
      exact fun e => hne (h.heap.inj _ _ _ _ _ _ _ (e ▸ hm) hρ))
  refine ⟨_, _, w, _, _, hrun, .inl rfl, k2, .pure ?_⟩
  rw [← e1]
  by_cases hes0 : es = []
  · subst hes0
    exact .empty _ _ _ (fun e => by omega)
  · have key : ∀ (i j : Nat) y c, es[i]? = some y → y.cells[j]? = some c → ∃ u, w.cell? (at0 b (q.off + i * G.P.cellsOf q.elem + j)) = some u ∧ scalarV u = true ∧ PR (fun b' o => S b' o ∨ b' = b) w c u := by
      intro i j y c hy hj
      obtain ⟨p1, p2⟩ := partA_cells (e2 i y hy) hk hj
      obtain ⟨u, hu, hv⟩ := g6 _ c p1
      have hcp := p2 (List.all_eq_true.1 hpure y (List.mem_of_getElem? hy))
      exact ⟨u, by rw [cell_block g2]; exact hu, vr_scalar hv (hk c (List.mem_of_getElem? p1)), (hv.pr hcp).ext (Ext.more (fun _ _ h => .inl h) w)⟩
    refine PR.list es b q.off cap (G.P.cellsOf q.elem) (fun i j => (w.cell? (at0 b (q.off + i * G.P.cellsOf q.elem + j))).getD default) h0 (by omega) (fun y hy => ?_) (fun i j y c hy hj => .inr rfl) (fun i j y c hy hj => ?_) (fun i j y c hy hj => ?_) (fun i j y c hy hj => ?_)
    · have := List.all_eq_true.1 hall y hy
      simp only [Bool.and_eq_true, beq_iff_eq] at this
      exact this.2
    · obtain ⟨u, hu, _, _⟩ := key i j y c hy hj; rw [hu]; rfl
    · obtain ⟨u, hu, hs, _⟩ := key i j y c hy hj; rw [hu]; exact hs
    · obtain ⟨u, hu, _, hp⟩ := key i j y c hy hj; rw [hu]; exact hp

theorem vr_win {id o l s : Nat} {v : Value} (h : VR S ρ w (.win id o l s) v) : ∃ b sz n cap, ρ id = some ⟨some (b, sz), n⟩ ∧ v = .slice (some (at0 b o)) l cap ∧ l ≤ cap := by
  cases h with
  | pure h => cases h
  | win _ _ _ _ b sz n cap h hl => exact ⟨b, sz, n, cap, h, rfl, hl⟩

theorem copy_ok (h : SR E st S ρ a.tmps w) (o : Oper) {t : TypeId} {ts : List TypeId} {x y : Operand} (ho : ∃ c, o.op = .call c ∧ c.callee = .builtin .copy ∧ c.args.toList = [x, y] ∧ c.argTypes.toList = t :: ts) {r : AR} (hb : (copyA G t (st.ev x) (st.ev y) st).map (fun q => AR.val (.int .i64 q.1) q.2) = some r) : OpDone E G.P a o w r := by
  obtain ⟨⟨m, st'⟩, hst, rfl⟩ := Option.map_eq_some_iff.1 hb
  obtain ⟨⟨cal, args, tys⟩, hop, h1, h2, h3⟩ := ho
  simp only at h1 h2 h3
  obtain rfl : args = #[x, y] := by apply Array.ext'; exact h2
  have hty : tys[0]? = some t := by rw [← Array.getElem?_toList, h3]; rfl
  subst h1
  have hx := h.ev x
  have hy := h.ev y
  have fin : ∀ {w' : World}, (Builtin.copy_ tys o.type #[a.eval x, a.eval y]).run G.P w = .ok (goInt m) w' → SR E st' S ρ a.tmps w' → OpDone E G.P a o w (.val (.int .i64 m) st') := by
    intro w' hrun hsr
    refine ⟨_, goInt m, w', S, ρ, ?_, .inl rfl, hsr, .pure (.int _ _)⟩
    unfold execOp
    rw [hop]
    simp [resolve, invoke, builtin, hrun]
  generalize st.ev x = X at *
  generalize st.ev y = Y at *
  generalize a.eval x = ux at *
  generalize a.eval y = uy at *
  unfold copyA at hst
  split at hst
  case h_2 => cases hst
  rename_i e id o1 l s id' o2 l' s' hu
  split at hst
  case isFalse => cases hst
  rename_i hc
  obtain ⟨rfl, rfl, hs', h0⟩ := hc
  subst hs'
  rw [Option.bind_eq_some_iff] at hst; obtain ⟨ob, hob, hst⟩ := hst
  split at hst
  case h_2 => cases hst
  rename_i T v
  simp only at hst
  split at hst
  case isFalse => cases hst
  rename_i hc
  obtain ⟨hf1, hf2, hok, hpos⟩ := hc
  cases hst
  obtain ⟨b, sz, n, cap, hρ, rfl, hlc⟩ := vr_win hx
  obtain ⟨b', sz', n', cap', hρ', rfl, hlc'⟩ := vr_win hy
  rw [hρ] at hρ'; cases hρ'
  obtain ⟨rfl, cells, t', fr, g2, g3, g4, g5, g6⟩ := box_of h.heap hob hρ
  have hn1 : n = 1 := by
    obtain ⟨_, _, _, _, q, _⟩ := h.heap.obj _ _ hob
    rw [hρ] at q; cases q; rfl
  subst hn1
  generalize hN : Nat.min l' l * G.P.cellsOf e = N at *
  have hcell : ∀ j, j < N → w.cell? (at0 b (o2 + j)) = some ((cells[o2 + j]?).getD default) := fun j hj => by
    rw [cell_block g2, Array.getElem?_eq_getElem (by omega)]; rfl
  let L : List Value := (List.range N).map fun j => (cells[o2 + j]?).getD default
  have hLl : L.length = N := by simp [L]
  have hLg : ∀ j, j < N → L[j]? = cells[o2 + j]? := fun j hj => by
    simp only [L, List.getElem?_map, List.getElem?_range hj, Option.map_some]
    rw [Array.getElem?_eq_getElem (by omega)]; rfl
  have hnew : ∀ (j : Nat), ((v.cells.drop o2).take N)[j]? = if j < N then v.cells[o2 + j]? else none := fun j => by
    rw [List.getElem?_take, List.getElem?_drop]
  have hnl : ((v.cells.drop o2).take N).length = N := by rw [List.length_take, List.length_drop]; omega
  have hoc : ∀ c ∈ (v.cells.drop o2).take N, okCell c = true := fun c hc => List.all_eq_true.1 hok c hc
  have hsc : ∀ u ∈ L, scalarV u = true := by
    intro u hu
    obtain ⟨j, hj⟩ := List.getElem?_of_mem hu
    have hjN : j < N := by have := (List.getElem?_eq_some_iff.1 hj).1; omega
    rw [hLg j hjN] at hj
    have hc : v.cells[o2 + j]? = some v.cells[o2 + j] := List.getElem?_eq_getElem (by omega)
    obtain ⟨z, hz, hv⟩ := g6 _ _ hc
    rw [hz] at hj; cases hj
    exact vr_scalar hv (hoc _ (List.mem_of_getElem? (i := j) (by rw [hnew, if_pos hjN]; exact hc)))
  have hle' : o1 + L.length ≤ cells.size := by omega
  have hrun : (Builtin.copy_ tys o.type #[.slice (some (at0 b o1)) l cap, .slice (some (at0 b o2)) l' cap']).run G.P w = .ok (goInt (Nat.min l' l)) (setCells w b o1 L) := by
    unfold Builtin.copy_
    rw [hty]
    simp only [List.getElem?_toArray, List.getElem?_cons_zero, List.getElem?_cons_succ]
    rw [runB (run_underlying hu w)]
    simp only
    rw [runB (a := l') (by rfl), runB (run_sizeOf rfl h0)]
    have hfc : (Builtin.firstCells (G.P.cellsOf e) (Nat.min l' l) (.slice (some (at0 b o2)) l' cap')).run G.P w = .ok L.toArray w := by
      show (loadCells (at0 b o2) (Nat.min l' l * G.P.cellsOf e)).run G.P w = _
      rw [hN]
      exact run_loadCells (fun j => (cells[o2 + j]?).getD default) hcell
    rw [runB hfc]
    simp only
    have hst := run_storeCells (P := G.P) (b := b) (o := o1) L w 0 cells t' fr g2 (by omega) (fun j hj => g4 j hj) hsc
    rw [Nat.add_zero] at hst
    rw [runB hst]
    rfl
  obtain ⟨c', k1, k2, k3, k4⟩ := setCells_block b L w o1 cells t' fr g2 hle'
  have hxt := Ext.write (S := S) g2 hle' g5
  have hle : o1 + ((v.cells.drop o2).take N).length ≤ v.cells.length := by omega
  have hNpos : 0 < N ∨ v.isA = true := by
    rcases hpos with hp | hp
    · left; rw [← hN]; exact Nat.mul_pos hp h0
    · exact .inr hp
  have hre := putA_ok (v := v) rfl hle hoc (by rw [hnl]; exact hNpos)
  have hrl : (reCell v (putA v.cells o1 ((v.cells.drop o2).take N))).cells.length = v.cells.length := by rw [hre, putA_length hle]
  refine fin hrun (h.change hob hρ hxt (setCells_other b _ w o1) (setCells_size b _ w o1) (setCells_outer b _ w o1) ⟨b, c', t', fr, by rw [hrl]; exact hρ, k1, by rw [hrl, k2]; exact g3, fun o ho' => by rw [frozen_block g2 k1]; exact g4 o (by omega), g5, fun j c hj => ?_⟩ (fun _ => rfl))
  rw [hre, putA_get hle] at hj
  split at hj
  · rename_i hin
    rw [hnl] at hin
    rw [hnew, if_pos (by omega)] at hj
    obtain ⟨z, hz, hv⟩ := g6 _ c hj
    refine ⟨z, ?_, hv.ext hxt fun _ _ h => h⟩
    have := k4 (j - o1) (by omega)
    rw [show o1 + (j - o1) = j by omega] at this
    rw [this, hLg _ (by omega)]; exact hz
  · rename_i hout
    rw [hnl] at hout
    obtain ⟨z, hz, hv⟩ := g6 j c hj
    exact ⟨z, by rw [k3 j (by omega)]; exact hz, hv.ext hxt fun _ _ h => h⟩
end Go.Proofs.YteibklnligmanaaDoor.Abs


/- All operations but calls of functions, whole. -/
namespace Go.Proofs.YteibklnligmanaaDoor.Abs
open Go Go.RowKit
set_option linter.unusedSimpArgs false
set_option linter.unusedVariables false

variable {G : Cfg} {S : Stab} {ρ : Rho} {w : World} {E : Env} {st : ASt} {a : Act}

theorem panic_ok (h : SR E st S ρ a.tmps w) (o : Oper) {x : Operand} (ho : o.op = .panic x) {r : AR} (hb : aopB G o st = some r) : OpDone E G.P a o w r := by
  unfold aopB at hb
  rw [ho] at hb
  simp only at hb
  split at hb
  · rename_i t v hv
    cases hb
    have hx := h.ev x
    rw [hv] at hx
    obtain ⟨S', k1, k2, k3, k4⟩ := h.fix (AV.iface t v).rows
    have hx' := rv_fixed h k1 k2 k3 k4 hx fun n hn => hn
    obtain ⟨u, hu, _⟩ := vr_iface hx
    refine ⟨a.eval x, w, S', ρ, ?_, k2, hx'⟩
    unfold execOp; rw [ho]
    simp only []
    rw [hu]
    rfl
  · cases hb

/-- A new row of a string's bytes. -/
theorem bytes_ok (h : SR E st S ρ a.tmps w) (o : Oper) {s t e : TypeId} {x : Operand} {l : List UInt8} (ho : o.op = .convert s t x) (ht : G.P.underlying t = some (.slice e)) (he : G.P.underlying e = some (.int .u8)) (hs : isStringT G.P s = true) (hby : byT e = true) (hx : st.ev x = .str l)
    {d : Nat} (hn : aget st.hp (1000 + d) = none) : OpDone E G.P a o w (.val (.own (1000 + d)) { st with hp := (1000 + d, .row 1 (l.map fun b => .int .u8 b.toNat) false ⟨false, e⟩) :: st.hp }) := by
  have hs' : G.P.underlying s = some .string := by
    unfold isStringT at hs
    split at hs
    · assumption
    · cases hs
  have hv := h.ev x
  rw [hx] at hv
  obtain ⟨b, hb, rfl⟩ := vr_str hv
  have hrun := run_bytes_of_string w s t e b hs' ht he
  have hge := grownCap_ge w b.size 0 e
  generalize grownCap w b.size 0 e = cap at hrun hge
  have hsz : (bytesRow b cap).size = cap := by simp [bytesRow]; omega
  have hnew := h.drew.newG (n := 1000 + d) hn (Nat.le_add_right _ _) (.row 1 (b.data.toList.map fun b => AV.int .u8 b.toNat) false ⟨false, e⟩) (.cells (bytesRow b cap) e ((bytesRow b cap).size, (bytesRow b cap).size + 1)) 1 b.size
    (.inr ⟨w.heap.size, bytesRow b cap, e, _, Nat.one_pos, by simp [upd], fun y hy => by obtain ⟨_, _, rfl⟩ := List.mem_map.1 hy; rfl, heap_new w.drew _, ⟨by rw [hsz]; simpa using hge, rfl, .inl hby⟩, fun o ho => ?_, fun i j y c hy hj => ?_, fun o ho => absurd (h.fr.bnd _ _ ho) (Nat.lt_irrefl _)⟩)
  · refine ⟨.value (.slice (some ⟨w.heap.size, 0, none⟩) b.size cap), .slice (some ⟨w.heap.size, 0, none⟩) b.size cap, _, S, _, ?_, .inl rfl, hnew, ?_⟩
    · unfold execOp; rw [ho]; simp only []; rw [hb, runB hrun]; rfl
    · refine .own (1000 + d) w.heap.size 1 b.size cap (by simp [upd]) hge ⟨_, _, _, heap_new w.drew _, by rw [hsz, Nat.mul_one]; exact Nat.le_refl _⟩
  · unfold World.frozen?
    have : (w.drew.alloc (.cells (bytesRow b cap) e ((bytesRow b cap).size, (bytesRow b cap).size + 1))).heap[w.heap.size]? = _ := heap_new w.drew (.cells (bytesRow b cap) e ((bytesRow b cap).size, (bytesRow b cap).size + 1))
    simp only [at0]
    rw [this]
    have h1 : decide ((bytesRow b cap).size ≤ o) = false := by simpa using ho
    show (decide ((bytesRow b cap).size ≤ o) && _) = false
    rw [h1]; rfl
  · simp only [List.getElem?_map] at hy
    obtain ⟨q, hq, rfl⟩ := Option.map_eq_some_iff.1 hy
    cases j with
    | zero =>
      simp [AV.cells] at hj; subst hj
      have hlt : i < b.data.size := by have := (List.getElem?_eq_some_iff.1 hq).1; simpa using this
      have hq' : b.data[i]? = some q := by simpa using hq
      refine ⟨.int .u8 q.toNat, ?_, .int _ _, (fun e => by cases e), rfl⟩
      simp only [bytesRow, Nat.mul_one, Nat.add_zero]
      rw [Array.getElem?_append_left (by simpa using hlt)]
      simp [hq']
    | succ j => simp [AV.cells] at hj

theorem makeSlice_ok (h : SR E st S ρ a.tmps w) (o : Oper) {t : TypeId} {x y : Operand} (ho : o.op = .makeSlice t x y) {r : AR} (hb : aopB G o st = some r) : OpDone E G.P a o w r := by
  unfold aopB at hb
  rw [ho] at hb
  simp only at hb
  rw [Option.bind_eq_some_iff] at hb; obtain ⟨d, hd, hb⟩ := hb
  rw [Option.bind_eq_some_iff] at hb; obtain ⟨e, he, hb⟩ := hb
  rw [Option.bind_eq_some_iff] at hb; obtain ⟨z, hz, hb⟩ := hb
  have ht := elemOf_some he
  split at hb
  · rename_i n m hx hy
    split at hb
    · rename_i hc
      obtain ⟨c1, c2, c3, c4, c5, c6, c7, c8⟩ := hc
      obtain ⟨hn, rfl⟩ := newObj_some hb
      have ex := h.ev x; have ey := h.ev y
      rw [hx] at ex; rw [hy] at ey
      have ex := vr_int ex; have ey := vr_int ey
      obtain ⟨ie, hie, hies⟩ := info_of_cells (P := G.P) (t := e) (by omega)
      have hz' : ie.zero = some z := by rw [hie] at hz; simpa using hz
      have hby : ie.bytes ≤ 4096 := by rw [hie] at c4; simpa using c4
      unfold LIM at c3
      have wl : IntKind.i64.wrap n = n := by rw [IntKind.wrap_i64]; omega
      have wc : IntKind.i64.wrap m = m := by rw [IntKind.wrap_i64]; omega
      have n1 : ¬ m < 0 := by omega
      have n2 : ¬ (281474976710656 < (ie.bytes : Int) * m) := by
        have : (ie.bytes : Int) * m ≤ 4096 * m := Int.mul_le_mul_of_nonneg_right (by omega) (by omega)
        omega
      have n3 : ¬ n < 0 := by omega
      have n4 : ¬ m < n := by omega
      have n5 : ¬ (140737488355328 < m.toNat * ie.bytes) := by
        have : m.toNat * ie.bytes ≤ m.toNat * 4096 := Nat.mul_le_mul_left _ hby
        omega
      obtain ⟨zc1, zc2⟩ := vr_cells (S := S) (ρ := ρ) (w := w) (vr_ofValue z) (okCells_known c6)
      have hzs : z.cells.size = ie.size := by omega
      have hrun : ∃ cells : Array Value, cells.size = m.toNat * ie.size ∧ (∀ i j, i < m.toNat → j < ie.size → cells[i * ie.size + j]? = z.cells[j]?) ∧
          (Instr.makeSlice t (.int .i64 n) (.int .i64 m)).run G.P w = .ok (.slice (some ⟨w.heap.size, 0, none⟩) n.toNat m.toNat) (w.alloc (.cells cells e)) := by
        by_cases hk : m.toNat * ie.size = 0
        · refine ⟨#[], by simp [hk], fun i j hi hj => ?_, ?_⟩
          · rcases Nat.mul_eq_zero.1 hk with hh | hh <;> omega
          · simp [Instr.makeSlice, run_underlying ht, asInt, asIntOf, typeInfo, hie, sizeOf, wl, wc, n1, n2, n3, n4, n5, hk, newRow, askRoom, roomBytes]
            congr 2
            apply Array.ext <;> simp
        · refine ⟨(Array.range (m.toNat * ie.size)).map (fun x => z.cells[x % z.cells.size]!), by simp, fun i j hi hj => ?_, ?_⟩
          · have hlt : i * ie.size + j < m.toNat * ie.size := by
              have : (i + 1) * ie.size ≤ m.toNat * ie.size := Nat.mul_le_mul_right _ hi
              rw [Nat.add_mul, Nat.one_mul] at this; omega
            have e2 : (i * ie.size + j) % z.cells.size = j := by rw [hzs, Nat.mul_comm, Nat.mul_add_mod, Nat.mod_eq_of_lt hj]
            simp only [Array.getElem?_map, Array.getElem?_range, hlt, if_true, Option.map_some, e2]
            rw [getElem!_pos z.cells j (by omega), Array.getElem?_eq_getElem (by omega)]
          · simp [Instr.makeSlice, run_underlying ht, asInt, asIntOf, typeInfo, hie, sizeOf, zeroValue, hz', wl, wc, n1, n2, n3, n4, n5, newRow, askRoom, roomBytes, hk]
      obtain ⟨cells, s1, s2, hrun⟩ := hrun
      have hmk := h.newRow (n := 1000 + d) hn (Nat.le_add_right _ _) (sz := G.P.cellsOf e) (es := List.replicate n.toNat (ofValue z)) c7 (fun y hy => by rw [List.eq_of_mem_replicate hy]; exact c8) cells e
        (by rw [s1, hies, List.length_replicate]; exact Nat.mul_le_mul_right _ (by omega)) (fun i j y c hy hj => by
          rw [List.getElem?_replicate] at hy
          split at hy
          · rename_i hi
            cases hy
            have hjl : j < (ofValue z).cells.length := (List.getElem?_eq_some_iff.1 hj).1
            have hjz : j < z.cells.size := by omega
            have hv := zc2 j c _ hj (Array.getElem?_eq_getElem hjz)
            have hcp : c.pureB = true := by
              generalize ofValue z = q at *
              cases q with
              | agg cs => exact pureL_get (l := cs) (by simpa [AV.pureB] using c5) hj
              | _ => cases j with
                | zero => simp [AV.cells] at hj; subst hj; exact c5
                | succ j => simp [AV.cells] at hj
            refine ⟨z.cells[j], ?_, hv.pr hcp, vr_scalar hv (List.all_eq_true.1 c6 c (List.mem_of_getElem? hj))⟩
            rw [← hies, s2 i j (by omega) (by omega)]
            exact Array.getElem?_eq_getElem hjz
          · cases hy) false
      refine ⟨.value (.slice (some ⟨w.heap.size, 0, none⟩) n.toNat m.toNat), .slice (some ⟨w.heap.size, 0, none⟩) n.toNat m.toNat, _, S, _, ?_, .inl rfl, hmk, ?_⟩
      · unfold execOp; rw [ho]; simp only []; rw [ex, ey, runB hrun]; rfl
      · rw [List.length_replicate]
        exact own_newc (by omega) (by rw [s1, hies]; exact Nat.le_refl _)
    · cases hb
  · cases hb

/-- A row that is cut. -/
theorem cut_ok (h : SR E st S ρ a.tmps w) (o : Oper) {t : TypeId} {x : Operand} {lo hi mx : Option Operand} (ho : o.op = .slice t x lo hi mx) {q : Nat × Nat × TypeId × List AV} (hq : cutA st.hp (st.ev x) (lo.map st.ev) (hi.map st.ev) (mx.map st.ev) = some q)
    (hel : (elemOf? G.P t).map (G.P.cellsOf ·) = some q.2.1) : OpDone E G.P a o w (.val (.own q.1) (st.cut q)) := by
  obtain ⟨e, he, hq2⟩ := Option.map_eq_some_iff.1 hel
  have ht := elemOf_some he
  unfold cutA at hq
  split at hq
  case h_2 => cases hq
  rename_i id z hxe hlo hhi hmx
  rw [Option.bind_eq_some_iff] at hq; obtain ⟨ob, hob, hq⟩ := hq
  split at hq
  case h_2 => cases hq
  rename_i sz es mv
  split at hq
  case isFalse => cases hq
  rename_i hsz
  obtain ⟨hsz, hz0, hzl⟩ := hsz
  cases hq
  simp only at hq2 ⊢
  have hlo : lo = none := by cases lo <;> simp_all
  have hmx : mx = none := by cases mx <;> simp_all
  subst hlo; subst hmx
  cases hi with
  | none => simp at hhi
  | some hi =>
    simp only [Option.map_some, Option.some.injEq] at hhi
    have hx := h.ev x
    have hh := h.ev hi
    rw [hxe] at hx
    rw [hhi] at hh
    have hrun : ∀ {ba : Option Addr} {n cap : Nat}, n ≤ cap → z.toNat ≤ n → a.eval x = .slice ba n cap → (execOp a.eval o).run G.P w = .ok (.value (.slice (if cap = 0 then ba else ba.map (·.add (0 * G.P.cellsOf e))) z.toNat cap)) w := by
      intro ba n cap hc hzn ev
      unfold execOp; rw [ho]
      simp only [Option.map_none, Option.map_some]
      rw [ev]
      rw [runB (run_sliceAt_sl (l := 0) (h := z.toNat) ht (by omega) (run_bounds (S := S) (ρ := ρ) (lo := none) (hi := some (.int .i64 z)) (vl := none) (vh := some (a.eval hi)) (w := w) rfl (by simp [bound?, hz0]) trivial hh (Nat.zero_le _) (by omega)))]
      rfl
    have hst : Step E S w S w := ⟨Ext.refl S w, Nat.le_refl _, fun _ _ _ => rfl, fun _ h => h, fun b o h => .inl h, h.fr.bnd, rfl, rfl, rfl⟩
    generalize hux : a.eval x = ux at hx hrun
    cases hx with
    | pure hx => cases hx
    | own0 _ hρ =>
      have he0 := row0_of h.heap hob hρ
      subst he0
      have hz : z.toNat = 0 := by simp at hzl; omega
      have hr := hrun (ba := none) (n := 0) (cap := 0) (Nat.le_refl _) (by omega) rfl
      rw [hz] at hr
      refine ⟨_, .slice none 0 0, w, S, upd ρ id ⟨none, 0⟩, hr, .inl (by rfl), ?_, ?_⟩
      · exact h.regrow hob hst (fun m b s k _ _ => ⟨rfl, fun _ h => h⟩) (fun b s k e => by cases e) (.inl ⟨by simp, by simp [upd]⟩) rfl
      · exact .own0 id (by simp [upd])
    | own _ b s n cap hρ hcap hr =>
      obtain ⟨rfl, rfl, h0, hs, cells, t', fr, g2, g3, g4, g5, g6⟩ := rowobj_of h.heap hob hρ
      have hS0 : ∀ o, ¬ S b o := fun o ho' => by have := (g6 o ho').1; cases this
      have hlen : (es.take z.toNat).length = z.toNat := by rw [List.length_take]; omega
      refine ⟨_, .slice (some (at0 b 0)) z.toNat cap, w, S, upd ρ id ⟨some (b, s), z.toNat⟩, hrun (ba := some (at0 b 0)) hcap hzl rfl, .inl ?_, ?_, ?_⟩
      · simp [at0_add]
      · refine h.regrow hob hst (fun m b s k _ _ => ⟨rfl, fun _ h => h⟩) (fun b' s' k e => ?_) (.inr ⟨b, cells, t', fr, h0, by simp [upd, hlen], fun e he => hs e (List.mem_of_mem_take he), g2, ⟨by rw [hlen]; exact Nat.le_trans (Nat.mul_le_mul_right _ hzl) g3.1, g3.2⟩, g4, fun i j e c he hj => g5 i j e c (by rw [List.getElem?_take] at he; split at he; exact he; cases he) hj, fun o ho' => absurd ho' (hS0 o)⟩) rfl
        cases e
        exact ⟨h.mine id b s _ hρ, fun m s' k' hm hb' => hm (h.heap.inj _ _ _ _ _ _ _ hb' hρ)⟩
      · exact .own id b s z.toNat cap (by simp [upd]) (by omega) hr

/-- ANY OPERATION BUT A CALL OF A FUNCTION. -/
theorem aopB_ok (h : SR E st S ρ a.tmps w) (o : Oper) {r : AR} (hb : aopB G o st = some r) : OpDone E G.P a o w r := by
  have reads : ((opv G.P st.ev st.hp o.op).map fun v => AR.val v st) = some r → OpDone E G.P a o w r := by
    intro hb
    obtain ⟨v, hv, rfl⟩ := Option.map_eq_some_iff.1 hb
    obtain ⟨u, hu, hvu⟩ := opv_ok h o hv
    exact ⟨_, u, w, S, ρ, hu, .inl rfl, h, hvu⟩
  cases ho : o.op with
  | alloc e => exact alloc_ok h o ho hb
  | box e x => exact box_ok h o ho hb
  | buildSlice t len parts => exact buildSlice_ok h o ho hb
  | store t x y => exact store_ok h o ho hb
  | panic x => exact panic_ok h o ho hb
  | makeSlice t x y => exact makeSlice_ok h o ho hb
  | makeMap t rs => exact makeMap_ok h o ho hb
  | range t x => exact range_ok h o ho hb
  | mapUpdate t m k x => unfold aopB at hb; rw [ho] at hb; exact update_ok h o (.inl ho) hb
  | insert t m k x => unfold aopB at hb; rw [ho] at hb; exact update_ok h o (.inr ho) hb
  | convert s t x =>
    unfold aopB at hb
    rw [ho] at hb
    simp only at hb
    split at hb
    · rename_i e l ht hx
      split at hb
      · rename_i he
        rw [Option.bind_eq_some_iff] at hb; obtain ⟨d, hd, hb⟩ := hb
        split at hb
        · rename_i hs
          obtain ⟨hn, rfl⟩ := newObj_some hb
          rw [Bool.and_eq_true] at hs
          exact bytes_ok h o ho ht he hs.1 hs.2 hx hn
        · cases hb
      · cases hb
    · exact reads (by rw [ho]; exact hb)
  | slice t x lo hi mx =>
    unfold aopB at hb
    rw [ho] at hb
    simp only at hb
    split at hb
    · rename_i q hq
      exact win_ok h o ho hq hb
    split at hb
    · rename_i q hq
      split at hb
      · rename_i hel
        cases hb
        exact cut_ok h o ho hq hel
      · cases hb
    · exact reads (by rw [ho]; exact hb)
  | call c =>
    unfold aopB at hb
    rw [ho] at hb
    simp only at hb
    split at hb
    · rename_i s x t xt h1 h2 h3
      refine append_ok h o (x := s) (y := x) (t := t) (xt := xt) ?_ hb
      rw [ho]
      obtain ⟨c1, c2, c3⟩ := c
      simp only at h1 h2 h3
      have e2 : c2 = #[s, x] := by apply Array.ext'; exact h2
      have e3 : c3 = #[t, xt] := by apply Array.ext'; exact h3
      rw [h1, e2, e3]
    · rename_i m k t ts h1 h2 h3
      exact delete_ok h o ⟨c, ho, h1, h2, h3⟩ hb
    · rename_i x y t ts h1 h2 h3
      exact copy_ok h o ⟨c, ho, h1, h2, h3⟩ hb
    · exact reads (by rw [ho]; exact hb)
  | _ => unfold aopB at hb; simp only [ho] at hb; exact reads (by rw [ho]; exact hb)

end Go.Proofs.YteibklnligmanaaDoor.Abs


/- Calls: what is handed over under other names; what comes back. -/
namespace Go.Proofs.YteibklnligmanaaDoor.Abs
open Go Go.RowKit
set_option linter.unusedSimpArgs false
set_option linter.unusedVariables false

variable {G : Cfg} {S : Stab} {ρ : Rho} {w : World} {E : Env} {st : ASt} {a : Act}

theorem renL_get (m : List (Nat × Nat)) (l : List AV) (j : Nat) : (AV.renL m l)[j]? = (l[j]?).map (AV.ren m) := by
  induction l generalizing j with
  | nil => simp [AV.renL]
  | cons a l ih => cases j with
    | zero => simp [AV.renL]
    | succ j => simp [AV.renL, ih]
theorem renL_length (m : List (Nat × Nat)) (l : List AV) : (AV.renL m l).length = l.length := by
  induction l with
  | nil => rfl
  | cons a l ih => simp [AV.renL, ih]
theorem ren_cells (m : List (Nat × Nat)) (a : AV) : (a.ren m).cells = AV.renL m a.cells := by
  cases a with
  | own id => cases h : aget m id <;> simp [AV.ren, AV.cells, AV.renL, h]
  | row id o l => cases h : aget m id <;> simp [AV.ren, AV.cells, AV.renL, h]
  | ptr id i o => cases h : aget m id <;> simp [AV.ren, AV.cells, AV.renL, h]
  | yld id => cases h : aget m id <;> simp [AV.ren, AV.cells, AV.renL, h]
  | mp id => cases h : aget m id <;> simp [AV.ren, AV.cells, AV.renL, h]
  | win id => cases h : aget m id <;> simp [AV.ren, AV.cells, AV.renL, h]
  | _ => simp [AV.ren, AV.cells, AV.renL]

theorem PR.ren (m : List (Nat × Nat)) {a : AV} {v : Value} (h : PR S w a v) : PR S w (a.ren m) v := by
  induction h with
  | agg cs vs hl _ ih =>
    refine .agg _ vs ((renL_length m cs).trans hl) fun j c v hc hv => ?_
    rw [renL_get] at hc
    obtain ⟨d, hd, rfl⟩ := Option.map_eq_some_iff.1 hc
    exact ih j d v hd hv
  | tup cs vs hl _ ih =>
    refine .tup _ vs ((renL_length m cs).trans hl) fun j c v hc hv => ?_
    rw [renL_get] at hc
    obtain ⟨d, hd, rfl⟩ := Option.map_eq_some_iff.1 hc
    exact ih j d v hd hv
  | iface t a v _ ih => exact .iface t _ v ih
  | fn g a b va vb h1 h2 _ _ i1 i2 =>
    refine .fn g _ _ va vb ((renL_length m a).trans h1) ((renL_length m b).trans h2) (fun j c v hc hv => ?_) (fun j c v hc hv => ?_)
    · rw [renL_get] at hc
      obtain ⟨d, hd, rfl⟩ := Option.map_eq_some_iff.1 hc
      exact i1 j d v hd hv
    · rw [renL_get] at hc
      obtain ⟨d, hd, rfl⟩ := Option.map_eq_some_iff.1 hc
      exact i2 j d v hd hv
  | bool b => exact .bool b
  | int k n => exact .int k n
  | str s => exact .str s
  | nilp => exact .nilp
  | nils => exact .nils
  | nilf => exact .nilf
  | nilm => exact .nilm
  | nili => exact .nili
  | empty sz a c hz => exact .empty sz a c hz
  | list es b off cap sz f h0 hc hs hS hw hq hp _ => exact .list es b off cap sz f h0 hc hs hS hw hq hp
  | ep v b base off f ho hS hw hp _ => exact .ep v b base off f ho hS hw hp
  | cm i b clk M L hS hb hL hl hk hv _ _ => exact .cm i b clk M L hS hb hL hl hk hv

theorem VR.ren {ρ' : Rho} {m : List (Nat × Nat)} (hm : ∀ n k r, aget m n = some k → ρ n = some r → ρ' k = some r) {a : AV} {v : Value} (h : VR S ρ w a v) : VR S ρ' w (a.ren m) v := by
  induction h with
  | pure h => exact .pure (h.ren m)
  | undef v => exact .undef v
  | own0 id h =>
    simp only [AV.ren]
    split
    · rename_i k hk; exact .own0 k (hm _ _ _ hk h)
    · exact .undef _
  | own id b sz n' cap h hc hb =>
    simp only [AV.ren]
    split
    · rename_i k hk; exact .own k b sz n' cap (hm _ _ _ hk h) hc hb
    · exact .undef _
  | row0 id o c a =>
    simp only [AV.ren]
    split
    · exact .row0 _ o c a
    · exact .undef _
  | row id o l b sz n' cap h hl =>
    simp only [AV.ren]
    split
    · rename_i k hk; exact .row k o l b sz n' cap (hm _ _ _ hk h) hl
    · exact .undef _
  | ptr id i o b sz n' h =>
    simp only [AV.ren]
    split
    · rename_i k hk; exact .ptr k i o b sz n' (hm _ _ _ hk h)
    · exact .undef _
  | yld id b sz n' h =>
    simp only [AV.ren]
    split
    · rename_i k hk; exact .yld k b sz n' (hm _ _ _ hk h)
    · exact .undef _
  | mp id b sz n' h =>
    simp only [AV.ren]
    split
    · rename_i k hk; exact .mp k b sz n' (hm _ _ _ hk h)
    · exact .undef _
  | win id o l s b sz n' cap h hl =>
    simp only [AV.ren]
    split
    · rename_i k hk; exact .win k o l s b sz n' cap (hm _ _ _ hk h) hl
    · exact .undef _
  | agg cs vs hl _ ih =>
    refine .agg _ vs ((renL_length m cs).trans hl) fun j c v hc hv => ?_
    rw [renL_get] at hc
    obtain ⟨d, hd, rfl⟩ := Option.map_eq_some_iff.1 hc
    exact ih j d v hd hv
  | tup cs vs hl _ ih =>
    refine .tup _ vs ((renL_length m cs).trans hl) fun j c v hc hv => ?_
    rw [renL_get] at hc
    obtain ⟨d, hd, rfl⟩ := Option.map_eq_some_iff.1 hc
    exact ih j d v hd hv
  | iface t a v _ ih => exact .iface t _ v ih
  | fn g a b va vb h1 h2 _ _ i1 i2 =>
    refine .fn g _ _ va vb ((renL_length m a).trans h1) ((renL_length m b).trans h2) (fun j c v hc hv => ?_) (fun j c v hc hv => ?_)
    · rw [renL_get] at hc
      obtain ⟨d, hd, rfl⟩ := Option.map_eq_some_iff.1 hc
      exact i1 j d v hd hv
    · rw [renL_get] at hc
      obtain ⟨d, hd, rfl⟩ := Option.map_eq_some_iff.1 hc
      exact i2 j d v hd hv

theorem ObjR.ren {ρ' : Rho} {m : List (Nat × Nat)} (hm : ∀ n k r, aget m n = some k → ρ n = some r → ρ' k = some r) {n k : Nat} (hk : ∀ r, ρ n = some r → ρ' k = some r) {o : AObj} (h : ObjR S ρ w n o) : ObjR S ρ' w k (o.ren m) := by
  cases o with
  | box T v =>
    obtain ⟨b, cells, t, fr, h1, h2, h3, h4, h5, h6⟩ := h
    have hl : (v.ren m).cells.length = v.cells.length := by rw [ren_cells, renL_length]
    refine ⟨b, cells, t, fr, by rw [hl]; exact hk _ h1, h2, by rw [hl]; exact h3, h4, h5, fun j c hc => ?_⟩
    rw [ren_cells, renL_get] at hc
    obtain ⟨d, hd, rfl⟩ := Option.map_eq_some_iff.1 hc
    obtain ⟨u, hu, hv⟩ := h6 j d hd
    exact ⟨u, hu, hv.ren hm⟩
  | row sz es fx mv =>
    rcases h with ⟨h1, h2⟩ | ⟨b, cells, t, fr, h0, h1, rest⟩
    · exact .inl ⟨h1, hk _ h2⟩
    · exact .inr ⟨b, cells, t, fr, h0, hk _ h1, rest⟩
  | loop r sl =>
    obtain ⟨b, L, h1, h2, h3, h4, h5, h7, h8, h9, h10, h11⟩ := h
    refine ⟨b, L, hk _ h1, h2, h3, h4, h5, h7, h8, h9, h10, fun t => ?_⟩
    rw [aget_map]
    have := (h11 t).ren hm
    cases hs : aget sl t with
    | none => rw [hs] at this; exact .undef _
    | some v => rw [hs] at this; exact this
  | map es clk =>
    obtain ⟨b, M, h1, rest⟩ := h
    exact ⟨b, M, hk _ h1, rest⟩
  | iter v since seen last =>
    obtain ⟨b, r, h1, h2, h3, h4⟩ := h
    exact ⟨b, r, hk _ h1, h2, h3, h4.ren hm⟩
  | dblk => exact h.elim
theorem ObjR.unmv {n : Nat} {o : AObj} (h : ObjR S ρ w n o) : ObjR S ρ w n o.unmv := by cases o <;> exact h
theorem ObjR.ormv {n : Nat} {o : AObj} (b : Bool) (h : ObjR S ρ w n o) : ObjR S ρ w n (o.ormv b) := by cases o <;> exact h

/-! ### Names handed over -/
theorem aget_zipIx' {α : Type} (l : List α) : ∀ (s k : Nat), aget (zipIx l s) (s + k) = l[k]? := by
  induction l with
  | nil => intro s k; rfl
  | cons x l ih =>
    intro s k
    cases k with
    | zero => simp [zipIx, aget]
    | succ k =>
      simp only [zipIx, aget]
      rw [if_neg (by omega)]
      have := ih (s + 1) k
      rw [show s + 1 + k = s + (k + 1) by omega] at this
      rw [this]; simp
theorem aget_zipIx {α : Type} (l : List α) (k : Nat) : aget (zipIx l 0) k = l[k]? := by
  have := aget_zipIx' l 0 k
  rwa [Nat.zero_add] at this
theorem zipIx_mem {α : Type} {l : List α} : ∀ {s : Nat} {p : Nat × α}, p ∈ zipIx l s → ∃ k, p.1 = s + k ∧ l[k]? = some p.2 := by
  induction l with
  | nil => intro s p h; simp [zipIx] at h
  | cons x l ih =>
    intro s p h
    simp only [zipIx, List.mem_cons] at h
    rcases h with rfl | h
    · exact ⟨0, rfl, rfl⟩
    · obtain ⟨k, h1, h2⟩ := ih h
      exact ⟨k + 1, by omega, h2⟩
theorem mem_zipIx {α : Type} {l : List α} : ∀ {s k : Nat} {x : α}, l[k]? = some x → (s + k, x) ∈ zipIx l s := by
  induction l with
  | nil => intro s k x h; simp at h
  | cons y l ih =>
    intro s k x h
    cases k with
    | zero => simp at h; subst h; simp [zipIx]
    | succ k =>
      have := ih (s := s + 1) (k := k) (x := x) (by simpa using h)
      rw [show s + 1 + k = s + (k + 1) by omega] at this
      exact List.mem_cons_of_mem _ this
theorem aget_mem {α : Type} {l : List (Nat × α)} {k : Nat} {x : α} (h : aget l k = some x) : (k, x) ∈ l := by
  induction l with
  | nil => cases h
  | cons p l ih =>
    obtain ⟨j, y⟩ := p
    rw [aget_cons] at h
    split at h
    · rename_i e; cases h; cases e; simp
    · exact List.mem_cons_of_mem _ (ih h)
theorem aget_of_mem {α : Type} {l : List (Nat × α)} {k : Nat} {x : α} (h : (k, x) ∈ l) : ∃ y, aget l k = some y := by
  induction l with
  | nil => cases h
  | cons p l ih =>
    obtain ⟨j, y⟩ := p
    rw [aget_cons]
    split
    · exact ⟨y, rfl⟩
    · rename_i e
      rcases List.mem_cons.1 h with e' | h
      · cases e'; exact absurd rfl e
      · exact ih h
theorem aget_append {α : Type} (l r : List (Nat × α)) (k : Nat) : aget (l ++ r) k = (aget l k).or (aget r k) := by
  induction l with
  | nil => simp [aget]
  | cons p l ih =>
    obtain ⟨j, y⟩ := p
    simp only [List.cons_append, aget_cons]
    split <;> simp [ih]

theorem toMap_some {ns : List Nat} {n k : Nat} (h : aget (toMap ns) n = some k) : ns[k]? = some n := by
  have := aget_mem h
  unfold toMap at this
  obtain ⟨p, hp, e⟩ := List.mem_map.1 this
  cases e
  obtain ⟨j, h1, h2⟩ := zipIx_mem hp
  rw [Nat.zero_add] at h1
  rw [h1]; exact h2

theorem aget_subHeap' (F : Nat → Option AObj) (ns : List Nat) : ∀ (s k : Nat), aget ((zipIx ns s).filterMap fun p => (F p.2).map fun o => (p.1, o)) (s + k) = (ns[k]?).bind F := by
  induction ns with
  | nil => intro s k; simp [zipIx, aget]
  | cons n ns ih =>
    intro s k
    have low : ∀ (l : List Nat) (s k : Nat), k < s → aget ((zipIx l s).filterMap fun p => (F p.2).map fun o => (p.1, o)) k = none := by
      intro l
      induction l with
      | nil => intro s k _; simp [zipIx, aget]
      | cons m l ih2 =>
        intro s k hk
        simp only [zipIx, List.filterMap_cons]
        cases hF : F m with
        | none => simp only [Option.map_none]; exact ih2 _ _ (by omega)
        | some o => simp only [Option.map_some]; rw [aget_cons, if_neg (by omega)]; exact ih2 _ _ (by omega)
    simp only [zipIx, List.filterMap_cons]
    cases k with
    | zero =>
      cases hF : F n with
      | none => simp [hF, low]
      | some o => simp [hF, aget_cons]
    | succ k =>
      have := ih (s + 1) k
      rw [show s + 1 + k = s + (k + 1) by omega] at this
      cases hF : F n with
      | none => simpa [hF] using this
      | some o =>
        simp only [Option.map_some]
        rw [aget_cons, if_neg (by omega), this]; simp
theorem aget_subHeap (ns : List Nat) (hp : Heap) (k : Nat) : aget (subHeap ns hp) k = (ns[k]?).bind fun n => (aget hp n).map fun o => (o.ren (toMap ns)).unmv := by
  have := aget_subHeap' (fun n => (aget hp n).map fun o => (o.ren (toMap ns)).unmv) ns 0 k
  rw [Nat.zero_add] at this
  rw [← this]
  unfold subHeap
  congr 2
  funext p
  cases aget hp p.2 <;> rfl

theorem reachL_nodup (hp : Heap) : ∀ (k : Nat) (l acc : List Nat), acc.Nodup → (reachL k hp l acc).Nodup := by
  intro k
  induction k with
  | zero => intro l acc h; simpa [reachL] using h
  | succ k ih =>
    intro l acc h
    cases l with
    | nil => simpa [reachL] using h
    | cons n r =>
      simp only [reachL]
      split
      · exact ih _ _ h
      · rename_i hn
        exact ih _ _ (List.nodup_append.2 ⟨h, by simp, fun a ha b hb => by simp at hb; subst hb; intro e; subst e; exact hn ha⟩)
theorem reachL_length (hp : Heap) : ∀ (k : Nat) (l acc : List Nat), (reachL k hp l acc).length ≤ k + acc.length := by
  intro k
  induction k with
  | zero => intro l acc; simp [reachL]
  | succ k ih =>
    intro l acc
    cases l with
    | nil => simp [reachL]
    | cons n r =>
      simp only [reachL]
      split
      · exact Nat.le_trans (ih _ _) (by omega)
      · exact Nat.le_trans (ih _ _) (by simp; omega)

def subRho (ns : List Nat) (ρ : Rho) : Rho := fun k => (ns[k]?).bind ρ

theorem nodup_inj {l : List Nat} (h : l.Nodup) {i j n : Nat} (hi : l[i]? = some n) (hj : l[j]? = some n) : i = j := by
  obtain ⟨l1, e1⟩ := List.getElem?_eq_some_iff.1 hi
  obtain ⟨l2, e2⟩ := List.getElem?_eq_some_iff.1 hj
  rcases Nat.lt_trichotomy i j with hlt | he | hgt
  · exact absurd (e1.trans e2.symm) (List.pairwise_iff_getElem.1 h i j l1 l2 hlt)
  · exact he
  · exact absurd (e2.trans e1.symm) (List.pairwise_iff_getElem.1 h j i l2 l1 hgt)

theorem HR.sub {hp : Heap} (H : HR S ρ w hp) {ns : List Nat} (hnd : ns.Nodup) : HR S (subRho ns ρ) w (subHeap ns hp) := by
  refine ⟨fun k o ho => ?_, fun k hk => ?_, fun k k' b sz sz' j j' h1 h2 => ?_⟩
  · rw [aget_subHeap] at ho
    rw [Option.bind_eq_some_iff] at ho
    obtain ⟨n, hn, ho⟩ := ho
    obtain ⟨o', ho', rfl⟩ := Option.map_eq_some_iff.1 ho
    refine ((H.obj n o' ho').ren (fun m j r hm hr => ?_) (fun r hr => ?_)).unmv
    · have := toMap_some hm; simp [subRho, this, hr]
    · simp [subRho, hn, hr]
  · rw [aget_subHeap] at hk
    unfold subRho
    cases hn : ns[k]? with
    | none => rfl
    | some n =>
      simp only [hn, Option.bind_some, Option.map_eq_none_iff] at hk
      exact H.dom n hk
  · simp only [subRho] at h1 h2
    rw [Option.bind_eq_some_iff] at h1 h2
    obtain ⟨n, hn, h1⟩ := h1
    obtain ⟨m, hm, h2⟩ := h2
    have := H.inj n m b sz sz' j j' h1 h2
    subst this
    exact nodup_inj hnd hn hm

theorem VR.sub {ns : List Nat} {x : AV} {v : Value} (h : VR S ρ w x v) : VR S (subRho ns ρ) w (x.ren (toMap ns)) v :=
  h.ren fun m j r hm hr => by have := toMap_some hm; simp [subRho, this, hr]

/-! ### A call's beginning and its end -/
def envOf (S : Stab) (ρ : Rho) (w : World) (h : Ent S ρ w) : Env := ⟨w, S, fun b => ∃ n sz k, ρ n = some ⟨some (b, sz), k⟩, ρ, h.low, h.glob⟩

/-- The fence: the program's functions alone, or all; in a round, or in none. -/
def FW (wd : Bool) (ro : Option Nat) : Fence := { fn := fun f => wd = true ∨ f < NF, depth := none, alive := false, round := ro }
/-- What is told of a call without a fence serves, where there is none. -/
theorem calls_FW {n : Nat} {P : Program} {f : FuncId} {args : Array Value} {w : World} {R : Ending → World → Prop} (h : Calls P f args w R) : CallsIn (FW true none) n P f args w R := by
  refine ⟨.inl rfl, fun cs _ => ?_⟩
  obtain ⟨e, w', fr, r, s, x⟩ := h cs
  have all : ∀ m : Machine, m.fenced P (FW true none) := fun m g _ => ⟨fun h => by simp [FW] at h, .inl (.inl rfl), fun _ _ => .inl rfl, fun _ h => by simp [FW] at h⟩
  refine ⟨e, w', fr, r, ?_, x⟩
  cases e with
  | returned v => exact (StepsIn.of_steps s).mono fun m _ => all m
  | panicked ch => exact (StepsIn.of_steps s).mono fun m _ => all m
  | outgrown => exact s
theorem calls_of_FW {wd : Bool} {n : Nat} {P : Program} {f : FuncId} {args : Array Value} {w : World} {R : Ending → World → Prop} (h : CallsIn (FW wd none) n P f args w R) : Calls P f args w R := fun cs => by
  obtain ⟨e, w', fr, r, s, x⟩ := h.2 cs (fun d hd => by simp [FW] at hd)
  exact ⟨e, w', fr, r, s.comes, x⟩
theorem calls_fw {wd : Bool} {ro : Option Nat} {n : Nat} {P : Program} {f : FuncId} {args : Array Value} {w : World} {R : Ending → World → Prop} (h : CallsIn (FW wd none) 0 P f args w R) : CallsIn (FW wd ro) n P f args w R :=
  ⟨h.1, fun cs _ => h.2 cs (fun d hd => by cases hd)⟩
theorem round_fw {wd : Bool} {ro : Option Nat} {n : Nat} {P : Program} {l : Nat} {f : FuncId} {tmps : Array Value} {asg body : Code} {w : World} {R : Ending → World → Prop} (h : RoundIn (FW wd none) 0 P l f tmps asg body w R) : RoundIn (FW wd ro) n P l f tmps asg body w R :=
  ⟨h.1, fun c cs _ => h.2 c cs (fun d hd => by cases hd)⟩

structure Out (E : Env) (hp : Heap) (S : Stab) (ρ : Rho) (w : World) : Prop where
  heap : HR S ρ w hp
  mine : ∀ n b sz k, ρ n = some ⟨some (b, sz), k⟩ → E.F b ∨ E.W0.heap.size ≤ b
  old : ∀ n o, aget hp n = some o → o.moved = false → ∀ r, E.R0 n = some r → ρ n = some r
  fr : FrameR E S w

def AnswerR (S : Stab) (ρ : Rho) (w : World) : ARes → Ending → Prop
  | .ret v, .returned u => VR S ρ w v u
  | .pan v, .panicked ch => ∃ u, ch = [{ v := u, recovered := false }] ∧ VR S ρ w v u
  | _, _ => False

def CallSound (wd : Bool) (P : Program) (g : FuncId) (args : List AV) (hp : Heap) (r : ARes × Heap) : Prop :=
  ∀ (S : Stab) (ρ : Rho) (w : World) (vs : Array Value) (hl : Ent S ρ w), HR S ρ w hp → (∀ b o, S b o → b < w.heap.size) → args.length = vs.size →
    (∀ (j : Nat) c v, args[j]? = some c → vs[j]? = some v → VR S ρ w c v) →
    CallsIn (FW wd none) 0 P g vs w fun e w' => ∃ S' ρ', Out (envOf S ρ w hl) r.2 S' ρ' w' ∧ AnswerR S' ρ' w' r.1 e

theorem CallSound.wide {wd : Bool} {P : Program} {g : FuncId} {args : List AV} {hp : Heap} {r : ARes × Heap} (h : CallSound wd P g args hp r) : CallSound true P g args hp r :=
  fun S ρ w vs hl H hS ha hv => calls_FW (calls_of_FW (h S ρ w vs hl H hS ha hv))
theorem CallSound.any {wd : Bool} {P : Program} {g : FuncId} {args : List AV} {hp : Heap} {r : ARes × Heap} (h : CallSound false P g args hp r) : CallSound wd P g args hp r := by
  cases wd with
  | false => exact h
  | true => exact h.wide
/-! ### Names struck -/
def strike (ns : List Nat) (ρ : Rho) : Rho := fun n => if n ∈ ns then none else ρ n
theorem VR.kills (ns : List Nat) : ∀ {ρ : Rho} {x : AV} {v : Value}, VR S ρ w x v → VR S (strike ns ρ) w (ns.foldl (fun x n => x.kill n) x) v := by
  induction ns with
  | nil => intro ρ x v h; exact h.ext (Ext.refl S w) fun id r hr => by simp [strike, hr]
  | cons n ns ih =>
    intro ρ x v h
    have h1 : VR S (strike [n] ρ) w (x.kill n) v := h.kill n fun id r hid hr => by simp [strike, hid, hr]
    exact (ih h1).ext (Ext.refl S w) fun id r hr => by
      unfold strike at hr ⊢
      split at hr
      · cases hr
      · rename_i hid
        split at hr
        · cases hr
        · rename_i hn
          rw [if_neg (by simp only [List.mem_cons, not_or]; simp only [List.mem_singleton] at hn; exact ⟨hn, hid⟩)]; exact hr
theorem ObjR.kills (ns : List Nat) {m : Nat} (hm : m ∉ ns) : ∀ {ρ : Rho} {o : AObj}, ObjR S ρ w m o → ObjR S (strike ns ρ) w m (ns.foldl (fun o n => o.kill n) o) := by
  induction ns with
  | nil => intro ρ o h; exact h.keep (Ext.refl S w) (by simp [strike]) (fun id r hr => by simp [strike, hr]) (fun b s k _ => ⟨rfl, fun _ x => x⟩)
  | cons n ns ih =>
    intro ρ o h
    simp only [List.mem_cons, not_or] at hm
    have h1 : ObjR S (strike [n] ρ) w m (o.kill n) := h.kill (n := n) (fun id r hid hr => by simp [strike, hid, hr]) hm.1
    have e : strike ns (strike [n] ρ) = strike (n :: ns) ρ := by
      funext id
      unfold strike
      by_cases h1 : id ∈ ns <;> by_cases h2 : id = n <;> simp [h1, h2]
    have := ih hm.2 h1
    rw [e] at this
    exact this
theorem moved_kills (ns : List Nat) : ∀ o : AObj, (ns.foldl (fun o n => o.kill n) o).moved = o.moved := by
  induction ns with
  | nil => intro o; rfl
  | cons n ns ih => intro o; rw [List.foldl_cons, ih, moved_kill]
theorem slot_killAll (ns : List Nat) : ∀ (st : ASt) (t : Nat), (killAll st ns).slot t = ns.foldl (fun x n => x.kill n) (st.slot t) := by
  induction ns with
  | nil => intro st t; rfl
  | cons n ns ih => intro st t; show (killAll (st.killn n) ns).slot t = _; rw [ih, slot_killn]; rfl
theorem hp_killAll (ns : List Nat) : ∀ (st : ASt) (m : Nat), aget (killAll st ns).hp m = (aget st.hp m).map fun o => ns.foldl (fun o n => o.kill n) o := by
  induction ns with
  | nil => intro st m; show aget st.hp m = _; cases aget st.hp m <;> rfl
  | cons n ns ih =>
    intro st m
    show aget (killAll (st.killn n) ns).hp m = _
    rw [ih, hp_killn]
    cases aget st.hp m <;> rfl

end Go.Proofs.YteibklnligmanaaDoor.Abs


/- Calls, on: behind a call the caller's state is told. -/
namespace Go.Proofs.YteibklnligmanaaDoor.Abs
open Go Go.RowKit
set_option linter.unusedSimpArgs false
set_option linter.unusedVariables false

variable {G : Cfg} {S : Stab} {ρ : Rho} {w : World} {E : Env} {st : ASt} {a : Act}

theorem aget_mapInj {β : Type} (f : Nat → Nat) (F : Nat → AObj → β) : ∀ (l : List (Nat × AObj)), (∀ k k' x y, (k, x) ∈ l → (k', y) ∈ l → f k = f k' → k = k') → ∀ (k : Nat) (x : AObj), (k, x) ∈ l → aget (l.map fun p => (f p.1, F p.1 p.2)) (f k) = (aget l k).map (F k) := by
  intro l
  induction l with
  | nil => intro _ k x h; cases h
  | cons p l ih =>
    intro hinj k x h
    obtain ⟨j, y⟩ := p
    simp only [List.map_cons, aget_cons]
    by_cases e : j = k
    · subst e; simp
    · have : f j ≠ f k := fun he => e (hinj j k y x (by simp) h he)
      rw [if_neg this, if_neg e]
      rcases List.mem_cons.1 h with h | h
      · cases h; exact absurd rfl e
      · exact ih (fun k k' x y h1 h2 => hinj k k' x y (List.mem_cons_of_mem _ h1) (List.mem_cons_of_mem _ h2)) k x h
theorem aget_mapNot {β : Type} (f : Nat → Nat) (F : Nat → AObj → β) : ∀ (l : List (Nat × AObj)) (n : Nat), (∀ k x, (k, x) ∈ l → f k ≠ n) → aget (l.map fun p => (f p.1, F p.1 p.2)) n = none := by
  intro l
  induction l with
  | nil => intro n _; rfl
  | cons p l ih =>
    intro n h
    obtain ⟨j, y⟩ := p
    simp only [List.map_cons, aget_cons]
    rw [if_neg (h j y (by simp))]
    exact ih n fun k x hk => h k x (List.mem_cons_of_mem _ hk)

/-- What the names lead to behind the call. -/
noncomputable def backRho (f : Nat → Nat) (hp1 : Heap) (ρ1 ρ : Rho) : Rho := by
  classical exact fun n => if h : ∃ k x, (k, x) ∈ hp1 ∧ f k = n then ρ1 h.choose else ρ n
theorem backRho_in {f : Nat → Nat} {hp1 : Heap} {ρ1 ρ : Rho} (hinj : ∀ k k' x y, (k, x) ∈ hp1 → (k', y) ∈ hp1 → f k = f k' → k = k') {k : Nat} {x : AObj} (h : (k, x) ∈ hp1) : backRho f hp1 ρ1 ρ (f k) = ρ1 k := by
  unfold backRho
  have hx : ∃ k' x', (k', x') ∈ hp1 ∧ f k' = f k := ⟨k, x, h, rfl⟩
  rw [dif_pos hx]
  obtain ⟨x', h1, h2⟩ := hx.choose_spec
  rw [hinj _ _ _ _ h1 h h2]
theorem backRho_out {f : Nat → Nat} {hp1 : Heap} {ρ1 ρ : Rho} {n : Nat} (h : ∀ k x, (k, x) ∈ hp1 → f k ≠ n) : backRho f hp1 ρ1 ρ n = ρ n := by
  unfold backRho
  rw [dif_neg]
  rintro ⟨k, x, h1, h2⟩
  exact h k x h1 h2

theorem newName_ge (d k : Nat) : 1000 ≤ newName d k := by
  unfold newName
  have : 1000000 * (0 + 1) ≤ 1000000 * (k + 1) := Nat.mul_le_mul_left _ (by omega)
  omega
theorem newName_inj {d k k' : Nat} (h : newName d k = newName d k') : k = k' := by
  unfold newName at h
  omega

theorem moved_ormv (b : Bool) (o : AObj) (h : o.isRow = true ∨ b = false) : (o.ormv b).moved = (b || o.moved) := by
  cases o <;> first | rfl | (rcases h with h | h; cases h; subst h; rfl)
theorem moved_ren (m : List (Nat × Nat)) (o : AObj) : (o.ren m).moved = o.moved := by cases o <;> rfl
theorem isRow_ren (m : List (Nat × Nat)) (o : AObj) : (o.ren m).isRow = o.isRow := by cases o <;> rfl

/-- BEHIND A CALL the caller's state is told. -/
theorem afterCall_ok {tm : Array Value} (h : SR E st S ρ tm w) {ns : List Nat} (hnd : ns.Nodup) (hlen : ns.length ≤ 40) (hns : ∀ n ∈ ns, ∃ o, aget st.hp n = some o) {d : Option Nat} {hp1 : Heap} {st3 : ASt} (hc : afterCall d ns st hp1 = some st3)
    {hl : Ent S (subRho ns ρ) w} {S' : Stab} {ρ1 : Rho} {w' : World} (ho : Out (envOf S (subRho ns ρ) w hl) hp1 S' ρ1 w') :
    ∃ ρ3, SR E st3 S' ρ3 tm w' ∧ (∀ x v, VR S' ρ1 w' x v → VR S' ρ3 w' (x.ren (backMap ns d hp1)) v) ∧ ∀ n r, n ∉ movedOf ns hp1 → ρ n = some r → ρ3 n = some r := by
  unfold afterCall at hc
  split at hc
  case isFalse => cases hc
  rename_i hck
  cases hc
  simp only [Bool.and_eq_true, List.all_eq_true] at hck
  obtain ⟨hck1, hck2⟩ := hck
  have hall : ∀ k n, ns[k]? = some n → ∃ o, aget hp1 k = some o := by
    intro k n hk
    have := hck1 (0 + k, n) (mem_zipIx hk)
    rw [Nat.zero_add] at this
    exact Option.isSome_iff_exists.1 this
  have hbn : ∀ k n, ns[k]? = some n → backName ns d k = n := by
    intro k n hk
    unfold backName
    rw [aget_zipIx, hk]
  have hbn' : ∀ k, ns[k]? = none → backName ns d k = newName (d.getD 0) k := by
    intro k hk
    unfold backName
    rw [aget_zipIx, hk]
  have hnew : ∀ k x, (k, x) ∈ hp1 → ns[k]? = none → aget st.hp (backName ns d k) = none := by
    intro k x hx hk
    have := (hck2 (k, x) hx).1
    simp only [aget_zipIx, hk, Option.isSome_none, Bool.false_or] at this
    simpa using this
  have hrow : ∀ k x, (k, x) ∈ hp1 → x.isRow = true ∨ ((aget st.hp (backName ns d k)).map AObj.moved).getD false = false := by
    intro k x hx
    have := (hck2 (k, x) hx).2
    simpa using this
  have hinj : ∀ k k' x y, (k, x) ∈ hp1 → (k', y) ∈ hp1 → backName ns d k = backName ns d k' → k = k' := by
    intro k k' x y hx hy e
    cases h1 : ns[k]? with
    | none =>
      have n1 := hnew k x hx h1
      cases h2 : ns[k']? with
      | none => rw [hbn' k h1, hbn' k' h2] at e; exact newName_inj e
      | some m =>
        obtain ⟨o, hm⟩ := hns m (List.mem_of_getElem? h2)
        rw [e, hbn k' m h2, hm] at n1; cases n1
    | some n =>
      cases h2 : ns[k']? with
      | none =>
        have n1 := hnew k' y hy h2
        obtain ⟨o, hm⟩ := hns n (List.mem_of_getElem? h1)
        rw [← e, hbn k n h1, hm] at n1; cases n1
      | some m =>
        rw [hbn k n h1, hbn k' m h2] at e
        subst e
        exact nodup_inj hnd h1 h2
  -- what the names lead to
  obtain ⟨ρ3, hρ3⟩ : ∃ ρ3, ρ3 = backRho (backName ns d) hp1 ρ1 ρ := ⟨_, rfl⟩
  have r_in : ∀ k x, (k, x) ∈ hp1 → ρ3 (backName ns d k) = ρ1 k := fun k x hx => by rw [hρ3]; exact backRho_in hinj hx
  have r_out : ∀ n, (∀ k x, (k, x) ∈ hp1 → backName ns d k ≠ n) → ρ3 n = ρ n := fun n hn => by rw [hρ3]; exact backRho_out hn
  have dom1 : ∀ k r, ρ1 k = some r → ∃ x, (k, x) ∈ hp1 := by
    intro k r hr
    cases hx : aget hp1 k with
    | none => rw [ho.heap.dom k hx] at hr; cases hr
    | some x => exact ⟨x, aget_mem hx⟩
  have hback : ∀ n k r, aget (backMap ns d hp1) n = some k → ρ1 n = some r → ρ3 k = some r := by
    intro n k r hm hr
    obtain ⟨p, hp, e⟩ := List.mem_map.1 (aget_mem hm)
    cases e
    rw [r_in p.1 p.2 hp]; exact hr
  -- a name of the caller's, that wasn't moved, leads where it led
  have hmv : ∀ n r, n ∉ movedOf ns hp1 → ρ n = some r → ρ3 n = some r := by
    intro n r hn hr
    have hdom : ∃ o, aget st.hp n = some o := by
      cases hx : aget st.hp n with
      | none => rw [h.heap.dom n hx] at hr; cases hr
      | some o => exact ⟨o, rfl⟩
    by_cases hin : n ∈ ns
    · obtain ⟨k, hk⟩ := List.getElem?_of_mem hin
      obtain ⟨o, ho1⟩ := hall k n hk
      have hm := aget_mem ho1
      rw [← hbn k n hk, r_in k o hm]
      refine ho.old k o ho1 ?_ r (by show subRho ns ρ k = some r; simp [subRho, hk, hr])
      cases hmo : o.moved with
      | false => rfl
      | true =>
        exfalso; apply hn
        unfold movedOf
        refine List.mem_filterMap.2 ⟨(k, o), hm, ?_⟩
        simp [hmo, aget_zipIx, hk]
    · rw [r_out n fun k x hx e => ?_]
      · exact hr
      · obtain ⟨o, ho1⟩ := hdom
        cases h1 : ns[k]? with
        | none => rw [← e, hnew k x hx h1] at ho1; cases ho1
        | some m => rw [hbn k m h1] at e; subst e; exact hin (List.mem_of_getElem? h1)
  have hout : ∀ n, n ∉ ns → (∃ o, aget st.hp n = some o) → ∀ k x, (k, x) ∈ hp1 → backName ns d k ≠ n := by
    rintro n hin ⟨o, ho1⟩ k x hx e
    cases h1 : ns[k]? with
    | none => rw [← e, hnew k x hx h1] at ho1; cases ho1
    | some m => rw [hbn k m h1] at e; subst e; exact hin (List.mem_of_getElem? h1)
  have hF : ∀ b, (∃ n sz k, subRho ns ρ n = some ⟨some (b, sz), k⟩) → ∃ n sz k, n ∈ ns ∧ ρ n = some ⟨some (b, sz), k⟩ := by
    rintro b ⟨n, sz, k, hr⟩
    simp only [subRho] at hr
    rw [Option.bind_eq_some_iff] at hr
    obtain ⟨m, hm, hr⟩ := hr
    exact ⟨m, sz, k, List.mem_of_getElem? hm, hr⟩
  have fro := ho.fr
  have hfresh : ∀ n b sz k, n ∉ ns → ρ n = some ⟨some (b, sz), k⟩ → w'.heap[b]? = w.heap[b]? ∧ ∀ o, S' b o → S b o := by
    intro n b sz k hin hr
    have hlt := h.heap.lt hr
    have hnF : ¬ ∃ n sz k, subRho ns ρ n = some ⟨some (b, sz), k⟩ := by
      intro hx
      obtain ⟨m, sz', k', hm, hr'⟩ := hF b hx
      exact hin (h.heap.inj _ _ _ _ _ _ _ hr hr' ▸ hm)
    refine ⟨fro.keep b hlt hnF, fun o ho' => ?_⟩
    rcases fro.new b o ho' with hx | hx | hx
    · exact hx
    · exact absurd hx hnF
    · exact absurd hlt (Nat.not_lt.2 hx)
  have hext : Ext S w S' w' := fro.ext
  refine ⟨ρ3, ⟨fun t => ?_, ⟨?_, ?_, ?_⟩, ?_, ?_, ?_⟩, fun x v hx => hx.ren hback, hmv⟩
  · -- slots
    show VR S' ρ3 w' ((killAll st (movedOf ns hp1)).slot t) _
    rw [slot_killAll]
    refine ((h.slot t).kills (movedOf ns hp1)).ext hext fun id r hr => ?_
    unfold strike at hr
    split at hr
    · cases hr
    · rename_i hid; exact hmv id r hid hr
  · -- objects
    intro n o hn
    simp only [afterHeap] at hn
    rw [aget_append] at hn
    by_cases hin : ∃ k x, (k, x) ∈ hp1 ∧ backName ns d k = n
    · obtain ⟨k, x, hx, rfl⟩ := hin
      rw [aget_mapInj (backName ns d) (fun j (p : AObj) => (p.ren (backMap ns d hp1)).ormv (((aget (killAll st (movedOf ns hp1)).hp (backName ns d j)).map AObj.moved).getD false)) hp1 hinj k x hx] at hn
      obtain ⟨y, hy⟩ := aget_of_mem hx
      rw [hy] at hn
      simp only [Option.map_some, Option.some_or, Option.some.injEq] at hn
      subst hn
      refine ((ho.heap.obj k y hy).ren hback fun r hr => ?_).ormv _
      rw [r_in k x hx]; exact hr
    · have hno : ∀ k x, (k, x) ∈ hp1 → backName ns d k ≠ n := fun k x hx e => hin ⟨k, x, hx, e⟩
      rw [aget_mapNot (backName ns d) (fun j (p : AObj) => (p.ren (backMap ns d hp1)).ormv (((aget (killAll st (movedOf ns hp1)).hp (backName ns d j)).map AObj.moved).getD false)) hp1 n hno, Option.none_or, hp_killAll] at hn
      obtain ⟨o1, ho1, rfl⟩ := Option.map_eq_some_iff.1 hn
      have hnns : n ∉ ns := fun hm => by
        obtain ⟨k, hk⟩ := List.getElem?_of_mem hm
        obtain ⟨x, hx⟩ := hall k n hk
        exact hno k x (aget_mem hx) (hbn k n hk)
      have hnm : n ∉ movedOf ns hp1 := fun hm => by
        unfold movedOf at hm
        obtain ⟨p, hp, e⟩ := List.mem_filterMap.1 hm
        split at e
        · rw [aget_zipIx] at e; exact hnns (List.mem_of_getElem? e)
        · cases e
      have hob := (h.heap.obj n o1 ho1).kills (movedOf ns hp1) hnm
      refine hob.keep hext ?_ (fun id r hr => ?_) (fun b sz k hb => ?_)
      · rw [r_out n hno]; simp [strike, hnm]
      · unfold strike at hr
        split at hr
        · cases hr
        · rename_i hid; exact hmv id r hid hr
      · simp only [strike, if_neg hnm] at hb
        exact hfresh n b sz k hnns hb
  · -- names without objects
    intro n hn
    simp only [afterHeap] at hn
    rw [aget_append] at hn
    by_cases hin : ∃ k x, (k, x) ∈ hp1 ∧ backName ns d k = n
    · obtain ⟨k, x, hx, rfl⟩ := hin
      rw [aget_mapInj (backName ns d) (fun j (p : AObj) => (p.ren (backMap ns d hp1)).ormv (((aget (killAll st (movedOf ns hp1)).hp (backName ns d j)).map AObj.moved).getD false)) hp1 hinj k x hx] at hn
      obtain ⟨y, hy⟩ := aget_of_mem hx
      rw [hy] at hn; simp at hn
    · have hno : ∀ k x, (k, x) ∈ hp1 → backName ns d k ≠ n := fun k x hx e => hin ⟨k, x, hx, e⟩
      rw [aget_mapNot (backName ns d) (fun j (p : AObj) => (p.ren (backMap ns d hp1)).ormv (((aget (killAll st (movedOf ns hp1)).hp (backName ns d j)).map AObj.moved).getD false)) hp1 n hno, Option.none_or, hp_killAll] at hn
      rw [r_out n hno]
      exact h.heap.dom n (by simpa using hn)
  · -- no block under two names
    intro n m b sz sz' k k' h1 h2
    have one : ∀ n m sz sz' k k', (∃ j x, (j, x) ∈ hp1 ∧ backName ns d j = n) → (¬ ∃ j x, (j, x) ∈ hp1 ∧ backName ns d j = m) → ρ3 n = some ⟨some (b, sz), k⟩ → ρ3 m = some ⟨some (b, sz'), k'⟩ → False := by
      rintro n m sz sz' k k' ⟨j, x, hx, rfl⟩ hm h1 h2
      have hno : ∀ k x, (k, x) ∈ hp1 → backName ns d k ≠ m := fun k x hx e => hm ⟨k, x, hx, e⟩
      rw [r_out m hno] at h2
      rw [r_in j x hx] at h1
      have hmns : m ∉ ns := fun hm' => by
        obtain ⟨i, hi⟩ := List.getElem?_of_mem hm'
        obtain ⟨y, hy⟩ := hall i m hi
        exact hno i y (aget_mem hy) (hbn i m hi)
      rcases ho.mine j b sz k h1 with hx | hx
      · obtain ⟨i, s, l, hi, hr⟩ := hF b hx
        exact hmns (h.heap.inj _ _ _ _ _ _ _ h2 hr ▸ hi)
      · exact absurd (h.heap.lt h2) (Nat.not_lt.2 hx)
    by_cases e1 : ∃ j x, (j, x) ∈ hp1 ∧ backName ns d j = n
    · by_cases e2 : ∃ j x, (j, x) ∈ hp1 ∧ backName ns d j = m
      · obtain ⟨j, x, hx, rfl⟩ := e1
        obtain ⟨i, y, hy, rfl⟩ := e2
        rw [r_in j x hx] at h1
        rw [r_in i y hy] at h2
        rw [ho.heap.inj _ _ _ _ _ _ _ h1 h2]
      · exact (one n m sz sz' k k' e1 e2 h1 h2).elim
    · by_cases e2 : ∃ j x, (j, x) ∈ hp1 ∧ backName ns d j = m
      · exact (one m n sz' sz k' k e2 e1 h2 h1).elim
      · rw [r_out n fun k x hx e => e1 ⟨k, x, hx, e⟩] at h1
        rw [r_out m fun k x hx e => e2 ⟨k, x, hx, e⟩] at h2
        exact h.heap.inj _ _ _ _ _ _ _ h1 h2
  · -- whose the blocks are
    intro n b sz k h1
    by_cases e1 : ∃ j x, (j, x) ∈ hp1 ∧ backName ns d j = n
    · obtain ⟨j, x, hx, rfl⟩ := e1
      rw [r_in j x hx] at h1
      rcases ho.mine j b sz k h1 with hx | hx
      · obtain ⟨i, s, l, hi, hr⟩ := hF b hx
        exact h.mine i b s l hr
      · exact .inr (Nat.le_trans h.fr.size hx)
    · rw [r_out n fun k x hx e => e1 ⟨k, x, hx, e⟩] at h1
      exact h.mine n b sz k h1
  · -- names that were there at the caller's beginning
    intro n o hn hm r hr0
    have hlow := E.low n r hr0
    simp only [afterHeap] at hn
    rw [aget_append] at hn
    by_cases hin : ∃ k x, (k, x) ∈ hp1 ∧ backName ns d k = n
    · obtain ⟨k, x, hx, rfl⟩ := hin
      cases hk : ns[k]? with
      | none => rw [hbn' k hk] at hlow; have := newName_ge (d.getD 0) k; omega
      | some m =>
        rw [aget_mapInj (backName ns d) (fun j (p : AObj) => (p.ren (backMap ns d hp1)).ormv (((aget (killAll st (movedOf ns hp1)).hp (backName ns d j)).map AObj.moved).getD false)) hp1 hinj k x hx] at hn
        obtain ⟨y, hy⟩ := aget_of_mem hx
        rw [hy] at hn
        simp only [Option.map_some, Option.some_or, Option.some.injEq] at hn
        subst hn
        obtain ⟨o1, ho1⟩ := hns m (List.mem_of_getElem? hk)
        rw [hbn k m hk] at hm hr0 ⊢
        have hq : (aget (killAll st (movedOf ns hp1)).hp m).map AObj.moved = some o1.moved := by
          rw [hp_killAll, ho1]; simp [moved_kills]
        rw [hq] at hm
        simp only [Option.getD_some] at hm
        have hr := hrow k y (aget_mem hy)
        rw [hbn k m hk, ho1] at hr
        simp only [Option.map_some, Option.getD_some] at hr
        rw [moved_ormv _ _ (by rw [isRow_ren]; exact hr), moved_ren] at hm
        simp only [Bool.or_eq_false_iff] at hm
        have h2 := h.old m o1 ho1 hm.1 r hr0
        have := ho.old k y hy hm.2 r (by show subRho ns ρ k = some r; simp [subRho, hk, h2])
        rw [← hbn k m hk, r_in k x hx]; exact this
    · have hno : ∀ k x, (k, x) ∈ hp1 → backName ns d k ≠ n := fun k x hx e => hin ⟨k, x, hx, e⟩
      rw [aget_mapNot (backName ns d) (fun j (p : AObj) => (p.ren (backMap ns d hp1)).ormv (((aget (killAll st (movedOf ns hp1)).hp (backName ns d j)).map AObj.moved).getD false)) hp1 n hno, Option.none_or, hp_killAll] at hn
      obtain ⟨o1, ho1, rfl⟩ := Option.map_eq_some_iff.1 hn
      rw [moved_kills] at hm
      rw [r_out n hno]
      exact h.old n o1 ho1 hm r hr0
  · -- the frame
    refine ⟨h.fr.ext.trans hext, fun b o hS => ?_, fro.bnd, Nat.le_trans h.fr.size fro.size, fun b hb hnF => ?_, fun b hb => fro.dfr b (h.fr.dfr b hb), fro.os.trans h.fr.os, fro.tape.trans h.fr.tape, fro.output.trans h.fr.output⟩
    · rcases fro.new b o hS with hx | hx | hx
      · exact h.fr.new b o hx
      · obtain ⟨i, s, l, hi, hr⟩ := hF b hx
        exact .inr (h.mine i b s l hr)
      · exact .inr (.inr (Nat.le_trans h.fr.size hx))
    · refine (fro.keep b (Nat.lt_of_lt_of_le hb h.fr.size) fun hx => ?_).trans (h.fr.keep b hb hnF)
      obtain ⟨i, s, l, hi, hr⟩ := hF b hx
      rcases h.mine i b s l hr with hh | hh
      · exact hnF hh
      · omega

/-! ### A call -/
def CallDone (E : Env) (tm : Array Value) (ρ : Rho) (mvd : List Nat) : AR → Ending → World → Prop
  | .val v st', e, w' => ∃ u S' ρ', e = .returned u ∧ SR E st' S' ρ' tm w' ∧ VR S' ρ' w' v u ∧ ∀ n r, n ∉ mvd → ρ n = some r → ρ' n = some r
  | .pan v st', e, w' => ∃ u S' ρ', e = .panicked [{ v := u, recovered := false }] ∧ SR E st' S' ρ' tm w' ∧ VR S' ρ' w' v u

/-- A round, told abstractly, on the machine. -/
def RoundSound (wd : Bool) (P : Program) (L : Nat) (args : List AV) (hp : Heap) (r : ARes × Heap) : Prop :=
  ∀ (S : Stab) (ρ : Rho) (w : World) (us : Array Value) (hl : Ent S ρ w), HR S ρ w hp → (∀ b o, S b o → b < w.heap.size) → args.length = us.size →
    (∀ (j : Nat) c v, args[j]? = some c → us[j]? = some v → VR S ρ w c v) → ∀ b sz k, ρ L = some ⟨some (b, sz), k⟩ →
    ∃ R : Loop, w.heap[b]? = some (.loop R) ∧ us.size = R.params.size ∧ RoundIn (FW wd none) 0 P b R.fn ((R.params.zip us).foldl (fun tmps (t, a) => tmps.setIfInBounds t a) R.tmps) R.assign R.body w
      fun e w' => ∃ S' ρ', Out (envOf S ρ w hl) r.2 S' ρ' w' ∧ AnswerR S' ρ' w' r.1 e

structure CallOK (G : Cfg) (call : CallFn) : Prop where
  fn : ∀ g args hp r, g < RB → G.E g = true → call g args hp = some r → CallSound G.wd G.P g args hp r
  rnd : ∀ L args hp r, call (RB + L) args hp = some r → RoundSound G.wd G.P L args hp r

theorem vr_yld {id : Nat} {v : Value} (h : VR S ρ w (.yld id) v) : ∃ b sz n, ρ id = some ⟨some (b, sz), n⟩ ∧ v = .func (.yield b) #[] #[] := by
  cases h with
  | pure h => cases h
  | yld _ b sz n h => exact ⟨b, sz, n, h, rfl⟩

theorem prepL_get (G : Cfg) (g : FuncId) (hp : Heap) : ∀ (l : List AV) (j k : Nat), (prepL G g hp l j)[k]? = (l[k]?).map fun a => if G.inplace g (j + k) then a else a.rv hp := by
  intro l
  induction l with
  | nil => intro j k; simp [prepL]
  | cons a l ih =>
    intro j k
    cases k with
    | zero => simp [prepL]
    | succ k => simp only [prepL, List.getElem?_cons_succ]; rw [ih, show j + 1 + k = j + (k + 1) by omega]
theorem prepL_length (G : Cfg) (g : FuncId) (hp : Heap) : ∀ (l : List AV) (j : Nat), (prepL G g hp l j).length = l.length := by
  intro l
  induction l with
  | nil => intro j; rfl
  | cons a l ih => intro j; simp [prepL, ih]
theorem prepRows_mem (G : Cfg) (g : FuncId) : ∀ (l : List AV) (j k : Nat) (a : AV) (n : Nat), l[k]? = some a → G.inplace g (j + k) = false → n ∈ a.rows → n ∈ prepRows G g l j := by
  intro l
  induction l with
  | nil => intro j k a n h; simp at h
  | cons x l ih =>
    intro j k a n h hi hn
    cases k with
    | zero =>
      simp at h; subst h
      simp only [prepRows, List.mem_append]
      left
      rw [Nat.add_zero] at hi
      simpa [hi] using hn
    | succ k =>
      simp only [prepRows, List.mem_append]
      right
      exact ih (j + 1) k a n (by simpa using h) (by rw [show j + 1 + k = j + (k + 1) by omega]; exact hi) hn

/-- What comes back. -/
theorem back_ok {tm : Array Value} (k2 : SR E st S ρ tm w) {ns : List Nat} (hnd : ns.Nodup) (hlen : ns.length ≤ 40) (hns : ∀ n ∈ ns, (aget st.hp n).isSome = true) {d : Option Nat} {res : ARes} {hp1 : Heap} {st3 : ASt} (hst3 : afterCall d ns st hp1 = some st3)
    {hl : Ent S (subRho ns ρ) w} {e : Ending} {w' : World} (h : ∃ S' ρ', Out (envOf S (subRho ns ρ) w hl) hp1 S' ρ' w' ∧ AnswerR S' ρ' w' res e) : CallDone E tm ρ (movedOf ns hp1) (answered (backMap ns d hp1) st3 res) e w' := by
  obtain ⟨S', ρ', hout, hans⟩ := h
  obtain ⟨ρ3, hsr, hvr, hper⟩ := afterCall_ok k2 hnd hlen (fun n hn => Option.isSome_iff_exists.1 (hns n hn)) hst3 hout
  cases res with
  | ret v =>
    cases e with
    | returned u => exact ⟨u, S', ρ3, rfl, hsr, hvr v u hans, hper⟩
    | panicked ch => exact hans.elim
    | outgrown => exact hans.elim
  | pan v =>
    cases e with
    | returned u => exact hans.elim
    | panicked ch => obtain ⟨u, rfl, hv⟩ := hans; exact ⟨u, S', ρ3, rfl, hsr, hvr v u hv⟩
    | outgrown => exact hans.elim

theorem subRho_low {ns : List Nat} (hlen : ns.length ≤ 40) : ∀ n r, subRho ns ρ n = some r → n < 1000 := by
  intro n r hr'
  unfold subRho at hr'
  rw [Option.bind_eq_some_iff] at hr'
  obtain ⟨m, hm, _⟩ := hr'
  have := (List.getElem?_eq_some_iff.1 hm).1
  omega

theorem callB_ok (h : SR E st S ρ a.tmps w) {call : CallFn} (hcall : CallOK G call) {d : Option Nat} {fv : AV} {args : List AV} {uf : Value} {us : Array Value}
    (hf : VR S ρ w fv uf) (hl : args.length = us.size) (ha : ∀ (j : Nat) c v, args[j]? = some c → us[j]? = some v → VR S ρ w c v) {r : AR × List Nat} (hr : callB G call d fv args st = some r) :
    (∃ g vx vy, G.E g = true ∧ uf = .func (.func g) vx vy ∧ CallsIn (FW G.wd none) 0 G.P g (vx ++ us ++ vy) w (CallDone E a.tmps ρ r.2 r.1)) ∨
    ∃ b R, uf = .func (.yield b) #[] #[] ∧ w.heap[b]? = some (.loop R) ∧ us.size = R.params.size ∧ RoundIn (FW G.wd none) 0 G.P b R.fn ((R.params.zip us).foldl (fun tmps (t, a) => tmps.setIfInBounds t a) R.tmps) R.assign R.body w (CallDone E a.tmps ρ r.2 r.1) := by
  unfold callB at hr
  split at hr
  case h_3 => cases hr
  case h_2 =>
    rename_i id
    right
    dsimp only at hr
    split at hr
    case isFalse => cases hr
    rename_i hc
    rw [List.all_eq_true] at hc
    obtain ⟨b, sz, k, hρ, e⟩ := vr_yld hf
    obtain ⟨S1, k1, k2, k3, k4⟩ := h.fix (AV.rowsL args)
    generalize hst1 : st.fix (AV.rowsL args) = st1 at *
    generalize hnsd : reachL 40 st1.hp (id :: AV.namesL (AV.rvL st.hp args)) [] = ns at *
    have hnd : ns.Nodup := by rw [← hnsd]; exact reachL_nodup _ _ _ _ List.nodup_nil
    have hlen : ns.length ≤ 40 := by rw [← hnsd]; simpa using reachL_length st1.hp 40 (id :: AV.namesL (AV.rvL st.hp args)) []
    rw [Option.bind_eq_some_iff] at hr
    obtain ⟨j, hj, hr⟩ := hr
    rw [Option.bind_eq_some_iff] at hr
    obtain ⟨⟨res, hp1⟩, hy1, hr⟩ := hr
    obtain ⟨st3, hst3, rfl⟩ := Option.map_eq_some_iff.1 hr
    have hjn := toMap_some hj
    obtain ⟨R, h1, h2, h3⟩ := hcall.rnd _ _ _ _ hy1 S1 (subRho ns ρ) w us ⟨subRho_low hlen, k2.fr.glob⟩ (k2.heap.sub hnd) k2.fr.bnd (by rw [renL_length, rvL_length]; exact hl) (fun i c v hci hvi => by
      rw [renL_get] at hci
      obtain ⟨x, hx, rfl⟩ := Option.map_eq_some_iff.1 hci
      rw [rvL_get] at hx
      obtain ⟨y, hy, rfl⟩ := Option.map_eq_some_iff.1 hx
      exact (rv_fixed h k1 (hst1 ▸ k2) k3 (hst1 ▸ k4) (ha i y v hy hvi) fun n hn => rowsL_mem hy hn).sub) b sz k (by simp [subRho, hjn, hρ])
    exact ⟨b, R, e, h1, h2, h3.mono fun e w' hh => back_ok k2 hnd hlen hc hst3 hh⟩
  left
  rename_i g first caps
  dsimp only at hr
  split at hr
  case isFalse => cases hr
  rename_i hc
  simp only [Bool.and_eq_true, List.all_eq_true, decide_eq_true_eq] at hc
  obtain ⟨⟨hE, hRB⟩, hns⟩ := hc
  obtain ⟨vx, vy, e, hx, hy, hvx, hvy⟩ := vr_fn hf
  refine ⟨g, vx, vy, hE, e, ?_⟩
  generalize hall : first ++ args ++ caps = all at *
  have hal : all.length = (vx ++ us ++ vy).size := by rw [← hall]; simp; omega
  have hav : ∀ (j : Nat) c v, all[j]? = some c → (vx ++ us ++ vy)[j]? = some v → VR S ρ w c v := by
    intro j c v hcj hvj
    rw [← hall] at hcj
    rcases Nat.lt_or_ge j first.length with h1 | h1
    · rw [List.append_assoc, List.getElem?_append_left h1] at hcj
      rw [Array.append_assoc, Array.getElem?_append_left (by omega)] at hvj
      exact hvx j c v hcj hvj
    · rcases Nat.lt_or_ge j (first.length + args.length) with h2 | h2
      · rw [List.getElem?_append_left (by simp; omega), List.getElem?_append_right h1] at hcj
        rw [Array.getElem?_append_left (by simp; omega), Array.getElem?_append_right (by omega), ← hx] at hvj
        exact ha _ c v hcj hvj
      · rw [List.getElem?_append_right (by simp; omega)] at hcj
        rw [Array.getElem?_append_right (by simp; omega)] at hvj
        refine hvy _ c v hcj ?_
        rw [← hvj]; congr 1; simp; omega
  obtain ⟨S1, k1, k2, k3, k4⟩ := h.fix (prepRows G g all 0)
  generalize hst1 : st.fix (prepRows G g all 0) = st1 at *
  generalize hpre : prepL G g st.hp all 0 = pre at *
  generalize hnsd : reachL 40 st1.hp (AV.namesL pre) [] = ns at *
  have hnd : ns.Nodup := by rw [← hnsd]; exact reachL_nodup _ _ _ _ List.nodup_nil
  have hlen : ns.length ≤ 40 := by rw [← hnsd]; simpa using reachL_length st1.hp 40 (AV.namesL pre) []
  have hprev : ∀ (j : Nat) c v, pre[j]? = some c → (vx ++ us ++ vy)[j]? = some v → VR S1 ρ w c v := by
    intro j c v hcj hvj
    rw [← hpre, prepL_get] at hcj
    obtain ⟨x, hx, rfl⟩ := Option.map_eq_some_iff.1 hcj
    rw [Nat.zero_add]
    split
    · exact (hav j x v hx hvj).ext (Ext.more k1 w) fun _ _ h => h
    · rename_i hi
      refine rv_fixed h k1 (hst1 ▸ k2) k3 (hst1 ▸ k4) (hav j x v hx hvj) fun n hn => prepRows_mem G g all 0 j x n hx (by rw [Nat.zero_add]; simpa using hi) hn
  rw [Option.bind_eq_some_iff] at hr
  obtain ⟨⟨res, hp1⟩, hy1, hr⟩ := hr
  obtain ⟨st3, hst3, rfl⟩ := Option.map_eq_some_iff.1 hr
  have hsound := hcall.fn g _ _ _ hRB hE hy1 S1 (subRho ns ρ) w (vx ++ us ++ vy) ⟨subRho_low hlen, k2.fr.glob⟩ (k2.heap.sub hnd) k2.fr.bnd (by rw [renL_length, ← hpre, prepL_length]; exact hal) (fun j c v hcj hvj => by
    rw [renL_get] at hcj
    obtain ⟨x, hx, rfl⟩ := Option.map_eq_some_iff.1 hcj
    exact (hprev j x v hx hvj).sub)
  exact hsound.mono fun e w' hh => back_ok k2 hnd hlen hns hst3 hh

end Go.Proofs.YteibklnligmanaaDoor.Abs


/- What is kept at a loop's head, and behind a call: what is told no more is told no more. -/
namespace Go.Proofs.YteibklnligmanaaDoor.Abs
open Go Go.RowKit
set_option linter.unusedSimpArgs false
set_option linter.unusedVariables false

variable {G : Cfg} {S : Stab} {ρ : Rho} {w : World} {E : Env} {st : ASt} {tm : Array Value}

/-! ### Only some names -/
def keepRho (ns : List Nat) (ρ : Rho) : Rho := fun n => if n ∈ ns then ρ n else none
theorem idMap_some {ns : List Nat} {n k : Nat} (h : aget (idMap ns) n = some k) : k = n ∧ n ∈ ns := by
  obtain ⟨m, hm, e⟩ := List.mem_map.1 (aget_mem h)
  cases e
  exact ⟨rfl, hm⟩
theorem aget_onlyHeap (F : Nat → Option AObj) (ns : List Nat) (n : Nat) : aget (ns.filterMap fun n => (F n).map fun o => (n, o)) n = if n ∈ ns then F n else none := by
  induction ns with
  | nil => simp [aget]
  | cons m ns ih =>
    simp only [List.filterMap_cons]
    cases hF : F m with
    | none =>
      simp only [Option.map_none, ih, List.mem_cons]
      by_cases e : n = m
      · subst e; simp [hF]
      · simp [e]
    | some o =>
      simp only [Option.map_some, aget_cons, List.mem_cons, ih]
      by_cases e : n = m
      · subst e; simp [hF]
      · simp [e, Ne.symm e]
theorem aget_only (ns : List Nat) (hp : Heap) (n : Nat) : aget (onlyHeap ns hp) n = if n ∈ ns then (aget hp n).map (AObj.ren (idMap ns)) else none := by
  have := aget_onlyHeap (fun n => (aget hp n).map (AObj.ren (idMap ns))) ns n
  rw [← this]
  unfold onlyHeap
  congr 2
  funext m
  cases aget hp m <;> rfl

theorem VR.only {ns : List Nat} {x : AV} {v : Value} (h : VR S ρ w x v) : VR S (keepRho ns ρ) w (x.ren (idMap ns)) v :=
  h.ren fun n k r hm hr => by obtain ⟨rfl, hn⟩ := idMap_some hm; simp [keepRho, hn, hr]

theorem HR.only {hp : Heap} (H : HR S ρ w hp) (ns : List Nat) : HR S (keepRho ns ρ) w (onlyHeap ns hp) := by
  refine ⟨fun n o ho => ?_, fun n hn => ?_, fun n m b sz sz' k k' h1 h2 => ?_⟩
  · rw [aget_only] at ho
    split at ho
    · rename_i hm
      obtain ⟨o', ho', rfl⟩ := Option.map_eq_some_iff.1 ho
      refine (H.obj n o' ho').ren (fun m k r hmk hr => ?_) (fun r hr => by simp [keepRho, hm, hr])
      obtain ⟨rfl, hn⟩ := idMap_some hmk
      simp [keepRho, hn, hr]
    · cases ho
  · rw [aget_only] at hn
    unfold keepRho
    split at hn
    · rename_i hm; rw [if_pos hm]; exact H.dom n (by simpa using hn)
    · rename_i hm; rw [if_neg hm]
  · unfold keepRho at h1 h2
    split at h1 <;> split at h2
    · exact H.inj _ _ _ _ _ _ _ h1 h2
    · cases h2
    · cases h1
    · cases h1

theorem keepRho_some {ns : List Nat} {n : Nat} {r : RI} (h : keepRho ns ρ n = some r) : n ∈ ns ∧ ρ n = some r := by
  unfold keepRho at h
  split at h
  · rename_i hn; exact ⟨hn, h⟩
  · cases h

/-- Behind a call. -/
theorem out_ok {hp : Heap} {m : List Nat} {v : AV} {u : Value} (H : HR S ρ w hp) (hm : ∀ n b sz k, ρ n = some ⟨some (b, sz), k⟩ → E.F b ∨ E.W0.heap.size ≤ b) (hold : ∀ n o, aget hp n = some o → o.moved = false → ∀ r, E.R0 n = some r → ρ n = some r)
    (hfr : FrameR E S w) (hv : VR S ρ w v u) : ∃ ρ', Out E (outOf m hp v).2 S ρ' w ∧ VR S ρ' w (outOf m hp v).1 u := by
  refine ⟨keepRho (reachL 60 hp (m ++ v.names) []) ρ, ⟨H.only _, fun n b sz k h => hm n b sz k (keepRho_some h).2, fun n o ho hmv r hr => ?_, hfr⟩, hv.only⟩
  simp only [outOf, aget_only] at ho
  split at ho
  · rename_i hn
    obtain ⟨o', ho', rfl⟩ := Option.map_eq_some_iff.1 ho
    rw [moved_ren] at hmv
    simp [keepRho, hn, hold n o' ho' hmv r hr]
  · cases ho

theorem slot_restrict (slots : List Nat) (f : Nat → AV) (t : Nat) : (aget (slots.map fun t => (t, f t)) t).getD .undef = if t ∈ slots then f t else .undef := by
  induction slots with
  | nil => simp [aget]
  | cons s l ih =>
    simp only [List.map_cons, aget_cons, List.mem_cons]
    by_cases e : s = t
    · subst e; simp
    · simp [e, Ne.symm e, ih]

theorem SR.restrict (h : SR E st S ρ tm w) (slots ns : List Nat) : SR E (restrictTo slots ns st) S (keepRho ns ρ) tm w := by
  refine ⟨fun t => ?_, h.heap.only ns, fun n b sz k hn => h.mine n b sz k (keepRho_some hn).2, fun n o ho hmv r hr => ?_, h.fr⟩
  · show VR S (keepRho ns ρ) w ((aget (slots.map fun t => (t, (st.slot t).ren (idMap ns))) t).getD .undef) _
    rw [slot_restrict slots (fun t => (st.slot t).ren (idMap ns))]
    split
    · exact (h.slot t).only
    · exact .undef _
  · have ho' : aget (onlyHeap ns st.hp) n = some o := ho
    rw [aget_only] at ho'
    split at ho'
    · rename_i hn
      obtain ⟨o', ho1, rfl⟩ := Option.map_eq_some_iff.1 ho'
      rw [moved_ren] at hmv
      simp [keepRho, hn, h.old n o' ho1 hmv r hr]
    · cases ho'

/-! ### Rows that grow get their own names -/
/-- The state's slots, and boxes, are as they were, but what led to a row that got another name. -/
theorem ownStep_ok (h : SR E st S ρ tm w) {cn : Nat} {sz : Nat × TypeId} (hcn : 1000 ≤ cn) {v : AV} {u : Value} (hv : VR S ρ w v u) {id : Nat} {st' : ASt} (hs : ownStep cn sz v st = some (id, st')) :
    ∃ ρ', SR E st' S ρ' tm w ∧ VR S ρ' w (.own id) u ∧ ∀ n T ob, aget st.hp n = some (.box T ob) → ρ' n = ρ n := by
  unfold ownStep at hs
  split at hs
  · split at hs
    · cases hs
    · rename_i hn
      cases hs
      cases vr_nils hv
      exact ⟨_, h.new0 (by simpa using hn) hcn sz.1 false ⟨false, sz.2⟩, .own0 _ (by simp [upd]), fun n _ ob hb => by
        have : n ≠ cn := fun e => by subst e; rw [hb] at hn; simp at hn
        simp [upd, this]⟩
  · rename_i m
    split at hs
    · cases hs; exact ⟨ρ, h, hv, fun _ _ _ _ => rfl⟩
    · rename_i hm
      simp only [not_or] at hm
      split at hs
      · cases hs
      · rename_i hn
        have hn' : aget st.hp cn = none := by simpa using hn
        rw [Option.bind_eq_some_iff] at hs
        obtain ⟨ob, ho, hs⟩ := hs
        cases ob with
        | box T v => cases hs
        | loop r l => cases hs
        | map es clk => cases hs
        | iter v0 a0 b0 c0 => cases hs
        | dblk => cases hs
        | row sz' es fx mv =>
          cases hs
          have hρc : ρ cn = none := h.heap.dom cn hn'
          let ρ' : Rho := fun n => if n = cn then ρ m else if n = m then none else ρ n
          have hr : ∀ id r, id ≠ m → ρ id = some r → ρ' id = some r := by
            intro id r hid hr
            have : id ≠ cn := fun e => by subst e; rw [hρc] at hr; cases hr
            simp [ρ', this, hid, hr]
          have hcm : cn ≠ m := Ne.symm hm.1
          have get : ∀ n, aget ((cn, AObj.row sz' es fx mv) :: ((st.killn m).hp.filter fun p => p.1 != m)) n = if n = cn then some (.row sz' es fx mv) else if n = m then none else (aget st.hp n).map (AObj.kill m) := by
            intro n
            rw [aget_cons, aget_filter_ne, hp_killn]
            by_cases e : cn = n
            · subst e; simp
            · simp [e, Ne.symm e]
          refine ⟨ρ', ⟨fun t => ?_, ⟨fun n o hn => ?_, fun n hn => ?_, fun n n' b s s' k k' h1 h2 => ?_⟩, fun n b s k h1 => ?_, fun n o hn hmv r hr0 => ?_, h.fr⟩, ?_, fun n _ ob hb => ?_⟩
          · show VR S ρ' w ((st.killn m).slot t) _
            rw [slot_killn]; exact (h.slot t).kill m hr
          · rw [get] at hn
            split at hn
            · rename_i e
              have e3 := Option.some.inj hn
              subst e3
              subst e
              rcases h.heap.obj m _ ho with ⟨h1, h2⟩ | ⟨b, cells, t, fr, h0, h1, rest⟩
              · exact .inl ⟨h1, by simp [ρ', h2]⟩
              · exact .inr ⟨b, cells, t, fr, h0, by simp [ρ', h1], rest⟩
            · split at hn
              · cases hn
              · rename_i e1 e2
                obtain ⟨o1, ho1, rfl⟩ := Option.map_eq_some_iff.1 hn
                exact (h.heap.obj n o1 ho1).kill hr e2
          · rw [get] at hn
            split at hn
            · cases hn
            · rename_i e1
              split at hn
              · rename_i e2; simp only [ρ', if_neg e1, if_pos e2]
              · rename_i e2; simp [ρ', e1, e2]; exact h.heap.dom n (by simpa using hn)
          · simp only [ρ'] at h1 h2
            split at h1 <;> split at h2
            · rename_i a b; rw [a, b]
            · rename_i e1 e2
              split at h2
              · cases h2
              · rename_i e3; exact absurd (h.heap.inj _ _ _ _ _ _ _ h1 h2).symm e3
            · rename_i e1 e2
              split at h1
              · cases h1
              · rename_i e3; exact absurd (h.heap.inj _ _ _ _ _ _ _ h1 h2) e3
            · split at h1
              · cases h1
              · split at h2
                · cases h2
                · exact h.heap.inj _ _ _ _ _ _ _ h1 h2
          · simp only [ρ'] at h1
            split at h1
            · exact h.mine m b s k h1
            · split at h1
              · cases h1
              · exact h.mine n b s k h1
          · have hlow := E.low n r hr0
            rw [get] at hn
            rw [if_neg (by omega), if_neg (by omega)] at hn
            obtain ⟨o1, ho1, rfl⟩ := Option.map_eq_some_iff.1 hn
            rw [moved_kill] at hmv
            exact hr n r (by omega) (h.old n o1 ho1 hmv r hr0)
          · cases hv with
            | pure hp => cases hp
            | own0 _ h0 => exact .own0 cn (by simp [ρ', h0])
            | own _ b s k cap h0 hc hb => exact .own cn b s k cap (by simp [ρ', h0]) hc hb
          · have e1 : n ≠ cn := fun e => by subst e; rw [hn'] at hb; cases hb
            have e2 : n ≠ m := fun e => by subst e; rw [ho] at hb; cases hb
            simp [ρ', e1, e2]
  · cases hs

theorem SR.setSlot (h : SR E st S ρ tm w) {t : Nat} {v : AV} (hv : VR S ρ w v (tm.getD t Go.undef)) : SR E { st with sl := (t, v) :: st.sl } S ρ tm w := by
  refine ⟨fun t' => ?_, h.heap, h.mine, h.old, h.fr⟩
  show VR S ρ w ((aget ((t, v) :: st.sl) t').getD .undef) _
  rw [aget_cons]
  by_cases e : t = t'
  · subst e; simpa using hv
  · rw [if_neg e]; exact h.slot t'

theorem canonSlot_ok (h : SR E st S ρ tm w) {s : Nat × Option (Nat × TypeId)} {st' : ASt} (hs : canonSlot s st = some st') : ∃ S' ρ', SR E st' S' ρ' tm w := by
  unfold canonSlot at hs
  split at hs
  · rename_i sz _
    obtain ⟨p, hp, rfl⟩ := Option.map_eq_some_iff.1 hs
    obtain ⟨ρ', k1, k2, _⟩ := ownStep_ok h (by omega) (h.slot s.1) (id := p.1) (st' := p.2) hp
    exact ⟨S, ρ', k1.setSlot k2⟩
  · cases hs
    obtain ⟨S', k1, k2, k3, k4⟩ := h.fix (st.slot s.1).rows
    exact ⟨S', ρ, k2.setSlot (rv_fixed h k1 k2 k3 k4 (h.slot s.1) fun n hn => hn)⟩

theorem reCell_set {v : AV} {cs : List AV} (hl : cs.length = v.cells.length) (ho : (∃ vs, v = .agg vs) ∨ ∀ c ∈ cs, ∀ vs, c ≠ .agg vs) : (reCell v cs).cells = cs := by
  cases v with
  | agg vs => rfl
  | _ =>
    simp only [AV.cells, List.length_singleton] at hl
    match cs, hl with
    | [c], _ =>
      rcases ho with ⟨vs, e⟩ | ho
      · cases e
      · have := ho c (by simp)
        cases c <;> first | rfl | exact absurd rfl (this _)

theorem box_change (h : SR E st S ρ tm w) {n : Nat} {T : TypeId} {v v' : AV} (hn : aget st.hp n = some (.box T v)) (hl : v'.cells.length = v.cells.length)
    (hc : ∀ (j : Nat) c, v'.cells[j]? = some c → ∀ c0, v.cells[j]? = some c0 → ∀ u, VR S ρ w c0 u → VR S ρ w c u) : SR E { st with hp := hput n (.box T v') st.hp } S ρ tm w := by
  obtain ⟨b, cells, t, fr, h1, h2, h3, h4, h5, h6⟩ := h.heap.obj n _ hn
  refine h.change hn h1 (Ext.refl S w) (fun _ _ => rfl) rfl ⟨rfl, rfl, rfl⟩ ⟨b, cells, t, fr, by rw [hl]; exact h1, h2, by rw [hl]; exact h3, h4, h5, fun j c hj => ?_⟩ (fun h => h)
  have hlt : j < v.cells.length := by rw [← hl]; exact (List.getElem?_eq_some_iff.1 hj).1
  obtain ⟨u, hu, hv⟩ := h6 j _ (List.getElem?_eq_getElem hlt)
  exact ⟨u, hu, hc j c hj _ (List.getElem?_eq_getElem hlt) u hv⟩

theorem canonCell_ok (h : SR E st S ρ tm w) {n j : Nat} {sz : Nat × TypeId} {st' : ASt} (hs : canonCell n j sz st = some st') : ∃ ρ', SR E st' S ρ' tm w := by
  unfold canonCell at hs
  rw [Option.bind_eq_some_iff] at hs
  obtain ⟨ob, ho, hs⟩ := hs
  cases ob with
  | row s es fx mv => cases hs
  | loop r l => cases hs
  | map es clk => cases hs
  | iter v0 a0 b0 c0 => cases hs
  | dblk => cases hs
  | box T v =>
    simp only at hs
    rw [Option.bind_eq_some_iff] at hs
    obtain ⟨c, hc, hs⟩ := hs
    rw [Option.bind_eq_some_iff] at hs
    obtain ⟨p, hp, hs⟩ := hs
    rw [Option.bind_eq_some_iff] at hs
    obtain ⟨ob2, ho2, hs⟩ := hs
    obtain ⟨b, cells, t, fr, h1, h2, h3, h4, h5, h6⟩ := h.heap.obj n _ ho
    obtain ⟨u, hu, hv⟩ := h6 j c hc
    obtain ⟨ρ', k1, k2, k3⟩ := ownStep_ok h (by omega) hv (id := p.1) (st' := p.2) hp
    cases ob2 with
    | row s es fx mv => cases hs
    | loop r l => cases hs
    | map es clk => cases hs
    | iter v0 a0 b0 c0 => cases hs
    | dblk => cases hs
    | box T2 v2 =>
      simp only [Option.some.injEq] at hs
      subst hs
      obtain ⟨b', cells', t', fr', g1, g2, g3, g4, g5, g6⟩ := k1.heap.obj n _ ho2
      rw [k3 n T v ho, h1] at g1
      simp only [Option.some.injEq, RI.mk.injEq, Prod.mk.injEq] at g1
      obtain ⟨⟨rfl, hlen⟩, _⟩ := g1
      rw [h2] at g2; cases g2
      have hre : (reCell v2 (v2.cells.set j (.own p.1))).cells = v2.cells.set j (.own p.1) := by
        refine reCell_set (by simp) ?_
        cases v2 with
        | agg vs => exact .inl ⟨vs, rfl⟩
        | _ =>
          right
          intro c hc vs e
          subst e
          rcases List.mem_or_eq_of_mem_set hc with hc | hc
          · simp [AV.cells] at hc
          · cases hc
      refine ⟨ρ', k1.change ho2 (b := b) (sz := v.cells.length) (k := 1) (by rw [k3 n T v ho]; exact h1) (Ext.refl S w) (fun _ _ => rfl) rfl ⟨rfl, rfl, rfl⟩ ⟨b, cells, t, fr, by rw [hre, List.length_set, ← hlen, k3 n T v ho]; exact h1, h2, by rw [hre, List.length_set]; exact g3, h4, h5, fun i c hi => ?_⟩ (fun h => h)⟩
      rw [hre, List.getElem?_set] at hi
      split at hi
      · rename_i e; subst e
        split at hi
        · cases hi; exact ⟨u, hu, k2⟩
        · cases hi
      · exact g6 i c hi

theorem pureCells_length (hp : Heap) (own : List Nat) : ∀ (l : List AV) (j : Nat), (pureCells hp own l j).length = l.length := by
  intro l
  induction l with
  | nil => intro j; rfl
  | cons c l ih => intro j; simp [pureCells, ih]
theorem pureCells_get (hp : Heap) (own : List Nat) : ∀ (l : List AV) (j i : Nat), (pureCells hp own l j)[i]? = (l[i]?).map fun c => if j + i ∈ own then c else c.rv hp := by
  intro l
  induction l with
  | nil => intro j i; simp [pureCells]
  | cons c l ih =>
    intro j i
    cases i with
    | zero => simp [pureCells]
    | succ i => simp only [pureCells, List.getElem?_cons_succ]; rw [ih, show j + 1 + i = j + (i + 1) by omega]
theorem pureRows_mem (own : List Nat) : ∀ (l : List AV) (j i : Nat) (c : AV) (n : Nat), l[i]? = some c → j + i ∉ own → n ∈ c.rows → n ∈ pureRows own l j := by
  intro l
  induction l with
  | nil => intro j i c n h; simp at h
  | cons x l ih =>
    intro j i c n h hi hn
    cases i with
    | zero =>
      simp at h; subst h
      simp only [pureRows, List.mem_append]
      left
      rw [if_neg (by simpa using hi)]; exact hn
    | succ i =>
      simp only [pureRows, List.mem_append]
      right
      exact ih (j + 1) i c n (by simpa using h) (by rw [show j + 1 + i = j + (i + 1) by omega]; exact hi) hn

theorem rv_notAgg (hp : Heap) {c : AV} (h : ∀ vs, c ≠ .agg vs) : ∀ vs, c.rv hp ≠ .agg vs := by
  intro vs
  cases c with
  | agg cs => exact absurd rfl (h cs)
  | own id =>
    simp only [AV.rv]; split
    · split <;> simp
    · simp
  | row id o l =>
    simp only [AV.rv]; split
    · split <;> simp
    · simp
  | _ => simp [AV.rv]

theorem canonBox_ok (h : SR E st S ρ tm w) {b : Nat × List (Nat × Nat × TypeId)} {st' : ASt} (hs : canonBox b st = some st') : ∃ S', SR E st' S' ρ tm w := by
  unfold canonBox at hs
  simp only at hs
  split at hs
  case h_2 => cases hs
  rename_i T v hv
  cases hs
  generalize b.2.map (·.1) = own at *
  obtain ⟨S', k1, k2, k3, k4⟩ := h.fix (pureRows own v.cells 0)
  refine ⟨S', ?_⟩
  have hv' : aget (st.fix (pureRows own v.cells 0)).hp b.1 = some (.box T v) := by
    have x := k4 b.1
    rw [hv] at x
    cases hb : aget (st.fix (pureRows own v.cells 0)).hp b.1 with
    | none => simp [hb] at x
    | some o => cases o <;> simp_all
  have hre : (reCell v (pureCells st.hp own v.cells 0)).cells = pureCells st.hp own v.cells 0 := by
    refine reCell_set (pureCells_length _ _ _ _) ?_
    by_cases hva : ∃ vs, v = .agg vs
    · exact .inl hva
    · right
      intro c hc
      obtain ⟨i, hi⟩ := List.getElem?_of_mem hc
      rw [pureCells_get] at hi
      obtain ⟨x, hx, rfl⟩ := Option.map_eq_some_iff.1 hi
      have hxv : ∀ vs, x ≠ .agg vs := by
        intro vs e
        subst e
        cases v with
        | agg vs => exact hva ⟨vs, rfl⟩
        | _ => cases i with
          | zero => simp [AV.cells] at hx
          | succ i => simp [AV.cells] at hx
      split
      · exact hxv
      · exact rv_notAgg _ hxv
  refine box_change k2 hv' (by rw [hre, pureCells_length]) fun j c hj c0 hc0 u hu => ?_
  rw [hre, pureCells_get, hc0, Nat.zero_add] at hj
  simp only [Option.map_some, Option.some.injEq] at hj
  subst hj
  split
  · exact hu
  · rename_i hn
    -- the cell as it stood, told as a list
    have := hu.rv k2.heap (fun n hn' => (k3 n (pureRows_mem own v.cells 0 j c0 n hc0 (by simpa using hn) hn')).same k4)
    rw [rv_same k4] at this
    exact this

theorem canonAll_ok {α : Type} {f : α → ASt → Option ASt} (hf : ∀ x st S ρ st', SR E st S ρ tm w → f x st = some st' → ∃ S' ρ', SR E st' S' ρ' tm w) : ∀ (l : List α) {st st' : ASt} {S : Stab} {ρ : Rho}, SR E st S ρ tm w → canonAll f l st = some st' → ∃ S' ρ', SR E st' S' ρ' tm w := by
  intro l
  induction l with
  | nil => intro st st' S ρ h hc; cases hc; exact ⟨S, ρ, h⟩
  | cons x l ih =>
    intro st st' S ρ h hc
    simp only [canonAll] at hc
    rw [Option.bind_eq_some_iff] at hc
    obtain ⟨s, h1, h2⟩ := hc
    obtain ⟨S1, ρ1, k⟩ := hf x st S ρ s h h1
    exact ih k h2

/-- WHAT IS KEPT AT A LOOP'S HEAD IS SO. -/
theorem canon_ok (h : SR E st S ρ tm w) {f : FuncId} {c : Code} {st' : ASt} (hc : canon G f c st = some st') : ∃ S' ρ', SR E st' S' ρ' tm w := by
  unfold canon at hc
  rw [Option.bind_eq_some_iff] at hc; obtain ⟨K, hK, hc⟩ := hc
  rw [Option.bind_eq_some_iff] at hc; obtain ⟨s1, h1, hc⟩ := hc
  rw [Option.bind_eq_some_iff] at hc; obtain ⟨s2, h2, hc⟩ := hc
  rw [Option.bind_eq_some_iff] at hc; obtain ⟨s3, h3, hc⟩ := hc
  cases hc
  obtain ⟨S1, ρ1, k1⟩ := canonAll_ok (E := E) (tm := tm) (w := w) (fun p st S ρ st' h hc => canonAll_ok (fun j st S ρ st' h hc => let ⟨ρ', k⟩ := canonCell_ok h hc; ⟨S, ρ', k⟩) p.2 h hc) K.boxes h h1
  obtain ⟨S2, ρ2, k2⟩ := canonAll_ok (E := E) (tm := tm) (w := w) (fun s st S ρ st' h hc => canonSlot_ok h hc) K.slots k1 h2
  obtain ⟨S3, ρ3, k3⟩ := canonAll_ok (E := E) (tm := tm) (w := w) (fun s st S ρ st' h hc => let ⟨S', k⟩ := canonBox_ok h hc; ⟨S', ρ, k⟩) K.boxes k2 h3
  exact ⟨S3, _, k3.restrict _ _⟩

end Go.Proofs.YteibklnligmanaaDoor.Abs


/- Code: what it comes to, the machine's comes to. -/
namespace Go.Proofs.YteibklnligmanaaDoor.Abs
open Go Go.RowKit
set_option linter.unusedSimpArgs false
set_option linter.unusedVariables false

variable {G : Cfg} {S : Stab} {ρ : Rho} {w : World} {E : Env} {st : ASt} {a : Act}

/-- Whom an operation is about to call: one of the program's. -/
def aboutB (o : Oper) : Bool :=
  match o.op with
  | .call c => (match c.callee with
    | .value (.func f) => decide (f < NF)
    | .value (.tmp _) => true
    | .value _ => o.guard.isNone
    | .builtin _ => true
    | .invoke (.tmp _) _ => true
    | .invoke _ _ => o.guard.isNone)
  | _ => true
def dstB (n : Nat) (o : Oper) : Bool :=
  match o.dst with
  | some d => decide (d < n)
  | none => true
def opDst (n : Nat) (o : Oper) : Bool := dstB n o && aboutB o
/-- Each operation's place is one of n. -/
def dstsB (n : Nat) : Code → Bool
  | .region _ ops _ => ops.toList.all (opDst n)
  | .seq a b => dstsB n a && dstsB n b
  | .cond _ a b => dstsB n a && dstsB n b
  | .block _ b => dstsB n b
  | .scope b => dstsB n b
  | .loop b => dstsB n b
  | .rangeFunc _ _ a b => dstsB n a && dstsB n b
  | _ => true

/-- What is asked of the functions that are called. -/
structure GOK (G : Cfg) : Prop where
  enter : ∀ g, G.E g = true → ∀ args w, (callFunc g args).run G.P w = .ok (.enter g args) w
  size : G.P.funcs.size = NF
  inP : ∀ g, G.E g = true → g < NF
  extP : ∀ g p, G.ext g = some p → g < NF
  ext : ∀ g p, G.ext g = some p → ∀ args v, p args = some v → ∀ (S : Stab) (ρ : Rho) (w : World) (vs : Array Value), args.length = vs.size → (∀ (j : Nat) c u, args[j]? = some c → vs[j]? = some u → VR S ρ w c u) →
    ∃ u, (callFunc g vs).run G.P w = .ok (.value u) w ∧ VR S ρ w v u
  methIn : ∀ t n v f r w w', (metT.lookup (t, n)).isSome = true → (method (G.P.types.size + Made.depth) t v n).run G.P w = .ok (f, r) w' → f < NF
  meth : ∀ t n m, G.meth t n = some m → ∀ (v u : Value) (w : World), (match m.2 with | none => u = v | some te => (Instr.loadAt te v).run G.P w = .ok u w) → (method (G.P.types.size + Made.depth) t v n).run G.P w = .ok (m.1, u) w
  dsts : ∀ g fn c, G.E g = true → G.P.funcs[g]? = some fn → fn.body = some c → dstsB fn.ntmps c = true

def ExitR (S : Stab) (ρ : Rho) (w : World) : AX → Exit → Prop
  | .normal, .normal => True
  | .exit i, .exit j => i = j
  | .ret, .ret => True
  | .pan v, .panic ch => ∃ u, ch = [{ v := u, recovered := false }] ∧ VR S ρ w v u
  | _, _ => False

def CodeDone (E : Env) (df : List Deferred) (n : Nat) (r : AX × ASt) (e : Exit) (a : Act) (w : World) : Prop :=
  a.defers = df ∧ a.tmps.size = n ∧ ∃ S ρ, SR E r.2 S ρ a.tmps w ∧ ExitR S ρ w r.1 e

theorem put_defers (a : Act) (d : Option Tmp) (v : Value) : (a.put d v).defers = a.defers := by cases d <;> rfl
theorem put_size (a : Act) (d : Option Tmp) (v : Value) : (a.put d v).tmps.size = a.tmps.size := by cases d <;> simp [Act.put]
theorem SR.putA (h : SR E st S ρ a.tmps w) {d : Option Nat} {n : Nat} (hn : a.tmps.size = n) (hd : ∀ t, d = some t → t < n) {v : AV} {u : Value} (hv : VR S ρ w v u) : SR E (st.put d v) S ρ (a.put d u).tmps w := by
  have := h.put d (fun t ht => hn ▸ hd t ht) hv
  cases d with
  | none => exact this
  | some t => exact this

theorem guard_ok (h : SR E st S ρ a.tmps w) {ops : Array Oper} {o : Oper} {g : Bool} (hg : guardA ops st o = some g) : Region.wanted o (yielded ops a.tmps) = g := by
  unfold guardA at hg
  unfold Region.wanted
  split at hg
  · rename_i he; rw [he]; cases hg; rfl
  · rename_i j want he
    rw [he]
    simp only
    split at hg
    · rename_i d hd
      have hs := h.slot d
      unfold yielded
      rw [hd]
      simp only [Option.bind_some]
      split at hg
      · rename_i b hb
        cases hg
        rw [hb] at hs
        have := vr_bool hs
        have hget : a.tmps[d]? = some (.bool b) := by
          rw [Array.getD_eq_getD_getElem?] at this
          cases ht : a.tmps[d]? with
          | none => rw [ht] at this; simp [Go.undef] at this
          | some x => rw [ht] at this; simpa using this
        rw [hget]; simp
      · rename_i hb
        cases hg
        rw [hb] at hs
        obtain ⟨vs, e, _⟩ := vr_tup hs
        have : ∀ b, a.tmps[d]? ≠ some (.bool b) := by
          intro b hb'
          rw [Array.getD_eq_getD_getElem?, hb'] at e; cases e
        cases ht : a.tmps[d]? with
        | none => simp
        | some x => cases x <;> simp; exact absurd ht (this _)
      · cases hg
    · cases hg

theorem semAt_ok {o : Oper} {ro : Option Nat} {ρ : Operand → Value} (h : ∀ c, o.op ≠ .defer c) : o.semAt ro ρ = execOp ρ o := Oper.semAt_eq ro ρ o h

theorem called_op {op : Op} {f : Operand} {l : List Operand} (h : calledA op = some (f, l)) : ∃ c, op = .call c ∧ c.callee = .value f ∧ c.args.toList = l := by
  unfold calledA at h
  split at h
  · rename_i c
    split at h
    · rename_i f' hf; cases h; exact ⟨c, rfl, hf, rfl⟩
    · cases h
  · cases h

theorem invoked_op {op : Op} {r : Operand} {n : String} {l : List Operand} (h : invokedA op = some (r, n, l)) : ∃ c, op = .call c ∧ c.callee = .invoke r n ∧ c.args.toList = l := by
  unfold invokedA at h
  split at h
  · rename_i c
    split at h
    · rename_i r' n' hf; cases h; exact ⟨c, rfl, hf, rfl⟩
    · cases h
  · cases h
theorem aopB_invoked {o : Oper} {x : AR} (h : aopB G o st = some x) : invokedA o.op = none := by
  cases hi : invokedA o.op with
  | none => rfl
  | some q =>
    obtain ⟨r, n, l⟩ := q
    obtain ⟨c, hop, hcc, _⟩ := invoked_op hi
    unfold aopB at h
    rw [hop] at h
    simp only [hcc, opv] at h
    cases h
theorem one_get {α : Type} (x : α) (A : Array α) : (#[x] ++ A)[0]? = some x := by
  rw [Array.getElem?_append_left (by simp)]; rfl
theorem one_rest {α : Type} (x : α) (A : Array α) : (#[x] ++ A).extract 1 (#[x] ++ A).size = A := by
  obtain ⟨l⟩ := A
  apply Array.ext'
  simp [List.extract]
theorem one_succ {α : Type} (x : α) (A : Array α) (j : Nat) : (#[x] ++ A)[j + 1]? = A[j]? := by
  rw [Array.getElem?_append_right (by simp)]; rfl
theorem loadV_ok {hp : Heap} (H : HR S ρ w hp) {te : TypeId} {x v : AV} {u0 : Value} (hx : VR S ρ w x u0) (hv : opv G.P (fun _ => x) hp (.load te (.tmp 0)) = some v) : ∃ u, (Instr.loadAt te u0).run G.P w = .ok u w ∧ VR S ρ w v u := by
  obtain ⟨ad, u, e, h1, h2⟩ := loadA_ok (P := G.P) H hx (t := te) (v := v) hv
  refine ⟨u, ?_, h2⟩
  unfold Instr.loadAt
  rw [e, runB (a := ad) (by rfl)]
  exact h1
theorem run_invoke {P : Program} {o : Oper} {c : Call} {r : Operand} {n : String} {t : TypeId} {v u : Value} {g : FuncId} (ho : o.op = .call c) (hc : c.callee = .invoke r n) (hr : a.eval r = .iface t v)
    (hm : (method (P.types.size + Made.depth) t v n).run P w = .ok (g, u) w) (he : ∀ args w, (callFunc g args).run P w = .ok (.enter g args) w) : (execOp a.eval o).run P w = .ok (.enter g (#[u] ++ c.args.map a.eval)) w := by
  unfold execOp
  rw [ho]
  simp only [resolve, hc, hr]
  show Sem.run P (invoke (.fn (.method n) #[]) (#[Value.iface t v] ++ c.args.map a.eval)) w = _
  simp only [invoke]
  rw [one_get, one_rest]
  rcases callMethod_tie P w t v n (c.args.map a.eval) with ⟨f, r', w', h1, h2⟩ | ⟨hh, w', h1, h2⟩
  · rw [hm] at h1
    cases h1
    simp only []
    rw [h2]; exact he _ _
  · rw [hm] at h1; cases h1
theorem about_invoke {P : Program} {o : Oper} {c : Call} {r : Operand} {n : String} {t : TypeId} {v u : Value} {g q : FuncId} (ho : o.op = .call c) (hc : c.callee = .invoke r n) (hr : a.eval r = .iface t v)
    (hm : (method (P.types.size + Made.depth) t v n).run P w = .ok (g, u) w) (h : o.about P w a.eval = some q) : q = g := by
  unfold Oper.about at h
  rw [ho] at h
  simp only [resolve, hc, hr, pure, Sem.run] at h
  simp only [Target.leads] at h
  rw [one_get] at h
  simp only [hm] at h
  cases h; rfl

theorem run_call {P : Program} {o : Oper} {c : Call} {f : Operand} {g : FuncId} {vx vy : Array Value} (ho : o.op = .call c) (hc : c.callee = .value f) (hf : a.eval f = .func (.func g) vx vy)
    (he : ∀ args w, (callFunc g args).run P w = .ok (.enter g args) w) : (execOp a.eval o).run P w = .ok (.enter g (vx ++ c.args.map a.eval ++ vy)) w := by
  unfold execOp
  rw [ho]
  simp only [resolve, hc, hf, Deferred.ofValue]
  show Sem.run P (invoke (.fn (.func g) vy) (vx ++ c.args.map a.eval)) w = _
  exact he _ _

theorem run_yielded {P : Program} {o : Oper} {c : Call} {f : Operand} {b : Nat} {R : Loop} (ho : o.op = .call c) (hc : c.callee = .value f) (hf : a.eval f = .func (.yield b) #[] #[]) (hb : w.heap[b]? = some (.loop R)) (hs : (c.args.map a.eval).size = R.params.size) :
    (execOp a.eval o).run P w = .ok (.round b R.fn ((R.params.zip (c.args.map a.eval)).foldl (fun tmps (t, a) => tmps.setIfInBounds t a) R.tmps) R.assign R.body) w := by
  unfold execOp
  rw [ho]
  simp only [resolve, hc, hf, Deferred.ofValue]
  show Sem.run P (invoke (.fn (.yield b) #[]) (#[] ++ c.args.map a.eval)) w = _
  rw [Array.empty_append]
  exact run_yield hb hs

theorem vr_two {S : Stab} {ρ : Rho} {w : World} {x y : List AV} {vx vy : Array Value} (hx : x.length = vx.size) (h1 : ∀ (j : Nat) c v, x[j]? = some c → vx[j]? = some v → VR S ρ w c v) (h2 : ∀ (j : Nat) c v, y[j]? = some c → vy[j]? = some v → VR S ρ w c v) :
    ∀ (j : Nat) c v, (x ++ y)[j]? = some c → (vx ++ vy)[j]? = some v → VR S ρ w c v := by
  intro j c v hcj hvj
  rcases Nat.lt_or_ge j x.length with h | h
  · rw [List.getElem?_append_left h] at hcj
    rw [Array.getElem?_append_left (by omega)] at hvj
    exact h1 j c v hcj hvj
  · rw [List.getElem?_append_right h] at hcj
    rw [Array.getElem?_append_right (by omega), ← hx] at hvj
    exact h2 _ c v hcj hvj
theorem vr_three {S : Stab} {ρ : Rho} {w : World} {x y z : List AV} {vx vy vz : Array Value} (hx : x.length = vx.size) (hy : y.length = vy.size) (hz : z.length = vz.size) (h1 : ∀ (j : Nat) c v, x[j]? = some c → vx[j]? = some v → VR S ρ w c v) (h2 : ∀ (j : Nat) c v, y[j]? = some c → vy[j]? = some v → VR S ρ w c v)
    (h3 : ∀ (j : Nat) c v, z[j]? = some c → vz[j]? = some v → VR S ρ w c v) : ∀ (j : Nat) c v, (x ++ y ++ z)[j]? = some c → (vx ++ vy ++ vz)[j]? = some v → VR S ρ w c v :=
  vr_two (by simp [hx, hy]) (vr_two hx h1 h2) h3

/-- Whom a value leads to. -/
theorem about_value {P : Program} {o : Oper} {c : Call} {f : Operand} {g : FuncId} {fn : Fn} {vx vy : Array Value} (hop : o.op = .call c) (hcc : c.callee = .value f) (hf : a.eval f = .func fn vx vy) (h : o.about P w a.eval = some g) : (∃ n, fn = .func n) ∨ (∃ n, fn = .yield n) → fn = .func g := by
  unfold Oper.about at h
  rw [hop] at h
  simp only [resolve, hcc, hf, Deferred.ofValue, pure, Sem.run] at h
  rintro (⟨n, rfl⟩ | ⟨n, rfl⟩)
  · simp only [Target.leads, Option.some.injEq] at h; rw [h]
  · simp [Target.leads] at h
theorem about_none {P : Program} {o : Oper} (h : ∀ c, o.op = .call c → ∃ b, c.callee = .builtin b) : o.about P w a.eval = none := by
  unfold Oper.about
  split
  · rename_i c hop
    obtain ⟨b, hb⟩ := h c hop
    simp only [resolve, hb, pure, Sem.run, Target.leads]
  · rfl
theorem about_skip {P : Program} (hmi : ∀ t n v f r w w', (metT.lookup (t, n)).isSome = true → (method (P.types.size + Made.depth) t v n).run P w = .ok (f, r) w' → f < NF) {o : Oper} (h : SR E st S ρ a.tmps w) (hab : aboutB o = true) (hg : o.guard.isNone = false) (hs : skipA st o.op = true) : ∀ f, o.about P w a.eval = some f → f < NF := by
  intro g hq
  unfold aboutB at hab
  split at hab
  · rename_i c hop
    split at hab
    · rename_i f hcc
      have := about_value (fn := .func f) (vx := #[]) (vy := #[]) hop hcc rfl hq (.inl ⟨_, rfl⟩)
      cases this
      simpa using hab
    · rename_i t hcc
      rw [hop] at hs
      simp only [skipA, hcc] at hs
      have hv := h.ev (.tmp t)
      have e : st.ev (.tmp t) = st.slot t := rfl
      rw [e] at hv
      unfold skipV at hs
      split at hs
      · rename_i g' x y hsl
        rw [hsl] at hv
        obtain ⟨vx, vy, hfe, _⟩ := vr_fn hv
        have := about_value hop hcc hfe hq (.inl ⟨_, rfl⟩)
        cases this
        simpa using hs
      · rename_i hsl
        rw [hsl] at hv
        obtain ⟨vs, e, _⟩ := vr_tup hv
        unfold Oper.about at hq
        rw [hop] at hq
        simp only [resolve, hcc, e, Deferred.ofValue, stuck, Sem.run] at hq
        cases hq
      · cases hs
    · rw [hg] at hab; cases hab
    · rename_i b hcc
      rw [about_none (fun c' e => by rw [hop] at e; cases e; exact ⟨b, hcc⟩)] at hq; cases hq
    · rename_i t n hcc
      rw [hop] at hs
      simp only [skipA, hcc] at hs
      have hv := h.ev (.tmp t)
      have e : st.ev (.tmp t) = st.slot t := rfl
      rw [e] at hv
      unfold Oper.about at hq
      rw [hop] at hq
      simp only [resolve, hcc, pure, Sem.run, Target.leads, one_get] at hq
      unfold skipI at hs
      split at hs
      · rename_i t' x n' hsl
        rw [hsl] at hv
        obtain ⟨u, hu, _⟩ := vr_iface hv
        rw [hu] at hq
        simp only at hq
        split at hq
        · rename_i hm; cases hq; exact hmi _ _ _ _ _ _ _ hs hm
        · cases hq
      · rename_i hsl
        rw [hsl] at hv
        obtain ⟨vs, e, _⟩ := vr_tup hv
        rw [e] at hq
        cases hq
      · cases hs
    · rw [hg] at hab; cases hab
  · rename_i hop
    rw [about_none (fun c' e => absurd e (hop c'))] at hq; cases hq

theorem about_calm {P : Program} {o : Oper} (hab : aboutB o = true) (hcal : calledA o.op = none) (hinv : invokedA o.op = none) : ∀ f, o.about P w a.eval = some f → f < NF := by
  intro q hq
  exfalso
  unfold aboutB at hab
  split at hab
  · rename_i c hop
    split at hab
    · rename_i f hcc; rw [hop] at hcal; simp [calledA, hcc] at hcal
    · rename_i f hcc; rw [hop] at hcal; simp only [calledA] at hcal; rw [hcc] at hcal; cases hcal
    · rename_i f _ _ hcc; rw [hop] at hcal; simp only [calledA] at hcal; rw [hcc] at hcal; cases hcal
    · rename_i b hcc
      rw [about_none (fun c' e => by rw [hop] at e; cases e; exact ⟨b, hcc⟩)] at hq; cases hq
    · rename_i _ _ hcc; rw [hop] at hinv; simp only [invokedA] at hinv; rw [hcc] at hinv; cases hinv
    · rename_i _ _ _ hcc; rw [hop] at hinv; simp only [invokedA] at hinv; rw [hcc] at hinv; cases hinv
  · rename_i hop
    rw [about_none (fun c' e => absurd e (hop c'))] at hq; cases hq
theorem guard_off {ops : Array Oper} {o : Oper} (hg : guardA ops st o = some false) : o.guard.isNone = false := by
  cases hgd : o.guard with
  | none => unfold guardA at hg; rw [hgd] at hg; cases hg
  | some p => rfl

/-- One operation. -/
theorem op_ok (GE : GOK G) {call : CallFn} (hcall : CallOK G call) {ops : Array Oper} {ro : Option Nat} {i : Nat} {o : Oper} (ho : ops[i]? = some o) (hab : aboutB o = true)
    {Q : Exit → Act → World → Prop} {K : Act → World → Prop} (h : SR E st S ρ a.tmps w) {x : AR} (hx : stepE G call ops st o = some x)
    (hval : ∀ v s, x = .val v s → ∀ u w' S' ρ', SR E s S' ρ' a.tmps w' → VR S' ρ' w' v u → K (a.put o.dst u) w')
    (hpan : ∀ v s, x = .pan v s → ∀ u w' S' ρ', SR E s S' ρ' a.tmps w' → VR S' ρ' w' v u → Q (.panic [{ v := u, recovered := false }]) a w') : wpOpIn (FW G.wd ro) 0 G.P ops Q i K a w := by
  unfold wpOpIn
  simp only [ho]
  unfold stepE at hx
  rw [Option.bind_eq_some_iff] at hx
  obtain ⟨g, hg, hx⟩ := hx
  have hw := guard_ok h hg
  cases g with
  | false =>
    rw [hw]
    simp only [Bool.false_eq_true, if_false] at hx ⊢
    split at hx
    case isFalse => cases hx
    rename_i hsk
    cases hx
    exact ⟨fun f hf => .inr (about_skip GE.methIn h hab (guard_off hg) hsk f hf), hval _ _ rfl _ _ S ρ h (.tup [] #[] rfl (fun j c v hc => by simp at hc))⟩
  | true =>
    rw [hw]
    simp only [if_true] at hx ⊢
    unfold aop at hx
    split at hx
    · rename_i f args hcal
      obtain ⟨c, hop, hcc, hca⟩ := called_op hcal
      have hl : (args.map st.ev).length = (c.args.map a.eval).size := by rw [← hca]; simp
      have hargsV : ∀ (j : Nat) cc v, (args.map st.ev)[j]? = some cc → (c.args.map a.eval)[j]? = some v → VR S ρ w cc v := fun j cc v hcj hvj => by
        rw [List.getElem?_map] at hcj
        obtain ⟨p, hp, rfl⟩ := Option.map_eq_some_iff.1 hcj
        rw [← hca, Array.getElem?_toList] at hp
        rw [Array.getElem?_map, hp] at hvj
        cases hvj
        exact h.ev p
      split at hx
      · rename_i v hext
        cases hx
        unfold extA at hext
        split at hext
        case h_2 => cases hext
        rename_i g first caps hfv
        rw [Option.bind_eq_some_iff] at hext; obtain ⟨p, hp, hext⟩ := hext
        have hf := h.ev f
        rw [hfv] at hf
        obtain ⟨vx, vy, hfe, hx1, hx2, hvx, hvy⟩ := vr_fn hf
        obtain ⟨u, hrun, hv⟩ := GE.ext g p hp _ v hext S ρ w (vx ++ c.args.map a.eval ++ vy) (by simp at hl ⊢; omega) (vr_three hx1 hl hx2 hvx hargsV hvy)
        have hnd : ∀ c', o.op ≠ .defer c' := fun c' e => by rw [hop] at e; cases e
        have hrun' : (execOp a.eval o).run G.P w = .ok (.value u) w := by
          unfold execOp
          rw [hop]
          simp only [resolve, hcc, hfe, Deferred.ofValue]
          exact hrun
        refine ⟨fun q hq => ?_, ?_⟩
        · have := about_value hop hcc hfe hq (.inl ⟨_, rfl⟩)
          cases this; exact .inr (GE.extP _ p hp)
        rw [semAt_ok hnd, hrun', Oper.uponIn_value]
        exact hval v st rfl u w S ρ h hv
      unfold callA at hx
      obtain ⟨⟨x', mvd⟩, hB, e⟩ := Option.map_eq_some_iff.1 hx
      simp only at e
      subst e
      have hnd : ∀ c', o.op ≠ .defer c' := fun c' e => by rw [hop] at e; cases e
      have done : ∀ e w', CallDone E a.tmps ρ mvd x' e w' → (match e with
          | .returned v => K (a.put o.dst v) w'
          | .panicked chain => Q (.panic chain) a w'
          | .outgrown => LetsOut Q) := by
        intro e w' hcd
        cases x' with
        | val v s =>
          obtain ⟨u, S', ρ', rfl, hs, hv, _⟩ := hcd
          exact hval v s rfl u w' S' ρ' hs hv
        | pan v s =>
          obtain ⟨u, S', ρ', rfl, hs, hv⟩ := hcd
          exact hpan v s rfl u w' S' ρ' hs hv
      rcases callB_ok h hcall (h.ev f) hl (fun j cc v hcj hvj => by
        rw [List.getElem?_map] at hcj
        obtain ⟨p, hp, rfl⟩ := Option.map_eq_some_iff.1 hcj
        rw [← hca, Array.getElem?_toList] at hp
        rw [Array.getElem?_map, hp] at hvj
        cases hvj
        exact h.ev p) hB with ⟨g, vx, vy, hE, hf, hcalls⟩ | ⟨b, R, hf, hb, hsz, hround⟩
      · refine ⟨fun q hq => by have := about_value hop hcc hf hq (.inl ⟨_, rfl⟩); cases this; exact .inr (GE.inP _ hE), ?_⟩
        rw [semAt_ok hnd, run_call hop hcc hf (GE.enter g hE), Oper.uponIn_enter]
        refine ⟨fun hdp => by simp [FW] at hdp, calls_fw (hcalls.mono fun e w' hcd => ?_)⟩
        have := done e w' hcd
        cases e <;> exact this
      · refine ⟨fun q hq => (by have := about_value hop hcc hf hq (.inr ⟨_, rfl⟩); cases this), ?_⟩
        rw [semAt_ok hnd, run_yielded hop hcc hf hb hsz, Oper.uponIn_round]
        refine ⟨fun hdp => by simp [FW] at hdp, round_fw (hround.mono fun e w' hcd => ?_)⟩
        have := done e w' hcd
        cases e <;> exact this
    rename_i hcal
    split at hx
    · rename_i r nm args hinv
      obtain ⟨c, hop, hcc, hca⟩ := invoked_op hinv
      unfold invA at hx
      split at hx
      case h_2 => cases hx
      rename_i t v hre
      rw [Option.bind_eq_some_iff] at hx; obtain ⟨m, hm, hx⟩ := hx
      rw [Option.bind_eq_some_iff] at hx; obtain ⟨rv, hrv, hx⟩ := hx
      have hr := h.ev r
      rw [hre] at hr
      obtain ⟨u0, hue, hu0⟩ := vr_iface hr
      obtain ⟨u, hu, hvu⟩ : ∃ u, (match m.2 with | none => u = u0 | some te => (Instr.loadAt te u0).run G.P w = .ok u w) ∧ VR S ρ w rv u := by
        unfold recvA at hrv
        cases hm2 : m.2 with
        | none => rw [hm2] at hrv; cases hrv; exact ⟨u0, rfl, hu0⟩
        | some te => rw [hm2] at hrv; exact loadV_ok h.heap hu0 hrv
      have hmeth := GE.meth _ _ _ hm u0 u w hu
      unfold callA at hx
      obtain ⟨⟨x', mvd⟩, hB, e⟩ := Option.map_eq_some_iff.1 hx
      simp only at e
      subst e
      have hnd : ∀ c', o.op ≠ .defer c' := fun c' e => by rw [hop] at e; cases e
      have done : ∀ e w', CallDone E a.tmps ρ mvd x' e w' → (match e with
          | .returned v => K (a.put o.dst v) w'
          | .panicked chain => Q (.panic chain) a w'
          | .outgrown => LetsOut Q) := by
        intro e w' hcd
        cases x' with
        | val v s =>
          obtain ⟨u, S', ρ', rfl, hs, hv, _⟩ := hcd
          exact hval v s rfl u w' S' ρ' hs hv
        | pan v s =>
          obtain ⟨u, S', ρ', rfl, hs, hv⟩ := hcd
          exact hpan v s rfl u w' S' ρ' hs hv
      have hl : (rv :: args.map st.ev).length = (#[u] ++ c.args.map a.eval).size := by rw [← hca]; simp; omega
      have hfn : VR S ρ w (.fn (.func m.1) [] []) (.func (.func m.1) #[] #[]) := h.ev (.func m.1)
      rcases callB_ok h hcall hfn hl (fun j cc v hcj hvj => by
        cases j with
        | zero => rw [one_get] at hvj; cases hvj; cases hcj; exact hvu
        | succ j =>
          rw [List.getElem?_cons_succ, List.getElem?_map] at hcj
          obtain ⟨p, hp, rfl⟩ := Option.map_eq_some_iff.1 hcj
          rw [← hca, Array.getElem?_toList] at hp
          rw [one_succ, Array.getElem?_map, hp] at hvj
          cases hvj
          exact h.ev p) hB with ⟨g, vx, vy, hE, hf, hcalls⟩ | ⟨b, R, hf, hb, hsz, hround⟩
      · cases hf
        refine ⟨fun q hq => by have := about_invoke hop hcc hue hmeth hq; rw [this]; exact .inr (GE.inP _ hE), ?_⟩
        rw [semAt_ok hnd, run_invoke hop hcc hue hmeth (GE.enter m.1 hE), Oper.uponIn_enter]
        refine ⟨fun hdp => by simp [FW] at hdp, calls_fw ?_⟩
        rw [show #[] ++ (#[u] ++ c.args.map a.eval) ++ #[] = #[u] ++ c.args.map a.eval by simp] at hcalls
        refine hcalls.mono fun e w' hcd => ?_
        have := done e w' hcd
        cases e <;> exact this
      · cases hf
    · have hnd : ∀ c, o.op ≠ .defer c := by
        intro c e
        unfold aopB at hx
        rw [e] at hx
        simp [opv] at hx
      have hdone := aopB_ok h o hx
      rename_i hinv
      refine ⟨fun f hf => .inr (about_calm hab hcal hinv f hf), ?_⟩
      rw [semAt_ok hnd]
      cases x with
      | val v s =>
        obtain ⟨m, u, w', S', ρ', hrun, hm, hs, hv⟩ := hdone
        rw [hrun]
        rcases hm with rfl | ⟨rfl, rfl⟩
        · rw [Oper.uponIn_value]; exact hval v s rfl u w' S' ρ' hs hv
        · rw [Oper.uponIn_skip]; exact hval v s rfl _ w' S' ρ' hs hv
      | pan v s =>
        obtain ⟨u, w', S', ρ', hrun, hs, hv⟩ := hdone
        rw [hrun, Oper.uponIn_panic]
        exact hpan v s rfl u w' S' ρ' hs hv

theorem opDst_lt {ops : Array Oper} {n : Nat} (hd : ops.toList.all (opDst n) = true) {i : Nat} {o : Oper} (ho : ops[i]? = some o) : ∀ t, o.dst = some t → t < n := by
  intro t ht
  have hm : o ∈ ops.toList := by
    rw [← Array.getElem?_toList] at ho
    exact List.mem_of_getElem? ho
  have := List.all_eq_true.1 hd o hm
  simp only [opDst, dstB, ht, Bool.and_eq_true, decide_eq_true_eq] at this
  exact this.1
theorem about_of {ops : Array Oper} {n : Nat} (hd : ops.toList.all (opDst n) = true) {i : Nat} {o : Oper} (ho : ops[i]? = some o) : aboutB o = true := by
  have hm : o ∈ ops.toList := by
    rw [← Array.getElem?_toList] at ho
    exact List.mem_of_getElem? ho
  have := List.all_eq_true.1 hd o hm
  simp only [opDst, Bool.and_eq_true] at this
  exact this.2

theorem aops_ok (GE : GOK G) {call : CallFn} (hcall : CallOK G call) {ops : Array Oper} {n : Nat} (hd : ops.toList.all (opDst n) = true) {ro : Option Nat} (l : List Nat) :
    ∀ {E : Env} {st : ASt} {S : Stab} {ρ : Rho} {a : Act} {w : World} {r : AX × ASt}, SR E st S ρ a.tmps w → a.tmps.size = n → aops G call ops l st = some r → wpOpsIn (FW G.wd ro) 0 G.P ops (CodeDone E a.defers n r) l a w := by
  induction l with
  | nil => intro E st S ρ a w r h hn hr; cases hr; exact ⟨rfl, hn, S, ρ, h, trivial⟩
  | cons i l ih =>
    intro E st S ρ a w r h hn hr
    simp only [aops] at hr
    cases ho : ops[i]? with
    | none => simp only [ho] at hr; simp only [wpOpsIn, ho]; exact ih h hn hr
    | some o =>
      simp only [ho] at hr
      rw [wpOpsIn_cons]
      have hstep : ∃ x, stepE G call ops st o = some x ∧ (match x with | .val v s => aops G call ops l (s.put o.dst v) | .pan v s => some (.pan v, s)) = some r := by
        rw [Option.bind_eq_some_iff] at hr
        obtain ⟨g, hg, hr⟩ := hr
        unfold stepE
        rw [hg]
        cases g with
        | false =>
          simp only [Bool.false_eq_true, if_false, Option.bind_some] at hr ⊢
          split at hr
          case isFalse => cases hr
          rename_i hsk
          rw [if_pos hsk]
          exact ⟨_, rfl, hr⟩
        | true =>
          simp only [if_true] at hr
          rw [Option.bind_eq_some_iff] at hr
          obtain ⟨x, hx, hr⟩ := hr
          exact ⟨x, by simpa using hx, by cases x <;> exact hr⟩
      obtain ⟨x, hx, hr⟩ := hstep
      refine op_ok GE hcall ho (about_of hd ho) h hx (fun v s e u w' S' ρ' hs hv => ?_) (fun v s e u w' S' ρ' hs hv => ?_)
      · subst e
        have := ih (hs.putA hn (opDst_lt hd ho) hv) ((put_size _ _ _).trans hn) hr
        rwa [put_defers] at this
      · subst e
        cases hr
        exact ⟨rfl, hn, S', ρ', hs, u, rfl, hv⟩

end Go.Proofs.YteibklnligmanaaDoor.Abs


/- Regions that draw their order. -/
namespace Go.Proofs.YteibklnligmanaaDoor.Abs
open Go Go.RowKit
set_option linter.unusedSimpArgs false
set_option linter.unusedVariables false

variable {G : Cfg} {S : Stab} {ρ : Rho} {w : World} {E : Env} {st : ASt} {a : Act}

/-! ### What an operation looks at -/
theorem opv_congr {P : Program} {r r' : Operand → AV} (hp : Heap) (op : Op) (h : ∀ x ∈ op.operands, r' x = r x) : opv P r' hp op = opv P r hp op := by
  cases op with
  | call c =>
    have ha : c.args.toList.map r' = c.args.toList.map r := List.map_congr_left fun x hx => h x (by simp [Op.operands, Call.operands]; right; simpa using hx)
    simp only [opv]
    have hx : ∀ x ∈ c.args.toList, r' x = r x := fun x hx => h x (by simp [Op.operands, Call.operands]; right; simpa using hx)
    split <;> rename_i e1 e2 e3 <;> simp_all
  | build t parts =>
    have : ∀ p ∈ parts.toList, r' p.2 = r p.2 := fun p hp => h p.2 (by simp [Op.operands]; exact ⟨p.1, by simpa using hp⟩)
    simp only [opv]
    congr 1
    exact List.map_congr_left fun p hp => by rw [this p hp]
  | makeFunc f x y =>
    simp only [opv]
    have h1 : x.toList.map r' = x.toList.map r := List.map_congr_left fun p hp => h p (by simp [Op.operands]; left; simpa using hp)
    have h2 : y.toList.map r' = y.toList.map r := List.map_congr_left fun p hp => h p (by simp [Op.operands]; right; simpa using hp)
    rw [h1, h2]
  | slice t x lo hi mx =>
    simp only [opv]
    have h0 := h x (by simp [Op.operands])
    have hl : lo.map r' = lo.map r := by cases lo with | none => rfl | some y => simp; exact h y (by simp [Op.operands])
    have hh : hi.map r' = hi.map r := by cases hi with | none => rfl | some y => simp; exact h y (by simp [Op.operands])
    have hm : mx.map r' = mx.map r := by cases mx with | none => rfl | some y => simp; exact h y (by simp [Op.operands])
    rw [h0, hl, hh, hm]
  | _ => first | rfl | (simp [Op.operands] at h; simp only [opv]; simp_all)

/-- The same, struck of some names. -/
def kl (ks : List Nat) (x : AV) : AV := ks.foldl (fun x n => x.kill n) x
def Moved (st st' s s' : ASt) : Prop := s'.hp = s.hp ∧ ∃ ks, (∀ t, s.slot t = kl ks (st.slot t)) ∧ ∀ t, s'.slot t = kl ks (st'.slot t)
theorem Moved.none {st st' s s' : ASt} (h : s'.hp = s.hp) (h1 : ∀ t, s.slot t = st.slot t) (h2 : ∀ t, s'.slot t = st'.slot t) : Moved st st' s s' := ⟨h, [], h1, h2⟩

theorem newObj_slots {st st' : ASt} (hhp : st'.hp = st.hp) {d : Nat} {ob : AObj} {vf : Nat → AV} {v : AV} {s : ASt} (h : newObj d ob vf st = some (.val v s)) : ∃ s', newObj d ob vf st' = some (.val v s') ∧ Moved st st' s s' := by
  obtain ⟨h1, h2⟩ := newObj_some h
  cases h2
  refine ⟨{ st' with hp := (1000 + d, ob) :: st'.hp }, ?_, .none (by simp [hhp]) (fun _ => rfl) (fun _ => rfl)⟩
  unfold newObj
  rw [hhp, h1]; simp

theorem winX_slots {st st' : ASt} (hhp : st'.hp = st.hp) {q : Win} {v : AV} {s : ASt} (hb : winX G q st = some (.val v s)) : ∃ s', winX G q st' = some (.val v s') ∧ Moved st st' s s' := by
  unfold winX at hb ⊢
  split at hb
  · rename_i hc
    rw [if_pos hc]
    unfold snapA at hb ⊢
    rw [hhp]
    rw [Option.bind_eq_some_iff] at hb; obtain ⟨ob, hob, hb⟩ := hb
    simp only [hob, Option.bind_some]
    cases ob with
    | box T x =>
      simp only at hb ⊢
      rw [Option.bind_eq_some_iff] at hb; obtain ⟨es, hes, hb⟩ := hb
      simp only [hes, Option.bind_some]
      split at hb
      · rename_i hL
        cases hb
        exact ⟨_, if_pos hL, by simp [dropSt, hhp], [q.id], fun t => slot_killn st q.id t, fun t => slot_killn st' q.id t⟩
      · cases hb
    | _ => cases hb
  · rename_i hc
    cases hb
    exact ⟨st', if_neg hc, .none hhp (fun _ => rfl) (fun _ => rfl)⟩
theorem copyA_slots {st st' : ASt} (hhp : st'.hp = st.hp) {t : TypeId} {x y : AV} {q : Nat × ASt} (hb : copyA G t x y st = some q) : ∃ s', copyA G t x y st' = some (q.1, s') ∧ Moved st st' q.2 s' := by
  unfold copyA at hb ⊢
  split at hb
  case h_2 => cases hb
  rename_i e id o l s id' o' l' s' hu
  split at hb
  case isFalse => cases hb
  rename_i hc
  simp only [if_pos hc, hhp]
  rw [Option.bind_eq_some_iff] at hb; obtain ⟨ob, hob, hb⟩ := hb
  simp only [hob, Option.bind_some]
  cases ob with
  | box T v =>
    simp only at hb ⊢
    split at hb
    · rename_i hL
      cases hb
      exact ⟨_, if_pos hL, .none rfl (fun _ => rfl) (fun _ => rfl)⟩
    · cases hb
  | _ => cases hb
theorem updA_slots {st st' : ASt} (hhp : st'.hp = st.hp) {t : TypeId} {m k x : AV} {s : ASt} (h : updA G t m k x st = some s) : ∃ s', updA G t m k x st' = some s' ∧ Moved st st' s s' := by
  unfold updA at h ⊢
  simp only [hhp]
  split at h
  · rename_i kt et id hu
    rw [Option.bind_eq_some_iff] at h; obtain ⟨ob, hob, h⟩ := h
    simp only [hob, Option.bind_some]
    split at h
    · rename_i es clk
      split at h
      · rename_i hc
        obtain ⟨r, hr, rfl⟩ := Option.map_eq_some_iff.1 h
        refine ⟨{ (st'.fix x.rows) with hp := hput id (setM k (x.rv st.hp) clk es r) (hfix x.rows st.hp) }, ?_, .none rfl (fun _ => rfl) (fun _ => rfl)⟩
        simp only
        rw [if_pos hc, hr]; rfl
      · cases h
    · cases h
  · cases h
theorem delA_slots {st st' : ASt} (hhp : st'.hp = st.hp) {t : TypeId} {m k : AV} {s : ASt} (h : delA G t m k st = some s) : ∃ s', delA G t m k st' = some s' ∧ Moved st st' s s' := by
  unfold delA at h ⊢
  simp only [hhp]
  split at h
  · rename_i kt et id hu
    rw [Option.bind_eq_some_iff] at h; obtain ⟨ob, hob, h⟩ := h
    simp only [hob, Option.bind_some]
    split at h
    · rename_i es clk
      split at h
      · rename_i hc
        obtain ⟨r, hr, rfl⟩ := Option.map_eq_some_iff.1 h
        cases r with
        | none =>
          refine ⟨{ st' with hp := hput id (.map es clk) st.hp }, ?_, .none rfl (fun _ => rfl) (fun _ => rfl)⟩
          rw [if_pos hc, hr]; rfl
        | some q =>
          refine ⟨{ st' with hp := hput id (.map (es.eraseIdx q.1) clk) st.hp }, ?_, .none rfl (fun _ => rfl) (fun _ => rfl)⟩
          rw [if_pos hc, hr]; rfl
      · cases h
    · cases h
  · cases h
theorem aopB_slots {st st' : ASt} (hhp : st'.hp = st.hp) (o : Oper) (h : ∀ x ∈ o.op.operands, st'.ev x = st.ev x) {v : AV} {s : ASt} (hb : aopB G o st = some (.val v s)) : ∃ s', aopB G o st' = some (.val v s') ∧ Moved st st' s s' := by
  have reads : ∀ {op : Op}, op = o.op → ((opv G.P st.ev st.hp op).map fun v => AR.val v st) = some (.val v s) → ∃ s', ((opv G.P st'.ev st'.hp op).map fun v => AR.val v st') = some (.val v s') ∧ Moved st st' s s' := by
    intro op e hb
    subst e
    obtain ⟨x, hx, e⟩ := Option.map_eq_some_iff.1 hb
    cases e
    refine ⟨st', ?_, .none hhp (fun _ => rfl) (fun _ => rfl)⟩
    rw [opv_congr st'.hp o.op h, hhp, hx]; rfl
  unfold aopB at hb ⊢
  cases hop : o.op with
  | alloc e =>
    simp only [hop] at hb ⊢
    rw [Option.bind_eq_some_iff] at hb; obtain ⟨d, hd, hb⟩ := hb
    rw [Option.bind_eq_some_iff] at hb; obtain ⟨z, hz, hb⟩ := hb
    split at hb
    · rename_i hc
      obtain ⟨s', h1, h2⟩ := newObj_slots hhp hb
      exact ⟨s', by simp only [hd, hz, Option.bind_some, if_pos hc]; exact h1, h2⟩
    · cases hb
  | box e x =>
    have ex := h x (by simp [hop, Op.operands])
    simp only [hop, ex] at hb ⊢
    rw [Option.bind_eq_some_iff] at hb; obtain ⟨d, hd, hb⟩ := hb
    split at hb
    · rename_i hc
      obtain ⟨s', h1, h2⟩ := newObj_slots hhp hb
      exact ⟨s', by simp only [hd, Option.bind_some, if_pos hc]; exact h1, h2⟩
    · rename_i hc
      split at hb
      · rename_i hz
        cases hb
        exact ⟨st', by simp only [hd, Option.bind_some, if_neg hc, if_pos hz], .none hhp (fun _ => rfl) (fun _ => rfl)⟩
      · cases hb
  | buildSlice t len parts =>
    have ex : parts.toList.map (fun p => st'.ev p.2) = parts.toList.map (fun p => st.ev p.2) := List.map_congr_left fun p hp => h p.2 (by simp [hop, Op.operands]; exact ⟨p.1, by simpa using hp⟩)
    simp only [hop, ex, hhp] at hb ⊢
    rw [Option.bind_eq_some_iff] at hb; obtain ⟨d, hd, hb⟩ := hb
    rw [Option.bind_eq_some_iff] at hb; obtain ⟨e, he, hb⟩ := hb
    split at hb
    · rename_i hc
      obtain ⟨s', h1, h2⟩ := newObj_slots (st' := st'.fix (AV.rowsL (parts.toList.map fun p => st.ev p.2))) (by simp [ASt.fix, hhp]) hb
      exact ⟨s', by simp only [hd, he, Option.bind_some, if_pos hc]; exact h1, h2⟩
    · cases hb
  | store t x y =>
    have ex := h x (by simp [hop, Op.operands])
    have ey := h y (by simp [hop, Op.operands])
    simp only [hop, ex, ey] at hb ⊢
    obtain ⟨s0, hs, e⟩ := Option.map_eq_some_iff.1 hb
    cases e
    have : ∃ s', storeA G t (st.ev x) (st.ev y) st' = some s' ∧ Moved st st' s s' := by
      unfold storeA at hs ⊢
      simp only [hhp]
      split at hs
      · rename_i id i oo
        rw [Option.bind_eq_some_iff] at hs; obtain ⟨ob, hob, hs⟩ := hs
        simp only [hob, Option.bind_some]
        cases ob with
        | loop r l => cases hs
        | map es clk => cases hs
        | iter v0 a0 b0 c0 => cases hs
        | dblk => cases hs
        | box T v =>
          simp only at hs ⊢
          split at hs
          · rename_i hc; cases hs; exact ⟨_, if_pos hc, .none rfl (fun _ => rfl) (fun _ => rfl)⟩
          · cases hs
        | row sz es fx mv =>
          simp only at hs ⊢
          split at hs
          · cases hs
          · rename_i hc
            rw [if_neg hc]
            rw [Option.bind_eq_some_iff] at hs; obtain ⟨el, hel, hs⟩ := hs
            simp only [hel, Option.bind_some]
            split at hs
            · rename_i hc2; cases hs; exact ⟨_, if_pos hc2, .none rfl (fun _ => rfl) (fun _ => rfl)⟩
            · cases hs
      · cases hs
    obtain ⟨s', h1, h2⟩ := this
    exact ⟨s', by rw [h1]; rfl, h2⟩
  | panic x =>
    simp only [hop] at hb
    split at hb <;> cases hb
  | makeMap t rs =>
    simp only [hop] at hb ⊢
    rw [Option.bind_eq_some_iff] at hb; obtain ⟨d, hd, hb⟩ := hb
    split at hb
    · rename_i hc
      obtain ⟨s', h1, h2⟩ := newObj_slots hhp hb
      exact ⟨s', by simp only [hd, Option.bind_some, if_pos hc]; exact h1, h2⟩
    · cases hb
  | range t x =>
    have ex := h x (by simp [hop, Op.operands])
    simp only [hop, ex, hhp] at hb ⊢
    rw [Option.bind_eq_some_iff] at hb; obtain ⟨d, hd, hb⟩ := hb
    split at hb
    · rename_i hc
      rw [Option.bind_eq_some_iff] at hb; obtain ⟨es, he, hb⟩ := hb
      obtain ⟨s', h1, h2⟩ := newObj_slots hhp hb
      exact ⟨s', by simp only [hd, he, Option.bind_some, if_pos hc]; exact h1, h2⟩
    · cases hb
  | mapUpdate t m k x =>
    have em := h m (by simp [hop, Op.operands])
    have ek := h k (by simp [hop, Op.operands])
    have ex := h x (by simp [hop, Op.operands])
    simp only [hop, em, ek, ex] at hb ⊢
    obtain ⟨s0, hs, e⟩ := Option.map_eq_some_iff.1 hb
    cases e
    obtain ⟨s', h1, h2⟩ := updA_slots hhp hs
    exact ⟨s', by rw [h1]; rfl, h2⟩
  | insert t m k x =>
    have em := h m (by simp [hop, Op.operands])
    have ek := h k (by simp [hop, Op.operands])
    have ex := h x (by simp [hop, Op.operands])
    simp only [hop, em, ek, ex] at hb ⊢
    obtain ⟨s0, hs, e⟩ := Option.map_eq_some_iff.1 hb
    cases e
    obtain ⟨s', h1, h2⟩ := updA_slots hhp hs
    exact ⟨s', by rw [h1]; rfl, h2⟩
  | convert a t x =>
    have ex := h x (by simp [hop, Op.operands])
    simp only [hop, ex, hhp] at hb ⊢
    split at hb
    · split at hb
      · rw [Option.bind_eq_some_iff] at hb; obtain ⟨d, hd, hb⟩ := hb
        split at hb
        · rename_i hc
          obtain ⟨s', h1, h2⟩ := newObj_slots hhp hb
          exact ⟨s', by simp only [hd, Option.bind_some, if_pos hc]; exact h1, h2⟩
        · cases hb
      · cases hb
    · obtain ⟨x, hx, e⟩ := Option.map_eq_some_iff.1 hb
      cases e
      exact ⟨st', by rw [hx]; rfl, .none hhp (fun _ => rfl) (fun _ => rfl)⟩
  | makeSlice t x y =>
    have ex := h x (by simp [hop, Op.operands])
    have ey := h y (by simp [hop, Op.operands])
    simp only [hop, ex, ey] at hb ⊢
    rw [Option.bind_eq_some_iff] at hb; obtain ⟨d, hd, hb⟩ := hb
    rw [Option.bind_eq_some_iff] at hb; obtain ⟨e, he, hb⟩ := hb
    rw [Option.bind_eq_some_iff] at hb; obtain ⟨z, hz, hb⟩ := hb
    simp only [hd, he, hz, Option.bind_some]
    split at hb
    · split at hb
      · rename_i hc
        obtain ⟨s', h1, h2⟩ := newObj_slots hhp hb
        exact ⟨s', by rw [if_pos hc]; exact h1, h2⟩
      · cases hb
    · cases hb
  | call c =>
    have ea : ∀ x ∈ c.args.toList, st'.ev x = st.ev x := fun x hx => h x (by rw [hop]; simp [Op.operands, Call.operands]; right; simpa using hx)
    simp only [hop] at hb ⊢
    split at hb
    · rename_i x y t xt h1 h2 h3
      have e1 := ea x (by rw [h2]; simp)
      have e2 := ea y (by rw [h2]; simp)
      rw [Option.bind_eq_some_iff] at hb; obtain ⟨d, hd, hb⟩ := hb
      simp only [hd, Option.bind_some, e1, e2]
      unfold appendA at hb ⊢
      simp only [hhp]
      split at hb
      · split at hb
        · rw [Option.bind_eq_some_iff] at hb; obtain ⟨xs, hxs, hb⟩ := hb
          simp only [hxs, Option.bind_some]
          split at hb
          · cases hb
          · rename_i hc
            rw [if_neg hc]
            split at hb
            · split at hb
              · rename_i hL
                obtain ⟨s', k1, k2⟩ := newObj_slots hhp hb
                exact ⟨s', by rw [if_pos hL]; exact k1, k2⟩
              · cases hb
            · rename_i id _
              rw [Option.bind_eq_some_iff] at hb; obtain ⟨ob, hob, hb⟩ := hb
              simp only [hob, Option.bind_some]
              cases ob with
              | box T v => cases hb
              | loop r l => cases hb
              | map es clk => cases hb
              | iter v0 a0 b0 c0 => cases hb
              | dblk => cases hb
              | row sz es fx mv =>
                simp only at hb ⊢
                split at hb
                · rename_i hL
                  cases hb
                  exact ⟨_, if_pos hL, by simp [ASt.killn, hhp], [id], fun t => slot_killn st id t, fun t => slot_killn st' id t⟩
                · cases hb
            · cases hb
        · rw [Option.bind_eq_some_iff] at hb; obtain ⟨xs, hxs, hb⟩ := hb
          simp only [hxs, Option.bind_some]
          split at hb
          · cases hb
          · rename_i hc
            rw [if_neg hc]
            split at hb
            · split at hb
              · rename_i hL
                obtain ⟨s', k1, k2⟩ := newObj_slots hhp hb
                exact ⟨s', by rw [if_pos hL]; exact k1, k2⟩
              · cases hb
            · rename_i id _
              rw [Option.bind_eq_some_iff] at hb; obtain ⟨ob, hob, hb⟩ := hb
              simp only [hob, Option.bind_some]
              cases ob with
              | box T v => cases hb
              | loop r l => cases hb
              | map es clk => cases hb
              | iter v0 a0 b0 c0 => cases hb
              | dblk => cases hb
              | row sz es fx mv =>
                simp only at hb ⊢
                split at hb
                · rename_i hL
                  cases hb
                  exact ⟨_, if_pos hL, by simp [ASt.killn, hhp], [id], fun t => slot_killn st id t, fun t => slot_killn st' id t⟩
                · cases hb
            · cases hb
        · rw [Option.bind_eq_some_iff] at hb; obtain ⟨z, hz, hb⟩ := hb
          simp only [hz, Option.bind_some]
          split at hb
          · split at hb
            · rename_i hL
              obtain ⟨s', k1, k2⟩ := newObj_slots hhp hb
              exact ⟨s', by rw [if_pos hL]; exact k1, k2⟩
            · cases hb
          · cases hb
        · cases hb
      · cases hb
    · rename_i m k t ts h1 h2 h3
      have e1 := ea m (by rw [h2]; simp)
      have e2 := ea k (by rw [h2]; simp)
      simp only [e1, e2]
      obtain ⟨s0, hs, e⟩ := Option.map_eq_some_iff.1 hb
      cases e
      obtain ⟨s', k1, k2⟩ := delA_slots hhp hs
      exact ⟨s', by rw [k1]; rfl, k2⟩
    · rename_i x y t ts h1 h2 h3
      have e1 := ea x (by rw [h2]; simp)
      have e2 := ea y (by rw [h2]; simp)
      simp only [e1, e2]
      obtain ⟨q, hs, e⟩ := Option.map_eq_some_iff.1 hb
      cases e
      obtain ⟨s', k1, k2⟩ := copyA_slots hhp hs
      exact ⟨s', by rw [k1]; rfl, k2⟩
    · exact reads hop.symm hb
  | slice t x lo hi mx =>
    have ex := h x (by simp [hop, Op.operands])
    have elo : lo.map st'.ev = lo.map st.ev := by cases lo with | none => rfl | some y => simp [h y (by simp [hop, Op.operands])]
    have ehi : hi.map st'.ev = hi.map st.ev := by cases hi with | none => rfl | some y => simp [h y (by simp [hop, Op.operands])]
    have emx : mx.map st'.ev = mx.map st.ev := by cases mx with | none => rfl | some y => simp [h y (by simp [hop, Op.operands])]
    simp only [hop, ex, elo, ehi, emx, hhp] at hb ⊢
    split at hb
    · exact winX_slots hhp hb
    split at hb
    · rename_i q hq
      split at hb
      · rename_i hc
        cases hb
        exact ⟨_, if_pos hc, by simp [ASt.cut, ASt.killn, hhp], [q.1], fun t => slot_killn st q.1 t, fun t => slot_killn st' q.1 t⟩
      · cases hb
    · have := reads hop.symm hb
      simpa only [hhp] using this
  | _ => simp only [hop] at hb ⊢; exact reads hop.symm hb

theorem afterCall_slots {st st' : ASt} (hhp : st'.hp = st.hp) {d : Option Nat} {ns : List Nat} {hp1 : Heap} {s : ASt} (h : afterCall d ns st hp1 = some s) : ∃ s', afterCall d ns st' hp1 = some s' ∧ Moved st st' s s' := by
  unfold afterCall at h ⊢
  rw [hhp]
  split at h
  case isFalse => cases h
  rename_i hck
  rw [if_pos hck]
  cases h
  have hk : ∀ ks : List Nat, ∀ a b : ASt, a.hp = b.hp → (killAll a ks).hp = (killAll b ks).hp := by
    intro ks
    induction ks with
    | nil => intro a b h; exact h
    | cons n ks ih => intro a b h; exact ih (a.killn n) (b.killn n) (by simp [ASt.killn, h])
  refine ⟨_, rfl, ?_, movedOf ns hp1, fun t => ?_, fun t => ?_⟩
  · show afterHeap d ns (killAll st' (movedOf ns hp1)).hp hp1 = afterHeap d ns (killAll st (movedOf ns hp1)).hp hp1
    rw [hk _ _ _ hhp]
  · show (killAll st (movedOf ns hp1)).slot t = _
    rw [slot_killAll]; rfl
  · show (killAll st' (movedOf ns hp1)).slot t = _
    rw [slot_killAll]; rfl

theorem callA_slots {call : CallFn} {st st' : ASt} (hhp : st'.hp = st.hp) {d : Option Nat} {fv : AV} {args : List AV} {v : AV} {s : ASt} (hb : callA G call d fv args st = some (.val v s)) : ∃ s', callA G call d fv args st' = some (.val v s') ∧ Moved st st' s s' := by
  have hf : ∀ ns, (st'.fix ns).hp = (st.fix ns).hp := fun ns => by simp [ASt.fix, hhp]
  have fin : ∀ (rs ns : List Nat) (y : ARes × Heap), ((afterCall d ns (st.fix rs) y.2).map fun st3 => (answered (backMap ns d y.2) st3 y.1, movedOf ns y.2)).map (·.1) = some (.val v s) →
      ∃ s', ((afterCall d ns (st'.fix rs) y.2).map fun st3 => (answered (backMap ns d y.2) st3 y.1, movedOf ns y.2)).map (·.1) = some (.val v s') ∧ Moved st st' s s' := by
    intro rs ns y h
    obtain ⟨z, hz, e⟩ := Option.map_eq_some_iff.1 h
    obtain ⟨s3, hs3, rfl⟩ := Option.map_eq_some_iff.1 hz
    obtain ⟨s', h1, h2⟩ := afterCall_slots (hf rs) hs3
    cases hres : y.1 with
    | pan u => rw [hres] at e; simp [answered] at e
    | ret u =>
      rw [hres] at e
      simp only [answered, AR.val.injEq] at e
      obtain ⟨rfl, rfl⟩ := e
      exact ⟨s', by rw [h1]; simp [answered], h2⟩
  unfold callA callB at hb ⊢
  split at hb
  · dsimp only at hb ⊢
    rw [hhp, hf]
    split at hb
    case isFalse => cases hb
    rename_i hc
    rw [if_pos hc]
    rw [Option.map_bind, Option.bind_eq_some_iff] at hb
    obtain ⟨y, hy, hb⟩ := hb
    rw [hy]
    exact fin _ _ y hb
  · dsimp only at hb ⊢
    rw [hhp, hf]
    split at hb
    case isFalse => cases hb
    rename_i hc
    rw [if_pos hc]
    rw [Option.map_bind, Option.bind_eq_some_iff] at hb
    obtain ⟨j, hj, hb⟩ := hb
    simp only [Function.comp] at hb
    rw [Option.map_bind, Option.bind_eq_some_iff] at hb
    obtain ⟨y, hy, hb⟩ := hb
    rw [hj]
    simp only [Option.bind_some]
    rw [hy]
    exact fin _ _ y hb
  · cases hb
theorem callA_slotsP {call : CallFn} {st st' : ASt} (hhp : st'.hp = st.hp) {d : Option Nat} {fv : AV} {args : List AV} {v : AV} {s : ASt} (hb : callA G call d fv args st = some (.pan v s)) : ∃ s', callA G call d fv args st' = some (.pan v s') ∧ Moved st st' s s' := by
  have hf : ∀ ns, (st'.fix ns).hp = (st.fix ns).hp := fun ns => by simp [ASt.fix, hhp]
  have fin : ∀ (rs ns : List Nat) (y : ARes × Heap), ((afterCall d ns (st.fix rs) y.2).map fun st3 => (answered (backMap ns d y.2) st3 y.1, movedOf ns y.2)).map (·.1) = some (.pan v s) →
      ∃ s', ((afterCall d ns (st'.fix rs) y.2).map fun st3 => (answered (backMap ns d y.2) st3 y.1, movedOf ns y.2)).map (·.1) = some (.pan v s') ∧ Moved st st' s s' := by
    intro rs ns y h
    obtain ⟨z, hz, e⟩ := Option.map_eq_some_iff.1 h
    obtain ⟨s3, hs3, rfl⟩ := Option.map_eq_some_iff.1 hz
    obtain ⟨s', h1, h2⟩ := afterCall_slots (hf rs) hs3
    cases hres : y.1 with
    | ret u => rw [hres] at e; simp [answered] at e
    | pan u =>
      rw [hres] at e
      simp only [answered, AR.pan.injEq] at e
      obtain ⟨rfl, rfl⟩ := e
      exact ⟨s', by rw [h1]; simp [answered], h2⟩
  unfold callA callB at hb ⊢
  split at hb
  · dsimp only at hb ⊢
    rw [hhp, hf]
    split at hb
    case isFalse => cases hb
    rename_i hc
    rw [if_pos hc]
    rw [Option.map_bind, Option.bind_eq_some_iff] at hb
    obtain ⟨y, hy, hb⟩ := hb
    rw [hy]
    exact fin _ _ y hb
  · dsimp only at hb ⊢
    rw [hhp, hf]
    split at hb
    case isFalse => cases hb
    rename_i hc
    rw [if_pos hc]
    rw [Option.map_bind, Option.bind_eq_some_iff] at hb
    obtain ⟨j, hj, hb⟩ := hb
    simp only [Function.comp] at hb
    rw [Option.map_bind, Option.bind_eq_some_iff] at hb
    obtain ⟨y, hy, hb⟩ := hb
    rw [hj]
    simp only [Option.bind_some]
    rw [hy]
    exact fin _ _ y hb
  · cases hb

end Go.Proofs.YteibklnligmanaaDoor.Abs


/- Regions that draw their order: whichever is drawn, it comes to the same. -/
namespace Go.Proofs.YteibklnligmanaaDoor.Abs
open Go Go.RowKit
set_option linter.unusedSimpArgs false
set_option linter.unusedVariables false

variable {G : Cfg} {S : Stab} {ρ : Rho} {w : World} {E : Env} {st : ASt} {a : Act}

mutual
theorem beq_eq : ∀ x y : AV, AV.beq x y = true → x = y
  | .undef, y => by cases y <;> simp [AV.beq]
  | .bool a, y => by cases y <;> simp [AV.beq]
  | .int k a, y => by cases y <;> simp [AV.beq]
  | .str a, y => by cases y <;> simp [AV.beq]
  | .nilp, y => by cases y <;> simp [AV.beq]
  | .nils, y => by cases y <;> simp [AV.beq]
  | .nilf, y => by cases y <;> simp [AV.beq]
  | .nilm, y => by cases y <;> simp [AV.beq]
  | .nili, y => by cases y <;> simp [AV.beq]
  | .list s a, y => by
    cases y <;> simp [AV.beq]
    rename_i t b
    intro h1 h2; exact ⟨h1, beqL_eq a b h2⟩
  | .ep v o, y => by
    cases y <;> simp [AV.beq]
    rename_i u p
    intro h1 h2; exact ⟨beq_eq v u h1, h2⟩
  | .own a, y => by cases y <;> simp [AV.beq]
  | .row a b c, y => by cases y <;> simp [AV.beq]; intro h1 h2 h3; exact ⟨h1, h2, h3⟩
  | .ptr a b c, y => by cases y <;> simp [AV.beq]; intro h1 h2 h3; exact ⟨h1, h2, h3⟩
  | .agg a, y => by
    cases y <;> simp [AV.beq]
    rename_i b
    exact beqL_eq a b
  | .tup a, y => by
    cases y <;> simp [AV.beq]
    rename_i b
    exact beqL_eq a b
  | .iface t a, y => by
    cases y <;> simp [AV.beq]
    rename_i u b
    intro h1 h2; exact ⟨h1, beq_eq a b h2⟩
  | .fn f a b, y => by
    cases y with
    | fn g c d =>
      cases f <;> cases g <;> simp [AV.beq]
      intro h1 h2 h3; exact ⟨h1, beqL_eq a c h2, beqL_eq b d h3⟩
    | _ => cases f <;> simp [AV.beq]
  | .yld a, y => by cases y <;> simp [AV.beq]
  | .mp a, y => by cases y <;> simp [AV.beq]
  | .win a b c d, y => by
    cases y <;> simp [AV.beq]
    intro h1 h2 h3 h4; exact ⟨h1, h2, h3, h4⟩
  | .cm a, y => by cases y <;> simp [AV.beq]
theorem beqL_eq : ∀ x y : List AV, AV.beqL x y = true → x = y
  | [], [] => fun _ => rfl
  | [], _ :: _ => by simp [AV.beqL]
  | _ :: _, [] => by simp [AV.beqL]
  | a :: x, b :: y => by
    simp only [AV.beqL, Bool.and_eq_true]
    rintro ⟨h1, h2⟩
    rw [beq_eq a b h1, beqL_eq x y h2]
end

/-! ### Which is before which -/
def preds (o : Oper) : List Nat := o.after.toList.filterMap fun e => if Region.binds .any e then some e.on else none
def predsL (ops : Array Oper) (i : Nat) : List Nat := match ops[i]? with | some o => preds o | none => []
def befs (ops : Array Oper) : Nat → Nat → List Nat
  | 0, _ => []
  | k + 1, i => predsL ops i ++ (predsL ops i).flatMap (befs ops k)
def bef (ops : Array Oper) (i j : Nat) : Bool := (befs ops 3 j).contains i

theorem befs_closed {ops : Array Oper} {M : Nat → Prop} (hM : ∀ x, M x → ∀ y ∈ predsL ops x, M y) : ∀ (k i : Nat), (∀ y ∈ predsL ops i, M y) → ∀ y ∈ befs ops k i, M y := by
  intro k
  induction k with
  | zero => intro i _ y hy; simp [befs] at hy
  | succ k ih =>
    intro i hi y hy
    simp only [befs, List.mem_append, List.mem_flatMap] at hy
    rcases hy with hy | ⟨z, hz, hy⟩
    · exact hi y hy
    · exact ih z (hM z (hi z hz)) y hy

def readOp : Op → Bool
  | .move _ | .assign _ | .pick _ _ _ | .binOp _ _ _ _ _ | .unOp _ _ _ | .field _ _ _ | .fieldAddr _ _ _ | .indexAddr _ _ _ | .index _ _ _ | .load _ _ | .extract _ _ | .build _ _ | .makeInterface _ _ | .makeFunc _ _ _ | .nilCheck _ | .typeAssert _ _ _ _ | .convert _ _ _ => true
  | .slice _ _ lo hi _ => lo.isSome || hi.isNone
  | .call c => match c.callee with
    | .builtin .len => true
    | .builtin .min => true
    | .builtin .max => true
    | _ => false
  | _ => false

def layOp : Op → Bool
  | .buildSlice _ _ _ => true
  | _ => false
def nOK (ops : Array Oper) (i : Nat) : Bool :=
  match ops[i]? with
  | some o => (readOp o.op || layOp o.op) && (match o.dst with
    | some d => !(o.looksAt ops).contains d && (List.range ops.size).all fun p => p == i || (match ops[p]? with
      | some q => q.dst != some d && (!(q.looksAt ops).contains d || bef ops i p)
      | none => true)
    | none => false)
  | none => false

def vplan (ops : Array Oper) : List Nat → List Nat → List PS → Bool
  | L, _, [] => (List.range ops.size).all fun x => L.contains x
  | L, N, .n i :: r => decide (i < ops.size) && !L.contains i && ((predsL ops i).all fun x => L.contains x) && nOK ops i && vplan ops (i :: L) (i :: N) r
  | L, N, .e j re :: r => decide (j < ops.size) && !L.contains j && ((predsL ops j).all fun x => L.contains x) &&
      ((List.range ops.size).all fun x => L.contains x || x == j || !((predsL ops x).all fun x => L.contains x)) &&
      (N.all fun p => bef ops p j || re.contains p) && vplan ops (j :: L) N r
  | L, N, .sw j k re :: r => decide (j < ops.size) && decide (k < ops.size) && j != k && !L.contains j && !L.contains k && ((predsL ops j).all fun x => L.contains x) && ((predsL ops k).all fun x => L.contains x) &&
      ((List.range ops.size).all fun x => L.contains x || x == j || x == k || !((predsL ops x).all fun x => L.contains x)) &&
      ((List.range ops.size).all fun x => (j :: L).contains x || x == k || !((predsL ops x).all fun x => (j :: L).contains x)) &&
      ((List.range ops.size).all fun x => (k :: L).contains x || x == j || !((predsL ops x).all fun x => (k :: L).contains x)) &&
      (N.all fun p => bef ops p j || re.contains p) && (N.all fun p => bef ops p k || re.contains p) && vplan ops (k :: j :: L) N r && vplan ops (j :: k :: L) N r

theorem read_step {call : CallFn} {ops : Array Oper} {o : Oper} (hr : readOp o.op = true) {v : AV} (hv : nval G ops st o = some v) : stepE G call ops st o = some (.val v st) := by
  unfold nval at hv
  unfold stepE
  rw [Option.bind_eq_some_iff] at hv
  obtain ⟨g, hg, hv⟩ := hv
  rw [hg]
  have hnop : nopv G st o.op = opv G.P st.ev st.hp o.op := by
    cases hop : o.op with
    | buildSlice => rw [hop] at hr; cases hr
    | _ => rfl
  rw [hnop] at hv
  cases g with
  | false =>
    have hsk : skipA st o.op = true := by
      cases hop : o.op with
      | call c =>
        rw [hop] at hr
        simp only [readOp] at hr
        simp only [skipA]
        split at hr <;> first | (rename_i hc; simp only [hc]) | cases hr
      | _ => rfl
    simp only [Option.bind_some, Bool.false_eq_true, if_false, Option.some.injEq] at hv ⊢; rw [hv, if_pos hsk]
  | true =>
    simp only [Option.bind_some, if_true] at hv ⊢
    unfold aop aopB
    cases hop : o.op with
    | call c =>
      rw [hop] at hr hv
      simp only [readOp] at hr
      simp only [calledA, invokedA]
      split at hr
      · rename_i hc; simp only [hc] at hv ⊢; rw [hv]; rfl
      · rename_i hc; simp only [hc] at hv ⊢; rw [hv]; rfl
      · rename_i hc; simp only [hc] at hv ⊢; rw [hv]; rfl
      · cases hr
    | slice t x lo hi mx =>
      rw [hop] at hr hv
      have hcut : cutA st.hp (st.ev x) (lo.map st.ev) (hi.map st.ev) (mx.map st.ev) = none := by
        unfold cutA
        split
        · rename_i h1 h2 h3 h4
          exfalso
          cases lo <;> cases hi <;> simp_all [readOp]
        · rfl
      cases hwin : winA G.P st.hp t (st.ev x) (lo.map st.ev) (hi.map st.ev) (mx.map st.ev) with
      | some q =>
        simp only [nopv, opv, sliceW, hwin] at hv
        split at hv
        · cases hv
        · rename_i hns
          cases hv
          simp only [calledA, invokedA, hwin, winX, if_neg hns]
          first | rfl | done
      | none =>
        simp only [calledA, invokedA, hcut, hwin]
        rw [hv]; rfl
    | convert s t x =>
      rw [hop] at hv
      simp only [calledA, invokedA]
      split
      · rename_i e l h1 h2
        exfalso
        simp only [opv] at hv
        unfold convv at hv
        rw [h1, h2] at hv
        simp at hv
      · simp only [opv] at hv; rw [hv]; rfl
    | _ => first | (rw [hop] at hr; cases hr; done) | (simp only [calledA, invokedA]; rw [hop] at hv; rw [hv]; rfl)

theorem ev_congr {ops : Array Oper} {o : Oper} {st st' : ASt} (hl : ∀ t ∈ o.looksAt ops, st'.slot t = st.slot t) : ∀ x ∈ o.op.operands, st'.ev x = st.ev x := by
  intro x hx
  cases x with
  | tmp t => exact hl t (List.mem_append_left _ (List.mem_filterMap.2 ⟨.tmp t, by simpa using hx, rfl⟩))
  | _ => rfl
theorem guard_congr {ops : Array Oper} {o : Oper} {st st' : ASt} (hl : ∀ t ∈ o.looksAt ops, st'.slot t = st.slot t) : guardA ops st' o = guardA ops st o := by
  unfold guardA
  cases hg : o.guard with
  | none => rfl
  | some p =>
    obtain ⟨j, want⟩ := p
    simp only
    cases hd : (ops[j]?).bind (·.dst) with
    | none => rfl
    | some d =>
      have : st'.slot d = st.slot d := hl d (List.mem_append_right _ (by rw [hg]; simp [hd]))
      simp only [this]
theorem skip_congr {ops : Array Oper} {o : Oper} {st st' : ASt} (hl : ∀ t ∈ o.looksAt ops, st'.slot t = st.slot t) : skipA st' o.op = skipA st o.op := by
  cases ho : o.op with
  | call c =>
    simp only [skipA]
    split
    · rename_i t hc
      rw [hl t (List.mem_append_left _ (List.mem_filterMap.2 ⟨.tmp t, by rw [ho]; simp [Op.operands, Call.operands, hc], rfl⟩))]
    · rename_i t n hc
      rw [hl t (List.mem_append_left _ (List.mem_filterMap.2 ⟨.tmp t, by rw [ho]; simp [Op.operands, Call.operands, hc], rfl⟩))]
    · rfl
  | _ => rfl
theorem nval_congr {ops : Array Oper} {o : Oper} {st st' : ASt} (hhp : st'.hp = st.hp) (hl : ∀ t ∈ o.looksAt ops, st'.slot t = st.slot t) : nval G ops st' o = nval G ops st o := by
  unfold nval
  have hn : nopv G st' o.op = nopv G st o.op := by
    have he := ev_congr hl
    cases hop : o.op with
    | buildSlice t len parts =>
      unfold nopv bsv
      have ex : parts.toList.map (fun p => st'.ev p.2) = parts.toList.map (fun p => st.ev p.2) := List.map_congr_left fun p hp => he p.2 (by simp [hop, Op.operands]; exact ⟨p.1, by simpa using hp⟩)
      simp only [ex]
    | _ => rw [hop] at he; exact (opv_congr (P := G.P) st'.hp _ he).trans (by rw [hhp]; rfl)
  rw [guard_congr hl, hn]
theorem stepE_slots {call : CallFn} {ops : Array Oper} {o : Oper} {st st' : ASt} (hhp : st'.hp = st.hp) (hl : ∀ t ∈ o.looksAt ops, st'.slot t = st.slot t) {v : AV} {s : ASt} (h : stepE G call ops st o = some (.val v s)) :
    ∃ s', stepE G call ops st' o = some (.val v s') ∧ Moved st st' s s' := by
  unfold stepE at h ⊢
  rw [guard_congr hl]
  rw [Option.bind_eq_some_iff] at h
  obtain ⟨g, hg, h⟩ := h
  rw [hg]
  cases g with
  | false =>
    simp only [Option.bind_some, Bool.false_eq_true, if_false] at h ⊢
    rw [skip_congr hl]
    split at h
    case isFalse => cases h
    rename_i hsk
    rw [if_pos hsk]
    simp only [Option.some.injEq, AR.val.injEq] at h
    obtain ⟨rfl, rfl⟩ := h
    exact ⟨st', rfl, .none hhp (fun _ => rfl) (fun _ => rfl)⟩
  | true =>
    simp only [Option.bind_some, if_true] at h ⊢
    unfold aop at h ⊢
    have he := ev_congr hl
    cases hc : calledA o.op with
    | none =>
      simp only [hc] at h ⊢
      cases hi : invokedA o.op with
      | none => simp only [hi] at h ⊢; exact aopB_slots hhp o he h
      | some q =>
        obtain ⟨r, nm, l⟩ := q
        simp only [hi] at h ⊢
        obtain ⟨c, hop, hcc, hca⟩ := invoked_op hi
        have e1 : st'.ev r = st.ev r := he r (by rw [hop]; simp [Op.operands, Call.operands, hcc])
        have e2 : l.map st'.ev = l.map st.ev := List.map_congr_left fun x hx => he x (by rw [hop]; simp only [Op.operands, Call.operands]; exact Array.mem_append.2 (.inr (by rw [← hca] at hx; simpa using hx)))
        rw [e1, e2]
        have e3 : ∀ x ld, recvA G st' x ld = recvA G st x ld := fun x ld => by unfold recvA; rw [hhp]
        unfold invA at h ⊢
        split at h
        case h_2 => cases h
        rename_i t v hre
        rw [Option.bind_eq_some_iff] at h; obtain ⟨m, hm, h⟩ := h
        rw [Option.bind_eq_some_iff] at h; obtain ⟨u, hu, h⟩ := h
        simp only [hre, hm, Option.bind_some, e3, hu]
        exact callA_slots hhp h
    | some p =>
      obtain ⟨f, l⟩ := p
      simp only [hc] at h ⊢
      obtain ⟨c, hop, hcc, hca⟩ := called_op hc
      have e1 : st'.ev f = st.ev f := he f (by rw [hop]; simp [Op.operands, Call.operands, hcc])
      have e2 : l.map st'.ev = l.map st.ev := List.map_congr_left fun x hx => he x (by rw [hop]; simp only [Op.operands, Call.operands]; exact Array.mem_append.2 (.inr (by rw [← hca] at hx; simpa using hx)))
      rw [e1, e2]
      cases hext : extA G (st.ev f) (l.map st.ev) with
      | some v0 => simp only [hext] at h ⊢; cases h; exact ⟨st', rfl, .none hhp (fun _ => rfl) (fun _ => rfl)⟩
      | none => simp only [hext] at h ⊢; exact callA_slots hhp h

/-- What only reads, or lays a literal of plain things. -/
theorem nop_ok (GE : GOK G) {call : CallFn} (hcall : CallOK G call) {ops : Array Oper} {ro : Option Nat} {i : Nat} {o : Oper} (ho : ops[i]? = some o) (hab : aboutB o = true)
    {Q : Exit → Act → World → Prop} {K : Act → World → Prop} (h : SR E st S ρ a.tmps w) (hr : (readOp o.op || layOp o.op) = true) {v : AV} (hv : nval G ops st o = some v)
    (hK : ∀ u w' S' ρ', SR E st S' ρ' a.tmps w' → VR S' ρ' w' v u → K (a.put o.dst u) w') : wpOpIn (FW G.wd ro) 0 G.P ops Q i K a w := by
  cases hr1 : readOp o.op with
  | true =>
    refine op_ok GE hcall ho hab h (read_step (call := call) hr1 hv) (fun v s e u w' S' ρ' hs hvu => ?_) (fun v s e => by cases e)
    cases e
    exact hK u w' S' ρ' hs hvu
  | false =>
    rw [hr1, Bool.false_or] at hr
    unfold nval at hv
    rw [Option.bind_eq_some_iff] at hv
    obtain ⟨g, hg, hv⟩ := hv
    have hw := guard_ok h hg
    unfold wpOpIn
    simp only [ho]
    cases g with
    | false =>
      rw [hw]
      simp only [Bool.false_eq_true, if_false, Option.some.injEq] at hv ⊢
      subst hv
      refine ⟨?_, hK _ _ S ρ h (.tup [] #[] rfl (fun j c v hc => by simp at hc))⟩
      intro q hq
      rw [about_none (fun c e => by rw [e] at hr; simp [layOp] at hr)] at hq; cases hq
    | true =>
      rw [hw]
      simp only [if_true] at hv ⊢
      refine ⟨fun q hq => ?_, ?_⟩
      · rw [about_none (fun c e => by rw [e] at hr; simp [layOp] at hr)] at hq; cases hq
      cases hop : o.op with
      | buildSlice t len parts =>
        rw [hop] at hv
        obtain ⟨u, w', S', hrun, hs, hvu⟩ := bsv_ok h o hop hv
        have hnd : ∀ c', o.op ≠ .defer c' := fun c' e => by rw [hop] at e; cases e
        rw [semAt_ok hnd, hrun, Oper.uponIn_value]
        exact hK u w' S' ρ hs hvu
      | _ => rw [hop] at hr; cases hr

/-- The same, by what is found in it. -/
def Same (a b : ASt) : Prop := (∀ t, a.slot t = b.slot t) ∧ ∀ n, aget a.hp n = aget b.hp n
theorem Same.refl (a : ASt) : Same a a := ⟨fun _ => rfl, fun _ => rfl⟩
def Goes (G : Cfg) (call : CallFn) (ops : Array Oper) : List PS → ASt → AX × ASt → Prop
  | [], T, Tf => (.normal, T) = Tf
  | .n i :: r, T, Tf => ∃ o v, ops[i]? = some o ∧ nval G ops T o = some v ∧ Goes G call ops r (T.put o.dst v) Tf
  | .e j re :: r, T, Tf => (∃ o v s T2, ops[j]? = some o ∧ stepE G call ops T o = some (.val v s) ∧ Same (s.put o.dst v) T2 ∧ re.all (again G ops T2) = true ∧ Goes G call ops r T2 Tf) ∨
      ∃ o v s, ops[j]? = some o ∧ stepE G call ops T o = some (.pan v s) ∧ (calledA o.op).isSome = true ∧ Tf = (.pan v, { sl := [], hp := s.hp })
  | .sw j k re :: r, T, Tf => ∃ o o' v t u s v' s', ops[j]? = some o ∧ ops[k]? = some o' ∧ allocB (some o) (some o') = true ∧ aopB G o' T = some (.val v t) ∧ re.all (again G ops (t.put o'.dst v)) = true ∧
      aopB G o T = some (.val u s) ∧ re.all (again G ops (s.put o.dst u)) = true ∧ aopB G o' (s.put o.dst u) = some (.val v' s') ∧ re.all (again G ops (s'.put o'.dst v')) = true ∧ Goes G call ops r (s'.put o'.dst v') Tf
theorem swStep_some {ops : Array Oper} {re : List Nat} {st s1 : ASt} {j : Nat} (h : swStep G ops re st ops[j]? = some s1) : ∃ o v s, ops[j]? = some o ∧ aopB G o st = some (.val v s) ∧ re.all (again G ops (s.put o.dst v)) = true ∧ s1 = s.put o.dst v := by
  cases ho : ops[j]? with
  | none => rw [ho] at h; cases h
  | some o =>
    rw [ho] at h
    simp only [swStep] at h
    split at h
    · rename_i v s hs
      split at h
      · rename_i hc; cases h; exact ⟨o, v, s, rfl, hs, hc, rfl⟩
      · cases h
    · cases h
theorem goes_of_run {call : CallFn} {ops : Array Oper} : ∀ {l : List PS} {T : ASt} {Tf : AX × ASt}, runPlan G call ops l T = some Tf → Goes G call ops l T Tf := by
  intro l
  induction l with
  | nil => intro T Tf h; cases h; rfl
  | cons x l ih =>
    intro T Tf h
    cases x with
    | n i =>
      simp only [runPlan] at h
      rw [Option.bind_eq_some_iff] at h; obtain ⟨o, ho, h⟩ := h
      rw [Option.bind_eq_some_iff] at h; obtain ⟨v, hv, h⟩ := h
      exact ⟨o, v, ho, hv, ih h⟩
    | e j re =>
      simp only [runPlan] at h
      rw [Option.bind_eq_some_iff] at h; obtain ⟨o, ho, h⟩ := h
      rw [Option.bind_eq_some_iff] at h; obtain ⟨a, ha, h⟩ := h
      cases a with
      | pan v s =>
        simp only at h
        split at h
        · rename_i hc; cases h; exact .inr ⟨o, v, s, ho, ha, hc, rfl⟩
        · cases h
      | val v s =>
        simp only at h
        split at h
        · rename_i hc; exact .inl ⟨o, v, s, _, ho, ha, Same.refl _, hc, ih h⟩
        · cases h
    | sw j k re =>
      simp only [runPlan] at h
      split at h
      case isFalse => cases h
      rename_i hc
      rw [Option.bind_eq_some_iff] at h; obtain ⟨s0, h0, h⟩ := h
      rw [Option.bind_eq_some_iff] at h; obtain ⟨s1, h1, h⟩ := h
      rw [Option.bind_eq_some_iff] at h; obtain ⟨s2, h2, h⟩ := h
      obtain ⟨o', v, t, a1, a2, a3, rfl⟩ := swStep_some h0
      obtain ⟨o, u, s, b1, b2, b3, rfl⟩ := swStep_some h1
      obtain ⟨o2, v', s', c1, c2, c3, rfl⟩ := swStep_some h2
      rw [a1] at c1; cases c1
      rw [a1, b1] at hc
      exact ⟨o, o', v, t, u, s, v', s', b1, a1, hc, a2, a3, b2, b3, c2, c3, ih h⟩
theorem allocB_spec {o o' : Oper} (h : allocB (some o) (some o') = true) : ∃ d e d' e', o.dst = some d ∧ o.op = .alloc e ∧ o.guard = none ∧ o'.dst = some d' ∧ o'.op = .alloc e' ∧ o'.guard = none ∧ d ≠ d' := by
  unfold allocB at h
  split at h
  · rename_i d e _ _ _ d' e' _ _ _ h1 h2
    cases h1; cases h2
    exact ⟨d, e, d', e', rfl, rfl, rfl, rfl, rfl, rfl, by simpa using h⟩
  · cases h
theorem stepE_slotsP {call : CallFn} {ops : Array Oper} {o : Oper} {st st' : ASt} (hhp : st'.hp = st.hp) (hl : ∀ t ∈ o.looksAt ops, st'.slot t = st.slot t) (hc : (calledA o.op).isSome = true) {v : AV} {s : ASt} (h : stepE G call ops st o = some (.pan v s)) :
    ∃ s', stepE G call ops st' o = some (.pan v s') ∧ s'.hp = s.hp := by
  unfold stepE at h ⊢
  rw [guard_congr hl]
  rw [Option.bind_eq_some_iff] at h
  obtain ⟨g, hg, h⟩ := h
  rw [hg]
  cases g with
  | false =>
    simp only [Option.bind_some, Bool.false_eq_true, if_false] at h ⊢
    split at h <;> cases h
  | true =>
    simp only [Option.bind_some, if_true] at h ⊢
    unfold aop at h ⊢
    have he := ev_congr hl
    cases hc' : calledA o.op with
    | none => rw [hc'] at hc; cases hc
    | some p =>
      obtain ⟨f, l⟩ := p
      simp only [hc'] at h ⊢
      obtain ⟨c, hop, hcc, hca⟩ := called_op hc'
      have e1 : st'.ev f = st.ev f := he f (by rw [hop]; simp [Op.operands, Call.operands, hcc])
      have e2 : l.map st'.ev = l.map st.ev := List.map_congr_left fun x hx => he x (by rw [hop]; simp only [Op.operands, Call.operands]; exact Array.mem_append.2 (.inr (by rw [← hca] at hx; simpa using hx)))
      rw [e1, e2]
      cases hext : extA G (st.ev f) (l.map st.ev) with
      | some v0 => simp only [hext] at h; cases h
      | none =>
        simp only [hext] at h ⊢
        obtain ⟨s', h1, h2⟩ := callA_slotsP hhp h
        exact ⟨s', h1, h2.1⟩
theorem stepE_alloc {call : CallFn} {ops : Array Oper} {o : Oper} {e : TypeId} (h1 : o.op = .alloc e) (h2 : o.guard = none) (st : ASt) : stepE G call ops st o = aopB G o st := by
  unfold stepE guardA
  rw [h2]
  simp only [Option.bind_some, if_true]
  unfold aop
  rw [h1]; rfl
theorem aopB_alloc {o : Oper} {d : Nat} {e : TypeId} (hd : o.dst = some d) (ho : o.op = .alloc e) {st s : ASt} {v : AV} (h : aopB G o st = some (.val v s)) :
    ∃ b, v = .ptr (1000 + d) 0 0 ∧ aget st.hp (1000 + d) = none ∧ s = { st with hp := (1000 + d, b) :: st.hp } ∧ ∀ st' : ASt, aget st'.hp (1000 + d) = none → aopB G o st' = some (.val (.ptr (1000 + d) 0 0) { st' with hp := (1000 + d, b) :: st'.hp }) := by
  unfold aopB at h ⊢
  rw [ho, hd] at h ⊢
  simp only [Option.bind_some] at h ⊢
  rw [Option.bind_eq_some_iff] at h
  obtain ⟨z, hz, h⟩ := h
  rw [hz]
  simp only [Option.bind_some]
  split at h
  case isFalse => cases h
  rename_i hc
  simp only [if_pos hc]
  unfold newObj at h ⊢
  simp only at h ⊢
  split at h
  · cases h
  · rename_i hn
    cases h
    refine ⟨_, rfl, by simpa using hn, rfl, fun st' hst' => ?_⟩
    rw [hst']; rfl
theorem swap_alloc {o o' : Oper} (h : allocB (some o) (some o') = true) {T t s s' : ASt} {v u v' : AV} (h1 : aopB G o' T = some (.val v t)) (h2 : aopB G o T = some (.val u s)) (h3 : aopB G o' (s.put o.dst u) = some (.val v' s')) :
    ∃ u' t', aopB G o (t.put o'.dst v) = some (.val u' t') ∧ Same (t'.put o.dst u') (s'.put o'.dst v') := by
  obtain ⟨d, e, d', e', a1, a2, a3, b1, b2, b3, hne⟩ := allocB_spec h
  obtain ⟨b', rfl, g1, rfl, g2⟩ := aopB_alloc b1 b2 h1
  obtain ⟨b, rfl, f1, rfl, f2⟩ := aopB_alloc a1 a2 h2
  obtain ⟨c', rfl, k1, rfl, k2⟩ := aopB_alloc b1 b2 h3
  have hcb : c' = b' := by
    have := g2 _ k1
    rw [h3] at this
    simp only [Option.some.injEq, AR.val.injEq, true_and] at this
    have := congrArg (fun x : ASt => x.hp.head?) this
    simpa using this
  subst hcb
  have hn : (1000 + d' : Nat) ≠ 1000 + d := fun e => hne (Nat.add_left_cancel e).symm
  rw [a1, b1]
  refine ⟨_, _, f2 _ ?_, fun x => ?_, fun n => ?_⟩
  · rw [hp_put]; simp only [aget_cons, if_neg hn]; exact f1
  · simp only [ASt.put, ASt.slot, aget_cons]
    by_cases e1 : d = x
    · have e2 : ¬ d' = x := fun e => hne (e1.trans e.symm)
      simp only [if_pos e1, if_neg e2]
    · simp only [if_neg e1]
  · simp only [hp_put, aget_cons]
    by_cases e1 : 1000 + d = n
    · have e2 : ¬ 1000 + d' = n := fun e => hn (e.trans e1.symm)
      simp only [if_pos e1, if_neg e2]
    · simp only [if_neg e1]
theorem SR.bareA {st' : ASt} {tm : Array Value} (h : SR E st S ρ tm w) (hh : ∀ n, aget st'.hp n = aget st.hp n) (hs : st'.sl = [] := by rfl) : SR E st' S ρ tm w :=
  ⟨fun t => by unfold ASt.slot; rw [hs]; exact .undef _, ⟨fun n o ho => h.heap.obj n o ((hh n).symm.trans ho), fun n hn => h.heap.dom n ((hh n).symm.trans hn), h.heap.inj⟩, h.mine, fun n o ho => h.old n o ((hh n).symm.trans ho), h.fr⟩
theorem SR.sameA {st' : ASt} {tm : Array Value} (h : SR E st S ρ tm w) (hs : ∀ t, st'.slot t = st.slot t) (hh : ∀ n, aget st'.hp n = aget st.hp n) : SR E st' S ρ tm w :=
  ⟨fun t => hs t ▸ h.slot t, ⟨fun n o ho => h.heap.obj n o (hh n ▸ ho), fun n hn => h.heap.dom n (hh n ▸ hn), h.heap.inj⟩, h.mine, fun n o ho => h.old n o (hh n ▸ ho), h.fr⟩

/-! ### The orders -/
/-- The operations that were told, the last one first: each behind those that it is behind. -/
def Ordered (ops : Array Oper) : List Nat → Prop
  | [] => True
  | i :: L => (∀ y ∈ predsL ops i, y ∈ L) ∧ Ordered ops L

structure PInv (G : Cfg) (ops : Array Oper) (L N : List Nat) (M : Nat → Prop) (T : ASt) : Prop where
  lt : ∀ x ∈ L, x < ops.size
  ord : Ordered ops L
  sub : ∀ x, M x → x ∈ L
  cl : ∀ x, M x → ∀ y ∈ predsL ops x, M y
  pend : ∀ x ∈ L, ¬ M x → x ∈ N ∧ ∃ o d, ops[x]? = some o ∧ o.dst = some d ∧ nval G ops T o = some (T.slot d)
  ok : ∀ x ∈ N, nOK ops x = true

theorem Ordered.closed {ops : Array Oper} : ∀ {L : List Nat}, Ordered ops L → ∀ x ∈ L, ∀ y ∈ predsL ops x, y ∈ L := by
  intro L
  induction L with
  | nil => intro _ x hx; simp at hx
  | cons i L ih =>
    intro h x hx y hy
    rcases List.mem_cons.1 hx with rfl | hx
    · exact List.mem_cons_of_mem _ (h.1 y hy)
    · exact List.mem_cons_of_mem _ (ih h.2 x hx y hy)
theorem Ordered.first {ops : Array Oper} {M : Nat → Prop} : ∀ {L : List Nat}, Ordered ops L → (∃ x ∈ L, ¬ M x) → ∃ x ∈ L, ¬ M x ∧ ∀ y ∈ predsL ops x, M y := by
  intro L
  induction L with
  | nil => rintro _ ⟨x, hx, _⟩; simp at hx
  | cons i L ih =>
    intro h hx
    by_cases hL : ∃ x ∈ L, ¬ M x
    · obtain ⟨x, h1, h2⟩ := ih h.2 hL
      exact ⟨x, List.mem_cons_of_mem _ h1, h2⟩
    · obtain ⟨x, h1, h2⟩ := hx
      rcases List.mem_cons.1 h1 with rfl | h1
      · refine ⟨x, by simp, h2, fun y hy => ?_⟩
        have := h.1 y hy
        by_cases hm : M y
        · exact hm
        · exact absurd ⟨y, this, hm⟩ hL
      · exact absurd ⟨x, h1, h2⟩ hL

theorem nOK_spec {ops : Array Oper} {i : Nat} (h : nOK ops i = true) : ∃ o d, ops[i]? = some o ∧ (readOp o.op || layOp o.op) = true ∧ o.dst = some d ∧ d ∉ o.looksAt ops ∧
    ∀ p q, p ≠ i → ops[p]? = some q → q.dst ≠ some d ∧ (d ∈ q.looksAt ops → bef ops i p = true) := by
  unfold nOK at h
  split at h
  · rename_i o ho
    simp only [Bool.and_eq_true] at h
    obtain ⟨h1, h2⟩ := h
    split at h2
    · rename_i d hd
      simp only [Bool.and_eq_true, List.all_eq_true, Bool.or_eq_true] at h2
      obtain ⟨h3, h4⟩ := h2
      refine ⟨o, d, ho, h1, hd, by simpa using h3, fun p q hp hq => ?_⟩
      have hlt : p < ops.size := (Array.getElem?_eq_some_iff.1 hq).1
      have := (h4 p (List.mem_range.2 hlt)).resolve_left (by simpa using hp)
      simp only [hq, Bool.and_eq_true, Bool.or_eq_true] at this
      refine ⟨by simpa using this.1, fun hd => this.2.resolve_left ?_⟩
      simpa using hd
    · cases h2
  · cases h

def Agree (ops : Array Oper) (L : List Nat) (M : Nat → Prop) (T m : ASt) : Prop :=
  m.hp = T.hp ∧ ∀ t, (∀ x ∈ L, ¬ M x → ∀ o, ops[x]? = some o → o.dst ≠ some t) → m.slot t = T.slot t

theorem advance {call : CallFn} {ops : Array Oper} {M : Nat → Prop} : ∀ (l : List PS) {L N : List Nat} {T m : ASt} {Tf : AX × ASt}, PInv G ops L N M T → Agree ops L M T m → vplan ops L N l = true → Goes G call ops l T Tf →
    ∃ l' L' N' T', PInv G ops L' N' M T' ∧ Agree ops L' M T' m ∧ vplan ops L' N' l' = true ∧ Goes G call ops l' T' Tf ∧ (l' = [] ∨ (∃ j re r, l' = .e j re :: r) ∨ ∃ j k re r, l' = .sw j k re :: r) := by
  intro l
  induction l with
  | nil => intro L N T m Tf hi ha hv hr; exact ⟨[], L, N, T, hi, ha, hv, hr, .inl rfl⟩
  | cons x l ih =>
    intro L N T m Tf hi ha hv hr
    cases x with
    | e j re => exact ⟨_, L, N, T, hi, ha, hv, hr, .inr (.inl ⟨j, re, l, rfl⟩)⟩
    | sw j k re => exact ⟨_, L, N, T, hi, ha, hv, hr, .inr (.inr ⟨j, k, re, l, rfl⟩)⟩
    | n i =>
      simp only [vplan, Bool.and_eq_true, decide_eq_true_eq, List.all_eq_true] at hv
      obtain ⟨⟨⟨⟨v1, v2⟩, v3⟩, v4⟩, v5⟩ := hv
      have hiL : i ∉ L := by simpa using v2
      have hpL : ∀ y ∈ predsL ops i, y ∈ L := fun y hy => by simpa using v3 y hy
      obtain ⟨o, d, ho, hro, hd, hself, hoth⟩ := nOK_spec v4
      obtain ⟨o1, v, ho1, hv, hr⟩ := hr
      rw [ho] at ho1; cases ho1
      have hnM : ¬ M i := fun hm => hiL (hi.sub i hm)
      have sl : ∀ t, t ≠ d → (T.put o.dst v).slot t = T.slot t := fun t ht => by rw [slot_put, hd, if_neg (by simpa using Ne.symm ht)]
      refine ih (L := i :: L) (N := i :: N) (T := T.put o.dst v) ⟨?_, ⟨hpL, hi.ord⟩, fun x hx => List.mem_cons_of_mem _ (hi.sub x hx), hi.cl, ?_, ?_⟩ ⟨?_, ?_⟩ v5 hr
      · intro x hx
        rcases List.mem_cons.1 hx with rfl | hx
        · exact v1
        · exact hi.lt x hx
      · intro x hx hm
        rcases List.mem_cons.1 hx with rfl | hx
        · refine ⟨by simp, o, d, ho, hd, ?_⟩
          rw [nval_congr (st := T) (hp_put _ _ _) (fun t ht => sl t fun e => hself (e ▸ ht)), hv, slot_put, hd]; simp
        · obtain ⟨h1, o', d', h2, h3, h4⟩ := hi.pend x hx hm
          have hxi : x ≠ i := fun e => hiL (e ▸ hx)
          obtain ⟨g1, g2⟩ := hoth x o' hxi h2
          refine ⟨List.mem_cons_of_mem _ h1, o', d', h2, h3, ?_⟩
          have hnl : d ∉ o'.looksAt ops := by
            intro hl
            have hb := g2 hl
            unfold bef at hb
            have := befs_closed (M := fun y => y ∈ L) (Ordered.closed hi.ord) 3 x (Ordered.closed hi.ord x hx) i (by simpa using hb)
            exact hiL this
          rw [nval_congr (st := T) (hp_put _ _ _) (fun t ht => sl t fun e => hnl (e ▸ ht)), h4, sl d' fun e => g1 (by rw [h3, e])]
      · intro x hx
        rcases List.mem_cons.1 hx with rfl | hx
        · exact v4
        · exact hi.ok x hx
      · rw [hp_put]; exact ha.1
      · intro t ht
        have : t ≠ d := fun e => ht i (by simp) hnM o ho (by rw [hd, e])
        rw [sl t this]
        exact ha.2 t fun x hx hm o ho => ht x (List.mem_cons_of_mem _ hx) hm o ho

theorem countP_lt {p q : Nat → Bool} (h : ∀ x, q x = true → p x = true) {i : Nat} (hp : p i = true) (hq : q i = false) : ∀ (l : List Nat), i ∈ l → l.countP q < l.countP p := by
  have le : ∀ l : List Nat, l.countP q ≤ l.countP p := fun l => List.countP_mono_left fun x _ hx => h x hx
  intro l
  induction l with
  | nil => intro hi; simp at hi
  | cons x l ih =>
    intro hi
    rw [List.countP_cons, List.countP_cons]
    rcases List.mem_cons.1 hi with rfl | hi
    · have := le l; simp [hp, hq]; omega
    · have := ih hi
      cases hqx : q x with
      | true => simp [h x hqx]; omega
      | false => simp; split <;> omega

theorem SR.same {st' : ASt} {tm : Array Value} (h : SR E st S ρ tm w) (hs : ∀ t, st'.slot t = st.slot t) (hh : st'.hp = st.hp) : SR E st' S ρ tm w :=
  ⟨fun t => hs t ▸ h.slot t, hh ▸ h.heap, h.mine, hh ▸ h.old, h.fr⟩

theorem mem_preds {o : Oper} {listed : Array Bool} (h : ∀ e ∈ o.after, Region.binds .any e = true → listed.getD e.on false = true) : ∀ y ∈ preds o, listed.getD y false = true := by
  intro y hy
  unfold preds at hy
  obtain ⟨e, he, h1⟩ := List.mem_filterMap.1 hy
  split at h1
  · rename_i hb; cases h1; exact h e (by simpa using he) hb
  · cases h1

theorem getD_in {listed : Array Bool} {x : Nat} (h : x < listed.size) : listed.getD x true = listed.getD x false := by
  simp [Array.getD, h]
theorem mem_predsL {ops : Array Oper} {i : Nat} {o : Oper} (ho : ops[i]? = some o) : predsL ops i = preds o := by
  unfold predsL; rw [ho]

/-- All are done. -/
theorem plan_end {call : CallFn} {ops : Array Oper} {n : Nat} {Tf : AX × ASt} {df : List Deferred} {listed : Array Bool} {l : List PS} {L N : List Nat} {T m : ASt} (hsz : listed.size = ops.size)
    (hi : PInv G ops L N (fun x => listed.getD x false = true) T) (ha : Agree ops L (fun x => listed.getD x false = true) T m) (hv : vplan ops L N l = true) (hr : Goes G call ops l T Tf) (hhead : l = [] ∨ (∃ j re r, l = .e j re :: r) ∨ ∃ j k re r, l = .sw j k re :: r)
    (h : SR E m S ρ a.tmps w) (hn : a.tmps.size = n) (hdf : a.defers = df) (hrd : Region.ready .any ops listed = []) : CodeDone E df n Tf .normal a w := by
  have ready : ∀ x o, ops[x]? = some o → ¬ listed.getD x false = true → (∀ y ∈ preds o, listed.getD y false = true) → False := by
    intro x o ho hx hp
    have hlt : x < ops.size := (Array.getElem?_eq_some_iff.1 ho).1
    have hm : x ∈ Region.ready .any ops listed := by
      rw [mem_ready]
      refine ⟨by rw [getD_in (by omega)]; simpa using hx, o, ho, fun e he hb => hp e.on ?_⟩
      unfold preds
      exact List.mem_filterMap.2 ⟨e, by simpa using he, by rw [if_pos hb]⟩
    rw [hrd] at hm; simp at hm
  have nopend : ∀ x ∈ L, listed.getD x false = true := by
    intro x hx
    apply Classical.byContradiction
    intro hm
    obtain ⟨y, hy, hym, hyp⟩ := Ordered.first (M := fun x => listed.getD x false = true) hi.ord ⟨x, hx, hm⟩
    obtain ⟨_, o, d, ho, _⟩ := hi.pend y hy hym
    exact ready y o ho hym fun z hz => hyp z (by rw [mem_predsL ho]; exact hz)
  rcases hhead with rfl | ⟨j, re, r, rfl⟩ | ⟨j, k, re, r, rfl⟩
  · have hr : (.normal, T) = Tf := hr
    subst hr
    exact ⟨hdf, hn, S, ρ, h.same (fun t => (ha.2 t fun x hx hm => absurd (nopend x hx) hm).symm) ha.1.symm, trivial⟩
  · exfalso
    simp only [vplan, Bool.and_eq_true, decide_eq_true_eq, List.all_eq_true] at hv
    obtain ⟨⟨⟨⟨⟨v1, v2⟩, v3⟩, v4⟩, v5⟩, v6⟩ := hv
    have ho := Array.getElem?_eq_getElem v1
    refine ready j _ ho (fun hm => ?_) fun y hy => nopend y (by simpa using v3 y (by rw [mem_predsL ho]; exact hy))
    have := hi.sub j hm
    simp [this] at v2
  · exfalso
    simp only [vplan, Bool.and_eq_true, decide_eq_true_eq, List.all_eq_true] at hv
    obtain ⟨⟨⟨⟨⟨⟨⟨⟨⟨⟨⟨⟨⟨v1, _⟩, _⟩, v2⟩, _⟩, v3⟩, _⟩, _⟩, _⟩, _⟩, _⟩, _⟩, _⟩, _⟩ := hv
    have ho := Array.getElem?_eq_getElem v1
    refine ready j _ ho (fun hm => ?_) fun y hy => nopend y (by simpa using v3 y (by rw [mem_predsL ho]; exact hy))
    have := hi.sub j hm
    simp [this] at v2

theorem set_getD {listed : Array Bool} {i x : Nat} (h : i < listed.size) (b : Bool) : (listed.setIfInBounds i true).getD x b = if x = i then true else listed.getD x b := by
  by_cases e : x = i
  · subst e; simp [Array.getD, h]
  · simp only [if_neg e, Array.getD_eq_getD_getElem?, Array.getElem?_setIfInBounds_ne (Ne.symm e)]

theorem plan_ok (GE : GOK G) {call : CallFn} (hcall : CallOK G call) {ops : Array Oper} {n : Nat} (hd : ops.toList.all (opDst n) = true) {ro : Option Nat} {Tf : AX × ASt} {df : List Deferred} :
    ∀ (fuel : Nat) (listed : Array Bool) {l : List PS} {L N : List Nat} {T m : ASt} {E : Env} {S : Stab} {ρ : Rho} {a : Act} {w : World}, listed.size = ops.size → (List.range ops.size).countP (fun x => !listed.getD x true) ≤ fuel →
      PInv G ops L N (fun x => listed.getD x false = true) T → Agree ops L (fun x => listed.getD x false = true) T m → vplan ops L N l = true → Goes G call ops l T Tf → SR E m S ρ a.tmps w → a.tmps.size = n → a.defers = df →
      wpAnyIn (FW G.wd ro) 0 G.P .any ops (CodeDone E df n Tf) fuel listed a w := by
  intro fuel
  induction fuel with
  | zero =>
    intro listed l L N T m E S ρ a w hsz hcount hi ha hv hr h hn hdf
    have hrd : Region.ready .any ops listed = [] := by
      apply List.eq_nil_iff_forall_not_mem.2
      intro x hx
      rw [mem_ready] at hx
      obtain ⟨h0, o, ho, _⟩ := hx
      have hlt : x < ops.size := (Array.getElem?_eq_some_iff.1 ho).1
      have h1 := List.countP_eq_zero.1 (Nat.le_zero.1 hcount) x (List.mem_range.2 hlt)
      simp [h0] at h1
    obtain ⟨l', L', N', T', hi', ha', hv', hr', hhead⟩ := advance l hi ha hv hr
    exact ⟨hrd, plan_end hsz hi' ha' hv' hr' hhead h hn hdf hrd⟩
  | succ fuel ih =>
    intro listed l L N T m E S ρ a w hsz hcount hi ha hv hr h hn hdf
    obtain ⟨l', L', N', T', hi', ha', hv', hr', hhead⟩ := advance l hi ha hv hr
    refine ⟨fun hrd => plan_end hsz hi' ha' hv' hr' hhead h hn hdf hrd, fun i hmem => ?_⟩
    rw [mem_ready] at hmem
    obtain ⟨h0, o, ho, hpre⟩ := hmem
    have hlt : i < ops.size := (Array.getElem?_eq_some_iff.1 ho).1
    have hiM : ¬ listed.getD i false = true := by rw [← getD_in (by omega), h0]; simp
    have hpM : ∀ y ∈ predsL ops i, listed.getD y false = true := by rw [mem_predsL ho]; exact mem_preds hpre
    have hsz' : (listed.setIfInBounds i true).size = ops.size := by simpa using hsz
    have hcount' : (List.range ops.size).countP (fun x => !(listed.setIfInBounds i true).getD x true) ≤ fuel := by
      have := countP_lt (p := fun x => !listed.getD x true) (q := fun x => !(listed.setIfInBounds i true).getD x true) (fun x hx => by
        rw [set_getD (by omega)] at hx
        split at hx
        · simp at hx
        · exact hx) (i := i) (by simp [h0]) (by rw [set_getD (by omega)]; simp) (List.range ops.size) (List.mem_range.2 hlt)
      omega
    have hset : ∀ x, (listed.setIfInBounds i true).getD x false = true ↔ x = i ∨ listed.getD x false = true := by
      intro x
      rw [set_getD (by omega)]
      by_cases e : x = i <;> simp [e]
    -- what is not done yet isn't looked at
    have notPend : ∀ t ∈ o.looksAt ops, ∀ x ∈ L', ¬ listed.getD x false = true → x ≠ i → ∀ q, ops[x]? = some q → q.dst ≠ some t := by
      intro t ht x hx hxm hxi q hq hqd
      obtain ⟨hxN, _⟩ := hi'.pend x hx hxm
      obtain ⟨o1, d1, g1, g2, g3, g4, g5⟩ := nOK_spec (hi'.ok x hxN)
      rw [hq] at g1; cases g1
      rw [hqd] at g3; cases g3
      have hb := (g5 i o (Ne.symm hxi) ho).2 ht
      unfold bef at hb
      exact hxm (befs_closed (M := fun x => listed.getD x false = true) hi'.cl 3 i hpM x (by simpa using hb))
    by_cases hiL : i ∈ L'
    · -- one that was told already
      obtain ⟨hiN, o1, d, g1, g2, g3⟩ := hi'.pend i hiL hiM
      rw [ho] at g1; cases g1
      obtain ⟨o2, d2, k1, k2, k3, k4, k5⟩ := nOK_spec (hi'.ok i hiN)
      rw [ho] at k1; cases k1
      rw [g2] at k3; cases k3
      have hm : ∀ t ∈ o.looksAt ops, m.slot t = T'.slot t := by
        intro t ht
        refine ha'.2 t fun x hx hxm q hq => ?_
        by_cases e : x = i
        · subst e; rw [ho] at hq; cases hq; rw [g2]; intro e; cases e; exact k4 ht
        · exact notPend t ht x hx hxm e q hq
      have hval : nval G ops m o = some (T'.slot d) := by rw [nval_congr (st := T') ha'.1 hm]; exact g3
      refine nop_ok GE hcall ho (about_of hd ho) h k2 hval (fun u w' S' ρ' hs hvu => ?_)
      refine ih _ hsz' hcount' (L := L') (N := N') (T := T') (m := m.put o.dst (T'.slot d)) ⟨hi'.lt, hi'.ord, fun x hx => ?_, fun x hx y hy => ?_, fun x hx hxm => ?_, hi'.ok⟩ ⟨by rw [hp_put]; exact ha'.1, fun t ht => ?_⟩ hv' hr' (hs.putA hn (opDst_lt hd ho) hvu) ((put_size _ _ _).trans hn) ((put_defers _ _ _).trans hdf)
      · rcases (hset x).1 hx with rfl | hx
        · exact hiL
        · exact hi'.sub x hx
      · rcases (hset x).1 hx with rfl | hx
        · exact (hset y).2 (.inr (hpM y hy))
        · exact (hset y).2 (.inr (hi'.cl x hx y hy))
      · have : ¬ listed.getD x false = true := fun e => hxm ((hset x).2 (.inr e))
        exact hi'.pend x hx this
      · rw [slot_put, g2]
        by_cases e : d = t
        · subst e; simp
        · rw [if_neg (by simpa using e)]
          refine ha'.2 t fun x hx hxm q hq => ?_
          by_cases e2 : x = i
          · subst e2; rw [ho] at hq; cases hq; rw [g2]; simpa using e
          · exact ht x hx (fun hh => by rcases (hset x).1 hh with rfl | hh; exact e2 rfl; exact hxm hh) q hq
    · -- the one that may act
      have hpL : ∀ y ∈ predsL ops i, y ∈ L' := fun y hy => hi'.sub y (hpM y hy)
      have act : ∀ (re : List Nat) (v : AV) (s T2 : ASt) (l'' : List PS), stepE G call ops T' o = some (.val v s) → Same (s.put o.dst v) T2 → re.all (again G ops T2) = true → (∀ x ∈ N', bef ops x i = true ∨ re.contains x = true) →
          vplan ops (i :: L') N' l'' = true → Goes G call ops l'' T2 Tf → wpOpIn (FW G.wd ro) 0 G.P ops (CodeDone E df n Tf) i (wpAnyIn (FW G.wd ro) 0 G.P .any ops (CodeDone E df n Tf) fuel (listed.setIfInBounds i true)) a w := by
        intro re v s T2 l'' hx hsame hre v5 v6 hgo
        have hm : ∀ t ∈ o.looksAt ops, m.slot t = T'.slot t := by
          intro t ht
          refine ha'.2 t fun x hx hxm q hq => notPend t ht x hx hxm (fun e => hiL (e ▸ hx)) q hq
        obtain ⟨s', hs', hhp, ks, hk1, hk2⟩ := stepE_slots (st := T') (st' := m) ha'.1 hm hx
        refine op_ok GE hcall ho (about_of hd ho) h hs' (fun v2 s2 e u w' S' ρ' hs hvu => ?_) (fun v s e => by cases e)
        cases e
        have hput := hs.putA hn (opDst_lt hd ho) hvu
        refine ih _ hsz' hcount' (l := l'') (L := i :: L') (N := N') (T := T2) (m := { s'.put o.dst v with hp := T2.hp }) ⟨fun x hx => ?_, ⟨hpL, hi'.ord⟩, fun x hx => ?_, fun x hx y hy => ?_, fun x hx hxm => ?_, hi'.ok⟩ ⟨rfl, fun t ht => ?_⟩ v6 hgo (hput.sameA (fun _ => rfl) fun nn => by rw [← hsame.2 nn, hp_put, hp_put, hhp]) ((put_size _ _ _).trans hn) ((put_defers _ _ _).trans hdf)
        · rcases List.mem_cons.1 hx with rfl | hx
          · exact hlt
          · exact hi'.lt x hx
        · rcases (hset x).1 hx with rfl | hx
          · simp
          · exact List.mem_cons_of_mem _ (hi'.sub x hx)
        · rcases (hset x).1 hx with rfl | hx
          · exact (hset y).2 (.inr (hpM y hy))
          · exact (hset y).2 (.inr (hi'.cl x hx y hy))
        · have hxi : x ≠ i := fun e => hxm ((hset x).2 (.inl e))
          have hxL : x ∈ L' := (List.mem_cons.1 hx).resolve_left hxi
          have hx0 : ¬ listed.getD x false = true := fun e => hxm ((hset x).2 (.inr e))
          obtain ⟨hxN, o1, d1, g1, g2, g3⟩ := hi'.pend x hxL hx0
          refine ⟨hxN, o1, d1, g1, g2, ?_⟩
          have hre' : x ∈ re := by
            rcases v5 x hxN with e | e
            · exfalso
              unfold bef at e
              exact hx0 (befs_closed (M := fun x => listed.getD x false = true) hi'.cl 3 i hpM x (by simpa using e))
            · simpa using e
          have hag := List.all_eq_true.1 hre x hre'
          unfold again at hag
          rw [g1] at hag
          simp only [g2] at hag
          split at hag
          · rename_i v' d' hv' hd'
            cases hd'
            rw [hv', beq_eq _ _ hag]
          · cases hag
        · show (s'.put o.dst v).slot t = T2.slot t
          rw [← hsame.1 t, slot_put, slot_put]
          split
          · rfl
          · rename_i hdt
            rw [hk1 t, hk2 t]
            congr 1
            refine ha'.2 t fun x hx hxm q hq => ?_
            by_cases e2 : x = i
            · exact absurd hx (e2 ▸ hiL)
            · exact ht x (List.mem_cons_of_mem _ hx) (fun hh => by rcases (hset x).1 hh with rfl | hh; exact e2 rfl; exact hxm hh) q hq
      have hrdy : ((predsL ops i).all fun x => L'.contains x) = true := List.all_eq_true.2 fun y hy => by simpa using hpL y hy
      rcases hhead with rfl | ⟨j, re, r, rfl⟩ | ⟨j, k, re, r, rfl⟩
      · exfalso
        simp only [vplan, List.all_eq_true] at hv'
        exact hiL (by simpa using hv' i (List.mem_range.2 hlt))
      · simp only [vplan, Bool.and_eq_true, decide_eq_true_eq, List.all_eq_true, Bool.or_eq_true] at hv'
        obtain ⟨⟨⟨⟨⟨v1, v2⟩, v3⟩, v4⟩, v5⟩, v6⟩ := hv'
        have hij : i = j := by
          rcases v4 i (List.mem_range.2 hlt) with (e | e) | e
          · exact absurd (by simpa using e) hiL
          · simpa using e
          · exfalso
            rw [hrdy] at e; simp at e
        subst hij
        rcases hr' with ⟨o1, v, s, T2, ho1, hx, hsame, hre, hgo⟩ | ⟨o1, v, s, ho1, hx, hcal, rfl⟩
        · rw [ho] at ho1; cases ho1
          exact act re v s T2 r hx hsame hre v5 v6 hgo
        · rw [ho] at ho1; cases ho1
          have hm : ∀ t ∈ o.looksAt ops, m.slot t = T'.slot t := by
            intro t ht
            refine ha'.2 t fun x hx hxm q hq => notPend t ht x hx hxm (fun e => hiL (e ▸ hx)) q hq
          obtain ⟨s', hs', hhp⟩ := stepE_slotsP (st := T') (st' := m) ha'.1 hm hcal hx
          refine op_ok GE hcall ho (about_of hd ho) h hs' (fun v s e => by cases e) (fun v2 s2 e u w' S' ρ' hs hvu => ?_)
          cases e
          exact ⟨hdf, hn, S', ρ', hs.bareA fun nn => by rw [hhp], u, rfl, hvu⟩
      · have hv0 := hv'
        simp only [vplan, Bool.and_eq_true, decide_eq_true_eq] at hv'
        obtain ⟨⟨⟨⟨⟨⟨⟨⟨⟨⟨⟨⟨⟨v1, v2⟩, v3⟩, v4⟩, v5⟩, v6⟩, v7⟩, v8⟩, v9⟩, v10⟩, v11⟩, v12⟩, v13⟩, v14⟩ := hv'
        have hij : i = j ∨ i = k := by
          have := List.all_eq_true.1 v8 i (List.mem_range.2 hlt)
          rw [hrdy] at this
          simp only [Bool.not_true, Bool.or_false, Bool.or_eq_true, beq_iff_eq] at this
          rcases this with (e | e) | e
          · exact absurd (by simpa using e) hiL
          · exact .inl e
          · exact .inr e
        obtain ⟨p, q, v, t, u, s, v', s', hp, hq, hall, k1, k2, k3, k4, k5, k6, hgo⟩ := hr'
        obtain ⟨d1, e1, d2, e2, a1, a2, a3, b1, b2, b3, hne⟩ := allocB_spec hall
        have c11 : ∀ x ∈ N', bef ops x j = true ∨ re.contains x = true := fun x hx => by simpa using List.all_eq_true.1 v11 x hx
        have c12 : ∀ x ∈ N', bef ops x k = true ∨ re.contains x = true := fun x hx => by simpa using List.all_eq_true.1 v12 x hx
        have hjk : j ≠ k := by simpa using v3
        rcases hij with rfl | rfl
        · rw [ho] at hp; cases hp
          refine act re u s _ (.e k re :: r) (by rw [stepE_alloc a2 a3]; exact k3) (Same.refl _) k4 c11 ?_ (.inl ⟨q, v', s', _, hq, by rw [stepE_alloc b2 b3]; exact k5, Same.refl _, k6, hgo⟩)
          simp only [vplan, Bool.and_eq_true, decide_eq_true_eq]
          refine ⟨⟨⟨⟨⟨v2, ?_⟩, ?_⟩, v9⟩, v12⟩, v13⟩
          · simp only [List.contains_cons, Bool.not_eq_true', Bool.or_eq_false_iff] at v5 ⊢
            exact ⟨by simpa using Ne.symm hjk, by simpa using v5⟩
          · exact List.all_eq_true.2 fun x hx => by have := List.all_eq_true.1 v7 x hx; simp only [List.contains_cons, Bool.or_eq_true]; exact .inr this
        · rw [ho] at hq; cases hq
          obtain ⟨u', t', h1, h2⟩ := swap_alloc hall k1 k3 k5
          refine act re v t _ (.e j re :: r) (by rw [stepE_alloc b2 b3]; exact k1) (Same.refl _) k2 c12 ?_ (.inl ⟨p, u', t', _, hp, by rw [stepE_alloc a2 a3]; exact h1, h2, k6, hgo⟩)
          simp only [vplan, Bool.and_eq_true, decide_eq_true_eq]
          refine ⟨⟨⟨⟨⟨v1, ?_⟩, ?_⟩, v10⟩, v11⟩, v14⟩
          · simp only [List.contains_cons, Bool.not_eq_true', Bool.or_eq_false_iff] at v4 ⊢
            exact ⟨by simpa using hjk, by simpa using v4⟩
          · exact List.all_eq_true.2 fun x hx => by have := List.all_eq_true.1 v6 x hx; simp only [List.contains_cons, Bool.or_eq_true]; exact .inr this

/-- A REGION THAT DRAWS ITS ORDER. -/
theorem draw_ok (GE : GOK G) {call : CallFn} (hcall : CallOK G call) (hmix : G.P.follows .mixedOrders = true) {id : Nat} {ops : Array Oper} {n : Nat} (hd : ops.toList.all (opDst n) = true) {ro : Option Nat}
    {l : List PS} (hv : vplan ops [] [] l = true) {Tf : AX × ASt} (hr : runPlan G call ops l st = some Tf) (h : SR E st S ρ a.tmps w) (hn : a.tmps.size = n) : (Code.region id ops true).wpIn (FW G.wd ro) 0 G.P (CodeDone E a.defers n Tf) a w := by
  refine wpIn_region_any hmix (plan_ok GE hcall hd ops.size (Array.replicate ops.size false) (by simp) (Nat.le_trans List.countP_le_length (by simp)) (L := []) (N := []) (T := st) (m := st) ⟨fun x hx => by simp at hx, trivial, fun x hx => ?_, fun x hx => ?_, fun x hx => by simp at hx, fun x hx => by simp at hx⟩ ⟨rfl, fun t _ => rfl⟩ hv (goes_of_run hr) h.drew hn rfl)
  · exfalso
    rw [Array.getD_eq_getD_getElem?, Array.getElem?_replicate] at hx
    split at hx <;> simp at hx
  · exfalso
    rw [Array.getD_eq_getD_getElem?, Array.getElem?_replicate] at hx
    split at hx <;> simp at hx

end Go.Proofs.YteibklnligmanaaDoor.Abs


/- Code: what it comes to, the machine's comes to. -/
namespace Go.Proofs.YteibklnligmanaaDoor.Abs
open Go Go.RowKit
set_option linter.unusedSimpArgs false
set_option linter.unusedVariables false

variable {G : Cfg} {S : Stab} {ρ : Rho} {w : World} {E : Env} {st : ASt} {a : Act}

/-- Each region that draws has a plan that may be. -/
def plansB (G : Cfg) (f : FuncId) : Code → Bool
  | .region id ops draw => !draw || (match G.plan f id with | some l => vplan ops [] [] l | none => true)
  | .seq a b => plansB G f a && plansB G f b
  | .cond _ a b => plansB G f a && plansB G f b
  | .block _ b => plansB G f b
  | .scope b => plansB G f b
  | .loop b => plansB G f b
  | .rangeFunc _ _ a b => plansB G f a && plansB G f b
  | _ => true

def noRange : Code → Bool
  | .seq a b => noRange a && noRange b
  | .cond _ a b => noRange a && noRange b
  | .block _ b => noRange b
  | .scope b => noRange b
  | .loop b => noRange b
  | .rangeFunc _ _ _ _ => false
  | _ => true

/-- What is asked of the tables, whole. -/
structure GSound (G : Cfg) : Prop where
  ok : GOK G
  mixed : G.P.follows .mixedOrders = true
  plans : ∀ g fn c, G.E g = true → G.P.funcs[g]? = some fn → fn.body = some c → plansB G g c = true
  ntm : ∀ g fn, G.E g = true → G.P.funcs[g]? = some fn → G.ntm g ≤ fn.ntmps
  rounds : ∀ r, G.roundOK r = true → (dstsB r.nt r.assign = true ∧ plansB G r.g r.assign = true ∧ noRange r.assign = true) ∧ (r.ps.toList.all fun t => decide (t < r.nt)) = true ∧ dstsB r.nt r.body = true ∧ plansB G r.g r.body = true ∧ noRange r.body = true

/-- The marks of loops over functions. -/
def Marks (m : Nat) (ds : List Deferred) (w : World) : Prop := ds.Nodup ∧ ∀ d ∈ ds, ∃ b, d = { target := .collected b, args := #[] } ∧ m ≤ b ∧ w.heap[b]? = some (.deferred (some []))
/-- Marks, laid before what was deferred already. -/
def MarksB (m : Nat) (base ds : List Deferred) (w : World) : Prop := ∃ ms, ds = ms ++ base ∧ Marks m ms w
def CodeM (E : Env) (base : List Deferred) (n : Nat) (r : AX × ASt) (e : Exit) (a : Act) (w : World) : Prop :=
  MarksB E.W0.heap.size base a.defers w ∧ a.tmps.size = n ∧ ∃ S ρ, SR E r.2 S ρ a.tmps w ∧ ExitR S ρ w r.1 e

theorem SR.trim {tm : Array Value} (h : SR E st S ρ tm w) (L : Option Trim) : SR E (st.trim L) S ρ tm w := by
  cases L with
  | none => exact h
  | some l =>
    refine ⟨fun t => ?_, h.heap, h.mine, h.old, h.fr⟩
    show VR S ρ w ((aget (l.slots.map fun t => (t, st.slot t)) t).getD .undef) _
    have : ∀ l : List Nat, aget (l.map fun t => (t, st.slot t)) t = none ∨ aget (l.map fun t => (t, st.slot t)) t = some (st.slot t) := by
      intro l
      induction l with
      | nil => exact .inl rfl
      | cons x l ih =>
        simp only [List.map_cons, aget]
        split
        · rename_i e; subst e; exact .inr rfl
        · exact ih
    rcases this l.slots with e | e
    · rw [e]; exact .undef _
    · rw [e]; exact h.slot t
theorem CodeM.grow {base : List Deferred} {n : Nat} {y r : AX × ASt} {e : Exit} {L : Option Trim} (hg : growX L y = some r) (h : CodeM E base n y e a w) : CodeM E base n r e a w := by
  obtain ⟨h1, h2, S, ρ, h3, h4⟩ := h
  obtain ⟨x, s⟩ := y
  unfold growX at hg
  split at hg
  · rename_i t hx
    simp only at hx
    subst hx
    obtain ⟨s', hs', rfl⟩ := Option.map_eq_some_iff.1 hg
    obtain ⟨S', ρ', k⟩ := canonAll_ok (fun p st S ρ st' h hf => by obtain ⟨ρ', k⟩ := canonCell_ok h hf; exact ⟨S, ρ', k⟩) t.grow h3 hs'
    exact ⟨h1, h2, S', ρ', k.trim (some t), by cases e <;> first | exact h4 | exact h4.elim⟩
  · cases hg
    exact ⟨h1, h2, S, ρ, h3.trim _, h4⟩

/-- The beginning, told anew. -/
def rebase (E : Env) {S : Stab} {w : World} (h : FrameR E S w) : Env := ⟨w, S, fun b => E.F b ∨ E.W0.heap.size ≤ b, E.R0, E.low, h.glob⟩
theorem SR.base {tm : Array Value} (h : SR E st S ρ tm w) : SR (rebase E h.fr) st S ρ tm w :=
  ⟨h.slot, h.heap, fun n b sz k hn => .inl (h.mine n b sz k hn), h.old, ⟨Ext.refl S w, fun _ _ h => .inl h, h.fr.bnd, Nat.le_refl _, fun _ _ _ => rfl, fun _ h => h, rfl, rfl, rfl⟩⟩
theorem SR.unbase {st' : ASt} {S' : Stab} {ρ' : Rho} {tm' : Array Value} {w' : World} (h0 : FrameR E S w) (h : SR (rebase E h0) st' S' ρ' tm' w') : SR E st' S' ρ' tm' w' := by
  have f := h.fr
  refine ⟨h.slot, h.heap, fun n b sz k hn => ?_, h.old, ⟨h0.ext.trans f.ext, fun b o hS => ?_, f.bnd, Nat.le_trans h0.size f.size, fun b hb hnF => ?_, fun b hb => f.dfr b (h0.dfr b hb), f.os.trans h0.os, f.tape.trans h0.tape, f.output.trans h0.output⟩⟩
  · rcases h.mine n b sz k hn with hx | hx
    · exact hx
    · exact .inr (Nat.le_trans h0.size hx)
  · rcases f.new b o hS with hx | hx | hx
    · exact h0.new b o hx
    · exact .inr hx
    · exact .inr (.inr (Nat.le_trans h0.size hx))
  · refine (f.keep b (Nat.lt_of_lt_of_le hb h0.size) fun hx => ?_).trans (h0.keep b hb hnF)
    rcases hx with hx | hx
    · exact hnF hx
    · omega

theorem codeM_of {base : List Deferred} {n : Nat} {r : AX × ASt} {a' : Act} {w' : World} {e : Exit} (h0 : FrameR E S w) (hm : MarksB E.W0.heap.size base a.defers w) (h : CodeDone (rebase E h0) a.defers n r e a' w') : CodeM E base n r e a' w' := by
  obtain ⟨k1, k2, S', ρ', k3, k4⟩ := h
  obtain ⟨ms, hms, hm⟩ := hm
  refine ⟨⟨ms, by rw [k1, hms], hm.1, fun d hd => ?_⟩, k2, S', ρ', k3.unbase h0, k4⟩
  obtain ⟨b, e1, e2, e3⟩ := hm.2 d hd
  exact ⟨b, e1, e2, k3.fr.dfr b e3⟩

def LoopSound (G : Cfg) (f : FuncId) (c : Code) (st : ASt) (r : AX × ASt) : Prop :=
  ∀ (base : List Deferred) (n : Nat) (ro : Option Nat) (E : Env) (S : Stab) (ρ : Rho) (a : Act) (w : World), ((ro = none ∧ G.ntm f ≤ n) ∨ noRange c = true) → dstsB n c = true → plansB G f c = true → MarksB E.W0.heap.size base a.defers w → SR E st S ρ a.tmps w → a.tmps.size = n → (Code.loop c).wpIn (FW G.wd ro) 0 G.P (CodeM E base n r) a w

theorem Ext.putLoop {S : Stab} {l : Nat} {R R' : Loop} (h : w.heap[l]? = some (.loop R)) : Ext S w S (w.putObj l (.loop R')) := by
  have hlt := lt_of_block h
  refine ⟨fun _ _ h => h, fun b o _ => ?_, fun b c t fr hb => ?_, fun b _ _ _ _ hb => ?_⟩
  · by_cases e : b = l
    · subst e; simp [World.cell?, at0, h, World.putObj_heap_same hlt]
    · exact cell_same (World.putObj_heap_other e) o
  · have : b ≠ l := fun e => by subst e; rw [h] at hb; cases hb
    exact ⟨c, fr, by rw [World.putObj_heap_other this]; exact hb, rfl⟩
  · have : b ≠ l := fun e => by subst e; rw [h] at hb; cases hb
    rw [World.putObj_heap_other this]; exact hb

/-- A loop's record, turned. -/
theorem SR.turn {tm : Array Value} (h : SR E st S ρ tm w) {L : Nat} {r r' : LRec} {sl : Slots} (ho : aget st.hp L = some (.loop r sl)) {b sz k : Nat} (hρ : ρ L = some ⟨some (b, sz), k⟩) {R R' : Loop} (hb : w.heap[b]? = some (.loop R))
    (h1 : R'.state = r'.state) (h2 : R'.pending = r'.pending) (h3 : R'.params = R.params) (h4 : R'.assign = R.assign) (h5 : R'.body = R.body) (h6 : R'.tmps = R.tmps) (g1 : r'.ps = r.ps) (g2 : r'.assign = r.assign) (g3 : r'.body = r.body) (g4 : r'.nt = r.nt) (h7 : R'.fn = R.fn := by rfl) (g5 : r'.pn = r.pn := by rfl) :
    SR E { st with hp := hput L (.loop r' sl) st.hp } S ρ tm (w.putObj b (.loop R')) := by
  obtain ⟨b', R0, k1, k2, k3, k4, k5, k7, k8, k9, k10, k11⟩ := h.heap.obj L _ ho
  rw [hρ] at k1; cases k1
  rw [hb] at k2; cases k2
  have hx := Ext.putLoop (S := S) (R' := R') hb
  exact h.change ho hρ hx (fun b' hne => World.putObj_heap_other hne) World.putObj_size ⟨rfl, rfl, rfl⟩
    ⟨b, R', hρ, World.putObj_heap_same (lt_of_block hb), k3, h1, h2, by rw [h3, g1, k7], by rw [h4, g2, k8], by rw [h5, g3, k9], by rw [h6, g4, h7, g5]; exact k10, fun t => by rw [h6]; exact (k11 t).ext hx fun _ _ h => h⟩ (fun _ => rfl)

theorem codeX_ok (GE : GSound G) {call : CallFn} (hcall : CallOK G call) {loop : LoopFn} (hloop : ∀ f c st r, loop f c st = some r → LoopSound G f c st r)
    {base : List Deferred} {n : Nat} {ro : Option Nat} {f : FuncId} (c : Code) : ∀ {E : Env} {st : ASt} {S : Stab} {ρ : Rho} {a : Act} {w : World} {r : AX × ASt}, ((ro = none ∧ G.ntm f ≤ n) ∨ noRange c = true) → dstsB n c = true → plansB G f c = true → MarksB E.W0.heap.size base a.defers w → SR E st S ρ a.tmps w → a.tmps.size = n → codeX G call loop f c st = some r →
      c.wpIn (FW G.wd ro) 0 G.P (CodeM E base n r) a w := by
  induction c with
  | skip => intro E st S ρ a w r _ _ _ hm h hn hr; cases hr; exact wpIn_skip ⟨hm, hn, S, ρ, h, trivial⟩
  | label l => intro E st S ρ a w r _ _ _ hm h hn hr; cases hr; exact wpIn_label ⟨hm, hn, S, ρ, h, trivial⟩
  | exit id => intro E st S ρ a w r _ _ _ hm h hn hr; cases hr; exact wpIn_exit ⟨hm, hn, S, ρ, h, rfl⟩
  | ret => intro E st S ρ a w r _ _ _ hm h hn hr; cases hr; exact wpIn_ret ⟨hm, hn, S, ρ, h, trivial⟩
  | scope b _ => intro E st S ρ a w r _ _ _ hm h hn hr; cases hr
  | goto l => intro E st S ρ a w r _ _ _ hm h hn hr; cases hr
  | refuse why => intro E st S ρ a w r _ _ _ hm h hn hr; cases hr
  | region id ops draw =>
    intro E st S ρ a w r _ hd hpl hm h hn hr
    simp only [codeX] at hr
    rw [Option.bind_eq_some_iff] at hr
    obtain ⟨y, hr1, hr2⟩ := hr
    refine wpIn_mono (P := G.P) ?_ fun e a' w' hh => CodeM.grow hr2 hh
    cases draw with
    | true =>
      simp only [if_true] at hr1
      rw [Option.bind_eq_some_iff] at hr1
      obtain ⟨l, hl, hs⟩ := hr1
      simp only [plansB, hl, Bool.not_true, Bool.false_or] at hpl
      exact wpIn_mono (draw_ok GE.ok hcall GE.mixed hd hpl hs h.base hn) fun e a' w' hh => codeM_of h.fr hm hh
    | false =>
      simp only [Bool.false_eq_true, if_false] at hr1
      exact wpIn_mono (wpIn_region (aops_ok GE.ok hcall hd _ h.base hn hr1)) fun e a' w' hh => codeM_of h.fr hm hh
  | seq x y ihx ihy =>
    intro E st S ρ a w r hro hd hpl hm h hn hr
    simp only [dstsB, Bool.and_eq_true] at hd
    simp only [plansB, Bool.and_eq_true] at hpl
    simp only [noRange, Bool.and_eq_true] at hro
    simp only [codeX] at hr
    rw [Option.bind_eq_some_iff] at hr
    obtain ⟨⟨q, s⟩, h1, h2⟩ := hr
    refine wpIn_seq (wpIn_mono (ihx (hro.imp id (·.1)) hd.1 hpl.1 hm h hn h1) fun e a' w' ⟨k1, k2, S', ρ', k3, k4⟩ => ?_)
    cases q with
    | normal =>
      cases e with
      | normal => exact ihy (hro.imp id (·.2)) hd.2 hpl.2 k1 k3 k2 h2
      | _ => exact k4.elim
    | exit i => cases h2; cases e with
      | exit j => exact ⟨k1, k2, S', ρ', k3, k4⟩
      | _ => exact k4.elim
    | ret => cases h2; cases e with
      | ret => exact ⟨k1, k2, S', ρ', k3, k4⟩
      | _ => exact k4.elim
    | pan v => cases h2; cases e with
      | panic ch => exact ⟨k1, k2, S', ρ', k3, k4⟩
      | _ => exact k4.elim
  | cond c x y ihx ihy =>
    intro E st S ρ a w r hro hd hpl hm h hn hr
    simp only [dstsB, Bool.and_eq_true] at hd
    simp only [plansB, Bool.and_eq_true] at hpl
    simp only [noRange, Bool.and_eq_true] at hro
    cases hc : st.ev c with
    | bool t =>
      have hv := h.ev c
      rw [hc] at hv
      simp only [codeX, hc] at hr
      cases t with
      | true => exact wpIn_cond_true (vr_bool hv) (ihx (hro.imp id (·.1)) hd.1 hpl.1 hm h hn (by simpa using hr))
      | false => exact wpIn_cond_false (vr_bool hv) (ihy (hro.imp id (·.2)) hd.2 hpl.2 hm h hn (by simpa using hr))
    | _ => simp [codeX, hc] at hr
  | block id b ih =>
    intro E st S ρ a w r hro hd hpl hm h hn hr
    simp only [codeX] at hr
    rw [Option.bind_eq_some_iff] at hr
    obtain ⟨⟨q, s⟩, h1, h2⟩ := hr
    refine wpIn_block (wpIn_mono (ih hro hd hpl hm h hn h1) fun e a' w' ⟨k1, k2, S', ρ', k3, k4⟩ => ?_)
    cases q with
    | normal => cases h2; cases e with
      | normal => exact ⟨k1, k2, S', ρ', k3, k4⟩
      | _ => exact k4.elim
    | exit i => cases h2; cases e with
      | exit j =>
        have e1 : i = j := k4
        subst e1
        simp only [Exit.inBlock]
        by_cases e : i = id
        · rw [if_pos e]; exact ⟨k1, k2, S', ρ', k3, by rw [if_pos e]; trivial⟩
        · rw [if_neg e]; exact ⟨k1, k2, S', ρ', k3, by rw [if_neg e]; exact rfl⟩
      | _ => exact k4.elim
    | ret => cases h2; cases e with
      | ret => exact ⟨k1, k2, S', ρ', k3, k4⟩
      | _ => exact k4.elim
    | pan v => cases h2; cases e with
      | panic ch => exact ⟨k1, k2, S', ρ', k3, k4⟩
      | _ => exact k4.elim
  | loop b _ =>
    intro E st S ρ a w r hro hd hpl hm h hn hr
    simp only [codeX] at hr
    rw [Option.bind_eq_some_iff] at hr
    obtain ⟨s, h1, h2⟩ := hr
    obtain ⟨S', ρ', k⟩ := canon_ok h h1
    exact hloop f b s r h2 base n ro E S' ρ' a w hro hd hpl hm k hn
  | rangeFunc g ps asg body _ _ =>
    intro E st S ρ a w r hro hd hpl hm h hn hr
    obtain ⟨rfl, hnt⟩ := hro.resolve_right (by simp [noRange])
    simp only [codeX] at hr
    split at hr
    · cases hr
    rename_i hck
    simp only [Bool.or_eq_true, not_or, Bool.not_eq_true, Bool.not_eq_false'] at hck
    obtain ⟨⟨hck1, hck2⟩, hck3⟩ := hck
    generalize hL : 20000 + firstRegion body = L at *
    have hLn : aget st.hp L = none := by simpa using hck1
    rw [Option.bind_eq_some_iff] at hr
    obtain ⟨⟨x, mvd⟩, hB, hr⟩ := hr
    simp only at hr
    obtain ⟨r0, hr0⟩ : ∃ r0 : LRec, r0 = ⟨f, G.ntm f, ps, asg, body, .ready, none, !G.wd⟩ := ⟨_, rfl⟩
    rw [← hr0] at hB hck2
    refine wpIn_rangeFunc fun fn hfnF => ?_
    -- the blocks that are laid
    obtain ⟨R, hR⟩ : ∃ R : Loop, R = { state := .ready, pending := none, fn, tmps := a.tmps, params := ps, assign := asg, body, defers := w.heap.size } := ⟨_, rfl⟩
    have hA := h.allocs (.deferred (some []))
    have hρL : ρ L = none := h.heap.dom L hLn
    have hup : ∀ id q, ρ id = some q → upd ρ L ⟨some ((w.alloc (.deferred (some []))).heap.size, 0), 0⟩ id = some q := by
      intro id q hid
      have : id ≠ L := fun e => by subst e; rw [hρL] at hid; cases hid
      simp [upd, this, hid]
    have hS1 := hA.newG (n := L) hLn (by omega) (.loop r0 st.sl) (.loop R) 0 0
      ⟨_, R, by simp [upd], heap_new _ _, fun o ho => absurd (hA.fr.bnd _ _ ho) (Nat.lt_irrefl _), by rw [hR, hr0], by rw [hR, hr0], by rw [hR, hr0], by rw [hR, hr0], by rw [hR, hr0], by rw [hR, hr0]; exact ⟨by show G.ntm f ≤ a.tmps.size; rw [hn]; exact hnt, fun hpn => hfnF.resolve_left (by intro hw; rw [hw] at hpn; cases hpn)⟩, fun t => by
        have := (hA.slot t).ext (Ext.alloc hA.fr.bnd (.loop R)) hup
        rw [hR]; rw [hR] at this; exact this⟩
    generalize hw1 : (w.alloc (.deferred (some []))).alloc (.loop R) = w1 at *
    have hsz1 : (w.alloc (.deferred (some []))).heap.size = w.heap.size + 1 := by simp
    have hD1 : w1.heap[w.heap.size]? = some (.deferred (some [])) := by
      rw [← hw1, Below.heap_alloc _ _ _ (by simp)]; exact heap_new w _
    have hkeep1 : ∀ b : Nat, b < w.heap.size → w1.heap[b]? = w.heap[b]? := by
      intro b hb
      rw [← hw1, Below.heap_alloc _ _ _ (by simp; omega), Below.heap_alloc _ _ _ hb]
    obtain ⟨ms, hms, hm⟩ := hm
    have hnd : ([{ target := .collected w.heap.size, args := #[] }] ++ ms : List Deferred).Nodup := by
      rw [List.singleton_append, List.nodup_cons]
      refine ⟨fun hmem => ?_, hm.1⟩
      obtain ⟨b, e1, e2, e3⟩ := hm.2 _ hmem
      cases e1
      exact absurd (lt_of_block e3) (Nat.lt_irrefl _)
    have hfun := hS1.ev g
    have hyld : VR S (upd ρ L ⟨some ((w.alloc (.deferred (some []))).heap.size, 0), 0⟩) w1 (.yld L) (.func (.yield (w.heap.size + 1)) #[] #[]) := .yld L _ 0 0 (by simp [upd, hsz1])
    rcases callB_ok (E := rebase E hS1.fr) (a := a) hS1.base hcall hfun (us := #[.func (.yield (w.heap.size + 1)) #[] #[]]) (by rfl) (fun j c v hc hv => by
      cases j with
      | zero => simp at hc hv; subst hc hv; exact hyld
      | succ j => simp at hc) hB with ⟨g', vx, vy, hE, hf, hcalls⟩ | ⟨b, R', hf, _⟩
    case inr =>
      exfalso
      have hg : st.ev g = ({ st with hp := (L, AObj.loop r0 st.sl) :: st.hp } : ASt).ev g := by cases g <;> rfl
      rw [← hg] at hfun
      cases hev : st.ev g with
      | fn q x y =>
        rw [hev] at hfun hck3
        obtain ⟨vx, vy, e, _⟩ := vr_fn hfun
        rw [hf] at e
        cases q <;> simp [isFn] at hck3
        cases e
      | _ => rw [hev] at hck3; simp [isFn] at hck3
    refine ⟨w.heap.size + 1, [{ target := .collected w.heap.size, args := #[] }], w1, { target := .fn (.func g') vy, args := vx ++ #[.func (.yield (w.heap.size + 1)) #[] #[]] }, w1, g', vx ++ #[.func (.yield (w.heap.size + 1)) #[] #[]] ++ vy, w1, ?_, ?_, fun q hq => ?_, ?_, fun hdp => by simp [FW] at hdp, ?_⟩
    · rw [← hw1, hR]
      exact run_enterLoop_outer fn a.tmps ps asg body
    · simp only [resolve, rangeCall, hf, Deferred.ofValue]
      simp [Act.eval]
    · simp only [Target.leads, Option.some.injEq] at hq; subst hq; exact .inr (GE.ok.inP _ hE)
    · exact GE.ok.enter g' hE _ _
    · refine calls_fw (hcalls.mono fun e w3 hcd => ?_)
      cases x with
      | pan v s =>
        obtain ⟨u, S', ρ', rfl, hs, hv⟩ := hcd
        simp only [Option.some.injEq] at hr
        subst hr
        refine ⟨⟨[{ target := .collected w.heap.size, args := #[] }] ++ ms, by simp [hms], hnd, fun d hd => ?_⟩, hn, S', ρ', hs.unbase hS1.fr, u, rfl, hv⟩
        rcases List.mem_append.1 hd with hd | hd
        · simp only [List.mem_singleton] at hd
          exact ⟨w.heap.size, hd, h.fr.size, hs.fr.dfr _ hD1⟩
        · obtain ⟨b, e1, e2, e3⟩ := hm.2 d hd
          exact ⟨b, e1, e2, hs.fr.dfr b (by show w1.heap[b]? = _; rw [hkeep1 b (lt_of_block e3)]; exact e3)⟩
      | val v s =>
        obtain ⟨u, S', ρ', rfl, hs, hv, hper⟩ := hcd
        simp only at hr
        split at hr
        · cases hr
        rename_i hmv
        have hLm : L ∉ mvd := by simpa using hmv
        split at hr
        case h_2 => cases hr
        rename_i r1 sl1 hob
        split at hr
        · cases hr
        rename_i hbusy
        obtain ⟨x', hx', rfl⟩ := Option.map_eq_some_iff.1 hr
        have hρ' : ρ' L = some ⟨some (w.heap.size + 1, 0), 0⟩ := by
          have := hper L ⟨some (w.heap.size + 1, 0), 0⟩ hLm (by simp [upd, hsz1])
          exact this
        obtain ⟨b, R3, k1, k2, k3, k4, k5, _⟩ := hs.heap.obj L _ hob
        rw [hρ'] at k1
        simp only [Option.some.injEq, RI.mk.injEq, Prod.mk.injEq, and_true] at k1
        subst k1
        have hturn := hs.turn hob hρ' k2 (r' := { r1 with state := .exhausted }) (R' := { R3 with state := .exhausted }) rfl k5 rfl rfl rfl rfl rfl rfl rfl rfl
        have hdone : CodeM E base n (x', { s with hp := hput L (.loop { r1 with state := .exhausted } sl1) s.hp }) (match x' with | .normal => .normal | .exit i => .exit i | .ret => .ret | .pan _ => .normal) { a with defers := [{ target := .collected w.heap.size, args := #[] }] ++ a.defers } (w3.putObj (w.heap.size + 1) (.loop { R3 with state := .exhausted })) := by
          refine ⟨⟨[{ target := .collected w.heap.size, args := #[] }] ++ ms, by simp [hms], hnd, fun d hd => ?_⟩, hn, S', ρ', hturn.unbase hS1.fr, ?_⟩
          · rcases List.mem_append.1 hd with hd | hd
            · simp only [List.mem_singleton] at hd
              exact ⟨w.heap.size, hd, h.fr.size, hturn.fr.dfr _ hD1⟩
            · obtain ⟨b, e1, e2, e3⟩ := hm.2 d hd
              exact ⟨b, e1, e2, hturn.fr.dfr b (by show w1.heap[b]? = _; rw [hkeep1 b (lt_of_block e3)]; exact e3)⟩
          · cases x' with
            | pan v =>
              unfold jumpX at hx'
              split at hx' <;> cases hx'
            | normal => trivial
            | exit i => rfl
            | ret => trivial
        obtain ⟨jp, hjp⟩ : ∃ jp, jp = r1.pending := ⟨_, rfl⟩
        rw [← hjp] at hx'
        refine ⟨jp, _, by rw [hjp, ← k5]; exact run_endLoop k2 (by rw [k4]; exact hbusy), ?_⟩
        cases jp with
        | none => cases hx'; exact hdone
        | some c =>
          cases c with
          | ret => cases hx'; exact wpIn_ret hdone
          | exit id => cases hx'; exact wpIn_exit hdone
          | _ => simp [jumpX] at hx'

end Go.Proofs.YteibklnligmanaaDoor.Abs


/- Bodies, calls and loops: WHAT THE INTERPRETER TELLS IS SO. -/
namespace Go.Proofs.YteibklnligmanaaDoor.Abs
open Go Go.RowKit
set_option linter.unusedSimpArgs false
set_option linter.unusedVariables false

variable {G : Cfg} {S : Stab} {ρ : Rho} {w : World} {E : Env} {st : ASt} {a : Act}

theorem dstsB_mono {n m : Nat} (hnm : n ≤ m) (c : Code) : dstsB n c = true → dstsB m c = true := by
  induction c with
  | region id ops draw =>
    intro h
    simp only [dstsB, List.all_eq_true] at h ⊢
    intro o ho
    have := h o ho
    unfold opDst dstB at this ⊢
    cases hd : o.dst with
    | none => rw [hd] at this; exact this
    | some d => simp only [hd, decide_eq_true_eq, Bool.and_eq_true] at this ⊢; exact ⟨Nat.lt_of_lt_of_le this.1 hnm, this.2⟩
  | seq a b iha ihb => intro h; simp only [dstsB, Bool.and_eq_true] at h ⊢; exact ⟨iha h.1, ihb h.2⟩
  | cond c a b iha ihb => intro h; simp only [dstsB, Bool.and_eq_true] at h ⊢; exact ⟨iha h.1, ihb h.2⟩
  | block id b ih => exact ih
  | scope b ih => exact ih
  | loop b ih => exact ih
  | rangeFunc g ps a b iha ihb => intro h; simp only [dstsB, Bool.and_eq_true] at h ⊢; exact ⟨iha h.1, ihb h.2⟩
  | _ => intro _; rfl

/-! ### Results -/
def resSem (tmps : Array Value) : ResultVar → Sem Value
  | .tmp t => pure (tmps.getD t Go.undef)
  | .cell a t => do loadVar t (← asAddr (tmps.getD a Go.undef))

theorem resv_ok (h : SR E st S ρ a.tmps w) {r : ResultVar} {v : AV} (hr : resv G st r = some v) : ∃ u, (resSem a.tmps r).run G.P w = .ok u w ∧ VR S ρ w v u := by
  cases r with
  | tmp t => cases hr; exact ⟨_, rfl, h.slot t⟩
  | cell p t =>
    simp only [resv] at hr
    have hp := h.slot p
    split at hr
    · rename_i id i o he
      rw [he] at hp
      obtain ⟨b, sz, n, hρ, ev⟩ := vr_ptr hp
      rw [Option.bind_eq_some_iff] at hr
      obtain ⟨ob, hob, hr⟩ := hr
      rw [Option.bind_eq_some_iff] at hr
      obtain ⟨cs, hcs, hr⟩ := hr
      obtain ⟨f, hf⟩ := ptr_cells h.heap hob hcs hρ
      obtain ⟨d, h1, h2, h3⟩ := partT_some hr
      obtain ⟨u, hu, hv⟩ := load_ok (P := G.P) f h1 h2 hf h3
      refine ⟨u, ?_, hv⟩
      show Sem.run G.P (asAddr (a.tmps.getD p Go.undef) >>= fun x => loadVar t x) w = _
      rw [ev, runB (a := at0 b (i * sz + o)) (by rfl)]
      exact hu
    · rename_i x o he
      rw [he] at hp
      obtain ⟨b, base, ev, ho, f, hf⟩ := vr_ep hp
      obtain ⟨d, h1, h2, h3⟩ := partT_some hr
      obtain ⟨u, hu, hv⟩ := load_ok (P := G.P) (S := S) (ρ := ρ) f h1 h2 (fun j c hj => ⟨(hf j c hj).2.1, .pure (hf j c hj).2.2⟩) h3
      refine ⟨u, ?_, hv⟩
      show Sem.run G.P (asAddr (a.tmps.getD p Go.undef) >>= fun x => loadVar t x) w = _
      rw [ev, runB (a := at0 b (base + o)) (by rfl)]
      exact hu
    · cases hr

theorem resL_ok (h : SR E st S ρ a.tmps w) : ∀ (l : List ResultVar) {vs : List AV}, resL G st l = some vs → ∃ us : List Value, (l.mapM (resSem a.tmps)).run G.P w = .ok us w ∧ us.length = vs.length ∧ ∀ (j : Nat) c u, vs[j]? = some c → us[j]? = some u → VR S ρ w c u := by
  intro l
  induction l with
  | nil => intro vs hr; cases hr; exact ⟨[], rfl, rfl, fun j c u hc => by simp at hc⟩
  | cons r l ih =>
    intro vs hr
    simp only [resL] at hr
    rw [Option.bind_eq_some_iff] at hr
    obtain ⟨v, hv, hr⟩ := hr
    obtain ⟨vs', hvs, rfl⟩ := Option.map_eq_some_iff.1 hr
    obtain ⟨u, hu, hvu⟩ := resv_ok h hv
    obtain ⟨us, h1, h2, h3⟩ := ih hvs
    refine ⟨u :: us, ?_, by simp [h2], fun j c x hc hx => ?_⟩
    · rw [List.mapM_cons, runB hu, runB h1]; rfl
    · cases j with
      | zero => simp at hc hx; subst hc hx; exact hvu
      | succ j => exact h3 j c x (by simpa using hc) (by simpa using hx)

theorem results_ok (h : SR E st S ρ a.tmps w) {fn : Func} {vs : List AV} (hr : resL G st fn.results.toList = some vs) : ∃ u, (results fn a.tmps).run G.P w = .ok u w ∧ VR S ρ w (resOf vs) u := by
  obtain ⟨us, h1, h2, h3⟩ := resL_ok h _ hr
  have hm : (fn.results.mapM (resSem a.tmps)).run G.P w = .ok us.toArray w := by
    rw [Array.mapM_eq_mapM_toList]
    show Sem.run G.P ((fn.results.toList.mapM (resSem a.tmps)) >>= fun x => pure x.toArray) w = _
    rw [runB h1]; rfl
  have he : results fn a.tmps = (do let vs ← fn.results.mapM (resSem a.tmps); pure (if h : vs.size = 1 then vs[0] else .tuple vs)) := by
    unfold results
    congr 1
  rw [he, runB hm]
  refine ⟨_, rfl, ?_⟩
  unfold resOf
  split
  · rename_i v
    have hl : us.length = 1 := by rw [h2]; rfl
    obtain ⟨u, rfl⟩ := List.length_eq_one_iff.1 hl
    exact h3 0 v u rfl rfl
  · rename_i hne
    have hl : us.length ≠ 1 := by
      rw [h2]; intro e
      obtain ⟨v, rfl⟩ := List.length_eq_one_iff.1 e
      exact hne v rfl
    simp only [List.size_toArray, hl, dif_neg, not_false_eq_true]
    exact .tup _ _ (by simp [h2]) fun j c u hc hu => h3 j c u hc (by simpa using hu)

/-- A body: its beginning. -/
theorem begin_ok {args : List AV} {hp : Heap} {vs : Array Value} {k : Nat} (hl : Ent S ρ w) (H : HR S ρ w hp) (hb : ∀ b o, S b o → b < w.heap.size) (hlen : args.length = vs.size)
    (hargs : ∀ (j : Nat) c v, args[j]? = some c → vs[j]? = some v → VR S ρ w c v) : SR (envOf S ρ w hl) { sl := zipIx args 0, hp } S ρ (vs ++ Array.replicate k Go.undef) w := by
  refine ⟨fun t => ?_, H, fun n b sz k h => .inl ⟨n, sz, k, h⟩, fun n o _ _ r hr => hr, ⟨Ext.refl S w, fun _ _ h => .inl h, hb, Nat.le_refl _, fun _ _ _ => rfl, fun _ h => h, rfl, rfl, rfl⟩⟩
  show VR S ρ w ((aget (zipIx args 0) t).getD .undef) _
  rw [aget_zipIx]
  cases ht : args[t]? with
  | none => exact .undef _
  | some c =>
    have hlt : t < vs.size := by rw [← hlen]; exact (List.getElem?_eq_some_iff.1 ht).1
    have := hargs t c _ ht (Array.getElem?_eq_getElem hlt)
    simp only [Option.getD_some]
    rw [Array.getD_eq_getD_getElem?, Array.getElem?_append_left hlt, Array.getElem?_eq_getElem hlt]
    exact this

/-- Blocks of marks, shut. -/
structure Dead (m : Nat) (w w' : World) : Prop where
  size : w'.heap.size = w.heap.size
  blocks : ∀ b : Nat, w'.heap[b]? = w.heap[b]? ∨ (m ≤ b ∧ w.heap[b]? = some (.deferred (some [])) ∧ w'.heap[b]? = some (.deferred none))
  os : w'.os = w.os
  tape : w'.tape = w.tape
  output : w'.output = w.output

theorem Dead.ext {m : Nat} {w' : World} (hd : Dead m w w') (S : Stab) : Ext S w S w' := by
  refine ⟨fun _ _ h => h, fun b o _ => ?_, fun b c t fr hb => ?_, fun b _ _ _ _ hb => ?_⟩
  · rcases hd.blocks b with e | ⟨_, e1, e2⟩
    · exact cell_same e o
    · simp [World.cell?, at0, e1, e2]
  · rcases hd.blocks b with e | ⟨_, e1, e2⟩
    · exact ⟨c, fr, by rw [e]; exact hb, rfl⟩
    · rw [e1] at hb; cases hb
  · rcases hd.blocks b with e | ⟨_, e1, e2⟩
    · rw [e]; exact hb
    · rw [e1] at hb; cases hb

theorem SR.dead {tm : Array Value} {w' : World} (h : SR E st S ρ tm w) (hd : Dead E.W0.heap.size w w') : SR E st S ρ tm w' := by
  have hx : Ext S w S w' := hd.ext S
  have same : ∀ n o, aget st.hp n = some o → ∀ b sz k, ρ n = some ⟨some (b, sz), k⟩ → w'.heap[b]? = w.heap[b]? := by
    intro n o ho b sz k hρ
    have hob := h.heap.obj n o ho
    rcases hd.blocks b with e | ⟨_, e1, e2⟩
    · exact e
    · exfalso
      cases o with
      | box T v => obtain ⟨b', cells, t, fr, h1, h2, _⟩ := hob; rw [hρ] at h1; cases h1; rw [e1] at h2; cases h2
      | row sz es fx mv =>
        rcases hob with ⟨_, h1⟩ | ⟨b', cells, t, fr, _, h1, _, h2, _⟩
        · rw [hρ] at h1; cases h1
        · rw [hρ] at h1; cases h1; rw [e1] at h2; cases h2
      | loop r l => obtain ⟨b', L, h1, h2, _⟩ := hob; rw [hρ] at h1; cases h1; rw [e1] at h2; cases h2
      | map es clk => obtain ⟨b', X, h1, h2, _⟩ := hob; rw [hρ] at h1; cases h1; rw [e1] at h2; cases h2
      | iter v0 a0 b0 c0 => obtain ⟨b', X, h1, h2, _⟩ := hob; rw [hρ] at h1; cases h1; rw [e1] at h2; cases h2
      | dblk => exact hob
  refine ⟨fun t => (h.slot t).ext hx fun _ _ h => h, ⟨fun n o ho => (h.heap.obj n o ho).keep hx rfl (fun _ _ h => h) (fun b sz k hb => ⟨same n o ho b sz k hb, fun _ h => h⟩), h.heap.dom, h.heap.inj⟩, h.mine, h.old, ?_⟩
  have f := h.fr
  refine ⟨f.ext.trans hx, f.new, fun b o hb => by rw [hd.size]; exact f.bnd b o hb, by rw [hd.size]; exact f.size, fun b hb hF => ?_, fun b hb => ?_, hd.os.trans f.os, hd.tape.trans f.tape, hd.output.trans f.output⟩
  · rcases hd.blocks b with e | ⟨e1, _⟩
    · exact e.trans (f.keep b hb hF)
    · omega
  · rcases hd.blocks b with e | ⟨e1, _⟩
    · exact e.trans (f.dfr b hb)
    · exact absurd (lt_of_block hb) (Nat.not_lt.2 e1)

theorem leaves_ok {P : Program} {F : Fence} {n : Nat} {fn : Func} {tmps : Array Value} {R : Ending → World → Prop} {u : FrameMode} (hu : u ≠ .run) {m : Nat} {w0 : World} : ∀ (ds : List Deferred) (w : World), Marks m ds w → Dead m w0 w →
    (∀ w', Dead m w0 w' → LeavesIn F n P fn tmps R [] u w') → LeavesInM F n P fn tmps R ds u w := by
  intro ds
  induction ds with
  | nil => intro w _ hd h; exact h w hd
  | cons d ds ih =>
    intro w hm hd h
    obtain ⟨b, e1, e2, e3⟩ := hm.2 d (by simp)
    have hlt := lt_of_block e3
    have hnd := List.nodup_cons.1 hm.1
    refine ⟨hu, .inl ⟨b, w.putObj b (.deferred none), by rw [e1], run_takeDeferred e3, ih _ ⟨hnd.2, fun d' hd' => ?_⟩ ⟨by rw [World.putObj_size]; exact hd.size, fun b' => ?_, hd.os, hd.tape, hd.output⟩ h⟩⟩
    · obtain ⟨b', g1, g2, g3⟩ := hm.2 d' (List.mem_cons_of_mem _ hd')
      have hne : b' ≠ b := fun e => by subst e; rw [← e1] at g1; subst g1; exact hnd.1 hd'
      exact ⟨b', g1, g2, by rw [World.putObj_heap_other hne]; exact g3⟩
    · by_cases e : b' = b
      · subst e
        rw [World.putObj_heap_same hlt]
        rcases hd.blocks b' with h1 | ⟨h1, h2, h3⟩
        · exact .inr ⟨e2, h1 ▸ e3, rfl⟩
        · exact .inr ⟨h1, h2, rfl⟩
      · rw [World.putObj_heap_other e]; exact hd.blocks b'

theorem runBody_ok (GE : GSound G) {call : CallFn} (hcall : CallOK G call) {loop : LoopFn} (hloop : ∀ f c st r, loop f c st = some r → LoopSound G f c st r)
    {g : FuncId} {args : List AV} {hp : Heap} {r : ARes × Heap} (hE : G.E g = true) (hr : runBody G call loop g args hp = some r) : CallSound G.wd G.P g args hp r := by
  intro S ρ w vs hl H hb hlen hargs
  unfold runBody at hr
  rw [Option.bind_eq_some_iff] at hr; obtain ⟨fn, hfn, hr⟩ := hr
  rw [Option.bind_eq_some_iff] at hr; obtain ⟨c, hc, hr⟩ := hr
  rw [Option.bind_eq_some_iff] at hr; obtain ⟨⟨x, s⟩, hx, hr⟩ := hr
  have hbeg := begin_ok (k := fn.ntmps - vs.size) hl H hb hlen hargs
  have hge : fn.ntmps ≤ (vs ++ Array.replicate (fn.ntmps - vs.size) Go.undef).size := by simp; omega
  have hd := dstsB_mono hge c (GE.ok.dsts g fn c hE hfn hc)
  have hw := codeX_ok (ro := none) (a := { tmps := vs ++ Array.replicate (fn.ntmps - vs.size) Go.undef, defers := [] }) GE hcall hloop c (.inl ⟨rfl, Nat.le_trans (GE.ntm g fn hE hfn) hge⟩) hd (GE.plans g fn c hE hfn hc) (base := []) ⟨[], rfl, List.nodup_nil, fun d hd => by simp at hd⟩ hbeg rfl hx
  refine (callsIn_of_wp_marks hfn hc (.inr (GE.ok.inP g hE)) (wpIn_mono hw fun e a' w' ⟨k1, k2, S', ρ', k3, k4⟩ => ?_))
  have fin : ∀ {vs}, resL G s fn.results.toList = some vs → ∀ w2, Dead (envOf S ρ w hl).W0.heap.size w' w2 → ∃ v, (results fn a'.tmps).run G.P w2 = .ok v w2 ∧ ∃ S'' ρ'', Out (envOf S ρ w hl) (finishA G g (hp.map (·.1)) (resOf vs) s).2 S'' ρ'' w2 ∧ VR S'' ρ'' w2 (finishA G g (hp.map (·.1)) (resOf vs) s).1 v := by
    intro vs hvs w2 hdead
    have k3 := k3.dead hdead
    obtain ⟨u, hu, hvu⟩ := results_ok k3 hvs
    refine ⟨u, hu, ?_⟩
    unfold finishA
    split
    · obtain ⟨ρ'', o1, o2⟩ := out_ok (m := hp.map (·.1)) k3.heap k3.mine k3.old k3.fr hvu
      exact ⟨S', ρ'', o1, o2⟩
    · obtain ⟨S2, f1, f2, f3, f4⟩ := k3.fix (resOf vs).rows
      have hv2 := rv_fixed k3 f1 f2 f3 f4 hvu fun n hn => hn
      obtain ⟨ρ'', o1, o2⟩ := out_ok (m := hp.map (·.1)) f2.heap f2.mine f2.old f2.fr hv2
      exact ⟨S2, ρ'', o1, o2⟩
  obtain ⟨ms, hms, k1⟩ := k1
  rw [List.append_nil] at hms
  rw [← hms] at k1
  have dead0 : Dead (envOf S ρ w hl).W0.heap.size w' w' := ⟨rfl, fun _ => .inl rfl, rfl, rfl, rfl⟩
  have retd : ∀ {vs}, resL G s fn.results.toList = some vs → r = retA (finishA G g (hp.map (·.1)) (resOf vs) s) → LeavesInM (FW G.wd none) 0 G.P fn a'.tmps (fun e w' => ∃ S' ρ', Out (envOf S ρ w hl) r.2 S' ρ' w' ∧ AnswerR S' ρ' w' r.1 e) a'.defers .returning w' := by
    intro vs hvs e
    subst e
    refine leaves_ok (by simp) a'.defers w' k1 dead0 fun w2 hdead => ?_
    obtain ⟨v, h1, S'', ρ'', h2, h3⟩ := fin hvs w2 hdead
    exact ⟨v, h1, S'', ρ'', h2, h3⟩
  cases x with
  | normal =>
    cases e with
    | normal =>
      simp only at hr
      obtain ⟨vs, hvs, e⟩ := Option.map_eq_some_iff.1 hr
      exact retd hvs e.symm
    | _ => exact k4.elim
  | ret =>
    cases e with
    | ret =>
      simp only at hr
      obtain ⟨vs, hvs, e⟩ := Option.map_eq_some_iff.1 hr
      exact retd hvs e.symm
    | _ => exact k4.elim
  | pan v =>
    cases e with
    | panic ch =>
      simp only [Option.some.injEq] at hr
      subst hr
      refine leaves_ok (by simp) a'.defers w' k1 dead0 fun w2 hdead => ?_
      have k3 := k3.dead hdead
      obtain ⟨u, rfl, hvu⟩ := k4
      have hx2 : VR S' ρ' w2 v u := hvu.ext (hdead.ext S') fun _ _ h => h
      obtain ⟨S2, f1, f2, f3, f4⟩ := k3.fix v.rows
      have hv2 := rv_fixed k3 f1 f2 f3 f4 hx2 fun n hn => hn
      obtain ⟨ρ'', o1, o2⟩ := out_ok (m := hp.map (·.1)) f2.heap f2.mine f2.old f2.fr hv2
      exact ⟨S2, ρ'', o1, u, rfl, o2⟩
    | _ => exact k4.elim
  | exit i => simp at hr

end Go.Proofs.YteibklnligmanaaDoor.Abs

