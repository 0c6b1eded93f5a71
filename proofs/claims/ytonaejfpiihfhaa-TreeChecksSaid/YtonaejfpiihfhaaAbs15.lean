/- What an operation that makes, or writes, memory comes to, the machine's comes to: all of them but calls of functions. -/
import Derived.Test.YtonaejfpiihfhaaAbs14
namespace Go.Proofs.Ytonaejfpiihfhaa.Abs
open Go Go.RowKit
set_option linter.unusedSimpArgs false
set_option linter.unusedVariables false

variable {G : Cfg} {S : Stab} {ρ : Rho} {w : World} {E : Env} {st : ASt} {a : Act}

theorem elemOf_some {P : Program} {t e : TypeId} (h : elemOf? P t = some e) : P.underlying t = some (.slice e) := by
  unfold elemOf? at h
  split at h
  · rename_i hd; cases h; exact hd
  · cases h

theorem alloc_ok (h : SR E st S ρ a.tmps w) (o : Oper) {e : TypeId} (ho : o.op = .alloc e) {r : AR} (hb : aopB G o st = some r) : OpDone E G.P a o w r := by
  unfold aopB at hb
  rw [ho] at hb
  simp only at hb
  rw [Option.bind_eq_some_iff] at hb; obtain ⟨d, hd, hb⟩ := hb
  rw [Option.bind_eq_some_iff] at hb; obtain ⟨z, hz, hb⟩ := hb
  split at hb
  · rename_i hc
    obtain ⟨hk, hl⟩ := hc
    obtain ⟨hn, rfl⟩ := newObj_some hb
    refine ⟨_, .pointer (some ⟨w.heap.size, 0, none⟩), _, S, _, ?_, .inl rfl, h.newBox hn (Nat.le_add_right _ _) (vr_ofValue z) (okCells_known hk) e, ?_⟩
    · unfold execOp; rw [ho]
      have : (Instr.alloc e true (.tuple #[])).run G.P w = .ok (.pointer (some ⟨w.heap.size, 0, none⟩)) (w.alloc (.cells z.cells e)) := by
        unfold Instr.alloc
        rw [runB (zero_ok hz)]; rfl
      rw [runB this]; rfl
    · have := VR.ptr (S := S) (ρ := upd ρ (1000 + d) ⟨some (w.heap.size, (ofValue z).cells.length), 1⟩) (w := w.alloc (.cells z.cells e)) (1000 + d) 0 0 w.heap.size _ 1 (by simp [upd]; rfl)
      simpa [at0] using this
  · cases hb

theorem box_ok (h : SR E st S ρ a.tmps w) (o : Oper) {e : TypeId} {x : Operand} (ho : o.op = .box e x) {r : AR} (hb : aopB G o st = some r) : OpDone E G.P a o w r := by
  unfold aopB at hb
  rw [ho] at hb
  simp only at hb
  rw [Option.bind_eq_some_iff] at hb; obtain ⟨d, hd, hb⟩ := hb
  split at hb
  · rename_i hc
    obtain ⟨h0, hk, hl⟩ := hc
    obtain ⟨hn, rfl⟩ := newObj_some hb
    refine ⟨_, .pointer (some ⟨w.heap.size, 0, none⟩), _, S, _, ?_, .inl rfl, h.newBox hn (Nat.le_add_right _ _) (h.ev x) (okCells_known hk) e, ?_⟩
    · unfold execOp; rw [ho]; rfl
    · have := VR.ptr (S := S) (ρ := upd ρ (1000 + d) ⟨some (w.heap.size, (st.ev x).cells.length), 1⟩) (w := w.alloc (.cells (a.eval x).cells e)) (1000 + d) 0 0 w.heap.size _ 1 (by simp [upd]; rfl)
      simpa [at0] using this
  · cases hb

theorem own_new {S : Stab} {ρ : Rho} {w : World} {n sz k : Nat} {cells : Array Value} {t : TypeId} (h : k * sz ≤ cells.size) : VR S (upd ρ n ⟨some (w.heap.size, sz), k⟩) (w.alloc (.cells cells t)) (.own n) (.slice (some ⟨w.heap.size, 0, none⟩) k k) :=
  .own n w.heap.size sz k k (by simp [upd]) (Nat.le_refl _) ⟨cells, t, (0, 0), heap_new w _, h⟩
theorem own_newc {S : Stab} {ρ : Rho} {w : World} {n sz k cap : Nat} {cells : Array Value} {t : TypeId} (hc : k ≤ cap) (h : cap * sz ≤ cells.size) : VR S (upd ρ n ⟨some (w.heap.size, sz), k⟩) (w.alloc (.cells cells t)) (.own n) (.slice (some ⟨w.heap.size, 0, none⟩) k cap) :=
  .own n w.heap.size sz k cap (by simp [upd]) hc ⟨cells, t, (0, 0), heap_new w _, h⟩

theorem fix_slot (st : ASt) (ns : List Nat) (t : Nat) : (st.fix ns).slot t = st.slot t := rfl
theorem SameRows.none {hp hp' : Heap} (h : SameRows hp hp') {n : Nat} (hn : aget hp n = none) : aget hp' n = none := by
  have x := h n
  rw [hn] at x
  cases hb : aget hp' n with
  | none => rfl
  | some o => simp [hb] at x

theorem rowsL_mem' {l : List AV} {n : Nat} (h : n ∈ AV.rowsL l) : ∃ a ∈ l, n ∈ a.rows := by
  induction l with
  | nil => simp [AV.rowsL] at h
  | cons x l ih =>
    simp only [AV.rowsL, List.mem_append] at h
    rcases h with h | h
    · exact ⟨x, by simp, h⟩
    · obtain ⟨a, ha, hn⟩ := ih h; exact ⟨a, by simp [ha], hn⟩

theorem Cov.same {S : Stab} {ρ : Rho} {hp hp' : Heap} (s : SameRows hp hp') {n : Nat} (h : Cov S ρ hp n) : Cov S ρ hp' n := by
  intro sz es fx mv b s' k ho hb o hk
  obtain ⟨fx', ho'⟩ := s.symm.row ho
  exact h sz es fx' mv b s' k ho' hb o hk

mutual
theorem rv_same {hp hp' : Heap} (s : SameRows hp hp') : ∀ x : AV, x.rv hp' = x.rv hp
  | .own id => by
    simp only [AV.rv]
    have := s id
    cases h1 : aget hp id <;> cases h2 : aget hp' id <;> simp only [h1, h2] at this ⊢
    rename_i p q
    cases p <;> cases q <;> simp_all
  | .row id o l => by
    simp only [AV.rv]
    have := s id
    cases h1 : aget hp id <;> cases h2 : aget hp' id <;> simp only [h1, h2] at this ⊢
    rename_i p q
    cases p <;> cases q <;> simp_all
  | .agg cs => by simp only [AV.rv, rvL_same s cs]
  | .tup cs => by simp only [AV.rv, rvL_same s cs]
  | .iface t v => by simp only [AV.rv, rv_same s v]
  | .fn g x y => by simp only [AV.rv, rvL_same s x, rvL_same s y]
  | .undef => rfl | .yld _ => rfl | .bool _ => rfl | .int _ _ => rfl | .str _ => rfl | .nilp => rfl | .nils => rfl | .nilf => rfl | .nili => rfl | .list _ _ => rfl | .ep _ _ => rfl | .ptr _ _ _ => rfl
theorem rvL_same {hp hp' : Heap} (s : SameRows hp hp') : ∀ l : List AV, AV.rvL hp' l = AV.rvL hp l
  | [] => rfl
  | x :: l => by simp only [AV.rvL, rv_same s x, rvL_same s l]
end

/-- A value told as it stands, behind the rows' fixing. -/
theorem rv_fixed {tm : Array Value} (h : SR E st S ρ tm w) {ns : List Nat} {S' : Stab} (hS : ∀ b o, S b o → S' b o) (h' : SR E (st.fix ns) S' ρ tm w) (hc : ∀ n ∈ ns, Cov S' ρ st.hp n) (hsr : SameRows st.hp (st.fix ns).hp) {x : AV} {u : Value}
    (hx : VR S ρ w x u) (hn : ∀ n ∈ x.rows, n ∈ ns) : VR S' ρ w (x.rv st.hp) u := by
  have := (hx.ext (Ext.more hS w) (fun _ _ h => h)).rv h'.heap (fun n hn' => (hc n (hn n hn')).same hsr)
  rw [rv_same hsr] at this
  exact this

theorem buildSlice_run {P : Program} {S' : Stab} {t e : TypeId} {len : Nat} {parts : Array (Nat × Operand)} {ys : List AV} (he : elemOf? P t = some e) (hidx : parts.toList.map (·.1) = List.range len) (hz : ((P.info? e).bind (·.zero)).isSome = true) (hpure : AV.pureL ys = true)
    (hall : (ys.all fun y => okCells y && y.cells.length == P.cellsOf e) = true) (h0 : 0 < P.cellsOf e) (hsmall : len * P.cellsOf e ≤ 16777216) (hyl : ys.length = parts.size) (hyv : ∀ (j : Nat) y p, ys[j]? = some y → parts[j]? = some p → VR S' ρ w y (a.eval p.2)) :
    ∃ vs : Array Value, (Instr.buildSlice t len (parts.map fun (i, x) => (i, a.eval x))).run P w = .ok (.slice (some ⟨w.heap.size, 0, none⟩) len len) (w.alloc (.cells vs e)) ∧ vs.size = len * P.cellsOf e ∧ parts.size = len ∧ (∀ y ∈ ys, y.cells.length = P.cellsOf e) ∧
      ∀ (i j : Nat) y c, ys[i]? = some y → y.cells[j]? = some c → ∃ u, vs[i * P.cellsOf e + j]? = some u ∧ PR S' w c u ∧ scalarV u = true := by
  have hcell : ∀ y ∈ ys, y.cells.length = P.cellsOf e ∧ okCells y = true := by
    intro y hy
    have := List.all_eq_true.1 hall y hy
    simp only [Bool.and_eq_true, beq_iff_eq] at this
    exact ⟨this.2, this.1⟩
  have hlen : parts.size = len := by have := congrArg List.length hidx; simpa using this
  -- the machine lays it
  obtain ⟨z, hz⟩ := Option.isSome_iff_exists.1 hz
  obtain ⟨zero, hzero⟩ : ∃ zero : Array Value, zero = if len * P.cellsOf e = 0 then #[] else z.cells := ⟨_, rfl⟩
  generalize hbase : (Array.range (len * P.cellsOf e)).map (fun x => zero[x % zero.size]!) = base at *
  have hbs : base.size = len * P.cellsOf e := by rw [← hbase]; simp
  obtain ⟨rr, hrr⟩ := fillRow_some (k := P.cellsOf e) ys hcell 0 (List.replicate base.size .undef) (by simp [hyl, hlen, hbs])
  obtain ⟨f1, f2, f3, f4⟩ := fillRow ys 0 hrr
  obtain ⟨vs, e1, e2, e3⟩ := fill_ok (S := S') (ρ := ρ) (w := w) (pl := fun i => some (i * P.cellsOf e, P.cellsOf e)) (zipIx ys 0) (cs := List.replicate base.size .undef) (vs := base) (ps := (parts.map fun (i, x) => (i, a.eval x)).toList) (by simp)
    (fun j c u hj hu => by
      have : c = .undef := by rw [List.getElem?_replicate] at hj; split at hj <;> simp_all
      subst this; exact .undef u)
    (by
      have hz1 : ∀ (l : List AV) (s : Nat), (zipIx l s).map (·.1) = List.range' s l.length := by
        intro l
        induction l with
        | nil => intro s; rfl
        | cons x l ih => intro s; simp [zipIx, ih, List.range'_succ]
      rw [hz1, hyl, hlen, ← List.range_eq_range', ← hidx]
      simp [Function.comp])
    (fun j p q hp hq => by
      have hz2 : ∀ (l : List AV) (s j : Nat) p, (zipIx l s)[j]? = some p → l[j]? = some p.2 := by
        intro l
        induction l with
        | nil => intro s j p h; simp [zipIx] at h
        | cons x l ih =>
          intro s j p h
          cases j with
          | zero => simp [zipIx] at h; subst h; rfl
          | succ j => simp [zipIx] at h; simpa using ih _ _ _ h
      simp only [Array.toList_map, List.getElem?_map, Array.getElem?_toList] at hq
      obtain ⟨g, hg, rfl⟩ := Option.map_eq_some_iff.1 hq
      exact hyv j _ g (hz2 _ _ _ _ hp) hg) hrr
  have hrun : (Instr.buildSlice t len (parts.map fun (i, x) => (i, a.eval x))).run P w = .ok (.slice (some ⟨w.heap.size, 0, none⟩) len len) (w.alloc (.cells vs e)) := by
    unfold Instr.buildSlice
    rw [runB (run_underlying (elemOf_some he) w)]
    simp only []
    rw [runB (run_sizeOf rfl h0), if_neg (by omega)]
    split
    · rename_i hq
      rw [if_pos hq] at hzero; subst hzero
      rw [runB (Sem.run_pure _ w _), hbase, e1]
      rfl
    · rename_i hq
      rw [if_neg hq] at hzero; subst hzero
      rw [runB (zero_ok hz), runB (Sem.run_pure _ w _), hbase, e1]
      rfl
  have hvsz : vs.size = len * P.cellsOf e := by rw [← e2, f2]; simp [hbs]
  refine ⟨vs, hrun, hvsz, hlen, f1, fun i j y c hy hj => ?_⟩
  have hcr := f3 i j y c hy hj
  rw [Nat.zero_add] at hcr
  have hlt : i * P.cellsOf e + j < vs.size := by rw [← e2]; exact (List.getElem?_eq_some_iff.1 hcr).1
  have hv := e3 _ c _ hcr (Array.getElem?_eq_getElem hlt)
  have hpy : y.pureB = true := pureL_get hpure hy
  have hok := (hcell y (List.mem_of_getElem? hy)).2
  have hokc : okCell c = true := List.all_eq_true.1 hok c (List.mem_of_getElem? hj)
  have hcp : c.pureB = true := by
    cases y with
    | agg cs => exact pureL_get (l := cs) (by simpa [AV.pureB] using hpy) hj
    | _ => cases j with
      | zero => simp [AV.cells] at hj; subst hj; exact hpy
      | succ j => simp [AV.cells] at hj
  exact ⟨_, Array.getElem?_eq_getElem hlt, hv.pr hcp, vr_scalar hv hokc⟩

theorem buildSlice_ok (h : SR E st S ρ a.tmps w) (o : Oper) {t : TypeId} {len : Nat} {parts : Array (Nat × Operand)} (ho : o.op = .buildSlice t len parts) {r : AR} (hb : aopB G o st = some r) : OpDone E G.P a o w r := by
  unfold aopB at hb
  rw [ho] at hb
  simp only at hb
  rw [Option.bind_eq_some_iff] at hb; obtain ⟨d, hd, hb⟩ := hb
  rw [Option.bind_eq_some_iff] at hb; obtain ⟨e, he, hb⟩ := hb
  split at hb
  · rename_i hc
    obtain ⟨hidx, hz, hpure, hall, h0, hsmall⟩ := hc
    obtain ⟨hn, rfl⟩ := newObj_some hb
    obtain ⟨S', k1, k2, k3, k4⟩ := h.fix (AV.rowsL (parts.toList.map fun p => st.ev p.2))
    generalize hys : AV.rvL st.hp (parts.toList.map fun p => st.ev p.2) = ys at *
    have hyl : ys.length = parts.size := by rw [← hys, rvL_length]; simp
    have hyv : ∀ (j : Nat) y p, ys[j]? = some y → parts[j]? = some p → VR S' ρ w y (a.eval p.2) := by
      intro j y p hy hp
      rw [← hys, rvL_get, List.getElem?_map, Array.getElem?_toList, hp] at hy
      simp only [Option.map_some, Option.some.injEq] at hy
      subst hy
      refine rv_fixed h k1 k2 k3 k4 (h.ev p.2) fun n hn' => rowsL_mem (j := j) ?_ hn'
      rw [List.getElem?_map, Array.getElem?_toList, hp]; rfl
    obtain ⟨vs, hrun, hvsz, hlen, f1, f5⟩ := buildSlice_run (P := G.P) he hidx hz hpure hall h0 hsmall hyl hyv
    have hobj := k2.newRow (n := 1000 + d) hn (Nat.le_add_right _ _) (sz := G.P.cellsOf e) (es := ys) h0 f1 vs e (by rw [hyl, hlen, hvsz]; exact Nat.le_refl _) f5 false
    refine ⟨_, .slice (some ⟨w.heap.size, 0, none⟩) len len, w.alloc (.cells vs e), S', _, ?_, .inl rfl, hobj, ?_⟩
    · unfold execOp; rw [ho]; simp only []; rw [runB hrun]; rfl
    · rw [show ys.length = len by omega]
      exact own_new (by rw [hvsz]; exact Nat.le_refl _)
  · cases hb

/-- Cells that nobody has a name for may be stable. -/
theorem SR.stab {tm : Array Value} (h : SR E st S ρ tm w) {b : Nat} (hb : E.W0.heap.size ≤ b) (hlt : b < w.heap.size) (hno : ∀ n b' sz k, ρ n = some ⟨some (b', sz), k⟩ → b' ≠ b) : SR E st (fun b' o => S b' o ∨ b' = b) ρ tm w := by
  have hx : Ext S w (fun b' o => S b' o ∨ b' = b) w := Ext.more (fun _ _ h => .inl h) w
  refine h.step ⟨hx, Nat.le_refl _, fun _ _ _ => rfl, fun _ h => h, ?_, ?_, rfl, rfl, rfl⟩ (fun _ _ h => h)
    ⟨fun n x ho => (h.heap.obj n x ho).keep hx rfl (fun _ _ h => h) (fun b' sz k hb' => ⟨rfl, fun o hS => hS.resolve_right (hno n b' sz k hb')⟩), h.heap.dom, h.heap.inj⟩ h.mine (fun _ => rfl) h.old
  · rintro b' o (x | rfl)
    · exact .inl x
    · exact .inr (.inr hb)
  · rintro b' o (x | rfl)
    · exact h.fr.bnd b' o x
    · exact hlt

/-- A literal of plain things, told as a list that stands. -/
theorem bsv_ok (h : SR E st S ρ a.tmps w) (o : Oper) {t : TypeId} {len : Nat} {parts : Array (Nat × Operand)} (ho : o.op = .buildSlice t len parts) {v : AV} (hb : bsv G st t len parts = some v) :
    ∃ u w' S', (execOp a.eval o).run G.P w = .ok (.value u) w' ∧ SR E st S' ρ a.tmps w' ∧ VR S' ρ w' v u := by
  unfold bsv at hb
  rw [Option.bind_eq_some_iff] at hb; obtain ⟨e, he, hb⟩ := hb
  simp only at hb
  split at hb
  case isFalse => cases hb
  rename_i hc
  obtain ⟨hidx, hz, hpure, hall, h0, hsmall⟩ := hc
  cases hb
  generalize hys : (parts.toList.map fun p => st.ev p.2) = ys at *
  have hyl : ys.length = parts.size := by rw [← hys]; simp
  obtain ⟨vs, hrun, hvsz, hlen, f1, f5⟩ := buildSlice_run (P := G.P) (S' := S) (ρ := ρ) (w := w) (a := a) he hidx hz hpure hall h0 hsmall hyl (fun j y p hy hp => by
    rw [← hys, List.getElem?_map, Array.getElem?_toList, hp] at hy
    simp only [Option.map_some, Option.some.injEq] at hy
    subst hy
    exact h.ev p.2)
  have h1 := h.allocs (.cells vs e)
  have h2 := h1.stab (b := w.heap.size) h.fr.size (by simp) (fun n b' sz k hb' => Nat.ne_of_lt (h.heap.lt hb'))
  refine ⟨.slice (some ⟨w.heap.size, 0, none⟩) len len, w.alloc (.cells vs e), _, by unfold execOp; rw [ho]; simp only []; rw [runB hrun]; rfl, h2, .pure ?_⟩
  have hx : Ext S w (fun b' o => S b' o ∨ b' = w.heap.size) (w.alloc (.cells vs e)) := by
    have k := Ext.alloc h.fr.bnd (.cells vs e)
    exact ⟨fun _ _ h => .inl h, k.cell, k.shape⟩
  by_cases hy0 : ys = []
  · subst hy0
    have : len = 0 := by rw [← hlen, ← hyl]; rfl
    subst this
    exact .empty _ _ _ (fun e => by omega)
  · have key : ∀ (i j : Nat) y c, ys[i]? = some y → y.cells[j]? = some c → (w.alloc (.cells vs e)).cell? (at0 w.heap.size (0 + i * G.P.cellsOf e + j)) = some (vs[i * G.P.cellsOf e + j]?.getD default) ∧ scalarV (vs[i * G.P.cellsOf e + j]?.getD default) = true ∧ PR (fun b' o => S b' o ∨ b' = w.heap.size) (w.alloc (.cells vs e)) c (vs[i * G.P.cellsOf e + j]?.getD default) := by
      intro i j y c hy hj
      obtain ⟨u, hu, hp, hs⟩ := f5 i j y c hy hj
      rw [Nat.zero_add, cell_block (heap_new w _), hu]
      exact ⟨rfl, hs, hp.ext hx⟩
    have := PR.list (S := fun b' o => S b' o ∨ b' = w.heap.size) (w := w.alloc (.cells vs e)) ys w.heap.size 0 len (G.P.cellsOf e) (fun i j => vs[i * G.P.cellsOf e + j]?.getD default) h0 (by omega) f1
      (fun i j y c hy hj => .inr rfl) (fun i j y c hy hj => (key i j y c hy hj).1) (fun i j y c hy hj => (key i j y c hy hj).2.1) (fun i j y c hy hj => (key i j y c hy hj).2.2)
    rw [show ys.length = len by omega] at this
    exact this

end Go.Proofs.Ytonaejfpiihfhaa.Abs
