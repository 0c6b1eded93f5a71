/- All operations but calls of functions, whole. -/
import Derived.Test.YtonaejfpiihfhaaAbs16
import Derived.Laws.IdiomStrings
namespace Go.Proofs.Ytonaejfpiihfhaa.Abs
open Go Go.RowKit
set_option linter.unusedSimpArgs false
set_option linter.unusedVariables false

variable {G : Cfg} {S : Stab} {ρ : Rho} {w : World} {E : Env} {st : ASt} {a : Act}

theorem panic_ok (h : SR E st S ρ a.tmps w) (o : Oper) {x : Operand} (ho : o.op = .panic x) {r : AR} (hb : aopB G o st = some r) : OpDone E G.P a o w r := by
  unfold aopB at hb
  rw [ho] at hb
  simp only at hb
  split at hb
  · rename_i t v hv
    cases hb
    have hx := h.ev x
    rw [hv] at hx
    obtain ⟨S', k1, k2, k3, k4⟩ := h.fix (AV.iface t v).rows
    have hx' := rv_fixed h k1 k2 k3 k4 hx fun n hn => hn
    obtain ⟨u, hu, _⟩ := vr_iface hx
    refine ⟨a.eval x, w, S', ρ, ?_, k2, hx'⟩
    unfold execOp; rw [ho]
    simp only []
    rw [hu]
    rfl
  · cases hb

/-- A new row of a string's bytes. -/
theorem bytes_ok (h : SR E st S ρ a.tmps w) (o : Oper) {s t e : TypeId} {x : Operand} {l : List UInt8} (ho : o.op = .convert s t x) (ht : G.P.underlying t = some (.slice e)) (he : G.P.underlying e = some (.int .u8)) (hs : isStringT G.P s = true) (hx : st.ev x = .str l)
    {d : Nat} (hn : aget st.hp (1000 + d) = none) : OpDone E G.P a o w (.val (.own (1000 + d)) { st with hp := (1000 + d, .row 1 (l.map fun b => .int .u8 b.toNat) false false) :: st.hp }) := by
  have hs' : G.P.underlying s = some .string := by
    unfold isStringT at hs
    split at hs
    · assumption
    · cases hs
  have hv := h.ev x
  rw [hx] at hv
  obtain ⟨b, hb, rfl⟩ := vr_str hv
  have hrun := run_bytes_of_string w s t e b hs' ht he
  have hge := grownCap_ge w b.size 0 e
  generalize grownCap w b.size 0 e = cap at hrun hge
  have hsz : (bytesRow b cap).size = cap := by simp [bytesRow]; omega
  have hnew := h.drew.newG (n := 1000 + d) hn (Nat.le_add_right _ _) (.row 1 (b.data.toList.map fun b => AV.int .u8 b.toNat) false false) (.cells (bytesRow b cap) e ((bytesRow b cap).size, (bytesRow b cap).size + 1)) 1 b.size
    (.inr ⟨w.heap.size, bytesRow b cap, e, _, Nat.one_pos, by simp [upd], fun y hy => by obtain ⟨_, _, rfl⟩ := List.mem_map.1 hy; rfl, heap_new w.drew _, by rw [hsz]; simpa using hge, fun o ho => ?_, fun i j y c hy hj => ?_, fun o ho => absurd (h.fr.bnd _ _ ho) (Nat.lt_irrefl _)⟩)
  · refine ⟨.value (.slice (some ⟨w.heap.size, 0, none⟩) b.size cap), .slice (some ⟨w.heap.size, 0, none⟩) b.size cap, _, S, _, ?_, .inl rfl, hnew, ?_⟩
    · unfold execOp; rw [ho]; simp only []; rw [hb, runB hrun]; rfl
    · refine .own (1000 + d) w.heap.size 1 b.size cap (by simp [upd]) hge ⟨_, _, _, heap_new w.drew _, by rw [hsz, Nat.mul_one]; exact Nat.le_refl _⟩
  · unfold World.frozen?
    have : (w.drew.alloc (.cells (bytesRow b cap) e ((bytesRow b cap).size, (bytesRow b cap).size + 1))).heap[w.heap.size]? = _ := heap_new w.drew (.cells (bytesRow b cap) e ((bytesRow b cap).size, (bytesRow b cap).size + 1))
    simp only [at0]
    rw [this]
    have h1 : decide ((bytesRow b cap).size ≤ o) = false := by simpa using ho
    show (decide ((bytesRow b cap).size ≤ o) && _) = false
    rw [h1]; rfl
  · simp only [List.getElem?_map] at hy
    obtain ⟨q, hq, rfl⟩ := Option.map_eq_some_iff.1 hy
    cases j with
    | zero =>
      simp [AV.cells] at hj; subst hj
      have hlt : i < b.data.size := by have := (List.getElem?_eq_some_iff.1 hq).1; simpa using this
      have hq' : b.data[i]? = some q := by simpa using hq
      refine ⟨.int .u8 q.toNat, ?_, .int _ _, (fun e => by cases e), rfl⟩
      simp only [bytesRow, Nat.mul_one, Nat.add_zero]
      rw [Array.getElem?_append_left (by simpa using hlt)]
      simp [hq']
    | succ j => simp [AV.cells] at hj

theorem makeSlice_ok (h : SR E st S ρ a.tmps w) (o : Oper) {t : TypeId} {x y : Operand} (ho : o.op = .makeSlice t x y) {r : AR} (hb : aopB G o st = some r) : OpDone E G.P a o w r := by
  unfold aopB at hb
  rw [ho] at hb
  simp only at hb
  rw [Option.bind_eq_some_iff] at hb; obtain ⟨d, hd, hb⟩ := hb
  rw [Option.bind_eq_some_iff] at hb; obtain ⟨e, he, hb⟩ := hb
  rw [Option.bind_eq_some_iff] at hb; obtain ⟨z, hz, hb⟩ := hb
  have ht := elemOf_some he
  split at hb
  · rename_i n m hx hy
    split at hb
    · rename_i hc
      obtain ⟨c1, c2, c3, c4, c5, c6, c7, c8⟩ := hc
      obtain ⟨hn, rfl⟩ := newObj_some hb
      have ex := h.ev x; have ey := h.ev y
      rw [hx] at ex; rw [hy] at ey
      have ex := vr_int ex; have ey := vr_int ey
      obtain ⟨ie, hie, hies⟩ := info_of_cells (P := G.P) (t := e) (by omega)
      have hz' : ie.zero = some z := by rw [hie] at hz; simpa using hz
      have hby : ie.bytes ≤ 4096 := by rw [hie] at c4; simpa using c4
      unfold LIM at c3
      have wl : IntKind.i64.wrap n = n := by rw [IntKind.wrap_i64]; omega
      have wc : IntKind.i64.wrap m = m := by rw [IntKind.wrap_i64]; omega
      have n1 : ¬ m < 0 := by omega
      have n2 : ¬ (281474976710656 < (ie.bytes : Int) * m) := by
        have : (ie.bytes : Int) * m ≤ 4096 * m := Int.mul_le_mul_of_nonneg_right (by omega) (by omega)
        omega
      have n3 : ¬ n < 0 := by omega
      have n4 : ¬ m < n := by omega
      have n5 : ¬ (140737488355328 < m.toNat * ie.bytes) := by
        have : m.toNat * ie.bytes ≤ m.toNat * 4096 := Nat.mul_le_mul_left _ hby
        omega
      obtain ⟨zc1, zc2⟩ := vr_cells (S := S) (ρ := ρ) (w := w) (vr_ofValue z) (okCells_known c6)
      have hzs : z.cells.size = ie.size := by omega
      have hrun : ∃ cells : Array Value, cells.size = m.toNat * ie.size ∧ (∀ i j, i < m.toNat → j < ie.size → cells[i * ie.size + j]? = z.cells[j]?) ∧
          (Instr.makeSlice t (.int .i64 n) (.int .i64 m)).run G.P w = .ok (.slice (some ⟨w.heap.size, 0, none⟩) n.toNat m.toNat) (w.alloc (.cells cells e)) := by
        by_cases hk : m.toNat * ie.size = 0
        · refine ⟨#[], by simp [hk], fun i j hi hj => ?_, ?_⟩
          · rcases Nat.mul_eq_zero.1 hk with hh | hh <;> omega
          · simp [Instr.makeSlice, run_underlying ht, asInt, asIntOf, typeInfo, hie, sizeOf, wl, wc, n1, n2, n3, n4, n5, hk, newRow, askRoom, roomBytes]
            congr 2
            apply Array.ext <;> simp
        · refine ⟨(Array.range (m.toNat * ie.size)).map (fun x => z.cells[x % z.cells.size]!), by simp, fun i j hi hj => ?_, ?_⟩
          · have hlt : i * ie.size + j < m.toNat * ie.size := by
              have : (i + 1) * ie.size ≤ m.toNat * ie.size := Nat.mul_le_mul_right _ hi
              rw [Nat.add_mul, Nat.one_mul] at this; omega
            have e2 : (i * ie.size + j) % z.cells.size = j := by rw [hzs, Nat.mul_comm, Nat.mul_add_mod, Nat.mod_eq_of_lt hj]
            simp only [Array.getElem?_map, Array.getElem?_range, hlt, if_true, Option.map_some, e2]
            rw [getElem!_pos z.cells j (by omega), Array.getElem?_eq_getElem (by omega)]
          · simp [Instr.makeSlice, run_underlying ht, asInt, asIntOf, typeInfo, hie, sizeOf, zeroValue, hz', wl, wc, n1, n2, n3, n4, n5, newRow, askRoom, roomBytes, hk]
      obtain ⟨cells, s1, s2, hrun⟩ := hrun
      have hmk := h.newRow (n := 1000 + d) hn (Nat.le_add_right _ _) (sz := G.P.cellsOf e) (es := List.replicate n.toNat (ofValue z)) c7 (fun y hy => by rw [List.eq_of_mem_replicate hy]; exact c8) cells e
        (by rw [s1, hies, List.length_replicate]; exact Nat.mul_le_mul_right _ (by omega)) (fun i j y c hy hj => by
          rw [List.getElem?_replicate] at hy
          split at hy
          · rename_i hi
            cases hy
            have hjl : j < (ofValue z).cells.length := (List.getElem?_eq_some_iff.1 hj).1
            have hjz : j < z.cells.size := by omega
            have hv := zc2 j c _ hj (Array.getElem?_eq_getElem hjz)
            have hcp : c.pureB = true := by
              generalize ofValue z = q at *
              cases q with
              | agg cs => exact pureL_get (l := cs) (by simpa [AV.pureB] using c5) hj
              | _ => cases j with
                | zero => simp [AV.cells] at hj; subst hj; exact c5
                | succ j => simp [AV.cells] at hj
            refine ⟨z.cells[j], ?_, hv.pr hcp, vr_scalar hv (List.all_eq_true.1 c6 c (List.mem_of_getElem? hj))⟩
            rw [← hies, s2 i j (by omega) (by omega)]
            exact Array.getElem?_eq_getElem hjz
          · cases hy) false
      refine ⟨.value (.slice (some ⟨w.heap.size, 0, none⟩) n.toNat m.toNat), .slice (some ⟨w.heap.size, 0, none⟩) n.toNat m.toNat, _, S, _, ?_, .inl rfl, hmk, ?_⟩
      · unfold execOp; rw [ho]; simp only []; rw [ex, ey, runB hrun]; rfl
      · rw [List.length_replicate]
        exact own_newc (by omega) (by rw [s1, hies]; exact Nat.le_refl _)
    · cases hb
  · cases hb

/-- A row that is cut to nothing. -/
theorem cut_ok (h : SR E st S ρ a.tmps w) (o : Oper) {t : TypeId} {x : Operand} {lo hi mx : Option Operand} (ho : o.op = .slice t x lo hi mx) {q : Nat × Nat} (hq : cutA st.hp (st.ev x) (lo.map st.ev) (hi.map st.ev) (mx.map st.ev) = some q)
    (hel : (elemOf? G.P t).map (G.P.cellsOf ·) = some q.2) : OpDone E G.P a o w (.val (.own q.1) (st.cut q)) := by
  obtain ⟨e, he, hq2⟩ := Option.map_eq_some_iff.1 hel
  have ht := elemOf_some he
  unfold cutA at hq
  split at hq
  case h_2 => cases hq
  rename_i id hxe hlo hhi hmx
  rw [Option.bind_eq_some_iff] at hq; obtain ⟨ob, hob, hq⟩ := hq
  split at hq
  case h_2 => cases hq
  rename_i sz es mv
  split at hq
  case isFalse => cases hq
  rename_i hsz
  cases hq
  simp only at hq2 ⊢
  have hlo : lo = none := by cases lo <;> simp_all
  have hmx : mx = none := by cases mx <;> simp_all
  subst hlo; subst hmx
  cases hi with
  | none => simp at hhi
  | some hi =>
    simp only [Option.map_some, Option.some.injEq] at hhi
    have hx := h.ev x
    have hh := h.ev hi
    rw [hxe] at hx
    rw [hhi] at hh
    have hrun : ∀ {ba : Option Addr} {n cap : Nat}, n ≤ cap → a.eval x = .slice ba n cap → (execOp a.eval o).run G.P w = .ok (.value (.slice (if cap = 0 then ba else ba.map (·.add (0 * G.P.cellsOf e))) 0 cap)) w := by
      intro ba n cap hc ev
      unfold execOp; rw [ho]
      simp only [Option.map_none, Option.map_some]
      rw [ev]
      rw [runB (run_sliceAt_sl (l := 0) (h := 0) ht (by omega) (run_bounds (S := S) (ρ := ρ) (lo := none) (hi := some (.int .i64 0)) (vl := none) (vh := some (a.eval hi)) (w := w) rfl rfl trivial hh (Nat.le_refl _) (Nat.zero_le _)))]
      rfl
    have hst : Step E S w S w := ⟨Ext.refl S w, Nat.le_refl _, fun _ _ _ => rfl, fun _ h => h, fun b o h => .inl h, h.fr.bnd, rfl, rfl, rfl⟩
    generalize hux : a.eval x = ux at hx hrun
    cases hx with
    | pure hx => cases hx
    | own0 _ hρ =>
      refine ⟨_, .slice none 0 0, w, S, upd ρ id ⟨none, 0⟩, hrun (ba := none) (n := 0) (cap := 0) (Nat.le_refl _) rfl, .inl (by rfl), ?_, ?_⟩
      · exact h.regrow hob hst (fun m b s k _ _ => ⟨rfl, fun _ h => h⟩) (fun b s k e => by cases e) (.inl ⟨rfl, by simp [upd]⟩) rfl
      · exact .own0 id (by simp [upd])
    | own _ b s n cap hρ hcap hr =>
      obtain ⟨rfl, rfl, h0, hs, cells, t', fr, g2, g3, g4, g5, g6⟩ := rowobj_of h.heap hob hρ
      have hS0 : ∀ o, ¬ S b o := fun o ho' => by have := (g6 o ho').1; cases this
      refine ⟨_, .slice (some (at0 b 0)) 0 cap, w, S, upd ρ id ⟨some (b, s), 0⟩, hrun (ba := some (at0 b 0)) hcap rfl, .inl ?_, ?_, ?_⟩
      · simp [at0_add]
      · refine h.regrow hob hst (fun m b s k _ _ => ⟨rfl, fun _ h => h⟩) (fun b' s' k e => ?_) (.inr ⟨b, cells, t', fr, h0, by simp [upd], fun e he => by simp at he, g2, by simp, g4, fun i j e c he => by simp at he, fun o ho' => absurd ho' (hS0 o)⟩) rfl
        cases e
        exact ⟨h.mine id b s _ hρ, fun m s' k' hm hb' => hm (h.heap.inj _ _ _ _ _ _ _ hb' hρ)⟩
      · exact .own id b s 0 cap (by simp [upd]) (Nat.zero_le _) hr

/-- ANY OPERATION BUT A CALL OF A FUNCTION. -/
theorem aopB_ok (h : SR E st S ρ a.tmps w) (o : Oper) {r : AR} (hb : aopB G o st = some r) : OpDone E G.P a o w r := by
  have reads : ((opv G.P st.ev st.hp o.op).map fun v => AR.val v st) = some r → OpDone E G.P a o w r := by
    intro hb
    obtain ⟨v, hv, rfl⟩ := Option.map_eq_some_iff.1 hb
    obtain ⟨u, hu, hvu⟩ := opv_ok h o hv
    exact ⟨_, u, w, S, ρ, hu, .inl rfl, h, hvu⟩
  cases ho : o.op with
  | alloc e => exact alloc_ok h o ho hb
  | box e x => exact box_ok h o ho hb
  | buildSlice t len parts => exact buildSlice_ok h o ho hb
  | store t x y => exact store_ok h o ho hb
  | panic x => exact panic_ok h o ho hb
  | makeSlice t x y => exact makeSlice_ok h o ho hb
  | convert s t x =>
    unfold aopB at hb
    rw [ho] at hb
    simp only at hb
    split at hb
    · rename_i e l ht hx
      split at hb
      · rename_i he
        rw [Option.bind_eq_some_iff] at hb; obtain ⟨d, hd, hb⟩ := hb
        split at hb
        · rename_i hs
          obtain ⟨hn, rfl⟩ := newObj_some hb
          exact bytes_ok h o ho ht he hs hx hn
        · cases hb
      · cases hb
    · exact reads (by rw [ho]; exact hb)
  | slice t x lo hi mx =>
    unfold aopB at hb
    rw [ho] at hb
    simp only at hb
    split at hb
    · rename_i q hq
      split at hb
      · rename_i hel
        cases hb
        exact cut_ok h o ho hq hel
      · cases hb
    · exact reads (by rw [ho]; exact hb)
  | call c =>
    unfold aopB at hb
    rw [ho] at hb
    simp only at hb
    split at hb
    · rename_i s x t xt h1 h2 h3
      refine append_ok h o (x := s) (y := x) (t := t) (xt := xt) ?_ hb
      rw [ho]
      obtain ⟨c1, c2, c3⟩ := c
      simp only at h1 h2 h3
      have e2 : c2 = #[s, x] := by apply Array.ext'; exact h2
      have e3 : c3 = #[t, xt] := by apply Array.ext'; exact h3
      rw [h1, e2, e3]
    · exact reads (by rw [ho]; exact hb)
  | _ => unfold aopB at hb; simp only [ho] at hb; exact reads (by rw [ho]; exact hb)

end Go.Proofs.Ytonaejfpiihfhaa.Abs
