/- What an operation that makes, or writes, memory comes to, the machine's comes to: stores, appends, panics; all but calls of functions. -/
import Derived.Test.YtonaejfpiihfhaaAbs15
namespace Go.Proofs.Ytonaejfpiihfhaa.Abs
open Go Go.RowKit
set_option linter.unusedSimpArgs false
set_option linter.unusedVariables false

variable {G : Cfg} {S : Stab} {ρ : Rho} {w : World} {E : Env} {st : ASt} {a : Act}

theorem okCell_cells {c : AV} (h : okCell c = true) : c.cells = [c] := by cases c <;> first | rfl | cases h
theorem reCell_cells {v : AV} {cs : List AV} (hl : cs.length = v.cells.length) (ho : (∃ vs, v = .agg vs) ∨ ∀ c ∈ cs, okCell c = true) : (reCell v cs).cells = cs := by
  cases v with
  | agg vs => rfl
  | _ =>
    simp only [AV.cells, List.length_singleton] at hl
    match cs, hl with
    | [c], _ =>
      rcases ho with ⟨vs, e⟩ | ho
      · cases e
      · exact okCell_cells (ho c (by simp))

theorem vr_ptr' {S : Stab} {ρ : Rho} {w : World} {id i o : Nat} {v : Value} (h : VR S ρ w (.ptr id i o) v) : ∃ b sz n, ρ id = some ⟨some (b, sz), n⟩ ∧ v = .pointer (some (at0 b (i * sz + o))) := vr_ptr h

theorem run_storeVar {P : Program} {t : TypeId} {b o : Nat} {v : Value} {cells : Array Value} {t' : TypeId} {fr : Nat × Nat} (hsz : v.cells.size = P.cellsOf t) (h0 : (P.info? t).isSome = true) (hb : w.heap[b]? = some (.cells cells t' fr)) (hl : o + v.cells.size ≤ cells.size)
    (hf : Unfrozen w b cells.size) (hs : ∀ c ∈ v.cells.toList, scalarV c = true) : (storeVar t (at0 b o) v).run P w = .ok () (setCells w b o v.cells.toList) := by
  unfold storeVar
  have hso : (sizeOf t).run P w = .ok (P.cellsOf t) w := by
    obtain ⟨i, hi⟩ := Option.isSome_iff_exists.1 h0
    unfold sizeOf typeInfo Program.cellsOf
    simp [program, bind, Sem.bind, Sem.run, hi, pure]
  rw [runB hso, if_neg (by simpa using hsz)]
  have := run_storeCells (P := P) (b := b) (o := o) v.cells.toList w 0 cells t' fr hb (by simpa using hl) hf hs
  simpa using this

/-- Cells of an object, written over: nothing stable is among them. -/
theorem Ext.write {S : Stab} {b o : Nat} {l : List Value} {cells : Array Value} {t : TypeId} {fr : Nat × Nat} (hb : w.heap[b]? = some (.cells cells t fr)) (hl : o + l.length ≤ cells.size) (hS : ∀ i, ¬ S b i) : Ext S w S (setCells w b o l) := by
  obtain ⟨c', k1, k2, k3, k4⟩ := setCells_block b l w o cells t fr hb hl
  refine ⟨fun _ _ x => x, fun b' i hi => ?_, fun b' c t' fr' h => ?_⟩
  · have : b' ≠ b := fun e => by subst e; exact hS i hi
    exact cell_same (setCells_other b l w o b' this) i
  · by_cases e : b' = b
    · subst e; rw [hb] at h; cases h; exact ⟨c', k1, k2⟩
    · exact ⟨c, by rw [setCells_other b l w o b' e]; exact h, rfl⟩

theorem putA_ok {v : AV} {cs new : List AV} {off : Nat} (hv : cs = v.cells) (hle : off + new.length ≤ cs.length) (hn : ∀ c ∈ new, okCell c = true) (hnl : 0 < new.length ∨ v.isA = true) : (reCell v (putA cs off new)).cells = putA cs off new := by
  subst hv
  refine reCell_cells (putA_length hle) ?_
  cases v with
  | agg vs => exact .inl ⟨vs, rfl⟩
  | _ =>
    right
    have hnl : 0 < new.length := hnl.resolve_right (by simp [AV.isA])
    simp only [AV.cells, List.length_singleton] at hle
    have h1 : off = 0 := by omega
    have h2 : new.length = 1 := by omega
    subst h1
    intro c hc
    simp only [putA, AV.cells, List.take_zero, List.nil_append, h2, Nat.zero_add, List.drop_succ_cons, List.drop_zero, List.append_nil] at hc
    exact hn c hc

theorem store_ok (h : SR E st S ρ a.tmps w) (o : Oper) {t : TypeId} {x y : Operand} (ho : o.op = .store t x y) {r : AR} (hb : aopB G o st = some r) : OpDone E G.P a o w r := by
  unfold aopB at hb
  rw [ho] at hb
  simp only at hb
  obtain ⟨st', hst, rfl⟩ := Option.map_eq_some_iff.1 hb
  have hx := h.ev x
  have hy := h.ev y
  have fin : ∀ {b off : Nat} {w' : World} {S' : Stab} {ρ' : Rho}, a.eval x = .pointer (some (at0 b off)) → (storeVar t (at0 b off) (a.eval y)).run G.P w = .ok () w' → SR E st' S' ρ' a.tmps w' → OpDone E G.P a o w (.val .undef st') := by
    intro b off w' S' ρ' e hrun hsr
    refine ⟨.skip, Go.undef, w', S', ρ', ?_, .inr ⟨rfl, rfl⟩, hsr, .undef _⟩
    unfold execOp; rw [ho]
    have : (Instr.storeAt t (a.eval x) (a.eval y)).run G.P w = .ok () w' := by
      unfold Instr.storeAt
      rw [e, runB (a := at0 b off) (by rfl)]; exact hrun
    simp only []
    rw [runB this]; rfl
  generalize hxv : st.ev x = X at *
  generalize hyv : st.ev y = Y at *
  generalize hue : a.eval y = u at *
  unfold storeA at hst
  split at hst
  · rename_i id i off
    obtain ⟨b, sz, n, hρ, ev⟩ := vr_ptr hx
    rw [Option.bind_eq_some_iff] at hst
    obtain ⟨ob, hob, hst⟩ := hst
    cases ob with
    | loop r l => cases hst
    | dblk => cases hst
    | box v =>
      simp only at hst
      split at hst
      · rename_i hc
        obtain ⟨hi, hk, ⟨hinf, h0⟩, hcl, hle⟩ := hc
        subst hi
        cases hst
        have hn1 : n = 1 := by
          obtain ⟨_, _, _, _, q, _⟩ := h.heap.obj _ _ hob
          rw [hρ] at q; cases q; rfl
        subst hn1
        obtain ⟨rfl, cells, t', fr, g2, g3, g4, g5, g6⟩ := box_of h.heap hob hρ
        obtain ⟨c1, c2⟩ := vr_cells hy (okCells_known hk)
        have hsc := okCells_scalar hy hk
        rw [Nat.zero_mul, Nat.zero_add] at ev
        have hle' : off + u.cells.toList.length ≤ cells.size := by simp; omega
        have hrun := run_storeVar (P := G.P) (t := t) (b := b) (o := off) (v := u) (by omega) hinf g2 (by omega) g4 hsc
        obtain ⟨c', k1, k2, k3, k4⟩ := setCells_block b u.cells.toList w off cells t' fr g2 hle'
        have hxt := Ext.write (S := S) g2 hle' g5
        have hre := putA_ok (v := v) rfl hle (fun c hc => List.all_eq_true.1 hk c hc) (h0.elim (fun h => .inl (by omega)) .inr)
        have hrl : (reCell v (putA v.cells off Y.cells)).cells.length = v.cells.length := by rw [hre, putA_length hle]
        refine fin ev hrun (h.change hob hρ hxt (setCells_other b _ w off) (setCells_size b _ w off) (setCells_outer b _ w off) ⟨b, c', t', fr, by rw [hrl]; exact hρ, k1, by rw [hrl, k2]; exact g3, fun o ho' => by rw [frozen_block g2 k1]; exact g4 o (by omega), g5, fun j c hj => ?_⟩ (fun _ => rfl))
        rw [hre, putA_get hle] at hj
        split at hj
        · rename_i hin
          have hlt : j - off < u.cells.size := by omega
          have := k4 (j - off) (by simpa using hlt)
          rw [show off + (j - off) = j by omega] at this
          refine ⟨u.cells[j - off], by rw [this]; simp [hlt], (c2 (j - off) c _ hj (Array.getElem?_eq_getElem hlt)).ext hxt fun _ _ h => h⟩
        · rename_i hout
          obtain ⟨z, hz, hv⟩ := g6 j c hj
          exact ⟨z, by rw [k3 j (by simp; omega)]; exact hz, hv.ext hxt fun _ _ h => h⟩
      · cases hst
    | row s es fx mv =>
      simp only at hst
      split at hst
      · cases hst
      · rename_i hfx
        simp only [Bool.or_eq_true, not_or] at hfx
        obtain ⟨hfx, hnr⟩ := hfx
        have hfx' : fx = false := by simpa using hfx
        subst hfx'
        have hnr' : id ∉ Y.rows := by simpa using hnr
        rw [Option.bind_eq_some_iff] at hst
        obtain ⟨el, hel, hst⟩ := hst
        split at hst
        · rename_i hc
          obtain ⟨hpu, hk, h0, hcl, hle⟩ := hc
          cases hst
          obtain ⟨S', k1, k2, k3, k4⟩ := h.fix Y.rows
          have hy' : VR S' ρ w (Y.rv st.hp) u := rv_fixed h k1 k2 k3 k4 hy fun n hn => hn
          generalize hY : Y.rv st.hp = Z at *
          have hZ := hy'.pr hpu
          -- the row in the state whose rows are fixed
          have hob' : ∃ fx', aget (st.fix Y.rows).hp id = some (.row s es fx' mv) := k4.row hob
          obtain ⟨fx', hob'⟩ := hob'
          have hfx0 : fx' = false := by
            have : ∀ (ns : List Nat) (hp : Heap), id ∉ ns → aget (hfix ns hp) id = aget hp id := by
              intro ns
              induction ns with
              | nil => intro hp _; rfl
              | cons m ns ih =>
                intro hp hn
                simp only [List.mem_cons, not_or] at hn
                show aget (hfix ns (hmod AObj.fix m hp)) id = _
                rw [ih _ hn.2, aget_hmod, if_neg hn.1]
            have e := this Y.rows st.hp hnr'
            have : aget (st.fix Y.rows).hp id = aget st.hp id := e
            rw [this, hob] at hob'; cases hob'; rfl
          subst hfx0
          obtain ⟨rfl, rfl, hs0, hsl, cells, t', fr, g2, g3, g4, g5, g6⟩ := rowobj_of k2.heap hob' hρ
          have hS0 : ∀ o, ¬ S' b o := fun o ho' => by have := (g6 o ho').1; cases this
          obtain ⟨c1, c2⟩ := vr_cells hy' (okCells_known hk)
          have hsc := okCells_scalar hy' hk
          have hi : i < es.length := (List.getElem?_eq_some_iff.1 hel).1
          have hell : el.cells.length = sz := hsl el (List.mem_of_getElem? hel)
          have hbound : i * sz + sz ≤ cells.size := by
            have : (i + 1) * sz ≤ es.length * sz := Nat.mul_le_mul_right _ hi
            rw [Nat.add_mul, Nat.one_mul] at this; omega
          have hle' : i * sz + off + u.cells.toList.length ≤ cells.size := by simp; omega
          have hrun := run_storeVar (P := G.P) (t := t) (b := b) (o := i * sz + off) (v := u) (by omega) (by obtain ⟨i, hi, _⟩ := info_of_cells (P := G.P) (t := t) h0; simp [hi]) g2 (by omega) g4 hsc
          obtain ⟨c', q1, q2, q3, q4⟩ := setCells_block b u.cells.toList w (i * sz + off) cells t' fr g2 hle'
          have hxt := Ext.write (S := S') g2 hle' hS0
          have hokz : ∀ c ∈ Z.cells, okCell c = true := fun c hc => List.all_eq_true.1 hk c hc
          have hre := putA_ok (v := el) rfl hle hokz (.inl (by omega))
          have hrl : (reCell el (putA el.cells off Z.cells)).cells.length = sz := by rw [hre, putA_length hle, hell]
          have hset : ∀ (i' : Nat) e', (es.set i (reCell el (putA el.cells off Z.cells)))[i']? = some e' → (i' = i ∧ e' = reCell el (putA el.cells off Z.cells)) ∨ (i' ≠ i ∧ es[i']? = some e') := by
            intro i' e' he'
            rw [List.getElem?_set] at he'
            split at he'
            · rename_i e; subst e; simp [hi] at he'; subst he'; exact .inl ⟨rfl, rfl⟩
            · rename_i e; exact .inr ⟨fun e' => e e'.symm, he'⟩
          have hch := k2.change (n := id) hob' hρ hxt (setCells_other b _ w _) (setCells_size b _ w _) (setCells_outer b _ w _) (o := .row sz (es.set i (reCell el (putA el.cells off Z.cells))) false mv)
            (.inr ⟨b, c', t', fr, hs0, by simpa using hρ, fun e' he' => ?_, q1, by rw [List.length_set, q2]; exact g3, fun o ho' => by rw [frozen_block g2 q1]; exact g4 o (by omega), fun i' j e' c he' hj => ?_, fun o ho' => absurd ho' (hS0 o)⟩) (fun h => h)
          · exact fin ev hrun hch
          · obtain ⟨i', hi'⟩ := List.getElem?_of_mem he'
            rcases hset i' e' hi' with ⟨_, rfl⟩ | ⟨_, hh⟩
            · exact hrl
            · exact hsl e' (List.mem_of_getElem? hh)
          · rcases hset i' e' he' with ⟨rfl, rfl⟩ | ⟨hne, hh⟩
            · rw [hre, putA_get hle] at hj
              split at hj
              · rename_i hin
                have hlt : j - off < u.cells.size := by omega
                have := q4 (j - off) (by simpa using hlt)
                rw [show i' * sz + off + (j - off) = i' * sz + j by omega] at this
                have hvc := c2 (j - off) c _ hj (Array.getElem?_eq_getElem hlt)
                refine ⟨u.cells[j - off], by rw [this]; simp [hlt], (hZ.cells.2 (j - off) c _ hj (Array.getElem?_eq_getElem hlt)).ext hxt, (fun e => by cases e), vr_scalar hvc (hokz c (List.mem_of_getElem? hj))⟩
              · rename_i hout
                obtain ⟨z, hz, hv, _, hq⟩ := g5 i' j el c hel hj
                refine ⟨z, by rw [q3 _ (by simp; omega)]; exact hz, hv.ext hxt, (fun e => by cases e), hq⟩
            · obtain ⟨z, hz, hv, _, hq⟩ := g5 i' j e' c hh hj
              have hjk : j < sz := by rw [← hsl e' (List.mem_of_getElem? hh)]; exact (List.getElem?_eq_some_iff.1 hj).1
              have hsep : i' * sz + j < i * sz + off ∨ i * sz + off + u.cells.toList.length ≤ i' * sz + j := by
                simp only [Array.length_toList]
                rcases Nat.lt_or_gt_of_ne hne with hlt | hgt
                · have : (i' + 1) * sz ≤ i * sz := Nat.mul_le_mul_right _ hlt
                  rw [Nat.add_mul, Nat.one_mul] at this; omega
                · have : (i + 1) * sz ≤ i' * sz := Nat.mul_le_mul_right _ hgt
                  rw [Nat.add_mul, Nat.one_mul] at this; omega
              exact ⟨z, by rw [q3 _ hsep]; exact hz, hv.ext hxt, (fun e => by cases e), hq⟩
        · cases hst
  · cases hst

/-- 'append' onto nothing. -/
theorem append_nil_ok {P : Program} (h : SR E st S ρ a.tmps w) {id sz : Nat} {xs : List AV} (hn : aget st.hp id = none) (hlow : 1000 ≤ id) {t tx ty e : TypeId} {ux : Value}
    (ht : P.underlying t = some (.slice e)) (hsz : sz = P.cellsOf e) (h0 : 0 < sz) (hb : ((P.info? e).map (·.bytes)).getD 4097 ≤ 4096) (hz : zeroFits P e = true) (hL : xs.length ≤ LIM)
    {news : List Value} (hs : Src P sz tx ux xs.length news w) (hxl : ∀ x ∈ xs, x.cells.length = sz)
    (hx : ∀ (i j : Nat) e c, xs[i]? = some e → e.cells[j]? = some c → ∃ z, news[i * sz + j]? = some z ∧ PR S w c z ∧ scalarV z = true) :
    ∃ v w' S' ρ', (Builtin.append_ #[t, tx] ty #[.slice none 0 0, ux]).run P w = .ok v w' ∧ SR E { st with hp := (id, .row sz xs false false) :: st.hp } S' ρ' a.tmps w' ∧ VR S' ρ' w' (.own id) v := by
  obtain ⟨ie, hie, hies⟩ := info_of_cells (P := P) (t := e) (by omega)
  obtain ⟨z, hz, hzs⟩ := zeroFits_ok hz
  have hz' : ie.zero = some z := by rw [hie] at hz; simpa using hz
  have hby : ie.bytes ≤ 4096 := by rw [hie] at hb; simpa using hb
  have hs' : Src P ie.size tx ux xs.length news w := by rw [hies, ← hsz]; exact hs
  unfold LIM at hL
  have hnl : news.length = xs.length * sz := hs.newsLen
  by_cases hxs : xs = []
  · subst hxs
    refine ⟨.slice none 0 0, w, S, upd ρ id ⟨none, 0⟩, ?_, h.new0 hn hlow sz false false, .own0 id (by simp [upd])⟩
    rcases hs.kind with ⟨e', hk⟩ | hk <;> (have hn : news = [] := List.length_eq_zero_iff.1 (by simpa using hnl); have hcl := hs'.cells; have hln := hs.len w; subst hn; simp only [List.length_nil] at hcl hln; simp [Builtin.append_, run_underlying ht, run_underlying hk, sizeOf, typeInfo, hie, hln, hcl])
  · have hpos : 0 < xs.length := List.length_pos_iff.2 hxs
    have hfit : Builtin.nextslicecap (0 + xs.length) 0 * ie.bytes ≤ 281474976710656 := by
      have h1 := nextslicecap_le_wide (need := 0 + xs.length) (old := 0) (by omega)
      calc Builtin.nextslicecap (0 + xs.length) 0 * ie.bytes ≤ ((0 + xs.length) + (0 + xs.length) / 4 + 192) * 4096 := Nat.mul_le_mul h1 hby
        _ ≤ 281474976710656 := by omega
    have hrun := run_append_grow_src (P := P) w t tx ty e ie z ht hie hz' none 0 0 [] (by simp [Builtin.firstCells]) ux xs.length news hs' (by omega) (by omega) hfit
    have hge := grownCap_ge w (0 + xs.length) 0 e
    generalize hcp : grownCap w (0 + xs.length) 0 e = cap at hrun hge
    have hsize : (([] ++ news).toArray ++ Builtin.zeroCells z.cells (cap - (0 + xs.length))).size = cap * sz := by
      simp only [Array.size_append, List.size_toArray, List.length_append, size_zeroCells, hzs, hnl, ← hsz, List.length_nil]
      rw [Nat.zero_add, ← Nat.add_mul]; congr 1; omega
    have hS := h.drew.newRow (n := id) hn hlow (sz := sz) (es := xs) h0 hxl (([] ++ news).toArray ++ Builtin.zeroCells z.cells (cap - (0 + xs.length))) e
      (by rw [hsize]; exact Nat.mul_le_mul_right _ (by omega)) (fun i j e c he hj => by
        obtain ⟨q, hq, hp, hsc⟩ := hx i j e c he hj
        refine ⟨q, ?_, hp.ext (Ext.drew S w), hsc⟩
        have : i * sz + j < news.length := (List.getElem?_eq_some_iff.1 hq).1
        rw [Array.getElem?_append_left (by simpa using this)]
        simpa using hq) false
    refine ⟨_, _, S, _, hrun, hS, ?_⟩
    rw [show (0 + xs.length) = xs.length by omega]
    exact own_newc (by omega) (by rw [show (0 + xs.length) = xs.length by omega] at hsize; rw [hsize]; exact Nat.le_refl _)

/-- 'append' of a make, onto nothing. -/
theorem append_zeros_ok {P : Program} (h : SR E st S ρ a.tmps w) {id : Nat} (hn : aget st.hp id = none) (hlow : 1000 ≤ id) {t tx ty e : TypeId} {k : IntKind} {z : Value} {n : Int}
    (ht : P.underlying t = some (.slice e)) (hk : P.underlying tx = some (.int k)) (hz : (P.info? e).bind (·.zero) = some z) (c1 : 0 < n) (c3 : n ≤ LIM) (c4 : ((P.info? e).map (·.bytes)).getD 4097 ≤ 4096)
    (c5 : (ofValue z).pureB = true) (c6 : okCells (ofValue z) = true) (c7 : 0 < P.cellsOf e) (c8 : (ofValue z).cells.length = P.cellsOf e) :
    ∃ w' S' ρ' v, (Builtin.append_ #[t, tx] ty #[.slice none 0 0, .int .i64 n]).run P w = .ok v w' ∧ SR E { st with hp := (id, .row (P.cellsOf e) (List.replicate n.toNat (ofValue z)) false false) :: st.hp } S' ρ' a.tmps w' ∧ VR S' ρ' w' (.own id) v := by
  obtain ⟨ie, hie, hies⟩ := info_of_cells (P := P) (t := e) (by omega)
  have hz' : ie.zero = some z := by rw [hie] at hz; simpa using hz
  have hby : ie.bytes ≤ 4096 := by rw [hie] at c4; simpa using c4
  unfold LIM at c3
  have wl : IntKind.i64.wrap n = n := by rw [IntKind.wrap_i64]; omega
  obtain ⟨zc1, zc2⟩ := vr_cells (S := S) (ρ := ρ) (w := w) (vr_ofValue z) (okCells_known c6)
  have hzs : z.cells.size = ie.size := by omega
  have n1 : ¬ n < 0 := by omega
  have n2 : ¬ (281474976710656 < n * (ie.bytes : Int)) := by
    have : n * (ie.bytes : Int) ≤ n * 4096 := Int.mul_le_mul_of_nonneg_left (by omega) (by omega)
    omega
  have n3 : ¬ n.toNat = 0 := by omega
  have n4 : ¬ (9223372036854775807 < (n.toNat : Int)) := by omega
  have n5 : ¬ (n.toNat * ie.size = 0) := by rw [Nat.mul_eq_zero]; omega
  have hfit : ¬ (281474976710656 < Builtin.nextslicecap n.toNat 0 * ie.bytes) := by
    have h1 := nextslicecap_le_wide (need := n.toNat) (old := 0) (by omega)
    have h2 : Builtin.nextslicecap n.toNat 0 * ie.bytes ≤ (n.toNat + n.toNat / 4 + 192) * 4096 := Nat.mul_le_mul h1 hby
    omega
  have hge := grownCap_ge w n.toNat 0 e
  have n6 : ¬ n ≤ 0 := by omega
  have n7 : ¬ (9223372036854775807 < max n 0) := by omega
  have hrun : (Builtin.append_ #[t, tx] ty #[.slice none 0 0, .int .i64 n]).run P w = .ok (.slice (some ⟨w.heap.size, 0, none⟩) n.toNat (grownCap w n.toNat 0 e))
      (w.drew.alloc (.cells (Builtin.zeroCells z.cells n.toNat ++ Builtin.zeroCells z.cells (grownCap w n.toNat 0 e - n.toNat)) e)) := by
    simp [Builtin.append_, run_underlying ht, run_underlying hk, sizeOf, typeInfo, zeroValue, hie, hz', asInt, asIntOf, wl, n1, n2, n3, n4, n5, n6, n7, hfit, Builtin.firstCells, Question.forced, newRow, grownCap, loadCells, loadCellsFrom]
  generalize hcp : grownCap w n.toNat 0 e = cap at hrun hge
  have hzsz : ∀ m, (Builtin.zeroCells z.cells m).size = m * ie.size := fun m => by rw [size_zeroCells, hzs]
  have hsize : (Builtin.zeroCells z.cells n.toNat ++ Builtin.zeroCells z.cells (cap - n.toNat)).size = cap * ie.size := by
    rw [Array.size_append, hzsz, hzsz, ← Nat.add_mul]; congr 1; omega
  have hS := h.drew.newRow (n := id) hn hlow (sz := P.cellsOf e) (es := List.replicate n.toNat (ofValue z)) c7 (fun y hy => by rw [List.eq_of_mem_replicate hy]; exact c8) (Builtin.zeroCells z.cells n.toNat ++ Builtin.zeroCells z.cells (cap - n.toNat)) e
    (by rw [hsize, hies, List.length_replicate]; exact Nat.mul_le_mul_right _ hge) (fun i j y c hy hj => by
      rw [List.getElem?_replicate] at hy
      split at hy
      · rename_i hi
        cases hy
        have hjl : j < (ofValue z).cells.length := (List.getElem?_eq_some_iff.1 hj).1
        have hjz : j < z.cells.size := by omega
        have hv := zc2 j c _ hj (Array.getElem?_eq_getElem hjz)
        have hcp : c.pureB = true := by
          generalize ofValue z = q at *
          cases q with
          | agg cs => exact pureL_get (l := cs) (by simpa [AV.pureB] using c5) hj
          | _ => cases j with
            | zero => simp [AV.cells] at hj; subst hj; exact c5
            | succ j => simp [AV.cells] at hj
        have hlt : i * ie.size + j < n.toNat * ie.size := by
          have : (i + 1) * ie.size ≤ n.toNat * ie.size := Nat.mul_le_mul_right _ hi
          rw [Nat.add_mul, Nat.one_mul] at this; omega
        have e2 : (i * ie.size + j) % z.cells.size = j := by rw [hzs, Nat.mul_comm, Nat.mul_add_mod, Nat.mod_eq_of_lt (by omega)]
        refine ⟨z.cells[j], ?_, (hv.pr hcp).ext (Ext.drew S w), vr_scalar hv (List.all_eq_true.1 c6 c (List.mem_of_getElem? hj))⟩
        rw [← hies, Array.getElem?_append_left (by rw [hzsz]; exact hlt)]
        unfold Builtin.zeroCells
        simp only [Array.getElem?_map, Array.getElem?_range, hzs, hlt, if_true, Option.map_some]
        rw [hzs] at e2
        rw [e2, getElem!_pos z.cells j hjz]
      · cases hy) false
  refine ⟨_, S, _, _, hrun, hS, ?_⟩
  rw [List.length_replicate]
  exact own_newc hge (by rw [hsize, hies]; exact Nat.le_refl _)

theorem append_ok (h : SR E st S ρ a.tmps w) (o : Oper) {x y : Operand} {t xt : TypeId} (ho : o.op = .call ⟨.builtin .append, #[x, y], #[t, xt]⟩) {r : AR} (hb : (o.dst.bind fun d => appendA G d t xt (st.ev x) (st.ev y) st) = some r) : OpDone E G.P a o w r := by
  rw [Option.bind_eq_some_iff] at hb
  obtain ⟨d, hd, hb⟩ := hb
  have hx := h.ev x
  have hy := h.ev y
  have fin : ∀ {v : Value} {w' : World} {S' : Stab} {ρ' : Rho} {av : AV} {st' : ASt}, (Builtin.append_ #[t, xt] o.type #[a.eval x, a.eval y]).run G.P w = .ok v w' → SR E st' S' ρ' a.tmps w' → VR S' ρ' w' av v → OpDone E G.P a o w (.val av st') := by
    intro v w' S' ρ' av st' hrun hsr hv
    refine ⟨_, v, w', S', ρ', ?_, .inl rfl, hsr, hv⟩
    unfold execOp; rw [ho]
    simp [resolve, invoke, builtin, hrun]
  unfold appendA at hb
  split at hb
  · rename_i e ht
    have main : ∀ (hk : (∃ e', G.P.underlying xt = some (.slice e')) ∨ G.P.underlying xt = some .string)
        (hb : ((srcEls st.hp (G.P.cellsOf e) (st.ev y)).bind fun xs =>
          if G.P.cellsOf e = 0 ∨ 4096 < ((G.P.info? e).map (·.bytes)).getD 4097 ∨ !zeroFits G.P e then none else
          match st.ev x with
          | .nils => if xs.length ≤ LIM then newObj d (.row (G.P.cellsOf e) xs false false) .own st else none
          | .own id => (aget st.hp id).bind fun
            | .row sz es fx _ => if sz = G.P.cellsOf e ∧ es.length + xs.length ≤ LIM then some (.val (.own id) { (st.killn id) with hp := hput id (.row sz (es ++ xs) fx true) (st.killn id).hp }) else none
            | _ => none
          | _ => none) = some r), OpDone E G.P a o w r := by
      intro hk hb
      rw [Option.bind_eq_some_iff] at hb
      obtain ⟨xs, hxs, hb⟩ := hb
      split at hb
      · cases hb
      · rename_i hc
        simp only [not_or, Bool.not_eq_true', Bool.not_eq_false] at hc
        obtain ⟨hc0, hcb, hcz⟩ := hc
        have h0 : 0 < G.P.cellsOf e := by omega
        obtain ⟨news, hs, hxl, hxc⟩ := src_ok (P := G.P) h.heap h0 hk hy hxs
        split at hb
        · rename_i hxe
          rw [hxe] at hx
          have ev := vr_nils hx
          split at hb
          · rename_i hL
            obtain ⟨hn, rfl⟩ := newObj_some hb
            rw [ev] at fin
            obtain ⟨v, w', S', ρ', k1, k2, k3⟩ := append_nil_ok (P := G.P) (ty := o.type) h hn (Nat.le_add_right _ _) ht rfl h0 (by omega) (by simpa using hcz) hL hs hxl hxc
            exact fin k1 k2 k3
          · cases hb
        · rename_i id hxe
          rw [hxe] at hx
          rw [Option.bind_eq_some_iff] at hb
          obtain ⟨ob, hob, hb⟩ := hb
          cases ob with
          | box v => cases hb
          | loop r l => cases hb
          | dblk => cases hb
          | row sz es fx mv =>
            simp only at hb
            split at hb
            · rename_i hL
              cases hb
              obtain ⟨v, w', S', ρ', k1, k2, k3⟩ := append_own_ok (P := G.P) (ty := o.type) h hob hx ht hL.1 (by omega) (by omega) (by simpa using hcz) hL.2 (by rw [hL.1]; exact hs) (by rw [hL.1]; exact hxl) (by rw [hL.1]; exact hxc)
              exact fin k1 k2 k3
            · cases hb
        · cases hb
    split at hb
    · rename_i e' hk; exact main (.inl ⟨e', hk⟩) hb
    · rename_i hk; exact main (.inr hk) hb
    · rename_i ki hk
      rw [Option.bind_eq_some_iff] at hb; obtain ⟨z, hz, hb⟩ := hb
      split at hb
      · rename_i n hxe hye
        split at hb
        · rename_i hc
          obtain ⟨c1, c3, c4, c5, c6, c7, c8⟩ := hc
          obtain ⟨hn, rfl⟩ := newObj_some hb
          rw [hxe] at hx; rw [hye] at hy
          rw [vr_nils hx, vr_int hy] at fin
          obtain ⟨w', S', ρ', v, k1, k2, k3⟩ := append_zeros_ok (P := G.P) (ty := o.type) h hn (Nat.le_add_right _ _) ht hk hz c1 c3 c4 c5 c6 c7 c8
          exact fin k1 k2 k3
        · cases hb
      · cases hb
    · cases hb
  · cases hb

end Go.Proofs.Ytonaejfpiihfhaa.Abs
