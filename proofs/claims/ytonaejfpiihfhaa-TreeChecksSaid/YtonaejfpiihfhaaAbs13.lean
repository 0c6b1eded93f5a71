/- What an operation that makes, or writes, memory comes to, the machine's comes to. -/
import Derived.Test.YtonaejfpiihfhaaAbs12
import Derived.Deep.AppendSrc
import Derived.Deep.DeepAppendWide
namespace Go.Proofs.Ytonaejfpiihfhaa.Abs
open Go Go.RowKit
set_option linter.unusedSimpArgs false
set_option linter.unusedVariables false

variable {G : Cfg} {S : Stab} {ρ : Rho} {w : World} {E : Env} {st : ASt} {a : Act}

/-- What an operation comes to. -/
def OpDone (E : Env) (P : Program) (a : Act) (o : Oper) (w : World) : AR → Prop
  | .val v st' => ∃ n u w' S' ρ', (execOp a.eval o).run P w = .ok n w' ∧ (n = .value u ∨ (n = .skip ∧ u = Go.undef)) ∧ SR E st' S' ρ' a.tmps w' ∧ VR S' ρ' w' v u
  | .pan v st' => ∃ u w' S' ρ', (execOp a.eval o).run P w = .halt (.panic u) w' ∧ SR E st' S' ρ' a.tmps w' ∧ VR S' ρ' w' v u

theorem newObj_some {d : Nat} {ob : AObj} {vf : Nat → AV} {st : ASt} {r : AR} (h : newObj d ob vf st = some r) : aget st.hp (1000 + d) = none ∧ r = .val (vf (1000 + d)) { st with hp := (1000 + d, ob) :: st.hp } := by
  unfold newObj at h
  split at h
  · cases h
  · rename_i hn
    cases h
    exact ⟨by simpa using hn, rfl⟩

theorem unfrozen_new (w : World) (cells : Array Value) (t : TypeId) (n : Nat) : Unfrozen (w.alloc (.cells cells t)) w.heap.size n := fun o _ => World.frozen?_alloc_new w cells t o
theorem heap_new (w : World) (o : Obj) : (w.alloc o).heap[w.heap.size]? = some o := by
  show (w.heap.push o)[w.heap.size]? = some o
  simp

/-- A new variable. -/
theorem SR.newBox (h : SR E st S ρ a.tmps w) {n : Nat} (hn : aget st.hp n = none) (hlow : 1000 ≤ n) {x : AV} {u : Value} (hx : VR S ρ w x u) (hk : x ≠ .undef) (t : TypeId) :
    SR E { st with hp := (n, .box x) :: st.hp } S (upd ρ n ⟨some (w.heap.size, x.cells.length), 1⟩) a.tmps (w.alloc (.cells u.cells t)) := by
  have hρ : ρ n = none := h.heap.dom n hn
  have hr : ∀ id r, ρ id = some r → upd ρ n ⟨some (w.heap.size, x.cells.length), 1⟩ id = some r := by
    intro id r hid
    have : id ≠ n := fun e => by subst e; rw [hρ] at hid; cases hid
    simp [upd, this, hid]
  obtain ⟨g1, g2⟩ := vr_cells hx hk
  refine h.new hn hlow (.box x) u.cells t _ 1 ⟨w.heap.size, u.cells, t, (0, 0), by simp [upd], heap_new w _, by omega, unfrozen_new _ _ _ _, fun o ho => absurd (h.fr.bnd _ _ ho) (Nat.lt_irrefl _), fun j c hc => ?_⟩
  have hlt : j < u.cells.size := by rw [← g1]; exact (List.getElem?_eq_some_iff.1 hc).1
  exact ⟨u.cells[j], Array.getElem?_eq_getElem hlt, (g2 j c _ hc (Array.getElem?_eq_getElem hlt)).ext (Ext.alloc h.fr.bnd _) hr⟩

/-- A new row. -/
theorem SR.newRow (h : SR E st S ρ a.tmps w) {n : Nat} (hn : aget st.hp n = none) (hlow : 1000 ≤ n) {sz : Nat} {es : List AV} (h0 : 0 < sz) (hs : ∀ e ∈ es, e.cells.length = sz) (cells : Array Value) (t : TypeId) (hl : es.length * sz ≤ cells.size)
    (hc : ∀ (i j : Nat) e c, es[i]? = some e → e.cells[j]? = some c → ∃ u, cells[i * sz + j]? = some u ∧ PR S w c u ∧ scalarV u = true) (mv : Bool) :
    SR E { st with hp := (n, .row sz es false mv) :: st.hp } S (upd ρ n ⟨some (w.heap.size, sz), es.length⟩) a.tmps (w.alloc (.cells cells t)) := by
  refine h.new hn hlow (.row sz es false mv) cells t _ _ (.inr ⟨w.heap.size, cells, t, (0, 0), h0, by simp [upd], hs, heap_new w _, hl, unfrozen_new _ _ _ _, fun i j e c he hj => ?_, fun o ho => absurd (h.fr.bnd _ _ ho) (Nat.lt_irrefl _)⟩)
  obtain ⟨u, hu, hp, hq⟩ := hc i j e c he hj
  exact ⟨u, hu, hp.ext (Ext.alloc h.fr.bnd _), (fun e => by cases e), hq⟩

theorem run_newVar {P : Program} {t : TypeId} {v : Value} : (newVar t v).run P w = .ok ⟨w.heap.size, 0, none⟩ (w.alloc (.cells v.cells t)) := rfl

theorem okCells_known {v : AV} (h : okCells v = true) : v ≠ .undef := by intro e; subst e; simp [okCells, AV.cells, okCell] at h

theorem okCells_scalar {x : AV} {u : Value} (hx : VR S ρ w x u) (hk : okCells x = true) : ∀ c ∈ u.cells.toList, scalarV c = true := by
  intro c hc
  obtain ⟨j, hj⟩ := List.getElem?_of_mem hc
  obtain ⟨g1, g2⟩ := vr_cells hx (okCells_known hk)
  have hlt : j < u.cells.size := by simpa using (List.getElem?_eq_some_iff.1 hj).1
  have hlt' : j < x.cells.length := by omega
  have hcx := List.getElem?_eq_getElem hlt'
  have := g2 j _ c hcx (by simpa using hj)
  refine vr_scalar this ?_
  unfold okCells at hk
  exact List.all_eq_true.1 hk _ (List.mem_of_getElem? hcx)

/-! ### Rows laid out -/
theorem fillRow {k : Nat} (ys : List AV) : ∀ (s : Nat) {cs r : List AV}, fillA (fun i => some (i * k, k)) cs (zipIx ys s) = some r → (∀ y ∈ ys, y.cells.length = k) ∧ r.length = cs.length ∧
    (∀ (i j : Nat) y c, ys[i]? = some y → y.cells[j]? = some c → r[(s + i) * k + j]? = some c) ∧ (∀ j, j < s * k → r[j]? = cs[j]?) := by
  induction ys with
  | nil => intro s cs r h; cases h; exact ⟨fun y hy => by simp at hy, rfl, fun i j y c hi => by simp at hi, fun _ _ => rfl⟩
  | cons y ys ih =>
    intro s cs r h
    simp only [zipIx, fillA, Option.bind_some] at h
    split at h
    · rename_i hc
      obtain ⟨c1, c2, c3⟩ := hc
      obtain ⟨e1, e2, e3, e4⟩ := ih (s + 1) h
      have hle : s * k + y.cells.length ≤ cs.length := by omega
      refine ⟨?_, by rw [e2, putA_length hle], ?_, ?_⟩
      · intro z hz
        rcases List.mem_cons.1 hz with rfl | hz
        · exact c1
        · exact e1 z hz
      · intro i j z c hi hj
        cases i with
        | zero =>
          simp at hi; subst hi
          have hjk : j < k := by rw [← c1]; exact (List.getElem?_eq_some_iff.1 hj).1
          rw [Nat.add_zero, e4 _ (by rw [Nat.add_mul]; omega), putA_get hle, if_pos (by omega)]
          rw [show s * k + j - s * k = j by omega]; exact hj
        | succ i =>
          have := e3 i j z c (by simpa using hi) hj
          rw [show s + (i + 1) = s + 1 + i by omega]; exact this
      · intro j hj
        rw [e4 j (by rw [Nat.add_mul]; omega), putA_get hle, if_neg (by omega)]
    · cases h

theorem fillRow_some {k : Nat} (ys : List AV) (hk : ∀ y ∈ ys, y.cells.length = k ∧ okCells y = true) : ∀ (s : Nat) (cs : List AV), (s + ys.length) * k ≤ cs.length → ∃ r, fillA (fun i => some (i * k, k)) cs (zipIx ys s) = some r := by
  induction ys with
  | nil => intro s cs _; exact ⟨cs, rfl⟩
  | cons y ys ih =>
    intro s cs hl
    simp only [List.length_cons] at hl
    obtain ⟨k1, k2⟩ := hk y (by simp)
    have hle : s * k + k ≤ cs.length := by
      have : (s + 1) * k ≤ (s + (ys.length + 1)) * k := Nat.mul_le_mul_right _ (by omega)
      rw [Nat.add_mul, Nat.one_mul] at this; omega
    simp only [zipIx, fillA, Option.bind_some]
    rw [if_pos ⟨k1, hle, by cases y <;> simp [AV.known]; simp [okCells, AV.cells, okCell] at k2⟩]
    exact ih (fun z hz => hk z (by simp [hz])) (s + 1) _ (by rw [putA_length (by omega)]; rw [show s + 1 + ys.length = s + (ys.length + 1) by omega]; exact hl)

/-! ### Where what is appended comes from -/
theorem src_ok {P : Program} {hp : Heap} (H : HR S ρ w hp) {k : Nat} {t : TypeId} {x : AV} {u : Value} {xs : List AV} (h0 : 0 < k) (hk : (∃ e', P.underlying t = some (.slice e')) ∨ P.underlying t = some .string) (hx : VR S ρ w x u) (h : srcEls hp k x = some xs) :
    ∃ news, Src P k t u xs.length news w ∧ (∀ e ∈ xs, e.cells.length = k) ∧ ∀ (i j : Nat) e c, xs[i]? = some e → e.cells[j]? = some c → ∃ z, news[i * k + j]? = some z ∧ PR S w c z ∧ scalarV z = true := by
  have ofEmpty : ∀ (ad : Option Addr) (c : Nat), Src P k t (.slice ad 0 c) 0 [] w := by
    intro ad c
    refine ⟨hk, fun _ => rfl, ?_, ?_, by simp, fun _ h => by cases h⟩
    · cases ad <;> simp [Builtin.firstCells, loadCells, loadCellsFrom]
    · cases ad <;> simp [Builtin.firstCells, loadCells, loadCellsFrom]
  -- cells that stand one behind the other
  have ofCells : ∀ (b off n cap : Nat) (es : List AV) (cellAt : Nat → Nat → Value), n = es.length → (∀ e ∈ es, e.cells.length = k) →
      (∀ (i j : Nat) e c, es[i]? = some e → e.cells[j]? = some c → w.cell? (at0 b (off + i * k + j)) = some (cellAt i j) ∧ PR S w c (cellAt i j) ∧ scalarV (cellAt i j) = true) →
      ∃ news, Src P k t (.slice (some (at0 b off)) n cap) n news w ∧ (∀ e ∈ es, e.cells.length = k) ∧ ∀ (i j : Nat) e c, es[i]? = some e → e.cells[j]? = some c → ∃ z, news[i * k + j]? = some z ∧ PR S w c z ∧ scalarV z = true := by
    intro b off n cap es cellAt hn hs hc
    have hdiv : ∀ m, m < es.length * k → m / k < es.length ∧ m % k < k := fun m hm => ⟨(Nat.div_lt_iff_lt_mul h0).2 hm, Nat.mod_lt _ h0⟩
    have hel : ∀ m, m < es.length * k → w.cell? (at0 b (off + m)) = some (cellAt (m / k) (m % k)) ∧ scalarV (cellAt (m / k) (m % k)) = true := by
      intro m hm
      obtain ⟨d1, d2⟩ := hdiv m hm
      have he := List.getElem?_eq_getElem d1
      have hl := hs _ (List.mem_of_getElem? he)
      have hj := List.getElem?_eq_getElem (l := es[m / k].cells) (i := m % k) (by omega)
      obtain ⟨c1, c2, c3⟩ := hc _ _ _ _ he hj
      have : off + m / k * k + m % k = off + m := by have := Nat.div_add_mod m k; rw [Nat.mul_comm] at this; omega
      rw [this] at c1
      exact ⟨c1, c3⟩
    refine ⟨(List.range (n * k)).map fun m => cellAt (m / k) (m % k), ?_, hs, ?_⟩
    · subst hn
      have hl := run_loadCells (P := P) (w := w) (b := b) (o := off) (n := es.length * k) (fun m => cellAt (m / k) (m % k)) (fun j hj => (hel j hj).1)
      have hld := run_loadCells (P := P) (w := w.drew) (b := b) (o := off) (n := es.length * k) (fun m => cellAt (m / k) (m % k)) (fun j hj => (hel j hj).1)
      refine ⟨hk, fun _ => rfl, hl, hld, by simp, fun u hu => ?_⟩
      obtain ⟨m, hm, rfl⟩ := List.mem_map.1 hu
      have := (hel m (List.mem_range.1 hm)).2
      generalize cellAt (m / k) (m % k) = z at this
      cases z <;> first | rfl | cases this
    · intro i j e c he hj
      obtain ⟨c1, c2, c3⟩ := hc i j e c he hj
      have hi : i < es.length := (List.getElem?_eq_some_iff.1 he).1
      have hjk : j < k := by rw [← hs e (List.mem_of_getElem? he)]; exact (List.getElem?_eq_some_iff.1 hj).1
      have hlt : i * k + j < n * k := by
        have : (i + 1) * k ≤ n * k := Nat.mul_le_mul_right _ (by omega)
        rw [Nat.add_mul, Nat.one_mul] at this; omega
      have e1 : (i * k + j) / k = i := by rw [Nat.mul_comm, Nat.mul_add_div h0, Nat.div_eq_of_lt hjk, Nat.add_zero]
      have e2 : (i * k + j) % k = j := by rw [Nat.mul_comm, Nat.mul_add_mod, Nat.mod_eq_of_lt hjk]
      refine ⟨cellAt i j, ?_, c2, c3⟩
      simp [hlt, e1, e2]
  unfold srcEls at h
  split at h
  · split at h
    · rename_i hsz; subst hsz; cases h
      cases hx with
      | pure hx => cases hx with
        | empty _ ad c => exact ⟨[], ofEmpty ad c, fun e he => by simp at he, fun i j e c he => by simp at he⟩
        | list _ b off cap _ f p0 hc hs hS hw hq hp => exact ofCells b off _ cap xs f rfl hs fun i j e c he hj => ⟨hw i j e c he hj, hp i j e c he hj, hq i j e c he hj⟩
    · split at h
      · rename_i hz; obtain ⟨rfl, rfl⟩ := hz; cases h
        cases hx with
        | pure hx => cases hx with
          | empty _ ad c => exact ⟨[], ofEmpty ad c, fun e he => by simp at he, fun i j e c he => by simp at he⟩
          | list => omega
      · cases h
  · cases h; cases vr_nils hx
    exact ⟨[], ofEmpty none 0, fun e he => by simp at he, fun i j e c he => by simp at he⟩
  · rename_i l
    split at h
    · rename_i hk1; subst hk1; cases h
      obtain ⟨s, rfl, rfl⟩ := vr_str hx
      refine ⟨byteCells s, ?_, ?_, ?_⟩
      · have := byteCells_length s
        refine ⟨hk, fun _ => ?_, ?_, ?_, ?_, ?_⟩
        · simp [Builtin.lenOf]
        · have := firstCells_string (P := P) s w; simpa using this
        · have := firstCells_string (P := P) s w.drew; simpa using this
        · rw [this]; simp
        · intro u hu; obtain ⟨_, _, rfl⟩ := List.mem_map.1 hu; rfl
      · intro e he; obtain ⟨b, _, rfl⟩ := List.mem_map.1 he; rfl
      · intro i j e c he hj
        simp only [List.getElem?_map] at he
        obtain ⟨b, hb, rfl⟩ := Option.map_eq_some_iff.1 he
        cases j with
        | zero =>
          simp [AV.cells] at hj; subst hj
          exact ⟨.int .u8 b.toNat, by simp [byteCells, hb], .int _ _, rfl⟩
        | succ j => simp [AV.cells] at hj
    · cases h
  · rename_i id
    rw [Option.bind_eq_some_iff] at h
    obtain ⟨ob, ho, h⟩ := h
    cases ob with
    | box v => cases h
    | loop r l => cases h
    | dblk => cases h
    | row sz es fx mv =>
      simp only at h
      split at h
      · rename_i hsz; subst hsz; cases h
        cases hx with
        | pure hx => cases hx
        | own0 _ hρ => rw [row0_of H ho hρ]; exact ⟨[], ofEmpty none 0, fun e he => by simp at he, fun i j e c he => by simp at he⟩
        | own _ b s n cap hρ hc hr =>
          obtain ⟨rfl, rfl, _, hs, cells, t', fr, g2, _, _, g5, _⟩ := rowobj_of H ho hρ
          refine ofCells b 0 _ cap xs (fun i j => cells[i * s + j]?.getD default) rfl hs fun i j e c he hj => ?_
          obtain ⟨z, hz, hp, _, hq⟩ := g5 i j e c he hj
          refine ⟨by rw [cell_block g2, Nat.zero_add, hz]; rfl, ?_, ?_⟩
          · simp only [hz, Option.getD_some]; exact hp
          · simp only [hz, Option.getD_some]; exact hq
      · cases h
  · rename_i id o l
    rw [Option.bind_eq_some_iff] at h
    obtain ⟨ob, ho, h⟩ := h
    cases ob with
    | box v => cases h
    | loop r l => cases h
    | dblk => cases h
    | row sz es fx mv =>
      simp only at h
      split at h
      · rename_i hc0
        obtain ⟨hsz, hol⟩ := hc0
        subst hsz; cases h
        have hlen : ((es.drop o).take l).length = l := by simp; omega
        cases hx with
        | pure hx => cases hx
        | row0 => rw [List.take_zero]; exact ⟨[], ofEmpty _ _, fun e he => by simp at he, fun i j e c he => by simp at he⟩
        | row _ _ _ b s n cap hρ hl =>
          obtain ⟨rfl, rfl, _, hs, cells, t', fr, g2, _, _, g5, _⟩ := rowobj_of H ho hρ
          rw [hlen]
          refine ofCells b (o * s) l cap _ (fun i j => cells[(o + i) * s + j]?.getD default) hlen.symm (fun e he => hs e (List.mem_of_mem_drop (List.mem_of_mem_take he))) fun i j e c he hj => ?_
          have he' : es[o + i]? = some e := by
            rw [List.getElem?_take] at he
            split at he
            · rwa [List.getElem?_drop] at he
            · cases he
          obtain ⟨z, hz, hp, _, hq⟩ := g5 (o + i) j e c he' hj
          refine ⟨by rw [cell_block g2, ← Nat.add_mul, hz]; rfl, ?_, ?_⟩
          · simp only [hz, Option.getD_some]; exact hp
          · simp only [hz, Option.getD_some]; exact hq
      · cases h
  · cases h

end Go.Proofs.Ytonaejfpiihfhaa.Abs
