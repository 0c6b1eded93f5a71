/- What is kept at a loop's head, and behind a call: what is told no more is told no more. -/
import Derived.Test.YtonaejfpiihfhaaAbs19
namespace Go.Proofs.Ytonaejfpiihfhaa.Abs
open Go Go.RowKit
set_option linter.unusedSimpArgs false
set_option linter.unusedVariables false

variable {G : Cfg} {S : Stab} {ρ : Rho} {w : World} {E : Env} {st : ASt} {tm : Array Value}

/-! ### Only some names -/
def keepRho (ns : List Nat) (ρ : Rho) : Rho := fun n => if n ∈ ns then ρ n else none
theorem idMap_some {ns : List Nat} {n k : Nat} (h : aget (idMap ns) n = some k) : k = n ∧ n ∈ ns := by
  obtain ⟨m, hm, e⟩ := List.mem_map.1 (aget_mem h)
  cases e
  exact ⟨rfl, hm⟩
theorem aget_onlyHeap (F : Nat → Option AObj) (ns : List Nat) (n : Nat) : aget (ns.filterMap fun n => (F n).map fun o => (n, o)) n = if n ∈ ns then F n else none := by
  induction ns with
  | nil => simp [aget]
  | cons m ns ih =>
    simp only [List.filterMap_cons]
    cases hF : F m with
    | none =>
      simp only [Option.map_none, ih, List.mem_cons]
      by_cases e : n = m
      · subst e; simp [hF]
      · simp [e]
    | some o =>
      simp only [Option.map_some, aget_cons, List.mem_cons, ih]
      by_cases e : n = m
      · subst e; simp [hF]
      · simp [e, Ne.symm e]
theorem aget_only (ns : List Nat) (hp : Heap) (n : Nat) : aget (onlyHeap ns hp) n = if n ∈ ns then (aget hp n).map (AObj.ren (idMap ns)) else none := by
  have := aget_onlyHeap (fun n => (aget hp n).map (AObj.ren (idMap ns))) ns n
  rw [← this]
  unfold onlyHeap
  congr 2
  funext m
  cases aget hp m <;> rfl

theorem VR.only {ns : List Nat} {x : AV} {v : Value} (h : VR S ρ w x v) : VR S (keepRho ns ρ) w (x.ren (idMap ns)) v :=
  h.ren fun n k r hm hr => by obtain ⟨rfl, hn⟩ := idMap_some hm; simp [keepRho, hn, hr]

theorem HR.only {hp : Heap} (H : HR S ρ w hp) (ns : List Nat) : HR S (keepRho ns ρ) w (onlyHeap ns hp) := by
  refine ⟨fun n o ho => ?_, fun n hn => ?_, fun n m b sz sz' k k' h1 h2 => ?_⟩
  · rw [aget_only] at ho
    split at ho
    · rename_i hm
      obtain ⟨o', ho', rfl⟩ := Option.map_eq_some_iff.1 ho
      refine (H.obj n o' ho').ren (fun m k r hmk hr => ?_) (fun r hr => by simp [keepRho, hm, hr])
      obtain ⟨rfl, hn⟩ := idMap_some hmk
      simp [keepRho, hn, hr]
    · cases ho
  · rw [aget_only] at hn
    unfold keepRho
    split at hn
    · rename_i hm; rw [if_pos hm]; exact H.dom n (by simpa using hn)
    · rename_i hm; rw [if_neg hm]
  · unfold keepRho at h1 h2
    split at h1 <;> split at h2
    · exact H.inj _ _ _ _ _ _ _ h1 h2
    · cases h2
    · cases h1
    · cases h1

theorem keepRho_some {ns : List Nat} {n : Nat} {r : RI} (h : keepRho ns ρ n = some r) : n ∈ ns ∧ ρ n = some r := by
  unfold keepRho at h
  split at h
  · rename_i hn; exact ⟨hn, h⟩
  · cases h

/-- Behind a call. -/
theorem out_ok {hp : Heap} {m : List Nat} {v : AV} {u : Value} (H : HR S ρ w hp) (hm : ∀ n b sz k, ρ n = some ⟨some (b, sz), k⟩ → E.F b ∨ E.W0.heap.size ≤ b) (hold : ∀ n o, aget hp n = some o → o.moved = false → ∀ r, E.R0 n = some r → ρ n = some r)
    (hfr : FrameR E S w) (hv : VR S ρ w v u) : ∃ ρ', Out E (outOf m hp v).2 S ρ' w ∧ VR S ρ' w (outOf m hp v).1 u := by
  refine ⟨keepRho (reachL 60 hp (m ++ v.names) []) ρ, ⟨H.only _, fun n b sz k h => hm n b sz k (keepRho_some h).2, fun n o ho hmv r hr => ?_, hfr⟩, hv.only⟩
  simp only [outOf, aget_only] at ho
  split at ho
  · rename_i hn
    obtain ⟨o', ho', rfl⟩ := Option.map_eq_some_iff.1 ho
    rw [moved_ren] at hmv
    simp [keepRho, hn, hold n o' ho' hmv r hr]
  · cases ho

theorem slot_restrict (slots : List Nat) (f : Nat → AV) (t : Nat) : (aget (slots.map fun t => (t, f t)) t).getD .undef = if t ∈ slots then f t else .undef := by
  induction slots with
  | nil => simp [aget]
  | cons s l ih =>
    simp only [List.map_cons, aget_cons, List.mem_cons]
    by_cases e : s = t
    · subst e; simp
    · simp [e, Ne.symm e, ih]

theorem SR.restrict (h : SR E st S ρ tm w) (slots ns : List Nat) : SR E (restrictTo slots ns st) S (keepRho ns ρ) tm w := by
  refine ⟨fun t => ?_, h.heap.only ns, fun n b sz k hn => h.mine n b sz k (keepRho_some hn).2, fun n o ho hmv r hr => ?_, h.fr⟩
  · show VR S (keepRho ns ρ) w ((aget (slots.map fun t => (t, (st.slot t).ren (idMap ns))) t).getD .undef) _
    rw [slot_restrict slots (fun t => (st.slot t).ren (idMap ns))]
    split
    · exact (h.slot t).only
    · exact .undef _
  · have ho' : aget (onlyHeap ns st.hp) n = some o := ho
    rw [aget_only] at ho'
    split at ho'
    · rename_i hn
      obtain ⟨o', ho1, rfl⟩ := Option.map_eq_some_iff.1 ho'
      rw [moved_ren] at hmv
      simp [keepRho, hn, h.old n o' ho1 hmv r hr]
    · cases ho'

/-! ### Rows that grow get their own names -/
theorem aget_filter_ne {α : Type} (l : List (Nat × α)) (m n : Nat) : aget (l.filter fun p => p.1 != m) n = if n = m then none else aget l n := by
  induction l with
  | nil => simp [aget]
  | cons p l ih =>
    obtain ⟨k, x⟩ := p
    simp only [List.filter_cons]
    by_cases e : k = m
    · subst e
      simp only [bne_self_eq_false, Bool.false_eq_true, if_false, ih, aget_cons]
      by_cases h : n = k
      · simp [h]
      · simp [h, Ne.symm h]
    · have : (k != m) = true := by simpa using e
      simp only [this, if_true, aget_cons, ih]
      by_cases h : k = n
      · subst h; simp [e]
      · simp [h]

/-- The state's slots, and boxes, are as they were, but what led to a row that got another name. -/
theorem ownStep_ok (h : SR E st S ρ tm w) {cn sz : Nat} (hcn : 1000 ≤ cn) {v : AV} {u : Value} (hv : VR S ρ w v u) {id : Nat} {st' : ASt} (hs : ownStep cn sz v st = some (id, st')) :
    ∃ ρ', SR E st' S ρ' tm w ∧ VR S ρ' w (.own id) u ∧ ∀ n ob, aget st.hp n = some (.box ob) → ρ' n = ρ n := by
  unfold ownStep at hs
  split at hs
  · split at hs
    · cases hs
    · rename_i hn
      cases hs
      cases vr_nils hv
      exact ⟨_, h.new0 (by simpa using hn) hcn sz false false, .own0 _ (by simp [upd]), fun n ob hb => by
        have : n ≠ cn := fun e => by subst e; rw [hb] at hn; simp at hn
        simp [upd, this]⟩
  · rename_i m
    split at hs
    · cases hs; exact ⟨ρ, h, hv, fun _ _ _ => rfl⟩
    · rename_i hm
      simp only [not_or] at hm
      split at hs
      · cases hs
      · rename_i hn
        have hn' : aget st.hp cn = none := by simpa using hn
        rw [Option.bind_eq_some_iff] at hs
        obtain ⟨ob, ho, hs⟩ := hs
        cases ob with
        | box v => cases hs
        | loop r l => cases hs
        | dblk => cases hs
        | row sz' es fx mv =>
          cases hs
          have hρc : ρ cn = none := h.heap.dom cn hn'
          let ρ' : Rho := fun n => if n = cn then ρ m else if n = m then none else ρ n
          have hr : ∀ id r, id ≠ m → ρ id = some r → ρ' id = some r := by
            intro id r hid hr
            have : id ≠ cn := fun e => by subst e; rw [hρc] at hr; cases hr
            simp [ρ', this, hid, hr]
          have hcm : cn ≠ m := Ne.symm hm.1
          have get : ∀ n, aget ((cn, AObj.row sz' es fx mv) :: ((st.killn m).hp.filter fun p => p.1 != m)) n = if n = cn then some (.row sz' es fx mv) else if n = m then none else (aget st.hp n).map (AObj.kill m) := by
            intro n
            rw [aget_cons, aget_filter_ne, hp_killn]
            by_cases e : cn = n
            · subst e; simp
            · simp [e, Ne.symm e]
          refine ⟨ρ', ⟨fun t => ?_, ⟨fun n o hn => ?_, fun n hn => ?_, fun n n' b s s' k k' h1 h2 => ?_⟩, fun n b s k h1 => ?_, fun n o hn hmv r hr0 => ?_, h.fr⟩, ?_, fun n ob hb => ?_⟩
          · show VR S ρ' w ((st.killn m).slot t) _
            rw [slot_killn]; exact (h.slot t).kill m hr
          · rw [get] at hn
            split at hn
            · rename_i e
              have e3 := Option.some.inj hn
              subst e3
              subst e
              rcases h.heap.obj m _ ho with ⟨h1, h2⟩ | ⟨b, cells, t, fr, h0, h1, rest⟩
              · exact .inl ⟨h1, by simp [ρ', h2]⟩
              · exact .inr ⟨b, cells, t, fr, h0, by simp [ρ', h1], rest⟩
            · split at hn
              · cases hn
              · rename_i e1 e2
                obtain ⟨o1, ho1, rfl⟩ := Option.map_eq_some_iff.1 hn
                exact (h.heap.obj n o1 ho1).kill hr e2
          · rw [get] at hn
            split at hn
            · cases hn
            · rename_i e1
              split at hn
              · rename_i e2; simp only [ρ', if_neg e1, if_pos e2]
              · rename_i e2; simp [ρ', e1, e2]; exact h.heap.dom n (by simpa using hn)
          · simp only [ρ'] at h1 h2
            split at h1 <;> split at h2
            · rename_i a b; rw [a, b]
            · rename_i e1 e2
              split at h2
              · cases h2
              · rename_i e3; exact absurd (h.heap.inj _ _ _ _ _ _ _ h1 h2).symm e3
            · rename_i e1 e2
              split at h1
              · cases h1
              · rename_i e3; exact absurd (h.heap.inj _ _ _ _ _ _ _ h1 h2) e3
            · split at h1
              · cases h1
              · split at h2
                · cases h2
                · exact h.heap.inj _ _ _ _ _ _ _ h1 h2
          · simp only [ρ'] at h1
            split at h1
            · exact h.mine m b s k h1
            · split at h1
              · cases h1
              · exact h.mine n b s k h1
          · have hlow := E.low n r hr0
            rw [get] at hn
            rw [if_neg (by omega), if_neg (by omega)] at hn
            obtain ⟨o1, ho1, rfl⟩ := Option.map_eq_some_iff.1 hn
            rw [moved_kill] at hmv
            exact hr n r (by omega) (h.old n o1 ho1 hmv r hr0)
          · cases hv with
            | pure hp => cases hp
            | own0 _ h0 => exact .own0 cn (by simp [ρ', h0])
            | own _ b s k cap h0 hc hb => exact .own cn b s k cap (by simp [ρ', h0]) hc hb
          · have e1 : n ≠ cn := fun e => by subst e; rw [hn'] at hb; cases hb
            have e2 : n ≠ m := fun e => by subst e; rw [ho] at hb; cases hb
            simp [ρ', e1, e2]
  · cases hs

theorem SR.setSlot (h : SR E st S ρ tm w) {t : Nat} {v : AV} (hv : VR S ρ w v (tm.getD t Go.undef)) : SR E { st with sl := (t, v) :: st.sl } S ρ tm w := by
  refine ⟨fun t' => ?_, h.heap, h.mine, h.old, h.fr⟩
  show VR S ρ w ((aget ((t, v) :: st.sl) t').getD .undef) _
  rw [aget_cons]
  by_cases e : t = t'
  · subst e; simpa using hv
  · rw [if_neg e]; exact h.slot t'

theorem canonSlot_ok (h : SR E st S ρ tm w) {s : Nat × Option Nat} {st' : ASt} (hs : canonSlot s st = some st') : ∃ S' ρ', SR E st' S' ρ' tm w := by
  unfold canonSlot at hs
  split at hs
  · rename_i sz _
    obtain ⟨p, hp, rfl⟩ := Option.map_eq_some_iff.1 hs
    obtain ⟨ρ', k1, k2, _⟩ := ownStep_ok h (by omega) (h.slot s.1) (id := p.1) (st' := p.2) hp
    exact ⟨S, ρ', k1.setSlot k2⟩
  · cases hs
    obtain ⟨S', k1, k2, k3, k4⟩ := h.fix (st.slot s.1).rows
    exact ⟨S', ρ, k2.setSlot (rv_fixed h k1 k2 k3 k4 (h.slot s.1) fun n hn => hn)⟩

theorem reCell_set {v : AV} {cs : List AV} (hl : cs.length = v.cells.length) (ho : (∃ vs, v = .agg vs) ∨ ∀ c ∈ cs, ∀ vs, c ≠ .agg vs) : (reCell v cs).cells = cs := by
  cases v with
  | agg vs => rfl
  | _ =>
    simp only [AV.cells, List.length_singleton] at hl
    match cs, hl with
    | [c], _ =>
      rcases ho with ⟨vs, e⟩ | ho
      · cases e
      · have := ho c (by simp)
        cases c <;> first | rfl | exact absurd rfl (this _)

theorem box_change (h : SR E st S ρ tm w) {n : Nat} {v v' : AV} (hn : aget st.hp n = some (.box v)) (hl : v'.cells.length = v.cells.length)
    (hc : ∀ (j : Nat) c, v'.cells[j]? = some c → ∀ c0, v.cells[j]? = some c0 → ∀ u, VR S ρ w c0 u → VR S ρ w c u) : SR E { st with hp := hput n (.box v') st.hp } S ρ tm w := by
  obtain ⟨b, cells, t, fr, h1, h2, h3, h4, h5, h6⟩ := h.heap.obj n _ hn
  refine h.change hn h1 (Ext.refl S w) (fun _ _ => rfl) rfl ⟨rfl, rfl, rfl⟩ ⟨b, cells, t, fr, by rw [hl]; exact h1, h2, by rw [hl]; exact h3, h4, h5, fun j c hj => ?_⟩ (fun h => h)
  have hlt : j < v.cells.length := by rw [← hl]; exact (List.getElem?_eq_some_iff.1 hj).1
  obtain ⟨u, hu, hv⟩ := h6 j _ (List.getElem?_eq_getElem hlt)
  exact ⟨u, hu, hc j c hj _ (List.getElem?_eq_getElem hlt) u hv⟩

theorem canonCell_ok (h : SR E st S ρ tm w) {n j sz : Nat} {st' : ASt} (hs : canonCell n j sz st = some st') : ∃ ρ', SR E st' S ρ' tm w := by
  unfold canonCell at hs
  rw [Option.bind_eq_some_iff] at hs
  obtain ⟨ob, ho, hs⟩ := hs
  cases ob with
  | row s es fx mv => cases hs
  | loop r l => cases hs
  | dblk => cases hs
  | box v =>
    simp only at hs
    rw [Option.bind_eq_some_iff] at hs
    obtain ⟨c, hc, hs⟩ := hs
    rw [Option.bind_eq_some_iff] at hs
    obtain ⟨p, hp, hs⟩ := hs
    rw [Option.bind_eq_some_iff] at hs
    obtain ⟨ob2, ho2, hs⟩ := hs
    obtain ⟨b, cells, t, fr, h1, h2, h3, h4, h5, h6⟩ := h.heap.obj n _ ho
    obtain ⟨u, hu, hv⟩ := h6 j c hc
    obtain ⟨ρ', k1, k2, k3⟩ := ownStep_ok h (by omega) hv (id := p.1) (st' := p.2) hp
    cases ob2 with
    | row s es fx mv => cases hs
    | loop r l => cases hs
    | dblk => cases hs
    | box v2 =>
      simp only [Option.some.injEq] at hs
      subst hs
      obtain ⟨b', cells', t', fr', g1, g2, g3, g4, g5, g6⟩ := k1.heap.obj n _ ho2
      rw [k3 n v ho, h1] at g1
      simp only [Option.some.injEq, RI.mk.injEq, Prod.mk.injEq] at g1
      obtain ⟨⟨rfl, hlen⟩, _⟩ := g1
      rw [h2] at g2; cases g2
      have hre : (reCell v2 (v2.cells.set j (.own p.1))).cells = v2.cells.set j (.own p.1) := by
        refine reCell_set (by simp) ?_
        cases v2 with
        | agg vs => exact .inl ⟨vs, rfl⟩
        | _ =>
          right
          intro c hc vs e
          subst e
          rcases List.mem_or_eq_of_mem_set hc with hc | hc
          · simp [AV.cells] at hc
          · cases hc
      refine ⟨ρ', k1.change ho2 (b := b) (sz := v.cells.length) (k := 1) (by rw [k3 n v ho]; exact h1) (Ext.refl S w) (fun _ _ => rfl) rfl ⟨rfl, rfl, rfl⟩ ⟨b, cells, t, fr, by rw [hre, List.length_set, ← hlen, k3 n v ho]; exact h1, h2, by rw [hre, List.length_set]; exact g3, h4, h5, fun i c hi => ?_⟩ (fun h => h)⟩
      rw [hre, List.getElem?_set] at hi
      split at hi
      · rename_i e; subst e
        split at hi
        · cases hi; exact ⟨u, hu, k2⟩
        · cases hi
      · exact g6 i c hi

theorem pureCells_length (hp : Heap) (own : List Nat) : ∀ (l : List AV) (j : Nat), (pureCells hp own l j).length = l.length := by
  intro l
  induction l with
  | nil => intro j; rfl
  | cons c l ih => intro j; simp [pureCells, ih]
theorem pureCells_get (hp : Heap) (own : List Nat) : ∀ (l : List AV) (j i : Nat), (pureCells hp own l j)[i]? = (l[i]?).map fun c => if j + i ∈ own then c else c.rv hp := by
  intro l
  induction l with
  | nil => intro j i; simp [pureCells]
  | cons c l ih =>
    intro j i
    cases i with
    | zero => simp [pureCells]
    | succ i => simp only [pureCells, List.getElem?_cons_succ]; rw [ih, show j + 1 + i = j + (i + 1) by omega]
theorem pureRows_mem (own : List Nat) : ∀ (l : List AV) (j i : Nat) (c : AV) (n : Nat), l[i]? = some c → j + i ∉ own → n ∈ c.rows → n ∈ pureRows own l j := by
  intro l
  induction l with
  | nil => intro j i c n h; simp at h
  | cons x l ih =>
    intro j i c n h hi hn
    cases i with
    | zero =>
      simp at h; subst h
      simp only [pureRows, List.mem_append]
      left
      rw [if_neg (by simpa using hi)]; exact hn
    | succ i =>
      simp only [pureRows, List.mem_append]
      right
      exact ih (j + 1) i c n (by simpa using h) (by rw [show j + 1 + i = j + (i + 1) by omega]; exact hi) hn

theorem rv_notAgg (hp : Heap) {c : AV} (h : ∀ vs, c ≠ .agg vs) : ∀ vs, c.rv hp ≠ .agg vs := by
  intro vs
  cases c with
  | agg cs => exact absurd rfl (h cs)
  | own id =>
    simp only [AV.rv]; split
    · split <;> simp
    · simp
  | row id o l =>
    simp only [AV.rv]; split
    · split <;> simp
    · simp
  | _ => simp [AV.rv]

theorem canonBox_ok (h : SR E st S ρ tm w) {b : Nat × List (Nat × Nat)} {st' : ASt} (hs : canonBox b st = some st') : ∃ S', SR E st' S' ρ tm w := by
  unfold canonBox at hs
  simp only at hs
  split at hs
  case h_2 => cases hs
  rename_i v hv
  cases hs
  generalize b.2.map (·.1) = own at *
  obtain ⟨S', k1, k2, k3, k4⟩ := h.fix (pureRows own v.cells 0)
  refine ⟨S', ?_⟩
  have hv' : aget (st.fix (pureRows own v.cells 0)).hp b.1 = some (.box v) := by
    have x := k4 b.1
    rw [hv] at x
    cases hb : aget (st.fix (pureRows own v.cells 0)).hp b.1 with
    | none => simp [hb] at x
    | some o => cases o <;> simp_all
  have hre : (reCell v (pureCells st.hp own v.cells 0)).cells = pureCells st.hp own v.cells 0 := by
    refine reCell_set (pureCells_length _ _ _ _) ?_
    by_cases hva : ∃ vs, v = .agg vs
    · exact .inl hva
    · right
      intro c hc
      obtain ⟨i, hi⟩ := List.getElem?_of_mem hc
      rw [pureCells_get] at hi
      obtain ⟨x, hx, rfl⟩ := Option.map_eq_some_iff.1 hi
      have hxv : ∀ vs, x ≠ .agg vs := by
        intro vs e
        subst e
        cases v with
        | agg vs => exact hva ⟨vs, rfl⟩
        | _ => cases i with
          | zero => simp [AV.cells] at hx
          | succ i => simp [AV.cells] at hx
      split
      · exact hxv
      · exact rv_notAgg _ hxv
  refine box_change k2 hv' (by rw [hre, pureCells_length]) fun j c hj c0 hc0 u hu => ?_
  rw [hre, pureCells_get, hc0, Nat.zero_add] at hj
  simp only [Option.map_some, Option.some.injEq] at hj
  subst hj
  split
  · exact hu
  · rename_i hn
    -- the cell as it stood, told as a list
    have := hu.rv k2.heap (fun n hn' => (k3 n (pureRows_mem own v.cells 0 j c0 n hc0 (by simpa using hn) hn')).same k4)
    rw [rv_same k4] at this
    exact this

theorem canonAll_ok {α : Type} {f : α → ASt → Option ASt} (hf : ∀ x st S ρ st', SR E st S ρ tm w → f x st = some st' → ∃ S' ρ', SR E st' S' ρ' tm w) : ∀ (l : List α) {st st' : ASt} {S : Stab} {ρ : Rho}, SR E st S ρ tm w → canonAll f l st = some st' → ∃ S' ρ', SR E st' S' ρ' tm w := by
  intro l
  induction l with
  | nil => intro st st' S ρ h hc; cases hc; exact ⟨S, ρ, h⟩
  | cons x l ih =>
    intro st st' S ρ h hc
    simp only [canonAll] at hc
    rw [Option.bind_eq_some_iff] at hc
    obtain ⟨s, h1, h2⟩ := hc
    obtain ⟨S1, ρ1, k⟩ := hf x st S ρ s h h1
    exact ih k h2

/-- WHAT IS KEPT AT A LOOP'S HEAD IS SO. -/
theorem canon_ok (h : SR E st S ρ tm w) {f : FuncId} {c : Code} {st' : ASt} (hc : canon G f c st = some st') : ∃ S' ρ', SR E st' S' ρ' tm w := by
  unfold canon at hc
  rw [Option.bind_eq_some_iff] at hc; obtain ⟨K, hK, hc⟩ := hc
  rw [Option.bind_eq_some_iff] at hc; obtain ⟨s1, h1, hc⟩ := hc
  rw [Option.bind_eq_some_iff] at hc; obtain ⟨s2, h2, hc⟩ := hc
  rw [Option.bind_eq_some_iff] at hc; obtain ⟨s3, h3, hc⟩ := hc
  cases hc
  obtain ⟨S1, ρ1, k1⟩ := canonAll_ok (E := E) (tm := tm) (w := w) (fun p st S ρ st' h hc => canonAll_ok (fun j st S ρ st' h hc => let ⟨ρ', k⟩ := canonCell_ok h hc; ⟨S, ρ', k⟩) p.2 h hc) K.boxes h h1
  obtain ⟨S2, ρ2, k2⟩ := canonAll_ok (E := E) (tm := tm) (w := w) (fun s st S ρ st' h hc => canonSlot_ok h hc) K.slots k1 h2
  obtain ⟨S3, ρ3, k3⟩ := canonAll_ok (E := E) (tm := tm) (w := w) (fun s st S ρ st' h hc => let ⟨S', k⟩ := canonBox_ok h hc; ⟨S', ρ, k⟩) K.boxes k2 h3
  exact ⟨S3, _, k3.restrict _ _⟩

end Go.Proofs.Ytonaejfpiihfhaa.Abs
