/- What an operation that makes, or writes, memory comes to, the machine's comes to: all of them but calls. -/
import Derived.Test.YtonaejfpiihfhaaAbs13
namespace Go.Proofs.Ytonaejfpiihfhaa.Abs
open Go Go.RowKit
set_option linter.unusedSimpArgs false
set_option linter.unusedVariables false

variable {G : Cfg} {S : Stab} {ρ : Rho} {w : World} {E : Env} {st : ASt} {a : Act}

theorem kill_row (n sz : Nat) (es : List AV) (fx mv : Bool) : AObj.kill n (.row sz es fx mv) = .row sz es fx mv := rfl

theorem zeroFits_ok {P : Program} {e : TypeId} (h : zeroFits P e = true) : ∃ z, (P.info? e).bind (·.zero) = some z ∧ z.cells.size = P.cellsOf e := by
  unfold zeroFits at h
  split at h
  · rename_i z hz
    simp only [Bool.and_eq_true, beq_iff_eq] at h
    have := (vr_cells (vr_ofValue (S := fun _ _ => False) (ρ := fun _ => none) (w := default) z) (by intro e; rw [e] at h; simp [AV.known] at h)).1
    exact ⟨z, hz, by omega⟩
  · cases h

/-- The kit's cells written one behind the other are these. -/
theorem setCells_kit (b : Nat) (l : List Value) : ∀ (w : World) (o : Nat), w.setCells b o l = setCells w b o l := by
  induction l with
  | nil => intro w o; rfl
  | cons v l ih => intro w o; simp only [World.setCells, setCells, at0]; exact ih _ _

/-- A row's object, its content laid out anew in a new block. -/
theorem SR.growNew {t : TypeId} (h : SR E st S ρ a.tmps w) {id sz : Nat} {es : List AV} {fx : Bool} {o0 : AObj} (ho : aget st.hp id = some o0) (h0 : 0 < sz) (hl : ∀ x ∈ es, x.cells.length = sz) (cells : Array Value) (hsz : es.length * sz ≤ cells.size)
    (hc : ∀ (i j : Nat) e c, es[i]? = some e → e.cells[j]? = some c → ∃ q, cells[i * sz + j]? = some q ∧ PR S w c q ∧ scalarV q = true) :
    ∃ S', SR E { sl := (st.killn id).sl, hp := hput id (.row sz es fx true) (st.killn id).hp } S' (upd ρ id ⟨some (w.heap.size, sz), es.length⟩) a.tmps (w.alloc (.cells cells t)) := by
  let S' : Stab := fun b o => S b o ∨ (fx = true ∧ b = w.heap.size ∧ o < es.length * sz)
  have hx : Ext S w S' (w.alloc (.cells cells t)) := ⟨fun _ _ x => .inl x, (Ext.alloc h.fr.bnd _).cell, (Ext.alloc h.fr.bnd _).shape⟩
  have hs : Step E S w S' (w.alloc (.cells cells t)) := by
    have k := Step.alloc h.fr (.cells cells t)
    refine ⟨hx, k.size, k.keep, k.dfr, ?_, ?_, rfl, rfl, rfl⟩
    · rintro b o (x | ⟨_, x, _⟩)
      · exact .inl x
      · exact .inr (.inr (by rw [x]; exact h.fr.size))
    · rintro b o (x | ⟨_, x, _⟩)
      · exact k.bnd b o x
      · rw [x]; simp
  refine ⟨S', h.regrow ho hs ?_ ?_ (.inr ⟨w.heap.size, cells, t, (0, 0), h0, by simp [upd], hl, heap_new w _, hsz, unfrozen_new _ _ _ _, ?_, ?_⟩) rfl⟩
  · intro m b s k _ hb
    have hlt := h.heap.lt hb
    refine ⟨Below.heap_alloc w _ b hlt, ?_⟩
    rintro i (x | ⟨_, x, _⟩)
    · exact x
    · omega
  · intro b s k e
    cases e
    exact ⟨.inr h.fr.size, fun m s' k' _ hb => absurd (h.heap.lt hb) (Nat.lt_irrefl _)⟩
  · intro i j e c he hj
    obtain ⟨q, hq, hp, hsc⟩ := hc i j e c he hj
    refine ⟨q, hq, hp.ext hx, fun hf => .inr ⟨hf, rfl, ?_⟩, hsc⟩
    have hi : i < es.length := (List.getElem?_eq_some_iff.1 he).1
    have hjk : j < sz := by rw [← hl e (List.mem_of_getElem? he)]; exact (List.getElem?_eq_some_iff.1 hj).1
    have : (i + 1) * sz ≤ es.length * sz := Nat.mul_le_mul_right _ hi
    rw [Nat.add_mul, Nat.one_mul] at this; omega
  · rintro o (x | ⟨hf, _, x⟩)
    · exact absurd (h.fr.bnd _ _ x) (Nat.lt_irrefl _)
    · exact ⟨hf, x⟩

/-- A row's object, more laid behind it in its own block. -/
theorem SR.growIn (h : SR E st S ρ a.tmps w) {id sz : Nat} {es xs : List AV} {fx mv : Bool} (ho : aget st.hp id = some (.row sz es fx mv)) {b : Nat} (hρ : ρ id = some ⟨some (b, sz), es.length⟩)
    {cells : Array Value} {t : TypeId} {fr : Nat × Nat} (hb : w.heap[b]? = some (.cells cells t fr)) {news : List Value} (hnl : news.length = xs.length * sz) (hroom : (es.length + xs.length) * sz ≤ cells.size)
    (hxl : ∀ x ∈ xs, x.cells.length = sz) (hx : ∀ (i j : Nat) e c, xs[i]? = some e → e.cells[j]? = some c → ∃ z, news[i * sz + j]? = some z ∧ PR S w c z ∧ scalarV z = true) :
    ∃ S', SR E { sl := (st.killn id).sl, hp := hput id (.row sz (es ++ xs) fx true) (st.killn id).hp } S' (upd ρ id ⟨some (b, sz), (es ++ xs).length⟩) a.tmps (setCells w b (es.length * sz) news) ∧
      ∃ c' , (setCells w b (es.length * sz) news).heap[b]? = some (.cells c' t fr) ∧ c'.size = cells.size := by
  obtain ⟨_, _, h0, hl, cells', t', fr', g2, g3, g4, g5, g6⟩ := rowobj_of h.heap ho hρ
  rw [hb] at g2; cases g2
  let S' : Stab := fun b' o => S b' o ∨ (fx = true ∧ b' = b ∧ o < (es ++ xs).length * sz)
  rw [Nat.add_mul] at hroom
  obtain ⟨c', k1, k2, k3, k4⟩ := setCells_block b news w (es.length * sz) cells t fr hb (by omega)
  have hstab : ∀ b' o, S b' o → (setCells w b (es.length * sz) news).cell? (at0 b' o) = w.cell? (at0 b' o) := by
    intro b' o hS
    by_cases e : b' = b
    · subst e
      rw [cell_block k1, cell_block hb]
      exact k3 o (.inl (g6 o hS).2)
    · exact cell_same (setCells_other b news w _ b' e) o
  have hxt : Ext S w S' (setCells w b (es.length * sz) news) := by
    refine ⟨fun _ _ x => .inl x, hstab, fun b' c t' fr' hb' => ?_⟩
    by_cases e : b' = b
    · subst e; rw [hb] at hb'; cases hb'; exact ⟨c', k1, k2⟩
    · exact ⟨c, by rw [setCells_other b news w _ b' e]; exact hb', rfl⟩
  have hmine := h.mine id b sz _ hρ
  have hs : Step E S w S' (setCells w b (es.length * sz) news) := by
    refine ⟨hxt, by rw [setCells_size]; exact Nat.le_refl _, fun b' hb' hF => ?_, fun b' hb' => ?_, ?_, ?_, (setCells_outer b news w _).1, (setCells_outer b news w _).2.1, (setCells_outer b news w _).2.2⟩
    · refine setCells_other b news w _ b' fun e => ?_
      subst e
      rcases hmine with hh | hh
      · exact hF hh
      · omega
    · have hne : b' ≠ b := fun e => by subst e; rw [hb] at hb'; cases hb'
      rw [setCells_other b news w _ b' hne]; exact hb'
    · rintro b' o (x | ⟨_, rfl, _⟩)
      · exact .inl x
      · exact .inr hmine
    · rintro b' o (x | ⟨_, rfl, _⟩)
      · rw [setCells_size]; exact h.fr.bnd b' o x
      · rw [setCells_size]; exact lt_of_block hb
  refine ⟨S', h.regrow ho hs ?_ ?_ (.inr ⟨b, c', t, fr, h0, by simp [upd], ?_, k1, ?_, ?_, ?_, ?_⟩) rfl, c', k1, k2⟩
  · intro m b' s k hm hb'
    have hne : b' ≠ b := fun e => by subst e; exact hm (h.heap.inj _ _ _ _ _ _ _ hb' hρ)
    refine ⟨setCells_other b news w _ b' hne, ?_⟩
    rintro i (x | ⟨_, x, _⟩)
    · exact x
    · exact absurd x hne
  · intro b' s k e
    cases e
    exact ⟨hmine, fun m s' k' hm hb' => hm (h.heap.inj _ _ _ _ _ _ _ hb' hρ)⟩
  · intro e he
    rcases List.mem_append.1 he with he | he
    · exact hl e he
    · exact hxl e he
  · rw [List.length_append, Nat.add_mul]; omega
  · intro o ho'
    rw [frozen_block hb k1]; exact g4 o (by omega)
  · intro i j e c he hj
    by_cases hi : i < es.length
    · rw [List.getElem?_append_left hi] at he
      obtain ⟨u, hu, hp, hf, hq⟩ := g5 i j e c he hj
      have hjk : j < sz := by rw [← hl e (List.mem_of_getElem? he)]; exact (List.getElem?_eq_some_iff.1 hj).1
      have : (i + 1) * sz ≤ es.length * sz := Nat.mul_le_mul_right _ hi
      rw [Nat.add_mul, Nat.one_mul] at this
      exact ⟨u, by rw [k3 _ (.inl (by omega))]; exact hu, hp.ext hxt, fun hfx => .inl (hf hfx), hq⟩
    · rw [List.getElem?_append_right (by omega)] at he
      obtain ⟨q, hq, hp, hsc⟩ := hx (i - es.length) j e c he hj
      have hlt : (i - es.length) * sz + j < news.length := (List.getElem?_eq_some_iff.1 hq).1
      have e1 : es.length * sz + ((i - es.length) * sz + j) = i * sz + j := by rw [← Nat.add_assoc, ← Nat.add_mul]; congr 2; omega
      have := k4 _ hlt
      rw [e1] at this
      refine ⟨q, this.trans hq, hp.ext hxt, fun hfx => .inr ⟨hfx, rfl, ?_⟩, hsc⟩
      rw [List.length_append, Nat.add_mul]; omega
  · rintro o (x | ⟨hfx, _, x⟩)
    · have := g6 o x
      refine ⟨this.1, ?_⟩
      rw [List.length_append, Nat.add_mul]; omega
    · exact ⟨hfx, x⟩

/-- 'append' onto a row of the call's own. -/
theorem append_own_ok {P : Program} (h : SR E st S ρ a.tmps w) {id sz : Nat} {es xs : List AV} {fx mv : Bool} (ho : aget st.hp id = some (.row sz es fx mv)) {t tx ty e : TypeId} {u ux : Value} (hu : VR S ρ w (.own id) u)
    (ht : P.underlying t = some (.slice e)) (hsz : sz = P.cellsOf e) (h0 : 0 < sz) (hb : ((P.info? e).map (·.bytes)).getD 4097 ≤ 4096) (hz : zeroFits P e = true) (hL : es.length + xs.length ≤ LIM)
    {news : List Value} (hs : Src P sz tx ux xs.length news w) (hxl : ∀ x ∈ xs, x.cells.length = sz)
    (hx : ∀ (i j : Nat) e c, xs[i]? = some e → e.cells[j]? = some c → ∃ z, news[i * sz + j]? = some z ∧ PR S w c z ∧ scalarV z = true) :
    ∃ v w' S' ρ', (Builtin.append_ #[t, tx] ty #[u, ux]).run P w = .ok v w' ∧ SR E { sl := (st.killn id).sl, hp := hput id (.row sz (es ++ xs) fx true) (st.killn id).hp } S' ρ' a.tmps w' ∧ VR S' ρ' w' (.own id) v := by
  obtain ⟨ie, hie, hies⟩ := info_of_cells (P := P) (t := e) (by omega)
  obtain ⟨z, hz, hzs⟩ := zeroFits_ok hz
  have hz' : ie.zero = some z := by rw [hie] at hz; simpa using hz
  have hby : ie.bytes ≤ 4096 := by rw [hie] at hb; simpa using hb
  have hs' : Src P ie.size tx ux xs.length news w := by rw [hies, ← hsz]; exact hs
  unfold LIM at hL
  have fits : ∀ (n cap : Nat), cap < n → n ≤ 4294967296 → Builtin.nextslicecap n cap * ie.bytes ≤ 281474976710656 := by
    intro n cap hc hn
    have h1 := nextslicecap_le_wide (need := n) (old := cap) hc
    calc Builtin.nextslicecap n cap * ie.bytes ≤ (n + n / 4 + 192) * 4096 := Nat.mul_le_mul h1 hby
      _ ≤ 281474976710656 := by omega
  have hnl : news.length = xs.length * sz := hs.newsLen
  -- what is laid out anew holds both
  have grow : ∀ (n cap0 : Nat) (base : Option Addr) (olds : List Value), n = es.length → olds.length = n * sz → cap0 < n + xs.length → (∀ x ∈ es, x.cells.length = sz) →
      (Builtin.firstCells ie.size n (.slice base n cap0)).run P w.drew = .ok olds.toArray w.drew →
      (∀ (i j : Nat) e c, es[i]? = some e → e.cells[j]? = some c → ∃ q, olds[i * sz + j]? = some q ∧ PR S w c q ∧ scalarV q = true) →
      ∃ v w' S' ρ', (Builtin.append_ #[t, tx] ty #[.slice base n cap0, ux]).run P w = .ok v w' ∧ SR E { sl := (st.killn id).sl, hp := hput id (.row sz (es ++ xs) fx true) (st.killn id).hp } S' ρ' a.tmps w' ∧ VR S' ρ' w' (.own id) v := by
    intro n cap0 base olds hn hol hcap hel hold hc
    have hrun := run_append_grow_src (P := P) w t tx ty e ie z ht hie hz' base n cap0 olds hold ux xs.length news hs' hcap (by omega) (fits _ _ hcap (by omega))
    have hge := grownCap_ge w (n + xs.length) cap0 e
    generalize hcp : grownCap w (n + xs.length) cap0 e = cap at hrun hge
    have hsize : ((olds ++ news).toArray ++ Builtin.zeroCells z.cells (cap - (n + xs.length))).size = cap * sz := by
      simp only [Array.size_append, List.size_toArray, List.length_append, size_zeroCells, hzs, hol, hnl, ← hsz]
      rw [← Nat.add_mul, ← Nat.add_mul]; congr 1; omega
    have hlen : (es ++ xs).length = n + xs.length := by rw [List.length_append, hn]
    obtain ⟨S', hS⟩ := h.drew.growNew (fx := fx) (t := e) ho (sz := sz) (es := es ++ xs) h0 (fun x hx' => (List.mem_append.1 hx').elim (hel x) (hxl x)) ((olds ++ news).toArray ++ Builtin.zeroCells z.cells (cap - (n + xs.length)))
      (by rw [hsize, hlen]; exact Nat.mul_le_mul_right _ hge) (fun i j e c he hj => by
        have get : ∀ (m : Nat) (q : Value), (olds ++ news)[m]? = some q → ((olds ++ news).toArray ++ Builtin.zeroCells z.cells (cap - (n + xs.length)))[m]? = some q := by
          intro m q hq
          have : m < (olds ++ news).length := (List.getElem?_eq_some_iff.1 hq).1
          rw [Array.getElem?_append_left (by simpa using this)]
          simpa using hq
        by_cases hi : i < es.length
        · rw [List.getElem?_append_left hi] at he
          obtain ⟨q, hq, hp, hsc⟩ := hc i j e c he hj
          exact ⟨q, get _ _ (by rw [List.getElem?_append_left (List.getElem?_eq_some_iff.1 hq).1]; exact hq), hp.ext (Ext.drew S w), hsc⟩
        · rw [List.getElem?_append_right (by omega)] at he
          obtain ⟨q, hq, hp, hsc⟩ := hx (i - es.length) j e c he hj
          refine ⟨q, get _ _ ?_, hp.ext (Ext.drew S w), hsc⟩
          have e1 : i * sz + j - olds.length = (i - es.length) * sz + j := by
            rw [hol, hn]
            have : es.length * sz ≤ i * sz := Nat.mul_le_mul_right _ (by omega)
            rw [Nat.sub_mul]; omega
          have : es.length * sz ≤ i * sz := Nat.mul_le_mul_right _ (by omega)
          rw [List.getElem?_append_right (by rw [hol, hn]; omega), e1]; exact hq)
    refine ⟨_, _, S', _, hrun, hS, ?_⟩
    rw [← hlen]
    refine .own id w.heap.size sz _ cap (by simp [upd]) (by rw [hlen]; exact hge) ⟨_, e, (0, 0), heap_new w.drew _, by rw [hlen, hsize]; exact Nat.le_refl _⟩
  cases hu with
  | pure hp => cases hp
  | own0 _ hρ =>
    have hes := row0_of h.heap ho hρ; subst hes
    by_cases hxs : xs = []
    · subst hxs
      refine ⟨.slice none 0 0, w, S, upd ρ id ⟨none, 0⟩, ?_, ?_, .own0 id (by simp [upd])⟩
      · rcases hs.kind with ⟨e', hk⟩ | hk <;> (have hn : news = [] := List.length_eq_zero_iff.1 (by simpa using hnl); have hcl := hs'.cells; have hln := hs.len w; subst hn; simp only [List.length_nil] at hcl hln; simp [Builtin.append_, run_underlying ht, run_underlying hk, sizeOf, typeInfo, hie, hln, hcl])
      · refine h.regrow ho ⟨Ext.refl S w, Nat.le_refl _, fun _ _ _ => rfl, fun _ h => h, fun _ _ x => .inl x, h.fr.bnd, rfl, rfl, rfl⟩ (fun m b s k _ hb => ⟨rfl, fun _ x => x⟩) (fun b s k e => by cases e) (.inl ⟨rfl, by simp [upd]⟩) rfl
    · have hpos : 0 < xs.length := List.length_pos_iff.2 hxs
      exact grow 0 0 none [] rfl (by simp) (by omega) (fun x hx' => by simp at hx') (by simp [Builtin.firstCells]) (fun i j e c he => by simp at he)
  | own _ b s n cap hρ hcap hr =>
    obtain ⟨rfl, rfl, _, hel, cells, t', fr, g2, g3, g4, g5, g6⟩ := rowobj_of h.heap ho hρ
    obtain ⟨c0, t0, fr0, r1, r2⟩ := hr
    rw [g2] at r1; cases r1
    have old : ∀ (i j : Nat) e c, es[i]? = some e → e.cells[j]? = some c → w.cell? (at0 b (i * s + j)) = some (cells[i * s + j]?.getD default) := by
      intro i j e c he hj
      obtain ⟨u, hu, _⟩ := g5 i j e c he hj
      rw [cell_block g2, hu]; rfl
    by_cases hfit : es.length + xs.length ≤ cap
    · have hroom : (es.length + xs.length) * s ≤ cells.size := Nat.le_trans (Nat.mul_le_mul_right _ hfit) r2
      have hrun := run_append_room_src (P := P) w t tx ty e ie ht hie b 0 es.length cap ux xs.length news hs' hfit
        (fun j hj => by rw [hies, ← hsz, Nat.zero_add]; have := cell_block (w := w) g2 (es.length * s + j); simp only [at0] at this; rw [this]; rw [Nat.add_mul] at hroom; simp; omega)
        (fun j hj => by rw [hies, ← hsz, Nat.zero_add]; rw [Nat.add_mul] at hroom; exact g4 _ (by omega))
      rw [setCells_kit, hies, ← hsz, Nat.zero_add] at hrun
      obtain ⟨S', hS, c', k1, k2⟩ := h.growIn ho hρ g2 hnl hroom hxl hx
      refine ⟨_, _, S', _, hrun, hS, ?_⟩
      rw [show es.length + xs.length = (es ++ xs).length by simp]
      exact .own id b s _ cap (by simp [upd]) (by simpa using hfit) ⟨c', t', fr, k1, by rw [k2]; exact r2⟩
    · have hdiv : ∀ m, m < es.length * s → w.cell? (at0 b (0 + m)) = some (cells[m]?.getD default) := by
        intro m hm
        have d1 : m / s < es.length := (Nat.div_lt_iff_lt_mul h0).2 hm
        have d2 : m % s < s := Nat.mod_lt _ h0
        have he := List.getElem?_eq_getElem d1
        have hl := hel _ (List.mem_of_getElem? he)
        have hj := List.getElem?_eq_getElem (l := es[m / s].cells) (i := m % s) (by omega)
        have := old _ _ _ _ he hj
        have e1 : m / s * s + m % s = m := by have := Nat.div_add_mod m s; rw [Nat.mul_comm] at this; omega
        rw [e1] at this
        rw [Nat.zero_add]; exact this
      refine grow es.length cap (some (at0 b 0)) ((List.range (es.length * s)).map fun m => cells[m]?.getD default) rfl (by simp) (by omega) hel ?_ ?_
      · rw [hies, ← hsz]
        exact run_loadCells (w := w.drew) (fun m => cells[m]?.getD default) (fun j hj => hdiv j hj)
      · intro i j e c he hj
        obtain ⟨u, hu, hp, _, hq⟩ := g5 i j e c he hj
        have hi : i < es.length := (List.getElem?_eq_some_iff.1 he).1
        have hjk : j < s := by rw [← hel e (List.mem_of_getElem? he)]; exact (List.getElem?_eq_some_iff.1 hj).1
        have hlt : i * s + j < es.length * s := by
          have : (i + 1) * s ≤ es.length * s := Nat.mul_le_mul_right _ hi
          rw [Nat.add_mul, Nat.one_mul] at this; omega
        exact ⟨u, by simp [hlt, hu], hp, hq⟩

end Go.Proofs.Ytonaejfpiihfhaa.Abs
