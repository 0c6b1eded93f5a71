/- Steps of the state, on: a row that grows; rows that are told as lists. -/
import Derived.Test.YtonaejfpiihfhaaAbs5
namespace Go.Proofs.Ytonaejfpiihfhaa.Abs
open Go Go.RowKit
set_option linter.unusedSimpArgs false
set_option linter.unusedVariables false

theorem aget_map {α : Type} (f : α → α) (l : List (Nat × α)) (n : Nat) : aget (l.map fun p => (p.1, f p.2)) n = (aget l n).map f := by
  induction l with
  | nil => rfl
  | cons p r ih => simp only [List.map_cons, aget]; split <;> simp_all

theorem slot_killn (st : ASt) (n t : Nat) : (st.killn n).slot t = (st.slot t).kill n := by
  unfold ASt.slot ASt.killn
  rw [aget_map]
  cases aget st.sl t <;> rfl
theorem hp_killn (st : ASt) (n m : Nat) : aget (st.killn n).hp m = (aget st.hp m).map (AObj.kill n) := aget_map _ _ _

theorem ObjR.kill {S : Stab} {ρ ρ' : Rho} {w : World} {n m : Nat} (hr : ∀ id r, id ≠ n → ρ id = some r → ρ' id = some r) (hm : m ≠ n) {o : AObj} (h : ObjR S ρ w m o) : ObjR S ρ' w m (o.kill n) := by
  cases o with
  | box v =>
    obtain ⟨b, cells, t, fr, h1, h2, h3, h4, h5, h6⟩ := h
    have hl : (v.kill n).cells.length = v.cells.length := by rw [kill_cells, killL_length]
    refine ⟨b, cells, t, fr, by rw [hl]; exact hr m _ hm h1, h2, by rw [hl]; exact h3, h4, h5, fun j c hc => ?_⟩
    rw [kill_cells, killL_get] at hc
    obtain ⟨d, hd, rfl⟩ := Option.map_eq_some_iff.1 hc
    obtain ⟨u, hu, hv⟩ := h6 j d hd
    exact ⟨u, hu, hv.kill n hr⟩
  | row sz es fx mv =>
    rcases h with ⟨h1, h2⟩ | ⟨b, cells, t, fr, h0, h1, rest⟩
    · exact .inl ⟨h1, hr m _ hm h2⟩
    · exact .inr ⟨b, cells, t, fr, h0, hr m _ hm h1, rest⟩
  | loop r sl =>
    obtain ⟨b, L, h1, h2, h3, h4, h5, h7, h8, h9, h10, h11⟩ := h
    refine ⟨b, L, hr m _ hm h1, h2, h3, h4, h5, h7, h8, h9, h10, fun t => ?_⟩
    rw [aget_map]
    have := (h11 t).kill n hr
    cases hs : aget sl t with
    | none => rw [hs] at this; exact .undef _
    | some v => rw [hs] at this; exact this
  | dblk => exact h.elim
theorem moved_kill (n : Nat) (o : AObj) : (o.kill n).moved = o.moved := by cases o <;> rfl

/-- The object n is another one now, perhaps in another block; no other way to it is left. -/
theorem SR.regrow {E : Env} {st : ASt} {S S' : Stab} {ρ : Rho} {tm : Array Value} {w w' : World} (h : SR E st S ρ tm w) {n : Nat} {o0 o : AObj} (hn : aget st.hp n = some o0) {info : RI}
    (s : Step E S w S' w') (hother : ∀ m b sz k, m ≠ n → ρ m = some ⟨some (b, sz), k⟩ → w'.heap[b]? = w.heap[b]? ∧ ∀ i, S' b i → S b i)
    (hfresh : ∀ b sz k, info = ⟨some (b, sz), k⟩ → (E.F b ∨ E.W0.heap.size ≤ b) ∧ ∀ m sz' k', m ≠ n → ρ m ≠ some ⟨some (b, sz'), k'⟩)
    (ho : ObjR S' (upd ρ n info) w' n o) (hmv : o.moved = true) : SR E { sl := (st.killn n).sl, hp := hput n o (st.killn n).hp } S' (upd ρ n info) tm w' := by
  have hr : ∀ id r, id ≠ n → ρ id = some r → upd ρ n info id = some r := by intro id r hid hh; simp [upd, hid, hh]
  have hold : ∀ m y, aget (hput n o (st.killn n).hp) m = some y → y.moved = false → ∀ r, E.R0 m = some r → upd ρ n info m = some r := by
    intro m y hy hm r hr0
    rw [aget_hput] at hy
    split at hy
    · rename_i e; subst e; rw [hp_killn, hn] at hy; cases hy; rw [hmv] at hm; cases hm
    · rename_i hne
      rw [hp_killn] at hy
      obtain ⟨q, hq, rfl⟩ := Option.map_eq_some_iff.1 hy
      rw [moved_kill] at hm
      exact hr _ _ hne (h.old m q hq hm r hr0)
  refine ⟨fun t => ?_, ⟨?_, ?_, ?_⟩, ?_, hold, h.fr.step s⟩
  · show VR S' (upd ρ n info) w' ((st.killn n).slot t) _
    rw [slot_killn]
    exact ((h.slot t).ext s.ext (fun _ _ h => h)).kill n hr
  · intro m p hp
    rw [aget_hput] at hp
    split at hp
    · rename_i e; subst e; rw [hp_killn, hn] at hp; cases hp; exact ho
    · rename_i hne
      rw [hp_killn] at hp
      obtain ⟨q, hq, rfl⟩ := Option.map_eq_some_iff.1 hp
      exact ((h.heap.obj m q hq).keep s.ext rfl (fun _ _ h => h) (fun b sz k hb => hother m b sz k hne hb)).kill hr hne
  · intro m hm
    rw [aget_hput] at hm
    split at hm
    · rename_i e; subst e; rw [hp_killn, hn] at hm; cases hm
    · rename_i hne
      rw [hp_killn] at hm
      simp only [upd, if_neg hne]
      exact h.heap.dom m (by simpa using hm)
  · intro m m' b sz sz' k k' h1 h2
    simp only [upd] at h1 h2
    split at h1 <;> split at h2
    · simp_all
    · rename_i e1 e2; cases h1; exact absurd h2 ((hfresh _ _ _ rfl).2 m' _ _ e2)
    · rename_i e1 e2; cases h2; exact absurd h1 ((hfresh _ _ _ rfl).2 m _ _ e1)
    · exact h.heap.inj m m' b sz sz' k k' h1 h2
  · intro m b sz k h1
    simp only [upd] at h1
    split at h1
    · cases h1; exact (hfresh _ _ _ rfl).1
    · exact h.mine m b sz k h1

/-! ## Rows told as lists -/

/-- What the row n holds is stable. -/
def Cov (S : Stab) (ρ : Rho) (hp : Heap) (n : Nat) : Prop := ∀ sz es fx mv b sz' k, aget hp n = some (.row sz es fx mv) → ρ n = some ⟨some (b, sz'), k⟩ → ∀ o, o < k * sz' → S b o

theorem SR.fix1 {E : Env} {st : ASt} {S : Stab} {ρ : Rho} {tm : Array Value} {w : World} (h : SR E st S ρ tm w) (n : Nat) :
    ∃ S', (∀ b o, S b o → S' b o) ∧ SR E { st with hp := hmod AObj.fix n st.hp } S' ρ tm w ∧ Cov S' ρ st.hp n := by
  by_cases hrow : ∃ sz es fx mv, aget st.hp n = some (.row sz es fx mv)
  · obtain ⟨sz, es, fx, mv, ho⟩ := hrow
    refine ⟨fun b o => S b o ∨ ∃ sz k, ρ n = some ⟨some (b, sz), k⟩ ∧ o < k * sz, fun b o x => .inl x, ?_, ?_⟩
    · have hx : Ext S w (fun b o => S b o ∨ ∃ sz k, ρ n = some ⟨some (b, sz), k⟩ ∧ o < k * sz) w := Ext.more (fun b o x => .inl x) w
      have hs : Step E S w (fun b o => S b o ∨ ∃ sz k, ρ n = some ⟨some (b, sz), k⟩ ∧ o < k * sz) w := by
        refine ⟨hx, Nat.le_refl _, fun _ _ _ => rfl, fun _ h => h, ?_, ?_, rfl, rfl, rfl⟩
        · rintro b o (x | ⟨s, k, x, _⟩)
          · exact .inl x
          · exact .inr (h.mine n b s k x)
        · rintro b o (x | ⟨s, k, x, _⟩)
          · exact h.fr.bnd b o x
          · exact h.heap.lt x
      have hold : ∀ m y, aget (hmod AObj.fix n st.hp) m = some y → y.moved = false → ∀ r, E.R0 m = some r → ρ m = some r := by
        intro m y hy hm r hr0
        rw [aget_hmod] at hy
        split at hy
        · rename_i e; subst e; rw [ho] at hy; cases hy; exact h.old m _ ho hm r hr0
        · exact h.old m y hy hm r hr0
      refine h.step hs (fun _ _ h => h) ⟨?_, ?_, h.heap.inj⟩ h.mine (fun _ => rfl) hold
      · intro m p hp
        rw [aget_hmod] at hp
        split at hp
        · rename_i e; subst e
          rw [ho] at hp; cases hp
          rcases h.heap.obj m _ ho with ⟨h1, h2⟩ | ⟨b, cells, t, fr, h0, h1, h2, h3, h4, h5, h6, h7⟩
          · exact .inl ⟨h1, h2⟩
          · refine .inr ⟨b, cells, t, fr, h0, h1, h2, h3, h4, h5, fun i j e c he hc => ?_, ?_⟩
            · obtain ⟨u, hu, hp, _, hq⟩ := h6 i j e c he hc
              refine ⟨u, hu, hp.ext hx, fun _ => .inr ⟨sz, es.length, h1, ?_⟩, hq⟩
              have hi : i < es.length := (List.getElem?_eq_some_iff.1 he).1
              have hj : j < sz := by rw [← h2 e (List.mem_of_getElem? he)]; exact (List.getElem?_eq_some_iff.1 hc).1
              calc i * sz + j < i * sz + sz := by omega
                _ = (i + 1) * sz := by rw [Nat.succ_mul]
                _ ≤ es.length * sz := Nat.mul_le_mul_right _ hi
            · rintro o (x | ⟨s, k, x, hk⟩)
              · exact ⟨rfl, (h7 o x).2⟩
              · rw [h1] at x; cases x; exact ⟨rfl, hk⟩
        · rename_i hne
          refine (h.heap.obj m p hp).keep hx rfl (fun _ _ h => h) (fun b s k hb => ⟨rfl, ?_⟩)
          rintro o (x | ⟨s', k', x, _⟩)
          · exact x
          · exact absurd (h.heap.inj _ _ _ _ _ _ _ hb x) hne
      · intro m hm
        rw [aget_hmod] at hm
        split at hm
        · rename_i e; subst e; rw [ho] at hm; cases hm
        · exact h.heap.dom m hm
    · intro sz2 es2 fx2 mv2 b s k _ hb o hk
      exact .inr ⟨s, k, hb, hk⟩
  · refine ⟨S, fun _ _ x => x, ?_, fun sz es fx mv b s k ho => absurd ⟨sz, es, fx, mv, ho⟩ hrow⟩
    have hold : ∀ m y, aget (hmod AObj.fix n st.hp) m = some y → y.moved = false → ∀ r, E.R0 m = some r → ρ m = some r := by
      intro m y hy hm r hr0
      rw [aget_hmod] at hy
      split at hy
      · rename_i e; subst e
        obtain ⟨q, hq, rfl⟩ := Option.map_eq_some_iff.1 hy
        exact h.old m q hq (by cases q <;> exact hm) r hr0
      · exact h.old m y hy hm r hr0
    refine ⟨h.slot, ⟨?_, ?_, h.heap.inj⟩, h.mine, hold, h.fr⟩
    · intro m p hp
      rw [aget_hmod] at hp
      split at hp
      · rename_i e; subst e
        cases ho : aget st.hp m with
        | none => rw [ho] at hp; cases hp
        | some q =>
          rw [ho] at hp; cases hp
          cases q with
          | box v => exact h.heap.obj m _ ho
          | row sz es fx mv => exact absurd ⟨sz, es, fx, mv, ho⟩ hrow
          | loop r sl => exact h.heap.obj m _ ho
          | dblk => exact h.heap.obj m _ ho
      · exact h.heap.obj m p hp
    · intro m hm
      rw [aget_hmod] at hm
      split at hm
      · rename_i e; subst e; exact h.heap.dom m (by simpa using hm)
      · exact h.heap.dom m hm

theorem Cov.mono {S S' : Stab} {ρ : Rho} {hp : Heap} {n : Nat} (h : Cov S ρ hp n) (hs : ∀ b o, S b o → S' b o) : Cov S' ρ hp n :=
  fun sz es fx mv b s k ho hb o hk => hs b o (h sz es fx mv b s k ho hb o hk)
/-- A heap whose rows hold the same. -/
def SameRows (hp hp' : Heap) : Prop := ∀ n, match aget hp n, aget hp' n with
  | some (.row sz es _ mv), some (.row sz' es' _ mv') => sz = sz' ∧ es = es' ∧ mv = mv'
  | some (.box v), some (.box v') => v = v'
  | some (.loop r l), some (.loop r' l') => r = r' ∧ l = l'
  | some .dblk, some .dblk => True
  | none, none => True
  | _, _ => False
theorem SameRows.refl (hp : Heap) : SameRows hp hp := fun n => by cases h : aget hp n with | none => trivial | some o => cases o <;> simp
theorem SameRows.hmod (n : Nat) (hp : Heap) : SameRows hp (hmod AObj.fix n hp) := by
  intro m
  rw [aget_hmod]
  by_cases e : m = n
  · rw [if_pos e]; cases h : aget hp m with
    | none => simp
    | some o => cases o <;> simp [AObj.fix]
  · rw [if_neg e]; cases h : aget hp m with
    | none => trivial
    | some o => cases o <;> simp
theorem SameRows.trans {a b c : Heap} (h : SameRows a b) (k : SameRows b c) : SameRows a c := by
  intro n
  have x := h n; have y := k n
  cases ha : aget a n <;> cases hb : aget b n <;> cases hc : aget c n <;> simp only [ha, hb, hc] at x y ⊢ <;> try trivial
  rename_i p q r
  cases p <;> cases q <;> cases r <;> simp_all
theorem SameRows.row {hp hp' : Heap} (h : SameRows hp hp') {n sz : Nat} {es : List AV} {fx mv : Bool} (ho : aget hp n = some (.row sz es fx mv)) : ∃ fx', aget hp' n = some (.row sz es fx' mv) := by
  have x := h n
  rw [ho] at x
  cases hb : aget hp' n with
  | none => simp [hb] at x
  | some o => cases o with
    | box v => simp [hb] at x
    | row s e f m => simp only [hb] at x; obtain ⟨rfl, rfl, rfl⟩ := x; exact ⟨f, rfl⟩
    | loop r l => simp [hb] at x
    | dblk => simp [hb] at x
theorem SameRows.symm {hp hp' : Heap} (h : SameRows hp hp') : SameRows hp' hp := by
  intro n
  have x := h n
  cases ha : aget hp n <;> cases hb : aget hp' n <;> simp only [ha, hb] at x ⊢
  rename_i p q
  cases p <;> cases q <;> simp_all

theorem SR.fix {E : Env} {ρ : Rho} {tm : Array Value} {w : World} (ns : List Nat) : ∀ {st : ASt} {S : Stab}, SR E st S ρ tm w →
    ∃ S', (∀ b o, S b o → S' b o) ∧ SR E (st.fix ns) S' ρ tm w ∧ (∀ n ∈ ns, Cov S' ρ st.hp n) ∧ SameRows st.hp (st.fix ns).hp := by
  induction ns with
  | nil => intro st S h; exact ⟨S, fun _ _ x => x, h, fun n hn => by simp at hn, SameRows.refl _⟩
  | cons n ns ih =>
    intro st S h
    obtain ⟨S1, h1, h2, h3⟩ := h.fix1 n
    obtain ⟨S2, k1, k2, k3, k4⟩ := ih h2
    refine ⟨S2, fun b o x => k1 b o (h1 b o x), k2, fun m hm => ?_, (SameRows.hmod n st.hp).trans k4⟩
    rcases List.mem_cons.1 hm with rfl | hm
    · exact h3.mono k1
    · intro sz es fx mv b s k ho hb o hk
      obtain ⟨fx', ho'⟩ := (SameRows.hmod n st.hp).row ho
      exact k3 m hm sz es fx' mv b s k ho' hb o hk

theorem rvL_get (hp : Heap) (l : List AV) (j : Nat) : (AV.rvL hp l)[j]? = (l[j]?).map (AV.rv hp) := by
  induction l generalizing j with
  | nil => simp [AV.rvL]
  | cons a l ih => cases j with
    | zero => simp [AV.rvL]
    | succ j => simp [AV.rvL, ih]
theorem rvL_length (hp : Heap) (l : List AV) : (AV.rvL hp l).length = l.length := by
  induction l with
  | nil => rfl
  | cons a l ih => simp [AV.rvL, ih]
theorem rowsL_mem {l : List AV} {j : Nat} {a : AV} (h : l[j]? = some a) {n : Nat} (hn : n ∈ a.rows) : n ∈ AV.rowsL l := by
  induction l generalizing j with
  | nil => simp at h
  | cons x l ih => cases j with
    | zero => simp at h; subst h; simp [AV.rowsL, hn]
    | succ j => simp at h; simp [AV.rowsL, ih h]

theorem PR.rv {S : Stab} {w : World} (hp : Heap) {a : AV} {v : Value} (h : PR S w a v) : PR S w (a.rv hp) v := by
  induction h with
  | agg cs vs hl _ ih =>
    refine .agg _ vs ((rvL_length hp cs).trans hl) fun j c v hc hv => ?_
    rw [rvL_get] at hc
    obtain ⟨d, hd, rfl⟩ := Option.map_eq_some_iff.1 hc
    exact ih j d v hd hv
  | tup cs vs hl _ ih =>
    refine .tup _ vs ((rvL_length hp cs).trans hl) fun j c v hc hv => ?_
    rw [rvL_get] at hc
    obtain ⟨d, hd, rfl⟩ := Option.map_eq_some_iff.1 hc
    exact ih j d v hd hv
  | iface t a v _ ih => exact .iface t _ v ih
  | fn g a b va vb h1 h2 _ _ i1 i2 =>
    refine .fn g _ _ va vb ((rvL_length hp a).trans h1) ((rvL_length hp b).trans h2) (fun j c v hc hv => ?_) (fun j c v hc hv => ?_)
    · rw [rvL_get] at hc
      obtain ⟨d, hd, rfl⟩ := Option.map_eq_some_iff.1 hc
      exact i1 j d v hd hv
    · rw [rvL_get] at hc
      obtain ⟨d, hd, rfl⟩ := Option.map_eq_some_iff.1 hc
      exact i2 j d v hd hv
  | bool b => exact .bool b
  | int k n => exact .int k n
  | str s => exact .str s
  | nilp => exact .nilp
  | nils => exact .nils
  | nilf => exact .nilf
  | nili => exact .nili
  | empty sz a c hz => exact .empty sz a c hz
  | list es b off cap sz f h0 hc hs hS hw hq hp _ => exact .list es b off cap sz f h0 hc hs hS hw hq hp
  | ep v b base off f ho hS hw hp _ => exact .ep v b base off f ho hS hw hp

/-- What a row's block holds, as a list that stands in it. -/
theorem row_list {S : Stab} {ρ : Rho} {w : World} {hp : Heap} (H : HR S ρ w hp) {id sz : Nat} {es : List AV} {fx mv : Bool} (ho : aget hp id = some (.row sz es fx mv)) (hc : Cov S ρ hp id) {b s n : Nat} (hρ : ρ id = some ⟨some (b, s), n⟩)
    (o l cap : Nat) (hol : o + l ≤ es.length) (hl : l ≤ cap) : s = sz ∧ n = es.length ∧ (0 < l → PR S w (.list sz ((es.drop o).take l)) (.slice (some (at0 b (o * sz))) l cap)) := by
  rcases H.obj id _ ho with ⟨_, h1⟩ | ⟨b', cells, t, fr, h0, h1, hs, h2, h3, h4, h5, h6⟩
  · rw [hρ] at h1; cases h1
  · rw [hρ] at h1; cases h1
    refine ⟨rfl, rfl, fun hpos => ?_⟩
    have hlen : ((es.drop o).take l).length = l := by simp; omega
    have get : ∀ (i : Nat) e, ((es.drop o).take l)[i]? = some e → es[o + i]? = some e := by
      intro i e he
      rw [List.getElem?_take] at he
      split at he
      · rwa [List.getElem?_drop] at he
      · cases he
    have key : ∀ (i j : Nat) e c, ((es.drop o).take l)[i]? = some e → e.cells[j]? = some c → S b (o * sz + i * sz + j) ∧ w.cell? (at0 b (o * sz + i * sz + j)) = some (cells[o * sz + i * sz + j]?.getD default) ∧ PR S w c (cells[o * sz + i * sz + j]?.getD default) ∧ scalarV (cells[o * sz + i * sz + j]?.getD default) = true := by
      intro i j e c he hcj
      obtain ⟨u, hu, hp, _, hq⟩ := h5 (o + i) j e c (get i e he) hcj
      rw [Nat.add_mul] at hu
      have hi : o + i < es.length := (List.getElem?_eq_some_iff.1 (get i e he)).1
      have hj : j < sz := by rw [← hs e (List.mem_of_getElem? (get i e he))]; exact (List.getElem?_eq_some_iff.1 hcj).1
      have hlt : o * sz + i * sz + j < es.length * sz := by
        have : (o + i + 1) * sz ≤ es.length * sz := Nat.mul_le_mul_right _ hi
        rw [Nat.add_mul, Nat.add_mul, Nat.one_mul] at this; omega
      refine ⟨hc sz es fx mv b sz es.length ho hρ _ hlt, by rw [cell_block h2, hu]; rfl, by rw [hu]; exact hp, by rw [hu]; exact hq⟩
    have := PR.list (S := S) (w := w) ((es.drop o).take l) b (o * sz) cap sz (fun i j => cells[o * sz + i * sz + j]?.getD default) h0 (by rw [hlen]; exact hl)
      (fun e he => hs e (List.mem_of_mem_drop (List.mem_of_mem_take he))) (fun i j e c he hcj => (key i j e c he hcj).1) (fun i j e c he hcj => (key i j e c he hcj).2.1) (fun i j e c he hcj => (key i j e c he hcj).2.2.2) (fun i j e c he hcj => (key i j e c he hcj).2.2.1)
    rw [hlen] at this
    exact this

theorem VR.rv {S : Stab} {ρ : Rho} {w : World} {hp : Heap} (H : HR S ρ w hp) {a : AV} {v : Value} (h : VR S ρ w a v) (hc : ∀ n ∈ a.rows, Cov S ρ hp n) : VR S ρ w (a.rv hp) v := by
  induction h with
  | pure h => exact .pure (h.rv hp)
  | undef v => exact .undef v
  | own0 id h =>
    simp only [AV.rv]
    split
    · rename_i sz es fx mv ho
      rcases H.obj id _ ho with ⟨h1, _⟩ | ⟨b', cells, t, fr, h0, h1, _⟩
      · subst h1
        split
        · exact .undef _
        · rename_i hz; exact .pure (.empty _ _ _ (fun e => absurd e hz))
      · rw [h] at h1; cases h1
    · exact .undef _
  | own id b s n cap h hcap hr =>
    simp only [AV.rv]
    split
    · rename_i sz es fx mv ho
      obtain ⟨rfl, rfl, _⟩ := row_list H ho (hc id (by simp [AV.rows])) h 0 0 0 (by omega) (by omega)
      obtain ⟨_, _, hl⟩ := row_list H ho (hc id (by simp [AV.rows])) h 0 es.length cap (by omega) hcap
      split
      · exact .undef _
      rename_i hz
      by_cases he : es = []
      · subst he; exact .pure (.empty _ _ _ (fun e => absurd e hz))
      · have := hl (List.length_pos_iff.2 he)
        simp only [List.drop_zero, List.take_length, Nat.zero_mul] at this
        exact .pure this
    · exact .undef _
  | row0 id o c a =>
    simp only [AV.rv]
    split
    · split
      · rename_i hz; rw [List.take_zero]; exact .pure (.empty _ _ _ (fun e => absurd e hz.1))
      · exact .undef _
    · exact .undef _
  | row id o l b s n cap h hl =>
    simp only [AV.rv]
    split
    · rename_i sz es fx mv ho
      split
      · rename_i hol
        obtain ⟨hz, hol⟩ := hol
        obtain ⟨rfl, rfl, hL⟩ := row_list H ho (hc id (by simp [AV.rows])) h o l cap hol hl
        by_cases he : l = 0
        · subst he; rw [List.take_zero]; exact .pure (.empty _ _ _ (fun e => absurd e hz))
        · exact .pure (hL (by omega))
      · exact .undef _
    · exact .undef _
  | ptr id i o b sz n h => exact .ptr id i o b sz n h
  | yld id b sz n h => exact .yld id b sz n h
  | agg cs vs hl _ ih =>
    refine .agg _ vs ((rvL_length hp cs).trans hl) fun j c v hcj hv => ?_
    rw [rvL_get] at hcj
    obtain ⟨d, hd, rfl⟩ := Option.map_eq_some_iff.1 hcj
    exact ih j d v hd hv (fun n hn => hc n (rowsL_mem hd hn))
  | tup cs vs hl _ ih =>
    refine .tup _ vs ((rvL_length hp cs).trans hl) fun j c v hcj hv => ?_
    rw [rvL_get] at hcj
    obtain ⟨d, hd, rfl⟩ := Option.map_eq_some_iff.1 hcj
    exact ih j d v hd hv (fun n hn => hc n (rowsL_mem hd hn))
  | iface t a v _ ih => exact .iface t _ v (ih hc)
  | fn g a b va vb h1 h2 _ _ i1 i2 =>
    refine .fn g _ _ va vb ((rvL_length hp a).trans h1) ((rvL_length hp b).trans h2) (fun j c v hcj hv => ?_) (fun j c v hcj hv => ?_)
    · rw [rvL_get] at hcj
      obtain ⟨d, hd, rfl⟩ := Option.map_eq_some_iff.1 hcj
      exact i1 j d v hd hv (fun n hn => hc n (by simp only [AV.rows, List.mem_append]; exact .inl (rowsL_mem hd hn)))
    · rw [rvL_get] at hcj
      obtain ⟨d, hd, rfl⟩ := Option.map_eq_some_iff.1 hcj
      exact i2 j d v hd hv (fun n hn => hc n (by simp only [AV.rows, List.mem_append]; exact .inr (rowsL_mem hd hn)))

theorem pureL_get {l : List AV} (h : AV.pureL l = true) {j : Nat} {a : AV} (hj : l[j]? = some a) : a.pureB = true := by
  induction l generalizing j with
  | nil => simp at hj
  | cons x l ih =>
    simp only [AV.pureL, Bool.and_eq_true] at h
    cases j with
    | zero => simp at hj; subst hj; exact h.1
    | succ j => simp at hj; exact ih h.2 hj
theorem VR.pr {S : Stab} {ρ : Rho} {w : World} {a : AV} {v : Value} (h : VR S ρ w a v) (hp : a.pureB = true) : PR S w a v := by
  induction h with
  | pure h => exact h
  | undef v => simp [AV.pureB] at hp
  | own0 id h => simp [AV.pureB] at hp
  | own => simp [AV.pureB] at hp
  | row0 => simp [AV.pureB] at hp
  | row => simp [AV.pureB] at hp
  | ptr => simp [AV.pureB] at hp
  | yld => simp [AV.pureB] at hp
  | agg cs vs hl _ ih => exact .agg cs vs hl fun j c v hc hv => ih j c v hc hv (pureL_get (by simpa [AV.pureB] using hp) hc)
  | tup cs vs hl _ ih => exact .tup cs vs hl fun j c v hc hv => ih j c v hc hv (pureL_get (by simpa [AV.pureB] using hp) hc)
  | iface t a v _ ih => exact .iface t a v (ih (by simpa [AV.pureB] using hp))
  | fn g a b va vb h1 h2 _ _ i1 i2 =>
    simp only [AV.pureB, Bool.and_eq_true] at hp
    exact .fn g a b va vb h1 h2 (fun j c v hc hv => i1 j c v hc hv (pureL_get hp.1 hc)) (fun j c v hc hv => i2 j c v hc hv (pureL_get hp.2 hc))

end Go.Proofs.Ytonaejfpiihfhaa.Abs
