/- Calls, on: behind a call the caller's state is told. -/
import Derived.Test.YtonaejfpiihfhaaAbs18
namespace Go.Proofs.Ytonaejfpiihfhaa.Abs
open Go Go.RowKit
set_option linter.unusedSimpArgs false
set_option linter.unusedVariables false

variable {G : Cfg} {S : Stab} {ρ : Rho} {w : World} {E : Env} {st : ASt} {a : Act}

theorem aget_mapInj {β : Type} (f : Nat → Nat) (F : Nat → AObj → β) : ∀ (l : List (Nat × AObj)), (∀ k k' x y, (k, x) ∈ l → (k', y) ∈ l → f k = f k' → k = k') → ∀ (k : Nat) (x : AObj), (k, x) ∈ l → aget (l.map fun p => (f p.1, F p.1 p.2)) (f k) = (aget l k).map (F k) := by
  intro l
  induction l with
  | nil => intro _ k x h; cases h
  | cons p l ih =>
    intro hinj k x h
    obtain ⟨j, y⟩ := p
    simp only [List.map_cons, aget_cons]
    by_cases e : j = k
    · subst e; simp
    · have : f j ≠ f k := fun he => e (hinj j k y x (by simp) h he)
      rw [if_neg this, if_neg e]
      rcases List.mem_cons.1 h with h | h
      · cases h; exact absurd rfl e
      · exact ih (fun k k' x y h1 h2 => hinj k k' x y (List.mem_cons_of_mem _ h1) (List.mem_cons_of_mem _ h2)) k x h
theorem aget_mapNot {β : Type} (f : Nat → Nat) (F : Nat → AObj → β) : ∀ (l : List (Nat × AObj)) (n : Nat), (∀ k x, (k, x) ∈ l → f k ≠ n) → aget (l.map fun p => (f p.1, F p.1 p.2)) n = none := by
  intro l
  induction l with
  | nil => intro n _; rfl
  | cons p l ih =>
    intro n h
    obtain ⟨j, y⟩ := p
    simp only [List.map_cons, aget_cons]
    rw [if_neg (h j y (by simp))]
    exact ih n fun k x hk => h k x (List.mem_cons_of_mem _ hk)

/-- What the names lead to behind the call. -/
noncomputable def backRho (f : Nat → Nat) (hp1 : Heap) (ρ1 ρ : Rho) : Rho := by
  classical exact fun n => if h : ∃ k x, (k, x) ∈ hp1 ∧ f k = n then ρ1 h.choose else ρ n
theorem backRho_in {f : Nat → Nat} {hp1 : Heap} {ρ1 ρ : Rho} (hinj : ∀ k k' x y, (k, x) ∈ hp1 → (k', y) ∈ hp1 → f k = f k' → k = k') {k : Nat} {x : AObj} (h : (k, x) ∈ hp1) : backRho f hp1 ρ1 ρ (f k) = ρ1 k := by
  unfold backRho
  have hx : ∃ k' x', (k', x') ∈ hp1 ∧ f k' = f k := ⟨k, x, h, rfl⟩
  rw [dif_pos hx]
  obtain ⟨x', h1, h2⟩ := hx.choose_spec
  rw [hinj _ _ _ _ h1 h h2]
theorem backRho_out {f : Nat → Nat} {hp1 : Heap} {ρ1 ρ : Rho} {n : Nat} (h : ∀ k x, (k, x) ∈ hp1 → f k ≠ n) : backRho f hp1 ρ1 ρ n = ρ n := by
  unfold backRho
  rw [dif_neg]
  rintro ⟨k, x, h1, h2⟩
  exact h k x h1 h2

theorem newName_ge (d k : Nat) : 1000 ≤ newName d k := by
  unfold newName
  have : 1000000 * (0 + 1) ≤ 1000000 * (k + 1) := Nat.mul_le_mul_left _ (by omega)
  omega
theorem newName_inj {d k k' : Nat} (h : newName d k = newName d k') : k = k' := by
  unfold newName at h
  omega

theorem moved_ormv (b : Bool) (o : AObj) (h : o.isRow = true ∨ b = false) : (o.ormv b).moved = (b || o.moved) := by
  cases o <;> first | rfl | (rcases h with h | h; cases h; subst h; rfl)
theorem moved_ren (m : List (Nat × Nat)) (o : AObj) : (o.ren m).moved = o.moved := by cases o <;> rfl
theorem isRow_ren (m : List (Nat × Nat)) (o : AObj) : (o.ren m).isRow = o.isRow := by cases o <;> rfl

/-- BEHIND A CALL the caller's state is told. -/
theorem afterCall_ok {tm : Array Value} (h : SR E st S ρ tm w) {ns : List Nat} (hnd : ns.Nodup) (hlen : ns.length ≤ 40) (hns : ∀ n ∈ ns, ∃ o, aget st.hp n = some o) {d : Option Nat} {hp1 : Heap} {st3 : ASt} (hc : afterCall d ns st hp1 = some st3)
    {hl : ∀ n r, subRho ns ρ n = some r → n < 1000} {S' : Stab} {ρ1 : Rho} {w' : World} (ho : Out (envOf S (subRho ns ρ) w hl) hp1 S' ρ1 w') :
    ∃ ρ3, SR E st3 S' ρ3 tm w' ∧ (∀ x v, VR S' ρ1 w' x v → VR S' ρ3 w' (x.ren (backMap ns d hp1)) v) ∧ ∀ n r, n ∉ movedOf ns hp1 → ρ n = some r → ρ3 n = some r := by
  unfold afterCall at hc
  split at hc
  case isFalse => cases hc
  rename_i hck
  cases hc
  simp only [Bool.and_eq_true, List.all_eq_true] at hck
  obtain ⟨hck1, hck2⟩ := hck
  have hall : ∀ k n, ns[k]? = some n → ∃ o, aget hp1 k = some o := by
    intro k n hk
    have := hck1 (0 + k, n) (mem_zipIx hk)
    rw [Nat.zero_add] at this
    exact Option.isSome_iff_exists.1 this
  have hbn : ∀ k n, ns[k]? = some n → backName ns d k = n := by
    intro k n hk
    unfold backName
    rw [aget_zipIx, hk]
  have hbn' : ∀ k, ns[k]? = none → backName ns d k = newName (d.getD 0) k := by
    intro k hk
    unfold backName
    rw [aget_zipIx, hk]
  have hnew : ∀ k x, (k, x) ∈ hp1 → ns[k]? = none → aget st.hp (backName ns d k) = none := by
    intro k x hx hk
    have := (hck2 (k, x) hx).1
    simp only [aget_zipIx, hk, Option.isSome_none, Bool.false_or] at this
    simpa using this
  have hrow : ∀ k x, (k, x) ∈ hp1 → x.isRow = true ∨ ((aget st.hp (backName ns d k)).map AObj.moved).getD false = false := by
    intro k x hx
    have := (hck2 (k, x) hx).2
    simpa using this
  have hinj : ∀ k k' x y, (k, x) ∈ hp1 → (k', y) ∈ hp1 → backName ns d k = backName ns d k' → k = k' := by
    intro k k' x y hx hy e
    cases h1 : ns[k]? with
    | none =>
      have n1 := hnew k x hx h1
      cases h2 : ns[k']? with
      | none => rw [hbn' k h1, hbn' k' h2] at e; exact newName_inj e
      | some m =>
        obtain ⟨o, hm⟩ := hns m (List.mem_of_getElem? h2)
        rw [e, hbn k' m h2, hm] at n1; cases n1
    | some n =>
      cases h2 : ns[k']? with
      | none =>
        have n1 := hnew k' y hy h2
        obtain ⟨o, hm⟩ := hns n (List.mem_of_getElem? h1)
        rw [← e, hbn k n h1, hm] at n1; cases n1
      | some m =>
        rw [hbn k n h1, hbn k' m h2] at e
        subst e
        exact nodup_inj hnd h1 h2
  -- what the names lead to
  obtain ⟨ρ3, hρ3⟩ : ∃ ρ3, ρ3 = backRho (backName ns d) hp1 ρ1 ρ := ⟨_, rfl⟩
  have r_in : ∀ k x, (k, x) ∈ hp1 → ρ3 (backName ns d k) = ρ1 k := fun k x hx => by rw [hρ3]; exact backRho_in hinj hx
  have r_out : ∀ n, (∀ k x, (k, x) ∈ hp1 → backName ns d k ≠ n) → ρ3 n = ρ n := fun n hn => by rw [hρ3]; exact backRho_out hn
  have dom1 : ∀ k r, ρ1 k = some r → ∃ x, (k, x) ∈ hp1 := by
    intro k r hr
    cases hx : aget hp1 k with
    | none => rw [ho.heap.dom k hx] at hr; cases hr
    | some x => exact ⟨x, aget_mem hx⟩
  have hback : ∀ n k r, aget (backMap ns d hp1) n = some k → ρ1 n = some r → ρ3 k = some r := by
    intro n k r hm hr
    obtain ⟨p, hp, e⟩ := List.mem_map.1 (aget_mem hm)
    cases e
    rw [r_in p.1 p.2 hp]; exact hr
  -- a name of the caller's, that wasn't moved, leads where it led
  have hmv : ∀ n r, n ∉ movedOf ns hp1 → ρ n = some r → ρ3 n = some r := by
    intro n r hn hr
    have hdom : ∃ o, aget st.hp n = some o := by
      cases hx : aget st.hp n with
      | none => rw [h.heap.dom n hx] at hr; cases hr
      | some o => exact ⟨o, rfl⟩
    by_cases hin : n ∈ ns
    · obtain ⟨k, hk⟩ := List.getElem?_of_mem hin
      obtain ⟨o, ho1⟩ := hall k n hk
      have hm := aget_mem ho1
      rw [← hbn k n hk, r_in k o hm]
      refine ho.old k o ho1 ?_ r (by show subRho ns ρ k = some r; simp [subRho, hk, hr])
      cases hmo : o.moved with
      | false => rfl
      | true =>
        exfalso; apply hn
        unfold movedOf
        refine List.mem_filterMap.2 ⟨(k, o), hm, ?_⟩
        simp [hmo, aget_zipIx, hk]
    · rw [r_out n fun k x hx e => ?_]
      · exact hr
      · obtain ⟨o, ho1⟩ := hdom
        cases h1 : ns[k]? with
        | none => rw [← e, hnew k x hx h1] at ho1; cases ho1
        | some m => rw [hbn k m h1] at e; subst e; exact hin (List.mem_of_getElem? h1)
  have hout : ∀ n, n ∉ ns → (∃ o, aget st.hp n = some o) → ∀ k x, (k, x) ∈ hp1 → backName ns d k ≠ n := by
    rintro n hin ⟨o, ho1⟩ k x hx e
    cases h1 : ns[k]? with
    | none => rw [← e, hnew k x hx h1] at ho1; cases ho1
    | some m => rw [hbn k m h1] at e; subst e; exact hin (List.mem_of_getElem? h1)
  have hF : ∀ b, (∃ n sz k, subRho ns ρ n = some ⟨some (b, sz), k⟩) → ∃ n sz k, n ∈ ns ∧ ρ n = some ⟨some (b, sz), k⟩ := by
    rintro b ⟨n, sz, k, hr⟩
    simp only [subRho] at hr
    rw [Option.bind_eq_some_iff] at hr
    obtain ⟨m, hm, hr⟩ := hr
    exact ⟨m, sz, k, List.mem_of_getElem? hm, hr⟩
  have fro := ho.fr
  have hfresh : ∀ n b sz k, n ∉ ns → ρ n = some ⟨some (b, sz), k⟩ → w'.heap[b]? = w.heap[b]? ∧ ∀ o, S' b o → S b o := by
    intro n b sz k hin hr
    have hlt := h.heap.lt hr
    have hnF : ¬ ∃ n sz k, subRho ns ρ n = some ⟨some (b, sz), k⟩ := by
      intro hx
      obtain ⟨m, sz', k', hm, hr'⟩ := hF b hx
      exact hin (h.heap.inj _ _ _ _ _ _ _ hr hr' ▸ hm)
    refine ⟨fro.keep b hlt hnF, fun o ho' => ?_⟩
    rcases fro.new b o ho' with hx | hx | hx
    · exact hx
    · exact absurd hx hnF
    · exact absurd hlt (Nat.not_lt.2 hx)
  have hext : Ext S w S' w' := fro.ext
  refine ⟨ρ3, ⟨fun t => ?_, ⟨?_, ?_, ?_⟩, ?_, ?_, ?_⟩, fun x v hx => hx.ren hback, hmv⟩
  · -- slots
    show VR S' ρ3 w' ((killAll st (movedOf ns hp1)).slot t) _
    rw [slot_killAll]
    refine ((h.slot t).kills (movedOf ns hp1)).ext hext fun id r hr => ?_
    unfold strike at hr
    split at hr
    · cases hr
    · rename_i hid; exact hmv id r hid hr
  · -- objects
    intro n o hn
    simp only [afterHeap] at hn
    rw [aget_append] at hn
    by_cases hin : ∃ k x, (k, x) ∈ hp1 ∧ backName ns d k = n
    · obtain ⟨k, x, hx, rfl⟩ := hin
      rw [aget_mapInj (backName ns d) (fun j (p : AObj) => (p.ren (backMap ns d hp1)).ormv (((aget (killAll st (movedOf ns hp1)).hp (backName ns d j)).map AObj.moved).getD false)) hp1 hinj k x hx] at hn
      obtain ⟨y, hy⟩ := aget_of_mem hx
      rw [hy] at hn
      simp only [Option.map_some, Option.some_or, Option.some.injEq] at hn
      subst hn
      refine ((ho.heap.obj k y hy).ren hback fun r hr => ?_).ormv _
      rw [r_in k x hx]; exact hr
    · have hno : ∀ k x, (k, x) ∈ hp1 → backName ns d k ≠ n := fun k x hx e => hin ⟨k, x, hx, e⟩
      rw [aget_mapNot (backName ns d) (fun j (p : AObj) => (p.ren (backMap ns d hp1)).ormv (((aget (killAll st (movedOf ns hp1)).hp (backName ns d j)).map AObj.moved).getD false)) hp1 n hno, Option.none_or, hp_killAll] at hn
      obtain ⟨o1, ho1, rfl⟩ := Option.map_eq_some_iff.1 hn
      have hnns : n ∉ ns := fun hm => by
        obtain ⟨k, hk⟩ := List.getElem?_of_mem hm
        obtain ⟨x, hx⟩ := hall k n hk
        exact hno k x (aget_mem hx) (hbn k n hk)
      have hnm : n ∉ movedOf ns hp1 := fun hm => by
        unfold movedOf at hm
        obtain ⟨p, hp, e⟩ := List.mem_filterMap.1 hm
        split at e
        · rw [aget_zipIx] at e; exact hnns (List.mem_of_getElem? e)
        · cases e
      have hob := (h.heap.obj n o1 ho1).kills (movedOf ns hp1) hnm
      refine hob.keep hext ?_ (fun id r hr => ?_) (fun b sz k hb => ?_)
      · rw [r_out n hno]; simp [strike, hnm]
      · unfold strike at hr
        split at hr
        · cases hr
        · rename_i hid; exact hmv id r hid hr
      · simp only [strike, if_neg hnm] at hb
        exact hfresh n b sz k hnns hb
  · -- names without objects
    intro n hn
    simp only [afterHeap] at hn
    rw [aget_append] at hn
    by_cases hin : ∃ k x, (k, x) ∈ hp1 ∧ backName ns d k = n
    · obtain ⟨k, x, hx, rfl⟩ := hin
      rw [aget_mapInj (backName ns d) (fun j (p : AObj) => (p.ren (backMap ns d hp1)).ormv (((aget (killAll st (movedOf ns hp1)).hp (backName ns d j)).map AObj.moved).getD false)) hp1 hinj k x hx] at hn
      obtain ⟨y, hy⟩ := aget_of_mem hx
      rw [hy] at hn; simp at hn
    · have hno : ∀ k x, (k, x) ∈ hp1 → backName ns d k ≠ n := fun k x hx e => hin ⟨k, x, hx, e⟩
      rw [aget_mapNot (backName ns d) (fun j (p : AObj) => (p.ren (backMap ns d hp1)).ormv (((aget (killAll st (movedOf ns hp1)).hp (backName ns d j)).map AObj.moved).getD false)) hp1 n hno, Option.none_or, hp_killAll] at hn
      rw [r_out n hno]
      exact h.heap.dom n (by simpa using hn)
  · -- no block under two names
    intro n m b sz sz' k k' h1 h2
    have one : ∀ n m sz sz' k k', (∃ j x, (j, x) ∈ hp1 ∧ backName ns d j = n) → (¬ ∃ j x, (j, x) ∈ hp1 ∧ backName ns d j = m) → ρ3 n = some ⟨some (b, sz), k⟩ → ρ3 m = some ⟨some (b, sz'), k'⟩ → False := by
      rintro n m sz sz' k k' ⟨j, x, hx, rfl⟩ hm h1 h2
      have hno : ∀ k x, (k, x) ∈ hp1 → backName ns d k ≠ m := fun k x hx e => hm ⟨k, x, hx, e⟩
      rw [r_out m hno] at h2
      rw [r_in j x hx] at h1
      have hmns : m ∉ ns := fun hm' => by
        obtain ⟨i, hi⟩ := List.getElem?_of_mem hm'
        obtain ⟨y, hy⟩ := hall i m hi
        exact hno i y (aget_mem hy) (hbn i m hi)
      rcases ho.mine j b sz k h1 with hx | hx
      · obtain ⟨i, s, l, hi, hr⟩ := hF b hx
        exact hmns (h.heap.inj _ _ _ _ _ _ _ h2 hr ▸ hi)
      · exact absurd (h.heap.lt h2) (Nat.not_lt.2 hx)
    by_cases e1 : ∃ j x, (j, x) ∈ hp1 ∧ backName ns d j = n
    · by_cases e2 : ∃ j x, (j, x) ∈ hp1 ∧ backName ns d j = m
      · obtain ⟨j, x, hx, rfl⟩ := e1
        obtain ⟨i, y, hy, rfl⟩ := e2
        rw [r_in j x hx] at h1
        rw [r_in i y hy] at h2
        rw [ho.heap.inj _ _ _ _ _ _ _ h1 h2]
      · exact (one n m sz sz' k k' e1 e2 h1 h2).elim
    · by_cases e2 : ∃ j x, (j, x) ∈ hp1 ∧ backName ns d j = m
      · exact (one m n sz' sz k' k e2 e1 h2 h1).elim
      · rw [r_out n fun k x hx e => e1 ⟨k, x, hx, e⟩] at h1
        rw [r_out m fun k x hx e => e2 ⟨k, x, hx, e⟩] at h2
        exact h.heap.inj _ _ _ _ _ _ _ h1 h2
  · -- whose the blocks are
    intro n b sz k h1
    by_cases e1 : ∃ j x, (j, x) ∈ hp1 ∧ backName ns d j = n
    · obtain ⟨j, x, hx, rfl⟩ := e1
      rw [r_in j x hx] at h1
      rcases ho.mine j b sz k h1 with hx | hx
      · obtain ⟨i, s, l, hi, hr⟩ := hF b hx
        exact h.mine i b s l hr
      · exact .inr (Nat.le_trans h.fr.size hx)
    · rw [r_out n fun k x hx e => e1 ⟨k, x, hx, e⟩] at h1
      exact h.mine n b sz k h1
  · -- names that were there at the caller's beginning
    intro n o hn hm r hr0
    have hlow := E.low n r hr0
    simp only [afterHeap] at hn
    rw [aget_append] at hn
    by_cases hin : ∃ k x, (k, x) ∈ hp1 ∧ backName ns d k = n
    · obtain ⟨k, x, hx, rfl⟩ := hin
      cases hk : ns[k]? with
      | none => rw [hbn' k hk] at hlow; have := newName_ge (d.getD 0) k; omega
      | some m =>
        rw [aget_mapInj (backName ns d) (fun j (p : AObj) => (p.ren (backMap ns d hp1)).ormv (((aget (killAll st (movedOf ns hp1)).hp (backName ns d j)).map AObj.moved).getD false)) hp1 hinj k x hx] at hn
        obtain ⟨y, hy⟩ := aget_of_mem hx
        rw [hy] at hn
        simp only [Option.map_some, Option.some_or, Option.some.injEq] at hn
        subst hn
        obtain ⟨o1, ho1⟩ := hns m (List.mem_of_getElem? hk)
        rw [hbn k m hk] at hm hr0 ⊢
        have hq : (aget (killAll st (movedOf ns hp1)).hp m).map AObj.moved = some o1.moved := by
          rw [hp_killAll, ho1]; simp [moved_kills]
        rw [hq] at hm
        simp only [Option.getD_some] at hm
        have hr := hrow k y (aget_mem hy)
        rw [hbn k m hk, ho1] at hr
        simp only [Option.map_some, Option.getD_some] at hr
        rw [moved_ormv _ _ (by rw [isRow_ren]; exact hr), moved_ren] at hm
        simp only [Bool.or_eq_false_iff] at hm
        have h2 := h.old m o1 ho1 hm.1 r hr0
        have := ho.old k y hy hm.2 r (by show subRho ns ρ k = some r; simp [subRho, hk, h2])
        rw [← hbn k m hk, r_in k x hx]; exact this
    · have hno : ∀ k x, (k, x) ∈ hp1 → backName ns d k ≠ n := fun k x hx e => hin ⟨k, x, hx, e⟩
      rw [aget_mapNot (backName ns d) (fun j (p : AObj) => (p.ren (backMap ns d hp1)).ormv (((aget (killAll st (movedOf ns hp1)).hp (backName ns d j)).map AObj.moved).getD false)) hp1 n hno, Option.none_or, hp_killAll] at hn
      obtain ⟨o1, ho1, rfl⟩ := Option.map_eq_some_iff.1 hn
      rw [moved_kills] at hm
      rw [r_out n hno]
      exact h.old n o1 ho1 hm r hr0
  · -- the frame
    refine ⟨h.fr.ext.trans hext, fun b o hS => ?_, fro.bnd, Nat.le_trans h.fr.size fro.size, fun b hb hnF => ?_, fun b hb => fro.dfr b (h.fr.dfr b hb), fro.os.trans h.fr.os, fro.tape.trans h.fr.tape, fro.output.trans h.fr.output⟩
    · rcases fro.new b o hS with hx | hx | hx
      · exact h.fr.new b o hx
      · obtain ⟨i, s, l, hi, hr⟩ := hF b hx
        exact .inr (h.mine i b s l hr)
      · exact .inr (.inr (Nat.le_trans h.fr.size hx))
    · refine (fro.keep b (Nat.lt_of_lt_of_le hb h.fr.size) fun hx => ?_).trans (h.fr.keep b hb hnF)
      obtain ⟨i, s, l, hi, hr⟩ := hF b hx
      rcases h.mine i b s l hr with hh | hh
      · exact hnF hh
      · omega

/-! ### A call -/
def CallDone (E : Env) (tm : Array Value) (ρ : Rho) (mvd : List Nat) : AR → Ending → World → Prop
  | .val v st', e, w' => ∃ u S' ρ', e = .returned u ∧ SR E st' S' ρ' tm w' ∧ VR S' ρ' w' v u ∧ ∀ n r, n ∉ mvd → ρ n = some r → ρ' n = some r
  | .pan v st', e, w' => ∃ u S' ρ', e = .panicked [{ v := u, recovered := false }] ∧ SR E st' S' ρ' tm w' ∧ VR S' ρ' w' v u

/-- A round, told abstractly, on the machine. -/
def RoundSound (P : Program) (L : Nat) (args : List AV) (hp : Heap) (r : ARes × Heap) : Prop :=
  ∀ (S : Stab) (ρ : Rho) (w : World) (us : Array Value) (hl : ∀ n r, ρ n = some r → n < 1000), HR S ρ w hp → (∀ b o, S b o → b < w.heap.size) → args.length = us.size →
    (∀ (j : Nat) c v, args[j]? = some c → us[j]? = some v → VR S ρ w c v) → ∀ b sz k, ρ L = some ⟨some (b, sz), k⟩ →
    ∃ R : Loop, w.heap[b]? = some (.loop R) ∧ us.size = R.params.size ∧ RoundIn Fence.wide 0 P b R.fn ((R.params.zip us).foldl (fun tmps (t, a) => tmps.setIfInBounds t a) R.tmps) R.assign R.body w
      fun e w' => ∃ S' ρ', Out (envOf S ρ w hl) r.2 S' ρ' w' ∧ AnswerR S' ρ' w' r.1 e

structure CallOK (G : Cfg) (call : CallFn) : Prop where
  fn : ∀ g args hp r, g < RB → G.E g = true → call g args hp = some r → CallSound G.P g args hp r
  rnd : ∀ L args hp r, call (RB + L) args hp = some r → RoundSound G.P L args hp r

theorem vr_yld {id : Nat} {v : Value} (h : VR S ρ w (.yld id) v) : ∃ b sz n, ρ id = some ⟨some (b, sz), n⟩ ∧ v = .func (.yield b) #[] #[] := by
  cases h with
  | pure h => cases h
  | yld _ b sz n h => exact ⟨b, sz, n, h, rfl⟩

theorem prepL_get (G : Cfg) (g : FuncId) (hp : Heap) : ∀ (l : List AV) (j k : Nat), (prepL G g hp l j)[k]? = (l[k]?).map fun a => if G.inplace g (j + k) then a else a.rv hp := by
  intro l
  induction l with
  | nil => intro j k; simp [prepL]
  | cons a l ih =>
    intro j k
    cases k with
    | zero => simp [prepL]
    | succ k => simp only [prepL, List.getElem?_cons_succ]; rw [ih, show j + 1 + k = j + (k + 1) by omega]
theorem prepL_length (G : Cfg) (g : FuncId) (hp : Heap) : ∀ (l : List AV) (j : Nat), (prepL G g hp l j).length = l.length := by
  intro l
  induction l with
  | nil => intro j; rfl
  | cons a l ih => intro j; simp [prepL, ih]
theorem prepRows_mem (G : Cfg) (g : FuncId) : ∀ (l : List AV) (j k : Nat) (a : AV) (n : Nat), l[k]? = some a → G.inplace g (j + k) = false → n ∈ a.rows → n ∈ prepRows G g l j := by
  intro l
  induction l with
  | nil => intro j k a n h; simp at h
  | cons x l ih =>
    intro j k a n h hi hn
    cases k with
    | zero =>
      simp at h; subst h
      simp only [prepRows, List.mem_append]
      left
      rw [Nat.add_zero] at hi
      simpa [hi] using hn
    | succ k =>
      simp only [prepRows, List.mem_append]
      right
      exact ih (j + 1) k a n (by simpa using h) (by rw [show j + 1 + k = j + (k + 1) by omega]; exact hi) hn

/-- What comes back. -/
theorem back_ok {tm : Array Value} (k2 : SR E st S ρ tm w) {ns : List Nat} (hnd : ns.Nodup) (hlen : ns.length ≤ 40) (hns : ∀ n ∈ ns, (aget st.hp n).isSome = true) {d : Option Nat} {res : ARes} {hp1 : Heap} {st3 : ASt} (hst3 : afterCall d ns st hp1 = some st3)
    {hl : ∀ n r, subRho ns ρ n = some r → n < 1000} {e : Ending} {w' : World} (h : ∃ S' ρ', Out (envOf S (subRho ns ρ) w hl) hp1 S' ρ' w' ∧ AnswerR S' ρ' w' res e) : CallDone E tm ρ (movedOf ns hp1) (answered (backMap ns d hp1) st3 res) e w' := by
  obtain ⟨S', ρ', hout, hans⟩ := h
  obtain ⟨ρ3, hsr, hvr, hper⟩ := afterCall_ok k2 hnd hlen (fun n hn => Option.isSome_iff_exists.1 (hns n hn)) hst3 hout
  cases res with
  | ret v =>
    cases e with
    | returned u => exact ⟨u, S', ρ3, rfl, hsr, hvr v u hans, hper⟩
    | panicked ch => exact hans.elim
    | outgrown => exact hans.elim
  | pan v =>
    cases e with
    | returned u => exact hans.elim
    | panicked ch => obtain ⟨u, rfl, hv⟩ := hans; exact ⟨u, S', ρ3, rfl, hsr, hvr v u hv⟩
    | outgrown => exact hans.elim

theorem subRho_low {ns : List Nat} (hlen : ns.length ≤ 40) : ∀ n r, subRho ns ρ n = some r → n < 1000 := by
  intro n r hr'
  unfold subRho at hr'
  rw [Option.bind_eq_some_iff] at hr'
  obtain ⟨m, hm, _⟩ := hr'
  have := (List.getElem?_eq_some_iff.1 hm).1
  omega

theorem callB_ok (h : SR E st S ρ a.tmps w) {call : CallFn} (hcall : CallOK G call) {d : Option Nat} {fv : AV} {args : List AV} {uf : Value} {us : Array Value}
    (hf : VR S ρ w fv uf) (hl : args.length = us.size) (ha : ∀ (j : Nat) c v, args[j]? = some c → us[j]? = some v → VR S ρ w c v) {r : AR × List Nat} (hr : callB G call d fv args st = some r) :
    (∃ g vx vy, G.E g = true ∧ uf = .func (.func g) vx vy ∧ Calls G.P g (vx ++ us ++ vy) w (CallDone E a.tmps ρ r.2 r.1)) ∨
    ∃ b R, uf = .func (.yield b) #[] #[] ∧ w.heap[b]? = some (.loop R) ∧ us.size = R.params.size ∧ RoundIn Fence.wide 0 G.P b R.fn ((R.params.zip us).foldl (fun tmps (t, a) => tmps.setIfInBounds t a) R.tmps) R.assign R.body w (CallDone E a.tmps ρ r.2 r.1) := by
  unfold callB at hr
  split at hr
  case h_3 => cases hr
  case h_2 =>
    rename_i id
    right
    dsimp only at hr
    split at hr
    case isFalse => cases hr
    rename_i hc
    rw [List.all_eq_true] at hc
    obtain ⟨b, sz, k, hρ, e⟩ := vr_yld hf
    obtain ⟨S1, k1, k2, k3, k4⟩ := h.fix (AV.rowsL args)
    generalize hst1 : st.fix (AV.rowsL args) = st1 at *
    generalize hnsd : reachL 40 st1.hp (id :: AV.namesL (AV.rvL st.hp args)) [] = ns at *
    have hnd : ns.Nodup := by rw [← hnsd]; exact reachL_nodup _ _ _ _ List.nodup_nil
    have hlen : ns.length ≤ 40 := by rw [← hnsd]; simpa using reachL_length st1.hp 40 (id :: AV.namesL (AV.rvL st.hp args)) []
    rw [Option.bind_eq_some_iff] at hr
    obtain ⟨j, hj, hr⟩ := hr
    rw [Option.bind_eq_some_iff] at hr
    obtain ⟨⟨res, hp1⟩, hy1, hr⟩ := hr
    obtain ⟨st3, hst3, rfl⟩ := Option.map_eq_some_iff.1 hr
    have hjn := toMap_some hj
    obtain ⟨R, h1, h2, h3⟩ := hcall.rnd _ _ _ _ hy1 S1 (subRho ns ρ) w us (subRho_low hlen) (k2.heap.sub hnd) k2.fr.bnd (by rw [renL_length, rvL_length]; exact hl) (fun i c v hci hvi => by
      rw [renL_get] at hci
      obtain ⟨x, hx, rfl⟩ := Option.map_eq_some_iff.1 hci
      rw [rvL_get] at hx
      obtain ⟨y, hy, rfl⟩ := Option.map_eq_some_iff.1 hx
      exact (rv_fixed h k1 (hst1 ▸ k2) k3 (hst1 ▸ k4) (ha i y v hy hvi) fun n hn => rowsL_mem hy hn).sub) b sz k (by simp [subRho, hjn, hρ])
    exact ⟨b, R, e, h1, h2, h3.mono fun e w' hh => back_ok k2 hnd hlen hc hst3 hh⟩
  left
  rename_i g first caps
  dsimp only at hr
  split at hr
  case isFalse => cases hr
  rename_i hc
  simp only [Bool.and_eq_true, List.all_eq_true, decide_eq_true_eq] at hc
  obtain ⟨⟨hE, hRB⟩, hns⟩ := hc
  obtain ⟨vx, vy, e, hx, hy, hvx, hvy⟩ := vr_fn hf
  refine ⟨g, vx, vy, hE, e, ?_⟩
  generalize hall : first ++ args ++ caps = all at *
  have hal : all.length = (vx ++ us ++ vy).size := by rw [← hall]; simp; omega
  have hav : ∀ (j : Nat) c v, all[j]? = some c → (vx ++ us ++ vy)[j]? = some v → VR S ρ w c v := by
    intro j c v hcj hvj
    rw [← hall] at hcj
    rcases Nat.lt_or_ge j first.length with h1 | h1
    · rw [List.append_assoc, List.getElem?_append_left h1] at hcj
      rw [Array.append_assoc, Array.getElem?_append_left (by omega)] at hvj
      exact hvx j c v hcj hvj
    · rcases Nat.lt_or_ge j (first.length + args.length) with h2 | h2
      · rw [List.getElem?_append_left (by simp; omega), List.getElem?_append_right h1] at hcj
        rw [Array.getElem?_append_left (by simp; omega), Array.getElem?_append_right (by omega), ← hx] at hvj
        exact ha _ c v hcj hvj
      · rw [List.getElem?_append_right (by simp; omega)] at hcj
        rw [Array.getElem?_append_right (by simp; omega)] at hvj
        refine hvy _ c v hcj ?_
        rw [← hvj]; congr 1; simp; omega
  obtain ⟨S1, k1, k2, k3, k4⟩ := h.fix (prepRows G g all 0)
  generalize hst1 : st.fix (prepRows G g all 0) = st1 at *
  generalize hpre : prepL G g st.hp all 0 = pre at *
  generalize hnsd : reachL 40 st1.hp (AV.namesL pre) [] = ns at *
  have hnd : ns.Nodup := by rw [← hnsd]; exact reachL_nodup _ _ _ _ List.nodup_nil
  have hlen : ns.length ≤ 40 := by rw [← hnsd]; simpa using reachL_length st1.hp 40 (AV.namesL pre) []
  have hprev : ∀ (j : Nat) c v, pre[j]? = some c → (vx ++ us ++ vy)[j]? = some v → VR S1 ρ w c v := by
    intro j c v hcj hvj
    rw [← hpre, prepL_get] at hcj
    obtain ⟨x, hx, rfl⟩ := Option.map_eq_some_iff.1 hcj
    rw [Nat.zero_add]
    split
    · exact (hav j x v hx hvj).ext (Ext.more k1 w) fun _ _ h => h
    · rename_i hi
      refine rv_fixed h k1 (hst1 ▸ k2) k3 (hst1 ▸ k4) (hav j x v hx hvj) fun n hn => prepRows_mem G g all 0 j x n hx (by rw [Nat.zero_add]; simpa using hi) hn
  rw [Option.bind_eq_some_iff] at hr
  obtain ⟨⟨res, hp1⟩, hy1, hr⟩ := hr
  obtain ⟨st3, hst3, rfl⟩ := Option.map_eq_some_iff.1 hr
  have hsound := hcall.fn g _ _ _ hRB hE hy1 S1 (subRho ns ρ) w (vx ++ us ++ vy) (subRho_low hlen) (k2.heap.sub hnd) k2.fr.bnd (by rw [renL_length, ← hpre, prepL_length]; exact hal) (fun j c v hcj hvj => by
    rw [renL_get] at hcj
    obtain ⟨x, hx, rfl⟩ := Option.map_eq_some_iff.1 hcj
    exact (hprev j x v hx hvj).sub)
  exact hsound.mono fun e w' hh => back_ok k2 hnd hlen hns hst3 hh

end Go.Proofs.Ytonaejfpiihfhaa.Abs
