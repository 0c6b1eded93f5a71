/- Regions that draw their order. -/
import Derived.Test.YtonaejfpiihfhaaAbs21
namespace Go.Proofs.Ytonaejfpiihfhaa.Abs
open Go Go.RowKit
set_option linter.unusedSimpArgs false
set_option linter.unusedVariables false

variable {G : Cfg} {S : Stab} {ρ : Rho} {w : World} {E : Env} {st : ASt} {a : Act}

/-! ### What an operation looks at -/
theorem opv_congr {P : Program} {r r' : Operand → AV} (hp : Heap) (op : Op) (h : ∀ x ∈ op.operands, r' x = r x) : opv P r' hp op = opv P r hp op := by
  cases op with
  | call c =>
    have ha : c.args.toList.map r' = c.args.toList.map r := List.map_congr_left fun x hx => h x (by simp [Op.operands, Call.operands]; right; simpa using hx)
    simp only [opv]
    have hx : ∀ x ∈ c.args.toList, r' x = r x := fun x hx => h x (by simp [Op.operands, Call.operands]; right; simpa using hx)
    split <;> rename_i e1 e2 e3 <;> simp_all
  | build t parts =>
    have : ∀ p ∈ parts.toList, r' p.2 = r p.2 := fun p hp => h p.2 (by simp [Op.operands]; exact ⟨p.1, by simpa using hp⟩)
    simp only [opv]
    congr 1
    exact List.map_congr_left fun p hp => by rw [this p hp]
  | makeFunc f x y =>
    simp only [opv]
    have h1 : x.toList.map r' = x.toList.map r := List.map_congr_left fun p hp => h p (by simp [Op.operands]; left; simpa using hp)
    have h2 : y.toList.map r' = y.toList.map r := List.map_congr_left fun p hp => h p (by simp [Op.operands]; right; simpa using hp)
    rw [h1, h2]
  | slice t x lo hi mx =>
    simp only [opv]
    have h0 := h x (by simp [Op.operands])
    have hl : lo.map r' = lo.map r := by cases lo with | none => rfl | some y => simp; exact h y (by simp [Op.operands])
    have hh : hi.map r' = hi.map r := by cases hi with | none => rfl | some y => simp; exact h y (by simp [Op.operands])
    have hm : mx.map r' = mx.map r := by cases mx with | none => rfl | some y => simp; exact h y (by simp [Op.operands])
    rw [h0, hl, hh, hm]
  | _ => first | rfl | (simp [Op.operands] at h; simp only [opv]; simp_all)

/-- The same, struck of some names. -/
def kl (ks : List Nat) (x : AV) : AV := ks.foldl (fun x n => x.kill n) x
def Moved (st st' s s' : ASt) : Prop := s'.hp = s.hp ∧ ∃ ks, (∀ t, s.slot t = kl ks (st.slot t)) ∧ ∀ t, s'.slot t = kl ks (st'.slot t)
theorem Moved.none {st st' s s' : ASt} (h : s'.hp = s.hp) (h1 : ∀ t, s.slot t = st.slot t) (h2 : ∀ t, s'.slot t = st'.slot t) : Moved st st' s s' := ⟨h, [], h1, h2⟩

theorem newObj_slots {st st' : ASt} (hhp : st'.hp = st.hp) {d : Nat} {ob : AObj} {vf : Nat → AV} {v : AV} {s : ASt} (h : newObj d ob vf st = some (.val v s)) : ∃ s', newObj d ob vf st' = some (.val v s') ∧ Moved st st' s s' := by
  obtain ⟨h1, h2⟩ := newObj_some h
  cases h2
  refine ⟨{ st' with hp := (1000 + d, ob) :: st'.hp }, ?_, .none (by simp [hhp]) (fun _ => rfl) (fun _ => rfl)⟩
  unfold newObj
  rw [hhp, h1]; simp

theorem aopB_slots {st st' : ASt} (hhp : st'.hp = st.hp) (o : Oper) (h : ∀ x ∈ o.op.operands, st'.ev x = st.ev x) {v : AV} {s : ASt} (hb : aopB G o st = some (.val v s)) : ∃ s', aopB G o st' = some (.val v s') ∧ Moved st st' s s' := by
  have reads : ∀ {op : Op}, op = o.op → ((opv G.P st.ev st.hp op).map fun v => AR.val v st) = some (.val v s) → ∃ s', ((opv G.P st'.ev st'.hp op).map fun v => AR.val v st') = some (.val v s') ∧ Moved st st' s s' := by
    intro op e hb
    subst e
    obtain ⟨x, hx, e⟩ := Option.map_eq_some_iff.1 hb
    cases e
    refine ⟨st', ?_, .none hhp (fun _ => rfl) (fun _ => rfl)⟩
    rw [opv_congr st'.hp o.op h, hhp, hx]; rfl
  unfold aopB at hb ⊢
  cases hop : o.op with
  | alloc e =>
    simp only [hop] at hb ⊢
    rw [Option.bind_eq_some_iff] at hb; obtain ⟨d, hd, hb⟩ := hb
    rw [Option.bind_eq_some_iff] at hb; obtain ⟨z, hz, hb⟩ := hb
    split at hb
    · rename_i hc
      obtain ⟨s', h1, h2⟩ := newObj_slots hhp hb
      exact ⟨s', by simp only [hd, hz, Option.bind_some, if_pos hc]; exact h1, h2⟩
    · cases hb
  | box e x =>
    have ex := h x (by simp [hop, Op.operands])
    simp only [hop, ex] at hb ⊢
    rw [Option.bind_eq_some_iff] at hb; obtain ⟨d, hd, hb⟩ := hb
    split at hb
    · rename_i hc
      obtain ⟨s', h1, h2⟩ := newObj_slots hhp hb
      exact ⟨s', by simp only [hd, Option.bind_some, if_pos hc]; exact h1, h2⟩
    · cases hb
  | buildSlice t len parts =>
    have ex : parts.toList.map (fun p => st'.ev p.2) = parts.toList.map (fun p => st.ev p.2) := List.map_congr_left fun p hp => h p.2 (by simp [hop, Op.operands]; exact ⟨p.1, by simpa using hp⟩)
    simp only [hop, ex, hhp] at hb ⊢
    rw [Option.bind_eq_some_iff] at hb; obtain ⟨d, hd, hb⟩ := hb
    rw [Option.bind_eq_some_iff] at hb; obtain ⟨e, he, hb⟩ := hb
    split at hb
    · rename_i hc
      obtain ⟨s', h1, h2⟩ := newObj_slots (st' := st'.fix (AV.rowsL (parts.toList.map fun p => st.ev p.2))) (by simp [ASt.fix, hhp]) hb
      exact ⟨s', by simp only [hd, he, Option.bind_some, if_pos hc]; exact h1, h2⟩
    · cases hb
  | store t x y =>
    have ex := h x (by simp [hop, Op.operands])
    have ey := h y (by simp [hop, Op.operands])
    simp only [hop, ex, ey] at hb ⊢
    obtain ⟨s0, hs, e⟩ := Option.map_eq_some_iff.1 hb
    cases e
    have : ∃ s', storeA G t (st.ev x) (st.ev y) st' = some s' ∧ Moved st st' s s' := by
      unfold storeA at hs ⊢
      simp only [hhp]
      split at hs
      · rename_i id i oo
        rw [Option.bind_eq_some_iff] at hs; obtain ⟨ob, hob, hs⟩ := hs
        simp only [hob, Option.bind_some]
        cases ob with
        | loop r l => cases hs
        | dblk => cases hs
        | box v =>
          simp only at hs ⊢
          split at hs
          · rename_i hc; cases hs; exact ⟨_, if_pos hc, .none rfl (fun _ => rfl) (fun _ => rfl)⟩
          · cases hs
        | row sz es fx mv =>
          simp only at hs ⊢
          split at hs
          · cases hs
          · rename_i hc
            rw [if_neg hc]
            rw [Option.bind_eq_some_iff] at hs; obtain ⟨el, hel, hs⟩ := hs
            simp only [hel, Option.bind_some]
            split at hs
            · rename_i hc2; cases hs; exact ⟨_, if_pos hc2, .none rfl (fun _ => rfl) (fun _ => rfl)⟩
            · cases hs
      · cases hs
    obtain ⟨s', h1, h2⟩ := this
    exact ⟨s', by rw [h1]; rfl, h2⟩
  | panic x =>
    simp only [hop] at hb
    split at hb <;> cases hb
  | convert a t x =>
    have ex := h x (by simp [hop, Op.operands])
    simp only [hop, ex, hhp] at hb ⊢
    split at hb
    · split at hb
      · rw [Option.bind_eq_some_iff] at hb; obtain ⟨d, hd, hb⟩ := hb
        split at hb
        · rename_i hc
          obtain ⟨s', h1, h2⟩ := newObj_slots hhp hb
          exact ⟨s', by simp only [hd, Option.bind_some, if_pos hc]; exact h1, h2⟩
        · cases hb
      · cases hb
    · obtain ⟨x, hx, e⟩ := Option.map_eq_some_iff.1 hb
      cases e
      exact ⟨st', by rw [hx]; rfl, .none hhp (fun _ => rfl) (fun _ => rfl)⟩
  | makeSlice t x y =>
    have ex := h x (by simp [hop, Op.operands])
    have ey := h y (by simp [hop, Op.operands])
    simp only [hop, ex, ey] at hb ⊢
    rw [Option.bind_eq_some_iff] at hb; obtain ⟨d, hd, hb⟩ := hb
    rw [Option.bind_eq_some_iff] at hb; obtain ⟨e, he, hb⟩ := hb
    rw [Option.bind_eq_some_iff] at hb; obtain ⟨z, hz, hb⟩ := hb
    simp only [hd, he, hz, Option.bind_some]
    split at hb
    · split at hb
      · rename_i hc
        obtain ⟨s', h1, h2⟩ := newObj_slots hhp hb
        exact ⟨s', by rw [if_pos hc]; exact h1, h2⟩
      · cases hb
    · cases hb
  | call c =>
    have ea : ∀ x ∈ c.args.toList, st'.ev x = st.ev x := fun x hx => h x (by rw [hop]; simp [Op.operands, Call.operands]; right; simpa using hx)
    simp only [hop] at hb ⊢
    split at hb
    · rename_i x y t xt h1 h2 h3
      have e1 := ea x (by rw [h2]; simp)
      have e2 := ea y (by rw [h2]; simp)
      rw [Option.bind_eq_some_iff] at hb; obtain ⟨d, hd, hb⟩ := hb
      simp only [hd, Option.bind_some, e1, e2]
      unfold appendA at hb ⊢
      simp only [hhp]
      split at hb
      · split at hb
        · rw [Option.bind_eq_some_iff] at hb; obtain ⟨xs, hxs, hb⟩ := hb
          simp only [hxs, Option.bind_some]
          split at hb
          · cases hb
          · rename_i hc
            rw [if_neg hc]
            split at hb
            · split at hb
              · rename_i hL
                obtain ⟨s', k1, k2⟩ := newObj_slots hhp hb
                exact ⟨s', by rw [if_pos hL]; exact k1, k2⟩
              · cases hb
            · rename_i id _
              rw [Option.bind_eq_some_iff] at hb; obtain ⟨ob, hob, hb⟩ := hb
              simp only [hob, Option.bind_some]
              cases ob with
              | box v => cases hb
              | loop r l => cases hb
              | dblk => cases hb
              | row sz es fx mv =>
                simp only at hb ⊢
                split at hb
                · rename_i hL
                  cases hb
                  exact ⟨_, if_pos hL, by simp [ASt.killn, hhp], [id], fun t => slot_killn st id t, fun t => slot_killn st' id t⟩
                · cases hb
            · cases hb
        · rw [Option.bind_eq_some_iff] at hb; obtain ⟨xs, hxs, hb⟩ := hb
          simp only [hxs, Option.bind_some]
          split at hb
          · cases hb
          · rename_i hc
            rw [if_neg hc]
            split at hb
            · split at hb
              · rename_i hL
                obtain ⟨s', k1, k2⟩ := newObj_slots hhp hb
                exact ⟨s', by rw [if_pos hL]; exact k1, k2⟩
              · cases hb
            · rename_i id _
              rw [Option.bind_eq_some_iff] at hb; obtain ⟨ob, hob, hb⟩ := hb
              simp only [hob, Option.bind_some]
              cases ob with
              | box v => cases hb
              | loop r l => cases hb
              | dblk => cases hb
              | row sz es fx mv =>
                simp only at hb ⊢
                split at hb
                · rename_i hL
                  cases hb
                  exact ⟨_, if_pos hL, by simp [ASt.killn, hhp], [id], fun t => slot_killn st id t, fun t => slot_killn st' id t⟩
                · cases hb
            · cases hb
        · rw [Option.bind_eq_some_iff] at hb; obtain ⟨z, hz, hb⟩ := hb
          simp only [hz, Option.bind_some]
          split at hb
          · split at hb
            · rename_i hL
              obtain ⟨s', k1, k2⟩ := newObj_slots hhp hb
              exact ⟨s', by rw [if_pos hL]; exact k1, k2⟩
            · cases hb
          · cases hb
        · cases hb
      · cases hb
    · exact reads hop.symm hb
  | slice t x lo hi mx =>
    have ex := h x (by simp [hop, Op.operands])
    have elo : lo.map st'.ev = lo.map st.ev := by cases lo with | none => rfl | some y => simp [h y (by simp [hop, Op.operands])]
    have ehi : hi.map st'.ev = hi.map st.ev := by cases hi with | none => rfl | some y => simp [h y (by simp [hop, Op.operands])]
    have emx : mx.map st'.ev = mx.map st.ev := by cases mx with | none => rfl | some y => simp [h y (by simp [hop, Op.operands])]
    simp only [hop, ex, elo, ehi, emx, hhp] at hb ⊢
    split at hb
    · rename_i q hq
      split at hb
      · rename_i hc
        cases hb
        exact ⟨_, if_pos hc, by simp [ASt.cut, ASt.killn, hhp], [q.1], fun t => slot_killn st q.1 t, fun t => slot_killn st' q.1 t⟩
      · cases hb
    · have := reads hop.symm hb
      simpa only [hhp] using this
  | _ => simp only [hop] at hb ⊢; exact reads hop.symm hb

theorem afterCall_slots {st st' : ASt} (hhp : st'.hp = st.hp) {d : Option Nat} {ns : List Nat} {hp1 : Heap} {s : ASt} (h : afterCall d ns st hp1 = some s) : ∃ s', afterCall d ns st' hp1 = some s' ∧ Moved st st' s s' := by
  unfold afterCall at h ⊢
  rw [hhp]
  split at h
  case isFalse => cases h
  rename_i hck
  rw [if_pos hck]
  cases h
  have hk : ∀ ks : List Nat, ∀ a b : ASt, a.hp = b.hp → (killAll a ks).hp = (killAll b ks).hp := by
    intro ks
    induction ks with
    | nil => intro a b h; exact h
    | cons n ks ih => intro a b h; exact ih (a.killn n) (b.killn n) (by simp [ASt.killn, h])
  refine ⟨_, rfl, ?_, movedOf ns hp1, fun t => ?_, fun t => ?_⟩
  · show afterHeap d ns (killAll st' (movedOf ns hp1)).hp hp1 = afterHeap d ns (killAll st (movedOf ns hp1)).hp hp1
    rw [hk _ _ _ hhp]
  · show (killAll st (movedOf ns hp1)).slot t = _
    rw [slot_killAll]; rfl
  · show (killAll st' (movedOf ns hp1)).slot t = _
    rw [slot_killAll]; rfl

theorem callA_slots {call : CallFn} {st st' : ASt} (hhp : st'.hp = st.hp) {d : Option Nat} {fv : AV} {args : List AV} {v : AV} {s : ASt} (hb : callA G call d fv args st = some (.val v s)) : ∃ s', callA G call d fv args st' = some (.val v s') ∧ Moved st st' s s' := by
  have hf : ∀ ns, (st'.fix ns).hp = (st.fix ns).hp := fun ns => by simp [ASt.fix, hhp]
  have fin : ∀ (rs ns : List Nat) (y : ARes × Heap), ((afterCall d ns (st.fix rs) y.2).map fun st3 => (answered (backMap ns d y.2) st3 y.1, movedOf ns y.2)).map (·.1) = some (.val v s) →
      ∃ s', ((afterCall d ns (st'.fix rs) y.2).map fun st3 => (answered (backMap ns d y.2) st3 y.1, movedOf ns y.2)).map (·.1) = some (.val v s') ∧ Moved st st' s s' := by
    intro rs ns y h
    obtain ⟨z, hz, e⟩ := Option.map_eq_some_iff.1 h
    obtain ⟨s3, hs3, rfl⟩ := Option.map_eq_some_iff.1 hz
    obtain ⟨s', h1, h2⟩ := afterCall_slots (hf rs) hs3
    cases hres : y.1 with
    | pan u => rw [hres] at e; simp [answered] at e
    | ret u =>
      rw [hres] at e
      simp only [answered, AR.val.injEq] at e
      obtain ⟨rfl, rfl⟩ := e
      exact ⟨s', by rw [h1]; simp [answered], h2⟩
  unfold callA callB at hb ⊢
  split at hb
  · dsimp only at hb ⊢
    rw [hhp, hf]
    split at hb
    case isFalse => cases hb
    rename_i hc
    rw [if_pos hc]
    rw [Option.map_bind, Option.bind_eq_some_iff] at hb
    obtain ⟨y, hy, hb⟩ := hb
    rw [hy]
    exact fin _ _ y hb
  · dsimp only at hb ⊢
    rw [hhp, hf]
    split at hb
    case isFalse => cases hb
    rename_i hc
    rw [if_pos hc]
    rw [Option.map_bind, Option.bind_eq_some_iff] at hb
    obtain ⟨j, hj, hb⟩ := hb
    simp only [Function.comp] at hb
    rw [Option.map_bind, Option.bind_eq_some_iff] at hb
    obtain ⟨y, hy, hb⟩ := hb
    rw [hj]
    simp only [Option.bind_some]
    rw [hy]
    exact fin _ _ y hb
  · cases hb

end Go.Proofs.Ytonaejfpiihfhaa.Abs
