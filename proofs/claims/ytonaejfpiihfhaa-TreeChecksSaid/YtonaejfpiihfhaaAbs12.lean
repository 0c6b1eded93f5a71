/- What an operation that only reads comes to, the machine's comes to. -/
import Derived.Test.YtonaejfpiihfhaaAbs11
namespace Go.Proofs.Ytonaejfpiihfhaa.Abs
open Go Go.RowKit
set_option linter.unusedSimpArgs false
set_option linter.unusedVariables false

variable {P : Program} {S : Stab} {ρ : Rho} {w : World} {E : Env} {st : ASt} {a : Act}

theorem makeInterface_ok {t : TypeId} {d : TypeDesc} (hd : P.underlying t = some d) (hn : ∀ ms, d ≠ .interface ms) (v : Value) : (Instr.makeInterface t v).run P w = .ok (.iface t v) w := by
  unfold Instr.makeInterface
  rw [runB (run_underlying hd w)]
  cases d <;> first | rfl | exact absurd rfl (hn _)

theorem eqGuard_nil {op : BinOp} {t : TypeId} {x y : Operand} (hc : (isConst x || isConst y) = true) : (eqGuard op t x y .nilIface .nilIface).run P w = .ok () w := by
  unfold eqGuard
  cases x <;> cases y <;> simp [isConst] at hc <;> cases op <;> rfl

theorem zero_ok {t : TypeId} {z : Value} (h : (P.info? t).bind (·.zero) = some z) : (zeroValue t).run P w = .ok z w := by
  obtain ⟨i, hi, hz⟩ := Option.bind_eq_some_iff.1 h
  simp [zeroValue, typeInfo, hi, hz]

theorem opv_ok (h : SR E st S ρ a.tmps w) (o : Oper) {v : AV} (hv : opv P st.ev st.hp o.op = some v) : ∃ u, (execOp a.eval o).run P w = .ok (.value u) w ∧ VR S ρ w v u := by
  have H := h.heap
  have wr : ∀ {s : Sem Value} {u : Value}, s.run P w = .ok u w → VR S ρ w v u → ∃ u, (do pure (Next.value (← s)) : Sem Next).run P w = .ok (.value u) w ∧ VR S ρ w v u := fun hs hr => ⟨_, wrapV hs, hr⟩
  unfold execOp
  cases hop : o.op with
  | move x => rw [hop] at hv; cases hv; exact ⟨_, rfl, h.ev x⟩
  | assign x => rw [hop] at hv; cases hv; exact ⟨_, rfl, h.ev x⟩
  | pick c x y =>
    rw [hop] at hv
    simp only [opv] at hv
    split at hv
    · rename_i t hc
      have := h.ev c; rw [hc] at this
      have e := vr_bool this
      refine ⟨if t then a.eval x else a.eval y, ?_, ?_⟩
      · simp only [e, asBool]; rfl
      · cases hv; cases t
        · exact h.ev y
        · exact h.ev x
    · cases hv
  | binOp op t x y yt =>
    rw [hop] at hv
    simp only [opv] at hv
    have hx := h.ev x
    have hy := h.ev y
    split at hv
    · rename_i e1 e2
      rw [e1] at hx; rw [e2] at hy
      have ex := vr_nili hx; have ey := vr_nili hy
      simp only [ex, ey]
      have hg := fun hc => eqGuard_nil (P := P) (w := w) (op := op) (t := t) (x := x) (y := y) hc
      split at hv
      · rename_i ms hu
        split at hv
        · rename_i hc
          cases hv
          refine wr (u := .bool true) ?_ (.pure (.bool _))
          rw [runB (hg hc)]
          show (binOp .eql t .nilIface .nilIface).run P w = _
          have : (Op.equal t .nilIface .nilIface).run P w = .ok true w := by
            have : ∀ d, (Op.equalIn (d + 1) t .nilIface .nilIface).run P w = .ok true w := fun d => by simp only [Op.equalIn]; rw [runB (run_underlying hu w)]; rfl
            exact this 9999
          rw [show binOp .eql t .nilIface .nilIface = (do pure (.bool (← Op.equal t .nilIface .nilIface))) from rfl, runB this]; rfl
        · cases hv
      · rename_i ms hu
        split at hv
        · rename_i hc
          cases hv
          refine wr (u := .bool false) ?_ (.pure (.bool _))
          rw [runB (hg hc)]
          have : (Op.equal t .nilIface .nilIface).run P w = .ok true w := by
            have : ∀ d, (Op.equalIn (d + 1) t .nilIface .nilIface).run P w = .ok true w := fun d => by simp only [Op.equalIn]; rw [runB (run_underlying hu w)]; rfl
            exact this 9999
          rw [show binOp .neq t .nilIface .nilIface = (do pure (.bool (!(← Op.equal t .nilIface .nilIface)))) from rfl, runB this]; rfl
        · cases hv
      · cases hv
    · unfold binv at hv
      split at hv
      · rename_i k n k' n' e1 e2
        rw [e1] at hx; rw [e2] at hy
        have ex := vr_int hx; have ey := vr_int hy
        simp only [ex, ey]
        split at hv
        · split at hv
          · cases hv
          · rename_i hb
            cases hv
            refine wr (u := _) ?_ (.pure (.int _ _))
            rw [runB (eqGuard_pass (by simp) (by simp))]
            simp [binOp, Op.shift, hb]
        · split at hv
          · cases hv
          · rename_i hb
            cases hv
            refine wr (u := _) ?_ (.pure (.int _ _))
            rw [runB (eqGuard_pass (by simp) (by simp))]
            simp [binOp, Op.shift, hb]
        · split at hv
          · rename_i hk; subst hk
            obtain ⟨u, h1, h2⟩ := arith_ok (P := P) (S := S) (ρ := ρ) (w := w) (t := t) hv
            refine wr (u := u) ?_ h2
            rw [runB (eqGuard_pass (by simp) (by simp))]; exact h1
          · cases hv
      · rename_i s1 s2 e1 e2
        rw [e1] at hx; rw [e2] at hy
        obtain ⟨b1, ex, rfl⟩ := vr_str hx; obtain ⟨b2, ey, rfl⟩ := vr_str hy
        simp only [ex, ey]
        obtain ⟨u, h1, h2⟩ := strOp_ok (P := P) (S := S) (ρ := ρ) (w := w) (t := t) hv
        refine wr (u := u) ?_ h2
        rw [runB (eqGuard_pass (by simp) (by simp))]; exact h1
      · split at hv
        · obtain ⟨r, hr, rfl⟩ := Option.map_eq_some_iff.1 hv
          obtain ⟨k1, k2, k3, k4⟩ := eqv_ok hx hy hr
          refine wr (u := .bool r) ?_ (.pure (.bool _))
          have hg : (eqGuard .eql t x y (a.eval x) (a.eval y)).run P w = .ok () w := by
            by_cases hag : ∃ cs, a.eval x = .agg cs
            · have hgt := k4 hag
              unfold eqGuard
              generalize a.eval x = ax at *
              generalize a.eval y = ay at *
              obtain ⟨cs, rfl⟩ := hag
              cases ay <;> simp [pure, bind, Sem.bind, program, Sem.run, hgt]
            · exact eqGuard_pass k3 fun cs e => hag ⟨cs, e⟩
          rw [runB hg]; exact k1
        · obtain ⟨r, hr, rfl⟩ := Option.map_eq_some_iff.1 hv
          obtain ⟨k1, k2, k3, k4⟩ := eqv_ok hx hy hr
          refine wr (u := .bool (!r)) ?_ (.pure (.bool _))
          have hg : (eqGuard .neq t x y (a.eval x) (a.eval y)).run P w = .ok () w := by
            by_cases hag : ∃ cs, a.eval x = .agg cs
            · have hgt := k4 hag
              unfold eqGuard
              generalize a.eval x = ax at *
              generalize a.eval y = ay at *
              obtain ⟨cs, rfl⟩ := hag
              cases ay <;> simp [pure, bind, Sem.bind, program, Sem.run, hgt]
            · exact eqGuard_pass k3 fun cs e => hag ⟨cs, e⟩
          rw [runB hg]; exact k2
        · cases hv
  | unOp op t x =>
    rw [hop] at hv
    obtain ⟨u, h1, h2⟩ := unv_ok (h.ev x) hv
    exact wr h1 h2
  | convert s t x =>
    rw [hop] at hv
    obtain ⟨u, h1, h2⟩ := convv_ok H (h.ev x) hv
    exact wr h1 h2
  | field t x f =>
    rw [hop] at hv
    simp only [opv] at hv
    split at hv
    · rename_i fd cs hf hc
      have hx := h.ev x; rw [hc] at hx
      obtain ⟨vs, ev, hl, hvs⟩ := vr_agg hx
      obtain ⟨d, hd, h0, hp⟩ := partT_some hv
      obtain ⟨u, h1, h2⟩ := part_ok hd h0 hl hvs hp
      refine wr (u := u) ?_ h2
      unfold fieldOff at hf
      split at hf
      · rename_i fs hu
        unfold Instr.field
        rw [runB (run_underlying hu w)]
        simp only [hf, ev]
        exact h1
      · cases hf
    · cases hv
  | fieldAddr t x f =>
    rw [hop] at hv
    simp only [opv] at hv
    split at hv
    · rename_i fd id i o' hf hc
      split at hv
      · cases hv
      · rename_i hne
        cases hv
        have hx := h.ev x; rw [hc] at hx
        obtain ⟨b, sz, n, hρ, ev⟩ := vr_ptr hx
        refine wr (u := .pointer (some (at0 b (i * sz + o' + fd.offset)))) ?_ (by rw [Nat.add_assoc]; exact .ptr id i _ b sz n hρ)
        unfold fieldOff at hf
        split at hf
        · rename_i fs hu
          unfold Instr.fieldAt
          rw [runB (run_underlying hu w)]
          simp only [hf, ev]
          rw [runB (a := at0 b (i * sz + o')) (by rfl), runB (fieldPlace_ok rfl (by omega))]
          rfl
        · cases hf
    · rename_i fd v0 o' hf hc
      split at hv
      · cases hv
      · rename_i hne
        cases hv
        have hx := h.ev x; rw [hc] at hx
        have hx' := hx
        cases hx with
        | pure hx => cases hx' with
          | pure hx' => 
            generalize hev : a.eval x = ax at hx hx'
            cases hx with
            | ep _ b base _ f ho hS hw hp =>
              refine wr (u := .pointer (some (at0 b (base + o' + fd.offset)))) ?_ (by rw [Nat.add_assoc]; exact .pure (.ep v0 b base _ f (by omega) hS hw hp))
              unfold fieldOff at hf
              split at hf
              · rename_i fs hu
                unfold Instr.fieldAt
                rw [runB (run_underlying hu w)]
                simp only [hf, hev]
                rw [runB (a := at0 b (base + o')) (by rfl), runB (fieldPlace_ok rfl (by omega))]
                rfl
              · cases hf
    · cases hv
  | indexAddr t x i =>
    rw [hop] at hv
    obtain ⟨u, h1, h2⟩ := indexA_ok H (h.ev x) (h.ev i) hv
    exact wr h1 h2
  | index t x i =>
    rw [hop] at hv
    obtain ⟨u, h1, h2⟩ := indexv_ok (h.ev x) (h.ev i) hv
    exact wr h1 h2
  | load t x =>
    rw [hop] at hv
    obtain ⟨ad, u, e, h1, h2⟩ := loadA_ok (P := P) H (h.ev x) (t := t) (v := v) hv
    refine wr (u := u) ?_ h2
    unfold Instr.loadAt
    rw [e, runB (a := ad) (by rfl)]
    exact h1
  | extract x i =>
    rw [hop] at hv
    simp only [opv] at hv
    split at hv
    · rename_i vs hc
      have hx := h.ev x; rw [hc] at hx
      obtain ⟨us, ev, hl, hus⟩ := vr_tup hx
      have hlt : i < us.size := by rw [← hl]; exact (List.getElem?_eq_some_iff.1 hv).1
      refine wr (u := us[i]) ?_ (hus i v _ hv (Array.getElem?_eq_getElem hlt))
      simp [Instr.extract, ev, hlt]
    · cases hv
  | build t parts =>
    rw [hop] at hv
    obtain ⟨u, h1, h2⟩ := buildA_ok (P := P) (S := S) (ρ := ρ) (w := w) (ps := parts.map fun (i, x) => (i, a.eval x)) (by simp [Function.comp]) (fun j p q hp hq => by
      simp only [List.getElem?_map, Array.toList_map] at hp hq
      obtain ⟨z, hz, rfl⟩ := Option.map_eq_some_iff.1 hp
      rw [hz] at hq; cases hq
      exact h.ev z.2) hv
    exact wr h1 h2
  | makeInterface t x =>
    rw [hop] at hv
    simp only [opv] at hv
    split at hv
    · cases hv
    · rename_i d hn hd
      cases hv
      exact wr (makeInterface_ok hd (fun ms e => hn ms (by rw [e])) _) (.iface t _ _ (h.ev x))
    · cases hv
  | makeFunc f x y =>
    rw [hop] at hv
    cases hv
    refine wr (u := _) rfl (.fn f _ _ _ _ (by simp) (by simp) (fun j c u hc hu => ?_) (fun j c u hc hu => ?_))
    · simp only [List.getElem?_map] at hc
      obtain ⟨z, hz, rfl⟩ := Option.map_eq_some_iff.1 hc
      rw [Array.getElem?_toList] at hz
      simp only [Array.getElem?_map, hz, Option.map_some, Option.some.injEq] at hu
      subst hu; exact h.ev z
    · simp only [List.getElem?_map] at hc
      obtain ⟨z, hz, rfl⟩ := Option.map_eq_some_iff.1 hc
      rw [Array.getElem?_toList] at hz
      simp only [Array.getElem?_map, hz, Option.map_some, Option.some.injEq] at hu
      subst hu; exact h.ev z
  | nilCheck x =>
    rw [hop] at hv
    simp only [opv] at hv
    have hx := h.ev x
    split at hv
    · rename_i id i o' hc
      cases hv; rw [hc] at hx
      obtain ⟨b, sz, n, hρ, ev⟩ := vr_ptr hx
      exact ⟨_, by simp only [ev]; rfl, .ptr id i o' b sz n hρ⟩
    · rename_i e o' hc
      cases hv; rw [hc] at hx
      obtain ⟨b, base, ev, _⟩ := vr_ep hx
      refine ⟨a.eval x, ?_, hx⟩
      simp only [ev]; rfl
    · rename_i t0 v0 hc
      cases hv; rw [hc] at hx
      obtain ⟨u, ev, hu⟩ := vr_iface hx
      exact ⟨_, by simp only [ev]; rfl, .iface _ _ _ hu⟩
    · cases hv
  | slice t x lo hi mx =>
    rw [hop] at hv
    have orel : ∀ y : Option Operand, ORel S ρ w (y.map st.ev) (y.map a.eval) := fun y => by
      cases y with
      | none => exact trivial
      | some y => exact h.ev y
    obtain ⟨u, h1, h2⟩ := slicev_ok H (h.ev x) (orel lo) (orel hi) (vm := mx.map a.eval) (fun e => by cases mx <;> simp_all) hv
    exact wr h1 h2
  | typeAssert x xt t ok =>
    rw [hop] at hv
    simp only [opv] at hv
    have hx := h.ev x
    split at hv
    · cases hv
    · rename_i d t' v0 hni hd hc
      rw [hc] at hx
      obtain ⟨u, ev, hu⟩ := vr_iface hx
      have pair : ∀ {p q : AV} {u1 u2 : Value}, VR S ρ w p u1 → VR S ρ w q u2 → VR S ρ w (.tup [p, q]) (.tuple #[u1, u2]) := by
        intro p q u1 u2 k1 k2
        refine .tup _ _ rfl fun j c v e1 e2 => ?_
        match j with
        | 0 => simp at e1 e2; subst e1 e2; exact k1
        | 1 => simp at e1 e2; subst e1 e2; exact k2
        | j + 2 => simp at e1
      split at hv
      · rename_i ht; subst ht
        cases hv
        cases ok with
        | true =>
          refine wr (u := .tuple #[u, .bool true]) ?_ (pair hu (.pure (.bool _)))
          unfold Instr.typeAssert
          rw [ev, runB (run_underlying hd w)]
          cases d <;> simp_all
        | false =>
          refine wr (u := u) ?_ hu
          unfold Instr.typeAssert
          rw [ev, runB (run_underlying hd w)]
          cases d <;> simp_all
      · rename_i ht
        split at hv
        · rename_i hok; subst hok
          obtain ⟨z, hz, rfl⟩ := Option.map_eq_some_iff.1 hv
          refine wr (u := .tuple #[z, .bool false]) ?_ (pair (vr_ofValue z) (.pure (.bool _)))
          unfold Instr.typeAssert
          rw [ev, runB (run_underlying hd w)]
          cases d <;> simp_all [zero_ok hz]
        · cases hv
    · rename_i d hni hd hc
      rw [hc] at hx
      have ev := vr_nili hx
      have pair : ∀ {p q : AV} {u1 u2 : Value}, VR S ρ w p u1 → VR S ρ w q u2 → VR S ρ w (.tup [p, q]) (.tuple #[u1, u2]) := by
        intro p q u1 u2 k1 k2
        refine .tup _ _ rfl fun j c v e1 e2 => ?_
        match j with
        | 0 => simp at e1 e2; subst e1 e2; exact k1
        | 1 => simp at e1 e2; subst e1 e2; exact k2
        | j + 2 => simp at e1
      split at hv
      · rename_i hok; subst hok
        obtain ⟨z, hz, rfl⟩ := Option.map_eq_some_iff.1 hv
        refine wr (u := .tuple #[z, .bool false]) ?_ (pair (vr_ofValue z) (.pure (.bool _)))
        unfold Instr.typeAssert
        rw [ev, runB (run_underlying hd w)]
        cases d <;> simp_all [zero_ok hz]
      · cases hv
    · cases hv
  | call c =>
    rw [hop] at hv
    simp only [opv] at hv
    obtain ⟨cal, args, tys⟩ := c
    simp only at hv
    split at hv
    · rename_i x t e2 e3
      obtain rfl : args = #[x] := by cases args; simp_all
      obtain rfl : tys = #[t] := by cases tys; simp_all
      obtain ⟨u, h1, h2⟩ := lenv_ok (ty := o.type) H (h.ev x) hv
      refine ⟨u, ?_, h2⟩
      simp [resolve, invoke, builtin, h1]
    · rename_i x t e2 e3
      obtain rfl : args = #[x] := by cases args; simp_all
      obtain rfl : tys = #[t] := by cases tys; simp_all
      obtain ⟨u, h1, h2⟩ := capv_ok (ty := o.type) (h.ev x) hv
      refine ⟨u, ?_, h2⟩
      simp [resolve, invoke, builtin, h1]
    · rename_i x y e2
      obtain rfl : args = #[x, y] := by cases args; simp_all
      obtain ⟨u, h1, h2⟩ := minmax_ok (P := P) (h.ev x) (h.ev y) hv tys o.type
      refine ⟨u, ?_, h2⟩
      simp only [Bool.false_eq_true, if_false] at h1
      simp [resolve, invoke, builtin, h1]
    · rename_i x y e2
      obtain rfl : args = #[x, y] := by cases args; simp_all
      obtain ⟨u, h1, h2⟩ := minmax_ok (P := P) (h.ev x) (h.ev y) hv tys o.type
      refine ⟨u, ?_, h2⟩
      simp only [if_true] at h1
      simp [resolve, invoke, builtin, h1]
    · cases hv
  | _ => rw [hop] at hv; simp [opv] at hv

end Go.Proofs.Ytonaejfpiihfhaa.Abs
