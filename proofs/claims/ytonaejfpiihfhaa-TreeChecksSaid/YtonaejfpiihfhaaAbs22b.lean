/- Regions that draw their order: whichever is drawn, it comes to the same. -/
import Derived.Test.YtonaejfpiihfhaaAbs22
namespace Go.Proofs.Ytonaejfpiihfhaa.Abs
open Go Go.RowKit
set_option linter.unusedSimpArgs false
set_option linter.unusedVariables false

variable {G : Cfg} {S : Stab} {ρ : Rho} {w : World} {E : Env} {st : ASt} {a : Act}

mutual
theorem beq_eq : ∀ x y : AV, AV.beq x y = true → x = y
  | .undef, y => by cases y <;> simp [AV.beq]
  | .bool a, y => by cases y <;> simp [AV.beq]
  | .int k a, y => by cases y <;> simp [AV.beq]
  | .str a, y => by cases y <;> simp [AV.beq]
  | .nilp, y => by cases y <;> simp [AV.beq]
  | .nils, y => by cases y <;> simp [AV.beq]
  | .nilf, y => by cases y <;> simp [AV.beq]
  | .nili, y => by cases y <;> simp [AV.beq]
  | .list s a, y => by
    cases y <;> simp [AV.beq]
    rename_i t b
    intro h1 h2; exact ⟨h1, beqL_eq a b h2⟩
  | .ep v o, y => by
    cases y <;> simp [AV.beq]
    rename_i u p
    intro h1 h2; exact ⟨beq_eq v u h1, h2⟩
  | .own a, y => by cases y <;> simp [AV.beq]
  | .row a b c, y => by cases y <;> simp [AV.beq]; intro h1 h2 h3; exact ⟨h1, h2, h3⟩
  | .ptr a b c, y => by cases y <;> simp [AV.beq]; intro h1 h2 h3; exact ⟨h1, h2, h3⟩
  | .agg a, y => by
    cases y <;> simp [AV.beq]
    rename_i b
    exact beqL_eq a b
  | .tup a, y => by
    cases y <;> simp [AV.beq]
    rename_i b
    exact beqL_eq a b
  | .iface t a, y => by
    cases y <;> simp [AV.beq]
    rename_i u b
    intro h1 h2; exact ⟨h1, beq_eq a b h2⟩
  | .fn f a b, y => by
    cases y with
    | fn g c d =>
      cases f <;> cases g <;> simp [AV.beq]
      intro h1 h2 h3; exact ⟨h1, beqL_eq a c h2, beqL_eq b d h3⟩
    | _ => cases f <;> simp [AV.beq]
  | .yld a, y => by cases y <;> simp [AV.beq]
theorem beqL_eq : ∀ x y : List AV, AV.beqL x y = true → x = y
  | [], [] => fun _ => rfl
  | [], _ :: _ => by simp [AV.beqL]
  | _ :: _, [] => by simp [AV.beqL]
  | a :: x, b :: y => by
    simp only [AV.beqL, Bool.and_eq_true]
    rintro ⟨h1, h2⟩
    rw [beq_eq a b h1, beqL_eq x y h2]
end

/-! ### Which is before which -/
def preds (o : Oper) : List Nat := o.after.toList.filterMap fun e => if Region.binds .any e then some e.on else none
def predsL (ops : Array Oper) (i : Nat) : List Nat := match ops[i]? with | some o => preds o | none => []
def befs (ops : Array Oper) : Nat → Nat → List Nat
  | 0, _ => []
  | k + 1, i => predsL ops i ++ (predsL ops i).flatMap (befs ops k)
def bef (ops : Array Oper) (i j : Nat) : Bool := (befs ops 3 j).contains i

theorem befs_closed {ops : Array Oper} {M : Nat → Prop} (hM : ∀ x, M x → ∀ y ∈ predsL ops x, M y) : ∀ (k i : Nat), (∀ y ∈ predsL ops i, M y) → ∀ y ∈ befs ops k i, M y := by
  intro k
  induction k with
  | zero => intro i _ y hy; simp [befs] at hy
  | succ k ih =>
    intro i hi y hy
    simp only [befs, List.mem_append, List.mem_flatMap] at hy
    rcases hy with hy | ⟨z, hz, hy⟩
    · exact hi y hy
    · exact ih z (hM z (hi z hz)) y hy

def readOp : Op → Bool
  | .move _ | .assign _ | .pick _ _ _ | .binOp _ _ _ _ _ | .unOp _ _ _ | .field _ _ _ | .fieldAddr _ _ _ | .indexAddr _ _ _ | .index _ _ _ | .load _ _ | .extract _ _ | .build _ _ | .makeInterface _ _ | .makeFunc _ _ _ | .nilCheck _ | .typeAssert _ _ _ _ => true
  | .slice _ _ lo hi _ => lo.isSome || hi.isNone
  | .call c => match c.callee with
    | .builtin .len => true
    | .builtin .min => true
    | .builtin .max => true
    | _ => false
  | _ => false

def layOp : Op → Bool
  | .buildSlice _ _ _ => true
  | _ => false
def nOK (ops : Array Oper) (i : Nat) : Bool :=
  match ops[i]? with
  | some o => (readOp o.op || layOp o.op) && (match o.dst with
    | some d => !(o.looksAt ops).contains d && (List.range ops.size).all fun p => p == i || (match ops[p]? with
      | some q => q.dst != some d && (!(q.looksAt ops).contains d || bef ops i p)
      | none => true)
    | none => false)
  | none => false

def vplan (ops : Array Oper) : List Nat → List Nat → List PS → Bool
  | L, _, [] => (List.range ops.size).all fun x => L.contains x
  | L, N, .n i :: r => decide (i < ops.size) && !L.contains i && ((predsL ops i).all fun x => L.contains x) && nOK ops i && vplan ops (i :: L) (i :: N) r
  | L, N, .e j re :: r => decide (j < ops.size) && !L.contains j && ((predsL ops j).all fun x => L.contains x) &&
      ((List.range ops.size).all fun x => L.contains x || x == j || !((predsL ops x).all fun x => L.contains x)) &&
      (N.all fun p => bef ops p j || re.contains p) && vplan ops (j :: L) N r

theorem read_step {call : CallFn} {ops : Array Oper} {o : Oper} (hr : readOp o.op = true) {v : AV} (hv : nval G ops st o = some v) : stepE G call ops st o = some (.val v st) := by
  unfold nval at hv
  unfold stepE
  rw [Option.bind_eq_some_iff] at hv
  obtain ⟨g, hg, hv⟩ := hv
  rw [hg]
  have hnop : nopv G st o.op = opv G.P st.ev st.hp o.op := by
    cases hop : o.op with
    | buildSlice => rw [hop] at hr; cases hr
    | _ => rfl
  rw [hnop] at hv
  cases g with
  | false => simp only [Option.bind_some, Bool.false_eq_true, if_false, Option.some.injEq] at hv ⊢; rw [hv]
  | true =>
    simp only [Option.bind_some, if_true] at hv ⊢
    unfold aop aopB
    cases hop : o.op with
    | call c =>
      rw [hop] at hr hv
      simp only [readOp] at hr
      simp only [calledA]
      split at hr
      · rename_i hc; simp only [hc] at hv ⊢; rw [hv]; rfl
      · rename_i hc; simp only [hc] at hv ⊢; rw [hv]; rfl
      · rename_i hc; simp only [hc] at hv ⊢; rw [hv]; rfl
      · cases hr
    | slice t x lo hi mx =>
      rw [hop] at hr hv
      have hcut : cutA st.hp (st.ev x) (lo.map st.ev) (hi.map st.ev) (mx.map st.ev) = none := by
        unfold cutA
        split
        · rename_i h1 h2 h3 h4
          exfalso
          cases lo <;> cases hi <;> simp_all [readOp]
        · rfl
      simp only [calledA, hcut]
      rw [hv]; rfl
    | _ => first | (rw [hop] at hr; cases hr; done) | (simp only [calledA]; rw [hop] at hv; rw [hv]; rfl)

theorem ev_congr {ops : Array Oper} {o : Oper} {st st' : ASt} (hl : ∀ t ∈ o.looksAt ops, st'.slot t = st.slot t) : ∀ x ∈ o.op.operands, st'.ev x = st.ev x := by
  intro x hx
  cases x with
  | tmp t => exact hl t (List.mem_append_left _ (List.mem_filterMap.2 ⟨.tmp t, by simpa using hx, rfl⟩))
  | _ => rfl
theorem guard_congr {ops : Array Oper} {o : Oper} {st st' : ASt} (hl : ∀ t ∈ o.looksAt ops, st'.slot t = st.slot t) : guardA ops st' o = guardA ops st o := by
  unfold guardA
  cases hg : o.guard with
  | none => rfl
  | some p =>
    obtain ⟨j, want⟩ := p
    simp only
    cases hd : (ops[j]?).bind (·.dst) with
    | none => rfl
    | some d =>
      have : st'.slot d = st.slot d := hl d (List.mem_append_right _ (by rw [hg]; simp [hd]))
      simp only [this]
theorem nval_congr {ops : Array Oper} {o : Oper} {st st' : ASt} (hhp : st'.hp = st.hp) (hl : ∀ t ∈ o.looksAt ops, st'.slot t = st.slot t) : nval G ops st' o = nval G ops st o := by
  unfold nval
  have hn : nopv G st' o.op = nopv G st o.op := by
    have he := ev_congr hl
    cases hop : o.op with
    | buildSlice t len parts =>
      unfold nopv bsv
      have ex : parts.toList.map (fun p => st'.ev p.2) = parts.toList.map (fun p => st.ev p.2) := List.map_congr_left fun p hp => he p.2 (by simp [hop, Op.operands]; exact ⟨p.1, by simpa using hp⟩)
      simp only [ex]
    | _ => rw [hop] at he; exact (opv_congr (P := G.P) st'.hp _ he).trans (by rw [hhp]; rfl)
  rw [guard_congr hl, hn]
theorem stepE_slots {call : CallFn} {ops : Array Oper} {o : Oper} {st st' : ASt} (hhp : st'.hp = st.hp) (hl : ∀ t ∈ o.looksAt ops, st'.slot t = st.slot t) {v : AV} {s : ASt} (h : stepE G call ops st o = some (.val v s)) :
    ∃ s', stepE G call ops st' o = some (.val v s') ∧ Moved st st' s s' := by
  unfold stepE at h ⊢
  rw [guard_congr hl]
  rw [Option.bind_eq_some_iff] at h
  obtain ⟨g, hg, h⟩ := h
  rw [hg]
  cases g with
  | false =>
    simp only [Option.bind_some, Bool.false_eq_true, if_false, Option.some.injEq, AR.val.injEq] at h ⊢
    obtain ⟨rfl, rfl⟩ := h
    exact ⟨st', ⟨rfl, rfl⟩, .none hhp (fun _ => rfl) (fun _ => rfl)⟩
  | true =>
    simp only [Option.bind_some, if_true] at h ⊢
    unfold aop at h ⊢
    have he := ev_congr hl
    cases hc : calledA o.op with
    | none => simp only [hc] at h ⊢; exact aopB_slots hhp o he h
    | some p =>
      obtain ⟨f, l⟩ := p
      simp only [hc] at h ⊢
      obtain ⟨c, hop, hcc, hca⟩ := called_op hc
      have e1 : st'.ev f = st.ev f := he f (by rw [hop]; simp [Op.operands, Call.operands, hcc])
      have e2 : l.map st'.ev = l.map st.ev := List.map_congr_left fun x hx => he x (by rw [hop]; simp only [Op.operands, Call.operands]; exact Array.mem_append.2 (.inr (by rw [← hca] at hx; simpa using hx)))
      rw [e1, e2]
      cases hext : extA G (st.ev f) (l.map st.ev) with
      | some v0 => simp only [hext] at h ⊢; cases h; exact ⟨st', rfl, .none hhp (fun _ => rfl) (fun _ => rfl)⟩
      | none => simp only [hext] at h ⊢; exact callA_slots hhp h

/-- What only reads, or lays a literal of plain things. -/
theorem nop_ok (GE : GOK G) {call : CallFn} (hcall : CallOK G call) {ops : Array Oper} {ro : Option Nat} {i : Nat} {o : Oper} (ho : ops[i]? = some o)
    {Q : Exit → Act → World → Prop} {K : Act → World → Prop} (h : SR E st S ρ a.tmps w) (hr : (readOp o.op || layOp o.op) = true) {v : AV} (hv : nval G ops st o = some v)
    (hK : ∀ u w' S' ρ', SR E st S' ρ' a.tmps w' → VR S' ρ' w' v u → K (a.put o.dst u) w') : wpOpIn (FW ro) 0 G.P ops Q i K a w := by
  cases hr1 : readOp o.op with
  | true =>
    refine op_ok GE hcall ho h (read_step (call := call) hr1 hv) (fun v s e u w' S' ρ' hs hvu => ?_) (fun v s e => by cases e)
    cases e
    exact hK u w' S' ρ' hs hvu
  | false =>
    rw [hr1, Bool.false_or] at hr
    unfold nval at hv
    rw [Option.bind_eq_some_iff] at hv
    obtain ⟨g, hg, hv⟩ := hv
    have hw := guard_ok h hg
    unfold wpOpIn
    simp only [ho]
    cases g with
    | false =>
      rw [hw]
      simp only [Bool.false_eq_true, if_false, Option.some.injEq] at hv ⊢
      subst hv
      exact ⟨fun _ _ => trivial, hK _ _ S ρ h (.tup [] #[] rfl (fun j c v hc => by simp at hc))⟩
    | true =>
      rw [hw]
      simp only [if_true] at hv ⊢
      refine ⟨fun _ _ => trivial, ?_⟩
      cases hop : o.op with
      | buildSlice t len parts =>
        rw [hop] at hv
        obtain ⟨u, w', S', hrun, hs, hvu⟩ := bsv_ok h o hop hv
        have hnd : ∀ c', o.op ≠ .defer c' := fun c' e => by rw [hop] at e; cases e
        rw [semAt_ok hnd, hrun, Oper.uponIn_value]
        exact hK u w' S' ρ hs hvu
      | _ => rw [hop] at hr; cases hr

/-! ### The orders -/
/-- The operations that were told, the last one first: each behind those that it is behind. -/
def Ordered (ops : Array Oper) : List Nat → Prop
  | [] => True
  | i :: L => (∀ y ∈ predsL ops i, y ∈ L) ∧ Ordered ops L

structure PInv (G : Cfg) (ops : Array Oper) (L N : List Nat) (M : Nat → Prop) (T : ASt) : Prop where
  lt : ∀ x ∈ L, x < ops.size
  ord : Ordered ops L
  sub : ∀ x, M x → x ∈ L
  cl : ∀ x, M x → ∀ y ∈ predsL ops x, M y
  pend : ∀ x ∈ L, ¬ M x → x ∈ N ∧ ∃ o d, ops[x]? = some o ∧ o.dst = some d ∧ nval G ops T o = some (T.slot d)
  ok : ∀ x ∈ N, nOK ops x = true

theorem Ordered.closed {ops : Array Oper} : ∀ {L : List Nat}, Ordered ops L → ∀ x ∈ L, ∀ y ∈ predsL ops x, y ∈ L := by
  intro L
  induction L with
  | nil => intro _ x hx; simp at hx
  | cons i L ih =>
    intro h x hx y hy
    rcases List.mem_cons.1 hx with rfl | hx
    · exact List.mem_cons_of_mem _ (h.1 y hy)
    · exact List.mem_cons_of_mem _ (ih h.2 x hx y hy)
theorem Ordered.first {ops : Array Oper} {M : Nat → Prop} : ∀ {L : List Nat}, Ordered ops L → (∃ x ∈ L, ¬ M x) → ∃ x ∈ L, ¬ M x ∧ ∀ y ∈ predsL ops x, M y := by
  intro L
  induction L with
  | nil => rintro _ ⟨x, hx, _⟩; simp at hx
  | cons i L ih =>
    intro h hx
    by_cases hL : ∃ x ∈ L, ¬ M x
    · obtain ⟨x, h1, h2⟩ := ih h.2 hL
      exact ⟨x, List.mem_cons_of_mem _ h1, h2⟩
    · obtain ⟨x, h1, h2⟩ := hx
      rcases List.mem_cons.1 h1 with rfl | h1
      · refine ⟨x, by simp, h2, fun y hy => ?_⟩
        have := h.1 y hy
        by_cases hm : M y
        · exact hm
        · exact absurd ⟨y, this, hm⟩ hL
      · exact absurd ⟨x, h1, h2⟩ hL

theorem nOK_spec {ops : Array Oper} {i : Nat} (h : nOK ops i = true) : ∃ o d, ops[i]? = some o ∧ (readOp o.op || layOp o.op) = true ∧ o.dst = some d ∧ d ∉ o.looksAt ops ∧
    ∀ p q, p ≠ i → ops[p]? = some q → q.dst ≠ some d ∧ (d ∈ q.looksAt ops → bef ops i p = true) := by
  unfold nOK at h
  split at h
  · rename_i o ho
    simp only [Bool.and_eq_true] at h
    obtain ⟨h1, h2⟩ := h
    split at h2
    · rename_i d hd
      simp only [Bool.and_eq_true, List.all_eq_true, Bool.or_eq_true] at h2
      obtain ⟨h3, h4⟩ := h2
      refine ⟨o, d, ho, h1, hd, by simpa using h3, fun p q hp hq => ?_⟩
      have hlt : p < ops.size := (Array.getElem?_eq_some_iff.1 hq).1
      have := (h4 p (List.mem_range.2 hlt)).resolve_left (by simpa using hp)
      simp only [hq, Bool.and_eq_true, Bool.or_eq_true] at this
      refine ⟨by simpa using this.1, fun hd => this.2.resolve_left ?_⟩
      simpa using hd
    · cases h2
  · cases h

def Agree (ops : Array Oper) (L : List Nat) (M : Nat → Prop) (T m : ASt) : Prop :=
  m.hp = T.hp ∧ ∀ t, (∀ x ∈ L, ¬ M x → ∀ o, ops[x]? = some o → o.dst ≠ some t) → m.slot t = T.slot t

theorem advance {call : CallFn} {ops : Array Oper} {M : Nat → Prop} : ∀ (l : List PS) {L N : List Nat} {T Tf m : ASt}, PInv G ops L N M T → Agree ops L M T m → vplan ops L N l = true → runPlan G call ops l T = some Tf →
    ∃ l' L' N' T', PInv G ops L' N' M T' ∧ Agree ops L' M T' m ∧ vplan ops L' N' l' = true ∧ runPlan G call ops l' T' = some Tf ∧ (l' = [] ∨ ∃ j re r, l' = .e j re :: r) := by
  intro l
  induction l with
  | nil => intro L N T Tf m hi ha hv hr; exact ⟨[], L, N, T, hi, ha, hv, hr, .inl rfl⟩
  | cons x l ih =>
    intro L N T Tf m hi ha hv hr
    cases x with
    | e j re => exact ⟨_, L, N, T, hi, ha, hv, hr, .inr ⟨j, re, l, rfl⟩⟩
    | n i =>
      simp only [vplan, Bool.and_eq_true, decide_eq_true_eq, List.all_eq_true] at hv
      obtain ⟨⟨⟨⟨v1, v2⟩, v3⟩, v4⟩, v5⟩ := hv
      have hiL : i ∉ L := by simpa using v2
      have hpL : ∀ y ∈ predsL ops i, y ∈ L := fun y hy => by simpa using v3 y hy
      obtain ⟨o, d, ho, hro, hd, hself, hoth⟩ := nOK_spec v4
      simp only [runPlan, ho, Option.bind_some] at hr
      rw [Option.bind_eq_some_iff] at hr
      obtain ⟨v, hv, hr⟩ := hr
      have hnM : ¬ M i := fun hm => hiL (hi.sub i hm)
      have sl : ∀ t, t ≠ d → (T.put o.dst v).slot t = T.slot t := fun t ht => by rw [slot_put, hd, if_neg (by simpa using Ne.symm ht)]
      refine ih (L := i :: L) (N := i :: N) (T := T.put o.dst v) ⟨?_, ⟨hpL, hi.ord⟩, fun x hx => List.mem_cons_of_mem _ (hi.sub x hx), hi.cl, ?_, ?_⟩ ⟨?_, ?_⟩ v5 hr
      · intro x hx
        rcases List.mem_cons.1 hx with rfl | hx
        · exact v1
        · exact hi.lt x hx
      · intro x hx hm
        rcases List.mem_cons.1 hx with rfl | hx
        · refine ⟨by simp, o, d, ho, hd, ?_⟩
          rw [nval_congr (st := T) (hp_put _ _ _) (fun t ht => sl t fun e => hself (e ▸ ht)), hv, slot_put, hd]; simp
        · obtain ⟨h1, o', d', h2, h3, h4⟩ := hi.pend x hx hm
          have hxi : x ≠ i := fun e => hiL (e ▸ hx)
          obtain ⟨g1, g2⟩ := hoth x o' hxi h2
          refine ⟨List.mem_cons_of_mem _ h1, o', d', h2, h3, ?_⟩
          have hnl : d ∉ o'.looksAt ops := by
            intro hl
            have hb := g2 hl
            unfold bef at hb
            have := befs_closed (M := fun y => y ∈ L) (Ordered.closed hi.ord) 3 x (Ordered.closed hi.ord x hx) i (by simpa using hb)
            exact hiL this
          rw [nval_congr (st := T) (hp_put _ _ _) (fun t ht => sl t fun e => hnl (e ▸ ht)), h4, sl d' fun e => g1 (by rw [h3, e])]
      · intro x hx
        rcases List.mem_cons.1 hx with rfl | hx
        · exact v4
        · exact hi.ok x hx
      · rw [hp_put]; exact ha.1
      · intro t ht
        have : t ≠ d := fun e => ht i (by simp) hnM o ho (by rw [hd, e])
        rw [sl t this]
        exact ha.2 t fun x hx hm o ho => ht x (List.mem_cons_of_mem _ hx) hm o ho

theorem countP_lt {p q : Nat → Bool} (h : ∀ x, q x = true → p x = true) {i : Nat} (hp : p i = true) (hq : q i = false) : ∀ (l : List Nat), i ∈ l → l.countP q < l.countP p := by
  have le : ∀ l : List Nat, l.countP q ≤ l.countP p := fun l => List.countP_mono_left fun x _ hx => h x hx
  intro l
  induction l with
  | nil => intro hi; simp at hi
  | cons x l ih =>
    intro hi
    rw [List.countP_cons, List.countP_cons]
    rcases List.mem_cons.1 hi with rfl | hi
    · have := le l; simp [hp, hq]; omega
    · have := ih hi
      cases hqx : q x with
      | true => simp [h x hqx]; omega
      | false => simp; split <;> omega

theorem SR.same {st' : ASt} {tm : Array Value} (h : SR E st S ρ tm w) (hs : ∀ t, st'.slot t = st.slot t) (hh : st'.hp = st.hp) : SR E st' S ρ tm w :=
  ⟨fun t => hs t ▸ h.slot t, hh ▸ h.heap, h.mine, hh ▸ h.old, h.fr⟩

theorem mem_preds {o : Oper} {listed : Array Bool} (h : ∀ e ∈ o.after, Region.binds .any e = true → listed.getD e.on false = true) : ∀ y ∈ preds o, listed.getD y false = true := by
  intro y hy
  unfold preds at hy
  obtain ⟨e, he, h1⟩ := List.mem_filterMap.1 hy
  split at h1
  · rename_i hb; cases h1; exact h e (by simpa using he) hb
  · cases h1

theorem getD_in {listed : Array Bool} {x : Nat} (h : x < listed.size) : listed.getD x true = listed.getD x false := by
  simp [Array.getD, h]
theorem mem_predsL {ops : Array Oper} {i : Nat} {o : Oper} (ho : ops[i]? = some o) : predsL ops i = preds o := by
  unfold predsL; rw [ho]

/-- All are done. -/
theorem plan_end {call : CallFn} {ops : Array Oper} {n : Nat} {Tf : ASt} {df : List Deferred} {listed : Array Bool} {l : List PS} {L N : List Nat} {T m : ASt} (hsz : listed.size = ops.size)
    (hi : PInv G ops L N (fun x => listed.getD x false = true) T) (ha : Agree ops L (fun x => listed.getD x false = true) T m) (hv : vplan ops L N l = true) (hr : runPlan G call ops l T = some Tf) (hhead : l = [] ∨ ∃ j re r, l = .e j re :: r)
    (h : SR E m S ρ a.tmps w) (hn : a.tmps.size = n) (hdf : a.defers = df) (hrd : Region.ready .any ops listed = []) : CodeDone E df n (.normal, Tf) .normal a w := by
  have ready : ∀ x o, ops[x]? = some o → ¬ listed.getD x false = true → (∀ y ∈ preds o, listed.getD y false = true) → False := by
    intro x o ho hx hp
    have hlt : x < ops.size := (Array.getElem?_eq_some_iff.1 ho).1
    have hm : x ∈ Region.ready .any ops listed := by
      rw [mem_ready]
      refine ⟨by rw [getD_in (by omega)]; simpa using hx, o, ho, fun e he hb => hp e.on ?_⟩
      unfold preds
      exact List.mem_filterMap.2 ⟨e, by simpa using he, by rw [if_pos hb]⟩
    rw [hrd] at hm; simp at hm
  have nopend : ∀ x ∈ L, listed.getD x false = true := by
    intro x hx
    apply Classical.byContradiction
    intro hm
    obtain ⟨y, hy, hym, hyp⟩ := Ordered.first (M := fun x => listed.getD x false = true) hi.ord ⟨x, hx, hm⟩
    obtain ⟨_, o, d, ho, _⟩ := hi.pend y hy hym
    exact ready y o ho hym fun z hz => hyp z (by rw [mem_predsL ho]; exact hz)
  rcases hhead with rfl | ⟨j, re, r, rfl⟩
  · cases hr
    exact ⟨hdf, hn, S, ρ, h.same (fun t => (ha.2 t fun x hx hm => absurd (nopend x hx) hm).symm) ha.1.symm, trivial⟩
  · exfalso
    simp only [vplan, Bool.and_eq_true, decide_eq_true_eq, List.all_eq_true] at hv
    obtain ⟨⟨⟨⟨⟨v1, v2⟩, v3⟩, v4⟩, v5⟩, v6⟩ := hv
    have ho := Array.getElem?_eq_getElem v1
    refine ready j _ ho (fun hm => ?_) fun y hy => nopend y (by simpa using v3 y (by rw [mem_predsL ho]; exact hy))
    have := hi.sub j hm
    simp [this] at v2

theorem set_getD {listed : Array Bool} {i x : Nat} (h : i < listed.size) (b : Bool) : (listed.setIfInBounds i true).getD x b = if x = i then true else listed.getD x b := by
  by_cases e : x = i
  · subst e; simp [Array.getD, h]
  · simp only [if_neg e, Array.getD_eq_getD_getElem?, Array.getElem?_setIfInBounds_ne (Ne.symm e)]

theorem plan_ok (GE : GOK G) {call : CallFn} (hcall : CallOK G call) {ops : Array Oper} {n : Nat} (hd : ops.toList.all (opDst n) = true) {ro : Option Nat} {Tf : ASt} {df : List Deferred} :
    ∀ (fuel : Nat) (listed : Array Bool) {l : List PS} {L N : List Nat} {T m : ASt} {E : Env} {S : Stab} {ρ : Rho} {a : Act} {w : World}, listed.size = ops.size → (List.range ops.size).countP (fun x => !listed.getD x true) ≤ fuel →
      PInv G ops L N (fun x => listed.getD x false = true) T → Agree ops L (fun x => listed.getD x false = true) T m → vplan ops L N l = true → runPlan G call ops l T = some Tf → SR E m S ρ a.tmps w → a.tmps.size = n → a.defers = df →
      wpAnyIn (FW ro) 0 G.P .any ops (CodeDone E df n (.normal, Tf)) fuel listed a w := by
  intro fuel
  induction fuel with
  | zero =>
    intro listed l L N T m E S ρ a w hsz hcount hi ha hv hr h hn hdf
    have hrd : Region.ready .any ops listed = [] := by
      apply List.eq_nil_iff_forall_not_mem.2
      intro x hx
      rw [mem_ready] at hx
      obtain ⟨h0, o, ho, _⟩ := hx
      have hlt : x < ops.size := (Array.getElem?_eq_some_iff.1 ho).1
      have h1 := List.countP_eq_zero.1 (Nat.le_zero.1 hcount) x (List.mem_range.2 hlt)
      simp [h0] at h1
    obtain ⟨l', L', N', T', hi', ha', hv', hr', hhead⟩ := advance l hi ha hv hr
    exact ⟨hrd, plan_end hsz hi' ha' hv' hr' hhead h hn hdf hrd⟩
  | succ fuel ih =>
    intro listed l L N T m E S ρ a w hsz hcount hi ha hv hr h hn hdf
    obtain ⟨l', L', N', T', hi', ha', hv', hr', hhead⟩ := advance l hi ha hv hr
    refine ⟨fun hrd => plan_end hsz hi' ha' hv' hr' hhead h hn hdf hrd, fun i hmem => ?_⟩
    rw [mem_ready] at hmem
    obtain ⟨h0, o, ho, hpre⟩ := hmem
    have hlt : i < ops.size := (Array.getElem?_eq_some_iff.1 ho).1
    have hiM : ¬ listed.getD i false = true := by rw [← getD_in (by omega), h0]; simp
    have hpM : ∀ y ∈ predsL ops i, listed.getD y false = true := by rw [mem_predsL ho]; exact mem_preds hpre
    have hsz' : (listed.setIfInBounds i true).size = ops.size := by simpa using hsz
    have hcount' : (List.range ops.size).countP (fun x => !(listed.setIfInBounds i true).getD x true) ≤ fuel := by
      have := countP_lt (p := fun x => !listed.getD x true) (q := fun x => !(listed.setIfInBounds i true).getD x true) (fun x hx => by
        rw [set_getD (by omega)] at hx
        split at hx
        · simp at hx
        · exact hx) (i := i) (by simp [h0]) (by rw [set_getD (by omega)]; simp) (List.range ops.size) (List.mem_range.2 hlt)
      omega
    have hset : ∀ x, (listed.setIfInBounds i true).getD x false = true ↔ x = i ∨ listed.getD x false = true := by
      intro x
      rw [set_getD (by omega)]
      by_cases e : x = i <;> simp [e]
    -- what is not done yet isn't looked at
    have notPend : ∀ t ∈ o.looksAt ops, ∀ x ∈ L', ¬ listed.getD x false = true → x ≠ i → ∀ q, ops[x]? = some q → q.dst ≠ some t := by
      intro t ht x hx hxm hxi q hq hqd
      obtain ⟨hxN, _⟩ := hi'.pend x hx hxm
      obtain ⟨o1, d1, g1, g2, g3, g4, g5⟩ := nOK_spec (hi'.ok x hxN)
      rw [hq] at g1; cases g1
      rw [hqd] at g3; cases g3
      have hb := (g5 i o (Ne.symm hxi) ho).2 ht
      unfold bef at hb
      exact hxm (befs_closed (M := fun x => listed.getD x false = true) hi'.cl 3 i hpM x (by simpa using hb))
    by_cases hiL : i ∈ L'
    · -- one that was told already
      obtain ⟨hiN, o1, d, g1, g2, g3⟩ := hi'.pend i hiL hiM
      rw [ho] at g1; cases g1
      obtain ⟨o2, d2, k1, k2, k3, k4, k5⟩ := nOK_spec (hi'.ok i hiN)
      rw [ho] at k1; cases k1
      rw [g2] at k3; cases k3
      have hm : ∀ t ∈ o.looksAt ops, m.slot t = T'.slot t := by
        intro t ht
        refine ha'.2 t fun x hx hxm q hq => ?_
        by_cases e : x = i
        · subst e; rw [ho] at hq; cases hq; rw [g2]; intro e; cases e; exact k4 ht
        · exact notPend t ht x hx hxm e q hq
      have hval : nval G ops m o = some (T'.slot d) := by rw [nval_congr (st := T') ha'.1 hm]; exact g3
      refine nop_ok GE hcall ho h k2 hval (fun u w' S' ρ' hs hvu => ?_)
      refine ih _ hsz' hcount' (L := L') (N := N') (T := T') (m := m.put o.dst (T'.slot d)) ⟨hi'.lt, hi'.ord, fun x hx => ?_, fun x hx y hy => ?_, fun x hx hxm => ?_, hi'.ok⟩ ⟨by rw [hp_put]; exact ha'.1, fun t ht => ?_⟩ hv' hr' (hs.putA hn (opDst_lt hd ho) hvu) ((put_size _ _ _).trans hn) ((put_defers _ _ _).trans hdf)
      · rcases (hset x).1 hx with rfl | hx
        · exact hiL
        · exact hi'.sub x hx
      · rcases (hset x).1 hx with rfl | hx
        · exact (hset y).2 (.inr (hpM y hy))
        · exact (hset y).2 (.inr (hi'.cl x hx y hy))
      · have : ¬ listed.getD x false = true := fun e => hxm ((hset x).2 (.inr e))
        exact hi'.pend x hx this
      · rw [slot_put, g2]
        by_cases e : d = t
        · subst e; simp
        · rw [if_neg (by simpa using e)]
          refine ha'.2 t fun x hx hxm q hq => ?_
          by_cases e2 : x = i
          · subst e2; rw [ho] at hq; cases hq; rw [g2]; simpa using e
          · exact ht x hx (fun hh => by rcases (hset x).1 hh with rfl | hh; exact e2 rfl; exact hxm hh) q hq
    · -- the one that may act
      have hpL : ∀ y ∈ predsL ops i, y ∈ L' := fun y hy => hi'.sub y (hpM y hy)
      rcases hhead with rfl | ⟨j, re, r, rfl⟩
      · exfalso
        simp only [vplan, List.all_eq_true] at hv'
        exact hiL (by simpa using hv' i (List.mem_range.2 hlt))
      · simp only [vplan, Bool.and_eq_true, decide_eq_true_eq, List.all_eq_true, Bool.or_eq_true] at hv'
        obtain ⟨⟨⟨⟨⟨v1, v2⟩, v3⟩, v4⟩, v5⟩, v6⟩ := hv'
        have hij : i = j := by
          rcases v4 i (List.mem_range.2 hlt) with (e | e) | e
          · exact absurd (by simpa using e) hiL
          · simpa using e
          · exfalso
            have : ((predsL ops i).all fun x => L'.contains x) = true := List.all_eq_true.2 fun y hy => by simpa using hpL y hy
            rw [this] at e; simp at e
        subst hij
        simp only [runPlan, ho, Option.bind_some] at hr'
        rw [Option.bind_eq_some_iff] at hr'
        obtain ⟨x, hx, hr'⟩ := hr'
        cases x with
        | pan v s => cases hr'
        | val v s =>
          simp only at hr'
          split at hr'
          case isFalse => cases hr'
          rename_i hre
          have hm : ∀ t ∈ o.looksAt ops, m.slot t = T'.slot t := by
            intro t ht
            refine ha'.2 t fun x hx hxm q hq => notPend t ht x hx hxm (fun e => hiL (e ▸ hx)) q hq
          obtain ⟨s', hs', hhp, ks, hk1, hk2⟩ := stepE_slots (st := T') (st' := m) ha'.1 hm hx
          refine op_ok GE hcall ho h hs' (fun v2 s2 e u w' S' ρ' hs hvu => ?_) (fun v s e => by cases e)
          cases e
          refine ih _ hsz' hcount' (L := i :: L') (N := N') (T := s.put o.dst v) (m := s'.put o.dst v) ⟨fun x hx => ?_, ⟨hpL, hi'.ord⟩, fun x hx => ?_, fun x hx y hy => ?_, fun x hx hxm => ?_, hi'.ok⟩ ⟨by rw [hp_put, hp_put]; exact hhp, fun t ht => ?_⟩ v6 hr' (hs.putA hn (opDst_lt hd ho) hvu) ((put_size _ _ _).trans hn) ((put_defers _ _ _).trans hdf)
          · rcases List.mem_cons.1 hx with rfl | hx
            · exact hlt
            · exact hi'.lt x hx
          · rcases (hset x).1 hx with rfl | hx
            · simp
            · exact List.mem_cons_of_mem _ (hi'.sub x hx)
          · rcases (hset x).1 hx with rfl | hx
            · exact (hset y).2 (.inr (hpM y hy))
            · exact (hset y).2 (.inr (hi'.cl x hx y hy))
          · have hxi : x ≠ i := fun e => hxm ((hset x).2 (.inl e))
            have hxL : x ∈ L' := (List.mem_cons.1 hx).resolve_left hxi
            have hx0 : ¬ listed.getD x false = true := fun e => hxm ((hset x).2 (.inr e))
            obtain ⟨hxN, o1, d1, g1, g2, g3⟩ := hi'.pend x hxL hx0
            refine ⟨hxN, o1, d1, g1, g2, ?_⟩
            have hre' : x ∈ re := by
              rcases v5 x hxN with e | e
              · exfalso
                unfold bef at e
                exact hx0 (befs_closed (M := fun x => listed.getD x false = true) hi'.cl 3 i hpM x (by simpa using e))
              · simpa using e
            have hag := List.all_eq_true.1 hre x hre'
            unfold again at hag
            rw [g1] at hag
            simp only [g2] at hag
            split at hag
            · rename_i v' d' hv' hd'
              cases hd'
              rw [hv', beq_eq _ _ hag]
            · cases hag
          · rw [slot_put, slot_put]
            split
            · rfl
            · rename_i hdt
              rw [hk1 t, hk2 t]
              congr 1
              refine ha'.2 t fun x hx hxm q hq => ?_
              by_cases e2 : x = i
              · exact absurd hx (e2 ▸ hiL)
              · exact ht x (List.mem_cons_of_mem _ hx) (fun hh => by rcases (hset x).1 hh with rfl | hh; exact e2 rfl; exact hxm hh) q hq

/-- A REGION THAT DRAWS ITS ORDER. -/
theorem draw_ok (GE : GOK G) {call : CallFn} (hcall : CallOK G call) (hmix : G.P.follows .mixedOrders = true) {id : Nat} {ops : Array Oper} {n : Nat} (hd : ops.toList.all (opDst n) = true) {ro : Option Nat}
    {l : List PS} (hv : vplan ops [] [] l = true) {Tf : ASt} (hr : runPlan G call ops l st = some Tf) (h : SR E st S ρ a.tmps w) (hn : a.tmps.size = n) : (Code.region id ops true).wpIn (FW ro) 0 G.P (CodeDone E a.defers n (.normal, Tf)) a w := by
  refine wpIn_region_any hmix (plan_ok GE hcall hd ops.size (Array.replicate ops.size false) (by simp) (Nat.le_trans List.countP_le_length (by simp)) (L := []) (N := []) (T := st) (m := st) ⟨fun x hx => by simp at hx, trivial, fun x hx => ?_, fun x hx => ?_, fun x hx => by simp at hx, fun x hx => by simp at hx⟩ ⟨rfl, fun t _ => rfl⟩ hv hr h.drew hn rfl)
  · exfalso
    rw [Array.getD_eq_getD_getElem?, Array.getElem?_replicate] at hx
    split at hx <;> simp at hx
  · exfalso
    rw [Array.getD_eq_getD_getElem?, Array.getElem?_replicate] at hx
    split at hx <;> simp at hx

end Go.Proofs.Ytonaejfpiihfhaa.Abs
