/- What an operation that only reads comes to: operation by operation. -/
import Derived.Test.YtonaejfpiihfhaaAbs7
import Derived.Lib.ConvBytes
import Derived.Lib.Bytes
namespace Go.Proofs.Ytonaejfpiihfhaa.Abs
open Go Go.RowKit
set_option linter.unusedSimpArgs false
set_option linter.unusedVariables false

variable {P : Program} {S : Stab} {ρ : Rho} {w : World}

theorem wrapV {s : Sem Value} {u : Value} (h : s.run P w = .ok u w) : (do pure (Next.value (← s)) : Sem Next).run P w = .ok (.value u) w := by
  rw [Sem.run_bind, h]; rfl

/-! ### Two operands -/
theorem eqGuard_pass {op : BinOp} {t : TypeId} {x y : Operand} {a b : Value} (h1 : ¬ (a = .nilIface ∧ b = .nilIface)) (h2 : ∀ cs, a ≠ .agg cs) : (eqGuard op t x y a b).run P w = .ok () w := by
  unfold eqGuard
  cases op <;> simp [pure, bind, Sem.bind] <;> cases a <;> cases b <;> simp_all

theorem arith_ok {op : BinOp} {k : IntKind} {a b : Int} {v : AV} {t : TypeId} (h : arith op k a b = some v) : ∃ u, (binOp op t (.int k a) (.int k b)).run P w = .ok u w ∧ VR S ρ w v u := by
  cases op with
  | quo =>
    simp only [arith] at h
    split at h
    · cases h
    · rename_i hb; cases h; exact ⟨_, by simp [binOp, Op.intDiv, hb], .pure (.int _ _)⟩
  | rem =>
    simp only [arith] at h
    split at h
    · cases h
    · rename_i hb; cases h; exact ⟨_, by simp [binOp, Op.intDiv, hb], .pure (.int _ _)⟩
  | shl => simp [arith] at h
  | shr => simp [arith] at h
  | add => cases h; exact ⟨_, by simp [binOp, Op.intArith], .pure (.int _ _)⟩
  | sub => cases h; exact ⟨_, by simp [binOp, Op.intArith], .pure (.int _ _)⟩
  | mul => cases h; exact ⟨_, by simp [binOp, Op.intArith], .pure (.int _ _)⟩
  | and => cases h; exact ⟨_, by simp [binOp, Op.intBits], .pure (.int _ _)⟩
  | or => cases h; exact ⟨_, by simp [binOp, Op.intBits], .pure (.int _ _)⟩
  | xor => cases h; exact ⟨_, by simp [binOp, Op.intBits], .pure (.int _ _)⟩
  | andNot => cases h; exact ⟨_, by simp [binOp, Op.intBits], .pure (.int _ _)⟩
  | eql => cases h; exact ⟨_, by simp [binOp, Op.intCmp], .pure (.bool _)⟩
  | neq => cases h; exact ⟨_, by simp [binOp, Op.intCmp], .pure (.bool _)⟩
  | lss => cases h; exact ⟨_, by simp [binOp, Op.intCmp], .pure (.bool _)⟩
  | leq => cases h; exact ⟨_, by simp [binOp, Op.intCmp], .pure (.bool _)⟩
  | gtr => cases h; exact ⟨_, by simp [binOp, Op.intCmp], .pure (.bool _)⟩
  | geq => cases h; exact ⟨_, by simp [binOp, Op.intCmp], .pure (.bool _)⟩

theorem ltB_eq (a b : List UInt8) : Op.bytesLess a b = ltB a b := by
  induction a generalizing b with
  | nil => cases b <;> rfl
  | cons x a ih => cases b with
    | nil => rfl
    | cons y b => simp only [Op.bytesLess, ltB, ih]

theorem strOp_ok {op : BinOp} {x y : ByteArray} {v : AV} {t : TypeId} (h : strOp op x.data.toList y.data.toList = some v) : ∃ u, (binOp op t (.string x) (.string y)).run P w = .ok u w ∧ VR S ρ w v u := by
  have hx : x.toList = x.data.toList := Lib.toList_data x
  have hy : y.toList = y.data.toList := Lib.toList_data y
  cases op with
  | add =>
    simp only [strOp] at h
    split at h
    · rename_i hle
      cases h
      refine ⟨.string (x ++ y), ?_, ?_⟩
      · have h1 : x.data.toList.length = x.size := by simp
        have h2 : y.data.toList.length = y.size := by simp
        have h3 : IntKind.i64.max = 9223372036854775807 := rfl
        have : ¬ (((x.size + y.size : Nat) : Int) > IntKind.i64.max) := by unfold LIM at hle; omega
        simp only [binOp, Op.stringOp, if_neg this]; rfl
      · have : (x ++ y).data.toList = x.data.toList ++ y.data.toList := by simp
        rw [← this]; exact .pure (.str _)
    · cases h
  | eql => cases h; exact ⟨_, rfl, by rw [hx, hy]; exact .pure (.bool _)⟩
  | neq => cases h; exact ⟨_, rfl, by rw [hx, hy]; exact .pure (.bool _)⟩
  | lss => cases h; exact ⟨_, rfl, by rw [hx, hy, ltB_eq]; exact .pure (.bool _)⟩
  | leq => cases h; exact ⟨_, rfl, by rw [hx, hy, ltB_eq]; exact .pure (.bool _)⟩
  | gtr => cases h; exact ⟨_, rfl, by rw [hx, hy, ltB_eq]; exact .pure (.bool _)⟩
  | geq => cases h; exact ⟨_, rfl, by rw [hx, hy, ltB_eq]; exact .pure (.bool _)⟩
  | _ => simp [strOp] at h

/-! ### == -/
theorem beq_bytes (p q : ByteArray) : (p == q) = (p.data.toList == q.data.toList) := by
  have h : (p == q) = (p.data == q.data) := rfl
  rw [h, Bool.eq_iff_iff]
  simp [Array.toList_inj]

theorem eqFieldA_ok {t : TypeId} {d : Nat} {a b : AV} {u v : Value} {r : Bool} (hu : VR S ρ w a u) (hv : VR S ρ w b v) (h : eqFieldA P t a b = some r) :
    (Op.equalIn (d + 1) t u v).run P w = .ok r w := by
  unfold eqFieldA at h
  split at h
  · rename_i hd
    cases vr_bool hu; cases vr_bool hv
    cases h
    simp only [Op.equalIn]; rw [runB (run_underlying hd w)]; rfl
  · rename_i hd
    cases vr_int hu; cases vr_int hv
    split at h
    · rename_i hk; subst hk; cases h
      simp only [Op.equalIn]; rw [runB (run_underlying hd w)]; simp
    · cases h
  · rename_i hd
    obtain ⟨p, rfl, rfl⟩ := vr_str hu; obtain ⟨q, rfl, rfl⟩ := vr_str hv
    cases h
    rw [← beq_bytes]
    simp only [Op.equalIn]; rw [runB (run_underlying hd w)]; rfl
  · cases h

theorem eqFieldA_scalar {t : TypeId} {a b : AV} {r : Bool} (h : eqFieldA P t a b = some r) : isAggT P t = false ∧ ∃ D, P.underlying t = some D := by
  unfold eqFieldA at h
  split at h
  · rename_i hd; exact ⟨by simp [isAggT, hd], _, hd⟩
  · rename_i hd; exact ⟨by simp [isAggT, hd], _, hd⟩
  · rename_i hd; exact ⟨by simp [isAggT, hd], _, hd⟩
  · cases h

theorem eqFieldsA_ok {d : Nat} {xs ys : Array Value} (fs : List Field) : ∀ {i : Nat} {x y : List AV} {r : Bool},
    (∀ (j : Nat) c u, x[j]? = some c → xs[i + j]? = some u → VR S ρ w c u) → (∀ (j : Nat) c u, y[j]? = some c → ys[i + j]? = some u → VR S ρ w c u) →
    i + x.length ≤ xs.size → i + y.length ≤ ys.size → eqFieldsA P i fs x y = some r → (Op.eqFields (d + 1) xs ys fs).run P w = .ok r w := by
  induction fs with
  | nil =>
    intro i x y r _ _ _ _ h
    cases x with
    | nil => cases y with
      | nil => cases h; simp [Op.eqFields]
      | cons => simp [eqFieldsA] at h
    | cons => simp [eqFieldsA] at h
  | cons f fs ih =>
    intro i x y r hx hy lx ly h
    cases x with
    | nil => simp [eqFieldsA] at h
    | cons a x => cases y with
      | nil => simp [eqFieldsA] at h
      | cons b y =>
        simp only [eqFieldsA] at h
        split at h
        · rename_i hf
          obtain ⟨ho, hn⟩ := hf
          rw [Option.bind_eq_some_iff] at h
          obtain ⟨t, ht, h⟩ := h
          obtain ⟨s, hs, rfl⟩ := Option.map_eq_some_iff.1 h
          simp only [List.length_cons] at lx ly
          obtain ⟨hag, D, hD⟩ := eqFieldA_scalar ht
          have ex : xs[i]? = some xs[i] := Array.getElem?_eq_getElem (by omega)
          have ey : ys[i]? = some ys[i] := Array.getElem?_eq_getElem (by omega)
          have h1 := eqFieldA_ok (d := d) (hx 0 a xs[i] rfl ex) (hy 0 b ys[i] rfl ey) ht
          have h2 := ih (i := i + 1) (fun j c u hc hu => hx (j + 1) c u (by simpa using hc) (by rw [← hu]; congr 1; omega)) (fun j c u hc hu => hy (j + 1) c u (by simpa using hc) (by rw [← hu]; congr 1; omega)) (by omega) (by omega) hs
          have hn' : f.name ≠ "_" := hn
          rw [Op.eqFields]
          simp only [if_pos hn']
          rw [runB (run_part_scalar hD hag (by rw [ho]; exact ex)), runB (run_part_scalar hD hag (by rw [ho]; exact ey)), runB h1]
          cases t
          · simp
          · simpa using h2
        · cases h

theorem eqAggA_ok {t : TypeId} {x y : List AV} {xs ys : Array Value} {r : Bool} (lx : x.length = xs.size) (ly : y.length = ys.size)
    (hx : ∀ (j : Nat) c u, x[j]? = some c → xs[j]? = some u → VR S ρ w c u) (hy : ∀ (j : Nat) c u, y[j]? = some c → ys[j]? = some u → VR S ρ w c u) (h : eqAggA P t x y = some r) :
    (Op.equal t (.agg xs) (.agg ys)).run P w = .ok r w ∧ P.eqGuardType P.depth t = false := by
  unfold eqAggA at h
  split at h
  · rename_i fs hu
    split at h
    · rename_i hc
      simp only [Bool.and_eq_true, Bool.not_eq_true'] at hc
      refine ⟨?_, hc.2⟩
      have hf : P.fieldsOf t = fs := by simp [Program.fieldsOf, hu]
      show (Op.equalIn (9998 + 1 + 1) t (.agg xs) (.agg ys)).run P w = _
      rw [run_equalIn_struct (P := P) w (9998 + 1) t xs ys (by rw [hf]; exact hu) hc.1, hf]
      exact eqFieldsA_ok fs.toList (i := 0) (by simpa using hx) (by simpa using hy) (by omega) (by omega) h
    · cases h
  · cases h

/-- '==' and '!=' of other kinds. -/
theorem eqv_ok {t : TypeId} {x y : AV} {a b : Value} {r : Bool} (hx : VR S ρ w x a) (hy : VR S ρ w y b) (h : eqv P t x y = some r) :
    (binOp .eql t a b).run P w = .ok (.bool r) w ∧ (binOp .neq t a b).run P w = .ok (.bool (!r)) w ∧ ¬ (a = .nilIface ∧ b = .nilIface) ∧ ((∃ cs, a = .agg cs) → P.eqGuardType P.depth t = false) := by
  have key : ∀ {a b : Value}, (Op.equal t a b).run P w = .ok r w → (∀ k n, a ≠ .int k n) → (∀ k n, a ≠ .float k n) → (∀ k n m, a ≠ .complex k n m) → (∀ s, a ≠ .string s) → (binOp .eql t a b).run P w = .ok (.bool r) w ∧ (binOp .neq t a b).run P w = .ok (.bool (!r)) w := by
    intro a b he h1 h2 h3 h4
    constructor
    · have : binOp .eql t a b = (do pure (.bool (← Op.equal t a b))) := by
        cases a <;> first | (exact absurd rfl (h1 _ _)) | (exact absurd rfl (h2 _ _)) | (exact absurd rfl (h3 _ _ _)) | (exact absurd rfl (h4 _)) | (cases b <;> rfl)
      rw [this, runB he]; rfl
    · have : binOp .neq t a b = (do pure (.bool (!(← Op.equal t a b)))) := by
        cases a <;> first | (exact absurd rfl (h1 _ _)) | (exact absurd rfl (h2 _ _)) | (exact absurd rfl (h3 _ _ _)) | (exact absurd rfl (h4 _)) | (cases b <;> rfl)
      rw [this, runB he]; rfl
  have fin : ∀ {a b : Value}, (∀ d, (Op.equalIn (d + 1) t a b).run P w = .ok r w) → (∀ k n, a ≠ .int k n) → (∀ k n, a ≠ .float k n) → (∀ k n m, a ≠ .complex k n m) → (∀ s, a ≠ .string s) → ¬ (a = .nilIface ∧ b = .nilIface) → (∀ cs, a ≠ .agg cs) →
      (binOp .eql t a b).run P w = .ok (.bool r) w ∧ (binOp .neq t a b).run P w = .ok (.bool (!r)) w ∧ ¬ (a = .nilIface ∧ b = .nilIface) ∧ ((∃ cs, a = .agg cs) → P.eqGuardType P.depth t = false) :=
    fun he h1 h2 h3 h4 h5 h6 => let k := key (he 9999) h1 h2 h3 h4; ⟨k.1, k.2, h5, fun ⟨cs, e⟩ => absurd e (h6 cs)⟩
  unfold eqv at h
  split at h
  · cases vr_bool hx; cases vr_bool hy
    split at h
    · rename_i hd; cases h
      exact fin (fun d => by simp only [Op.equalIn]; rw [runB (run_underlying hd w)]; rfl) (by simp) (by simp) (by simp) (by simp) (by simp) (by simp)
    · cases h
  · cases vr_nilp hx; cases vr_nilp hy
    split at h
    · rename_i hd; cases h
      exact fin (fun d => by simp only [Op.equalIn]; rw [runB (run_underlying hd w)]; rfl) (by simp) (by simp) (by simp) (by simp) (by simp) (by simp)
    · cases h
  · obtain ⟨bb, sz, n, _, rfl⟩ := vr_ptr hx; cases vr_nilp hy
    split at h
    · rename_i hd; cases h
      exact fin (fun d => by simp only [Op.equalIn]; rw [runB (run_underlying hd w)]; rfl) (by simp) (by simp) (by simp) (by simp) (by simp) (by simp)
    · cases h
  · cases vr_nilp hx; obtain ⟨bb, sz, n, _, rfl⟩ := vr_ptr hy
    split at h
    · rename_i hd; cases h
      exact fin (fun d => by simp only [Op.equalIn]; rw [runB (run_underlying hd w)]; rfl) (by simp) (by simp) (by simp) (by simp) (by simp) (by simp)
    · cases h
  · cases vr_nils hx; cases vr_nils hy
    split at h
    · rename_i hd; cases h
      exact fin (fun d => by simp only [Op.equalIn]; rw [runB (run_underlying hd w)]; rfl) (by simp) (by simp) (by simp) (by simp) (by simp) (by simp)
    · cases h
  · split at h
    · rename_i hne
      split at h
      · rename_i hd; cases h
        cases vr_nils hy
        cases hx with
        | pure hx => cases hx with
          | empty _ ad c hz =>
            cases ad with
            | none => exact absurd rfl (hz (hne.resolve_right (by simp)))
            | some ad => exact fin (fun d => by simp only [Op.equalIn]; rw [runB (run_underlying hd w)]; rfl) (by simp) (by simp) (by simp) (by simp) (by simp) (by simp)
          | list => exact fin (fun d => by simp only [Op.equalIn]; rw [runB (run_underlying hd w)]; rfl) (by simp) (by simp) (by simp) (by simp) (by simp) (by simp)
      · cases h
    · cases h
  · split at h
    · rename_i he; obtain ⟨rfl, rfl, rfl⟩ := he
      split at h
      · rename_i el hd
        split at h
        case isFalse => cases h
        rename_i hinf
        cases h
        obtain ⟨bb, sz, n, h1, rfl⟩ := vr_ptr hx; obtain ⟨bb', sz', n', h2, rfl⟩ := vr_ptr hy
        rw [h1] at h2; cases h2
        obtain ⟨ie, hie⟩ := Option.isSome_iff_exists.1 hinf
        exact fin (fun d => by simp only [Op.equalIn]; rw [runB (run_underlying hd w)]; simp [sizeOf, typeInfo, hie, sameAddr]) (by simp) (by simp) (by simp) (by simp) (by simp) (by simp)
      · cases h
    · cases h
  · cases vr_nili hx; obtain ⟨u, rfl, _⟩ := vr_iface hy
    split at h
    · rename_i hd; cases h
      exact fin (fun d => by simp only [Op.equalIn]; rw [runB (run_underlying hd w)]; rfl) (by simp) (by simp) (by simp) (by simp) (by simp) (by simp)
    · cases h
  · obtain ⟨u, rfl, _⟩ := vr_iface hx; cases vr_nili hy
    split at h
    · rename_i hd; cases h
      exact fin (fun d => by simp only [Op.equalIn]; rw [runB (run_underlying hd w)]; rfl) (by simp) (by simp) (by simp) (by simp) (by simp) (by simp)
    · cases h
  · cases vr_nilf hx; cases vr_nilf hy
    split at h
    · rename_i hd; cases h
      exact fin (fun d => by simp only [Op.equalIn]; rw [runB (run_underlying hd w)]; rfl) (by simp) (by simp) (by simp) (by simp) (by simp) (by simp)
    · cases h
  · cases vr_nilf hx; obtain ⟨vx, vy, rfl, _⟩ := vr_fn hy
    split at h
    · rename_i hd; cases h
      exact fin (fun d => by simp only [Op.equalIn]; rw [runB (run_underlying hd w)]; rfl) (by simp) (by simp) (by simp) (by simp) (by simp) (by simp)
    · cases h
  · obtain ⟨vx, vy, rfl, _⟩ := vr_fn hx; cases vr_nilf hy
    split at h
    · rename_i hd; cases h
      exact fin (fun d => by simp only [Op.equalIn]; rw [runB (run_underlying hd w)]; rfl) (by simp) (by simp) (by simp) (by simp) (by simp) (by simp)
    · cases h
  · obtain ⟨xs, rfl, lx, hxs⟩ := vr_agg hx; obtain ⟨ys, rfl, ly, hys⟩ := vr_agg hy
    obtain ⟨he, hg⟩ := eqAggA_ok lx ly hxs hys h
    obtain ⟨k1, k2⟩ := key he (by simp) (by simp) (by simp) (by simp)
    exact ⟨k1, k2, by simp, fun _ => hg⟩
  · cases h

end Go.Proofs.Ytonaejfpiihfhaa.Abs
