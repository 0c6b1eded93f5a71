/- What an operation that only reads comes to: indices, slices, and all of them. -/
import Derived.Test.YtonaejfpiihfhaaAbs10
import Derived.Lib.Strings
namespace Go.Proofs.Ytonaejfpiihfhaa.Abs
open Go Go.RowKit
set_option linter.unusedSimpArgs false
set_option linter.unusedVariables false

variable {P : Program} {S : Stab} {ρ : Rho} {w : World}

/-! ### Indices -/
theorem run_indexAt_slice {t e : TypeId} {k : IntKind} {n : Int} {a : Addr} {len cap : Nat} (hd : P.underlying t = some (.slice e)) (h0 : 0 < P.cellsOf e) (h1 : 0 ≤ n) (h2 : n < len) :
    (Instr.indexAt t (.slice (some a) len cap) (.int k n)).run P w = .ok (.pointer (some (a.add (n.toNat * P.cellsOf e)))) w := by
  have hs : (sizeOf e).run P w = .ok (P.cellsOf e) w := run_sizeOf rfl h0
  simp [Instr.indexAt, asIntOf, run_underlying hd w, hs, h1, h2]
theorem run_indexAt_array {t e : TypeId} {k : IntKind} {n : Int} {a : Addr} {m : Nat} (hd : P.underlying t = some (.array m e)) (h0 : 0 < P.cellsOf e) (h1 : 0 ≤ n) (h2 : n < m) :
    (Instr.indexAt t (.pointer (some a)) (.int k n)).run P w = .ok (.pointer (some (a.add (n.toNat * P.cellsOf e)))) w := by
  have hs : (sizeOf e).run P w = .ok (P.cellsOf e) w := run_sizeOf rfl h0
  simp [Instr.indexAt, Instr.sureAddr, asIntOf, run_underlying hd w, hs, h1, h2]

theorem indexA_ok {hp : Heap} (H : HR S ρ w hp) {t : TypeId} {x i v : AV} {a b : Value} (hx : VR S ρ w x a) (hi : VR S ρ w i b) (h : indexA P hp t x i = some v) :
    ∃ u, (Instr.indexAt t a b).run P w = .ok u w ∧ VR S ρ w v u := by
  unfold indexA at h
  split at h
  · rename_i k n
    cases vr_int hi
    split at h
    · rename_i e sz es hd
      split at h
      · rename_i hc
        obtain ⟨hsz, hpos, h0⟩ := hc
        obtain ⟨x0, he, rfl⟩ := Option.map_eq_some_iff.1 h
        have hlt : n.toNat < es.length := (List.getElem?_eq_some_iff.1 he).1
        cases hx with
        | pure hx => cases hx with
          | empty => simp at hlt
          | list _ bb off cap _ f p0 hcap hs hS hw hq hp =>
            refine ⟨_, run_indexAt_slice hd (by omega) h0 (by omega), ?_⟩
            rw [at0_add, ← hsz]
            have hl : x0.cells.length = sz := hs x0 (List.mem_of_getElem? he)
            have := PR.ep (S := S) (w := w) x0 bb (off + n.toNat * sz) 0 (f n.toNat) (by omega) (fun j c hj => hS _ j x0 c he hj) (fun j c hj => hw _ j x0 c he hj) (fun j c hj => hp _ j x0 c he hj)
            exact .pure this
      · cases h
    · rename_i e id hd
      rw [Option.bind_eq_some_iff] at h
      obtain ⟨⟨sz, es⟩, hr, h⟩ := h
      obtain ⟨fx, mv, ho⟩ := rowAt_some hr
      split at h
      · rename_i hc
        simp only at hc
        obtain ⟨hsz, hpos, h0, hlt⟩ := hc
        cases h
        cases hx with
        | pure hx => cases hx
        | own0 _ hρ => have := row0_of H ho hρ; subst this; simp at hlt; omega
        | own _ bb s m cap hρ hcap hr =>
          obtain ⟨rfl, rfl, _⟩ := rowobj_of H ho hρ
          refine ⟨_, run_indexAt_slice hd (by omega) h0 (by omega), ?_⟩
          rw [at0_add, ← hsz]
          have := VR.ptr (S := S) (w := w) id n.toNat 0 bb s es.length hρ
          simpa using this
      · cases h
    · rename_i e id o l hd
      rw [Option.bind_eq_some_iff] at h
      obtain ⟨⟨sz, es⟩, hr, h⟩ := h
      obtain ⟨fx, mv, ho⟩ := rowAt_some hr
      split at h
      · rename_i hc
        simp only at hc
        obtain ⟨hsz, hpos, h0, hlt, hol⟩ := hc
        cases h
        cases hx with
        | pure hx => cases hx
        | row0 => omega
        | row _ _ _ bb s m cap hρ hcap =>
          obtain ⟨rfl, rfl, _⟩ := rowobj_of H ho hρ
          refine ⟨_, run_indexAt_slice hd (by omega) h0 (by omega), ?_⟩
          rw [at0_add, ← hsz, ← Nat.add_mul]
          have := VR.ptr (S := S) (w := w) id (o + n.toNat) 0 bb s es.length hρ
          simpa using this
      · cases h
    · rename_i m e id j o hd
      split at h
      · rename_i hc
        obtain ⟨h0, hlt, hpos⟩ := hc
        cases h
        obtain ⟨bb, sz, nn, hρ, rfl⟩ := vr_ptr hx
        refine ⟨_, run_indexAt_array hd hpos h0 hlt, ?_⟩
        rw [at0_add, Nat.add_assoc]
        exact .ptr id j _ bb sz nn hρ
      · cases h
    · rename_i m e v0 o hd
      split at h
      · rename_i hc
        obtain ⟨h0, hlt, hpos, hin⟩ := hc
        cases h
        cases hx with
        | pure hx => cases hx with
          | ep _ bb base _ f ho hS hw hp =>
            refine ⟨_, run_indexAt_array hd hpos h0 hlt, ?_⟩
            rw [at0_add, Nat.add_assoc]
            exact .pure (.ep v0 bb base _ f hin hS hw hp)
      · cases h
    · cases h
  · cases h

theorem indexv_ok {t : TypeId} {x i v : AV} {a b : Value} (hx : VR S ρ w x a) (hi : VR S ρ w i b) (h : indexv P t x i = some v) : ∃ u, (Instr.index t a b).run P w = .ok u w ∧ VR S ρ w v u := by
  unfold indexv at h
  split at h
  · rename_i k n
    cases vr_int hi
    split at h
    · rename_i m e cs hd
      split at h
      · rename_i hc
        obtain ⟨vs, rfl, hl, hv⟩ := vr_agg hx
        obtain ⟨d, he, h0, h⟩ := partT_some h
        obtain ⟨u, h1, h2⟩ := part_ok he h0 hl hv h
        refine ⟨u, ?_, h2⟩
        unfold Instr.index
        simp only [asIntOf]
        rw [runB (a := (k, n)) (by rfl)]
        simp only []
        rw [runB (run_underlying hd w)]
        simp only []
        rw [if_pos hc, runB (run_sizeOf rfl h0)]
        exact h1
      · cases h
    · rename_i l hd
      split at h
      · rename_i hc
        obtain ⟨s, rfl, rfl⟩ := vr_str hx
        obtain ⟨u, hu, rfl⟩ := Option.map_eq_some_iff.1 h
        refine ⟨.int .u8 u.toNat, ?_, .pure (.int _ _)⟩
        unfold Instr.index
        simp only [asIntOf]
        rw [runB (a := (k, n)) (by rfl)]
        simp only []
        rw [runB (run_underlying hd w)]
        simp only []
        rw [if_pos hc]
        have : s[n.toNat]? = some u := by
          have hlt : n.toNat < s.size := by simpa using (List.getElem?_eq_some_iff.1 hu).1
          rw [getElem?_pos s n.toNat hlt]
          have := (List.getElem?_eq_some_iff.1 hu).2
          rw [← this]; rfl
        rw [this]; rfl
      · cases h
    · cases h
  · cases h

/-! ### Slices -/
def ORel (S : Stab) (ρ : Rho) (w : World) : Option AV → Option Value → Prop
  | none, none => True
  | some x, some a => VR S ρ w x a
  | _, _ => False
theorem bound_some {x : Option AV} {d n : Nat} {vx : Option Value} (h : bound? x d = some n) (r : ORel S ρ w x vx) : (vx = none ∧ n = d) ∨ ∃ k i, vx = some (.int k i) ∧ 0 ≤ i ∧ n = i.toNat := by
  cases x with
  | none => cases vx with
    | none => cases h; exact .inl ⟨rfl, rfl⟩
    | some => exact r.elim
  | some x => cases vx with
    | none => exact r.elim
    | some a => cases x with
      | int k i =>
        simp only [bound?] at h
        split at h
        · cases h; exact .inr ⟨k, i, by rw [vr_int r], by assumption, rfl⟩
        · cases h
      | _ => simp [bound?] at h
theorem run_bounds {isS : Bool} {len cap l h : Nat} {lo hi : Option AV} {vl vh : Option Value} (hlo : bound? lo 0 = some l) (hhi : bound? hi len = some h)
    (rl : ORel S ρ w lo vl) (rh : ORel S ρ w hi vh) (h1 : l ≤ h) (h2 : h ≤ cap) :
    (Instr.sliceBounds isS len cap vl vh none).run P w = .ok (l, h, cap) w := by
  rcases bound_some hlo rl with ⟨rfl, rfl⟩ | ⟨k, i, rfl, hi0, rfl⟩ <;> rcases bound_some hhi rh with ⟨rfl, rfl⟩ | ⟨k', i', rfl, hi', rfl⟩
  · simp [Instr.sliceBounds]
  · simp [Instr.sliceBounds, run_sliceBound (P := P) w k' i' cap _ hi' (by omega)]
  · simp [Instr.sliceBounds, run_sliceBound (P := P) w k i h _ hi0 (by omega)]
  · simp [Instr.sliceBounds, run_sliceBound (P := P) w k' i' cap _ hi' (by omega), run_sliceBound (P := P) w k i i'.toNat _ hi0 (by omega)]

theorem run_sliceAt_sl {t e : TypeId} {a : Option Addr} {len cap l h : Nat} {vl vh : Option Value} (hd : P.underlying t = some (.slice e)) (h0 : 0 < P.cellsOf e) (hb : (Instr.sliceBounds true len cap vl vh none).run P w = .ok (l, h, cap) w) :
    (Instr.sliceAt t (.slice a len cap) vl vh none).run P w = .ok (.slice (if cap = l then a else a.map (·.add (l * P.cellsOf e))) (h - l) (cap - l)) w := by
  unfold Instr.sliceAt Instr.slice
  rw [runB (run_underlying hd w)]
  simp only []
  rw [runB (run_underlying hd w)]
  simp only []
  rw [runB hb]
  simp only []
  rw [runB (run_sizeOf rfl h0)]
  rfl

theorem slicev_ok {hp : Heap} (H : HR S ρ w hp) {t : TypeId} {x v : AV} {lo hi mx : Option AV} {a : Value} {vl vh vm : Option Value} (hx : VR S ρ w x a)
    (rl : ORel S ρ w lo vl) (rh : ORel S ρ w hi vh)
    (rm : mx = none → vm = none) (h : slicev P hp t x lo hi mx = some v) : ∃ u, (Instr.sliceAt t a vl vh vm).run P w = .ok u w ∧ VR S ρ w v u := by
  unfold slicev at h
  split at h
  · rename_i s hd
    cases rm rfl
    obtain ⟨p, rfl, rfl⟩ := vr_str hx
    rw [Option.bind_eq_some_iff] at h; obtain ⟨l, hl, h⟩ := h
    rw [Option.bind_eq_some_iff] at h; obtain ⟨hh, hhh, h⟩ := h
    split at h
    · rename_i hc
      cases h
      have hz : p.data.toList.length = p.size := by simp
      rw [hz] at hhh hc
      refine ⟨.string (p.extract l hh), ?_, ?_⟩
      · unfold Instr.sliceAt Instr.slice
        rw [runB (run_underlying hd w)]
        simp only []
        rw [runB (run_underlying hd w)]
        simp only [Option.isSome_none, Bool.false_eq_true, if_false]
        rw [runB (run_bounds hl hhh rl rh hc.1 hc.2)]
        rfl
      · have : (p.extract l hh).data.toList = (p.data.toList.take hh).drop l := by rw [Lib.extract_data, List.drop_take]
        rw [← this]; exact .pure (.str _)
    · cases h
  · rename_i e sz es hd
    cases rm rfl
    rw [Option.bind_eq_some_iff] at h; obtain ⟨l, hl, h⟩ := h
    rw [Option.bind_eq_some_iff] at h; obtain ⟨hh, hhh, h⟩ := h
    split at h
    · rename_i hc
      obtain ⟨hsz, hpos, h1, h2⟩ := hc
      cases h
      cases hx with
      | pure hx => cases hx with
        | empty _ a c =>
          simp only [List.length_nil] at h2 hhh
          obtain rfl : hh = 0 := by omega
          obtain rfl : l = 0 := by omega
          refine ⟨_, run_sliceAt_sl hd (by omega) (run_bounds hl hhh rl rh (by omega) (by omega)), ?_⟩
          simp only [List.take_nil, List.drop_nil]
          exact .pure (.empty _ _ _ (fun e => by omega))
        | list _ b off cap _ f p0 hcap hs hS hw hq hp =>
          refine ⟨_, run_sliceAt_sl hd (by omega) (run_bounds hl hhh rl rh h1 (by omega)), ?_⟩
          by_cases he : hh = l
          · subst he
            have : (es.take hh).drop hh = [] := by simp [List.drop_eq_nil_iff]
            rw [this, Nat.sub_self]; exact .pure (.empty _ _ _ (fun e => by omega))
          · rw [if_neg (by omega)]
            simp only [Option.map_some, at0_add, ← hsz]
            have hlen : ((es.take hh).drop l).length = hh - l := by simp; omega
            have get : ∀ (i : Nat) e', ((es.take hh).drop l)[i]? = some e' → es[l + i]? = some e' := by
              intro i e' hi
              rw [List.getElem?_drop, List.getElem?_take] at hi
              split at hi
              · exact hi
              · cases hi
            have := PR.list (S := S) (w := w) ((es.take hh).drop l) b (off + l * sz) (cap - l) sz (fun i j => f (l + i) j) p0 (by rw [hlen]; omega)
              (fun e' he' => hs e' (List.mem_of_mem_take (List.mem_of_mem_drop he')))
              (fun i j e' c hi hj => by have := hS (l + i) j e' c (get i e' hi) hj; rw [Nat.add_mul] at this; rw [show off + l * sz + i * sz + j = off + (l * sz + i * sz) + j by omega]; exact this)
              (fun i j e' c hi hj => by have := hw (l + i) j e' c (get i e' hi) hj; rw [Nat.add_mul] at this; rw [show off + l * sz + i * sz + j = off + (l * sz + i * sz) + j by omega]; exact this)
              (fun i j e' c hi hj => hq (l + i) j e' c (get i e' hi) hj) (fun i j e' c hi hj => hp (l + i) j e' c (get i e' hi) hj)
            rw [hlen] at this
            exact .pure this
    · cases h
  · rename_i e hd
    cases rm rfl
    split at h
    · cases h
    · rename_i hne
      rw [Option.bind_eq_some_iff] at h; obtain ⟨l, hl, h⟩ := h
      rw [Option.bind_eq_some_iff] at h; obtain ⟨hh, hhh, h⟩ := h
      split at h
      · rename_i hc
        cases h; cases vr_nils hx
        obtain rfl : hh = 0 := by omega
        obtain rfl : l = 0 := by omega
        exact ⟨_, run_sliceAt_sl hd (by omega) (run_bounds hl hhh rl rh (by omega) (by omega)), .pure .nils⟩
      · cases h
  · rename_i e id hd
    cases rm rfl
    rw [Option.bind_eq_some_iff] at h; obtain ⟨⟨sz, es⟩, hr, h⟩ := h
    obtain ⟨fx, mv, ho⟩ := rowAt_some hr
    rw [Option.bind_eq_some_iff] at h; obtain ⟨l, hl, h⟩ := h
    rw [Option.bind_eq_some_iff] at h; obtain ⟨hh, hhh, h⟩ := h
    simp only at h hhh
    split at h
    · rename_i hc
      obtain ⟨hsz, hpos, h1, h2⟩ := hc
      cases h
      cases hx with
      | pure hx => cases hx
      | own0 _ hρ =>
        have := row0_of H ho hρ; subst this
        simp only [List.length_nil] at h2 hhh
        obtain rfl : hh = 0 := by omega
        obtain rfl : l = 0 := by omega
        refine ⟨_, run_sliceAt_sl hd (by omega) (run_bounds hl hhh rl rh (by omega) (by omega)), ?_⟩
        exact .row0 _ _ _ _
      | own _ b s m cap hρ hcap hr =>
        obtain ⟨rfl, rfl, _⟩ := rowobj_of H ho hρ
        refine ⟨_, run_sliceAt_sl hd (by omega) (run_bounds hl hhh rl rh h1 (by omega)), ?_⟩
        by_cases he : hh = l
        · subst he; rw [Nat.sub_self]; exact .row0 _ _ _ _
        · rw [if_neg (by omega)]
          simp only [Option.map_some, at0_add, ← hsz, Nat.zero_add]
          exact .row id l (hh - l) b s es.length (cap - l) hρ (by omega)
    · cases h
  · rename_i e id o n hd
    cases rm rfl
    rw [Option.bind_eq_some_iff] at h; obtain ⟨⟨sz, es⟩, hr, h⟩ := h
    obtain ⟨fx, mv, ho⟩ := rowAt_some hr
    rw [Option.bind_eq_some_iff] at h; obtain ⟨l, hl, h⟩ := h
    rw [Option.bind_eq_some_iff] at h; obtain ⟨hh, hhh, h⟩ := h
    simp only at h hhh
    split at h
    · rename_i hc
      obtain ⟨hsz, hpos, h1, h2⟩ := hc
      cases h
      cases hx with
      | pure hx => cases hx
      | row0 =>
        obtain rfl : hh = 0 := by omega
        obtain rfl : l = 0 := by omega
        refine ⟨_, run_sliceAt_sl hd (by omega) (run_bounds hl hhh rl rh (by omega) (by omega)), ?_⟩
        exact .row0 _ _ _ _
      | row _ _ _ b s m cap hρ hcap =>
        obtain ⟨rfl, rfl, _⟩ := rowobj_of H ho hρ
        refine ⟨_, run_sliceAt_sl hd (by omega) (run_bounds hl hhh rl rh h1 (by omega)), ?_⟩
        by_cases he : hh = l
        · subst he; rw [Nat.sub_self]; exact .row0 _ _ _ _
        · rw [if_neg (by omega)]
          simp only [Option.map_some, at0_add, ← hsz, ← Nat.add_mul]
          exact .row id (o + l) (hh - l) b s es.length (cap - l) hρ (by omega)
    · cases h
  · cases h

end Go.Proofs.Ytonaejfpiihfhaa.Abs
