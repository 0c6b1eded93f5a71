/- What an operation that only reads comes to: addresses, slices, structs; and all of them. -/
import Derived.Test.YtonaejfpiihfhaaAbs9
import Derived.Laws.Tables
namespace Go.Proofs.Ytonaejfpiihfhaa.Abs
open Go Go.RowKit
set_option linter.unusedSimpArgs false
set_option linter.unusedVariables false

variable {P : Program} {S : Stab} {ρ : Rho} {w : World}

theorem info_of_cells {t : TypeId} (h : 0 < P.cellsOf t) : ∃ i, P.info? t = some i ∧ i.size = P.cellsOf t := by
  unfold Program.cellsOf at h ⊢
  cases hi : P.info? t with
  | none => simp [hi] at h
  | some i => exact ⟨i, rfl, by simp⟩

/-! ### Structs -/
theorem putA_get {cs new : List AV} {off : Nat} (h : off + new.length ≤ cs.length) (j : Nat) : (putA cs off new)[j]? = if off ≤ j ∧ j < off + new.length then new[j - off]? else cs[j]? := by
  unfold putA
  have h1 : (cs.take off).length = off := by simp; omega
  by_cases hj : j < off
  · rw [if_neg (by omega), List.append_assoc, List.getElem?_append_left (by omega), List.getElem?_take, if_pos hj]
  · by_cases hj2 : j < off + new.length
    · rw [if_pos (by omega), List.append_assoc, List.getElem?_append_right (by omega), h1, List.getElem?_append_left (by omega)]
    · rw [if_neg (by omega), List.append_assoc, List.getElem?_append_right (by omega), h1, List.getElem?_append_right (by omega), List.getElem?_drop]
      congr 1; omega
theorem putA_length {cs new : List AV} {off : Nat} (h : off + new.length ≤ cs.length) : (putA cs off new).length = cs.length := by
  unfold putA; simp; omega

theorem foldl_set (off : Nat) (l : List Value) : ∀ (i : Nat) (cs : Array Value), ((l.zipIdx i).foldl (fun cs (c, j) => cs.setIfInBounds (off + j) c) cs).size = cs.size ∧
    ∀ j, off + i + l.length ≤ cs.size → ((l.zipIdx i).foldl (fun cs (c, j) => cs.setIfInBounds (off + j) c) cs)[j]? = if off + i ≤ j ∧ j < off + i + l.length then l[j - (off + i)]? else cs[j]? := by
  induction l with
  | nil => intro i cs; exact ⟨rfl, fun j _ => by rw [if_neg (by simp)]; rfl⟩
  | cons v l ih =>
    intro i cs
    simp only [List.zipIdx_cons, List.foldl_cons, List.length_cons]
    obtain ⟨e1, e2⟩ := ih (i + 1) (cs.setIfInBounds (off + i) v)
    refine ⟨by rw [e1]; simp, fun j hj => ?_⟩
    rw [e2 j (by simp; omega)]
    by_cases h1 : j = off + i
    · subst h1
      rw [if_neg (by omega), if_pos (by omega), Array.getElem?_setIfInBounds_self_of_lt (by omega)]
      simp
    · rw [Array.getElem?_setIfInBounds_ne (by omega)]
      by_cases h2 : off + i + 1 ≤ j ∧ j < off + i + 1 + l.length
      · rw [if_pos (by omega), if_pos (by omega), show j - (off + i) = (j - (off + (i + 1))) + 1 by omega, List.getElem?_cons_succ]
      · rw [if_neg (by omega), if_neg (by omega)]

/-- The parts laid in, here and there. -/
theorem fill_ok {pl : Nat → Option (Nat × Nat)} (parts : List (Nat × AV)) : ∀ {cs : List AV} {vs : Array Value} {ps : List (Nat × Value)} {r : List AV}, cs.length = vs.size →
    (∀ (j : Nat) c u, cs[j]? = some c → vs[j]? = some u → VR S ρ w c u) → ps.map (·.1) = parts.map (·.1) → (∀ (j : Nat) p q, parts[j]? = some p → ps[j]? = some q → VR S ρ w p.2 q.2) →
    fillA pl cs parts = some r → ∃ vs' : Array Value, Instr.fill pl vs ps = some vs' ∧ r.length = vs'.size ∧ ∀ (j : Nat) c u, r[j]? = some c → vs'[j]? = some u → VR S ρ w c u := by
  induction parts with
  | nil =>
    intro cs vs ps r hl hv hm _ h
    cases ps with
    | nil => cases h; exact ⟨vs, rfl, hl, hv⟩
    | cons => simp at hm
  | cons p parts ih =>
    intro cs vs ps r hl hv hm hp h
    obtain ⟨i, v⟩ := p
    cases ps with
    | nil => simp at hm
    | cons q ps =>
      obtain ⟨i', u⟩ := q
      simp only [List.map_cons, List.cons.injEq] at hm
      obtain ⟨rfl, hm⟩ := hm
      simp only [fillA] at h
      rw [Option.bind_eq_some_iff] at h
      obtain ⟨⟨off, size⟩, hpl, h⟩ := h
      simp only at h
      split at h
      · rename_i hc
        obtain ⟨c1, c2, c3⟩ := hc
        have hvu : VR S ρ w v u := hp 0 (i', v) (i', u) rfl rfl
        obtain ⟨g1, g2⟩ := vr_cells hvu (by intro e; subst e; simp [AV.known] at c3)
        have hsz : u.cells.size = size := by omega
        simp only [Instr.fill, hpl]
        rw [if_neg (by simp; omega)]
        obtain ⟨f1, f2⟩ := foldl_set off u.cells.toList 0 vs
        have hz : (u.cells.zipIdx.foldl (fun cs (x : Value × Nat) => cs.setIfInBounds (off + x.2) x.1) vs) = (u.cells.toList.zipIdx 0).foldl (fun cs (c, j) => cs.setIfInBounds (off + j) c) vs := by
          rw [← Array.foldl_toList]; simp
        rw [hz]
        refine ih (by rw [putA_length (by omega), f1]; exact hl) (fun j c x hcj hx => ?_) hm (fun j p q a b => hp (j + 1) p q (by simpa using a) (by simpa using b)) h
        rw [putA_get (by omega)] at hcj
        rw [f2 j (by simp; omega)] at hx
        simp only [Nat.add_zero, Array.length_toList] at hx
        by_cases hj : off ≤ j ∧ j < off + v.cells.length
        · rw [if_pos hj] at hcj
          rw [if_pos (by omega)] at hx
          exact g2 _ c x hcj (by simpa using hx)
        · rw [if_neg hj] at hcj
          rw [if_neg (by omega)] at hx
          exact hv j c x hcj hx
      · cases h

theorem places_of (fs : List Field) (h : ∀ f ∈ fs, 0 < P.cellsOf f.type) : ∃ pl, fs.mapM (fun f => (P.info? f.type).map fun i => (f.offset, i.size)) = some pl ∧ ∀ (i : Nat), pl[i]? = (fs[i]?).map fun f => (f.offset, P.cellsOf f.type) := by
  induction fs with
  | nil => exact ⟨[], rfl, fun i => by simp⟩
  | cons f fs ih =>
    obtain ⟨pl, h1, h2⟩ := ih fun g hg => h g (by simp [hg])
    obtain ⟨i, hi, hs⟩ := info_of_cells (h f (by simp))
    refine ⟨(f.offset, i.size) :: pl, by simp [List.mapM_cons, hi, h1], fun j => ?_⟩
    cases j with
    | zero => simp [hs]
    | succ j => simp [h2]

theorem buildA_ok {t : TypeId} {parts : List (Nat × AV)} {ps : Array (Nat × Value)} {v : AV} (hm : ps.toList.map (·.1) = parts.map (·.1)) (hp : ∀ (j : Nat) p q, parts[j]? = some p → ps.toList[j]? = some q → VR S ρ w p.2 q.2)
    (h : buildA P t parts = some v) : ∃ u, (Instr.build t ps).run P w = .ok u w ∧ VR S ρ w v u := by
  unfold buildA at h
  split at h
  · rename_i fs z hu hz
    split at h
    · rename_i hc
      simp only [Bool.and_eq_true, List.all_eq_true, decide_eq_true_eq] at hc
      obtain ⟨r, hr, rfl⟩ := Option.map_eq_some_iff.1 h
      obtain ⟨it, hit, hz'⟩ := Option.bind_eq_some_iff.1 hz
      obtain ⟨pl, hpl, hpg⟩ := places_of fs.toList hc.1
      have hzv := vr_cells (vr_ofValue (S := S) (ρ := ρ) (w := w) z) (by intro e; rw [e] at hc; simp [AV.known] at hc)
      obtain ⟨vs, e1, e2, e3⟩ := fill_ok parts hzv.1 hzv.2 hm hp hr
      refine ⟨.agg vs, run_build w t ps vs ?_, .agg _ _ e2 e3⟩
      unfold Program.built
      simp only [hit, hu, hz', hpl]
      rw [← e1]; congr 1
      funext i
      have := hpg i
      simp only [List.getElem?_toArray, this, Array.getElem?_toList]
    · cases h
  · rename_i e z hu hz
    split at h
    · rename_i hc
      obtain ⟨r, hr, rfl⟩ := Option.map_eq_some_iff.1 h
      obtain ⟨it, hit, hz'⟩ := Option.bind_eq_some_iff.1 hz
      obtain ⟨ie, hie, hs⟩ := info_of_cells hc.1
      have hzv := vr_cells (vr_ofValue (S := S) (ρ := ρ) (w := w) z) (by intro e; rw [e] at hc; simp [AV.known] at hc)
      obtain ⟨vs, e1, e2, e3⟩ := fill_ok parts hzv.1 hzv.2 hm hp hr
      refine ⟨.agg vs, run_build w t ps vs ?_, .agg _ _ e2 e3⟩
      unfold Program.built
      simp only [hit, hu, hz', hie, hs]
      exact e1
    · cases h
  · cases h

end Go.Proofs.Ytonaejfpiihfhaa.Abs
