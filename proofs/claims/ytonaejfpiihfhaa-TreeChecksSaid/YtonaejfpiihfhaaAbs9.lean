/- What an operation that only reads comes to: the others, and all of them. -/
import Derived.Test.YtonaejfpiihfhaaAbs8
import Derived.Laws.BytesString
import Derived.Laws.Slices
namespace Go.Proofs.Ytonaejfpiihfhaa.Abs
open Go Go.RowKit
set_option linter.unusedSimpArgs false
set_option linter.unusedVariables false

variable {P : Program} {S : Stab} {ρ : Rho} {w : World}

theorem unv_ok {op : UnOp} {x v : AV} {a : Value} (hx : VR S ρ w x a) (h : unv op x = some v) : ∃ u, (Op.unary op a).run P w = .ok u w ∧ VR S ρ w v u := by
  unfold unv at h
  split at h
  · cases vr_bool hx; cases h; exact ⟨_, rfl, .pure (.bool _)⟩
  · cases vr_int hx; cases h; exact ⟨_, rfl, .pure (.int _ _)⟩
  · cases vr_int hx; cases h; exact ⟨_, rfl, .pure (.int _ _)⟩
  · cases h

/-- The object behind a name. -/
theorem box_of {hp : Heap} (H : HR S ρ w hp) {id : Nat} {v : AV} (ho : aget hp id = some (.box v)) {b sz n : Nat} (hρ : ρ id = some ⟨some (b, sz), n⟩) :
    sz = v.cells.length ∧ ∃ cells t fr, w.heap[b]? = some (.cells cells t fr) ∧ v.cells.length ≤ cells.size ∧ Unfrozen w b cells.size ∧ (∀ o, ¬ S b o) ∧ ∀ (j : Nat) c, v.cells[j]? = some c → ∃ u, cells[j]? = some u ∧ VR S ρ w c u := by
  obtain ⟨b', cells, t, fr, h1, h2, h3, h4, h5, h6⟩ := H.obj id _ ho
  rw [hρ] at h1; cases h1
  exact ⟨rfl, cells, t, fr, h2, h3, h4, h5, h6⟩
theorem rowobj_of {hp : Heap} (H : HR S ρ w hp) {id sz : Nat} {es : List AV} {fx mv : Bool} (ho : aget hp id = some (.row sz es fx mv)) {b s n : Nat} (hρ : ρ id = some ⟨some (b, s), n⟩) :
    s = sz ∧ n = es.length ∧ 0 < sz ∧ (∀ e ∈ es, e.cells.length = sz) ∧ ∃ cells t fr, w.heap[b]? = some (.cells cells t fr) ∧ es.length * sz ≤ cells.size ∧ Unfrozen w b cells.size ∧
      (∀ (i j : Nat) e c, es[i]? = some e → e.cells[j]? = some c → ∃ u, cells[i * sz + j]? = some u ∧ PR S w c u ∧ (fx = true → S b (i * sz + j)) ∧ scalarV u = true) ∧ (∀ o, S b o → fx = true ∧ o < es.length * sz) := by
  rcases H.obj id _ ho with ⟨_, h1⟩ | ⟨b', cells, t, fr, h0, h1, hs, h2, h3, h4, h5, h6⟩
  · rw [hρ] at h1; cases h1
  · rw [hρ] at h1; cases h1
    exact ⟨rfl, rfl, h0, hs, cells, t, fr, h2, h3, h4, h5, h6⟩
theorem row0_of {hp : Heap} (H : HR S ρ w hp) {id sz : Nat} {es : List AV} {fx mv : Bool} (ho : aget hp id = some (.row sz es fx mv)) {n : Nat} (hρ : ρ id = some ⟨none, n⟩) : es = [] := by
  rcases H.obj id _ ho with ⟨h, _⟩ | ⟨b', cells, t, fr, h0, h1, _⟩
  · exact h
  · rw [hρ] at h1; cases h1

/-- Where a pointer leads: the cells of the thing that it is in. -/
theorem ptr_cells {hp : Heap} (H : HR S ρ w hp) {id i : Nat} {ob : AObj} {cs : List AV} (ho : aget hp id = some ob) (hc : objCells ob i = some cs) {b sz n : Nat} (hρ : ρ id = some ⟨some (b, sz), n⟩) :
    ∃ f : Nat → Value, ∀ (j : Nat) c, cs[j]? = some c → w.cell? (at0 b (i * sz + j)) = some (f j) ∧ VR S ρ w c (f j) := by
  cases ob with
  | box v =>
    simp only [objCells] at hc
    split at hc
    · rename_i hi; subst hi; cases hc
      obtain ⟨_, cells, t, fr, h2, _, _, _, h6⟩ := box_of H ho hρ
      refine ⟨fun j => cells[j]?.getD default, fun j c hj => ?_⟩
      obtain ⟨u, hu, hv⟩ := h6 j c hj
      refine ⟨?_, ?_⟩
      · rw [Nat.zero_mul, Nat.zero_add, cell_block h2]; simp only [hu, Option.getD_some]
      · simp only [hu, Option.getD_some]; exact hv
    · cases hc
  | row s es fx mv =>
    simp only [objCells] at hc
    obtain ⟨e, he, rfl⟩ := Option.map_eq_some_iff.1 hc
    obtain ⟨rfl, _, _, _, cells, t, fr, h2, _, _, h5, _⟩ := rowobj_of H ho hρ
    refine ⟨fun j => cells[i * sz + j]?.getD default, fun j c hj => ?_⟩
    obtain ⟨u, hu, hv, _⟩ := h5 i j e c he hj
    refine ⟨?_, ?_⟩
    · rw [cell_block h2]; simp only [hu, Option.getD_some]
    · simp only [hu, Option.getD_some]; exact .pure hv
  | loop r l => cases hc
  | dblk => cases hc

theorem partT_some {t : TypeId} {cs : List AV} {o : Nat} {v : AV} (h : partT P t cs o = some v) : ∃ d, P.underlying t = some d ∧ 0 < P.cellsOf t ∧ partA (isAggT P t) (P.cellsOf t) cs o = some v := by
  unfold partT at h
  split at h
  · rename_i hc
    obtain ⟨d, hd⟩ := Option.isSome_iff_exists.1 hc.2
    exact ⟨d, hd, hc.1, h⟩
  · cases h

/-- What is read through a pointer. -/
def loadA (P : Program) (hp : Heap) (t : TypeId) (x : AV) : Option AV :=
  match x with
  | .ptr id i o => (aget hp id).bind fun ob => (objCells ob i).bind fun cs => partT P t cs o
  | .ep v o => partT P t v.cells o
  | _ => none

theorem loadA_ok {hp : Heap} (H : HR S ρ w hp) {t : TypeId} {x v : AV} {a : Value} (hx : VR S ρ w x a) (h : loadA P hp t x = some v) :
    ∃ ad u, a = .pointer (some ad) ∧ (loadVar t ad).run P w = .ok u w ∧ VR S ρ w v u := by
  cases x with
  | ptr id i o =>
    simp only [loadA] at h
    obtain ⟨b, sz, n, hρ, rfl⟩ := vr_ptr hx
    rw [Option.bind_eq_some_iff] at h
    obtain ⟨ob, ho, h⟩ := h
    rw [Option.bind_eq_some_iff] at h
    obtain ⟨cs, hc, h⟩ := h
    obtain ⟨f, hf⟩ := ptr_cells H ho hc hρ
    obtain ⟨d, hd, h0, h⟩ := partT_some h
    obtain ⟨u, h1, h2⟩ := load_ok f hd h0 hf h
    exact ⟨_, u, rfl, h1, h2⟩
  | ep e o =>
    simp only [loadA] at h
    obtain ⟨b, base, rfl, _, f, hf⟩ := vr_ep hx
    obtain ⟨d, hd, h0, h⟩ := partT_some h
    obtain ⟨u, h1, h2⟩ := load_ok f hd h0 (fun j c hj => ⟨(hf j c hj).2.1, .pure (hf j c hj).2.2⟩) h
    exact ⟨_, u, rfl, h1, h2⟩
  | _ => simp [loadA] at h

theorem fieldPlace_ok {b o : Nat} {f : Field} {n : Nat} (hn : P.cellsOf f.type = n) (h0 : 0 < n) : (fieldPlace (at0 b o) f).run P w = .ok (at0 b (o + f.offset)) w := by
  unfold fieldPlace
  rw [runB (run_sizeOf hn h0), if_neg (by omega), at0_add]
  rfl

theorem rowAt_some {hp : Heap} {id sz : Nat} {es : List AV} (h : rowAt hp id = some (sz, es)) : ∃ fx mv, aget hp id = some (.row sz es fx mv) := by
  unfold rowAt at h
  split at h
  · rename_i ho; cases h; exact ⟨_, _, ho⟩
  · cases h

theorem lenv_ok {hp : Heap} (H : HR S ρ w hp) {t ty : TypeId} {x v : AV} {a : Value} (hx : VR S ρ w x a) (h : lenv P hp t x = some v) : ∃ u, (Builtin.len_ #[t] ty #[a]).run P w = .ok u w ∧ VR S ρ w v u := by
  unfold lenv at h
  split at h
  · rename_i hd
    obtain ⟨s, rfl, hs⟩ := vr_str hx; cases h
    refine ⟨goInt s.size, by simp [Builtin.len_, run_underlying hd], ?_⟩
    rw [← hs]; simp only [goInt]
    have : (s.data.toList.length : Int) = s.size := by simp
    rw [this]; exact .pure (.int _ _)
  · rename_i hd; cases h
    exact ⟨goInt _, by simp [Builtin.len_, run_underlying hd], .pure (.int _ _)⟩
  · rename_i hd; cases h
    refine ⟨goInt _, ?_, .pure (.int _ _)⟩
    cases hx with
    | pure hx => cases hx <;> simp [Builtin.len_, run_underlying hd]
  · rename_i hd; cases h
    cases vr_nils hx
    exact ⟨goInt 0, by simp [Builtin.len_, run_underlying hd], .pure (.int _ _)⟩
  · rename_i hd
    obtain ⟨⟨s, es⟩, hr, rfl⟩ := Option.map_eq_some_iff.1 h
    obtain ⟨fx, mv, ho⟩ := rowAt_some hr
    refine ⟨goInt es.length, ?_, .pure (.int _ _)⟩
    cases hx with
    | pure hx => cases hx
    | own0 _ h0 => rw [row0_of H ho h0]; simp [Builtin.len_, run_underlying hd]
    | own _ b sz n cap h1 hc hr =>
      obtain ⟨_, rfl, _⟩ := rowobj_of H ho h1
      simp [Builtin.len_, run_underlying hd]
  · rename_i hd; cases h
    refine ⟨goInt _, ?_, .pure (.int _ _)⟩
    cases hx with
    | pure hx => cases hx
    | row0 => simp [Builtin.len_, run_underlying hd]
    | row => simp [Builtin.len_, run_underlying hd]
  · cases h

theorem capv_ok {t ty : TypeId} {x v : AV} {a : Value} (hx : VR S ρ w x a) (h : capv P t x = some v) : ∃ u, (Builtin.cap_ #[t] ty #[a]).run P w = .ok u w ∧ VR S ρ w v u := by
  unfold capv at h
  split at h
  · rename_i hd; cases h
    cases vr_nils hx
    exact ⟨goInt 0, by simp [Builtin.cap_, run_underlying hd], .pure (.int _ _)⟩
  · cases h

theorem minmax_ok {mx : Bool} {x y v : AV} {a b : Value} (hx : VR S ρ w x a) (hy : VR S ρ w y b) (h : minmax mx x y = some v) (ts : Array TypeId) (ty : TypeId) :
    ∃ u, (if mx then Builtin.max_ ts ty #[a, b] else Builtin.min_ ts ty #[a, b]).run P w = .ok u w ∧ VR S ρ w v u := by
  unfold minmax at h
  split at h
  · cases vr_int hx; cases vr_int hy
    split at h
    · rename_i hk; subst hk; cases h
      cases mx
      · exact ⟨_, rfl, .pure (.int _ _)⟩
      · exact ⟨_, rfl, .pure (.int _ _)⟩
    · cases h
  · cases h

theorem bytesOf_len {es : List AV} : ∀ {l : List UInt8}, bytesOf? es = some l → l.length = es.length ∧ ∀ (i : Nat) e, es[i]? = some e → ∃ n, e = .int .u8 n ∧ l[i]? = some (UInt8.ofNat n.toNat) := by
  induction es with
  | nil => intro l h; cases h; exact ⟨rfl, fun i e h => by simp at h⟩
  | cons x es ih =>
    intro l h
    cases x with
    | int k n =>
      cases k <;> simp [bytesOf?] at h
      obtain ⟨l', h', rfl⟩ := h
      obtain ⟨e1, e2⟩ := ih h'
      refine ⟨by simp [e1], fun i e he => ?_⟩
      cases i with
      | zero => simp at he; subst he; exact ⟨n, rfl, rfl⟩
      | succ i => simp at he ⊢; exact e2 i e he
    | _ => simp [bytesOf?] at h

theorem foldl_push (ns : List Int) : ∀ s : ByteArray, (ns.foldl (fun r n => r.push (UInt8.ofNat n.toNat)) s).data.toList = s.data.toList ++ ns.map fun n => UInt8.ofNat n.toNat := by
  induction ns with
  | nil => intro s; simp
  | cons n ns ih => intro s; rw [List.foldl_cons, ih]; simp

/-- Bytes that stand one behind the other, as a string. -/
theorem bytes_run {es : List AV} {l : List UInt8} (h : bytesOf? es = some l) {b o cap : Nat} (hc : ∀ (i : Nat) e, es[i]? = some e → ∃ u, w.cell? (at0 b (o + i)) = some u ∧ VR S ρ w e u) :
    ∃ s : ByteArray, (Conv.bytesToString (.slice (some (at0 b o)) es.length cap)).run P w = .ok (.string s) w ∧ s.data.toList = l := by
  obtain ⟨hl, hb⟩ := bytesOf_len h
  let ns : List Int := es.map fun | .int .u8 n => n | _ => 0
  have hget : ∀ j, j < es.length → w.cell? (at0 b (o + j)) = some ((fun j => Value.int .u8 (ns.getD j 0)) j) := by
    intro j hj
    obtain ⟨u, hu, hv⟩ := hc j _ (List.getElem?_eq_getElem hj)
    obtain ⟨n, hn, _⟩ := hb j _ (List.getElem?_eq_getElem hj)
    rw [hn] at hv
    cases vr_int hv
    rw [hu]
    simp [ns, List.getD_eq_getElem?_getD, List.getElem?_eq_getElem hj, hn]
  have hload := run_loadCells (P := P) _ hget
  have hns : ((List.range es.length).map fun j => Value.int .u8 (ns.getD j 0)) = ns.map (Value.int .u8) := by
    apply List.ext_getElem?
    intro j
    by_cases hj : j < es.length
    · have : j < ns.length := by simpa [ns] using hj
      simp [hj, List.getD_eq_getElem?_getD, List.getElem?_eq_getElem this]
    · have : ns.length ≤ j := by simpa [ns] using hj
      simp [hj, List.getElem?_eq_none this]
  rw [hns] at hload
  refine ⟨_, run_bytesToString w _ _ cap ns hload, ?_⟩
  rw [foldl_push]
  apply List.ext_getElem?
  intro j
  by_cases hj : j < es.length
  · obtain ⟨n, hn, hlj⟩ := hb j _ (List.getElem?_eq_getElem hj)
    rw [hlj]
    simp [ns, List.getElem?_eq_getElem hj, hn]
  · rw [List.getElem?_eq_none (by omega : l.length ≤ j)]
    simp [ns]; omega

theorem convv_ok {hp : Heap} (H : HR S ρ w hp) {s t : TypeId} {x v : AV} {a : Value} (hx : VR S ρ w x a) (h : convv P hp s t x = some v) : ∃ u, (convert s t a).run P w = .ok u w ∧ VR S ρ w v u := by
  unfold convv at h
  split at h
  · rename_i h1 h2
    cases vr_int hx; cases h
    refine ⟨_, ?_, .pure (.int _ _)⟩
    unfold convert
    rw [runB (run_underlying h1 w), runB (run_underlying h2 w)]; rfl
  · rename_i h1 h2
    obtain ⟨p, rfl, rfl⟩ := vr_str hx; cases h
    refine ⟨_, ?_, .pure (.str _)⟩
    unfold convert
    rw [runB (run_underlying h1 w), runB (run_underlying h2 w)]; simp
  · rename_i e' h1 h2 _
    split at h
    · rename_i h3
      have hrun : ∀ {a : Value}, (∀ n, a ≠ .int .u8 n) → (∀ k n, a ≠ .int k n) → (∀ k n, a ≠ .float k n) → (∀ k n m, a ≠ .complex k n m) → (∀ s, a ≠ .string s) → (convert s t a).run P w = (Conv.bytesToString a).run P w := by
        intro a _ e1 e2 e3 e4
        unfold convert
        rw [runB (run_underlying h1 w), runB (run_underlying h2 w)]
        cases a <;> first | (exact absurd rfl (e1 _ _)) | (exact absurd rfl (e2 _ _)) | (exact absurd rfl (e3 _ _ _)) | (exact absurd rfl (e4 _)) | (simp only []; rw [runB (run_underlying h3 w)])
      split at h
      · rename_i sz es
        split at h
        · rename_i hsz; subst hsz
          obtain ⟨l, hl, rfl⟩ := Option.map_eq_some_iff.1 h
          cases hx with
          | pure hx => cases hx with
            | empty _ a c =>
              cases hl
              refine ⟨.string .empty, ?_, .pure (PR.str .empty)⟩
              rw [hrun (by simp) (by simp) (by simp) (by simp) (by simp)]
              cases a with
              | none => rfl
              | some a => unfold Conv.bytesToString; simp [loadCells, loadCellsFrom]
            | list _ b off cap _ f h0 hc hs hS hw hq hp =>
              obtain ⟨st, hst, e⟩ := bytes_run (P := P) (S := S) (ρ := ρ) (w := w) (cap := cap) hl (b := b) (o := off) (fun i e he => by
                have hcell : e.cells = [e] := by obtain ⟨n, hn, _⟩ := (bytesOf_len hl).2 i e he; subst hn; rfl
                have g := hw i 0 e e he (by rw [hcell]; rfl)
                exact ⟨_, by simpa using g, .pure (hp i 0 e e he (by rw [hcell]; rfl))⟩)
              refine ⟨.string st, ?_, by rw [← e]; exact .pure (.str _)⟩
              rw [hrun (by simp) (by simp) (by simp) (by simp) (by simp)]; exact hst
        · cases h
      · cases vr_nils hx; cases h
        refine ⟨.string .empty, ?_, .pure (PR.str .empty)⟩
        rw [hrun (by simp) (by simp) (by simp) (by simp) (by simp)]; rfl
      · rename_i id
        rw [Option.bind_eq_some_iff] at h
        obtain ⟨⟨sz, es⟩, hr, h⟩ := h
        obtain ⟨fx, mv, ho⟩ := rowAt_some hr
        split at h
        · rename_i hsz; simp only at hsz; subst hsz
          obtain ⟨l, hl, rfl⟩ := Option.map_eq_some_iff.1 h
          cases hx with
          | pure hx => cases hx
          | own0 _ h0 =>
            have := row0_of H ho h0; simp only at hl; subst this; cases hl
            refine ⟨.string .empty, ?_, .pure (PR.str .empty)⟩
            rw [hrun (by simp) (by simp) (by simp) (by simp) (by simp)]; rfl
          | own _ b s n cap hρ hc hr =>
            obtain ⟨rfl, rfl, _, _, cells, t', fr, g2, _, _, g5, _⟩ := rowobj_of H ho hρ
            obtain ⟨st, hst, e⟩ := bytes_run (P := P) (S := S) (ρ := ρ) (w := w) (cap := cap) hl (b := b) (o := 0) (fun i e he => by
              have hcell : e.cells = [e] := by obtain ⟨n, hn, _⟩ := (bytesOf_len hl).2 i e he; subst hn; rfl
              obtain ⟨u, hu, hv, _⟩ := g5 i 0 e e he (by rw [hcell]; rfl)
              exact ⟨u, by rw [cell_block g2]; simpa using hu, .pure hv⟩)
            refine ⟨.string st, ?_, by rw [← e]; exact .pure (.str _)⟩
            rw [hrun (by simp) (by simp) (by simp) (by simp) (by simp)]; exact hst
        · cases h
      · cases h
    · cases h
  · cases h

end Go.Proofs.Ytonaejfpiihfhaa.Abs
