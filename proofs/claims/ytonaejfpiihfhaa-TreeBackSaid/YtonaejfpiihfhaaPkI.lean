/- What the functions come to: keys in order: strings.Compare, slices.SortFunc of few places. What the functions come to: bits.Len of few. What the functions come to: slices.SortFunc of few. What the functions come to: tree.Map. What the functions come to: TreeDeep. Keys in order: no program is looked at here. What the functions come to: TreeBack. What the functions come to: TreeBack, its loops. What the functions come to: TreeBack. -/
import Derived.Test.YtonaejfpiihfhaaPkH
import Derived.Test.YtonaejfpiihfhaaPkK

/- What the functions come to: keys in order: strings.Compare, slices.SortFunc of few places. -/
namespace Go.Proofs.Ytonaejfpiihfhaa
open Go Abs
set_option linter.unusedSimpArgs false
set_option linter.unusedVariables false

/-! Compare -/
theorem cmp89_eq (a b : List UInt8) : cl 89 [.str a, .str b] [] = some (.ret (.int .i64 (Lib.compareBytes a b)), []) := by
  refine fn_intro Try.func89 rfl (by simp) (by decide) rfl ?_
  have h : ∀ d st, callV G cl d (.fn (.func 123) [] []) [.str a, .str b] st = some (.val (.int .i64 (Lib.compareBytes a b)) st) := fun d st => callV_ext (p := cmpStr) (by kernel_rfl) rfl
  simp [Try.f89, h]
  exact end_is (.inr rfl) (by simp; rfl) rfl rfl
theorem cmp60_eq (a b : List UInt8) : cl 60 [.str a, .str b] [] = some (.ret (.int .i64 (Lib.compareBytes a b)), []) := by
  refine fn_intro Try.func60 rfl (by simp) (by decide) rfl ?_
  have h : ∀ d st, callV G cl d (.fn (.func 89) [] []) [.str a, .str b] st = some (.val (.int .i64 (Lib.compareBytes a b)) st) := fun d st => callV_ret E89 (by decide) ext89 rfl rfl (cmp89_eq a b) rfl
  simp [Try.f60, h]
  exact end_is (.inr rfl) (by simp; rfl) rfl rfl
theorem cmp60_call {a b : List UInt8} {d : Option Nat} {st : ASt} : callV G cl d (.fn (.func 60) [] []) [.str a, .str b] st = some (.val (.int .i64 (Lib.compareBytes a b)) st) :=
  callV_ret E60 (by decide) ext60 rfl rfl (cmp60_eq a b) rfl
theorem compare_lt : ∀ (a b : List UInt8), Lib.compareBytes a b < 0 ↔ ltB a b = true
  | [], [] => by simp [Lib.compareBytes, ltB]
  | [], _ :: _ => by simp [Lib.compareBytes, ltB]
  | _ :: _, [] => by simp [Lib.compareBytes, ltB]
  | a :: x, b :: y => by
    simp only [Lib.compareBytes, ltB]
    by_cases h1 : a < b
    · simp [h1]
    · by_cases h2 : b < a
      · have : ¬ a = b := fun e => by subst e; exact h1 h2
        simp [h1, h2, this]
      · have : a = b := by
          rcases UInt8.lt_or_eq_of_le (UInt8.not_lt.1 h1) with h | h
          · exact absurd h h2
          · exact h.symm
        subst this
        simp [h1, compare_lt x y]

def keyK (K : List (List UInt8)) (a : Nat) : List UInt8 := (K[a]?).getD []
theorem cmp59_eq (K : List (List UInt8)) (a b : Nat) (ha : a < K.length) (hb : b < K.length) : cl 59 [.int .i64 a, .int .i64 b, .ptr 0 0 0] [(0, .box (.list 1 (strsL K)))] = some (.ret (.int .i64 (Lib.compareBytes (keyK K a) (keyK K b))), [(0, .box (.list 1 (strsL K)))]) := by
  have h1 : K[a]? = some K[a] := List.getElem?_eq_getElem ha
  have h2 : K[b]? = some K[b] := List.getElem?_eq_getElem hb
  refine fn_intro Try.func59 rfl (by simp) (by decide) rfl ?_
  simp [Try.f59, strsL, ha, hb, cmp60_call, keyK, h1, h2]
  simp [endX, finishA, outOf, reachL, retA, onlyHeap, idMap, AObj.names]

/-! Sorted by putting each where it belongs -/
def insL (lt : Nat → Nat → Bool) : List Nat → Nat → List Nat
  | [], x => [x]
  | y :: r, x => if lt x y then y :: insL lt r x else x :: y :: r
/-- Those that were sorted stand backwards. -/
def sortR (lt : Nat → Nat → Bool) (l : List Nat) : List Nat := l.foldl (insL lt) []
def ltK (K : List (List UInt8)) (a b : Nat) : Bool := ltB (keyK K a) (keyK K b)

noncomputable def fnK : AV := .fn (.func 59) [] [.ptr 1 0 0]
noncomputable def hpK (K : List (List UInt8)) (L : List Nat) : Heap := [(0, .row 1 (intsL L) false false), (1, .box (.list 1 (strsL K)))]
noncomputable def σ113i (K : List (List UInt8)) (L : List Nat) (i j : Nat) : ASt := ⟨[(0, .own 0), (1, .int .i64 0), (2, .int .i64 K.length), (3, fnK), (8, .int .i64 i), (9, .int .i64 j)], hpK K L⟩
noncomputable def σ113 (K : List (List UInt8)) (L : List Nat) (i : Nat) : ASt := ⟨[(0, .own 0), (1, .int .i64 0), (2, .int .i64 K.length), (3, fnK), (8, .int .i64 i)], hpK K L⟩
theorem cmp59_call {K : List (List UInt8)} {L : List Nat} {a b : Nat} (ha : a < K.length) (hb : b < K.length) {d : Option Nat} {sl : Slots} : callV G cl d (.fn (.func 59) [] [.ptr 1 0 0]) [.int .i64 a, .int .i64 b] ⟨sl, hpK K L⟩ =
    some (.val (.int .i64 (Lib.compareBytes (keyK K a) (keyK K b))) ⟨sl, (1, .box (.list 1 (strsL K))) :: hpK K L⟩) :=
  callV_of (pre := [.int .i64 a, .int .i64 b, .ptr 1 0 0]) (st1 := ⟨sl, hpK K L⟩) (ns := [1]) E59 (by decide) ext59 rfl rfl (by kernel_rfl) rfl (by exact cmp59_eq K a b ha hb) (by kernel_rfl) rfl

-- What a loop's head is unfolded by, where there is memory.
attribute [local simp] canonK canonAll canonSlot canonCell canonBox ownStep restrictTo pureCells pureRows reachL AObj.names List.range_succ appendA
theorem intsL_get {L : List Nat} {i x : Nat} (h : L[i]? = some x) : (intsL L)[i]? = some (.int .i64 x) := by simp [intsL, h]
@[simp] theorem intsL_length {L : List Nat} : (intsL L).length = L.length := by simp [intsL]
theorem intsL_set {L : List Nat} {i x : Nat} : (intsL L).set i (.int .i64 x) = intsL (L.set i x) := by simp [intsL, List.map_set]
@[simp] theorem intsL_at {L : List Nat} {i : Nat} {h : i < (intsL L).length} : (intsL L)[i] = .int .i64 ((L[i]'(by simpa using h) : Nat) : Int) := by simp [intsL]
noncomputable def hpK' (b : Bool) (K : List (List UInt8)) (L : List Nat) : Heap := if b then (1, .box (.list 1 (strsL K))) :: hpK K L else hpK K L
noncomputable def σ113e (b : Bool) (K : List (List UInt8)) (L : List Nat) (i j : Nat) : ASt := ⟨(σ113i K L i j).sl ++ [(34, .bool false)], hpK' b K L⟩
set_option maxHeartbeats 8000000 in
theorem ins_stop0 (K : List (List UInt8)) (L : List Nat) (i : Nat) : rX 113 (lc Try.f113 1) (codeX G cl lp 113 (lc Try.f113 1) (σ113i K L i 0)) = some (.exit 2, σ113e false K L i 0) := by
  simp [lc, loopsOf, Try.f113, σ113i, hpK, σ113e, hpK']
set_option maxHeartbeats 8000000 in
theorem ins_stop (K : List (List UInt8)) (L : List Nat) (i j x y : Nat) (hK : K.length ≤ 12) (hj : j + 1 < L.length) (hjb : j ≤ 1000) (hx : L[j + 1]? = some x) (hy : L[j]? = some y) (hxk : x < K.length) (hyk : y < K.length) (h : ltK K x y = false) :
    rX 113 (lc Try.f113 1) (codeX G cl lp 113 (lc Try.f113 1) (σ113i K L i (j + 1))) = some (.exit 2, σ113e true K L i (j + 1)) := by
  have hpos : (0 : Int) < ((j + 1 : Nat) : Int) := by omega
  have hw : IntKind.i64.wrap (((j + 1 : Nat) : Int) - 1) = (j : Int) := by rw [i64_wrap (by omega) (by omega)]; omega
  have hlt : ¬ Lib.compareBytes (keyK K x) (keyK K y) < 0 := by rw [compare_lt]; unfold ltK at h; simp [h]
  have hc := fun sl => cmp59_call (K := K) (L := L) hxk hyk (d := some 32) (sl := sl)
  have hl1 : ((j + 1 : Nat) : Int) < L.length := by omega
  have hl0 : (j : Int) < L.length := by omega
  have gx := intsL_get hx
  have gy := intsL_get hy
  have fx := (List.getElem?_eq_some_iff.1 hx).2
  have fy := (List.getElem?_eq_some_iff.1 hy).2
  generalize hq : ((j + 1 : Nat) : Int) = q at *
  have hqn : q.toNat = j + 1 := by omega
  have hq0 : 0 ≤ q := by omega
  simp only [hpK, fnK] at hc
  have hl0' : j < L.length := by omega
  simp [lc, loopsOf, Try.f113, σ113i, hpK, fnK, hpos, hw, hl1, hl0', hqn, hq0, hq, gx, fy, hc, hlt]
  simp [σ113e, σ113i, fnK, hpK', hpK, hq]
set_option maxHeartbeats 8000000 in
theorem ins_swap (K : List (List UInt8)) (L : List Nat) (i j x y : Nat) (hK : K.length ≤ 12) (hj : j + 1 < L.length) (hjb : j ≤ 1000) (hx : L[j + 1]? = some x) (hy : L[j]? = some y) (hxk : x < K.length) (hyk : y < K.length) (h : ltK K x y = true) :
    rX 113 (lc Try.f113 1) (codeX G cl lp 113 (lc Try.f113 1) (σ113i K L i (j + 1))) = some (.normal, σ113i K ((L.set (j + 1) y).set j x) i j) := by
  have hpos : (0 : Int) < ((j + 1 : Nat) : Int) := by omega
  have hw : IntKind.i64.wrap (((j + 1 : Nat) : Int) - 1) = (j : Int) := by rw [i64_wrap (by omega) (by omega)]; omega
  have hlt : Lib.compareBytes (keyK K x) (keyK K y) < 0 := by rw [compare_lt]; exact h
  have hc := fun sl => cmp59_call (K := K) (L := L) hxk hyk (d := some 32) (sl := sl)
  have hl1 : ((j + 1 : Nat) : Int) < L.length := by omega
  have hl0' : j < L.length := by omega
  have gx := intsL_get hx
  have gy := intsL_get hy
  have fx := (List.getElem?_eq_some_iff.1 hx).2
  have fy := (List.getElem?_eq_some_iff.1 hy).2
  generalize hq : ((j + 1 : Nat) : Int) = q at *
  have hqn : q.toNat = j + 1 := by omega
  have hq0 : 0 ≤ q := by omega
  simp only [hpK, fnK] at hc
  simp [lc, loopsOf, Try.f113, σ113i, hpK, fnK, hpos, hw, hl1, hl0', hqn, hq0, hq, gx, fy, hc, hlt, intsL_set]

theorem ins_inner (K : List (List UInt8)) (hK : K.length ≤ 12) (i : Nat) (x : Nat) (hx : x < K.length) : ∀ (rA B : List Nat), (∀ y ∈ rA, y < K.length) → rA.length ≤ 12 →
    ∃ b j, lp 113 (lc Try.f113 1) (σ113i K (rA.reverse ++ x :: B) i rA.length) = some (.exit 2, σ113e b K ((insL (ltK K) rA x).reverse ++ B) i j) := by
  intro rA
  induction rA with
  | nil => intro B _ _; exact ⟨false, 0, loop_out (ins_stop0 K _ i) (by simp)⟩
  | cons y r ih =>
    intro B hy hl
    have hyk := hy y (by simp)
    simp only [List.length_cons] at hl
    have e1 : ((y :: r).reverse ++ x :: B)[r.length + 1]? = some x := by
      rw [List.getElem?_append_right (by simp)]; simp
    have e2 : ((y :: r).reverse ++ x :: B)[r.length]? = some y := by
      rw [List.getElem?_append_left (by simp), List.reverse_cons, List.getElem?_append_right (by simp)]; simp
    have e3 : r.length + 1 < ((y :: r).reverse ++ x :: B).length := by simp
    cases h : ltK K x y with
    | false =>
      have := ins_stop K ((y :: r).reverse ++ x :: B) i r.length x y hK e3 (by omega) e1 e2 hx hyk h
      refine ⟨true, r.length + 1, ?_⟩
      have e : (insL (ltK K) (y :: r) x).reverse ++ B = (y :: r).reverse ++ x :: B := by simp [insL, h]
      rw [e]
      exact loop_out this (by simp)
    | true =>
      have hs := ins_swap K ((y :: r).reverse ++ x :: B) i r.length x y hK e3 (by omega) e1 e2 hx hyk h
      have e4 : (((y :: r).reverse ++ x :: B).set (r.length + 1) y).set r.length x = r.reverse ++ x :: (y :: B) := by
        simp only [List.reverse_cons, List.append_assoc, List.singleton_append]
        rw [List.set_append_right _ _ (by simp)]
        rw [List.set_append_right _ _ (by simp)]
        simp
      rw [e4] at hs
      obtain ⟨b, j, hr⟩ := ih (y :: B) (fun z hz => hy z (List.mem_cons_of_mem _ hz)) (by omega)
      refine ⟨b, j, ?_⟩
      have e : (insL (ltK K) (y :: r) x).reverse ++ B = (insL (ltK K) r x).reverse ++ y :: B := by simp [insL, h]
      rw [e]
      exact loop_next hs hr
set_option maxHeartbeats 8000000 in
theorem ins_round (K : List (List UInt8)) (hK : K.length ≤ 12) (R T : List Nat) (x : Nat) (hR : ∀ y ∈ R, y < K.length) (hx : x < K.length) (hl : R.length + (T.length + 1) = K.length) :
    rX 113 (lc Try.f113 0) (codeX G cl lp 113 (lc Try.f113 0) (σ113 K (R.reverse ++ x :: T) R.length)) = some (.normal, σ113 K ((insL (ltK K) R x).reverse ++ T) (R.length + 1)) := by
  obtain ⟨b, j, hi⟩ := ins_inner K hK R.length x hx R T hR (by omega)
  generalize (insL (ltK K) R x).reverse ++ T = L' at *
  generalize R.reverse ++ x :: T = L at *
  have hlt : R.length < K.length := by omega
  have hw : IntKind.i64.wrap ((R.length : Int) + 1) = (R.length : Int) + 1 := i64_wrap (by omega) (by omega)
  simp [lc, loopsOf, Try.f113, σ113i, hpK, fnK] at hi
  cases b <;> simp [lc, loopsOf, Try.f113, σ113, hpK, fnK, hlt, hi, σ113e, σ113i, hpK', hw]
set_option maxHeartbeats 8000000 in
theorem ins_exit (K : List (List UInt8)) (L : List Nat) (i : Nat) (h : K.length ≤ i) : rX 113 (lc Try.f113 0) (codeX G cl lp 113 (lc Try.f113 0) (σ113 K L i)) = some (.exit 0, ⟨(σ113 K L i).sl ++ [(14, .bool false)], hpK K L⟩) := by
  have hlt : ¬ i < K.length := by omega
  simp [lc, loopsOf, Try.f113, σ113, hpK, fnK, hlt]
theorem ins_outer (K : List (List UInt8)) (hK : K.length ≤ 12) : ∀ (T R : List Nat), (∀ y ∈ R, y < K.length) → (∀ y ∈ T, y < K.length) → R.length + T.length = K.length →
    ∃ i, lp 113 (lc Try.f113 0) (σ113 K (R.reverse ++ T) R.length) = some (.exit 0, ⟨(σ113 K (T.foldl (insL (ltK K)) R).reverse i).sl ++ [(14, .bool false)], hpK K (T.foldl (insL (ltK K)) R).reverse⟩) := by
  intro T
  induction T with
  | nil =>
    intro R hR _ hl
    refine ⟨R.length, ?_⟩
    rw [List.append_nil]
    exact loop_out (ins_exit K _ _ (by simpa using Nat.le_of_eq hl.symm)) (by simp)
  | cons x T ih =>
    intro R hR hT hl
    simp only [List.length_cons] at hl
    have h := ins_round K hK R T x hR (hT x (by simp)) hl
    have hlen : (insL (ltK K) R x).length = R.length + 1 := by
      clear h ih hl hT hR
      induction R with
      | nil => rfl
      | cons y R ih => simp only [insL]; split <;> simp [ih]
    have hmem : ∀ y ∈ insL (ltK K) R x, y = x ∨ y ∈ R := by
      clear h ih hl hT hR hlen
      induction R with
      | nil => intro y hy; simp [insL] at hy; exact .inl hy
      | cons z R ih =>
        intro y hy
        simp only [insL] at hy
        split at hy
        · rcases List.mem_cons.1 hy with rfl | hy
          · exact .inr (by simp)
          · rcases ih y hy with h | h
            · exact .inl h
            · exact .inr (List.mem_cons_of_mem _ h)
        · rcases List.mem_cons.1 hy with rfl | hy
          · exact .inl rfl
          · exact .inr hy
    obtain ⟨i, hi⟩ := ih (insL (ltK K) R x) (fun y hy => (hmem y hy).elim (fun e => e ▸ hT x (by simp)) (hR y)) (fun y hy => hT y (List.mem_cons_of_mem _ hy)) (by omega)
    rw [hlen] at hi
    exact ⟨i, loop_next h hi⟩
set_option maxHeartbeats 8000000 in
/-- Few places, put in order by their keys. -/
theorem insert113_eq (K : List (List UInt8)) (hK : K.length ≤ 12) (L : List Nat) (hL : L.length = K.length) (hm : ∀ y ∈ L, y < K.length) :
    cl 113 [.own 0, .int .i64 0, .int .i64 K.length, fnK] (hpK K L) = some (.ret (.tup []), hpK K (sortR (ltK K) L).reverse) := by
  refine fn_intro Try.func113 rfl (by simp) (by decide) rfl ?_
  have key : ∃ i, lp 113 (lc Try.f113 0) (σ113 K L 1) = some (.exit 0, ⟨(σ113 K (sortR (ltK K) L).reverse i).sl ++ [(14, .bool false)], hpK K (sortR (ltK K) L).reverse⟩) := by
    cases L with
    | nil =>
      exact ⟨1, loop_out (ins_exit K [] 1 (by simp at hL; omega)) (by simp)⟩
    | cons x T =>
      have := ins_outer K hK T [x] (fun y hy => by simp at hy; exact hy ▸ hm x (by simp)) (fun y hy => hm y (List.mem_cons_of_mem _ hy)) (by simp at hL ⊢; omega)
      exact this
  obtain ⟨i, key⟩ := key
  simp [lc, loopsOf, Try.f113, σ113, hpK, fnK] at key
  simp [Try.f113, hpK, fnK, key]
  simp [endX, finishA, outOf, reachL, retA, onlyHeap, idMap, AObj.names]
end Go.Proofs.Ytonaejfpiihfhaa

/- What the functions come to: bits.Len of few. -/
namespace Go.Proofs.Ytonaejfpiihfhaa
open Go Abs
set_option linter.unusedSimpArgs false
set_option linter.unusedVariables false

/-- The text that an operation looks into. -/
def textOf : Code → List UInt8
  | .region _ ops _ => (ops.toList.filterMap fun o => match o.op with | .index _ (.const (.string s)) _ => some s.data.toList | _ => none).headD []
  | .seq a b => match textOf a with | [] => textOf b | l => l
  | .cond _ a b => match textOf a with | [] => textOf b | l => l
  | .block _ b => textOf b
  | _ => []
noncomputable def tab122 : List UInt8 := textOf (Try.f122.body.getD .skip)
theorem tab122_length : tab122.length = 256 := by kernel_rfl
set_option maxRecDepth 100000 in
set_option maxHeartbeats 8000000 in
theorem len122_eq (n : Nat) (h : n ≤ 12) : ∃ v, cl 122 [.int .u64 n] [] = some (.ret (.int .i64 v), []) := by
  have hlt : n < tab122.length := by rw [tab122_length]; omega
  obtain ⟨b, hb⟩ : ∃ b, tab122[n]? = some b := ⟨_, List.getElem?_eq_getElem hlt⟩
  refine ⟨IntKind.i64.wrap (0 + IntKind.i64.wrap b.toNat), fn_intro Try.func122 rfl (by simp) (by decide) rfl ?_⟩
  have h1 : ¬ (4294967296 : Int) ≤ n := by omega
  have h2 : ¬ (65536 : Int) ≤ n := by omega
  have h3 : ¬ (256 : Int) ≤ n := by omega
  have hw : IntKind.u8.wrap (n : Int) = n := by rw [u8_wrap]; omega
  unfold tab122 at hb hlt
  simp [textOf, Try.f122] at hb
  simp [Try.f122, h1, h2, h3, hw, hb]
  exact end_is (.inr rfl) (by simp; rfl) rfl rfl
theorem len88_eq (n : Nat) (h : n ≤ 12) : ∃ v, cl 88 [.int .u64 n] [] = some (.ret (.int .i64 v), []) := by
  obtain ⟨v, hv⟩ := len122_eq n h
  have hc : ∀ d st, callV G cl d (.fn (.func 122) [] []) [.int .u64 n] st = some (.val (.int .i64 v) st) := fun d st => callV_ret E122 (by decide) ext122 rfl rfl hv rfl
  refine ⟨v, fn_intro Try.func88 rfl (by simp) (by decide) rfl ?_⟩
  simp [Try.f88, hc]
  exact end_is (.inr rfl) (by simp; rfl) rfl rfl
end Go.Proofs.Ytonaejfpiihfhaa

/- What the functions come to: slices.SortFunc of few. -/
namespace Go.Proofs.Ytonaejfpiihfhaa
open Go Abs
set_option linter.unusedSimpArgs false
set_option linter.unusedVariables false
theorem insert113_call {K : List (List UInt8)} (hK : K.length ≤ 12) {L : List Nat} (hL : L.length = K.length) (hm : ∀ y ∈ L, y < K.length) {d : Option Nat} {sl : Slots} :
    callV G cl d (.fn (.func 113) [] []) [.own 0, .int .i64 0, .int .i64 K.length, .fn (.func 59) [] [.ptr 1 0 0]] ⟨sl, hpK K L⟩ = some (.val (.tup []) ⟨sl, hpK K (sortR (ltK K) L).reverse ++ hpK K L⟩) :=
  callV_of (pre := [.own 0, .int .i64 0, .int .i64 K.length, fnK]) (st1 := ⟨sl, hpK K L⟩) (ns := [0, 1]) E113 (by decide) ext113 rfl rfl (by kernel_rfl) rfl (by exact insert113_eq K hK L hL hm) (by kernel_rfl) rfl

-- What a loop's head is unfolded by, where there is memory.
attribute [local simp] canonK canonAll canonSlot canonCell canonBox ownStep restrictTo pureCells pureRows reachL AObj.names List.range_succ appendA
set_option maxHeartbeats 8000000 in
theorem pdq87_eq (K : List (List UInt8)) (hK : K.length ≤ 12) (L : List Nat) (hL : L.length = K.length) (hm : ∀ y ∈ L, y < K.length) (lim : Int) :
    cl 87 [.own 0, .int .i64 0, .int .i64 K.length, .int .i64 lim, fnK] (hpK K L) = some (.ret (.tup []), hpK K (sortR (ltK K) L).reverse) := by
  have hc := fun sl => insert113_call hK hL hm (d := some 30) (sl := sl)
  have hw : IntKind.i64.wrap ((K.length : Int) - 0) = K.length := by rw [Int.sub_zero]; exact i64_wrap (by omega) (by omega)
  have hw' : IntKind.i64.wrap (K.length : Int) = K.length := i64_wrap (by omega) (by omega)
  have h12 : (K.length : Int) ≤ 12 := by omega
  generalize (sortR (ltK K) L).reverse = S at *
  refine fn_intro Try.func87 rfl (by simp) (by decide) rfl ?_
  have key : lp 87 (lc Try.f87 0) ⟨[(0, .own 0), (1, .int .i64 0), (2, .int .i64 K.length), (3, .int .i64 lim), (4, fnK), (10, .bool true), (11, .bool true)], hpK K L⟩ = some (.ret, ⟨[], hpK K S ++ hpK K L⟩) := by
    refine loop_out ?_ (by simp)
    simp only [hpK, fnK] at hc ⊢
    simp [lc, loopsOf, Try.f87, hw, hw', h12, hc]
  simp [lc, loopsOf, Try.f87, hpK, fnK] at key
  simp [Try.f87, hpK, fnK, key]
  simp [endX, finishA, outOf, retA, onlyHeap, idMap, AObj.names]
theorem pdq87_call {K : List (List UInt8)} (hK : K.length ≤ 12) {L : List Nat} (hL : L.length = K.length) (hm : ∀ y ∈ L, y < K.length) {lim : Int} {d : Option Nat} {sl : Slots} :
    callV G cl d (.fn (.func 87) [] []) [.own 0, .int .i64 0, .int .i64 K.length, .int .i64 lim, .fn (.func 59) [] [.ptr 1 0 0]] ⟨sl, hpK K L⟩ = some (.val (.tup []) ⟨sl, hpK K (sortR (ltK K) L).reverse ++ hpK K L⟩) :=
  callV_of (pre := [.own 0, .int .i64 0, .int .i64 K.length, .int .i64 lim, fnK]) (st1 := ⟨sl, hpK K L⟩) (ns := [0, 1]) E87 (by decide) ext87 rfl rfl (by kernel_rfl) rfl (by exact pdq87_eq K hK L hL hm lim) (by kernel_rfl) rfl
set_option maxHeartbeats 8000000 in
theorem sort58_eq (K : List (List UInt8)) (hK : K.length ≤ 12) (L : List Nat) (hL : L.length = K.length) (hm : ∀ y ∈ L, y < K.length) :
    cl 58 [.own 0, fnK] (hpK K L) = some (.ret (.tup []), hpK K (sortR (ltK K) L).reverse) := by
  obtain ⟨v, hv⟩ := len88_eq K.length hK
  have hl : ∀ d st, callV G cl d (.fn (.func 88) [] []) [.int .u64 K.length] st = some (.val (.int .i64 v) st) := fun d st => callV_ret E88 (by decide) ext88 rfl rfl hv rfl
  have hc := fun sl => pdq87_call hK hL hm (lim := v) (d := some 13) (sl := sl)
  have hw : IntKind.u64.wrap (K.length : Int) = K.length := by rw [u64_wrap]; omega
  generalize (sortR (ltK K) L).reverse = S at *
  refine fn_intro Try.func58 rfl (by simp) (by decide) rfl ?_
  simp only [hpK, fnK] at hc ⊢
  simp [Try.f58, hL, hl, hw, hc]
  simp [endX, finishA, outOf, retA, onlyHeap, idMap, AObj.names]
end Go.Proofs.Ytonaejfpiihfhaa

/- What the functions come to: tree.Map. -/
namespace Go.Proofs.Ytonaejfpiihfhaa
open Go Abs
set_option linter.unusedSimpArgs false
set_option linter.unusedVariables false

-- What a loop's head is unfolded by, where there is memory.
attribute [local simp] canonK canonAll canonSlot canonCell canonBox ownStep restrictTo pureCells pureRows reachL AObj.names List.range_succ appendA

/-! The places -/
noncomputable def hp34 (K : List (List UInt8)) (L : List Nat) : Heap := [(1002, .box (.list 1 (strsL K))), (5006, .row 1 (intsL L) false false)]
noncomputable def σ34 (K : List (List UInt8)) (kv : AV) (L : List Nat) (i : Nat) : ASt := ⟨[(1, kv), (2, .ptr 1002 0 0), (6, .own 5006), (20, .int .i64 K.length), (21, .int .i64 i)], hp34 K L⟩
set_option maxHeartbeats 8000000 in
theorem ord_round (K : List (List UInt8)) (kids : List (List Nd)) (L : List Nat) (i : Nat) (hi : i < K.length) (hK : K.length ≤ 1000) (hL : L.length = K.length) :
    rX 34 (lc Try.f34 0) (codeX G cl lp 34 (lc Try.f34 0) (σ34 K (.list 1 (ndsL kids)) L i)) = some (.normal, σ34 K (.list 1 (ndsL kids)) (L.set i i) (i + 1)) := by
  have hw : IntKind.i64.wrap ((i : Int) + 1) = (i : Int) + 1 := i64_wrap (by omega) (by omega)
  simp [lc, loopsOf, Try.f34, σ34, hp34, hi, hL, hw, intsL_set]
set_option maxHeartbeats 8000000 in
theorem ord_exit (K : List (List UInt8)) (kids : List (List Nd)) (L : List Nat) :
    rX 34 (lc Try.f34 0) (codeX G cl lp 34 (lc Try.f34 0) (σ34 K (.list 1 (ndsL kids)) L K.length)) = some (.exit 0, ⟨[(1, .list 1 (ndsL kids)), (2, .ptr 1002 0 0), (6, .own 5006), (20, .int .i64 K.length), (21, .int .i64 K.length), (22, .bool false)], hp34 K L⟩) := by
  simp [lc, loopsOf, Try.f34, σ34, hp34]
theorem ord_loop (K : List (List UInt8)) (kids : List (List Nd)) (hK : K.length ≤ 1000) : ∀ (c i : Nat) (L : List Nat), i + c = K.length → L.length = K.length → (∀ j, j < i → L[j]? = some j) →
    lp 34 (lc Try.f34 0) (σ34 K (.list 1 (ndsL kids)) L i) = some (.exit 0, ⟨[(1, .list 1 (ndsL kids)), (2, .ptr 1002 0 0), (6, .own 5006), (20, .int .i64 K.length), (21, .int .i64 K.length), (22, .bool false)], hp34 K (List.range K.length)⟩) := by
  intro c
  induction c with
  | zero =>
    intro i L hi hL hj
    obtain rfl : i = K.length := by omega
    have : L = List.range K.length := by
      apply List.ext_getElem?
      intro j
      by_cases hjl : j < K.length
      · rw [hj j hjl, List.getElem?_range hjl]
      · rw [List.getElem?_eq_none_iff.2 (by omega), List.getElem?_eq_none_iff.2 (by simp; omega)]
    rw [this]
    exact loop_out (ord_exit K kids _) (by simp)
  | succ c ih =>
    intro i L hi hL hj
    refine loop_next (ord_round K kids L i (by omega) hK hL) (ih (i + 1) (L.set i i) (by omega) (by simp [hL]) fun j hj' => ?_)
    by_cases e : i = j
    · subst e; rw [List.getElem?_set_self (by omega)]
    · rw [List.getElem?_set_ne e]; exact hj j (by omega)

/-! The members -/
/-- Gone through in their order: their nodes; nothing, if one key is there twice. -/
def memL (K : List (List UInt8)) (kids : List (List Nd)) : Option Nat → List Nat → List Nd → Option (List Nd)
  | _, [], out => some out
  | p, k :: r, out => if p.map (keyK K) = some (keyK K k) then none else memL K kids (some k) r (out ++ ⟨3, 0, keyK K k, 0⟩ :: (kids[k]?).getD [])
noncomputable def hp34b (K : List (List UInt8)) (out : List Nd) (mv : Bool) : Heap := [(1002, .box (.list 1 (strsL K))), (5008, .row 4 (out.map Nd.v) false mv)]
noncomputable def σ34b (K : List (List UInt8)) (kids : List (List Nd)) (S : List Nat) (out : List Nd) (mv : Bool) (i : Nat) : ASt :=
  ⟨[(1, .list 1 (ndsL kids)), (2, .ptr 1002 0 0), (6, .list 1 (intsL S)), (8, .own 5008), (36, .list 1 (intsL S)), (37, .int .i64 S.length), (38, .int .i64 i)], hp34b K out mv⟩
theorem strs_at {K : List (List UInt8)} {i : Nat} {h : i < (strsL K).length} : (strsL K)[i] = .str (K[i]'(by simpa [strsL] using h)) := by simp [strsL]
@[simp] theorem strsL_length {K : List (List UInt8)} : (strsL K).length = K.length := by simp [strsL]
theorem ndsL_at {K : List (List Nd)} {i : Nat} {h : i < (ndsL K).length} : (ndsL K)[i] = nds (K[i]'(by simpa using h)) := by simp [ndsL]
theorem keyK_at {K : List (List UInt8)} {i : Nat} (h : i < K.length) : K[i] = keyK K i := by unfold keyK; rw [List.getElem?_eq_getElem h]; rfl
set_option maxHeartbeats 8000000 in
theorem mem_first (K : List (List UInt8)) (kids : List (List Nd)) (S : List Nat) (out : List Nd) (mv : Bool) (k : Nat) (hS : S[0]? = some k) (hk : k < K.length) (hkk : kids.length = K.length) (hb : out.length + 1 + ((kids[k]?).getD []).length ≤ 1000000) (hl : S.length ≤ 1000) :
    rX 34 (lc Try.f34 1) (codeX G cl lp 34 (lc Try.f34 1) (σ34b K kids S out mv 0)) = some (.normal, σ34b K kids S (out ++ ⟨3, 0, keyK K k, 0⟩ :: (kids[k]?).getD []) true 1) := by
  have hlt : 0 < S.length := (List.getElem?_eq_some_iff.1 hS).1
  have hs := (List.getElem?_eq_some_iff.1 hS).2
  have hkd : k < kids.length := by omega
  have e1 : kids[k]? = some kids[k] := List.getElem?_eq_getElem hkd
  have hL1 : out.length + 1 ≤ LIM := by unfold LIM; omega
  rw [e1] at hb ⊢
  simp only [Option.getD_some] at hb ⊢
  have hL2 : out.length + 1 + kids[k].length ≤ LIM := by unfold LIM; omega
  simp [lc, loopsOf, Try.f34, σ34b, hp34b, hlt, hs, hk, hkd, strs_at, ndsL_at, keyK_at hk, hL1, hL2, Nd.v]
set_option maxHeartbeats 8000000 in
theorem mem_next (K : List (List UInt8)) (kids : List (List Nd)) (S : List Nat) (out : List Nd) (mv : Bool) (i p k : Nat) (hp : S[i]? = some p) (hpk : p < K.length) (hS : S[i + 1]? = some k) (hk : k < K.length) (hkk : kids.length = K.length) (hb : out.length + 1 + ((kids[k]?).getD []).length ≤ 1000000) (hl : S.length ≤ 1000) (hne : keyK K p ≠ keyK K k) :
    rX 34 (lc Try.f34 1) (codeX G cl lp 34 (lc Try.f34 1) (σ34b K kids S out mv (i + 1))) = some (.normal, σ34b K kids S (out ++ ⟨3, 0, keyK K k, 0⟩ :: (kids[k]?).getD []) true (i + 2)) := by
  have hlt1 : i + 1 < S.length := (List.getElem?_eq_some_iff.1 hS).1
  have hlt : i < S.length := by omega
  have hs := (List.getElem?_eq_some_iff.1 hS).2
  have hps := (List.getElem?_eq_some_iff.1 hp).2
  have gx := intsL_get hS
  have hkd : k < kids.length := by omega
  have e1 : kids[k]? = some kids[k] := List.getElem?_eq_getElem hkd
  have hL1 : out.length + 1 ≤ LIM := by unfold LIM; omega
  rw [e1] at hb ⊢
  simp only [Option.getD_some] at hb ⊢
  have hL2 : out.length + 1 + kids[k].length ≤ LIM := by unfold LIM; omega
  have e2 : ((i + 2 : Nat) : Int) = ((i + 1 : Nat) : Int) + 1 := by omega
  have hw : IntKind.i64.wrap (((i + 1 : Nat) : Int) + 1) = ((i + 1 : Nat) : Int) + 1 := i64_wrap (by omega) (by omega)
  have hw2 : IntKind.i64.wrap (((i + 1 : Nat) : Int) - 1) = (i : Int) := by rw [i64_wrap (by omega) (by omega)]; omega
  have hq1 : ((i + 1 : Nat) : Int) < S.length := by omega
  unfold σ34b
  rw [e2]
  generalize hq : ((i + 1 : Nat) : Int) = q at *
  have hqn : q.toNat = i + 1 := by omega
  have hq0 : 0 ≤ q := by omega
  have hq2 : 0 < q := by omega
  simp [lc, loopsOf, Try.f34, hp34b, hlt, hs, hps, hk, hpk, hkd, strs_at, ndsL_at, keyK_at hk, keyK_at hpk, hL1, hL2, Nd.v, hqn, hq0, hq2, hq1, gx, hw, hw2, hne]
set_option maxHeartbeats 8000000 in
theorem mem_twice (K : List (List UInt8)) (kids : List (List Nd)) (S : List Nat) (out : List Nd) (mv : Bool) (i p k : Nat) (hp : S[i]? = some p) (hpk : p < K.length) (hS : S[i + 1]? = some k) (hk : k < K.length) (hl : S.length ≤ 1000) (hne : keyK K p = keyK K k) :
    ∃ hp', rX 34 (lc Try.f34 1) (codeX G cl lp 34 (lc Try.f34 1) (σ34b K kids S out mv (i + 1))) = some (.ret, ⟨[(4, .nils), (5, .int .i64 7)], hp'⟩) := by
  have hlt1 : i + 1 < S.length := (List.getElem?_eq_some_iff.1 hS).1
  have hlt : i < S.length := by omega
  have hs := (List.getElem?_eq_some_iff.1 hS).2
  have hps := (List.getElem?_eq_some_iff.1 hp).2
  have gx := intsL_get hS
  have hw2 : IntKind.i64.wrap (((i + 1 : Nat) : Int) - 1) = (i : Int) := by rw [i64_wrap (by omega) (by omega)]; omega
  have hq1 : ((i + 1 : Nat) : Int) < S.length := by omega
  unfold σ34b
  generalize hq : ((i + 1 : Nat) : Int) = q at *
  have hqn : q.toNat = i + 1 := by omega
  have hq0 : 0 ≤ q := by omega
  have hq2 : 0 < q := by omega
  simp [lc, loopsOf, Try.f34, hp34b, hlt, hs, hps, hk, hpk, strs_at, keyK_at hk, keyK_at hpk, Nd.v, hqn, hq0, hq2, hq1, gx, hw2, hne]
set_option maxHeartbeats 8000000 in
theorem mem_exit (K : List (List UInt8)) (kids : List (List Nd)) (S : List Nat) (out : List Nd) (mv : Bool) :
    rX 34 (lc Try.f34 1) (codeX G cl lp 34 (lc Try.f34 1) (σ34b K kids S out mv S.length)) = some (.exit 2, ⟨(σ34b K kids S out mv S.length).sl ++ [(39, .bool false)], hp34b K out mv⟩) := by
  simp [lc, loopsOf, Try.f34, σ34b, hp34b]
theorem memL_len {K : List (List UInt8)} {kids : List (List Nd)} : ∀ {r : List Nat} {p : Option Nat} {out o : List Nd}, memL K kids p r out = some o → out.length ≤ o.length ∧ o.length = out.length + (r.map fun k => 1 + ((kids[k]?).getD []).length).sum := by
  intro r
  induction r with
  | nil => intro p out o h; simp only [memL] at h; cases h; exact ⟨Nat.le_refl _, by simp⟩
  | cons k r ih =>
    intro p out o h
    simp only [memL] at h
    split at h
    · cases h
    · obtain ⟨h1, h2⟩ := ih h
      simp only [List.length_append, List.length_cons] at h1 h2
      exact ⟨by omega, by simp only [List.map_cons, List.sum_cons]; omega⟩
def costK (kids : List (List Nd)) (r : List Nat) : Nat := (r.map fun k => 1 + ((kids[k]?).getD []).length).sum
theorem mem_loop (K : List (List UInt8)) (kids : List (List Nd)) (S : List Nat) (hS : ∀ k ∈ S, k < K.length) (hkk : kids.length = K.length) (hl : S.length ≤ 1000) : ∀ (r done : List Nat) (out : List Nd) (mv : Bool), S = done ++ r → out.length + costK kids r ≤ 1000000 →
    match memL K kids done.getLast? r out with
    | some o => ∃ mv', lp 34 (lc Try.f34 1) (σ34b K kids S out mv done.length) = some (.exit 2, ⟨(σ34b K kids S o mv' S.length).sl ++ [(39, .bool false)], hp34b K o mv'⟩)
    | none => ∃ hp', lp 34 (lc Try.f34 1) (σ34b K kids S out mv done.length) = some (.ret, ⟨[(4, .nils), (5, .int .i64 7)], hp'⟩) := by
  intro r
  induction r with
  | nil =>
    intro done out mv hs _
    simp only [memL]
    rw [List.append_nil] at hs
    subst hs
    exact ⟨mv, loop_out (mem_exit K kids _ out mv) (by simp)⟩
  | cons k r ih =>
    intro done out mv hs hb
    have hk : k < K.length := hS k (by rw [hs]; simp)
    have hSk : S[done.length]? = some k := by rw [hs]; simp
    have hc : costK kids (k :: r) = 1 + ((kids[k]?).getD []).length + costK kids r := by simp [costK]
    rw [hc] at hb
    have ih' := ih (done ++ [k]) (out ++ ⟨3, 0, keyK K k, 0⟩ :: (kids[k]?).getD []) true (by simp [hs]) (by simp; omega)
    simp only [List.getLast?_append, List.getLast?_singleton, Option.some_or, List.length_append, List.length_cons, List.length_nil, Nat.zero_add] at ih'
    simp only [memL]
    rcases List.eq_nil_or_concat done with rfl | ⟨d, p, rfl⟩
    · simp only [List.getLast?_nil, Option.map_none, reduceCtorEq, if_false]
      have h := mem_first K kids S out mv k hSk hk hkk (by omega) hl
      split at ih'
      · rename_i o ho
        obtain ⟨mv', hx⟩ := ih'
        exact ⟨mv', loop_next h hx⟩
      · rename_i ho
        obtain ⟨hp', hx⟩ := ih'
        exact ⟨hp', loop_next h hx⟩
    · have hpS : S[d.length]? = some p := by rw [hs]; simp
      have hpk : p < K.length := hS p (by rw [hs]; simp)
      simp only [List.concat_eq_append, List.getLast?_append, List.getLast?_singleton, Option.some_or, Option.map_some, Option.some.injEq, List.length_append, List.length_cons, List.length_nil, Nat.zero_add] at ih' hSk ⊢
      by_cases he : keyK K p = keyK K k
      · rw [if_pos he]
        obtain ⟨hp', h⟩ := mem_twice K kids S out mv d.length p k hpS hpk hSk hk hl he
        exact ⟨hp', loop_out h (by simp)⟩
      · rw [if_neg he]
        have h := mem_next K kids S out mv d.length p k hpS hpk hSk hk hkk (by omega) hl he
        split at ih'
        · rename_i o ho
          obtain ⟨mv', hx⟩ := ih'
          exact ⟨mv', loop_next h hx⟩
        · rename_i ho
          obtain ⟨hp', hx⟩ := ih'
          exact ⟨hp', loop_next h hx⟩

/-! Map -/
def ordS (K : List (List UInt8)) : List Nat := (sortR (ltK K) (List.range K.length)).reverse
theorem insL_len {lt : Nat → Nat → Bool} {x : Nat} : ∀ {R : List Nat}, (insL lt R x).length = R.length + 1 := by
  intro R
  induction R with
  | nil => rfl
  | cons y R ih => simp only [insL]; split <;> simp [ih]
theorem insL_mem {lt : Nat → Nat → Bool} {x y : Nat} : ∀ {R : List Nat}, y ∈ insL lt R x ↔ y = x ∨ y ∈ R := by
  intro R
  induction R with
  | nil => simp [insL]
  | cons z R ih =>
    simp only [insL]
    split
    · simp only [List.mem_cons, ih]
      constructor
      · rintro (h | h | h)
        · exact .inr (.inl h)
        · exact .inl h
        · exact .inr (.inr h)
      · rintro (h | h | h)
        · exact .inr (.inl h)
        · exact .inl h
        · exact .inr (.inr h)
    · simp
theorem foldIns_len {lt : Nat → Nat → Bool} : ∀ {T R : List Nat}, (T.foldl (insL lt) R).length = R.length + T.length := by
  intro T
  induction T with
  | nil => intro R; rfl
  | cons x T ih => intro R; rw [List.foldl_cons, ih, insL_len]; simp; omega
theorem foldIns_mem {lt : Nat → Nat → Bool} {y : Nat} : ∀ {T R : List Nat}, y ∈ T.foldl (insL lt) R ↔ y ∈ R ∨ y ∈ T := by
  intro T
  induction T with
  | nil => intro R; simp
  | cons x T ih => intro R; rw [List.foldl_cons, ih, insL_mem]; simp only [List.mem_cons]; constructor
                   · rintro ((h | h) | h)
                     · exact .inr (.inl h)
                     · exact .inl h
                     · exact .inr (.inr h)
                   · rintro (h | h | h)
                     · exact .inl (.inr h)
                     · exact .inl (.inl h)
                     · exact .inr h
theorem ordS_length (K : List (List UInt8)) : (ordS K).length = K.length := by simp [ordS, sortR, foldIns_len]
theorem ordS_mem {K : List (List UInt8)} {k : Nat} : k ∈ ordS K ↔ k < K.length := by simp [ordS, sortR, foldIns_mem]
def mapR (K : List (List UInt8)) (kids : List (List Nd)) : Option (List Nd) := memL K kids none (ordS K) [⟨5, 0, [], K.length⟩]
def mapV (K : List (List UInt8)) (kids : List (List Nd)) : AV :=
  if K.length = kids.length then (match mapR K kids with | none => .tup [.nils, .int .i64 7] | some l => checkedV l) else .tup [.nils, .int .i64 1]
theorem mapV_names {K kids} : (mapV K kids).names = [] := by
  unfold mapV
  split
  · split
    · rfl
    · exact checkedV_names
  · rfl
theorem memL_inR {K : List (List UInt8)} {kids : List (List Nd)} (hk : ∀ m ∈ kids, ∀ n ∈ m, n.inR) : ∀ {r : List Nat} {p : Option Nat} {out o : List Nd}, memL K kids p r out = some o → (∀ n ∈ out, n.inR) → ∀ n ∈ o, n.inR := by
  intro r
  induction r with
  | nil => intro p out o h ho; simp only [memL] at h; cases h; exact ho
  | cons k r ih =>
    intro p out o h ho
    simp only [memL] at h
    split at h
    · cases h
    · refine ih h fun n hn => ?_
      rcases List.mem_append.1 hn with hn | hn
      · exact ho n hn
      · rcases List.mem_cons.1 hn with rfl | hn
        · exact ⟨by simp, by simp, by simp, by simp⟩
        · cases hkk : kids[k]? with
          | none => rw [hkk] at hn; simp at hn
          | some m => rw [hkk] at hn; exact hk m (List.mem_of_getElem? hkk) n hn
theorem sort58_call {K : List (List UInt8)} (hK : K.length ≤ 12) {d : Option Nat} {sl : Slots} :
    callV G cl d (.fn (.func 58) [] []) [.own 5006, .fn (.func 59) [] [.ptr 1002 0 0]] ⟨sl, hp34 K (List.range K.length)⟩ =
      some (.val (.tup []) ⟨sl, [(5006, .row 1 (intsL (ordS K)) false false), (1002, .box (.list 1 (strsL K)))] ++ hp34 K (List.range K.length)⟩) :=
  callV_of (pre := [.own 5006, .fn (.func 59) [] [.ptr 1002 0 0]]) (st1 := ⟨sl, hp34 K (List.range K.length)⟩) (ns := [5006, 1002]) E58 (by decide) ext58 rfl rfl (by kernel_rfl) rfl (by exact sort58_eq K hK (List.range K.length) (by simp) (fun y hy => List.mem_range.1 hy)) (by kernel_rfl) rfl
set_option maxHeartbeats 8000000 in
theorem map_eq (K : List (List UInt8)) (kids : List (List Nd)) (hK : K.length ≤ 12) (hr : ∀ m ∈ kids, ∀ n ∈ m, n.inR) (hc : ∀ m ∈ kids, m.length ≤ 1000) : cl 34 [.list 1 (strsL K), .list 1 (ndsL kids)] [] = some (.ret (mapV K kids), []) := by
  refine fn_intro Try.func34 rfl (by simp) (by decide) rfl ?_
  by_cases hkk : K.length = kids.length
  case neg =>
    have hkk' : ¬ (K.length : Int) = kids.length := by omega
    simp [Try.f34, hkk']
    exact end_is (.inr rfl) (by simp [resL]; rfl) rfl (by simp [mapV, hkk])
  have hcost : costK kids (ordS K) ≤ 12012 := by
    have : ∀ l : List Nat, costK kids l ≤ l.length * 1001 := by
      intro l
      induction l with
      | nil => simp [costK]
      | cons k l ih =>
        have e : costK kids (k :: l) = 1 + ((kids[k]?).getD []).length + costK kids l := by simp [costK]
        rw [e, List.length_cons]
        have : ((kids[k]?).getD []).length ≤ 1000 := by
          cases hk : kids[k]? with
          | none => simp
          | some m => exact hc m (List.mem_of_getElem? hk)
        omega
    have := this (ordS K)
    rw [ordS_length] at this
    omega
  have h1 := ord_loop K kids (by omega) K.length 0 (List.replicate K.length 0) (by omega) (by simp) (fun j hj => by omega)
  have h2 := mem_loop K kids (ordS K) (fun k hk => ordS_mem.1 hk) hkk.symm (by rw [ordS_length]; omega) (ordS K) [] [⟨5, 0, [], K.length⟩] false rfl (by simp; omega)
  have hs := fun sl => sort58_call hK (d := some 31) (sl := sl)
  have hz : intsL (List.replicate K.length 0) = List.replicate K.length (.int .i64 0) := by simp [intsL]
  have hLIM : K.length ≤ LIM := by unfold LIM; omega
  have hkq := hkk.symm
  simp only [List.getLast?_nil, List.length_nil] at h2
  simp [lc, loopsOf, Try.f34, σ34, hp34, hz] at h1
  simp only [hp34] at hs
  have hV : mapV K kids = (match mapR K kids with | none => .tup [.nils, .int .i64 7] | some l => checkedV l) := by unfold mapV; rw [if_pos hkk]
  cases hm : memL K kids none (ordS K) [⟨5, 0, [], K.length⟩] with
  | none =>
    rw [hm] at h2
    obtain ⟨hp', h2⟩ := h2
    simp [lc, loopsOf, Try.f34, σ34b, hp34b, ordS_length, Nd.v] at h2
    simp [Try.f34, hkq, hLIM, h1, hs, List.filter_cons, ordS_length, h2]
    refine end_rv (.inr rfl) (by simp [resL]; rfl) (by simp) ?_ mapV_names
    rw [hV]; unfold mapR; rw [hm]; rfl
  | some o =>
    rw [hm] at h2
    obtain ⟨mv', h2⟩ := h2
    have hor := memL_inR hr hm (fun n hn => by
      simp only [List.mem_singleton] at hn
      subst hn
      exact ⟨by simp, by simp, by simp only; omega, by simp only; omega⟩)
    have hol := (memL_len hm).2
    have hcl : (List.map (fun k => 1 + (kids[k]?.getD []).length) (ordS K)).sum = costK kids (ordS K) := rfl
    rw [hcl] at hol
    simp only [List.length_cons, List.length_nil] at hol
    have hchk := checked_eq o (by omega) hor
    have hck : ∀ d sl, callV G cl d (.fn (.func 56) [] []) [.own 5008] ⟨sl, [(1002, .box (.list 1 (strsL K))), (5008, .row 4 (o.map Nd.v) false mv')]⟩ =
      some (.val (checkedV o) ⟨sl, [(1002, .box (.list 1 (strsL K))), (5008, .row 4 (o.map Nd.v) true mv')]⟩) := fun d sl =>
      callV_rv (pre := [nds o]) E56 (by decide) ext56 rfl rfl rfl rfl hchk checkedV_names
    simp [lc, loopsOf, Try.f34, σ34b, hp34b, ordS_length, Nd.v] at h2
    simp [Try.f34, hkq, hLIM, h1, hs, List.filter_cons, ordS_length, h2, hck]
    rw [hV]; unfold mapR; rw [hm]
    simp only
    by_cases hz : checkS o = 0
    · simp [checkedV, hz]
      exact end_rv (.inr rfl) (by simp [resL]; rfl) (by simp) (by rfl) (by rfl)
    · simp [checkedV, hz]
      exact end_rv (.inr rfl) (by simp [resL]; rfl) (by simp) (by rfl) (by rfl)
end Go.Proofs.Ytonaejfpiihfhaa

/- What the functions come to: TreeDeep. -/
namespace Go.Proofs.Ytonaejfpiihfhaa
open Go Abs
set_option linter.unusedSimpArgs false
set_option linter.unusedVariables false

theorem cl_run {g : FuncId} {args : List AV} {hp : Heap} {r : ARes × Heap} (h : (both G prim0 60).1 g args hp = some r) : cl g args hp = some r := callL_of_run h

theorem longS_cons {n : Nd} {l : List Nd} : longS (n :: l) = (decide (120 < n.text.length) || longS l) := by simp [longS]
theorem longS_append {l m : List Nd} : longS (l ++ m) = (longS l || longS m) := by simp [longS]
/-- A value that is made is large, too deep, or none of it. -/
theorem made_check {h : Nd} {m : Bool} {kvs : List (List UInt8 × List Nd)} (hf : fitsS h = true) (hn : h.kids = kvs.length) (hm : decide (h.kind = 5) = m) (hw : ∀ x ∈ kvs, (wholeS x.2).isSome = true) (hr : m = true → risesS true [] kvs) :
    (checkS (h :: bodyS m kvs) = 4 ∨ (checkS (h :: bodyS m kvs) = 3 ∧ 32 < deepsS kvs + 1) ∨ (checkS (h :: bodyS m kvs) = 0 ∧ deepsS kvs + 1 ≤ 32 ∧ depthS (h :: bodyS m kvs) = (deepsS kvs + 1 : Nat))) := by
  have hwh := whole_made hf hn hm hw hr
  by_cases h1 : 120 < (h :: bodyS m kvs).length ∨ longS (h :: bodyS m kvs) = true
  · left; unfold checkS; rw [if_pos h1]
  · by_cases h2 : 32 < deepsS kvs + 1
    · right; left
      refine ⟨?_, h2⟩
      unfold checkS; rw [if_neg h1, hwh]; simp only; rw [if_pos h2]
    · right; right
      have e : checkS (h :: bodyS m kvs) = 0 := by unfold checkS; rw [if_neg h1, hwh]; simp only; rw [if_neg h2]
      refine ⟨e, by omega, ?_⟩
      unfold depthS; rw [if_pos e, hwh]
theorem depth_cut {l : List Nd} {k a : Nat} {s : Span} (h : valS l k a = some s) (hc : checkS l = 0) (hd : s.deep ≤ 32) : depthS (cutS l a s.stop) = s.deep := by
  unfold depthS
  rw [if_pos (cutS_check h hc hd), cutS_whole h]; rfl
theorem depth_call {l : List Nd} (hb : l.length ≤ 9223372036854775806) (hr : ∀ n ∈ l, n.inR) {d : Option Nat} {st : ASt} : callV G cl d (.fn (.func 20) [] []) [nds l] st = some (.val (.int .i64 (depthS l)) st) :=
  callV_ret E20 (by decide) ext20 rfl rfl (depth_eq l hb hr) rfl

-- What a loop's head is unfolded by, where there is memory.
attribute [local simp] canonK canonAll canonSlot canonCell canonBox ownStep restrictTo pureCells pureRows reachL AObj.names List.range_succ appendA
def σ7 (l : List Nd) (kids : List Nat) (deep i : Nat) : ASt := ⟨[(0, nds l), (3, .bool true), (5, .int .i64 deep), (6, .list 1 (intsL kids)), (7, .int .i64 i)], []⟩
set_option maxHeartbeats 8000000 in
theorem deep_round (l : List Nd) (kids : List Nat) (deep i q : Nat) (hq : kids[i]? = some q) (hl : kids.length ≤ 1000) (m : List Nd) (dm : Nat)
    (h22 : ∀ d st, callV G cl d (.fn (.func 22) [] []) [nds l, .int .i64 (q : Int)] st = some (.val (nds m) st)) (h20 : ∀ d st, callV G cl d (.fn (.func 20) [] []) [nds m] st = some (.val (.int .i64 (dm : Int)) st)) :
    rX 7 (lc Try.f7 0) (codeX G cl lp 7 (lc Try.f7 0) (σ7 l kids deep i)) = some (.normal, σ7 l kids (max deep dm) (i + 1)) := by
  have hlt : i < kids.length := (List.getElem?_eq_some_iff.1 hq).1
  have e : kids[i] = q := (List.getElem?_eq_some_iff.1 hq).2
  have hw : IntKind.i64.wrap ((i : Int) + 1) = (i : Int) + 1 := i64_wrap (by omega) (by omega)
  simp [lc, loopsOf, Try.f7, σ7, hlt, e, h22, h20, hw, max_cast]
theorem deep_exit (l : List Nd) (kids : List Nat) (deep : Nat) : rX 7 (lc Try.f7 0) (codeX G cl lp 7 (lc Try.f7 0) (σ7 l kids deep kids.length)) = some (.exit 0, ⟨(σ7 l kids deep kids.length).sl ++ [(39, .bool false)], []⟩) := by
  simp [lc, loopsOf, Try.f7, σ7]
theorem deep_loop (l : List Nd) (hr : ∀ n ∈ l, n.inR) (hc : checkS l = 0) (k : Nat) (hk : k ≤ l.length + 1) (m : Bool) (r : Span) (hgk : goodK l r.kids) : ∀ (c i : Nat) (s : Span) (last : List UInt8), kidsS (valS l k) l m c i s last = some r → s.kids.length = i →
    lp 7 (lc Try.f7 0) (σ7 l r.kids s.deep i) = some (.exit 0, ⟨(σ7 l r.kids r.deep r.kids.length).sl ++ [(39, .bool false)], []⟩) := by
  intro c
  induction c with
  | zero =>
    intro i s last h hi
    cases h
    subst hi
    exact loop_out (deep_exit l r.kids r.deep) (by simp)
  | succ c ih =>
    intro i s last h hi
    have hlen := (checkS_ok hc).1
    simp only [kidsS] at h
    rw [Option.bind_eq_some_iff] at h; obtain ⟨p, hp, h⟩ := h
    rw [Option.bind_eq_some_iff] at h; obtain ⟨kid, hkid, h⟩ := h
    obtain ⟨g1, g2, g3⟩ := valS_spec hkid
    obtain ⟨t, ht, _⟩ := kidsS_pre h
    simp only at ht
    have hki : r.kids[i]? = some p.1 := by
      rw [ht, List.append_assoc, List.getElem?_append_right (by omega), hi]; simp
    obtain ⟨s', hs', _, hd'⟩ := checkS_inner hc (show p.1 < l.length by omega)
    have he : s' = kid := Option.some.inj (hs'.symm.trans (valS_mono hkid hk))
    subst he
    have h20 : ∀ d st, callV G cl d (.fn (.func 20) [] []) [nds (cutS l p.1 s'.stop)] st = some (.val (.int .i64 (s'.deep : Int)) st) := fun d st => by
      have := depth_call (l := cutS l p.1 s'.stop) (by rw [cutS_length g2]; omega) (fun n hn => hr n (cutS_mem hn)) (d := d) (st := st)
      rw [depth_cut hkid hc hd'] at this; exact this
    exact loop_next (deep_round l r.kids s.deep i p.1 hki hgk.1 _ s'.deep (sub_at_call hr hc hk hkid) h20) (ih (i + 1) ⟨s'.stop, max s.deep s'.deep, s.kids ++ [p.1]⟩ p.2 h (by simp [hi]))
theorem listS_body (kids : List (List Nd)) : listS kids = ⟨4, 0, [], kids.length⟩ :: bodyS false (kids.map fun m => ([], m)) := by
  unfold listS
  congr 1
  induction kids with
  | nil => rfl
  | cons m r ih => simp only [List.flatten_cons, List.map_cons, bodyS, Bool.false_eq_true, if_false, ih]
theorem ordS_one (k : List UInt8) : ordS [k] = [0] := rfl
theorem mapR_one (k : List UInt8) (l : List Nd) : mapR [k] [l] = some (⟨5, 0, [], 1⟩ :: bodyS true [(k, l)]) := by
  unfold mapR
  rw [ordS_one]
  simp [memL, keyK, bodyS]
theorem fits_list (n : Nat) : fitsS ⟨4, 0, [], n⟩ = true := by simp [fitsS]
theorem fits_map (n : Nat) : fitsS ⟨5, 0, [], n⟩ = true := by simp [fitsS]
set_option maxHeartbeats 8000000 in
theorem treeDeep_eq (l : List Nd) (hr : ∀ n ∈ l, n.inR) : cl 7 [nds l] [] = some (.ret (.bool true), []) := by
  refine fn_intro Try.func7 rfl (by simp) (by decide) rfl ?_
  cases h1 : fewS l with
  | false =>
    simp [Try.f7, works_call, few_call, h1]
    exact end_is (.inr rfl) (by simp; rfl) rfl rfl
  | true =>
    have l1 := fewS_len h1
    have c19 := fun d st => check_call (l := l) (by omega) hr (d := d) (st := st)
    have c20 := fun d st => depth_call (l := l) (by omega) hr (d := d) (st := st)
    by_cases hc : checkS l = 0
    case neg =>
      have hd : depthS l = 0 := by unfold depthS; rw [if_neg hc]
      simp [Try.f7, works_call, few_call, h1, c19, hc, c20, hd]
      exact end_is (.inr rfl) (by simp; rfl) rfl rfl
    obtain ⟨hlen, hlong, s0, hw0, hd0⟩ := checkS_ok hc
    obtain ⟨hv0, hs0⟩ := wholeS_some hw0
    have hpos : 0 < l.length := by have := valS_spec hv0; omega
    obtain ⟨n, r, hn, hf, hkids, rfl⟩ := valS_map hv0
    have hgk := valS_goodK (by omega) hv0
    simp only at hs0 hgk hd0
    have hloop := deep_loop l hr hc l.length (by omega) _ r hgk _ 0 _ _ hkids rfl
    have hdl : depthS l = (r.deep + 1 : Nat) := by unfold depthS; rw [if_pos hc, hw0]
    have c25 : ∀ d st, callV G cl d (.fn (.func 25) [] []) [nds l, .int .i64 0] st = some (.val (.list 1 (intsL r.kids)) st) := fun d st => by
      have := kids_call (l := l) (by omega) hr (a := 0) (d := d) (st := st)
      unfold kidsAt at this
      have e : thereS l 0 = true := there_in hc hpos
      rw [e, if_pos rfl, show (0 : Int).toNat = 0 from rfl, hv0] at this; exact this
    have hone : ∀ x ∈ [(([] : List UInt8), l)], (wholeS x.2).isSome = true := fun x hx => by
      simp only [List.mem_singleton] at hx; subst hx; simp only [hw0]; rfl
    have honek : ∀ x ∈ [(([107] : List UInt8), l)], (wholeS x.2).isSome = true := fun x hx => by
      simp only [List.mem_singleton] at hx; subst hx; simp only [hw0]; rfl
    have hA := made_check (kvs := [([], l)]) (m := false) (fits_list 1) rfl rfl hone (fun e => by cases e)
    have hB := made_check (kvs := [([107], l)]) (m := true) (fits_map 1) rfl rfl honek (fun _ => ⟨.inl rfl, trivial⟩)
    have hlA : listS [l] = ⟨4, 0, [], (1 : Nat)⟩ :: bodyS false [([], l)] := listS_body [l]
    have hr1 : ∀ m ∈ [l], ∀ n ∈ m, n.inR := fun m hm => by simp only [List.mem_singleton] at hm; subst hm; exact hr
    have h33 := list_eq [l] (by simp) (by simp [tot]; omega) hr1
    have h34 := map_eq [[107]] [l] (by simp) hr1 (fun m hm => by simp only [List.mem_singleton] at hm; subst hm; omega)
    rw [hlA] at h33
    have hmV : mapV [[107]] [l] = checkedV (⟨5, 0, [], (1 : Nat)⟩ :: bodyS true [([107], l)]) := by
      unfold mapV
      rw [mapR_one]; rfl
    rw [hmV] at h34
    have hdA : deepsS [([], l)] = r.deep + 1 := by simp [deepsS, hw0]
    have hdB : deepsS [([107], l)] = r.deep + 1 := by simp [deepsS, hw0]
    rw [hdA] at hA
    rw [hdB] at hB
    have hAr : ∀ n ∈ (⟨4, 0, [], (1 : Nat)⟩ : Nd) :: bodyS false [([], l)], n.inR := fun n hn => by
      rcases List.mem_cons.1 hn with rfl | hn
      · exact ⟨by simp, by simp, by simp, by simp⟩
      · simp [bodyS] at hn; exact hr n hn
    have hBr : ∀ n ∈ (⟨5, 0, [], (1 : Nat)⟩ : Nd) :: bodyS true [([107], l)], n.inR := fun n hn => by
      rcases List.mem_cons.1 hn with rfl | hn
      · exact ⟨by simp, by simp, by simp, by simp⟩
      · simp [bodyS] at hn
        rcases hn with rfl | hn
        · exact ⟨by simp, by simp, by simp, by simp⟩
        · exact hr n hn
    have hAl : ((⟨4, 0, [], (1 : Nat)⟩ : Nd) :: bodyS false [([], l)]).length ≤ 1000 := by simp [bodyS]; omega
    have hBl : ((⟨5, 0, [], (1 : Nat)⟩ : Nd) :: bodyS true [([107], l)]).length ≤ 1000 := by simp [bodyS]; omega
    generalize (⟨4, 0, [], (1 : Nat)⟩ : Nd) :: bodyS false [([], l)] = A at *
    generalize (⟨5, 0, [], (1 : Nat)⟩ : Nd) :: bodyS true [([107], l)] = B at *
    have c20A := fun d st => depth_call (l := A) (by omega) hAr (d := d) (st := st)
    have c20B := fun d st => depth_call (l := B) (by omega) hBr (d := d) (st := st)
    have c33 : ∀ sl, callV G cl (some 54) (.fn (.func 33) [] []) [.own 1053] ⟨sl, [(1053, .row 1 [nds l] false false)]⟩ = some (.val (checkedV A) ⟨sl, [(1053, .row 1 [nds l] true false)]⟩) := fun sl =>
      callV_rv (pre := [.list 1 (ndsL [l])]) E33 (by decide) ext33 rfl rfl rfl rfl h33 checkedV_names
    have c34 : ∀ sl, callV G cl (some 61) (.fn (.func 34) [] []) [.own 1058, .own 1060] ⟨sl, [(1060, .row 1 [nds l] false false), (1058, .row 1 [.str [107]] false false), (1053, .row 1 [nds l] true false)]⟩ =
        some (.val (checkedV B) ⟨sl, [(1060, .row 1 [nds l] true false), (1058, .row 1 [.str [107]] true false), (1053, .row 1 [nds l] true false)]⟩) := fun sl =>
      callV_rv (pre := [.list 1 (strsL [[107]]), .list 1 (ndsL [l])]) E34 (by decide) ext34 rfl rfl rfl rfl h34 checkedV_names
    simp [lc, loopsOf, Try.f7, σ7] at hloop
    have hw1 : IntKind.i64.wrap ((r.deep : Int) + 1) = (r.deep : Int) + 1 := i64_wrap (by omega) (by omega)
    have hw2 : IntKind.i64.wrap ((r.deep : Int) + 2) = (r.deep : Int) + 2 := i64_wrap (by omega) (by omega)
    have hdl' : depthS l = (r.deep : Int) + 1 := by rw [hdl]; omega
    rcases hA with hA | ⟨hA, hA2⟩ | ⟨hA, hA2, hA3⟩ <;> rcases hB with hB | ⟨hB, hB2⟩ | ⟨hB, hB2, hB3⟩ <;> simp only [checkedV, hA, hB] at c33 c34 <;> simp at c33 c34
    · simp [Try.f7, works_call, few_call, h1, c19, hc, c25, hloop, c33, c34, c20, hdl', hw1, hw2]
      exact end_rv (.inr rfl) (by simp; rfl) (by simp) (by rfl) (by rfl)
    · simp [Try.f7, works_call, few_call, h1, c19, hc, c25, hloop, c33, c34, c20, hdl', hw1, hw2]
      exact end_rv (.inr rfl) (by simp; rfl) (by simp) (by rfl) (by rfl)
    · have dB : depthS B = (r.deep : Int) + 2 := by rw [hB3]; omega
      simp [Try.f7, works_call, few_call, h1, c19, hc, c25, hloop, c33, c34, c20, c20B, dB, hdl', hw1, hw2]
      exact end_rv (.inr rfl) (by simp; rfl) (by simp) (by rfl) (by rfl)
    · simp [Try.f7, works_call, few_call, h1, c19, hc, c25, hloop, c33, c34, c20, hdl', hw1, hw2]
      exact end_rv (.inr rfl) (by simp; rfl) (by simp) (by rfl) (by rfl)
    · simp [Try.f7, works_call, few_call, h1, c19, hc, c25, hloop, c33, c34, c20, hdl', hw1, hw2]
      exact end_rv (.inr rfl) (by simp; rfl) (by simp) (by rfl) (by rfl)
    · exact absurd hB2 (by omega)
    · have dA : depthS A = (r.deep : Int) + 2 := by rw [hA3]; omega
      have hle : (r.deep : Int) + 2 ≤ 32 := by omega
      simp [Try.f7, works_call, few_call, h1, c19, hc, c25, hloop, c33, c34, c20, c20A, dA, hdl', hw1, hw2, hle]
      exact end_rv (.inr rfl) (by simp; rfl) (by simp) (by rfl) (by rfl)
    · exact absurd hA2 (by omega)
    · have dA : depthS A = (r.deep : Int) + 2 := by rw [hA3]; omega
      have dB : depthS B = (r.deep : Int) + 2 := by rw [hB3]; omega
      have hle : (r.deep : Int) + 2 ≤ 32 := by omega
      simp [Try.f7, works_call, few_call, h1, c19, hc, c25, hloop, c33, c34, c20, c20A, c20B, dA, dB, hdl', hw1, hw2, hle]
      exact end_rv (.inr rfl) (by simp; rfl) (by simp) (by rfl) (by rfl)
end Go.Proofs.Ytonaejfpiihfhaa

/- Keys in order: no program is looked at here. -/
namespace Go.Proofs.Ytonaejfpiihfhaa
open Go Abs
set_option linter.unusedSimpArgs false
set_option linter.unusedVariables false

theorem ltB_irrefl : ∀ (a : List UInt8), ltB a a = false
  | [] => rfl
  | a :: x => by simp [ltB, ltB_irrefl x, UInt8.lt_irrefl]
theorem ltB_total : ∀ {a b : List UInt8}, ltB a b = false → ltB b a = false → a = b
  | [], [], _, _ => rfl
  | [], _ :: _, h, _ => by simp [ltB] at h
  | _ :: _, [], _, h => by simp [ltB] at h
  | a :: x, b :: y, h, k => by
    simp only [ltB, Bool.or_eq_false_iff, decide_eq_false_iff_not, Bool.and_eq_false_imp, beq_iff_eq] at h k
    have e : a = b := by
      rcases UInt8.lt_or_eq_of_le (UInt8.not_lt.1 h.1) with g | g
      · exact absurd g k.1
      · exact g.symm
    subst e
    rw [ltB_total (h.2 rfl) (k.2 rfl)]
theorem ltB_trans : ∀ {a b c : List UInt8}, ltB a b = true → ltB b c = true → ltB a c = true
  | _, [], _, h, _ => by simp [ltB] at h
  | _, _ :: _, [], _, k => by simp [ltB] at k
  | [], _ :: _, _ :: _, _, _ => rfl
  | a :: x, b :: y, c :: z, h, k => by
    simp only [ltB, Bool.or_eq_true, decide_eq_true_eq, Bool.and_eq_true, beq_iff_eq] at h k ⊢
    rcases h with h | ⟨rfl, h⟩
    · rcases k with k | ⟨rfl, k⟩
      · exact .inl (UInt8.lt_trans h k)
      · exact .inl h
    · rcases k with k | ⟨rfl, k⟩
      · exact .inl k
      · exact .inr ⟨rfl, ltB_trans h k⟩
theorem ltB_asymm {a b : List UInt8} (h : ltB a b = true) : ltB b a = false := by
  cases k : ltB b a with
  | false => rfl
  | true => have := ltB_trans h k; rw [ltB_irrefl] at this; cases this
/-- Not behind, and not behind that: not behind. -/
theorem ltB_le_trans {a b c : List UInt8} (h : ltB b a = false) (k : ltB c b = false) : ltB c a = false := by
  cases hca : ltB c a with
  | false => rfl
  | true =>
    cases hab : ltB a b with
    | true => have := ltB_trans hca hab; rw [k] at this; cases this
    | false => have := ltB_total hab h; subst this; rw [k] at hca; cases hca

/-- Backwards each is not ahead of those that come. -/
def downK (K : List (List UInt8)) (R : List Nat) : Prop := R.Pairwise fun p q => ltK K p q = false
theorem insL_down {K : List (List UInt8)} {x : Nat} : ∀ {R : List Nat}, downK K R → downK K (insL (ltK K) R x) := by
  intro R
  induction R with
  | nil => intro _; simp [downK, insL]
  | cons y R ih =>
    intro h
    have h' := List.pairwise_cons.1 h
    simp only [insL]
    cases hxy : ltK K x y with
    | true =>
      rw [if_pos rfl]
      refine List.pairwise_cons.2 ⟨fun w hw => ?_, ih h'.2⟩
      rcases insL_mem.1 hw with rfl | hw
      · exact ltB_asymm hxy
      · exact h'.1 w hw
    | false =>
      rw [if_neg (by simp)]
      refine List.pairwise_cons.2 ⟨fun w hw => ?_, h⟩
      rcases List.mem_cons.1 hw with rfl | hw
      · exact hxy
      · exact ltB_le_trans (h'.1 w hw) hxy
theorem foldIns_down {K : List (List UInt8)} : ∀ {T R : List Nat}, downK K R → downK K (T.foldl (insL (ltK K)) R) := by
  intro T
  induction T with
  | nil => intro R h; exact h
  | cons x T ih => intro R h; exact ih (insL_down h)
/-- In order: what comes later is not ahead. -/
theorem ordS_up (K : List (List UInt8)) : (ordS K).Pairwise fun p q => ltK K q p = false := by
  have h : downK K (sortR (ltK K) (List.range K.length)) := foldIns_down (by simp [downK])
  exact List.pairwise_reverse.2 h

def kvK (K : List (List UInt8)) (kids : List (List Nd)) (k : Nat) : List UInt8 × List Nd := (keyK K k, (kids[k]?).getD [])
theorem memL_spec {K : List (List UInt8)} {kids : List (List Nd)} : ∀ {r : List Nat} {p : Option Nat} {out o : List Nd}, memL K kids p r out = some o → (r.Pairwise fun p q => ltK K q p = false) → (∀ q, p = some q → ∀ k ∈ r, ltK K k q = false) →
    o = out ++ bodyS true (r.map (kvK K kids)) ∧ risesS p.isNone ((p.map (keyK K)).getD []) (r.map (kvK K kids)) := by
  intro r
  induction r with
  | nil => intro p out o h _ _; simp only [memL] at h; cases h; simp [bodyS, risesS]
  | cons k r ih =>
    intro p out o h hp hq
    have hp' := List.pairwise_cons.1 hp
    simp only [memL] at h
    split at h
    · cases h
    · rename_i hne
      obtain ⟨h1, h2⟩ := ih h hp'.2 (fun q hq' k' hk' => by cases hq'; exact hp'.1 k' hk')
      refine ⟨?_, ?_, ?_⟩
      · rw [h1]; simp only [List.map_cons, bodyS, if_true, kvK, List.append_assoc]
      · cases p with
        | none => exact .inl rfl
        | some q =>
          right
          have := hq q rfl k (by simp)
          simp only [Option.map_some, Option.getD_some, kvK]
          simp only [Option.map_some, Option.some.injEq] at hne
          cases hlt : ltB (keyK K q) (keyK K k) with
          | true => rfl
          | false => exact absurd (ltB_total hlt this) hne
      · simpa [kvK] using h2
theorem mapR_spec {K : List (List UInt8)} {kids : List (List Nd)} {o : List Nd} (h : mapR K kids = some o) : o = ⟨5, 0, [], K.length⟩ :: bodyS true ((ordS K).map (kvK K kids)) ∧ risesS true [] ((ordS K).map (kvK K kids)) := by
  have := memL_spec h (ordS_up K) (fun q hq => by cases hq)
  exact ⟨by rw [this.1]; rfl, this.2⟩
/-- Keys that rise are behind the first one. -/
theorem rises_lt : ∀ {kvs : List (List UInt8 × List Nd)} {last : List UInt8}, risesS false last kvs → ∀ x ∈ kvs, ltB last x.1 = true := by
  intro kvs
  induction kvs with
  | nil => intro last _ x hx; simp at hx
  | cons y r ih =>
    intro last h x hx
    obtain ⟨h1, h2⟩ := h
    have h1 : ltB last y.1 = true := by simpa using h1
    rcases List.mem_cons.1 hx with rfl | hx
    · exact h1
    · exact ltB_trans h1 (ih h2 x hx)
/-- The value behind a key is the one that was put behind it. -/
theorem memS_places {l : List Nd} : ∀ {kvs : List (List UInt8 × List Nd)} {b : Nat} {f : Bool} {last : List UInt8}, liesS l b (bodyS true kvs) → risesS f last kvs → (∀ p x, x ∈ kvs → liesS l p x.2 → subS l (p : Int) = some x.2) → ∀ x ∈ kvs, memS l x.1 (placesS true b kvs) = some x.2 := by
  intro kvs
  induction kvs with
  | nil => intro b f last _ _ _ x hx; simp at hx
  | cons y r ih =>
    intro b f last hl hr hs x hx
    obtain ⟨hr1, hr2⟩ := hr
    simp only [bodyS, if_true] at hl
    obtain ⟨g1, g2⟩ := liesS_cons (show liesS l b (⟨3, 0, y.1, 0⟩ :: (y.2 ++ bodyS true r)) from hl)
    simp only [placesS, if_true, memS, Nat.add_sub_cancel, g1, Option.map_some, Option.getD_some]
    rcases List.mem_cons.1 hx with rfl | hx
    · rw [if_pos rfl]
      exact hs (b + 1) x (by simp) (liesS_left g2)
    · have hne : y.1 ≠ x.1 := fun e => by
        have := rises_lt hr2 x hx
        rw [e, ltB_irrefl] at this; cases this
      rw [if_neg hne]
      exact ih (liesS_right g2) hr2 (fun p z hz => hs p z (List.mem_cons_of_mem _ hz)) x hx
end Go.Proofs.Ytonaejfpiihfhaa

/- What the functions come to: TreeBack. -/
namespace Go.Proofs.Ytonaejfpiihfhaa
open Go Abs
set_option linter.unusedSimpArgs false
set_option linter.unusedVariables false

/-! Few kids, and keys -/
theorem little_loop1 (K : List (List UInt8)) (kids : List (List Nd)) : ∃ x s, lp 32 (lc Try.f32 0) ⟨[(0, .list 1 (strsL K)), (1, .list 1 (ndsL kids)), (5, .int .i64 0)], []⟩ = some (x, s) ∧
    ((x = .ret ∧ s = ⟨[(4, .bool false)], []⟩) ∨ (x = .exit 0 ∧ (∃ sl, s = ⟨(0, .list 1 (strsL K)) :: (1, .list 1 (ndsL kids)) :: sl, []⟩) ∧ ∀ m ∈ kids.take 9, fewS m = true)) := by
  refine for_loop (f := 32) (c := lc Try.f32 0) (n := min kids.length 9) (σ := fun i => ⟨[(0, .list 1 (strsL K)), (1, .list 1 (ndsL kids)), (5, .int .i64 (i : Int))], []⟩) (P := fun i => ∀ m ∈ kids.take i, fewS m = true)
    (Q := fun x s => (x = .ret ∧ s = ⟨[(4, .bool false)], []⟩) ∨ (x = .exit 0 ∧ (∃ sl, s = ⟨(0, .list 1 (strsL K)) :: (1, .list 1 (ndsL kids)) :: sl, []⟩) ∧ ∀ m ∈ kids.take 9, fewS m = true))
    (fun i hi hp => ?_) (fun hp => ?_) 0 (by omega) (by simp)
  · have h1 : i < kids.length := by omega
    have h2 : (i : Int) ≤ 8 := by omega
    have hw : IntKind.i64.wrap ((i : Int) + 1) = (i : Int) + 1 := i64_wrap (by omega) (by omega)
    have e : kids[i]? = some kids[i] := List.getElem?_eq_getElem h1
    cases hf : fewS kids[i] with
    | true =>
      left
      refine ⟨by simp [lc, loopsOf, Try.f32, h1, h2, ndsL_at, few_call, hf, hw], fun m hm => ?_⟩
      rw [List.take_add_one, e] at hm
      rcases List.mem_append.1 hm with hm | hm
      · exact hp m hm
      · simp at hm; exact hm ▸ hf
    | false =>
      right
      exact ⟨.ret, _, by simp [lc, loopsOf, Try.f32, h1, h2, ndsL_at, few_call, hf, hw], by simp, .inl ⟨rfl, rfl⟩⟩
  · rcases Nat.lt_or_ge kids.length 9 with h | h
    · have e : min kids.length 9 = kids.length := by omega
      rw [e] at hp
      refine ⟨.exit 0, ⟨[(0, .list 1 (strsL K)), (1, .list 1 (ndsL kids)), (5, .int .i64 (min kids.length 9 : Nat)), (15, .bool false)], []⟩, by simp [lc, loopsOf, Try.f32, e], by simp, .inr ⟨rfl, ⟨_, rfl⟩, fun m hm => hp m ?_⟩⟩
      rw [List.take_of_length_le (by omega)] at hm ⊢
      · exact hm
    · have e : min kids.length 9 = 9 := by omega
      rw [e] at hp
      by_cases h9 : kids.length = 9
      · exact ⟨.exit 0, ⟨[(0, .list 1 (strsL K)), (1, .list 1 (ndsL kids)), (5, .int .i64 (min kids.length 9 : Nat)), (15, .bool false)], []⟩, by simp [lc, loopsOf, Try.f32, e, h9], by simp, .inr ⟨rfl, ⟨_, rfl⟩, hp⟩⟩
      · have h3 : (9 : Int) < kids.length := by omega
        exact ⟨.exit 0, ⟨[(0, .list 1 (strsL K)), (1, .list 1 (ndsL kids)), (5, .int .i64 (min kids.length 9 : Nat)), (15, .bool false)], []⟩, by simp [lc, loopsOf, Try.f32, e, h3], by simp, .inr ⟨rfl, ⟨_, rfl⟩, hp⟩⟩
theorem little_loop2 (K : List (List UInt8)) (kids : List (List Nd)) : ∃ x s, lp 32 (lc Try.f32 1) ⟨[(0, .list 1 (strsL K)), (1, .list 1 (ndsL kids)), (7, .int .i64 0)], []⟩ = some (x, s) ∧
    ((x = .ret ∧ s = ⟨[(4, .bool false)], []⟩) ∨ (x = .exit 2 ∧ (∃ sl, s = ⟨(0, .list 1 (strsL K)) :: (1, .list 1 (ndsL kids)) :: sl, []⟩))) := by
  refine for_loop (f := 32) (c := lc Try.f32 1) (n := min K.length 9) (σ := fun i => ⟨[(0, .list 1 (strsL K)), (1, .list 1 (ndsL kids)), (7, .int .i64 (i : Int))], []⟩) (P := fun i => True)
    (Q := fun x s => (x = .ret ∧ s = ⟨[(4, .bool false)], []⟩) ∨ (x = .exit 2 ∧ (∃ sl, s = ⟨(0, .list 1 (strsL K)) :: (1, .list 1 (ndsL kids)) :: sl, []⟩)))
    (fun i hi hp => ?_) (fun hp => ?_) 0 (by omega) trivial
  · have h1 : i < K.length := by omega
    have h2 : (i : Int) ≤ 8 := by omega
    have hw : IntKind.i64.wrap ((i : Int) + 1) = (i : Int) + 1 := i64_wrap (by omega) (by omega)
    by_cases hf : (130 : Int) < K[i].length
    · right
      exact ⟨.ret, _, by simp [lc, loopsOf, Try.f32, h1, h2, strs_at, hf, hw], by simp, .inl ⟨rfl, rfl⟩⟩
    · left
      exact ⟨by simp [lc, loopsOf, Try.f32, h1, h2, strs_at, hf, hw], trivial⟩
  · rcases Nat.lt_or_ge K.length 9 with h | h
    · have e : min K.length 9 = K.length := by omega
      exact ⟨.exit 2, ⟨[(0, .list 1 (strsL K)), (1, .list 1 (ndsL kids)), (7, .int .i64 (min K.length 9 : Nat)), (32, .bool false)], []⟩, by simp [lc, loopsOf, Try.f32, e], by simp, .inr ⟨rfl, ⟨_, rfl⟩⟩⟩
    · have e : min K.length 9 = 9 := by omega
      by_cases h9 : K.length = 9
      · exact ⟨.exit 2, ⟨[(0, .list 1 (strsL K)), (1, .list 1 (ndsL kids)), (7, .int .i64 (min K.length 9 : Nat)), (32, .bool false)], []⟩, by simp [lc, loopsOf, Try.f32, e, h9], by simp, .inr ⟨rfl, ⟨_, rfl⟩⟩⟩
      · have h3 : (9 : Int) < K.length := by omega
        exact ⟨.exit 2, ⟨[(0, .list 1 (strsL K)), (1, .list 1 (ndsL kids)), (7, .int .i64 (min K.length 9 : Nat)), (32, .bool false)], []⟩, by simp [lc, loopsOf, Try.f32, e, h3], by simp, .inr ⟨rfl, ⟨_, rfl⟩⟩⟩
set_option maxHeartbeats 8000000 in
theorem little_eq (K : List (List UInt8)) (kids : List (List Nd)) : ∃ b, cl 32 [.list 1 (strsL K), .list 1 (ndsL kids)] [] = some (.ret (.bool b), []) ∧ (b = true → K.length ≤ 8 ∧ kids.length ≤ 8 ∧ ∀ m ∈ kids, fewS m = true) := by
  obtain ⟨x, s, h, hx⟩ := little_loop1 K kids
  obtain ⟨y, t, h', hy⟩ := little_loop2 K kids
  simp [lc, loopsOf, Try.f32] at h h'
  rcases hx with ⟨rfl, rfl⟩ | ⟨rfl, ⟨sl, rfl⟩, hall⟩
  · refine ⟨false, fn_intro Try.func32 rfl (by simp) (by decide) rfl ?_, fun e => by cases e⟩
    simp [Try.f32, h]
    exact end_is (.inr rfl) (by simp; rfl) rfl rfl
  · rcases hy with ⟨rfl, rfl⟩ | ⟨rfl, sl', rfl⟩
    · refine ⟨false, fn_intro Try.func32 rfl (by simp) (by decide) rfl ?_, fun e => by cases e⟩
      simp [Try.f32, h, h']
      exact end_is (.inr rfl) (by simp; rfl) rfl rfl
    · refine ⟨decide ((kids.length : Int) ≤ 8) && decide ((K.length : Int) ≤ 8), fn_intro Try.func32 rfl (by simp) (by decide) rfl ?_, fun e => ?_⟩
      · simp [Try.f32, h, h']
        exact end_is (.inr rfl) (by simp; rfl) rfl (by simp)
      · simp only [Bool.and_eq_true, decide_eq_true_eq] at e
        refine ⟨by omega, by omega, fun m hm => hall m ?_⟩
        rw [List.take_of_length_le (by omega)]; exact hm
end Go.Proofs.Ytonaejfpiihfhaa

/- What the functions come to: TreeBack, its loops. -/
namespace Go.Proofs.Ytonaejfpiihfhaa
open Go Abs
set_option linter.unusedSimpArgs false
set_option linter.unusedVariables false

@[simp] theorem nds_beqV {l : List Nd} : AV.beq (nds l) (nds l) = true := beq_self nds_plain
@[simp] theorem ndsL_beq {l : List (List Nd)} : AV.beqL (ndsL l) (ndsL l) = true := beqL_self ndsL_plain
@[simp] theorem intsL_beq {l : List Nat} : AV.beqL (intsL l) (intsL l) = true := beqL_self (plainBL_map (fun _ => rfl) l)
@[simp] theorem strsL_beq {l : List (List UInt8)} : AV.beqL (strsL l) (strsL l) = true := beqL_self (plainBL_map (fun _ => rfl) l)
def lV (o : Option (List Nd × List Nat)) : AV := match o with | some x => nds x.1 | none => .nils
def aV (o : Option (List Nd × List Nat)) : AV := match o with | some x => .list 1 (intsL x.2) | none => .nils
def σ5a (K : List (List UInt8)) (kids : List (List Nd)) (o : Option (List Nd × List Nat)) (w : Bool) (i : Nat) : ASt := ⟨[(0, .list 1 (strsL K)), (1, .list 1 (ndsL kids)), (5, .bool true), (7, lV o), (9, aV o), (10, .bool w), (11, .int .i64 i)], []⟩
set_option maxHeartbeats 8000000 in
theorem whole_round (K : List (List UInt8)) (kids : List (List Nd)) (o : Option (List Nd × List Nat)) (w : Bool) (i : Nat) (m : List Nd) (hm : kids[i]? = some m) (hl : kids.length ≤ 8) (hml : m.length ≤ 130) (hr : ∀ n ∈ m, n.inR) :
    rX 5 (lc Try.f5 0) (codeX G cl lp 5 (lc Try.f5 0) (σ5a K kids o w i)) = some (.normal, σ5a K kids o (w && decide (checkS m = 0)) (i + 1)) := by
  have hlt : i < kids.length := (List.getElem?_eq_some_iff.1 hm).1
  have e : kids[i] = m := (List.getElem?_eq_some_iff.1 hm).2
  have hw : IntKind.i64.wrap ((i : Int) + 1) = (i : Int) + 1 := i64_wrap (by omega) (by omega)
  have hc := fun d st => check_call (l := m) (by omega) hr (d := d) (st := st)
  cases o <;> cases w <;> simp [lc, loopsOf, Try.f5, σ5a, lV, aV, hlt, ndsL_at, e, hc, hw]
theorem whole_exit (K : List (List UInt8)) (kids : List (List Nd)) (o : Option (List Nd × List Nat)) (w : Bool) :
    rX 5 (lc Try.f5 0) (codeX G cl lp 5 (lc Try.f5 0) (σ5a K kids o w kids.length)) = some (.exit 0, ⟨(σ5a K kids o w kids.length).sl ++ [(55, .bool false)], []⟩) := by
  cases o <;> simp [lc, loopsOf, Try.f5, σ5a, lV, aV]
def allV (kids : List (List Nd)) : Bool := kids.all fun m => decide (checkS m = 0)
theorem whole_loop (K : List (List UInt8)) (kids : List (List Nd)) (o : Option (List Nd × List Nat)) (hl : kids.length ≤ 8) (hml : ∀ m ∈ kids, m.length ≤ 130) (hr : ∀ m ∈ kids, ∀ n ∈ m, n.inR) : ∀ (c i : Nat) (w : Bool), i + c = kids.length →
    lp 5 (lc Try.f5 0) (σ5a K kids o w i) = some (.exit 0, ⟨(σ5a K kids o (w && allV (kids.drop i)) kids.length).sl ++ [(55, .bool false)], []⟩) := by
  intro c
  induction c with
  | zero =>
    intro i w hi
    obtain rfl : i = kids.length := by omega
    rw [List.drop_length]
    have e : (w && allV []) = w := by simp [allV]
    rw [e]
    exact loop_out (whole_exit K kids o w) (by simp)
  | succ c ih =>
    intro i w hi
    have hlt : i < kids.length := by omega
    have hm : kids[i]? = some kids[i] := List.getElem?_eq_getElem hlt
    have h := whole_round K kids o w i kids[i] hm hl (hml _ (List.getElem_mem hlt)) (hr _ (List.getElem_mem hlt))
    have := ih (i + 1) (w && decide (checkS kids[i] = 0)) (by omega)
    have e : (w && decide (checkS kids[i] = 0) && allV (kids.drop (i + 1))) = (w && allV (kids.drop i)) := by
      rw [List.drop_eq_getElem_cons hlt]; simp only [allV, List.all_cons, Bool.and_assoc]
    rw [e] at this
    exact loop_next h this

def σ5b (K : List (List UInt8)) (kids : List (List Nd)) (o : Option (List Nd × List Nat)) (w : Bool) (i : Nat) : ASt := ⟨[(0, .list 1 (strsL K)), (1, .list 1 (ndsL kids)), (5, .bool true), (7, lV o), (9, aV o), (10, .bool w), (12, .int .i64 i)], []⟩
set_option maxHeartbeats 8000000 in
theorem sub_round (K : List (List UInt8)) (kids : List (List Nd)) (l : List Nd) (at_ : List Nat) (i q : Nat) (m : List Nd) (hm : kids[i]? = some m) (hq : at_[i]? = some q) (hl : kids.length ≤ 8) (hml : m.length ≤ 130)
    (h22 : ∀ d st, callV G cl d (.fn (.func 22) [] []) [nds l, .int .i64 (q : Int)] st = some (.val (nds m) st)) :
    rX 5 (lc Try.f5 1) (codeX G cl lp 5 (lc Try.f5 1) (σ5b K kids (some (l, at_)) true i)) = some (.normal, σ5b K kids (some (l, at_)) true (i + 1)) := by
  have hlt : i < kids.length := (List.getElem?_eq_some_iff.1 hm).1
  have e : kids[i] = m := (List.getElem?_eq_some_iff.1 hm).2
  have hlt2 : i < at_.length := (List.getElem?_eq_some_iff.1 hq).1
  have e2 : at_[i] = q := (List.getElem?_eq_some_iff.1 hq).2
  have hw : IntKind.i64.wrap ((i : Int) + 1) = (i : Int) + 1 := i64_wrap (by omega) (by omega)
  have h21 := fun d st => tsame_call (a := m) (b := m) (by omega) (d := d) (st := st)
  simp [lc, loopsOf, Try.f5, σ5b, lV, aV, hlt, hlt2, ndsL_at, e, e2, h22, h21, hw]
set_option maxHeartbeats 8000000 in
theorem sub_exit (K : List (List UInt8)) (kids : List (List Nd)) (o : Option (List Nd × List Nat)) (w : Bool) (i : Nat) (h : w = false ∨ o = none ∨ ∃ l at_, o = some (l, at_) ∧ at_.length ≤ i) :
    rX 5 (lc Try.f5 1) (codeX G cl lp 5 (lc Try.f5 1) (σ5b K kids o w i)) = some (.exit 2, ⟨(σ5b K kids o w i).sl ++ [(73, .bool false)], []⟩) := by
  rcases h with rfl | rfl | ⟨l, at_, rfl, h⟩
  · cases o with
    | none =>
      have hneg : ¬ (i : Int) < 0 := by omega
      simp [lc, loopsOf, Try.f5, σ5b, lV, aV, hneg]
    | some x =>
      by_cases hi : i < x.2.length
      · simp [lc, loopsOf, Try.f5, σ5b, lV, aV, hi]
      · simp [lc, loopsOf, Try.f5, σ5b, lV, aV, hi]
  · have hneg : ¬ (i : Int) < 0 := by omega
    cases w <;> simp [lc, loopsOf, Try.f5, σ5b, lV, aV, hneg]
  · have hi : ¬ i < at_.length := by omega
    cases w <;> simp [lc, loopsOf, Try.f5, σ5b, lV, aV, hi]
theorem sub_loop (K : List (List UInt8)) (kids : List (List Nd)) (l : List Nd) (at_ : List Nat) (hl : kids.length ≤ 8) (hml : ∀ m ∈ kids, m.length ≤ 130) (ha : at_.length = kids.length)
    (h22 : ∀ (i q : Nat) m, at_[i]? = some q → kids[i]? = some m → ∀ d st, callV G cl d (.fn (.func 22) [] []) [nds l, .int .i64 (q : Int)] st = some (.val (nds m) st)) : ∀ (c i : Nat), i + c = kids.length →
    lp 5 (lc Try.f5 1) (σ5b K kids (some (l, at_)) true i) = some (.exit 2, ⟨(σ5b K kids (some (l, at_)) true kids.length).sl ++ [(73, .bool false)], []⟩) := by
  intro c
  induction c with
  | zero =>
    intro i hi
    obtain rfl : i = kids.length := by omega
    exact loop_out (sub_exit K kids _ true _ (.inr (.inr ⟨l, at_, rfl, by omega⟩))) (by simp)
  | succ c ih =>
    intro i hi
    have hlt : i < kids.length := by omega
    have hm : kids[i]? = some kids[i] := List.getElem?_eq_getElem hlt
    have hq : at_[i]? = some (at_[i]'(by omega)) := List.getElem?_eq_getElem (by omega)
    exact loop_next (sub_round K kids l at_ i _ kids[i] hm hq hl (hml _ (List.getElem_mem hlt)) (h22 i _ _ hq hm)) (ih (i + 1) (by omega))

def σ5c (K : List (List UInt8)) (kids : List (List Nd)) (w : Bool) (o : Option (List Nd)) (f : Int) (i : Nat) : ASt := ⟨[(0, .list 1 (strsL K)), (1, .list 1 (ndsL kids)), (5, .bool true), (10, .bool w), (13, rowO o), (14, .int .i64 f), (15, .int .i64 i)], []⟩
set_option maxHeartbeats 8000000 in
theorem mem5_round (K : List (List UInt8)) (kids : List (List Nd)) (M : List Nd) (i : Nat) (m : List Nd) (k : List UInt8) (hm : kids[i]? = some m) (hk : K[i]? = some k) (hl : kids.length ≤ 8) (hml : m.length ≤ 130)
    (h30 : ∀ d st, callV G cl d (.fn (.func 30) [] []) [nds M, .str k] st = some (.val (.tup [nds m, .bool true]) st)) :
    rX 5 (lc Try.f5 2) (codeX G cl lp 5 (lc Try.f5 2) (σ5c K kids true (some M) 0 i)) = some (.normal, σ5c K kids true (some M) 0 (i + 1)) := by
  have hlt : i < kids.length := (List.getElem?_eq_some_iff.1 hm).1
  have e : kids[i] = m := (List.getElem?_eq_some_iff.1 hm).2
  have hlt2 : i < K.length := (List.getElem?_eq_some_iff.1 hk).1
  have e2 : K[i] = k := (List.getElem?_eq_some_iff.1 hk).2
  have hw : IntKind.i64.wrap ((i : Int) + 1) = (i : Int) + 1 := i64_wrap (by omega) (by omega)
  have h21 := fun d st => tsame_call (a := m) (b := m) (by omega) (d := d) (st := st)
  simp [lc, loopsOf, Try.f5, σ5c, rowO, hlt, hlt2, ndsL_at, strs_at, e, e2, h30, h21, hw]
set_option maxHeartbeats 8000000 in
theorem mem5_exit (K : List (List UInt8)) (kids : List (List Nd)) (w : Bool) (o : Option (List Nd)) (f : Int) (i : Nat) (h : w = false ∨ f ≠ 0 ∨ K.length ≤ i) :
    rX 5 (lc Try.f5 2) (codeX G cl lp 5 (lc Try.f5 2) (σ5c K kids w o f i)) = some (.exit 4, ⟨(σ5c K kids w o f i).sl ++ [(104, .bool false)], []⟩) := by
  by_cases hi : i < K.length
  · by_cases hf : f = 0
    · have hw : w = false := by
        rcases h with h | h | h
        · exact h
        · exact absurd hf h
        · omega
      subst hw hf
      cases o <;> simp [lc, loopsOf, Try.f5, σ5c, rowO, hi]
    · cases o <;> cases w <;> simp [lc, loopsOf, Try.f5, σ5c, rowO, hi, hf]
  · cases o <;> cases w <;> simp [lc, loopsOf, Try.f5, σ5c, rowO, hi]
theorem mem5_loop (K : List (List UInt8)) (kids : List (List Nd)) (M : List Nd) (hl : kids.length ≤ 8) (hml : ∀ m ∈ kids, m.length ≤ 130) (ha : K.length = kids.length)
    (h30 : ∀ (i : Nat) k m, K[i]? = some k → kids[i]? = some m → ∀ d st, callV G cl d (.fn (.func 30) [] []) [nds M, .str k] st = some (.val (.tup [nds m, .bool true]) st)) : ∀ (c i : Nat), i + c = kids.length →
    lp 5 (lc Try.f5 2) (σ5c K kids true (some M) 0 i) = some (.exit 4, ⟨(σ5c K kids true (some M) 0 kids.length).sl ++ [(104, .bool false)], []⟩) := by
  intro c
  induction c with
  | zero =>
    intro i hi
    obtain rfl : i = kids.length := by omega
    exact loop_out (mem5_exit K kids true _ 0 _ (.inr (.inr (by omega)))) (by simp)
  | succ c ih =>
    intro i hi
    have hlt : i < kids.length := by omega
    have hm : kids[i]? = some kids[i] := List.getElem?_eq_getElem hlt
    have hk : K[i]? = some (K[i]'(by omega)) := List.getElem?_eq_getElem (by omega)
    exact loop_next (mem5_round K kids M i kids[i] _ hm hk hl (hml _ (List.getElem_mem hlt)) (h30 i _ _ hk hm)) (ih (i + 1) (by omega))
end Go.Proofs.Ytonaejfpiihfhaa

/- What the functions come to: TreeBack. -/
namespace Go.Proofs.Ytonaejfpiihfhaa
open Go Abs
set_option linter.unusedSimpArgs false
set_option linter.unusedVariables false

theorem sub_lies {l v : List Nd} {p : Nat} (hr : ∀ n ∈ l, n.inR) (hc : checkS l = 0) (h : liesS l p v) (hw : (wholeS v).isSome = true) : subS l (p : Int) = some v := by
  obtain ⟨s, hs⟩ := Option.isSome_iff_exists.1 hw
  obtain ⟨h1, h2⟩ := valS_lies (K := l.length + 1) h hs (by omega)
  have := sub_at hr hc (Nat.le_refl _) h1
  rw [h2, cut_lies h (lies_le h (wholeS_ne hw))] at this
  exact this
theorem whole_of_check {l : List Nd} (h : checkS l = 0) : (wholeS l).isSome = true := by
  obtain ⟨_, _, s, h3, _⟩ := checkS_ok h
  rw [h3]; rfl
/-- As many kids as the node says. -/
theorem kids_count {l : List Nd} (hc : checkS l = 0) {n : Nd} (hn : l[0]? = some n) : ∃ ks, kidsAt l 0 = some ks ∧ ks.length = n.kids.toNat ∧ wholeS l = some ⟨l.length, ((wholeS l).map (·.deep)).getD 0, ks⟩ ∧ goodK l ks ∧ 0 < l.length ∧ keysAt l 0 = if mapAt l 0 then textsS l ks else [] := by
  obtain ⟨hlen, hlong, s0, hw0, hd0⟩ := checkS_ok hc
  obtain ⟨hv0, hs0⟩ := wholeS_some hw0
  have hpos : 0 < l.length := by have := valS_spec hv0; omega
  obtain ⟨n', r, hn', hf, hkids, rfl⟩ := valS_map hv0
  rw [hn] at hn'
  cases hn'
  obtain ⟨t, ht, htl⟩ := kidsS_pre hkids
  have e : thereS l 0 = true := there_in hc hpos
  refine ⟨r.kids, ?_, by rw [ht]; simp [htl], by rw [hw0]; simp only [Option.map_some, Option.getD_some]; rw [← hs0], (valS_goodK (s := ⟨r.stop, r.deep + 1, r.kids⟩) (by omega) hv0 :), hpos, ?_⟩
  · unfold kidsAt
    rw [e, if_pos rfl, show (0 : Int).toNat = 0 from rfl, hv0]; rfl
  · unfold keysAt
    rw [e, show (0 : Int).toNat = 0 from rfl, hv0]; simp
theorem kids_nils : cl 25 [.nils, .int .i64 0] [] = some (.ret .nils, []) := cl_run (by kernel_rfl)
@[simp] theorem strsV_len {hp : Heap} {e : TypeId} {l : List (List UInt8)} : lenD hp (some (.slice e)) (strsV l) = some (.int .i64 l.length) := by
  unfold strsV
  split
  · rename_i h; subst h; rfl
  · simp
theorem listS_wholes {kids : List (List Nd)} (hv : allV kids = true) : ∀ x ∈ kids.map (fun m => (([] : List UInt8), m)), (wholeS x.2).isSome = true := by
  intro x hx
  obtain ⟨m, hm, rfl⟩ := List.mem_map.1 hx
  have := List.all_eq_true.1 hv m hm
  exact whole_of_check (by simpa using this)

set_option maxHeartbeats 8000000 in
theorem treeBack_eq (K : List (List UInt8)) (kids : List (List Nd)) (hr : ∀ m ∈ kids, ∀ n ∈ m, n.inR) : cl 5 [.list 1 (strsL K), .list 1 (ndsL kids)] [] = some (.ret (.bool true), []) := by
  obtain ⟨b, hb, hfew⟩ := little_eq K kids
  have c32 : ∀ d st, callV G cl d (.fn (.func 32) [] []) [.list 1 (strsL K), .list 1 (ndsL kids)] st = some (.val (.bool b) st) := fun d st => callV_ret E32 (by decide) ext32 rfl rfl hb rfl
  refine fn_intro Try.func5 rfl (by simp) (by decide) rfl ?_
  cases b with
  | false =>
    simp [Try.f5, works_call, c32]
    exact end_is (.inr rfl) (by simp; rfl) rfl rfl
  | true =>
  obtain ⟨hK8, hk8, hfk⟩ := hfew rfl
  have hml : ∀ m ∈ kids, m.length ≤ 130 := fun m hm => fewS_len (hfk m hm)
  have htot : tot kids ≤ 1000000 := by
    have : ∀ l : List (List Nd), (∀ m ∈ l, m.length ≤ 130) → tot l ≤ l.length * 130 := by
      intro l
      induction l with
      | nil => intro _; simp [tot]
      | cons m l ih =>
        intro h
        have e : tot (m :: l) = m.length + tot l := by simp [tot]
        rw [e, List.length_cons]
        have := ih (fun x hx => h x (List.mem_cons_of_mem _ hx))
        have := h m (by simp)
        omega
    have := this kids hml
    omega
  have h33 := list_eq kids (by omega) htot hr
  have h34 := map_eq K kids (by omega) hr (fun m hm => by have := hml m hm; omega)
  have c33 : ∀ d st, callV G cl d (.fn (.func 33) [] []) [.list 1 (ndsL kids)] st = some (.val (checkedV (listS kids)) st) := fun d st => callV_ret E33 (by decide) ext33 rfl rfl h33 checkedV_names
  have c34 : ∀ d st, callV G cl d (.fn (.func 34) [] []) [.list 1 (strsL K), .list 1 (ndsL kids)] st = some (.val (mapV K kids) st) := fun d st => callV_ret E34 (by decide) ext34 rfl rfl h34 mapV_names
  have hLr : ∀ n ∈ listS kids, n.inR := fun n hn => by
    rcases List.mem_cons.1 hn with rfl | hn
    · exact ⟨by simp, by simp, by simp only; omega, by simp only; omega⟩
    · obtain ⟨m, hm, hn⟩ := List.mem_flatten.1 hn
      exact hr m hm n hn
  -- The list.
  have A : ∃ (o : Option (List Nd × List Nat)) (e : Int) , checkedV (listS kids) = .tup [lV o, .int .i64 e] ∧ (∀ d st, callV G cl d (.fn (.func 25) [] []) [lV o, .int .i64 0] st = some (.val (aV o) st)) ∧
      ((e = 0 ∧ ∃ l ks, o = some (l, ks) ∧ ks.length = kids.length) ∨ (e ≠ 0 ∧ o = none)) ∧
      ∃ j, lp 5 (lc Try.f5 1) (σ5b K kids o (allV kids) 0) = some (.exit 2, ⟨(σ5b K kids o (allV kids) j).sl ++ [(73, .bool false)], []⟩) := by
    by_cases hc : checkS (listS kids) = 0
    · obtain ⟨ks, h1, h2, h3, h4, h5, h6⟩ := kids_count hc (n := ⟨4, 0, [], kids.length⟩) rfl
      simp only [Int.toNat_natCast] at h2
      have hlen := (checkS_ok hc).1
      refine ⟨some (listS kids, ks), 0, by unfold checkedV; rw [if_pos hc]; rfl, fun d st => ?_, .inl ⟨rfl, _, _, rfl, h2⟩, ?_⟩
      · have := kids_call (l := listS kids) (by omega) hLr (a := 0) (d := d) (st := st)
        rw [h1] at this; exact this
      · cases hv : allV kids with
        | false => exact ⟨0, loop_out (sub_exit K kids _ false 0 (.inl rfl)) (by simp)⟩
        | true =>
          refine ⟨kids.length, sub_loop K kids (listS kids) ks hk8 hml h2 (fun i q m hq hm d st => ?_) kids.length 0 (by omega)⟩
          have hwm := whole_made (h := ⟨4, 0, [], kids.length⟩) (m := false) (kvs := kids.map fun m => ([], m)) (fits_list _) (by simp) rfl (listS_wholes hv) (fun e => by cases e)
          rw [← listS_body, h3] at hwm
          have hks : ks = placesS false 1 (kids.map fun m => ([], m)) := by
            have := congrArg (fun o => (o.map Span.kids).getD []) hwm
            simpa using this
          have hlies : liesS (listS kids) 1 (bodyS false (kids.map fun m => ([], m))) := fun j hj => by
            rw [listS_body, Nat.add_comm, List.getElem?_cons_succ]
          obtain ⟨g1, _, _⟩ := places_get hlies (by rw [← hks]; exact hq) (x := ([], m)) (by rw [List.getElem?_map, hm]; rfl)
          have hmv : checkS m = 0 := by
            have := List.all_eq_true.1 hv m (List.mem_of_getElem? hm)
            simpa using this
          have := sub_call (l := listS kids) (by omega) hLr (a := (q : Int)) (d := d) (st := st)
          rw [sub_lies hLr hc g1 (whole_of_check hmv)] at this
          exact this
    · refine ⟨none, checkS (listS kids), by unfold checkedV; rw [if_neg hc]; rfl, fun d st => callV_ret E25 (by decide) ext25 rfl rfl kids_nils rfl, .inr ⟨hc, rfl⟩, 0, loop_out (sub_exit K kids _ _ 0 (.inr (.inl rfl))) (by simp)⟩
  -- The map.
  have B : ∃ (o : Option (List Nd)) (f : Int), mapV K kids = .tup [rowO o, .int .i64 f] ∧
      ((f = 0 ∧ ∃ M, o = some M ∧ ∀ d st, callV G cl d (.fn (.func 28) [] []) [nds M, .int .i64 0] st = some (.val (strsV (keysAt M 0)) st) ∧ (keysAt M 0).length = K.length) ∨ f ≠ 0) ∧
      ∃ j, lp 5 (lc Try.f5 2) (σ5c K kids (allV kids) o f 0) = some (.exit 4, ⟨(σ5c K kids (allV kids) o f j).sl ++ [(104, .bool false)], []⟩) := by
    unfold mapV
    by_cases hkk : K.length = kids.length
    case neg =>
      rw [if_neg hkk]
      exact ⟨none, 1, rfl, .inr (by simp), 0, loop_out (mem5_exit K kids _ _ 1 0 (.inr (.inl (by simp)))) (by simp)⟩
    rw [if_pos hkk]
    cases hm : mapR K kids with
    | none => exact ⟨none, 7, rfl, .inr (by simp), 0, loop_out (mem5_exit K kids _ _ 7 0 (.inr (.inl (by simp)))) (by simp)⟩
    | some M =>
      by_cases hc : checkS M = 0
      case neg =>
        exact ⟨none, checkS M, by simp only; unfold checkedV; rw [if_neg hc]; rfl, .inr hc, 0, loop_out (mem5_exit K kids _ _ _ 0 (.inr (.inl hc))) (by simp)⟩
      obtain ⟨hM, hrise⟩ := mapR_spec hm
      have hM0 : M[0]? = some ⟨5, 0, [], K.length⟩ := by rw [hM]; rfl
      have hMr : ∀ n ∈ M, n.inR := memL_inR hr hm (fun n hn => by
        simp only [List.mem_singleton] at hn
        subst hn
        exact ⟨by simp, by simp, by simp only; omega, by simp only; omega⟩)
      obtain ⟨ks, h1, h2, h3, h4, h5, h6⟩ := kids_count hc hM0
      simp only [Int.toNat_natCast] at h2
      have hlen := (checkS_ok hc).1
      have hmap : mapAt M 0 = true := by unfold mapAt; rw [hM0]; rfl
      have ht : thereS M 0 = true := there_in hc h5
      refine ⟨some M, 0, by simp only; unfold checkedV; rw [if_pos hc]; rfl, .inl ⟨rfl, M, rfl, fun d st => ⟨?_, ?_⟩⟩, ?_⟩
      · exact keys_call (l := M) (by omega) hMr (a := 0) (d := d) (st := st)
      · rw [h6, hmap]; simp [textsS, h2]
      · cases hv : allV kids with
        | false => exact ⟨0, loop_out (mem5_exit K kids false _ 0 0 (.inl rfl)) (by simp)⟩
        | true =>
          refine ⟨kids.length, mem5_loop K kids M hk8 hml hkk (fun i k m hk hm' d st => ?_) kids.length 0 (by omega)⟩
          have hwh : ∀ x ∈ (ordS K).map (kvK K kids), (wholeS x.2).isSome = true := fun x hx => by
            obtain ⟨j, hj, rfl⟩ := List.mem_map.1 hx
            have hjl : j < kids.length := by rw [← hkk]; exact ordS_mem.1 hj
            have e : kids[j]? = some kids[j] := List.getElem?_eq_getElem hjl
            have := List.all_eq_true.1 hv _ (List.getElem_mem hjl)
            simp only [kvK, e, Option.getD_some]
            exact whole_of_check (by simpa using this)
          have hwm := whole_made (h := ⟨5, 0, [], K.length⟩) (m := true) (kvs := (ordS K).map (kvK K kids)) (fits_map _) (by simp [ordS_length]) rfl hwh (fun _ => hrise)
          rw [← hM, h3] at hwm
          have hks : ks = placesS true 1 ((ordS K).map (kvK K kids)) := by
            have := congrArg (fun o => (o.map Span.kids).getD []) hwm
            simpa using this
          have hlies : liesS M 1 (bodyS true ((ordS K).map (kvK K kids))) := fun j hj => by
            rw [hM, Nat.add_comm, List.getElem?_cons_succ]
          have hik : i < K.length := (List.getElem?_eq_some_iff.1 hk).1
          have hx : (k, m) ∈ (ordS K).map (kvK K kids) := by
            refine List.mem_map.2 ⟨i, ordS_mem.2 hik, ?_⟩
            unfold kvK keyK
            rw [hk, hm']; rfl
          have := memS_places hlies hrise (fun p x hx hl => sub_lies hMr hc hl (hwh x hx)) (k, m) hx
          rw [← hks] at this
          have hmem : memberS M k = some m := by
            unfold memberS
            rw [ht, hmap]
            simp only [Bool.and_self, if_true]
            have hk2 : ((valS M (M.length + 1) 0).map (·.kids)).getD [] = ks := by
              obtain ⟨hv0, _⟩ := wholeS_some h3
              rw [hv0]; rfl
            rw [hk2]; exact this
          have := member_call (l := M) (by omega) hMr (key := k) (d := d) (st := st)
          rw [hmem] at this
          exact this
  obtain ⟨o, e, hA1, c25, hA2, j, hA3⟩ := A
  obtain ⟨o2, f, hB1, hB2, j2, hB3⟩ := B
  rw [hA1] at c33
  rw [hB1] at c34
  have h0 := whole_loop K kids o hk8 hml hr kids.length 0 true (by omega)
  rw [List.drop_zero, Bool.true_and] at h0
  generalize allV kids = W at *
  simp [lc, loopsOf, Try.f5, σ5a] at h0
  simp [lc, loopsOf, Try.f5, σ5b] at hA3
  simp [lc, loopsOf, Try.f5, σ5c] at hB3
  rcases hB2 with ⟨rfl, M, rfl, hM⟩ | hf
  · have c28 := fun d st => (hM d st).1
    have hMl := (hM none ⟨[], []⟩).2
    simp only [rowO] at c34 hB3
    rcases hA2 with ⟨rfl, l, ks, rfl, hks⟩ | ⟨he, rfl⟩
    · simp only [lV, aV] at c33 c25 h0 hA3
      simp [Try.f5, works_call, c32, c33, c25, hks, h0, hA3, c34, hB3, c28, hMl]
      exact end_is (.inr rfl) (by simp; rfl) rfl rfl
    · simp only [lV, aV] at c33 c25 h0 hA3
      simp [Try.f5, works_call, c32, c33, c25, he, h0, hA3, c34, hB3, c28, hMl]
      exact end_is (.inr rfl) (by simp; rfl) rfl rfl
  · rcases hA2 with ⟨rfl, l, ks, rfl, hks⟩ | ⟨he, rfl⟩
    · simp only [lV, aV] at c33 c25 h0 hA3
      cases o2 <;> simp only [rowO] at c34 hB3 <;> simp [Try.f5, works_call, c32, c33, c25, hks, h0, hA3, c34, hB3, hf] <;> exact end_is (.inr rfl) (by simp; rfl) rfl rfl
    · simp only [lV, aV] at c33 c25 h0 hA3
      cases o2 <;> simp only [rowO] at c34 hB3 <;> simp [Try.f5, works_call, c32, c33, c25, he, h0, hA3, c34, hB3, hf] <;> exact end_is (.inr rfl) (by simp; rfl) rfl rfl
end Go.Proofs.Ytonaejfpiihfhaa
