/- What the row of this claim leans on: own texts, merged. -/
import Derived.Test.YtcgkneolohcdeaaGreatPkLE4

/- What the functions come to: tree.there, tree.Sub, tree.Kids, and the document's. -/
namespace Go.Proofs.YtcgkneolohcdeaaGreat
open Go Abs
set_option linter.unusedSimpArgs false
set_option linter.unusedVariables false

def thereS (l : List Nd) (a : Int) : Bool := decide (checkS l = 0) && (decide (0 ≤ a) && decide (a < l.length))
set_option maxHeartbeats 8000000 in
theorem there_eq (l : List Nd) (hb : l.length ≤ 9223372036854775806) (hr : ∀ n ∈ l, n.inR) (a : Int) : cl 94 [nds l, .int .i64 a] [] = some (.ret (.bool (thereS l a)), []) := by
  have hc := fun d st => check_call (l := l) hb hr (d := d) (st := st)
  simp only [nds] at hc
  refine fn_intro Tryz.func94 rfl (by simp) (by decide) rfl ?_
  by_cases h : checkS l = 0
  · by_cases h2 : 0 ≤ a
    · simp [Tryz.f94, nds, hc, h, h2]
      exact end_is (.inr rfl) (by simp; rfl) rfl (by simp [thereS, h, h2])
    · simp [Tryz.f94, nds, hc, h, h2]
      exact end_is (.inr rfl) (by simp; rfl) rfl (by simp [thereS, h, h2])
  · simp [Tryz.f94, nds, hc, h]
    exact end_is (.inr rfl) (by simp; rfl) rfl (by simp [thereS, h])
theorem there_call {l : List Nd} (hb : l.length ≤ 9223372036854775806) (hr : ∀ n ∈ l, n.inR) {a : Int} {d : Option Nat} {st : ASt} : callV G cl d (.fn (.func 94) [] []) [nds l, .int .i64 a] st = some (.val (.bool (thereS l a)) st) :=
  callV_ret E94 (by decide) ext94 rfl rfl (there_eq l hb hr a) rfl
theorem thereS_nat {l : List Nd} {a : Int} (h : thereS l a = true) : checkS l = 0 ∧ ∃ k : Nat, a = k ∧ k < l.length := by
  unfold thereS at h
  simp only [Bool.and_eq_true, decide_eq_true_eq] at h
  exact ⟨h.1, a.toNat, by omega, by omega⟩

/-! Cloned, where there is something. -/
set_option maxHeartbeats 8000000 in
theorem clone54_eq (n : Nd) (l : List Nd) (hb : l.length + 1 ≤ 1000) : cl 95 [nds (n :: l)] [] = some (.ret (nds (n :: l)), []) := by
  have hL : l.length + 1 ≤ LIM := by unfold LIM; omega
  refine fn_intro Tryz.func95 rfl (by simp) (by decide) rfl ?_
  simp [Tryz.f95, nds, binO, binv, eqv, appendA, hL]
  exact end_rv (.inr rfl) (by simp [resL]; rfl) rfl (by simp) rfl
theorem clone54_call {l : List Nd} (h : l ≠ []) (hb : l.length ≤ 1000) {d : Option Nat} {st : ASt} : callV G cl d (.fn (.func 95) [] []) [nds l] st = some (.val (nds l) st) := by
  cases l with
  | nil => exact absurd rfl h
  | cons n l => exact callV_ret E95 (by decide) ext95 rfl rfl (clone54_eq n l hb) rfl

theorem val_call {l : List Nd} {a : Nat} {s : Span} (hl : l.length ≤ 900) (hr : ∀ n ∈ l, n.inR) (h : valS l (l.length + 1) a = some s) (d : Option Nat) (w : ASt) : callV G cl d (.fn (.func 91) [] []) [nds l, .int .i64 (a : Int)] w = some (.val (spanV s) w) := by
  refine callV_ret E91 (by decide) ext91 rfl rfl ?_ rfl
  have := value_eq l hl hr (l.length + 1) a (by omega)
  rw [h] at this; exact this
theorem seen_call {l : List Nd} {a : Nat} {s : Span} (hl : l.length ≤ 900) (hr : ∀ n ∈ l, n.inR) (h : valS l (l.length + 1) a = some s) (d : Option Nat) (w : ASt) : callV G cl d (.fn (.func 38) [] []) [nds l, .int .i64 (a : Int)] w = some (.val (seenV s.stop s.deep false s.kids (keysN (mapAt l a) s.kids)) w) := by
  obtain ⟨v, hv, hs⟩ := seen_eq l hl hr (l.length + 1) a (by omega)
  rw [h] at hs
  obtain ⟨keys, rfl, rfl⟩ := hs
  exact callV_ret E38 (by decide) ext38 rfl rfl hv (by simp [seenV])

/-- The nodes of the value at a place, if there is one. -/
def subS (l : List Nd) (a : Int) : Option (List Nd) := if thereS l a then (valS l (l.length + 1) a.toNat).map fun s => cutS l a.toNat s.stop else none
def rowO : Option (List Nd) → AV
  | some m => nds m
  | none => .nils
theorem nds_cut (l : List Nd) (a e : Nat) : nds (cutS l a e) = .list 4 (((l.map Nd.v).take e).drop a) := by simp [nds, cutS]
theorem cutS_ne {l : List Nd} {a e : Nat} (h1 : a < e) (h2 : e ≤ l.length) : cutS l a e ≠ [] := by
  intro h
  have := cutS_length (l := l) (a := a) h2
  rw [h] at this; simp at this; omega

set_option maxHeartbeats 8000000 in
theorem sub_eq (l : List Nd) (hb : l.length ≤ 9223372036854775806) (hr : ∀ n ∈ l, n.inR) (a : Int) : cl 68 [nds l, .int .i64 a] [] = some (.ret (rowO (subS l a)), []) := by
  have hc := fun d st => there_call (l := l) hb hr (a := a) (d := d) (st := st)
  refine fn_intro Tryz.func68 rfl (by simp) (by decide) rfl ?_
  cases h : thereS l a with
  | false =>
    simp [Tryz.f68, hc, h]
    exact end_is (.inr rfl) (by simp; rfl) rfl (by simp [subS, h, rowO])
  | true =>
    obtain ⟨h0, k, rfl, h1⟩ := thereS_nat h
    obtain ⟨s, h2, h3, h4⟩ := checkS_inner h0 h1
    obtain ⟨h5, _, _⟩ := checkS_ok h0
    obtain ⟨g1, _, _⟩ := valS_spec h2
    have hv := val_call (by omega) hr h2
    have hcl := fun d st => clone54_call (l := cutS l k s.stop) (cutS_ne g1 h3) (by rw [cutS_length h3]; omega) (d := d) (st := st)
    rw [nds_cut] at hcl
    have hk : (k : Int) ≤ s.stop := by omega
    have hk2 : (s.stop : Int) ≤ l.length := by omega
    simp only [nds] at hc hv
    have e1 : k ≤ s.stop := by omega
    simp [Tryz.f68, nds, hc, h, hv, spanV, e1, h3, hcl]
    exact end_is (.inr rfl) (by simp; rfl) rfl (by simp [subS, h, h2, rowO, nds_cut])

theorem sub_call {l : List Nd} (hb : l.length ≤ 9223372036854775806) (hr : ∀ n ∈ l, n.inR) {a : Int} {d : Option Nat} {st : ASt} : callV G cl d (.fn (.func 68) [] []) [nds l, .int .i64 a] st = some (.val (rowO (subS l a)) st) :=
  callV_ret E68 (by decide) ext68 rfl rfl (sub_eq l hb hr a) (by cases subS l a <;> rfl)

/-- Where the kids of the value at a place begin, if there is one. -/
def kidsAt (l : List Nd) (a : Int) : Option (List Nat) := if thereS l a then (valS l (l.length + 1) a.toNat).map (·.kids) else none
def intsO : Option (List Nat) → AV
  | some m => .list 1 (intsL m)
  | none => .nils
set_option maxHeartbeats 8000000 in
theorem kids_eq (l : List Nd) (hb : l.length ≤ 9223372036854775806) (hr : ∀ n ∈ l, n.inR) (a : Int) : cl 67 [nds l, .int .i64 a] [] = some (.ret (intsO (kidsAt l a)), []) := by
  have hc := fun d st => there_call (l := l) hb hr (a := a) (d := d) (st := st)
  refine fn_intro Tryz.func67 rfl (by simp) (by decide) rfl ?_
  cases h : thereS l a with
  | false =>
    simp [Tryz.f67, hc, h]
    exact end_is (.inr rfl) (by simp; rfl) rfl (by simp [kidsAt, h, intsO])
  | true =>
    obtain ⟨h0, k, rfl, h1⟩ := thereS_nat h
    obtain ⟨s, h2, h3, h4⟩ := checkS_inner h0 h1
    obtain ⟨h5, _, _⟩ := checkS_ok h0
    have hv := val_call (by omega) hr h2
    simp [Tryz.f67, hc, h, hv, spanV]
    exact end_is (.inr rfl) (by simp; rfl) rfl (by simp [kidsAt, h, h2, intsO])
theorem kids_call {l : List Nd} (hb : l.length ≤ 9223372036854775806) (hr : ∀ n ∈ l, n.inR) {a : Int} {d : Option Nat} {st : ASt} : callV G cl d (.fn (.func 67) [] []) [nds l, .int .i64 a] st = some (.val (intsO (kidsAt l a)) st) :=
  callV_ret E67 (by decide) ext67 rfl rfl (kids_eq l hb hr a) (by cases kidsAt l a <;> rfl)

/-! Ints -/
end Go.Proofs.YtcgkneolohcdeaaGreat


/- What the functions come to: a map's keys, gone through by a function: tree.members, tree.Keys. -/
namespace Go.Proofs.YtcgkneolohcdeaaGreat
open Go Abs
set_option linter.unusedSimpArgs false
set_option linter.unusedVariables false

/-- A call that is handed memory, told by its answer. -/
theorem callB_of {d : Option Nat} {g : FuncId} {first caps args pre : List AV} {st st1 st3 : ASt} {ns : List Nat} {y : ARes × Heap} (hE : G.E g = true) (hg : g < RB) (hpre : prepL G g st.hp (first ++ args ++ caps) 0 = pre)
    (hst : st.fix (prepRows G g (first ++ args ++ caps) 0) = st1) (hns : reachL 40 st1.hp (AV.namesL pre) [] = ns) (hall : (ns.all fun n => (aget st1.hp n).isSome) = true)
    (hc : cl g (AV.renL (toMap ns) pre) (subHeap ns st1.hp) = some y) (ha : afterCall d ns st1 y.2 = some st3) : callB G cl d (.fn (.func g) first caps) args st = some (answered (backMap ns d y.2) st3 y.1, movedOf ns y.2) := by
  simp only [callB, hpre, hst, hns, hE, hg, hall, decide_true, Bool.and_true, if_true, hc, Option.bind_some, ha, Option.map_some]
theorem callV_of {d : Option Nat} {g : FuncId} {first caps args pre : List AV} {st st1 st3 : ASt} {ns : List Nat} {y : ARes × Heap} (hE : G.E g = true) (hg : g < RB) (hx : G.ext g = none) (hpre : prepL G g st.hp (first ++ args ++ caps) 0 = pre)
    (hst : st.fix (prepRows G g (first ++ args ++ caps) 0) = st1) (hns : reachL 40 st1.hp (AV.namesL pre) [] = ns) (hall : (ns.all fun n => (aget st1.hp n).isSome) = true)
    (hc : cl g (AV.renL (toMap ns) pre) (subHeap ns st1.hp) = some y) (ha : afterCall d ns st1 y.2 = some st3) {r : AR} (hr : answered (backMap ns d y.2) st3 y.1 = r) : callV G cl d (.fn (.func g) first caps) args st = some r := by
  unfold callV extA
  simp only [hx, Option.bind_none]
  unfold callA
  rw [callB_of hE hg hpre hst hns hall hc ha, Option.map_some, hr]
/-- A round that is called, told by its answer. -/
theorem callV_yld {d : Option Nat} {id j : Nat} {args pre : List AV} {st st1 st3 : ASt} {ns : List Nat} {y : ARes × Heap} (hpre : AV.rvL st.hp args = pre)
    (hst : st.fix (AV.rowsL args) = st1) (hns : reachL 40 st1.hp (id :: AV.namesL pre) [] = ns) (hall : (ns.all fun n => (aget st1.hp n).isSome) = true) (hj : aget (toMap ns) id = some j)
    (hc : cl (RB + j) (AV.renL (toMap ns) pre) (subHeap ns st1.hp) = some y) (ha : afterCall d ns st1 y.2 = some st3) {r : AR} (hr : answered (backMap ns d y.2) st3 y.1 = r) : callV G cl d (.yld id) args st = some r := by
  unfold callV extA
  simp only []
  unfold callA callB
  simp only [hpre, hst, hns, hall, if_true, hj, Option.bind_some, hc, ha, Option.map_some, hr]

/-- The first loop over a function in some code. -/
def rfsOf : Code → List (Operand × Array Nat × Code × Code)
  | .seq a b => rfsOf a ++ rfsOf b
  | .cond _ a b => rfsOf a ++ rfsOf b
  | .block _ b => rfsOf b
  | .rangeFunc g ps asg body => [(g, ps, asg, body)]
  | _ => []
noncomputable def rcOf (g : FuncId) (f : Func) (st : LoopState) (p : Option Code) : LRec :=
  match rfsOf (f.body.getD .skip) with
  | (_, ps, asg, body) :: _ => ⟨g, G.ntm g, ps, asg, body, st, p⟩
  | [] => default

def strsL (l : List (List UInt8)) : List AV := l.map .str
noncomputable abbrev rec28 : LRec := rcOf 66 Tryz.f66 .ready none
theorem rok28 : G.roundOK rec28 = true := by kernel_rfl
noncomputable def hp28 (l : List Nd) (a : Int) (out : List (List UInt8)) (mv : Bool) : Heap :=
  [(0, .loop rec28 [(5, .ptr 1 0 0), (9, .fn (.func 105) [] [.ptr 2 0 0, .ptr 3 0 0]), (10, .undef)]), (1, .box 60 (.own 4)), (2, .box 22 (nds l)), (3, .box 3 (.int .i64 a)), (4, .row 1 (strsL out) false ⟨mv, 9⟩)]
set_option maxHeartbeats 8000000 in
theorem round28_0 (l : List Nd) (a p : Int) (k : List UInt8) : cl RB [.str k, .int .i64 p] [(0, .loop rec28 [(5, .ptr 1 0 0), (9, .fn (.func 105) [] [.ptr 2 0 0, .ptr 3 0 0]), (10, .undef)]), (1, .box 60 .nils), (2, .box 22 (nds l)), (3, .box 3 (.int .i64 a))] =
    some (.ret (.bool true), [(0, .loop rec28 [(5, .ptr 1 0 0), (9, .fn (.func 105) [] [.ptr 2 0 0, .ptr 3 0 0]), (10, .undef)]), (1, .box 60 (.own 1015)), (2, .box 22 (nds l)), (3, .box 3 (.int .i64 a)), (1015, .row 1 [.str k] false ⟨false, 9⟩)]) := by
  have : RB = RB + 0 := rfl
  rw [this]
  exact round_intro (by kernel_rfl)
set_option maxHeartbeats 8000000 in
theorem round28_1 (l : List Nd) (a p : Int) (k : List UInt8) (out : List (List UInt8)) (ho : out.length ≤ 1000) : cl RB [.str k, .int .i64 p] (hp28 l a out false) = some (.ret (.bool true), hp28 l a (out ++ [k]) true) := by
  have : RB = RB + 0 := rfl
  rw [this]
  have hL : out.length + 1 ≤ LIM := by unfold LIM; omega
  have hr := rok28
  refine round_intro ?_
  unfold runRound
  unfold rec28 rcOf at hr
  simp [hp28, rec28, rcOf, rfsOf, Tryz.f66] at hr ⊢
  simp [hr, appendA, strsL, hL]
  rfl

/-! Seen from the function that goes through them. -/
noncomputable def hpA (l : List Nd) (a : Int) : Heap := [(0, .loop rec28 [(5, .ptr 3 0 0), (9, .fn (.func 105) [] [.ptr 1 0 0, .ptr 2 0 0]), (10, .undef)]), (1, .box 22 (nds l)), (2, .box 3 (.int .i64 a)), (3, .box 60 .nils)]
noncomputable def hpB (l : List Nd) (a : Int) (out : List (List UInt8)) (mv : Bool) : Heap := [(0, .loop rec28 [(5, .ptr 3 0 0), (9, .fn (.func 105) [] [.ptr 1 0 0, .ptr 2 0 0]), (10, .undef)]), (1, .box 22 (nds l)), (2, .box 3 (.int .i64 a)), (3, .box 60 (.own 1016000035)), (1016000035, .row 1 (strsL out) false ⟨mv, 9⟩)]
noncomputable def hpA' (l : List Nd) (a : Int) (k : List UInt8) : Heap :=
  [(0, .loop rec28 [(5, .ptr 3 0 0), (9, .fn (.func 105) [] [.ptr 1 0 0, .ptr 2 0 0]), (10, .undef)]), (3, .box 60 (.own 1016000035)), (1, .box 22 (nds l)), (2, .box 3 (.int .i64 a)), (1016000035, .row 1 [.str k] false ⟨false, 9⟩)] ++ hpA l a
noncomputable def hpB' (l : List Nd) (a : Int) (out : List (List UInt8)) (k : List UInt8) (mv : Bool) : Heap :=
  [(0, .loop rec28 [(5, .ptr 3 0 0), (9, .fn (.func 105) [] [.ptr 1 0 0, .ptr 2 0 0]), (10, .undef)]), (3, .box 60 (.own 1016000035)), (1, .box 22 (nds l)), (2, .box 3 (.int .i64 a)), (1016000035, .row 1 (strsL (out ++ [k])) false ⟨true, 9⟩)] ++
  [(0, .loop rec28 [(5, .ptr 3 0 0), (9, .fn (.func 105) [] [.ptr 1 0 0, .ptr 2 0 0]), (10, .undef)]), (1, .box 22 (nds l)), (2, .box 3 (.int .i64 a)), (3, .box 60 .undef), (1016000035, .row 1 (strsL out) false ⟨mv, 9⟩)]
theorem yield_A (l : List Nd) (a p : Int) (k : List UInt8) (sl : Slots) : callV G cl (some 35) (.yld 0) [.str k, .int .i64 p] ⟨sl, hpA l a⟩ = some (.val (.bool true) ⟨sl, hpA' l a k⟩) :=
  callV_yld (st1 := ⟨sl, hpA l a⟩) (ns := [0, 3, 1, 2]) (j := 0) (pre := [.str k, .int .i64 p]) rfl rfl rfl rfl rfl (by exact round28_0 l a p k) (by kernel_rfl) rfl
theorem yield_B (l : List Nd) (a p : Int) (k : List UInt8) (out : List (List UInt8)) (ho : out.length ≤ 1000) (mv : Bool) (sl : Slots) : callV G cl (some 35) (.yld 0) [.str k, .int .i64 p] ⟨sl, hpB l a out mv⟩ = some (.val (.bool true) ⟨sl.map fun p => (p.1, p.2.kill 1016000035), hpB' l a out k mv⟩) := by
  cases mv <;>
  exact callV_yld (st1 := ⟨sl, hpB l a out _⟩) (ns := [0, 3, 1, 2, 1016000035]) (j := 0) (pre := [.str k, .int .i64 p]) rfl rfl rfl rfl rfl (by exact round28_1 l a p k out ho) (by kernel_rfl) rfl

def sl85 (kids : List Nat) (i : Nat) : Slots := [(0, .yld 0), (1, .ptr 1 0 0), (21, .list 1 (intsL kids)), (22, .int .i64 kids.length), (23, .int .i64 i)]
-- What a loop's head is unfolded by, where there is memory.
attribute [local simp] canonK canonAll canonSlot canonCell canonBox ownStep restrictTo pureCells pureRows reachL AObj.names List.range_succ appendA
set_option maxHeartbeats 8000000 in
theorem round85_A (l : List Nd) (a : Int) (ks : List Nat) (q : Nat) (hk : (q :: ks).length ≤ 1000) (hq0 : 0 < q) (hq1 : q ≤ 1000) (n : Nd) (hn : l[q - 1]? = some n) :
    rX 105 (lc Tryz.f105 0) (codeX G cl lp 105 (lc Tryz.f105 0) ⟨sl85 (q :: ks) 0, hpA l a⟩) = some (.normal, ⟨sl85 (q :: ks) 1, hpB l a [n.text] false⟩) := by
  have hw : IntKind.i64.wrap ((q : Int) - 1) = ((q - 1 : Nat) : Int) := by rw [i64_wrap (by omega) (by omega)]; omega
  have hy := fun sl => yield_A l a q n.text sl
  have hw1 : IntKind.i64.wrap 1 = 1 := rfl
  have hpos : (0 : Int) < (ks.length : Int) + 1 := by omega
  simp only [hpA] at hy
  simp [lc, loopsOf, Tryz.f105, sl85, hpA]
  simp [intsL, nds, Nd.v, hw, hn, hpos]
  simp only [nds] at hy
  simp [hy, hpA', hpA, nds]
  exact ⟨rfl, rfl⟩
set_option maxHeartbeats 8000000 in
theorem round85_B (l : List Nd) (a : Int) (kids : List Nat) (hk : kids.length ≤ 1000) (i q : Nat) (hi : kids[i]? = some q) (hq0 : 0 < q) (hq1 : q ≤ 1000) (n : Nd) (hn : l[q - 1]? = some n) (out : List (List UInt8)) (ho : out.length ≤ 1000) (mv : Bool) :
    rX 105 (lc Tryz.f105 0) (codeX G cl lp 105 (lc Tryz.f105 0) ⟨sl85 kids i, hpB l a out mv⟩) = some (.normal, ⟨sl85 kids (i + 1), hpB l a (out ++ [n.text]) true⟩) := by
  have hlt : i < kids.length := (List.getElem?_eq_some_iff.1 hi).1
  have hw : IntKind.i64.wrap ((q : Int) - 1) = ((q - 1 : Nat) : Int) := by rw [i64_wrap (by omega) (by omega)]; omega
  have hw1 : IntKind.i64.wrap ((i : Int) + 1) = (i : Int) + 1 := i64_wrap (by omega) (by omega)
  have hy := fun sl => yield_B l a q n.text out ho mv sl
  simp only [hpB, nds] at hy
  simp [lc, loopsOf, Tryz.f105, sl85, hpB]
  have e : kids[i] = q := (List.getElem?_eq_some_iff.1 hi).2
  simp [intsL, nds, Nd.v, hw, hn, hlt, e, hw1]
  simp [hy, hpB', nds]
  exact ⟨hw1, rfl⟩
theorem exit85 (l : List Nd) (a : Int) (kids : List Nat) (i : Nat) (hi : kids.length ≤ i) (hp : Heap) :
    rX 105 (lc Tryz.f105 0) (codeX G cl lp 105 (lc Tryz.f105 0) ⟨sl85 kids i, hp⟩) = some (.exit 0, ⟨sl85 kids i ++ [(24, .bool false)], hp⟩) := by
  have h1 : ¬ i < kids.length := by omega
  simp [lc, loopsOf, Tryz.f105, sl85, h1]

/-- The texts ahead of the places. -/
def textsS (l : List Nd) (kids : List Nat) : List (List UInt8) := kids.map fun q => ((l[q - 1]?).map (·.text)).getD []
def goodK (l : List Nd) (kids : List Nat) : Prop := kids.length ≤ 1000 ∧ ∀ q ∈ kids, 0 < q ∧ q ≤ 1000 ∧ q - 1 < l.length
theorem loop85_B (l : List Nd) (a : Int) (kids : List Nat) (hk : goodK l kids) : ∀ (c i : Nat) (mv : Bool), i + c = kids.length → ∃ mv' sl, lp 105 (lc Tryz.f105 0) ⟨sl85 kids i, hpB l a (textsS l (kids.take i)) mv⟩ = some (.exit 0, ⟨sl, hpB l a (textsS l kids) mv'⟩) := by
  intro c
  induction c with
  | zero =>
    intro i mv hi
    refine ⟨mv, sl85 kids i ++ [(24, .bool false)], loop_out ?_ (by simp)⟩
    rw [List.take_of_length_le (by omega)]
    exact exit85 l a kids i (by omega) _
  | succ c ih =>
    intro i mv hi
    have hlt : i < kids.length := by omega
    have hq : kids[i]? = some kids[i] := List.getElem?_eq_getElem hlt
    obtain ⟨q1, q2, q3⟩ := hk.2 kids[i] (List.getElem_mem hlt)
    have hn : l[kids[i] - 1]? = some l[kids[i] - 1] := List.getElem?_eq_getElem q3
    have h := round85_B l a kids hk.1 i kids[i] hq q1 q2 _ hn (textsS l (kids.take i)) (by simp [textsS]; have := hk.1; omega) mv
    have e : textsS l (kids.take i) ++ [l[kids[i] - 1].text] = textsS l (kids.take (i + 1)) := by
      rw [List.take_add_one, hq]
      simp only [textsS, Option.toList_some, List.map_append, List.map_cons, List.map_nil, hn, Option.map_some, Option.getD_some]
    rw [e] at h
    obtain ⟨mv', sl, hx⟩ := ih (i + 1) true (by omega)
    exact ⟨mv', sl, loop_next h hx⟩
theorem loop85 (l : List Nd) (a : Int) (kids : List Nat) (hk : goodK l kids) : ∃ mv sl, lp 105 (lc Tryz.f105 0) ⟨sl85 kids 0, hpA l a⟩ = some (.exit 0, ⟨sl, if kids = [] then hpA l a else hpB l a (textsS l kids) mv⟩) := by
  cases kids with
  | nil =>
    refine ⟨false, sl85 [] 0 ++ [(24, .bool false)], loop_out ?_ (by simp)⟩
    exact exit85 l a [] 0 (by simp) _
  | cons q ks =>
    obtain ⟨q1, q2, q3⟩ := hk.2 q (by simp)
    have hn : l[q - 1]? = some l[q - 1] := List.getElem?_eq_getElem q3
    have h := round85_A l a ks q hk.1 q1 q2 _ hn
    obtain ⟨mv', sl, hx⟩ := loop85_B l a (q :: ks) hk ks.length 1 false (by simp; omega)
    have e : textsS l ((q :: ks).take 1) = [l[q - 1].text] := by simp [textsS, hn]
    rw [e] at hx
    exact ⟨mv', sl, by rw [if_neg (by simp)]; exact loop_next h hx⟩

theorem there_c {l : List Nd} (hb : l.length ≤ 9223372036854775806) (hr : ∀ n ∈ l, n.inR) {a : Int} {d : Option Nat} {st : ASt} : callV G cl d (.fn (.func 94) [] []) [.list 4 (l.map Nd.v), .int .i64 a] st = some (.val (.bool (thereS l a)) st) := there_call hb hr
theorem kidsS_pos {val : Nat → Option Span} {l : List Nd} {m : Bool} (hsp : ∀ st s, val st = some s → st < s.stop ∧ s.stop ≤ l.length) : ∀ {c i s last r}, kidsS val l m c i s last = some r → 0 < s.stop → (∀ q ∈ s.kids, 0 < q ∧ q < l.length) → ∀ q ∈ r.kids, 0 < q ∧ q < l.length := by
  intro c
  induction c with
  | zero => intro i s last r hr h1 h2; cases hr; exact h2
  | succ c ih =>
    intro i s last r hr h1 h2
    simp only [kidsS] at hr
    rw [Option.bind_eq_some_iff] at hr; obtain ⟨p, hp, hr⟩ := hr
    rw [Option.bind_eq_some_iff] at hr; obtain ⟨kid, hk, hr⟩ := hr
    have hge := keyS_ge hp
    have hlt := hsp _ _ hk
    refine ih hr (by simp only; omega) (fun q hq => ?_)
    rcases List.mem_append.1 hq with h | h
    · exact h2 q h
    · obtain rfl : q = p.1 := by simpa using h
      omega
theorem valS_goodK {l : List Nd} (hl : l.length ≤ 900) {k a : Nat} {s : Span} (h : valS l k a = some s) : goodK l s.kids := by
  cases k with
  | zero => cases h
  | succ k =>
    rw [valS, Option.bind_eq_some_iff] at h
    obtain ⟨n, hn, h⟩ := h
    split at h
    · obtain ⟨r, hr, rfl⟩ := Option.map_eq_some_iff.1 h
      refine ⟨?_, fun q hq => ?_⟩
      · have : ∀ {c i s last r}, kidsS (valS l k) l (decide (n.kind = 5)) c i s last = some r → s.kids.length ≤ s.stop → r.kids.length ≤ r.stop := by
          intro c
          induction c with
          | zero => intro i s last r hr h; cases hr; exact h
          | succ c ih =>
            intro i s last r hr h
            simp only [kidsS] at hr
            rw [Option.bind_eq_some_iff] at hr; obtain ⟨p, hp, hr⟩ := hr
            rw [Option.bind_eq_some_iff] at hr; obtain ⟨kid, hk, hr⟩ := hr
            have hge := keyS_ge hp
            have hlt := valS_spec hk
            exact ih hr (by simp; omega)
        have h1 := this hr (by simp)
        have h2 := (kidsS_spec (A := 0) (fun st s hs => by have := valS_spec hs; omega) hr (by simp only; have := (List.getElem?_eq_some_iff.1 hn).1; omega) (by simp) (by simp)).2.1
        simp only; omega
      · have := kidsS_pos (fun st s hs => by have := valS_spec hs; omega) hr (by simp) (by simp) q hq
        omega
    · cases h

/-- A map's keys, if there is one at a place. -/
def keysAt (l : List Nd) (a : Int) : List (List UInt8) :=
  if thereS l a && mapAt l a.toNat then textsS l (((valS l (l.length + 1) a.toNat).map (·.kids)).getD []) else []

theorem oren_loop {m : List (Nat × Nat)} {r : LRec} {sl : Slots} : AObj.ren m (.loop r sl) = .loop r (sl.map fun p => (p.1, p.2.ren m)) := rfl
def heap85 (l : List Nd) (a : Int) (h : Heap) : Prop := (keysAt l a = [] ∧ h = hpA l a) ∨ (keysAt l a ≠ [] ∧ ∃ mv, h = hpB l a (keysAt l a) mv)
theorem end85 {l : List Nd} {a : Int} {sl : Slots} {h : Heap} {x : AX} (hx : x = .normal ∨ x = .ret) (hh : heap85 l a h) : endX G 105 [0, 1, 2, 3] [] (some (x, ⟨sl, h⟩)) = some (.ret (.tup []), h) := by
  rcases hh with ⟨h1, rfl⟩ | ⟨h1, mv, rfl⟩
  · rcases hx with rfl | rfl <;> kernel_rfl
  · rcases hx with rfl | rfl <;> kernel_rfl
set_option maxHeartbeats 8000000 in
theorem members_eq (l : List Nd) (hb : l.length ≤ 9223372036854775806) (hr : ∀ n ∈ l, n.inR) (a : Int) : ∃ h, cl 105 [.yld 0, .ptr 1 0 0, .ptr 2 0 0] (hpA l a) = some (.ret (.tup []), h) ∧ heap85 l a h := by
  have hc := fun d st => there_c (l := l) hb hr (a := a) (d := d) (st := st)
  cases h : thereS l a with
  | false =>
    have hh : heap85 l a (hpA l a) := .inl ⟨by simp [keysAt, h], rfl⟩
    refine ⟨_, fn_intro Tryz.func105 rfl (by simp) (by decide) rfl ?_, hh⟩
    simp [Tryz.f105, hpA, nds, hc, h]
    exact end85 (.inr rfl) hh
  | true =>
    obtain ⟨h0, k, rfl, h1⟩ := thereS_nat h
    obtain ⟨s, h2, h3, h4⟩ := checkS_inner h0 h1
    obtain ⟨h5, _, _⟩ := checkS_ok h0
    have hv := val_call (by omega) hr h2
    simp only [nds] at hv
    obtain ⟨n, hn⟩ : ∃ n, l[k]? = some n := ⟨l[k], List.getElem?_eq_getElem h1⟩
    have e : l[k] = n := (List.getElem?_eq_some_iff.1 hn).2
    by_cases hk : n.kind = 5
    · have hm : mapAt l k = true := by unfold mapAt; rw [hn]; simp [hk]
      have hks : keysAt l k = textsS l s.kids := by simp [keysAt, h, hm, h2]
      obtain ⟨mv, sl, hlp⟩ := loop85 l k s.kids (valS_goodK (by omega) h2)
      have hh : heap85 l k (if s.kids = [] then hpA l k else hpB l k (textsS l s.kids) mv) := by
        unfold heap85
        rw [hks]
        by_cases hz : s.kids = []
        · rw [if_pos hz]; exact .inl ⟨by simp [textsS, hz], rfl⟩
        · rw [if_neg hz]; exact .inr ⟨by simp [textsS, hz], mv, rfl⟩
      refine ⟨_, fn_intro Tryz.func105 rfl (by simp) (by decide) rfl ?_, hh⟩
      simp [lc, loopsOf, Tryz.f105, sl85, intsL, hpA, nds] at hlp
      simp [Tryz.f105, hpA, nds, hc, h, h1, e, hk, hv, spanV, Nd.v, intsL, oren_loop]
      rw [hlp]
      exact end85 (.inl rfl) hh
    · have hm : mapAt l k = false := by unfold mapAt; rw [hn]; simp [hk]
      have hh : heap85 l k (hpA l k) := .inl ⟨by simp [keysAt, hm], rfl⟩
      refine ⟨_, fn_intro Tryz.func105 rfl (by simp) (by decide) rfl ?_, hh⟩
      simp [Tryz.f105, hpA, nds, hc, h, h1, e, hk, Nd.v]
      exact end85 (.inr rfl) hh
end Go.Proofs.YtcgkneolohcdeaaGreat


/- What the functions come to: tree.Keys. -/
namespace Go.Proofs.YtcgkneolohcdeaaGreat
open Go Abs
set_option linter.unusedSimpArgs false
set_option linter.unusedVariables false

/-- A loop over a function, told by the call of that function. -/
theorem rf_of {f : FuncId} {g : Operand} {ps : Array Nat} {asg body : Code} {st s : ASt} {v : AV} {M : List Nat} {r : LRec} {sl : Slots} {x : AX} {L d : Nat} (hL : L = 20000 + firstRegion body) (hd : d = 30000 + firstRegion body)
    (h1 : (aget st.hp L).isSome = false) (h2 : G.roundOK ⟨f, G.ntm f, ps, asg, body, .ready, none⟩ = true) (h3 : isFn (st.ev g) = true)
    (hc : callB G cl (some d) (st.ev g) [.yld L] { st with hp := (L, .loop ⟨f, G.ntm f, ps, asg, body, .ready, none⟩ st.sl) :: st.hp } = some (.val v s, M))
    (h4 : M.contains L = false) (h5 : aget s.hp L = some (.loop r sl)) (h6 : r.state ≠ .busy) (h7 : jumpX r.pending = some x) :
    codeX G cl lp f (.rangeFunc g ps asg body) st = some (x, { s with hp := hput L (.loop { r with state := .exhausted } sl) s.hp }) := by
  subst hL hd
  unfold codeX
  simp only [h1, h2, h3, Bool.not_true, Bool.or_false, Bool.false_eq_true, if_false, hc, Option.bind_some, h4, h5, h6, h7, Option.map_some]

theorem members_fn (l : List Nd) (a : Int) : cl 93 [nds l, .int .i64 a] [] = some (.ret (.fn (.func 105) [] [.ptr 1002 0 0, .ptr 1003 0 0]), [(1002, .box 22 (nds l)), (1003, .box 3 (.int .i64 a))]) :=
  call_intro (by decide) rfl (by kernel_rfl)
theorem members28 (l : List Nd) (a : Int) (sl : Slots) : callV G cl (some 9) (.fn (.func 93) [] []) [nds l, .int .i64 a] ⟨sl, [(1005, .box 60 .nils)]⟩ =
    some (.val (.fn (.func 105) [] [.ptr 1003000009 0 0, .ptr 1004000009 0 0]) ⟨sl, [(1003000009, .box 22 (nds l)), (1004000009, .box 3 (.int .i64 a)), (1005, .box 60 .nils)]⟩) :=
  callV_of (pre := [nds l, .int .i64 a]) (st1 := ⟨sl, [(1005, .box 60 .nils)]⟩) (ns := []) E93 (by decide) ext93 rfl rfl rfl rfl (by exact members_fn l a) (by kernel_rfl) rfl

def sl28 : Slots := [(5, .ptr 1005 0 0), (9, .fn (.func 105) [] [.ptr 1003000009 0 0, .ptr 1004000009 0 0]), (10, .undef)]
noncomputable def hp28o (l : List Nd) (a : Int) : Heap := [(20004, .loop rec28 sl28), (1003000009, .box 22 (nds l)), (1004000009, .box 3 (.int .i64 a)), (1005, .box 60 .nils)]
noncomputable def after28 (l : List Nd) (a : Int) (h : Heap) : Heap := ((afterCall (some 30004) [20004, 1003000009, 1004000009, 1005] ⟨sl28, hp28o l a⟩ h).getD default).hp
noncomputable def done28 (l : List Nd) (a : Int) (h : Heap) : Heap := hput 20004 (.loop (rcOf 66 Tryz.f66 .exhausted none) sl28) (after28 l a h)
theorem range28_A (l : List Nd) (a : Int) (h : cl 105 [.yld 0, .ptr 1 0 0, .ptr 2 0 0] (hpA l a) = some (.ret (.tup []), hpA l a)) :
    callB G cl (some 30004) (.fn (.func 105) [] [.ptr 1003000009 0 0, .ptr 1004000009 0 0]) [.yld 20004] ⟨sl28, hp28o l a⟩ = some (.val (.tup []) ⟨sl28, after28 l a (hpA l a)⟩, []) :=
  callB_of (pre := [.yld 20004, .ptr 1003000009 0 0, .ptr 1004000009 0 0]) (st1 := ⟨sl28, hp28o l a⟩) (ns := [20004, 1003000009, 1004000009, 1005]) E105 (by decide) rfl rfl rfl rfl (by exact h) (by kernel_rfl)
noncomputable def after28B (l : List Nd) (a : Int) (out : List (List UInt8)) (mv : Bool) : Heap :=
  [(20004, .loop rec28 sl28), (1003000009, .box 22 (nds l)), (1004000009, .box 3 (.int .i64 a)), (1005, .box 60 (.own 1016000036030004)), (1016000036030004, .row 1 (strsL out) false ⟨mv, 9⟩)] ++ hp28o l a
theorem nn28 : newName 30004 1016000035 = 1016000036030004 := by decide
theorem after28B_eq (l : List Nd) (a : Int) (out : List (List UInt8)) (mv : Bool) : afterCall (some 30004) [20004, 1003000009, 1004000009, 1005] ⟨sl28, hp28o l a⟩ (hpB l a out mv) = some ⟨sl28, after28B l a out mv⟩ := by
  cases mv <;> simp [afterCall, hpB, hp28o, backName, backMap, afterHeap, movedOf, killAll, zipIx, nn28, AObj.moved, AObj.isRow, AObj.ormv, nds, sl28, after28B, oren_loop]
theorem range28_B (l : List Nd) (a : Int) (out : List (List UInt8)) (mv : Bool) (h : cl 105 [.yld 0, .ptr 1 0 0, .ptr 2 0 0] (hpA l a) = some (.ret (.tup []), hpB l a out mv)) :
    callB G cl (some 30004) (.fn (.func 105) [] [.ptr 1003000009 0 0, .ptr 1004000009 0 0]) [.yld 20004] ⟨sl28, hp28o l a⟩ = some (.val (.tup []) ⟨sl28, after28B l a out mv⟩, []) := by
  have := callB_of (d := some 30004) (first := []) (caps := [.ptr 1003000009 0 0, .ptr 1004000009 0 0]) (args := [.yld 20004]) (st := ⟨sl28, hp28o l a⟩) (y := (.ret (.tup []), hpB l a out mv)) (pre := [.yld 20004, .ptr 1003000009 0 0, .ptr 1004000009 0 0]) (st1 := ⟨sl28, hp28o l a⟩) (ns := [20004, 1003000009, 1004000009, 1005]) E105 (by decide) rfl rfl rfl rfl (by exact h) (after28B_eq l a out mv)
  rw [this]
  cases mv <;> simp [answered, movedOf, hpB, zipIx, AObj.moved]
def strsV (l : List (List UInt8)) : AV := if l = [] then .nils else .list 1 (strsL l)
noncomputable def rf28 : Code := match rfsOf (Tryz.f66.body.getD .skip) with | (g, ps, asg, body) :: _ => .rangeFunc g ps asg body | [] => .skip
noncomputable abbrev at28 (l : List Nd) (a : Int) : ASt := ⟨sl28, [(1003000009, .box 22 (nds l)), (1004000009, .box 3 (.int .i64 a)), (1005, .box 60 .nils)]⟩
theorem st28_A (l : List Nd) (a : Int) (h : cl 105 [.yld 0, .ptr 1 0 0, .ptr 2 0 0] (hpA l a) = some (.ret (.tup []), hpA l a)) : codeX G cl lp 66 rf28 (at28 l a) = some (.normal, ⟨sl28, done28 l a (hpA l a)⟩) := by
  have := rf_of (f := 66) (g := .tmp 9) (ps := rec28.ps) (asg := rec28.assign) (body := rec28.body) (st := at28 l a) (L := 20004) (d := 30004) (r := rec28) (sl := sl28) (x := .normal) (s := ⟨sl28, after28 l a (hpA l a)⟩) (v := .tup []) (M := [])
    (by kernel_rfl) (by kernel_rfl) rfl rok28 rfl (by exact range28_A l a h) rfl (by kernel_rfl) (by simp [rec28, rcOf, rfsOf, Tryz.f66]) (by kernel_rfl)
  exact this
noncomputable def done28B (l : List Nd) (a : Int) (out : List (List UInt8)) (mv : Bool) : Heap := hput 20004 (.loop (rcOf 66 Tryz.f66 .exhausted none) sl28) (after28B l a out mv)
theorem st28_B (l : List Nd) (a : Int) (out : List (List UInt8)) (mv : Bool) (h : cl 105 [.yld 0, .ptr 1 0 0, .ptr 2 0 0] (hpA l a) = some (.ret (.tup []), hpB l a out mv)) : codeX G cl lp 66 rf28 (at28 l a) = some (.normal, ⟨sl28, done28B l a out mv⟩) := by
  have := rf_of (f := 66) (g := .tmp 9) (ps := rec28.ps) (asg := rec28.assign) (body := rec28.body) (st := at28 l a) (L := 20004) (d := 30004) (r := rec28) (sl := sl28) (x := .normal) (s := ⟨sl28, after28B l a out mv⟩) (v := .tup []) (M := [])
    (by kernel_rfl) (by kernel_rfl) rfl rok28 rfl (by exact range28_B l a out mv h) rfl (by kernel_rfl) (by simp [rec28, rcOf, rfsOf, Tryz.f66]) (by kernel_rfl)
  exact this
set_option maxHeartbeats 8000000 in
theorem keys_eq (l : List Nd) (hb : l.length ≤ 9223372036854775806) (hr : ∀ n ∈ l, n.inR) (a : Int) : cl 66 [nds l, .int .i64 a] [] = some (.ret (strsV (keysAt l a)), []) := by
  obtain ⟨h, h1, h2⟩ := members_eq l hb hr a
  have hm := members28 l a
  refine fn_intro Tryz.func66 rfl (by simp) (by decide) rfl ?_
  rcases h2 with ⟨h3, rfl⟩ | ⟨h3, mv, rfl⟩
  · have hs := st28_A l a h1
    simp [rf28, rfsOf, Tryz.f66] at hs
    simp only [nds, sl28, at28] at hs hm
    have e : sl28 = [(5, .ptr 1005 0 0), (9, .fn (.func 105) [] [.ptr 1003000009 0 0, .ptr 1004000009 0 0]), (10, .undef)] := rfl
    have hb1 : aget (done28 l a (hpA l a)) 1005 = some (.box 60 .nils) := by kernel_rfl
    simp [Tryz.f66, nds, hm, hs, allocX, newObj, hb1]
    exact end_rv (.inr rfl) (by simp; rfl) (by simp) (by rw [h3]; rfl) (by unfold strsV; split <;> rfl)
  · have hs := st28_B l a _ mv h1
    simp [rf28, rfsOf, Tryz.f66] at hs
    simp only [nds, sl28, at28] at hs hm
    have hb1 : aget (done28B l a (keysAt l a) mv) 1005 = some (.box 60 (.own 1016000036030004)) := by kernel_rfl
    have hb2 : aget (done28B l a (keysAt l a) mv) 1016000036030004 = some (.row 1 (strsL (keysAt l a)) false ⟨mv, 9⟩) := by kernel_rfl
    simp [Tryz.f66, nds, hm, hs, allocX, newObj, hb1]
    exact end_rv (.inr rfl) (by simp; rfl) (by simp) (by simp [hb2, strsV, h3]) (by unfold strsV; split <;> rfl)
end Go.Proofs.YtcgkneolohcdeaaGreat


/- What TreeChecks comes to. -/
namespace Go.Proofs.YtcgkneolohcdeaaGreat
open Go Abs
set_option linter.unusedSimpArgs false
set_option linter.unusedVariables false

theorem few_call {l : List Nd} {d : Option Nat} {st : ASt} : callV G cl d (.fn (.func 19) [] []) [nds l] st = some (.val (.bool (fewS l)) st) :=
  callV_ret E19 (by decide) ext19 rfl rfl (few_eq l) rfl
theorem fewS_len {l : List Nd} (h : fewS l = true) : l.length ≤ 130 := by
  unfold fewS at h
  simp only [Bool.and_eq_true, decide_eq_true_eq] at h
  exact h.1

end Go.Proofs.YtcgkneolohcdeaaGreat


/- What TreeCovers comes to. -/
namespace Go.Proofs.YtcgkneolohcdeaaGreat
open Go Abs
set_option linter.unusedSimpArgs false
set_option linter.unusedVariables false

theorem keys_call {l : List Nd} (hb : l.length ≤ 9223372036854775806) (hr : ∀ n ∈ l, n.inR) {a : Int} {d : Option Nat} {st : ASt} : callV G cl d (.fn (.func 66) [] []) [nds l, .int .i64 a] st = some (.val (strsV (keysAt l a)) st) :=
  callV_ret E66 (by decide) ext66 rfl rfl (keys_eq l hb hr a) (by unfold strsV; split <;> rfl)

@[simp] theorem plainBL_strs {l : List (List UInt8)} : AV.plainBL (strsL l) = true := plainBL_map (fun a => rfl) l

theorem there_in {l : List Nd} (hc : checkS l = 0) {p : Nat} (hp : p < l.length) : thereS l (p : Int) = true := by
  unfold thereS; simp [hc, hp]
theorem sub_at {l : List Nd} (hr : ∀ n ∈ l, n.inR) (hc : checkS l = 0) {k p : Nat} {kid : Span} (hk : k ≤ l.length + 1) (h : valS l k p = some kid) : subS l (p : Int) = some (cutS l p kid.stop) := by
  have h2 := valS_spec h
  unfold subS
  rw [there_in hc (by omega), if_pos rfl, Int.toNat_natCast, valS_mono h hk]; rfl
theorem sub_at_call {l : List Nd} (hr : ∀ n ∈ l, n.inR) (hc : checkS l = 0) {k p : Nat} {kid : Span} (hk : k ≤ l.length + 1) (h : valS l k p = some kid) (d : Option Nat) (st : ASt) :
    callV G cl d (.fn (.func 68) [] []) [nds l, .int .i64 (p : Int)] st = some (.val (nds (cutS l p kid.stop)) st) := by
  have := sub_call (l := l) (by have := (checkS_ok hc).1; omega) hr (a := (p : Int)) (d := d) (st := st)
  rw [sub_at hr hc hk h] at this; exact this

theorem valS_map {l : List Nd} {k a : Nat} {s : Span} (h : valS l (k + 1) a = some s) : ∃ n r, l[a]? = some n ∧ fitsS n = true ∧ kidsS (valS l k) l (mapAt l a) n.kids.toNat 0 ⟨a + 1, 0, []⟩ [] = some r ∧ s = { r with deep := r.deep + 1 } := by
  rw [valS, Option.bind_eq_some_iff] at h
  obtain ⟨n, hn, h⟩ := h
  split at h
  · rename_i hf
    obtain ⟨r, hr, rfl⟩ := Option.map_eq_some_iff.1 h
    refine ⟨n, r, hn, hf, ?_, rfl⟩
    unfold mapAt
    rw [hn]; exact hr
  · cases h
end Go.Proofs.YtcgkneolohcdeaaGreat


/- What the functions come to: texts that are the same; the document's Keys and Member. -/
namespace Go.Proofs.YtcgkneolohcdeaaGreat
open Go Abs
set_option linter.unusedSimpArgs false
set_option linter.unusedVariables false

@[simp high] theorem rowV_len {hp : Heap} {e : TypeId} {l : List Nat} : lenD hp (some (.slice e)) (rowV l) = some (.int .i64 l.length) := by
  unfold rowV
  split
  · rename_i h; subst h; rfl
  · simp [intsL]

/-! Texts -/
@[simp] theorem strsL_nil : strsL [] = [] := rfl
/-! The document's Keys -/
attribute [local simp] canonK canonAll canonSlot canonCell canonBox ownStep restrictTo pureCells pureRows reachL AObj.names List.range_succ appendA seenV
/-! The document's Member -/
theorem kidsS_lt {l : List Nd} {k a : Nat} {s : Span} (h : valS l k a = some s) {q : Nat} (hq : q ∈ s.kids) : q < l.length := by
  cases k with
  | zero => cases h
  | succ k =>
    obtain ⟨n, r, hn, hf, hr, rfl⟩ := valS_map h
    exact (kidsS_pos (fun st s hs => by have := valS_spec hs; omega) hr (by simp) (by simp) q hq).2
end Go.Proofs.YtcgkneolohcdeaaGreat


/- What the functions come to: tree.Member. -/
namespace Go.Proofs.YtcgkneolohcdeaaGreat
open Go Abs
set_option linter.unusedSimpArgs false
set_option linter.unusedVariables false

/-! Seen from the function that goes through them. -/
def slM : Slots := [(2, .ptr 3 0 0), (3, .ptr 4 0 0), (4, .ptr 5 0 0), (5, .ptr 6 0 0), (9, .fn (.func 105) [] [.ptr 1 0 0, .ptr 2 0 0]), (10, .undef), (11, .undef)]
noncomputable def hpM (l : List Nd) (a : Int) (key : List UInt8) (rc : LRec) (o ok : AV) : Heap :=
  [(0, .loop rc slM), (1, .box 22 (nds l)), (2, .box 3 (.int .i64 a)), (3, .box 22 (nds l)), (4, .box 9 (.str key)), (5, .box 22 o), (6, .box 4 ok)]
attribute [local simp] canonK canonAll canonSlot canonCell canonBox ownStep restrictTo pureCells pureRows reachL AObj.names List.range_succ appendA
/-! Seen from tree.Member -/
@[simp] theorem nds_rv {hp} {l : List Nd} : (nds l).rv hp = nds l := rfl
@[simp] theorem nds_names {l : List Nd} : (nds l).names = [] := rfl
@[simp] theorem nds_rows {l : List Nd} : (nds l).rows = [] := rfl
@[simp] theorem nds_cells {l : List Nd} : (nds l).cells = [nds l] := rfl
@[simp] theorem nds_okc {l : List Nd} : okCell (nds l) = true := rfl
@[simp] theorem nds_kno {l : List Nd} : (nds l).known = true := rfl
@[simp] theorem nds_isA {l : List Nd} : (nds l).isA = false := rfl
@[simp] theorem nds_pur {l : List Nd} : (nds l).pureB = true := pur_list
@[simp] theorem src_nds {hp} {l : List Nd} : srcEls hp 4 (nds l) = some (l.map Nd.v) := by simp [nds]
@[simp] theorem nds_ren {m} {l : List Nd} : (nds l).ren m = nds l := rfl
@[simp] theorem nds_kill {n} {l : List Nd} : (nds l).kill n = nds l := rfl
@[simp] theorem nds_len {hp} {e : TypeId} {l : List Nd} : lenD hp (some (.slice e)) (nds l) = some (.int .i64 l.length) := by simp [nds]
@[simp] theorem nds_plain {l : List Nd} : (nds l).plainB = true := by unfold nds; exact plainBL_map (fun _ => rfl) l
end Go.Proofs.YtcgkneolohcdeaaGreat


/- What the functions come to: slices.Concat, tree.checked, tree.List. -/
namespace Go.Proofs.YtcgkneolohcdeaaGreat
open Go Abs
set_option linter.unusedSimpArgs false
set_option linter.unusedVariables false

def ndsL (kids : List (List Nd)) : List AV := kids.map nds
@[simp] theorem ndsL_length {kids} : (ndsL kids).length = kids.length := by simp [ndsL]
theorem ndsL_get {kids : List (List Nd)} {i : Nat} {m : List Nd} (h : kids[i]? = some m) : (ndsL kids)[i]? = some (nds m) := by simp [ndsL, h]
@[simp] theorem ndsL_plain {kids : List (List Nd)} : AV.plainBL (ndsL kids) = true := plainBL_map (fun a => by simp only [nds, AV.plainB]; exact plainBL_map (fun _ => rfl) a) kids
/-! Grow -/
/-! Concat -/
attribute [local simp] canonK canonAll canonSlot canonCell canonBox ownStep restrictTo pureCells pureRows reachL AObj.names List.range_succ appendA
theorem prepL_rv {g : FuncId} {hp : Heap} (hin : ∀ j, G.inplace g j = false) : ∀ {l : List AV} {j : Nat}, prepL G g hp l j = AV.rvL hp l
  | [], _ => rfl
  | a :: l, j => by simp only [prepL, hin, Bool.false_eq_true, if_false, prepL_rv hin (l := l), rvL_cons]
theorem prepRows_rv {g : FuncId} (hin : ∀ j, G.inplace g j = false) : ∀ {l : List AV} {j : Nat}, prepRows G g l j = AV.rowsL l
  | [], _ => rfl
  | a :: l, j => by simp only [prepRows, hin, Bool.false_eq_true, if_false, prepRows_rv hin (l := l), rowsL_cons]
theorem inp_false {g : FuncId} (h : inpT.contains g = false) (j : Nat) : G.inplace g j = false := by
  show (inpT.contains g && j == 0) = false
  rw [h]; rfl
/-- A call that is handed rows, told as lists. -/
theorem callV_rv {d : Option Nat} {g : FuncId} {first caps args all pre : List AV} {st : ASt} {v : AV} (hE : G.E g = true) (hg : g < RB) (hx : G.ext g = none) (hin : inpT.contains g = false) (ha : first ++ args ++ caps = all)
    (hpre : AV.rvL st.hp all = pre) (hn : AV.namesL pre = []) (hc : cl g pre [] = some (.ret v, [])) (hv : v.names = []) : callV G cl d (.fn (.func g) first caps) args st = some (.val v (st.fix (AV.rowsL all))) := by
  subst ha
  refine callV_of (pre := pre) (st1 := st.fix (AV.rowsL (first ++ args ++ caps))) (ns := []) (y := (.ret v, [])) hE hg hx ?_ ?_ ?_ rfl ?_ (st3 := st.fix (AV.rowsL (first ++ args ++ caps))) ?_ ?_
  · rw [prepL_rv (inp_false hin), hpre]
  · rw [prepRows_rv (inp_false hin)]
  · rw [hn]; rfl
  · rw [nameless_ren.nameless_renL hn]; exact hc
  · rfl
  · simp only [answered, nameless_ren hv]

end Go.Proofs.YtcgkneolohcdeaaGreat


/- The arguments, as they lie in memory: rows of whatever is known. -/
namespace Go.Proofs.YtcgkneolohcdeaaGreat
open Go Abs Go.RowKit
set_option linter.unusedSimpArgs false
set_option linter.unusedVariables false
section
variable {H : Type} {enc : TypeId × Value → H} {W : World}
/-- A row, whose elements are known when they are opened. -/
theorem slice_open {T E : TypeId} {sz : Nat} (hT : Tryz.prog.underlying T = some (.slice E)) (hc : Tryz.prog.cellsOf E = sz) (hz : 0 < sz) {α : Type} [Inhabited α] (V : α → AV) (good : α → Prop) (hcells : ∀ x, (V x).cells.length = sz)
    (elem : ∀ {n : Nat} {cs : List Value} {x : DataW H × List MemPlace}, DataW.trod enc Tryz.prog W 0 (fun _ => true) true n E cs = some x → ∃ a, good a ∧ cs.length = sz ∧ ∀ (j : Nat) c, (V a).cells[j]? = some c → ∃ u, cs[j]? = some u ∧ PR (allS W) W c u ∧ scalarV u = true)
    {n : Nat} {cs : List Value} {x : DataW H × List MemPlace} (h : DataW.trod enc Tryz.prog W 0 (fun _ => true) true n T cs = some x) :
    ∃ (v : Value) (l : List α), cs = [v] ∧ (∀ a ∈ l, good a) ∧ PR (allS W) W (.list sz (l.map V)) v := by
  rcases Deep.open_slice hT h with ⟨rfl, _⟩ | ⟨a, len, cap, m, n', D, Pl, rfl, _, hlc, hcm, hm, _, hel⟩
  · exact ⟨_, [], rfl, fun m hm => by simp at hm, .empty sz none 0 (fun e => by omega)⟩
  · simp only [if_true] at hm
    subst hm
    have each : ∀ i, i < len → ∃ q : α × List Value, good q.1 ∧ ∀ (j : Nat) c, (V q.1).cells[j]? = some c → ∃ u, q.2[j]? = some u ∧ W.cell? ((a.add (i * sz)).add j) = some u ∧ PR (allS W) W c u ∧ scalarV u = true := by
      intro i hi
      obtain ⟨cs', h1, h2⟩ := hel i (by omega)
      rw [hc] at h1
      obtain ⟨q, hg, hl, h3⟩ := elem h2
      obtain ⟨_, _, h5⟩ := World.cells?_some h1
      refine ⟨(q, cs'), hg, fun j c hj => ?_⟩
      have hjl : j < sz := by rw [← hcells q]; exact (List.getElem?_eq_some_iff.1 hj).1
      obtain ⟨u, hu, hp, hs⟩ := h3 j c hj
      exact ⟨u, hu, by rw [h5 j hjl]; exact hu, hp, hs⟩
    by_cases hlen : len = 0
    · subst hlen
      exact ⟨_, [], rfl, fun m hm => by simp at hm, .empty sz (some a) _ (fun e => by omega)⟩
    · have hsp : a.spot = none ∧ a.block < W.heap.size := by
        obtain ⟨q, _, h3⟩ := each 0 (by omega)
        have hne : 0 < (V q.1).cells.length := by rw [hcells]; exact hz
        obtain ⟨u, _, this, _⟩ := h3 0 _ (List.getElem?_eq_getElem hne)
        simp only [Nat.zero_mul, Addr.add, if_true] at this
        exact spot_none this
      obtain ⟨b, off, sp⟩ := a
      simp only at hsp
      obtain ⟨rfl, hb⟩ := hsp
      let N : Nat → α × List Value := fun i => if hi : i < len then (each i hi).choose else default
      have hN : ∀ i, (hi : i < len) → good (N i).1 ∧ ∀ (j : Nat) c, (V (N i).1).cells[j]? = some c → ∃ u, (N i).2[j]? = some u ∧ W.cell? (((⟨b, off, none⟩ : Addr).add (i * sz)).add j) = some u ∧ PR (allS W) W c u ∧ scalarV u = true := by
        intro i hi
        simp only [N, dif_pos hi]
        exact (each i hi).choose_spec
      refine ⟨_, (List.range len).map fun i => (N i).1, rfl, fun m hm => ?_, ?_⟩
      · obtain ⟨i, hi, rfl⟩ := List.mem_map.1 hm
        exact (hN i (List.mem_range.1 hi)).1
      · have hget : ∀ (i : Nat) e, (((List.range len).map fun i => (N i).1).map V)[i]? = some e → i < len ∧ e = V (N i).1 := by
          intro i e he
          simp only [List.getElem?_map] at he
          obtain ⟨q, hq, rfl⟩ := Option.map_eq_some_iff.1 he
          obtain ⟨r, hr, rfl⟩ := Option.map_eq_some_iff.1 hq
          obtain ⟨hi, rfl⟩ := List.getElem?_eq_some_iff.1 hr
          simp only [List.length_range] at hi
          simp [hi]
        have hcell : ∀ (i j : Nat) e c, (((List.range len).map fun i => (N i).1).map V)[i]? = some e → e.cells[j]? = some c →
            ∃ u, (N i).2[j]? = some u ∧ W.cell? (((⟨b, off, none⟩ : Addr).add (i * sz)).add j) = some u ∧ PR (allS W) W c u ∧ scalarV u = true := by
          intro i j e c he hj
          obtain ⟨hi, rfl⟩ := hget i e he
          exact (hN i hi).2 j c hj
        have := PR.list (S := allS W) (w := W) (((List.range len).map fun i => (N i).1).map V) b off m sz
          (fun i j => ((N i).2[j]?).getD default) hz (by simpa using hlc)
          (fun e he => by obtain ⟨q, _, rfl⟩ := List.mem_map.1 he; exact hcells _) (fun i j e c he hj => hb)
          (fun i j e c he hj => by
            obtain ⟨u, hu, hw, _, _⟩ := hcell i j e c he hj
            rw [hu]
            rwa [Deep.add_add, show (⟨b, off, none⟩ : Addr) = at0 b off from rfl, at0_add, ← Nat.add_assoc] at hw)
          (fun i j e c he hj => by obtain ⟨u, hu, _, _, hs⟩ := hcell i j e c he hj; rw [hu]; exact hs)
          (fun i j e c he hj => by obtain ⟨u, hu, _, hp, _⟩ := hcell i j e c he hj; rw [hu]; exact hp)
        simp only [List.length_map, List.length_range] at this
        exact this

theorem kids_Trod {a : Option Addr} {len cap : Nat} {d : DataW H} {p : List MemPlace} (h : DataW.Trod enc Tryz.prog W 0 (fun _ => true) true 23 (.slice a len cap) d p) :
    ∃ l : List (List Nd), (∀ m ∈ l, ∀ n ∈ m, n.inR) ∧ PR (allS W) W (.list 1 (ndsL l)) (.slice a len cap) := by
  obtain ⟨n, hn⟩ := h
  obtain ⟨v, l, hv, h1, h2⟩ := slice_open (T := 23) (E := 22) (sz := 1) Tryz.underlying23 (by kernel_rfl) (by omega) nds (fun m => ∀ n ∈ m, n.inR) (fun _ => rfl) (fun h => by
    obtain ⟨v, l, rfl, g1, g2⟩ := nodes_open h
    refine ⟨l, g1, rfl, fun j c hc => ?_⟩
    match j, hc with
    | 0, hc =>
      cases hc
      refine ⟨v, rfl, g2, ?_⟩
      unfold nds at g2
      generalize l.map Nd.v = es at g2
      cases g2 <;> rfl
    | j + 1, hc => simp at hc) hn
  have : v = .slice a len cap := by
    have e : (Value.slice a len cap).cells.toList = [.slice a len cap] := rfl
    rw [e] at hv
    exact (List.cons.inj hv).1.symm
  subst this
  exact ⟨l, h1, h2⟩
end
end Go.Proofs.YtcgkneolohcdeaaGreat


/- What the functions come to: which value is ahead: plain values. -/
namespace Go.Proofs.YtcgkneolohcdeaaGreat
open Go Abs
set_option linter.unusedSimpArgs false
set_option linter.unusedVariables false
def ordI (x y : Int) : Int := if x < y then -1 else if y < x then 1 else 0
def ordT (s u : List UInt8) : Int := if ltB s u = true then -1 else if s = u then 0 else 1
set_option maxHeartbeats 8000000 in
theorem nan129 (n : Int) : cl 63 [.int .i64 n] [] = some (.ret (.bool false), []) := by
  refine fn_intro Tryz.func63 rfl (by simp) (by decide) rfl ?_
  simp [Tryz.f63]
  exact end_is (.inr rfl) (by first | rfl | (simp; rfl)) rfl rfl
set_option maxHeartbeats 8000000 in
theorem nan130 (n : Int) : cl 64 [.int .i64 n] [] = some (.ret (.bool false), []) := by
  refine fn_intro Tryz.func64 rfl (by simp) (by decide) rfl ?_
  simp [Tryz.f64]
  exact end_is (.inr rfl) (by first | rfl | (simp; rfl)) rfl rfl
set_option maxHeartbeats 8000000 in
theorem nan131 (s : List UInt8) : cl 65 [.str s] [] = some (.ret (.bool false), []) := by
  refine fn_intro Tryz.func65 rfl (by simp) (by decide) rfl ?_
  simp [Tryz.f65]
  exact end_is (.inr rfl) (by first | rfl | (simp; rfl)) rfl rfl
theorem nan129_call {d : Option Nat} {st : ASt} {n : Int} : callV G cl d (.fn (.func 63) [] []) [.int .i64 n] st = some (.val (.bool false) st) := callV_ret E63 (by decide) ext63 rfl rfl (nan129 n) rfl
theorem nan130_call {d : Option Nat} {st : ASt} {n : Int} : callV G cl d (.fn (.func 64) [] []) [.int .i64 n] st = some (.val (.bool false) st) := callV_ret E64 (by decide) ext64 rfl rfl (nan130 n) rfl
theorem nan131_call {d : Option Nat} {st : ASt} {s : List UInt8} : callV G cl d (.fn (.func 65) [] []) [.str s] st = some (.val (.bool false) st) := callV_ret E65 (by decide) ext65 rfl rfl (nan131 s) rfl
set_option maxHeartbeats 8000000 in
theorem cmp107 (x y : Int) : cl 45 [.int .i64 x, .int .i64 y] [] = some (.ret (.int .i64 (ordI x y)), []) := by
  refine fn_intro Tryz.func45 rfl (by simp) (by decide) rfl ?_
  unfold ordI
  by_cases h1 : x < y
  · simp [Tryz.f45, nan129_call, h1]
    exact end_is (.inr rfl) (by first | rfl | (simp; rfl)) rfl rfl
  by_cases h2 : y < x
  · simp [Tryz.f45, nan129_call, h1, h2]
    exact end_is (.inr rfl) (by first | rfl | (simp; rfl)) rfl rfl
  · simp [Tryz.f45, nan129_call, h1, h2]
    exact end_is (.inr rfl) (by first | rfl | (simp; rfl)) rfl rfl
set_option maxHeartbeats 8000000 in
theorem cmp108 (x y : Int) : cl 46 [.int .i64 x, .int .i64 y] [] = some (.ret (.int .i64 (ordI x y)), []) := by
  refine fn_intro Tryz.func46 rfl (by simp) (by decide) rfl ?_
  unfold ordI
  by_cases h1 : x < y
  · simp [Tryz.f46, nan130_call, h1]
    exact end_is (.inr rfl) (by first | rfl | (simp; rfl)) rfl rfl
  by_cases h2 : y < x
  · simp [Tryz.f46, nan130_call, h1, h2]
    exact end_is (.inr rfl) (by first | rfl | (simp; rfl)) rfl rfl
  · simp [Tryz.f46, nan130_call, h1, h2]
    exact end_is (.inr rfl) (by first | rfl | (simp; rfl)) rfl rfl
set_option maxHeartbeats 8000000 in
theorem cmp109 (x y : List UInt8) : cl 47 [.str x, .str y] [] = some (.ret (.int .i64 (ordT x y)), []) := by
  refine fn_intro Tryz.func47 rfl (by simp) (by decide) rfl ?_
  unfold ordT
  by_cases h1 : ltB x y = true
  · simp [Tryz.f47, nan131_call, h1]
    exact end_is (.inr rfl) (by first | rfl | (simp; rfl)) rfl rfl
  by_cases h2 : x = y
  · subst h2
    simp [Tryz.f47, nan131_call, h1]
    exact end_is (.inr rfl) (by first | rfl | (simp; rfl)) rfl rfl
  · simp [Tryz.f47, nan131_call, h1, h2]
    exact end_is (.inr rfl) (by first | rfl | (simp; rfl)) rfl rfl
theorem cmp107_call {d : Option Nat} {st : ASt} {x y : Int} : callV G cl d (.fn (.func 45) [] []) [.int .i64 x, .int .i64 y] st = some (.val (.int .i64 (ordI x y)) st) := callV_ret E45 (by decide) ext45 rfl rfl (cmp107 x y) rfl
theorem cmp108_call {d : Option Nat} {st : ASt} {x y : Int} : callV G cl d (.fn (.func 46) [] []) [.int .i64 x, .int .i64 y] st = some (.val (.int .i64 (ordI x y)) st) := callV_ret E46 (by decide) ext46 rfl rfl (cmp108 x y) rfl
theorem cmp109_call {d : Option Nat} {st : ASt} {x y : List UInt8} : callV G cl d (.fn (.func 47) [] []) [.str x, .str y] st = some (.val (.int .i64 (ordT x y)) st) := callV_ret E47 (by decide) ext47 rfl rfl (cmp109 x y) rfl
def orI (x y z : Int) : Int := if x ≠ 0 then x else if y ≠ 0 then y else z
set_option maxHeartbeats 8000000 in
theorem or106 (x y z : Int) : cl 44 [.list 1 [.int .i64 x, .int .i64 y, .int .i64 z]] [] = some (.ret (.int .i64 (orI x y z)), []) := by
  have w1 : IntKind.i64.wrap 1 = 1 := rfl
  have w2 : IntKind.i64.wrap 2 = 2 := rfl
  have w3 : IntKind.i64.wrap 3 = 3 := rfl
  have hit : ∀ i v, (∃ j : Nat, i = (j : Int) ∧ [x, y, z][j]? = some v) → v ≠ 0 → lp 44 (lc Tryz.f44 0) ⟨[(3, .int .i64 0), (6, .list 1 [.int .i64 x, .int .i64 y, .int .i64 z]), (7, .int .i64 3), (8, .int .i64 i)], []⟩ = some (.ret, ⟨[(2, .int .i64 v)], []⟩) := by
    rintro i v ⟨j, rfl, hj⟩ hv
    refine loop_out ?_ (by simp)
    match j, hj with
    | 0, hj => cases hj; simp [lc, loopsOf, Tryz.f44, hv]
    | 1, hj => cases hj; simp [lc, loopsOf, Tryz.f44, hv]
    | 2, hj => cases hj; simp [lc, loopsOf, Tryz.f44, hv]
  have on : ∀ (j : Nat) r, [x, y, z][j]? = some 0 → lp 44 (lc Tryz.f44 0) ⟨[(3, .int .i64 0), (6, .list 1 [.int .i64 x, .int .i64 y, .int .i64 z]), (7, .int .i64 3), (8, .int .i64 ((j : Int) + 1))], []⟩ = some r →
      lp 44 (lc Tryz.f44 0) ⟨[(3, .int .i64 0), (6, .list 1 [.int .i64 x, .int .i64 y, .int .i64 z]), (7, .int .i64 3), (8, .int .i64 (j : Int))], []⟩ = some r := by
    intro j r hj h
    refine loop_next ?_ h
    match j, hj with
    | 0, hj => cases hj; simp [lc, loopsOf, Tryz.f44, w1]
    | 1, hj => cases hj; simp [lc, loopsOf, Tryz.f44, w2]
    | 2, hj => cases hj; simp [lc, loopsOf, Tryz.f44, w3]
  have out : lp 44 (lc Tryz.f44 0) ⟨[(3, .int .i64 0), (6, .list 1 [.int .i64 x, .int .i64 y, .int .i64 z]), (7, .int .i64 3), (8, .int .i64 3)], []⟩ = some (.exit 0, ⟨[(3, .int .i64 0), (6, .list 1 [.int .i64 x, .int .i64 y, .int .i64 z]), (7, .int .i64 3), (8, .int .i64 3), (9, .bool false)], []⟩) := by
    refine loop_out ?_ (by simp)
    simp [lc, loopsOf, Tryz.f44]
  unfold orI
  by_cases hx : x = 0
  case neg =>
    rw [if_pos hx]
    have h := hit 0 x ⟨0, rfl, rfl⟩ hx
    refine fn_intro Tryz.func44 rfl (by simp) (by decide) rfl ?_
    simp [lc, loopsOf, Tryz.f44] at h
    simp [Tryz.f44, h]
    exact end_is (.inr rfl) (by first | rfl | (simp; rfl)) rfl rfl
  subst hx
  rw [if_neg (by simp)]
  by_cases hy : y = 0
  case neg =>
    rw [if_pos hy]
    have h := on 0 _ rfl (hit 1 y ⟨1, rfl, rfl⟩ hy)
    refine fn_intro Tryz.func44 rfl (by simp) (by decide) rfl ?_
    simp [lc, loopsOf, Tryz.f44] at h
    simp [Tryz.f44, h]
    exact end_is (.inr rfl) (by first | rfl | (simp; rfl)) rfl rfl
  subst hy
  rw [if_neg (by simp)]
  by_cases hz : z = 0
  case neg =>
    have h := on 0 _ rfl (on 1 _ rfl (hit 2 z ⟨2, rfl, rfl⟩ hz))
    refine fn_intro Tryz.func44 rfl (by simp) (by decide) rfl ?_
    simp [lc, loopsOf, Tryz.f44] at h
    simp [Tryz.f44, h]
    exact end_is (.inr rfl) (by first | rfl | (simp; rfl)) rfl rfl
  · subst hz
    have h := on 0 _ rfl (on 1 _ rfl (on 2 _ rfl out))
    refine fn_intro Tryz.func44 rfl (by simp) (by decide) rfl ?_
    simp [lc, loopsOf, Tryz.f44] at h
    simp [Tryz.f44, h]
    exact end_is (.inr rfl) (by first | rfl | (simp; rfl)) rfl rfl
end Go.Proofs.YtcgkneolohcdeaaGreat


/- What the functions come to: whether all are values. -/
namespace Go.Proofs.YtcgkneolohcdeaaGreat
open Go Abs
set_option linter.unusedSimpArgs false
set_option linter.unusedVariables false
set_option maxHeartbeats 8000000 in
theorem bad105 (l : List Nd) (hb : l.length ≤ 9223372036854775806) (hr : ∀ n ∈ l, n.inR) : cl 42 [nds l] [] = some (.ret (.bool (decide (checkS l ≠ 0))), []) := by
  have h19 := fun d st => check_call hb hr (d := d) (st := st)
  refine fn_intro Tryz.func42 rfl (by simp) (by decide) rfl ?_
  simp only [nds] at h19
  simp [Tryz.f42, nds, h19]
  exact end_is (.inr rfl) (by first | rfl | (simp; rfl)) rfl rfl
theorem bad105_call {l : List Nd} (hb : l.length ≤ 9223372036854775806) (hr : ∀ n ∈ l, n.inR) {d : Option Nat} {st : ASt} : callV G cl d (.fn (.func 42) [] []) [nds l] st = some (.val (.bool (decide (checkS l ≠ 0))) st) := callV_ret E42 (by decide) ext42 rfl rfl (bad105 l hb hr) rfl
@[simp] theorem ndsL_ix {K : List (List Nd)} {i : Nat} {h : i < (ndsL K).length} : (ndsL K)[i] = nds (K[i]'(by simpa using h)) := by simp [ndsL]
@[simp] theorem ndsL_bq {l : List (List Nd)} : AV.beqL (ndsL l) (ndsL l) = true := beqL_self ndsL_plain
def badL (L : List (List Nd)) : Bool := L.any fun l => decide (checkS l ≠ 0)
set_option maxHeartbeats 8000000 in
theorem index128_loop (L : List (List Nd)) (hL : L.length ≤ 9223372036854775806) (hb : ∀ l ∈ L, l.length ≤ 9223372036854775806) (hr : ∀ l ∈ L, ∀ n ∈ l, n.inR) : ∃ x s, lp 59 (lc Tryz.f59 0) { sl := [(0, .list 1 (ndsL L)), (1, .fn (.func 42) [] []), (7, .int .i64 L.length), (8, .int .i64 0)], hp := [] } = some (x, s) ∧
    ((x = .ret ∧ (∃ j : Nat, s = { sl := [(4, .int .i64 j)], hp := [] }) ∧ badL L = true) ∨ (x = .exit 0 ∧ (∃ sl, s = { sl, hp := [] }) ∧ badL L = false)) := by
  refine for_loop (f := 59) (c := lc Tryz.f59 0) (n := L.length) (σ := fun i => { sl := [(0, .list 1 (ndsL L)), (1, .fn (.func 42) [] []), (7, .int .i64 L.length), (8, .int .i64 (i : Int))], hp := [] }) (P := fun i => badL (L.take i) = false)
    (Q := fun x s => (x = .ret ∧ (∃ j : Nat, s = { sl := [(4, .int .i64 j)], hp := [] }) ∧ badL L = true) ∨ (x = .exit 0 ∧ (∃ sl, s = { sl, hp := [] }) ∧ badL L = false))
    (fun i hi hp => ?_) (fun hp => ?_) 0 (by omega) (by simp [badL])
  · obtain ⟨l, hl⟩ : ∃ l, L[i]? = some l := ⟨L[i], List.getElem?_eq_getElem hi⟩
    have e : L[i] = l := (List.getElem?_eq_some_iff.1 hl).2
    have hm := List.mem_of_getElem? hl
    have h1 : (i : Int) < L.length := by omega
    have hw : IntKind.i64.wrap ((i : Int) + 1) = (i : Int) + 1 := i64_wrap (by omega) (by omega)
    have hc := fun d st => bad105_call (hb l hm) (hr l hm) (d := d) (st := st)
    simp only [nds] at hc
    have e' : (ndsL L)[i]? = some (nds l) := ndsL_get hl
    by_cases ht : checkS l = 0
    · left
      rw [ht] at hc
      refine ⟨?_, ?_⟩
      · simp [lc, loopsOf, Tryz.f59, h1, hi, e', e, hw, nds, hc]
        done
      · rw [List.take_add_one, hl]; unfold badL at hp ⊢; rw [List.any_append, hp]; simpa using ht
    · right
      refine ⟨.ret, ⟨[(4, .int .i64 i)], []⟩, ?_, by simp, .inl ⟨rfl, ⟨i, rfl⟩, List.any_eq_true.2 ⟨l, hm, by simpa using ht⟩⟩⟩
      simp [lc, loopsOf, Tryz.f59, h1, hi, e', e, hw, nds, hc, ht]
      done
  · rw [List.take_of_length_le (Nat.le_refl _)] at hp
    exact ⟨.exit 0, ⟨[(0, .list 1 (ndsL L)), (1, .fn (.func 42) [] []), (7, .int .i64 L.length), (8, .int .i64 L.length), (9, .bool false)], []⟩, by simp [lc, loopsOf, Tryz.f59], by simp, .inr ⟨rfl, ⟨_, rfl⟩, hp⟩⟩
theorem index128_eq (L : List (List Nd)) (hL : L.length ≤ 9223372036854775806) (hb : ∀ l ∈ L, l.length ≤ 9223372036854775806) (hr : ∀ l ∈ L, ∀ n ∈ l, n.inR) : ∃ j : Int, cl 59 [.list 1 (ndsL L), .fn (.func 42) [] []] [] = some (.ret (.int .i64 j), []) ∧ (0 ≤ j ↔ badL L = true) := by
  obtain ⟨x, s, h, hx⟩ := index128_loop L hL hb hr
  simp [lc, loopsOf, Tryz.f59, Option.getD_some] at h
  rcases hx with ⟨rfl, ⟨j, rfl⟩, hf⟩ | ⟨rfl, ⟨sl, rfl⟩, hf⟩
  · refine ⟨j, fn_intro Tryz.func59 rfl (by simp) (by decide) rfl ?_, by simp [hf]⟩
    simp [Tryz.f59, h]
    exact end_is (.inr rfl) (by first | rfl | (simp; rfl)) rfl rfl
  · refine ⟨-1, fn_intro Tryz.func59 rfl (by simp) (by decide) rfl ?_, by simp [hf]⟩
    simp [Tryz.f59, h]
    exact end_is (.inr rfl) (by first | rfl | (simp; rfl)) rfl rfl
set_option maxHeartbeats 8000000 in
theorem contains104_eq (L : List (List Nd)) (hL : L.length ≤ 9223372036854775806) (hb : ∀ l ∈ L, l.length ≤ 9223372036854775806) (hr : ∀ l ∈ L, ∀ n ∈ l, n.inR) : cl 41 [.list 1 (ndsL L), .fn (.func 42) [] []] [] = some (.ret (.bool (badL L)), []) := by
  obtain ⟨j, h, hj⟩ := index128_eq L hL hb hr
  have hc : ∀ d st, callV G cl d (.fn (.func 59) [] []) [.list 1 (ndsL L), .fn (.func 42) [] []] st = some (.val (.int .i64 j) st) := fun d st => callV_ret E59 (by decide) ext59 rfl rfl h rfl
  refine fn_intro Tryz.func41 rfl (by simp) (by decide) rfl ?_
  simp [Tryz.f41, hc]
  refine end_is (.inr rfl) (by simp; rfl) rfl ?_
  cases hB : badL L with
  | true => simp [hj.2 hB, resOf]
  | false =>
    have : ¬ 0 ≤ j := fun h => by rw [hj.1 h] at hB; cases hB
    simp [resOf]; omega
set_option maxHeartbeats 8000000 in
theorem right78_eq (L : List (List Nd)) (hL : L.length ≤ 9223372036854775806) (hb : ∀ l ∈ L, l.length ≤ 9223372036854775806) (hr : ∀ l ∈ L, ∀ n ∈ l, n.inR) : cl 23 [.list 1 (ndsL L)] [] = some (.ret (.bool (!badL L)), []) := by
  have hc : ∀ d st, callV G cl d (.fn (.func 41) [] []) [.list 1 (ndsL L), .fn (.func 42) [] []] st = some (.val (.bool (badL L)) st) := fun d st => callV_ret E41 (by decide) ext41 rfl rfl (contains104_eq L hL hb hr) rfl
  refine fn_intro Tryz.func23 rfl (by simp) (by decide) rfl ?_
  simp [Tryz.f23, hc]
  exact end_is (.inr rfl) (by first | rfl | (simp; rfl)) rfl rfl
theorem right78_call {L : List (List Nd)} (hL : L.length ≤ 9223372036854775806) (hb : ∀ l ∈ L, l.length ≤ 9223372036854775806) (hr : ∀ l ∈ L, ∀ n ∈ l, n.inR) {d : Option Nat} {st : ASt} : callV G cl d (.fn (.func 23) [] []) [.list 1 (ndsL L)] st = some (.val (.bool (!badL L)) st) :=
  callV_ret E23 (by decide) ext23 rfl rfl (right78_eq L hL hb hr) rfl
end Go.Proofs.YtcgkneolohcdeaaGreat


/- What the functions come to: the writer's bytes. -/
namespace Go.Proofs.YtcgkneolohcdeaaGreat
open Go Abs
set_option linter.unusedSimpArgs false
set_option linter.unusedVariables false

def bysL (l : List UInt8) : List AV := l.map bV
@[simp] theorem bysL_length {l : List UInt8} : (bysL l).length = l.length := by simp [bysL]
/-- The nodes that a writer has, if any. -/
def ndo : Option (List Nd) → AV
  | some l => nds l
  | none => .nils
@[simp] theorem ndo_rv {hp o} : (ndo o).rv hp = ndo o := by cases o <;> rfl
@[simp] theorem ndo_names {o} : (ndo o).names = [] := by cases o <;> rfl
@[simp] theorem ndo_rows {o} : (ndo o).rows = [] := by cases o <;> rfl
@[simp] theorem ndo_cells {o} : (ndo o).cells = [ndo o] := by cases o <;> rfl
@[simp] theorem ndo_okc {o} : okCell (ndo o) = true := by cases o <;> rfl
@[simp] theorem ndo_kno {o} : (ndo o).known = true := by cases o <;> rfl
@[simp] theorem ndo_isA {o} : (ndo o).isA = false := by cases o <;> rfl
@[simp] theorem ndo_pur {o} : (ndo o).pureB = true := by cases o; rfl; exact nds_pur
@[simp] theorem ndo_ren {m o} : (ndo o).ren m = ndo o := by cases o <;> rfl
@[simp] theorem ndo_kill {n o} : (ndo o).kill n = ndo o := by cases o <;> rfl
attribute [local simp] canonK canonAll canonSlot canonCell canonBox ownStep restrictTo pureCells pureRows reachL AObj.names List.range_succ appendA
@[simp] theorem intsL_len {L : List Nat} : (intsL L).length = L.length := by simp [intsL]
/-- A text's bytes, without its kind. -/
def txtB : List UInt8 → List UInt8
  | [] => [0, 0]
  | b :: r => if b = 0 then b :: 255 :: txtB r else b :: txtB r
def txt0 : List UInt8 → List UInt8
  | [] => []
  | b :: r => if b = 0 then b :: 255 :: txt0 r else b :: txt0 r
theorem txtB_eq (s : List UInt8) : txtB s = txt0 s ++ [0, 0] := by
  induction s with
  | nil => rfl
  | cons b r ih => simp only [txtB, txt0]; split <;> simp [ih]
end Go.Proofs.YtcgkneolohcdeaaGreat


/- What the functions come to: numbers as bytes. -/
namespace Go.Proofs.YtcgkneolohcdeaaGreat
open Go Abs
set_option linter.unusedSimpArgs false
set_option linter.unusedVariables false

def lowB (n : Int) (i : Nat) : UInt8 := UInt8.ofNat (IntKind.u8.wrap (n.fdiv (2 ^ (8 * i)))).toNat
def lows (n : Int) (i : Nat) : List UInt8 := (List.range i).map (lowB n)
@[simp] theorem lows_length {n : Int} {i : Nat} : (lows n i).length = i := by simp [lows]
def bigB (n : Int) : List UInt8 := [lowB n 7, lowB n 6, lowB n 5, lowB n 4, lowB n 3, lowB n 2, lowB n 1, lowB n 0]
attribute [local simp] canonK canonAll canonSlot canonCell canonBox ownStep restrictTo pureCells pureRows reachL AObj.names List.range_succ appendA
@[simp] theorem bysL_nil : bysL [] = [] := rfl
@[simp] theorem bysL_at {es : List UInt8} {i : Nat} {h : i < (bysL es).length} : (bysL es)[i] = .int .u8 ((es[i]'(by simpa using h)).toNat : Int) := by simp [bysL, bV]
end Go.Proofs.YtcgkneolohcdeaaGreat


/- What the functions come to: the writer's plain values. -/
namespace Go.Proofs.YtcgkneolohcdeaaGreat
open Go Abs
set_option linter.unusedSimpArgs false
set_option linter.unusedVariables false
attribute [local simp] canonK canonAll canonSlot canonCell canonBox ownStep restrictTo pureCells pureRows reachL AObj.names List.range_succ appendA
def u8B (n : Int) : UInt8 := UInt8.ofNat (IntKind.u8.wrap n).toNat
/-- A number's bytes. -/
def numB (n : Int) : List UInt8 := bigB (wXor .u64 (IntKind.u64.wrap n) 9223372036854775808)
end Go.Proofs.YtcgkneolohcdeaaGreat


/- What the functions come to: the writer's lists and maps. -/
namespace Go.Proofs.YtcgkneolohcdeaaGreat
open Go Abs
set_option linter.unusedSimpArgs false
set_option linter.unusedVariables false
attribute [local simp] canonK canonAll canonSlot canonCell canonBox ownStep restrictTo pureCells pureRows reachL AObj.names List.range_succ appendA
def key1 (l : List Nd) (q : Nat) : List UInt8 := ((l[q - 1]?).map (·.text)).getD []
/-- What some places have, one behind the other. -/
def allB (f : Nat → List UInt8) (kids : List Nat) : List UInt8 := (kids.map f).flatten
/-- A member's bytes: its key, and its value. -/
def memB (l : List Nd) (f : Nat → List UInt8) (q : Nat) : List UInt8 := 1 :: txtB (key1 l q) ++ f q
end Go.Proofs.YtcgkneolohcdeaaGreat


/- What the functions come to: the writer's values. -/
namespace Go.Proofs.YtcgkneolohcdeaaGreat
open Go Abs
set_option linter.unusedSimpArgs false
set_option linter.unusedVariables false
attribute [local simp] canonK canonAll canonSlot canonCell canonBox ownStep restrictTo pureCells pureRows reachL AObj.names List.range_succ appendA
def spanK (l : List Nd) (a : Nat) : List Nat := ((valS l (l.length + 1) a).map (·.kids)).getD []
/-- A value's bytes. -/
def valB (l : List Nd) : Nat → Nat → List UInt8
  | 0, _ => []
  | k + 1, a => match l[a]? with
    | none => []
    | some n => u8B (n.kind + 1) :: (if n.kind = 1 then [u8B n.num] else if n.kind = 2 then numB n.num else if n.kind = 3 then txtB n.text
        else if n.kind = 4 then allB (valB l k) (spanK l a) ++ [0] else if n.kind = 5 then allB (memB l (valB l k)) (spanK l a) ++ [0] else [])
theorem kids_at {l : List Nd} (hr : ∀ n ∈ l, n.inR) (hc : checkS l = 0) {a : Nat} (ha : a < l.length) {d : Option Nat} {st : ASt} : callV G cl d (.fn (.func 67) [] []) [nds l, .int .i64 a] st = some (.val (.list 1 (intsL (spanK l a))) st) := by
  obtain ⟨s, h2, h3, h4⟩ := checkS_inner hc ha
  obtain ⟨h5, _, _⟩ := checkS_ok hc
  rw [kids_call (by omega) hr]
  have : kidsAt l a = some (spanK l a) := by simp [kidsAt, spanK, thereS, hc, ha, h2]
  rw [this]; rfl
theorem kidsS_ge {val : Nat → Option Span} {l : List Nd} {b : Bool} {m : Nat} (hv : ∀ st s, val st = some s → st < s.stop) : ∀ {c i s last r}, kidsS val l b c i s last = some r → m ≤ s.stop → (∀ q ∈ s.kids, m ≤ q) → ∀ q ∈ r.kids, m ≤ q := by
  intro c
  induction c with
  | zero => intro i s last r hr h1 h2; cases hr; exact h2
  | succ c ih =>
    intro i s last r hr h1 h2
    simp only [kidsS] at hr
    rw [Option.bind_eq_some_iff] at hr; obtain ⟨p, hp, hr⟩ := hr
    rw [Option.bind_eq_some_iff] at hr; obtain ⟨kid, hk, hr⟩ := hr
    have hge := keyS_ge hp
    have hlt := hv _ _ hk
    refine ih hr (by simp only; omega) (fun q hq => ?_)
    rcases List.mem_append.1 hq with h | h
    · exact h2 q h
    · obtain rfl : q = p.1 := by simpa using h
      omega
theorem spanK_ok {l : List Nd} (hc : checkS l = 0) {a : Nat} (ha : a < l.length) : (spanK l a).length ≤ 1000 ∧ ∀ q ∈ spanK l a, a < q ∧ q < l.length ∧ q ≤ 1000 := by
  obtain ⟨s, h2, h3, h4⟩ := checkS_inner hc ha
  obtain ⟨h5, _, _⟩ := checkS_ok hc
  have e : spanK l a = s.kids := by simp [spanK, h2]
  rw [e]
  have hg := valS_goodK (by omega) h2
  refine ⟨hg.1, fun q hq => ?_⟩
  have h6 := kidsS_lt h2 hq
  obtain ⟨n, r, hn, hf, hr, rfl⟩ := valS_map h2
  have := kidsS_ge (m := a + 1) (fun st s hs => (valS_spec hs).1) hr (Nat.le_refl _) (by simp) q hq
  exact ⟨by omega, h6, by omega⟩
theorem fits_kind {n : Nd} (h : fitsS n = true) : n.kind = 0 ∨ n.kind = 1 ∨ n.kind = 2 ∨ n.kind = 3 ∨ n.kind = 4 ∨ n.kind = 5 := by
  unfold fitsS at h
  repeat' split at h
  all_goals first | (simp at h; done) | omega
theorem text_len {l : List Nd} (hc : checkS l = 0) {n : Nd} (hn : n ∈ l) : n.text.length ≤ 120 := by
  obtain ⟨_, h, _⟩ := checkS_ok hc
  unfold longS at h
  rw [List.any_eq_false] at h
  have := h n hn
  simpa using this
/-- What the function that goes by the kind writes. -/
def bodyB (l : List Nd) (f : Nat → List UInt8) (a : Nat) (n : Nd) : List UInt8 :=
  if n.kind = 1 then [u8B n.num] else if n.kind = 2 then numB n.num else if n.kind = 3 then txtB n.text
        else if n.kind = 4 then allB f (spanK l a) ++ [0] else if n.kind = 5 then allB (memB l f) (spanK l a) ++ [0] else []
theorem valB_succ {l : List Nd} {k a : Nat} {n : Nd} (hn : l[a]? = some n) : valB l (k + 1) a = u8B (n.kind + 1) :: bodyB l (valB l k) a n := by simp only [valB, hn, bodyB]
end Go.Proofs.YtcgkneolohcdeaaGreat


/- What the functions come to: code.Put, code.Join. -/
namespace Go.Proofs.YtcgkneolohcdeaaGreat
open Go Abs
set_option linter.unusedSimpArgs false
set_option linter.unusedVariables false
attribute [local simp] canonK canonAll canonSlot canonCell canonBox ownStep restrictTo pureCells pureRows reachL AObj.names List.range_succ appendA
/-- A value's bytes, if it is one. -/
def putB (l : List Nd) : List UInt8 := valB l (l.length + 1) 0
@[simp] theorem strsL_len {t : List (List UInt8)} : (strsL t).length = t.length := by simp [strsL]
end Go.Proofs.YtcgkneolohcdeaaGreat


/- What the functions come to: the document's bytes. -/
namespace Go.Proofs.YtcgkneolohcdeaaGreat
open Go Abs
set_option linter.unusedSimpArgs false
set_option linter.unusedVariables false
attribute [local simp] canonK canonAll canonSlot canonCell canonBox ownStep restrictTo pureCells pureRows reachL AObj.names List.range_succ appendA
theorem u64w (n : Int) : IntKind.u64.wrap n = n % 18446744073709551616 := by simp [IntKind.wrap, IntKind.bits, IntKind.signed]
theorem u8w (n : Int) : IntKind.u8.wrap n = n % 256 := by simp [IntKind.wrap, IntKind.bits, IntKind.signed]
/-! Numbers -/
def lowR (n : Int) (i : Nat) : UInt8 := u8B ((n / 256 ^ i) % 256)
theorem lowR_eq {n : Int} (h0 : 0 ≤ n) (i : Nat) : lowR n i = lowB n i := by
  unfold lowR lowB u8B
  have e : n.fdiv (2 ^ (8 * i)) = n / 256 ^ i := by
    rw [Int.fdiv_eq_ediv_of_nonneg _ (Int.pow_nonneg (by omega)), Int.pow_mul]; rfl
  rw [e, u8w, u8w, Int.emod_emod_of_dvd _ (by omega)]
theorem nat_xor_sign (k : Nat) (h : k < 18446744073709551616) : k ^^^ 9223372036854775808 = (k + 9223372036854775808) % 18446744073709551616 := by
  have h1 : (k ^^^ 9223372036854775808) / 2 ^ 63 = k / 2 ^ 63 ^^^ 1 := by rw [Nat.xor_div_two_pow]
  have h2 : (k ^^^ 9223372036854775808) % 2 ^ 63 = k % 2 ^ 63 := by rw [Nat.xor_mod_two_pow]; simp
  rw [show (2 : Nat) ^ 63 = 9223372036854775808 from rfl] at h1 h2
  have h3 : k / 9223372036854775808 = 0 ∨ k / 9223372036854775808 = 1 := by omega
  rcases h3 with h3 | h3
  · rw [h3, show (0 : Nat) ^^^ 1 = 1 from rfl] at h1
    omega
  · rw [h3, show (1 : Nat) ^^^ 1 = 0 from rfl] at h1
    omega
theorem xor_sign (n : Int) (h0 : 0 ≤ n) (h1 : n < 18446744073709551616) : wXor .u64 n 9223372036854775808 = IntKind.u64.wrap (n + 9223372036854775808) := by
  obtain ⟨k, rfl⟩ : ∃ k : Nat, n = k := ⟨n.toNat, by omega⟩
  have e : wXor .u64 (k : Int) 9223372036854775808 = IntKind.u64.wrap ((BitVec.ofNat 64 k ^^^ BitVec.ofNat 64 9223372036854775808).toNat : Nat) := rfl
  rw [e, BitVec.toNat_xor, BitVec.toNat_ofNat, BitVec.toNat_ofNat, u64w, u64w]
  rw [Nat.mod_eq_of_lt (show k < 2 ^ 64 by omega), show 9223372036854775808 % 2 ^ 64 = 9223372036854775808 from rfl, nat_xor_sign k (by omega)]
  omega
end Go.Proofs.YtcgkneolohcdeaaGreat


/- What the functions come to: the document's value as bytes. -/
namespace Go.Proofs.YtcgkneolohcdeaaGreat
open Go Abs
set_option linter.unusedSimpArgs false
set_option linter.unusedVariables false
attribute [local simp] canonK canonAll canonSlot canonCell canonBox ownStep restrictTo pureCells pureRows reachL AObj.names List.range_succ appendA
@[simp] theorem intsL_ix {L : List Nat} {i : Nat} {h : i < (intsL L).length} : (intsL L)[i] = .int .i64 ((L[i]'(by simpa using h) : Nat) : Int) := by simp [intsL]
@[simp] theorem intsL_bq {l : List Nat} : AV.beqL (intsL l) (intsL l) = true := beqL_self (plainBL_map (fun _ => rfl) l)
end Go.Proofs.YtcgkneolohcdeaaGreat


/- What the functions come to: the document's Put, Join. -/
namespace Go.Proofs.YtcgkneolohcdeaaGreat
open Go Abs
set_option linter.unusedSimpArgs false
set_option linter.unusedVariables false
attribute [local simp] canonK canonAll canonSlot canonCell canonBox ownStep restrictTo pureCells pureRows reachL AObj.names List.range_succ appendA
theorem checkS_pos {l : List Nd} (hc : checkS l = 0) : 0 < l.length := by
  obtain ⟨_, _, s, h3, _⟩ := checkS_ok hc
  obtain ⟨h5, h6⟩ := wholeS_some h3
  have := valS_spec h5; omega
@[simp] theorem strsL_ix {K : List (List UInt8)} {i : Nat} {h : i < (strsL K).length} : (strsL K)[i] = .str (K[i]'(by simpa [strsL] using h)) := by simp [strsL]
@[simp] theorem strsL_bq {l : List (List UInt8)} : AV.beqL (strsL l) (strsL l) = true := beqL_self (plainBL_map (fun _ => rfl) l)
end Go.Proofs.YtcgkneolohcdeaaGreat


/- What the functions come to: the parts of a value. -/
namespace Go.Proofs.YtcgkneolohcdeaaGreat
open Go Abs
set_option linter.unusedSimpArgs false
set_option linter.unusedVariables false
attribute [local simp] canonK canonAll canonSlot canonCell canonBox ownStep restrictTo pureCells pureRows reachL AObj.names List.range_succ appendA
/-- The kid at a place. -/
def kidL (l : List Nd) (q : Nat) : List Nd := (subS l (q : Int)).getD []
def keyN (t : List UInt8) : Nd := ⟨3, 0, t, 0⟩
def partAt (l : List Nd) (q : Nat) : List (List Nd) := if mapAt l 0 then [[keyN (key1 l q)], kidL l q] else [kidL l q]
def partsS (l : List Nd) : List (List Nd) := ((spanK l 0).map (partAt l)).flatten
theorem kidL_call {l : List Nd} (hr : ∀ n ∈ l, n.inR) (hc : checkS l = 0) {q : Nat} (hq : q < l.length) (d : Option Nat) (st : ASt) : callV G cl d (.fn (.func 68) [] []) [nds l, .int .i64 (q : Int)] st = some (.val (nds (kidL l q)) st) := by
  obtain ⟨s, h2, h3, h4⟩ := checkS_inner hc hq
  have := sub_at hr hc (Nat.le_refl _) h2
  unfold kidL
  rw [this]
  exact sub_at_call hr hc (Nat.le_refl _) h2 d st
def st111 (l : List Nd) (keys : AV) (kids : List Nat) (parts : List (List Nd)) (mv : Bool) (i : Nat) : ASt :=
  ⟨[(0, nds l), (3, .own 5003), (4, keys), (10, .list 1 (intsL kids)), (11, .int .i64 kids.length), (12, .int .i64 i)], [(5003, .row 1 (ndsL parts) false ⟨mv, 44⟩)]⟩
set_option maxHeartbeats 8000000 in
theorem parts_list (l : List Nd) (kids : List Nat) (hkl : kids.length ≤ 1000) (parts : List (List Nd)) (hp : parts.length ≤ 3000) (mv : Bool) (i q : Nat) (hi : kids[i]? = some q) (k : List Nd) (hk : ∀ d st, callV G cl d (.fn (.func 68) [] []) [nds l, .int .i64 (q : Int)] st = some (.val (nds k) st)) :
    rX 49 (lc Tryz.f49 0) (codeX G cl lp 49 (lc Tryz.f49 0) (st111 l .nils kids parts mv i)) = some (.normal, st111 l .nils kids (parts ++ [k]) true (i + 1)) := by
  have hlt : i < kids.length := (List.getElem?_eq_some_iff.1 hi).1
  have e : kids[i] = q := (List.getElem?_eq_some_iff.1 hi).2
  have hw1 : IntKind.i64.wrap ((i : Int) + 1) = ((i + 1 : Nat) : Int) := by rw [i64_wrap (by omega) (by omega)]; omega
  have hL : parts.length + 1 ≤ LIM := by unfold LIM; omega
  have hn : ¬ (i : Int) < 0 := by omega
  simp only [nds] at hk
  simp [lc, loopsOf, Tryz.f49, st111, hlt, e, hw1, hL, hn, nds, hk, ndsL]
  done
set_option maxHeartbeats 8000000 in
theorem parts_map (l : List Nd) (K : List (List UInt8)) (kids : List Nat) (hK : K.length = kids.length) (hkl : kids.length ≤ 1000) (parts : List (List Nd)) (hp : parts.length ≤ 3000) (mv : Bool) (i q : Nat) (t : List UInt8) (hi : kids[i]? = some q) (ht : K[i]? = some t) (k : List Nd) (hk : ∀ d st, callV G cl d (.fn (.func 68) [] []) [nds l, .int .i64 (q : Int)] st = some (.val (nds k) st)) :
    rX 49 (lc Tryz.f49 0) (codeX G cl lp 49 (lc Tryz.f49 0) (st111 l (.list 1 (strsL K)) kids parts mv i)) = some (.normal, st111 l (.list 1 (strsL K)) kids (parts ++ [[keyN t], k]) true (i + 1)) := by
  have hlt : i < kids.length := (List.getElem?_eq_some_iff.1 hi).1
  have e : kids[i] = q := (List.getElem?_eq_some_iff.1 hi).2
  have hlt2 : i < K.length := (List.getElem?_eq_some_iff.1 ht).1
  have e2 : K[i] = t := (List.getElem?_eq_some_iff.1 ht).2
  have hw1 : IntKind.i64.wrap ((i : Int) + 1) = ((i + 1 : Nat) : Int) := by rw [i64_wrap (by omega) (by omega)]; omega
  have hL : parts.length + 1 ≤ LIM := by unfold LIM; omega
  have hL2 : parts.length + 1 + 1 ≤ LIM := by unfold LIM; omega
  simp only [nds] at hk
  simp [lc, loopsOf, Tryz.f49, st111, hlt, hlt2, e, e2, hw1, hL, hL2, nds, hk, ndsL]
  rfl
theorem parts_exit (l : List Nd) (keys : AV) (hkeys : (∃ K, keys = .list 1 (strsL K)) ∨ keys = .nils) (kids : List Nat) (parts : List (List Nd)) (mv : Bool) :
    rX 49 (lc Tryz.f49 0) (codeX G cl lp 49 (lc Tryz.f49 0) (st111 l keys kids parts mv kids.length)) = some (.exit 0, ⟨(st111 l keys kids parts mv kids.length).sl ++ [(13, .bool false)], (st111 l keys kids parts mv kids.length).hp⟩) := by
  rcases hkeys with ⟨K, rfl⟩ | rfl <;> simp [lc, loopsOf, Tryz.f49, st111, nds]
def flatP (f : Nat → List (List Nd)) (kids : List Nat) : List (List Nd) := (kids.map f).flatten
theorem flatP_take {f : Nat → List (List Nd)} {kids : List Nat} {i q : Nat} (h : kids[i]? = some q) : flatP f (kids.take (i + 1)) = flatP f (kids.take i) ++ f q := by
  unfold flatP
  rw [List.take_add_one, h]; simp
theorem flatP_len {f : Nat → List (List Nd)} (hf : ∀ q, (f q).length ≤ 2) : ∀ kids : List Nat, (flatP f kids).length ≤ 2 * kids.length := by
  intro kids
  induction kids with
  | nil => simp [flatP]
  | cons q t ih =>
    have := hf q
    simp only [flatP, List.map_cons, List.flatten_cons, List.length_append, List.length_cons] at ih ⊢
    omega
theorem partAt_len (l : List Nd) (q : Nat) : (partAt l q).length ≤ 2 := by unfold partAt; split <;> simp
theorem parts_loop (l : List Nd) (keys : AV) (hkeys : (∃ K, keys = .list 1 (strsL K)) ∨ keys = .nils) (kids : List Nat) (hk : kids.length ≤ 1000)
    (hround : ∀ i q parts mv, kids[i]? = some q → parts.length ≤ 3000 → rX 49 (lc Tryz.f49 0) (codeX G cl lp 49 (lc Tryz.f49 0) (st111 l keys kids parts mv i)) = some (.normal, st111 l keys kids (parts ++ partAt l q) true (i + 1))) :
    ∀ (c i : Nat) (mv : Bool), i + c = kids.length → ∃ mv' sl, lp 49 (lc Tryz.f49 0) (st111 l keys kids (flatP (partAt l) (kids.take i)) mv i) = some (.exit 0, ⟨(0, nds l) :: (3, .own 5003) :: sl, [(5003, .row 1 (ndsL (flatP (partAt l) kids)) false ⟨mv', 44⟩)]⟩) := by
  intro c
  induction c with
  | zero =>
    intro i mv hi
    obtain rfl : i = kids.length := by omega
    rw [List.take_of_length_le (Nat.le_refl _)]
    exact ⟨mv, _, loop_out (parts_exit l keys hkeys kids _ mv) (by simp)⟩
  | succ c ih =>
    intro i mv hi
    have hlt : i < kids.length := by omega
    have hq : kids[i]? = some kids[i] := List.getElem?_eq_getElem hlt
    have hl := flatP_len (partAt_len l) (kids.take i)
    rw [List.length_take] at hl
    have h := hround i _ (flatP (partAt l) (kids.take i)) mv hq (by omega)
    rw [← flatP_take hq] at h
    obtain ⟨mv', sl, hx⟩ := ih (i + 1) true (by omega)
    exact ⟨mv', sl, loop_next h hx⟩
theorem textsS_at {l : List Nd} {kids : List Nat} {i q : Nat} (h : kids[i]? = some q) : (textsS l kids)[i]? = some (key1 l q) := by simp [textsS, h, key1]
set_option maxHeartbeats 8000000 in
theorem parts_eq (l : List Nd) (hr : ∀ n ∈ l, n.inR) (hc : checkS l = 0) : cl 49 [nds l] [] = some (.ret (.list 1 (ndsL (partsS l))), []) := by
  have hpos := checkS_pos hc
  obtain ⟨h5, _, _⟩ := checkS_ok hc
  obtain ⟨g1, g2⟩ := spanK_ok hc hpos
  have h28 := fun d st => keys_call (l := l) (by omega) hr (a := 0) (d := d) (st := st)
  have h25 := fun d st => kids_at hr hc hpos (d := d) (st := st)
  simp only [Int.natCast_zero] at h25
  have hkid := fun q (hq : q ∈ spanK l 0) => kidL_call hr hc (g2 q hq).2.1
  have hkeys : keysAt l 0 = if mapAt l 0 then textsS l (spanK l 0) else [] := by
    have : thereS l 0 = true := by simp [thereS, hc, hpos]
    unfold keysAt spanK
    rw [this]; simp
  refine fn_intro Tryz.func49 rfl (by simp) (by decide) rfl ?_
  cases hm : mapAt l 0 with
  | false =>
    rw [hm] at hkeys
    have hlp := parts_loop l .nils (.inr rfl) (spanK l 0) g1 (fun i q parts mv hi hp => by
      have e : partAt l q = [kidL l q] := by unfold partAt; rw [hm]; rfl
      rw [e]
      exact parts_list l (spanK l 0) g1 parts hp mv i q hi _ (hkid q (List.mem_of_getElem? hi))) (spanK l 0).length 0 false (by omega)
    obtain ⟨mv', sl, hlp⟩ := hlp
    rw [show flatP (partAt l) ((spanK l 0).take 0) = [] from rfl] at hlp
    have e0 : strsV (keysAt l 0) = .nils := by rw [hkeys]; rfl
    simp only [e0] at h28
    simp [st111, lc, loopsOf, Tryz.f49, nds, ndsL] at hlp
    simp only [nds] at h28 h25
    simp [Tryz.f49, nds, h28, h25, hlp]
    exact end_rv (.inr rfl) (by first | rfl | (simp; rfl)) (by simp) rfl rfl
  | true =>
    rw [hm] at hkeys
    by_cases hk0 : spanK l 0 = []
    · have hlp := parts_loop l .nils (.inr rfl) (spanK l 0) g1 (fun i q parts mv hi hp => by rw [hk0] at hi; simp at hi) (spanK l 0).length 0 false (by omega)
      obtain ⟨mv', sl, hlp⟩ := hlp
      rw [show flatP (partAt l) ((spanK l 0).take 0) = [] from rfl] at hlp
      have e0 : strsV (keysAt l 0) = .nils := by rw [hkeys, hk0]; rfl
      simp only [e0] at h28
      simp [st111, lc, loopsOf, Tryz.f49, nds, ndsL] at hlp
      simp only [nds] at h28 h25
      simp [Tryz.f49, nds, h28, h25, hlp]
      exact end_rv (.inr rfl) (by first | rfl | (simp; rfl)) (by simp) rfl rfl
    · have hlen : (textsS l (spanK l 0)).length = (spanK l 0).length := by simp [textsS]
      have hlp := parts_loop l (.list 1 (strsL (textsS l (spanK l 0)))) (.inl ⟨_, rfl⟩) (spanK l 0) g1 (fun i q parts mv hi hp => by
        have e : partAt l q = [[keyN (key1 l q)], kidL l q] := by unfold partAt; rw [hm]; rfl
        rw [e]
        exact parts_map l _ (spanK l 0) hlen g1 parts hp mv i q _ hi (textsS_at hi) _ (hkid q (List.mem_of_getElem? hi))) (spanK l 0).length 0 false (by omega)
      obtain ⟨mv', sl, hlp⟩ := hlp
      rw [show flatP (partAt l) ((spanK l 0).take 0) = [] from rfl] at hlp
      have e0 : strsV (keysAt l 0) = .list 1 (strsL (textsS l (spanK l 0))) := by
        rw [hkeys]; simp only [if_true, strsV]; rw [if_neg]; intro h; apply hk0; simpa [textsS] using h
      simp only [e0] at h28
      simp [st111, lc, loopsOf, Tryz.f49, nds, ndsL] at hlp
      simp only [nds] at h28 h25
      simp [Tryz.f49, nds, h28, h25, hlp]
      exact end_rv (.inr rfl) (by first | rfl | (simp; rfl)) (by simp) rfl rfl
theorem parts_call {l : List Nd} (hr : ∀ n ∈ l, n.inR) (hc : checkS l = 0) {d : Option Nat} {st : ASt} : callV G cl d (.fn (.func 49) [] []) [nds l] st = some (.val (.list 1 (ndsL (partsS l))) st) :=
  callV_ret E49 (by decide) ext49 rfl rfl (parts_eq l hr hc) rfl
/-- Which of two lists is ahead. -/
def listC (c : List Nd → List Nd → Int) : List (List Nd) → List (List Nd) → Int
  | [], [] => 0
  | [], _ :: _ => -1
  | _ :: _, [] => 1
  | x :: xs, y :: ys => if c x y = 0 then listC c xs ys else c x y
def st110 (A B : List (List Nd)) (i : Nat) : ASt := ⟨[(0, .list 1 (ndsL A)), (1, .list 1 (ndsL B)), (2, .fn (.func 24) [] []), (11, .list 1 (ndsL A)), (12, .int .i64 A.length), (13, .int .i64 i)], []⟩
set_option maxHeartbeats 8000000 in
theorem cmpl_short (A B : List (List Nd)) (i : Nat) (hi : i < A.length) (hB : B.length ≤ i) : rX 48 (lc Tryz.f48 0) (codeX G cl lp 48 (lc Tryz.f48 0) (st110 A B i)) = some (.ret, ⟨[(6, .int .i64 1)], []⟩) := by
  have h2 : (B.length : Int) ≤ i := by omega
  simp [lc, loopsOf, Tryz.f48, st110, hi, hB, h2, nds]
  done
set_option maxHeartbeats 8000000 in
theorem cmpl_step (A B : List (List Nd)) (hA : A.length ≤ 3000) (i : Nat) (x y : List Nd) (hx : A[i]? = some x) (hy : B[i]? = some y) (c : Int) (hc : ∀ d st, callV G cl d (.fn (.func 24) [] []) [nds x, nds y] st = some (.val (.int .i64 c) st)) :
    rX 48 (lc Tryz.f48 0) (codeX G cl lp 48 (lc Tryz.f48 0) (st110 A B i)) = if c = 0 then some (.normal, st110 A B (i + 1)) else some (.ret, ⟨[(6, .int .i64 c)], []⟩) := by
  have h1 := (List.getElem?_eq_some_iff.1 hx).1
  have e1 := (List.getElem?_eq_some_iff.1 hx).2
  have h2 := (List.getElem?_eq_some_iff.1 hy).1
  have e2 := (List.getElem?_eq_some_iff.1 hy).2
  have h3 : ¬ B.length ≤ i := by omega
  have h3' : ¬ (B.length : Int) ≤ i := by omega
  have hw1 : IntKind.i64.wrap ((i : Int) + 1) = ((i + 1 : Nat) : Int) := by rw [i64_wrap (by omega) (by omega)]; omega
  simp only [nds] at hc
  by_cases h0 : c = 0
  · rw [if_pos h0]
    simp [lc, loopsOf, Tryz.f48, st110, h1, h2, e1, e2, h3, h3', nds, hc, h0, hw1]
    done
  · rw [if_neg h0]
    simp [lc, loopsOf, Tryz.f48, st110, h1, h2, e1, e2, h3, h3', nds, hc, h0, hw1]
    done
set_option maxHeartbeats 8000000 in
theorem cmpl_exit (A B : List (List Nd)) : rX 48 (lc Tryz.f48 0) (codeX G cl lp 48 (lc Tryz.f48 0) (st110 A B A.length)) = some (.exit 0, ⟨(st110 A B A.length).sl ++ [(14, .bool false)], []⟩) := by
  simp [lc, loopsOf, Tryz.f48, st110]
  done
theorem cmpl_loop (A B : List (List Nd)) (hA : A.length ≤ 3000) (c : List Nd → List Nd → Int) (hc : ∀ x ∈ A, ∀ y ∈ B, ∀ d st, callV G cl d (.fn (.func 24) [] []) [nds x, nds y] st = some (.val (.int .i64 (c x y)) st)) : ∀ (k i : Nat), i + k = A.length →
    lp 48 (lc Tryz.f48 0) (st110 A B i) = some (.ret, ⟨[(6, .int .i64 (listC c (A.drop i) (B.drop i)))], []⟩) ∨
    (lp 48 (lc Tryz.f48 0) (st110 A B i) = some (.exit 0, ⟨(st110 A B A.length).sl ++ [(14, .bool false)], []⟩) ∧ listC c (A.drop i) (B.drop i) = if A.length < B.length then -1 else 0) := by
  intro k
  induction k with
  | zero =>
    intro i hi
    obtain rfl : i = A.length := by omega
    right
    refine ⟨loop_out (cmpl_exit A B) (by simp), ?_⟩
    rw [List.drop_of_length_le (Nat.le_refl _)]
    by_cases h : A.length < B.length
    · rw [if_pos h, List.drop_eq_getElem_cons h]; rfl
    · rw [if_neg h, List.drop_of_length_le (by omega)]; rfl
  | succ k ih =>
    intro i hi
    have hlt : i < A.length := by omega
    have hx : A[i]? = some A[i] := List.getElem?_eq_getElem hlt
    by_cases hB : i < B.length
    · have hy : B[i]? = some B[i] := List.getElem?_eq_getElem hB
      have h := cmpl_step A B hA i _ _ hx hy _ (hc _ (List.getElem_mem hlt) _ (List.getElem_mem hB))
      rw [List.drop_eq_getElem_cons hlt, List.drop_eq_getElem_cons hB]
      simp only [listC]
      by_cases h0 : c A[i] B[i] = 0
      · rw [if_pos h0] at h ⊢
        rcases ih (i + 1) (by omega) with h1 | ⟨h1, h2⟩
        · exact .inl (loop_next h h1)
        · exact .inr ⟨loop_next h h1, h2⟩
      · rw [if_neg h0] at h ⊢
        exact .inl (loop_out h (by simp))
    · left
      rw [List.drop_eq_getElem_cons hlt, List.drop_of_length_le (by omega : B.length ≤ i)]
      exact loop_out (cmpl_short A B i hlt (by omega)) (by simp)
set_option maxHeartbeats 8000000 in
theorem compareFunc_eq (A B : List (List Nd)) (hA : A.length ≤ 3000) (c : List Nd → List Nd → Int) (hc : ∀ x ∈ A, ∀ y ∈ B, ∀ d st, callV G cl d (.fn (.func 24) [] []) [nds x, nds y] st = some (.val (.int .i64 (c x y)) st)) :
    cl 48 [.list 1 (ndsL A), .list 1 (ndsL B), .fn (.func 24) [] []] [] = some (.ret (.int .i64 (listC c A B)), []) := by
  refine fn_intro Tryz.func48 rfl (by simp) (by decide) rfl ?_
  have := cmpl_loop A B hA c hc A.length 0 (by omega)
  rw [List.drop_zero, List.drop_zero] at this
  rcases this with h | ⟨h, h2⟩
  · simp [st110, lc, loopsOf, Tryz.f48] at h
    simp [Tryz.f48, h]
    exact end_is (.inr rfl) (by first | rfl | (simp; rfl)) rfl rfl
  · simp [st110, lc, loopsOf, Tryz.f48] at h
    rw [h2]
    by_cases hlt : A.length < B.length
    · have hlt' : (A.length : Int) < B.length := by omega
      rw [if_pos hlt]
      simp [Tryz.f48, h, hlt]
      exact end_is (.inr rfl) (by first | rfl | (simp; rfl)) rfl rfl
    · have hlt' : ¬ (A.length : Int) < B.length := by omega
      rw [if_neg hlt]
      simp [Tryz.f48, h, hlt]
      exact end_is (.inr rfl) (by first | rfl | (simp; rfl)) rfl rfl
theorem compareFunc_call {A B : List (List Nd)} (hA : A.length ≤ 3000) {c : List Nd → List Nd → Int} (hc : ∀ x ∈ A, ∀ y ∈ B, ∀ d st, callV G cl d (.fn (.func 24) [] []) [nds x, nds y] st = some (.val (.int .i64 (c x y)) st)) {d : Option Nat} {st : ASt} :
    callV G cl d (.fn (.func 48) [] []) [.list 1 (ndsL A), .list 1 (ndsL B), .fn (.func 24) [] []] st = some (.val (.int .i64 (listC c A B)) st) :=
  callV_ret E48 (by decide) ext48 rfl rfl (compareFunc_eq A B hA c hc) rfl
def headS (x y : Nd) : Int := orI (ordI x.kind y.kind) (ordI x.num y.num) (ordT x.text y.text)
/-- Which of two values is ahead. -/
def cmpS : Nat → List Nd → List Nd → Int
  | 0, _, _ => 0
  | k + 1, a, b => match a[0]?, b[0]? with
    | some x, some y => if headS x y ≠ 0 ∨ x.kind < 4 then headS x y else listC (cmpS k) (partsS a) (partsS b)
    | _, _ => 0
theorem or106_call {d : Option Nat} {st : ASt} {x y z : Int} : callV G cl d (.fn (.func 44) [] []) [.list 1 [.int .i64 x, .int .i64 y, .int .i64 z]] st = some (.val (.int .i64 (orI x y z)) st) := callV_ret E44 (by decide) ext44 rfl rfl (or106 x y z) rfl
@[simp] theorem bsv3 {p q r : Int} : bsvV G 61 3 [0, 1, 2] [.int .i64 p, .int .i64 q, .int .i64 r] = some (.list 1 [.int .i64 p, .int .i64 q, .int .i64 r]) := by kernel_rfl
set_option maxHeartbeats 16000000 in
theorem compare_step (a b : List Nd) (ra : ∀ n ∈ a, n.inR) (rb : ∀ n ∈ b, n.inR) (ca : checkS a = 0) (cb : checkS b = 0) (x y : Nd) (hx : a[0]? = some x) (hy : b[0]? = some y) (c : List Nd → List Nd → Int) (hA : (partsS a).length ≤ 3000)
    (hc : headS x y = 0 → ∀ x ∈ partsS a, ∀ y ∈ partsS b, ∀ d st, callV G cl d (.fn (.func 24) [] []) [nds x, nds y] st = some (.val (.int .i64 (c x y)) st)) :
    cl 24 [nds a, nds b] [] = some (.ret (.int .i64 (if headS x y ≠ 0 ∨ x.kind < 4 then headS x y else listC c (partsS a) (partsS b))), []) := by
  have h1 := (List.getElem?_eq_some_iff.1 hx).1
  have e1 := (List.getElem?_eq_some_iff.1 hx).2
  have h2 := (List.getElem?_eq_some_iff.1 hy).1
  have e2 := (List.getElem?_eq_some_iff.1 hy).2
  have pa := fun d st => parts_call ra ca (d := d) (st := st)
  have pb := fun d st => parts_call rb cb (d := d) (st := st)
  simp only [nds] at pa pb
  refine fn_intro Tryz.func24 rfl (by simp) (by decide) rfl ?_
  by_cases hn : headS x y = 0
  case neg =>
    rw [if_pos (.inl hn)]
    unfold headS at hn ⊢
    simp [Tryz.f24, nds, h1, h2, e1, e2, hx, hy, Nd.v, cmp107_call, cmp108_call, cmp109_call, or106_call, hn]
    exact end_is (.inr rfl) (by first | rfl | (simp; rfl)) rfl rfl
  have h110 := fun d st => compareFunc_call hA (hc hn) (d := d) (st := st)
  by_cases hk : x.kind < 4
  · rw [if_pos (.inr hk)]
    unfold headS at hn ⊢
    simp [Tryz.f24, nds, h1, h2, e1, e2, hx, hy, Nd.v, cmp107_call, cmp108_call, cmp109_call, or106_call, hn, hk]
    exact end_is (.inr rfl) (by first | rfl | (simp; rfl)) rfl rfl
  · rw [if_neg (by simp [hn, hk])]
    unfold headS at hn
    simp [Tryz.f24, nds, h1, h2, e1, e2, hx, hy, Nd.v, cmp107_call, cmp108_call, cmp109_call, or106_call, hn, hk, pa, pb, h110]
    exact end_is (.inr rfl) (by first | rfl | (simp; rfl)) rfl rfl
theorem keyN_check {t : List UInt8} (ht : t.length ≤ 120) : checkS [keyN t] = 0 := by
  have h1 : longS [keyN t] = false := by simp [longS, keyN]; omega
  have h2 : wholeS [keyN t] = some ⟨1, 1, []⟩ := by
    simp [wholeS, valS, keyN, fitsS, kidsS]
  unfold checkS
  rw [h1, h2]
  simp
theorem mem_partsS {l : List Nd} {x : List Nd} (h : x ∈ partsS l) : ∃ q ∈ spanK l 0, (mapAt l 0 = true ∧ x = [keyN (key1 l q)]) ∨ x = kidL l q := by
  unfold partsS at h
  rw [List.mem_flatten] at h
  obtain ⟨p, hp, hx⟩ := h
  obtain ⟨q, hq, rfl⟩ := List.mem_map.1 hp
  refine ⟨q, hq, ?_⟩
  unfold partAt at hx
  split at hx
  · rename_i hm
    rcases List.mem_cons.1 hx with h | h
    · exact .inl ⟨hm, h⟩
    · exact .inr (by simpa using h)
  · exact .inr (by simpa using hx)
theorem kidL_eq {l : List Nd} (hr : ∀ n ∈ l, n.inR) (hc : checkS l = 0) {q : Nat} (hq : q < l.length) : ∃ s, valS l (l.length + 1) q = some s ∧ kidL l q = cutS l q s.stop ∧ s.stop ≤ l.length ∧ s.deep ≤ 32 := by
  obtain ⟨s, h2, h3, h4⟩ := checkS_inner hc hq
  exact ⟨s, h2, by unfold kidL; rw [sub_at hr hc (Nat.le_refl _) h2]; rfl, h3, h4⟩
theorem part_ok {l : List Nd} (hr : ∀ n ∈ l, n.inR) (hc : checkS l = 0) {x : List Nd} (h : x ∈ partsS l) : checkS x = 0 ∧ (∀ n ∈ x, n.inR) ∧ x.length < l.length := by
  have hpos := checkS_pos hc
  obtain ⟨q, hq, h⟩ := mem_partsS h
  obtain ⟨q1, q2, q3⟩ := (spanK_ok hc hpos).2 q hq
  rcases h with ⟨hm, rfl⟩ | rfl
  · have hk : l[q - 1]? = some l[q - 1] := List.getElem?_eq_getElem (by omega)
    have ht := text_len hc (List.getElem_mem (show q - 1 < l.length by omega))
    refine ⟨keyN_check (by simp [key1, hk]; exact ht), fun n hn => ?_, by simp; omega⟩
    obtain rfl : n = keyN (key1 l q) := by simpa using hn
    exact ⟨by simp [keyN], by simp [keyN], by simp [keyN], by simp [keyN]⟩
  · obtain ⟨s, h2, h3, h4, h5⟩ := kidL_eq hr hc q2
    rw [h3]
    refine ⟨cutS_check h2 hc h5, fun n hn => hr n ?_, ?_⟩
    · unfold cutS at hn
      exact List.mem_of_mem_take (List.mem_of_mem_drop hn)
    · unfold cutS
      rw [List.length_drop, List.length_take]; omega
theorem partsS_len {l : List Nd} (hc : checkS l = 0) : (partsS l).length ≤ 2000 := by
  have h1 := flatP_len (partAt_len l) (spanK l 0)
  have h2 := (spanK_ok hc (checkS_pos hc)).1
  unfold flatP at h1
  unfold partsS
  omega
theorem compare_eq : ∀ (k : Nat) (a b : List Nd), a.length ≤ k → (∀ n ∈ a, n.inR) → (∀ n ∈ b, n.inR) → checkS a = 0 → checkS b = 0 → cl 24 [nds a, nds b] [] = some (.ret (.int .i64 (cmpS k a b)), []) := by
  intro k
  induction k with
  | zero => intro a b h _ _ ca _; have := checkS_pos ca; omega
  | succ k ih =>
    intro a b h ra rb ca cb
    have ha := checkS_pos ca
    have hb := checkS_pos cb
    have hx : a[0]? = some a[0] := List.getElem?_eq_getElem ha
    have hy : b[0]? = some b[0] := List.getElem?_eq_getElem hb
    have := compare_step a b ra rb ca cb _ _ hx hy (cmpS k) (by have := partsS_len ca; omega) (fun _ x hx y hy d st => by
      obtain ⟨x1, x2, x3⟩ := part_ok ra ca hx
      obtain ⟨y1, y2, y3⟩ := part_ok rb cb hy
      exact callV_ret E24 (by decide) ext24 rfl rfl (ih x y (by omega) x2 y2 x1 y1) rfl)
    rw [this]
    simp only [cmpS, hx, hy]
/-- Which of any two is ahead. -/
def orderS (a b : List Nd) : Int := if checkS a = 0 ∧ checkS b = 0 then cmpS a.length a b else 0
set_option maxHeartbeats 8000000 in
theorem order_eq (a b : List Nd) (ha : a.length ≤ 9223372036854775806) (hb : b.length ≤ 9223372036854775806) (ra : ∀ n ∈ a, n.inR) (rb : ∀ n ∈ b, n.inR) : cl 9 [nds a, nds b] [] = some (.ret (.int .i64 (orderS a b)), []) := by
  have h78 : ∀ d sl, callV G cl d (.fn (.func 23) [] []) [.own 1007] ⟨sl, [(1007, .row 1 [nds a, nds b] false ⟨false, 22⟩)]⟩ = some (.val (.bool (!badL [a, b])) (ASt.fix ⟨sl, [(1007, .row 1 [nds a, nds b] false ⟨false, 22⟩)]⟩ [1007])) := fun d sl =>
    callV_rv (pre := [.list 1 (ndsL [a, b])]) E23 (by decide) ext23 rfl rfl rfl rfl (right78_eq [a, b] (by simp) (by simp; exact ⟨ha, hb⟩) (by simp; exact ⟨ra, rb⟩)) rfl
  have hbad : badL [a, b] = !decide (checkS a = 0 ∧ checkS b = 0) := by
    by_cases h1 : checkS a = 0 <;> by_cases h2 : checkS b = 0 <;> simp [badL, h1, h2]
  rw [hbad] at h78
  refine fn_intro Tryz.func9 rfl (by simp) (by decide) rfl ?_
  unfold orderS
  by_cases hc : checkS a = 0 ∧ checkS b = 0
  · rw [if_pos hc]
    have h79 : ∀ d st, callV G cl d (.fn (.func 24) [] []) [nds a, nds b] st = some (.val (.int .i64 (cmpS a.length a b)) st) := fun d st => callV_ret E24 (by decide) ext24 rfl rfl (compare_eq a.length a b (Nat.le_refl _) ra rb hc.1 hc.2) rfl
    simp only [decide_eq_true hc, Bool.not_true, Bool.not_false] at h78
    simp only [nds] at h78 h79
    simp [Tryz.f9, nds, h78, h79]
    exact end_is (.inr rfl) (by first | rfl | (simp; rfl)) rfl rfl
  · rw [if_neg hc]
    simp only [decide_eq_false hc, Bool.not_false, Bool.not_true] at h78
    simp only [nds] at h78
    simp [Tryz.f9, nds, h78]
    exact end_is (.inr rfl) (by first | rfl | (simp; rfl)) rfl rfl
theorem order_call {a b : List Nd} (ha : a.length ≤ 9223372036854775806) (hb : b.length ≤ 9223372036854775806) (ra : ∀ n ∈ a, n.inR) (rb : ∀ n ∈ b, n.inR) {d : Option Nat} {st : ASt} : callV G cl d (.fn (.func 9) [] []) [nds a, nds b] st = some (.val (.int .i64 (orderS a b)) st) :=
  callV_ret E9 (by decide) ext9 rfl rfl (order_eq a b ha hb ra rb) rfl
end Go.Proofs.YtcgkneolohcdeaaGreat


/- Bytes stand in the order of values: plain laws. -/
namespace Go.Proofs.YtcgkneolohcdeaaGreat
open Go Abs
set_option linter.unusedSimpArgs false
set_option linter.unusedVariables false
theorem ordT_nil : ordT [] [] = 0 := rfl
theorem ordT_cons (b c : UInt8) (s u : List UInt8) : ordT (b :: s) (c :: u) = if b = c then ordT s u else if b < c then -1 else 1 := by
  unfold ordT
  by_cases h : b = c
  · subst h
    rw [if_pos rfl]
    have e : ltB (b :: s) (b :: u) = ltB s u := by simp [ltB]
    rw [e]
    by_cases h2 : s = u
    · subst h2; simp
    · have : ¬ (b :: s = b :: u) := fun h => h2 (List.cons.inj h).2
      rw [if_neg h2, if_neg this]
  · rw [if_neg h]
    have h2 : ¬ (b :: s = c :: u) := fun e => h (List.cons.inj e).1
    by_cases hlt : b < c
    · have : ltB (b :: s) (c :: u) = true := by simp [ltB, hlt]
      rw [if_pos this, if_pos hlt]
    · have : ¬ ltB (b :: s) (c :: u) = true := by simp [ltB, hlt, h]
      rw [if_neg this, if_neg h2, if_neg hlt]
theorem ordT_same (p s u : List UInt8) : ordT (p ++ s) (p ++ u) = ordT s u := by
  induction p with
  | nil => rfl
  | cons b p ih => rw [List.cons_append, List.cons_append, ordT_cons, if_pos rfl, ih]
/-- One byte that stands for a small number. -/
theorem u8B_lt {m n : Int} (hm : 0 ≤ m ∧ m < 256) (hn : 0 ≤ n ∧ n < 256) : (u8B m = u8B n ↔ m = n) ∧ (u8B m < u8B n ↔ m < n) := by
  have e : ∀ k : Int, 0 ≤ k ∧ k < 256 → ((u8B k).toNat : Int) = k := by
    intro k hk
    unfold u8B
    rw [show IntKind.u8.wrap k = k from by rw [u8w]; omega]
    exact toNat_ofNat hk.1 hk.2
  have e1 := e m hm
  have e2 := e n hn
  constructor
  · rw [← UInt8.toNat_inj]; omega
  · rw [UInt8.lt_iff_toNat_lt]; omega
theorem ordT_byte {m n : Int} (hm : 0 ≤ m ∧ m < 256) (hn : 0 ≤ n ∧ n < 256) (s u : List UInt8) : ordT (u8B m :: s) (u8B n :: u) = if ordI m n = 0 then ordT s u else ordI m n := by
  obtain ⟨h1, h2⟩ := u8B_lt hm hn
  rw [ordT_cons]
  unfold ordI
  by_cases e : m = n
  · subst e; simp
  · have : ¬ u8B m = u8B n := fun h => e (h1.1 h)
    rw [if_neg this]
    by_cases hlt : m < n
    · rw [if_pos (h2.2 hlt), if_pos hlt]; simp
    · have h3 : n < m := by omega
      rw [if_neg (fun h => hlt (h2.1 h))]
      simp [hlt, h3]
/-- A text's bytes stand in the order of texts; none begins another one. -/
theorem ordT_txt : ∀ (s t x y : List UInt8), ordT (txtB s ++ x) (txtB t ++ y) = if ordT s t = 0 then ordT x y else ordT s t := by
  intro s
  induction s with
  | nil =>
    intro t x y
    cases t with
    | nil => rw [ordT_nil, if_pos rfl, ordT_same]
    | cons c t =>
      have e : ordT [] (c :: t) = -1 := rfl
      rw [e, if_neg (by decide)]
      simp only [txtB]
      by_cases hc : c = 0
      · subst hc
        simp only [if_true, List.cons_append, ordT_cons]
        rw [if_neg (by decide), if_pos (by decide)]
      · rw [if_neg hc]
        simp only [List.cons_append, ordT_cons]
        rw [if_neg (fun h => hc h.symm), if_pos (by
          rw [UInt8.lt_iff_toNat_lt]
          have : c.toNat ≠ 0 := fun h => hc (by rw [← UInt8.toNat_inj]; exact h)
          show (0 : UInt8).toNat < c.toNat
          have : (0 : UInt8).toNat = 0 := rfl
          omega)]
  | cons b s ih =>
    intro t x y
    cases t with
    | nil =>
      have e : ordT (b :: s) [] = 1 := rfl
      rw [e, if_neg (by decide)]
      simp only [txtB]
      by_cases hb : b = 0
      · subst hb
        simp only [if_true, List.cons_append, ordT_cons]
        rw [if_neg (by decide), if_neg (by decide)]
      · rw [if_neg hb]
        simp only [List.cons_append, ordT_cons]
        rw [if_neg hb, if_neg (by
          rw [UInt8.lt_iff_toNat_lt]
          have : (0 : UInt8).toNat = 0 := rfl
          omega)]
    | cons c t =>
      rw [ordT_cons]
      have ih := ih t x y
      by_cases hbc : b = c
      · subst hbc
        rw [if_pos rfl]
        simp only [txtB]
        by_cases hb : b = 0
        · subst hb
          simp only [if_true, List.cons_append, ordT_cons]
          exact ih
        · rw [if_neg hb, if_neg hb]
          simp only [List.cons_append, ordT_cons, if_true]
          exact ih
      · rw [if_neg hbc]
        have hne : (if b < c then (-1 : Int) else 1) ≠ 0 := by split <;> decide
        rw [if_neg hne]
        have key : ∀ (p q : List UInt8), ordT (b :: p) (c :: q) = if b < c then -1 else 1 := fun p q => by rw [ordT_cons, if_neg hbc]
        simp only [txtB]
        by_cases hb : b = 0 <;> by_cases hc : c = 0
        · exact absurd (hb.trans hc.symm) hbc
        · rw [if_pos hb, if_neg hc]; simp only [List.cons_append]; exact key _ _
        · rw [if_neg hb, if_pos hc]; simp only [List.cons_append]; exact key _ _
        · rw [if_neg hb, if_neg hc]; simp only [List.cons_append]; exact key _ _
/-! Numbers -/
theorem ordI_shift (m n c : Int) : ordI (m + c) (n + c) = ordI m n := by
  unfold ordI
  have h1 : (m + c < n + c) ↔ m < n := by omega
  have h2 : (n + c < m + c) ↔ n < m := by omega
  simp only [h1, h2]
/-- The bytes of a number below 2^(8k), the highest one first. -/
def bytesN (n : Int) : Nat → List UInt8
  | 0 => []
  | k + 1 => lowR n k :: bytesN n k
theorem ordT_bytes (m n : Int) (hm : 0 ≤ m) (hn : 0 ≤ n) : ∀ (k : Nat) (x y : List UInt8), ordT (bytesN m k ++ x) (bytesN n k ++ y) = if ordI (m % 256 ^ k) (n % 256 ^ k) = 0 then ordT x y else ordI (m % 256 ^ k) (n % 256 ^ k) := by
  intro k
  induction k with
  | zero =>
    intro x y
    have e : ordI (m % 256 ^ 0) (n % 256 ^ 0) = 0 := by
      rw [Int.pow_zero, Int.emod_one, Int.emod_one]; rfl
    rw [e, if_pos rfl]; rfl
  | succ k ih =>
    intro x y
    have hp : (0 : Int) < 256 ^ k := Int.pow_pos (by decide)
    simp only [bytesN, List.cons_append, lowR]
    have r1 : 0 ≤ m / 256 ^ k % 256 ∧ m / 256 ^ k % 256 < 256 := ⟨Int.emod_nonneg _ (by decide), Int.emod_lt_of_pos _ (by decide)⟩
    have r2 : 0 ≤ n / 256 ^ k % 256 ∧ n / 256 ^ k % 256 < 256 := ⟨Int.emod_nonneg _ (by decide), Int.emod_lt_of_pos _ (by decide)⟩
    rw [ordT_byte r1 r2, ih x y]
    have split : ∀ z : Int, z % 256 ^ (k + 1) = (z / 256 ^ k % 256) * 256 ^ k + z % 256 ^ k := by
      intro z
      have h1 := Int.emod_add_mul_ediv z (256 ^ k)
      have h2 := Int.emod_add_mul_ediv (z / 256 ^ k) 256
      have h3 : z / 256 ^ (k + 1) = z / 256 ^ k / 256 := by rw [Int.pow_succ, Int.ediv_ediv_of_nonneg (by omega)]
      have h4 := Int.emod_add_mul_ediv z (256 ^ (k + 1))
      rw [h3, Int.pow_succ] at h4
      generalize z / 256 ^ k / 256 = q at *
      generalize z / 256 ^ k % 256 = r at *
      rw [← h2] at h1
      rw [Int.mul_add, ← Int.mul_assoc] at h1
      rw [Int.pow_succ]
      have : r * 256 ^ k = 256 ^ k * r := Int.mul_comm _ _
      omega
    have s1 := split m
    have s2 := split n
    have l1 : 0 ≤ m % 256 ^ k ∧ m % 256 ^ k < 256 ^ k := ⟨Int.emod_nonneg _ (by omega), Int.emod_lt_of_pos _ hp⟩
    have l2 : 0 ≤ n % 256 ^ k ∧ n % 256 ^ k < 256 ^ k := ⟨Int.emod_nonneg _ (by omega), Int.emod_lt_of_pos _ hp⟩
    rw [s1, s2]
    generalize m / 256 ^ k % 256 = a at *
    generalize n / 256 ^ k % 256 = b at *
    generalize m % 256 ^ k = c at *
    generalize n % 256 ^ k = d at *
    generalize (256 : Int) ^ k = P at *
    by_cases hab : a = b
    · subst hab
      have e0 : ordI a a = 0 := by unfold ordI; simp
      have e1 : ordI (a * P + c) (a * P + d) = ordI c d := by
        have := ordI_shift c d (a * P)
        rw [Int.add_comm c, Int.add_comm d] at this; exact this
      rw [e0, if_pos rfl, e1]
    · rcases Int.lt_or_gt_of_ne hab with h | h
      · have h5 : (a + 1) * P ≤ b * P := Int.mul_le_mul_of_nonneg_right (by omega) (by omega)
        rw [Int.add_mul, Int.one_mul] at h5
        have e1 : ordI a b = -1 := by unfold ordI; rw [if_pos h]
        have e2 : ordI (a * P + c) (b * P + d) = -1 := by unfold ordI; rw [if_pos (by omega)]
        rw [e1, e2, if_neg (by decide), if_neg (by decide)]
      · have h5 : (b + 1) * P ≤ a * P := Int.mul_le_mul_of_nonneg_right (by omega) (by omega)
        rw [Int.add_mul, Int.one_mul] at h5
        have e1 : ordI a b = 1 := by unfold ordI; rw [if_neg (by omega), if_pos h]
        have e2 : ordI (a * P + c) (b * P + d) = 1 := by unfold ordI; rw [if_neg (by omega), if_pos (by omega)]
        rw [e1, e2, if_neg (by decide), if_neg (by decide)]
theorem bytesN_eq {n : Int} (h0 : 0 ≤ n) : bytesN n 8 = bigB n := by
  simp only [bytesN, lowR_eq h0, bigB]
/-- A number's bytes stand in the order of numbers. -/
theorem ordT_num {m n : Int} (hm : -9223372036854775808 ≤ m ∧ m ≤ 9223372036854775807) (hn : -9223372036854775808 ≤ n ∧ n ≤ 9223372036854775807) (x y : List UInt8) : ordT (numB m ++ x) (numB n ++ y) = if ordI m n = 0 then ordT x y else ordI m n := by
  have sh : ∀ k : Int, -9223372036854775808 ≤ k ∧ k ≤ 9223372036854775807 → wXor .u64 (IntKind.u64.wrap k) 9223372036854775808 = k + 9223372036854775808 := by
    intro k hk
    have h1 : 0 ≤ IntKind.u64.wrap k ∧ IntKind.u64.wrap k < 18446744073709551616 := by rw [u64w]; omega
    rw [xor_sign _ h1.1 h1.2, u64w, u64w]
    omega
  unfold numB
  rw [sh m hm, sh n hn, ← bytesN_eq (show (0 : Int) ≤ m + 9223372036854775808 by omega), ← bytesN_eq (show (0 : Int) ≤ n + 9223372036854775808 by omega), ordT_bytes _ _ (by omega) (by omega)]
  have e : (256 : Int) ^ 8 = 18446744073709551616 := by decide
  rw [e, Int.emod_eq_of_lt (by omega) (by omega), Int.emod_eq_of_lt (by omega) (by omega), ordI_shift]
end Go.Proofs.YtcgkneolohcdeaaGreat


/- Bytes stand in the order of values: the same bytes elsewhere; lists of bytes. -/
namespace Go.Proofs.YtcgkneolohcdeaaGreat
open Go Abs
set_option linter.unusedSimpArgs false
set_option linter.unusedVariables false
theorem cutS_at {l : List Nd} {q e i : Nat} (h : q + i < e) : (cutS l q e)[i]? = l[q + i]? := by
  unfold cutS
  rw [List.getElem?_drop, List.getElem?_take, if_pos h]
theorem cutS_len {l : List Nd} {q e : Nat} (h : e ≤ l.length) : (cutS l q e).length = e - q := by
  unfold cutS; rw [List.length_drop, List.length_take]; omega
theorem kidsS_stop {val : Nat → Option Span} {l : List Nd} {b : Bool} (hv : ∀ st s, val st = some s → st < s.stop) : ∀ {c i s last r}, kidsS val l b c i s last = some r → (∀ q ∈ s.kids, q < s.stop) → s.stop ≤ r.stop ∧ ∀ q ∈ r.kids, q < r.stop := by
  intro c
  induction c with
  | zero => intro i s last r hr h2; cases hr; exact ⟨Nat.le_refl _, h2⟩
  | succ c ih =>
    intro i s last r hr h2
    simp only [kidsS] at hr
    rw [Option.bind_eq_some_iff] at hr; obtain ⟨p, hp, hr⟩ := hr
    rw [Option.bind_eq_some_iff] at hr; obtain ⟨kid, hk, hr⟩ := hr
    have hge := keyS_ge hp
    have hlt := hv _ _ hk
    obtain ⟨h3, h4⟩ := ih hr (fun q hq => by
      simp only
      rcases List.mem_append.1 hq with h | h
      · have := h2 q h; omega
      · obtain rfl : q = p.1 := by simpa using h
        omega)
    exact ⟨by simp only at h3; omega, h4⟩
theorem kidsS_below {l : List Nd} {k a : Nat} {s : Span} (h : valS l k a = some s) : ∀ x ∈ s.kids, x < s.stop := by
  cases k with
  | zero => cases h
  | succ k =>
    obtain ⟨n, r, hn, hf, hr, rfl⟩ := valS_map h
    exact (kidsS_stop (fun st s hs => (valS_spec hs).1) hr (by simp)).2
theorem spanK_moved {l : List Nd} (hc : checkS l = 0) {q : Nat} {s : Span} (hs : valS l (l.length + 1) q = some s) (hd : s.deep ≤ 32) {i : Nat} (hi : q + i < s.stop) :
    spanK (cutS l q s.stop) i = (spanK l (q + i)).map (· - q) ∧ ∀ x ∈ spanK l (q + i), q + i < x ∧ x < s.stop := by
  have hsp := valS_spec hs
  obtain ⟨sp, h1, h2, h3⟩ := valS_inner (a := q + i) hs (by omega) hi
  have hcc := cutS_check hs hc hd
  have hlen := cutS_len (l := l) (q := q) hsp.2.1
  obtain ⟨s2, g1, g2, g3⟩ := checkS_inner hcc (a := i) (by omega)
  have hm := valS_moved (l' := cutS l q s.stop) (b := i) (n := s.stop - (q + i)) (fun j hj => by
    rw [cutS_at (by omega)]; congr 1; omega) h1 (by omega)
  have hm2 := valS_mono g1 (show (cutS l q s.stop).length + 1 ≤ l.length + 1 by omega)
  rw [hm] at hm2
  have e : sp.at_ (q + i) i = s2 := Option.some.inj hm2
  have k1 : spanK l (q + i) = sp.kids := by simp [spanK, h1]
  have k2 : spanK (cutS l q s.stop) i = s2.kids := by simp [spanK, g1]
  have lt : ∀ x ∈ sp.kids, q + i < x ∧ x < s.stop := by
    intro x hx
    have hlt := valS_spec h1
    have g := (spanK_ok hc (show q + i < l.length by omega)).2 x (by rw [k1]; exact hx)
    refine ⟨g.1, ?_⟩
    -- a kid begins before its value's stop
    have := kidsS_below h1 x hx
    omega
  rw [k1, k2, ← e]
  refine ⟨?_, lt⟩
  show sp.kids.map (fun x => i + (x - (q + i))) = sp.kids.map (· - q)
  refine List.map_congr_left fun x hx => ?_
  have := lt x hx
  omega
/-- THE SAME NODES ELSEWHERE have the same bytes. -/
theorem valB_moved {l : List Nd} (hc : checkS l = 0) {q : Nat} {s : Span} (hs : valS l (l.length + 1) q = some s) (hd : s.deep ≤ 32) : ∀ (k k' i : Nat), s.stop - (q + i) ≤ k → l.length - (q + i) ≤ k' → q + i < s.stop → valB (cutS l q s.stop) k i = valB l k' (q + i) := by
  have hsp := valS_spec hs
  intro k
  induction k with
  | zero => intro k' i h1 h2 h3; omega
  | succ k ih =>
    intro k' i h1 h2 h3
    cases k' with
    | zero => omega
    | succ k' =>
      have hn : l[q + i]? = some l[q + i] := List.getElem?_eq_getElem (by omega)
      have hn2 : (cutS l q s.stop)[i]? = some l[q + i] := by rw [cutS_at h3]; exact hn
      obtain ⟨m1, m2⟩ := spanK_moved hc hs hd h3
      rw [valB_succ hn, valB_succ hn2]
      congr 1
      have hv : ∀ x ∈ spanK l (q + i), valB (cutS l q s.stop) k (x - q) = valB l k' x := fun x hx => by
        obtain ⟨x1, x2⟩ := m2 x hx
        have e : q + (x - q) = x := by omega
        have := ih k' (x - q) (by omega) (by omega) (by omega)
        rw [e] at this; exact this
      have hkey : ∀ x ∈ spanK l (q + i), key1 (cutS l q s.stop) (x - q) = key1 l x := fun x hx => by
        obtain ⟨x1, x2⟩ := m2 x hx
        unfold key1
        rw [cutS_at (by omega)]
        congr 3; omega
      have a1 : allB (valB (cutS l q s.stop) k) (spanK (cutS l q s.stop) i) = allB (valB l k') (spanK l (q + i)) := by
        unfold allB
        rw [m1, List.map_map]
        congr 1
        exact List.map_congr_left fun x hx => hv x hx
      have a2 : allB (memB (cutS l q s.stop) (valB (cutS l q s.stop) k)) (spanK (cutS l q s.stop) i) = allB (memB l (valB l k')) (spanK l (q + i)) := by
        unfold allB
        rw [m1, List.map_map]
        congr 1
        refine List.map_congr_left fun x hx => ?_
        show memB (cutS l q s.stop) (valB (cutS l q s.stop) k) (x - q) = memB l (valB l k') x
        simp only [memB, hkey x hx, hv x hx]
      simp only [bodyB, a1, a2]
/-- A kid's bytes are its own. -/
theorem valB_kid {l : List Nd} (hr : ∀ n ∈ l, n.inR) (hc : checkS l = 0) {q k : Nat} (hq : q < l.length) (hk : l.length - q ≤ k) : valB l k q = putB (kidL l q) := by
  obtain ⟨s, h2, h3, h4, h5⟩ := kidL_eq hr hc hq
  have hsp := valS_spec h2
  rw [h3]
  unfold putB
  have := valB_moved hc h2 h5 ((cutS l q s.stop).length + 1) k 0 (by rw [cutS_len h4]; omega) (by omega) (by omega)
  rw [this]; rfl
theorem putB_some {l : List Nd} {n : Nd} (hn : l[0]? = some n) : putB l = u8B (n.kind + 1) :: bodyB l (valB l l.length) 0 n := valB_succ hn
/-! Lists of bytes -/
theorem listC_app {c : List Nd → List Nd → Int} : ∀ (A B A' B' : List (List Nd)), A.length = B.length → listC c (A ++ A') (B ++ B') = if listC c A B = 0 then listC c A' B' else listC c A B := by
  intro A
  induction A with
  | nil => intro B A' B' h; cases B with
    | nil => simp [listC]
    | cons _ _ => simp at h
  | cons a A ih => intro B A' B' h; cases B with
    | nil => simp at h
    | cons b B =>
      have e1 : listC c (a :: A ++ A') (b :: B ++ B') = if c a b = 0 then listC c (A ++ A') (B ++ B') else c a b := rfl
      have e2 : listC c (a :: A) (b :: B) = if c a b = 0 then listC c A B else c a b := rfl
      by_cases h0 : c a b = 0
      · rw [if_pos h0] at e1 e2
        rw [e1, e2]; exact ih B A' B' (by simpa using h)
      · rw [if_neg h0] at e1 e2
        rw [e1, e2, if_neg h0]
theorem ordT_list {c : List Nd → List Nd → Int} {f1 f2 : Nat → List UInt8} {P1 P2 : Nat → List (List Nd)} (m : Nat) (hm : 0 < m) (x y : List UInt8) : ∀ (K1 K2 : List Nat), (∀ q ∈ K1, (P1 q).length = m ∧ ∃ h r, f1 q = h :: r ∧ h ≠ 0) → (∀ q ∈ K2, (P2 q).length = m ∧ ∃ h r, f2 q = h :: r ∧ h ≠ 0) →
    (∀ q1 ∈ K1, ∀ q2 ∈ K2, ∀ x' y', ordT (f1 q1 ++ x') (f2 q2 ++ y') = if listC c (P1 q1) (P2 q2) = 0 then ordT x' y' else listC c (P1 q1) (P2 q2)) →
    ordT (allB f1 K1 ++ (0 :: x)) (allB f2 K2 ++ (0 :: y)) = if listC c (flatP P1 K1) (flatP P2 K2) = 0 then ordT x y else listC c (flatP P1 K1) (flatP P2 K2) := by
  intro K1
  induction K1 with
  | nil =>
    intro K2 _ h2 _
    cases K2 with
    | nil => simp [allB, flatP, listC, ordT_cons]
    | cons q K2 =>
      obtain ⟨g1, h, r, g2, g3⟩ := h2 q (by simp)
      obtain ⟨p, P, hp⟩ : ∃ p P, P2 q = p :: P := by
        cases hP : P2 q with
        | nil => rw [hP] at g1; simp at g1; omega
        | cons p P => exact ⟨p, P, rfl⟩
      have e : listC c (flatP P1 []) (flatP P2 (q :: K2)) = -1 := by simp [flatP, hp, listC]
      rw [e, if_neg (by decide)]
      simp only [allB, List.map_nil, List.flatten_nil, List.nil_append, List.map_cons, List.flatten_cons, g2, List.cons_append, ordT_cons]
      rw [if_neg (fun e => g3 e.symm), if_pos]
      rw [UInt8.lt_iff_toNat_lt]
      have : h.toNat ≠ 0 := fun e => g3 (by rw [← UInt8.toNat_inj]; exact e)
      have h0 : (0 : UInt8).toNat = 0 := rfl
      omega
  | cons q1 K1 ih =>
    intro K2 h1 h2 h3
    obtain ⟨g1, h, r, g2, g3⟩ := h1 q1 (by simp)
    cases K2 with
    | nil =>
      obtain ⟨p, P, hp⟩ : ∃ p P, P1 q1 = p :: P := by
        cases hP : P1 q1 with
        | nil => rw [hP] at g1; simp at g1; omega
        | cons p P => exact ⟨p, P, rfl⟩
      have e : listC c (flatP P1 (q1 :: K1)) (flatP P2 []) = 1 := by simp [flatP, hp, listC]
      rw [e, if_neg (by decide)]
      simp only [allB, List.map_nil, List.flatten_nil, List.nil_append, List.map_cons, List.flatten_cons, g2, List.cons_append, ordT_cons]
      rw [if_neg g3, if_neg]
      rw [UInt8.lt_iff_toNat_lt]
      have h0 : (0 : UInt8).toNat = 0 := rfl
      omega
    | cons q2 K2 =>
      obtain ⟨k1, _⟩ := h2 q2 (by simp)
      have ihh := ih K2 (fun q hq => h1 q (List.mem_cons_of_mem _ hq)) (fun q hq => h2 q (List.mem_cons_of_mem _ hq)) (fun a ha b hb => h3 a (List.mem_cons_of_mem _ ha) b (List.mem_cons_of_mem _ hb))
      have e1 : allB f1 (q1 :: K1) ++ (0 :: x) = f1 q1 ++ (allB f1 K1 ++ (0 :: x)) := by simp [allB]
      have e2 : allB f2 (q2 :: K2) ++ (0 :: y) = f2 q2 ++ (allB f2 K2 ++ (0 :: y)) := by simp [allB]
      have e3 : flatP P1 (q1 :: K1) = P1 q1 ++ flatP P1 K1 := by simp [flatP]
      have e4 : flatP P2 (q2 :: K2) = P2 q2 ++ flatP P2 K2 := by simp [flatP]
      rw [e1, e2, h3 q1 (by simp) q2 (by simp), ihh, e3, e4, listC_app _ _ _ _ (g1.trans k1.symm)]
      by_cases h0 : listC c (P1 q1) (P2 q2) = 0
      · rw [if_pos h0, if_pos h0]
      · rw [if_neg h0, if_neg h0, if_neg h0]
end Go.Proofs.YtcgkneolohcdeaaGreat


/- Bytes stand in the order of values. -/
namespace Go.Proofs.YtcgkneolohcdeaaGreat
open Go Abs
set_option linter.unusedSimpArgs false
set_option linter.unusedVariables false
theorem ordI_self (m : Int) : ordI m m = 0 := by unfold ordI; simp
theorem ordT_self (s : List UInt8) : ordT s s = 0 := by
  induction s with
  | nil => rfl
  | cons b s ih => rw [ordT_cons, if_pos rfl, ih]
theorem ordI_eq {m n : Int} (h : ordI m n = 0) : m = n := by
  unfold ordI at h
  split at h
  · cases h
  · split at h
    · cases h
    · omega
theorem fits_plain0 {n : Nd} (h : fitsS n = true) (hr : n.inR) : (n.kind ≠ 1 → n.kind ≠ 2 → n.num = 0) ∧ (n.kind ≠ 3 → n.text = []) ∧ (n.kind = 1 → n.num = 0 ∨ n.num = 1) := by
  unfold fitsS at h
  split at h
  · rename_i h1
    simp only [Bool.and_eq_true, decide_eq_true_eq] at h
    exact ⟨fun h2 => absurd h1 h2, fun _ => h.1.2, fun _ => (andNot1 hr.1 hr.2.1).1 h.1.1⟩
  rename_i g1
  split at h
  · rename_i h1
    simp only [Bool.and_eq_true, decide_eq_true_eq] at h
    exact ⟨fun _ _ => h.1.1, fun _ => h.1.2, fun e => absurd e g1⟩
  split at h
  · rename_i h1
    simp only [Bool.and_eq_true, decide_eq_true_eq] at h
    exact ⟨fun _ h2 => absurd h1 h2, fun _ => h.1, fun e => absurd e g1⟩
  split at h
  · rename_i h1
    simp only [Bool.and_eq_true, decide_eq_true_eq] at h
    exact ⟨fun _ _ => h.1, fun h3 => absurd h1 h3, fun e => absurd e g1⟩
  split at h
  · simp only [Bool.and_eq_true, decide_eq_true_eq] at h
    exact ⟨fun _ _ => h.1.1, fun _ => h.1.2, fun e => absurd e g1⟩
  · cases h
theorem head_byte (l : List Nd) {k q : Nat} {n : Nd} (hn : l[q]? = some n) (hf : fitsS n = true) (hk : 0 < k) : ∃ h r, valB l k q = h :: r ∧ h ≠ 0 := by
  obtain ⟨k, rfl⟩ : ∃ j, k = j + 1 := ⟨k - 1, by omega⟩
  refine ⟨_, _, valB_succ hn, fun e => ?_⟩
  have h1 : u8B (n.kind + 1) = u8B 0 := e
  have := ((u8B_lt (m := n.kind + 1) (n := 0) (by rcases fits_kind hf with h | h | h | h | h | h <;> rw [h] <;> decide) (by decide)).1).1 h1
  rcases fits_kind hf with h | h | h | h | h | h <;> rw [h] at this <;> cases this
theorem valid_fits {l : List Nd} (hc : checkS l = 0) {q : Nat} (hq : q < l.length) : ∃ n, l[q]? = some n ∧ fitsS n = true := by
  obtain ⟨s, h2, _, _⟩ := checkS_inner hc hq
  obtain ⟨n, r, hn, hf, _, _⟩ := valS_map h2
  exact ⟨n, hn, hf⟩
theorem cmpS_key {k : Nat} (hk : 0 < k) (s t : List UInt8) : cmpS k [keyN s] [keyN t] = ordT s t := by
  obtain ⟨k, rfl⟩ : ∃ j, k = j + 1 := ⟨k - 1, by omega⟩
  have h : headS (keyN s) (keyN t) = ordT s t := by
    unfold headS orI keyN
    simp only [ordI_self]
    simp
  simp only [cmpS, List.getElem?_cons_zero, h]
  rw [if_pos (.inr (by simp [keyN]))]
theorem listC_one {c : List Nd → List Nd → Int} (x y : List Nd) : listC c [x] [y] = c x y := by
  have e : listC c [x] [y] = if c x y = 0 then 0 else c x y := rfl
  rw [e]; split
  · rename_i h; exact h.symm
  · rfl
theorem listC_two {c : List Nd → List Nd → Int} (x y x' y' : List Nd) : listC c [x, x'] [y, y'] = if c x y = 0 then c x' y' else c x y := by
  have e : listC c [x, x'] [y, y'] = if c x y = 0 then listC c [x'] [y'] else c x y := rfl
  rw [e, listC_one]
theorem partsS_flat (l : List Nd) : partsS l = flatP (partAt l) (spanK l 0) := rfl
/-- BYTES STAND IN THE ORDER OF VALUES, whatever is behind them. -/
theorem ordT_val : ∀ (k : Nat) (a b : List Nd), a.length ≤ k → (∀ n ∈ a, n.inR) → (∀ n ∈ b, n.inR) → checkS a = 0 → checkS b = 0 → ∀ x y, ordT (putB a ++ x) (putB b ++ y) = if cmpS k a b = 0 then ordT x y else cmpS k a b := by
  intro k
  induction k with
  | zero => intro a b h _ _ ca _; have := checkS_pos ca; omega
  | succ k ih =>
    intro a b hk ra rb ca cb x y
    have pa := checkS_pos ca
    have pb := checkS_pos cb
    obtain ⟨m, hm, fm⟩ := valid_fits ca pa
    obtain ⟨n, hn, fn⟩ := valid_fits cb pb
    have rm := ra m (List.mem_of_getElem? hm)
    have rn := rb n (List.mem_of_getElem? hn)
    rw [putB_some hm, putB_some hn, List.cons_append, List.cons_append, ordT_byte (by rcases fits_kind fm with h | h | h | h | h | h <;> rw [h] <;> decide) (by rcases fits_kind fn with h | h | h | h | h | h <;> rw [h] <;> decide), ordI_shift]
    have hcmp : cmpS (k + 1) a b = if headS m n ≠ 0 ∨ m.kind < 4 then headS m n else listC (cmpS k) (partsS a) (partsS b) := by simp only [cmpS, hm, hn]
    by_cases hkind : ordI m.kind n.kind = 0
    case neg =>
      have hh : headS m n = ordI m.kind n.kind := by unfold headS orI; rw [if_pos hkind]
      have e : cmpS (k + 1) a b = ordI m.kind n.kind := by rw [hcmp, hh]; exact if_pos (.inl hkind)
      rw [e, if_neg hkind, if_neg hkind]
    rw [if_pos hkind]
    have ek := ordI_eq hkind
    obtain ⟨m1, m2, m3⟩ := fits_plain0 fm rm
    obtain ⟨n1, n2, n3⟩ := fits_plain0 fn rn
    have hh : headS m n = if ordI m.num n.num ≠ 0 then ordI m.num n.num else ordT m.text n.text := by
      unfold headS orI; rw [if_neg (by simp [hkind])]
    have big : 4 ≤ m.kind → headS m n = 0 := fun h => by
      rw [hh, m1 (by omega) (by omega), n1 (by omega) (by omega), m2 (by omega), n2 (by omega), ordI_self, ordT_self]; simp
    have small : m.kind < 4 → cmpS (k + 1) a b = headS m n := fun h => by rw [hcmp, if_pos (.inr h)]
    rcases fits_kind fm with h | h | h | h | h | h
    · rw [small (by omega), hh, m1 (by omega) (by omega), n1 (by omega) (by omega), m2 (by omega), n2 (by omega), ordI_self, ordT_self]
      have e1 : bodyB a (valB a a.length) 0 m = [] := by simp [bodyB, h]
      have e2 : bodyB b (valB b b.length) 0 n = [] := by simp [bodyB, ← ek, h]
      rw [e1, e2]; simp
    · rw [small (by omega), hh, m2 (by omega), n2 (by omega), ordT_self]
      have e1 : bodyB a (valB a a.length) 0 m = [u8B m.num] := by simp [bodyB, h]
      have e2 : bodyB b (valB b b.length) 0 n = [u8B n.num] := by simp [bodyB, ← ek, h]
      rw [e1, e2, List.singleton_append, List.singleton_append, ordT_byte (by have := m3 h; omega) (by have := n3 (by omega); omega)]
      by_cases h0 : ordI m.num n.num = 0 <;> simp [h0]
    · rw [small (by omega), hh, m2 (by omega), n2 (by omega), ordT_self]
      have e1 : bodyB a (valB a a.length) 0 m = numB m.num := by simp [bodyB, h]
      have e2 : bodyB b (valB b b.length) 0 n = numB n.num := by simp [bodyB, ← ek, h]
      rw [e1, e2, ordT_num ⟨rm.1, rm.2.1⟩ ⟨rn.1, rn.2.1⟩]
      by_cases h0 : ordI m.num n.num = 0 <;> simp [h0]
    · rw [small (by omega), hh, m1 (by omega) (by omega), n1 (by omega) (by omega), ordI_self]
      have e1 : bodyB a (valB a a.length) 0 m = txtB m.text := by simp [bodyB, h]
      have e2 : bodyB b (valB b b.length) 0 n = txtB n.text := by simp [bodyB, ← ek, h]
      rw [e1, e2, ordT_txt]; simp
    · have hb := big (by omega)
      have ec : cmpS (k + 1) a b = listC (cmpS k) (partsS a) (partsS b) := by rw [hcmp]; exact if_neg fun hor => hor.elim (fun h0 => h0 hb) (fun h4 => by omega)
      rw [ec]
      have e1 : bodyB a (valB a a.length) 0 m = allB (valB a a.length) (spanK a 0) ++ [0] := by simp [bodyB, h]
      have e2 : bodyB b (valB b b.length) 0 n = allB (valB b b.length) (spanK b 0) ++ [0] := by simp [bodyB, ← ek, h]
      rw [e1, e2, List.append_assoc, List.append_assoc, List.singleton_append, List.singleton_append, partsS_flat, partsS_flat]
      have ma : mapAt a 0 = false := by simp [mapAt, hm, h]
      have mb : mapAt b 0 = false := by simp [mapAt, hn, ← ek, h]
      have qa : ∀ q, partAt a q = [kidL a q] := fun q => by unfold partAt; rw [ma]; rfl
      have qb : ∀ q, partAt b q = [kidL b q] := fun q => by unfold partAt; rw [mb]; rfl
      refine ordT_list (c := cmpS k) (f1 := valB a a.length) (f2 := valB b b.length) (P1 := partAt a) (P2 := partAt b) 1 (by omega) x y (spanK a 0) (spanK b 0) (fun q hq => ⟨by rw [qa]; rfl, ?_⟩) (fun q hq => ⟨by rw [qb]; rfl, ?_⟩) (fun q1 h1 q2 h2 x' y' => ?_)
      · obtain ⟨g1, g2, g3⟩ := (spanK_ok ca pa).2 q hq
        obtain ⟨z, hz, fz⟩ := valid_fits ca g2
        exact head_byte a hz fz pa
      · obtain ⟨g1, g2, g3⟩ := (spanK_ok cb pb).2 q hq
        obtain ⟨z, hz, fz⟩ := valid_fits cb g2
        exact head_byte b hz fz pb
      · obtain ⟨g1, g2, g3⟩ := (spanK_ok ca pa).2 q1 h1
        obtain ⟨j1, j2, j3⟩ := (spanK_ok cb pb).2 q2 h2
        rw [qa, qb, listC_one, valB_kid ra ca g2 (by omega), valB_kid rb cb j2 (by omega)]
        obtain ⟨p1, p2, p3⟩ := part_ok ra ca (x := kidL a q1) (by rw [partsS_flat]; unfold flatP; exact List.mem_flatten.2 ⟨_, List.mem_map_of_mem h1, by rw [qa]; simp⟩)
        obtain ⟨r1, r2, r3⟩ := part_ok rb cb (x := kidL b q2) (by rw [partsS_flat]; unfold flatP; exact List.mem_flatten.2 ⟨_, List.mem_map_of_mem h2, by rw [qb]; simp⟩)
        exact ih _ _ (by omega) p2 r2 p1 r1 x' y'
    · have hb := big (by omega)
      have ec : cmpS (k + 1) a b = listC (cmpS k) (partsS a) (partsS b) := by rw [hcmp]; exact if_neg fun hor => hor.elim (fun h0 => h0 hb) (fun h4 => by omega)
      rw [ec]
      have e1 : bodyB a (valB a a.length) 0 m = allB (memB a (valB a a.length)) (spanK a 0) ++ [0] := by simp [bodyB, h]
      have e2 : bodyB b (valB b b.length) 0 n = allB (memB b (valB b b.length)) (spanK b 0) ++ [0] := by simp [bodyB, ← ek, h]
      rw [e1, e2, List.append_assoc, List.append_assoc, List.singleton_append, List.singleton_append, partsS_flat, partsS_flat]
      have ma : mapAt a 0 = true := by simp [mapAt, hm, h]
      have mb : mapAt b 0 = true := by simp [mapAt, hn, ← ek, h]
      have qa : ∀ q, partAt a q = [[keyN (key1 a q)], kidL a q] := fun q => by unfold partAt; rw [ma]; rfl
      have qb : ∀ q, partAt b q = [[keyN (key1 b q)], kidL b q] := fun q => by unfold partAt; rw [mb]; rfl
      refine ordT_list (c := cmpS k) (f1 := memB a (valB a a.length)) (f2 := memB b (valB b b.length)) (P1 := partAt a) (P2 := partAt b) 2 (by omega) x y (spanK a 0) (spanK b 0) (fun q hq => ⟨by rw [qa]; rfl, 1, _, rfl, by decide⟩) (fun q hq => ⟨by rw [qb]; rfl, 1, _, rfl, by decide⟩) (fun q1 h1 q2 h2 x' y' => ?_)
      obtain ⟨g1, g2, g3⟩ := (spanK_ok ca pa).2 q1 h1
      obtain ⟨j1, j2, j3⟩ := (spanK_ok cb pb).2 q2 h2
      obtain ⟨p1, p2, p3⟩ := part_ok ra ca (x := kidL a q1) (by rw [partsS_flat]; unfold flatP; exact List.mem_flatten.2 ⟨_, List.mem_map_of_mem h1, by rw [qa]; simp⟩)
      obtain ⟨r1, r2, r3⟩ := part_ok rb cb (x := kidL b q2) (by rw [partsS_flat]; unfold flatP; exact List.mem_flatten.2 ⟨_, List.mem_map_of_mem h2, by rw [qb]; simp⟩)
      have pk := checkS_pos p1
      rw [qa, qb, listC_two, cmpS_key (by omega)]
      unfold memB
      rw [List.cons_append, List.cons_append, List.cons_append, List.cons_append, ordT_cons, if_pos rfl, List.append_assoc, List.append_assoc, ordT_txt, valB_kid ra ca g2 (by omega), valB_kid rb cb j2 (by omega), ih _ _ (by omega) p2 r2 p1 r1 x' y']
      by_cases h0 : ordT (key1 a q1) (key1 b q2) = 0
      · rw [if_pos h0, if_pos h0]
      · rw [if_neg h0, if_neg h0, if_neg h0]
theorem putB_order {a b : List Nd} (ra : ∀ n ∈ a, n.inR) (rb : ∀ n ∈ b, n.inR) (ca : checkS a = 0) (cb : checkS b = 0) : ordT (putB a) (putB b) = orderS a b := by
  have := ordT_val a.length a b (Nat.le_refl _) ra rb ca cb [] []
  rw [List.append_nil, List.append_nil] at this
  unfold orderS
  rw [if_pos ⟨ca, cb⟩, this]
  split
  · rename_i h; rw [h]; rfl
  · rfl
end Go.Proofs.YtcgkneolohcdeaaGreat


/- More equations: indexing, small numbers. -/
namespace Go.Proofs.YtcgkneolohcdeaaGreat.Abs
open Go Go.RowKit
set_option linter.unusedSimpArgs false
set_option linter.unusedVariables false
def indexT (P : Program) (d : Option TypeDesc) (x : AV) (n : Int) : Option AV :=
  match d, x with
  | some (.array m e), .agg cs => if 0 ≤ n ∧ n < m then partT P e cs (n.toNat * P.cellsOf e) else none
  | some .string, .str s => if 0 ≤ n then (s[n.toNat]?).map fun b => .int .u8 b.toNat else none
  | _, _ => none
@[simp] theorem indexv_T {P t x k n} : indexv P t x (.int k n) = indexT P (P.underlying t) x n := rfl
@[simp] theorem indexT_str {P s n} : indexT P (some .string) (.str s) n = if 0 ≤ n then (s[n.toNat]?).map fun b => .int .u8 b.toNat else none := rfl
@[simp] theorem indexT_agg {P m e cs n} : indexT P (some (.array m e)) (.agg cs) n = if 0 ≤ n ∧ n < m then partT P e cs (n.toNat * P.cellsOf e) else none := rfl
theorem u64_wrap (n : Int) : IntKind.u64.wrap n = n % 18446744073709551616 := by simp [IntKind.wrap, IntKind.bits, IntKind.signed]
theorem u32_wrap (n : Int) : IntKind.u32.wrap n = n % 4294967296 := by simp [IntKind.wrap, IntKind.bits, IntKind.signed]
theorem u8_wrap (n : Int) : IntKind.u8.wrap n = n % 256 := by simp [IntKind.wrap, IntKind.bits, IntKind.signed]
@[simp] theorem wrap_0 : IntKind.i64.wrap 0 = 0 := rfl
@[simp] theorem wrap_1 : IntKind.i64.wrap 1 = 1 := rfl
end Go.Proofs.YtcgkneolohcdeaaGreat.Abs


/- What the functions come to: keys in order: strings.Compare, slices.SortFunc of few places. -/
namespace Go.Proofs.YtcgkneolohcdeaaGreat
open Go Abs
set_option linter.unusedSimpArgs false
set_option linter.unusedVariables false

/-! Compare -/
/-! Sorted by putting each where it belongs -/
attribute [local simp] canonK canonAll canonSlot canonCell canonBox ownStep restrictTo pureCells pureRows reachL AObj.names List.range_succ appendA
@[simp] theorem intsL_length {L : List Nat} : (intsL L).length = L.length := by simp [intsL]
@[simp] theorem intsL_at {L : List Nat} {i : Nat} {h : i < (intsL L).length} : (intsL L)[i] = .int .i64 ((L[i]'(by simpa using h) : Nat) : Int) := by simp [intsL]
end Go.Proofs.YtcgkneolohcdeaaGreat


/- What the functions come to: tree.Map. -/
namespace Go.Proofs.YtcgkneolohcdeaaGreat
open Go Abs
set_option linter.unusedSimpArgs false
set_option linter.unusedVariables false

-- What a loop's head is unfolded by, where there is memory.
attribute [local simp] canonK canonAll canonSlot canonCell canonBox ownStep restrictTo pureCells pureRows reachL AObj.names List.range_succ appendA

/-! The places -/
/-! The members -/
@[simp] theorem strsL_length {K : List (List UInt8)} : (strsL K).length = K.length := by simp [strsL]
/-! Map -/
end Go.Proofs.YtcgkneolohcdeaaGreat


/- Keys in order: no program is looked at here. -/
namespace Go.Proofs.YtcgkneolohcdeaaGreat
open Go Abs
set_option linter.unusedSimpArgs false
set_option linter.unusedVariables false

theorem ltB_irrefl : ∀ (a : List UInt8), ltB a a = false
  | [] => rfl
  | a :: x => by simp [ltB, ltB_irrefl x, UInt8.lt_irrefl]
theorem ltB_total : ∀ {a b : List UInt8}, ltB a b = false → ltB b a = false → a = b
  | [], [], _, _ => rfl
  | [], _ :: _, h, _ => by simp [ltB] at h
  | _ :: _, [], _, h => by simp [ltB] at h
  | a :: x, b :: y, h, k => by
    simp only [ltB, Bool.or_eq_false_iff, decide_eq_false_iff_not, Bool.and_eq_false_imp, beq_iff_eq] at h k
    have e : a = b := by
      rcases UInt8.lt_or_eq_of_le (UInt8.not_lt.1 h.1) with g | g
      · exact absurd g k.1
      · exact g.symm
    subst e
    rw [ltB_total (h.2 rfl) (k.2 rfl)]
theorem ltB_trans : ∀ {a b c : List UInt8}, ltB a b = true → ltB b c = true → ltB a c = true
  | _, [], _, h, _ => by simp [ltB] at h
  | _, _ :: _, [], _, k => by simp [ltB] at k
  | [], _ :: _, _ :: _, _, _ => rfl
  | a :: x, b :: y, c :: z, h, k => by
    simp only [ltB, Bool.or_eq_true, decide_eq_true_eq, Bool.and_eq_true, beq_iff_eq] at h k ⊢
    rcases h with h | ⟨rfl, h⟩
    · rcases k with k | ⟨rfl, k⟩
      · exact .inl (UInt8.lt_trans h k)
      · exact .inl h
    · rcases k with k | ⟨rfl, k⟩
      · exact .inl k
      · exact .inr ⟨rfl, ltB_trans h k⟩
theorem ltB_asymm {a b : List UInt8} (h : ltB a b = true) : ltB b a = false := by
  cases k : ltB b a with
  | false => rfl
  | true => have := ltB_trans h k; rw [ltB_irrefl] at this; cases this
end Go.Proofs.YtcgkneolohcdeaaGreat


/- Values as trees: what nodes are one. -/
namespace Go.Proofs.YtcgkneolohcdeaaGreat
open Go Abs
set_option linter.unusedSimpArgs false
set_option linter.unusedVariables false
mutual
inductive VT where
  | leaf (n : Nd)
  | node (m : Bool) (ms : VL)
inductive VL where
  | nil
  | cons (k : List UInt8) (t : VT) (r : VL)
end
def VL.len : VL → Nat
  | .nil => 0
  | .cons _ _ r => r.len + 1
def keyL (m : Bool) (k : List UInt8) : List Nd := if m then [⟨3, 0, k, 0⟩] else []
def headN (m : Bool) (c : Nat) : Nd := ⟨if m then 5 else 4, 0, [], c⟩
mutual
/-- Its nodes. -/
def VT.flat : VT → List Nd
  | .leaf n => [n]
  | .node m ms => headN m ms.len :: ms.flat m
def VL.flat (m : Bool) : VL → List Nd
  | .nil => []
  | .cons k t r => keyL m k ++ (t.flat ++ r.flat m)
end
mutual
def VT.deep : VT → Nat
  | .leaf _ => 1
  | .node _ ms => ms.deep + 1
def VL.deep : VL → Nat
  | .nil => 0
  | .cons _ t r => max t.deep r.deep
end
mutual
/-- What may be: keys rise. -/
def VT.ok : VT → Prop
  | .leaf n => fitsS n = true ∧ n.kind < 4 ∧ n.inR
  | .node m ms => ms.ok m none ∧ ms.len ≤ 9223372036854775807
def VL.ok (m : Bool) : VL → Option (List UInt8) → Prop
  | .nil, _ => True
  | .cons k t r, last => t.ok ∧ (m = false → k = []) ∧ (m = true → ∀ l, last = some l → ltB l k = true) ∧ r.ok m (some k)
end
/-- Where the kids begin. -/
def VL.pos (m : Bool) : VL → Nat → List Nat
  | .nil, _ => []
  | .cons k t r, a => (a + (keyL m k).length) :: r.pos m (a + (keyL m k).length + t.flat.length)
def VT.pos : VT → Nat → List Nat
  | .leaf _, _ => []
  | .node m ms, a => ms.pos m a
theorem VT.flat_pos : ∀ t : VT, 0 < t.flat.length
  | .leaf n => by simp [VT.flat]
  | .node m ms => by simp [VT.flat]
/-- Nodes that lie at a place. -/
def Sub (L : List Nd) (a : Nat) (f : List Nd) : Prop := ∀ i n, f[i]? = some n → L[a + i]? = some n
theorem Sub.app {L : List Nd} {a : Nat} {f g : List Nd} : Sub L a (f ++ g) ↔ Sub L a f ∧ Sub L (a + f.length) g := by
  constructor
  · intro h
    refine ⟨fun i n hi => h i n ?_, fun i n hi => ?_⟩
    · rw [List.getElem?_append_left (List.getElem?_eq_some_iff.1 hi).1]; exact hi
    · have := h (f.length + i) n (by rw [List.getElem?_append_right (by omega)]; simpa using hi)
      rwa [Nat.add_assoc]
  · intro ⟨h1, h2⟩ i n hi
    rcases Nat.lt_or_ge i f.length with h | h
    · exact h1 i n (by rwa [List.getElem?_append_left h] at hi)
    · rw [List.getElem?_append_right h] at hi
      have := h2 _ n hi
      rwa [show a + f.length + (i - f.length) = a + i by omega] at this
theorem Sub.nil {L : List Nd} {a : Nat} : Sub L a [] := fun i n h => by simp at h
theorem Sub.cons {L : List Nd} {a : Nat} {x : Nd} {f : List Nd} : Sub L a (x :: f) ↔ L[a]? = some x ∧ Sub L (a + 1) f := by
  have := Sub.app (L := L) (a := a) (f := [x]) (g := f)
  rw [show [x] ++ f = x :: f from rfl] at this
  rw [this]
  constructor
  · intro ⟨h1, h2⟩; exact ⟨by simpa using h1 0 x rfl, h2⟩
  · intro ⟨h1, h2⟩
    refine ⟨fun i n hi => ?_, h2⟩
    cases i with
    | zero => simp at hi; subst hi; simpa using h1
    | succ i => simp at hi
theorem Sub.le {L : List Nd} {a : Nat} {f : List Nd} (h : Sub L a f) (hf : f ≠ []) : a + f.length ≤ L.length := by
  have hp := List.length_pos_iff.2 hf
  have := h (f.length - 1) f[f.length - 1] (List.getElem?_eq_getElem (by omega))
  have := (List.getElem?_eq_some_iff.1 this).1
  omega
theorem Sub.cut {L : List Nd} {a : Nat} {f : List Nd} (h : Sub L a f) (hf : f ≠ []) : cutS L a (a + f.length) = f := by
  have hle := h.le hf
  unfold cutS
  apply List.ext_getElem?
  intro i
  rw [List.getElem?_drop]
  rcases Nat.lt_or_ge i f.length with hi | hi
  · rw [List.getElem?_take, if_pos (by omega), List.getElem?_eq_getElem hi]
    exact h i _ (List.getElem?_eq_getElem hi)
  · rw [List.getElem?_eq_none_iff.2 hi, List.getElem?_take, if_neg (by omega)]
theorem head_fits {m : Bool} {c : Nat} : fitsS (headN m c) = true := by
  cases m <;> simp [headN, fitsS]
theorem key_fits {k : List UInt8} : fitsS ⟨3, 0, k, 0⟩ = true := by simp [fitsS]
theorem leaf_kids {n : Nd} (h : fitsS n = true) (hk : n.kind < 4) : n.kids = 0 := by
  unfold fitsS at h
  split at h
  · simp at h; exact h.2
  split at h
  · simp at h; exact h.2
  split at h
  · simp at h; exact h.2
  split at h
  · simp at h; exact h.2
  split at h
  · omega
  · cases h
mutual
/-- A tree's nodes are gone through. -/
theorem VT.fwd : ∀ (t : VT), t.ok → ∀ (k : Nat) (L : List Nd) (a : Nat), t.flat.length ≤ k → Sub L a t.flat → valS L k a = some ⟨a + t.flat.length, t.deep, t.pos (a + 1)⟩
  | .leaf n, h, k, L, a, hk, hs => by
    obtain ⟨h1, h2, h3⟩ := h
    cases k with
    | zero => simp [VT.flat] at hk
    | succ k =>
      have hn := (Sub.cons.1 hs).1
      simp only [valS, hn, Option.bind_some, h1, if_true, leaf_kids h1 h2]
      rfl
  | .node m ms, h, k, L, a, hk, hs => by
    cases k with
    | zero => simp [VT.flat] at hk
    | succ k =>
      obtain ⟨hn, hs⟩ := Sub.cons.1 hs
      simp only [VT.flat, List.length_cons] at hk
      have := VL.fwd ms m none h.1 k L (a + 1) 0 0 [] [] (by omega) hs (fun _ => rfl) (fun _ l hl => by cases hl)
      have e1 : (headN m ms.len).kids.toNat = ms.len := by simp [headN]
      have e2 : decide ((headN m ms.len).kind = 5) = m := by cases m <;> simp [headN]
      simp only [valS, hn, Option.bind_some, head_fits, if_true, e1, e2, this, Option.map_some]
      simp [VT.flat, VT.deep, VT.pos]
      omega
theorem VL.fwd : ∀ (ms : VL) (m : Bool) (last : Option (List UInt8)), ms.ok m last → ∀ (k : Nat) (L : List Nd) (a i d : Nat) (ks : List Nat) (lb : List UInt8), (ms.flat m).length ≤ k → Sub L a (ms.flat m) →
    (last = none → i = 0) → (m = true → ∀ l, last = some l → lb = l) → kidsS (valS L k) L m ms.len i ⟨a, d, ks⟩ lb = some ⟨a + (ms.flat m).length, max d ms.deep, ks ++ ms.pos m a⟩
  | .nil, m, last, h, k, L, a, i, d, ks, lb, hk, hs, h1, h2 => by simp [VL.len, kidsS, VL.flat, VL.deep, VL.pos]
  | .cons key t r, m, last, h, k, L, a, i, d, ks, lb, hk, hs, h1, h2 => by
    obtain ⟨g1, g2, g3, g4⟩ := h
    simp only [VL.flat] at hk hs
    obtain ⟨s1, s2⟩ := Sub.app.1 hs
    obtain ⟨s2, s3⟩ := Sub.app.1 s2
    have hkey : keyS L m i a lb = some (a + (keyL m key).length, if m then key else lb) := by
      unfold keyS
      cases m with
      | false => simp [keyL]
      | true =>
        have hn := (Sub.cons.1 (show Sub L a (⟨3, 0, key, 0⟩ :: []) from s1)).1
        have hl : i = 0 ∨ ltB lb key = true := by
          cases last with
          | none => exact .inl (h1 rfl)
          | some l => rw [h2 rfl l rfl]; exact .inr (g3 rfl l rfl)
        simp [hn, key_fits, hl, keyL]
    have hv := VT.fwd t g1 k L (a + (keyL m key).length) (by simp at hk; omega) s2
    have hr := VL.fwd r m (some key) g4 k L (a + (keyL m key).length + t.flat.length) (i + 1) (max d t.deep) (ks ++ [a + (keyL m key).length]) (if m then key else lb) (by simp at hk; omega) s3 (fun h => by cases h) (fun hm l hl => by cases hl; rw [hm]; rfl)
    simp only [VL.len, kidsS, hkey, Option.bind_some, hv, hr]
    simp [VL.flat, VL.deep, VL.pos]
    omega
end
theorem kidsS_tree {val : Nat → Option Span} {L : List Nd} {m : Bool} (hv : ∀ a s, val a = some s → ∃ t : VT, t.ok ∧ Sub L a t.flat ∧ s = ⟨a + t.flat.length, t.deep, t.pos (a + 1)⟩) :
    ∀ {c i : Nat} {s r : Span} {lb : List UInt8}, kidsS val L m c i s lb = some r → ∃ ms : VL, (∀ last, (∀ l, last = some l → m = true → i ≠ 0 ∧ lb = l) → ms.ok m last) ∧ ms.len = c ∧ Sub L s.stop (ms.flat m) ∧ r = ⟨s.stop + (ms.flat m).length, max s.deep ms.deep, s.kids ++ ms.pos m s.stop⟩ := by
  intro c
  induction c with
  | zero => intro i s r lb h; cases h; exact ⟨.nil, fun _ _ => trivial, rfl, Sub.nil, by simp [VL.flat, VL.deep, VL.pos]⟩
  | succ c ih =>
    intro i s r lb h
    simp only [kidsS] at h
    rw [Option.bind_eq_some_iff] at h; obtain ⟨p, hp, h⟩ := h
    rw [Option.bind_eq_some_iff] at h; obtain ⟨kid, hk, h⟩ := h
    obtain ⟨t, t1, t2, rfl⟩ := hv _ _ hk
    obtain ⟨ms, m1, m2, m3, m4⟩ := ih h
    cases m with
    | false =>
      have hp : some (s.stop, lb) = some p := hp
      cases hp
      refine ⟨.cons [] t ms, fun last _ => ⟨t1, fun _ => rfl, fun h => (by cases h), m1 _ (fun l _ h => by cases h)⟩, by simp [VL.len, m2], ?_, ?_⟩
      · simp only [VL.flat, keyL]
        exact Sub.app.2 ⟨Sub.nil, Sub.app.2 ⟨by simpa using t2, by simpa using m3⟩⟩
      · rw [m4]; simp [VL.flat, VL.deep, VL.pos, keyL]; omega
    | true =>
      unfold keyS at hp
      simp only [if_true] at hp
      split at hp
      case h_2 => cases hp
      rename_i k hkn
      split at hp
      case isFalse => cases hp
      rename_i hc
      cases hp
      obtain ⟨c1, c2, c3⟩ := hc
      have hk3 : k = ⟨3, 0, k.text, 0⟩ := by
        obtain ⟨a, b, c, d⟩ := k
        simp only at c1; subst c1
        simp [fitsS] at c2 ⊢
        exact c2
      refine ⟨.cons k.text t ms, fun last hl => ⟨t1, fun h => (by cases h), fun _ l e => ?_, m1 _ (fun l e _ => by cases e; exact ⟨by omega, rfl⟩)⟩, by simp [VL.len, m2], ?_, ?_⟩
      · obtain ⟨g1, g2⟩ := hl l e rfl
        rw [← g2]; exact c3.resolve_left g1
      · simp only [VL.flat, keyL]
        refine Sub.app.2 ⟨?_, Sub.app.2 ⟨by simpa using t2, by simpa using m3⟩⟩
        simp only [if_true]
        exact Sub.cons.2 ⟨hk3 ▸ hkn, Sub.nil⟩
      · rw [m4]; simp [VL.flat, VL.deep, VL.pos, keyL]; omega
/-- What is gone through is a tree. -/
theorem valS_tree {L : List Nd} (hr : ∀ n ∈ L, n.inR) : ∀ {k a : Nat} {s : Span}, valS L k a = some s → ∃ t : VT, t.ok ∧ Sub L a t.flat ∧ s = ⟨a + t.flat.length, t.deep, t.pos (a + 1)⟩ := by
  intro k
  induction k with
  | zero => intro a s h; cases h
  | succ k ih =>
    intro a s h
    simp only [valS] at h
    rw [Option.bind_eq_some_iff] at h; obtain ⟨n, hn, h⟩ := h
    split at h
    case isFalse => cases h
    rename_i hf
    obtain ⟨r, hr1, rfl⟩ := Option.map_eq_some_iff.1 h
    have hin := hr n (List.mem_of_getElem? hn)
    by_cases h4 : n.kind < 4
    · rw [leaf_kids hf h4] at hr1
      cases hr1
      exact ⟨.leaf n, ⟨hf, h4, hin⟩, by simp only [VT.flat]; exact Sub.cons.2 ⟨hn, Sub.nil⟩, by simp [VT.flat, VT.deep, VT.pos]⟩
    · obtain ⟨ms, m1, m2, m3, m4⟩ := kidsS_tree (fun a s h => ih h) hr1
      have hkind : (n.kind = 4 ∨ n.kind = 5) ∧ n.num = 0 ∧ n.text = [] ∧ 0 ≤ n.kids := by
        unfold fitsS at hf
        rw [if_neg (by omega), if_neg (by omega), if_neg (by omega), if_neg (by omega)] at hf
        split at hf
        · rename_i hk; simp at hf; exact ⟨hk, hf.1.1, hf.1.2, hf.2⟩
        · cases hf
      obtain ⟨k1, k2, k3, k4⟩ := hkind
      have hhead : n = headN (decide (n.kind = 5)) ms.len := by
        obtain ⟨kd, nu, tx, ki⟩ := n
        simp only at k1 k2 k3 k4 m2
        subst k2 k3
        rcases k1 with rfl | rfl <;> simp [headN, m2, Int.toNat_of_nonneg k4]
      refine ⟨.node (decide (n.kind = 5)) ms, ⟨m1 none (fun l h => by cases h), by rw [m2]; have := hin.2.2.2; omega⟩, ?_, ?_⟩
      · simp only [VT.flat]
        exact Sub.cons.2 ⟨hhead ▸ hn, m3⟩
      · rw [m4]; simp [VT.flat, VT.deep, VT.pos]; omega
end Go.Proofs.YtcgkneolohcdeaaGreat


/- Values as trees: their bytes. -/
namespace Go.Proofs.YtcgkneolohcdeaaGreat
open Go Abs
set_option linter.unusedSimpArgs false
set_option linter.unusedVariables false
/-- A leaf's bytes. -/
def leafB (n : Nd) : List UInt8 := if n.kind = 1 then [2, u8B n.num] else if n.kind = 2 then 3 :: numB n.num else if n.kind = 3 then 4 :: txtB n.text else [1]
def keyB (m : Bool) (k : List UInt8) : List UInt8 := if m then 1 :: txtB k else []
mutual
/-- Its bytes. -/
def VT.enc : VT → List UInt8
  | .leaf n => leafB n
  | .node m ms => (if m then 6 else 5) :: (ms.enc m ++ [0])
def VL.enc (m : Bool) : VL → List UInt8
  | .nil => []
  | .cons k t r => keyB m k ++ (t.enc ++ r.enc m)
end
theorem txtB_parts (s : List UInt8) : txtB s = txt0 s ++ [0, 0] := txtB_eq ..
end Go.Proofs.YtcgkneolohcdeaaGreat


/- What the functions come to: texts out of bytes. -/
namespace Go.Proofs.YtcgkneolohcdeaaGreat
open Go Abs
set_option linter.unusedSimpArgs false
set_option linter.unusedVariables false
attribute [local simp] canonK canonAll canonSlot canonCell canonBox ownStep restrictTo pureCells pureRows reachL AObj.names List.range_succ appendA
@[simp] theorem strsL_snoc {l : List (List UInt8)} {t : List UInt8} : strsL (l ++ [t]) = strsL l ++ [.str t] := by simp [strsL]
@[simp] theorem bsv34 {t : List UInt8} : bsvV G 60 1 [0] [.str t] = some (.list 1 [.str t]) := by kernel_rfl
/-! read, with a function that was handed a place for texts. -/
end Go.Proofs.YtcgkneolohcdeaaGreat


/- Values as trees: written and read. -/
namespace Go.Proofs.YtcgkneolohcdeaaGreat
open Go Abs
set_option linter.unusedSimpArgs false
set_option linter.unusedVariables false
/-- A leaf is one of these. -/
theorem leaf_form {n : Nd} (h : fitsS n = true) (hk : n.kind < 4) (hr : n.inR) : n = ⟨0, 0, [], 0⟩ ∨ n = ⟨1, 0, [], 0⟩ ∨ n = ⟨1, 1, [], 0⟩ ∨ n = ⟨2, n.num, [], 0⟩ ∨ n = ⟨3, 0, n.text, 0⟩ := by
  obtain ⟨kd, nu, tx, ki⟩ := n
  simp only at hk
  unfold fitsS at h
  simp only at h
  split at h
  · rename_i hk; subst hk
    simp only [Bool.and_eq_true, decide_eq_true_eq] at h
    obtain ⟨⟨h1, rfl⟩, rfl⟩ := h
    rcases (andNot1 hr.1 hr.2.1).1 h1 with rfl | rfl
    · exact .inr (.inl rfl)
    · exact .inr (.inr (.inl rfl))
  split at h
  · rename_i hk; subst hk; simp only [Bool.and_eq_true, decide_eq_true_eq] at h; obtain ⟨⟨rfl, rfl⟩, rfl⟩ := h; exact .inl rfl
  split at h
  · rename_i hk; subst hk; simp only [Bool.and_eq_true, decide_eq_true_eq] at h; obtain ⟨rfl, rfl⟩ := h; exact .inr (.inr (.inr (.inl rfl)))
  split at h
  · rename_i hk; subst hk; simp only [Bool.and_eq_true, decide_eq_true_eq] at h; obtain ⟨rfl, rfl⟩ := h; exact .inr (.inr (.inr (.inr rfl)))
  split at h
  · omega
  · cases h
/-! What is written. -/
theorem spanK_tree {L : List Nd} {t : VT} (h : t.ok) {a : Nat} (hs : Sub L a t.flat) : spanK L a = t.pos (a + 1) := by
  have hle := hs.le (List.ne_nil_of_length_pos t.flat_pos)
  unfold spanK
  rw [VT.fwd t h (L.length + 1) L a (by omega) hs]
  rfl
mutual
theorem VT.bytes : ∀ (t : VT), t.ok → ∀ (k : Nat) (L : List Nd) (a : Nat), t.flat.length ≤ k → Sub L a t.flat → valB L k a = t.enc
  | .leaf n, h, k, L, a, hk, hs => by
    obtain ⟨h1, h2, h3⟩ := h
    cases k with
    | zero => simp [VT.flat] at hk
    | succ k =>
      have hn := (Sub.cons.1 hs).1
      simp only [valB, hn]
      rcases leaf_form h1 h2 h3 with e | e | e | e | e <;> rw [e] <;> simp [VT.enc, leafB] <;> rfl
  | .node m ms, h, k, L, a, hk, hs => by
    cases k with
    | zero => simp [VT.flat] at hk
    | succ k =>
      have hsp := spanK_tree (t := .node m ms) h hs
      obtain ⟨hn, hs⟩ := Sub.cons.1 hs
      simp only [VT.flat, List.length_cons] at hk
      have := VL.bytes ms m none h.1 k L (a + 1) (by omega) hs
      simp only [valB, hn, hsp, VT.pos]
      cases m with
      | false => simp only [Bool.false_eq_true, if_false] at this; rw [this]; simp [headN, VT.enc]; rfl
      | true => simp only [if_true] at this; rw [this]; simp [headN, VT.enc]; rfl
theorem VL.bytes : ∀ (ms : VL) (m : Bool) (last : Option (List UInt8)), ms.ok m last → ∀ (k : Nat) (L : List Nd) (a : Nat), (ms.flat m).length ≤ k → Sub L a (ms.flat m) →
    allB (if m = true then memB L (valB L k) else valB L k) (ms.pos m a) = ms.enc m
  | .nil, m, last, h, k, L, a, hk, hs => by simp [VL.pos, VL.enc, allB]
  | .cons key t r, m, last, h, k, L, a, hk, hs => by
    obtain ⟨g1, g2, g3, g4⟩ := h
    simp only [VL.flat] at hk hs
    obtain ⟨s1, s2⟩ := Sub.app.1 hs
    obtain ⟨s2, s3⟩ := Sub.app.1 s2
    have hv := VT.bytes t g1 k L (a + (keyL m key).length) (by simp at hk; omega) s2
    have hr := VL.bytes r m (some key) g4 k L (a + (keyL m key).length + t.flat.length) (by simp at hk; omega) s3
    have e : ∀ f p ps, allB f (p :: ps) = f p ++ allB f ps := fun f p ps => by simp [allB]
    simp only [VL.pos, e, hr, VL.enc]
    cases m with
    | false => simp only [Bool.false_eq_true, if_false, hv]; simp [keyB]
    | true =>
      have hn := (Sub.cons.1 (show Sub L a (⟨3, 0, key, 0⟩ :: []) from s1)).1
      simp only [if_true, memB, hv]
      have hk1 : key1 L (a + (keyL true key).length) = key := by simp [key1, keyL, hn]
      rw [hk1]
      simp [keyB]
end
/-! What is read. -/
/-! What is read is what is written. -/
end Go.Proofs.YtcgkneolohcdeaaGreat


/- What the functions of the law of orders come to: few; the order is one. -/
namespace Go.Proofs.YtcgkneolohcdeaaGreat
open Go Abs
set_option linter.unusedSimpArgs false
set_option linter.unusedVariables false
theorem ordT_swap (s u : List UInt8) : ordT u s = - ordT s u := by
  unfold ordT
  cases h : ltB s u with
  | true =>
    rw [ltB_asymm h]
    have : ¬ u = s := fun e => by subst e; rw [ltB_irrefl] at h; cases h
    simp [this]
  | false =>
    cases k : ltB u s with
    | true =>
      have : ¬ s = u := fun e => by subst e; rw [ltB_irrefl] at k; cases k
      simp [this]
    | false =>
      have := ltB_total h k
      subst this; simp
/-! Few -/
def fewsS (L : List (List Nd)) : Bool := decide (L.length ≤ 20) && (L.take 21).all fewS
set_option maxHeartbeats 8000000 in
theorem fews_loop (L : List (List Nd)) (z : AV) (hz : z = .list 1 (ndsL L)) : ∃ x s, lp 6 (lc Tryz.f6 0) { sl := [(0, z), (3, .int .i64 0)], hp := [] } = some (x, s) ∧
    ((x = .ret ∧ s = { sl := [(2, .bool false)], hp := [] } ∧ (L.take 21).all fewS = false) ∨ (x = .exit 0 ∧ (∃ sl, s = { sl := (0, z) :: sl, hp := [] }) ∧ (L.take 21).all fewS = true)) := by
  subst hz
  have := for_loop (f := 6) (c := lc Tryz.f6 0) (n := min L.length 21) (σ := fun i => { sl := [(0, .list 1 (ndsL L)), (3, .int .i64 (i : Int))], hp := [] }) (P := fun i => (L.take i).all fewS = true)
    (Q := fun x s => (x = .ret ∧ s = { sl := [(2, .bool false)], hp := [] } ∧ (L.take 21).all fewS = false) ∨ (x = .exit 0 ∧ (∃ sl, s = { sl := (0, .list 1 (ndsL L)) :: sl, hp := [] }) ∧ (L.take 21).all fewS = true))
    (fun i hi hp => ?_) (fun hp => ?_) 0 (by omega) (by simp)
  · exact this
  · have h1 : i < L.length := by omega
    obtain ⟨n, hn⟩ : ∃ n, L[i]? = some n := ⟨L[i], List.getElem?_eq_getElem h1⟩
    have h1' : (i : Int) < L.length := by omega
    have h2' : (i : Int) ≤ 20 := by omega
    have hw : IntKind.i64.wrap ((i : Int) + 1) = (i : Int) + 1 := i64_wrap (by omega) (by omega)
    have hg := ndsL_get hn
    have hf := fun d st => few_call (l := n) (d := d) (st := st)
    cases ht : fewS n with
    | true =>
      rw [ht] at hf
      left
      refine ⟨by simp [lc, loopsOf, Tryz.f6, h1', h2', hn, hw, hg, hf], ?_⟩
      rw [List.take_add_one, hn]
      simp only [List.all_append, hp, Option.toList_some, List.all_cons, List.all_nil, Bool.and_true, Bool.true_and, ht]
    | false =>
      rw [ht] at hf
      right
      refine ⟨.ret, _, by simp [lc, loopsOf, Tryz.f6, h1', h2', hn, hw, hg, hf], by simp, .inl ⟨rfl, rfl, ?_⟩⟩
      have : n ∈ L.take 21 := List.mem_of_getElem? (i := i) (by rw [List.getElem?_take, if_pos (by omega)]; exact hn)
      rw [List.all_eq_false]
      exact ⟨n, this, by simpa using ht⟩
  · have hall : (L.take 21).all fewS = true := by
      rcases Nat.le_total L.length 21 with h | h
      · rw [Nat.min_eq_left h, List.take_of_length_le (Nat.le_refl _)] at hp
        rw [List.take_of_length_le h]; exact hp
      · rwa [Nat.min_eq_right h] at hp
    rcases Nat.lt_or_ge L.length 21 with h | h
    · have e : min L.length 21 = L.length := by omega
      exact ⟨.exit 0, ⟨[(0, .list 1 (ndsL L)), (3, .int .i64 (min L.length 21 : Nat)), (12, .bool false)], []⟩, by simp [lc, loopsOf, Tryz.f6, e], by simp, .inr ⟨rfl, ⟨_, rfl⟩, hall⟩⟩
    · have e : min L.length 21 = 21 := by omega
      by_cases h2 : L.length = 21
      · exact ⟨.exit 0, ⟨[(0, .list 1 (ndsL L)), (3, .int .i64 (min L.length 21 : Nat)), (12, .bool false)], []⟩, by simp [lc, loopsOf, Tryz.f6, e, h2], by simp, .inr ⟨rfl, ⟨_, rfl⟩, hall⟩⟩
      · have h3 : (21 : Int) < L.length := by omega
        exact ⟨.exit 0, ⟨[(0, .list 1 (ndsL L)), (3, .int .i64 (min L.length 21 : Nat)), (12, .bool false)], []⟩, by simp [lc, loopsOf, Tryz.f6, e, h3], by simp, .inr ⟨rfl, ⟨_, rfl⟩, hall⟩⟩
set_option maxHeartbeats 8000000 in
theorem fews_eq (L : List (List Nd)) : cl 6 [.list 1 (ndsL L)] [] = some (.ret (.bool (fewsS L)), []) := by
  obtain ⟨x, s, h, hx⟩ := fews_loop L _ rfl
  refine fn_intro Tryz.func6 rfl (by simp) (by decide) rfl ?_
  simp [lc, loopsOf, Tryz.f6] at h
  rcases hx with ⟨rfl, rfl, hf⟩ | ⟨rfl, ⟨sl, rfl⟩, hall⟩
  · simp [Tryz.f6, h]
    exact end_is (.inr rfl) (by simp; rfl) rfl (by simp [hf, fewsS])
  · by_cases hl : L.length ≤ 20
    · have hl' : (L.length : Int) ≤ 20 := by omega
      simp [Tryz.f6, h, hl']
      exact end_is (.inr rfl) (by simp; rfl) rfl (by simp [fewsS, hl, hall])
    · have hl' : ¬ (L.length : Int) ≤ 20 := by omega
      simp [Tryz.f6, h, hl']
      exact end_is (.inr rfl) (by simp; rfl) rfl (by simp [fewsS, hl])
theorem fews_call {L : List (List Nd)} {d : Option Nat} {st : ASt} : callV G cl d (.fn (.func 6) [] []) [.list 1 (ndsL L)] st = some (.val (.bool (fewsS L)) st) :=
  callV_ret E6 (by decide) ext6 rfl rfl (fews_eq L) rfl
theorem works6_call {d : Option Nat} {st : ASt} : callV G cl d (.fn (.func 5) [] []) [] st = some (.val (.bool true) st) :=
  callV_ret E5 (by decide) ext5 rfl rfl (call_prim (p := worksP) (by decide) (by rfl) rfl) rfl
end Go.Proofs.YtcgkneolohcdeaaGreat


/- What the law OrderTotal comes to. -/
namespace Go.Proofs.YtcgkneolohcdeaaGreat
open Go Abs
set_option linter.unusedSimpArgs false
set_option linter.unusedVariables false
attribute [local simp] canonK canonAll canonSlot canonCell canonBox ownStep restrictTo pureCells pureRows reachL AObj.names List.range_succ appendA
theorem fewsS_mem {L : List (List Nd)} (h : fewsS L = true) {l : List Nd} (hl : l ∈ L) : l.length ≤ 130 := by
  unfold fewsS at h
  simp only [Bool.and_eq_true, decide_eq_true_eq] at h
  rw [List.take_of_length_le (by omega)] at h
  exact fewS_len (List.all_eq_true.1 h.2 l hl)
/-- What is in a row of the call's own. -/
theorem fews_own {L : List (List Nd)} {n : Nat} {fx mv : Bool} {t : TypeId} {d : Option Nat} {sl : Slots} : callV G cl d (.fn (.func 6) [] []) [.own n] ⟨sl, [(n, .row 1 (ndsL L) fx ⟨mv, t⟩)]⟩ = some (.val (.bool (fewsS L)) (ASt.fix ⟨sl, [(n, .row 1 (ndsL L) fx ⟨mv, t⟩)]⟩ [n])) := by
  refine callV_rv (pre := [.list 1 (ndsL L)]) E6 (by decide) ext6 rfl rfl ?_ ?_ (fews_eq L) ?_
  · simp
  · simp
  · simp
theorem order_swap {a b : List Nd} (ra : ∀ n ∈ a, n.inR) (rb : ∀ n ∈ b, n.inR) (ca : checkS a = 0) (cb : checkS b = 0) : orderS b a = - orderS a b := by
  rw [← putB_order ra rb ca cb, ← putB_order rb ra cb ca, ordT_swap]
end Go.Proofs.YtcgkneolohcdeaaGreat


/- What the document's functions of order come to: parts of a value. -/
namespace Go.Proofs.YtcgkneolohcdeaaGreat
open Go Abs
set_option linter.unusedSimpArgs false
set_option linter.unusedVariables false
attribute [local simp] canonK canonAll canonSlot canonCell canonBox ownStep restrictTo pureCells pureRows reachL AObj.names List.range_succ appendA
set_option maxHeartbeats 8000000 in
theorem sign39 (x y : Bool) : cl 39 [.bool x, .bool y] [] = some (.ret (.int .i64 (if x then -1 else if y then 1 else 0)), []) := by
  refine fn_intro Tryz.func39 rfl (by simp) (by decide) rfl ?_
  cases x
  · cases y
    · simp [Tryz.f39]
      exact end_is (.inr rfl) (by first | rfl | (simp; rfl)) rfl rfl
    · simp [Tryz.f39]
      exact end_is (.inr rfl) (by first | rfl | (simp; rfl)) rfl rfl
  · simp [Tryz.f39]
    exact end_is (.inr rfl) (by first | rfl | (simp; rfl)) rfl rfl
theorem sign39_call {x y : Bool} {d : Option Nat} {st : ASt} : callV G cl d (.fn (.func 39) [] []) [.bool x, .bool y] st = some (.val (.int .i64 (if x then -1 else if y then 1 else 0)) st) := callV_ret E39 (by decide) ext39 rfl rfl (sign39 x y) rfl
/-! The parts -/
def bx40 (stop deep : Int) (kids keys : List Nat) : AObj := .box 66 (seenV stop deep false kids keys)
def st40 (l : List Nd) (stop deep : Int) (kids keys : List Nat) (parts : List (List Nd)) (mv : Bool) (i : Nat) : ASt :=
  ⟨[(0, nds l), (3, .ptr 1003 0 0), (4, .own 5004), (5, .int .i64 i)], [(1003, bx40 stop deep kids keys), (5004, .row 1 (ndsL parts) false ⟨mv, 22⟩)]⟩
theorem cutS_drop {l : List Nd} {q e : Nat} : (List.map Nd.v l |>.take e).drop q = (cutS l q e).map Nd.v := by unfold cutS; rw [List.map_drop, List.map_take]
attribute [local simp] bsvV
set_option maxHeartbeats 8000000 in
theorem vals_list (l : List Nd) (stop deep : Int) (kids : List Nat) (hkl : kids.length ≤ 1000) (parts : List (List Nd)) (hp : parts.length ≤ 3000) (mv : Bool) (i q : Nat) (hi : kids[i]? = some q) (s : Span) (hq : s.stop ≤ l.length) (hq2 : q ≤ s.stop)
    (hk : ∀ d st, callV G cl d (.fn (.func 38) [] []) [nds l, .int .i64 (q : Int)] st = some (.val (seenV s.stop s.deep false s.kids (keysN (mapAt l q) s.kids)) st)) :
    rX 40 (lc Tryz.f40 0) (codeX G cl lp 40 (lc Tryz.f40 0) (st40 l stop deep kids [] parts mv i)) = some (.normal, st40 l stop deep kids [] (parts ++ [cutS l q s.stop]) true (i + 1)) := by
  have hlt : i < kids.length := (List.getElem?_eq_some_iff.1 hi).1
  have e : kids[i] = q := (List.getElem?_eq_some_iff.1 hi).2
  have hw1 : IntKind.i64.wrap ((i : Int) + 1) = ((i + 1 : Nat) : Int) := by rw [i64_wrap (by omega) (by omega)]; omega
  have hL : parts.length + 1 ≤ LIM := by unfold LIM; omega
  have hn : ¬ (i : Int) < 0 := by omega
  have hne : kids ≠ [] := fun h => by subst h; simp at hlt
  simp only [nds, seenV] at hk
  simp [lc, loopsOf, Tryz.f40, st40, bx40, hlt, e, hw1, hL, nds, hk, ndsL, seenV, rowV, hne, hn, hq, hq2, bsvV, cutS_drop]
  done
set_option maxHeartbeats 8000000 in
theorem vals_map (l : List Nd) (stop deep : Int) (kids keys : List Nat) (hkl : kids.length ≤ 1000) (hkk : keys.length = kids.length) (parts : List (List Nd)) (hp : parts.length ≤ 3000) (mv : Bool) (i q p e0 : Nat) (hpe : p + 1 = e0) (hi : kids[i]? = some q) (hip : keys[i]? = some p) (s : Span) (hq : s.stop ≤ l.length) (hq2 : q ≤ s.stop) (hp1 : e0 ≤ l.length) (hl : l.length ≤ 1000)
    (hk : ∀ d st, callV G cl d (.fn (.func 38) [] []) [nds l, .int .i64 (q : Int)] st = some (.val (seenV s.stop s.deep false s.kids (keysN (mapAt l q) s.kids)) st)) :
    rX 40 (lc Tryz.f40 0) (codeX G cl lp 40 (lc Tryz.f40 0) (st40 l stop deep kids keys parts mv i)) = some (.normal, st40 l stop deep kids keys (parts ++ [cutS l p e0, cutS l q s.stop]) true (i + 1)) := by
  have hlt : i < kids.length := (List.getElem?_eq_some_iff.1 hi).1
  have e : kids[i] = q := (List.getElem?_eq_some_iff.1 hi).2
  have hlt2 : i < keys.length := (List.getElem?_eq_some_iff.1 hip).1
  have e2 : keys[i] = p := (List.getElem?_eq_some_iff.1 hip).2
  have hw1 : IntKind.i64.wrap ((i : Int) + 1) = ((i + 1 : Nat) : Int) := by rw [i64_wrap (by omega) (by omega)]; omega
  have hw2 : IntKind.i64.wrap ((p : Int) + 1) = (e0 : Int) := by rw [i64_wrap (by omega) (by omega)]; omega
  have hp2 : p ≤ e0 := by omega
  clear hpe
  have hL : parts.length + 1 ≤ LIM := by unfold LIM; omega
  have hL2 : parts.length + 1 + 1 ≤ LIM := by unfold LIM; omega
  have hne : kids ≠ [] := fun h => by subst h; simp at hlt
  have hne2 : keys ≠ [] := fun h => by subst h; simp at hlt2
  simp only [nds, seenV] at hk
  simp [lc, loopsOf, Tryz.f40, st40, bx40, hlt, e, hlt2, e2, hw1, hw2, hL, hL2, nds, hk, ndsL, seenV, rowV, hne, hne2, hq, hq2, hp1, hp2, bsvV, cutS_drop]
  done
theorem vals_exit (l : List Nd) (stop deep : Int) (kids keys : List Nat) (parts : List (List Nd)) (mv : Bool) :
    rX 40 (lc Tryz.f40 0) (codeX G cl lp 40 (lc Tryz.f40 0) (st40 l stop deep kids keys parts mv kids.length)) = some (.exit 0, ⟨(st40 l stop deep kids keys parts mv kids.length).sl ++ [(12, .bool false)], (st40 l stop deep kids keys parts mv kids.length).hp⟩) := by
  by_cases hk : kids = []
  · subst hk; simp [lc, loopsOf, Tryz.f40, st40, bx40, nds, seenV, rowV]
  · simp [lc, loopsOf, Tryz.f40, st40, bx40, nds, seenV, rowV, hk]
theorem vals_loop (l : List Nd) (stop deep : Int) (kids keys : List Nat) (f : Nat → List (List Nd)) (hf : ∀ q, (f q).length ≤ 2) (hk : kids.length ≤ 1000)
    (hround : ∀ i q parts mv, kids[i]? = some q → parts.length ≤ 3000 → rX 40 (lc Tryz.f40 0) (codeX G cl lp 40 (lc Tryz.f40 0) (st40 l stop deep kids keys parts mv i)) = some (.normal, st40 l stop deep kids keys (parts ++ f q) true (i + 1))) :
    ∀ (c i : Nat) (mv : Bool), i + c = kids.length → ∃ mv' sl, lp 40 (lc Tryz.f40 0) (st40 l stop deep kids keys (flatP f (kids.take i)) mv i) = some (.exit 0, ⟨(0, nds l) :: (3, .ptr 1003 0 0) :: (4, .own 5004) :: sl, [(1003, bx40 stop deep kids keys), (5004, .row 1 (ndsL (flatP f kids)) false ⟨mv', 22⟩)]⟩) := by
  intro c
  induction c with
  | zero =>
    intro i mv hi
    obtain rfl : i = kids.length := by omega
    rw [List.take_of_length_le (Nat.le_refl _)]
    exact ⟨mv, _, loop_out (vals_exit l stop deep kids keys _ mv) (by simp)⟩
  | succ c ih =>
    intro i mv hi
    have hlt : i < kids.length := by omega
    have hq : kids[i]? = some kids[i] := List.getElem?_eq_getElem hlt
    have hl := flatP_len hf (kids.take i)
    rw [List.length_take] at hl
    have h := hround i _ (flatP f (kids.take i)) mv hq (by omega)
    rw [← flatP_take hq] at h
    obtain ⟨mv', sl, hx⟩ := ih (i + 1) true (by omega)
    exact ⟨mv', sl, loop_next h hx⟩
/-! Where a key stands -/
theorem pos_key {L : List Nd} : ∀ (ms : VL) (a q : Nat), Sub L a (ms.flat true) → q ∈ ms.pos true a → 0 < q ∧ ∃ k, L[q - 1]? = some ⟨3, 0, k, 0⟩
  | .nil, a, q, _, h => by simp [VL.pos] at h
  | .cons k t r, a, q, hs, h => by
    simp only [VL.pos, keyL, if_true, List.length_cons, List.length_nil, List.mem_cons] at h
    simp only [VL.flat, keyL, if_true, List.cons_append, List.nil_append] at hs
    obtain ⟨h1, h2⟩ := Sub.cons.1 hs
    obtain ⟨_, h3⟩ := Sub.app.1 h2
    rcases h with rfl | h
    · exact ⟨by omega, k, by simpa using h1⟩
    · exact pos_key r _ q (by simpa [Nat.add_assoc] using h3) h
theorem key_node {l : List Nd} (hr : ∀ n ∈ l, n.inR) {a q : Nat} {s : Span} (h : valS l (l.length + 1) a = some s) (hm : mapAt l a = true) (hq : q ∈ s.kids) : 0 < q ∧ ∃ k, l[q - 1]? = some ⟨3, 0, k, 0⟩ := by
  obtain ⟨t, ht, hs, rfl⟩ := valS_tree hr h
  cases t with
  | leaf n =>
    simp [VT.pos] at hq
  | node m ms =>
    simp only [VT.flat] at hs
    obtain ⟨h1, h2⟩ := Sub.cons.1 hs
    cases m with
    | true => exact pos_key ms (a + 1) q h2 hq
    | false => simp [mapAt, h1, headN] at hm
theorem cut_key {l : List Nd} {q : Nat} (hq : 0 < q) (h : ∃ k, l[q - 1]? = some ⟨3, 0, k, 0⟩) : cutS l (q - 1) (q - 1 + 1) = [keyN (key1 l q)] := by
  obtain ⟨k, h⟩ := h
  have hlt := (List.getElem?_eq_some_iff.1 h).1
  unfold cutS key1 keyN
  rw [List.take_add_one, h, List.drop_append_of_le_length (by simp; omega)]
  simp [List.drop_of_length_le]
set_option maxHeartbeats 8000000 in
theorem values_eq (l : List Nd) (hr : ∀ n ∈ l, n.inR) (hc : checkS l = 0) : cl 40 [nds l] [] = some (.ret (.list 1 (ndsL (partsS l))), []) := by
  have hpos := checkS_pos hc
  obtain ⟨h5, _, _⟩ := checkS_ok hc
  obtain ⟨g1, g2⟩ := spanK_ok hc hpos
  obtain ⟨s0, h2, h3, h4⟩ := checkS_inner hc hpos
  have hsk : spanK l 0 = s0.kids := by simp [spanK, h2]
  rw [hsk] at g1 g2
  have hs0 := fun d st => seen_call (by omega) hr h2 d st
  simp only [Int.natCast_zero] at hs0
  have hkid : ∀ q ∈ s0.kids, ∃ s : Span, kidL l q = cutS l q s.stop ∧ s.stop ≤ l.length ∧ q ≤ s.stop ∧ ∀ d st, callV G cl d (.fn (.func 38) [] []) [nds l, .int .i64 (q : Int)] st = some (.val (seenV s.stop s.deep false s.kids (keysN (mapAt l q) s.kids)) st) := fun q hq => by
    obtain ⟨q1, q2, q3⟩ := g2 q hq
    obtain ⟨s, a1, a2, a3, a4⟩ := kidL_eq hr hc q2
    exact ⟨s, a2, a3, by obtain ⟨t, _, _, e⟩ := valS_tree hr a1; rw [e]; simp, fun d st => seen_call (by omega) hr a1 d st⟩
  have hparts : partsS l = flatP (partAt l) s0.kids := by rw [partsS_flat, hsk]
  rw [hparts]
  have hlp : ∃ mv' sl, lp 40 (lc Tryz.f40 0) (st40 l s0.stop s0.deep s0.kids (keysN (mapAt l 0) s0.kids) [] false 0) = some (.exit 0, ⟨(0, nds l) :: (3, .ptr 1003 0 0) :: (4, .own 5004) :: sl, [(1003, bx40 s0.stop s0.deep s0.kids (keysN (mapAt l 0) s0.kids)), (5004, .row 1 (ndsL (flatP (partAt l) s0.kids)) false ⟨mv', 22⟩)]⟩) := by
    refine vals_loop l _ _ s0.kids _ (partAt l) (partAt_len l) g1 (fun i q parts mv hi hp => ?_) s0.kids.length 0 false (by omega)
    have hq := List.mem_of_getElem? hi
    obtain ⟨s, a2, a3, a4, a5⟩ := hkid q hq
    cases hm : mapAt l 0 with
    | false =>
      have e : partAt l q = [cutS l q s.stop] := by unfold partAt; rw [hm, a2]; rfl
      rw [e]
      exact vals_list l _ _ s0.kids g1 parts hp mv i q hi s a3 a4 a5
    | true =>
      obtain ⟨k1, k2⟩ := key_node hr h2 hm hq
      have e : partAt l q = [cutS l (q - 1) (q - 1 + 1), cutS l q s.stop] := by unfold partAt; rw [hm, a2, cut_key k1 k2]; rfl
      rw [e]
      have := (g2 q hq).2.1
      exact vals_map l _ _ s0.kids _ g1 (by simp [keysN]) parts hp mv i q (q - 1) _ rfl hi (by simp [keysN, hi]) s a3 a4 (by omega) (by omega) a5
  obtain ⟨mv', sl, hlp⟩ := hlp
  refine fn_intro Tryz.func40 rfl (by simp) (by decide) rfl ?_
  simp only [nds, seenV] at hs0
  simp [st40, bx40, lc, loopsOf, Tryz.f40, nds, ndsL, seenV] at hlp
  simp [Tryz.f40, nds, ndsL, hs0, hlp, seenV]
  exact end_rv (.inr rfl) (by first | rfl | (simp; rfl)) (by simp) rfl rfl
theorem values_call {l : List Nd} (hr : ∀ n ∈ l, n.inR) (hc : checkS l = 0) {d : Option Nat} {st : ASt} : callV G cl d (.fn (.func 40) [] []) [nds l] st = some (.val (.list 1 (ndsL (partsS l))) st) :=
  callV_ret E40 (by decide) ext40 rfl rfl (values_eq l hr hc) rfl
end Go.Proofs.YtcgkneolohcdeaaGreat


/- What the document's functions of order come to: which value is ahead. -/
namespace Go.Proofs.YtcgkneolohcdeaaGreat
open Go Abs
set_option linter.unusedSimpArgs false
set_option linter.unusedVariables false
attribute [local simp] canonK canonAll canonSlot canonCell canonBox ownStep restrictTo pureCells pureRows reachL AObj.names List.range_succ appendA
def st21 (A B : List (List Nd)) (i : Nat) : ASt := ⟨[(7, .list 1 (ndsL A)), (8, .list 1 (ndsL B)), (9, .int .i64 i)], []⟩
set_option maxHeartbeats 8000000 in
theorem rcmp_step (A B : List (List Nd)) (hA : A.length ≤ 3000) (i : Nat) (x y : List Nd) (hx : A[i]? = some x) (hy : B[i]? = some y) (c : Int) (hc : ∀ d st, callV G cl d (.fn (.func 21) [] []) [nds x, nds y] st = some (.val (.int .i64 c) st)) :
    rX 21 (lc Tryz.f21 0) (codeX G cl lp 21 (lc Tryz.f21 0) (st21 A B i)) = if c = 0 then some (.normal, st21 A B (i + 1)) else some (.ret, ⟨[(4, .int .i64 c)], []⟩) := by
  have h1 := (List.getElem?_eq_some_iff.1 hx).1
  have e1 := (List.getElem?_eq_some_iff.1 hx).2
  have h2 := (List.getElem?_eq_some_iff.1 hy).1
  have e2 := (List.getElem?_eq_some_iff.1 hy).2
  have hw1 : IntKind.i64.wrap ((i : Int) + 1) = ((i + 1 : Nat) : Int) := by rw [i64_wrap (by omega) (by omega)]; omega
  simp only [nds] at hc
  by_cases h0 : c = 0
  · rw [if_pos h0]
    simp [lc, loopsOf, Tryz.f21, st21, h1, h2, e1, e2, nds, hc, h0, hw1]
    done
  · rw [if_neg h0]
    simp [lc, loopsOf, Tryz.f21, st21, h1, h2, e1, e2, nds, hc, h0, hw1]
    done
set_option maxHeartbeats 8000000 in
theorem rcmp_exit (A B : List (List Nd)) (i : Nat) (h : A.length ≤ i ∨ B.length ≤ i) : ∃ sl, rX 21 (lc Tryz.f21 0) (codeX G cl lp 21 (lc Tryz.f21 0) (st21 A B i)) = some (.exit 0, ⟨(7, .list 1 (ndsL A)) :: (8, .list 1 (ndsL B)) :: sl, []⟩) := by
  by_cases h1 : A.length ≤ i
  · have h1' : ¬ i < A.length := by omega
    exact ⟨_, by simp [lc, loopsOf, Tryz.f21, st21, h1']; rfl⟩
  · have h1' : i < A.length := by omega
    have h2' : ¬ i < B.length := by omega
    exact ⟨_, by simp [lc, loopsOf, Tryz.f21, st21, h1', h2']; rfl⟩
theorem rcmp_loop (A B : List (List Nd)) (hA : A.length ≤ 3000) (c : List Nd → List Nd → Int) (hc : ∀ x ∈ A, ∀ y ∈ B, ∀ d st, callV G cl d (.fn (.func 21) [] []) [nds x, nds y] st = some (.val (.int .i64 (c x y)) st)) : ∀ (k i : Nat), i + k = min A.length B.length →
    (lp 21 (lc Tryz.f21 0) (st21 A B i) = some (.ret, ⟨[(4, .int .i64 (listC c (A.drop i) (B.drop i)))], []⟩)) ∨
    (∃ sl, lp 21 (lc Tryz.f21 0) (st21 A B i) = some (.exit 0, ⟨(7, .list 1 (ndsL A)) :: (8, .list 1 (ndsL B)) :: sl, []⟩) ∧ listC c (A.drop i) (B.drop i) = if A.length < B.length then -1 else if B.length < A.length then 1 else 0) := by
  intro k
  induction k with
  | zero =>
    intro i hi
    right
    obtain ⟨sl, h⟩ := rcmp_exit A B i (by omega)
    refine ⟨sl, loop_out h (by simp), ?_⟩
    by_cases h : A.length < B.length
    · rw [if_pos h, List.drop_of_length_le (by omega : A.length ≤ i), List.drop_eq_getElem_cons (by omega : i < B.length)]; rfl
    · rw [if_neg h, List.drop_of_length_le (by omega : B.length ≤ i)]
      by_cases h2 : B.length < A.length
      · rw [if_pos h2, List.drop_eq_getElem_cons (by omega : i < A.length)]; rfl
      · rw [if_neg h2, List.drop_of_length_le (by omega : A.length ≤ i)]; rfl
  | succ k ih =>
    intro i hi
    have hlt : i < A.length := by omega
    have hB : i < B.length := by omega
    have hx : A[i]? = some A[i] := List.getElem?_eq_getElem hlt
    have hy : B[i]? = some B[i] := List.getElem?_eq_getElem hB
    have h := rcmp_step A B hA i _ _ hx hy _ (hc _ (List.getElem_mem hlt) _ (List.getElem_mem hB))
    rw [List.drop_eq_getElem_cons hlt, List.drop_eq_getElem_cons hB]
    simp only [listC]
    by_cases h0 : c A[i] B[i] = 0
    · rw [if_pos h0] at h ⊢
      rcases ih (i + 1) (by omega) with h1 | ⟨sl, h1, h2⟩
      · exact .inl (loop_next h h1)
      · exact .inr ⟨sl, loop_next h h1, h2⟩
    · rw [if_neg h0] at h ⊢
      exact .inl (loop_out h (by simp))
theorem parts_leaf {a : List Nd} (ca : checkS a = 0) {x : Nd} (hx : a[0]? = some x) (hk : x.kind < 4) : partsS a = [] := by
  have hpos := checkS_pos ca
  obtain ⟨s, h2, _, _⟩ := checkS_inner ca hpos
  obtain ⟨n', r, hn', hf, hr', h6⟩ := valS_map h2
  obtain rfl : x = n' := by rw [hx] at hn'; exact Option.some.inj hn'
  have hkids := leaf_kids hf hk
  have hsk : spanK a 0 = s.kids := by simp [spanK, h2]
  have : s.kids = [] := by
    rw [hkids] at hr'
    simp only [Int.toNat_zero, kidsS] at hr'
    cases hr'
    rw [h6]
  unfold partsS
  rw [hsk, this]; rfl
set_option maxHeartbeats 16000000 in
theorem rcompare_step (a b : List Nd) (ra : ∀ n ∈ a, n.inR) (rb : ∀ n ∈ b, n.inR) (ca : checkS a = 0) (cb : checkS b = 0) (x y : Nd) (hx : a[0]? = some x) (hy : b[0]? = some y) (c : List Nd → List Nd → Int) (hA : (partsS a).length ≤ 3000)
    (hc : headS x y = 0 → ∀ x ∈ partsS a, ∀ y ∈ partsS b, ∀ d st, callV G cl d (.fn (.func 21) [] []) [nds x, nds y] st = some (.val (.int .i64 (c x y)) st)) :
    cl 21 [nds a, nds b] [] = some (.ret (.int .i64 (if headS x y ≠ 0 ∨ x.kind < 4 then headS x y else listC c (partsS a) (partsS b))), []) := by
  have h1 := (List.getElem?_eq_some_iff.1 hx).1
  have e1 := (List.getElem?_eq_some_iff.1 hx).2
  have h2 := (List.getElem?_eq_some_iff.1 hy).1
  have e2 := (List.getElem?_eq_some_iff.1 hy).2
  have pa := fun d st => values_call ra ca (d := d) (st := st)
  have pb := fun d st => values_call rb cb (d := d) (st := st)
  refine fn_intro Tryz.func21 rfl (by simp) (by decide) rfl ?_
  by_cases k1 : x.kind = y.kind
  case neg =>
    have e : headS x y = if x.kind < y.kind then -1 else 1 := by
      unfold headS orI ordI
      by_cases q : x.kind < y.kind
      · simp [q]
      · have q' : y.kind < x.kind := by omega
        simp [q, q']
    have hn : headS x y ≠ 0 := by rw [e]; split <;> simp
    rw [if_pos (.inl hn), e]
    simp [Tryz.f21, nds, h1, h2, e1, e2, hx, hy, Nd.v, sign39_call, k1]
    exact end_is (.inr rfl) (by first | rfl | (simp; rfl)) rfl (by first | rfl | simp)
  by_cases k2 : x.num = y.num
  case neg =>
    have e : headS x y = if x.num < y.num then -1 else 1 := by
      unfold headS orI ordI
      rw [k1]
      by_cases q : x.num < y.num
      · simp [q]
      · have q' : y.num < x.num := by omega
        simp [q, q']
    have hn : headS x y ≠ 0 := by rw [e]; split <;> simp
    rw [if_pos (.inl hn), e]
    simp [Tryz.f21, nds, h1, h2, e1, e2, hx, hy, Nd.v, sign39_call, k1, k2]
    exact end_is (.inr rfl) (by first | rfl | (simp; rfl)) rfl (by first | rfl | simp)
  by_cases k3 : x.text = y.text
  case neg =>
    have e : headS x y = if ltB x.text y.text = true then -1 else 1 := by
      unfold headS orI ordI ordT
      rw [k1, k2]
      simp only [Int.lt_irrefl, if_false, ne_eq, not_true, if_neg k3]
    have hn : headS x y ≠ 0 := by rw [e]; split <;> simp
    rw [if_pos (.inl hn), e]
    simp [Tryz.f21, nds, h1, h2, e1, e2, hx, hy, Nd.v, sign39_call, k1, k2, k3]
    exact end_is (.inr rfl) (by first | rfl | (simp; rfl)) rfl (by first | rfl | simp)
  have hn : headS x y = 0 := by
    unfold headS orI ordI ordT
    rw [k1, k2, k3, ltB_irrefl]; simp
  have hlist := rcmp_loop (partsS a) (partsS b) hA c (hc hn) (min (partsS a).length (partsS b).length) 0 (by omega)
  rw [List.drop_zero, List.drop_zero] at hlist
  have hleaf : x.kind < 4 → listC c (partsS a) (partsS b) = 0 := fun hk => by
    rw [parts_leaf ca hx hk, parts_leaf cb hy (by omega)]; rfl
  have e : (if headS x y ≠ 0 ∨ x.kind < 4 then headS x y else listC c (partsS a) (partsS b)) = listC c (partsS a) (partsS b) := by
    by_cases hk : x.kind < 4
    · rw [if_pos (.inr hk), hn, hleaf hk]
    · rw [if_neg (by simp [hn, hk])]
  rw [e]
  simp only [nds] at pa pb
  rcases hlist with h | ⟨sl, h, h3⟩
  · simp [st21, lc, loopsOf, Tryz.f21] at h
    simp [Tryz.f21, nds, h1, h2, e1, e2, hx, hy, Nd.v, sign39_call, k1, k2, k3, pa, pb, h]
    exact end_is (.inr rfl) (by first | rfl | (simp; rfl)) rfl (by first | rfl | simp)
  · simp [st21, lc, loopsOf, Tryz.f21] at h
    rw [h3]
    simp [Tryz.f21, nds, h1, h2, e1, e2, hx, hy, Nd.v, sign39_call, k1, k2, k3, pa, pb, h]
    exact end_is (.inr rfl) (by first | rfl | (simp; rfl)) rfl (by first | rfl | simp)
theorem rcompare_eq : ∀ (k : Nat) (a b : List Nd), a.length ≤ k → (∀ n ∈ a, n.inR) → (∀ n ∈ b, n.inR) → checkS a = 0 → checkS b = 0 → cl 21 [nds a, nds b] [] = some (.ret (.int .i64 (cmpS k a b)), []) := by
  intro k
  induction k with
  | zero => intro a b h _ _ ca _; have := checkS_pos ca; omega
  | succ k ih =>
    intro a b h ra rb ca cb
    have ha := checkS_pos ca
    have hb := checkS_pos cb
    have hx : a[0]? = some a[0] := List.getElem?_eq_getElem ha
    have hy : b[0]? = some b[0] := List.getElem?_eq_getElem hb
    have := rcompare_step a b ra rb ca cb _ _ hx hy (cmpS k) (by have := partsS_len ca; omega) (fun _ x hx y hy d st => by
      obtain ⟨x1, x2, x3⟩ := part_ok ra ca hx
      obtain ⟨y1, y2, y3⟩ := part_ok rb cb hy
      exact callV_ret E21 (by decide) ext21 rfl rfl (ih x y (by omega) x2 y2 x1 y1) rfl)
    rw [this]
    simp only [cmpS, hx, hy]
set_option maxHeartbeats 8000000 in
theorem rorder_eq (a b : List Nd) (ha : a.length ≤ 9223372036854775806) (hb : b.length ≤ 9223372036854775806) (ra : ∀ n ∈ a, n.inR) (rb : ∀ n ∈ b, n.inR) : cl 7 [nds a, nds b] [] = some (.ret (.int .i64 (orderS a b)), []) := by
  have ka := fun d st => rcheck_call (l := a) ha ra (d := d) (st := st)
  have kb := fun d st => rcheck_call (l := b) hb rb (d := d) (st := st)
  simp only [nds] at ka kb
  refine fn_intro Tryz.func7 rfl (by simp) (by decide) rfl ?_
  unfold orderS
  by_cases ca : checkS a = 0
  case neg =>
    rw [if_neg (fun h => ca h.1)]
    simp [Tryz.f7, nds, ka, ca]
    exact end_is (.inr rfl) (by first | rfl | (simp; rfl)) rfl rfl
  by_cases cb : checkS b = 0
  case neg =>
    rw [if_neg (fun h => cb h.2)]
    simp [Tryz.f7, nds, ka, ca, kb, cb]
    exact end_is (.inr rfl) (by first | rfl | (simp; rfl)) rfl rfl
  rw [if_pos ⟨ca, cb⟩]
  have h21 : ∀ d st, callV G cl d (.fn (.func 21) [] []) [nds a, nds b] st = some (.val (.int .i64 (cmpS a.length a b)) st) := fun d st => callV_ret E21 (by decide) ext21 rfl rfl (rcompare_eq a.length a b (Nat.le_refl _) ra rb ca cb) rfl
  simp only [nds] at h21
  simp [Tryz.f7, nds, ka, ca, kb, cb, h21]
  exact end_is (.inr rfl) (by first | rfl | (simp; rfl)) rfl rfl
theorem rorder_call {a b : List Nd} (ha : a.length ≤ 9223372036854775806) (hb : b.length ≤ 9223372036854775806) (ra : ∀ n ∈ a, n.inR) (rb : ∀ n ∈ b, n.inR) {d : Option Nat} {st : ASt} : callV G cl d (.fn (.func 7) [] []) [nds a, nds b] st = some (.val (.int .i64 (orderS a b)) st) :=
  callV_ret E7 (by decide) ext7 rfl rfl (rorder_eq a b ha hb ra rb) rfl
end Go.Proofs.YtcgkneolohcdeaaGreat


/- What the functions of order come to: how many are ahead. -/
namespace Go.Proofs.YtcgkneolohcdeaaGreat
open Go Abs
set_option linter.unusedSimpArgs false
set_option linter.unusedVariables false
attribute [local simp] canonK canonAll canonSlot canonCell canonBox ownStep restrictTo pureCells pureRows reachL AObj.names List.range_succ appendA
def Vals (L : List (List Nd)) : Prop := (∀ l ∈ L, l.length ≤ 130) ∧ ∀ l ∈ L, ∀ n ∈ l, n.inR
set_option maxHeartbeats 8000000 in
theorem rall_loop (L : List (List Nd)) (hL : L.length ≤ 1000) (hv : Vals L) : ∃ x s, lp 22 (lc Tryz.f22 0) ⟨[(0, .list 1 (ndsL L)), (3, .int .i64 0)], []⟩ = some (x, s) ∧ ((x = .ret ∧ s = ⟨[(2, .bool false)], []⟩ ∧ badL L = true) ∨ (x = .exit 0 ∧ (∃ sl, s = ⟨sl, []⟩) ∧ badL L = false)) := by
  have := for_loop (f := 22) (c := lc Tryz.f22 0) (n := L.length) (σ := fun i => ⟨[(0, .list 1 (ndsL L)), (3, .int .i64 (i : Int))], []⟩) (P := fun i => badL (L.take i) = false)
    (Q := fun x s => (x = .ret ∧ s = ⟨[(2, .bool false)], []⟩ ∧ badL L = true) ∨ (x = .exit 0 ∧ (∃ sl, s = ⟨sl, []⟩) ∧ badL L = false)) (fun i hi hp => ?_) (fun hp => ?_) 0 (by omega) (by simp [badL])
  · exact this
  · obtain ⟨n, hn⟩ : ∃ n, L[i]? = some n := ⟨L[i], List.getElem?_eq_getElem hi⟩
    have hm : n ∈ L := List.mem_of_getElem? hn
    have h1' : (i : Int) < L.length := by omega
    have hw : IntKind.i64.wrap ((i : Int) + 1) = (i : Int) + 1 := i64_wrap (by omega) (by omega)
    have hg := ndsL_get hn
    have hc := fun d st => rcheck_call (l := n) (by have := hv.1 n hm; omega) (hv.2 n hm) (d := d) (st := st)
    by_cases h0 : checkS n = 0
    · left
      refine ⟨by simp [lc, loopsOf, Tryz.f22, h1', hw, hg, hc, h0], ?_⟩
      unfold badL at hp ⊢
      rw [List.take_add_one, hn, List.any_append, hp]; simp [h0]
    · right
      refine ⟨.ret, _, by simp [lc, loopsOf, Tryz.f22, h1', hw, hg, hc, h0], by simp, .inl ⟨rfl, rfl, ?_⟩⟩
      unfold badL
      exact List.any_eq_true.2 ⟨n, hm, by simp [h0]⟩
  · rw [List.take_of_length_le (Nat.le_refl _)] at hp
    exact ⟨.exit 0, ⟨[(0, .list 1 (ndsL L)), (3, .int .i64 L.length), (7, .bool false)], []⟩, by simp [lc, loopsOf, Tryz.f22], by simp, .inr ⟨rfl, ⟨_, rfl⟩, hp⟩⟩
set_option maxHeartbeats 8000000 in
theorem rall_eq (L : List (List Nd)) (hL : L.length ≤ 1000) (hv : Vals L) : cl 22 [.list 1 (ndsL L)] [] = some (.ret (.bool (!badL L)), []) := by
  obtain ⟨x, s, h, hx⟩ := rall_loop L hL hv
  refine fn_intro Tryz.func22 rfl (by simp) (by decide) rfl ?_
  simp [lc, loopsOf, Tryz.f22] at h
  rcases hx with ⟨rfl, rfl, hf⟩ | ⟨rfl, ⟨sl, rfl⟩, hf⟩
  · simp [Tryz.f22, h, hf]
    exact end_is (.inr rfl) (by first | rfl | (simp; rfl)) rfl rfl
  · simp [Tryz.f22, h, hf]
    exact end_is (.inr rfl) (by first | rfl | (simp; rfl)) rfl rfl
theorem rall_call {L : List (List Nd)} (hL : L.length ≤ 1000) (hv : Vals L) {d : Option Nat} {st : ASt} : callV G cl d (.fn (.func 22) [] []) [.list 1 (ndsL L)] st = some (.val (.bool (!badL L)) st) := callV_ret E22 (by decide) ext22 rfl rfl (rall_eq L hL hv) rfl
/-- How many are ahead. -/
def aheadN (L : List (List Nd)) (x : List Nd) : Nat := L.countP fun l => decide (orderS l x < 0)
def placeS (L : List (List Nd)) (x : List Nd) : Nat := if badL L then 0 else aheadN L x
theorem aheadN_take {L : List (List Nd)} {x : List Nd} {i : Nat} {n : List Nd} (h : L[i]? = some n) : aheadN (L.take (i + 1)) x = if orderS n x < 0 then aheadN (L.take i) x + 1 else aheadN (L.take i) x := by
  unfold aheadN
  rw [List.take_add_one, h, List.countP_append]
  by_cases hn : orderS n x < 0 <;> simp [hn]
theorem aheadN_le {L : List (List Nd)} {x : List Nd} : aheadN L x ≤ L.length := List.countP_le_length
set_option maxHeartbeats 8000000 in
theorem rplace_loop (L : List (List Nd)) (x : List Nd) (hL : L.length ≤ 1000) (hv : Vals L) (hx : x.length ≤ 130) (rx : ∀ n ∈ x, n.inR) : ∃ r s, lp 8 (lc Tryz.f8 0) ⟨[(0, .list 1 (ndsL L)), (1, nds x), (5, .int .i64 0), (6, .int .i64 0)], []⟩ = some (r, s) ∧ r = .exit 0 ∧ ∃ sl, s = ⟨(0, .list 1 (ndsL L)) :: (1, nds x) :: (5, .int .i64 (aheadN L x : Nat)) :: sl, []⟩ := by
  have := for_loop (f := 8) (c := lc Tryz.f8 0) (n := L.length) (σ := fun i => ⟨[(0, .list 1 (ndsL L)), (1, nds x), (5, .int .i64 (aheadN (L.take i) x : Nat)), (6, .int .i64 (i : Int))], []⟩) (P := fun i => True)
    (Q := fun r s => r = .exit 0 ∧ ∃ sl, s = ⟨(0, .list 1 (ndsL L)) :: (1, nds x) :: (5, .int .i64 (aheadN L x : Nat)) :: sl, []⟩) (fun i hi hp => ?_) (fun hp => ?_) 0 (by omega) trivial
  · simpa [aheadN] using this
  · left
    obtain ⟨n, hn⟩ : ∃ n, L[i]? = some n := ⟨L[i], List.getElem?_eq_getElem hi⟩
    have hm : n ∈ L := List.mem_of_getElem? hn
    have h1' : (i : Int) < L.length := by omega
    have hw : IntKind.i64.wrap ((i : Int) + 1) = (i : Int) + 1 := i64_wrap (by omega) (by omega)
    have hg := ndsL_get hn
    have hle := aheadN_le (L := L.take i) (x := x)
    rw [List.length_take] at hle
    have ht := aheadN_take (x := x) hn
    have hc := fun d st => rorder_call (a := n) (b := x) (by have := hv.1 n hm; omega) (by omega) (hv.2 n hm) rx (d := d) (st := st)
    generalize aheadN (L.take i) x = C at *
    have hw2 : IntKind.i64.wrap ((C : Int) + 1) = ((C + 1 : Nat) : Int) := by rw [i64_wrap (by omega) (by omega)]; omega
    refine ⟨?_, trivial⟩
    rw [ht]
    by_cases h0 : orderS n x < 0
    · rw [if_pos h0]
      generalize C + 1 = C' at *
      simp [lc, loopsOf, Tryz.f8, h1', hw, hg, hc, h0, hw2]
    · rw [if_neg h0]
      simp [lc, loopsOf, Tryz.f8, h1', hw, hg, hc, h0]
  · rw [List.take_of_length_le (Nat.le_refl _)]
    exact ⟨.exit 0, _, by simp [lc, loopsOf, Tryz.f8]; rfl, by simp, rfl, _, rfl⟩
set_option maxHeartbeats 8000000 in
theorem rplace_eq (L : List (List Nd)) (x : List Nd) (hL : L.length ≤ 1000) (hv : Vals L) (hx : x.length ≤ 130) (rx : ∀ n ∈ x, n.inR) : cl 8 [.list 1 (ndsL L), nds x] [] = some (.ret (.int .i64 (placeS L x : Nat)), []) := by
  have ha := fun d st => rall_call hL hv (d := d) (st := st)
  refine fn_intro Tryz.func8 rfl (by simp) (by decide) rfl ?_
  unfold placeS
  cases hb : badL L with
  | true =>
    rw [hb] at ha
    simp [Tryz.f8, ha]
    exact end_is (.inr rfl) (by first | rfl | (simp; rfl)) rfl rfl
  | false =>
    rw [hb] at ha
    obtain ⟨r, s, h, rfl, sl, rfl⟩ := rplace_loop L x hL hv hx rx
    simp [lc, loopsOf, Tryz.f8] at h
    simp [Tryz.f8, ha, h]
    exact end_is (.inr rfl) (by first | rfl | (simp; rfl)) rfl rfl
theorem rplace_call {L : List (List Nd)} {x : List Nd} (hL : L.length ≤ 1000) (hv : Vals L) (hx : x.length ≤ 130) (rx : ∀ n ∈ x, n.inR) {d : Option Nat} {st : ASt} : callV G cl d (.fn (.func 8) [] []) [.list 1 (ndsL L), nds x] st = some (.val (.int .i64 (placeS L x : Nat)) st) := callV_ret E8 (by decide) ext8 rfl rfl (rplace_eq L x hL hv hx rx) rfl
end Go.Proofs.YtcgkneolohcdeaaGreat


/- What the law OrderTells comes to. -/
namespace Go.Proofs.YtcgkneolohcdeaaGreat
open Go Abs
set_option linter.unusedSimpArgs false
set_option linter.unusedVariables false
attribute [local simp] canonK canonAll canonSlot canonCell canonBox ownStep restrictTo pureCells pureRows reachL AObj.names List.range_succ appendA
theorem bad_mem {L : List (List Nd)} (h : badL L = false) : ∀ l ∈ L, checkS l = 0 := fun l hl => by
  unfold badL at h
  have := List.any_eq_false.1 h l hl
  simpa using this
set_option maxHeartbeats 8000000 in
theorem place_loop (L : List (List Nd)) (x : List Nd) (hL : L.length ≤ 1000) (hv : Vals L) (hx : x.length ≤ 130) (rx : ∀ n ∈ x, n.inR) (hb : badL L = false) (cx : checkS x = 0) : ∃ r s, lp 10 (lc Tryz.f10 0) ⟨[(5, .int .i64 0), (6, .fn (.func 24) [nds x] []), (20, .list 1 (ndsL L)), (21, .int .i64 L.length), (22, .int .i64 0)], []⟩ = some (r, s) ∧ r = .exit 0 ∧ ∃ sl, s = ⟨(5, .int .i64 (aheadN L x : Nat)) :: sl, []⟩ := by
  have := for_loop (f := 10) (c := lc Tryz.f10 0) (n := L.length) (σ := fun i => ⟨[(5, .int .i64 (aheadN (L.take i) x : Nat)), (6, .fn (.func 24) [nds x] []), (20, .list 1 (ndsL L)), (21, .int .i64 L.length), (22, .int .i64 (i : Int))], []⟩) (P := fun i => True)
    (Q := fun r s => r = .exit 0 ∧ ∃ sl, s = ⟨(5, .int .i64 (aheadN L x : Nat)) :: sl, []⟩) (fun i hi hp => ?_) (fun hp => ?_) 0 (by omega) trivial
  · simpa [aheadN] using this
  · left
    obtain ⟨n, hn⟩ : ∃ n, L[i]? = some n := ⟨L[i], List.getElem?_eq_getElem hi⟩
    have hm : n ∈ L := List.mem_of_getElem? hn
    have h1' : (i : Int) < L.length := by omega
    have hw : IntKind.i64.wrap ((i : Int) + 1) = (i : Int) + 1 := i64_wrap (by omega) (by omega)
    have hg := ndsL_get hn
    have hle := aheadN_le (L := L.take i) (x := x)
    rw [List.length_take] at hle
    have ht := aheadN_take (x := x) hn
    have cn := bad_mem hb n hm
    have hc : ∀ d st, callV G cl d (.fn (.func 24) [nds x] []) [nds n] st = some (.val (.int .i64 (orderS x n)) st) := fun d st => by
      have := compare_eq x.length x n (Nat.le_refl _) rx (hv.2 n hm) cx cn
      have e : orderS x n = cmpS x.length x n := by unfold orderS; rw [if_pos ⟨cx, cn⟩]
      rw [e]
      exact callV_ret E24 (by decide) ext24 rfl rfl this rfl
    have hs := order_swap rx (hv.2 n hm) cx cn
    generalize aheadN (L.take i) x = C at *
    have hw2 : IntKind.i64.wrap ((C : Int) + 1) = ((C + 1 : Nat) : Int) := by rw [i64_wrap (by omega) (by omega)]; omega
    refine ⟨?_, trivial⟩
    rw [ht]
    by_cases h0 : orderS n x < 0
    · rw [if_pos h0]
      generalize C + 1 = C' at *
      have h0' : 0 < orderS x n := by omega
      simp [lc, loopsOf, Tryz.f10, h1', hw, hg, hc, h0', hw2]
    · rw [if_neg h0]
      have h0' : ¬ 0 < orderS x n := by omega
      simp [lc, loopsOf, Tryz.f10, h1', hw, hg, hc, h0']
  · rw [List.take_of_length_le (Nat.le_refl _)]
    exact ⟨.exit 0, _, by simp [lc, loopsOf, Tryz.f10]; rfl, by simp, rfl, _, rfl⟩
theorem ahead_none {L : List (List Nd)} {x : List Nd} (cx : ¬ checkS x = 0) : aheadN L x = 0 := by
  unfold aheadN
  rw [List.countP_eq_zero]
  intro l _
  unfold orderS
  rw [if_neg (fun h => cx h.2)]; simp
set_option maxHeartbeats 8000000 in
theorem place_eq (L : List (List Nd)) (x : List Nd) (hL : L.length ≤ 1000) (hv : Vals L) (hx : x.length ≤ 130) (rx : ∀ n ∈ x, n.inR) : cl 10 [.list 1 (ndsL L), nds x] [] = some (.ret (.int .i64 (placeS L x : Nat)), []) := by
  have h1 : ∀ d sl, callV G cl d (.fn (.func 23) [] []) [.own 1010] ⟨sl, [(1010, .row 1 [nds x] false ⟨false, 22⟩)]⟩ = some (.val (.bool (!badL [x])) (ASt.fix ⟨sl, [(1010, .row 1 [nds x] false ⟨false, 22⟩)]⟩ [1010])) := fun d sl =>
    callV_rv (pre := [.list 1 (ndsL [x])]) E23 (by decide) ext23 rfl rfl rfl rfl (right78_eq [x] (by simp) (by simp; omega) (by simpa using rx)) rfl
  have h2 := fun d st => right78_call (L := L) (by omega) (fun l hl => by have := hv.1 l hl; omega) hv.2 (d := d) (st := st)
  have hbx : badL [x] = !decide (checkS x = 0) := by simp [badL]
  rw [hbx] at h1
  simp only [nds] at h1
  refine fn_intro Tryz.func10 rfl (by simp) (by decide) rfl ?_
  unfold placeS
  by_cases cx : checkS x = 0
  case neg =>
    simp only [decide_eq_false cx, Bool.not_false, Bool.not_true] at h1
    rw [ahead_none cx]
    have e : (if badL L = true then 0 else 0) = 0 := by split <;> rfl
    rw [e]
    simp [Tryz.f10, nds, h1]
    exact end_is (.inr rfl) (by first | rfl | (simp; rfl)) rfl rfl
  simp only [decide_eq_true cx, Bool.not_false, Bool.not_true] at h1
  cases hb : badL L with
  | true =>
    rw [hb] at h2
    simp [Tryz.f10, nds, h1, h2]
    exact end_is (.inr rfl) (by first | rfl | (simp; rfl)) rfl rfl
  | false =>
    rw [hb] at h2
    obtain ⟨r, s, h, rfl, sl, rfl⟩ := place_loop L x hL hv hx rx hb cx
    simp [lc, loopsOf, Tryz.f10, nds] at h
    simp [Tryz.f10, nds, h1, h2, h]
    exact end_is (.inr rfl) (by first | rfl | (simp; rfl)) rfl rfl
theorem place_call {L : List (List Nd)} {x : List Nd} (hL : L.length ≤ 1000) (hv : Vals L) (hx : x.length ≤ 130) (rx : ∀ n ∈ x, n.inR) {d : Option Nat} {st : ASt} : callV G cl d (.fn (.func 10) [] []) [.list 1 (ndsL L), nds x] st = some (.val (.int .i64 (placeS L x : Nat)) st) := callV_ret E10 (by decide) ext10 rfl rfl (place_eq L x hL hv hx rx) rfl
set_option maxHeartbeats 16000000 in
theorem orderTells_eq (a : List Nd) (ra : ∀ n ∈ a, n.inR) (b : List Nd) (rb : ∀ n ∈ b, n.inR) (k : List (List Nd)) (rk : ∀ m ∈ k, ∀ n ∈ m, n.inR) : cl 3 [nds a, nds b, .list 1 (ndsL k)] [] = some (.ret (.bool true), []) := by
  refine fn_intro Tryz.func3 rfl (by simp) (by decide) rfl ?_
  have hw := fun d st => works6_call (d := d) (st := st)
  have hf := fun d n sl => fews_own (L := [a, b]) (n := n) (fx := false) (mv := false) (t := 22) (d := d) (sl := sl)
  have hf2 := fun d st => fews_call (L := k) (d := d) (st := st)
  simp only [ndsL, List.map_cons, List.map_nil, nds] at hf
  cases hk : fewsS [a, b] with
  | false =>
    rw [hk] at hf
    simp [Tryz.f3, nds, hw, hf]
    exact end_is (.inr rfl) (by first | rfl | (simp; rfl)) rfl rfl
  | true =>
  rw [hk] at hf
  cases hk2 : fewsS k with
  | false =>
    rw [hk2] at hf2
    simp [Tryz.f3, nds, hw, hf, hf2]
    exact end_is (.inr rfl) (by first | rfl | (simp; rfl)) rfl rfl
  | true =>
  rw [hk2] at hf2
  have la := fewsS_mem hk (l := a) (by simp)
  have lb := fewsS_mem hk (l := b) (by simp)
  have hv : Vals k := ⟨fun m hm => fewsS_mem hk2 hm, rk⟩
  have lk : k.length ≤ 20 := by
    unfold fewsS at hk2
    simp only [Bool.and_eq_true, decide_eq_true_eq] at hk2
    exact hk2.1
  have o1 := fun d st => order_call (a := a) (b := b) (by omega) (by omega) ra rb (d := d) (st := st)
  have o2 := fun d st => rorder_call (a := a) (b := b) (by omega) (by omega) ra rb (d := d) (st := st)
  have p1 := fun d st => place_call (L := k) (x := a) (by omega) hv la ra (d := d) (st := st)
  have p2 := fun d st => rplace_call (L := k) (x := a) (by omega) hv la ra (d := d) (st := st)
  simp only [nds] at o1 o2 p1 p2
  simp [Tryz.f3, nds, hw, hf, hf2, o1, o2, p1, p2]
  exact end_is (.inr rfl) (by first | rfl | (simp; rfl)) rfl rfl
end Go.Proofs.YtcgkneolohcdeaaGreat

