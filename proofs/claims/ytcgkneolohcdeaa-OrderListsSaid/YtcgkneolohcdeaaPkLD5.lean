/- What the row of this claim leans on: own texts, merged. -/
import Derived.Test.YtcgkneolohcdeaaPkLD4

/- What the functions come to: tree.Member. -/
namespace Go.Proofs.Ytcgkneolohcdeaa
open Go Abs
set_option linter.unusedSimpArgs false
set_option linter.unusedVariables false

/-! Seen from the function that goes through them. -/
def slM : Slots := [(2, .ptr 3 0 0), (3, .ptr 4 0 0), (4, .ptr 5 0 0), (5, .ptr 6 0 0), (9, .fn (.func 96) [] [.ptr 1 0 0, .ptr 2 0 0]), (10, .undef), (11, .undef)]
noncomputable def hpM (l : List Nd) (a : Int) (key : List UInt8) (rc : LRec) (o ok : AV) : Heap :=
  [(0, .loop rc slM), (1, .box 22 (nds l)), (2, .box 3 (.int .i64 a)), (3, .box 22 (nds l)), (4, .box 9 (.str key)), (5, .box 22 o), (6, .box 4 ok)]
attribute [local simp] canonK canonAll canonSlot canonCell canonBox ownStep restrictTo pureCells pureRows reachL AObj.names List.range_succ appendA
/-! Seen from tree.Member -/
@[simp] theorem nds_rv {hp} {l : List Nd} : (nds l).rv hp = nds l := rfl
@[simp] theorem nds_names {l : List Nd} : (nds l).names = [] := rfl
@[simp] theorem nds_rows {l : List Nd} : (nds l).rows = [] := rfl
@[simp] theorem nds_cells {l : List Nd} : (nds l).cells = [nds l] := rfl
@[simp] theorem nds_okc {l : List Nd} : okCell (nds l) = true := rfl
@[simp] theorem nds_kno {l : List Nd} : (nds l).known = true := rfl
@[simp] theorem nds_isA {l : List Nd} : (nds l).isA = false := rfl
@[simp] theorem nds_pur {l : List Nd} : (nds l).pureB = true := pur_list
@[simp] theorem src_nds {hp} {l : List Nd} : srcEls hp 4 (nds l) = some (l.map Nd.v) := by simp [nds]
@[simp] theorem nds_ren {m} {l : List Nd} : (nds l).ren m = nds l := rfl
@[simp] theorem nds_kill {n} {l : List Nd} : (nds l).kill n = nds l := rfl
@[simp] theorem nds_len {hp} {e : TypeId} {l : List Nd} : lenD hp (some (.slice e)) (nds l) = some (.int .i64 l.length) := by simp [nds]
@[simp] theorem nds_plain {l : List Nd} : (nds l).plainB = true := by unfold nds; exact plainBL_map (fun _ => rfl) l
end Go.Proofs.Ytcgkneolohcdeaa


/- What the functions come to: slices.Concat, tree.checked, tree.List. -/
namespace Go.Proofs.Ytcgkneolohcdeaa
open Go Abs
set_option linter.unusedSimpArgs false
set_option linter.unusedVariables false

def ndsL (kids : List (List Nd)) : List AV := kids.map nds
@[simp] theorem ndsL_length {kids} : (ndsL kids).length = kids.length := by simp [ndsL]
theorem ndsL_get {kids : List (List Nd)} {i : Nat} {m : List Nd} (h : kids[i]? = some m) : (ndsL kids)[i]? = some (nds m) := by simp [ndsL, h]
@[simp] theorem ndsL_plain {kids : List (List Nd)} : AV.plainBL (ndsL kids) = true := plainBL_map (fun a => by simp only [nds, AV.plainB]; exact plainBL_map (fun _ => rfl) a) kids
def tot (kids : List (List Nd)) : Nat := (kids.map List.length).sum

/-! Grow -/
set_option maxHeartbeats 8000000 in
theorem grow_0 : cl 53 [.nils, .int .i64 0] [] = some (.ret .nils, []) := call_intro (by decide) rfl (by kernel_rfl)
set_option maxHeartbeats 8000000 in
theorem grow_n (n : Nat) (h0 : 0 < n) (h1 : n ≤ 1000000) : cl 53 [.nils, .int .i64 (n : Int)] [] = some (.ret (.own 1022), [(1022, .row 4 [] false ⟨true, 43⟩)]) := by
  refine fn_intro Try.func53 rfl (by simp) (by decide) rfl ?_
  have hneg : ¬ (n : Int) < 0 := by omega
  have hw : IntKind.i64.wrap ((n : Int) - 0) = (n : Int) := by rw [i64_wrap (by omega) (by omega)]; omega
  have hw2 : IntKind.i64.wrap (n : Int) = (n : Int) := i64_wrap (by omega) (by omega)
  have hw3 : IntKind.i64.wrap 0 = 0 := rfl
  have hpos : (0 : Int) < n := by omega
  have hL : (n : Int) ≤ LIM := by unfold LIM; omega
  have hL' : n ≤ LIM := by unfold LIM; omega
  simp [Try.f53, hneg, hw, hw2, hw3, hpos, h0, appendA, hL, ASt.cut]
  simp [endX, finishA, outOf, reachL, retA, onlyHeap, idMap, AObj.names]

/-! Concat -/
def σ57 (kids : List (List Nd)) (n i : Nat) : ASt := ⟨[(0, .list 1 (ndsL kids)), (3, .int .i64 n), (9, .list 1 (ndsL kids)), (10, .int .i64 kids.length), (11, .int .i64 i)], []⟩
set_option maxHeartbeats 8000000 in
theorem concat_len (kids : List (List Nd)) (n i : Nat) (m : List Nd) (hi : kids[i]? = some m) (hk : kids.length ≤ 1000) (hn : n + m.length ≤ 1000000) :
    rX 32 (lc Try.f32 0) (codeX G cl lp 32 (lc Try.f32 0) (σ57 kids n i)) = some (.normal, σ57 kids (n + m.length) (i + 1)) := by
  have hlt : i < kids.length := (List.getElem?_eq_some_iff.1 hi).1
  have hg := ndsL_get hi
  have hg' := (List.getElem?_eq_some_iff.1 hg).2
  have hw : IntKind.i64.wrap ((i : Int) + 1) = (i : Int) + 1 := i64_wrap (by omega) (by omega)
  have hw2 : IntKind.i64.wrap ((n : Int) + (m.length : Int)) = (n : Int) + m.length := i64_wrap (by omega) (by omega)
  have hneg : ¬ (n : Int) + (m.length : Int) < 0 := by omega
  simp only [nds] at hg'
  simp [lc, loopsOf, Try.f32, σ57, hlt, hg', hw, hw2, hneg]
theorem concat_len_exit (kids : List (List Nd)) (n : Nat) :
    rX 32 (lc Try.f32 0) (codeX G cl lp 32 (lc Try.f32 0) (σ57 kids n kids.length)) = some (.exit 0, ⟨(σ57 kids n kids.length).sl ++ [(12, .bool false)], []⟩) := by
  simp [lc, loopsOf, Try.f32, σ57]
theorem concat_loop1 (kids : List (List Nd)) (hk : kids.length ≤ 1000) (ht : tot kids ≤ 1000000) : ∀ (c i : Nat), i + c = kids.length → lp 32 (lc Try.f32 0) (σ57 kids (tot (kids.take i)) i) = some (.exit 0, ⟨(σ57 kids (tot kids) kids.length).sl ++ [(12, .bool false)], []⟩) := by
  intro c
  induction c with
  | zero =>
    intro i hi
    obtain rfl : i = kids.length := by omega
    rw [List.take_of_length_le (Nat.le_refl _)]
    exact loop_out (concat_len_exit kids _) (by simp)
  | succ c ih =>
    intro i hi
    have hlt : i < kids.length := by omega
    have hki : kids[i]? = some kids[i] := List.getElem?_eq_getElem hlt
    have e : tot (kids.take (i + 1)) = tot (kids.take i) + kids[i].length := by
      unfold tot; rw [List.take_add_one, hki]; simp only [Option.toList_some, List.map_append, List.map_cons, List.map_nil, List.sum_append, List.sum_cons, List.sum_nil, Nat.add_zero]
    have hle : tot (kids.take (i + 1)) ≤ tot kids := by
      unfold tot
      conv => rhs; rw [← List.take_append_drop (i + 1) kids]
      rw [List.map_append, List.sum_append]; omega
    have h := concat_len kids (tot (kids.take i)) i kids[i] hki hk (by omega)
    rw [← e] at h
    exact loop_next h (ih (i + 1) (by omega))

def σ57b (kids : List (List Nd)) (out : List Nd) (mv : Bool) (i : Nat) : ASt := ⟨[(6, .own 5006), (25, .list 1 (ndsL kids)), (26, .int .i64 kids.length), (27, .int .i64 i)], [(5006, .row 4 (out.map Nd.v) false ⟨mv, 43⟩)]⟩
-- What a loop's head is unfolded by, where there is memory.
attribute [local simp] canonK canonAll canonSlot canonCell canonBox ownStep restrictTo pureCells pureRows reachL AObj.names List.range_succ appendA
set_option maxHeartbeats 8000000 in
theorem concat_put (kids : List (List Nd)) (out : List Nd) (mv : Bool) (i : Nat) (m : List Nd) (hi : kids[i]? = some m) (hk : kids.length ≤ 1000) (hn : out.length + m.length ≤ 1000000) :
    rX 32 (lc Try.f32 1) (codeX G cl lp 32 (lc Try.f32 1) (σ57b kids out mv i)) = some (.normal, σ57b kids (out ++ m) true (i + 1)) := by
  have hlt : i < kids.length := (List.getElem?_eq_some_iff.1 hi).1
  have hg := ndsL_get hi
  have hg' := (List.getElem?_eq_some_iff.1 hg).2
  have hw : IntKind.i64.wrap ((i : Int) + 1) = (i : Int) + 1 := i64_wrap (by omega) (by omega)
  have hL : out.length + m.length ≤ LIM := by unfold LIM; omega
  simp only [nds] at hg'
  simp [lc, loopsOf, Try.f32, σ57b, hlt, hg', hw, hL]
theorem concat_put_exit (kids : List (List Nd)) (out : List Nd) (mv : Bool) :
    rX 32 (lc Try.f32 1) (codeX G cl lp 32 (lc Try.f32 1) (σ57b kids out mv kids.length)) = some (.exit 2, ⟨(σ57b kids out mv kids.length).sl ++ [(28, .bool false)], (σ57b kids out mv kids.length).hp⟩) := by
  simp [lc, loopsOf, Try.f32, σ57b]
theorem tot_flatten (kids : List (List Nd)) : kids.flatten.length = tot kids := by simp [tot, List.length_flatten]
theorem concat_loop2 (kids : List (List Nd)) (hk : kids.length ≤ 1000) (ht : tot kids ≤ 1000000) : ∀ (c i : Nat) (mv : Bool), i + c = kids.length → ∃ mv', lp 32 (lc Try.f32 1) (σ57b kids (kids.take i).flatten mv i) = some (.exit 2, ⟨(σ57b kids kids.flatten mv' kids.length).sl ++ [(28, .bool false)], (σ57b kids kids.flatten mv' kids.length).hp⟩) := by
  intro c
  induction c with
  | zero =>
    intro i mv hi
    obtain rfl : i = kids.length := by omega
    rw [List.take_of_length_le (Nat.le_refl _)]
    exact ⟨mv, loop_out (concat_put_exit kids _ mv) (by simp)⟩
  | succ c ih =>
    intro i mv hi
    have hlt : i < kids.length := by omega
    have hki : kids[i]? = some kids[i] := List.getElem?_eq_getElem hlt
    have e : (kids.take (i + 1)).flatten = (kids.take i).flatten ++ kids[i] := by
      rw [List.take_add_one, hki]; simp only [Option.toList_some, List.flatten_append, List.flatten_cons, List.flatten_nil, List.append_nil]
    have hle : (kids.take (i + 1)).flatten.length ≤ kids.flatten.length := by
      conv => rhs; rw [← List.take_append_drop (i + 1) kids]
      rw [List.flatten_append, List.length_append]; omega
    rw [tot_flatten kids, e, List.length_append] at hle
    have h := concat_put kids (kids.take i).flatten mv i kids[i] hki hk (by omega)
    rw [← e] at h
    obtain ⟨mv', hx⟩ := ih (i + 1) true (by omega)
    exact ⟨mv', loop_next h hx⟩

theorem prepL_rv {g : FuncId} {hp : Heap} (hin : ∀ j, G.inplace g j = false) : ∀ {l : List AV} {j : Nat}, prepL G g hp l j = AV.rvL hp l
  | [], _ => rfl
  | a :: l, j => by simp only [prepL, hin, Bool.false_eq_true, if_false, prepL_rv hin (l := l), rvL_cons]
theorem prepRows_rv {g : FuncId} (hin : ∀ j, G.inplace g j = false) : ∀ {l : List AV} {j : Nat}, prepRows G g l j = AV.rowsL l
  | [], _ => rfl
  | a :: l, j => by simp only [prepRows, hin, Bool.false_eq_true, if_false, prepRows_rv hin (l := l), rowsL_cons]
theorem inp_false {g : FuncId} (h : inpT.contains g = false) (j : Nat) : G.inplace g j = false := by
  show (inpT.contains g && j == 0) = false
  rw [h]; rfl
/-- A call that is handed rows, told as lists. -/
theorem callV_rv {d : Option Nat} {g : FuncId} {first caps args all pre : List AV} {st : ASt} {v : AV} (hE : G.E g = true) (hg : g < RB) (hx : G.ext g = none) (hin : inpT.contains g = false) (ha : first ++ args ++ caps = all)
    (hpre : AV.rvL st.hp all = pre) (hn : AV.namesL pre = []) (hc : cl g pre [] = some (.ret v, [])) (hv : v.names = []) : callV G cl d (.fn (.func g) first caps) args st = some (.val v (st.fix (AV.rowsL all))) := by
  subst ha
  refine callV_of (pre := pre) (st1 := st.fix (AV.rowsL (first ++ args ++ caps))) (ns := []) (y := (.ret v, [])) hE hg hx ?_ ?_ ?_ rfl ?_ (st3 := st.fix (AV.rowsL (first ++ args ++ caps))) ?_ ?_
  · rw [prepL_rv (inp_false hin), hpre]
  · rw [prepRows_rv (inp_false hin)]
  · rw [hn]; rfl
  · rw [nameless_ren.nameless_renL hn]; exact hc
  · rfl
  · simp only [answered, nameless_ren hv]

set_option maxHeartbeats 8000000 in
theorem concat_eq (kids : List (List Nd)) (hk : kids.length ≤ 1000) (ht : tot kids ≤ 1000000) : cl 32 [.list 1 (ndsL kids)] [] = some (.ret (nds kids.flatten), []) := by
  have h1 := concat_loop1 kids hk ht kids.length 0 (by omega)
  obtain ⟨mv0, h2⟩ := concat_loop2 kids hk ht kids.length 0 false (by omega)
  obtain ⟨mv1, h3⟩ := concat_loop2 kids hk ht kids.length 0 true (by omega)
  have e0 : tot (kids.take 0) = 0 := rfl
  rw [e0] at h1
  refine fn_intro Try.func32 rfl (by simp) (by decide) rfl ?_
  simp [lc, loopsOf, Try.f32, σ57, σ57b] at h1 h2 h3
  by_cases hz : tot kids = 0
  · have hg : ∀ d st, callV G cl d (.fn (.func 53) [] []) [.nils, .int .i64 0] st = some (.val .nils st) := fun d st => callV_ret E53 (by decide) ext53 rfl rfl grow_0 rfl
    rw [hz] at h1
    simp at h1
    simp [Try.f32, h1, hg, h2]
    exact end_rv (.inr rfl) (by simp; rfl) (by simp) (by simp [nds]) rfl
  · have hg : ∀ sl, callV G cl (some 24) (.fn (.func 53) [] []) [.nils, .int .i64 (tot kids : Int)] ⟨sl, []⟩ = some (.val (.own 1023000024) ⟨sl, [(1023000024, .row 4 [] false ⟨true, 43⟩)]⟩) := fun sl =>
      callV_of (pre := [.nils, .int .i64 (tot kids : Int)]) (st1 := ⟨sl, []⟩) (ns := []) E53 (by decide) ext53 rfl rfl rfl rfl (by exact grow_n (tot kids) (by omega) ht) (by kernel_rfl) rfl
    simp [Try.f32, h1, hg, h3]
    exact end_rv (.inr rfl) (by simp; rfl) (by simp) (by simp [nds]) rfl

/-- Nodes that are a value, or the error. -/
def checkedV (l : List Nd) : AV := if checkS l = 0 then .tup [nds l, .int .i64 0] else .tup [.nils, .int .i64 (checkS l)]
set_option maxHeartbeats 8000000 in
theorem checked_eq (l : List Nd) (hb : l.length ≤ 9223372036854775806) (hr : ∀ n ∈ l, n.inR) : cl 31 [nds l] [] = some (.ret (checkedV l), []) := by
  have hc := fun d st => check_call (l := l) hb hr (d := d) (st := st)
  refine fn_intro Try.func31 rfl (by simp) (by decide) rfl ?_
  by_cases h : checkS l = 0
  · simp [Try.f31, hc, h]
    exact end_is (.inr rfl) (by simp [resL]; rfl) rfl (by simp [checkedV, h])
  · simp [Try.f31, hc, h]
    exact end_is (.inr rfl) (by simp [resL]; rfl) rfl (by simp [checkedV, h])

/-- The nodes of a list of such kids. -/
def listS (kids : List (List Nd)) : List Nd := ⟨4, 0, [], kids.length⟩ :: kids.flatten
set_option maxHeartbeats 8000000 in
theorem list_eq (kids : List (List Nd)) (hk : kids.length ≤ 1000) (ht : tot kids ≤ 1000000) (hr : ∀ m ∈ kids, ∀ n ∈ m, n.inR) : cl 15 [.list 1 (ndsL kids)] [] = some (.ret (checkedV (listS kids)), []) := by
  have hlr : ∀ n ∈ listS kids, n.inR := fun n hn => by
    rcases List.mem_cons.1 hn with rfl | hn
    · exact ⟨by simp, by simp, by simp only; omega, by simp only; omega⟩
    · obtain ⟨m, hm, hn⟩ := List.mem_flatten.1 hn
      exact hr m hm n hn
  have hlen : (listS kids).length = tot kids + 1 := by simp only [listS, List.length_cons, tot_flatten]
  have hcat : ∀ d st, callV G cl d (.fn (.func 32) [] []) [.list 1 (ndsL kids)] st = some (.val (nds kids.flatten) st) := fun d st => callV_ret E32 (by decide) ext32 rfl rfl (concat_eq kids hk ht) rfl
  have hchk := checked_eq (listS kids) (by omega) hlr
  have hL : 1 + kids.flatten.length ≤ LIM := by rw [tot_flatten]; unfold LIM; omega
  have hls : listS kids = ⟨4, 0, [], kids.length⟩ :: kids.flatten := rfl
  rw [hls] at hchk ⊢
  generalize kids.flatten = fl at *
  have hck : ∀ d sl, callV G cl d (.fn (.func 31) [] []) [.own 1008] ⟨sl, [(1008, .row 4 (.agg [.int .i64 4, .int .i64 0, .str [], .int .i64 kids.length] :: fl.map Nd.v) false ⟨true, 43⟩)]⟩ =
      some (.val (checkedV (⟨4, 0, [], kids.length⟩ :: fl)) ⟨sl, [(1008, .row 4 (.agg [.int .i64 4, .int .i64 0, .str [], .int .i64 kids.length] :: fl.map Nd.v) true ⟨true, 43⟩)]⟩) := fun d sl =>
    callV_rv (pre := [nds (⟨4, 0, [], kids.length⟩ :: fl)]) E31 (by decide) ext31 rfl rfl rfl rfl hchk (by unfold checkedV; split <;> rfl)
  refine fn_intro Try.func15 rfl (by simp) (by decide) rfl ?_
  simp only [nds] at hcat
  simp [Try.f15, hcat, appendA, hL, hck]
  unfold checkedV
  split
  · simp
    exact end_rv (.inr rfl) (by simp [resL]; rfl) (by simp) (by rfl) (by rfl)
  · simp
    exact end_rv (.inr rfl) (by simp [resL]; rfl) (by simp) (by rfl) (by rfl)
theorem checkedV_names {l : List Nd} : (checkedV l).names = [] := by unfold checkedV; split <;> rfl
end Go.Proofs.Ytcgkneolohcdeaa


/- The arguments, as they lie in memory: rows of whatever is known. -/
namespace Go.Proofs.Ytcgkneolohcdeaa
open Go Abs Go.RowKit
set_option linter.unusedSimpArgs false
set_option linter.unusedVariables false
section
variable {H : Type} {enc : TypeId × Value → H} {W : World}
/-- A row, whose elements are known when they are opened. -/
theorem slice_open {T E : TypeId} {sz : Nat} (hT : Try.prog.underlying T = some (.slice E)) (hc : Try.prog.cellsOf E = sz) (hz : 0 < sz) {α : Type} [Inhabited α] (V : α → AV) (good : α → Prop) (hcells : ∀ x, (V x).cells.length = sz)
    (elem : ∀ {n : Nat} {cs : List Value} {x : DataW H × List MemPlace}, DataW.trod enc Try.prog W 0 (fun _ => true) true n E cs = some x → ∃ a, good a ∧ cs.length = sz ∧ ∀ (j : Nat) c, (V a).cells[j]? = some c → ∃ u, cs[j]? = some u ∧ PR (allS W) W c u ∧ scalarV u = true)
    {n : Nat} {cs : List Value} {x : DataW H × List MemPlace} (h : DataW.trod enc Try.prog W 0 (fun _ => true) true n T cs = some x) :
    ∃ (v : Value) (l : List α), cs = [v] ∧ (∀ a ∈ l, good a) ∧ PR (allS W) W (.list sz (l.map V)) v := by
  rcases Deep.open_slice hT h with ⟨rfl, _⟩ | ⟨a, len, cap, m, n', D, Pl, rfl, _, hlc, hcm, hm, _, hel⟩
  · exact ⟨_, [], rfl, fun m hm => by simp at hm, .empty sz none 0 (fun e => by omega)⟩
  · simp only [if_true] at hm
    subst hm
    have each : ∀ i, i < len → ∃ q : α × List Value, good q.1 ∧ ∀ (j : Nat) c, (V q.1).cells[j]? = some c → ∃ u, q.2[j]? = some u ∧ W.cell? ((a.add (i * sz)).add j) = some u ∧ PR (allS W) W c u ∧ scalarV u = true := by
      intro i hi
      obtain ⟨cs', h1, h2⟩ := hel i (by omega)
      rw [hc] at h1
      obtain ⟨q, hg, hl, h3⟩ := elem h2
      obtain ⟨_, _, h5⟩ := World.cells?_some h1
      refine ⟨(q, cs'), hg, fun j c hj => ?_⟩
      have hjl : j < sz := by rw [← hcells q]; exact (List.getElem?_eq_some_iff.1 hj).1
      obtain ⟨u, hu, hp, hs⟩ := h3 j c hj
      exact ⟨u, hu, by rw [h5 j hjl]; exact hu, hp, hs⟩
    by_cases hlen : len = 0
    · subst hlen
      exact ⟨_, [], rfl, fun m hm => by simp at hm, .empty sz (some a) _ (fun e => by omega)⟩
    · have hsp : a.spot = none ∧ a.block < W.heap.size := by
        obtain ⟨q, _, h3⟩ := each 0 (by omega)
        have hne : 0 < (V q.1).cells.length := by rw [hcells]; exact hz
        obtain ⟨u, _, this, _⟩ := h3 0 _ (List.getElem?_eq_getElem hne)
        simp only [Nat.zero_mul, Addr.add, if_true] at this
        exact spot_none this
      obtain ⟨b, off, sp⟩ := a
      simp only at hsp
      obtain ⟨rfl, hb⟩ := hsp
      let N : Nat → α × List Value := fun i => if hi : i < len then (each i hi).choose else default
      have hN : ∀ i, (hi : i < len) → good (N i).1 ∧ ∀ (j : Nat) c, (V (N i).1).cells[j]? = some c → ∃ u, (N i).2[j]? = some u ∧ W.cell? (((⟨b, off, none⟩ : Addr).add (i * sz)).add j) = some u ∧ PR (allS W) W c u ∧ scalarV u = true := by
        intro i hi
        simp only [N, dif_pos hi]
        exact (each i hi).choose_spec
      refine ⟨_, (List.range len).map fun i => (N i).1, rfl, fun m hm => ?_, ?_⟩
      · obtain ⟨i, hi, rfl⟩ := List.mem_map.1 hm
        exact (hN i (List.mem_range.1 hi)).1
      · have hget : ∀ (i : Nat) e, (((List.range len).map fun i => (N i).1).map V)[i]? = some e → i < len ∧ e = V (N i).1 := by
          intro i e he
          simp only [List.getElem?_map] at he
          obtain ⟨q, hq, rfl⟩ := Option.map_eq_some_iff.1 he
          obtain ⟨r, hr, rfl⟩ := Option.map_eq_some_iff.1 hq
          obtain ⟨hi, rfl⟩ := List.getElem?_eq_some_iff.1 hr
          simp only [List.length_range] at hi
          simp [hi]
        have hcell : ∀ (i j : Nat) e c, (((List.range len).map fun i => (N i).1).map V)[i]? = some e → e.cells[j]? = some c →
            ∃ u, (N i).2[j]? = some u ∧ W.cell? (((⟨b, off, none⟩ : Addr).add (i * sz)).add j) = some u ∧ PR (allS W) W c u ∧ scalarV u = true := by
          intro i j e c he hj
          obtain ⟨hi, rfl⟩ := hget i e he
          exact (hN i hi).2 j c hj
        have := PR.list (S := allS W) (w := W) (((List.range len).map fun i => (N i).1).map V) b off m sz
          (fun i j => ((N i).2[j]?).getD default) hz (by simpa using hlc)
          (fun e he => by obtain ⟨q, _, rfl⟩ := List.mem_map.1 he; exact hcells _) (fun i j e c he hj => hb)
          (fun i j e c he hj => by
            obtain ⟨u, hu, hw, _, _⟩ := hcell i j e c he hj
            rw [hu]
            rwa [Deep.add_add, show (⟨b, off, none⟩ : Addr) = at0 b off from rfl, at0_add, ← Nat.add_assoc] at hw)
          (fun i j e c he hj => by obtain ⟨u, hu, _, _, hs⟩ := hcell i j e c he hj; rw [hu]; exact hs)
          (fun i j e c he hj => by obtain ⟨u, hu, _, hp, _⟩ := hcell i j e c he hj; rw [hu]; exact hp)
        simp only [List.length_map, List.length_range] at this
        exact this

theorem kids_Trod {a : Option Addr} {len cap : Nat} {d : DataW H} {p : List MemPlace} (h : DataW.Trod enc Try.prog W 0 (fun _ => true) true 25 (.slice a len cap) d p) :
    ∃ l : List (List Nd), (∀ m ∈ l, ∀ n ∈ m, n.inR) ∧ PR (allS W) W (.list 1 (ndsL l)) (.slice a len cap) := by
  obtain ⟨n, hn⟩ := h
  obtain ⟨v, l, hv, h1, h2⟩ := slice_open (T := 25) (E := 22) (sz := 1) Try.underlying25 (by kernel_rfl) (by omega) nds (fun m => ∀ n ∈ m, n.inR) (fun _ => rfl) (fun h => by
    obtain ⟨v, l, rfl, g1, g2⟩ := nodes_open h
    refine ⟨l, g1, rfl, fun j c hc => ?_⟩
    match j, hc with
    | 0, hc =>
      cases hc
      refine ⟨v, rfl, g2, ?_⟩
      unfold nds at g2
      generalize l.map Nd.v = es at g2
      cases g2 <;> rfl
    | j + 1, hc => simp at hc) hn
  have : v = .slice a len cap := by
    have e : (Value.slice a len cap).cells.toList = [.slice a len cap] := rfl
    rw [e] at hv
    exact (List.cons.inj hv).1.symm
  subst this
  exact ⟨l, h1, h2⟩
end
end Go.Proofs.Ytcgkneolohcdeaa


/- What the functions come to: which value is ahead: plain values. -/
namespace Go.Proofs.Ytcgkneolohcdeaa
open Go Abs
set_option linter.unusedSimpArgs false
set_option linter.unusedVariables false
def ordI (x y : Int) : Int := if x < y then -1 else if y < x then 1 else 0
def ordT (s u : List UInt8) : Int := if ltB s u = true then -1 else if s = u then 0 else 1
set_option maxHeartbeats 8000000 in
theorem nan129 (n : Int) : cl 58 [.int .i64 n] [] = some (.ret (.bool false), []) := by
  refine fn_intro Try.func58 rfl (by simp) (by decide) rfl ?_
  simp [Try.f58]
  exact end_is (.inr rfl) (by first | rfl | (simp; rfl)) rfl rfl
set_option maxHeartbeats 8000000 in
theorem nan130 (n : Int) : cl 59 [.int .i64 n] [] = some (.ret (.bool false), []) := by
  refine fn_intro Try.func59 rfl (by simp) (by decide) rfl ?_
  simp [Try.f59]
  exact end_is (.inr rfl) (by first | rfl | (simp; rfl)) rfl rfl
set_option maxHeartbeats 8000000 in
theorem nan131 (s : List UInt8) : cl 60 [.str s] [] = some (.ret (.bool false), []) := by
  refine fn_intro Try.func60 rfl (by simp) (by decide) rfl ?_
  simp [Try.f60]
  exact end_is (.inr rfl) (by first | rfl | (simp; rfl)) rfl rfl
theorem nan129_call {d : Option Nat} {st : ASt} {n : Int} : callV G cl d (.fn (.func 58) [] []) [.int .i64 n] st = some (.val (.bool false) st) := callV_ret E58 (by decide) ext58 rfl rfl (nan129 n) rfl
theorem nan130_call {d : Option Nat} {st : ASt} {n : Int} : callV G cl d (.fn (.func 59) [] []) [.int .i64 n] st = some (.val (.bool false) st) := callV_ret E59 (by decide) ext59 rfl rfl (nan130 n) rfl
theorem nan131_call {d : Option Nat} {st : ASt} {s : List UInt8} : callV G cl d (.fn (.func 60) [] []) [.str s] st = some (.val (.bool false) st) := callV_ret E60 (by decide) ext60 rfl rfl (nan131 s) rfl
set_option maxHeartbeats 8000000 in
theorem cmp107 (x y : Int) : cl 43 [.int .i64 x, .int .i64 y] [] = some (.ret (.int .i64 (ordI x y)), []) := by
  refine fn_intro Try.func43 rfl (by simp) (by decide) rfl ?_
  unfold ordI
  by_cases h1 : x < y
  · simp [Try.f43, nan129_call, h1]
    exact end_is (.inr rfl) (by first | rfl | (simp; rfl)) rfl rfl
  by_cases h2 : y < x
  · simp [Try.f43, nan129_call, h1, h2]
    exact end_is (.inr rfl) (by first | rfl | (simp; rfl)) rfl rfl
  · simp [Try.f43, nan129_call, h1, h2]
    exact end_is (.inr rfl) (by first | rfl | (simp; rfl)) rfl rfl
set_option maxHeartbeats 8000000 in
theorem cmp108 (x y : Int) : cl 44 [.int .i64 x, .int .i64 y] [] = some (.ret (.int .i64 (ordI x y)), []) := by
  refine fn_intro Try.func44 rfl (by simp) (by decide) rfl ?_
  unfold ordI
  by_cases h1 : x < y
  · simp [Try.f44, nan130_call, h1]
    exact end_is (.inr rfl) (by first | rfl | (simp; rfl)) rfl rfl
  by_cases h2 : y < x
  · simp [Try.f44, nan130_call, h1, h2]
    exact end_is (.inr rfl) (by first | rfl | (simp; rfl)) rfl rfl
  · simp [Try.f44, nan130_call, h1, h2]
    exact end_is (.inr rfl) (by first | rfl | (simp; rfl)) rfl rfl
set_option maxHeartbeats 8000000 in
theorem cmp109 (x y : List UInt8) : cl 45 [.str x, .str y] [] = some (.ret (.int .i64 (ordT x y)), []) := by
  refine fn_intro Try.func45 rfl (by simp) (by decide) rfl ?_
  unfold ordT
  by_cases h1 : ltB x y = true
  · simp [Try.f45, nan131_call, h1]
    exact end_is (.inr rfl) (by first | rfl | (simp; rfl)) rfl rfl
  by_cases h2 : x = y
  · subst h2
    simp [Try.f45, nan131_call, h1]
    exact end_is (.inr rfl) (by first | rfl | (simp; rfl)) rfl rfl
  · simp [Try.f45, nan131_call, h1, h2]
    exact end_is (.inr rfl) (by first | rfl | (simp; rfl)) rfl rfl
theorem cmp107_call {d : Option Nat} {st : ASt} {x y : Int} : callV G cl d (.fn (.func 43) [] []) [.int .i64 x, .int .i64 y] st = some (.val (.int .i64 (ordI x y)) st) := callV_ret E43 (by decide) ext43 rfl rfl (cmp107 x y) rfl
theorem cmp108_call {d : Option Nat} {st : ASt} {x y : Int} : callV G cl d (.fn (.func 44) [] []) [.int .i64 x, .int .i64 y] st = some (.val (.int .i64 (ordI x y)) st) := callV_ret E44 (by decide) ext44 rfl rfl (cmp108 x y) rfl
theorem cmp109_call {d : Option Nat} {st : ASt} {x y : List UInt8} : callV G cl d (.fn (.func 45) [] []) [.str x, .str y] st = some (.val (.int .i64 (ordT x y)) st) := callV_ret E45 (by decide) ext45 rfl rfl (cmp109 x y) rfl
def orI (x y z : Int) : Int := if x ≠ 0 then x else if y ≠ 0 then y else z
set_option maxHeartbeats 8000000 in
theorem or106 (x y z : Int) : cl 42 [.list 1 [.int .i64 x, .int .i64 y, .int .i64 z]] [] = some (.ret (.int .i64 (orI x y z)), []) := by
  have w1 : IntKind.i64.wrap 1 = 1 := rfl
  have w2 : IntKind.i64.wrap 2 = 2 := rfl
  have w3 : IntKind.i64.wrap 3 = 3 := rfl
  have hit : ∀ i v, (∃ j : Nat, i = (j : Int) ∧ [x, y, z][j]? = some v) → v ≠ 0 → lp 42 (lc Try.f42 0) ⟨[(3, .int .i64 0), (6, .list 1 [.int .i64 x, .int .i64 y, .int .i64 z]), (7, .int .i64 3), (8, .int .i64 i)], []⟩ = some (.ret, ⟨[(2, .int .i64 v)], []⟩) := by
    rintro i v ⟨j, rfl, hj⟩ hv
    refine loop_out ?_ (by simp)
    match j, hj with
    | 0, hj => cases hj; simp [lc, loopsOf, Try.f42, hv]
    | 1, hj => cases hj; simp [lc, loopsOf, Try.f42, hv]
    | 2, hj => cases hj; simp [lc, loopsOf, Try.f42, hv]
  have on : ∀ (j : Nat) r, [x, y, z][j]? = some 0 → lp 42 (lc Try.f42 0) ⟨[(3, .int .i64 0), (6, .list 1 [.int .i64 x, .int .i64 y, .int .i64 z]), (7, .int .i64 3), (8, .int .i64 ((j : Int) + 1))], []⟩ = some r →
      lp 42 (lc Try.f42 0) ⟨[(3, .int .i64 0), (6, .list 1 [.int .i64 x, .int .i64 y, .int .i64 z]), (7, .int .i64 3), (8, .int .i64 (j : Int))], []⟩ = some r := by
    intro j r hj h
    refine loop_next ?_ h
    match j, hj with
    | 0, hj => cases hj; simp [lc, loopsOf, Try.f42, w1]
    | 1, hj => cases hj; simp [lc, loopsOf, Try.f42, w2]
    | 2, hj => cases hj; simp [lc, loopsOf, Try.f42, w3]
  have out : lp 42 (lc Try.f42 0) ⟨[(3, .int .i64 0), (6, .list 1 [.int .i64 x, .int .i64 y, .int .i64 z]), (7, .int .i64 3), (8, .int .i64 3)], []⟩ = some (.exit 0, ⟨[(3, .int .i64 0), (6, .list 1 [.int .i64 x, .int .i64 y, .int .i64 z]), (7, .int .i64 3), (8, .int .i64 3), (9, .bool false)], []⟩) := by
    refine loop_out ?_ (by simp)
    simp [lc, loopsOf, Try.f42]
  unfold orI
  by_cases hx : x = 0
  case neg =>
    rw [if_pos hx]
    have h := hit 0 x ⟨0, rfl, rfl⟩ hx
    refine fn_intro Try.func42 rfl (by simp) (by decide) rfl ?_
    simp [lc, loopsOf, Try.f42] at h
    simp [Try.f42, h]
    exact end_is (.inr rfl) (by first | rfl | (simp; rfl)) rfl rfl
  subst hx
  rw [if_neg (by simp)]
  by_cases hy : y = 0
  case neg =>
    rw [if_pos hy]
    have h := on 0 _ rfl (hit 1 y ⟨1, rfl, rfl⟩ hy)
    refine fn_intro Try.func42 rfl (by simp) (by decide) rfl ?_
    simp [lc, loopsOf, Try.f42] at h
    simp [Try.f42, h]
    exact end_is (.inr rfl) (by first | rfl | (simp; rfl)) rfl rfl
  subst hy
  rw [if_neg (by simp)]
  by_cases hz : z = 0
  case neg =>
    have h := on 0 _ rfl (on 1 _ rfl (hit 2 z ⟨2, rfl, rfl⟩ hz))
    refine fn_intro Try.func42 rfl (by simp) (by decide) rfl ?_
    simp [lc, loopsOf, Try.f42] at h
    simp [Try.f42, h]
    exact end_is (.inr rfl) (by first | rfl | (simp; rfl)) rfl rfl
  · subst hz
    have h := on 0 _ rfl (on 1 _ rfl (on 2 _ rfl out))
    refine fn_intro Try.func42 rfl (by simp) (by decide) rfl ?_
    simp [lc, loopsOf, Try.f42] at h
    simp [Try.f42, h]
    exact end_is (.inr rfl) (by first | rfl | (simp; rfl)) rfl rfl
end Go.Proofs.Ytcgkneolohcdeaa


/- What the functions come to: whether all are values. -/
namespace Go.Proofs.Ytcgkneolohcdeaa
open Go Abs
set_option linter.unusedSimpArgs false
set_option linter.unusedVariables false
set_option maxHeartbeats 8000000 in
theorem bad105 (l : List Nd) (hb : l.length ≤ 9223372036854775806) (hr : ∀ n ∈ l, n.inR) : cl 41 [nds l] [] = some (.ret (.bool (decide (checkS l ≠ 0))), []) := by
  have h19 := fun d st => check_call hb hr (d := d) (st := st)
  refine fn_intro Try.func41 rfl (by simp) (by decide) rfl ?_
  simp only [nds] at h19
  simp [Try.f41, nds, h19]
  exact end_is (.inr rfl) (by first | rfl | (simp; rfl)) rfl rfl
theorem bad105_call {l : List Nd} (hb : l.length ≤ 9223372036854775806) (hr : ∀ n ∈ l, n.inR) {d : Option Nat} {st : ASt} : callV G cl d (.fn (.func 41) [] []) [nds l] st = some (.val (.bool (decide (checkS l ≠ 0))) st) := callV_ret E41 (by decide) ext41 rfl rfl (bad105 l hb hr) rfl
@[simp] theorem ndsL_ix {K : List (List Nd)} {i : Nat} {h : i < (ndsL K).length} : (ndsL K)[i] = nds (K[i]'(by simpa using h)) := by simp [ndsL]
@[simp] theorem ndsL_bq {l : List (List Nd)} : AV.beqL (ndsL l) (ndsL l) = true := beqL_self ndsL_plain
def badL (L : List (List Nd)) : Bool := L.any fun l => decide (checkS l ≠ 0)
set_option maxHeartbeats 8000000 in
theorem index128_loop (L : List (List Nd)) (hL : L.length ≤ 9223372036854775806) (hb : ∀ l ∈ L, l.length ≤ 9223372036854775806) (hr : ∀ l ∈ L, ∀ n ∈ l, n.inR) : ∃ x s, lp 57 (lc Try.f57 0) { sl := [(0, .list 1 (ndsL L)), (1, .fn (.func 41) [] []), (7, .int .i64 L.length), (8, .int .i64 0)], hp := [] } = some (x, s) ∧
    ((x = .ret ∧ (∃ j : Nat, s = { sl := [(4, .int .i64 j)], hp := [] }) ∧ badL L = true) ∨ (x = .exit 0 ∧ (∃ sl, s = { sl, hp := [] }) ∧ badL L = false)) := by
  refine for_loop (f := 57) (c := lc Try.f57 0) (n := L.length) (σ := fun i => { sl := [(0, .list 1 (ndsL L)), (1, .fn (.func 41) [] []), (7, .int .i64 L.length), (8, .int .i64 (i : Int))], hp := [] }) (P := fun i => badL (L.take i) = false)
    (Q := fun x s => (x = .ret ∧ (∃ j : Nat, s = { sl := [(4, .int .i64 j)], hp := [] }) ∧ badL L = true) ∨ (x = .exit 0 ∧ (∃ sl, s = { sl, hp := [] }) ∧ badL L = false))
    (fun i hi hp => ?_) (fun hp => ?_) 0 (by omega) (by simp [badL])
  · obtain ⟨l, hl⟩ : ∃ l, L[i]? = some l := ⟨L[i], List.getElem?_eq_getElem hi⟩
    have e : L[i] = l := (List.getElem?_eq_some_iff.1 hl).2
    have hm := List.mem_of_getElem? hl
    have h1 : (i : Int) < L.length := by omega
    have hw : IntKind.i64.wrap ((i : Int) + 1) = (i : Int) + 1 := i64_wrap (by omega) (by omega)
    have hc := fun d st => bad105_call (hb l hm) (hr l hm) (d := d) (st := st)
    simp only [nds] at hc
    have e' : (ndsL L)[i]? = some (nds l) := ndsL_get hl
    by_cases ht : checkS l = 0
    · left
      rw [ht] at hc
      refine ⟨?_, ?_⟩
      · simp [lc, loopsOf, Try.f57, h1, hi, e', e, hw, nds, hc]
        done
      · rw [List.take_add_one, hl]; unfold badL at hp ⊢; rw [List.any_append, hp]; simpa using ht
    · right
      refine ⟨.ret, ⟨[(4, .int .i64 i)], []⟩, ?_, by simp, .inl ⟨rfl, ⟨i, rfl⟩, List.any_eq_true.2 ⟨l, hm, by simpa using ht⟩⟩⟩
      simp [lc, loopsOf, Try.f57, h1, hi, e', e, hw, nds, hc, ht]
      done
  · rw [List.take_of_length_le (Nat.le_refl _)] at hp
    exact ⟨.exit 0, ⟨[(0, .list 1 (ndsL L)), (1, .fn (.func 41) [] []), (7, .int .i64 L.length), (8, .int .i64 L.length), (9, .bool false)], []⟩, by simp [lc, loopsOf, Try.f57], by simp, .inr ⟨rfl, ⟨_, rfl⟩, hp⟩⟩
theorem index128_eq (L : List (List Nd)) (hL : L.length ≤ 9223372036854775806) (hb : ∀ l ∈ L, l.length ≤ 9223372036854775806) (hr : ∀ l ∈ L, ∀ n ∈ l, n.inR) : ∃ j : Int, cl 57 [.list 1 (ndsL L), .fn (.func 41) [] []] [] = some (.ret (.int .i64 j), []) ∧ (0 ≤ j ↔ badL L = true) := by
  obtain ⟨x, s, h, hx⟩ := index128_loop L hL hb hr
  simp [lc, loopsOf, Try.f57, Option.getD_some] at h
  rcases hx with ⟨rfl, ⟨j, rfl⟩, hf⟩ | ⟨rfl, ⟨sl, rfl⟩, hf⟩
  · refine ⟨j, fn_intro Try.func57 rfl (by simp) (by decide) rfl ?_, by simp [hf]⟩
    simp [Try.f57, h]
    exact end_is (.inr rfl) (by first | rfl | (simp; rfl)) rfl rfl
  · refine ⟨-1, fn_intro Try.func57 rfl (by simp) (by decide) rfl ?_, by simp [hf]⟩
    simp [Try.f57, h]
    exact end_is (.inr rfl) (by first | rfl | (simp; rfl)) rfl rfl
set_option maxHeartbeats 8000000 in
theorem contains104_eq (L : List (List Nd)) (hL : L.length ≤ 9223372036854775806) (hb : ∀ l ∈ L, l.length ≤ 9223372036854775806) (hr : ∀ l ∈ L, ∀ n ∈ l, n.inR) : cl 40 [.list 1 (ndsL L), .fn (.func 41) [] []] [] = some (.ret (.bool (badL L)), []) := by
  obtain ⟨j, h, hj⟩ := index128_eq L hL hb hr
  have hc : ∀ d st, callV G cl d (.fn (.func 57) [] []) [.list 1 (ndsL L), .fn (.func 41) [] []] st = some (.val (.int .i64 j) st) := fun d st => callV_ret E57 (by decide) ext57 rfl rfl h rfl
  refine fn_intro Try.func40 rfl (by simp) (by decide) rfl ?_
  simp [Try.f40, hc]
  refine end_is (.inr rfl) (by simp; rfl) rfl ?_
  cases hB : badL L with
  | true => simp [hj.2 hB, resOf]
  | false =>
    have : ¬ 0 ≤ j := fun h => by rw [hj.1 h] at hB; cases hB
    simp [resOf]; omega
set_option maxHeartbeats 8000000 in
theorem right78_eq (L : List (List Nd)) (hL : L.length ≤ 9223372036854775806) (hb : ∀ l ∈ L, l.length ≤ 9223372036854775806) (hr : ∀ l ∈ L, ∀ n ∈ l, n.inR) : cl 22 [.list 1 (ndsL L)] [] = some (.ret (.bool (!badL L)), []) := by
  have hc : ∀ d st, callV G cl d (.fn (.func 40) [] []) [.list 1 (ndsL L), .fn (.func 41) [] []] st = some (.val (.bool (badL L)) st) := fun d st => callV_ret E40 (by decide) ext40 rfl rfl (contains104_eq L hL hb hr) rfl
  refine fn_intro Try.func22 rfl (by simp) (by decide) rfl ?_
  simp [Try.f22, hc]
  exact end_is (.inr rfl) (by first | rfl | (simp; rfl)) rfl rfl
end Go.Proofs.Ytcgkneolohcdeaa


/- What the functions come to: the writer's bytes. -/
namespace Go.Proofs.Ytcgkneolohcdeaa
open Go Abs
set_option linter.unusedSimpArgs false
set_option linter.unusedVariables false

def bysL (l : List UInt8) : List AV := l.map bV
@[simp] theorem bysL_length {l : List UInt8} : (bysL l).length = l.length := by simp [bysL]
/-- The nodes that a writer has, if any. -/
def ndo : Option (List Nd) → AV
  | some l => nds l
  | none => .nils
@[simp] theorem ndo_rv {hp o} : (ndo o).rv hp = ndo o := by cases o <;> rfl
@[simp] theorem ndo_names {o} : (ndo o).names = [] := by cases o <;> rfl
@[simp] theorem ndo_rows {o} : (ndo o).rows = [] := by cases o <;> rfl
@[simp] theorem ndo_cells {o} : (ndo o).cells = [ndo o] := by cases o <;> rfl
@[simp] theorem ndo_okc {o} : okCell (ndo o) = true := by cases o <;> rfl
@[simp] theorem ndo_kno {o} : (ndo o).known = true := by cases o <;> rfl
@[simp] theorem ndo_isA {o} : (ndo o).isA = false := by cases o <;> rfl
@[simp] theorem ndo_pur {o} : (ndo o).pureB = true := by cases o; rfl; exact nds_pur
@[simp] theorem ndo_ren {m o} : (ndo o).ren m = ndo o := by cases o <;> rfl
@[simp] theorem ndo_kill {n o} : (ndo o).kill n = ndo o := by cases o <;> rfl
attribute [local simp] canonK canonAll canonSlot canonCell canonBox ownStep restrictTo pureCells pureRows reachL AObj.names List.range_succ appendA
@[simp] theorem intsL_len {L : List Nat} : (intsL L).length = L.length := by simp [intsL]
/-- A text's bytes, without its kind. -/
def txtB : List UInt8 → List UInt8
  | [] => [0, 0]
  | b :: r => if b = 0 then b :: 255 :: txtB r else b :: txtB r
def txt0 : List UInt8 → List UInt8
  | [] => []
  | b :: r => if b = 0 then b :: 255 :: txt0 r else b :: txt0 r
theorem txtB_eq (s : List UInt8) : txtB s = txt0 s ++ [0, 0] := by
  induction s with
  | nil => rfl
  | cons b r ih => simp only [txtB, txt0]; split <;> simp [ih]
end Go.Proofs.Ytcgkneolohcdeaa


/- What the functions come to: numbers as bytes. -/
namespace Go.Proofs.Ytcgkneolohcdeaa
open Go Abs
set_option linter.unusedSimpArgs false
set_option linter.unusedVariables false

def lowB (n : Int) (i : Nat) : UInt8 := UInt8.ofNat (IntKind.u8.wrap (n.fdiv (2 ^ (8 * i)))).toNat
def lows (n : Int) (i : Nat) : List UInt8 := (List.range i).map (lowB n)
@[simp] theorem lows_length {n : Int} {i : Nat} : (lows n i).length = i := by simp [lows]
def bigB (n : Int) : List UInt8 := [lowB n 7, lowB n 6, lowB n 5, lowB n 4, lowB n 3, lowB n 2, lowB n 1, lowB n 0]
attribute [local simp] canonK canonAll canonSlot canonCell canonBox ownStep restrictTo pureCells pureRows reachL AObj.names List.range_succ appendA
@[simp] theorem bysL_nil : bysL [] = [] := rfl
@[simp] theorem bysL_at {es : List UInt8} {i : Nat} {h : i < (bysL es).length} : (bysL es)[i] = .int .u8 ((es[i]'(by simpa using h)).toNat : Int) := by simp [bysL, bV]
end Go.Proofs.Ytcgkneolohcdeaa


/- What the functions come to: the writer's plain values. -/
namespace Go.Proofs.Ytcgkneolohcdeaa
open Go Abs
set_option linter.unusedSimpArgs false
set_option linter.unusedVariables false
attribute [local simp] canonK canonAll canonSlot canonCell canonBox ownStep restrictTo pureCells pureRows reachL AObj.names List.range_succ appendA
def u8B (n : Int) : UInt8 := UInt8.ofNat (IntKind.u8.wrap n).toNat
/-- A number's bytes. -/
def numB (n : Int) : List UInt8 := bigB (wXor .u64 (IntKind.u64.wrap n) 9223372036854775808)
end Go.Proofs.Ytcgkneolohcdeaa


/- What the functions come to: the writer's lists and maps. -/
namespace Go.Proofs.Ytcgkneolohcdeaa
open Go Abs
set_option linter.unusedSimpArgs false
set_option linter.unusedVariables false
attribute [local simp] canonK canonAll canonSlot canonCell canonBox ownStep restrictTo pureCells pureRows reachL AObj.names List.range_succ appendA
def key1 (l : List Nd) (q : Nat) : List UInt8 := ((l[q - 1]?).map (·.text)).getD []
/-- What some places have, one behind the other. -/
def allB (f : Nat → List UInt8) (kids : List Nat) : List UInt8 := (kids.map f).flatten
/-- A member's bytes: its key, and its value. -/
def memB (l : List Nd) (f : Nat → List UInt8) (q : Nat) : List UInt8 := 1 :: txtB (key1 l q) ++ f q
end Go.Proofs.Ytcgkneolohcdeaa


/- What the functions come to: the writer's values. -/
namespace Go.Proofs.Ytcgkneolohcdeaa
open Go Abs
set_option linter.unusedSimpArgs false
set_option linter.unusedVariables false
attribute [local simp] canonK canonAll canonSlot canonCell canonBox ownStep restrictTo pureCells pureRows reachL AObj.names List.range_succ appendA
def spanK (l : List Nd) (a : Nat) : List Nat := ((valS l (l.length + 1) a).map (·.kids)).getD []
/-- A value's bytes. -/
def valB (l : List Nd) : Nat → Nat → List UInt8
  | 0, _ => []
  | k + 1, a => match l[a]? with
    | none => []
    | some n => u8B (n.kind + 1) :: (if n.kind = 1 then [u8B n.num] else if n.kind = 2 then numB n.num else if n.kind = 3 then txtB n.text
        else if n.kind = 4 then allB (valB l k) (spanK l a) ++ [0] else if n.kind = 5 then allB (memB l (valB l k)) (spanK l a) ++ [0] else [])
theorem kids_at {l : List Nd} (hr : ∀ n ∈ l, n.inR) (hc : checkS l = 0) {a : Nat} (ha : a < l.length) {d : Option Nat} {st : ASt} : callV G cl d (.fn (.func 62) [] []) [nds l, .int .i64 a] st = some (.val (.list 1 (intsL (spanK l a))) st) := by
  obtain ⟨s, h2, h3, h4⟩ := checkS_inner hc ha
  obtain ⟨h5, _, _⟩ := checkS_ok hc
  rw [kids_call (by omega) hr]
  have : kidsAt l a = some (spanK l a) := by simp [kidsAt, spanK, thereS, hc, ha, h2]
  rw [this]; rfl
theorem kidsS_ge {val : Nat → Option Span} {l : List Nd} {b : Bool} {m : Nat} (hv : ∀ st s, val st = some s → st < s.stop) : ∀ {c i s last r}, kidsS val l b c i s last = some r → m ≤ s.stop → (∀ q ∈ s.kids, m ≤ q) → ∀ q ∈ r.kids, m ≤ q := by
  intro c
  induction c with
  | zero => intro i s last r hr h1 h2; cases hr; exact h2
  | succ c ih =>
    intro i s last r hr h1 h2
    simp only [kidsS] at hr
    rw [Option.bind_eq_some_iff] at hr; obtain ⟨p, hp, hr⟩ := hr
    rw [Option.bind_eq_some_iff] at hr; obtain ⟨kid, hk, hr⟩ := hr
    have hge := keyS_ge hp
    have hlt := hv _ _ hk
    refine ih hr (by simp only; omega) (fun q hq => ?_)
    rcases List.mem_append.1 hq with h | h
    · exact h2 q h
    · obtain rfl : q = p.1 := by simpa using h
      omega
theorem spanK_ok {l : List Nd} (hc : checkS l = 0) {a : Nat} (ha : a < l.length) : (spanK l a).length ≤ 1000 ∧ ∀ q ∈ spanK l a, a < q ∧ q < l.length ∧ q ≤ 1000 := by
  obtain ⟨s, h2, h3, h4⟩ := checkS_inner hc ha
  obtain ⟨h5, _, _⟩ := checkS_ok hc
  have e : spanK l a = s.kids := by simp [spanK, h2]
  rw [e]
  have hg := valS_goodK (by omega) h2
  refine ⟨hg.1, fun q hq => ?_⟩
  have h6 := kidsS_lt h2 hq
  obtain ⟨n, r, hn, hf, hr, rfl⟩ := valS_map h2
  have := kidsS_ge (m := a + 1) (fun st s hs => (valS_spec hs).1) hr (Nat.le_refl _) (by simp) q hq
  exact ⟨by omega, h6, by omega⟩
theorem fits_kind {n : Nd} (h : fitsS n = true) : n.kind = 0 ∨ n.kind = 1 ∨ n.kind = 2 ∨ n.kind = 3 ∨ n.kind = 4 ∨ n.kind = 5 := by
  unfold fitsS at h
  repeat' split at h
  all_goals first | (simp at h; done) | omega
theorem text_len {l : List Nd} (hc : checkS l = 0) {n : Nd} (hn : n ∈ l) : n.text.length ≤ 120 := by
  obtain ⟨_, h, _⟩ := checkS_ok hc
  unfold longS at h
  rw [List.any_eq_false] at h
  have := h n hn
  simpa using this
/-- What the function that goes by the kind writes. -/
def bodyB (l : List Nd) (f : Nat → List UInt8) (a : Nat) (n : Nd) : List UInt8 :=
  if n.kind = 1 then [u8B n.num] else if n.kind = 2 then numB n.num else if n.kind = 3 then txtB n.text
        else if n.kind = 4 then allB f (spanK l a) ++ [0] else if n.kind = 5 then allB (memB l f) (spanK l a) ++ [0] else []
theorem valB_succ {l : List Nd} {k a : Nat} {n : Nd} (hn : l[a]? = some n) : valB l (k + 1) a = u8B (n.kind + 1) :: bodyB l (valB l k) a n := by simp only [valB, hn, bodyB]
end Go.Proofs.Ytcgkneolohcdeaa


/- What the functions come to: code.Put, code.Join. -/
namespace Go.Proofs.Ytcgkneolohcdeaa
open Go Abs
set_option linter.unusedSimpArgs false
set_option linter.unusedVariables false
attribute [local simp] canonK canonAll canonSlot canonCell canonBox ownStep restrictTo pureCells pureRows reachL AObj.names List.range_succ appendA
/-- A value's bytes, if it is one. -/
def putB (l : List Nd) : List UInt8 := valB l (l.length + 1) 0
@[simp] theorem strsL_len {t : List (List UInt8)} : (strsL t).length = t.length := by simp [strsL]
end Go.Proofs.Ytcgkneolohcdeaa


/- What the functions come to: the document's bytes. -/
namespace Go.Proofs.Ytcgkneolohcdeaa
open Go Abs
set_option linter.unusedSimpArgs false
set_option linter.unusedVariables false
attribute [local simp] canonK canonAll canonSlot canonCell canonBox ownStep restrictTo pureCells pureRows reachL AObj.names List.range_succ appendA
theorem u64w (n : Int) : IntKind.u64.wrap n = n % 18446744073709551616 := by simp [IntKind.wrap, IntKind.bits, IntKind.signed]
theorem u8w (n : Int) : IntKind.u8.wrap n = n % 256 := by simp [IntKind.wrap, IntKind.bits, IntKind.signed]
/-! Numbers -/
def lowR (n : Int) (i : Nat) : UInt8 := u8B ((n / 256 ^ i) % 256)
theorem lowR_eq {n : Int} (h0 : 0 ≤ n) (i : Nat) : lowR n i = lowB n i := by
  unfold lowR lowB u8B
  have e : n.fdiv (2 ^ (8 * i)) = n / 256 ^ i := by
    rw [Int.fdiv_eq_ediv_of_nonneg _ (Int.pow_nonneg (by omega)), Int.pow_mul]; rfl
  rw [e, u8w, u8w, Int.emod_emod_of_dvd _ (by omega)]
theorem nat_xor_sign (k : Nat) (h : k < 18446744073709551616) : k ^^^ 9223372036854775808 = (k + 9223372036854775808) % 18446744073709551616 := by
  have h1 : (k ^^^ 9223372036854775808) / 2 ^ 63 = k / 2 ^ 63 ^^^ 1 := by rw [Nat.xor_div_two_pow]
  have h2 : (k ^^^ 9223372036854775808) % 2 ^ 63 = k % 2 ^ 63 := by rw [Nat.xor_mod_two_pow]; simp
  rw [show (2 : Nat) ^ 63 = 9223372036854775808 from rfl] at h1 h2
  have h3 : k / 9223372036854775808 = 0 ∨ k / 9223372036854775808 = 1 := by omega
  rcases h3 with h3 | h3
  · rw [h3, show (0 : Nat) ^^^ 1 = 1 from rfl] at h1
    omega
  · rw [h3, show (1 : Nat) ^^^ 1 = 0 from rfl] at h1
    omega
theorem xor_sign (n : Int) (h0 : 0 ≤ n) (h1 : n < 18446744073709551616) : wXor .u64 n 9223372036854775808 = IntKind.u64.wrap (n + 9223372036854775808) := by
  obtain ⟨k, rfl⟩ : ∃ k : Nat, n = k := ⟨n.toNat, by omega⟩
  have e : wXor .u64 (k : Int) 9223372036854775808 = IntKind.u64.wrap ((BitVec.ofNat 64 k ^^^ BitVec.ofNat 64 9223372036854775808).toNat : Nat) := rfl
  rw [e, BitVec.toNat_xor, BitVec.toNat_ofNat, BitVec.toNat_ofNat, u64w, u64w]
  rw [Nat.mod_eq_of_lt (show k < 2 ^ 64 by omega), show 9223372036854775808 % 2 ^ 64 = 9223372036854775808 from rfl, nat_xor_sign k (by omega)]
  omega
end Go.Proofs.Ytcgkneolohcdeaa


/- What the functions come to: the document's value as bytes. -/
namespace Go.Proofs.Ytcgkneolohcdeaa
open Go Abs
set_option linter.unusedSimpArgs false
set_option linter.unusedVariables false
attribute [local simp] canonK canonAll canonSlot canonCell canonBox ownStep restrictTo pureCells pureRows reachL AObj.names List.range_succ appendA
@[simp] theorem intsL_ix {L : List Nat} {i : Nat} {h : i < (intsL L).length} : (intsL L)[i] = .int .i64 ((L[i]'(by simpa using h) : Nat) : Int) := by simp [intsL]
@[simp] theorem intsL_bq {l : List Nat} : AV.beqL (intsL l) (intsL l) = true := beqL_self (plainBL_map (fun _ => rfl) l)
end Go.Proofs.Ytcgkneolohcdeaa


/- What the functions come to: the document's Put, Join. -/
namespace Go.Proofs.Ytcgkneolohcdeaa
open Go Abs
set_option linter.unusedSimpArgs false
set_option linter.unusedVariables false
attribute [local simp] canonK canonAll canonSlot canonCell canonBox ownStep restrictTo pureCells pureRows reachL AObj.names List.range_succ appendA
theorem checkS_pos {l : List Nd} (hc : checkS l = 0) : 0 < l.length := by
  obtain ⟨_, _, s, h3, _⟩ := checkS_ok hc
  obtain ⟨h5, h6⟩ := wholeS_some h3
  have := valS_spec h5; omega
@[simp] theorem strsL_ix {K : List (List UInt8)} {i : Nat} {h : i < (strsL K).length} : (strsL K)[i] = .str (K[i]'(by simpa [strsL] using h)) := by simp [strsL]
@[simp] theorem strsL_bq {l : List (List UInt8)} : AV.beqL (strsL l) (strsL l) = true := beqL_self (plainBL_map (fun _ => rfl) l)
end Go.Proofs.Ytcgkneolohcdeaa


/- What the functions come to: the parts of a value. -/
namespace Go.Proofs.Ytcgkneolohcdeaa
open Go Abs
set_option linter.unusedSimpArgs false
set_option linter.unusedVariables false
attribute [local simp] canonK canonAll canonSlot canonCell canonBox ownStep restrictTo pureCells pureRows reachL AObj.names List.range_succ appendA
/-- The kid at a place. -/
def kidL (l : List Nd) (q : Nat) : List Nd := (subS l (q : Int)).getD []
def keyN (t : List UInt8) : Nd := ⟨3, 0, t, 0⟩
def partAt (l : List Nd) (q : Nat) : List (List Nd) := if mapAt l 0 then [[keyN (key1 l q)], kidL l q] else [kidL l q]
def partsS (l : List Nd) : List (List Nd) := ((spanK l 0).map (partAt l)).flatten
theorem kidL_call {l : List Nd} (hr : ∀ n ∈ l, n.inR) (hc : checkS l = 0) {q : Nat} (hq : q < l.length) (d : Option Nat) (st : ASt) : callV G cl d (.fn (.func 63) [] []) [nds l, .int .i64 (q : Int)] st = some (.val (nds (kidL l q)) st) := by
  obtain ⟨s, h2, h3, h4⟩ := checkS_inner hc hq
  have := sub_at hr hc (Nat.le_refl _) h2
  unfold kidL
  rw [this]
  exact sub_at_call hr hc (Nat.le_refl _) h2 d st
def st111 (l : List Nd) (keys : AV) (kids : List Nat) (parts : List (List Nd)) (mv : Bool) (i : Nat) : ASt :=
  ⟨[(0, nds l), (3, .own 5003), (4, keys), (10, .list 1 (intsL kids)), (11, .int .i64 kids.length), (12, .int .i64 i)], [(5003, .row 1 (ndsL parts) false ⟨mv, 53⟩)]⟩
set_option maxHeartbeats 8000000 in
theorem parts_list (l : List Nd) (kids : List Nat) (hkl : kids.length ≤ 1000) (parts : List (List Nd)) (hp : parts.length ≤ 3000) (mv : Bool) (i q : Nat) (hi : kids[i]? = some q) (k : List Nd) (hk : ∀ d st, callV G cl d (.fn (.func 63) [] []) [nds l, .int .i64 (q : Int)] st = some (.val (nds k) st)) :
    rX 47 (lc Try.f47 0) (codeX G cl lp 47 (lc Try.f47 0) (st111 l .nils kids parts mv i)) = some (.normal, st111 l .nils kids (parts ++ [k]) true (i + 1)) := by
  have hlt : i < kids.length := (List.getElem?_eq_some_iff.1 hi).1
  have e : kids[i] = q := (List.getElem?_eq_some_iff.1 hi).2
  have hw1 : IntKind.i64.wrap ((i : Int) + 1) = ((i + 1 : Nat) : Int) := by rw [i64_wrap (by omega) (by omega)]; omega
  have hL : parts.length + 1 ≤ LIM := by unfold LIM; omega
  have hn : ¬ (i : Int) < 0 := by omega
  simp only [nds] at hk
  simp [lc, loopsOf, Try.f47, st111, hlt, e, hw1, hL, hn, nds, hk, ndsL]
  done
set_option maxHeartbeats 8000000 in
theorem parts_map (l : List Nd) (K : List (List UInt8)) (kids : List Nat) (hK : K.length = kids.length) (hkl : kids.length ≤ 1000) (parts : List (List Nd)) (hp : parts.length ≤ 3000) (mv : Bool) (i q : Nat) (t : List UInt8) (hi : kids[i]? = some q) (ht : K[i]? = some t) (k : List Nd) (hk : ∀ d st, callV G cl d (.fn (.func 63) [] []) [nds l, .int .i64 (q : Int)] st = some (.val (nds k) st)) :
    rX 47 (lc Try.f47 0) (codeX G cl lp 47 (lc Try.f47 0) (st111 l (.list 1 (strsL K)) kids parts mv i)) = some (.normal, st111 l (.list 1 (strsL K)) kids (parts ++ [[keyN t], k]) true (i + 1)) := by
  have hlt : i < kids.length := (List.getElem?_eq_some_iff.1 hi).1
  have e : kids[i] = q := (List.getElem?_eq_some_iff.1 hi).2
  have hlt2 : i < K.length := (List.getElem?_eq_some_iff.1 ht).1
  have e2 : K[i] = t := (List.getElem?_eq_some_iff.1 ht).2
  have hw1 : IntKind.i64.wrap ((i : Int) + 1) = ((i + 1 : Nat) : Int) := by rw [i64_wrap (by omega) (by omega)]; omega
  have hL : parts.length + 1 ≤ LIM := by unfold LIM; omega
  have hL2 : parts.length + 1 + 1 ≤ LIM := by unfold LIM; omega
  simp only [nds] at hk
  simp [lc, loopsOf, Try.f47, st111, hlt, hlt2, e, e2, hw1, hL, hL2, nds, hk, ndsL]
  rfl
theorem parts_exit (l : List Nd) (keys : AV) (hkeys : (∃ K, keys = .list 1 (strsL K)) ∨ keys = .nils) (kids : List Nat) (parts : List (List Nd)) (mv : Bool) :
    rX 47 (lc Try.f47 0) (codeX G cl lp 47 (lc Try.f47 0) (st111 l keys kids parts mv kids.length)) = some (.exit 0, ⟨(st111 l keys kids parts mv kids.length).sl ++ [(13, .bool false)], (st111 l keys kids parts mv kids.length).hp⟩) := by
  rcases hkeys with ⟨K, rfl⟩ | rfl <;> simp [lc, loopsOf, Try.f47, st111, nds]
def flatP (f : Nat → List (List Nd)) (kids : List Nat) : List (List Nd) := (kids.map f).flatten
theorem flatP_take {f : Nat → List (List Nd)} {kids : List Nat} {i q : Nat} (h : kids[i]? = some q) : flatP f (kids.take (i + 1)) = flatP f (kids.take i) ++ f q := by
  unfold flatP
  rw [List.take_add_one, h]; simp
theorem flatP_len {f : Nat → List (List Nd)} (hf : ∀ q, (f q).length ≤ 2) : ∀ kids : List Nat, (flatP f kids).length ≤ 2 * kids.length := by
  intro kids
  induction kids with
  | nil => simp [flatP]
  | cons q t ih =>
    have := hf q
    simp only [flatP, List.map_cons, List.flatten_cons, List.length_append, List.length_cons] at ih ⊢
    omega
theorem partAt_len (l : List Nd) (q : Nat) : (partAt l q).length ≤ 2 := by unfold partAt; split <;> simp
theorem parts_loop (l : List Nd) (keys : AV) (hkeys : (∃ K, keys = .list 1 (strsL K)) ∨ keys = .nils) (kids : List Nat) (hk : kids.length ≤ 1000)
    (hround : ∀ i q parts mv, kids[i]? = some q → parts.length ≤ 3000 → rX 47 (lc Try.f47 0) (codeX G cl lp 47 (lc Try.f47 0) (st111 l keys kids parts mv i)) = some (.normal, st111 l keys kids (parts ++ partAt l q) true (i + 1))) :
    ∀ (c i : Nat) (mv : Bool), i + c = kids.length → ∃ mv' sl, lp 47 (lc Try.f47 0) (st111 l keys kids (flatP (partAt l) (kids.take i)) mv i) = some (.exit 0, ⟨(0, nds l) :: (3, .own 5003) :: sl, [(5003, .row 1 (ndsL (flatP (partAt l) kids)) false ⟨mv', 53⟩)]⟩) := by
  intro c
  induction c with
  | zero =>
    intro i mv hi
    obtain rfl : i = kids.length := by omega
    rw [List.take_of_length_le (Nat.le_refl _)]
    exact ⟨mv, _, loop_out (parts_exit l keys hkeys kids _ mv) (by simp)⟩
  | succ c ih =>
    intro i mv hi
    have hlt : i < kids.length := by omega
    have hq : kids[i]? = some kids[i] := List.getElem?_eq_getElem hlt
    have hl := flatP_len (partAt_len l) (kids.take i)
    rw [List.length_take] at hl
    have h := hround i _ (flatP (partAt l) (kids.take i)) mv hq (by omega)
    rw [← flatP_take hq] at h
    obtain ⟨mv', sl, hx⟩ := ih (i + 1) true (by omega)
    exact ⟨mv', sl, loop_next h hx⟩
theorem textsS_at {l : List Nd} {kids : List Nat} {i q : Nat} (h : kids[i]? = some q) : (textsS l kids)[i]? = some (key1 l q) := by simp [textsS, h, key1]
set_option maxHeartbeats 8000000 in
theorem parts_eq (l : List Nd) (hr : ∀ n ∈ l, n.inR) (hc : checkS l = 0) : cl 47 [nds l] [] = some (.ret (.list 1 (ndsL (partsS l))), []) := by
  have hpos := checkS_pos hc
  obtain ⟨h5, _, _⟩ := checkS_ok hc
  obtain ⟨g1, g2⟩ := spanK_ok hc hpos
  have h28 := fun d st => keys_call (l := l) (by omega) hr (a := 0) (d := d) (st := st)
  have h25 := fun d st => kids_at hr hc hpos (d := d) (st := st)
  simp only [Int.natCast_zero] at h25
  have hkid := fun q (hq : q ∈ spanK l 0) => kidL_call hr hc (g2 q hq).2.1
  have hkeys : keysAt l 0 = if mapAt l 0 then textsS l (spanK l 0) else [] := by
    have : thereS l 0 = true := by simp [thereS, hc, hpos]
    unfold keysAt spanK
    rw [this]; simp
  refine fn_intro Try.func47 rfl (by simp) (by decide) rfl ?_
  cases hm : mapAt l 0 with
  | false =>
    rw [hm] at hkeys
    have hlp := parts_loop l .nils (.inr rfl) (spanK l 0) g1 (fun i q parts mv hi hp => by
      have e : partAt l q = [kidL l q] := by unfold partAt; rw [hm]; rfl
      rw [e]
      exact parts_list l (spanK l 0) g1 parts hp mv i q hi _ (hkid q (List.mem_of_getElem? hi))) (spanK l 0).length 0 false (by omega)
    obtain ⟨mv', sl, hlp⟩ := hlp
    rw [show flatP (partAt l) ((spanK l 0).take 0) = [] from rfl] at hlp
    have e0 : strsV (keysAt l 0) = .nils := by rw [hkeys]; rfl
    simp only [e0] at h28
    simp [st111, lc, loopsOf, Try.f47, nds, ndsL] at hlp
    simp only [nds] at h28 h25
    simp [Try.f47, nds, h28, h25, hlp]
    exact end_rv (.inr rfl) (by first | rfl | (simp; rfl)) (by simp) rfl rfl
  | true =>
    rw [hm] at hkeys
    by_cases hk0 : spanK l 0 = []
    · have hlp := parts_loop l .nils (.inr rfl) (spanK l 0) g1 (fun i q parts mv hi hp => by rw [hk0] at hi; simp at hi) (spanK l 0).length 0 false (by omega)
      obtain ⟨mv', sl, hlp⟩ := hlp
      rw [show flatP (partAt l) ((spanK l 0).take 0) = [] from rfl] at hlp
      have e0 : strsV (keysAt l 0) = .nils := by rw [hkeys, hk0]; rfl
      simp only [e0] at h28
      simp [st111, lc, loopsOf, Try.f47, nds, ndsL] at hlp
      simp only [nds] at h28 h25
      simp [Try.f47, nds, h28, h25, hlp]
      exact end_rv (.inr rfl) (by first | rfl | (simp; rfl)) (by simp) rfl rfl
    · have hlen : (textsS l (spanK l 0)).length = (spanK l 0).length := by simp [textsS]
      have hlp := parts_loop l (.list 1 (strsL (textsS l (spanK l 0)))) (.inl ⟨_, rfl⟩) (spanK l 0) g1 (fun i q parts mv hi hp => by
        have e : partAt l q = [[keyN (key1 l q)], kidL l q] := by unfold partAt; rw [hm]; rfl
        rw [e]
        exact parts_map l _ (spanK l 0) hlen g1 parts hp mv i q _ hi (textsS_at hi) _ (hkid q (List.mem_of_getElem? hi))) (spanK l 0).length 0 false (by omega)
      obtain ⟨mv', sl, hlp⟩ := hlp
      rw [show flatP (partAt l) ((spanK l 0).take 0) = [] from rfl] at hlp
      have e0 : strsV (keysAt l 0) = .list 1 (strsL (textsS l (spanK l 0))) := by
        rw [hkeys]; simp only [if_true, strsV]; rw [if_neg]; intro h; apply hk0; simpa [textsS] using h
      simp only [e0] at h28
      simp [st111, lc, loopsOf, Try.f47, nds, ndsL] at hlp
      simp only [nds] at h28 h25
      simp [Try.f47, nds, h28, h25, hlp]
      exact end_rv (.inr rfl) (by first | rfl | (simp; rfl)) (by simp) rfl rfl
theorem parts_call {l : List Nd} (hr : ∀ n ∈ l, n.inR) (hc : checkS l = 0) {d : Option Nat} {st : ASt} : callV G cl d (.fn (.func 47) [] []) [nds l] st = some (.val (.list 1 (ndsL (partsS l))) st) :=
  callV_ret E47 (by decide) ext47 rfl rfl (parts_eq l hr hc) rfl
/-- Which of two lists is ahead. -/
def listC (c : List Nd → List Nd → Int) : List (List Nd) → List (List Nd) → Int
  | [], [] => 0
  | [], _ :: _ => -1
  | _ :: _, [] => 1
  | x :: xs, y :: ys => if c x y = 0 then listC c xs ys else c x y
def st110 (A B : List (List Nd)) (i : Nat) : ASt := ⟨[(0, .list 1 (ndsL A)), (1, .list 1 (ndsL B)), (2, .fn (.func 23) [] []), (11, .list 1 (ndsL A)), (12, .int .i64 A.length), (13, .int .i64 i)], []⟩
set_option maxHeartbeats 8000000 in
theorem cmpl_short (A B : List (List Nd)) (i : Nat) (hi : i < A.length) (hB : B.length ≤ i) : rX 46 (lc Try.f46 0) (codeX G cl lp 46 (lc Try.f46 0) (st110 A B i)) = some (.ret, ⟨[(6, .int .i64 1)], []⟩) := by
  have h2 : (B.length : Int) ≤ i := by omega
  simp [lc, loopsOf, Try.f46, st110, hi, hB, h2, nds]
  done
set_option maxHeartbeats 8000000 in
theorem cmpl_step (A B : List (List Nd)) (hA : A.length ≤ 3000) (i : Nat) (x y : List Nd) (hx : A[i]? = some x) (hy : B[i]? = some y) (c : Int) (hc : ∀ d st, callV G cl d (.fn (.func 23) [] []) [nds x, nds y] st = some (.val (.int .i64 c) st)) :
    rX 46 (lc Try.f46 0) (codeX G cl lp 46 (lc Try.f46 0) (st110 A B i)) = if c = 0 then some (.normal, st110 A B (i + 1)) else some (.ret, ⟨[(6, .int .i64 c)], []⟩) := by
  have h1 := (List.getElem?_eq_some_iff.1 hx).1
  have e1 := (List.getElem?_eq_some_iff.1 hx).2
  have h2 := (List.getElem?_eq_some_iff.1 hy).1
  have e2 := (List.getElem?_eq_some_iff.1 hy).2
  have h3 : ¬ B.length ≤ i := by omega
  have h3' : ¬ (B.length : Int) ≤ i := by omega
  have hw1 : IntKind.i64.wrap ((i : Int) + 1) = ((i + 1 : Nat) : Int) := by rw [i64_wrap (by omega) (by omega)]; omega
  simp only [nds] at hc
  by_cases h0 : c = 0
  · rw [if_pos h0]
    simp [lc, loopsOf, Try.f46, st110, h1, h2, e1, e2, h3, h3', nds, hc, h0, hw1]
    done
  · rw [if_neg h0]
    simp [lc, loopsOf, Try.f46, st110, h1, h2, e1, e2, h3, h3', nds, hc, h0, hw1]
    done
set_option maxHeartbeats 8000000 in
theorem cmpl_exit (A B : List (List Nd)) : rX 46 (lc Try.f46 0) (codeX G cl lp 46 (lc Try.f46 0) (st110 A B A.length)) = some (.exit 0, ⟨(st110 A B A.length).sl ++ [(14, .bool false)], []⟩) := by
  simp [lc, loopsOf, Try.f46, st110]
  done
theorem cmpl_loop (A B : List (List Nd)) (hA : A.length ≤ 3000) (c : List Nd → List Nd → Int) (hc : ∀ x ∈ A, ∀ y ∈ B, ∀ d st, callV G cl d (.fn (.func 23) [] []) [nds x, nds y] st = some (.val (.int .i64 (c x y)) st)) : ∀ (k i : Nat), i + k = A.length →
    lp 46 (lc Try.f46 0) (st110 A B i) = some (.ret, ⟨[(6, .int .i64 (listC c (A.drop i) (B.drop i)))], []⟩) ∨
    (lp 46 (lc Try.f46 0) (st110 A B i) = some (.exit 0, ⟨(st110 A B A.length).sl ++ [(14, .bool false)], []⟩) ∧ listC c (A.drop i) (B.drop i) = if A.length < B.length then -1 else 0) := by
  intro k
  induction k with
  | zero =>
    intro i hi
    obtain rfl : i = A.length := by omega
    right
    refine ⟨loop_out (cmpl_exit A B) (by simp), ?_⟩
    rw [List.drop_of_length_le (Nat.le_refl _)]
    by_cases h : A.length < B.length
    · rw [if_pos h, List.drop_eq_getElem_cons h]; rfl
    · rw [if_neg h, List.drop_of_length_le (by omega)]; rfl
  | succ k ih =>
    intro i hi
    have hlt : i < A.length := by omega
    have hx : A[i]? = some A[i] := List.getElem?_eq_getElem hlt
    by_cases hB : i < B.length
    · have hy : B[i]? = some B[i] := List.getElem?_eq_getElem hB
      have h := cmpl_step A B hA i _ _ hx hy _ (hc _ (List.getElem_mem hlt) _ (List.getElem_mem hB))
      rw [List.drop_eq_getElem_cons hlt, List.drop_eq_getElem_cons hB]
      simp only [listC]
      by_cases h0 : c A[i] B[i] = 0
      · rw [if_pos h0] at h ⊢
        rcases ih (i + 1) (by omega) with h1 | ⟨h1, h2⟩
        · exact .inl (loop_next h h1)
        · exact .inr ⟨loop_next h h1, h2⟩
      · rw [if_neg h0] at h ⊢
        exact .inl (loop_out h (by simp))
    · left
      rw [List.drop_eq_getElem_cons hlt, List.drop_of_length_le (by omega : B.length ≤ i)]
      exact loop_out (cmpl_short A B i hlt (by omega)) (by simp)
set_option maxHeartbeats 8000000 in
theorem compareFunc_eq (A B : List (List Nd)) (hA : A.length ≤ 3000) (c : List Nd → List Nd → Int) (hc : ∀ x ∈ A, ∀ y ∈ B, ∀ d st, callV G cl d (.fn (.func 23) [] []) [nds x, nds y] st = some (.val (.int .i64 (c x y)) st)) :
    cl 46 [.list 1 (ndsL A), .list 1 (ndsL B), .fn (.func 23) [] []] [] = some (.ret (.int .i64 (listC c A B)), []) := by
  refine fn_intro Try.func46 rfl (by simp) (by decide) rfl ?_
  have := cmpl_loop A B hA c hc A.length 0 (by omega)
  rw [List.drop_zero, List.drop_zero] at this
  rcases this with h | ⟨h, h2⟩
  · simp [st110, lc, loopsOf, Try.f46] at h
    simp [Try.f46, h]
    exact end_is (.inr rfl) (by first | rfl | (simp; rfl)) rfl rfl
  · simp [st110, lc, loopsOf, Try.f46] at h
    rw [h2]
    by_cases hlt : A.length < B.length
    · have hlt' : (A.length : Int) < B.length := by omega
      rw [if_pos hlt]
      simp [Try.f46, h, hlt]
      exact end_is (.inr rfl) (by first | rfl | (simp; rfl)) rfl rfl
    · have hlt' : ¬ (A.length : Int) < B.length := by omega
      rw [if_neg hlt]
      simp [Try.f46, h, hlt]
      exact end_is (.inr rfl) (by first | rfl | (simp; rfl)) rfl rfl
theorem compareFunc_call {A B : List (List Nd)} (hA : A.length ≤ 3000) {c : List Nd → List Nd → Int} (hc : ∀ x ∈ A, ∀ y ∈ B, ∀ d st, callV G cl d (.fn (.func 23) [] []) [nds x, nds y] st = some (.val (.int .i64 (c x y)) st)) {d : Option Nat} {st : ASt} :
    callV G cl d (.fn (.func 46) [] []) [.list 1 (ndsL A), .list 1 (ndsL B), .fn (.func 23) [] []] st = some (.val (.int .i64 (listC c A B)) st) :=
  callV_ret E46 (by decide) ext46 rfl rfl (compareFunc_eq A B hA c hc) rfl
def headS (x y : Nd) : Int := orI (ordI x.kind y.kind) (ordI x.num y.num) (ordT x.text y.text)
/-- Which of two values is ahead. -/
def cmpS : Nat → List Nd → List Nd → Int
  | 0, _, _ => 0
  | k + 1, a, b => match a[0]?, b[0]? with
    | some x, some y => if headS x y ≠ 0 ∨ x.kind < 4 then headS x y else listC (cmpS k) (partsS a) (partsS b)
    | _, _ => 0
theorem or106_call {d : Option Nat} {st : ASt} {x y z : Int} : callV G cl d (.fn (.func 42) [] []) [.list 1 [.int .i64 x, .int .i64 y, .int .i64 z]] st = some (.val (.int .i64 (orI x y z)) st) := callV_ret E42 (by decide) ext42 rfl rfl (or106 x y z) rfl
@[simp] theorem bsv3 {p q r : Int} : bsvV G 47 3 [0, 1, 2] [.int .i64 p, .int .i64 q, .int .i64 r] = some (.list 1 [.int .i64 p, .int .i64 q, .int .i64 r]) := by kernel_rfl
set_option maxHeartbeats 16000000 in
theorem compare_step (a b : List Nd) (ra : ∀ n ∈ a, n.inR) (rb : ∀ n ∈ b, n.inR) (ca : checkS a = 0) (cb : checkS b = 0) (x y : Nd) (hx : a[0]? = some x) (hy : b[0]? = some y) (c : List Nd → List Nd → Int) (hA : (partsS a).length ≤ 3000)
    (hc : headS x y = 0 → ∀ x ∈ partsS a, ∀ y ∈ partsS b, ∀ d st, callV G cl d (.fn (.func 23) [] []) [nds x, nds y] st = some (.val (.int .i64 (c x y)) st)) :
    cl 23 [nds a, nds b] [] = some (.ret (.int .i64 (if headS x y ≠ 0 ∨ x.kind < 4 then headS x y else listC c (partsS a) (partsS b))), []) := by
  have h1 := (List.getElem?_eq_some_iff.1 hx).1
  have e1 := (List.getElem?_eq_some_iff.1 hx).2
  have h2 := (List.getElem?_eq_some_iff.1 hy).1
  have e2 := (List.getElem?_eq_some_iff.1 hy).2
  have pa := fun d st => parts_call ra ca (d := d) (st := st)
  have pb := fun d st => parts_call rb cb (d := d) (st := st)
  simp only [nds] at pa pb
  refine fn_intro Try.func23 rfl (by simp) (by decide) rfl ?_
  by_cases hn : headS x y = 0
  case neg =>
    rw [if_pos (.inl hn)]
    unfold headS at hn ⊢
    simp [Try.f23, nds, h1, h2, e1, e2, hx, hy, Nd.v, cmp107_call, cmp108_call, cmp109_call, or106_call, hn]
    exact end_is (.inr rfl) (by first | rfl | (simp; rfl)) rfl rfl
  have h110 := fun d st => compareFunc_call hA (hc hn) (d := d) (st := st)
  by_cases hk : x.kind < 4
  · rw [if_pos (.inr hk)]
    unfold headS at hn ⊢
    simp [Try.f23, nds, h1, h2, e1, e2, hx, hy, Nd.v, cmp107_call, cmp108_call, cmp109_call, or106_call, hn, hk]
    exact end_is (.inr rfl) (by first | rfl | (simp; rfl)) rfl rfl
  · rw [if_neg (by simp [hn, hk])]
    unfold headS at hn
    simp [Try.f23, nds, h1, h2, e1, e2, hx, hy, Nd.v, cmp107_call, cmp108_call, cmp109_call, or106_call, hn, hk, pa, pb, h110]
    exact end_is (.inr rfl) (by first | rfl | (simp; rfl)) rfl rfl
theorem keyN_check {t : List UInt8} (ht : t.length ≤ 120) : checkS [keyN t] = 0 := by
  have h1 : longS [keyN t] = false := by simp [longS, keyN]; omega
  have h2 : wholeS [keyN t] = some ⟨1, 1, []⟩ := by
    simp [wholeS, valS, keyN, fitsS, kidsS]
  unfold checkS
  rw [h1, h2]
  simp
theorem mem_partsS {l : List Nd} {x : List Nd} (h : x ∈ partsS l) : ∃ q ∈ spanK l 0, (mapAt l 0 = true ∧ x = [keyN (key1 l q)]) ∨ x = kidL l q := by
  unfold partsS at h
  rw [List.mem_flatten] at h
  obtain ⟨p, hp, hx⟩ := h
  obtain ⟨q, hq, rfl⟩ := List.mem_map.1 hp
  refine ⟨q, hq, ?_⟩
  unfold partAt at hx
  split at hx
  · rename_i hm
    rcases List.mem_cons.1 hx with h | h
    · exact .inl ⟨hm, h⟩
    · exact .inr (by simpa using h)
  · exact .inr (by simpa using hx)
theorem kidL_eq {l : List Nd} (hr : ∀ n ∈ l, n.inR) (hc : checkS l = 0) {q : Nat} (hq : q < l.length) : ∃ s, valS l (l.length + 1) q = some s ∧ kidL l q = cutS l q s.stop ∧ s.stop ≤ l.length ∧ s.deep ≤ 32 := by
  obtain ⟨s, h2, h3, h4⟩ := checkS_inner hc hq
  exact ⟨s, h2, by unfold kidL; rw [sub_at hr hc (Nat.le_refl _) h2]; rfl, h3, h4⟩
theorem part_ok {l : List Nd} (hr : ∀ n ∈ l, n.inR) (hc : checkS l = 0) {x : List Nd} (h : x ∈ partsS l) : checkS x = 0 ∧ (∀ n ∈ x, n.inR) ∧ x.length < l.length := by
  have hpos := checkS_pos hc
  obtain ⟨q, hq, h⟩ := mem_partsS h
  obtain ⟨q1, q2, q3⟩ := (spanK_ok hc hpos).2 q hq
  rcases h with ⟨hm, rfl⟩ | rfl
  · have hk : l[q - 1]? = some l[q - 1] := List.getElem?_eq_getElem (by omega)
    have ht := text_len hc (List.getElem_mem (show q - 1 < l.length by omega))
    refine ⟨keyN_check (by simp [key1, hk]; exact ht), fun n hn => ?_, by simp; omega⟩
    obtain rfl : n = keyN (key1 l q) := by simpa using hn
    exact ⟨by simp [keyN], by simp [keyN], by simp [keyN], by simp [keyN]⟩
  · obtain ⟨s, h2, h3, h4, h5⟩ := kidL_eq hr hc q2
    rw [h3]
    refine ⟨cutS_check h2 hc h5, fun n hn => hr n ?_, ?_⟩
    · unfold cutS at hn
      exact List.mem_of_mem_take (List.mem_of_mem_drop hn)
    · unfold cutS
      rw [List.length_drop, List.length_take]; omega
theorem partsS_len {l : List Nd} (hc : checkS l = 0) : (partsS l).length ≤ 2000 := by
  have h1 := flatP_len (partAt_len l) (spanK l 0)
  have h2 := (spanK_ok hc (checkS_pos hc)).1
  unfold flatP at h1
  unfold partsS
  omega
theorem compare_eq : ∀ (k : Nat) (a b : List Nd), a.length ≤ k → (∀ n ∈ a, n.inR) → (∀ n ∈ b, n.inR) → checkS a = 0 → checkS b = 0 → cl 23 [nds a, nds b] [] = some (.ret (.int .i64 (cmpS k a b)), []) := by
  intro k
  induction k with
  | zero => intro a b h _ _ ca _; have := checkS_pos ca; omega
  | succ k ih =>
    intro a b h ra rb ca cb
    have ha := checkS_pos ca
    have hb := checkS_pos cb
    have hx : a[0]? = some a[0] := List.getElem?_eq_getElem ha
    have hy : b[0]? = some b[0] := List.getElem?_eq_getElem hb
    have := compare_step a b ra rb ca cb _ _ hx hy (cmpS k) (by have := partsS_len ca; omega) (fun _ x hx y hy d st => by
      obtain ⟨x1, x2, x3⟩ := part_ok ra ca hx
      obtain ⟨y1, y2, y3⟩ := part_ok rb cb hy
      exact callV_ret E23 (by decide) ext23 rfl rfl (ih x y (by omega) x2 y2 x1 y1) rfl)
    rw [this]
    simp only [cmpS, hx, hy]
/-- Which of any two is ahead. -/
def orderS (a b : List Nd) : Int := if checkS a = 0 ∧ checkS b = 0 then cmpS a.length a b else 0
set_option maxHeartbeats 8000000 in
theorem order_eq (a b : List Nd) (ha : a.length ≤ 9223372036854775806) (hb : b.length ≤ 9223372036854775806) (ra : ∀ n ∈ a, n.inR) (rb : ∀ n ∈ b, n.inR) : cl 9 [nds a, nds b] [] = some (.ret (.int .i64 (orderS a b)), []) := by
  have h78 : ∀ d sl, callV G cl d (.fn (.func 22) [] []) [.own 1007] ⟨sl, [(1007, .row 1 [nds a, nds b] false ⟨false, 22⟩)]⟩ = some (.val (.bool (!badL [a, b])) (ASt.fix ⟨sl, [(1007, .row 1 [nds a, nds b] false ⟨false, 22⟩)]⟩ [1007])) := fun d sl =>
    callV_rv (pre := [.list 1 (ndsL [a, b])]) E22 (by decide) ext22 rfl rfl rfl rfl (right78_eq [a, b] (by simp) (by simp; exact ⟨ha, hb⟩) (by simp; exact ⟨ra, rb⟩)) rfl
  have hbad : badL [a, b] = !decide (checkS a = 0 ∧ checkS b = 0) := by
    by_cases h1 : checkS a = 0 <;> by_cases h2 : checkS b = 0 <;> simp [badL, h1, h2]
  rw [hbad] at h78
  refine fn_intro Try.func9 rfl (by simp) (by decide) rfl ?_
  unfold orderS
  by_cases hc : checkS a = 0 ∧ checkS b = 0
  · rw [if_pos hc]
    have h79 : ∀ d st, callV G cl d (.fn (.func 23) [] []) [nds a, nds b] st = some (.val (.int .i64 (cmpS a.length a b)) st) := fun d st => callV_ret E23 (by decide) ext23 rfl rfl (compare_eq a.length a b (Nat.le_refl _) ra rb hc.1 hc.2) rfl
    simp only [decide_eq_true hc, Bool.not_true, Bool.not_false] at h78
    simp only [nds] at h78 h79
    simp [Try.f9, nds, h78, h79]
    exact end_is (.inr rfl) (by first | rfl | (simp; rfl)) rfl rfl
  · rw [if_neg hc]
    simp only [decide_eq_false hc, Bool.not_false, Bool.not_true] at h78
    simp only [nds] at h78
    simp [Try.f9, nds, h78]
    exact end_is (.inr rfl) (by first | rfl | (simp; rfl)) rfl rfl
theorem order_call {a b : List Nd} (ha : a.length ≤ 9223372036854775806) (hb : b.length ≤ 9223372036854775806) (ra : ∀ n ∈ a, n.inR) (rb : ∀ n ∈ b, n.inR) {d : Option Nat} {st : ASt} : callV G cl d (.fn (.func 9) [] []) [nds a, nds b] st = some (.val (.int .i64 (orderS a b)) st) :=
  callV_ret E9 (by decide) ext9 rfl rfl (order_eq a b ha hb ra rb) rfl
end Go.Proofs.Ytcgkneolohcdeaa


/- Bytes stand in the order of values: plain laws. -/
namespace Go.Proofs.Ytcgkneolohcdeaa
open Go Abs
set_option linter.unusedSimpArgs false
set_option linter.unusedVariables false
theorem ordT_nil : ordT [] [] = 0 := rfl
theorem ordT_cons (b c : UInt8) (s u : List UInt8) : ordT (b :: s) (c :: u) = if b = c then ordT s u else if b < c then -1 else 1 := by
  unfold ordT
  by_cases h : b = c
  · subst h
    rw [if_pos rfl]
    have e : ltB (b :: s) (b :: u) = ltB s u := by simp [ltB]
    rw [e]
    by_cases h2 : s = u
    · subst h2; simp
    · have : ¬ (b :: s = b :: u) := fun h => h2 (List.cons.inj h).2
      rw [if_neg h2, if_neg this]
  · rw [if_neg h]
    have h2 : ¬ (b :: s = c :: u) := fun e => h (List.cons.inj e).1
    by_cases hlt : b < c
    · have : ltB (b :: s) (c :: u) = true := by simp [ltB, hlt]
      rw [if_pos this, if_pos hlt]
    · have : ¬ ltB (b :: s) (c :: u) = true := by simp [ltB, hlt, h]
      rw [if_neg this, if_neg h2, if_neg hlt]
theorem ordT_same (p s u : List UInt8) : ordT (p ++ s) (p ++ u) = ordT s u := by
  induction p with
  | nil => rfl
  | cons b p ih => rw [List.cons_append, List.cons_append, ordT_cons, if_pos rfl, ih]
/-- One byte that stands for a small number. -/
theorem u8B_lt {m n : Int} (hm : 0 ≤ m ∧ m < 256) (hn : 0 ≤ n ∧ n < 256) : (u8B m = u8B n ↔ m = n) ∧ (u8B m < u8B n ↔ m < n) := by
  have e : ∀ k : Int, 0 ≤ k ∧ k < 256 → ((u8B k).toNat : Int) = k := by
    intro k hk
    unfold u8B
    rw [show IntKind.u8.wrap k = k from by rw [u8w]; omega]
    exact toNat_ofNat hk.1 hk.2
  have e1 := e m hm
  have e2 := e n hn
  constructor
  · rw [← UInt8.toNat_inj]; omega
  · rw [UInt8.lt_iff_toNat_lt]; omega
theorem ordT_byte {m n : Int} (hm : 0 ≤ m ∧ m < 256) (hn : 0 ≤ n ∧ n < 256) (s u : List UInt8) : ordT (u8B m :: s) (u8B n :: u) = if ordI m n = 0 then ordT s u else ordI m n := by
  obtain ⟨h1, h2⟩ := u8B_lt hm hn
  rw [ordT_cons]
  unfold ordI
  by_cases e : m = n
  · subst e; simp
  · have : ¬ u8B m = u8B n := fun h => e (h1.1 h)
    rw [if_neg this]
    by_cases hlt : m < n
    · rw [if_pos (h2.2 hlt), if_pos hlt]; simp
    · have h3 : n < m := by omega
      rw [if_neg (fun h => hlt (h2.1 h))]
      simp [hlt, h3]
/-- A text's bytes stand in the order of texts; none begins another one. -/
theorem ordT_txt : ∀ (s t x y : List UInt8), ordT (txtB s ++ x) (txtB t ++ y) = if ordT s t = 0 then ordT x y else ordT s t := by
  intro s
  induction s with
  | nil =>
    intro t x y
    cases t with
    | nil => rw [ordT_nil, if_pos rfl, ordT_same]
    | cons c t =>
      have e : ordT [] (c :: t) = -1 := rfl
      rw [e, if_neg (by decide)]
      simp only [txtB]
      by_cases hc : c = 0
      · subst hc
        simp only [if_true, List.cons_append, ordT_cons]
        rw [if_neg (by decide), if_pos (by decide)]
      · rw [if_neg hc]
        simp only [List.cons_append, ordT_cons]
        rw [if_neg (fun h => hc h.symm), if_pos (by
          rw [UInt8.lt_iff_toNat_lt]
          have : c.toNat ≠ 0 := fun h => hc (by rw [← UInt8.toNat_inj]; exact h)
          show (0 : UInt8).toNat < c.toNat
          have : (0 : UInt8).toNat = 0 := rfl
          omega)]
  | cons b s ih =>
    intro t x y
    cases t with
    | nil =>
      have e : ordT (b :: s) [] = 1 := rfl
      rw [e, if_neg (by decide)]
      simp only [txtB]
      by_cases hb : b = 0
      · subst hb
        simp only [if_true, List.cons_append, ordT_cons]
        rw [if_neg (by decide), if_neg (by decide)]
      · rw [if_neg hb]
        simp only [List.cons_append, ordT_cons]
        rw [if_neg hb, if_neg (by
          rw [UInt8.lt_iff_toNat_lt]
          have : (0 : UInt8).toNat = 0 := rfl
          omega)]
    | cons c t =>
      rw [ordT_cons]
      have ih := ih t x y
      by_cases hbc : b = c
      · subst hbc
        rw [if_pos rfl]
        simp only [txtB]
        by_cases hb : b = 0
        · subst hb
          simp only [if_true, List.cons_append, ordT_cons]
          exact ih
        · rw [if_neg hb, if_neg hb]
          simp only [List.cons_append, ordT_cons, if_true]
          exact ih
      · rw [if_neg hbc]
        have hne : (if b < c then (-1 : Int) else 1) ≠ 0 := by split <;> decide
        rw [if_neg hne]
        have key : ∀ (p q : List UInt8), ordT (b :: p) (c :: q) = if b < c then -1 else 1 := fun p q => by rw [ordT_cons, if_neg hbc]
        simp only [txtB]
        by_cases hb : b = 0 <;> by_cases hc : c = 0
        · exact absurd (hb.trans hc.symm) hbc
        · rw [if_pos hb, if_neg hc]; simp only [List.cons_append]; exact key _ _
        · rw [if_neg hb, if_pos hc]; simp only [List.cons_append]; exact key _ _
        · rw [if_neg hb, if_neg hc]; simp only [List.cons_append]; exact key _ _
/-! Numbers -/
theorem ordI_shift (m n c : Int) : ordI (m + c) (n + c) = ordI m n := by
  unfold ordI
  have h1 : (m + c < n + c) ↔ m < n := by omega
  have h2 : (n + c < m + c) ↔ n < m := by omega
  simp only [h1, h2]
/-- The bytes of a number below 2^(8k), the highest one first. -/
def bytesN (n : Int) : Nat → List UInt8
  | 0 => []
  | k + 1 => lowR n k :: bytesN n k
theorem ordT_bytes (m n : Int) (hm : 0 ≤ m) (hn : 0 ≤ n) : ∀ (k : Nat) (x y : List UInt8), ordT (bytesN m k ++ x) (bytesN n k ++ y) = if ordI (m % 256 ^ k) (n % 256 ^ k) = 0 then ordT x y else ordI (m % 256 ^ k) (n % 256 ^ k) := by
  intro k
  induction k with
  | zero =>
    intro x y
    have e : ordI (m % 256 ^ 0) (n % 256 ^ 0) = 0 := by
      rw [Int.pow_zero, Int.emod_one, Int.emod_one]; rfl
    rw [e, if_pos rfl]; rfl
  | succ k ih =>
    intro x y
    have hp : (0 : Int) < 256 ^ k := Int.pow_pos (by decide)
    simp only [bytesN, List.cons_append, lowR]
    have r1 : 0 ≤ m / 256 ^ k % 256 ∧ m / 256 ^ k % 256 < 256 := ⟨Int.emod_nonneg _ (by decide), Int.emod_lt_of_pos _ (by decide)⟩
    have r2 : 0 ≤ n / 256 ^ k % 256 ∧ n / 256 ^ k % 256 < 256 := ⟨Int.emod_nonneg _ (by decide), Int.emod_lt_of_pos _ (by decide)⟩
    rw [ordT_byte r1 r2, ih x y]
    have split : ∀ z : Int, z % 256 ^ (k + 1) = (z / 256 ^ k % 256) * 256 ^ k + z % 256 ^ k := by
      intro z
      have h1 := Int.emod_add_mul_ediv z (256 ^ k)
      have h2 := Int.emod_add_mul_ediv (z / 256 ^ k) 256
      have h3 : z / 256 ^ (k + 1) = z / 256 ^ k / 256 := by rw [Int.pow_succ, Int.ediv_ediv_of_nonneg (by omega)]
      have h4 := Int.emod_add_mul_ediv z (256 ^ (k + 1))
      rw [h3, Int.pow_succ] at h4
      generalize z / 256 ^ k / 256 = q at *
      generalize z / 256 ^ k % 256 = r at *
      rw [← h2] at h1
      rw [Int.mul_add, ← Int.mul_assoc] at h1
      rw [Int.pow_succ]
      have : r * 256 ^ k = 256 ^ k * r := Int.mul_comm _ _
      omega
    have s1 := split m
    have s2 := split n
    have l1 : 0 ≤ m % 256 ^ k ∧ m % 256 ^ k < 256 ^ k := ⟨Int.emod_nonneg _ (by omega), Int.emod_lt_of_pos _ hp⟩
    have l2 : 0 ≤ n % 256 ^ k ∧ n % 256 ^ k < 256 ^ k := ⟨Int.emod_nonneg _ (by omega), Int.emod_lt_of_pos _ hp⟩
    rw [s1, s2]
    generalize m / 256 ^ k % 256 = a at *
    generalize n / 256 ^ k % 256 = b at *
    generalize m % 256 ^ k = c at *
    generalize n % 256 ^ k = d at *
    generalize (256 : Int) ^ k = P at *
    by_cases hab : a = b
    · subst hab
      have e0 : ordI a a = 0 := by unfold ordI; simp
      have e1 : ordI (a * P + c) (a * P + d) = ordI c d := by
        have := ordI_shift c d (a * P)
        rw [Int.add_comm c, Int.add_comm d] at this; exact this
      rw [e0, if_pos rfl, e1]
    · rcases Int.lt_or_gt_of_ne hab with h | h
      · have h5 : (a + 1) * P ≤ b * P := Int.mul_le_mul_of_nonneg_right (by omega) (by omega)
        rw [Int.add_mul, Int.one_mul] at h5
        have e1 : ordI a b = -1 := by unfold ordI; rw [if_pos h]
        have e2 : ordI (a * P + c) (b * P + d) = -1 := by unfold ordI; rw [if_pos (by omega)]
        rw [e1, e2, if_neg (by decide), if_neg (by decide)]
      · have h5 : (b + 1) * P ≤ a * P := Int.mul_le_mul_of_nonneg_right (by omega) (by omega)
        rw [Int.add_mul, Int.one_mul] at h5
        have e1 : ordI a b = 1 := by unfold ordI; rw [if_neg (by omega), if_pos h]
        have e2 : ordI (a * P + c) (b * P + d) = 1 := by unfold ordI; rw [if_neg (by omega), if_pos (by omega)]
        rw [e1, e2, if_neg (by decide), if_neg (by decide)]
theorem bytesN_eq {n : Int} (h0 : 0 ≤ n) : bytesN n 8 = bigB n := by
  simp only [bytesN, lowR_eq h0, bigB]
/-- A number's bytes stand in the order of numbers. -/
theorem ordT_num {m n : Int} (hm : -9223372036854775808 ≤ m ∧ m ≤ 9223372036854775807) (hn : -9223372036854775808 ≤ n ∧ n ≤ 9223372036854775807) (x y : List UInt8) : ordT (numB m ++ x) (numB n ++ y) = if ordI m n = 0 then ordT x y else ordI m n := by
  have sh : ∀ k : Int, -9223372036854775808 ≤ k ∧ k ≤ 9223372036854775807 → wXor .u64 (IntKind.u64.wrap k) 9223372036854775808 = k + 9223372036854775808 := by
    intro k hk
    have h1 : 0 ≤ IntKind.u64.wrap k ∧ IntKind.u64.wrap k < 18446744073709551616 := by rw [u64w]; omega
    rw [xor_sign _ h1.1 h1.2, u64w, u64w]
    omega
  unfold numB
  rw [sh m hm, sh n hn, ← bytesN_eq (show (0 : Int) ≤ m + 9223372036854775808 by omega), ← bytesN_eq (show (0 : Int) ≤ n + 9223372036854775808 by omega), ordT_bytes _ _ (by omega) (by omega)]
  have e : (256 : Int) ^ 8 = 18446744073709551616 := by decide
  rw [e, Int.emod_eq_of_lt (by omega) (by omega), Int.emod_eq_of_lt (by omega) (by omega), ordI_shift]
end Go.Proofs.Ytcgkneolohcdeaa


/- Bytes stand in the order of values: the same bytes elsewhere; lists of bytes. -/
namespace Go.Proofs.Ytcgkneolohcdeaa
open Go Abs
set_option linter.unusedSimpArgs false
set_option linter.unusedVariables false
theorem cutS_at {l : List Nd} {q e i : Nat} (h : q + i < e) : (cutS l q e)[i]? = l[q + i]? := by
  unfold cutS
  rw [List.getElem?_drop, List.getElem?_take, if_pos h]
theorem cutS_len {l : List Nd} {q e : Nat} (h : e ≤ l.length) : (cutS l q e).length = e - q := by
  unfold cutS; rw [List.length_drop, List.length_take]; omega
theorem kidsS_stop {val : Nat → Option Span} {l : List Nd} {b : Bool} (hv : ∀ st s, val st = some s → st < s.stop) : ∀ {c i s last r}, kidsS val l b c i s last = some r → (∀ q ∈ s.kids, q < s.stop) → s.stop ≤ r.stop ∧ ∀ q ∈ r.kids, q < r.stop := by
  intro c
  induction c with
  | zero => intro i s last r hr h2; cases hr; exact ⟨Nat.le_refl _, h2⟩
  | succ c ih =>
    intro i s last r hr h2
    simp only [kidsS] at hr
    rw [Option.bind_eq_some_iff] at hr; obtain ⟨p, hp, hr⟩ := hr
    rw [Option.bind_eq_some_iff] at hr; obtain ⟨kid, hk, hr⟩ := hr
    have hge := keyS_ge hp
    have hlt := hv _ _ hk
    obtain ⟨h3, h4⟩ := ih hr (fun q hq => by
      simp only
      rcases List.mem_append.1 hq with h | h
      · have := h2 q h; omega
      · obtain rfl : q = p.1 := by simpa using h
        omega)
    exact ⟨by simp only at h3; omega, h4⟩
theorem kidsS_below {l : List Nd} {k a : Nat} {s : Span} (h : valS l k a = some s) : ∀ x ∈ s.kids, x < s.stop := by
  cases k with
  | zero => cases h
  | succ k =>
    obtain ⟨n, r, hn, hf, hr, rfl⟩ := valS_map h
    exact (kidsS_stop (fun st s hs => (valS_spec hs).1) hr (by simp)).2
theorem spanK_moved {l : List Nd} (hc : checkS l = 0) {q : Nat} {s : Span} (hs : valS l (l.length + 1) q = some s) (hd : s.deep ≤ 32) {i : Nat} (hi : q + i < s.stop) :
    spanK (cutS l q s.stop) i = (spanK l (q + i)).map (· - q) ∧ ∀ x ∈ spanK l (q + i), q + i < x ∧ x < s.stop := by
  have hsp := valS_spec hs
  obtain ⟨sp, h1, h2, h3⟩ := valS_inner (a := q + i) hs (by omega) hi
  have hcc := cutS_check hs hc hd
  have hlen := cutS_len (l := l) (q := q) hsp.2.1
  obtain ⟨s2, g1, g2, g3⟩ := checkS_inner hcc (a := i) (by omega)
  have hm := valS_moved (l' := cutS l q s.stop) (b := i) (n := s.stop - (q + i)) (fun j hj => by
    rw [cutS_at (by omega)]; congr 1; omega) h1 (by omega)
  have hm2 := valS_mono g1 (show (cutS l q s.stop).length + 1 ≤ l.length + 1 by omega)
  rw [hm] at hm2
  have e : sp.at_ (q + i) i = s2 := Option.some.inj hm2
  have k1 : spanK l (q + i) = sp.kids := by simp [spanK, h1]
  have k2 : spanK (cutS l q s.stop) i = s2.kids := by simp [spanK, g1]
  have lt : ∀ x ∈ sp.kids, q + i < x ∧ x < s.stop := by
    intro x hx
    have hlt := valS_spec h1
    have g := (spanK_ok hc (show q + i < l.length by omega)).2 x (by rw [k1]; exact hx)
    refine ⟨g.1, ?_⟩
    -- a kid begins before its value's stop
    have := kidsS_below h1 x hx
    omega
  rw [k1, k2, ← e]
  refine ⟨?_, lt⟩
  show sp.kids.map (fun x => i + (x - (q + i))) = sp.kids.map (· - q)
  refine List.map_congr_left fun x hx => ?_
  have := lt x hx
  omega
/-- THE SAME NODES ELSEWHERE have the same bytes. -/
theorem valB_moved {l : List Nd} (hc : checkS l = 0) {q : Nat} {s : Span} (hs : valS l (l.length + 1) q = some s) (hd : s.deep ≤ 32) : ∀ (k k' i : Nat), s.stop - (q + i) ≤ k → l.length - (q + i) ≤ k' → q + i < s.stop → valB (cutS l q s.stop) k i = valB l k' (q + i) := by
  have hsp := valS_spec hs
  intro k
  induction k with
  | zero => intro k' i h1 h2 h3; omega
  | succ k ih =>
    intro k' i h1 h2 h3
    cases k' with
    | zero => omega
    | succ k' =>
      have hn : l[q + i]? = some l[q + i] := List.getElem?_eq_getElem (by omega)
      have hn2 : (cutS l q s.stop)[i]? = some l[q + i] := by rw [cutS_at h3]; exact hn
      obtain ⟨m1, m2⟩ := spanK_moved hc hs hd h3
      rw [valB_succ hn, valB_succ hn2]
      congr 1
      have hv : ∀ x ∈ spanK l (q + i), valB (cutS l q s.stop) k (x - q) = valB l k' x := fun x hx => by
        obtain ⟨x1, x2⟩ := m2 x hx
        have e : q + (x - q) = x := by omega
        have := ih k' (x - q) (by omega) (by omega) (by omega)
        rw [e] at this; exact this
      have hkey : ∀ x ∈ spanK l (q + i), key1 (cutS l q s.stop) (x - q) = key1 l x := fun x hx => by
        obtain ⟨x1, x2⟩ := m2 x hx
        unfold key1
        rw [cutS_at (by omega)]
        congr 3; omega
      have a1 : allB (valB (cutS l q s.stop) k) (spanK (cutS l q s.stop) i) = allB (valB l k') (spanK l (q + i)) := by
        unfold allB
        rw [m1, List.map_map]
        congr 1
        exact List.map_congr_left fun x hx => hv x hx
      have a2 : allB (memB (cutS l q s.stop) (valB (cutS l q s.stop) k)) (spanK (cutS l q s.stop) i) = allB (memB l (valB l k')) (spanK l (q + i)) := by
        unfold allB
        rw [m1, List.map_map]
        congr 1
        refine List.map_congr_left fun x hx => ?_
        show memB (cutS l q s.stop) (valB (cutS l q s.stop) k) (x - q) = memB l (valB l k') x
        simp only [memB, hkey x hx, hv x hx]
      simp only [bodyB, a1, a2]
/-- A kid's bytes are its own. -/
theorem valB_kid {l : List Nd} (hr : ∀ n ∈ l, n.inR) (hc : checkS l = 0) {q k : Nat} (hq : q < l.length) (hk : l.length - q ≤ k) : valB l k q = putB (kidL l q) := by
  obtain ⟨s, h2, h3, h4, h5⟩ := kidL_eq hr hc hq
  have hsp := valS_spec h2
  rw [h3]
  unfold putB
  have := valB_moved hc h2 h5 ((cutS l q s.stop).length + 1) k 0 (by rw [cutS_len h4]; omega) (by omega) (by omega)
  rw [this]; rfl
theorem putB_some {l : List Nd} {n : Nd} (hn : l[0]? = some n) : putB l = u8B (n.kind + 1) :: bodyB l (valB l l.length) 0 n := valB_succ hn
/-! Lists of bytes -/
theorem listC_app {c : List Nd → List Nd → Int} : ∀ (A B A' B' : List (List Nd)), A.length = B.length → listC c (A ++ A') (B ++ B') = if listC c A B = 0 then listC c A' B' else listC c A B := by
  intro A
  induction A with
  | nil => intro B A' B' h; cases B with
    | nil => simp [listC]
    | cons _ _ => simp at h
  | cons a A ih => intro B A' B' h; cases B with
    | nil => simp at h
    | cons b B =>
      have e1 : listC c (a :: A ++ A') (b :: B ++ B') = if c a b = 0 then listC c (A ++ A') (B ++ B') else c a b := rfl
      have e2 : listC c (a :: A) (b :: B) = if c a b = 0 then listC c A B else c a b := rfl
      by_cases h0 : c a b = 0
      · rw [if_pos h0] at e1 e2
        rw [e1, e2]; exact ih B A' B' (by simpa using h)
      · rw [if_neg h0] at e1 e2
        rw [e1, e2, if_neg h0]
theorem ordT_list {c : List Nd → List Nd → Int} {f1 f2 : Nat → List UInt8} {P1 P2 : Nat → List (List Nd)} (m : Nat) (hm : 0 < m) (x y : List UInt8) : ∀ (K1 K2 : List Nat), (∀ q ∈ K1, (P1 q).length = m ∧ ∃ h r, f1 q = h :: r ∧ h ≠ 0) → (∀ q ∈ K2, (P2 q).length = m ∧ ∃ h r, f2 q = h :: r ∧ h ≠ 0) →
    (∀ q1 ∈ K1, ∀ q2 ∈ K2, ∀ x' y', ordT (f1 q1 ++ x') (f2 q2 ++ y') = if listC c (P1 q1) (P2 q2) = 0 then ordT x' y' else listC c (P1 q1) (P2 q2)) →
    ordT (allB f1 K1 ++ (0 :: x)) (allB f2 K2 ++ (0 :: y)) = if listC c (flatP P1 K1) (flatP P2 K2) = 0 then ordT x y else listC c (flatP P1 K1) (flatP P2 K2) := by
  intro K1
  induction K1 with
  | nil =>
    intro K2 _ h2 _
    cases K2 with
    | nil => simp [allB, flatP, listC, ordT_cons]
    | cons q K2 =>
      obtain ⟨g1, h, r, g2, g3⟩ := h2 q (by simp)
      obtain ⟨p, P, hp⟩ : ∃ p P, P2 q = p :: P := by
        cases hP : P2 q with
        | nil => rw [hP] at g1; simp at g1; omega
        | cons p P => exact ⟨p, P, rfl⟩
      have e : listC c (flatP P1 []) (flatP P2 (q :: K2)) = -1 := by simp [flatP, hp, listC]
      rw [e, if_neg (by decide)]
      simp only [allB, List.map_nil, List.flatten_nil, List.nil_append, List.map_cons, List.flatten_cons, g2, List.cons_append, ordT_cons]
      rw [if_neg (fun e => g3 e.symm), if_pos]
      rw [UInt8.lt_iff_toNat_lt]
      have : h.toNat ≠ 0 := fun e => g3 (by rw [← UInt8.toNat_inj]; exact e)
      have h0 : (0 : UInt8).toNat = 0 := rfl
      omega
  | cons q1 K1 ih =>
    intro K2 h1 h2 h3
    obtain ⟨g1, h, r, g2, g3⟩ := h1 q1 (by simp)
    cases K2 with
    | nil =>
      obtain ⟨p, P, hp⟩ : ∃ p P, P1 q1 = p :: P := by
        cases hP : P1 q1 with
        | nil => rw [hP] at g1; simp at g1; omega
        | cons p P => exact ⟨p, P, rfl⟩
      have e : listC c (flatP P1 (q1 :: K1)) (flatP P2 []) = 1 := by simp [flatP, hp, listC]
      rw [e, if_neg (by decide)]
      simp only [allB, List.map_nil, List.flatten_nil, List.nil_append, List.map_cons, List.flatten_cons, g2, List.cons_append, ordT_cons]
      rw [if_neg g3, if_neg]
      rw [UInt8.lt_iff_toNat_lt]
      have h0 : (0 : UInt8).toNat = 0 := rfl
      omega
    | cons q2 K2 =>
      obtain ⟨k1, _⟩ := h2 q2 (by simp)
      have ihh := ih K2 (fun q hq => h1 q (List.mem_cons_of_mem _ hq)) (fun q hq => h2 q (List.mem_cons_of_mem _ hq)) (fun a ha b hb => h3 a (List.mem_cons_of_mem _ ha) b (List.mem_cons_of_mem _ hb))
      have e1 : allB f1 (q1 :: K1) ++ (0 :: x) = f1 q1 ++ (allB f1 K1 ++ (0 :: x)) := by simp [allB]
      have e2 : allB f2 (q2 :: K2) ++ (0 :: y) = f2 q2 ++ (allB f2 K2 ++ (0 :: y)) := by simp [allB]
      have e3 : flatP P1 (q1 :: K1) = P1 q1 ++ flatP P1 K1 := by simp [flatP]
      have e4 : flatP P2 (q2 :: K2) = P2 q2 ++ flatP P2 K2 := by simp [flatP]
      rw [e1, e2, h3 q1 (by simp) q2 (by simp), ihh, e3, e4, listC_app _ _ _ _ (g1.trans k1.symm)]
      by_cases h0 : listC c (P1 q1) (P2 q2) = 0
      · rw [if_pos h0, if_pos h0]
      · rw [if_neg h0, if_neg h0, if_neg h0]
end Go.Proofs.Ytcgkneolohcdeaa


/- Bytes stand in the order of values. -/
namespace Go.Proofs.Ytcgkneolohcdeaa
open Go Abs
set_option linter.unusedSimpArgs false
set_option linter.unusedVariables false
theorem ordI_self (m : Int) : ordI m m = 0 := by unfold ordI; simp
theorem ordT_self (s : List UInt8) : ordT s s = 0 := by
  induction s with
  | nil => rfl
  | cons b s ih => rw [ordT_cons, if_pos rfl, ih]
theorem ordI_eq {m n : Int} (h : ordI m n = 0) : m = n := by
  unfold ordI at h
  split at h
  · cases h
  · split at h
    · cases h
    · omega
theorem fits_plain0 {n : Nd} (h : fitsS n = true) (hr : n.inR) : (n.kind ≠ 1 → n.kind ≠ 2 → n.num = 0) ∧ (n.kind ≠ 3 → n.text = []) ∧ (n.kind = 1 → n.num = 0 ∨ n.num = 1) := by
  unfold fitsS at h
  split at h
  · rename_i h1
    simp only [Bool.and_eq_true, decide_eq_true_eq] at h
    exact ⟨fun h2 => absurd h1 h2, fun _ => h.1.2, fun _ => (andNot1 hr.1 hr.2.1).1 h.1.1⟩
  rename_i g1
  split at h
  · rename_i h1
    simp only [Bool.and_eq_true, decide_eq_true_eq] at h
    exact ⟨fun _ _ => h.1.1, fun _ => h.1.2, fun e => absurd e g1⟩
  split at h
  · rename_i h1
    simp only [Bool.and_eq_true, decide_eq_true_eq] at h
    exact ⟨fun _ h2 => absurd h1 h2, fun _ => h.1, fun e => absurd e g1⟩
  split at h
  · rename_i h1
    simp only [Bool.and_eq_true, decide_eq_true_eq] at h
    exact ⟨fun _ _ => h.1, fun h3 => absurd h1 h3, fun e => absurd e g1⟩
  split at h
  · simp only [Bool.and_eq_true, decide_eq_true_eq] at h
    exact ⟨fun _ _ => h.1.1, fun _ => h.1.2, fun e => absurd e g1⟩
  · cases h
theorem head_byte (l : List Nd) {k q : Nat} {n : Nd} (hn : l[q]? = some n) (hf : fitsS n = true) (hk : 0 < k) : ∃ h r, valB l k q = h :: r ∧ h ≠ 0 := by
  obtain ⟨k, rfl⟩ : ∃ j, k = j + 1 := ⟨k - 1, by omega⟩
  refine ⟨_, _, valB_succ hn, fun e => ?_⟩
  have h1 : u8B (n.kind + 1) = u8B 0 := e
  have := ((u8B_lt (m := n.kind + 1) (n := 0) (by rcases fits_kind hf with h | h | h | h | h | h <;> rw [h] <;> decide) (by decide)).1).1 h1
  rcases fits_kind hf with h | h | h | h | h | h <;> rw [h] at this <;> cases this
theorem valid_fits {l : List Nd} (hc : checkS l = 0) {q : Nat} (hq : q < l.length) : ∃ n, l[q]? = some n ∧ fitsS n = true := by
  obtain ⟨s, h2, _, _⟩ := checkS_inner hc hq
  obtain ⟨n, r, hn, hf, _, _⟩ := valS_map h2
  exact ⟨n, hn, hf⟩
theorem cmpS_key {k : Nat} (hk : 0 < k) (s t : List UInt8) : cmpS k [keyN s] [keyN t] = ordT s t := by
  obtain ⟨k, rfl⟩ : ∃ j, k = j + 1 := ⟨k - 1, by omega⟩
  have h : headS (keyN s) (keyN t) = ordT s t := by
    unfold headS orI keyN
    simp only [ordI_self]
    simp
  simp only [cmpS, List.getElem?_cons_zero, h]
  rw [if_pos (.inr (by simp [keyN]))]
theorem listC_one {c : List Nd → List Nd → Int} (x y : List Nd) : listC c [x] [y] = c x y := by
  have e : listC c [x] [y] = if c x y = 0 then 0 else c x y := rfl
  rw [e]; split
  · rename_i h; exact h.symm
  · rfl
theorem listC_two {c : List Nd → List Nd → Int} (x y x' y' : List Nd) : listC c [x, x'] [y, y'] = if c x y = 0 then c x' y' else c x y := by
  have e : listC c [x, x'] [y, y'] = if c x y = 0 then listC c [x'] [y'] else c x y := rfl
  rw [e, listC_one]
theorem partsS_flat (l : List Nd) : partsS l = flatP (partAt l) (spanK l 0) := rfl
/-- BYTES STAND IN THE ORDER OF VALUES, whatever is behind them. -/
theorem ordT_val : ∀ (k : Nat) (a b : List Nd), a.length ≤ k → (∀ n ∈ a, n.inR) → (∀ n ∈ b, n.inR) → checkS a = 0 → checkS b = 0 → ∀ x y, ordT (putB a ++ x) (putB b ++ y) = if cmpS k a b = 0 then ordT x y else cmpS k a b := by
  intro k
  induction k with
  | zero => intro a b h _ _ ca _; have := checkS_pos ca; omega
  | succ k ih =>
    intro a b hk ra rb ca cb x y
    have pa := checkS_pos ca
    have pb := checkS_pos cb
    obtain ⟨m, hm, fm⟩ := valid_fits ca pa
    obtain ⟨n, hn, fn⟩ := valid_fits cb pb
    have rm := ra m (List.mem_of_getElem? hm)
    have rn := rb n (List.mem_of_getElem? hn)
    rw [putB_some hm, putB_some hn, List.cons_append, List.cons_append, ordT_byte (by rcases fits_kind fm with h | h | h | h | h | h <;> rw [h] <;> decide) (by rcases fits_kind fn with h | h | h | h | h | h <;> rw [h] <;> decide), ordI_shift]
    have hcmp : cmpS (k + 1) a b = if headS m n ≠ 0 ∨ m.kind < 4 then headS m n else listC (cmpS k) (partsS a) (partsS b) := by simp only [cmpS, hm, hn]
    by_cases hkind : ordI m.kind n.kind = 0
    case neg =>
      have hh : headS m n = ordI m.kind n.kind := by unfold headS orI; rw [if_pos hkind]
      have e : cmpS (k + 1) a b = ordI m.kind n.kind := by rw [hcmp, hh]; exact if_pos (.inl hkind)
      rw [e, if_neg hkind, if_neg hkind]
    rw [if_pos hkind]
    have ek := ordI_eq hkind
    obtain ⟨m1, m2, m3⟩ := fits_plain0 fm rm
    obtain ⟨n1, n2, n3⟩ := fits_plain0 fn rn
    have hh : headS m n = if ordI m.num n.num ≠ 0 then ordI m.num n.num else ordT m.text n.text := by
      unfold headS orI; rw [if_neg (by simp [hkind])]
    have big : 4 ≤ m.kind → headS m n = 0 := fun h => by
      rw [hh, m1 (by omega) (by omega), n1 (by omega) (by omega), m2 (by omega), n2 (by omega), ordI_self, ordT_self]; simp
    have small : m.kind < 4 → cmpS (k + 1) a b = headS m n := fun h => by rw [hcmp, if_pos (.inr h)]
    rcases fits_kind fm with h | h | h | h | h | h
    · rw [small (by omega), hh, m1 (by omega) (by omega), n1 (by omega) (by omega), m2 (by omega), n2 (by omega), ordI_self, ordT_self]
      have e1 : bodyB a (valB a a.length) 0 m = [] := by simp [bodyB, h]
      have e2 : bodyB b (valB b b.length) 0 n = [] := by simp [bodyB, ← ek, h]
      rw [e1, e2]; simp
    · rw [small (by omega), hh, m2 (by omega), n2 (by omega), ordT_self]
      have e1 : bodyB a (valB a a.length) 0 m = [u8B m.num] := by simp [bodyB, h]
      have e2 : bodyB b (valB b b.length) 0 n = [u8B n.num] := by simp [bodyB, ← ek, h]
      rw [e1, e2, List.singleton_append, List.singleton_append, ordT_byte (by have := m3 h; omega) (by have := n3 (by omega); omega)]
      by_cases h0 : ordI m.num n.num = 0 <;> simp [h0]
    · rw [small (by omega), hh, m2 (by omega), n2 (by omega), ordT_self]
      have e1 : bodyB a (valB a a.length) 0 m = numB m.num := by simp [bodyB, h]
      have e2 : bodyB b (valB b b.length) 0 n = numB n.num := by simp [bodyB, ← ek, h]
      rw [e1, e2, ordT_num ⟨rm.1, rm.2.1⟩ ⟨rn.1, rn.2.1⟩]
      by_cases h0 : ordI m.num n.num = 0 <;> simp [h0]
    · rw [small (by omega), hh, m1 (by omega) (by omega), n1 (by omega) (by omega), ordI_self]
      have e1 : bodyB a (valB a a.length) 0 m = txtB m.text := by simp [bodyB, h]
      have e2 : bodyB b (valB b b.length) 0 n = txtB n.text := by simp [bodyB, ← ek, h]
      rw [e1, e2, ordT_txt]; simp
    · have hb := big (by omega)
      have ec : cmpS (k + 1) a b = listC (cmpS k) (partsS a) (partsS b) := by rw [hcmp]; exact if_neg fun hor => hor.elim (fun h0 => h0 hb) (fun h4 => by omega)
      rw [ec]
      have e1 : bodyB a (valB a a.length) 0 m = allB (valB a a.length) (spanK a 0) ++ [0] := by simp [bodyB, h]
      have e2 : bodyB b (valB b b.length) 0 n = allB (valB b b.length) (spanK b 0) ++ [0] := by simp [bodyB, ← ek, h]
      rw [e1, e2, List.append_assoc, List.append_assoc, List.singleton_append, List.singleton_append, partsS_flat, partsS_flat]
      have ma : mapAt a 0 = false := by simp [mapAt, hm, h]
      have mb : mapAt b 0 = false := by simp [mapAt, hn, ← ek, h]
      have qa : ∀ q, partAt a q = [kidL a q] := fun q => by unfold partAt; rw [ma]; rfl
      have qb : ∀ q, partAt b q = [kidL b q] := fun q => by unfold partAt; rw [mb]; rfl
      refine ordT_list (c := cmpS k) (f1 := valB a a.length) (f2 := valB b b.length) (P1 := partAt a) (P2 := partAt b) 1 (by omega) x y (spanK a 0) (spanK b 0) (fun q hq => ⟨by rw [qa]; rfl, ?_⟩) (fun q hq => ⟨by rw [qb]; rfl, ?_⟩) (fun q1 h1 q2 h2 x' y' => ?_)
      · obtain ⟨g1, g2, g3⟩ := (spanK_ok ca pa).2 q hq
        obtain ⟨z, hz, fz⟩ := valid_fits ca g2
        exact head_byte a hz fz pa
      · obtain ⟨g1, g2, g3⟩ := (spanK_ok cb pb).2 q hq
        obtain ⟨z, hz, fz⟩ := valid_fits cb g2
        exact head_byte b hz fz pb
      · obtain ⟨g1, g2, g3⟩ := (spanK_ok ca pa).2 q1 h1
        obtain ⟨j1, j2, j3⟩ := (spanK_ok cb pb).2 q2 h2
        rw [qa, qb, listC_one, valB_kid ra ca g2 (by omega), valB_kid rb cb j2 (by omega)]
        obtain ⟨p1, p2, p3⟩ := part_ok ra ca (x := kidL a q1) (by rw [partsS_flat]; unfold flatP; exact List.mem_flatten.2 ⟨_, List.mem_map_of_mem h1, by rw [qa]; simp⟩)
        obtain ⟨r1, r2, r3⟩ := part_ok rb cb (x := kidL b q2) (by rw [partsS_flat]; unfold flatP; exact List.mem_flatten.2 ⟨_, List.mem_map_of_mem h2, by rw [qb]; simp⟩)
        exact ih _ _ (by omega) p2 r2 p1 r1 x' y'
    · have hb := big (by omega)
      have ec : cmpS (k + 1) a b = listC (cmpS k) (partsS a) (partsS b) := by rw [hcmp]; exact if_neg fun hor => hor.elim (fun h0 => h0 hb) (fun h4 => by omega)
      rw [ec]
      have e1 : bodyB a (valB a a.length) 0 m = allB (memB a (valB a a.length)) (spanK a 0) ++ [0] := by simp [bodyB, h]
      have e2 : bodyB b (valB b b.length) 0 n = allB (memB b (valB b b.length)) (spanK b 0) ++ [0] := by simp [bodyB, ← ek, h]
      rw [e1, e2, List.append_assoc, List.append_assoc, List.singleton_append, List.singleton_append, partsS_flat, partsS_flat]
      have ma : mapAt a 0 = true := by simp [mapAt, hm, h]
      have mb : mapAt b 0 = true := by simp [mapAt, hn, ← ek, h]
      have qa : ∀ q, partAt a q = [[keyN (key1 a q)], kidL a q] := fun q => by unfold partAt; rw [ma]; rfl
      have qb : ∀ q, partAt b q = [[keyN (key1 b q)], kidL b q] := fun q => by unfold partAt; rw [mb]; rfl
      refine ordT_list (c := cmpS k) (f1 := memB a (valB a a.length)) (f2 := memB b (valB b b.length)) (P1 := partAt a) (P2 := partAt b) 2 (by omega) x y (spanK a 0) (spanK b 0) (fun q hq => ⟨by rw [qa]; rfl, 1, _, rfl, by decide⟩) (fun q hq => ⟨by rw [qb]; rfl, 1, _, rfl, by decide⟩) (fun q1 h1 q2 h2 x' y' => ?_)
      obtain ⟨g1, g2, g3⟩ := (spanK_ok ca pa).2 q1 h1
      obtain ⟨j1, j2, j3⟩ := (spanK_ok cb pb).2 q2 h2
      obtain ⟨p1, p2, p3⟩ := part_ok ra ca (x := kidL a q1) (by rw [partsS_flat]; unfold flatP; exact List.mem_flatten.2 ⟨_, List.mem_map_of_mem h1, by rw [qa]; simp⟩)
      obtain ⟨r1, r2, r3⟩ := part_ok rb cb (x := kidL b q2) (by rw [partsS_flat]; unfold flatP; exact List.mem_flatten.2 ⟨_, List.mem_map_of_mem h2, by rw [qb]; simp⟩)
      have pk := checkS_pos p1
      rw [qa, qb, listC_two, cmpS_key (by omega)]
      unfold memB
      rw [List.cons_append, List.cons_append, List.cons_append, List.cons_append, ordT_cons, if_pos rfl, List.append_assoc, List.append_assoc, ordT_txt, valB_kid ra ca g2 (by omega), valB_kid rb cb j2 (by omega), ih _ _ (by omega) p2 r2 p1 r1 x' y']
      by_cases h0 : ordT (key1 a q1) (key1 b q2) = 0
      · rw [if_pos h0, if_pos h0]
      · rw [if_neg h0, if_neg h0, if_neg h0]
theorem putB_order {a b : List Nd} (ra : ∀ n ∈ a, n.inR) (rb : ∀ n ∈ b, n.inR) (ca : checkS a = 0) (cb : checkS b = 0) : ordT (putB a) (putB b) = orderS a b := by
  have := ordT_val a.length a b (Nat.le_refl _) ra rb ca cb [] []
  rw [List.append_nil, List.append_nil] at this
  unfold orderS
  rw [if_pos ⟨ca, cb⟩, this]
  split
  · rename_i h; rw [h]; rfl
  · rfl
end Go.Proofs.Ytcgkneolohcdeaa


/- More equations: indexing, small numbers. -/
namespace Go.Proofs.Ytcgkneolohcdeaa.Abs
open Go Go.RowKit
set_option linter.unusedSimpArgs false
set_option linter.unusedVariables false
def indexT (P : Program) (d : Option TypeDesc) (x : AV) (n : Int) : Option AV :=
  match d, x with
  | some (.array m e), .agg cs => if 0 ≤ n ∧ n < m then partT P e cs (n.toNat * P.cellsOf e) else none
  | some .string, .str s => if 0 ≤ n then (s[n.toNat]?).map fun b => .int .u8 b.toNat else none
  | _, _ => none
@[simp] theorem indexv_T {P t x k n} : indexv P t x (.int k n) = indexT P (P.underlying t) x n := rfl
@[simp] theorem indexT_str {P s n} : indexT P (some .string) (.str s) n = if 0 ≤ n then (s[n.toNat]?).map fun b => .int .u8 b.toNat else none := rfl
@[simp] theorem indexT_agg {P m e cs n} : indexT P (some (.array m e)) (.agg cs) n = if 0 ≤ n ∧ n < m then partT P e cs (n.toNat * P.cellsOf e) else none := rfl
theorem u64_wrap (n : Int) : IntKind.u64.wrap n = n % 18446744073709551616 := by simp [IntKind.wrap, IntKind.bits, IntKind.signed]
theorem u32_wrap (n : Int) : IntKind.u32.wrap n = n % 4294967296 := by simp [IntKind.wrap, IntKind.bits, IntKind.signed]
theorem u8_wrap (n : Int) : IntKind.u8.wrap n = n % 256 := by simp [IntKind.wrap, IntKind.bits, IntKind.signed]
@[simp] theorem wrap_0 : IntKind.i64.wrap 0 = 0 := rfl
@[simp] theorem wrap_1 : IntKind.i64.wrap 1 = 1 := rfl
end Go.Proofs.Ytcgkneolohcdeaa.Abs


/- What the functions come to: keys in order: strings.Compare, slices.SortFunc of few places. -/
namespace Go.Proofs.Ytcgkneolohcdeaa
open Go Abs
set_option linter.unusedSimpArgs false
set_option linter.unusedVariables false

/-! Compare -/
theorem cmp89_eq (a b : List UInt8) : cl 55 [.str a, .str b] [] = some (.ret (.int .i64 (Lib.compareBytes a b)), []) := by
  refine fn_intro Try.func55 rfl (by simp) (by decide) rfl ?_
  have h : ∀ d st, callV G cl d (.fn (.func 83) [] []) [.str a, .str b] st = some (.val (.int .i64 (Lib.compareBytes a b)) st) := fun d st => callV_ext (p := cmpStr) (by kernel_rfl) rfl
  simp [Try.f55, h]
  exact end_is (.inr rfl) (by simp; rfl) rfl rfl
theorem cmp60_eq (a b : List UInt8) : cl 35 [.str a, .str b] [] = some (.ret (.int .i64 (Lib.compareBytes a b)), []) := by
  refine fn_intro Try.func35 rfl (by simp) (by decide) rfl ?_
  have h : ∀ d st, callV G cl d (.fn (.func 55) [] []) [.str a, .str b] st = some (.val (.int .i64 (Lib.compareBytes a b)) st) := fun d st => callV_ret E55 (by decide) ext55 rfl rfl (cmp89_eq a b) rfl
  simp [Try.f35, h]
  exact end_is (.inr rfl) (by simp; rfl) rfl rfl
theorem cmp60_call {a b : List UInt8} {d : Option Nat} {st : ASt} : callV G cl d (.fn (.func 35) [] []) [.str a, .str b] st = some (.val (.int .i64 (Lib.compareBytes a b)) st) :=
  callV_ret E35 (by decide) ext35 rfl rfl (cmp60_eq a b) rfl
theorem compare_lt : ∀ (a b : List UInt8), Lib.compareBytes a b < 0 ↔ ltB a b = true
  | [], [] => by simp [Lib.compareBytes, ltB]
  | [], _ :: _ => by simp [Lib.compareBytes, ltB]
  | _ :: _, [] => by simp [Lib.compareBytes, ltB]
  | a :: x, b :: y => by
    simp only [Lib.compareBytes, ltB]
    by_cases h1 : a < b
    · simp [h1]
    · by_cases h2 : b < a
      · have : ¬ a = b := fun e => by subst e; exact h1 h2
        simp [h1, h2, this]
      · have : a = b := by
          rcases UInt8.lt_or_eq_of_le (UInt8.not_lt.1 h1) with h | h
          · exact absurd h h2
          · exact h.symm
        subst this
        simp [h1, compare_lt x y]

def keyK (K : List (List UInt8)) (a : Nat) : List UInt8 := (K[a]?).getD []
theorem cmp59_eq (K : List (List UInt8)) (a b : Nat) (ha : a < K.length) (hb : b < K.length) : cl 34 [.int .i64 a, .int .i64 b, .ptr 0 0 0] [(0, .box 39 (.list 1 (strsL K)))] = some (.ret (.int .i64 (Lib.compareBytes (keyK K a) (keyK K b))), [(0, .box 39 (.list 1 (strsL K)))]) := by
  have h1 : K[a]? = some K[a] := List.getElem?_eq_getElem ha
  have h2 : K[b]? = some K[b] := List.getElem?_eq_getElem hb
  refine fn_intro Try.func34 rfl (by simp) (by decide) rfl ?_
  simp [Try.f34, strsL, ha, hb, cmp60_call, keyK, h1, h2]
  simp [endX, finishA, outOf, reachL, retA, onlyHeap, idMap, AObj.names]

/-! Sorted by putting each where it belongs -/
def insL (lt : Nat → Nat → Bool) : List Nat → Nat → List Nat
  | [], x => [x]
  | y :: r, x => if lt x y then y :: insL lt r x else x :: y :: r
/-- Those that were sorted stand backwards. -/
def sortR (lt : Nat → Nat → Bool) (l : List Nat) : List Nat := l.foldl (insL lt) []
def ltK (K : List (List UInt8)) (a b : Nat) : Bool := ltB (keyK K a) (keyK K b)

noncomputable def fnK : AV := .fn (.func 34) [] [.ptr 1 0 0]
noncomputable def hpK (K : List (List UInt8)) (L : List Nat) : Heap := [(0, .row 1 (intsL L) false ⟨false, 3⟩), (1, .box 39 (.list 1 (strsL K)))]
noncomputable def σ113i (K : List (List UInt8)) (L : List Nat) (i j : Nat) : ASt := ⟨[(0, .own 0), (1, .int .i64 0), (2, .int .i64 K.length), (3, fnK), (8, .int .i64 i), (9, .int .i64 j)], hpK K L⟩
noncomputable def σ113 (K : List (List UInt8)) (L : List Nat) (i : Nat) : ASt := ⟨[(0, .own 0), (1, .int .i64 0), (2, .int .i64 K.length), (3, fnK), (8, .int .i64 i)], hpK K L⟩
theorem cmp59_call {K : List (List UInt8)} {L : List Nat} {a b : Nat} (ha : a < K.length) (hb : b < K.length) {d : Option Nat} {sl : Slots} : callV G cl d (.fn (.func 34) [] [.ptr 1 0 0]) [.int .i64 a, .int .i64 b] ⟨sl, hpK K L⟩ =
    some (.val (.int .i64 (Lib.compareBytes (keyK K a) (keyK K b))) ⟨sl, (1, .box 39 (.list 1 (strsL K))) :: hpK K L⟩) :=
  callV_of (pre := [.int .i64 a, .int .i64 b, .ptr 1 0 0]) (st1 := ⟨sl, hpK K L⟩) (ns := [1]) E34 (by decide) ext34 rfl rfl (by kernel_rfl) rfl (by exact cmp59_eq K a b ha hb) (by kernel_rfl) rfl

-- What a loop's head is unfolded by, where there is memory.
attribute [local simp] canonK canonAll canonSlot canonCell canonBox ownStep restrictTo pureCells pureRows reachL AObj.names List.range_succ appendA
theorem intsL_get {L : List Nat} {i x : Nat} (h : L[i]? = some x) : (intsL L)[i]? = some (.int .i64 x) := by simp [intsL, h]
@[simp] theorem intsL_length {L : List Nat} : (intsL L).length = L.length := by simp [intsL]
theorem intsL_set {L : List Nat} {i x : Nat} : (intsL L).set i (.int .i64 x) = intsL (L.set i x) := by simp [intsL, List.map_set]
@[simp] theorem intsL_at {L : List Nat} {i : Nat} {h : i < (intsL L).length} : (intsL L)[i] = .int .i64 ((L[i]'(by simpa using h) : Nat) : Int) := by simp [intsL]
noncomputable def hpK' (b : Bool) (K : List (List UInt8)) (L : List Nat) : Heap := if b then (1, .box 39 (.list 1 (strsL K))) :: hpK K L else hpK K L
noncomputable def σ113e (b : Bool) (K : List (List UInt8)) (L : List Nat) (i j : Nat) : ASt := ⟨(σ113i K L i j).sl ++ [(34, .bool false)], hpK' b K L⟩
set_option maxHeartbeats 8000000 in
theorem ins_stop0 (K : List (List UInt8)) (L : List Nat) (i : Nat) : rX 75 (lc Try.f75 1) (codeX G cl lp 75 (lc Try.f75 1) (σ113i K L i 0)) = some (.exit 2, σ113e false K L i 0) := by
  simp [lc, loopsOf, Try.f75, σ113i, hpK, σ113e, hpK']
set_option maxHeartbeats 8000000 in
theorem ins_stop (K : List (List UInt8)) (L : List Nat) (i j x y : Nat) (hK : K.length ≤ 12) (hj : j + 1 < L.length) (hjb : j ≤ 1000) (hx : L[j + 1]? = some x) (hy : L[j]? = some y) (hxk : x < K.length) (hyk : y < K.length) (h : ltK K x y = false) :
    rX 75 (lc Try.f75 1) (codeX G cl lp 75 (lc Try.f75 1) (σ113i K L i (j + 1))) = some (.exit 2, σ113e true K L i (j + 1)) := by
  have hpos : (0 : Int) < ((j + 1 : Nat) : Int) := by omega
  have hw : IntKind.i64.wrap (((j + 1 : Nat) : Int) - 1) = (j : Int) := by rw [i64_wrap (by omega) (by omega)]; omega
  have hlt : ¬ Lib.compareBytes (keyK K x) (keyK K y) < 0 := by rw [compare_lt]; unfold ltK at h; simp [h]
  have hc := fun sl => cmp59_call (K := K) (L := L) hxk hyk (d := some 32) (sl := sl)
  have hl1 : ((j + 1 : Nat) : Int) < L.length := by omega
  have hl0 : (j : Int) < L.length := by omega
  have gx := intsL_get hx
  have gy := intsL_get hy
  have fx := (List.getElem?_eq_some_iff.1 hx).2
  have fy := (List.getElem?_eq_some_iff.1 hy).2
  generalize hq : ((j + 1 : Nat) : Int) = q at *
  have hqn : q.toNat = j + 1 := by omega
  have hq0 : 0 ≤ q := by omega
  simp only [hpK, fnK] at hc
  have hl0' : j < L.length := by omega
  simp [lc, loopsOf, Try.f75, σ113i, hpK, fnK, hpos, hw, hl1, hl0', hqn, hq0, hq, gx, fy, hc, hlt]
  simp [σ113e, σ113i, fnK, hpK', hpK, hq]
set_option maxHeartbeats 8000000 in
theorem ins_swap (K : List (List UInt8)) (L : List Nat) (i j x y : Nat) (hK : K.length ≤ 12) (hj : j + 1 < L.length) (hjb : j ≤ 1000) (hx : L[j + 1]? = some x) (hy : L[j]? = some y) (hxk : x < K.length) (hyk : y < K.length) (h : ltK K x y = true) :
    rX 75 (lc Try.f75 1) (codeX G cl lp 75 (lc Try.f75 1) (σ113i K L i (j + 1))) = some (.normal, σ113i K ((L.set (j + 1) y).set j x) i j) := by
  have hpos : (0 : Int) < ((j + 1 : Nat) : Int) := by omega
  have hw : IntKind.i64.wrap (((j + 1 : Nat) : Int) - 1) = (j : Int) := by rw [i64_wrap (by omega) (by omega)]; omega
  have hlt : Lib.compareBytes (keyK K x) (keyK K y) < 0 := by rw [compare_lt]; exact h
  have hc := fun sl => cmp59_call (K := K) (L := L) hxk hyk (d := some 32) (sl := sl)
  have hl1 : ((j + 1 : Nat) : Int) < L.length := by omega
  have hl0' : j < L.length := by omega
  have gx := intsL_get hx
  have gy := intsL_get hy
  have fx := (List.getElem?_eq_some_iff.1 hx).2
  have fy := (List.getElem?_eq_some_iff.1 hy).2
  generalize hq : ((j + 1 : Nat) : Int) = q at *
  have hqn : q.toNat = j + 1 := by omega
  have hq0 : 0 ≤ q := by omega
  simp only [hpK, fnK] at hc
  simp [lc, loopsOf, Try.f75, σ113i, hpK, fnK, hpos, hw, hl1, hl0', hqn, hq0, hq, gx, fy, hc, hlt, intsL_set]

theorem ins_inner (K : List (List UInt8)) (hK : K.length ≤ 12) (i : Nat) (x : Nat) (hx : x < K.length) : ∀ (rA B : List Nat), (∀ y ∈ rA, y < K.length) → rA.length ≤ 12 →
    ∃ b j, lp 75 (lc Try.f75 1) (σ113i K (rA.reverse ++ x :: B) i rA.length) = some (.exit 2, σ113e b K ((insL (ltK K) rA x).reverse ++ B) i j) := by
  intro rA
  induction rA with
  | nil => intro B _ _; exact ⟨false, 0, loop_out (ins_stop0 K _ i) (by simp)⟩
  | cons y r ih =>
    intro B hy hl
    have hyk := hy y (by simp)
    simp only [List.length_cons] at hl
    have e1 : ((y :: r).reverse ++ x :: B)[r.length + 1]? = some x := by
      rw [List.getElem?_append_right (by simp)]; simp
    have e2 : ((y :: r).reverse ++ x :: B)[r.length]? = some y := by
      rw [List.getElem?_append_left (by simp), List.reverse_cons, List.getElem?_append_right (by simp)]; simp
    have e3 : r.length + 1 < ((y :: r).reverse ++ x :: B).length := by simp
    cases h : ltK K x y with
    | false =>
      have := ins_stop K ((y :: r).reverse ++ x :: B) i r.length x y hK e3 (by omega) e1 e2 hx hyk h
      refine ⟨true, r.length + 1, ?_⟩
      have e : (insL (ltK K) (y :: r) x).reverse ++ B = (y :: r).reverse ++ x :: B := by simp [insL, h]
      rw [e]
      exact loop_out this (by simp)
    | true =>
      have hs := ins_swap K ((y :: r).reverse ++ x :: B) i r.length x y hK e3 (by omega) e1 e2 hx hyk h
      have e4 : (((y :: r).reverse ++ x :: B).set (r.length + 1) y).set r.length x = r.reverse ++ x :: (y :: B) := by
        simp only [List.reverse_cons, List.append_assoc, List.singleton_append]
        rw [List.set_append_right _ _ (by simp)]
        rw [List.set_append_right _ _ (by simp)]
        simp
      rw [e4] at hs
      obtain ⟨b, j, hr⟩ := ih (y :: B) (fun z hz => hy z (List.mem_cons_of_mem _ hz)) (by omega)
      refine ⟨b, j, ?_⟩
      have e : (insL (ltK K) (y :: r) x).reverse ++ B = (insL (ltK K) r x).reverse ++ y :: B := by simp [insL, h]
      rw [e]
      exact loop_next hs hr
set_option maxHeartbeats 8000000 in
theorem ins_round (K : List (List UInt8)) (hK : K.length ≤ 12) (R T : List Nat) (x : Nat) (hR : ∀ y ∈ R, y < K.length) (hx : x < K.length) (hl : R.length + (T.length + 1) = K.length) :
    rX 75 (lc Try.f75 0) (codeX G cl lp 75 (lc Try.f75 0) (σ113 K (R.reverse ++ x :: T) R.length)) = some (.normal, σ113 K ((insL (ltK K) R x).reverse ++ T) (R.length + 1)) := by
  obtain ⟨b, j, hi⟩ := ins_inner K hK R.length x hx R T hR (by omega)
  generalize (insL (ltK K) R x).reverse ++ T = L' at *
  generalize R.reverse ++ x :: T = L at *
  have hlt : R.length < K.length := by omega
  have hw : IntKind.i64.wrap ((R.length : Int) + 1) = (R.length : Int) + 1 := i64_wrap (by omega) (by omega)
  simp [lc, loopsOf, Try.f75, σ113i, hpK, fnK] at hi
  cases b <;> simp [lc, loopsOf, Try.f75, σ113, hpK, fnK, hlt, hi, σ113e, σ113i, hpK', hw]
set_option maxHeartbeats 8000000 in
theorem ins_exit (K : List (List UInt8)) (L : List Nat) (i : Nat) (h : K.length ≤ i) : rX 75 (lc Try.f75 0) (codeX G cl lp 75 (lc Try.f75 0) (σ113 K L i)) = some (.exit 0, ⟨(σ113 K L i).sl ++ [(14, .bool false)], hpK K L⟩) := by
  have hlt : ¬ i < K.length := by omega
  simp [lc, loopsOf, Try.f75, σ113, hpK, fnK, hlt]
theorem ins_outer (K : List (List UInt8)) (hK : K.length ≤ 12) : ∀ (T R : List Nat), (∀ y ∈ R, y < K.length) → (∀ y ∈ T, y < K.length) → R.length + T.length = K.length →
    ∃ i, lp 75 (lc Try.f75 0) (σ113 K (R.reverse ++ T) R.length) = some (.exit 0, ⟨(σ113 K (T.foldl (insL (ltK K)) R).reverse i).sl ++ [(14, .bool false)], hpK K (T.foldl (insL (ltK K)) R).reverse⟩) := by
  intro T
  induction T with
  | nil =>
    intro R hR _ hl
    refine ⟨R.length, ?_⟩
    rw [List.append_nil]
    exact loop_out (ins_exit K _ _ (by simpa using Nat.le_of_eq hl.symm)) (by simp)
  | cons x T ih =>
    intro R hR hT hl
    simp only [List.length_cons] at hl
    have h := ins_round K hK R T x hR (hT x (by simp)) hl
    have hlen : (insL (ltK K) R x).length = R.length + 1 := by
      clear h ih hl hT hR
      induction R with
      | nil => rfl
      | cons y R ih => simp only [insL]; split <;> simp [ih]
    have hmem : ∀ y ∈ insL (ltK K) R x, y = x ∨ y ∈ R := by
      clear h ih hl hT hR hlen
      induction R with
      | nil => intro y hy; simp [insL] at hy; exact .inl hy
      | cons z R ih =>
        intro y hy
        simp only [insL] at hy
        split at hy
        · rcases List.mem_cons.1 hy with rfl | hy
          · exact .inr (by simp)
          · rcases ih y hy with h | h
            · exact .inl h
            · exact .inr (List.mem_cons_of_mem _ h)
        · rcases List.mem_cons.1 hy with rfl | hy
          · exact .inl rfl
          · exact .inr hy
    obtain ⟨i, hi⟩ := ih (insL (ltK K) R x) (fun y hy => (hmem y hy).elim (fun e => e ▸ hT x (by simp)) (hR y)) (fun y hy => hT y (List.mem_cons_of_mem _ hy)) (by omega)
    rw [hlen] at hi
    exact ⟨i, loop_next h hi⟩
set_option maxHeartbeats 8000000 in
/-- Few places, put in order by their keys. -/
theorem insert113_eq (K : List (List UInt8)) (hK : K.length ≤ 12) (L : List Nat) (hL : L.length = K.length) (hm : ∀ y ∈ L, y < K.length) :
    cl 75 [.own 0, .int .i64 0, .int .i64 K.length, fnK] (hpK K L) = some (.ret (.tup []), hpK K (sortR (ltK K) L).reverse) := by
  refine fn_intro Try.func75 rfl (by simp) (by decide) rfl ?_
  have key : ∃ i, lp 75 (lc Try.f75 0) (σ113 K L 1) = some (.exit 0, ⟨(σ113 K (sortR (ltK K) L).reverse i).sl ++ [(14, .bool false)], hpK K (sortR (ltK K) L).reverse⟩) := by
    cases L with
    | nil =>
      exact ⟨1, loop_out (ins_exit K [] 1 (by simp at hL; omega)) (by simp)⟩
    | cons x T =>
      have := ins_outer K hK T [x] (fun y hy => by simp at hy; exact hy ▸ hm x (by simp)) (fun y hy => hm y (List.mem_cons_of_mem _ hy)) (by simp at hL ⊢; omega)
      exact this
  obtain ⟨i, key⟩ := key
  simp [lc, loopsOf, Try.f75, σ113, hpK, fnK] at key
  simp [Try.f75, hpK, fnK, key]
  simp [endX, finishA, outOf, reachL, retA, onlyHeap, idMap, AObj.names]
end Go.Proofs.Ytcgkneolohcdeaa


/- Values that are made of values: no program is looked at here. -/
namespace Go.Proofs.Ytcgkneolohcdeaa
open Go Abs
set_option linter.unusedSimpArgs false
set_option linter.unusedVariables false

/-- Kids, of a map each behind its key, one behind the other. -/
def bodyS (m : Bool) : List (List UInt8 × List Nd) → List Nd
  | [] => []
  | x :: r => (if m then ⟨3, 0, x.1, 0⟩ :: x.2 else x.2) ++ bodyS m r
end Go.Proofs.Ytcgkneolohcdeaa


/- What the functions come to: bits.Len of few. -/
namespace Go.Proofs.Ytcgkneolohcdeaa
open Go Abs
set_option linter.unusedSimpArgs false
set_option linter.unusedVariables false

/-- The text that an operation looks into. -/
def textOf : Code → List UInt8
  | .region _ ops _ => (ops.toList.filterMap fun o => match o.op with | .index _ (.const (.string s)) _ => some s.data.toList | _ => none).headD []
  | .seq a b => match textOf a with | [] => textOf b | l => l
  | .cond _ a b => match textOf a with | [] => textOf b | l => l
  | .block _ b => textOf b
  | _ => []
noncomputable def tab122 : List UInt8 := textOf (Try.f73.body.getD .skip)
theorem tab122_length : tab122.length = 256 := by kernel_rfl
set_option maxRecDepth 100000 in
set_option maxHeartbeats 8000000 in
theorem len122_eq (n : Nat) (h : n ≤ 12) : ∃ v, cl 73 [.int .u64 n] [] = some (.ret (.int .i64 v), []) := by
  have hlt : n < tab122.length := by rw [tab122_length]; omega
  obtain ⟨b, hb⟩ : ∃ b, tab122[n]? = some b := ⟨_, List.getElem?_eq_getElem hlt⟩
  refine ⟨IntKind.i64.wrap (0 + IntKind.i64.wrap b.toNat), fn_intro Try.func73 rfl (by simp) (by decide) rfl ?_⟩
  have h1 : ¬ (4294967296 : Int) ≤ n := by omega
  have h2 : ¬ (65536 : Int) ≤ n := by omega
  have h3 : ¬ (256 : Int) ≤ n := by omega
  have hw : IntKind.u8.wrap (n : Int) = n := by rw [u8_wrap]; omega
  unfold tab122 at hb hlt
  simp [textOf, Try.f73] at hb
  simp [Try.f73, h1, h2, h3, hw, hb]
  exact end_is (.inr rfl) (by simp; rfl) rfl rfl
theorem len88_eq (n : Nat) (h : n ≤ 12) : ∃ v, cl 49 [.int .u64 n] [] = some (.ret (.int .i64 v), []) := by
  obtain ⟨v, hv⟩ := len122_eq n h
  have hc : ∀ d st, callV G cl d (.fn (.func 73) [] []) [.int .u64 n] st = some (.val (.int .i64 v) st) := fun d st => callV_ret E73 (by decide) ext73 rfl rfl hv rfl
  refine ⟨v, fn_intro Try.func49 rfl (by simp) (by decide) rfl ?_⟩
  simp [Try.f49, hc]
  exact end_is (.inr rfl) (by simp; rfl) rfl rfl
end Go.Proofs.Ytcgkneolohcdeaa


/- What the functions come to: slices.SortFunc of few. -/
namespace Go.Proofs.Ytcgkneolohcdeaa
open Go Abs
set_option linter.unusedSimpArgs false
set_option linter.unusedVariables false
theorem insert113_call {K : List (List UInt8)} (hK : K.length ≤ 12) {L : List Nat} (hL : L.length = K.length) (hm : ∀ y ∈ L, y < K.length) {d : Option Nat} {sl : Slots} :
    callV G cl d (.fn (.func 75) [] []) [.own 0, .int .i64 0, .int .i64 K.length, .fn (.func 34) [] [.ptr 1 0 0]] ⟨sl, hpK K L⟩ = some (.val (.tup []) ⟨sl, hpK K (sortR (ltK K) L).reverse ++ hpK K L⟩) :=
  callV_of (pre := [.own 0, .int .i64 0, .int .i64 K.length, fnK]) (st1 := ⟨sl, hpK K L⟩) (ns := [0, 1]) E75 (by decide) ext75 rfl rfl (by kernel_rfl) rfl (by exact insert113_eq K hK L hL hm) (by kernel_rfl) rfl

-- What a loop's head is unfolded by, where there is memory.
attribute [local simp] canonK canonAll canonSlot canonCell canonBox ownStep restrictTo pureCells pureRows reachL AObj.names List.range_succ appendA
set_option maxHeartbeats 8000000 in
theorem pdq87_eq (K : List (List UInt8)) (hK : K.length ≤ 12) (L : List Nat) (hL : L.length = K.length) (hm : ∀ y ∈ L, y < K.length) (lim : Int) :
    cl 54 [.own 0, .int .i64 0, .int .i64 K.length, .int .i64 lim, fnK] (hpK K L) = some (.ret (.tup []), hpK K (sortR (ltK K) L).reverse) := by
  have hc := fun sl => insert113_call hK hL hm (d := some 30) (sl := sl)
  have hw : IntKind.i64.wrap ((K.length : Int) - 0) = K.length := by rw [Int.sub_zero]; exact i64_wrap (by omega) (by omega)
  have hw' : IntKind.i64.wrap (K.length : Int) = K.length := i64_wrap (by omega) (by omega)
  have h12 : (K.length : Int) ≤ 12 := by omega
  generalize (sortR (ltK K) L).reverse = S at *
  refine fn_intro Try.func54 rfl (by simp) (by decide) rfl ?_
  have key : lp 54 (lc Try.f54 0) ⟨[(0, .own 0), (1, .int .i64 0), (2, .int .i64 K.length), (3, .int .i64 lim), (4, fnK), (10, .bool true), (11, .bool true)], hpK K L⟩ = some (.ret, ⟨[], hpK K S ++ hpK K L⟩) := by
    refine loop_out ?_ (by simp)
    simp only [hpK, fnK] at hc ⊢
    simp [lc, loopsOf, Try.f54, hw, hw', h12, hc]
  simp [lc, loopsOf, Try.f54, hpK, fnK] at key
  simp [Try.f54, hpK, fnK, key]
  simp [endX, finishA, outOf, retA, onlyHeap, idMap, AObj.names]
theorem pdq87_call {K : List (List UInt8)} (hK : K.length ≤ 12) {L : List Nat} (hL : L.length = K.length) (hm : ∀ y ∈ L, y < K.length) {lim : Int} {d : Option Nat} {sl : Slots} :
    callV G cl d (.fn (.func 54) [] []) [.own 0, .int .i64 0, .int .i64 K.length, .int .i64 lim, .fn (.func 34) [] [.ptr 1 0 0]] ⟨sl, hpK K L⟩ = some (.val (.tup []) ⟨sl, hpK K (sortR (ltK K) L).reverse ++ hpK K L⟩) :=
  callV_of (pre := [.own 0, .int .i64 0, .int .i64 K.length, .int .i64 lim, fnK]) (st1 := ⟨sl, hpK K L⟩) (ns := [0, 1]) E54 (by decide) ext54 rfl rfl (by kernel_rfl) rfl (by exact pdq87_eq K hK L hL hm lim) (by kernel_rfl) rfl
set_option maxHeartbeats 8000000 in
theorem sort58_eq (K : List (List UInt8)) (hK : K.length ≤ 12) (L : List Nat) (hL : L.length = K.length) (hm : ∀ y ∈ L, y < K.length) :
    cl 33 [.own 0, fnK] (hpK K L) = some (.ret (.tup []), hpK K (sortR (ltK K) L).reverse) := by
  obtain ⟨v, hv⟩ := len88_eq K.length hK
  have hl : ∀ d st, callV G cl d (.fn (.func 49) [] []) [.int .u64 K.length] st = some (.val (.int .i64 v) st) := fun d st => callV_ret E49 (by decide) ext49 rfl rfl hv rfl
  have hc := fun sl => pdq87_call hK hL hm (lim := v) (d := some 13) (sl := sl)
  have hw : IntKind.u64.wrap (K.length : Int) = K.length := by rw [u64_wrap]; omega
  generalize (sortR (ltK K) L).reverse = S at *
  refine fn_intro Try.func33 rfl (by simp) (by decide) rfl ?_
  simp only [hpK, fnK] at hc ⊢
  simp [Try.f33, hL, hl, hw, hc]
  simp [endX, finishA, outOf, retA, onlyHeap, idMap, AObj.names]
end Go.Proofs.Ytcgkneolohcdeaa


/- What the functions come to: tree.Map. -/
namespace Go.Proofs.Ytcgkneolohcdeaa
open Go Abs
set_option linter.unusedSimpArgs false
set_option linter.unusedVariables false

-- What a loop's head is unfolded by, where there is memory.
attribute [local simp] canonK canonAll canonSlot canonCell canonBox ownStep restrictTo pureCells pureRows reachL AObj.names List.range_succ appendA

/-! The places -/
noncomputable def hp34 (K : List (List UInt8)) (L : List Nat) : Heap := [(1002, .box 39 (.list 1 (strsL K))), (5006, .row 1 (intsL L) false ⟨false, 3⟩)]
noncomputable def σ34 (K : List (List UInt8)) (kv : AV) (L : List Nat) (i : Nat) : ASt := ⟨[(1, kv), (2, .ptr 1002 0 0), (6, .own 5006), (20, .int .i64 K.length), (21, .int .i64 i)], hp34 K L⟩
set_option maxHeartbeats 8000000 in
theorem ord_round (K : List (List UInt8)) (kids : List (List Nd)) (L : List Nat) (i : Nat) (hi : i < K.length) (hK : K.length ≤ 1000) (hL : L.length = K.length) :
    rX 16 (lc Try.f16 0) (codeX G cl lp 16 (lc Try.f16 0) (σ34 K (.list 1 (ndsL kids)) L i)) = some (.normal, σ34 K (.list 1 (ndsL kids)) (L.set i i) (i + 1)) := by
  have hw : IntKind.i64.wrap ((i : Int) + 1) = (i : Int) + 1 := i64_wrap (by omega) (by omega)
  simp [lc, loopsOf, Try.f16, σ34, hp34, hi, hL, hw, intsL_set]
set_option maxHeartbeats 8000000 in
theorem ord_exit (K : List (List UInt8)) (kids : List (List Nd)) (L : List Nat) :
    rX 16 (lc Try.f16 0) (codeX G cl lp 16 (lc Try.f16 0) (σ34 K (.list 1 (ndsL kids)) L K.length)) = some (.exit 0, ⟨[(1, .list 1 (ndsL kids)), (2, .ptr 1002 0 0), (6, .own 5006), (20, .int .i64 K.length), (21, .int .i64 K.length), (22, .bool false)], hp34 K L⟩) := by
  simp [lc, loopsOf, Try.f16, σ34, hp34]
theorem ord_loop (K : List (List UInt8)) (kids : List (List Nd)) (hK : K.length ≤ 1000) : ∀ (c i : Nat) (L : List Nat), i + c = K.length → L.length = K.length → (∀ j, j < i → L[j]? = some j) →
    lp 16 (lc Try.f16 0) (σ34 K (.list 1 (ndsL kids)) L i) = some (.exit 0, ⟨[(1, .list 1 (ndsL kids)), (2, .ptr 1002 0 0), (6, .own 5006), (20, .int .i64 K.length), (21, .int .i64 K.length), (22, .bool false)], hp34 K (List.range K.length)⟩) := by
  intro c
  induction c with
  | zero =>
    intro i L hi hL hj
    obtain rfl : i = K.length := by omega
    have : L = List.range K.length := by
      apply List.ext_getElem?
      intro j
      by_cases hjl : j < K.length
      · rw [hj j hjl, List.getElem?_range hjl]
      · rw [List.getElem?_eq_none_iff.2 (by omega), List.getElem?_eq_none_iff.2 (by simp; omega)]
    rw [this]
    exact loop_out (ord_exit K kids _) (by simp)
  | succ c ih =>
    intro i L hi hL hj
    refine loop_next (ord_round K kids L i (by omega) hK hL) (ih (i + 1) (L.set i i) (by omega) (by simp [hL]) fun j hj' => ?_)
    by_cases e : i = j
    · subst e; rw [List.getElem?_set_self (by omega)]
    · rw [List.getElem?_set_ne e]; exact hj j (by omega)

/-! The members -/
/-- Gone through in their order: their nodes; nothing, if one key is there twice. -/
def memL (K : List (List UInt8)) (kids : List (List Nd)) : Option Nat → List Nat → List Nd → Option (List Nd)
  | _, [], out => some out
  | p, k :: r, out => if p.map (keyK K) = some (keyK K k) then none else memL K kids (some k) r (out ++ ⟨3, 0, keyK K k, 0⟩ :: (kids[k]?).getD [])
noncomputable def hp34b (K : List (List UInt8)) (out : List Nd) (mv : Bool) : Heap := [(1002, .box 39 (.list 1 (strsL K))), (5008, .row 4 (out.map Nd.v) false ⟨mv, 43⟩)]
noncomputable def σ34b (K : List (List UInt8)) (kids : List (List Nd)) (S : List Nat) (out : List Nd) (mv : Bool) (i : Nat) : ASt :=
  ⟨[(1, .list 1 (ndsL kids)), (2, .ptr 1002 0 0), (6, .list 1 (intsL S)), (8, .own 5008), (36, .list 1 (intsL S)), (37, .int .i64 S.length), (38, .int .i64 i)], hp34b K out mv⟩
theorem strs_at {K : List (List UInt8)} {i : Nat} {h : i < (strsL K).length} : (strsL K)[i] = .str (K[i]'(by simpa [strsL] using h)) := by simp [strsL]
@[simp] theorem strsL_length {K : List (List UInt8)} : (strsL K).length = K.length := by simp [strsL]
theorem ndsL_at {K : List (List Nd)} {i : Nat} {h : i < (ndsL K).length} : (ndsL K)[i] = nds (K[i]'(by simpa using h)) := by simp [ndsL]
theorem keyK_at {K : List (List UInt8)} {i : Nat} (h : i < K.length) : K[i] = keyK K i := by unfold keyK; rw [List.getElem?_eq_getElem h]; rfl
set_option maxHeartbeats 8000000 in
theorem mem_first (K : List (List UInt8)) (kids : List (List Nd)) (S : List Nat) (out : List Nd) (mv : Bool) (k : Nat) (hS : S[0]? = some k) (hk : k < K.length) (hkk : kids.length = K.length) (hb : out.length + 1 + ((kids[k]?).getD []).length ≤ 1000000) (hl : S.length ≤ 1000) :
    rX 16 (lc Try.f16 1) (codeX G cl lp 16 (lc Try.f16 1) (σ34b K kids S out mv 0)) = some (.normal, σ34b K kids S (out ++ ⟨3, 0, keyK K k, 0⟩ :: (kids[k]?).getD []) true 1) := by
  have hlt : 0 < S.length := (List.getElem?_eq_some_iff.1 hS).1
  have hs := (List.getElem?_eq_some_iff.1 hS).2
  have hkd : k < kids.length := by omega
  have e1 : kids[k]? = some kids[k] := List.getElem?_eq_getElem hkd
  have hL1 : out.length + 1 ≤ LIM := by unfold LIM; omega
  rw [e1] at hb ⊢
  simp only [Option.getD_some] at hb ⊢
  have hL2 : out.length + 1 + kids[k].length ≤ LIM := by unfold LIM; omega
  simp [lc, loopsOf, Try.f16, σ34b, hp34b, hlt, hs, hk, hkd, strs_at, ndsL_at, keyK_at hk, hL1, hL2, Nd.v]
set_option maxHeartbeats 8000000 in
theorem mem_next (K : List (List UInt8)) (kids : List (List Nd)) (S : List Nat) (out : List Nd) (mv : Bool) (i p k : Nat) (hp : S[i]? = some p) (hpk : p < K.length) (hS : S[i + 1]? = some k) (hk : k < K.length) (hkk : kids.length = K.length) (hb : out.length + 1 + ((kids[k]?).getD []).length ≤ 1000000) (hl : S.length ≤ 1000) (hne : keyK K p ≠ keyK K k) :
    rX 16 (lc Try.f16 1) (codeX G cl lp 16 (lc Try.f16 1) (σ34b K kids S out mv (i + 1))) = some (.normal, σ34b K kids S (out ++ ⟨3, 0, keyK K k, 0⟩ :: (kids[k]?).getD []) true (i + 2)) := by
  have hlt1 : i + 1 < S.length := (List.getElem?_eq_some_iff.1 hS).1
  have hlt : i < S.length := by omega
  have hs := (List.getElem?_eq_some_iff.1 hS).2
  have hps := (List.getElem?_eq_some_iff.1 hp).2
  have gx := intsL_get hS
  have hkd : k < kids.length := by omega
  have e1 : kids[k]? = some kids[k] := List.getElem?_eq_getElem hkd
  have hL1 : out.length + 1 ≤ LIM := by unfold LIM; omega
  rw [e1] at hb ⊢
  simp only [Option.getD_some] at hb ⊢
  have hL2 : out.length + 1 + kids[k].length ≤ LIM := by unfold LIM; omega
  have e2 : ((i + 2 : Nat) : Int) = ((i + 1 : Nat) : Int) + 1 := by omega
  have hw : IntKind.i64.wrap (((i + 1 : Nat) : Int) + 1) = ((i + 1 : Nat) : Int) + 1 := i64_wrap (by omega) (by omega)
  have hw2 : IntKind.i64.wrap (((i + 1 : Nat) : Int) - 1) = (i : Int) := by rw [i64_wrap (by omega) (by omega)]; omega
  have hq1 : ((i + 1 : Nat) : Int) < S.length := by omega
  unfold σ34b
  rw [e2]
  generalize hq : ((i + 1 : Nat) : Int) = q at *
  have hqn : q.toNat = i + 1 := by omega
  have hq0 : 0 ≤ q := by omega
  have hq2 : 0 < q := by omega
  simp [lc, loopsOf, Try.f16, hp34b, hlt, hs, hps, hk, hpk, hkd, strs_at, ndsL_at, keyK_at hk, keyK_at hpk, hL1, hL2, Nd.v, hqn, hq0, hq2, hq1, gx, hw, hw2, hne]
set_option maxHeartbeats 8000000 in
theorem mem_twice (K : List (List UInt8)) (kids : List (List Nd)) (S : List Nat) (out : List Nd) (mv : Bool) (i p k : Nat) (hp : S[i]? = some p) (hpk : p < K.length) (hS : S[i + 1]? = some k) (hk : k < K.length) (hl : S.length ≤ 1000) (hne : keyK K p = keyK K k) :
    ∃ hp', rX 16 (lc Try.f16 1) (codeX G cl lp 16 (lc Try.f16 1) (σ34b K kids S out mv (i + 1))) = some (.ret, ⟨[(4, .nils), (5, .int .i64 7)], hp'⟩) := by
  have hlt1 : i + 1 < S.length := (List.getElem?_eq_some_iff.1 hS).1
  have hlt : i < S.length := by omega
  have hs := (List.getElem?_eq_some_iff.1 hS).2
  have hps := (List.getElem?_eq_some_iff.1 hp).2
  have gx := intsL_get hS
  have hw2 : IntKind.i64.wrap (((i + 1 : Nat) : Int) - 1) = (i : Int) := by rw [i64_wrap (by omega) (by omega)]; omega
  have hq1 : ((i + 1 : Nat) : Int) < S.length := by omega
  unfold σ34b
  generalize hq : ((i + 1 : Nat) : Int) = q at *
  have hqn : q.toNat = i + 1 := by omega
  have hq0 : 0 ≤ q := by omega
  have hq2 : 0 < q := by omega
  simp [lc, loopsOf, Try.f16, hp34b, hlt, hs, hps, hk, hpk, strs_at, keyK_at hk, keyK_at hpk, Nd.v, hqn, hq0, hq2, hq1, gx, hw2, hne]
set_option maxHeartbeats 8000000 in
theorem mem_exit (K : List (List UInt8)) (kids : List (List Nd)) (S : List Nat) (out : List Nd) (mv : Bool) :
    rX 16 (lc Try.f16 1) (codeX G cl lp 16 (lc Try.f16 1) (σ34b K kids S out mv S.length)) = some (.exit 2, ⟨(σ34b K kids S out mv S.length).sl ++ [(39, .bool false)], hp34b K out mv⟩) := by
  simp [lc, loopsOf, Try.f16, σ34b, hp34b]
theorem memL_len {K : List (List UInt8)} {kids : List (List Nd)} : ∀ {r : List Nat} {p : Option Nat} {out o : List Nd}, memL K kids p r out = some o → out.length ≤ o.length ∧ o.length = out.length + (r.map fun k => 1 + ((kids[k]?).getD []).length).sum := by
  intro r
  induction r with
  | nil => intro p out o h; simp only [memL] at h; cases h; exact ⟨Nat.le_refl _, by simp⟩
  | cons k r ih =>
    intro p out o h
    simp only [memL] at h
    split at h
    · cases h
    · obtain ⟨h1, h2⟩ := ih h
      simp only [List.length_append, List.length_cons] at h1 h2
      exact ⟨by omega, by simp only [List.map_cons, List.sum_cons]; omega⟩
def costK (kids : List (List Nd)) (r : List Nat) : Nat := (r.map fun k => 1 + ((kids[k]?).getD []).length).sum
theorem mem_loop (K : List (List UInt8)) (kids : List (List Nd)) (S : List Nat) (hS : ∀ k ∈ S, k < K.length) (hkk : kids.length = K.length) (hl : S.length ≤ 1000) : ∀ (r done : List Nat) (out : List Nd) (mv : Bool), S = done ++ r → out.length + costK kids r ≤ 1000000 →
    match memL K kids done.getLast? r out with
    | some o => ∃ mv', lp 16 (lc Try.f16 1) (σ34b K kids S out mv done.length) = some (.exit 2, ⟨(σ34b K kids S o mv' S.length).sl ++ [(39, .bool false)], hp34b K o mv'⟩)
    | none => ∃ hp', lp 16 (lc Try.f16 1) (σ34b K kids S out mv done.length) = some (.ret, ⟨[(4, .nils), (5, .int .i64 7)], hp'⟩) := by
  intro r
  induction r with
  | nil =>
    intro done out mv hs _
    simp only [memL]
    rw [List.append_nil] at hs
    subst hs
    exact ⟨mv, loop_out (mem_exit K kids _ out mv) (by simp)⟩
  | cons k r ih =>
    intro done out mv hs hb
    have hk : k < K.length := hS k (by rw [hs]; simp)
    have hSk : S[done.length]? = some k := by rw [hs]; simp
    have hc : costK kids (k :: r) = 1 + ((kids[k]?).getD []).length + costK kids r := by simp [costK]
    rw [hc] at hb
    have ih' := ih (done ++ [k]) (out ++ ⟨3, 0, keyK K k, 0⟩ :: (kids[k]?).getD []) true (by simp [hs]) (by simp; omega)
    simp only [List.getLast?_append, List.getLast?_singleton, Option.some_or, List.length_append, List.length_cons, List.length_nil, Nat.zero_add] at ih'
    simp only [memL]
    rcases List.eq_nil_or_concat done with rfl | ⟨d, p, rfl⟩
    · simp only [List.getLast?_nil, Option.map_none, reduceCtorEq, if_false]
      have h := mem_first K kids S out mv k hSk hk hkk (by omega) hl
      split at ih'
      · rename_i o ho
        obtain ⟨mv', hx⟩ := ih'
        exact ⟨mv', loop_next h hx⟩
      · rename_i ho
        obtain ⟨hp', hx⟩ := ih'
        exact ⟨hp', loop_next h hx⟩
    · have hpS : S[d.length]? = some p := by rw [hs]; simp
      have hpk : p < K.length := hS p (by rw [hs]; simp)
      simp only [List.concat_eq_append, List.getLast?_append, List.getLast?_singleton, Option.some_or, Option.map_some, Option.some.injEq, List.length_append, List.length_cons, List.length_nil, Nat.zero_add] at ih' hSk ⊢
      by_cases he : keyK K p = keyK K k
      · rw [if_pos he]
        obtain ⟨hp', h⟩ := mem_twice K kids S out mv d.length p k hpS hpk hSk hk hl he
        exact ⟨hp', loop_out h (by simp)⟩
      · rw [if_neg he]
        have h := mem_next K kids S out mv d.length p k hpS hpk hSk hk hkk (by omega) hl he
        split at ih'
        · rename_i o ho
          obtain ⟨mv', hx⟩ := ih'
          exact ⟨mv', loop_next h hx⟩
        · rename_i ho
          obtain ⟨hp', hx⟩ := ih'
          exact ⟨hp', loop_next h hx⟩

/-! Map -/
def ordS (K : List (List UInt8)) : List Nat := (sortR (ltK K) (List.range K.length)).reverse
theorem insL_len {lt : Nat → Nat → Bool} {x : Nat} : ∀ {R : List Nat}, (insL lt R x).length = R.length + 1 := by
  intro R
  induction R with
  | nil => rfl
  | cons y R ih => simp only [insL]; split <;> simp [ih]
theorem insL_mem {lt : Nat → Nat → Bool} {x y : Nat} : ∀ {R : List Nat}, y ∈ insL lt R x ↔ y = x ∨ y ∈ R := by
  intro R
  induction R with
  | nil => simp [insL]
  | cons z R ih =>
    simp only [insL]
    split
    · simp only [List.mem_cons, ih]
      constructor
      · rintro (h | h | h)
        · exact .inr (.inl h)
        · exact .inl h
        · exact .inr (.inr h)
      · rintro (h | h | h)
        · exact .inr (.inl h)
        · exact .inl h
        · exact .inr (.inr h)
    · simp
theorem foldIns_len {lt : Nat → Nat → Bool} : ∀ {T R : List Nat}, (T.foldl (insL lt) R).length = R.length + T.length := by
  intro T
  induction T with
  | nil => intro R; rfl
  | cons x T ih => intro R; rw [List.foldl_cons, ih, insL_len]; simp; omega
theorem foldIns_mem {lt : Nat → Nat → Bool} {y : Nat} : ∀ {T R : List Nat}, y ∈ T.foldl (insL lt) R ↔ y ∈ R ∨ y ∈ T := by
  intro T
  induction T with
  | nil => intro R; simp
  | cons x T ih => intro R; rw [List.foldl_cons, ih, insL_mem]; simp only [List.mem_cons]; constructor
                   · rintro ((h | h) | h)
                     · exact .inr (.inl h)
                     · exact .inl h
                     · exact .inr (.inr h)
                   · rintro (h | h | h)
                     · exact .inl (.inr h)
                     · exact .inl (.inl h)
                     · exact .inr h
theorem ordS_length (K : List (List UInt8)) : (ordS K).length = K.length := by simp [ordS, sortR, foldIns_len]
theorem ordS_mem {K : List (List UInt8)} {k : Nat} : k ∈ ordS K ↔ k < K.length := by simp [ordS, sortR, foldIns_mem]
def mapR (K : List (List UInt8)) (kids : List (List Nd)) : Option (List Nd) := memL K kids none (ordS K) [⟨5, 0, [], K.length⟩]
def mapV (K : List (List UInt8)) (kids : List (List Nd)) : AV :=
  if K.length = kids.length then (match mapR K kids with | none => .tup [.nils, .int .i64 7] | some l => checkedV l) else .tup [.nils, .int .i64 1]
theorem mapV_names {K kids} : (mapV K kids).names = [] := by
  unfold mapV
  split
  · split
    · rfl
    · exact checkedV_names
  · rfl
theorem memL_inR {K : List (List UInt8)} {kids : List (List Nd)} (hk : ∀ m ∈ kids, ∀ n ∈ m, n.inR) : ∀ {r : List Nat} {p : Option Nat} {out o : List Nd}, memL K kids p r out = some o → (∀ n ∈ out, n.inR) → ∀ n ∈ o, n.inR := by
  intro r
  induction r with
  | nil => intro p out o h ho; simp only [memL] at h; cases h; exact ho
  | cons k r ih =>
    intro p out o h ho
    simp only [memL] at h
    split at h
    · cases h
    · refine ih h fun n hn => ?_
      rcases List.mem_append.1 hn with hn | hn
      · exact ho n hn
      · rcases List.mem_cons.1 hn with rfl | hn
        · exact ⟨by simp, by simp, by simp, by simp⟩
        · cases hkk : kids[k]? with
          | none => rw [hkk] at hn; simp at hn
          | some m => rw [hkk] at hn; exact hk m (List.mem_of_getElem? hkk) n hn
theorem sort58_call {K : List (List UInt8)} (hK : K.length ≤ 12) {d : Option Nat} {sl : Slots} :
    callV G cl d (.fn (.func 33) [] []) [.own 5006, .fn (.func 34) [] [.ptr 1002 0 0]] ⟨sl, hp34 K (List.range K.length)⟩ =
      some (.val (.tup []) ⟨sl, [(5006, .row 1 (intsL (ordS K)) false ⟨false, 3⟩), (1002, .box 39 (.list 1 (strsL K)))] ++ hp34 K (List.range K.length)⟩) :=
  callV_of (pre := [.own 5006, .fn (.func 34) [] [.ptr 1002 0 0]]) (st1 := ⟨sl, hp34 K (List.range K.length)⟩) (ns := [5006, 1002]) E33 (by decide) ext33 rfl rfl (by kernel_rfl) rfl (by exact sort58_eq K hK (List.range K.length) (by simp) (fun y hy => List.mem_range.1 hy)) (by kernel_rfl) rfl
set_option maxHeartbeats 8000000 in
theorem map_eq (K : List (List UInt8)) (kids : List (List Nd)) (hK : K.length ≤ 12) (hr : ∀ m ∈ kids, ∀ n ∈ m, n.inR) (hc : ∀ m ∈ kids, m.length ≤ 1000) : cl 16 [.list 1 (strsL K), .list 1 (ndsL kids)] [] = some (.ret (mapV K kids), []) := by
  refine fn_intro Try.func16 rfl (by simp) (by decide) rfl ?_
  by_cases hkk : K.length = kids.length
  case neg =>
    have hkk' : ¬ (K.length : Int) = kids.length := by omega
    simp [Try.f16, hkk']
    exact end_is (.inr rfl) (by simp [resL]; rfl) rfl (by simp [mapV, hkk])
  have hcost : costK kids (ordS K) ≤ 12012 := by
    have : ∀ l : List Nat, costK kids l ≤ l.length * 1001 := by
      intro l
      induction l with
      | nil => simp [costK]
      | cons k l ih =>
        have e : costK kids (k :: l) = 1 + ((kids[k]?).getD []).length + costK kids l := by simp [costK]
        rw [e, List.length_cons]
        have : ((kids[k]?).getD []).length ≤ 1000 := by
          cases hk : kids[k]? with
          | none => simp
          | some m => exact hc m (List.mem_of_getElem? hk)
        omega
    have := this (ordS K)
    rw [ordS_length] at this
    omega
  have h1 := ord_loop K kids (by omega) K.length 0 (List.replicate K.length 0) (by omega) (by simp) (fun j hj => by omega)
  have h2 := mem_loop K kids (ordS K) (fun k hk => ordS_mem.1 hk) hkk.symm (by rw [ordS_length]; omega) (ordS K) [] [⟨5, 0, [], K.length⟩] false rfl (by simp; omega)
  have hs := fun sl => sort58_call hK (d := some 31) (sl := sl)
  have hz : intsL (List.replicate K.length 0) = List.replicate K.length (.int .i64 0) := by simp [intsL]
  have hLIM : K.length ≤ LIM := by unfold LIM; omega
  have hkq := hkk.symm
  simp only [List.getLast?_nil, List.length_nil] at h2
  simp [lc, loopsOf, Try.f16, σ34, hp34, hz] at h1
  simp only [hp34] at hs
  have hV : mapV K kids = (match mapR K kids with | none => .tup [.nils, .int .i64 7] | some l => checkedV l) := by unfold mapV; rw [if_pos hkk]
  cases hm : memL K kids none (ordS K) [⟨5, 0, [], K.length⟩] with
  | none =>
    rw [hm] at h2
    obtain ⟨hp', h2⟩ := h2
    simp [lc, loopsOf, Try.f16, σ34b, hp34b, ordS_length, Nd.v] at h2
    simp [Try.f16, hkq, hLIM, h1, hs, List.filter_cons, ordS_length, h2]
    refine end_rv (.inr rfl) (by simp [resL]; rfl) (by simp) ?_ mapV_names
    rw [hV]; unfold mapR; rw [hm]; rfl
  | some o =>
    rw [hm] at h2
    obtain ⟨mv', h2⟩ := h2
    have hor := memL_inR hr hm (fun n hn => by
      simp only [List.mem_singleton] at hn
      subst hn
      exact ⟨by simp, by simp, by simp only; omega, by simp only; omega⟩)
    have hol := (memL_len hm).2
    have hcl : (List.map (fun k => 1 + (kids[k]?.getD []).length) (ordS K)).sum = costK kids (ordS K) := rfl
    rw [hcl] at hol
    simp only [List.length_cons, List.length_nil] at hol
    have hchk := checked_eq o (by omega) hor
    have hck : ∀ d sl, callV G cl d (.fn (.func 31) [] []) [.own 5008] ⟨sl, [(1002, .box 39 (.list 1 (strsL K))), (5008, .row 4 (o.map Nd.v) false ⟨mv', 43⟩)]⟩ =
      some (.val (checkedV o) ⟨sl, [(1002, .box 39 (.list 1 (strsL K))), (5008, .row 4 (o.map Nd.v) true ⟨mv', 43⟩)]⟩) := fun d sl =>
      callV_rv (pre := [nds o]) E31 (by decide) ext31 rfl rfl rfl rfl hchk checkedV_names
    simp [lc, loopsOf, Try.f16, σ34b, hp34b, ordS_length, Nd.v] at h2
    simp [Try.f16, hkq, hLIM, h1, hs, List.filter_cons, ordS_length, h2, hck]
    rw [hV]; unfold mapR; rw [hm]
    simp only
    by_cases hz : checkS o = 0
    · simp [checkedV, hz]
      exact end_rv (.inr rfl) (by simp [resL]; rfl) (by simp) (by rfl) (by rfl)
    · simp [checkedV, hz]
      exact end_rv (.inr rfl) (by simp [resL]; rfl) (by simp) (by rfl) (by rfl)
end Go.Proofs.Ytcgkneolohcdeaa


/- Values as trees: what nodes are one. -/
namespace Go.Proofs.Ytcgkneolohcdeaa
open Go Abs
set_option linter.unusedSimpArgs false
set_option linter.unusedVariables false
mutual
inductive VT where
  | leaf (n : Nd)
  | node (m : Bool) (ms : VL)
inductive VL where
  | nil
  | cons (k : List UInt8) (t : VT) (r : VL)
end
def VL.len : VL → Nat
  | .nil => 0
  | .cons _ _ r => r.len + 1
def keyL (m : Bool) (k : List UInt8) : List Nd := if m then [⟨3, 0, k, 0⟩] else []
def headN (m : Bool) (c : Nat) : Nd := ⟨if m then 5 else 4, 0, [], c⟩
mutual
/-- Its nodes. -/
def VT.flat : VT → List Nd
  | .leaf n => [n]
  | .node m ms => headN m ms.len :: ms.flat m
def VL.flat (m : Bool) : VL → List Nd
  | .nil => []
  | .cons k t r => keyL m k ++ (t.flat ++ r.flat m)
end
mutual
def VT.deep : VT → Nat
  | .leaf _ => 1
  | .node _ ms => ms.deep + 1
def VL.deep : VL → Nat
  | .nil => 0
  | .cons _ t r => max t.deep r.deep
end
mutual
/-- What may be: keys rise. -/
def VT.ok : VT → Prop
  | .leaf n => fitsS n = true ∧ n.kind < 4 ∧ n.inR
  | .node m ms => ms.ok m none ∧ ms.len ≤ 9223372036854775807
def VL.ok (m : Bool) : VL → Option (List UInt8) → Prop
  | .nil, _ => True
  | .cons k t r, last => t.ok ∧ (m = false → k = []) ∧ (m = true → ∀ l, last = some l → ltB l k = true) ∧ r.ok m (some k)
end
/-- Where the kids begin. -/
def VL.pos (m : Bool) : VL → Nat → List Nat
  | .nil, _ => []
  | .cons k t r, a => (a + (keyL m k).length) :: r.pos m (a + (keyL m k).length + t.flat.length)
def VT.pos : VT → Nat → List Nat
  | .leaf _, _ => []
  | .node m ms, a => ms.pos m a
theorem VT.flat_pos : ∀ t : VT, 0 < t.flat.length
  | .leaf n => by simp [VT.flat]
  | .node m ms => by simp [VT.flat]
/-- Nodes that lie at a place. -/
def Sub (L : List Nd) (a : Nat) (f : List Nd) : Prop := ∀ i n, f[i]? = some n → L[a + i]? = some n
theorem Sub.app {L : List Nd} {a : Nat} {f g : List Nd} : Sub L a (f ++ g) ↔ Sub L a f ∧ Sub L (a + f.length) g := by
  constructor
  · intro h
    refine ⟨fun i n hi => h i n ?_, fun i n hi => ?_⟩
    · rw [List.getElem?_append_left (List.getElem?_eq_some_iff.1 hi).1]; exact hi
    · have := h (f.length + i) n (by rw [List.getElem?_append_right (by omega)]; simpa using hi)
      rwa [Nat.add_assoc]
  · intro ⟨h1, h2⟩ i n hi
    rcases Nat.lt_or_ge i f.length with h | h
    · exact h1 i n (by rwa [List.getElem?_append_left h] at hi)
    · rw [List.getElem?_append_right h] at hi
      have := h2 _ n hi
      rwa [show a + f.length + (i - f.length) = a + i by omega] at this
theorem Sub.nil {L : List Nd} {a : Nat} : Sub L a [] := fun i n h => by simp at h
theorem Sub.cons {L : List Nd} {a : Nat} {x : Nd} {f : List Nd} : Sub L a (x :: f) ↔ L[a]? = some x ∧ Sub L (a + 1) f := by
  have := Sub.app (L := L) (a := a) (f := [x]) (g := f)
  rw [show [x] ++ f = x :: f from rfl] at this
  rw [this]
  constructor
  · intro ⟨h1, h2⟩; exact ⟨by simpa using h1 0 x rfl, h2⟩
  · intro ⟨h1, h2⟩
    refine ⟨fun i n hi => ?_, h2⟩
    cases i with
    | zero => simp at hi; subst hi; simpa using h1
    | succ i => simp at hi
theorem Sub.le {L : List Nd} {a : Nat} {f : List Nd} (h : Sub L a f) (hf : f ≠ []) : a + f.length ≤ L.length := by
  have hp := List.length_pos_iff.2 hf
  have := h (f.length - 1) f[f.length - 1] (List.getElem?_eq_getElem (by omega))
  have := (List.getElem?_eq_some_iff.1 this).1
  omega
theorem Sub.cut {L : List Nd} {a : Nat} {f : List Nd} (h : Sub L a f) (hf : f ≠ []) : cutS L a (a + f.length) = f := by
  have hle := h.le hf
  unfold cutS
  apply List.ext_getElem?
  intro i
  rw [List.getElem?_drop]
  rcases Nat.lt_or_ge i f.length with hi | hi
  · rw [List.getElem?_take, if_pos (by omega), List.getElem?_eq_getElem hi]
    exact h i _ (List.getElem?_eq_getElem hi)
  · rw [List.getElem?_eq_none_iff.2 hi, List.getElem?_take, if_neg (by omega)]
theorem head_fits {m : Bool} {c : Nat} : fitsS (headN m c) = true := by
  cases m <;> simp [headN, fitsS]
theorem key_fits {k : List UInt8} : fitsS ⟨3, 0, k, 0⟩ = true := by simp [fitsS]
theorem leaf_kids {n : Nd} (h : fitsS n = true) (hk : n.kind < 4) : n.kids = 0 := by
  unfold fitsS at h
  split at h
  · simp at h; exact h.2
  split at h
  · simp at h; exact h.2
  split at h
  · simp at h; exact h.2
  split at h
  · simp at h; exact h.2
  split at h
  · omega
  · cases h
mutual
/-- A tree's nodes are gone through. -/
theorem VT.fwd : ∀ (t : VT), t.ok → ∀ (k : Nat) (L : List Nd) (a : Nat), t.flat.length ≤ k → Sub L a t.flat → valS L k a = some ⟨a + t.flat.length, t.deep, t.pos (a + 1)⟩
  | .leaf n, h, k, L, a, hk, hs => by
    obtain ⟨h1, h2, h3⟩ := h
    cases k with
    | zero => simp [VT.flat] at hk
    | succ k =>
      have hn := (Sub.cons.1 hs).1
      simp only [valS, hn, Option.bind_some, h1, if_true, leaf_kids h1 h2]
      rfl
  | .node m ms, h, k, L, a, hk, hs => by
    cases k with
    | zero => simp [VT.flat] at hk
    | succ k =>
      obtain ⟨hn, hs⟩ := Sub.cons.1 hs
      simp only [VT.flat, List.length_cons] at hk
      have := VL.fwd ms m none h.1 k L (a + 1) 0 0 [] [] (by omega) hs (fun _ => rfl) (fun _ l hl => by cases hl)
      have e1 : (headN m ms.len).kids.toNat = ms.len := by simp [headN]
      have e2 : decide ((headN m ms.len).kind = 5) = m := by cases m <;> simp [headN]
      simp only [valS, hn, Option.bind_some, head_fits, if_true, e1, e2, this, Option.map_some]
      simp [VT.flat, VT.deep, VT.pos]
      omega
theorem VL.fwd : ∀ (ms : VL) (m : Bool) (last : Option (List UInt8)), ms.ok m last → ∀ (k : Nat) (L : List Nd) (a i d : Nat) (ks : List Nat) (lb : List UInt8), (ms.flat m).length ≤ k → Sub L a (ms.flat m) →
    (last = none → i = 0) → (m = true → ∀ l, last = some l → lb = l) → kidsS (valS L k) L m ms.len i ⟨a, d, ks⟩ lb = some ⟨a + (ms.flat m).length, max d ms.deep, ks ++ ms.pos m a⟩
  | .nil, m, last, h, k, L, a, i, d, ks, lb, hk, hs, h1, h2 => by simp [VL.len, kidsS, VL.flat, VL.deep, VL.pos]
  | .cons key t r, m, last, h, k, L, a, i, d, ks, lb, hk, hs, h1, h2 => by
    obtain ⟨g1, g2, g3, g4⟩ := h
    simp only [VL.flat] at hk hs
    obtain ⟨s1, s2⟩ := Sub.app.1 hs
    obtain ⟨s2, s3⟩ := Sub.app.1 s2
    have hkey : keyS L m i a lb = some (a + (keyL m key).length, if m then key else lb) := by
      unfold keyS
      cases m with
      | false => simp [keyL]
      | true =>
        have hn := (Sub.cons.1 (show Sub L a (⟨3, 0, key, 0⟩ :: []) from s1)).1
        have hl : i = 0 ∨ ltB lb key = true := by
          cases last with
          | none => exact .inl (h1 rfl)
          | some l => rw [h2 rfl l rfl]; exact .inr (g3 rfl l rfl)
        simp [hn, key_fits, hl, keyL]
    have hv := VT.fwd t g1 k L (a + (keyL m key).length) (by simp at hk; omega) s2
    have hr := VL.fwd r m (some key) g4 k L (a + (keyL m key).length + t.flat.length) (i + 1) (max d t.deep) (ks ++ [a + (keyL m key).length]) (if m then key else lb) (by simp at hk; omega) s3 (fun h => by cases h) (fun hm l hl => by cases hl; rw [hm]; rfl)
    simp only [VL.len, kidsS, hkey, Option.bind_some, hv, hr]
    simp [VL.flat, VL.deep, VL.pos]
    omega
end
theorem kidsS_tree {val : Nat → Option Span} {L : List Nd} {m : Bool} (hv : ∀ a s, val a = some s → ∃ t : VT, t.ok ∧ Sub L a t.flat ∧ s = ⟨a + t.flat.length, t.deep, t.pos (a + 1)⟩) :
    ∀ {c i : Nat} {s r : Span} {lb : List UInt8}, kidsS val L m c i s lb = some r → ∃ ms : VL, (∀ last, (∀ l, last = some l → m = true → i ≠ 0 ∧ lb = l) → ms.ok m last) ∧ ms.len = c ∧ Sub L s.stop (ms.flat m) ∧ r = ⟨s.stop + (ms.flat m).length, max s.deep ms.deep, s.kids ++ ms.pos m s.stop⟩ := by
  intro c
  induction c with
  | zero => intro i s r lb h; cases h; exact ⟨.nil, fun _ _ => trivial, rfl, Sub.nil, by simp [VL.flat, VL.deep, VL.pos]⟩
  | succ c ih =>
    intro i s r lb h
    simp only [kidsS] at h
    rw [Option.bind_eq_some_iff] at h; obtain ⟨p, hp, h⟩ := h
    rw [Option.bind_eq_some_iff] at h; obtain ⟨kid, hk, h⟩ := h
    obtain ⟨t, t1, t2, rfl⟩ := hv _ _ hk
    obtain ⟨ms, m1, m2, m3, m4⟩ := ih h
    cases m with
    | false =>
      have hp : some (s.stop, lb) = some p := hp
      cases hp
      refine ⟨.cons [] t ms, fun last _ => ⟨t1, fun _ => rfl, fun h => (by cases h), m1 _ (fun l _ h => by cases h)⟩, by simp [VL.len, m2], ?_, ?_⟩
      · simp only [VL.flat, keyL]
        exact Sub.app.2 ⟨Sub.nil, Sub.app.2 ⟨by simpa using t2, by simpa using m3⟩⟩
      · rw [m4]; simp [VL.flat, VL.deep, VL.pos, keyL]; omega
    | true =>
      unfold keyS at hp
      simp only [if_true] at hp
      split at hp
      case h_2 => cases hp
      rename_i k hkn
      split at hp
      case isFalse => cases hp
      rename_i hc
      cases hp
      obtain ⟨c1, c2, c3⟩ := hc
      have hk3 : k = ⟨3, 0, k.text, 0⟩ := by
        obtain ⟨a, b, c, d⟩ := k
        simp only at c1; subst c1
        simp [fitsS] at c2 ⊢
        exact c2
      refine ⟨.cons k.text t ms, fun last hl => ⟨t1, fun h => (by cases h), fun _ l e => ?_, m1 _ (fun l e _ => by cases e; exact ⟨by omega, rfl⟩)⟩, by simp [VL.len, m2], ?_, ?_⟩
      · obtain ⟨g1, g2⟩ := hl l e rfl
        rw [← g2]; exact c3.resolve_left g1
      · simp only [VL.flat, keyL]
        refine Sub.app.2 ⟨?_, Sub.app.2 ⟨by simpa using t2, by simpa using m3⟩⟩
        simp only [if_true]
        exact Sub.cons.2 ⟨hk3 ▸ hkn, Sub.nil⟩
      · rw [m4]; simp [VL.flat, VL.deep, VL.pos, keyL]; omega
/-- What is gone through is a tree. -/
theorem valS_tree {L : List Nd} (hr : ∀ n ∈ L, n.inR) : ∀ {k a : Nat} {s : Span}, valS L k a = some s → ∃ t : VT, t.ok ∧ Sub L a t.flat ∧ s = ⟨a + t.flat.length, t.deep, t.pos (a + 1)⟩ := by
  intro k
  induction k with
  | zero => intro a s h; cases h
  | succ k ih =>
    intro a s h
    simp only [valS] at h
    rw [Option.bind_eq_some_iff] at h; obtain ⟨n, hn, h⟩ := h
    split at h
    case isFalse => cases h
    rename_i hf
    obtain ⟨r, hr1, rfl⟩ := Option.map_eq_some_iff.1 h
    have hin := hr n (List.mem_of_getElem? hn)
    by_cases h4 : n.kind < 4
    · rw [leaf_kids hf h4] at hr1
      cases hr1
      exact ⟨.leaf n, ⟨hf, h4, hin⟩, by simp only [VT.flat]; exact Sub.cons.2 ⟨hn, Sub.nil⟩, by simp [VT.flat, VT.deep, VT.pos]⟩
    · obtain ⟨ms, m1, m2, m3, m4⟩ := kidsS_tree (fun a s h => ih h) hr1
      have hkind : (n.kind = 4 ∨ n.kind = 5) ∧ n.num = 0 ∧ n.text = [] ∧ 0 ≤ n.kids := by
        unfold fitsS at hf
        rw [if_neg (by omega), if_neg (by omega), if_neg (by omega), if_neg (by omega)] at hf
        split at hf
        · rename_i hk; simp at hf; exact ⟨hk, hf.1.1, hf.1.2, hf.2⟩
        · cases hf
      obtain ⟨k1, k2, k3, k4⟩ := hkind
      have hhead : n = headN (decide (n.kind = 5)) ms.len := by
        obtain ⟨kd, nu, tx, ki⟩ := n
        simp only at k1 k2 k3 k4 m2
        subst k2 k3
        rcases k1 with rfl | rfl <;> simp [headN, m2, Int.toNat_of_nonneg k4]
      refine ⟨.node (decide (n.kind = 5)) ms, ⟨m1 none (fun l h => by cases h), by rw [m2]; have := hin.2.2.2; omega⟩, ?_, ?_⟩
      · simp only [VT.flat]
        exact Sub.cons.2 ⟨hhead ▸ hn, m3⟩
      · rw [m4]; simp [VT.flat, VT.deep, VT.pos]; omega
/-- A value is a tree. -/
theorem checkS_tree {l : List Nd} (hr : ∀ n ∈ l, n.inR) (hc : checkS l = 0) : ∃ t : VT, t.ok ∧ l = t.flat ∧ t.deep ≤ 32 := by
  obtain ⟨h1, h2, s, h3, h4⟩ := checkS_ok hc
  obtain ⟨h5, h6⟩ := wholeS_some h3
  obtain ⟨t, t1, t2, t3⟩ := valS_tree hr h5
  refine ⟨t, t1, ?_, by rw [t3] at h4; exact h4⟩
  have hne : t.flat ≠ [] := List.ne_nil_of_length_pos t.flat_pos
  have := t2.cut hne
  rw [t3] at h6
  simp only at h6
  unfold cutS at this
  rw [List.take_of_length_le (by omega)] at this
  simpa using this
end Go.Proofs.Ytcgkneolohcdeaa


/- Values as trees: their bytes. -/
namespace Go.Proofs.Ytcgkneolohcdeaa
open Go Abs
set_option linter.unusedSimpArgs false
set_option linter.unusedVariables false
/-- A leaf's bytes. -/
def leafB (n : Nd) : List UInt8 := if n.kind = 1 then [2, u8B n.num] else if n.kind = 2 then 3 :: numB n.num else if n.kind = 3 then 4 :: txtB n.text else [1]
def keyB (m : Bool) (k : List UInt8) : List UInt8 := if m then 1 :: txtB k else []
mutual
/-- Its bytes. -/
def VT.enc : VT → List UInt8
  | .leaf n => leafB n
  | .node m ms => (if m then 6 else 5) :: (ms.enc m ++ [0])
def VL.enc (m : Bool) : VL → List UInt8
  | .nil => []
  | .cons k t r => keyB m k ++ (t.enc ++ r.enc m)
end
theorem txtB_parts (s : List UInt8) : txtB s = txt0 s ++ [0, 0] := txtB_eq ..
end Go.Proofs.Ytcgkneolohcdeaa


/- What the functions come to: texts out of bytes. -/
namespace Go.Proofs.Ytcgkneolohcdeaa
open Go Abs
set_option linter.unusedSimpArgs false
set_option linter.unusedVariables false
attribute [local simp] canonK canonAll canonSlot canonCell canonBox ownStep restrictTo pureCells pureRows reachL AObj.names List.range_succ appendA
@[simp] theorem strsL_snoc {l : List (List UInt8)} {t : List UInt8} : strsL (l ++ [t]) = strsL l ++ [.str t] := by simp [strsL]
@[simp] theorem bsv34 {t : List UInt8} : bsvV G 39 1 [0] [.str t] = some (.list 1 [.str t]) := by kernel_rfl
/-! read, with a function that was handed a place for texts. -/
end Go.Proofs.Ytcgkneolohcdeaa


/- Values as trees: written and read. -/
namespace Go.Proofs.Ytcgkneolohcdeaa
open Go Abs
set_option linter.unusedSimpArgs false
set_option linter.unusedVariables false
/-- A leaf is one of these. -/
theorem leaf_form {n : Nd} (h : fitsS n = true) (hk : n.kind < 4) (hr : n.inR) : n = ⟨0, 0, [], 0⟩ ∨ n = ⟨1, 0, [], 0⟩ ∨ n = ⟨1, 1, [], 0⟩ ∨ n = ⟨2, n.num, [], 0⟩ ∨ n = ⟨3, 0, n.text, 0⟩ := by
  obtain ⟨kd, nu, tx, ki⟩ := n
  simp only at hk
  unfold fitsS at h
  simp only at h
  split at h
  · rename_i hk; subst hk
    simp only [Bool.and_eq_true, decide_eq_true_eq] at h
    obtain ⟨⟨h1, rfl⟩, rfl⟩ := h
    rcases (andNot1 hr.1 hr.2.1).1 h1 with rfl | rfl
    · exact .inr (.inl rfl)
    · exact .inr (.inr (.inl rfl))
  split at h
  · rename_i hk; subst hk; simp only [Bool.and_eq_true, decide_eq_true_eq] at h; obtain ⟨⟨rfl, rfl⟩, rfl⟩ := h; exact .inl rfl
  split at h
  · rename_i hk; subst hk; simp only [Bool.and_eq_true, decide_eq_true_eq] at h; obtain ⟨rfl, rfl⟩ := h; exact .inr (.inr (.inr (.inl rfl)))
  split at h
  · rename_i hk; subst hk; simp only [Bool.and_eq_true, decide_eq_true_eq] at h; obtain ⟨rfl, rfl⟩ := h; exact .inr (.inr (.inr (.inr rfl)))
  split at h
  · omega
  · cases h
/-! What is written. -/
theorem spanK_tree {L : List Nd} {t : VT} (h : t.ok) {a : Nat} (hs : Sub L a t.flat) : spanK L a = t.pos (a + 1) := by
  have hle := hs.le (List.ne_nil_of_length_pos t.flat_pos)
  unfold spanK
  rw [VT.fwd t h (L.length + 1) L a (by omega) hs]
  rfl
mutual
theorem VT.bytes : ∀ (t : VT), t.ok → ∀ (k : Nat) (L : List Nd) (a : Nat), t.flat.length ≤ k → Sub L a t.flat → valB L k a = t.enc
  | .leaf n, h, k, L, a, hk, hs => by
    obtain ⟨h1, h2, h3⟩ := h
    cases k with
    | zero => simp [VT.flat] at hk
    | succ k =>
      have hn := (Sub.cons.1 hs).1
      simp only [valB, hn]
      rcases leaf_form h1 h2 h3 with e | e | e | e | e <;> rw [e] <;> simp [VT.enc, leafB] <;> rfl
  | .node m ms, h, k, L, a, hk, hs => by
    cases k with
    | zero => simp [VT.flat] at hk
    | succ k =>
      have hsp := spanK_tree (t := .node m ms) h hs
      obtain ⟨hn, hs⟩ := Sub.cons.1 hs
      simp only [VT.flat, List.length_cons] at hk
      have := VL.bytes ms m none h.1 k L (a + 1) (by omega) hs
      simp only [valB, hn, hsp, VT.pos]
      cases m with
      | false => simp only [Bool.false_eq_true, if_false] at this; rw [this]; simp [headN, VT.enc]; rfl
      | true => simp only [if_true] at this; rw [this]; simp [headN, VT.enc]; rfl
theorem VL.bytes : ∀ (ms : VL) (m : Bool) (last : Option (List UInt8)), ms.ok m last → ∀ (k : Nat) (L : List Nd) (a : Nat), (ms.flat m).length ≤ k → Sub L a (ms.flat m) →
    allB (if m = true then memB L (valB L k) else valB L k) (ms.pos m a) = ms.enc m
  | .nil, m, last, h, k, L, a, hk, hs => by simp [VL.pos, VL.enc, allB]
  | .cons key t r, m, last, h, k, L, a, hk, hs => by
    obtain ⟨g1, g2, g3, g4⟩ := h
    simp only [VL.flat] at hk hs
    obtain ⟨s1, s2⟩ := Sub.app.1 hs
    obtain ⟨s2, s3⟩ := Sub.app.1 s2
    have hv := VT.bytes t g1 k L (a + (keyL m key).length) (by simp at hk; omega) s2
    have hr := VL.bytes r m (some key) g4 k L (a + (keyL m key).length + t.flat.length) (by simp at hk; omega) s3
    have e : ∀ f p ps, allB f (p :: ps) = f p ++ allB f ps := fun f p ps => by simp [allB]
    simp only [VL.pos, e, hr, VL.enc]
    cases m with
    | false => simp only [Bool.false_eq_true, if_false, hv]; simp [keyB]
    | true =>
      have hn := (Sub.cons.1 (show Sub L a (⟨3, 0, key, 0⟩ :: []) from s1)).1
      simp only [if_true, memB, hv]
      have hk1 : key1 L (a + (keyL true key).length) = key := by simp [key1, keyL, hn]
      rw [hk1]
      simp [keyB]
end
theorem putB_flat {t : VT} (h : t.ok) : putB t.flat = t.enc := VT.bytes t h (t.flat.length + 1) t.flat 0 (by omega) (fun i n hi => by rwa [Nat.zero_add])
/-! What is read. -/
theorem VT.enc_head : ∀ t : VT, t.ok → ∃ b x, t.enc = b :: x ∧ b ≠ 0
  | .leaf n, h => by
    obtain ⟨h1, h2, h3⟩ := h
    rcases leaf_form h1 h2 h3 with e | e | e | e | e <;> rw [e] <;> simp [VT.enc, leafB]
  | .node m ms, h => by cases m <;> exact ⟨_, _, rfl, by decide⟩
/-! What is read is what is written. -/
end Go.Proofs.Ytcgkneolohcdeaa


/- What the functions of the law of orders come to: few; the order is one. -/
namespace Go.Proofs.Ytcgkneolohcdeaa
open Go Abs
set_option linter.unusedSimpArgs false
set_option linter.unusedVariables false
/-! Few -/
def fewsS (L : List (List Nd)) : Bool := decide (L.length ≤ 20) && (L.take 21).all fewS
set_option maxHeartbeats 8000000 in
theorem fews_loop (L : List (List Nd)) (z : AV) (hz : z = .list 1 (ndsL L)) : ∃ x s, lp 7 (lc Try.f7 0) { sl := [(0, z), (3, .int .i64 0)], hp := [] } = some (x, s) ∧
    ((x = .ret ∧ s = { sl := [(2, .bool false)], hp := [] } ∧ (L.take 21).all fewS = false) ∨ (x = .exit 0 ∧ (∃ sl, s = { sl := (0, z) :: sl, hp := [] }) ∧ (L.take 21).all fewS = true)) := by
  subst hz
  have := for_loop (f := 7) (c := lc Try.f7 0) (n := min L.length 21) (σ := fun i => { sl := [(0, .list 1 (ndsL L)), (3, .int .i64 (i : Int))], hp := [] }) (P := fun i => (L.take i).all fewS = true)
    (Q := fun x s => (x = .ret ∧ s = { sl := [(2, .bool false)], hp := [] } ∧ (L.take 21).all fewS = false) ∨ (x = .exit 0 ∧ (∃ sl, s = { sl := (0, .list 1 (ndsL L)) :: sl, hp := [] }) ∧ (L.take 21).all fewS = true))
    (fun i hi hp => ?_) (fun hp => ?_) 0 (by omega) (by simp)
  · exact this
  · have h1 : i < L.length := by omega
    obtain ⟨n, hn⟩ : ∃ n, L[i]? = some n := ⟨L[i], List.getElem?_eq_getElem h1⟩
    have h1' : (i : Int) < L.length := by omega
    have h2' : (i : Int) ≤ 20 := by omega
    have hw : IntKind.i64.wrap ((i : Int) + 1) = (i : Int) + 1 := i64_wrap (by omega) (by omega)
    have hg := ndsL_get hn
    have hf := fun d st => few_call (l := n) (d := d) (st := st)
    cases ht : fewS n with
    | true =>
      rw [ht] at hf
      left
      refine ⟨by simp [lc, loopsOf, Try.f7, h1', h2', hn, hw, hg, hf], ?_⟩
      rw [List.take_add_one, hn]
      simp only [List.all_append, hp, Option.toList_some, List.all_cons, List.all_nil, Bool.and_true, Bool.true_and, ht]
    | false =>
      rw [ht] at hf
      right
      refine ⟨.ret, _, by simp [lc, loopsOf, Try.f7, h1', h2', hn, hw, hg, hf], by simp, .inl ⟨rfl, rfl, ?_⟩⟩
      have : n ∈ L.take 21 := List.mem_of_getElem? (i := i) (by rw [List.getElem?_take, if_pos (by omega)]; exact hn)
      rw [List.all_eq_false]
      exact ⟨n, this, by simpa using ht⟩
  · have hall : (L.take 21).all fewS = true := by
      rcases Nat.le_total L.length 21 with h | h
      · rw [Nat.min_eq_left h, List.take_of_length_le (Nat.le_refl _)] at hp
        rw [List.take_of_length_le h]; exact hp
      · rwa [Nat.min_eq_right h] at hp
    rcases Nat.lt_or_ge L.length 21 with h | h
    · have e : min L.length 21 = L.length := by omega
      exact ⟨.exit 0, ⟨[(0, .list 1 (ndsL L)), (3, .int .i64 (min L.length 21 : Nat)), (12, .bool false)], []⟩, by simp [lc, loopsOf, Try.f7, e], by simp, .inr ⟨rfl, ⟨_, rfl⟩, hall⟩⟩
    · have e : min L.length 21 = 21 := by omega
      by_cases h2 : L.length = 21
      · exact ⟨.exit 0, ⟨[(0, .list 1 (ndsL L)), (3, .int .i64 (min L.length 21 : Nat)), (12, .bool false)], []⟩, by simp [lc, loopsOf, Try.f7, e, h2], by simp, .inr ⟨rfl, ⟨_, rfl⟩, hall⟩⟩
      · have h3 : (21 : Int) < L.length := by omega
        exact ⟨.exit 0, ⟨[(0, .list 1 (ndsL L)), (3, .int .i64 (min L.length 21 : Nat)), (12, .bool false)], []⟩, by simp [lc, loopsOf, Try.f7, e, h3], by simp, .inr ⟨rfl, ⟨_, rfl⟩, hall⟩⟩
set_option maxHeartbeats 8000000 in
theorem fews_eq (L : List (List Nd)) : cl 7 [.list 1 (ndsL L)] [] = some (.ret (.bool (fewsS L)), []) := by
  obtain ⟨x, s, h, hx⟩ := fews_loop L _ rfl
  refine fn_intro Try.func7 rfl (by simp) (by decide) rfl ?_
  simp [lc, loopsOf, Try.f7] at h
  rcases hx with ⟨rfl, rfl, hf⟩ | ⟨rfl, ⟨sl, rfl⟩, hall⟩
  · simp [Try.f7, h]
    exact end_is (.inr rfl) (by simp; rfl) rfl (by simp [hf, fewsS])
  · by_cases hl : L.length ≤ 20
    · have hl' : (L.length : Int) ≤ 20 := by omega
      simp [Try.f7, h, hl']
      exact end_is (.inr rfl) (by simp; rfl) rfl (by simp [fewsS, hl, hall])
    · have hl' : ¬ (L.length : Int) ≤ 20 := by omega
      simp [Try.f7, h, hl']
      exact end_is (.inr rfl) (by simp; rfl) rfl (by simp [fewsS, hl])
theorem fews_call {L : List (List Nd)} {d : Option Nat} {st : ASt} : callV G cl d (.fn (.func 7) [] []) [.list 1 (ndsL L)] st = some (.val (.bool (fewsS L)) st) :=
  callV_ret E7 (by decide) ext7 rfl rfl (fews_eq L) rfl
theorem works6_call {d : Option Nat} {st : ASt} : callV G cl d (.fn (.func 6) [] []) [] st = some (.val (.bool true) st) :=
  callV_ret E6 (by decide) ext6 rfl rfl (call_prim (p := worksP) (by decide) (by rfl) rfl) rfl
end Go.Proofs.Ytcgkneolohcdeaa


/- What the law OrderTotal comes to. -/
namespace Go.Proofs.Ytcgkneolohcdeaa
open Go Abs
set_option linter.unusedSimpArgs false
set_option linter.unusedVariables false
attribute [local simp] canonK canonAll canonSlot canonCell canonBox ownStep restrictTo pureCells pureRows reachL AObj.names List.range_succ appendA
theorem fewsS_mem {L : List (List Nd)} (h : fewsS L = true) {l : List Nd} (hl : l ∈ L) : l.length ≤ 130 := by
  unfold fewsS at h
  simp only [Bool.and_eq_true, decide_eq_true_eq] at h
  rw [List.take_of_length_le (by omega)] at h
  exact fewS_len (List.all_eq_true.1 h.2 l hl)
/-- What is in a row of the call's own. -/
theorem fews_own {L : List (List Nd)} {n : Nat} {fx mv : Bool} {t : TypeId} {d : Option Nat} {sl : Slots} : callV G cl d (.fn (.func 7) [] []) [.own n] ⟨sl, [(n, .row 1 (ndsL L) fx ⟨mv, t⟩)]⟩ = some (.val (.bool (fewsS L)) (ASt.fix ⟨sl, [(n, .row 1 (ndsL L) fx ⟨mv, t⟩)]⟩ [n])) := by
  refine callV_rv (pre := [.list 1 (ndsL L)]) E7 (by decide) ext7 rfl rfl ?_ ?_ (fews_eq L) ?_
  · simp
  · simp
  · simp
end Go.Proofs.Ytcgkneolohcdeaa


/- What comes to something at one limit comes to it at every greater one, and without a limit. -/
namespace Go.Proofs.Ytcgkneolohcdeaa.Abs
open Go
set_option linter.unusedSimpArgs false
set_option linter.unusedVariables false
section
variable {G : Cfg} {cf : CallFn} {lf : LoopFn} {ck : Nat → CallFn} {lk : Nat → LoopFn}
theorem callA_evG (HC : ∀ g args hp r, cf g args hp = some r → Ev (fun k => ck k g args hp) r) {d : Option Nat} {fv : AV} {args : List AV} {st : ASt} {r : AR} (h : callA G cf d fv args st = some r) :
    Ev (fun k => callA G (ck k) d fv args st) r := by
  unfold callA at h ⊢
  obtain ⟨y, hy, rfl⟩ := Option.map_eq_some_iff.1 h
  exact (callB_evG HC hy).map _

theorem aop_evG (HC : ∀ g args hp r, cf g args hp = some r → Ev (fun k => ck k g args hp) r) {o : Oper} {st : ASt} {r : AR} (h : aop G cf o st = some r) : Ev (fun k => aop G (ck k) o st) r := by
  unfold aop at h ⊢
  split at h
  · split at h
    · exact ⟨0, fun _ _ => h⟩
    · exact callA_evG HC h
  · split at h
    · unfold invA at h ⊢
      split at h
      · rw [Option.bind_eq_some_iff] at h
        obtain ⟨m, hm, h⟩ := h
        rw [Option.bind_eq_some_iff] at h
        obtain ⟨u, hu, h⟩ := h
        exact Ev.bind ⟨0, fun _ _ => hm⟩ (Ev.bind ⟨0, fun _ _ => hu⟩ (callA_evG HC h))
      · cases h
    · exact ⟨0, fun _ _ => h⟩

theorem aops_evG (HC : ∀ g args hp r, cf g args hp = some r → Ev (fun k => ck k g args hp) r) {ops : Array Oper} (l : List Nat) : ∀ {st : ASt} {r : AX × ASt}, aops G cf ops l st = some r → Ev (fun k => aops G (ck k) ops l st) r := by
  induction l with
  | nil => intro st r h; exact ⟨0, fun _ _ => h⟩
  | cons i l ih =>
    intro st r h
    simp only [aops] at h ⊢
    cases ho : ops[i]? with
    | none => simp only [ho] at h ⊢; exact ih h
    | some o =>
      simp only [ho] at h ⊢
      rw [Option.bind_eq_some_iff] at h
      obtain ⟨g, hg, h⟩ := h
      refine Ev.bind ⟨0, fun _ _ => hg⟩ ?_
      cases g with
      | false =>
        simp only [Bool.false_eq_true, if_false] at h ⊢
        split at h
        case isFalse => cases h
        rename_i hsk
        simp only [if_pos hsk]
        exact ih h
      | true =>
        simp only [if_true] at h ⊢
        rw [Option.bind_eq_some_iff] at h
        obtain ⟨a, ha, h⟩ := h
        refine Ev.bind (aop_evG HC ha) ?_
        cases a with
        | val v s => exact ih h
        | pan v s => exact ⟨0, fun _ _ => h⟩

theorem runPlan_evG (HC : ∀ g args hp r, cf g args hp = some r → Ev (fun k => ck k g args hp) r) {ops : Array Oper} (l : List PS) : ∀ {st : ASt} {r : AX × ASt}, runPlan G cf ops l st = some r → Ev (fun k => runPlan G (ck k) ops l st) r := by
  induction l with
  | nil => intro st r h; exact ⟨0, fun _ _ => h⟩
  | cons x l ih =>
    intro st r h
    cases x with
    | n i =>
      simp only [runPlan] at h ⊢
      rw [Option.bind_eq_some_iff] at h
      obtain ⟨o, ho, h⟩ := h
      rw [Option.bind_eq_some_iff] at h
      obtain ⟨v, hv, h⟩ := h
      exact Ev.bind ⟨0, fun _ _ => ho⟩ (Ev.bind ⟨0, fun _ _ => hv⟩ (ih h))
    | e j re =>
      simp only [runPlan] at h ⊢
      rw [Option.bind_eq_some_iff] at h
      obtain ⟨o, ho, h⟩ := h
      rw [Option.bind_eq_some_iff] at h
      obtain ⟨a, ha, h⟩ := h
      refine Ev.bind ⟨0, fun _ _ => ho⟩ (Ev.bind (a := a) ?_ ?_)
      · unfold stepE at ha ⊢
        rw [Option.bind_eq_some_iff] at ha
        obtain ⟨g, hg, ha⟩ := ha
        refine Ev.bind ⟨0, fun _ _ => hg⟩ ?_
        cases g with
        | true => simp only [if_true] at ha ⊢; exact aop_evG HC ha
        | false => simp only [Bool.false_eq_true, if_false] at ha ⊢; exact ⟨0, fun _ _ => ha⟩
      · cases a with
        | pan v s => exact ⟨0, fun _ _ => h⟩
        | val v s =>
          simp only at h ⊢
          split at h
          · rename_i hc; simp only [hc, if_true]; exact ih h
          · cases h
    | sw j k re =>
      simp only [runPlan] at h ⊢
      split at h
      case isFalse => cases h
      rename_i hc
      simp only [if_pos hc]
      rw [Option.bind_eq_some_iff] at h
      obtain ⟨s0, h0, h⟩ := h
      rw [Option.bind_eq_some_iff] at h
      obtain ⟨s1, h1, h⟩ := h
      rw [Option.bind_eq_some_iff] at h
      obtain ⟨s2, h2, h⟩ := h
      exact Ev.bind ⟨0, fun _ _ => h0⟩ (Ev.bind ⟨0, fun _ _ => h1⟩ (Ev.bind ⟨0, fun _ _ => h2⟩ (ih h)))

theorem codeX_evG (HC : ∀ g args hp r, cf g args hp = some r → Ev (fun k => ck k g args hp) r) (HL : ∀ f c st r, lf f c st = some r → Ev (fun k => lk k f c st) r) {f : FuncId} (c : Code) : ∀ {st : ASt} {r : AX × ASt}, codeX G cf lf f c st = some r →
    Ev (fun k => codeX G (ck k) (lk k) f c st) r := by
  induction c with
  | skip => intro st r h; exact ⟨0, fun _ _ => h⟩
  | label l => intro st r h; exact ⟨0, fun _ _ => h⟩
  | exit id => intro st r h; exact ⟨0, fun _ _ => h⟩
  | ret => intro st r h; exact ⟨0, fun _ _ => h⟩
  | scope b _ => intro st r h; exact ⟨0, fun _ _ => h⟩
  | goto l => intro st r h; exact ⟨0, fun _ _ => h⟩
  | refuse w => intro st r h; exact ⟨0, fun _ _ => h⟩
  | rangeFunc g ps a b _ _ =>
    intro st r h
    simp only [codeX] at h ⊢
    split at h
    · cases h
    · rename_i hc
      simp only [if_neg hc]
      rw [Option.bind_eq_some_iff] at h
      obtain ⟨y, hy, h⟩ := h
      exact Ev.bind (callB_evG HC hy) ⟨0, fun _ _ => h⟩
  | region id ops draw =>
    intro st r h
    simp only [codeX] at h ⊢
    rw [Option.bind_eq_some_iff] at h
    obtain ⟨y, h1, h2⟩ := h
    refine Ev.bind ?_ ⟨0, fun _ _ => h2⟩
    split at h1
    · rename_i hd
      simp only [hd, if_true]
      rw [Option.bind_eq_some_iff] at h1
      obtain ⟨p, hp, hs⟩ := h1
      exact Ev.bind (f := fun k (p : List PS) => runPlan G (ck k) ops p st) ⟨0, fun _ _ => hp⟩ (runPlan_evG HC p hs)
    · rename_i hd; simp only [if_neg hd]; exact aops_evG HC _ h1
  | seq a b iha ihb =>
    intro st r h
    simp only [codeX] at h ⊢
    rw [Option.bind_eq_some_iff] at h
    obtain ⟨⟨x, s⟩, h1, h2⟩ := h
    refine Ev.bind (iha h1) ?_
    cases x with
    | normal => exact ihb h2
    | exit i => exact ⟨0, fun _ _ => h2⟩
    | ret => exact ⟨0, fun _ _ => h2⟩
    | pan v => exact ⟨0, fun _ _ => h2⟩
  | cond c a b iha ihb =>
    intro st r h
    cases hc : st.ev c with
    | bool t =>
      simp only [codeX, hc] at h ⊢
      cases t with
      | true => simp only [if_true] at h ⊢; exact iha h
      | false => simp only [Bool.false_eq_true, if_false] at h ⊢; exact ihb h
    | _ => simp [codeX, hc] at h
  | block id b ih =>
    intro st r h
    simp only [codeX] at h ⊢
    rw [Option.bind_eq_some_iff] at h
    obtain ⟨⟨x, s⟩, h1, h2⟩ := h
    exact Ev.bind (ih h1) ⟨0, fun _ _ => h2⟩
  | loop b _ =>
    intro st r h
    simp only [codeX] at h ⊢
    rw [Option.bind_eq_some_iff] at h
    obtain ⟨s, h1, h2⟩ := h
    exact Ev.bind ⟨0, fun _ _ => h1⟩ (HL _ _ _ _ h2)

theorem runBody_evG (HC : ∀ g args hp r, cf g args hp = some r → Ev (fun k => ck k g args hp) r) (HL : ∀ f c st r, lf f c st = some r → Ev (fun k => lk k f c st) r) {g : FuncId} {args : List AV} {hp : Heap} {r : ARes × Heap} (h : runBody G cf lf g args hp = some r) :
    Ev (fun k => runBody G (ck k) (lk k) g args hp) r := by
  unfold runBody at h ⊢
  rw [Option.bind_eq_some_iff] at h
  obtain ⟨fn, h1, h⟩ := h
  refine Ev.bind ⟨0, fun _ _ => h1⟩ ?_
  rw [Option.bind_eq_some_iff] at h
  obtain ⟨c, h2, h⟩ := h
  refine Ev.bind ⟨0, fun _ _ => h2⟩ ?_
  rw [Option.bind_eq_some_iff] at h
  obtain ⟨y, h3, h⟩ := h
  exact Ev.bind (codeX_evG HC HL c h3) ⟨0, fun _ _ => h⟩

theorem runRound_evG (HC : ∀ g args hp r, cf g args hp = some r → Ev (fun k => ck k g args hp) r) (HL : ∀ f c st r, lf f c st = some r → Ev (fun k => lk k f c st) r) {L : Nat} {args : List AV} {hp : Heap} {r : ARes × Heap} (h : runRound G cf lf L args hp = some r) :
    Ev (fun k => runRound G (ck k) (lk k) L args hp) r := by
  unfold runRound at h ⊢
  split at h
  · rename_i r0 sl h0
    simp only [h0]
    split at h
    · rename_i hc
      simp only [if_pos hc]
      rw [Option.bind_eq_some_iff] at h
      obtain ⟨⟨y1, y2⟩, hy, h⟩ := h
      refine Ev.bind (codeX_evG HC HL _ hy) ?_
      cases y1 with
      | normal =>
        simp only at h ⊢
        cases h1 : aget y2.hp L with
        | none => rw [h1] at h; cases h
        | some o =>
          rw [h1] at h
          cases o with
          | loop r1 sl1 =>
            simp only at h ⊢
            split at h
            · rename_i hc1
              simp only [if_pos hc1]
              rw [Option.bind_eq_some_iff] at h
              obtain ⟨z, hz, h⟩ := h
              exact Ev.bind (codeX_evG HC HL _ hz) ⟨0, fun _ _ => h⟩
            · cases h
          | _ => cases h
      | _ => cases h
    · cases h
  · cases h

theorem runBodyD_evG (HC : ∀ g args hp r, cf g args hp = some r → Ev (fun k => ck k g args hp) r) (HL : ∀ f c st r, lf f c st = some r → Ev (fun k => lk k f c st) r) {g : FuncId} {args : List AV} {hp : Heap} {r : ARes × Heap} (h : runBodyD G cf lf g args hp = some r) :
    Ev (fun k => runBodyD G (ck k) (lk k) g args hp) r := by
  unfold runBodyD at h ⊢
  rw [Option.bind_eq_some_iff] at h; obtain ⟨fn, h1, h⟩ := h
  refine Ev.bind ⟨0, fun _ _ => h1⟩ ?_
  rw [Option.bind_eq_some_iff] at h; obtain ⟨q, h2, h⟩ := h
  refine Ev.bind ⟨0, fun _ _ => h2⟩ ?_
  rw [Option.bind_eq_some_iff] at h; obtain ⟨⟨x0, s0⟩, h3, h⟩ := h
  refine Ev.bind (codeX_evG HC HL _ h3) ?_
  cases x0 with
  | normal =>
    simp only at h ⊢
    rw [Option.bind_eq_some_iff] at h; obtain ⟨⟨x1, s1⟩, h4, h⟩ := h
    refine Ev.bind (aops_evG HC _ h4) ?_
    cases x1 with
    | normal =>
      simp only at h ⊢
      split at h
      · rename_i hc
        simp only [if_pos hc]
        rw [Option.bind_eq_some_iff] at h; obtain ⟨y2, h5, h⟩ := h
        refine Ev.bind (codeX_evG HC HL _ h5) ?_
        split at h
        · cases h
        rename_i hbx
        simp only [if_neg hbx]
        rw [Option.bind_eq_some_iff] at h; obtain ⟨rv, h6, h⟩ := h
        refine Ev.bind ⟨0, fun _ _ => h6⟩ ?_
        rw [Option.bind_eq_some_iff] at h; obtain ⟨z, h7, h⟩ := h
        exact Ev.bind ⟨0, fun _ _ => h7⟩ ⟨0, fun _ _ => h⟩
      · cases h
    | _ => cases h
  | _ => cases h
theorem runFn_evG (HC : ∀ g args hp r, cf g args hp = some r → Ev (fun k => ck k g args hp) r) (HL : ∀ f c st r, lf f c st = some r → Ev (fun k => lk k f c st) r) {g : FuncId} {args : List AV} {hp : Heap} {r : ARes × Heap} (h : runFn G cf lf g args hp = some r) :
    Ev (fun k => runFn G (ck k) (lk k) g args hp) r := by
  unfold runFn at h ⊢
  split at h
  · rename_i hd; simp only [if_pos hd]; exact runBodyD_evG HC HL h
  · rename_i hd; simp only [if_neg hd]; exact runBody_evG HC HL h


theorem loopStep_evG (HC : ∀ g args hp r, cf g args hp = some r → Ev (fun k => ck k g args hp) r) (HL : ∀ f c st r, lf f c st = some r → Ev (fun k => lk k f c st) r) {f : FuncId} {c : Code} {st : ASt} {r : AX × ASt} (h : loopStep G cf lf f c st = some r) : Ev (fun k => loopStep G (ck k) (lk k) f c st) r := by
  unfold loopStep at h ⊢
  rw [Option.bind_eq_some_iff] at h
  obtain ⟨⟨x, s⟩, h1, h2⟩ := h
  refine Ev.bind (codeX_evG HC HL c h1) ?_
  cases x with
  | normal =>
    rw [Option.bind_eq_some_iff] at h2
    obtain ⟨s', h3, h4⟩ := h2
    exact Ev.bind ⟨0, fun _ _ => h3⟩ (HL _ _ _ _ h4)
  | exit i => exact ⟨0, fun _ _ => h2⟩
  | ret => exact ⟨0, fun _ _ => h2⟩
  | pan v => exact ⟨0, fun _ _ => h2⟩
end
theorem Ev.const {α : Type} {x : Option α} {y : α} (h : Ev (fun _ => x) y) : x = some y := by
  obtain ⟨K, h⟩ := h; exact h K (Nat.le_refl _)
theorem both_succ {G : Cfg} {prim : FuncId → Option CallFn} : ∀ k, (∀ g args hp r, (both G prim k).1 g args hp = some r → (both G prim (k + 1)).1 g args hp = some r) ∧ (∀ f c st r, (both G prim k).2 f c st = some r → (both G prim (k + 1)).2 f c st = some r) := by
  intro k
  induction k with
  | zero => exact ⟨fun g args hp r h => (by cases h), fun f c st r h => (by cases h)⟩
  | succ k ih =>
    have hc : ∀ g args hp r, (both G prim k).1 g args hp = some r → Ev (fun _ => (both G prim (k + 1)).1 g args hp) r := fun g args hp r h => ⟨0, fun _ _ => ih.1 g args hp r h⟩
    have hl : ∀ f c st r, (both G prim k).2 f c st = some r → Ev (fun _ => (both G prim (k + 1)).2 f c st) r := fun f c st r h => ⟨0, fun _ _ => ih.2 f c st r h⟩
    refine ⟨fun g args hp r h => ?_, fun f c st r h => ?_⟩
    · rw [both] at h ⊢
      simp only at h ⊢
      split at h
      · rename_i hg
        rw [if_pos hg]
        split at h
        · exact h
        · exact Ev.const (runFn_evG (ck := fun _ => (both G prim (k + 1)).1) (lk := fun _ => (both G prim (k + 1)).2) hc hl h)
      · rename_i hg
        rw [if_neg hg]
        exact Ev.const (runRound_evG (ck := fun _ => (both G prim (k + 1)).1) (lk := fun _ => (both G prim (k + 1)).2) hc hl h)
    · rw [both] at h ⊢
      simp only at h ⊢
      exact Ev.const (loopStep_evG (ck := fun _ => (both G prim (k + 1)).1) (lk := fun _ => (both G prim (k + 1)).2) hc hl h)
theorem both_le {G : Cfg} {prim : FuncId → Option CallFn} {k k' : Nat} (h : k ≤ k') {g : FuncId} {args : List AV} {hp : Heap} {r : ARes × Heap} (hr : (both G prim k).1 g args hp = some r) : (both G prim k').1 g args hp = some r := by
  induction h with
  | refl => exact hr
  | step _ ih => exact (both_succ _).1 _ _ _ _ ih
/-- What was gone through is what it comes to. -/
theorem callL_of_run {G : Cfg} {prim : FuncId → Option CallFn} {k : Nat} {g : FuncId} {args : List AV} {hp : Heap} {r : ARes × Heap} (hr : (both G prim k).1 g args hp = some r) : callL G prim g args hp = some r :=
  limit_of ⟨k, fun _ hk => both_le hk hr⟩
end Go.Proofs.Ytcgkneolohcdeaa.Abs


/- What the functions come to: TreeDeep. -/
namespace Go.Proofs.Ytcgkneolohcdeaa
open Go Abs
set_option linter.unusedSimpArgs false
set_option linter.unusedVariables false

attribute [local simp] canonK canonAll canonSlot canonCell canonBox ownStep restrictTo pureCells pureRows reachL AObj.names List.range_succ appendA
theorem ordS_one (k : List UInt8) : ordS [k] = [0] := rfl
theorem mapR_one (k : List UInt8) (l : List Nd) : mapR [k] [l] = some (⟨5, 0, [], 1⟩ :: bodyS true [(k, l)]) := by
  unfold mapR
  rw [ordS_one]
  simp [memL, keyK, bodyS]
end Go.Proofs.Ytcgkneolohcdeaa


/- The order of lists, and maps, that are made of values: no program is looked at here. -/
namespace Go.Proofs.Ytcgkneolohcdeaa
open Go Abs
set_option linter.unusedSimpArgs false
set_option linter.unusedVariables false
theorem enc_list : ∀ {K : List (List Nd)}, (∀ m ∈ K, ∀ n ∈ m, n.inR) → (∀ m ∈ K, checkS m = 0) → ∃ ms : VL, (∀ last, ms.ok false last) ∧ ms.len = K.length ∧ ms.flat false = K.flatten ∧ ms.enc false = (K.map putB).flatten
  | [], _, _ => ⟨.nil, fun _ => by simp [VL.ok], rfl, rfl, rfl⟩
  | m :: K, hr, hc => by
    obtain ⟨ms, h1, h2, h3, h4⟩ := enc_list (K := K) (fun x hx => hr x (List.mem_cons_of_mem _ hx)) (fun x hx => hc x (List.mem_cons_of_mem _ hx))
    obtain ⟨t, ht, e, _⟩ := checkS_tree (hr m (by simp)) (hc m (by simp))
    refine ⟨.cons [] t ms, fun last => ?_, ?_, ?_, ?_⟩
    · simp [VL.ok, ht, h1]
    · simp [VL.len, h2]
    · simp [VL.flat, keyL, h3, e]
    · rw [VL.enc, h4, ← putB_flat ht, ← e]; simp [keyB]
theorem putB_list {K : List (List Nd)} (hr : ∀ m ∈ K, ∀ n ∈ m, n.inR) (hc : ∀ m ∈ K, checkS m = 0) (hl : K.length ≤ 1000000) : putB (listS K) = 5 :: ((K.map putB).flatten ++ [0]) := by
  obtain ⟨ms, h1, h2, h3, h4⟩ := enc_list hr hc
  have hok : (VT.node false ms).ok := by simp only [VT.ok]; exact ⟨h1 _, by omega⟩
  have e : listS K = (VT.node false ms).flat := by simp [VT.flat, headN, listS, h2, h3]
  rw [e, putB_flat hok, VT.enc, h4]; simp
def mapOne (k : List UInt8) (a : List Nd) : List Nd := ⟨5, 0, [], 1⟩ :: ⟨3, 0, k, 0⟩ :: a
theorem putB_one {k : List UInt8} {a : List Nd} (hr : ∀ n ∈ a, n.inR) (hc : checkS a = 0) : putB (mapOne k a) = 6 :: 1 :: (txtB k ++ (putB a ++ [0])) := by
  obtain ⟨t, ht, e, _⟩ := checkS_tree hr hc
  have hok : (VT.node true (.cons k t .nil)).ok := by simp [VT.ok, VL.ok, VL.len, ht]
  have e2 : mapOne k a = (VT.node true (.cons k t .nil)).flat := by simp [VT.flat, VL.flat, headN, keyL, VL.len, mapOne, e]
  rw [e2, putB_flat hok, VT.enc, VL.enc, VL.enc, ← putB_flat ht, ← e]; simp [keyB]
theorem ord_val {a b : List Nd} (ra : ∀ n ∈ a, n.inR) (rb : ∀ n ∈ b, n.inR) (ca : checkS a = 0) (cb : checkS b = 0) : ordT (putB a ++ [0]) (putB b ++ [0]) = orderS a b := by
  rw [ordT_val a.length a b (Nat.le_refl _) ra rb ca cb, ordT_self]
  have e : orderS a b = cmpS a.length a b := by unfold orderS; rw [if_pos ⟨ca, cb⟩]
  rw [e]
  by_cases h : cmpS a.length a b = 0
  · rw [if_pos h, h]
  · rw [if_neg h]
theorem ord_self0 (x : UInt8) (s u : List UInt8) : ordT (x :: s) (x :: u) = ordT s u := by rw [ordT_cons, if_pos rfl]
theorem listS_inR {K : List (List Nd)} (hr : ∀ m ∈ K, ∀ n ∈ m, n.inR) (hl : K.length ≤ 1000000) : ∀ n ∈ listS K, n.inR := fun n hn => by
  rcases List.mem_cons.1 hn with rfl | hn
  · exact ⟨by simp, by simp, by simp only; omega, by simp only; omega⟩
  · obtain ⟨m, hm, hn⟩ := List.mem_flatten.1 hn
    exact hr m hm n hn
theorem mem_snoc {α : Type} {K : List α} {a m : α} (h : m ∈ K ++ [a]) : m ∈ K ∨ m = a := by simpa using h
section
variable {K : List (List Nd)} {a b : List Nd} (hr : ∀ m ∈ K, ∀ n ∈ m, n.inR) (hc : ∀ m ∈ K, checkS m = 0) (hl : K.length ≤ 1000) (ra : ∀ n ∈ a, n.inR) (ca : checkS a = 0) (rb : ∀ n ∈ b, n.inR) (cb : checkS b = 0)
include hr hc hl ra ca rb cb
theorem order_lists (hx : checkS (listS (K ++ [a])) = 0) (hy : checkS (listS (K ++ [b])) = 0) : orderS (listS (K ++ [a])) (listS (K ++ [b])) = orderS a b := by
  have hra : ∀ m ∈ K ++ [a], ∀ n ∈ m, n.inR := fun m hm => (mem_snoc hm).elim (hr m) (fun e => e ▸ ra)
  have hrb : ∀ m ∈ K ++ [b], ∀ n ∈ m, n.inR := fun m hm => (mem_snoc hm).elim (hr m) (fun e => e ▸ rb)
  have hca : ∀ m ∈ K ++ [a], checkS m = 0 := fun m hm => (mem_snoc hm).elim (hc m) (fun e => e ▸ ca)
  have hcb : ∀ m ∈ K ++ [b], checkS m = 0 := fun m hm => (mem_snoc hm).elim (hc m) (fun e => e ▸ cb)
  rw [← putB_order (listS_inR hra (by simp; omega)) (listS_inR hrb (by simp; omega)) hx hy, putB_list hra hca (by simp; omega), putB_list hrb hcb (by simp; omega), ord_self0]
  simp only [List.map_append, List.map_cons, List.map_nil, List.flatten_append, List.flatten_cons, List.flatten_nil, List.append_nil, List.append_assoc]
  rw [ordT_same, ord_val ra rb ca cb]
omit rb cb in
theorem order_longer (hx : checkS (listS (K ++ [a])) = 0) (hz : checkS (listS K) = 0) : orderS (listS K) (listS (K ++ [a])) = -1 := by
  have hra : ∀ m ∈ K ++ [a], ∀ n ∈ m, n.inR := fun m hm => (mem_snoc hm).elim (hr m) (fun e => e ▸ ra)
  have hca : ∀ m ∈ K ++ [a], checkS m = 0 := fun m hm => (mem_snoc hm).elim (hc m) (fun e => e ▸ ca)
  rw [← putB_order (listS_inR hr (by omega)) (listS_inR hra (by simp; omega)) hz hx, putB_list hra hca (by simp; omega), putB_list hr hc (by omega), ord_self0]
  simp only [List.map_append, List.map_cons, List.map_nil, List.flatten_append, List.flatten_cons, List.flatten_nil, List.append_nil, List.append_assoc]
  rw [ordT_same]
  obtain ⟨t, ht, e, _⟩ := checkS_tree ra ca
  obtain ⟨h, r, h1, h2⟩ := VT.enc_head t ht
  rw [e, putB_flat ht, h1, List.cons_append, ordT_cons, if_neg (fun x => h2 x.symm), if_pos]
  exact UInt8.pos_iff_ne_zero.2 h2
omit hr hc hl in
theorem order_maps (k : List UInt8) (hx : checkS (mapOne k a) = 0) (hy : checkS (mapOne k b) = 0) (h1 : ∀ n ∈ mapOne k a, n.inR) (h2 : ∀ n ∈ mapOne k b, n.inR) : orderS (mapOne k a) (mapOne k b) = orderS a b := by
  rw [← putB_order h1 h2 hx hy, putB_one ra ca, putB_one rb cb, ord_self0, ord_self0, ordT_same, ord_val ra rb ca cb]
omit hr hc hl rb cb in
theorem order_keys (k l : List UInt8) (hk : ordT k l = -1) (hx : checkS (mapOne k a) = 0) (hy : checkS (mapOne l a) = 0) (h1 : ∀ n ∈ mapOne k a, n.inR) (h2 : ∀ n ∈ mapOne l a, n.inR) : orderS (mapOne k a) (mapOne l a) = -1 := by
  rw [← putB_order h1 h2 hx hy, putB_one ra ca, putB_one ra ca, ord_self0, ord_self0, ordT_txt, hk]; rfl
end
end Go.Proofs.Ytcgkneolohcdeaa


/- What the law CodeBack comes to. -/
namespace Go.Proofs.Ytcgkneolohcdeaa
open Go Abs
set_option linter.unusedSimpArgs false
set_option linter.unusedVariables false
attribute [local simp] canonK canonAll canonSlot canonCell canonBox ownStep restrictTo pureCells pureRows reachL AObj.names List.range_succ appendA
/-- What of code is left when some of it has been walked. -/
def tl : Nat → Code → Code
  | 0, c => c
  | n + 1, .seq _ b => tl n b
  | _ + 1, c => c
/-- The same, behind other code. -/
def graft : Nat → Code → Code → Code
  | 0, _, T => T
  | n + 1, .seq a b, T => .seq a (graft n b T)
  | _ + 1, c, _ => c
theorem graft_tl : ∀ (n : Nat) (c : Code), graft n c (tl n c) = c
  | 0, c => rfl
  | n + 1, c => by
    cases c with
    | seq a b => simp only [graft, tl, graft_tl n b]
    | _ => rfl
end Go.Proofs.Ytcgkneolohcdeaa


/- What the law OrderLists comes to. -/
namespace Go.Proofs.Ytcgkneolohcdeaa
open Go Abs
set_option linter.unusedSimpArgs false
set_option linter.unusedVariables false
attribute [local simp] canonK canonAll canonSlot canonCell canonBox ownStep restrictTo pureCells pureRows reachL AObj.names List.range_succ appendA
set_option maxHeartbeats 8000000 in
theorem all_loop (a b : List Nd) (k : List (List Nd)) (hl : k.length ≤ 1000) (hk : ∀ m ∈ k, m.length ≤ 130) (hr : ∀ m ∈ k, ∀ n ∈ m, n.inR) : ∃ x s, lp 5 (lc Try.f5 0) { sl := [(0, nds a), (1, nds b), (2, .list 1 (ndsL k)), (7, .bool true), (9, .int .i64 0)], hp := [] } = some (x, s) ∧
    ((x = .ret ∧ s = { sl := [(6, .bool true)], hp := [] } ∧ ¬ ∀ m ∈ k, checkS m = 0) ∨ (x = .exit 0 ∧ (∃ sl, s = { sl := (0, nds a) :: (1, nds b) :: (2, .list 1 (ndsL k)) :: (7, .bool true) :: sl, hp := [] }) ∧ ∀ m ∈ k, checkS m = 0)) := by
  have := for_loop (f := 5) (c := lc Try.f5 0) (n := k.length) (σ := fun i => { sl := [(0, nds a), (1, nds b), (2, .list 1 (ndsL k)), (7, .bool true), (9, .int .i64 (i : Int))], hp := [] }) (P := fun i => ∀ m ∈ k.take i, checkS m = 0)
    (Q := fun x s => (x = .ret ∧ s = { sl := [(6, .bool true)], hp := [] } ∧ ¬ ∀ m ∈ k, checkS m = 0) ∨ (x = .exit 0 ∧ (∃ sl, s = { sl := (0, nds a) :: (1, nds b) :: (2, .list 1 (ndsL k)) :: (7, .bool true) :: sl, hp := [] }) ∧ ∀ m ∈ k, checkS m = 0))
    (fun i hi hp => ?_) (fun hp => ?_) 0 (by omega) (by simp)
  · exact this
  · obtain ⟨n, hn⟩ : ∃ n, k[i]? = some n := ⟨k[i], List.getElem?_eq_getElem hi⟩
    have h1' : (i : Int) < k.length := by omega
    have hw : IntKind.i64.wrap ((i : Int) + 1) = (i : Int) + 1 := i64_wrap (by omega) (by omega)
    have hg := ndsL_get hn
    have hm : n ∈ k := List.mem_of_getElem? hn
    have hc := fun d st => check_call (l := n) (by have := hk n hm; omega) (hr n hm) (d := d) (st := st)
    simp only [nds] at hc
    by_cases h0 : checkS n = 0
    · left
      refine ⟨by simp [lc, loopsOf, Try.f5, nds, h1', hn, hw, hg, hc, h0], fun m hm => ?_⟩
      rw [List.take_add_one, hn] at hm
      rcases List.mem_append.1 hm with h | h
      · exact hp m h
      · obtain rfl : m = n := by simpa using h
        exact h0
    · right
      exact ⟨.ret, _, by simp [lc, loopsOf, Try.f5, nds, h1', hn, hw, hg, hc, h0], by simp, .inl ⟨rfl, rfl, fun h => h0 (h n hm)⟩⟩
  · rw [List.take_of_length_le (Nat.le_refl _)] at hp
    exact ⟨.exit 0, ⟨[(0, nds a), (1, nds b), (2, .list 1 (ndsL k)), (7, .bool true), (9, .int .i64 k.length), (50, .bool false)], []⟩, by simp [lc, loopsOf, Try.f5, nds], by simp, .inr ⟨rfl, ⟨_, rfl⟩, hp⟩⟩
theorem fews_tot {L : List (List Nd)} (h : fewsS L = true) : L.length ≤ 20 := by
  unfold fewsS at h
  simp only [Bool.and_eq_true, decide_eq_true_eq] at h
  exact h.1
theorem tot_le {L : List (List Nd)} (h : ∀ m ∈ L, m.length ≤ 130) : tot L ≤ 130 * L.length := by
  induction L with
  | nil => simp [tot]
  | cons m l ih =>
    have e : tot (m :: l) = m.length + tot l := by simp [tot]
    rw [e, List.length_cons]
    have := ih (fun x hx => h x (List.mem_cons_of_mem _ hx))
    have := h m (by simp)
    omega
/-- A list that is made of a row of the call's own. -/
theorem list_own {L : List (List Nd)} (hk : L.length ≤ 1000) (ht : tot L ≤ 1000000) (hr : ∀ m ∈ L, ∀ n ∈ m, n.inR) {n : Nat} {fx mv : Bool} {t : TypeId} {d : Option Nat} {sl : Slots} {H : Heap} (h : aget H n = some (.row 1 (ndsL L) fx ⟨mv, t⟩)) : callV G cl d (.fn (.func 15) [] []) [.own n] ⟨sl, H⟩ = some (.val (checkedV (listS L)) (ASt.fix ⟨sl, H⟩ [n])) := by
  refine callV_rv (pre := [.list 1 (ndsL L)]) E15 (by decide) ext15 rfl rfl ?_ ?_ (list_eq L hk ht hr) checkedV_names
  · simp [h]
  · simp [h]
def okO (l : List Nd) : Option (List Nd) := if checkS l = 0 then some l else none
theorem checkedV_ndo (l : List Nd) : checkedV l = .tup [ndo (okO l), .int .i64 (checkS l)] := by
  unfold checkedV okO
  by_cases h : checkS l = 0
  · rw [if_pos h, if_pos h, h]; rfl
  · rw [if_neg h, if_neg h]; rfl
noncomputable def body5 : Code := Try.f5.body.getD .skip
theorem ndsL_one {m : List Nd} : ndsL [m] = [nds m] := rfl
theorem ndsL_app {K M : List (List Nd)} : ndsL (K ++ M) = ndsL K ++ ndsL M := by simp [ndsL]
def hp5a (a b : List Nd) (k : List (List Nd)) : Heap := [(1075, .row 1 [nds b] false ⟨false, 22⟩), (1071, .row 1 (ndsL k ++ [nds b]) true ⟨true, 22⟩), (1065, .row 1 [nds a] false ⟨false, 22⟩), (1061, .row 1 (ndsL k ++ [nds a]) true ⟨true, 22⟩)]
def st5a (a b : List Nd) (k : List (List Nd)) : ASt := ⟨[(0, nds a), (1, nds b), (7, .bool true), (10, ndo (okO (listS (k ++ [a])))), (11, .int .i64 (checkS (listS (k ++ [a])))), (12, ndo (okO (listS (k ++ [b])))), (13, .int .i64 (checkS (listS (k ++ [b])))), (14, ndo (okO (listS k))), (15, .int .i64 (checkS (listS k)))], hp5a a b k⟩
set_option maxHeartbeats 16000000 in
theorem lists_part (T : Code) (a b : List Nd) (k : List (List Nd)) (sl : Slots) (ra : ∀ n ∈ a, n.inR) (rb : ∀ n ∈ b, n.inR) (rk : ∀ m ∈ k, ∀ n ∈ m, n.inR) (la : a.length ≤ 130) (lb : b.length ≤ 130) (lk : ∀ m ∈ k, m.length ≤ 130) (lk2 : k.length ≤ 20) :
    codeX G cl lp 5 (graft 3 (tl 6 body5) T) ⟨(0, nds a) :: (1, nds b) :: (2, .list 1 (ndsL k)) :: (7, .bool true) :: sl, []⟩ = codeX G cl lp 5 T (st5a a b k) := by
  have lt := tot_le lk
  have lta : tot (k ++ [a]) ≤ 1000000 := by simp [tot] at lt ⊢; omega
  have ltb : tot (k ++ [b]) ≤ 1000000 := by simp [tot] at lt ⊢; omega
  have rka : ∀ m ∈ k ++ [a], ∀ n ∈ m, n.inR := fun m hm => (mem_snoc hm).elim (rk m) (fun e => e ▸ ra)
  have rkb : ∀ m ∈ k ++ [b], ∀ n ∈ m, n.inR := fun m hm => (mem_snoc hm).elim (rk m) (fun e => e ▸ rb)
  have ha := fun d sl H h => list_own (L := k ++ [a]) (by simp; omega) lta rka (n := 1061) (fx := false) (mv := true) (t := 22) (d := d) (sl := sl) (H := H) h
  have hb := fun d sl H h => list_own (L := k ++ [b]) (by simp; omega) ltb rkb (n := 1071) (fx := false) (mv := true) (t := 22) (d := d) (sl := sl) (H := H) h
  have hk : ∀ d st, callV G cl d (.fn (.func 15) [] []) [.list 1 (ndsL k)] st = some (.val (checkedV (listS k)) st) := fun d st => callV_ret E15 (by decide) ext15 rfl rfl (list_eq k (by omega) (by omega) rk) checkedV_names
  have L1 : k.length ≤ LIM := by unfold LIM; omega
  have L2 : k.length + 1 ≤ LIM := by unfold LIM; omega
  rw [checkedV_ndo] at ha hb hk
  simp only [ndsL_app, ndsL_one, nds] at ha hb hk
  simp [body5, tl, graft, Try.f5, nds, L1, L2, ndsL_app, ndsL_one, ha, hb, hk, st5a, hp5a]
theorem map_own {K : List (List UInt8)} {L : List (List Nd)} (hK : K.length ≤ 12) (hr : ∀ m ∈ L, ∀ n ∈ m, n.inR) (hc : ∀ m ∈ L, m.length ≤ 1000) {n p : Nat} {fx fx' : Bool} {rm rm' : RM} {d : Option Nat} {sl : Slots} {H : Heap} (h1 : aget H p = some (.row 1 (strsL K) fx' rm')) (h2 : aget H n = some (.row 1 (ndsL L) fx rm)) :
    callV G cl d (.fn (.func 16) [] []) [.own p, .own n] ⟨sl, H⟩ = some (.val (mapV K L) (ASt.fix ⟨sl, H⟩ [p, n])) := by
  refine callV_rv (pre := [.list 1 (strsL K), .list 1 (ndsL L)]) E16 (by decide) ext16 rfl rfl ?_ ?_ (map_eq K L hK hr hc) mapV_names
  · simp [h1, h2]
  · simp [h1, h2]
theorem mapV_one (k : List UInt8) (a : List Nd) : mapV [k] [a] = .tup [ndo (okO (mapOne k a)), .int .i64 (checkS (mapOne k a))] := by
  have h : mapR [k] [a] = some (mapOne k a) := by rw [mapR_one]; simp [bodyS, mapOne]
  unfold mapV
  rw [h]
  exact checkedV_ndo _
def st5c (a b : List Nd) (k : List (List Nd)) : ASt := ⟨[(0, nds a), (1, nds b), (7, .bool true), (10, ndo (okO (listS (k ++ [a])))), (12, ndo (okO (listS (k ++ [b])))), (14, ndo (okO (listS k))), (16, ndo (okO (mapOne [107] a))), (17, .int .i64 (checkS (mapOne [107] a))), (18, ndo (okO (mapOne [107] b))), (19, .int .i64 (checkS (mapOne [107] b))), (20, ndo (okO (mapOne [108] a))), (21, .int .i64 (checkS (mapOne [108] a)))],
  (1113, .row 1 [nds a] true ⟨false, 22⟩) :: (1111, .row 1 [.str [108]] true ⟨false, 9⟩) :: (1106, .row 1 [nds b] true ⟨false, 22⟩) :: (1104, .row 1 [.str [107]] true ⟨false, 9⟩) :: (1099, .row 1 [nds a] true ⟨false, 22⟩) :: (1097, .row 1 [.str [107]] true ⟨false, 9⟩) :: hp5a a b k⟩
set_option maxHeartbeats 16000000 in
theorem lists_out (T : Code) (a b : List Nd) (k : List (List Nd)) (h : ¬ (checkS (listS (k ++ [a])) = 0 ∧ checkS (listS (k ++ [b])) = 0 ∧ checkS (listS k) = 0)) : endX G 5 [] [ResultVar.tmp 6] (codeX G cl lp 5 (graft 1 (tl 9 body5) T) (st5a a b k)) = some (.ret (.bool true), []) := by
  by_cases h1 : checkS (listS (k ++ [a])) = 0
  case neg =>
    simp [body5, tl, graft, Try.f5, st5a, hp5a, nds, h1]
    exact end_is (.inr rfl) (by first | rfl | (simp; rfl)) rfl rfl
  by_cases h2 : checkS (listS (k ++ [b])) = 0
  case neg =>
    simp [body5, tl, graft, Try.f5, st5a, hp5a, nds, h1, h2]
    exact end_is (.inr rfl) (by first | rfl | (simp; rfl)) rfl rfl
  by_cases h3 : checkS (listS k) = 0
  case neg =>
    simp [body5, tl, graft, Try.f5, st5a, hp5a, nds, h1, h2, h3]
    exact end_is (.inr rfl) (by first | rfl | (simp; rfl)) rfl rfl
  exact absurd ⟨h1, h2, h3⟩ h
set_option maxHeartbeats 16000000 in
theorem lists_on (T : Code) (a b : List Nd) (k : List (List Nd)) (h1 : checkS (listS (k ++ [a])) = 0) (h2 : checkS (listS (k ++ [b])) = 0) (h3 : checkS (listS k) = 0) (ra : ∀ n ∈ a, n.inR) (rb : ∀ n ∈ b, n.inR) (la : a.length ≤ 130) (lb : b.length ≤ 130) :
    codeX G cl lp 5 (graft 4 (tl 9 body5) T) (st5a a b k) = codeX G cl lp 5 T (st5c a b k) := by
  have ma := fun d sl H h1 h2 => map_own (K := [[107]]) (L := [a]) (by simp) (by simpa using ra) (by simp; omega) (n := 1099) (p := 1097) (fx := false) (fx' := false) (rm := ⟨false, 22⟩) (rm' := ⟨false, 9⟩) (d := d) (sl := sl) (H := H) h1 h2
  have mb := fun d sl H h1 h2 => map_own (K := [[107]]) (L := [b]) (by simp) (by simpa using rb) (by simp; omega) (n := 1106) (p := 1104) (fx := false) (fx' := false) (rm := ⟨false, 22⟩) (rm' := ⟨false, 9⟩) (d := d) (sl := sl) (H := H) h1 h2
  have mc := fun d sl H h1 h2 => map_own (K := [[108]]) (L := [a]) (by simp) (by simpa using ra) (by simp; omega) (n := 1113) (p := 1111) (fx := false) (fx' := false) (rm := ⟨false, 22⟩) (rm' := ⟨false, 9⟩) (d := d) (sl := sl) (H := H) h1 h2
  rw [mapV_one] at ma mb mc
  simp only [ndsL_one, nds, strsL, List.map_cons, List.map_nil] at ma mb mc
  simp [body5, tl, graft, Try.f5, st5a, hp5a, nds, h1, h2, h3, ma, mb, mc, st5c]
set_option maxHeartbeats 16000000 in
theorem lists_out2 (T : Code) (a b : List Nd) (k : List (List Nd)) (h : ¬ (checkS (mapOne [107] a) = 0 ∧ checkS (mapOne [107] b) = 0 ∧ checkS (mapOne [108] a) = 0)) : endX G 5 [] [ResultVar.tmp 6] (codeX G cl lp 5 (graft 1 (tl 13 body5) T) (st5c a b k)) = some (.ret (.bool true), []) := by
  by_cases h1 : checkS (mapOne [107] a) = 0
  case neg =>
    simp [body5, tl, graft, Try.f5, st5c, hp5a, nds, h1]
    exact end_is (.inr rfl) (by first | rfl | (simp; rfl)) rfl rfl
  by_cases h2 : checkS (mapOne [107] b) = 0
  case neg =>
    simp [body5, tl, graft, Try.f5, st5c, hp5a, nds, h1, h2]
    exact end_is (.inr rfl) (by first | rfl | (simp; rfl)) rfl rfl
  by_cases h3 : checkS (mapOne [108] a) = 0
  case neg =>
    simp [body5, tl, graft, Try.f5, st5c, hp5a, nds, h1, h2, h3]
    exact end_is (.inr rfl) (by first | rfl | (simp; rfl)) rfl rfl
  exact absurd ⟨h1, h2, h3⟩ h
theorem mapOne_inR {k : List UInt8} {a : List Nd} (ra : ∀ n ∈ a, n.inR) : ∀ n ∈ mapOne k a, n.inR := fun n hn => by
  simp only [mapOne, List.mem_cons] at hn
  rcases hn with rfl | rfl | hn
  · exact ⟨by simp, by simp, by simp, by simp⟩
  · exact ⟨by simp, by simp, by simp, by simp⟩
  · exact ra n hn
set_option maxHeartbeats 16000000 in
theorem lists_end (a b : List Nd) (k : List (List Nd)) (h1 : checkS (listS (k ++ [a])) = 0) (h2 : checkS (listS (k ++ [b])) = 0) (h3 : checkS (listS k) = 0) (h4 : checkS (mapOne [107] a) = 0) (h5 : checkS (mapOne [107] b) = 0) (h6 : checkS (mapOne [108] a) = 0)
    (ra : ∀ n ∈ a, n.inR) (rb : ∀ n ∈ b, n.inR) (rk : ∀ m ∈ k, ∀ n ∈ m, n.inR) (ca : checkS a = 0) (cb : checkS b = 0) (ck : ∀ m ∈ k, checkS m = 0) (lk : k.length ≤ 20) :
    endX G 5 [] [ResultVar.tmp 6] (codeX G cl lp 5 (tl 13 body5) (st5c a b k)) = some (.ret (.bool true), []) := by
  have rka : ∀ m ∈ k ++ [a], ∀ n ∈ m, n.inR := fun m hm => (mem_snoc hm).elim (rk m) (fun e => e ▸ ra)
  have rkb : ∀ m ∈ k ++ [b], ∀ n ∈ m, n.inR := fun m hm => (mem_snoc hm).elim (rk m) (fun e => e ▸ rb)
  have rx := listS_inR rka (by simp; omega)
  have ry := listS_inR rkb (by simp; omega)
  have rz := listS_inR rk (by omega)
  have rp := mapOne_inR (k := [107]) ra
  have rq := mapOne_inR (k := [107]) rb
  have rr := mapOne_inR (k := [108]) ra
  have lx := (checkS_ok h1).1
  have ly := (checkS_ok h2).1
  have lz := (checkS_ok h3).1
  have lp := (checkS_ok h4).1
  have lq := (checkS_ok h5).1
  have lr := (checkS_ok h6).1
  have la := (checkS_ok ca).1
  have lb := (checkS_ok cb).1
  have o1 := fun d st => order_call (a := a) (b := b) (by omega) (by omega) ra rb (d := d) (st := st)
  have o2 := fun d st => order_call (a := listS (k ++ [a])) (b := listS (k ++ [b])) (by omega) (by omega) rx ry (d := d) (st := st)
  have o3 := fun d st => order_call (a := listS k) (b := listS (k ++ [a])) (by omega) (by omega) rz rx (d := d) (st := st)
  have o4 := fun d st => order_call (a := mapOne [107] a) (b := mapOne [107] b) (by omega) (by omega) rp rq (d := d) (st := st)
  have o5 := fun d st => order_call (a := mapOne [107] a) (b := mapOne [108] a) (by omega) (by omega) rp rr (d := d) (st := st)
  rw [order_lists rk ck (by omega) ra ca rb cb h1 h2] at o2
  rw [order_longer rk ck (by omega) ra ca h1 h3] at o3
  rw [order_maps ra ca rb cb [107] h4 h5 rp rq] at o4
  rw [order_keys ra ca [107] [108] rfl h4 h6 rp rr] at o5
  have s1 : ∀ d st, callV G cl d (.fn (.func 17) [] []) [nds (listS (k ++ [a])), nds (listS (k ++ [a]))] st = some (.val (.bool true) st) := fun d st => callV_ret E17 (by decide) ext17 rfl rfl (by have := same18_eq (listS (k ++ [a])) (listS (k ++ [a])) (by omega); simpa using this) rfl
  simp only [nds] at o1 o2 o3 o4 o5 s1
  simp [body5, tl, Try.f5, st5c, hp5a, nds, h1, h2, h3, h4, h5, h6, okO, ndo, o1, o2, o3, o4, o5, s1]
  exact end_is (.inr rfl) (by first | rfl | (simp; rfl)) rfl rfl
theorem okfacts {a b : List Nd} {k : List (List Nd)} (hk : fewsS [a, b] = true) (hk2 : fewsS k = true) : a.length ≤ 130 ∧ b.length ≤ 130 ∧ (∀ m ∈ k, m.length ≤ 130) ∧ k.length ≤ 20 :=
  ⟨fewsS_mem hk (by simp), fewsS_mem hk (by simp), fun m hm => fewsS_mem hk2 hm, fews_tot hk2⟩
set_option maxHeartbeats 16000000 in
theorem lists_head (T : Code) (a : List Nd) (ra : ∀ n ∈ a, n.inR) (b : List Nd) (rb : ∀ n ∈ b, n.inR) (k : List (List Nd)) (rk : ∀ m ∈ k, ∀ n ∈ m, n.inR) :
    endX G 5 [] [ResultVar.tmp 6] (codeX G cl lp 5 (graft 6 body5 T) ⟨[(0, nds a), (1, nds b), (2, .list 1 (ndsL k))], []⟩) = some (.ret (.bool true), []) ∨
    ((a.length ≤ 130 ∧ b.length ≤ 130 ∧ (∀ m ∈ k, m.length ≤ 130) ∧ k.length ≤ 20) ∧ checkS a = 0 ∧ checkS b = 0 ∧ (∀ m ∈ k, checkS m = 0) ∧ ∃ sl, codeX G cl lp 5 (graft 6 body5 T) ⟨[(0, nds a), (1, nds b), (2, .list 1 (ndsL k))], []⟩ = codeX G cl lp 5 T ⟨(0, nds a) :: (1, nds b) :: (2, .list 1 (ndsL k)) :: (7, .bool true) :: sl, []⟩) := by
  have hw := fun d st => works6_call (d := d) (st := st)
  have hf := fun d sl => fews_own (L := [a, b]) (n := 1028) (fx := false) (mv := false) (t := 22) (d := d) (sl := sl)
  have hf2 := fun d st => fews_call (L := k) (d := d) (st := st)
  simp only [ndsL, List.map_cons, List.map_nil] at hf
  cases hk : fewsS [a, b] with
  | false =>
    rw [hk] at hf
    simp only [nds] at hf
    left
    simp [body5, graft, Try.f5, nds, hw, hf]
    exact end_is (.inr rfl) (by first | rfl | (simp; rfl)) rfl rfl
  | true =>
  rw [hk] at hf
  cases hk2 : fewsS k with
  | false =>
    rw [hk2] at hf2
    simp only [nds] at hf
    left
    simp [body5, graft, Try.f5, nds, hw, hf, hf2]
    exact end_is (.inr rfl) (by first | rfl | (simp; rfl)) rfl rfl
  | true =>
  rw [hk2] at hf2
  have la := fewsS_mem hk (l := a) (by simp)
  have lb := fewsS_mem hk (l := b) (by simp)
  have lk := fun m hm => fewsS_mem hk2 (l := m) hm
  have lk2 := fews_tot hk2
  have lk3 := tot_le lk
  have ka := fun d st => check_call (l := a) (by omega) ra (d := d) (st := st)
  have kb := fun d st => check_call (l := b) (by omega) rb (d := d) (st := st)
  obtain ⟨x, s, hlp, hx⟩ := all_loop a b k (by omega) lk rk
  simp only [nds] at hf ka kb hlp hx
  by_cases ca : checkS a = 0
  case neg =>
    left
    simp [body5, graft, Try.f5, nds, hw, hf, hf2, ka, ca]
    exact end_is (.inr rfl) (by first | rfl | (simp; rfl)) rfl rfl
  by_cases cb : checkS b = 0
  case neg =>
    left
    simp [body5, graft, Try.f5, nds, hw, hf, hf2, ka, ca, kb, cb]
    exact end_is (.inr rfl) (by first | rfl | (simp; rfl)) rfl rfl
  simp [lc, loopsOf, Try.f5] at hlp
  rcases hx with ⟨rfl, rfl, hno⟩ | ⟨rfl, ⟨sl, rfl⟩, ck⟩
  · simp [body5, graft, Try.f5, nds, hw, hf, hf2, ka, ca, kb, cb, hlp]
    exact .inl (end_is (.inr rfl) (by first | rfl | (simp; rfl)) rfl rfl)
  right
  refine ⟨okfacts hk hk2, ca, cb, ck, sl, ?_⟩
  simp [body5, graft, Try.f5, nds, hw, hf, hf2, ka, ca, kb, cb, hlp]
theorem orderLists_eq (a : List Nd) (ra : ∀ n ∈ a, n.inR) (b : List Nd) (rb : ∀ n ∈ b, n.inR) (k : List (List Nd)) (rk : ∀ m ∈ k, ∀ n ∈ m, n.inR) : cl 5 [nds a, nds b, .list 1 (ndsL k)] [] = some (.ret (.bool true), []) := by
  have key : endX G 5 [] [ResultVar.tmp 6] (codeX G cl lp 5 body5 ⟨[(0, nds a), (1, nds b), (2, .list 1 (ndsL k))], []⟩) = some (.ret (.bool true), []) := by
    rw [← graft_tl 6 body5]
    rcases lists_head (tl 6 body5) a ra b rb k rk with h | ⟨⟨la, lb, lk, lk2⟩, ca, cb, ck, sl, h⟩
    · exact h
    rw [h, ← graft_tl 3 (tl 6 body5), lists_part _ a b k sl ra rb rk la lb lk lk2]
    show endX G 5 [] [ResultVar.tmp 6] (codeX G cl lp 5 (tl 9 body5) (st5a a b k)) = _
    by_cases h1 : checkS (listS (k ++ [a])) = 0 ∧ checkS (listS (k ++ [b])) = 0 ∧ checkS (listS k) = 0
    case neg => rw [← graft_tl 1 (tl 9 body5)]; exact lists_out _ a b k h1
    rw [← graft_tl 4 (tl 9 body5), lists_on _ a b k h1.1 h1.2.1 h1.2.2 ra rb la lb]
    show endX G 5 [] [ResultVar.tmp 6] (codeX G cl lp 5 (tl 13 body5) (st5c a b k)) = _
    by_cases h2 : checkS (mapOne [107] a) = 0 ∧ checkS (mapOne [107] b) = 0 ∧ checkS (mapOne [108] a) = 0
    case neg => rw [← graft_tl 1 (tl 13 body5)]; exact lists_out2 _ a b k h2
    exact lists_end a b k h1.1 h1.2.1 h1.2.2 h2.1 h2.2.1 h2.2.2 ra rb rk ca cb ck lk2
  exact fn_intro Try.func5 rfl (by simp) (by decide) rfl key
end Go.Proofs.Ytcgkneolohcdeaa

