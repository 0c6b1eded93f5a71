/- What the functions come to: code.read, First, Get, Split. What the functions come to: texts out of bytes. What the functions come to: First, Get, Split. Lists that are the same. -/
import Derived.Test.YtonaejfpiihfhaaPkP

/- What the functions come to: code.read, First, Get, Split. -/
namespace Go.Proofs.Ytonaejfpiihfhaa
open Go Abs
set_option linter.unusedSimpArgs false
set_option linter.unusedVariables false
attribute [local simp] canonK canonAll canonSlot canonCell canonBox ownStep restrictTo pureCells pureRows reachL AObj.names List.range_succ appendA
/-! First$1, Get$1. -/
theorem first72 (s : List UInt8) (hb : s.length ≤ 800000) : Says 72 [] s ((valP (s.length + 1) s).map fun p => (.tup [], p.2)) := by
  have h := value70 (s.length + 1) s (by omega) hb
  cases hv : valP (s.length + 1) s with
  | none =>
    rw [hv] at h
    obtain ⟨s', h⟩ := h
    have hm := fun d sl hp' (h0 : aget hp' 0 = some (rBox s)) => read_P1 (d := d) (sl := sl) (hp := hp') (i := 0) (g := 70) (rest := []) E70 (by decide) rfl (by simp) h0 h
    simp only [rBox] at hm
    refine ⟨s', fn_intro Try.func72 rfl (by simp) (by decide) rfl ?_⟩
    simp [Try.f72, hpR1, rBox, hm]
    exact endRp plain_odd rfl
  | some p =>
    rw [hv] at h
    have hm := fun d sl hp (h0 : aget hp 0 = some (rBox s)) => value_some h (d := d) (sl := sl) h0
    simp only [rBox] at hm
    refine fn_intro Try.func72 rfl (by simp) (by decide) rfl ?_
    simp [Try.f72, hpR1, rBox, hm]
    exact endR (vs := []) (.inl rfl) rfl plain_unit rfl
def box22 (l : Option (List Nd)) : AObj := .box 22 (match l with | some l => nds l | none => .nils)
theorem get69 (s : List UInt8) (hb : s.length ≤ 800000) : match valP (s.length + 1) s with
    | some p => cl 69 [.ptr 0 0 0, .ptr 1 0 0] [(0, rBox s), (1, box22 none)] = some (.ret (.tup []), [(0, rBox p.2), (1, box22 (some p.1))])
    | none => ∃ s', cl 69 [.ptr 0 0 0, .ptr 1 0 0] [(0, rBox s), (1, box22 none)] = some (.pan oddR, [(0, rBox s'), (1, box22 none)]) := by
  have h := value70 (s.length + 1) s (by omega) hb
  cases hv : valP (s.length + 1) s with
  | none =>
    rw [hv] at h
    obtain ⟨s', h⟩ := h
    have hm := fun d sl hp' (h0 : aget hp' 0 = some (rBox s)) => read_P1 (d := d) (sl := sl) (hp := hp') (i := 0) (g := 70) (rest := []) E70 (by decide) rfl (by simp) h0 h
    simp only [rBox] at hm
    refine ⟨s', fn_intro Try.func69 rfl (by simp) (by decide) rfl ?_⟩
    simp [Try.f69, box22, rBox, hm]
    rfl
  | some p =>
    rw [hv] at h
    have hm := fun d sl hp (h0 : aget hp 0 = some (rBox s)) => value_some h (d := d) (sl := sl) h0
    simp only [rBox, nds] at hm
    refine fn_intro Try.func69 rfl (by simp) (by decide) rfl ?_
    simp [Try.f69, box22, rBox, hm, nds]
    rfl
/-! The closure that looks for a panic. -/
theorem callB_gen {call : CallFn} {d : Option Nat} {g : FuncId} {first caps args pre : List AV} {st st1 st3 : ASt} {ns : List Nat} {y : ARes × Heap} (hE : G.E g = true) (hg : g < RB) (hpre : prepL G g st.hp (first ++ args ++ caps) 0 = pre)
    (hst : st.fix (prepRows G g (first ++ args ++ caps) 0) = st1) (hns : reachL 40 st1.hp (AV.namesL pre) [] = ns) (hall : (ns.all fun n => (aget st1.hp n).isSome) = true)
    (hc : call g (AV.renL (toMap ns) pre) (subHeap ns st1.hp) = some y) (ha : afterCall d ns st1 y.2 = some st3) : callB G call d (.fn (.func g) first caps) args st = some (answered (backMap ns d y.2) st3 y.1, movedOf ns y.2) := by
  simp only [callB, hpre, hst, hns, hE, hg, hall, decide_true, Bool.and_true, if_true, hc, Option.bind_some, ha, Option.map_some]
theorem clo_nil (t : List UInt8) (b : Bool) : runClosure G .nili 99 [.ptr 0 0 0, .ptr 1 0 0] [(0, .box 9 (.str t)), (1, .box 4 (.bool b))] = some (.ret (.tup []), [(0, .box 9 (.str t)), (1, .box 4 (.bool b))]) := by kernel_rfl
theorem clo_odd (t : List UInt8) (b : Bool) : runClosure G oddR 99 [.ptr 0 0 0, .ptr 1 0 0] [(0, .box 9 (.str t)), (1, .box 4 (.bool b))] = some (.ret (.tup []), [(0, .box 9 (.str [])), (1, .box 4 (.bool false))]) := by kernel_rfl
theorem clo_call {rv : AV} {p q : Nat} (hpq : p ≠ q) {sl : Slots} {H : Heap} {t t' : List UInt8} {b b' : Bool} (h0 : aget H p = some (.box 9 (.str t))) (h1 : aget H q = some (.box 4 (.bool b)))
    (hc : runClosure G rv 99 [.ptr 0 0 0, .ptr 1 0 0] [(0, .box 9 (.str t)), (1, .box 4 (.bool b))] = some (.ret (.tup []), [(0, .box 9 (.str t')), (1, .box 4 (.bool b'))])) :
    callB G (runClosure G rv) (some 40000) (.fn (.func 99) [] [.ptr p 0 0, .ptr q 0 0]) [] ⟨sl, H⟩ = some (.val (.tup []) ⟨sl, [(p, .box 9 (.str t')), (q, .box 4 (.bool b'))] ++ H⟩, []) := by
  have hqp : q ≠ p := fun e => hpq e.symm
  have := callB_gen (call := runClosure G rv) (d := some 40000) (g := 99) (first := []) (args := []) (caps := [.ptr p 0 0, .ptr q 0 0]) (pre := [.ptr p 0 0, .ptr q 0 0]) (st := ⟨sl, H⟩) (st1 := ⟨sl, H⟩) (ns := [p, q]) (y := (.ret (.tup []), [(0, .box 9 (.str t')), (1, .box 4 (.bool b'))]))
    (st3 := ⟨sl, [(p, .box 9 (.str t')), (q, .box 4 (.bool b'))] ++ H⟩) rfl (by decide) (by simp [prepL]) (by simp [prepRows, ASt.fix, hfix]) (by simp [AV.namesL, reachL, h0, h1, hpq, hqp]) (by simp [h0, h1])
    (by simp [AV.renL, subHeap, zipIx, toMap, h0, h1, hpq, hqp, AObj.unmv]; exact hc) (by simp [afterCall, afterHeap, zipIx, movedOf, killAll, backMap, backName, AObj.moved, AObj.isRow, AObj.ormv, h0, h1, hpq, hqp])
  rw [this]
  simp [answered, movedOf, zipIx, AObj.moved]
noncomputable abbrev b68 : Code := Try.f68.body.getD .skip
theorem res68 {st : ASt} {p q : Nat} {t : List UInt8} {b : Bool} (h4 : st.slot 4 = .ptr p 0 0) (h5 : st.slot 5 = .ptr q 0 0) (h0 : aget st.hp p = some (.box 9 (.str t))) (h1 : aget st.hp q = some (.box 4 (.bool b))) :
    resL G st Try.f68.results.toList = some [.str t, .bool b] := by
  have hp : G.P = Try.prog := rfl
  simp [Try.f68, resL, resv, h4, h5, h0, h1, objCells, hp]
theorem pureOut (t : List UInt8) (b : Bool) : Plain (.tup [.str t, .bool b]) := ⟨fun _ => rfl, rfl, rfl, fun _ => rfl⟩
/-! read, with a function that was handed no memory. -/
def st68 (s : List UInt8) : ASt := ⟨[(0, .str s), (1, .fn (.func 72) [] []), (4, .ptr 1004 0 0), (5, .ptr 1005 0 0)], [(1005, .box 4 (.bool false)), (1004, .box 9 (.str []))]⟩
def st68b (s : List UInt8) : ASt := ⟨(7, .fn (.func 99) [] [.ptr 1004 0 0, .ptr 1005 0 0]) :: (st68 s).sl, (st68 s).hp⟩
def st68c (s : List UInt8) : ASt := ⟨[(7, .fn (.func 99) [] [.ptr 0 0 0, .ptr 1 0 0]), (0, .str s), (1, .fn (.func 72) [] []), (4, .ptr 0 0 0), (5, .ptr 1 0 0)], [(0, .box 9 (.str [])), (1, .box 4 (.bool false))]⟩
theorem read72_end (s : List UInt8) {x2 : AX} {rv : AV} {s3 : ASt} {t t' : List UInt8} {b b' : Bool} (hrest : codeX G cl lp 68 (restOf b68) (st68c s) = some (x2, s3)) (hrv : recOf x2 = some rv) (h4 : s3.slot 4 = .ptr 0 0 0) (h5 : s3.slot 5 = .ptr 1 0 0)
    (h0 : aget s3.hp 0 = some (.box 9 (.str t))) (h1 : aget s3.hp 1 = some (.box 4 (.bool b)))
    (hc : runClosure G rv 99 [.ptr 0 0 0, .ptr 1 0 0] [(0, .box 9 (.str t)), (1, .box 4 (.bool b))] = some (.ret (.tup []), [(0, .box 9 (.str t')), (1, .box 4 (.bool b'))])) :
    cl 68 [.str s, .fn (.func 72) [] []] [] = some (.ret (.tup [.str t', .bool b']), []) := by
  obtain ⟨sl, H⟩ := s3
  refine call_intro (by decide) rfl (runD_of (fn := Try.f68) (A := sA b68) (ops := sO b68) (f := sF b68) (rest := restOf b68) (s0 := st68 s) (s1 := st68b s) (ns := [1004, 1005]) (x2 := x2) (rv := rv) (vs := [.str t', .bool b']) (s4 := ⟨sl, [(0, .box 9 (.str t')), (1, .box 4 (.bool b'))] ++ H⟩) (m := []) (v := .tup [])
    (by simp) Try.func68 (by kernel_rfl) (by kernel_rfl) (by kernel_rfl) (by kernel_rfl) (by kernel_rfl) hrest ?_ hrv ?_ ?_ ?_)
  · have e : ((st68b s).ev (sF b68)).ren (toMap [1004, 1005]) = .fn (.func 99) [] [.ptr 0 0 0, .ptr 1 0 0] := by kernel_rfl
    rw [e]
    simp [isBoxAt, h0, h1]
  · have e : ((st68b s).ev (sF b68)).ren (toMap [1004, 1005]) = .fn (.func 99) [] [.ptr 0 0 0, .ptr 1 0 0] := by kernel_rfl
    rw [e]
    exact clo_call (by decide) h0 h1 hc
  · exact res68 (p := 0) (q := 1) (by simpa [ASt.slot] using h4) (by simpa [ASt.slot] using h5) (by simp) (by simp)
  · have e : finishA G 68 [] (.tup [.str t', .bool b']) ⟨sl, [(0, .box 9 (.str t')), (1, .box 4 (.bool b'))] ++ H⟩ = (.tup [.str t', .bool b'], []) := by
      unfold finishA
      split <;> rfl
    simp only [List.map_nil, resOf_two, e, retA]
set_option maxHeartbeats 8000000 in
theorem read72 (s : List UInt8) (hb : s.length ≤ 800000) : cl 68 [.str s, .fn (.func 72) [] []] [] = some (.ret (.tup (match valP (s.length + 1) s with | some p => [.str p.2, .bool true] | none => [.str [], .bool false])), []) := by
  have h := first72 s hb
  cases hv : valP (s.length + 1) s with
  | none =>
    rw [hv] at h
    obtain ⟨s', h⟩ := h
    have hm := fun d sl hp' (h0 : aget hp' 1010 = some (rBox s)) => read_P1 (d := d) (sl := sl) (hp := hp') (i := 1010) (g := 72) (rest := []) E72 (by decide) rfl (by simp) h0 h
    simp only [rBox] at hm
    have hrest : ∃ st, codeX G cl lp 68 (restOf b68) (st68c s) = some (.pan oddR, st) ∧ st.slot 4 = .ptr 0 0 0 ∧ st.slot 5 = .ptr 1 0 0 ∧ aget st.hp 0 = some (.box 9 (.str [])) ∧ aget st.hp 1 = some (.box 4 (.bool false)) := by
      refine ⟨?st, ?h1, ?h2⟩
      case h1 =>
        simp [restOf, b68, Try.f68, splitD, st68c, hm]
        rfl
      case h2 => exact ⟨rfl, rfl, rfl, rfl⟩
    obtain ⟨st, e, h4, h5, h0, h1⟩ := hrest
    exact read72_end s e rfl h4 h5 h0 h1 (clo_odd _ _)
  | some p =>
    rw [hv] at h
    have hm := fun d sl hp (h0 : aget hp 1010 = some (rBox s)) => read_V (d := d) (sl := sl) (i := 1010) (hp := hp) (g := 72) (rest := []) E72 (by decide) rfl (by simp) plain_unit h0 h
    simp only [rBox] at hm
    have hrest : ∃ st, codeX G cl lp 68 (restOf b68) (st68c s) = some (.ret, st) ∧ st.slot 4 = .ptr 0 0 0 ∧ st.slot 5 = .ptr 1 0 0 ∧ aget st.hp 0 = some (.box 9 (.str p.2)) ∧ aget st.hp 1 = some (.box 4 (.bool true)) := by
      refine ⟨?st', ?h3, ?h4⟩
      case h3 =>
        simp [restOf, b68, Try.f68, splitD, st68c, hm]
        rfl
      case h4 => exact ⟨rfl, rfl, rfl, rfl⟩
    obtain ⟨st, e, h4, h5, h0, h1⟩ := hrest
    exact read72_end s e rfl h4 h5 h0 h1 (clo_nil _ _)
/-! read, with a function that was handed a place for a value. -/
def st68g (s : List UInt8) : ASt := ⟨[(0, .str s), (1, .fn (.func 69) [] [.ptr 0 0 0]), (4, .ptr 1004 0 0), (5, .ptr 1005 0 0)], [(1005, .box 4 (.bool false)), (1004, .box 9 (.str [])), (0, box22 none)]⟩
def st68gb (s : List UInt8) : ASt := ⟨(7, .fn (.func 99) [] [.ptr 1004 0 0, .ptr 1005 0 0]) :: (st68g s).sl, (st68g s).hp⟩
def st68gc (s : List UInt8) : ASt := ⟨[(7, .fn (.func 99) [] [.ptr 1 0 0, .ptr 2 0 0]), (0, .str s), (1, .fn (.func 69) [] [.ptr 0 0 0]), (4, .ptr 1 0 0), (5, .ptr 2 0 0)], [(0, box22 none), (1, .box 9 (.str [])), (2, .box 4 (.bool false))]⟩
theorem out22 {hp : Heap} {v : AV} {l : Option (List Nd)} (hv : Plain v) (h : aget hp 0 = some (box22 l)) : outOf [0] hp v = (v, [(0, box22 l)]) := by
  unfold outOf
  cases l <;> simp [hv.names, h, box22, hv.ren, onlyHeap, idMap, nds]
theorem read69_end (s : List UInt8) {x2 : AX} {rv : AV} {s3 : ASt} {t t' : List UInt8} {b b' : Bool} {l : Option (List Nd)} (hrest : codeX G cl lp 68 (restOf b68) (st68gc s) = some (x2, s3)) (hrv : recOf x2 = some rv) (h4 : s3.slot 4 = .ptr 1 0 0) (h5 : s3.slot 5 = .ptr 2 0 0)
    (hl : aget s3.hp 0 = some (box22 l)) (h0 : aget s3.hp 1 = some (.box 9 (.str t))) (h1 : aget s3.hp 2 = some (.box 4 (.bool b)))
    (hc : runClosure G rv 99 [.ptr 0 0 0, .ptr 1 0 0] [(0, .box 9 (.str t)), (1, .box 4 (.bool b))] = some (.ret (.tup []), [(0, .box 9 (.str t')), (1, .box 4 (.bool b'))])) :
    cl 68 [.str s, .fn (.func 69) [] [.ptr 0 0 0]] [(0, box22 none)] = some (.ret (.tup [.str t', .bool b']), [(0, box22 l)]) := by
  obtain ⟨sl, H⟩ := s3
  refine call_intro (by decide) rfl (runD_of (fn := Try.f68) (A := sA b68) (ops := sO b68) (f := sF b68) (rest := restOf b68) (s0 := st68g s) (s1 := st68gb s) (ns := [0, 1004, 1005]) (x2 := x2) (rv := rv) (vs := [.str t', .bool b']) (s4 := ⟨sl, [(1, .box 9 (.str t')), (2, .box 4 (.bool b'))] ++ H⟩) (m := []) (v := .tup [])
    (by simp) Try.func68 (by kernel_rfl) (by kernel_rfl) (by kernel_rfl) (by kernel_rfl) (by kernel_rfl) hrest ?_ hrv ?_ ?_ ?_)
  · have e : ((st68gb s).ev (sF b68)).ren (toMap [0, 1004, 1005]) = .fn (.func 99) [] [.ptr 1 0 0, .ptr 2 0 0] := by kernel_rfl
    rw [e]
    simp [isBoxAt, h0, h1]
  · have e : ((st68gb s).ev (sF b68)).ren (toMap [0, 1004, 1005]) = .fn (.func 99) [] [.ptr 1 0 0, .ptr 2 0 0] := by kernel_rfl
    rw [e]
    exact clo_call (by decide) h0 h1 hc
  · exact res68 (p := 1) (q := 2) (by simpa [ASt.slot] using h4) (by simpa [ASt.slot] using h5) (by simp) (by simp)
  · have hH : aget ([(1, AObj.box 9 (.str t')), (2, .box 4 (.bool b'))] ++ H) 0 = some (box22 l) := by simpa using hl
    have e : finishA G 68 [0] (.tup [.str t', .bool b']) ⟨sl, [(1, .box 9 (.str t')), (2, .box 4 (.bool b'))] ++ H⟩ = (.tup [.str t', .bool b'], [(0, box22 l)]) := by
      unfold finishA
      split
      · exact out22 (pureOut _ _) hH
      · exact out22 (pureOut _ _) hH
    simp only [List.map_cons, List.map_nil, resOf_two, e, retA]
theorem callV_two {d : Option Nat} {g : FuncId} {i k : Nat} {x y x' y' : AObj} {sl : Slots} {hp : Heap} {res : ARes} (hE : G.E g = true) (hg : g < RB) (hx : G.ext g = none) (hik : i ≠ k) (hi : aget hp i = some x) (hk : aget hp k = some y)
    (nx : x.names = []) (ny : y.names = []) (rx : ∀ m, x.ren m = x) (ry : ∀ m, y.ren m = y) (ux : x.unmv = x) (uy : y.unmv = y) (rx' : ∀ m, x'.ren m = x') (ry' : ∀ m, y'.ren m = y') (mx : x.moved = false) (my : y.moved = false) (mx' : x'.moved = false) (my' : y'.moved = false) (ox : ∀ b, x'.ormv b = x') (oy : ∀ b, y'.ormv b = y')
    (hv : Plain res.val) (hc : cl g [.ptr 0 0 0, .ptr 1 0 0] [(0, x), (1, y)] = some (res, [(0, x'), (1, y')])) :
    callV G cl d (.fn (.func g) [] [.ptr k 0 0]) [.ptr i 0 0] ⟨sl, hp⟩ = some (pureR ⟨sl, [(i, x'), (k, y')] ++ hp⟩ res) := by
  have hki : k ≠ i := fun e => hik e.symm
  refine callV_of (pre := [.ptr i 0 0, .ptr k 0 0]) (st1 := ⟨sl, hp⟩) (ns := [i, k]) (y := (res, [(0, x'), (1, y')])) (st3 := ⟨sl, [(i, x'), (k, y')] ++ hp⟩) hE hg hx ?_ ?_ ?_ ?_ ?_ ?_ ?_
  · simp [prepL]
  · simp [prepRows, ASt.fix, hfix]
  · simp [-AObj.names, AV.namesL, reachL, hi, hk, nx, ny, hik, hki]
  · simp [hi, hk]
  · simp [AV.renL, subHeap, zipIx, toMap, hi, hk, hik, hki, rx, ry, ux, uy]
    exact hc
  · simp [afterCall, afterHeap, zipIx, movedOf, killAll, backMap, backName, hi, hk, hik, hki, rx', ry', mx, my, mx', my', ox, oy]
  · cases res with
    | ret v => simp [answered, pureR]; exact hv.ren _
    | pan v => simp [answered, pureR]; exact hv.ren _
set_option maxHeartbeats 8000000 in
theorem read69 (s : List UInt8) (hb : s.length ≤ 800000) : cl 68 [.str s, .fn (.func 69) [] [.ptr 0 0 0]] [(0, box22 none)] =
    match valP (s.length + 1) s with
    | some p => some (.ret (.tup [.str p.2, .bool true]), [(0, box22 (some p.1))])
    | none => some (.ret (.tup [.str [], .bool false]), [(0, box22 none)]) := by
  have h := get69 s hb
  cases hv : valP (s.length + 1) s with
  | none =>
    rw [hv] at h
    obtain ⟨s', h⟩ := h
    have hm := fun d sl hp (h0 : aget hp 1010 = some (rBox s)) (h1 : aget hp 0 = some (box22 none)) => callV_two (d := d) (sl := sl) (hp := hp) (i := 1010) (k := 0) (res := .pan oddR) (g := 69) E69 (by decide) rfl (by decide) h0 h1 rfl rfl (fun _ => rfl) (fun _ => rfl) rfl rfl (fun _ => rfl) (fun _ => rfl) rfl rfl rfl rfl (fun _ => rfl) (fun _ => rfl) plain_odd h
    simp only [rBox, box22, pureR_p] at hm
    have hrest : ∃ st, codeX G cl lp 68 (restOf b68) (st68gc s) = some (.pan oddR, st) ∧ st.slot 4 = .ptr 1 0 0 ∧ st.slot 5 = .ptr 2 0 0 ∧ aget st.hp 0 = some (box22 none) ∧ aget st.hp 1 = some (.box 9 (.str [])) ∧ aget st.hp 2 = some (.box 4 (.bool false)) := by
      refine ⟨?st, ?h1, ?h2⟩
      case h1 =>
        simp [restOf, b68, Try.f68, splitD, st68gc, box22, hm]
        rfl
      case h2 => exact ⟨rfl, rfl, rfl, rfl, rfl⟩
    obtain ⟨st, e, h4, h5, hl, h0, h1⟩ := hrest
    exact read69_end s e rfl h4 h5 hl h0 h1 (clo_odd _ _)
  | some p =>
    rw [hv] at h
    have hm := fun d sl hp (h0 : aget hp 1010 = some (rBox s)) (h1 : aget hp 0 = some (box22 none)) => callV_two (d := d) (sl := sl) (hp := hp) (i := 1010) (k := 0) (res := .ret (.tup [])) (g := 69) E69 (by decide) rfl (by decide) h0 h1 rfl rfl (fun _ => rfl) (fun _ => rfl) rfl rfl (fun _ => rfl) (fun _ => rfl) rfl rfl rfl rfl (fun _ => rfl) (fun _ => rfl) plain_unit h
    simp only [rBox, box22, pureR_r] at hm
    have hrest : ∃ st, codeX G cl lp 68 (restOf b68) (st68gc s) = some (.ret, st) ∧ st.slot 4 = .ptr 1 0 0 ∧ st.slot 5 = .ptr 2 0 0 ∧ aget st.hp 0 = some (box22 (some p.1)) ∧ aget st.hp 1 = some (.box 9 (.str p.2)) ∧ aget st.hp 2 = some (.box 4 (.bool true)) := by
      refine ⟨?st', ?h3, ?h4⟩
      case h3 =>
        simp [restOf, b68, Try.f68, splitD, st68gc, box22, hm, nds]
        rfl
      case h4 => exact ⟨rfl, rfl, rfl, rfl, rfl⟩
    obtain ⟨st, e, h4, h5, hl, h0, h1⟩ := hrest
    exact read69_end s e rfl h4 h5 hl h0 h1 (clo_nil _ _)
end Go.Proofs.Ytonaejfpiihfhaa

/- What the functions come to: texts out of bytes. -/
namespace Go.Proofs.Ytonaejfpiihfhaa
open Go Abs
set_option linter.unusedSimpArgs false
set_option linter.unusedVariables false
attribute [local simp] canonK canonAll canonSlot canonCell canonBox ownStep restrictTo pureCells pureRows reachL AObj.names List.range_succ appendA
/-- The texts that bytes are. -/
def splitA : Nat → List (List UInt8) → List UInt8 → Option (List (List UInt8))
  | 0, _, _ => none
  | _ + 1, l, [] => some l
  | f + 1, l, b :: r => if b = 4 then (textP r).bind fun p => splitA f (l ++ [p.1]) p.2 else none
def tRow (l : List (List UInt8)) (mv : Bool) : AObj := .row 1 (strsL l) false ⟨mv, 9⟩
def st73 (s : List UInt8) (l : List (List UInt8)) (mv : Bool) : ASt := ⟨[(0, .ptr 0 0 0), (1, .ptr 1 0 0)], [(0, rBox s), (1, .box 34 (.own 2)), (2, tRow l mv)]⟩
def ends73 (s : List UInt8) (l : List (List UInt8)) (mv : Bool) (hp : Heap) : Prop := aget hp 0 = some (rBox s) ∧ aget hp 1 = some (.box 34 (.own 2)) ∧ aget hp 2 = some (tRow l mv)
@[simp] theorem strsL_snoc {l : List (List UInt8)} {t : List UInt8} : strsL (l ++ [t]) = strsL l ++ [.str t] := by simp [strsL]
@[simp] theorem bsv34 {t : List UInt8} : bsvV G 34 1 [0] [.str t] = some (.list 1 [.str t]) := by kernel_rfl
set_option maxHeartbeats 8000000 in
theorem split_go (r t q : List UInt8) (hr : r.length ≤ 900000) (ht : textP r = some (t, q)) (l : List (List UInt8)) (hl : l.length ≤ 1000000) (mv : Bool) :
    rX 73 (lc Try.f73 0) (codeX G cl lp 73 (lc Try.f73 0) (st73 (4 :: r) l mv)) = some (.normal, st73 q (l ++ [t]) true) := by
  have h75 := fun d sl hp (h0 : aget hp 0 = some (rBox (4 :: r))) => take_1 (d := d) (sl := sl) h0
  have ht' := fun d sl hp (h0 : aget hp 0 = some (rBox r)) => text_some hr ht (d := d) (sl := sl) h0
  have hn := fun d st => rneed_call_t (d := d) (st := st)
  have hx : indexv Try.prog 9 (.str [4]) (.int .i64 0) = some (.int .u8 4) := bytes_at0
  have hL : l.length + 1 ≤ LIM := by unfold LIM; omega
  simp only [rBox] at h75 ht'
  simp [lc, loopsOf, Try.f73, st73, rBox, tRow, h75, ht', hn, hx, hL, show AV.undef.cells = [.undef] from rfl]
  done
set_option maxHeartbeats 8000000 in
theorem split_end (l : List (List UInt8)) (mv : Bool) : ∃ st, rX 73 (lc Try.f73 0) (codeX G cl lp 73 (lc Try.f73 0) (st73 [] l mv)) = some (.exit 0, st) ∧ ends73 [] l mv st.hp := by
  refine ⟨?st, ?h1, ?h2⟩
  case h1 =>
    simp [lc, loopsOf, Try.f73, st73, rBox, tRow]
    rfl
  case h2 => exact ⟨rfl, rfl, rfl⟩
set_option maxHeartbeats 8000000 in
theorem split_odd (b : UInt8) (hb : b ≠ 4) (r : List UInt8) (l : List (List UInt8)) (mv : Bool) : ∃ st s', rX 73 (lc Try.f73 0) (codeX G cl lp 73 (lc Try.f73 0) (st73 (b :: r) l mv)) = some (.pan oddR, st) ∧ ends73 s' l mv st.hp := by
  have h75 := fun d sl hp (h0 : aget hp 0 = some (rBox (b :: r))) => take_1 (d := d) (sl := sl) h0
  have hf := fun d st => rneed_call_f (d := d) (st := st)
  have hx : indexv Try.prog 9 (.str [b]) (.int .i64 0) = some (.int .u8 b.toNat) := bytes_at0
  have hz : ¬ b.toNat = 4 := fun h => hb (by rw [← UInt8.toNat_inj]; exact h)
  have hz' : ¬ (b.toNat : Int) = 4 := by omega
  simp only [rBox] at h75
  refine ⟨?st, r, ?h1, ?h2⟩
  case h1 =>
    simp [lc, loopsOf, Try.f73, st73, rBox, tRow, h75, hf, hx, hz, hz']
    rfl
  case h2 => exact ⟨rfl, rfl, rfl⟩
set_option maxHeartbeats 8000000 in
theorem split_bad (r : List UInt8) (hr : r.length ≤ 900000) (ht : textP r = none) (l : List (List UInt8)) (mv : Bool) : ∃ st s', rX 73 (lc Try.f73 0) (codeX G cl lp 73 (lc Try.f73 0) (st73 (4 :: r) l mv)) = some (.pan oddR, st) ∧ ends73 s' l mv st.hp := by
  have h75 := fun d sl hp (h0 : aget hp 0 = some (rBox (4 :: r))) => take_1 (d := d) (sl := sl) h0
  obtain ⟨s', ht⟩ := text_none hr ht
  have ht' := fun d sl hp' (h0 : aget hp' 0 = some (rBox r)) => read_P1 (d := d) (sl := sl) (hp := hp') (i := 0) (g := 76) (rest := []) E76 (by decide) rfl (by simp) h0 ht
  have hn := fun d st => rneed_call_t (d := d) (st := st)
  have hx : indexv Try.prog 9 (.str [4]) (.int .i64 0) = some (.int .u8 4) := bytes_at0
  simp only [rBox] at h75 ht'
  refine ⟨?st, s', ?h1, ?h2⟩
  case h1 =>
    simp [lc, loopsOf, Try.f73, st73, rBox, tRow, h75, ht', hn, hx]
    rfl
  case h2 => exact ⟨rfl, rfl, rfl⟩
theorem loop73 : ∀ (f : Nat) (s : List UInt8) (l : List (List UInt8)) (mv : Bool), s.length < f → l.length + s.length ≤ 900000 →
    match splitA f l s with
    | some l' => ∃ st mv', lp 73 (lc Try.f73 0) (st73 s l mv) = some (.exit 0, st) ∧ ends73 [] l' mv' st.hp
    | none => ∃ st s' l' mv', lp 73 (lc Try.f73 0) (st73 s l mv) = some (.pan oddR, st) ∧ ends73 s' l' mv' st.hp := by
  intro f
  induction f with
  | zero => intro s l mv h; omega
  | succ f ih =>
    intro s l mv h hb
    cases s with
    | nil =>
      obtain ⟨st, e1, e2⟩ := split_end l mv
      exact ⟨st, mv, loop_out e1 (by simp), e2⟩
    | cons b r =>
      simp only [List.length_cons] at h hb
      simp only [splitA]
      by_cases h4 : b = 4
      · subst h4
        rw [if_pos rfl]
        cases ht : textP r with
        | none =>
          obtain ⟨st, s', e1, e2⟩ := split_bad r (by omega) ht l mv
          exact ⟨st, s', l, mv, loop_out e1 (by simp), e2⟩
        | some p =>
          obtain ⟨t, q⟩ := p
          have hq := textP_len ht
          have e := split_go r t q (by omega) ht l (by omega) mv
          have := ih q (l ++ [t]) true (by omega) (by simp; omega)
          simp only [Option.bind_some]
          cases hs : splitA f (l ++ [t]) q with
          | none => rw [hs] at this; obtain ⟨st, s', l', mv', e1, e2⟩ := this; exact ⟨st, s', l', mv', loop_next e e1, e2⟩
          | some l' => rw [hs] at this; obtain ⟨st, mv', e1, e2⟩ := this; exact ⟨st, mv', loop_next e e1, e2⟩
      · rw [if_neg h4]
        obtain ⟨st, s', e1, e2⟩ := split_odd b h4 r l mv
        exact ⟨st, s', l, mv, loop_out e1 (by simp), e2⟩
def hp73 (s : List UInt8) (l : List (List UInt8)) (mv : Bool) : Heap := [(0, rBox s), (1, .box 34 (.own 2)), (2, tRow l mv)]
theorem out73 {hp : Heap} {v : AV} {s : List UInt8} {l : List (List UInt8)} {mv : Bool} (hv : Plain v) (h : ends73 s l mv hp) : outOf [0, 1, 2] hp v = (v, hp73 s l mv) := by
  obtain ⟨h0, h1, h2⟩ := h
  unfold outOf
  simp [hv.names, h0, h1, h2, rBox, tRow, hp73, hv.ren, onlyHeap, idMap]
theorem split73 (s : List UInt8) (hb : s.length ≤ 800000) : match splitA (s.length + 1) [] s with
    | some l => ∃ mv, cl 73 [.ptr 0 0 0, .ptr 1 0 0] (hp73 s [] false) = some (.ret (.tup []), hp73 [] l mv)
    | none => ∃ s' l' mv, cl 73 [.ptr 0 0 0, .ptr 1 0 0] (hp73 s [] false) = some (.pan oddR, hp73 s' l' mv) := by
  have h := loop73 (s.length + 1) s [] false (by omega) (by simp; omega)
  cases hs : splitA (s.length + 1) [] s with
  | none =>
    rw [hs] at h
    obtain ⟨st, s', l', mv, e1, e2⟩ := h
    refine ⟨s', l', mv, fn_intro Try.func73 rfl (by simp) (by decide) rfl ?_⟩
    simp [st73, lc, loopsOf, Try.f73, rBox, tRow] at e1
    simp [Try.f73, hp73, rBox, tRow, e1]
    have := out73 plain_odd e2
    unfold endX
    have e3 : hfix oddR.rows st.hp = st.hp := rfl
    have e4 : oddR.rv st.hp = oddR := rfl
    simp only [e3, e4, this, panA]
    rfl
  | some l =>
    rw [hs] at h
    obtain ⟨st, mv, e1, e2⟩ := h
    refine ⟨mv, fn_intro Try.func73 rfl (by simp) (by decide) rfl ?_⟩
    simp [st73, lc, loopsOf, Try.f73, rBox, tRow] at e1
    simp [Try.f73, hp73, rBox, tRow, e1]
    have := out73 plain_unit e2
    obtain ⟨sl, hp⟩ := st
    unfold endX
    simp [finishA, retA, this, ASt.fix]
    rfl
/-! read, with a function that was handed a place for texts. -/
def hp34 (l : List (List UInt8)) (mv : Bool) : Heap := [(0, .box 34 (.own 1)), (1, tRow l mv)]
def st68s (s : List UInt8) : ASt := ⟨[(0, .str s), (1, .fn (.func 73) [] [.ptr 0 0 0]), (4, .ptr 1004 0 0), (5, .ptr 1005 0 0)], [(1005, .box 4 (.bool false)), (1004, .box 9 (.str []))] ++ hp34 [] false⟩
def st68sb (s : List UInt8) : ASt := ⟨(7, .fn (.func 99) [] [.ptr 1004 0 0, .ptr 1005 0 0]) :: (st68s s).sl, (st68s s).hp⟩
def st68sc (s : List UInt8) : ASt := ⟨[(7, .fn (.func 99) [] [.ptr 2 0 0, .ptr 3 0 0]), (0, .str s), (1, .fn (.func 73) [] [.ptr 0 0 0]), (4, .ptr 2 0 0), (5, .ptr 3 0 0)], [(0, .box 34 (.own 1)), (1, tRow [] false), (2, .box 9 (.str [])), (3, .box 4 (.bool false))]⟩
theorem out34 {hp : Heap} {v : AV} {l : List (List UInt8)} {mv : Bool} (hv : Plain v) (h : aget hp 0 = some (.box 34 (.own 1))) (h1 : aget hp 1 = some (tRow l mv)) : outOf [0, 1] hp v = (v, hp34 l mv) := by
  unfold outOf
  simp [hv.names, h, h1, tRow, hp34, hv.ren, onlyHeap, idMap]
theorem read73_end (s : List UInt8) {x2 : AX} {rv : AV} {s3 : ASt} {t t' : List UInt8} {b b' : Bool} {l : List (List UInt8)} {mv : Bool} (hrest : codeX G cl lp 68 (restOf b68) (st68sc s) = some (x2, s3)) (hrv : recOf x2 = some rv) (h4 : s3.slot 4 = .ptr 2 0 0) (h5 : s3.slot 5 = .ptr 3 0 0)
    (hl : aget s3.hp 0 = some (.box 34 (.own 1))) (hl1 : aget s3.hp 1 = some (tRow l mv)) (h0 : aget s3.hp 2 = some (.box 9 (.str t))) (h1 : aget s3.hp 3 = some (.box 4 (.bool b)))
    (hc : runClosure G rv 99 [.ptr 0 0 0, .ptr 1 0 0] [(0, .box 9 (.str t)), (1, .box 4 (.bool b))] = some (.ret (.tup []), [(0, .box 9 (.str t')), (1, .box 4 (.bool b'))])) :
    cl 68 [.str s, .fn (.func 73) [] [.ptr 0 0 0]] (hp34 [] false) = some (.ret (.tup [.str t', .bool b']), hp34 l mv) := by
  obtain ⟨sl, H⟩ := s3
  refine call_intro (by decide) rfl (runD_of (fn := Try.f68) (A := sA b68) (ops := sO b68) (f := sF b68) (rest := restOf b68) (s0 := st68s s) (s1 := st68sb s) (ns := [0, 1, 1004, 1005]) (x2 := x2) (rv := rv) (vs := [.str t', .bool b']) (s4 := ⟨sl, [(2, .box 9 (.str t')), (3, .box 4 (.bool b'))] ++ H⟩) (m := []) (v := .tup [])
    (by simp) Try.func68 (by kernel_rfl) (by kernel_rfl) (by kernel_rfl) (by kernel_rfl) (by kernel_rfl) hrest ?_ hrv ?_ ?_ ?_)
  · have e : ((st68sb s).ev (sF b68)).ren (toMap [0, 1, 1004, 1005]) = .fn (.func 99) [] [.ptr 2 0 0, .ptr 3 0 0] := by kernel_rfl
    rw [e]
    simp [isBoxAt, h0, h1]
  · have e : ((st68sb s).ev (sF b68)).ren (toMap [0, 1, 1004, 1005]) = .fn (.func 99) [] [.ptr 2 0 0, .ptr 3 0 0] := by kernel_rfl
    rw [e]
    exact clo_call (by decide) h0 h1 hc
  · exact res68 (p := 2) (q := 3) (by simpa [ASt.slot] using h4) (by simpa [ASt.slot] using h5) (by simp) (by simp)
  · have hH : aget ([(2, AObj.box 9 (.str t')), (3, .box 4 (.bool b'))] ++ H) 0 = some (.box 34 (.own 1)) := by simpa using hl
    have hH1 : aget ([(2, AObj.box 9 (.str t')), (3, .box 4 (.bool b'))] ++ H) 1 = some (tRow l mv) := by simpa using hl1
    have e : finishA G 68 [0, 1] (.tup [.str t', .bool b']) ⟨sl, [(2, .box 9 (.str t')), (3, .box 4 (.bool b'))] ++ H⟩ = (.tup [.str t', .bool b'], hp34 l mv) := by
      unfold finishA
      split
      · exact out34 (pureOut _ _) hH hH1
      · exact out34 (pureOut _ _) hH hH1
    have e0 : (hp34 [] false).map (·.1) = [0, 1] := rfl
    simp only [e0, resOf_two, e, retA]
/-- The call of what splits, from read. -/
theorem call73 {d : Option Nat} {s s' : List UInt8} {l : List (List UInt8)} {mv : Bool} {res : ARes} {sl : Slots} {hp : Heap} (h0 : aget hp 1010 = some (rBox s)) (h1 : aget hp 0 = some (.box 34 (.own 1))) (h2 : aget hp 1 = some (tRow [] false)) (hv : Plain res.val)
    (hc : cl 73 [.ptr 0 0 0, .ptr 1 0 0] (hp73 s [] false) = some (res, hp73 s' l mv)) :
    callV G cl d (.fn (.func 73) [] [.ptr 0 0 0]) [.ptr 1010 0 0] ⟨sl, hp⟩ = some (pureR ⟨if mv then sl.map (fun p => (p.1, p.2.kill 1)) else sl, [(1010, rBox s'), (0, .box 34 (.own 1)), (1, tRow l mv)] ++ (if mv then hp.map (fun p => (p.1, p.2.kill 1)) else hp)⟩ res) := by
  have hk1 : aget (hp.map fun p => (p.1, p.2.kill 1)) 1 = some (tRow [] false) := by rw [aget_mapv, h2]; rfl
  have hk0 : aget (hp.map fun p => (p.1, p.2.kill 1)) 0 = some (.box 34 .undef) := by rw [aget_mapv, h1]; rfl
  have hk2 : aget (hp.map fun p => (p.1, p.2.kill 1)) 1010 = some (rBox s) := by rw [aget_mapv, h0]; rfl
  refine callV_of (pre := [.ptr 1010 0 0, .ptr 0 0 0]) (st1 := ⟨sl, hp⟩) (ns := [1010, 0, 1]) (y := (res, hp73 s' l mv)) (st3 := ⟨if mv then sl.map (fun p => (p.1, p.2.kill 1)) else sl, [(1010, rBox s'), (0, .box 34 (.own 1)), (1, tRow l mv)] ++ (if mv then hp.map (fun p => (p.1, p.2.kill 1)) else hp)⟩) E73 (by decide) rfl ?_ ?_ ?_ ?_ ?_ ?_ ?_
  · simp [prepL]
  · simp [prepRows, ASt.fix, hfix]
  · simp [AV.namesL, reachL, h0, h1, h2, rBox, tRow]
  · simp [h0, h1, h2]
  · simp [AV.renL, subHeap, zipIx, toMap, h0, h1, h2, rBox, tRow, AObj.unmv]
    exact hc
  · cases mv <;> simp [afterCall, afterHeap, zipIx, movedOf, killAll, backMap, backName, hp73, h0, h1, h2, hk0, hk1, hk2, rBox, tRow, AObj.moved, AObj.isRow, AObj.ormv, ASt.killn]
  · cases res with
    | ret v => simp [answered, pureR]; exact hv.ren _
    | pan v => simp [answered, pureR]; exact hv.ren _
set_option maxHeartbeats 8000000 in
theorem read73 (s : List UInt8) (hb : s.length ≤ 800000) : match splitA (s.length + 1) [] s with
    | some l => ∃ mv, cl 68 [.str s, .fn (.func 73) [] [.ptr 0 0 0]] (hp34 [] false) = some (.ret (.tup [.str [], .bool true]), hp34 l mv)
    | none => ∃ l mv, cl 68 [.str s, .fn (.func 73) [] [.ptr 0 0 0]] (hp34 [] false) = some (.ret (.tup [.str [], .bool false]), hp34 l mv) := by
  have h := split73 s hb
  cases hs : splitA (s.length + 1) [] s with
  | none =>
    rw [hs] at h
    obtain ⟨s', l, mv, h⟩ := h
    refine ⟨l, mv, ?_⟩
    have hm := fun d sl hp (h0 : aget hp 1010 = some (rBox s)) (h1 : aget hp 0 = some (.box 34 (.own 1))) (h2 : aget hp 1 = some (tRow [] false)) => call73 (d := d) (sl := sl) (res := .pan oddR) h0 h1 h2 plain_odd h
    simp only [rBox, tRow, pureR_p] at hm
    have hrest : ∃ st', codeX G cl lp 68 (restOf b68) (st68sc s) = some (.pan oddR, st') ∧ (st'.slot 4 = .ptr 2 0 0 ∧ st'.slot 5 = .ptr 3 0 0) ∧ aget st'.hp 0 = some (.box 34 (.own 1)) ∧ aget st'.hp 1 = some (tRow l mv) ∧ aget st'.hp 2 = some (.box 9 (.str [])) ∧ aget st'.hp 3 = some (.box 4 (.bool false)) := by
      cases mv with
      | false =>
        simp only [Bool.false_eq_true, if_false] at hm
        refine ⟨?st, ?h1, ?h2⟩
        case h1 =>
          simp [restOf, b68, Try.f68, splitD, st68sc, tRow, strsL, hm]
          rfl
        case h2 => exact ⟨⟨rfl, rfl⟩, rfl, rfl, rfl, rfl⟩
      | true =>
        simp only [if_true] at hm
        refine ⟨?st', ?h3, ?h4⟩
        case h3 =>
          simp [restOf, b68, Try.f68, splitD, st68sc, tRow, strsL, hm]
          rfl
        case h4 => exact ⟨⟨rfl, rfl⟩, rfl, rfl, rfl, rfl⟩
    obtain ⟨st', e, ⟨h4, h5⟩, g0, g1, g2, g3⟩ := hrest
    exact read73_end s e rfl h4 h5 g0 g1 g2 g3 (clo_odd _ _)
  | some l =>
    rw [hs] at h
    obtain ⟨mv, h⟩ := h
    refine ⟨mv, ?_⟩
    have hm := fun d sl hp (h0 : aget hp 1010 = some (rBox s)) (h1 : aget hp 0 = some (.box 34 (.own 1))) (h2 : aget hp 1 = some (tRow [] false)) => call73 (d := d) (sl := sl) (res := .ret (.tup [])) h0 h1 h2 plain_unit h
    simp only [rBox, tRow, pureR_r] at hm
    have hrest : ∃ st', codeX G cl lp 68 (restOf b68) (st68sc s) = some (.ret, st') ∧ (st'.slot 4 = .ptr 2 0 0 ∧ st'.slot 5 = .ptr 3 0 0) ∧ aget st'.hp 0 = some (.box 34 (.own 1)) ∧ aget st'.hp 1 = some (tRow l mv) ∧ aget st'.hp 2 = some (.box 9 (.str [])) ∧ aget st'.hp 3 = some (.box 4 (.bool true)) := by
      cases mv with
      | false =>
        simp only [Bool.false_eq_true, if_false] at hm
        refine ⟨?st5, ?h5, ?h6⟩
        case h5 =>
          simp [restOf, b68, Try.f68, splitD, st68sc, tRow, strsL, hm]
          rfl
        case h6 => exact ⟨⟨rfl, rfl⟩, rfl, rfl, rfl, rfl⟩
      | true =>
        simp only [if_true] at hm
        refine ⟨?st7, ?h7, ?h8⟩
        case h7 =>
          simp [restOf, b68, Try.f68, splitD, st68sc, tRow, strsL, hm]
          rfl
        case h8 => exact ⟨⟨rfl, rfl⟩, rfl, rfl, rfl, rfl⟩
    obtain ⟨st', e, ⟨h4, h5⟩, g0, g1, g2, g3⟩ := hrest
    exact read73_end s e rfl h4 h5 g0 g1 g2 g3 (clo_nil _ _)
end Go.Proofs.Ytonaejfpiihfhaa

/- What the functions come to: First, Get, Split. -/
namespace Go.Proofs.Ytonaejfpiihfhaa
open Go Abs
set_option linter.unusedSimpArgs false
set_option linter.unusedVariables false
attribute [local simp] canonK canonAll canonSlot canonCell canonBox ownStep restrictTo pureCells pureRows reachL AObj.names List.range_succ appendA
def firstO (s : List UInt8) : List AV := match valP (s.length + 1) s with
  | some p => [.str (s.take (s.length - p.2.length)), .str p.2, .int .i64 0]
  | none => [.str [], .str [], .int .i64 5]
set_option maxHeartbeats 8000000 in
theorem first42 (s : List UInt8) (hb : s.length ≤ 800000) : cl 42 [.str s] [] = some (.ret (.tup (firstO s)), []) := by
  have h := read72 s hb
  refine fn_intro Try.func42 rfl (by simp) (by decide) rfl ?_
  unfold firstO
  cases hv : valP (s.length + 1) s with
  | none =>
    rw [hv] at h
    have hc := fun d st => callV_ret (d := d) (st := st) (first := []) (caps := []) (args := [.str s, .fn (.func 72) [] []]) E68 (by decide) ext68 rfl rfl h rfl
    simp [Try.f42, hc]
    exact end_is (.inr rfl) (by simp; rfl) rfl rfl
  | some p =>
    rw [hv] at h
    have hlen := valP_len hv
    have hc := fun d st => callV_ret (d := d) (st := st) (first := []) (caps := []) (args := [.str s, .fn (.func 72) [] []]) E68 (by decide) ext68 rfl rfl h rfl
    have hw : IntKind.i64.wrap ((s.length : Int) - p.2.length) = ((s.length - p.2.length : Nat) : Int) := by rw [i64_wrap (by omega) (by omega)]; omega
    have h0 : (0 : Int) ≤ ((s.length - p.2.length : Nat) : Int) := by omega
    have h1 : s.length - p.2.length ≤ s.length := by omega
    simp [Try.f42, hc, hw, h0, h1]
    exact end_is (.inr rfl) (by simp; rfl) rfl rfl
theorem first_call {s : List UInt8} (hb : s.length ≤ 800000) {d : Option Nat} {st : ASt} : callV G cl d (.fn (.func 42) [] []) [.str s] st = some (.val (.tup (firstO s)) st) :=
  callV_ret E42 (by decide) ext42 rfl rfl (first42 s hb) (by unfold firstO; split <;> rfl)
/-! Get. -/
theorem numP_in (t : List UInt8) : -9223372036854775808 ≤ numP t ∧ numP t ≤ 9223372036854775807 := by
  unfold numP
  rw [IntKind.wrap_i64]
  omega
theorem listP_in {val : List UInt8 → Option (List Nd × List UInt8)} {N : Nat} (hlen : ∀ s v q, val s = some (v, q) → 0 < v.length ∧ v.length + q.length ≤ s.length) (hv : ∀ s v q, s.length ≤ N → val s = some (v, q) → ∀ n ∈ v, n.inR) : ∀ {f c l s r}, listP val f c l s = some r → s.length ≤ N → (∀ n ∈ l, n.inR) → ∀ n ∈ r.2.1, n.inR := by
  intro f
  induction f with
  | zero => intro c l s r h; cases h
  | succ f ih =>
    intro c l s r h hN hl
    cases s with
    | nil => cases h
    | cons b s =>
      simp only [listP] at h
      split at h
      · cases h; exact hl
      · rw [Option.bind_eq_some_iff] at h
        obtain ⟨p, hp, h⟩ := h
        have := hlen _ _ _ hp
        refine ih h (by omega) fun n hn => ?_
        rcases List.mem_append.1 hn with hn | hn
        · exact hl n hn
        · exact hv _ _ _ hN hp n hn
theorem mapP_in {val : List UInt8 → Option (List Nd × List UInt8)} {N : Nat} (hlen : ∀ s v q, val s = some (v, q) → 0 < v.length ∧ v.length + q.length ≤ s.length) (hv : ∀ s v q, s.length ≤ N → val s = some (v, q) → ∀ n ∈ v, n.inR) : ∀ {f c k l s r}, mapP val f c k l s = some r → s.length ≤ N → (∀ n ∈ l, n.inR) → ∀ n ∈ r.2.1, n.inR := by
  intro f
  induction f with
  | zero => intro c k l s r h; cases h
  | succ f ih =>
    intro c k l s r h hN hl
    cases s with
    | nil => cases h
    | cons b s =>
      simp only [mapP] at h
      split at h
      · cases h; exact hl
      · split at h
        · rw [Option.bind_eq_some_iff] at h
          obtain ⟨t, ht, h⟩ := h
          split at h
          · rw [Option.bind_eq_some_iff] at h
            obtain ⟨p, hp, h⟩ := h
            have h1 := textP_len ht
            have h2 := hlen _ _ _ hp
            simp only [List.length_cons] at hN
            refine ih h (by omega) fun n hn => ?_
            rcases List.mem_append.1 hn with hn | hn
            · exact hl n hn
            · rcases List.mem_cons.1 hn with rfl | hn
              · exact ⟨by simp, by simp, by simp, by simp⟩
              · exact hv _ _ _ (by omega) hp n hn
          · cases h
        · cases h
theorem valP_in : ∀ {k s v q}, s.length ≤ 900000 → valP k s = some (v, q) → ∀ n ∈ v, n.inR := by
  intro k
  induction k with
  | zero => intro s v q _ h; cases h
  | succ k ih =>
    intro s v q hs h
    have one : ∀ {n m : Nd}, m.inR → n ∈ [m] → n.inR := fun hm hn => by rw [List.mem_singleton.1 hn]; exact hm
    cases s with
    | nil => cases h
    | cons b r =>
      simp only [List.length_cons] at hs
      simp only [valP] at h
      split at h
      · cases h; exact fun n hn => one ⟨by simp, by simp, by simp, by simp⟩ hn
      split at h
      · split at h
        · rename_i c q'
          split at h
          · cases h
            have := c.toNat_lt
            exact fun n hn => one ⟨by simp only; omega, by simp only; omega, by simp, by simp⟩ hn
          · cases h
        · cases h
      split at h
      · split at h
        · cases h; exact fun n hn => one ⟨(numP_in _).1, (numP_in _).2, by simp, by simp⟩ hn
        · cases h
      split at h
      · obtain ⟨p, hp, e⟩ := Option.map_eq_some_iff.1 h
        cases e
        exact fun n hn => one ⟨by simp, by simp, by simp, by simp⟩ hn
      split at h
      · obtain ⟨p, hp, e⟩ := Option.map_eq_some_iff.1 h
        cases e
        have hl := listP_len (fun s v q h => valP_len h) hp
        simp at hl
        intro n hn
        rcases List.mem_cons.1 hn with rfl | hn
        · exact ⟨by simp, by simp, by simp only; omega, by simp only; omega⟩
        · exact listP_in (N := 900000) (fun s v q h => valP_len h) (fun s v q h1 h2 => ih h1 h2) hp (by omega) (by simp) n hn
      split at h
      · obtain ⟨p, hp, e⟩ := Option.map_eq_some_iff.1 h
        cases e
        have hl := mapP_len (fun s v q h => valP_len h) hp
        simp at hl
        intro n hn
        rcases List.mem_cons.1 hn with rfl | hn
        · exact ⟨by simp, by simp, by simp only; omega, by simp only; omega⟩
        · exact mapP_in (N := 900000) (fun s v q h => valP_len h) (fun s v q h1 h2 => ih h1 h2) hp (by omega) (by simp) n hn
      · cases h
def getS (s : List UInt8) : Option (List Nd) := match valP (s.length + 1) s with
  | some p => if p.2 = [] ∧ checkS p.1 = 0 then some p.1 else none
  | none => none
def getO : Option (List Nd) → List AV
  | some l => [nds l, .int .i64 0]
  | none => [.nils, .int .i64 5]
theorem read_get (s : List UInt8) (hb : s.length ≤ 800000) (sl : Slots) : callV G cl (some 10) (.fn (.func 68) [] []) [.str s, .fn (.func 69) [] [.ptr 1004 0 0]] ⟨sl, [(1004, box22 none)]⟩ =
    some (match valP (s.length + 1) s with
      | some p => .val (.tup [.str p.2, .bool true]) ⟨sl, [(1004, box22 (some p.1)), (1004, box22 none)]⟩
      | none => .val (.tup [.str [], .bool false]) ⟨sl, [(1004, box22 none), (1004, box22 none)]⟩) := by
  have h := read69 s hb
  cases hv : valP (s.length + 1) s with
  | none =>
    rw [hv] at h
    refine callV_of (pre := [.str s, .fn (.func 69) [] [.ptr 1004 0 0]]) (st1 := ⟨sl, [(1004, box22 none)]⟩) (ns := [1004]) (y := (.ret (.tup [.str [], .bool false]), [(0, box22 none)])) E68 (by decide) ext68 rfl rfl rfl rfl (by exact h) (by kernel_rfl) rfl
  | some p =>
    rw [hv] at h
    refine callV_of (pre := [.str s, .fn (.func 69) [] [.ptr 1004 0 0]]) (st1 := ⟨sl, [(1004, box22 none)]⟩) (ns := [1004]) (y := (.ret (.tup [.str p.2, .bool true]), [(0, box22 (some p.1))])) E68 (by decide) ext68 rfl rfl rfl rfl (by exact h) (by kernel_rfl) rfl
set_option maxHeartbeats 8000000 in
theorem get40 (s : List UInt8) (hb : s.length ≤ 800000) : cl 40 [.str s] [] = some (.ret (.tup (getO (getS s))), []) := by
  have hc := fun sl => read_get s hb sl
  refine fn_intro Try.func40 rfl (by simp) (by decide) rfl ?_
  unfold getS
  cases hv : valP (s.length + 1) s with
  | none =>
    simp only [hv, box22] at hc
    simp [Try.f40, allocX, newObj, hc, getO]
    exact end_is (.inr rfl) (by simp; rfl) rfl rfl
  | some p =>
    have hk := fun d st => check_call (l := p.1) (by have := valP_len hv; omega) (valP_in (by omega) hv) (d := d) (st := st)
    simp only [hv, box22] at hc
    simp only
    simp only [nds] at hk hc
    by_cases h1 : p.2 = []
    · by_cases h2 : checkS p.1 = 0
      · rw [if_pos ⟨h1, h2⟩]
        simp [Try.f40, allocX, newObj, hc, hk, getO, h1, h2]
        exact end_rv (.inr rfl) (by simp; rfl) rfl rfl rfl
      · rw [if_neg (fun h => h2 h.2)]
        simp [Try.f40, allocX, newObj, hc, hk, getO, h1, h2]
        exact end_is (.inr rfl) (by simp; rfl) rfl rfl
    · rw [if_neg (fun h => h1 h.1)]
      simp [Try.f40, allocX, newObj, hc, hk, getO, h1]
      exact end_is (.inr rfl) (by simp; rfl) rfl rfl
theorem getO_names {o : Option (List Nd)} : (AV.tup (getO o)).names = [] := by cases o <;> rfl
theorem get_call {s : List UInt8} (hb : s.length ≤ 800000) {d : Option Nat} {st : ASt} : callV G cl d (.fn (.func 40) [] []) [.str s] st = some (.val (.tup (getO (getS s))) st) :=
  callV_ret E40 (by decide) ext40 rfl rfl (get40 s hb) getO_names
/-! Split. -/
def splitS (s : List UInt8) : Option (List (List UInt8)) := splitA (s.length + 1) [] s
def splitO : Option (List (List UInt8)) → List AV
  | some l => [.list 1 (strsL l), .int .i64 0]
  | none => [.nils, .int .i64 5]
def hp44 : Heap := [(200400, .row 1 [] false ⟨false, 9⟩), (1004, .box 34 (.own 200400))]
theorem read_split {s : List UInt8} {l : List (List UInt8)} {mv b : Bool} (sl : Slots) (h : cl 68 [.str s, .fn (.func 73) [] [.ptr 0 0 0]] (hp34 [] false) = some (.ret (.tup [.str [], .bool b]), hp34 l mv)) :
    callV G cl (some 10) (.fn (.func 68) [] []) [.str s, .fn (.func 73) [] [.ptr 1004 0 0]] ⟨sl, hp44⟩ = some (.val (.tup [.str [], .bool b]) ⟨if mv then sl.map (fun p => (p.1, p.2.kill 200400)) else sl, [(1004, .box 34 (.own 200400)), (200400, tRow l mv)] ++ (if mv then [(200400, .row 1 [] false ⟨false, 9⟩), (1004, .box 34 .undef)] else hp44)⟩) := by
  refine callV_of (pre := [.str s, .fn (.func 73) [] [.ptr 1004 0 0]]) (st1 := ⟨sl, hp44⟩) (ns := [1004, 200400]) (y := (.ret (.tup [.str [], .bool b]), hp34 l mv)) (st3 := ⟨if mv then sl.map (fun p => (p.1, p.2.kill 200400)) else sl, [(1004, .box 34 (.own 200400)), (200400, tRow l mv)] ++ (if mv then [(200400, .row 1 [] false ⟨false, 9⟩), (1004, .box 34 .undef)] else hp44)⟩) E68 (by decide) ext68 rfl rfl rfl rfl (by exact h) ?_ rfl
  cases mv <;> simp [afterCall, afterHeap, zipIx, movedOf, killAll, backMap, backName, hp34, hp44, tRow, AObj.moved, AObj.isRow, AObj.ormv, ASt.killn]
set_option maxHeartbeats 8000000 in
theorem split44 (s : List UInt8) (hb : s.length ≤ 800000) : cl 44 [.str s] [] = some (.ret (.tup (splitO (splitS s))), []) := by
  have h := read73 s hb
  refine fn_intro Try.func44 rfl (by simp) (by decide) rfl ?_
  unfold splitS
  cases hs : splitA (s.length + 1) [] s with
  | none =>
    rw [hs] at h
    obtain ⟨l, mv, h⟩ := h
    have hc := fun sl => read_split sl h
    simp only [hp44, tRow] at hc
    cases mv with
    | false =>
      simp only [Bool.false_eq_true, if_false] at hc
      simp [Try.f44, allocX, newObj, hc, splitO]
      exact end_is (.inr rfl) (by simp; rfl) rfl rfl
    | true =>
      simp only [if_true] at hc
      simp [Try.f44, allocX, newObj, hc, splitO]
      exact end_is (.inr rfl) (by simp; rfl) rfl rfl
  | some l =>
    rw [hs] at h
    obtain ⟨mv, h⟩ := h
    have hc := fun sl => read_split sl h
    simp only [hp44, tRow] at hc
    cases mv with
    | false =>
      simp only [Bool.false_eq_true, if_false] at hc
      simp [Try.f44, allocX, newObj, hc, splitO]
      exact end_rv (.inr rfl) (by simp; rfl) rfl rfl rfl
    | true =>
      simp only [if_true] at hc
      simp [Try.f44, allocX, newObj, hc, splitO]
      exact end_rv (.inr rfl) (by simp; rfl) rfl rfl rfl
theorem splitO_names {o : Option (List (List UInt8))} : (AV.tup (splitO o)).names = [] := by cases o <;> rfl
theorem split_call {s : List UInt8} (hb : s.length ≤ 800000) {d : Option Nat} {st : ASt} : callV G cl d (.fn (.func 44) [] []) [.str s] st = some (.val (.tup (splitO (splitS s))) st) :=
  callV_ret E44 (by decide) ext44 rfl rfl (split44 s hb) splitO_names
end Go.Proofs.Ytonaejfpiihfhaa

/- Lists that are the same. -/
namespace Go.Proofs.Ytonaejfpiihfhaa
open Go Abs
set_option linter.unusedSimpArgs false
set_option linter.unusedVariables false
theorem same18_l {l : List Nd} (hb : l.length ≤ 9223372036854775806) {d : Option Nat} {st : ASt} : callV G cl d (.fn (.func 18) [] []) [nds l, nds l] st = some (.val (.bool true) st) :=
  callV_ret (v := .bool true) E18 (by decide) ext18 rfl rfl (by have := same18_eq l l hb; rw [decide_eq_true rfl] at this; exact this) rfl
theorem same18_n {d : Option Nat} {st : ASt} : callV G cl d (.fn (.func 18) [] []) [.nils, .nils] st = some (.val (.bool true) st) := callV_ret E18 (by decide) ext18 rfl rfl same18_nils rfl
theorem texts27_l {l : List (List UInt8)} (hb : l.length ≤ 9223372036854775806) {d : Option Nat} {st : ASt} : callV G cl d (.fn (.func 27) [] []) [.list 1 (strsL l), .list 1 (strsL l)] st = some (.val (.bool true) st) :=
  callV_ret (v := .bool true) E27 (by decide) ext27 rfl rfl (texts_eq l hb) rfl
theorem texts27_n {d : Option Nat} {st : ASt} : callV G cl d (.fn (.func 27) [] []) [.nils, .nils] st = some (.val (.bool true) st) :=
  callV_ret (v := .bool true) E27 (by decide) ext27 rfl rfl (texts_nil (.inl rfl) (.inl rfl)) rfl
theorem splitA_len : ∀ {f : Nat} {l l' : List (List UInt8)} {s : List UInt8}, splitA f l s = some l' → l'.length ≤ l.length + s.length := by
  intro f
  induction f with
  | zero => intro l l' s h; cases h
  | succ f ih =>
    intro l l' s h
    cases s with
    | nil => cases h; omega
    | cons b r =>
      simp only [splitA] at h
      split at h
      · rw [Option.bind_eq_some_iff] at h
        obtain ⟨p, hp, h⟩ := h
        have h1 := textP_len hp
        have h2 := ih h
        simp at h2 ⊢; omega
      · cases h
end Go.Proofs.Ytonaejfpiihfhaa
