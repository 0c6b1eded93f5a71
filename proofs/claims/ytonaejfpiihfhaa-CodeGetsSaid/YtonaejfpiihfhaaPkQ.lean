/- What the functions come to: code.read, First, Get, Split. What the functions come to: the document's text out of bytes. What the functions come to: the document's values out of bytes. What the functions come to: the document's value out of bytes. What the functions come to: the document's maps out of bytes. -/
import Derived.Test.YtonaejfpiihfhaaPkP
import Derived.Test.YtonaejfpiihfhaaPkV

/- What the functions come to: code.read, First, Get, Split. -/
namespace Go.Proofs.Ytonaejfpiihfhaa
open Go Abs
set_option linter.unusedSimpArgs false
set_option linter.unusedVariables false
attribute [local simp] canonK canonAll canonSlot canonCell canonBox ownStep restrictTo pureCells pureRows reachL AObj.names List.range_succ appendA
/-! First$1, Get$1. -/
theorem first72 (s : List UInt8) (hb : s.length ≤ 800000) : Says 72 [] s ((valP (s.length + 1) s).map fun p => (.tup [], p.2)) := by
  have h := value70 (s.length + 1) s (by omega) hb
  cases hv : valP (s.length + 1) s with
  | none =>
    rw [hv] at h
    obtain ⟨s', h⟩ := h
    have hm := fun d sl hp' (h0 : aget hp' 0 = some (rBox s)) => read_P1 (d := d) (sl := sl) (hp := hp') (i := 0) (g := 70) (rest := []) E70 (by decide) rfl (by simp) h0 h
    simp only [rBox] at hm
    refine ⟨s', fn_intro Try.func72 rfl (by simp) (by decide) rfl ?_⟩
    simp [Try.f72, hpR1, rBox, hm]
    exact endRp plain_odd rfl
  | some p =>
    rw [hv] at h
    have hm := fun d sl hp (h0 : aget hp 0 = some (rBox s)) => value_some h (d := d) (sl := sl) h0
    simp only [rBox] at hm
    refine fn_intro Try.func72 rfl (by simp) (by decide) rfl ?_
    simp [Try.f72, hpR1, rBox, hm]
    exact endR (vs := []) (.inl rfl) rfl plain_unit rfl
def box22 (l : Option (List Nd)) : AObj := .box 22 (match l with | some l => nds l | none => .nils)
theorem get69 (s : List UInt8) (hb : s.length ≤ 800000) : match valP (s.length + 1) s with
    | some p => cl 69 [.ptr 0 0 0, .ptr 1 0 0] [(0, rBox s), (1, box22 none)] = some (.ret (.tup []), [(0, rBox p.2), (1, box22 (some p.1))])
    | none => ∃ s', cl 69 [.ptr 0 0 0, .ptr 1 0 0] [(0, rBox s), (1, box22 none)] = some (.pan oddR, [(0, rBox s'), (1, box22 none)]) := by
  have h := value70 (s.length + 1) s (by omega) hb
  cases hv : valP (s.length + 1) s with
  | none =>
    rw [hv] at h
    obtain ⟨s', h⟩ := h
    have hm := fun d sl hp' (h0 : aget hp' 0 = some (rBox s)) => read_P1 (d := d) (sl := sl) (hp := hp') (i := 0) (g := 70) (rest := []) E70 (by decide) rfl (by simp) h0 h
    simp only [rBox] at hm
    refine ⟨s', fn_intro Try.func69 rfl (by simp) (by decide) rfl ?_⟩
    simp [Try.f69, box22, rBox, hm]
    rfl
  | some p =>
    rw [hv] at h
    have hm := fun d sl hp (h0 : aget hp 0 = some (rBox s)) => value_some h (d := d) (sl := sl) h0
    simp only [rBox, nds] at hm
    refine fn_intro Try.func69 rfl (by simp) (by decide) rfl ?_
    simp [Try.f69, box22, rBox, hm, nds]
    rfl
/-! The closure that looks for a panic. -/
theorem callB_gen {call : CallFn} {d : Option Nat} {g : FuncId} {first caps args pre : List AV} {st st1 st3 : ASt} {ns : List Nat} {y : ARes × Heap} (hE : G.E g = true) (hg : g < RB) (hpre : prepL G g st.hp (first ++ args ++ caps) 0 = pre)
    (hst : st.fix (prepRows G g (first ++ args ++ caps) 0) = st1) (hns : reachL 40 st1.hp (AV.namesL pre) [] = ns) (hall : (ns.all fun n => (aget st1.hp n).isSome) = true)
    (hc : call g (AV.renL (toMap ns) pre) (subHeap ns st1.hp) = some y) (ha : afterCall d ns st1 y.2 = some st3) : callB G call d (.fn (.func g) first caps) args st = some (answered (backMap ns d y.2) st3 y.1, movedOf ns y.2) := by
  simp only [callB, hpre, hst, hns, hE, hg, hall, decide_true, Bool.and_true, if_true, hc, Option.bind_some, ha, Option.map_some]
theorem clo_nil (t : List UInt8) (b : Bool) : runClosure G .nili 99 [.ptr 0 0 0, .ptr 1 0 0] [(0, .box 9 (.str t)), (1, .box 4 (.bool b))] = some (.ret (.tup []), [(0, .box 9 (.str t)), (1, .box 4 (.bool b))]) := by kernel_rfl
theorem clo_odd (t : List UInt8) (b : Bool) : runClosure G oddR 99 [.ptr 0 0 0, .ptr 1 0 0] [(0, .box 9 (.str t)), (1, .box 4 (.bool b))] = some (.ret (.tup []), [(0, .box 9 (.str [])), (1, .box 4 (.bool false))]) := by kernel_rfl
theorem clo_call {rv : AV} {p q : Nat} (hpq : p ≠ q) {sl : Slots} {H : Heap} {t t' : List UInt8} {b b' : Bool} (h0 : aget H p = some (.box 9 (.str t))) (h1 : aget H q = some (.box 4 (.bool b)))
    (hc : runClosure G rv 99 [.ptr 0 0 0, .ptr 1 0 0] [(0, .box 9 (.str t)), (1, .box 4 (.bool b))] = some (.ret (.tup []), [(0, .box 9 (.str t')), (1, .box 4 (.bool b'))])) :
    callB G (runClosure G rv) (some 40000) (.fn (.func 99) [] [.ptr p 0 0, .ptr q 0 0]) [] ⟨sl, H⟩ = some (.val (.tup []) ⟨sl, [(p, .box 9 (.str t')), (q, .box 4 (.bool b'))] ++ H⟩, []) := by
  have hqp : q ≠ p := fun e => hpq e.symm
  have := callB_gen (call := runClosure G rv) (d := some 40000) (g := 99) (first := []) (args := []) (caps := [.ptr p 0 0, .ptr q 0 0]) (pre := [.ptr p 0 0, .ptr q 0 0]) (st := ⟨sl, H⟩) (st1 := ⟨sl, H⟩) (ns := [p, q]) (y := (.ret (.tup []), [(0, .box 9 (.str t')), (1, .box 4 (.bool b'))]))
    (st3 := ⟨sl, [(p, .box 9 (.str t')), (q, .box 4 (.bool b'))] ++ H⟩) rfl (by decide) (by simp [prepL]) (by simp [prepRows, ASt.fix, hfix]) (by simp [AV.namesL, reachL, h0, h1, hpq, hqp]) (by simp [h0, h1])
    (by simp [AV.renL, subHeap, zipIx, toMap, h0, h1, hpq, hqp, AObj.unmv]; exact hc) (by simp [afterCall, afterHeap, zipIx, movedOf, killAll, backMap, backName, AObj.moved, AObj.isRow, AObj.ormv, h0, h1, hpq, hqp])
  rw [this]
  simp [answered, movedOf, zipIx, AObj.moved]
noncomputable abbrev b68 : Code := Try.f68.body.getD .skip
theorem res68 {st : ASt} {p q : Nat} {t : List UInt8} {b : Bool} (h4 : st.slot 4 = .ptr p 0 0) (h5 : st.slot 5 = .ptr q 0 0) (h0 : aget st.hp p = some (.box 9 (.str t))) (h1 : aget st.hp q = some (.box 4 (.bool b))) :
    resL G st Try.f68.results.toList = some [.str t, .bool b] := by
  have hp : G.P = Try.prog := rfl
  simp [Try.f68, resL, resv, h4, h5, h0, h1, objCells, hp]
theorem pureOut (t : List UInt8) (b : Bool) : Plain (.tup [.str t, .bool b]) := ⟨fun _ => rfl, rfl, rfl, fun _ => rfl⟩
/-! read, with a function that was handed no memory. -/
def st68 (s : List UInt8) : ASt := ⟨[(0, .str s), (1, .fn (.func 72) [] []), (4, .ptr 1004 0 0), (5, .ptr 1005 0 0)], [(1005, .box 4 (.bool false)), (1004, .box 9 (.str []))]⟩
def st68b (s : List UInt8) : ASt := ⟨(7, .fn (.func 99) [] [.ptr 1004 0 0, .ptr 1005 0 0]) :: (st68 s).sl, (st68 s).hp⟩
def st68c (s : List UInt8) : ASt := ⟨[(7, .fn (.func 99) [] [.ptr 0 0 0, .ptr 1 0 0]), (0, .str s), (1, .fn (.func 72) [] []), (4, .ptr 0 0 0), (5, .ptr 1 0 0)], [(0, .box 9 (.str [])), (1, .box 4 (.bool false))]⟩
theorem read72_end (s : List UInt8) {x2 : AX} {rv : AV} {s3 : ASt} {t t' : List UInt8} {b b' : Bool} (hrest : codeX G cl lp 68 (restOf b68) (st68c s) = some (x2, s3)) (hrv : recOf x2 = some rv) (h4 : s3.slot 4 = .ptr 0 0 0) (h5 : s3.slot 5 = .ptr 1 0 0)
    (h0 : aget s3.hp 0 = some (.box 9 (.str t))) (h1 : aget s3.hp 1 = some (.box 4 (.bool b)))
    (hc : runClosure G rv 99 [.ptr 0 0 0, .ptr 1 0 0] [(0, .box 9 (.str t)), (1, .box 4 (.bool b))] = some (.ret (.tup []), [(0, .box 9 (.str t')), (1, .box 4 (.bool b'))])) :
    cl 68 [.str s, .fn (.func 72) [] []] [] = some (.ret (.tup [.str t', .bool b']), []) := by
  obtain ⟨sl, H⟩ := s3
  refine call_intro (by decide) rfl (runD_of (fn := Try.f68) (A := sA b68) (ops := sO b68) (f := sF b68) (rest := restOf b68) (s0 := st68 s) (s1 := st68b s) (ns := [1004, 1005]) (x2 := x2) (rv := rv) (vs := [.str t', .bool b']) (s4 := ⟨sl, [(0, .box 9 (.str t')), (1, .box 4 (.bool b'))] ++ H⟩) (m := []) (v := .tup [])
    (by simp) Try.func68 (by kernel_rfl) (by kernel_rfl) (by kernel_rfl) (by kernel_rfl) (by kernel_rfl) hrest ?_ hrv ?_ ?_ ?_)
  · have e : ((st68b s).ev (sF b68)).ren (toMap [1004, 1005]) = .fn (.func 99) [] [.ptr 0 0 0, .ptr 1 0 0] := by kernel_rfl
    rw [e]
    simp [isBoxAt, h0, h1]
  · have e : ((st68b s).ev (sF b68)).ren (toMap [1004, 1005]) = .fn (.func 99) [] [.ptr 0 0 0, .ptr 1 0 0] := by kernel_rfl
    rw [e]
    exact clo_call (by decide) h0 h1 hc
  · exact res68 (p := 0) (q := 1) (by simpa [ASt.slot] using h4) (by simpa [ASt.slot] using h5) (by simp) (by simp)
  · have e : finishA G 68 [] (.tup [.str t', .bool b']) ⟨sl, [(0, .box 9 (.str t')), (1, .box 4 (.bool b'))] ++ H⟩ = (.tup [.str t', .bool b'], []) := by
      unfold finishA
      split <;> rfl
    simp only [List.map_nil, resOf_two, e, retA]
set_option maxHeartbeats 8000000 in
theorem read72 (s : List UInt8) (hb : s.length ≤ 800000) : cl 68 [.str s, .fn (.func 72) [] []] [] = some (.ret (.tup (match valP (s.length + 1) s with | some p => [.str p.2, .bool true] | none => [.str [], .bool false])), []) := by
  have h := first72 s hb
  cases hv : valP (s.length + 1) s with
  | none =>
    rw [hv] at h
    obtain ⟨s', h⟩ := h
    have hm := fun d sl hp' (h0 : aget hp' 1010 = some (rBox s)) => read_P1 (d := d) (sl := sl) (hp := hp') (i := 1010) (g := 72) (rest := []) E72 (by decide) rfl (by simp) h0 h
    simp only [rBox] at hm
    have hrest : ∃ st, codeX G cl lp 68 (restOf b68) (st68c s) = some (.pan oddR, st) ∧ st.slot 4 = .ptr 0 0 0 ∧ st.slot 5 = .ptr 1 0 0 ∧ aget st.hp 0 = some (.box 9 (.str [])) ∧ aget st.hp 1 = some (.box 4 (.bool false)) := by
      refine ⟨?st, ?h1, ?h2⟩
      case h1 =>
        simp [restOf, b68, Try.f68, splitD, st68c, hm]
        rfl
      case h2 => exact ⟨rfl, rfl, rfl, rfl⟩
    obtain ⟨st, e, h4, h5, h0, h1⟩ := hrest
    exact read72_end s e rfl h4 h5 h0 h1 (clo_odd _ _)
  | some p =>
    rw [hv] at h
    have hm := fun d sl hp (h0 : aget hp 1010 = some (rBox s)) => read_V (d := d) (sl := sl) (i := 1010) (hp := hp) (g := 72) (rest := []) E72 (by decide) rfl (by simp) plain_unit h0 h
    simp only [rBox] at hm
    have hrest : ∃ st, codeX G cl lp 68 (restOf b68) (st68c s) = some (.ret, st) ∧ st.slot 4 = .ptr 0 0 0 ∧ st.slot 5 = .ptr 1 0 0 ∧ aget st.hp 0 = some (.box 9 (.str p.2)) ∧ aget st.hp 1 = some (.box 4 (.bool true)) := by
      refine ⟨?st', ?h3, ?h4⟩
      case h3 =>
        simp [restOf, b68, Try.f68, splitD, st68c, hm]
        rfl
      case h4 => exact ⟨rfl, rfl, rfl, rfl⟩
    obtain ⟨st, e, h4, h5, h0, h1⟩ := hrest
    exact read72_end s e rfl h4 h5 h0 h1 (clo_nil _ _)
/-! read, with a function that was handed a place for a value. -/
def st68g (s : List UInt8) : ASt := ⟨[(0, .str s), (1, .fn (.func 69) [] [.ptr 0 0 0]), (4, .ptr 1004 0 0), (5, .ptr 1005 0 0)], [(1005, .box 4 (.bool false)), (1004, .box 9 (.str [])), (0, box22 none)]⟩
def st68gb (s : List UInt8) : ASt := ⟨(7, .fn (.func 99) [] [.ptr 1004 0 0, .ptr 1005 0 0]) :: (st68g s).sl, (st68g s).hp⟩
def st68gc (s : List UInt8) : ASt := ⟨[(7, .fn (.func 99) [] [.ptr 1 0 0, .ptr 2 0 0]), (0, .str s), (1, .fn (.func 69) [] [.ptr 0 0 0]), (4, .ptr 1 0 0), (5, .ptr 2 0 0)], [(0, box22 none), (1, .box 9 (.str [])), (2, .box 4 (.bool false))]⟩
theorem out22 {hp : Heap} {v : AV} {l : Option (List Nd)} (hv : Plain v) (h : aget hp 0 = some (box22 l)) : outOf [0] hp v = (v, [(0, box22 l)]) := by
  unfold outOf
  cases l <;> simp [hv.names, h, box22, hv.ren, onlyHeap, idMap, nds]
theorem read69_end (s : List UInt8) {x2 : AX} {rv : AV} {s3 : ASt} {t t' : List UInt8} {b b' : Bool} {l : Option (List Nd)} (hrest : codeX G cl lp 68 (restOf b68) (st68gc s) = some (x2, s3)) (hrv : recOf x2 = some rv) (h4 : s3.slot 4 = .ptr 1 0 0) (h5 : s3.slot 5 = .ptr 2 0 0)
    (hl : aget s3.hp 0 = some (box22 l)) (h0 : aget s3.hp 1 = some (.box 9 (.str t))) (h1 : aget s3.hp 2 = some (.box 4 (.bool b)))
    (hc : runClosure G rv 99 [.ptr 0 0 0, .ptr 1 0 0] [(0, .box 9 (.str t)), (1, .box 4 (.bool b))] = some (.ret (.tup []), [(0, .box 9 (.str t')), (1, .box 4 (.bool b'))])) :
    cl 68 [.str s, .fn (.func 69) [] [.ptr 0 0 0]] [(0, box22 none)] = some (.ret (.tup [.str t', .bool b']), [(0, box22 l)]) := by
  obtain ⟨sl, H⟩ := s3
  refine call_intro (by decide) rfl (runD_of (fn := Try.f68) (A := sA b68) (ops := sO b68) (f := sF b68) (rest := restOf b68) (s0 := st68g s) (s1 := st68gb s) (ns := [0, 1004, 1005]) (x2 := x2) (rv := rv) (vs := [.str t', .bool b']) (s4 := ⟨sl, [(1, .box 9 (.str t')), (2, .box 4 (.bool b'))] ++ H⟩) (m := []) (v := .tup [])
    (by simp) Try.func68 (by kernel_rfl) (by kernel_rfl) (by kernel_rfl) (by kernel_rfl) (by kernel_rfl) hrest ?_ hrv ?_ ?_ ?_)
  · have e : ((st68gb s).ev (sF b68)).ren (toMap [0, 1004, 1005]) = .fn (.func 99) [] [.ptr 1 0 0, .ptr 2 0 0] := by kernel_rfl
    rw [e]
    simp [isBoxAt, h0, h1]
  · have e : ((st68gb s).ev (sF b68)).ren (toMap [0, 1004, 1005]) = .fn (.func 99) [] [.ptr 1 0 0, .ptr 2 0 0] := by kernel_rfl
    rw [e]
    exact clo_call (by decide) h0 h1 hc
  · exact res68 (p := 1) (q := 2) (by simpa [ASt.slot] using h4) (by simpa [ASt.slot] using h5) (by simp) (by simp)
  · have hH : aget ([(1, AObj.box 9 (.str t')), (2, .box 4 (.bool b'))] ++ H) 0 = some (box22 l) := by simpa using hl
    have e : finishA G 68 [0] (.tup [.str t', .bool b']) ⟨sl, [(1, .box 9 (.str t')), (2, .box 4 (.bool b'))] ++ H⟩ = (.tup [.str t', .bool b'], [(0, box22 l)]) := by
      unfold finishA
      split
      · exact out22 (pureOut _ _) hH
      · exact out22 (pureOut _ _) hH
    simp only [List.map_cons, List.map_nil, resOf_two, e, retA]
theorem callV_two {d : Option Nat} {g : FuncId} {i k : Nat} {x y x' y' : AObj} {sl : Slots} {hp : Heap} {res : ARes} (hE : G.E g = true) (hg : g < RB) (hx : G.ext g = none) (hik : i ≠ k) (hi : aget hp i = some x) (hk : aget hp k = some y)
    (nx : x.names = []) (ny : y.names = []) (rx : ∀ m, x.ren m = x) (ry : ∀ m, y.ren m = y) (ux : x.unmv = x) (uy : y.unmv = y) (rx' : ∀ m, x'.ren m = x') (ry' : ∀ m, y'.ren m = y') (mx : x.moved = false) (my : y.moved = false) (mx' : x'.moved = false) (my' : y'.moved = false) (ox : ∀ b, x'.ormv b = x') (oy : ∀ b, y'.ormv b = y')
    (hv : Plain res.val) (hc : cl g [.ptr 0 0 0, .ptr 1 0 0] [(0, x), (1, y)] = some (res, [(0, x'), (1, y')])) :
    callV G cl d (.fn (.func g) [] [.ptr k 0 0]) [.ptr i 0 0] ⟨sl, hp⟩ = some (pureR ⟨sl, [(i, x'), (k, y')] ++ hp⟩ res) := by
  have hki : k ≠ i := fun e => hik e.symm
  refine callV_of (pre := [.ptr i 0 0, .ptr k 0 0]) (st1 := ⟨sl, hp⟩) (ns := [i, k]) (y := (res, [(0, x'), (1, y')])) (st3 := ⟨sl, [(i, x'), (k, y')] ++ hp⟩) hE hg hx ?_ ?_ ?_ ?_ ?_ ?_ ?_
  · simp [prepL]
  · simp [prepRows, ASt.fix, hfix]
  · simp [-AObj.names, AV.namesL, reachL, hi, hk, nx, ny, hik, hki]
  · simp [hi, hk]
  · simp [AV.renL, subHeap, zipIx, toMap, hi, hk, hik, hki, rx, ry, ux, uy]
    exact hc
  · simp [afterCall, afterHeap, zipIx, movedOf, killAll, backMap, backName, hi, hk, hik, hki, rx', ry', mx, my, mx', my', ox, oy]
  · cases res with
    | ret v => simp [answered, pureR]; exact hv.ren _
    | pan v => simp [answered, pureR]; exact hv.ren _
set_option maxHeartbeats 8000000 in
theorem read69 (s : List UInt8) (hb : s.length ≤ 800000) : cl 68 [.str s, .fn (.func 69) [] [.ptr 0 0 0]] [(0, box22 none)] =
    match valP (s.length + 1) s with
    | some p => some (.ret (.tup [.str p.2, .bool true]), [(0, box22 (some p.1))])
    | none => some (.ret (.tup [.str [], .bool false]), [(0, box22 none)]) := by
  have h := get69 s hb
  cases hv : valP (s.length + 1) s with
  | none =>
    rw [hv] at h
    obtain ⟨s', h⟩ := h
    have hm := fun d sl hp (h0 : aget hp 1010 = some (rBox s)) (h1 : aget hp 0 = some (box22 none)) => callV_two (d := d) (sl := sl) (hp := hp) (i := 1010) (k := 0) (res := .pan oddR) (g := 69) E69 (by decide) rfl (by decide) h0 h1 rfl rfl (fun _ => rfl) (fun _ => rfl) rfl rfl (fun _ => rfl) (fun _ => rfl) rfl rfl rfl rfl (fun _ => rfl) (fun _ => rfl) plain_odd h
    simp only [rBox, box22, pureR_p] at hm
    have hrest : ∃ st, codeX G cl lp 68 (restOf b68) (st68gc s) = some (.pan oddR, st) ∧ st.slot 4 = .ptr 1 0 0 ∧ st.slot 5 = .ptr 2 0 0 ∧ aget st.hp 0 = some (box22 none) ∧ aget st.hp 1 = some (.box 9 (.str [])) ∧ aget st.hp 2 = some (.box 4 (.bool false)) := by
      refine ⟨?st, ?h1, ?h2⟩
      case h1 =>
        simp [restOf, b68, Try.f68, splitD, st68gc, box22, hm]
        rfl
      case h2 => exact ⟨rfl, rfl, rfl, rfl, rfl⟩
    obtain ⟨st, e, h4, h5, hl, h0, h1⟩ := hrest
    exact read69_end s e rfl h4 h5 hl h0 h1 (clo_odd _ _)
  | some p =>
    rw [hv] at h
    have hm := fun d sl hp (h0 : aget hp 1010 = some (rBox s)) (h1 : aget hp 0 = some (box22 none)) => callV_two (d := d) (sl := sl) (hp := hp) (i := 1010) (k := 0) (res := .ret (.tup [])) (g := 69) E69 (by decide) rfl (by decide) h0 h1 rfl rfl (fun _ => rfl) (fun _ => rfl) rfl rfl (fun _ => rfl) (fun _ => rfl) rfl rfl rfl rfl (fun _ => rfl) (fun _ => rfl) plain_unit h
    simp only [rBox, box22, pureR_r] at hm
    have hrest : ∃ st, codeX G cl lp 68 (restOf b68) (st68gc s) = some (.ret, st) ∧ st.slot 4 = .ptr 1 0 0 ∧ st.slot 5 = .ptr 2 0 0 ∧ aget st.hp 0 = some (box22 (some p.1)) ∧ aget st.hp 1 = some (.box 9 (.str p.2)) ∧ aget st.hp 2 = some (.box 4 (.bool true)) := by
      refine ⟨?st', ?h3, ?h4⟩
      case h3 =>
        simp [restOf, b68, Try.f68, splitD, st68gc, box22, hm, nds]
        rfl
      case h4 => exact ⟨rfl, rfl, rfl, rfl, rfl⟩
    obtain ⟨st, e, h4, h5, hl, h0, h1⟩ := hrest
    exact read69_end s e rfl h4 h5 hl h0 h1 (clo_nil _ _)
end Go.Proofs.Ytonaejfpiihfhaa

/- What the functions come to: the document's text out of bytes. -/
namespace Go.Proofs.Ytonaejfpiihfhaa
open Go Abs
set_option linter.unusedSimpArgs false
set_option linter.unusedVariables false
attribute [local simp] canonK canonAll canonSlot canonCell canonBox ownStep restrictTo pureCells pureRows reachL AObj.names List.range_succ appendA
def badV : AV := .agg [.nils, .int .i64 0, .bool true]
def okV (l : List Nd) (at_ : Nat) : AV := .agg [nds l, .int .i64 at_, .bool false]
/-- What was read, as the document tells it. -/
def readO (n : Nat) : Option (List Nd × List UInt8) → AV
  | some p => okV p.1 (n - p.2.length)
  | none => badV
def zeroRd : AV := .agg [.nils, .int .i64 0, .bool false]
def st77 (s out : List UInt8) (at_ : Nat) : ASt := ⟨[(0, .str s), (1, .int .i64 at_), (4, .ptr 1004 0 0), (5, .str out)], [(1004, .box 103 zeroRd)]⟩
theorem at_get {s : List UInt8} {i : Nat} {b : UInt8} (h : s[i]? = some b) : indexv Try.prog 9 (.str s) (.int .i64 i) = some (.int .u8 b.toNat) := str_at h
theorem cut_one {s : List UInt8} {i : Nat} {a : UInt8} (h : s[i]? = some a) : (s.take (i + 1)).drop i = [a] := by
  have hlt := (List.getElem?_eq_some_iff.1 h).1
  have e := (List.getElem?_eq_some_iff.1 h).2
  rw [List.drop_take, List.drop_eq_getElem_cons hlt, e, show i + 1 - i = 1 by omega]
  rfl
set_option maxHeartbeats 8000000 in
theorem rt_exit (s out : List UInt8) (at_ : Nat) (h : s.length ≤ at_ + 1) (ha : at_ ≤ 1000000) : rX 77 (lc Try.f77 0) (codeX G cl lp 77 (lc Try.f77 0) (st77 s out at_)) = some (.exit 0, ⟨(st77 s out at_).sl ++ [(10, .bool false)], (st77 s out at_).hp⟩) := by
  have hw : IntKind.i64.wrap ((at_ : Int) + 1) = ((at_ + 1 : Nat) : Int) := by rw [i64_wrap (by omega) (by omega)]; omega
  have h' : ¬ ((at_ : Int) + 1) < s.length := by omega
  simp [lc, loopsOf, Try.f77, st77, zeroRd, hw, h']
  done
set_option maxHeartbeats 8000000 in
theorem rt_plain (s out : List UInt8) (at_ : Nat) (ha : at_ ≤ 1000000) (ho : out.length ≤ 1000000) (a b : UInt8) (h1 : s[at_]? = some a) (h2 : s[at_ + 1]? = some b) (h0 : a ≠ 0) : rX 77 (lc Try.f77 0) (codeX G cl lp 77 (lc Try.f77 0) (st77 s out at_)) = some (.normal, st77 s (out ++ [a]) (at_ + 1)) := by
  have hw : IntKind.i64.wrap ((at_ : Int) + 1) = ((at_ + 1 : Nat) : Int) := by rw [i64_wrap (by omega) (by omega)]; omega
  have hlt := (List.getElem?_eq_some_iff.1 h2).1
  have e1 := (List.getElem?_eq_some_iff.1 h1).2
  have hlt' : ((at_ : Int) + 1) < s.length := by omega
  have x1 := at_get h1
  have x2 := at_get h2
  simp only [Int.natCast_add, Int.natCast_one] at x2
  have hz : ¬ a.toNat = 0 := fun h => h0 (by rw [← UInt8.toNat_inj]; exact h)
  have hle0 : (0 : Int) ≤ (at_ : Int) + 1 := by omega
  have hle1 : at_ + 1 ≤ s.length := by omega
  have hL : out.length + 1 ≤ LIM := by unfold LIM; omega
  have hcut := cut_one h1
  simp [lc, loopsOf, Try.f77, st77, zeroRd, hw, hlt', x1, x2, hz, hle0, hle1, hcut, hL]
  done
set_option maxHeartbeats 8000000 in
theorem rt_zero (s out : List UInt8) (at_ : Nat) (ha : at_ ≤ 1000000) (ho : out.length ≤ 1000000) (h1 : s[at_]? = some 0) (h2 : s[at_ + 1]? = some 255) : rX 77 (lc Try.f77 0) (codeX G cl lp 77 (lc Try.f77 0) (st77 s out at_)) = some (.normal, st77 s (out ++ [0]) (at_ + 2)) := by
  have hw : IntKind.i64.wrap ((at_ : Int) + 1) = ((at_ + 1 : Nat) : Int) := by rw [i64_wrap (by omega) (by omega)]; omega
  have hw2 : IntKind.i64.wrap ((at_ : Int) + 1 + 1) = ((at_ + 2 : Nat) : Int) := by rw [i64_wrap (by omega) (by omega)]; omega
  have hlt := (List.getElem?_eq_some_iff.1 h2).1
  have hlt' : ((at_ : Int) + 1) < s.length := by omega
  have x1 := at_get h1
  have x2 := at_get h2
  simp only [Int.natCast_add, Int.natCast_one] at x2
  have hle0 : (0 : Int) ≤ (at_ : Int) + 1 := by omega
  have hle1 : at_ + 1 ≤ s.length := by omega
  have hL : out.length + 1 ≤ LIM := by unfold LIM; omega
  have hcut := cut_one h1
  simp [lc, loopsOf, Try.f77, st77, zeroRd, hw, hlt', x1, x2, hle0, hle1, hcut, hL, hw2]
  done
/-- What the document's text is told as, at its end. -/
def endsJ (j : Nat) (v : AV) (st : ASt) : Prop := st.slot j = .ptr (1000 + j) 0 0 ∧ ∃ w, aget st.hp (1000 + j) = some (.box 103 w) ∧ w.rv st.hp = v ∧ ∃ cs, w = .agg cs ∧ cs.length = 3
abbrev ends77 (v : AV) (st : ASt) : Prop := endsJ 4 v st
set_option maxHeartbeats 8000000 in
theorem rt_end (s out : List UInt8) (at_ : Nat) (ha : at_ ≤ 1000000) (h1 : s[at_]? = some 0) (h2 : s[at_ + 1]? = some 0) : ∃ st, rX 77 (lc Try.f77 0) (codeX G cl lp 77 (lc Try.f77 0) (st77 s out at_)) = some (.ret, st) ∧ ends77 (okV [⟨3, 0, out, 0⟩] (at_ + 2)) st := by
  have hw : IntKind.i64.wrap ((at_ : Int) + 1) = ((at_ + 1 : Nat) : Int) := by rw [i64_wrap (by omega) (by omega)]; omega
  have hw2 : IntKind.i64.wrap ((at_ : Int) + 2) = ((at_ + 2 : Nat) : Int) := by rw [i64_wrap (by omega) (by omega)]; omega
  have hlt := (List.getElem?_eq_some_iff.1 h2).1
  have hlt' : ((at_ : Int) + 1) < s.length := by omega
  have x1 := at_get h1
  have x2 := at_get h2
  simp only [Int.natCast_add, Int.natCast_one] at x2
  refine ⟨?st, ?h1, ?h2⟩
  case h1 =>
    simp [lc, loopsOf, Try.f77, st77, zeroRd, hw, hlt', x1, x2, hw2]
    rfl
  case h2 => exact ⟨rfl, _, rfl, rfl, _, rfl, rfl⟩
set_option maxHeartbeats 8000000 in
theorem rt_bad (s out : List UInt8) (at_ : Nat) (ha : at_ ≤ 1000000) (h1 : s[at_]? = some 0) (b : UInt8) (h2 : s[at_ + 1]? = some b) (h0 : b ≠ 0) (h5 : b ≠ 255) : ∃ st, rX 77 (lc Try.f77 0) (codeX G cl lp 77 (lc Try.f77 0) (st77 s out at_)) = some (.ret, st) ∧ ends77 badV st := by
  have hw : IntKind.i64.wrap ((at_ : Int) + 1) = ((at_ + 1 : Nat) : Int) := by rw [i64_wrap (by omega) (by omega)]; omega
  have hlt := (List.getElem?_eq_some_iff.1 h2).1
  have hlt' : ((at_ : Int) + 1) < s.length := by omega
  have x1 := at_get h1
  have x2 := at_get h2
  simp only [Int.natCast_add, Int.natCast_one] at x2
  have hb0 : b.toNat = 0 ↔ b = 0 := by rw [← UInt8.toNat_inj]; rfl
  have hb5 : b.toNat = 255 ↔ b = 255 := by rw [← UInt8.toNat_inj]; rfl
  have hi5 : ¬ (b.toNat : Int) = 255 := by rw [show (255 : Int) = ((255 : Nat) : Int) from rfl, Int.natCast_inj, hb5]; exact h5
  refine ⟨?st, ?h1, ?h2⟩
  case h1 =>
    simp [lc, loopsOf, Try.f77, st77, zeroRd, hw, hlt', x1, x2, hb0, hb5, h0, h5, hi5]
    rfl
  case h2 => exact ⟨rfl, _, rfl, rfl, _, rfl, rfl⟩
theorem drop_two {s : List UInt8} {i : Nat} {a b : UInt8} {r : List UInt8} (h : s.drop i = a :: b :: r) : s[i]? = some a ∧ s[i + 1]? = some b ∧ s.drop (i + 1) = b :: r ∧ s.drop (i + 2) = r := by
  have h0 : (s.drop i)[0]? = some a := by rw [h]; rfl
  have h1 : (s.drop i)[1]? = some b := by rw [h]; rfl
  rw [List.getElem?_drop] at h0 h1
  refine ⟨h0, h1, ?_, ?_⟩
  · have : (s.drop i).drop 1 = b :: r := by rw [h]; rfl
    rwa [List.drop_drop] at this
  · have : (s.drop i).drop 2 = r := by rw [h]; rfl
    rwa [List.drop_drop] at this
theorem loop77 (s : List UInt8) (hs : s.length ≤ 900000) : ∀ (k at_ : Nat) (out : List UInt8), s.length ≤ at_ + k → at_ ≤ s.length + 2 → out.length ≤ at_ →
    match textP (s.drop at_) with
    | some p => ∃ st, lp 77 (lc Try.f77 0) (st77 s out at_) = some (.ret, st) ∧ ends77 (okV [⟨3, 0, out ++ p.1, 0⟩] (s.length - p.2.length)) st
    | none => (∃ st, lp 77 (lc Try.f77 0) (st77 s out at_) = some (.ret, st) ∧ ends77 badV st) ∨ (∃ out' at', lp 77 (lc Try.f77 0) (st77 s out at_) = some (.exit 0, ⟨(st77 s out' at').sl ++ [(10, .bool false)], (st77 s out' at').hp⟩)) := by
  intro k
  induction k with
  | zero =>
    intro at_ out h1 h2 h3
    rw [List.drop_of_length_le (by omega)]
    simp only [textP]
    exact .inr ⟨out, at_, loop_out (rt_exit s out at_ (by omega) (by omega)) (by simp)⟩
  | succ k ih =>
    intro at_ out h1 h2 h3
    match hd : s.drop at_ with
    | [] =>
      simp only [textP]
      have := congrArg List.length hd
      simp at this
      exact .inr ⟨out, at_, loop_out (rt_exit s out at_ (by omega) (by omega)) (by simp)⟩
    | [a] =>
      simp only [textP]
      have := congrArg List.length hd
      simp at this
      exact .inr ⟨out, at_, loop_out (rt_exit s out at_ (by omega) (by omega)) (by simp)⟩
    | a :: b :: r =>
      have hlen := congrArg List.length hd
      simp at hlen
      obtain ⟨g1, g2, g3, g4⟩ := drop_two hd
      rw [textP]
      by_cases ha : a = 0
      · subst ha
        rw [if_pos rfl]
        by_cases hb : b = 0
        · subst hb
          rw [if_pos rfl]
          obtain ⟨st, e1, e2⟩ := rt_end s out at_ (by omega) g1 g2
          refine ⟨st, loop_out e1 (by simp), ?_⟩
          simp only [List.append_nil]
          rw [show s.length - r.length = at_ + 2 by omega]
          exact e2
        · rw [if_neg hb]
          by_cases h5 : b = 255
          · subst h5
            rw [if_pos rfl]
            have e := rt_zero s out at_ (by omega) (by omega) g1 g2
            have := ih (at_ + 2) (out ++ [0]) (by omega) (by omega) (by simp; omega)
            rw [g4] at this
            cases ht : textP r with
            | none =>
              rw [ht] at this
              rcases this with ⟨st, e1, e2⟩ | ⟨o', a', e1⟩
              · exact .inl ⟨st, loop_next e e1, e2⟩
              · exact .inr ⟨o', a', loop_next e e1⟩
            | some p =>
              rw [ht] at this
              obtain ⟨st, e1, e2⟩ := this
              exact ⟨st, loop_next e e1, by simpa using e2⟩
          · rw [if_neg h5]
            obtain ⟨st, e1, e2⟩ := rt_bad s out at_ (by omega) g1 b g2 hb h5
            exact .inl ⟨st, loop_out e1 (by simp), e2⟩
      · rw [if_neg ha]
        have e := rt_plain s out at_ (by omega) (by omega) a b g1 g2 ha
        have := ih (at_ + 1) (out ++ [a]) (by omega) (by omega) (by simp; omega)
        rw [g3] at this
        cases ht : textP (b :: r) with
        | none =>
          rw [ht] at this
          rcases this with ⟨st, e1, e2⟩ | ⟨o', a', e1⟩
          · exact .inl ⟨st, loop_next e e1, e2⟩
          · exact .inr ⟨o', a', loop_next e e1⟩
        | some p =>
          rw [ht] at this
          obtain ⟨st, e1, e2⟩ := this
          exact ⟨st, loop_next e e1, by simpa using e2⟩
theorem part103 {cs : List AV} (h : cs.length = 3) : partT Try.prog 103 cs 0 = some (.agg cs) := by
  match cs, h with
  | [a, b, c], _ => simp
theorem endJ {g j : Nat} {x : AX} {st : ASt} {v : AV} (hx : x = .normal ∨ x = .ret) (h : endsJ j v st) (ho : G.retOwn g = false) (hn : v.names = []) : endX G g [] [.cell j 103] (some (x, st)) = some (.ret v, []) := by
  obtain ⟨h1, w, h2, h3, cs, rfl, h4⟩ := h
  refine end_rv (vs := [.agg cs]) hx ?_ ho h3 hn
  have hp : G.P = Try.prog := rfl
  simp only [resL, resv, h1, h2, Option.bind_some, objCells, if_true, cells_agg, hp, part103 h4, Option.map_some]
@[simp] theorem nds_nms {l : List Nd} : (nds l).names = [] := rfl
theorem okV_names {l : List Nd} {n : Nat} : (okV l n).names = [] := rfl
theorem badV_names : badV.names = [] := rfl
theorem readO_names {n : Nat} {o : Option (List Nd × List UInt8)} : (readO n o).names = [] := by cases o <;> rfl
/-- The document's text. -/
def txtO (s : List UInt8) : Option (List Nd × List UInt8) := (textP s).map fun p => ([⟨3, 0, p.1, 0⟩], p.2)
set_option maxHeartbeats 8000000 in
theorem rtext77_eq (s : List UInt8) (hs : s.length ≤ 900000) (at_ : Nat) (ha : at_ ≤ s.length + 2) : cl 77 [.str s, .int .i64 at_] [] = some (.ret (readO s.length (txtO (s.drop at_))), []) := by
  have h := loop77 s hs s.length at_ [] (by omega) ha (by simp)
  refine fn_intro Try.func77 rfl (by simp) (by decide) rfl ?_
  unfold txtO
  cases ht : textP (s.drop at_) with
  | some p =>
    rw [ht] at h
    obtain ⟨st, e1, e2⟩ := h
    simp [st77, zeroRd, lc, loopsOf, Try.f77] at e1
    simp [Try.f77, allocX, newObj, e1]
    exact endJ (.inr rfl) e2 rfl rfl
  | none =>
    rw [ht] at h
    rcases h with ⟨st, e1, e2⟩ | ⟨out', at', e1⟩
    · simp [st77, zeroRd, lc, loopsOf, Try.f77] at e1
      simp [Try.f77, allocX, newObj, e1]
      exact endJ (.inr rfl) e2 rfl rfl
    · simp [st77, zeroRd, lc, loopsOf, Try.f77] at e1
      simp [Try.f77, allocX, newObj, e1]
      exact endJ (.inr rfl) ⟨rfl, _, rfl, rfl, _, rfl, rfl⟩ rfl rfl
theorem rtext77_call {s : List UInt8} (hs : s.length ≤ 900000) {at_ : Nat} (ha : at_ ≤ s.length + 2) {d : Option Nat} {st : ASt} : callV G cl d (.fn (.func 77) [] []) [.str s, .int .i64 at_] st = some (.val (readO s.length (txtO (s.drop at_))) st) :=
  callV_ret E77 (by decide) ext77 rfl rfl (rtext77_eq s hs at_ ha) readO_names
end Go.Proofs.Ytonaejfpiihfhaa

/- What the functions come to: the document's values out of bytes. -/
namespace Go.Proofs.Ytonaejfpiihfhaa
open Go Abs
set_option linter.unusedSimpArgs false
set_option linter.unusedVariables false
attribute [local simp] canonK canonAll canonSlot canonCell canonBox ownStep restrictTo pureCells pureRows reachL AObj.names List.range_succ appendA
def accR (n : Int) (b : UInt8) : Int := IntKind.u64.wrap (IntKind.u64.wrap (n * 256) + b.toNat)
def rdU (s : List UInt8) : Int := s.foldl accR 0
def st102 (s : List UInt8) (n : Int) (i : Nat) : ASt := ⟨[(0, .str s), (3, .int .u64 n), (4, .int .i64 i)], []⟩
set_option maxHeartbeats 8000000 in
theorem round102 (s : List UInt8) (hs : s.length ≤ 1000000) (n : Int) (i : Nat) (b : UInt8) (hi : s[i]? = some b) :
    rX 102 (lc Try.f102 0) (codeX G cl lp 102 (lc Try.f102 0) (st102 s n i)) = some (.normal, st102 s (accR n b) (i + 1)) := by
  have hlt : i < s.length := (List.getElem?_eq_some_iff.1 hi).1
  have hw1 : IntKind.i64.wrap ((i : Int) + 1) = ((i + 1 : Nat) : Int) := by rw [i64_wrap (by omega) (by omega)]; omega
  have hx : indexv Try.prog 9 (.str s) (.int .i64 i) = some (.int .u8 b.toNat) := str_at hi
  have hb : IntKind.u64.wrap (b.toNat : Int) = b.toNat := by rw [u64w]; have := b.toNat_lt; omega
  simp [lc, loopsOf, Try.f102, st102, hlt, hw1, hx, hb, accR]
  done
theorem exit102 (s : List UInt8) (n : Int) : rX 102 (lc Try.f102 0) (codeX G cl lp 102 (lc Try.f102 0) (st102 s n s.length)) = some (.exit 0, ⟨(st102 s n s.length).sl ++ [(8, .bool false)], []⟩) := by
  simp [lc, loopsOf, Try.f102, st102]
theorem loop102 (s : List UInt8) (hs : s.length ≤ 1000000) : ∀ (c i : Nat), i + c = s.length → lp 102 (lc Try.f102 0) (st102 s ((s.take i).foldl accR 0) i) = some (.exit 0, ⟨(st102 s (rdU s) s.length).sl ++ [(8, .bool false)], []⟩) := by
  intro c
  induction c with
  | zero =>
    intro i hi
    obtain rfl : i = s.length := by omega
    rw [List.take_of_length_le (Nat.le_refl _)]
    exact loop_out (exit102 s _) (by simp)
  | succ c ih =>
    intro i hi
    have hlt : i < s.length := by omega
    have hq : s[i]? = some s[i] := List.getElem?_eq_getElem hlt
    have h := round102 s hs ((s.take i).foldl accR 0) i _ hq
    have e : accR ((s.take i).foldl accR 0) s[i] = (s.take (i + 1)).foldl accR 0 := by rw [List.take_add_one, hq, List.foldl_append]; rfl
    rw [e] at h
    exact loop_next h (ih (i + 1) (by omega))
set_option maxHeartbeats 8000000 in
theorem rreadBig_eq (s : List UInt8) (hs : s.length ≤ 1000000) : cl 102 [.str s] [] = some (.ret (.int .u64 (rdU s)), []) := by
  refine fn_intro Try.func102 rfl (by simp) (by decide) rfl ?_
  have h := loop102 s hs s.length 0 (by omega)
  simp [st102, lc, loopsOf, Try.f102] at h
  simp [Try.f102, h]
  exact end_is (.inr rfl) (by simp; rfl) rfl rfl
theorem rreadBig_call {d : Option Nat} {st : ASt} {s : List UInt8} (hs : s.length ≤ 1000000) : callV G cl d (.fn (.func 102) [] []) [.str s] st = some (.val (.int .u64 (rdU s)) st) := callV_ret E102 (by decide) ext102 rfl rfl (rreadBig_eq s hs) rfl
/-! The two ways of reading a number are one. -/
theorem or_low (x b : Nat) (hb : b < 256) : (x * 256) ||| b = x * 256 + b := by
  have := Nat.two_pow_add_eq_or_of_lt (i := 8) (a := x) (b := b) (by omega)
  rw [Nat.mul_comm x 256]
  exact this.symm
theorem or_bits (x b : Nat) (hx : x * 256 < 18446744073709551616) (hb : b < 256) : (BitVec.ofInt 64 ((x * 256 : Nat) : Int) ||| BitVec.ofInt 64 (b : Int)).toNat = x * 256 + b := by
  have e1 : (BitVec.ofInt 64 ((x * 256 : Nat) : Int)).toNat = x * 256 := by
    rw [BitVec.ofInt_natCast, BitVec.toNat_ofNat]
    exact Nat.mod_eq_of_lt hx
  have e2 : (BitVec.ofInt 64 (b : Int)).toNat = b := by
    rw [BitVec.ofInt_natCast, BitVec.toNat_ofNat]
    exact Nat.mod_eq_of_lt (by omega)
  rw [BitVec.toNat_or, e1, e2]
  exact or_low x b hb
theorem accU_accR (n : Int) (b : UInt8) : accU n b = accR n b := by
  have hb := b.toNat_lt
  unfold accU accR wOr
  have hr := u64w (n * 256)
  generalize IntKind.u64.wrap (n * 256) = m at hr
  obtain ⟨x, hx, rfl⟩ : ∃ x : Nat, x * 256 < 18446744073709551616 ∧ m = ((x * 256 : Nat) : Int) := ⟨(m / 256).toNat, by omega, by omega⟩
  have := or_bits x b.toNat hx (by omega)
  have e : ((BitVec.ofInt IntKind.u64.bits ((x * 256 : Nat) : Int) ||| BitVec.ofInt IntKind.u64.bits (b.toNat : Int)).toNat : Int) = ((x * 256 : Nat) : Int) + b.toNat := by
    show ((BitVec.ofInt 64 ((x * 256 : Nat) : Int) ||| BitVec.ofInt 64 (b.toNat : Int)).toNat : Int) = _
    rw [this]; rfl
  rw [e]
theorem readU_rdU (s : List UInt8) : readU s = rdU s := by
  unfold readU rdU
  have : accU = accR := by funext n b; exact accU_accR n b
  rw [this]
theorem rdU_range (s : List UInt8) : 0 ≤ rdU s ∧ rdU s < 18446744073709551616 := by
  unfold rdU
  have : ∀ (l : List UInt8) (n : Int), 0 ≤ n ∧ n < 18446744073709551616 → 0 ≤ l.foldl accR n ∧ l.foldl accR n < 18446744073709551616 := by
    intro l
    induction l with
    | nil => intro n h; exact h
    | cons b l ih => intro n h; exact ih _ (by unfold accR; rw [u64w]; omega)
  exact this s 0 (by omega)
theorem numP_rd (t : List UInt8) : numP t = IntKind.i64.wrap (IntKind.u64.wrap (rdU t - 9223372036854775808)) := by
  unfold numP
  rw [readU_rdU, xor_sign _ (rdU_range t).1 (rdU_range t).2, u64w, u64w]
  congr 1
  omega
end Go.Proofs.Ytonaejfpiihfhaa

/- What the functions come to: the document's value out of bytes. -/
namespace Go.Proofs.Ytonaejfpiihfhaa
open Go Abs
set_option linter.unusedSimpArgs false
set_option linter.unusedVariables false
attribute [local simp] canonK canonAll canonSlot canonCell canonBox ownStep restrictTo pureCells pureRows reachL AObj.names List.range_succ appendA
def st71 (s : List UInt8) (at_ dp : Nat) (kd : Int) (n : Nd) (l : List Nd) (last : List UInt8) (mv : Bool) : ASt :=
  ⟨[(0, .str s), (1, .int .i64 at_), (2, .int .i64 dp), (6, .ptr 1006 0 0), (7, .int .i64 kd), (8, .own 5008), (9, .str last)], [(1006, .box 103 zeroRd), (5008, nRow (n :: l) mv)]⟩
noncomputable abbrev lpc71 : Code := lc Try.f71 0
/-- A kid of a list. -/
def RVal (s : List UInt8) (at_ dp : Nat) (o : Option (List Nd × List UInt8)) : Prop := ∀ d st, callV G cl d (.fn (.func 71) [] []) [.str s, .int .i64 at_, .int .i64 dp] st = some (.val (readO s.length o) st)
set_option maxHeartbeats 16000000 in
theorem rl_go (s : List UInt8) (hs : s.length ≤ 1000000) (at_ dp : Nat) (hd : dp ≤ 1000000) (b : UInt8) (hb : s[at_]? = some b) (h0 : b ≠ 0) (v : List Nd) (q : List UInt8) (hv : RVal s at_ (dp + 1) (some (v, q))) (hq : q.length ≤ s.length)
    (c : Nat) (hc : c ≤ 1000000) (l : List Nd) (hl : l.length + v.length + 1 ≤ 1000000) (last : List UInt8) (mv : Bool) :
    rX 71 lpc71 (codeX G cl lp 71 lpc71 (st71 s at_ dp 4 ⟨4, 0, [], c⟩ l last mv)) = some (.normal, st71 s (s.length - q.length) dp 4 ⟨4, 0, [], (c + 1 : Nat)⟩ (l ++ v) last true) := by
  have hlt := (List.getElem?_eq_some_iff.1 hb).1
  have hx := at_get hb
  have hz : ¬ b.toNat = 0 := fun h => h0 (by rw [← UInt8.toNat_inj]; exact h)
  have hw1 : IntKind.i64.wrap ((dp : Int) + 1) = ((dp + 1 : Nat) : Int) := by rw [i64_wrap (by omega) (by omega)]; omega
  have hw2 : IntKind.i64.wrap ((c : Int) + 1) = ((c + 1 : Nat) : Int) := by rw [i64_wrap (by omega) (by omega)]; omega
  have hL : l.length + 1 + v.length ≤ LIM := by unfold LIM; omega
  unfold RVal at hv
  simp only [readO, okV, nds, Int.natCast_add, Int.natCast_one] at hv
  simp only [Int.natCast_add, Int.natCast_one] at hw1 hw2
  simp [lpc71, lc, loopsOf, Try.f71, st71, zeroRd, nRow, Nd.v, hlt, hx, hz, hw1, hw2, hv, hL, nds]
  done
set_option maxHeartbeats 16000000 in
theorem rl_bad (s : List UInt8) (hs : s.length ≤ 1000000) (at_ dp : Nat) (hd : dp ≤ 1000000) (b : UInt8) (hb : s[at_]? = some b) (h0 : b ≠ 0) (hv : RVal s at_ (dp + 1) none)
    (n : Nd) (l : List Nd) (last : List UInt8) (mv : Bool) : ∃ st, rX 71 lpc71 (codeX G cl lp 71 lpc71 (st71 s at_ dp 4 n l last mv)) = some (.ret, st) ∧ endsJ 6 badV st := by
  have hlt := (List.getElem?_eq_some_iff.1 hb).1
  have hx := at_get hb
  have hz : ¬ b.toNat = 0 := fun h => h0 (by rw [← UInt8.toNat_inj]; exact h)
  have hw1 : IntKind.i64.wrap ((dp : Int) + 1) = ((dp + 1 : Nat) : Int) := by rw [i64_wrap (by omega) (by omega)]; omega
  unfold RVal at hv
  simp only [readO, badV, Int.natCast_add, Int.natCast_one] at hv
  simp only [Int.natCast_add, Int.natCast_one] at hw1
  refine ⟨?st, ?h1, ?h2⟩
  case h1 =>
    simp [lpc71, lc, loopsOf, Try.f71, st71, zeroRd, nRow, Nd.v, hlt, hx, hz, hw1, hv]
    rfl
  case h2 => exact ⟨rfl, _, rfl, rfl, _, rfl, rfl⟩
def out71 (s : List UInt8) (at_ dp : Nat) (kd : Int) (n : Nd) (l : List Nd) (last : List UInt8) (mv : Bool) : ASt := ⟨(st71 s at_ dp kd n l last mv).sl ++ [(108, .bool false)], (st71 s at_ dp kd n l last mv).hp⟩
set_option maxHeartbeats 16000000 in
theorem rl_end (s : List UInt8) (at_ dp : Nat) (hb : s[at_]? = some 0) (kd : Int) (n : Nd) (l : List Nd) (last : List UInt8) (mv : Bool) : rX 71 lpc71 (codeX G cl lp 71 lpc71 (st71 s at_ dp kd n l last mv)) = some (.exit 0, out71 s at_ dp kd n l last mv) := by
  have hlt := (List.getElem?_eq_some_iff.1 hb).1
  have hx := at_get hb
  simp [lpc71, lc, loopsOf, Try.f71, st71, out71, zeroRd, nRow, hlt, hx]
  done
set_option maxHeartbeats 16000000 in
theorem rl_over (s : List UInt8) (at_ dp : Nat) (hb : s.length ≤ at_) (kd : Int) (n : Nd) (l : List Nd) (last : List UInt8) (mv : Bool) : rX 71 lpc71 (codeX G cl lp 71 lpc71 (st71 s at_ dp kd n l last mv)) = some (.exit 0, out71 s at_ dp kd n l last mv) := by
  have hlt : ¬ at_ < s.length := by omega
  simp [lpc71, lc, loopsOf, Try.f71, st71, out71, zeroRd, nRow, hlt]
  done
set_option maxHeartbeats 16000000 in
theorem rm_go (s : List UInt8) (hs : s.length ≤ 800000) (at_ dp : Nat) (hd : dp ≤ 1000000) (hb : s[at_]? = some 1) (t q1 : List UInt8) (ht : textP (s.drop (at_ + 1)) = some (t, q1)) (v : List Nd) (q : List UInt8) (hv : RVal s (s.length - q1.length) (dp + 1) (some (v, q))) (hq : q.length ≤ s.length)
    (c : Nat) (hc : c ≤ 1000000) (l : List Nd) (hl : l.length + v.length + 2 ≤ 1000000) (last : List UInt8) (hk : c = 0 ∨ ltB last t = true) (mv : Bool) :
    rX 71 lpc71 (codeX G cl lp 71 lpc71 (st71 s at_ dp 5 ⟨5, 0, [], c⟩ l last mv)) = some (.normal, st71 s (s.length - q.length) dp 5 ⟨5, 0, [], (c + 1 : Nat)⟩ (l ++ ⟨3, 0, t, 0⟩ :: v) t true) := by
  have hlt := (List.getElem?_eq_some_iff.1 hb).1
  have hx := at_get hb
  have hw1 : IntKind.i64.wrap ((dp : Int) + 1) = ((dp + 1 : Nat) : Int) := by rw [i64_wrap (by omega) (by omega)]; omega
  have hw2 : IntKind.i64.wrap ((c : Int) + 1) = ((c + 1 : Nat) : Int) := by rw [i64_wrap (by omega) (by omega)]; omega
  have hw3 : IntKind.i64.wrap ((at_ : Int) + 1) = ((at_ + 1 : Nat) : Int) := by rw [i64_wrap (by omega) (by omega)]; omega
  have hL1 : l.length + 1 + 1 ≤ LIM := by unfold LIM; omega
  have hL2 : l.length + 1 + 1 + v.length ≤ LIM := by unfold LIM; omega
  have hL3 : l.length + 1 + (v.length + 1) ≤ LIM := by unfold LIM; omega
  have htx := fun d st => rtext77_call (s := s) (by omega) (at_ := at_ + 1) (by omega) (d := d) (st := st)
  unfold RVal at hv
  simp only [txtO, ht, Option.map_some, readO, okV, nds, Int.natCast_add, Int.natCast_one] at hv htx
  simp only [Int.natCast_add, Int.natCast_one] at hw1 hw2 hw3
  rcases hk with rfl | hk
  · simp [lpc71, lc, loopsOf, Try.f71, st71, zeroRd, nRow, Nd.v, hlt, hx, hw1, hw2, hw3, hv, htx, hL1, hL2, hL3, nds]
    exact hw2
  · by_cases h0 : c = 0
    · subst h0
      simp [lpc71, lc, loopsOf, Try.f71, st71, zeroRd, nRow, Nd.v, hlt, hx, hw1, hw2, hw3, hv, htx, hL1, hL2, hL3, nds]
      exact hw2
    · have h0' : (0 : Int) < (c : Int) := by omega
      have h0'' : 0 < c := by omega
      simp [lpc71, lc, loopsOf, Try.f71, st71, zeroRd, nRow, Nd.v, hlt, hx, hw1, hw2, hw3, hv, htx, hL1, hL2, hL3, nds, h0', h0'', hk]
      done
end Go.Proofs.Ytonaejfpiihfhaa

/- What the functions come to: the document's maps out of bytes. -/
namespace Go.Proofs.Ytonaejfpiihfhaa
open Go Abs
set_option linter.unusedSimpArgs false
set_option linter.unusedVariables false
attribute [local simp] canonK canonAll canonSlot canonCell canonBox ownStep restrictTo pureCells pureRows reachL AObj.names List.range_succ appendA
def bad71 (s : List UInt8) (at_ dp : Nat) (n : Nd) (l : List Nd) (last : List UInt8) (mv : Bool) : Prop := ∃ st, rX 71 lpc71 (codeX G cl lp 71 lpc71 (st71 s at_ dp 5 n l last mv)) = some (.ret, st) ∧ endsJ 6 badV st
set_option maxHeartbeats 16000000 in
theorem rm_odd (s : List UInt8) (hs : s.length ≤ 800000) (at_ dp : Nat) (b : UInt8) (hb : s[at_]? = some b) (h0 : b ≠ 0) (h1 : b ≠ 1) (n : Nd) (l : List Nd) (last : List UInt8) (mv : Bool) : bad71 s at_ dp n l last mv := by
  have hlt := (List.getElem?_eq_some_iff.1 hb).1
  have hx := at_get hb
  have hz : ¬ b.toNat = 0 := fun h => h0 (by rw [← UInt8.toNat_inj]; exact h)
  have hz1 : ¬ b.toNat = 1 := fun h => h1 (by rw [← UInt8.toNat_inj]; exact h)
  have hi1 : ¬ (b.toNat : Int) = 1 := by omega
  have hw3 : IntKind.i64.wrap ((at_ : Int) + 1) = ((at_ + 1 : Nat) : Int) := by rw [i64_wrap (by omega) (by omega)]; omega
  have htx := fun d st => rtext77_call (s := s) (by omega) (at_ := at_ + 1) (by omega) (d := d) (st := st)
  simp only [Int.natCast_add, Int.natCast_one] at hw3 htx
  cases ht : txtO (s.drop (at_ + 1)) with
  | none =>
    simp only [ht, readO, badV] at htx
    refine ⟨?st, ?h1, ?h2⟩
    case h1 =>
      simp [lpc71, lc, loopsOf, Try.f71, st71, zeroRd, nRow, Nd.v, hlt, hx, hz, hw3, htx, hz1, hi1]
      rfl
    case h2 => exact ⟨rfl, _, rfl, rfl, _, rfl, rfl⟩
  | some p =>
    simp only [ht, readO, okV, nds] at htx
    refine ⟨?st', ?h3, ?h4⟩
    case h3 =>
      simp [lpc71, lc, loopsOf, Try.f71, st71, zeroRd, nRow, Nd.v, hlt, hx, hz, hw3, htx, hz1, hi1]
      rfl
    case h4 => exact ⟨rfl, _, rfl, rfl, _, rfl, rfl⟩
set_option maxHeartbeats 16000000 in
theorem rm_text (s : List UInt8) (hs : s.length ≤ 800000) (at_ dp : Nat) (hb : s[at_]? = some 1) (ht : textP (s.drop (at_ + 1)) = none) (n : Nd) (l : List Nd) (last : List UInt8) (mv : Bool) : bad71 s at_ dp n l last mv := by
  have hlt := (List.getElem?_eq_some_iff.1 hb).1
  have hx := at_get hb
  have hw3 : IntKind.i64.wrap ((at_ : Int) + 1) = ((at_ + 1 : Nat) : Int) := by rw [i64_wrap (by omega) (by omega)]; omega
  have htx := fun d st => rtext77_call (s := s) (by omega) (at_ := at_ + 1) (by omega) (d := d) (st := st)
  simp only [txtO, ht, Option.map_none, readO, badV, Int.natCast_add, Int.natCast_one] at hw3 htx
  refine ⟨?st, ?h1, ?h2⟩
  case h1 =>
    simp [lpc71, lc, loopsOf, Try.f71, st71, zeroRd, nRow, Nd.v, hlt, hx, hw3, htx]
    rfl
  case h2 => exact ⟨rfl, _, rfl, rfl, _, rfl, rfl⟩
set_option maxHeartbeats 16000000 in
theorem rm_key (s : List UInt8) (hs : s.length ≤ 800000) (at_ dp : Nat) (hb : s[at_]? = some 1) (t q1 : List UInt8) (ht : textP (s.drop (at_ + 1)) = some (t, q1)) (n : Nd) (hn : 0 < n.kids) (l : List Nd) (last : List UInt8) (hk : ltB last t = false) (mv : Bool) : bad71 s at_ dp n l last mv := by
  have hlt := (List.getElem?_eq_some_iff.1 hb).1
  have hx := at_get hb
  have hw3 : IntKind.i64.wrap ((at_ : Int) + 1) = ((at_ + 1 : Nat) : Int) := by rw [i64_wrap (by omega) (by omega)]; omega
  have htx := fun d st => rtext77_call (s := s) (by omega) (at_ := at_ + 1) (by omega) (d := d) (st := st)
  simp only [txtO, ht, Option.map_some, readO, okV, nds, Int.natCast_add, Int.natCast_one] at hw3 htx
  refine ⟨?st, ?h1, ?h2⟩
  case h1 =>
    simp [lpc71, lc, loopsOf, Try.f71, st71, zeroRd, nRow, Nd.v, hlt, hx, hw3, htx, nds, hn, hk]
    rfl
  case h2 => exact ⟨rfl, _, rfl, rfl, _, rfl, rfl⟩
set_option maxHeartbeats 16000000 in
theorem rm_val (s : List UInt8) (hs : s.length ≤ 800000) (at_ dp : Nat) (hd : dp ≤ 1000000) (hb : s[at_]? = some 1) (t q1 : List UInt8) (ht : textP (s.drop (at_ + 1)) = some (t, q1)) (hv : RVal s (s.length - q1.length) (dp + 1) none)
    (n : Nd) (l : List Nd) (hl : l.length + 2 ≤ 1000000) (last : List UInt8) (hk : ¬ 0 < n.kids ∨ ltB last t = true) (mv : Bool) : bad71 s at_ dp n l last mv := by
  have hlt := (List.getElem?_eq_some_iff.1 hb).1
  have hx := at_get hb
  have hw1 : IntKind.i64.wrap ((dp : Int) + 1) = ((dp + 1 : Nat) : Int) := by rw [i64_wrap (by omega) (by omega)]; omega
  have hw3 : IntKind.i64.wrap ((at_ : Int) + 1) = ((at_ + 1 : Nat) : Int) := by rw [i64_wrap (by omega) (by omega)]; omega
  have hL1 : l.length + 1 + 1 ≤ LIM := by unfold LIM; omega
  have htx := fun d st => rtext77_call (s := s) (by omega) (at_ := at_ + 1) (by omega) (d := d) (st := st)
  unfold RVal at hv
  simp only [txtO, ht, Option.map_some, readO, okV, badV, nds, Int.natCast_add, Int.natCast_one] at hv htx
  simp only [Int.natCast_add, Int.natCast_one] at hw1 hw3
  by_cases h0 : 0 < n.kids
  · have hk' := hk.resolve_left (by simpa using h0)
    refine ⟨?st, ?h1, ?h2⟩
    case h1 =>
      simp [lpc71, lc, loopsOf, Try.f71, st71, zeroRd, nRow, Nd.v, hlt, hx, hw1, hw3, htx, nds, h0, hk', hv, hL1]
      rfl
    case h2 => exact ⟨rfl, _, rfl, rfl, _, rfl, rfl⟩
  · refine ⟨?st', ?h3, ?h4⟩
    case h3 =>
      simp [lpc71, lc, loopsOf, Try.f71, st71, zeroRd, nRow, Nd.v, hlt, hx, hw1, hw3, htx, nds, h0, hv, hL1]
      rfl
    case h4 => exact ⟨rfl, _, rfl, rfl, _, rfl, rfl⟩
theorem drop_one {s : List UInt8} {i : Nat} {b : UInt8} {r : List UInt8} (h : s.drop i = b :: r) : s[i]? = some b ∧ s.drop (i + 1) = r ∧ i < s.length ∧ s.length = i + 1 + r.length := by
  have h0 : (s.drop i)[0]? = some b := by rw [h]; rfl
  rw [List.getElem?_drop] at h0
  have hl := congrArg List.length h
  simp at hl
  refine ⟨h0, ?_, by omega, by omega⟩
  have : (s.drop i).drop 1 = r := by rw [h]; rfl
  rwa [List.drop_drop] at this
theorem drop_suffix {s q : List UInt8} (h : ∃ p, s = p ++ q) : s.drop (s.length - q.length) = q := by
  obtain ⟨p, rfl⟩ := h
  rw [List.length_append, Nat.add_sub_cancel, List.drop_left]
theorem textP_suffix {s t q : List UInt8} (h : textP s = some (t, q)) : ∃ p, s = p ++ q := by
  generalize hk : s.length = k
  induction k using Nat.strongRecOn generalizing s t q with
  | ind k ih =>
    match s, h with
    | [], h => simp [textP] at h
    | [a], h => simp [textP] at h
    | a :: b :: r, h =>
      rw [textP] at h
      simp only [List.length_cons] at hk
      split at h
      · split at h
        · cases h; exact ⟨[a, b], rfl⟩
        · split at h
          · obtain ⟨p, hp, e⟩ := Option.map_eq_some_iff.1 h
            cases e
            obtain ⟨x, hx⟩ := ih r.length (by omega) hp rfl
            exact ⟨a :: b :: x, by rw [hx]; rfl⟩
          · cases h
      · obtain ⟨p, hp, e⟩ := Option.map_eq_some_iff.1 h
        cases e
        obtain ⟨x, hx⟩ := ih (b :: r).length (by simp; omega) hp rfl
        exact ⟨a :: x, by rw [hx]; rfl⟩
theorem listP_suffix {val : List UInt8 → Option (List Nd × List UInt8)} (hv : ∀ s v q, val s = some (v, q) → ∃ p, s = p ++ q) : ∀ {f c l s r}, listP val f c l s = some r → ∃ p, s = p ++ r.2.2 := by
  intro f
  induction f with
  | zero => intro c l s r h; cases h
  | succ f ih =>
    intro c l s r h
    cases s with
    | nil => cases h
    | cons b s =>
      simp only [listP] at h
      split at h
      · cases h; exact ⟨[b], rfl⟩
      · rw [Option.bind_eq_some_iff] at h
        obtain ⟨p, hp, h⟩ := h
        obtain ⟨x, hx⟩ := hv _ _ _ hp
        obtain ⟨y, hy⟩ := ih h
        exact ⟨x ++ y, by rw [hx, hy, List.append_assoc]⟩
theorem mapP_suffix {val : List UInt8 → Option (List Nd × List UInt8)} (hv : ∀ s v q, val s = some (v, q) → ∃ p, s = p ++ q) : ∀ {f c k l s r}, mapP val f c k l s = some r → ∃ p, s = p ++ r.2.2 := by
  intro f
  induction f with
  | zero => intro c k l s r h; cases h
  | succ f ih =>
    intro c k l s r h
    cases s with
    | nil => cases h
    | cons b s =>
      simp only [mapP] at h
      split at h
      · cases h; exact ⟨[b], rfl⟩
      · split at h
        · rw [Option.bind_eq_some_iff] at h
          obtain ⟨t, ht, h⟩ := h
          split at h
          · rw [Option.bind_eq_some_iff] at h
            obtain ⟨p, hp, h⟩ := h
            obtain ⟨z, hz⟩ := textP_suffix ht
            obtain ⟨x, hx⟩ := hv _ _ _ hp
            obtain ⟨y, hy⟩ := ih h
            exact ⟨b :: (z ++ (x ++ y)), by rw [hz, hx, hy]; simp⟩
          · cases h
        · cases h
theorem valP_suffix : ∀ {k s v q}, valP k s = some (v, q) → ∃ p, s = p ++ q := by
  intro k
  induction k with
  | zero => intro s v q h; cases h
  | succ k ih =>
    intro s v q h
    cases s with
    | nil => cases h
    | cons b r =>
      simp only [valP] at h
      split at h
      · cases h; exact ⟨[b], rfl⟩
      split at h
      · split at h
        · rename_i c q' 
          split at h
          · cases h; exact ⟨[b, c], rfl⟩
          · cases h
        · cases h
      split at h
      · split at h
        · cases h; exact ⟨b :: r.take 8, by simp⟩
        · cases h
      split at h
      · obtain ⟨p, hp, e⟩ := Option.map_eq_some_iff.1 h
        cases e
        obtain ⟨x, hx⟩ := textP_suffix hp
        exact ⟨b :: x, by rw [hx]; rfl⟩
      split at h
      · obtain ⟨p, hp, e⟩ := Option.map_eq_some_iff.1 h
        cases e
        obtain ⟨x, hx⟩ := listP_suffix (fun s v q h => ih h) hp
        exact ⟨b :: x, by rw [hx]; rfl⟩
      split at h
      · obtain ⟨p, hp, e⟩ := Option.map_eq_some_iff.1 h
        cases e
        obtain ⟨x, hx⟩ := mapP_suffix (fun s v q h => ih h) hp
        exact ⟨b :: x, by rw [hx]; rfl⟩
      · cases h
theorem rloopL {val : List UInt8 → Option (List Nd × List UInt8)} (hlen : ∀ s v q, val s = some (v, q) → 0 < v.length ∧ v.length + q.length ≤ s.length) (hsuf : ∀ s v q, val s = some (v, q) → ∃ p, s = p ++ q) (s : List UInt8) (hs : s.length ≤ 800000) (dp : Nat) (hd : dp ≤ 900000) (last : List UInt8) :
    ∀ (f at_ c : Nat) (l : List Nd) (mv : Bool), s.length < at_ + f → at_ ≤ s.length → c ≤ l.length → l.length ≤ at_ →
    (∀ a, at_ ≤ a → a < s.length → RVal s a (dp + 1) (val (s.drop a))) →
    match listP val f c l (s.drop at_) with
    | some p => ∃ a mv', s[a]? = some 0 ∧ s.drop (a + 1) = p.2.2 ∧ lp 71 lpc71 (st71 s at_ dp 4 ⟨4, 0, [], c⟩ l last mv) = some (.exit 0, out71 s a dp 4 ⟨4, 0, [], p.1⟩ p.2.1 last mv')
    | none => (∃ st, lp 71 lpc71 (st71 s at_ dp 4 ⟨4, 0, [], c⟩ l last mv) = some (.ret, st) ∧ endsJ 6 badV st) ∨ ∃ a n l' mv', s.length ≤ a ∧ lp 71 lpc71 (st71 s at_ dp 4 ⟨4, 0, [], c⟩ l last mv) = some (.exit 0, out71 s a dp 4 n l' last mv') := by
  intro f
  induction f with
  | zero => intro at_ c l mv h1 h2; omega
  | succ f ih =>
    intro at_ c l mv h1 h2 h3 h4 hval
    match hd : s.drop at_ with
    | [] =>
      have := congrArg List.length hd
      simp at this
      exact .inr ⟨at_, _, _, _, by omega, loop_out (rl_over s at_ dp (by omega) 4 _ l last mv) (by simp)⟩
    | b :: r =>
      obtain ⟨g1, g2, g3, g4⟩ := drop_one hd
      simp only [listP]
      by_cases h0 : b = 0
      · subst h0
        exact ⟨at_, mv, g1, g2, loop_out (rl_end s at_ dp g1 4 _ l last mv) (by simp)⟩
      · rw [if_neg h0]
        have hr := hval at_ (Nat.le_refl _) g3
        rw [hd] at hr
        cases hv : val (b :: r) with
        | none =>
          rw [hv] at hr
          obtain ⟨st, e1, e2⟩ := rl_bad s (by omega) at_ dp (by omega) b g1 h0 hr ⟨4, 0, [], c⟩ l last mv
          exact .inl ⟨st, loop_out e1 (by simp), e2⟩
        | some p =>
          obtain ⟨v, q⟩ := p
          rw [hv] at hr
          obtain ⟨k1, k2⟩ := hlen _ _ _ hv
          simp only [List.length_cons] at k2
          have hsq : s.drop (s.length - q.length) = q := by
            obtain ⟨p, hp⟩ := hsuf _ _ _ hv
            refine drop_suffix ⟨s.take at_ ++ p, ?_⟩
            rw [List.append_assoc, ← hp, ← hd, List.take_append_drop]
          have e := rl_go s (by omega) at_ dp (by omega) b g1 h0 v q hr (by omega) c (by omega) l (by omega) last mv
          have := ih (s.length - q.length) (c + 1) (l ++ v) true (by omega) (by omega) (by simp; omega) (by simp; omega) (fun a ha => hval a (by omega))
          rw [hsq] at this
          simp only [Option.bind_some]
          cases hl : listP val f (c + 1) (l ++ v) q with
          | none =>
            rw [hl] at this
            rcases this with ⟨st, e1, e2⟩ | ⟨a, n, l', mv', e1, e2⟩
            · exact .inl ⟨st, loop_next e e1, e2⟩
            · exact .inr ⟨a, n, l', mv', e1, loop_next e e2⟩
          | some p =>
            rw [hl] at this
            obtain ⟨a, mv', e1, e2, e3⟩ := this
            exact ⟨a, mv', e1, e2, loop_next e e3⟩
theorem rloopM {val : List UInt8 → Option (List Nd × List UInt8)} (hlen : ∀ s v q, val s = some (v, q) → 0 < v.length ∧ v.length + q.length ≤ s.length) (hsuf : ∀ s v q, val s = some (v, q) → ∃ p, s = p ++ q) (s : List UInt8) (hs : s.length ≤ 800000) (dp : Nat) (hd : dp ≤ 900000) :
    ∀ (f at_ c : Nat) (last : List UInt8) (l : List Nd) (mv : Bool), s.length < at_ + f → at_ ≤ s.length → c ≤ l.length → l.length ≤ at_ →
    (∀ a, at_ ≤ a → a ≤ s.length → RVal s a (dp + 1) (val (s.drop a))) →
    match mapP val f c last l (s.drop at_) with
    | some p => ∃ a mv' last', s[a]? = some 0 ∧ s.drop (a + 1) = p.2.2 ∧ lp 71 lpc71 (st71 s at_ dp 5 ⟨5, 0, [], c⟩ l last mv) = some (.exit 0, out71 s a dp 5 ⟨5, 0, [], p.1⟩ p.2.1 last' mv')
    | none => (∃ st, lp 71 lpc71 (st71 s at_ dp 5 ⟨5, 0, [], c⟩ l last mv) = some (.ret, st) ∧ endsJ 6 badV st) ∨ ∃ a n l' mv' last', s.length ≤ a ∧ lp 71 lpc71 (st71 s at_ dp 5 ⟨5, 0, [], c⟩ l last mv) = some (.exit 0, out71 s a dp 5 n l' last' mv') := by
  intro f
  induction f with
  | zero => intro at_ c last l mv h1 h2; omega
  | succ f ih =>
    intro at_ c last l mv h1 h2 h3 h4 hval
    match hd : s.drop at_ with
    | [] =>
      have := congrArg List.length hd
      simp at this
      exact .inr ⟨at_, _, _, _, _, by omega, loop_out (rl_over s at_ dp (by omega) 5 _ l last mv) (by simp)⟩
    | b :: r =>
      obtain ⟨g1, g2, g3, g4⟩ := drop_one hd
      simp only [mapP]
      by_cases h0 : b = 0
      · subst h0
        exact ⟨at_, mv, last, g1, g2, loop_out (rl_end s at_ dp g1 5 _ l last mv) (by simp)⟩
      rw [if_neg h0]
      by_cases hb1 : b = 1
      case neg =>
        rw [if_neg hb1]
        obtain ⟨st, e1, e2⟩ := rm_odd s hs at_ dp b g1 h0 hb1 ⟨5, 0, [], c⟩ l last mv
        exact .inl ⟨st, loop_out e1 (by simp), e2⟩
      subst hb1
      rw [if_pos rfl]
      cases ht : textP r with
      | none =>
        obtain ⟨st, e1, e2⟩ := rm_text s hs at_ dp g1 (by rw [g2]; exact ht) ⟨5, 0, [], c⟩ l last mv
        exact .inl ⟨st, loop_out e1 (by simp), e2⟩
      | some p =>
        obtain ⟨t, q1⟩ := p
        have htl := textP_len ht
        have ht' : textP (s.drop (at_ + 1)) = some (t, q1) := by rw [g2]; exact ht
        have hsq1 : s.drop (s.length - q1.length) = q1 := by
          obtain ⟨p, hp⟩ := textP_suffix ht
          refine drop_suffix ⟨s.take (at_ + 1) ++ p, ?_⟩
          rw [List.append_assoc, ← hp, ← g2, List.take_append_drop]
        simp only [Option.bind_some]
        by_cases hk : c = 0 ∨ ltB last t = true
        case neg =>
          rw [if_neg hk]
          simp only [not_or, Bool.not_eq_true] at hk
          obtain ⟨st, e1, e2⟩ := rm_key s hs at_ dp g1 t q1 ht' ⟨5, 0, [], c⟩ (by simp; omega) l last hk.2 mv
          exact .inl ⟨st, loop_out e1 (by simp), e2⟩
        rw [if_pos hk]
        have hr := hval (s.length - q1.length) (by omega) (by omega)
        rw [hsq1] at hr
        cases hv : val q1 with
        | none =>
          rw [hv] at hr
          obtain ⟨st, e1, e2⟩ := rm_val s hs at_ dp (by omega) g1 t q1 ht' hr ⟨5, 0, [], c⟩ l (by omega) last (by
            rcases hk with rfl | hk
            · left; simp
            · exact .inr hk) mv
          exact .inl ⟨st, loop_out e1 (by simp), e2⟩
        | some p =>
          obtain ⟨v, q⟩ := p
          rw [hv] at hr
          obtain ⟨k1, k2⟩ := hlen _ _ _ hv
          have hsq : s.drop (s.length - q.length) = q := by
            obtain ⟨p, hp⟩ := hsuf _ _ _ hv
            refine drop_suffix ⟨s.take (s.length - q1.length) ++ p, ?_⟩
            rw [List.append_assoc, ← hp]
            conv => lhs; rw [← List.take_append_drop (s.length - q1.length) s, hsq1]
          have e := rm_go s hs at_ dp (by omega) g1 t q1 ht' v q hr (by omega) c (by omega) l (by omega) last hk mv
          have := ih (s.length - q.length) (c + 1) t (l ++ ⟨3, 0, t, 0⟩ :: v) true (by omega) (by omega) (by simp; omega) (by simp; omega) (fun a ha => hval a (by omega))
          rw [hsq] at this
          simp only [Option.bind_some]
          cases hl : mapP val f (c + 1) t (l ++ ⟨3, 0, t, 0⟩ :: v) q with
          | none =>
            rw [hl] at this
            rcases this with ⟨st, e1, e2⟩ | ⟨a, n, l', mv', last', e1, e2⟩
            · exact .inl ⟨st, loop_next e e1, e2⟩
            · exact .inr ⟨a, n, l', mv', last', e1, loop_next e e2⟩
          | some p =>
            rw [hl] at this
            obtain ⟨a, mv', last', e1, e2, e3⟩ := this
            exact ⟨a, mv', last', e1, e2, loop_next e e3⟩
end Go.Proofs.Ytonaejfpiihfhaa
