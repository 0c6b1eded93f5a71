/- What the functions come to: the reader's steps. What the functions come to: the reader's text. What the functions come to: the reader's text, told. What the functions come to: numbers out of bytes. What the functions come to: the reader's values. What the functions come to: the reader's maps. What the functions come to: the value that bytes are. Numbers out of bytes, plainly. -/
import Derived.Test.YtonaejfpiihfhaaPkN

/- What the functions come to: the reader's steps. -/
namespace Go.Proofs.Ytonaejfpiihfhaa
open Go Abs
set_option linter.unusedSimpArgs false
set_option linter.unusedVariables false
attribute [local simp] canonK canonAll canonSlot canonCell canonBox ownStep restrictTo pureCells pureRows reachL AObj.names List.range_succ appendA
/-- What the reader panics by. -/
def oddR : AV := .iface 125 (.agg [])
def rBox (s : List UInt8) : AObj := .box 106 (.agg [.str s])
def hpR1 (s : List UInt8) : Heap := [(0, rBox s)]
theorem rneed_t : cl 74 [.bool true] [] = some (.ret (.tup []), []) := call_intro (by decide) rfl (by kernel_rfl)
theorem rneed_f : cl 74 [.bool false] [] = some (.pan oddR, []) := call_intro (by decide) rfl (by kernel_rfl)
theorem rneed_call_t {d : Option Nat} {st : ASt} : callV G cl d (.fn (.func 74) [] []) [.bool true] st = some (.val (.tup []) st) := callV_ret E74 (by decide) ext74 rfl rfl rneed_t rfl
theorem rneed_call_f {d : Option Nat} {st : ASt} : callV G cl d (.fn (.func 74) [] []) [.bool false] st = some (.pan oddR st) := callV_pan E74 (by decide) ext74 rfl rfl rneed_f rfl
/-- A function that reads: what it answers, and what is left; or a panic. -/
def Says (g : FuncId) (rest : List AV) (s : List UInt8) (o : Option (AV × List UInt8)) : Prop :=
  match o with
  | some (v, r) => cl g (.ptr 0 0 0 :: rest) (hpR1 s) = some (.ret v, hpR1 r)
  | none => ∃ s', cl g (.ptr 0 0 0 :: rest) (hpR1 s) = some (.pan oddR, hpR1 s')
theorem read_V {g : FuncId} {i : Nat} {d : Option Nat} {s r : List UInt8} {rest : List AV} {v : AV} {sl : Slots} {hp : Heap} (hE : G.E g = true) (hg : g < RB) (hx : G.ext g = none) (hrest : ∀ x ∈ rest, Plain x) (hv : Plain v)
    (h0 : aget hp i = some (rBox s)) (hc : Says g rest s (some (v, r))) :
    callV G cl d (.fn (.func g) [] []) (.ptr i 0 0 :: rest) ⟨sl, hp⟩ = some (.val v ⟨sl, (i, rBox r) :: hp⟩) := by
  obtain ⟨p1, p2, p3, p4⟩ := plains (g := g) hrest
  refine callV_of (pre := .ptr i 0 0 :: rest) (st1 := ⟨sl, hp⟩) (ns := [i]) (y := (.ret v, hpR1 r)) (st3 := ⟨sl, (i, rBox r) :: hp⟩) hE hg hx ?_ ?_ ?_ ?_ ?_ ?_ ?_
  · simp [prepL, p1]
  · simp [prepRows, p2, ASt.fix, hfix]
  · simp [AV.namesL, p3, reachL, h0, rBox]
  · simp [h0]
  · simp [AV.renL, p4, subHeap, zipIx, toMap, h0, rBox, AObj.unmv]
    exact hc
  · simp [afterCall, afterHeap, zipIx, movedOf, killAll, backMap, backName, hpR1, rBox, AObj.moved, AObj.isRow, AObj.ormv, h0, ASt.killn]
  · simp [answered, hv.ren]
theorem read_P {g : FuncId} {i : Nat} {d : Option Nat} {s : List UInt8} {rest : List AV} {sl : Slots} {hp : Heap} (hE : G.E g = true) (hg : g < RB) (hx : G.ext g = none) (hrest : ∀ x ∈ rest, Plain x)
    (h0 : aget hp i = some (rBox s)) (hc : Says g rest s none) :
    ∃ s', callV G cl d (.fn (.func g) [] []) (.ptr i 0 0 :: rest) ⟨sl, hp⟩ = some (.pan oddR ⟨sl, (i, rBox s') :: hp⟩) := by
  obtain ⟨p1, p2, p3, p4⟩ := plains (g := g) hrest
  obtain ⟨s', hc⟩ := hc
  refine ⟨s', callV_of (pre := .ptr i 0 0 :: rest) (st1 := ⟨sl, hp⟩) (ns := [i]) (y := (.pan oddR, hpR1 s')) (st3 := ⟨sl, (i, rBox s') :: hp⟩) hE hg hx ?_ ?_ ?_ ?_ ?_ ?_ ?_⟩
  · simp [prepL, p1]
  · simp [prepRows, p2, ASt.fix, hfix]
  · simp [AV.namesL, p3, reachL, h0, rBox]
  · simp [h0]
  · simp [AV.renL, p4, subHeap, zipIx, toMap, h0, rBox, AObj.unmv]
    exact hc
  · simp [afterCall, afterHeap, zipIx, movedOf, killAll, backMap, backName, hpR1, rBox, AObj.moved, AObj.isRow, AObj.ormv, h0, ASt.killn]
  · simp [answered, oddR]
def takeP (n : Nat) (s : List UInt8) : Option (AV × List UInt8) := if n ≤ s.length then some (.str (s.take n), s.drop n) else none
set_option maxHeartbeats 8000000 in
theorem take_says (n : Nat) (s : List UInt8) : Says 75 [.int .i64 n] s (takeP n s) := by
  unfold takeP Says
  by_cases h : n ≤ s.length
  · rw [if_pos h]
    have h' : ¬ (s.length : Int) < n := by omega
    refine fn_intro Try.func75 rfl (by simp) (by decide) rfl ?_
    simp [Try.f75, hpR1, rBox, h, h']
    rfl
  · rw [if_neg h]
    have h' : (s.length : Int) < n := by omega
    refine ⟨s, fn_intro Try.func75 rfl (by simp) (by decide) rfl ?_⟩
    simp [Try.f75, hpR1, rBox, h, h']
    rfl
def moreP : List UInt8 → Option (AV × List UInt8)
  | [] => none
  | b :: r => if b = 0 then some (.bool false, r) else some (.bool true, b :: r)
set_option maxHeartbeats 8000000 in
theorem more_says (s : List UInt8) : Says 101 [] s (moreP s) := by
  have hn := fun d st => rneed_call_t (d := d) (st := st)
  have hf := fun d st => rneed_call_f (d := d) (st := st)
  cases s with
  | nil =>
    refine ⟨[], fn_intro Try.func101 rfl (by simp) (by decide) rfl ?_⟩
    simp [Try.f101, hpR1, rBox, hn, hf]
    rfl
  | cons b r =>
    simp only [moreP]
    have hx : indexv Try.prog 9 (.str (b :: r)) (.int .i64 0) = some (.int .u8 b.toNat) := str_at (i := 0) rfl
    by_cases h0 : b = 0
    · rw [if_pos h0]
      have hz : b.toNat = 0 := by rw [h0]; rfl
      have h75 := fun d sl hp (h0 : aget hp 0 = some (rBox (b :: r))) => read_V (d := d) (sl := sl) (g := 75) (rest := [.int .i64 1]) E75 (by decide) rfl (by simpa using plain_int) (plain_str (s := [b])) h0 (by have := take_says 1 (b :: r); simpa [takeP] using this)
      simp only [rBox] at h75
      refine fn_intro Try.func101 rfl (by simp) (by decide) rfl ?_
      simp [Try.f101, hpR1, rBox, hn, hf, hx, hz, h75]
      rfl
    · rw [if_neg h0]
      have hz : ¬ b.toNat = 0 := fun h => h0 (by rw [← UInt8.toNat_inj]; exact h)
      refine fn_intro Try.func101 rfl (by simp) (by decide) rfl ?_
      simp [Try.f101, hpR1, rBox, hn, hf, hx, hz]
      rfl
end Go.Proofs.Ytonaejfpiihfhaa

/- What the functions come to: the reader's text. -/
namespace Go.Proofs.Ytonaejfpiihfhaa
open Go Abs
set_option linter.unusedSimpArgs false
set_option linter.unusedVariables false
attribute [local simp] canonK canonAll canonSlot canonCell canonBox ownStep restrictTo pureCells pureRows reachL AObj.names List.range_succ appendA
/-- The text that bytes begin with, and what is behind it. -/
def textP : List UInt8 → Option (List UInt8 × List UInt8)
  | a :: b :: r => if a = 0 then (if b = 0 then some ([], r) else if b = 255 then (textP r).map fun p => (0 :: p.1, p.2) else none) else (textP (b :: r)).map fun p => (a :: p.1, p.2)
  | _ => none
termination_by s => s.length
noncomputable abbrev rec76 : LRec := rcOf 76 Try.f76 .ready none
theorem rok76 : G.roundOK rec76 = true := by kernel_rfl
noncomputable abbrev rec76d : LRec := rcOf 76 Try.f76 .done (some (.exit 0))
noncomputable abbrev rec76b : LRec := rcOf 76 Try.f76 .busy none
def oRow (out : List UInt8) (mv : Bool) : AObj := .row 1 (bysL out) false ⟨mv, 5⟩
noncomputable def hpT (r : LRec) (s out : List UInt8) (mv : Bool) : Heap :=
  [(0, .loop r [(3, .ptr 1 0 0), (7, .fn (.func 127) [] [.ptr 2 0 0]), (8, .undef), (9, .undef)]), (1, .box 81 (.own 3)), (2, .box 99 (.ptr 4 0 0)), (3, oRow out mv), (4, rBox s)]
set_option maxHeartbeats 8000000 in
theorem round76_go (a b : UInt8) (h : ¬ (a = 0 ∧ b = 0)) (h2 : a ≠ 0 ∨ b = 255) (s out : List UInt8) (ho : out.length ≤ 1000000) : cl RB [.int .u8 a.toNat, .int .u8 b.toNat] (hpT rec76 s out false) = some (.ret (.bool true), hpT rec76 s (out ++ [a]) true) := by
  have : RB = RB + 0 := rfl
  rw [this]
  have hL : out.length + 1 ≤ LIM := by unfold LIM; omega
  have hr := rok76
  have hn := fun d st => rneed_call_t (d := d) (st := st)
  have ha0 : a.toNat = 0 ↔ a = 0 := by rw [← UInt8.toNat_inj]; rfl
  have hb0 : b.toNat = 0 ↔ b = 0 := by rw [← UInt8.toNat_inj]; rfl
  have hb5 : b.toNat = 255 ↔ b = 255 := by rw [← UInt8.toNat_inj]; rfl
  refine round_intro ?_
  unfold runRound
  unfold rec76 rcOf at hr
  simp [hpT, rec76, rcOf, rfsOf, Try.f76] at hr ⊢
  rcases h2 with h2 | h2
  · simp [hr, appendA, oRow, hL, ha0, hb0, hb5, h2, hn, bysL_snoc, rBox]
    rfl
  · have h3 : a ≠ 0 ∨ a = 0 := by by_cases e : a = 0 <;> simp [e]
    subst h2
    rcases h3 with h3 | h3
    · simp [hr, appendA, oRow, hL, ha0, hb0, hb5, h3, hn, bysL_snoc, rBox]
      rfl
    · subst h3
      simp [hr, appendA, oRow, hL, hn, bysL_snoc, rBox]
      rfl
set_option maxHeartbeats 8000000 in
theorem round76_end (s out : List UInt8) : cl RB [.int .u8 0, .int .u8 0] (hpT rec76 s out false) = some (.ret (.bool false), hpT rec76d s out false) := by
  have : RB = RB + 0 := rfl
  rw [this]
  have hr := rok76
  refine round_intro ?_
  unfold runRound
  unfold rec76 rcOf at hr
  simp [hpT, rec76, rec76d, rcOf, rfsOf, Try.f76] at hr ⊢
  simp [hr, oRow, rBox]
  rfl
set_option maxHeartbeats 8000000 in
theorem round76_bad (b : UInt8) (h0 : b ≠ 0) (h5 : b ≠ 255) (s out : List UInt8) : cl RB [.int .u8 0, .int .u8 b.toNat] (hpT rec76 s out false) = some (.pan oddR, hpT rec76b s out false) := by
  have : RB = RB + 0 := rfl
  rw [this]
  have hr := rok76
  have hf := fun d st => rneed_call_f (d := d) (st := st)
  have hb0 : b.toNat = 0 ↔ b = 0 := by rw [← UInt8.toNat_inj]; rfl
  have hb5 : b.toNat = 255 ↔ b = 255 := by rw [← UInt8.toNat_inj]; rfl
  have hi5 : ¬ (b.toNat : Int) = 255 := by rw [show (255 : Int) = ((255 : Nat) : Int) from rfl, Int.natCast_inj, hb5]; exact h5
  refine round_intro ?_
  unfold runRound
  unfold rec76 rcOf at hr
  simp [hpT, rec76, rec76b, rcOf, rfsOf, Try.f76] at hr ⊢
  simp [hr, oRow, rBox, hb0, hb5, hi5, h0, h5, hf]
  rfl
/-! Seen from the function that goes through the pairs. -/
noncomputable def hpU (r : LRec) (s out : List UInt8) (mv : Bool) : Heap :=
  [(0, .loop r [(3, .ptr 2 0 0), (7, .fn (.func 127) [] [.ptr 1 0 0]), (8, .undef), (9, .undef)]), (1, .box 99 (.ptr 3 0 0)), (2, .box 81 (.own 4)), (3, rBox s), (4, oRow out mv)]
noncomputable def hpU' (r : LRec) (s out : List UInt8) (mv : Bool) : Heap :=
  [(0, .loop r [(3, .ptr 2 0 0), (7, .fn (.func 127) [] [.ptr 1 0 0]), (8, .undef), (9, .undef)]), (2, .box 81 (.own 4)), (1, .box 99 (.ptr 3 0 0)), (4, oRow out mv), (3, rBox s)]
def kill4 (hp : Heap) : Heap := hp.map fun p => (p.1, p.2.kill 4)
theorem yield76_go {d : Option Nat} (a b : UInt8) (h : ¬ (a = 0 ∧ b = 0)) (h2 : a ≠ 0 ∨ b = 255) (s out : List UInt8) (ho : out.length ≤ 1000000) (mv : Bool) (sl : Slots) (hp : Heap)
    (e0 : aget hp 0 = aget (hpU rec76 s out mv) 0) (e1 : aget hp 1 = aget (hpU rec76 s out mv) 1) (e2 : aget hp 2 = aget (hpU rec76 s out mv) 2) (e3 : aget hp 3 = aget (hpU rec76 s out mv) 3) (e4 : aget hp 4 = aget (hpU rec76 s out mv) 4) :
    callV G cl d (.yld 0) [.int .u8 a.toNat, .int .u8 b.toNat] ⟨sl, hp⟩ = some (.val (.bool true) ⟨sl.map fun p => (p.1, p.2.kill 4), hpU' rec76 s (out ++ [a]) true ++ kill4 hp⟩) := by
  refine callV_yld (st1 := ⟨sl, hp⟩) (st3 := ⟨sl.map fun p => (p.1, p.2.kill 4), hpU' rec76 s (out ++ [a]) true ++ kill4 hp⟩) (ns := [0, 2, 1, 4, 3]) (j := 0) (pre := [.int .u8 a.toNat, .int .u8 b.toNat]) (y := (.ret (.bool true), hpT rec76 s (out ++ [a]) true)) rfl rfl ?_ ?_ rfl ?_ ?_ rfl
  · simp [AV.namesL, reachL, e0, e1, e2, e3, e4, hpU, rBox, oRow]
  · simp [e0, e1, e2, e3, e4, hpU]
  · have := round76_go a b h h2 s out ho
    simp [AV.renL, subHeap, zipIx, toMap, e0, e1, e2, e3, e4, hpU, rBox, oRow, AObj.unmv]
    exact this
  · simp [afterCall, afterHeap, zipIx, movedOf, killAll, backMap, backName, hpT, hpU', kill4, rBox, oRow, AObj.moved, AObj.isRow, AObj.ormv, ASt.killn, e0, e1, e2, e3, e4, hpU, oren_loop]
theorem yield76_end {d : Option Nat} (s out : List UInt8) (mv : Bool) (sl : Slots) (hp : Heap)
    (e0 : aget hp 0 = aget (hpU rec76 s out mv) 0) (e1 : aget hp 1 = aget (hpU rec76 s out mv) 1) (e2 : aget hp 2 = aget (hpU rec76 s out mv) 2) (e3 : aget hp 3 = aget (hpU rec76 s out mv) 3) (e4 : aget hp 4 = aget (hpU rec76 s out mv) 4) :
    callV G cl d (.yld 0) [.int .u8 0, .int .u8 0] ⟨sl, hp⟩ = some (.val (.bool false) ⟨sl, hpU' rec76d s out mv ++ hp⟩) := by
  refine callV_yld (st1 := ⟨sl, hp⟩) (st3 := ⟨sl, hpU' rec76d s out mv ++ hp⟩) (ns := [0, 2, 1, 4, 3]) (j := 0) (pre := [.int .u8 0, .int .u8 0]) (y := (.ret (.bool false), hpT rec76d s out false)) rfl rfl ?_ ?_ rfl ?_ ?_ rfl
  · simp [AV.namesL, reachL, e0, e1, e2, e3, e4, hpU, rBox, oRow]
  · simp [e0, e1, e2, e3, e4, hpU]
  · have := round76_end s out
    simp [AV.renL, subHeap, zipIx, toMap, e0, e1, e2, e3, e4, hpU, rBox, oRow, AObj.unmv]
    exact this
  · simp [afterCall, afterHeap, zipIx, movedOf, killAll, backMap, backName, hpT, hpU', rBox, oRow, AObj.moved, AObj.isRow, AObj.ormv, ASt.killn, e0, e1, e2, e3, e4, hpU, oren_loop]
theorem yield76_bad {d : Option Nat} (b : UInt8) (h0 : b ≠ 0) (h5 : b ≠ 255) (s out : List UInt8) (mv : Bool) (sl : Slots) (hp : Heap)
    (e0 : aget hp 0 = aget (hpU rec76 s out mv) 0) (e1 : aget hp 1 = aget (hpU rec76 s out mv) 1) (e2 : aget hp 2 = aget (hpU rec76 s out mv) 2) (e3 : aget hp 3 = aget (hpU rec76 s out mv) 3) (e4 : aget hp 4 = aget (hpU rec76 s out mv) 4) :
    callV G cl d (.yld 0) [.int .u8 0, .int .u8 b.toNat] ⟨sl, hp⟩ = some (.pan oddR ⟨sl, hpU' rec76b s out mv ++ hp⟩) := by
  refine callV_yld (st1 := ⟨sl, hp⟩) (st3 := ⟨sl, hpU' rec76b s out mv ++ hp⟩) (ns := [0, 2, 1, 4, 3]) (j := 0) (pre := [.int .u8 0, .int .u8 b.toNat]) (y := (.pan oddR, hpT rec76b s out false)) rfl rfl ?_ ?_ rfl ?_ ?_ rfl
  · simp [AV.namesL, reachL, e0, e1, e2, e3, e4, hpU, rBox, oRow]
  · simp [e0, e1, e2, e3, e4, hpU]
  · have := round76_bad b h0 h5 s out
    simp [AV.renL, subHeap, zipIx, toMap, e0, e1, e2, e3, e4, hpU, rBox, oRow, AObj.unmv]
    exact this
  · simp [afterCall, afterHeap, zipIx, movedOf, killAll, backMap, backName, hpT, hpU', rBox, oRow, AObj.moved, AObj.isRow, AObj.ormv, ASt.killn, e0, e1, e2, e3, e4, hpU, oren_loop]
theorem okill_loop {n r sl} : AObj.kill n (.loop r sl) = .loop r (sl.map fun p => (p.1, p.2.kill n)) := rfl
attribute [local simp] okill_loop
def sl127 : Slots := [(0, .yld 0), (1, .ptr 1 0 0)]
/-- A step that takes one, out of the reader of another function. -/
theorem take_1 {i : Nat} {d : Option Nat} {b : UInt8} {s : List UInt8} {sl : Slots} {hp : Heap} (h0 : aget hp i = some (rBox (b :: s))) : callV G cl d (.fn (.func 75) [] []) [.ptr i 0 0, .int .i64 1] ⟨sl, hp⟩ = some (.val (.str [b]) ⟨sl, (i, rBox s) :: hp⟩) :=
  read_V (g := 75) (rest := [.int .i64 1]) E75 (by decide) rfl (by simpa using plain_int) (plain_str (s := [b])) h0 (by have := take_says 1 (b :: s); simpa [takeP] using this)
theorem bytes_at0 {a : UInt8} {s : List UInt8} : indexv Try.prog 9 (.str (a :: s)) (.int .i64 0) = some (.int .u8 a.toNat) := str_at (i := 0) rfl
theorem bytes_at1 {a b : UInt8} {s : List UInt8} : indexv Try.prog 9 (.str (a :: b :: s)) (.int .i64 1) = some (.int .u8 b.toNat) := str_at (i := 1) rfl
set_option maxHeartbeats 8000000 in
theorem round127_plain (a b : UInt8) (ha : a ≠ 0) (s out : List UInt8) (ho : out.length ≤ 1000000) (hs : s.length ≤ 1000000) (mv : Bool) :
    rX 127 (lc Try.f127 0) (codeX G cl lp 127 (lc Try.f127 0) ⟨sl127, hpU rec76 (a :: b :: s) out mv⟩) = some (.normal, ⟨sl127, hpU rec76 (b :: s) (out ++ [a]) true⟩) := by
  have hn := fun d st => rneed_call_t (d := d) (st := st)
  have ht := fun d sl hp (h0 : aget hp 3 = some (rBox (a :: b :: s))) => take_1 (d := d) (sl := sl) h0
  have hy := fun d => yield76_go (d := d) a b (by simp [ha]) (.inl ha) (b :: s) out ho mv
  have ha' : ¬ a.toNat = 0 := fun h => ha (by rw [← UInt8.toNat_inj]; exact h)
  have hgt : (1 : Int) < (s.length : Int) + 1 + 1 := by omega
  simp [lc, loopsOf, Try.f127, sl127, hpU, rBox, hgt, hn, bytes_at0, bytes_at1]
  simp only [rBox] at ht
  simp [ht, ha']
  simp [hpU, rBox, oRow] at hy
  simp [hy, hpU', kill4, rBox, oRow]
  rfl
set_option maxHeartbeats 8000000 in
theorem round127_zero (s out : List UInt8) (ho : out.length ≤ 1000000) (hs : s.length ≤ 1000000) (mv : Bool) :
    rX 127 (lc Try.f127 0) (codeX G cl lp 127 (lc Try.f127 0) ⟨sl127, hpU rec76 (0 :: 255 :: s) out mv⟩) = some (.normal, ⟨sl127, hpU rec76 s (out ++ [0]) true⟩) := by
  have hn := fun d st => rneed_call_t (d := d) (st := st)
  have ht := fun d sl hp (h0 : aget hp 3 = some (rBox (0 :: 255 :: s))) => take_1 (d := d) (sl := sl) h0
  have ht2 := fun d sl hp (h0 : aget hp 3 = some (rBox (255 :: s))) => take_1 (d := d) (sl := sl) h0
  have hy := fun d => yield76_go (d := d) 0 255 (by simp) (.inr rfl) s out ho mv
  have hgt : (1 : Int) < (s.length : Int) + 1 + 1 := by omega
  simp [lc, loopsOf, Try.f127, sl127, hpU, rBox, hgt, hn, bytes_at0, bytes_at1]
  simp only [rBox] at ht ht2
  simp [ht, ht2]
  simp [hpU, rBox, oRow] at hy
  simp [hy, hpU', kill4, rBox, oRow]
  rfl
/-- Memory, told by its five names. -/
def isU (r : LRec) (s out : List UInt8) (mv : Bool) (hp : Heap) : Prop :=
  aget hp 0 = aget (hpU r s out mv) 0 ∧ aget hp 1 = aget (hpU r s out mv) 1 ∧ aget hp 2 = aget (hpU r s out mv) 2 ∧ aget hp 3 = aget (hpU r s out mv) 3 ∧ aget hp 4 = aget (hpU r s out mv) 4
set_option maxHeartbeats 8000000 in
theorem round127_end (s out : List UInt8) (hs : s.length ≤ 1000000) (mv : Bool) :
    ∃ st, rX 127 (lc Try.f127 0) (codeX G cl lp 127 (lc Try.f127 0) ⟨sl127, hpU rec76 (0 :: 0 :: s) out mv⟩) = some (.ret, st) ∧ isU rec76d s out mv st.hp := by
  have hn := fun d st => rneed_call_t (d := d) (st := st)
  have ht := fun d sl hp (h0 : aget hp 3 = some (rBox (0 :: 0 :: s))) => take_1 (d := d) (sl := sl) h0
  have ht2 := fun d sl hp (h0 : aget hp 3 = some (rBox (0 :: s))) => take_1 (d := d) (sl := sl) h0
  have hy := fun d => yield76_end (d := d) s out mv
  have hgt : (1 : Int) < (s.length : Int) + 1 + 1 := by omega
  simp only [rBox] at ht ht2
  simp [hpU, rBox, oRow] at hy
  refine ⟨?st, ?h1, ?h2⟩
  case h1 =>
    simp [lc, loopsOf, Try.f127, sl127, hpU, rBox, hgt, hn, bytes_at0, bytes_at1]
    simp [ht, ht2]
    simp [hy, hpU', rBox, oRow]
    rfl
  case h2 => exact ⟨rfl, rfl, rfl, rfl, rfl⟩
set_option maxHeartbeats 8000000 in
theorem round127_bad (b : UInt8) (h0 : b ≠ 0) (h5 : b ≠ 255) (s out : List UInt8) (hs : s.length ≤ 1000000) (mv : Bool) :
    ∃ st, rX 127 (lc Try.f127 0) (codeX G cl lp 127 (lc Try.f127 0) ⟨sl127, hpU rec76 (0 :: b :: s) out mv⟩) = some (.pan oddR, st) ∧ isU rec76b s out mv st.hp := by
  have hn := fun d st => rneed_call_t (d := d) (st := st)
  have ht := fun d sl hp (h0 : aget hp 3 = some (rBox (0 :: b :: s))) => take_1 (d := d) (sl := sl) h0
  have ht2 := fun d sl hp (h0 : aget hp 3 = some (rBox (b :: s))) => take_1 (d := d) (sl := sl) h0
  have hy := fun d => yield76_bad (d := d) b h0 h5 s out mv
  have hgt : (1 : Int) < (s.length : Int) + 1 + 1 := by omega
  simp only [rBox] at ht ht2
  simp [hpU, rBox, oRow] at hy
  refine ⟨?st, ?h1, ?h2⟩
  case h1 =>
    simp [lc, loopsOf, Try.f127, sl127, hpU, rBox, hgt, hn, bytes_at0, bytes_at1]
    simp [ht, ht2]
    simp [hy, hpU', rBox, oRow]
    rfl
  case h2 => exact ⟨rfl, rfl, rfl, rfl, rfl⟩
set_option maxHeartbeats 8000000 in
theorem round127_short (s out : List UInt8) (hs : s.length ≤ 1) (mv : Bool) :
    ∃ st, rX 127 (lc Try.f127 0) (codeX G cl lp 127 (lc Try.f127 0) ⟨sl127, hpU rec76 s out mv⟩) = some (.pan oddR, st) ∧ isU rec76 s out mv st.hp := by
  have hf := fun d st => rneed_call_f (d := d) (st := st)
  have hgt : ¬ (1 : Int) < (s.length : Int) := by omega
  refine ⟨?st, ?h1, ?h2⟩
  case h1 =>
    simp [lc, loopsOf, Try.f127, sl127, hpU, rBox, hgt, hf]
    rfl
  case h2 => exact ⟨rfl, rfl, rfl, rfl, rfl⟩
/-- What the function that goes through the pairs comes to. -/
theorem loop127 : ∀ (k : Nat) (s out : List UInt8) (mv : Bool), s.length ≤ k → out.length + s.length ≤ 900000 →
    (∀ t q, textP s = some (t, q) → ∃ mv' st, lp 127 (lc Try.f127 0) ⟨sl127, hpU rec76 s out mv⟩ = some (.ret, st) ∧ isU rec76d q (out ++ t) mv' st.hp) ∧
    (textP s = none → ∃ s' out' r mv' st, lp 127 (lc Try.f127 0) ⟨sl127, hpU rec76 s out mv⟩ = some (.pan oddR, st) ∧ isU r s' out' mv' st.hp) := by
  intro k
  induction k with
  | zero =>
    intro s out mv hk hb
    obtain rfl : s = [] := List.length_eq_zero_iff.1 (by omega)
    refine ⟨fun t q h => by simp [textP] at h, fun _ => ?_⟩
    obtain ⟨st, h, h'⟩ := round127_short [] out (by simp) mv
    exact ⟨[], out, _, mv, st, loop_out h (by simp), h'⟩
  | succ k ih =>
    intro s out mv hk hb
    match s with
    | [] =>
      refine ⟨fun t q h => by simp [textP] at h, fun _ => ?_⟩
      obtain ⟨st, h, h'⟩ := round127_short [] out (by simp) mv
      exact ⟨[], out, _, mv, st, loop_out h (by simp), h'⟩
    | [a] =>
      refine ⟨fun t q h => by simp [textP] at h, fun _ => ?_⟩
      obtain ⟨st, h, h'⟩ := round127_short [a] out (by simp) mv
      exact ⟨[a], out, _, mv, st, loop_out h (by simp), h'⟩
    | a :: b :: s =>
      simp only [List.length_cons] at hk hb
      by_cases ha : a = 0
      · subst ha
        by_cases hb0 : b = 0
        · subst hb0
          refine ⟨fun t q h => ?_, fun h => by simp [textP] at h⟩
          have h : some (([] : List UInt8), s) = some (t, q) := by rw [textP] at h; simpa using h
          cases h
          obtain ⟨st, h, h'⟩ := round127_end s out (by omega) mv
          exact ⟨mv, st, loop_out h (by simp), by rw [List.append_nil]; exact h'⟩
        · by_cases h5 : b = 255
          · subst h5
            have h := round127_zero s out (by omega) (by omega) mv
            have e : textP (0 :: 255 :: s) = (textP s).map fun p => (0 :: p.1, p.2) := by rw [textP]; simp
            obtain ⟨i1, i2⟩ := ih s (out ++ [0]) true (by omega) (by simp; omega)
            refine ⟨fun t q ht => ?_, fun ht => ?_⟩
            · rw [e] at ht
              obtain ⟨p, hp1, hp2⟩ := Option.map_eq_some_iff.1 ht
              cases hp2
              obtain ⟨mv', st, hh, hu⟩ := i1 _ _ hp1
              exact ⟨mv', st, loop_next h hh, by simpa using hu⟩
            · rw [e, Option.map_eq_none_iff] at ht
              obtain ⟨s', out', r, mv', st, hh, hc⟩ := i2 ht
              exact ⟨s', out', r, mv', st, loop_next h hh, hc⟩
          · have e : textP (0 :: b :: s) = none := by rw [textP]; simp [hb0, h5]
            refine ⟨fun t q ht => (by rw [e] at ht; cases ht), fun _ => ?_⟩
            obtain ⟨st, h, h'⟩ := round127_bad b hb0 h5 s out (by omega) mv
            exact ⟨s, out, _, mv, st, loop_out h (by simp), h'⟩
      · have h := round127_plain a b ha s out (by omega) (by omega) mv
        have e : textP (a :: b :: s) = (textP (b :: s)).map fun p => (a :: p.1, p.2) := by rw [textP]; simp [ha]
        obtain ⟨i1, i2⟩ := ih (b :: s) (out ++ [a]) true (by simp; omega) (by simp; omega)
        refine ⟨fun t q ht => ?_, fun ht => ?_⟩
        · rw [e] at ht
          obtain ⟨p, hp1, hp2⟩ := Option.map_eq_some_iff.1 ht
          cases hp2
          obtain ⟨mv', st, hh, hu⟩ := i1 _ _ hp1
          exact ⟨mv', st, loop_next h hh, by simpa using hu⟩
        · rw [e, Option.map_eq_none_iff] at ht
          obtain ⟨s', out', r, mv', st, hh, hc⟩ := i2 ht
          exact ⟨s', out', r, mv', st, loop_next h hh, hc⟩
end Go.Proofs.Ytonaejfpiihfhaa

/- What the functions come to: the reader's text, told. -/
namespace Go.Proofs.Ytonaejfpiihfhaa
open Go Abs
set_option linter.unusedSimpArgs false
set_option linter.unusedVariables false
attribute [local simp] canonK canonAll canonSlot canonCell canonBox ownStep restrictTo pureCells pureRows reachL AObj.names List.range_succ appendA
theorem out127 {r : LRec} {s out : List UInt8} {mv : Bool} {hp : Heap} {v : AV} (hv : Plain v) (h : isU r s out mv hp) : outOf [0, 1, 2, 3, 4] hp v = (v, hpU r s out mv) := by
  obtain ⟨e0, e1, e2, e3, e4⟩ := h
  unfold outOf
  simp [hv.names, e0, e1, e2, e3, e4, hpU, rBox, oRow, hv.ren, onlyHeap, idMap, oren_loop]
theorem pairs127 (s out : List UInt8) (mv : Bool) (hb : out.length + s.length ≤ 900000) :
    (∀ t q, textP s = some (t, q) → ∃ mv', cl 127 [.yld 0, .ptr 1 0 0] (hpU rec76 s out mv) = some (.ret (.tup []), hpU rec76d q (out ++ t) mv')) ∧
    (textP s = none → ∃ s' out' r mv', cl 127 [.yld 0, .ptr 1 0 0] (hpU rec76 s out mv) = some (.pan oddR, hpU r s' out' mv')) := by
  obtain ⟨h1, h2⟩ := loop127 s.length s out mv (Nat.le_refl _) hb
  refine ⟨fun t q ht => ?_, fun ht => ?_⟩
  · obtain ⟨mv', st, hlp, hu⟩ := h1 t q ht
    refine ⟨mv', fn_intro Try.func127 rfl (by simp) (by decide) rfl ?_⟩
    simp [sl127, lc, loopsOf, Try.f127, hpU, rBox, oRow] at hlp
    simp [Try.f127, hpU, rBox, oRow, oren_loop]
    rw [hlp]
    have := out127 plain_unit hu
    obtain ⟨sl, hp⟩ := st
    unfold endX
    simp [finishA, retA, this, hpU, ASt.fix]
    exact ⟨rfl, rfl⟩
  · obtain ⟨s', out', r, mv', st, hlp, hu⟩ := h2 ht
    refine ⟨s', out', r, mv', fn_intro Try.func127 rfl (by simp) (by decide) rfl ?_⟩
    simp [sl127, lc, loopsOf, Try.f127, hpU, rBox, oRow] at hlp
    simp [Try.f127, hpU, rBox, oRow, oren_loop]
    rw [hlp]
    have := out127 (v := oddR) ⟨fun _ => rfl, rfl, rfl, fun _ => rfl⟩ hu
    unfold endX
    have e1 : hfix oddR.rows st.hp = st.hp := rfl
    have e2 : oddR.rv st.hp = oddR := rfl
    simp only [List.map_cons, List.map_nil, blkX_p, e1, e2, this, panA]
    rfl
theorem pairs_fn (s : List UInt8) : cl 103 [.ptr 0 0 0] [(0, rBox s)] = some (.ret (.fn (.func 127) [] [.ptr 1001 0 0]), [(0, rBox s), (1001, .box 99 (.ptr 0 0 0))]) :=
  call_intro (by decide) rfl (by kernel_rfl)
def hpZ (s : List UInt8) : Heap := [(200300, .row 1 [] false ⟨false, 5⟩), (1003, .box 81 (.own 200300)), (0, .box 106 (.agg [.str s]))]
theorem pairs_call (s : List UInt8) (sl : Slots) : callV G cl (some 7) (.fn (.func 103) [] []) [.ptr 0 0 0] ⟨sl, hpZ s⟩ =
    some (.val (.fn (.func 127) [] [.ptr 1002000007 0 0]) ⟨sl, [(0, rBox s), (1002000007, .box 99 (.ptr 0 0 0))] ++ hpZ s⟩) :=
  callV_of (pre := [.ptr 0 0 0]) (st1 := ⟨sl, hpZ s⟩) (ns := [0]) (y := (.ret (.fn (.func 127) [] [.ptr 1001 0 0]), [(0, rBox s), (1001, .box 99 (.ptr 0 0 0))])) E103 (by decide) ext103 rfl rfl rfl rfl (by exact pairs_fn s) (by kernel_rfl) rfl
noncomputable def rf76 : Code := match rfsOf (Try.f76.body.getD .skip) with | (g, ps, asg, body) :: _ => .rangeFunc g ps asg body | [] => .skip
def sl76 : Slots := [(3, .ptr 1003 0 0), (7, .fn (.func 127) [] [.ptr 1002000007 0 0]), (8, .undef), (9, .undef)]
noncomputable def at76 (s : List UInt8) : ASt := ⟨sl76, [(0, rBox s), (1002000007, .box 99 (.ptr 0 0 0))] ++ hpZ s⟩
noncomputable def hp76o (s : List UInt8) : Heap := (20005, .loop rec76 sl76) :: (at76 s).hp
theorem fb76 : 20000 + firstRegion rec76.body = 20005 := by kernel_rfl
/-- A loop over a function that panics. -/
theorem rf_pan {f : FuncId} {g : Operand} {ps : Array Nat} {asg body : Code} {st s : ASt} {v : AV} {M : List Nat} {L d : Nat} (hL : L = 20000 + firstRegion body) (hd : d = 30000 + firstRegion body)
    (h1 : (aget st.hp L).isSome = false) (h2 : G.roundOK ⟨f, G.ntm f, ps, asg, body, .ready, none⟩ = true) (h3 : isFn (st.ev g) = true)
    (hc : callB G cl (some d) (st.ev g) [.yld L] { st with hp := (L, .loop ⟨f, G.ntm f, ps, asg, body, .ready, none⟩ st.sl) :: st.hp } = some (.pan v s, M)) :
    codeX G cl lp f (.rangeFunc g ps asg body) st = some (.pan v, s) := by
  subst hL hd
  unfold codeX
  simp only [h1, h2, h3, Bool.not_true, Bool.or_false, Bool.false_eq_true, if_false, hc, Option.bind_some]
theorem after76 (r : LRec) (s q out : List UInt8) (mv : Bool) : ∃ st, afterCall (some 30005) [20005, 1002000007, 1003, 0, 200300] ⟨sl76, hp76o s⟩ (hpU r q out mv) = some st ∧
    aget st.hp 20005 = some (.loop r [(3, .ptr 1003 0 0), (7, .fn (.func 127) [] [.ptr 1002000007 0 0]), (8, .undef), (9, .undef)]) ∧ aget st.hp 1003 = some (.box 81 (.own 200300)) ∧ aget st.hp 0 = some (rBox q) ∧ aget st.hp 200300 = some (oRow out mv) ∧ st.sl = sl76 := by
  cases mv <;> refine ⟨_, by simp [afterCall, hpU, hp76o, at76, hpZ, backName, backMap, afterHeap, movedOf, killAll, zipIx, AObj.moved, AObj.isRow, AObj.ormv, sl76, oren_loop, rBox, oRow, ASt.killn]; rfl, ?_⟩ <;> exact ⟨rfl, rfl, rfl, rfl, rfl⟩
theorem out0 {hp : Heap} {v : AV} {q : List UInt8} (hv : Plain v) (h : aget hp 0 = some (rBox q)) : outOf [0] hp v = (v, hpR1 q) := by
  unfold outOf
  simp [hv.names, h, hpR1, rBox, hv.ren, onlyHeap, idMap]
/-- The end of a function that was handed a reader. -/
theorem endR {g : FuncId} {res : List ResultVar} {x : AX} {s : ASt} {vs : List AV} {q : List UInt8} (hx : x = .normal ∨ x = .ret) (hr : resL G s res = some vs) (hv : Plain (resOf vs)) (h : aget s.hp 0 = some (rBox q)) :
    endX G g [0] res (some (x, s)) = some (.ret (resOf vs), hpR1 q) := by
  have e : finishA G g [0] (resOf vs) s = (resOf vs, hpR1 q) := by
    unfold finishA
    split
    · exact out0 hv h
    · rw [hv.rows, hv.rv]; exact out0 hv h
  rcases hx with rfl | rfl <;> simp [endX, hr, e, retA]
theorem endRp {g : FuncId} {res : List ResultVar} {s : ASt} {v : AV} {q : List UInt8} (hv : Plain v) (h : aget s.hp 0 = some (rBox q)) :
    endX G g [0] res (some (.pan v, s)) = some (.pan v, hpR1 q) := by
  unfold endX
  simp only [hv.rows, hv.rv]
  have : outOf [0] (hfix [] s.hp) v = (v, hpR1 q) := out0 hv h
  simp only [this, panA]
theorem plain_odd : Plain oddR := ⟨fun _ => rfl, rfl, rfl, fun _ => rfl⟩
set_option maxHeartbeats 8000000 in
theorem text76 (s : List UInt8) (hb : s.length ≤ 900000) : Says 76 [] s ((textP s).map fun p => (.str p.1, p.2)) := by
  have hp := fun sl => pairs_call s sl
  simp only [hpZ, rBox] at hp
  obtain ⟨h1, h2⟩ := pairs127 s [] false (by simpa using hb)
  have hsl : ∀ r, AObj.loop r [(3, .ptr 1003 0 0), (7, .fn (.func 127) [] [.ptr 1002000007 0 0]), (8, .undef), (9, .undef)] = .loop r sl76 := fun _ => rfl
  cases ht : textP s with
  | none =>
    obtain ⟨s', out', r, mv', hc⟩ := h2 ht
    obtain ⟨st, a0, a1, a2, a3, a4, a5⟩ := after76 r s s' out' mv'
    have hB : callB G cl (some 30005) (.fn (.func 127) [] [.ptr 1002000007 0 0]) [.yld 20005] ⟨sl76, hp76o s⟩ = some (.pan oddR st, movedOf [20005, 1002000007, 1003, 0, 200300] (hpU r s' out' mv')) :=
      callB_of (pre := [.yld 20005, .ptr 1002000007 0 0]) (st1 := ⟨sl76, hp76o s⟩) (ns := [20005, 1002000007, 1003, 0, 200300]) (y := (.pan oddR, hpU r s' out' mv')) E127 (by decide) rfl rfl rfl rfl (by exact hc) a0
    have hs := rf_pan (f := 76) (g := .tmp 7) (ps := rec76.ps) (asg := rec76.assign) (body := rec76.body) (st := at76 s) (L := 20005) (d := 30005) (s := st) (v := oddR) (by kernel_rfl) (by kernel_rfl) rfl rok76 rfl (by exact hB)
    refine ⟨s', fn_intro Try.func76 rfl (by simp) (by decide) rfl ?_⟩
    simp [at76, sl76, hpZ, rBox, rcOf, rfsOf, Try.f76] at hs
    simp [Try.f76, hpR1, rBox, allocX, newObj, hp, hs]
    exact endRp plain_odd a3
  | some p =>
    obtain ⟨mv, hc⟩ := h1 _ _ ht
    obtain ⟨st, a0, a1, a2, a3, a4, a5⟩ := after76 rec76d s p.2 p.1 mv
    have hB : callB G cl (some 30005) (.fn (.func 127) [] [.ptr 1002000007 0 0]) [.yld 20005] ⟨sl76, hp76o s⟩ = some (.val (.tup []) st, movedOf [20005, 1002000007, 1003, 0, 200300] (hpU rec76d p.2 p.1 mv)) :=
      callB_of (pre := [.yld 20005, .ptr 1002000007 0 0]) (st1 := ⟨sl76, hp76o s⟩) (ns := [20005, 1002000007, 1003, 0, 200300]) (y := (.ret (.tup []), hpU rec76d p.2 p.1 mv)) E127 (by decide) rfl rfl rfl rfl (by exact hc) a0
    have hs := rf_of (f := 76) (g := .tmp 7) (ps := rec76.ps) (asg := rec76.assign) (body := rec76.body) (st := at76 s) (L := 20005) (d := 30005) (r := rec76d) (x := .exit 0) (s := st) (v := .tup []) (by kernel_rfl) (by kernel_rfl) rfl rok76 rfl (by exact hB) (by cases mv <;> kernel_rfl) a1 (by simp [rec76d, rcOf, rfsOf, Try.f76]) (by kernel_rfl)
    have b1 := aget_hput 20005 (.loop { rec76d with state := .exhausted } [(3, .ptr 1003 0 0), (7, .fn (.func 127) [] [.ptr 1002000007 0 0]), (8, .undef), (9, .undef)]) st.hp 1003
    have b2 := aget_hput 20005 (.loop { rec76d with state := .exhausted } [(3, .ptr 1003 0 0), (7, .fn (.func 127) [] [.ptr 1002000007 0 0]), (8, .undef), (9, .undef)]) st.hp 200300
    have b3 := aget_hput 20005 (.loop { rec76d with state := .exhausted } [(3, .ptr 1003 0 0), (7, .fn (.func 127) [] [.ptr 1002000007 0 0]), (8, .undef), (9, .undef)]) st.hp 0
    rw [if_neg (by decide)] at b1 b2 b3
    rw [a2] at b1
    rw [a4] at b2
    rw [a3] at b3
    generalize hput 20005 _ st.hp = H at hs b1 b2 b3
    rw [a5] at hs
    refine fn_intro Try.func76 rfl (by simp) (by decide) rfl ?_
    simp [at76, sl76, hpZ, rBox, rcOf, rfsOf, Try.f76] at hs
    simp only [oRow] at b2
    simp [Try.f76, hpR1, rBox, allocX, newObj, hp, hs, b1, b2, bytesOf_bysL]
    exact endR (vs := [.str p.1]) (.inr rfl) rfl plain_str b3
end Go.Proofs.Ytonaejfpiihfhaa

/- What the functions come to: numbers out of bytes. -/
namespace Go.Proofs.Ytonaejfpiihfhaa
open Go Abs
set_option linter.unusedSimpArgs false
set_option linter.unusedVariables false
def accU (n : Int) (b : UInt8) : Int := wOr .u64 (IntKind.u64.wrap (n * 256)) b.toNat
def readU (s : List UInt8) : Int := s.foldl accU 0
def st100 (s : List UInt8) (n : Int) (i : Nat) : ASt := ⟨[(0, .str s), (3, .int .u64 n), (6, .int .i64 s.length), (7, .int .i64 i)], []⟩
set_option maxHeartbeats 8000000 in
theorem round100 (s : List UInt8) (hs : s.length ≤ 1000000) (n : Int) (i : Nat) (b : UInt8) (hi : s[i]? = some b) :
    rX 100 (lc Try.f100 0) (codeX G cl lp 100 (lc Try.f100 0) (st100 s n i)) = some (.normal, st100 s (accU n b) (i + 1)) := by
  have hlt : i < s.length := (List.getElem?_eq_some_iff.1 hi).1
  have e : s[i] = b := (List.getElem?_eq_some_iff.1 hi).2
  have hw1 : IntKind.i64.wrap ((i : Int) + 1) = ((i + 1 : Nat) : Int) := by rw [i64_wrap (by omega) (by omega)]; omega
  have hx : indexv Try.prog 9 (.str s) (.int .i64 i) = some (.int .u8 b.toNat) := str_at hi
  have hb : IntKind.u64.wrap (b.toNat : Int) = b.toNat := by rw [u64w]; have := b.toNat_lt; omega
  simp [lc, loopsOf, Try.f100, st100, hlt, hw1, hx, hb, accU]
  rfl
theorem exit100 (s : List UInt8) (n : Int) : rX 100 (lc Try.f100 0) (codeX G cl lp 100 (lc Try.f100 0) (st100 s n s.length)) = some (.exit 0, ⟨(st100 s n s.length).sl ++ [(8, .bool false)], []⟩) := by
  simp [lc, loopsOf, Try.f100, st100]
theorem loop100 (s : List UInt8) (hs : s.length ≤ 1000000) : ∀ (c i : Nat), i + c = s.length → lp 100 (lc Try.f100 0) (st100 s ((s.take i).foldl accU 0) i) = some (.exit 0, ⟨(st100 s (readU s) s.length).sl ++ [(8, .bool false)], []⟩) := by
  intro c
  induction c with
  | zero =>
    intro i hi
    obtain rfl : i = s.length := by omega
    rw [List.take_of_length_le (Nat.le_refl _)]
    exact loop_out (exit100 s _) (by simp)
  | succ c ih =>
    intro i hi
    have hlt : i < s.length := by omega
    have hq : s[i]? = some s[i] := List.getElem?_eq_getElem hlt
    have h := round100 s hs ((s.take i).foldl accU 0) i _ hq
    have e : accU ((s.take i).foldl accU 0) s[i] = (s.take (i + 1)).foldl accU 0 := by rw [List.take_add_one, hq, List.foldl_append]; rfl
    rw [e] at h
    exact loop_next h (ih (i + 1) (by omega))
set_option maxHeartbeats 8000000 in
theorem readBig_eq (s : List UInt8) (hs : s.length ≤ 1000000) : cl 100 [.str s] [] = some (.ret (.int .u64 (readU s)), []) := by
  refine fn_intro Try.func100 rfl (by simp) (by decide) rfl ?_
  have h := loop100 s hs s.length 0 (by omega)
  simp [st100, lc, loopsOf, Try.f100] at h
  simp [Try.f100, h]
  exact end_is (.inr rfl) (by simp; rfl) rfl rfl
theorem readBig_call {d : Option Nat} {st : ASt} {s : List UInt8} (hs : s.length ≤ 1000000) : callV G cl d (.fn (.func 100) [] []) [.str s] st = some (.val (.int .u64 (readU s)) st) := callV_ret E100 (by decide) ext100 rfl rfl (readBig_eq s hs) rfl
end Go.Proofs.Ytonaejfpiihfhaa

/- What the functions come to: the reader's values. -/
namespace Go.Proofs.Ytonaejfpiihfhaa
open Go Abs
set_option linter.unusedSimpArgs false
set_option linter.unusedVariables false
attribute [local simp] canonK canonAll canonSlot canonCell canonBox ownStep restrictTo pureCells pureRows reachL AObj.names List.range_succ appendA
/-- The kids of a list. -/
def listP (val : List UInt8 → Option (List Nd × List UInt8)) : Nat → Nat → List Nd → List UInt8 → Option (Nat × List Nd × List UInt8)
  | 0, _, _, _ => none
  | _ + 1, _, _, [] => none
  | f + 1, c, l, b :: r => if b = 0 then some (c, l, r) else (val (b :: r)).bind fun p => listP val f (c + 1) (l ++ p.1) p.2
/-- The members of a map. -/
def mapP (val : List UInt8 → Option (List Nd × List UInt8)) : Nat → Nat → List UInt8 → List Nd → List UInt8 → Option (Nat × List Nd × List UInt8)
  | 0, _, _, _, _ => none
  | _ + 1, _, _, _, [] => none
  | f + 1, c, last, l, b :: r => if b = 0 then some (c, l, r) else if b = 1 then (textP r).bind fun k => if c = 0 ∨ ltB last k.1 = true then (val k.2).bind fun p => mapP val f (c + 1) k.1 (l ++ ⟨3, 0, k.1, 0⟩ :: p.1) p.2 else none else none
def numP (t : List UInt8) : Int := IntKind.i64.wrap (wXor .u64 (readU t) 9223372036854775808)
/-- The value that bytes begin with, and what is behind it. -/
def valP : Nat → List UInt8 → Option (List Nd × List UInt8)
  | 0, _ => none
  | _ + 1, [] => none
  | k + 1, b :: r =>
    if b = 1 then some ([⟨0, 0, [], 0⟩], r)
    else if b = 2 then (match r with | c :: q => if c ≤ 1 then some ([⟨1, c.toNat, [], 0⟩], q) else none | [] => none)
    else if b = 3 then (if 8 ≤ r.length then some ([⟨2, numP (r.take 8), [], 0⟩], r.drop 8) else none)
    else if b = 4 then (textP r).map fun p => ([⟨3, 0, p.1, 0⟩], p.2)
    else if b = 5 then (listP (valP k) (r.length + 1) 0 [] r).map fun p => (⟨4, 0, [], p.1⟩ :: p.2.1, p.2.2)
    else if b = 6 then (mapP (valP k) (r.length + 1) 0 [] [] r).map fun p => (⟨5, 0, [], p.1⟩ :: p.2.1, p.2.2)
    else none
theorem textP_len {s t q : List UInt8} (h : textP s = some (t, q)) : t.length + 2 + q.length ≤ s.length := by
  generalize hk : s.length = k
  induction k using Nat.strongRecOn generalizing s t q with
  | ind k ih =>
    match s, h with
    | [], h => simp [textP] at h
    | [a], h => simp [textP] at h
    | a :: b :: r, h =>
      rw [textP] at h
      simp only [List.length_cons] at hk
      split at h
      · split at h
        · cases h; simp; omega
        · split at h
          · obtain ⟨p, hp, e⟩ := Option.map_eq_some_iff.1 h
            cases e
            have := ih r.length (by omega) hp rfl
            simp; omega
          · cases h
      · obtain ⟨p, hp, e⟩ := Option.map_eq_some_iff.1 h
        cases e
        have := ih (b :: r).length (by simp; omega) hp rfl
        simp at this ⊢; omega
theorem listP_len {val : List UInt8 → Option (List Nd × List UInt8)} (hv : ∀ s v q, val s = some (v, q) → 0 < v.length ∧ v.length + q.length ≤ s.length) : ∀ {f c l s r}, listP val f c l s = some r → r.1 + l.length ≤ r.2.1.length + c ∧ r.2.1.length + r.2.2.length + 1 ≤ l.length + s.length ∧ c ≤ r.1 ∧ l.length ≤ r.2.1.length := by
  intro f
  induction f with
  | zero => intro c l s r h; cases h
  | succ f ih =>
    intro c l s r h
    cases s with
    | nil => cases h
    | cons b s =>
      simp only [listP] at h
      split at h
      · cases h; simp; omega
      · rw [Option.bind_eq_some_iff] at h
        obtain ⟨p, hp, h⟩ := h
        have h1 := hv _ _ _ hp
        have h2 := ih h
        simp at h1 h2 ⊢; omega
theorem mapP_len {val : List UInt8 → Option (List Nd × List UInt8)} (hv : ∀ s v q, val s = some (v, q) → 0 < v.length ∧ v.length + q.length ≤ s.length) : ∀ {f c k l s r}, mapP val f c k l s = some r → r.1 + l.length ≤ r.2.1.length + c ∧ r.2.1.length + r.2.2.length + 1 ≤ l.length + s.length ∧ c ≤ r.1 ∧ l.length ≤ r.2.1.length := by
  intro f
  induction f with
  | zero => intro c k l s r h; cases h
  | succ f ih =>
    intro c k l s r h
    cases s with
    | nil => cases h
    | cons b s =>
      simp only [mapP] at h
      split at h
      · cases h; simp; omega
      · split at h
        · rw [Option.bind_eq_some_iff] at h
          obtain ⟨t, ht, h⟩ := h
          split at h
          · rw [Option.bind_eq_some_iff] at h
            obtain ⟨p, hp, h⟩ := h
            have h0 := textP_len ht
            have h1 := hv _ _ _ hp
            have h2 := ih h
            simp at h1 h2 ⊢; omega
          · cases h
        · cases h
theorem valP_len : ∀ {k s v q}, valP k s = some (v, q) → 0 < v.length ∧ v.length + q.length ≤ s.length := by
  intro k
  induction k with
  | zero => intro s v q h; cases h
  | succ k ih =>
    intro s v q h
    cases s with
    | nil => cases h
    | cons b r =>
      simp only [valP] at h
      split at h
      · cases h; simp; omega
      split at h
      · split at h
        · split at h
          · cases h; simp; omega
          · cases h
        · cases h
      split at h
      · split at h
        · cases h; simp; omega
        · cases h
      split at h
      · obtain ⟨p, hp, e⟩ := Option.map_eq_some_iff.1 h
        cases e
        have := textP_len hp
        simp; omega
      split at h
      · obtain ⟨p, hp, e⟩ := Option.map_eq_some_iff.1 h
        cases e
        have := listP_len (fun s v q h => ih h) hp
        simp at this ⊢; omega
      split at h
      · obtain ⟨p, hp, e⟩ := Option.map_eq_some_iff.1 h
        cases e
        have := mapP_len (fun s v q h => ih h) hp
        simp at this ⊢; omega
      · cases h
def ndsO (p : List Nd × List UInt8) : AV × List UInt8 := (nds p.1, p.2)
def nRow (l : List Nd) (mv : Bool) : AObj := .row 4 (l.map Nd.v) false ⟨mv, 46⟩
def st70 (sl : Slots) (s : List UInt8) (n : Nd) (l : List Nd) (mv : Bool) : ASt := ⟨[(0, .ptr 0 0 0), (4, .ptr 1004 0 0), (5, .own 5005)] ++ sl, [(0, rBox s), (1004, .box 46 n.v), (5005, nRow l mv)]⟩
theorem plain_ndsx {l : List Nd} : Plain (nds l) := ⟨fun _ => rfl, rfl, rfl, fun _ => rfl⟩
theorem read_P1 {g : FuncId} {i : Nat} {d : Option Nat} {s s' : List UInt8} {rest : List AV} {sl : Slots} {hp : Heap} (hE : G.E g = true) (hg : g < RB) (hx : G.ext g = none) (hrest : ∀ x ∈ rest, Plain x)
    (h0 : aget hp i = some (rBox s)) (hc : cl g (.ptr 0 0 0 :: rest) (hpR1 s) = some (.pan oddR, hpR1 s')) :
    callV G cl d (.fn (.func g) [] []) (.ptr i 0 0 :: rest) ⟨sl, hp⟩ = some (.pan oddR ⟨sl, (i, rBox s') :: hp⟩) := by
  obtain ⟨p1, p2, p3, p4⟩ := plains (g := g) hrest
  refine callV_of (pre := .ptr i 0 0 :: rest) (st1 := ⟨sl, hp⟩) (ns := [i]) (y := (.pan oddR, hpR1 s')) (st3 := ⟨sl, (i, rBox s') :: hp⟩) hE hg hx ?_ ?_ ?_ ?_ ?_ ?_ ?_
  · simp [prepL, p1]
  · simp [prepRows, p2, ASt.fix, hfix]
  · simp [AV.namesL, p3, reachL, h0, rBox]
  · simp [h0]
  · simp [AV.renL, p4, subHeap, zipIx, toMap, h0, rBox, AObj.unmv]
    exact hc
  · simp [afterCall, afterHeap, zipIx, movedOf, killAll, backMap, backName, hpR1, rBox, AObj.moved, AObj.isRow, AObj.ormv, h0, ASt.killn]
  · simp [answered, oddR]
set_option maxHeartbeats 8000000 in
theorem lround_more (b : UInt8) (hb : b ≠ 0) (r q : List UInt8) (v : List Nd) (hv : Says 70 [] (b :: r) (some (nds v, q))) (c : Nat) (hc : c ≤ 1000000) (l : List Nd) (hl : l.length + v.length ≤ 1000000) (mv : Bool) :
    rX 70 (lc Try.f70 0) (codeX G cl lp 70 (lc Try.f70 0) (st70 [] (b :: r) ⟨4, 0, [], c⟩ l mv)) = some (.normal, st70 [] q ⟨4, 0, [], (c + 1 : Nat)⟩ (l ++ v) true) := by
  have hm := fun d sl hp (h0 : aget hp 0 = some (rBox (b :: r))) => read_V (d := d) (sl := sl) (g := 101) (rest := []) E101 (by decide) rfl (by simp) plain_bool h0 (by have := more_says (b :: r); simp only [moreP, if_neg hb] at this; exact this)
  have hv' := fun d sl hp (h0 : aget hp 0 = some (rBox (b :: r))) => read_V (d := d) (sl := sl) (g := 70) (rest := []) E70 (by decide) rfl (by simp) plain_ndsx h0 hv
  have hw1 : IntKind.i64.wrap ((c : Int) + 1) = ((c + 1 : Nat) : Int) := by rw [i64_wrap (by omega) (by omega)]; omega
  have hL : l.length + v.length ≤ LIM := by unfold LIM; omega
  simp only [rBox, nds] at hm hv'
  simp [lc, loopsOf, Try.f70, st70, rBox, nRow, hm, hv', Nd.v, hL, hw1]
  done
/-- What a reader's loop comes to. -/
def endsL (q : List UInt8) (n : Nd) (l : List Nd) (st : ASt) : Prop := ∃ mv sl, st.sl = [(0, .ptr 0 0 0), (4, .ptr 1004 0 0), (5, .own 5005)] ++ sl ∧ aget st.hp 0 = some (rBox q) ∧ aget st.hp 1004 = some (.box 46 n.v) ∧ aget st.hp 5005 = some (nRow l mv) ∧ aget st.hp 1096 = none
set_option maxHeartbeats 8000000 in
theorem lround_end (r : List UInt8) (n : Nd) (l : List Nd) (mv : Bool) : ∃ st, rX 70 (lc Try.f70 0) (codeX G cl lp 70 (lc Try.f70 0) (st70 [] (0 :: r) n l mv)) = some (.exit 1, st) ∧ endsL r n l st := by
  have hm := fun d sl hp (h0 : aget hp 0 = some (rBox (0 :: r))) => read_V (d := d) (sl := sl) (g := 101) (rest := []) E101 (by decide) rfl (by simp) plain_bool h0 (by have := more_says (0 :: r); simp only [moreP] at this; exact this)
  simp only [rBox] at hm
  refine ⟨?st, ?h1, ?h2⟩
  case h1 =>
    simp [lc, loopsOf, Try.f70, st70, rBox, nRow, hm]
    rfl
  case h2 => exact ⟨mv, _, rfl, rfl, rfl, rfl, rfl⟩
set_option maxHeartbeats 8000000 in
theorem lround_nil (n : Nd) (l : List Nd) (mv : Bool) : ∃ st s', rX 70 (lc Try.f70 0) (codeX G cl lp 70 (lc Try.f70 0) (st70 [] [] n l mv)) = some (.pan oddR, st) ∧ aget st.hp 0 = some (rBox s') := by
  obtain ⟨s', hm⟩ := read_P (i := 0) (d := some 52) (sl := [(51, .ptr 0 0 0), (0, .ptr 0 0 0), (4, .ptr 1004 0 0), (5, .own 5005)]) (hp := (st70 [] [] n l mv).hp) (g := 101) (rest := []) E101 (by decide) rfl (by simp) rfl (by have := more_says []; simpa [moreP] using this)
  simp only [rBox, st70, nRow] at hm
  refine ⟨?st, s', ?h1, ?h2⟩
  case h1 =>
    simp [lc, loopsOf, Try.f70, st70, rBox, nRow, hm]
    rfl
  case h2 => rfl
set_option maxHeartbeats 8000000 in
theorem lround_bad (b : UInt8) (hb : b ≠ 0) (r : List UInt8) (hv : Says 70 [] (b :: r) none) (n : Nd) (l : List Nd) (mv : Bool) :
    ∃ st s', rX 70 (lc Try.f70 0) (codeX G cl lp 70 (lc Try.f70 0) (st70 [] (b :: r) n l mv)) = some (.pan oddR, st) ∧ aget st.hp 0 = some (rBox s') := by
  have hm := fun d sl hp (h0 : aget hp 0 = some (rBox (b :: r))) => read_V (d := d) (sl := sl) (g := 101) (rest := []) E101 (by decide) rfl (by simp) plain_bool h0 (by have := more_says (b :: r); simp only [moreP, if_neg hb] at this; exact this)
  obtain ⟨s', hp⟩ := hv
  have hv' := fun d sl hp' (h0 : aget hp' 0 = some (rBox (b :: r))) => read_P1 (d := d) (sl := sl) (hp := hp') (i := 0) (g := 70) (rest := []) E70 (by decide) rfl (by simp) h0 hp
  simp only [rBox] at hm hv'
  refine ⟨?st, s', ?h1, ?h2⟩
  case h1 =>
    simp [lc, loopsOf, Try.f70, st70, rBox, nRow, hm, hv']
    rfl
  case h2 => rfl
theorem loopL {val : List UInt8 → Option (List Nd × List UInt8)} (hlen : ∀ s v q, val s = some (v, q) → 0 < v.length ∧ v.length + q.length ≤ s.length) : ∀ (f : Nat) (s : List UInt8) (c : Nat) (l : List Nd) (mv : Bool), s.length < f → c ≤ l.length → l.length + s.length ≤ 900000 →
    (∀ b r, (b :: r).length ≤ s.length → b ≠ 0 → Says 70 [] (b :: r) ((val (b :: r)).map ndsO)) →
    match listP val f c l s with
    | some p => ∃ st, lp 70 (lc Try.f70 0) (st70 [] s ⟨4, 0, [], c⟩ l mv) = some (.exit 1, st) ∧ endsL p.2.2 ⟨4, 0, [], p.1⟩ p.2.1 st
    | none => ∃ st s', lp 70 (lc Try.f70 0) (st70 [] s ⟨4, 0, [], c⟩ l mv) = some (.pan oddR, st) ∧ aget st.hp 0 = some (rBox s') := by
  intro f
  induction f with
  | zero => intro s c l mv h; omega
  | succ f ih =>
    intro s c l mv hf hc hb hval
    cases s with
    | nil =>
      obtain ⟨st, s', h1, h2⟩ := lround_nil ⟨4, 0, [], c⟩ l mv
      exact ⟨st, s', loop_out h1 (by simp), h2⟩
    | cons b r =>
      simp only [listP]
      by_cases h0 : b = 0
      · subst h0
        obtain ⟨st, h1, h2⟩ := lround_end r ⟨4, 0, [], c⟩ l mv
        exact ⟨st, loop_out h1 (by simp), h2⟩
      · rw [if_neg h0]
        have hs := hval b r (Nat.le_refl _) h0
        simp only [List.length_cons] at hf hb
        cases hv : val (b :: r) with
        | none =>
          rw [hv] at hs
          obtain ⟨st, s', h1, h2⟩ := lround_bad b h0 r hs ⟨4, 0, [], c⟩ l mv
          exact ⟨st, s', loop_out h1 (by simp), h2⟩
        | some p =>
          rw [hv] at hs
          obtain ⟨v, q⟩ := p
          obtain ⟨g1, g2⟩ := hlen _ _ _ hv
          simp only [List.length_cons] at g2
          have h1 := lround_more b h0 r q v hs c (by omega) l (by omega) mv
          have h2 := ih q (c + 1) (l ++ v) true (by omega) (by simp; omega) (by simp; omega) (fun b' r' hh hb' => hval b' r' (by simp only [List.length_cons] at hh ⊢; omega) hb')
          simp only [Option.bind_some]
          cases hl : listP val f (c + 1) (l ++ v) q with
          | none => rw [hl] at h2; obtain ⟨st, s', h3, h4⟩ := h2; exact ⟨st, s', loop_next h1 h3, h4⟩
          | some p => rw [hl] at h2; obtain ⟨st, h3, h4⟩ := h2; exact ⟨st, loop_next h1 h3, h4⟩
end Go.Proofs.Ytonaejfpiihfhaa

/- What the functions come to: the reader's maps. -/
namespace Go.Proofs.Ytonaejfpiihfhaa
open Go Abs
set_option linter.unusedSimpArgs false
set_option linter.unusedVariables false
attribute [local simp] canonK canonAll canonSlot canonCell canonBox ownStep restrictTo pureCells pureRows reachL AObj.names List.range_succ appendA
def st70m (last s : List UInt8) (n : Nd) (l : List Nd) (mv : Bool) : ASt := ⟨[(0, .ptr 0 0 0), (4, .ptr 1004 0 0), (5, .own 5005), (7, .str last)], [(0, rBox s), (1004, .box 46 n.v), (5005, nRow l mv)]⟩
theorem more_true {b : UInt8} (hb : b ≠ 0) {r : List UInt8} {d : Option Nat} {sl : Slots} {hp : Heap} (h0 : aget hp 0 = some (rBox (b :: r))) : callV G cl d (.fn (.func 101) [] []) [.ptr 0 0 0] ⟨sl, hp⟩ = some (.val (.bool true) ⟨sl, (0, rBox (b :: r)) :: hp⟩) :=
  read_V (g := 101) (rest := []) E101 (by decide) rfl (by simp) plain_bool h0 (by have := more_says (b :: r); simp only [moreP, if_neg hb] at this; exact this)
theorem text_some {s t q : List UInt8} (hb : s.length ≤ 900000) (h : textP s = some (t, q)) {d : Option Nat} {sl : Slots} {hp : Heap} (h0 : aget hp 0 = some (rBox s)) : callV G cl d (.fn (.func 76) [] []) [.ptr 0 0 0] ⟨sl, hp⟩ = some (.val (.str t) ⟨sl, (0, rBox q) :: hp⟩) :=
  read_V (g := 76) (rest := []) E76 (by decide) rfl (by simp) plain_str h0 (by have := text76 s hb; rw [h] at this; exact this)
theorem text_none {s : List UInt8} (hb : s.length ≤ 900000) (h : textP s = none) : ∃ s', cl 76 [.ptr 0 0 0] (hpR1 s) = some (.pan oddR, hpR1 s') := by
  have := text76 s hb; rw [h] at this; exact this
theorem value_some {s : List UInt8} {v : List Nd} {q : List UInt8} (hv : Says 70 [] s (some (nds v, q))) {d : Option Nat} {sl : Slots} {hp : Heap} (h0 : aget hp 0 = some (rBox s)) : callV G cl d (.fn (.func 70) [] []) [.ptr 0 0 0] ⟨sl, hp⟩ = some (.val (nds v) ⟨sl, (0, rBox q) :: hp⟩) :=
  read_V (g := 70) (rest := []) E70 (by decide) rfl (by simp) plain_ndsx h0 hv
set_option maxHeartbeats 8000000 in
theorem mround_go (r t q1 q : List UInt8) (hr : r.length ≤ 900000) (ht : textP r = some (t, q1)) (v : List Nd) (hv : Says 70 [] q1 (some (nds v, q))) (last : List UInt8) (c : Nat) (hc : c ≤ 1000000) (hk : c = 0 ∨ ltB last t = true) (l : List Nd) (hl : l.length + v.length + 1 ≤ 1000000) (mv : Bool) :
    rX 70 (lc Try.f70 1) (codeX G cl lp 70 (lc Try.f70 1) (st70m last (1 :: r) ⟨5, 0, [], c⟩ l mv)) = some (.normal, st70m t q ⟨5, 0, [], (c + 1 : Nat)⟩ (l ++ ⟨3, 0, t, 0⟩ :: v) true) := by
  have hm := fun d sl hp (h0 : aget hp 0 = some (rBox (1 :: r))) => more_true (by decide : (1 : UInt8) ≠ 0) (d := d) (sl := sl) h0
  have h75 := fun d sl hp (h0 : aget hp 0 = some (rBox (1 :: r))) => take_1 (d := d) (sl := sl) h0
  have ht' := fun d sl hp (h0 : aget hp 0 = some (rBox r)) => text_some hr ht (d := d) (sl := sl) h0
  have hv' := fun d sl hp (h0 : aget hp 0 = some (rBox q1)) => value_some hv (d := d) (sl := sl) h0
  have hn := fun d st => rneed_call_t (d := d) (st := st)
  have hx : indexv Try.prog 9 (.str [1]) (.int .i64 0) = some (.int .u8 1) := bytes_at0
  have hw1 : IntKind.i64.wrap ((c : Int) + 1) = ((c + 1 : Nat) : Int) := by rw [i64_wrap (by omega) (by omega)]; omega
  have hL1 : l.length + 1 ≤ LIM := by unfold LIM; omega
  have hL2 : l.length + 1 + v.length ≤ LIM := by unfold LIM; omega
  simp only [rBox, nds] at hm h75 ht' hv'
  rcases hk with rfl | hk
  · simp [lc, loopsOf, Try.f70, st70m, rBox, nRow, hm, h75, ht', hv', hn, hx, Nd.v, hL1, hL2, hw1]
    exact hw1
  · by_cases h0 : c = 0
    · subst h0
      simp [lc, loopsOf, Try.f70, st70m, rBox, nRow, hm, h75, ht', hv', hn, hx, Nd.v, hL1, hL2, hw1]
      exact hw1
    · have h0' : ¬ (c : Int) = 0 := by omega
      simp [lc, loopsOf, Try.f70, st70m, rBox, nRow, hm, h75, ht', hv', hn, hx, Nd.v, hL1, hL2, hw1, h0, h0', hk]
      done
set_option maxHeartbeats 8000000 in
theorem mround_end (r last : List UInt8) (n : Nd) (l : List Nd) (mv : Bool) : ∃ st, rX 70 (lc Try.f70 1) (codeX G cl lp 70 (lc Try.f70 1) (st70m last (0 :: r) n l mv)) = some (.exit 3, st) ∧ endsL r n l st := by
  have hm := fun d sl hp (h0 : aget hp 0 = some (rBox (0 :: r))) => read_V (d := d) (sl := sl) (g := 101) (rest := []) E101 (by decide) rfl (by simp) plain_bool h0 (by have := more_says (0 :: r); simp only [moreP] at this; exact this)
  simp only [rBox] at hm
  refine ⟨?st, ?h1, ?h2⟩
  case h1 =>
    simp [lc, loopsOf, Try.f70, st70m, rBox, nRow, hm]
    rfl
  case h2 => exact ⟨mv, _, rfl, rfl, rfl, rfl, rfl⟩
def panM (last s : List UInt8) (n : Nd) (l : List Nd) (mv : Bool) : Prop := ∃ st s', rX 70 (lc Try.f70 1) (codeX G cl lp 70 (lc Try.f70 1) (st70m last s n l mv)) = some (.pan oddR, st) ∧ aget st.hp 0 = some (rBox s')
set_option maxHeartbeats 8000000 in
theorem mround_nil (last : List UInt8) (n : Nd) (l : List Nd) (mv : Bool) : panM last [] n l mv := by
  have h : ∃ s', cl 101 [.ptr 0 0 0] (hpR1 []) = some (.pan oddR, hpR1 s') := by have := more_says []; simp only [moreP] at this; exact this
  obtain ⟨s', h⟩ := h
  have hm := fun d sl hp' (h0 : aget hp' 0 = some (rBox [])) => read_P1 (d := d) (sl := sl) (hp := hp') (i := 0) (g := 101) (rest := []) E101 (by decide) rfl (by simp) h0 h
  simp only [rBox] at hm
  refine ⟨?st, s', ?h1, ?h2⟩
  case h1 =>
    simp [lc, loopsOf, Try.f70, st70m, rBox, nRow, hm]
    rfl
  case h2 => rfl
set_option maxHeartbeats 8000000 in
theorem mround_odd (b : UInt8) (hb : b ≠ 0) (h1 : b ≠ 1) (r last : List UInt8) (n : Nd) (l : List Nd) (mv : Bool) : panM last (b :: r) n l mv := by
  have hm := fun d sl hp (h0 : aget hp 0 = some (rBox (b :: r))) => more_true hb (d := d) (sl := sl) h0
  have h75 := fun d sl hp (h0 : aget hp 0 = some (rBox (b :: r))) => take_1 (d := d) (sl := sl) h0
  have hf := fun d st => rneed_call_f (d := d) (st := st)
  have hx : indexv Try.prog 9 (.str [b]) (.int .i64 0) = some (.int .u8 b.toNat) := bytes_at0
  have hi : ¬ (b.toNat : Int) = 1 := by rw [show (1 : Int) = ((1 : Nat) : Int) from rfl, Int.natCast_inj, show b.toNat = 1 ↔ b = 1 by rw [← UInt8.toNat_inj]; rfl]; exact h1
  have hi2 : ¬ b.toNat = 1 := by rw [show b.toNat = 1 ↔ b = 1 by rw [← UInt8.toNat_inj]; rfl]; exact h1
  simp only [rBox] at hm h75
  refine ⟨?st, r, ?h1, ?h2⟩
  case h1 =>
    simp [lc, loopsOf, Try.f70, st70m, rBox, nRow, hm, h75, hf, hx, hi, hi2]
    rfl
  case h2 => rfl
set_option maxHeartbeats 8000000 in
theorem mround_text (r last : List UInt8) (hr : r.length ≤ 900000) (ht : textP r = none) (n : Nd) (l : List Nd) (mv : Bool) : panM last (1 :: r) n l mv := by
  have hm := fun d sl hp (h0 : aget hp 0 = some (rBox (1 :: r))) => more_true (by decide : (1 : UInt8) ≠ 0) (d := d) (sl := sl) h0
  have h75 := fun d sl hp (h0 : aget hp 0 = some (rBox (1 :: r))) => take_1 (d := d) (sl := sl) h0
  obtain ⟨s', ht⟩ := text_none hr ht
  have ht' := fun d sl hp' (h0 : aget hp' 0 = some (rBox r)) => read_P1 (d := d) (sl := sl) (hp := hp') (i := 0) (g := 76) (rest := []) E76 (by decide) rfl (by simp) h0 ht
  have hn := fun d st => rneed_call_t (d := d) (st := st)
  have hx : indexv Try.prog 9 (.str [1]) (.int .i64 0) = some (.int .u8 1) := bytes_at0
  simp only [rBox] at hm h75 ht'
  refine ⟨?st, s', ?h1, ?h2⟩
  case h1 =>
    simp [lc, loopsOf, Try.f70, st70m, rBox, nRow, hm, h75, ht', hn, hx]
    rfl
  case h2 => rfl
set_option maxHeartbeats 8000000 in
theorem mround_key (r t q1 last : List UInt8) (hr : r.length ≤ 900000) (ht : textP r = some (t, q1)) (n : Nd) (h0 : n.kids ≠ 0) (hk : ltB last t = false) (l : List Nd) (mv : Bool) : panM last (1 :: r) n l mv := by
  have hm := fun d sl hp (h0 : aget hp 0 = some (rBox (1 :: r))) => more_true (by decide : (1 : UInt8) ≠ 0) (d := d) (sl := sl) h0
  have h75 := fun d sl hp (h0 : aget hp 0 = some (rBox (1 :: r))) => take_1 (d := d) (sl := sl) h0
  have ht' := fun d sl hp (h0 : aget hp 0 = some (rBox r)) => text_some hr ht (d := d) (sl := sl) h0
  have hn := fun d st => rneed_call_t (d := d) (st := st)
  have hf := fun d st => rneed_call_f (d := d) (st := st)
  have hx : indexv Try.prog 9 (.str [1]) (.int .i64 0) = some (.int .u8 1) := bytes_at0
  simp only [rBox] at hm h75 ht'
  refine ⟨?st, q1, ?h1, ?h2⟩
  case h1 =>
    simp [lc, loopsOf, Try.f70, st70m, rBox, nRow, hm, h75, ht', hn, hf, hx, Nd.v, h0, hk]
    rfl
  case h2 => rfl
set_option maxHeartbeats 8000000 in
theorem mround_val (r t q1 last : List UInt8) (hr : r.length ≤ 900000) (ht : textP r = some (t, q1)) (hv : Says 70 [] q1 none) (n : Nd) (hk : n.kids = 0 ∨ ltB last t = true) (l : List Nd) (hl : l.length + 1 ≤ 1000000) (mv : Bool) : panM last (1 :: r) n l mv := by
  have hm := fun d sl hp (h0 : aget hp 0 = some (rBox (1 :: r))) => more_true (by decide : (1 : UInt8) ≠ 0) (d := d) (sl := sl) h0
  have h75 := fun d sl hp (h0 : aget hp 0 = some (rBox (1 :: r))) => take_1 (d := d) (sl := sl) h0
  have ht' := fun d sl hp (h0 : aget hp 0 = some (rBox r)) => text_some hr ht (d := d) (sl := sl) h0
  obtain ⟨s', hv⟩ := hv
  have hv' := fun d sl hp' (h0 : aget hp' 0 = some (rBox q1)) => read_P1 (d := d) (sl := sl) (hp := hp') (i := 0) (g := 70) (rest := []) E70 (by decide) rfl (by simp) h0 hv
  have hn := fun d st => rneed_call_t (d := d) (st := st)
  have hx : indexv Try.prog 9 (.str [1]) (.int .i64 0) = some (.int .u8 1) := bytes_at0
  have hL1 : l.length + 1 ≤ LIM := by unfold LIM; omega
  simp only [rBox] at hm h75 ht' hv'
  by_cases h0 : n.kids = 0
  · refine ⟨?st, s', ?h1, ?h2⟩
    case h1 =>
      simp [lc, loopsOf, Try.f70, st70m, rBox, nRow, hm, h75, ht', hv', hn, hx, Nd.v, h0, hL1]
      rfl
    case h2 => rfl
  · refine ⟨?st', s', ?h3, ?h4⟩
    case h3 =>
      simp [lc, loopsOf, Try.f70, st70m, rBox, nRow, hm, h75, ht', hv', hn, hx, Nd.v, h0, hk.resolve_left h0, hL1]
      rfl
    case h4 => rfl
theorem loopM {val : List UInt8 → Option (List Nd × List UInt8)} (hlen : ∀ s v q, val s = some (v, q) → 0 < v.length ∧ v.length + q.length ≤ s.length) : ∀ (f : Nat) (s last : List UInt8) (c : Nat) (l : List Nd) (mv : Bool), s.length < f → c ≤ l.length → l.length + s.length ≤ 900000 →
    (∀ r, r.length < s.length → Says 70 [] r ((val r).map ndsO)) →
    match mapP val f c last l s with
    | some p => ∃ st, lp 70 (lc Try.f70 1) (st70m last s ⟨5, 0, [], c⟩ l mv) = some (.exit 3, st) ∧ endsL p.2.2 ⟨5, 0, [], p.1⟩ p.2.1 st
    | none => ∃ st s', lp 70 (lc Try.f70 1) (st70m last s ⟨5, 0, [], c⟩ l mv) = some (.pan oddR, st) ∧ aget st.hp 0 = some (rBox s') := by
  intro f
  induction f with
  | zero => intro s last c l mv h; omega
  | succ f ih =>
    intro s last c l mv hf hc hb hval
    cases s with
    | nil =>
      obtain ⟨st, s', h1, h2⟩ := mround_nil last ⟨5, 0, [], c⟩ l mv
      exact ⟨st, s', loop_out h1 (by simp), h2⟩
    | cons b r =>
      simp only [mapP]
      simp only [List.length_cons] at hf hb
      by_cases h0 : b = 0
      · subst h0
        obtain ⟨st, h1, h2⟩ := mround_end r last ⟨5, 0, [], c⟩ l mv
        exact ⟨st, loop_out h1 (by simp), h2⟩
      · rw [if_neg h0]
        by_cases hb1 : b = 1
        · subst hb1
          rw [if_pos rfl]
          cases ht : textP r with
          | none =>
            obtain ⟨st, s', h1, h2⟩ := mround_text r last (by omega) ht ⟨5, 0, [], c⟩ l mv
            exact ⟨st, s', loop_out h1 (by simp), h2⟩
          | some p =>
            obtain ⟨t, q1⟩ := p
            have hq1 := textP_len ht
            simp only [Option.bind_some]
            by_cases hk : c = 0 ∨ ltB last t = true
            · rw [if_pos hk]
              have hs := hval q1 (by simp; omega)
              cases hv : val q1 with
              | none =>
                rw [hv] at hs
                obtain ⟨st, s', h1, h2⟩ := mround_val r t q1 last (by omega) ht hs ⟨5, 0, [], c⟩ (by simpa using hk) l (by omega) mv
                exact ⟨st, s', loop_out h1 (by simp), h2⟩
              | some p =>
                rw [hv] at hs
                obtain ⟨v, q⟩ := p
                obtain ⟨g1, g2⟩ := hlen _ _ _ hv
                have h1 := mround_go r t q1 q (by omega) ht v hs last c (by omega) hk l (by omega) mv
                have h2 := ih q t (c + 1) (l ++ ⟨3, 0, t, 0⟩ :: v) true (by omega) (by simp; omega) (by simp; omega) (fun r' hh => hval r' (by simp; omega))
                simp only [Option.bind_some]
                cases hl : mapP val f (c + 1) t (l ++ ⟨3, 0, t, 0⟩ :: v) q with
                | none => rw [hl] at h2; obtain ⟨st, s', h3, h4⟩ := h2; exact ⟨st, s', loop_next h1 h3, h4⟩
                | some p => rw [hl] at h2; obtain ⟨st, h3, h4⟩ := h2; exact ⟨st, loop_next h1 h3, h4⟩
            · rw [if_neg hk]
              obtain ⟨st, s', h1, h2⟩ := mround_key r t q1 last (by omega) ht ⟨5, 0, [], c⟩ (by simp; omega) (by simp at hk; exact hk.2) l mv
              exact ⟨st, s', loop_out h1 (by simp), h2⟩
        · rw [if_neg hb1]
          obtain ⟨st, s', h1, h2⟩ := mround_odd b h0 hb1 r last ⟨5, 0, [], c⟩ l mv
          exact ⟨st, s', loop_out h1 (by simp), h2⟩
end Go.Proofs.Ytonaejfpiihfhaa

/- What the functions come to: the value that bytes are. -/
namespace Go.Proofs.Ytonaejfpiihfhaa
open Go Abs
set_option linter.unusedSimpArgs false
set_option linter.unusedVariables false
attribute [local simp] canonK canonAll canonSlot canonCell canonBox ownStep restrictTo pureCells pureRows reachL AObj.names List.range_succ appendA
theorem hmod_box {n k : Nat} {t : TypeId} {v : AV} : ∀ {hp : Heap}, aget hp k = some (.box t v) → aget (hmod AObj.fix n hp) k = some (.box t v)
  | [], h => by cases h
  | (a, o) :: r, h => by
    simp only [aget] at h
    simp only [hmod]
    split at h
    · rename_i e
      cases h
      split <;> simp [aget, e, AObj.fix]
    · rename_i e
      split
      · simp only [aget, if_neg e]; exact hmod_box h
      · simp only [aget, if_neg e]; exact hmod_box h
theorem hfix_box {k : Nat} {t : TypeId} {v : AV} (ns : List Nat) : ∀ {hp : Heap}, aget hp k = some (.box t v) → aget (hfix ns hp) k = some (.box t v) := by
  induction ns with
  | nil => intro hp h; exact h
  | cons n ns ih => intro hp h; exact ih (hmod_box h)
theorem endRv {g : FuncId} {res : List ResultVar} {x : AX} {s : ASt} {vs : List AV} {v : AV} {q : List UInt8} (hx : x = .normal ∨ x = .ret) (hr : resL G s res = some vs) (ho : G.retOwn g = false) (hv : (resOf vs).rv s.hp = v) (hp : Plain v) (h : aget s.hp 0 = some (rBox q)) :
    endX G g [0] res (some (x, s)) = some (.ret v, hpR1 q) := by
  have e : finishA G g [0] (resOf vs) s = (v, hpR1 q) := by
    unfold finishA
    simp only [ho, Bool.false_eq_true, if_false, hv]
    exact out0 hp (hfix_box _ h)
  rcases hx with rfl | rfl <;> simp [endX, hr, e, retA]
theorem hfar {n k : Nat} {o : AObj} {hp : Heap} (h : k ≠ n) : aget (hmod (fun _ => o) n hp) k = aget hp k := by
  have := aget_hput n o hp k
  rw [if_neg h] at this; exact this
set_option maxHeartbeats 16000000 in
theorem value70_step (s : List UInt8) (hb : s.length ≤ 800000) (k : Nat) (hval : ∀ r, r.length < s.length → Says 70 [] r ((valP k r).map ndsO)) : Says 70 [] s ((valP (k + 1) s).map ndsO) := by
  have hn := fun d st => rneed_call_t (d := d) (st := st)
  have hf := fun d st => rneed_call_f (d := d) (st := st)
  cases s with
  | nil =>
    have h : ∃ s', cl 75 [.ptr 0 0 0, .int .i64 1] (hpR1 []) = some (.pan oddR, hpR1 s') := by have := take_says 1 []; simp only [takeP, List.length_nil] at this; exact this
    obtain ⟨s', h⟩ := h
    have hm := fun d sl hp' (h0 : aget hp' 0 = some (rBox [])) => read_P1 (d := d) (sl := sl) (hp := hp') (i := 0) (g := 75) (rest := [.int .i64 1]) E75 (by decide) rfl (by simpa using plain_int) h0 h
    simp only [rBox] at hm
    refine ⟨s', fn_intro Try.func70 rfl (by simp) (by decide) rfl ?_⟩
    simp [Try.f70, hpR1, rBox, hm]
    exact endRp plain_odd rfl
  | cons b r =>
    have h75 := fun d sl hp (h0 : aget hp 0 = some (rBox (b :: r))) => take_1 (d := d) (sl := sl) h0
    have hx : indexv Try.prog 9 (.str [b]) (.int .i64 0) = some (.int .u8 b.toNat) := bytes_at0
    have hw : ∀ x : Int, 0 ≤ x → x ≤ 5 → IntKind.i64.wrap (IntKind.u8.wrap x) = x := fun x h1 h2 => by rw [u8w, i64_wrap (by omega) (by omega)]; omega
    have w0 := hw 0 (by decide) (by decide)
    have w1 := hw 1 (by decide) (by decide)
    have w2 := hw 2 (by decide) (by decide)
    have w3 := hw 3 (by decide) (by decide)
    have w4 := hw 4 (by decide) (by decide)
    have w5 := hw 5 (by decide) (by decide)
    have hL : 1 ≤ LIM := by decide
    simp only [rBox] at h75
    simp only [valP]
    simp only [List.length_cons] at hb hval
    by_cases h1 : b = 1
    · subst h1
      refine fn_intro Try.func70 rfl (by simp) (by decide) rfl ?_
      simp [Try.f70, hpR1, rBox, h75, hn, hx, w0]
      exact endRv (v := nds [⟨0, 0, [], 0⟩]) (.inr rfl) (by rfl) rfl (by simp; rfl) plain_ndsx rfl
    rw [if_neg h1]
    by_cases h2 : b = 2
    · subst h2
      rw [if_pos rfl]
      cases r with
      | nil =>
        have h : ∃ s', cl 75 [.ptr 0 0 0, .int .i64 1] (hpR1 []) = some (.pan oddR, hpR1 s') := by have := take_says 1 []; simp only [takeP, List.length_nil] at this; exact this
        obtain ⟨s', h⟩ := h
        have hm := fun d sl hp' (h0 : aget hp' 0 = some (rBox [])) => read_P1 (d := d) (sl := sl) (hp := hp') (i := 0) (g := 75) (rest := [.int .i64 1]) E75 (by decide) rfl (by simpa using plain_int) h0 h
        simp only [rBox] at hm
        refine ⟨s', fn_intro Try.func70 rfl (by simp) (by decide) rfl ?_⟩
        simp [Try.f70, hpR1, rBox, h75, hn, hx, w1, hm]
        exact endRp plain_odd rfl
      | cons c q =>
        have h752 := fun d sl hp (h0 : aget hp 0 = some (rBox (c :: q))) => take_1 (d := d) (sl := sl) h0
        have hx2 : indexv Try.prog 9 (.str [c]) (.int .i64 0) = some (.int .u8 c.toNat) := bytes_at0
        have hle : (c ≤ 1) ↔ c.toNat ≤ 1 := by rw [UInt8.le_iff_toNat_le]; rfl
        have hwc : IntKind.i64.wrap (c.toNat : Int) = c.toNat := i64_wrap (by omega) (by have := c.toNat_lt; omega)
        simp only [rBox] at h752
        by_cases hc : c ≤ 1
        · have hc' : (c.toNat : Int) ≤ 1 := by have := hle.1 hc; omega
          simp only [hc, if_true]
          refine fn_intro Try.func70 rfl (by simp) (by decide) rfl ?_
          simp [Try.f70, hpR1, rBox, h75, h752, hn, hx, hx2, w1, hc', hwc, hle.1 hc]
          exact endRv (v := nds [⟨1, c.toNat, [], 0⟩]) (.inr rfl) (by rfl) rfl (by simp; rfl) plain_ndsx rfl
        · have hc'' : ¬ c.toNat ≤ 1 := fun h => hc (hle.2 h)
          have hc' : ¬ (c.toNat : Int) ≤ 1 := by omega
          simp only [hc, if_false]
          refine ⟨q, fn_intro Try.func70 rfl (by simp) (by decide) rfl ?_⟩
          simp [Try.f70, hpR1, rBox, h75, h752, hn, hf, hx, hx2, w1, hc', hc'']
          exact endRp plain_odd rfl
    rw [if_neg h2]
    by_cases h3 : b = 3
    · subst h3
      rw [if_pos rfl]
      have ht := take_says 8 r
      by_cases h8 : 8 ≤ r.length
      · rw [if_pos h8]
        simp only [takeP, if_pos h8] at ht
        have h8' := fun d sl hp (h0 : aget hp 0 = some (rBox r)) => read_V (d := d) (sl := sl) (g := 75) (rest := [.int .i64 8]) E75 (by decide) rfl (by simpa using plain_int) (plain_str (s := r.take 8)) h0 ht
        have hrb := fun d st => readBig_call (d := d) (st := st) (s := r.take 8) (by simp; omega)
        simp only [rBox] at h8'
        refine fn_intro Try.func70 rfl (by simp) (by decide) rfl ?_
        simp [Try.f70, hpR1, rBox, h75, h8', hrb, hn, hx, w2]
        exact endRv (v := nds [⟨2, numP (r.take 8), [], 0⟩]) (.inr rfl) (by rfl) rfl (by simp; rfl) plain_ndsx rfl
      · rw [if_neg h8]
        simp only [takeP, if_neg h8] at ht
        obtain ⟨s', ht⟩ := ht
        have hm := fun d sl hp' (h0 : aget hp' 0 = some (rBox r)) => read_P1 (d := d) (sl := sl) (hp := hp') (i := 0) (g := 75) (rest := [.int .i64 8]) E75 (by decide) rfl (by simpa using plain_int) h0 ht
        simp only [rBox] at hm
        refine ⟨s', fn_intro Try.func70 rfl (by simp) (by decide) rfl ?_⟩
        simp [Try.f70, hpR1, rBox, h75, hn, hx, w2, hm]
        exact endRp plain_odd rfl
    rw [if_neg h3]
    by_cases h4 : b = 4
    · subst h4
      rw [if_pos rfl]
      cases ht : textP r with
      | none =>
        obtain ⟨s', ht⟩ := text_none (by omega) ht
        have hm := fun d sl hp' (h0 : aget hp' 0 = some (rBox r)) => read_P1 (d := d) (sl := sl) (hp := hp') (i := 0) (g := 76) (rest := []) E76 (by decide) rfl (by simp) h0 ht
        simp only [rBox] at hm
        refine ⟨s', fn_intro Try.func70 rfl (by simp) (by decide) rfl ?_⟩
        simp [Try.f70, hpR1, rBox, h75, hn, hx, w3, hm]
        exact endRp plain_odd rfl
      | some p =>
        obtain ⟨t, q⟩ := p
        have hm := fun d sl hp (h0 : aget hp 0 = some (rBox r)) => text_some (by omega) ht (d := d) (sl := sl) h0
        simp only [rBox] at hm
        refine fn_intro Try.func70 rfl (by simp) (by decide) rfl ?_
        simp [Try.f70, hpR1, rBox, h75, hn, hx, w3, hm]
        exact endRv (v := nds [⟨3, 0, t, 0⟩]) (.inr rfl) (by rfl) rfl (by simp; rfl) plain_ndsx rfl
    rw [if_neg h4]
    by_cases h5 : b = 5
    · subst h5
      rw [if_pos rfl]
      have hl := loopL (val := valP k) (fun s v q h => valP_len h) (r.length + 1) r 0 [] false (by omega) (by simp) (by simp; omega) (fun b' r' h _ => hval _ (by omega))
      cases hp : listP (valP k) (r.length + 1) 0 [] r with
      | none =>
        rw [hp] at hl
        obtain ⟨st, s', h1, h2⟩ := hl
        simp [st70, lc, loopsOf, Try.f70, rBox, nRow, Nd.v] at h1
        refine ⟨s', fn_intro Try.func70 rfl (by simp) (by decide) rfl ?_⟩
        simp [Try.f70, hpR1, rBox, h75, hn, hx, w4, h1]
        exact endRp plain_odd h2
      | some p =>
        rw [hp] at hl
        have hlen := listP_len (fun s v q h => valP_len h) hp
        obtain ⟨st, h1, mv, sl, g1, g2, g3, g4, g5⟩ := hl
        simp [st70, lc, loopsOf, Try.f70, rBox, nRow, Nd.v] at h1
        refine fn_intro Try.func70 rfl (by simp) (by decide) rfl ?_
        obtain ⟨ssl, shp⟩ := st
        simp only at g1 g2 g3 g4 g5
        subst g1
        have hL2 : 1 + p.2.1.length ≤ LIM := by unfold LIM; simp at hlen; omega
        simp only [nRow] at g4
        simp [Try.f70, hpR1, rBox, h75, hn, hx, w4, h1, g3, g4, g5, Nd.v, hL2]
        exact endRv (v := nds (⟨4, 0, [], p.1⟩ :: p.2.1)) (.inr rfl) (by rfl) rfl (by simp; rfl) plain_ndsx (by simp; rw [hfar (by decide), aget_mapv, g2]; rfl)
    rw [if_neg h5]
    by_cases h6 : b = 6
    · subst h6
      rw [if_pos rfl]
      have hl := loopM (val := valP k) (fun s v q h => valP_len h) (r.length + 1) r [] 0 [] false (by omega) (by simp) (by simp; omega) (fun r' h => hval _ (by omega))
      cases hp : mapP (valP k) (r.length + 1) 0 [] [] r with
      | none =>
        rw [hp] at hl
        obtain ⟨st, s', h1, h2⟩ := hl
        simp [st70m, lc, loopsOf, Try.f70, rBox, nRow, Nd.v] at h1
        refine ⟨s', fn_intro Try.func70 rfl (by simp) (by decide) rfl ?_⟩
        simp [Try.f70, hpR1, rBox, h75, hn, hx, w5, h1]
        exact endRp plain_odd h2
      | some p =>
        rw [hp] at hl
        have hlen := mapP_len (fun s v q h => valP_len h) hp
        obtain ⟨st, h1, mv, sl, g1, g2, g3, g4, g5⟩ := hl
        simp [st70m, lc, loopsOf, Try.f70, rBox, nRow, Nd.v] at h1
        refine fn_intro Try.func70 rfl (by simp) (by decide) rfl ?_
        obtain ⟨ssl, shp⟩ := st
        simp only at g1 g2 g3 g4 g5
        subst g1
        have hL2 : 1 + p.2.1.length ≤ LIM := by unfold LIM; simp at hlen; omega
        simp only [nRow] at g4
        simp [Try.f70, hpR1, rBox, h75, hn, hx, w5, h1, g3, g4, g5, Nd.v, hL2]
        exact endRv (v := nds (⟨5, 0, [], p.1⟩ :: p.2.1)) (.inr rfl) (by rfl) rfl (by simp; rfl) plain_ndsx (by simp; rw [hfar (by decide), aget_mapv, g2]; rfl)
    rw [if_neg h6]
    have hcases : b.toNat = 0 ∨ 7 ≤ b.toNat := by
      have e : ∀ m : Nat, m < 256 → b.toNat = m → b = UInt8.ofNat m := fun m hm h => by rw [← h]; simp
      by_cases h0 : b.toNat = 0
      · exact .inl h0
      · right
        apply Classical.byContradiction
        intro h7
        have : b.toNat = 1 ∨ b.toNat = 2 ∨ b.toNat = 3 ∨ b.toNat = 4 ∨ b.toNat = 5 ∨ b.toNat = 6 := by omega
        rcases this with h | h | h | h | h | h
        · exact h1 (e 1 (by decide) h)
        · exact h2 (e 2 (by decide) h)
        · exact h3 (e 3 (by decide) h)
        · exact h4 (e 4 (by decide) h)
        · exact h5 (e 5 (by decide) h)
        · exact h6 (e 6 (by decide) h)
    refine ⟨r, fn_intro Try.func70 rfl (by simp) (by decide) rfl ?_⟩
    rcases hcases with h0 | h7
    · have h0' : ¬ (1 : Int) ≤ (b.toNat : Int) := by omega
      have h0'' : ¬ 1 ≤ b.toNat := by omega
      simp [Try.f70, hpR1, rBox, h75, hn, hf, hx, h0]
      exact endRp plain_odd rfl
    · have h0' : (1 : Int) ≤ (b.toNat : Int) := by omega
      have h0'' : 1 ≤ b.toNat := by omega
      have h7' : ¬ (b.toNat : Int) ≤ 6 := by omega
      have h7'' : ¬ b.toNat ≤ 6 := by omega
      simp [Try.f70, hpR1, rBox, h75, hn, hf, hx, h0', h0'', h7', h7'']
      exact endRp plain_odd rfl
theorem value70 : ∀ (k : Nat) (s : List UInt8), s.length < k → s.length ≤ 800000 → Says 70 [] s ((valP k s).map ndsO) := by
  intro k
  induction k with
  | zero => intro s h; omega
  | succ k ih => intro s h hb; exact value70_step s hb k (fun r hr => ih r (by omega) (by omega))
end Go.Proofs.Ytonaejfpiihfhaa

/- Numbers out of bytes, plainly. -/
namespace Go.Proofs.Ytonaejfpiihfhaa
open Go Abs
set_option linter.unusedSimpArgs false
set_option linter.unusedVariables false
attribute [local simp] canonK canonAll canonSlot canonCell canonBox ownStep restrictTo pureCells pureRows reachL AObj.names List.range_succ appendA
def accR (n : Int) (b : UInt8) : Int := IntKind.u64.wrap (IntKind.u64.wrap (n * 256) + b.toNat)
def rdU (s : List UInt8) : Int := s.foldl accR 0
/-! The two ways of reading a number are one. -/
theorem or_low (x b : Nat) (hb : b < 256) : (x * 256) ||| b = x * 256 + b := by
  have := Nat.two_pow_add_eq_or_of_lt (i := 8) (a := x) (b := b) (by omega)
  rw [Nat.mul_comm x 256]
  exact this.symm
theorem or_bits (x b : Nat) (hx : x * 256 < 18446744073709551616) (hb : b < 256) : (BitVec.ofInt 64 ((x * 256 : Nat) : Int) ||| BitVec.ofInt 64 (b : Int)).toNat = x * 256 + b := by
  have e1 : (BitVec.ofInt 64 ((x * 256 : Nat) : Int)).toNat = x * 256 := by
    rw [BitVec.ofInt_natCast, BitVec.toNat_ofNat]
    exact Nat.mod_eq_of_lt hx
  have e2 : (BitVec.ofInt 64 (b : Int)).toNat = b := by
    rw [BitVec.ofInt_natCast, BitVec.toNat_ofNat]
    exact Nat.mod_eq_of_lt (by omega)
  rw [BitVec.toNat_or, e1, e2]
  exact or_low x b hb
theorem accU_accR (n : Int) (b : UInt8) : accU n b = accR n b := by
  have hb := b.toNat_lt
  unfold accU accR wOr
  have hr := u64w (n * 256)
  generalize IntKind.u64.wrap (n * 256) = m at hr
  obtain ⟨x, hx, rfl⟩ : ∃ x : Nat, x * 256 < 18446744073709551616 ∧ m = ((x * 256 : Nat) : Int) := ⟨(m / 256).toNat, by omega, by omega⟩
  have := or_bits x b.toNat hx (by omega)
  have e : ((BitVec.ofInt IntKind.u64.bits ((x * 256 : Nat) : Int) ||| BitVec.ofInt IntKind.u64.bits (b.toNat : Int)).toNat : Int) = ((x * 256 : Nat) : Int) + b.toNat := by
    show ((BitVec.ofInt 64 ((x * 256 : Nat) : Int) ||| BitVec.ofInt 64 (b.toNat : Int)).toNat : Int) = _
    rw [this]; rfl
  rw [e]
theorem readU_rdU (s : List UInt8) : readU s = rdU s := by
  unfold readU rdU
  have : accU = accR := by funext n b; exact accU_accR n b
  rw [this]
theorem rdU_range (s : List UInt8) : 0 ≤ rdU s ∧ rdU s < 18446744073709551616 := by
  unfold rdU
  have : ∀ (l : List UInt8) (n : Int), 0 ≤ n ∧ n < 18446744073709551616 → 0 ≤ l.foldl accR n ∧ l.foldl accR n < 18446744073709551616 := by
    intro l
    induction l with
    | nil => intro n h; exact h
    | cons b l ih => intro n h; exact ih _ (by unfold accR; rw [u64w]; omega)
  exact this s 0 (by omega)
theorem numP_rd (t : List UInt8) : numP t = IntKind.i64.wrap (IntKind.u64.wrap (rdU t - 9223372036854775808)) := by
  unfold numP
  rw [readU_rdU, xor_sign _ (rdU_range t).1 (rdU_range t).2, u64w, u64w]
  congr 1
  omega
end Go.Proofs.Ytonaejfpiihfhaa
