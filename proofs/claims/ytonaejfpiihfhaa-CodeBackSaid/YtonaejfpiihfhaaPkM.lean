/- What the functions come to: the writer's bytes. What the functions come to: numbers as bytes. What the functions come to: the writer's plain values. What the functions come to: the writer's lists and maps. What the functions come to: the writer's values. What the functions come to: code.Put, code.Join. -/
import Derived.Test.YtonaejfpiihfhaaPkH

/- What the functions come to: the writer's bytes. -/
namespace Go.Proofs.Ytonaejfpiihfhaa
open Go Abs
set_option linter.unusedSimpArgs false
set_option linter.unusedVariables false

def bysL (l : List UInt8) : List AV := l.map bV
@[simp] theorem bysL_length {l : List UInt8} : (bysL l).length = l.length := by simp [bysL]
theorem bysL_snoc {l : List UInt8} {b : UInt8} : bysL (l ++ [b]) = bysL l ++ [.int .u8 b.toNat] := by simp [bysL, bV]
/-- The nodes that a writer has, if any. -/
def ndo : Option (List Nd) → AV
  | some l => nds l
  | none => .nils
@[simp] theorem ndo_rv {hp o} : (ndo o).rv hp = ndo o := by cases o <;> rfl
@[simp] theorem ndo_names {o} : (ndo o).names = [] := by cases o <;> rfl
@[simp] theorem ndo_rows {o} : (ndo o).rows = [] := by cases o <;> rfl
@[simp] theorem ndo_cells {o} : (ndo o).cells = [ndo o] := by cases o <;> rfl
@[simp] theorem ndo_okc {o} : okCell (ndo o) = true := by cases o <;> rfl
@[simp] theorem ndo_kno {o} : (ndo o).known = true := by cases o <;> rfl
@[simp] theorem ndo_isA {o} : (ndo o).isA = false := by cases o <;> rfl
@[simp] theorem ndo_pur {o} : (ndo o).pureB = true := by cases o; rfl; exact nds_pur
@[simp] theorem ndo_ren {m o} : (ndo o).ren m = ndo o := by cases o <;> rfl
@[simp] theorem ndo_kill {n o} : (ndo o).kill n = ndo o := by cases o <;> rfl
/-- A writer into which something was written. -/
def wBox (i k : Nat) (l : Option (List Nd)) : AObj := .box 87 (.agg [.ptr i 0 0, .own k, ndo l])
def wRow (bs : List UInt8) (mv : Bool) : AObj := .row 1 (bysL bs) false ⟨mv, 5⟩
def hpW (l : Option (List Nd)) (bs : List UInt8) (mv : Bool) : Heap := [(0, wBox 0 1 l), (1, wRow bs mv)]
def hpN (l : Option (List Nd)) : Heap := [(0, .box 87 (.agg [.nilp, .nils, ndo l]))]
attribute [local simp] canonK canonAll canonSlot canonCell canonBox ownStep restrictTo pureCells pureRows reachL AObj.names List.range_succ appendA
theorem ext126 : G.ext 126 = some idP := rfl
@[simp] theorem noesc {d v st} : callV G cl d (.fn (.func 126) [] []) [v] st = some (.val v st) := rfl
@[simp] theorem lies85 : liesAt Try.prog Try.prog.depth 87 1 0 85 1 = true := by kernel_rfl
@[simp] theorem neq83 : binO Try.prog .neq 83 false false (.ptr 0 0 0) (.ptr 0 0 0) = some (.bool false) := by kernel_rfl
set_option maxHeartbeats 8000000 in
theorem copyCheck_0 (l : Option (List Nd)) : cl 97 [.ptr 0 0 0] (hpN l) = some (.ret (.tup []), [(0, .box 87 (.agg [.ptr 0 0 0, .nils, ndo l]))]) := by
  refine fn_intro Try.func97 rfl (by simp) (by decide) rfl ?_
  simp [Try.f97, hpN]
  cases l <;> rfl
set_option maxHeartbeats 8000000 in
theorem copyCheck_1 (l : Option (List Nd)) (bs : List UInt8) : cl 97 [.ptr 0 0 0] (hpW l bs false) = some (.ret (.tup []), hpW l bs false) := by
  refine fn_intro Try.func97 rfl (by simp) (by decide) rfl ?_
  simp [Try.f97, hpW, wBox, wRow]
  cases l <;> rfl
/-- A writer that has room, into which nothing was written. -/
def hpG (l : Option (List Nd)) : Heap := [(0, .box 87 (.agg [.nilp, .own 1, ndo l])), (1, wRow [] false)]
set_option maxHeartbeats 8000000 in
theorem copyCheck_G (l : Option (List Nd)) : cl 97 [.ptr 0 0 0] (hpG l) = some (.ret (.tup []), hpW l [] false) := by
  refine fn_intro Try.func97 rfl (by simp) (by decide) rfl ?_
  simp [Try.f97, hpG]
  cases l <;> rfl
@[simp] theorem intsL_len {L : List Nat} : (intsL L).length = L.length := by simp [intsL]
/-- A value that hangs on no memory. -/
structure Plain (x : AV) : Prop where
  rv : ∀ hp, x.rv hp = x
  names : x.names = []
  rows : x.rows = []
  ren : ∀ m, x.ren m = x
theorem plain_int {k n} : Plain (.int k n) := ⟨fun _ => rfl, rfl, rfl, fun _ => rfl⟩
theorem plain_str {s} : Plain (.str s) := ⟨fun _ => rfl, rfl, rfl, fun _ => rfl⟩
theorem plain_bool {s} : Plain (.bool s) := ⟨fun _ => rfl, rfl, rfl, fun _ => rfl⟩
theorem plain_nili : Plain .nili := ⟨fun _ => rfl, rfl, rfl, fun _ => rfl⟩
theorem plain_unit : Plain (.tup []) := ⟨fun _ => rfl, rfl, rfl, fun _ => rfl⟩
theorem plains {g : FuncId} {rest : List AV} (h : ∀ x ∈ rest, Plain x) : (∀ hp j, prepL G g hp rest j = rest) ∧ (∀ j, prepRows G g rest j = []) ∧ AV.namesL rest = [] ∧ ∀ m, AV.renL m rest = rest := by
  induction rest with
  | nil => exact ⟨fun _ _ => rfl, fun _ => rfl, rfl, fun _ => rfl⟩
  | cons a r ih =>
    obtain ⟨h1, h2, h3, h4⟩ := ih fun x hx => h x (List.mem_cons_of_mem _ hx)
    have ha := h a (by simp)
    refine ⟨fun hp j => ?_, fun j => ?_, ?_, fun m => ?_⟩
    · simp [prepL, h1, ha.rv]
    · simp [prepRows, h2, ha.rows]
    · simp [AV.namesL, h3, ha.names]
    · simp [AV.renL, h4, ha.ren]
theorem aget_mapv {f : AObj → AObj} {hp : Heap} {n : Nat} : aget (hp.map fun p => (p.1, f p.2)) n = (aget hp n).map f := by
  induction hp with
  | nil => rfl
  | cons a r ih => obtain ⟨a1, a2⟩ := a; simp only [List.map_cons, aget_cons', ih]; split <;> rfl
theorem callW {g : FuncId} {i k : Nat} {d : Option Nat} {l : Option (List Nd)} {bs bs' : List UInt8} {mv mv' : Bool} {rest : List AV} {v : AV} {sl : Slots} {hp : Heap} (hE : G.E g = true) (hg : g < RB) (hx : G.ext g = none) (hik : i ≠ k) (hrest : ∀ x ∈ rest, Plain x) (hv : Plain v)
    (h0 : aget hp i = some (wBox i k l)) (h1 : aget hp k = some (wRow bs mv)) (hc : cl g (.ptr 0 0 0 :: rest) (hpW l bs false) = some (.ret v, hpW l bs' mv')) :
    callV G cl d (.fn (.func g) [] []) (.ptr i 0 0 :: rest) ⟨sl, hp⟩ =
      some (.val v ⟨if mv' then sl.map (fun p => (p.1, p.2.kill k)) else sl, [(i, wBox i k l), (k, wRow bs' (mv' || mv))] ++ (if mv' then hp.map (fun p => (p.1, p.2.kill k)) else hp)⟩) := by
  obtain ⟨p1, p2, p3, p4⟩ := plains (g := g) hrest
  have hki : k ≠ i := fun e => hik e.symm
  have hkl : aget (hp.map fun p => (p.1, p.2.kill k)) k = some (wRow bs mv) := by rw [aget_mapv, h1]; rfl
  refine callV_of (pre := .ptr i 0 0 :: rest) (st1 := ⟨sl, hp⟩) (ns := [i, k]) (y := (.ret v, hpW l bs' mv')) (st3 := ⟨if mv' then sl.map (fun p => (p.1, p.2.kill k)) else sl, [(i, wBox i k l), (k, wRow bs' (mv' || mv))] ++ (if mv' then hp.map (fun p => (p.1, p.2.kill k)) else hp)⟩) hE hg hx ?_ ?_ ?_ ?_ ?_ ?_ ?_
  · simp [prepL, p1]
  · simp [prepRows, p2, ASt.fix, hfix]
  · simp [AV.namesL, p3, reachL, h0, h1, wBox, wRow, hik, hki]
  · simp [h0, h1]
  · simp [AV.renL, p4, subHeap, zipIx, toMap, h0, h1, wBox, wRow, hik, hki, AObj.unmv]
    exact hc
  · cases mv' <;> simp [afterCall, afterHeap, zipIx, movedOf, killAll, backMap, backName, hpW, wBox, wRow, AObj.moved, AObj.isRow, AObj.ormv, h0, h1, hik, hki, hkl, ASt.killn]
  · simp [answered, hv.ren]
/-- The same, from a writer into which nothing was written: fresh, and with room. -/
theorem callN {g : FuncId} {i K : Nat} {d : Option Nat} {l : Option (List Nd)} {bs' : List UInt8} {mv : Bool} {rest : List AV} {v : AV} {sl : Slots} {hp : Heap} (hE : G.E g = true) (hg : g < RB) (hx : G.ext g = none) (hK : K ≠ 0) (hi : i ≠ newName (d.getD 0) K) (hrest : ∀ x ∈ rest, Plain x) (hv : Plain v)
    (h0 : aget hp i = some (.box 87 (.agg [.nilp, .nils, ndo l]))) (h1 : aget hp (newName (d.getD 0) K) = none) (hc : cl g (.ptr 0 0 0 :: rest) (hpN l) = some (.ret v, [(0, wBox 0 K l), (K, wRow bs' mv)])) :
    callV G cl d (.fn (.func g) [] []) (.ptr i 0 0 :: rest) ⟨sl, hp⟩ =
      some (.val v ⟨sl, [(i, wBox i (newName (d.getD 0) K) l), (newName (d.getD 0) K, wRow bs' mv)] ++ hp⟩) := by
  obtain ⟨p1, p2, p3, p4⟩ := plains (g := g) hrest
  have hK' : 0 ≠ K := fun e => hK e.symm
  refine callV_of (pre := .ptr i 0 0 :: rest) (st1 := ⟨sl, hp⟩) (ns := [i]) (y := (.ret v, [(0, wBox 0 K l), (K, wRow bs' mv)])) (st3 := ⟨sl, [(i, wBox i (newName (d.getD 0) K) l), (newName (d.getD 0) K, wRow bs' mv)] ++ hp⟩) hE hg hx ?_ ?_ ?_ ?_ ?_ ?_ ?_
  · simp [prepL, p1]
  · simp [prepRows, p2, ASt.fix, hfix]
  · simp [AV.namesL, p3, reachL, h0]
  · simp [h0]
  · simp [AV.renL, p4, subHeap, zipIx, toMap, h0, AObj.unmv]
    exact hc
  · simp [afterCall, afterHeap, zipIx, movedOf, killAll, backMap, backName, wBox, wRow, AObj.moved, AObj.isRow, AObj.ormv, h0, h1, hK, hK', ASt.killn]
  · simp [answered, hv.ren]
theorem callG {g : FuncId} {i k : Nat} {d : Option Nat} {l : Option (List Nd)} {bs' : List UInt8} {mv mv' : Bool} {rest : List AV} {v : AV} {sl : Slots} {hp : Heap} (hE : G.E g = true) (hg : g < RB) (hx : G.ext g = none) (hik : i ≠ k) (hrest : ∀ x ∈ rest, Plain x) (hv : Plain v)
    (h0 : aget hp i = some (.box 87 (.agg [.nilp, .own k, ndo l]))) (h1 : aget hp k = some (wRow [] mv)) (hc : cl g (.ptr 0 0 0 :: rest) (hpG l) = some (.ret v, hpW l bs' mv')) :
    callV G cl d (.fn (.func g) [] []) (.ptr i 0 0 :: rest) ⟨sl, hp⟩ =
      some (.val v ⟨if mv' then sl.map (fun p => (p.1, p.2.kill k)) else sl, [(i, wBox i k l), (k, wRow bs' (mv' || mv))] ++ (if mv' then hp.map (fun p => (p.1, p.2.kill k)) else hp)⟩) := by
  obtain ⟨p1, p2, p3, p4⟩ := plains (g := g) hrest
  have hki : k ≠ i := fun e => hik e.symm
  have hkl : aget (hp.map fun p => (p.1, p.2.kill k)) k = some (wRow [] mv) := by rw [aget_mapv, h1]; rfl
  refine callV_of (pre := .ptr i 0 0 :: rest) (st1 := ⟨sl, hp⟩) (ns := [i, k]) (y := (.ret v, hpW l bs' mv')) (st3 := ⟨if mv' then sl.map (fun p => (p.1, p.2.kill k)) else sl, [(i, wBox i k l), (k, wRow bs' (mv' || mv))] ++ (if mv' then hp.map (fun p => (p.1, p.2.kill k)) else hp)⟩) hE hg hx ?_ ?_ ?_ ?_ ?_ ?_ ?_
  · simp [prepL, p1]
  · simp [prepRows, p2, ASt.fix, hfix]
  · simp [AV.namesL, p3, reachL, h0, h1, wBox, wRow, hik, hki]
  · simp [h0, h1]
  · simp [AV.renL, p4, subHeap, zipIx, toMap, h0, h1, wBox, wRow, hik, hki, AObj.unmv]
    exact hc
  · cases mv' <;> simp [afterCall, afterHeap, zipIx, movedOf, killAll, backMap, backName, hpW, wBox, wRow, AObj.moved, AObj.isRow, AObj.ormv, h0, h1, hik, hki, hkl, ASt.killn]
  · simp [answered, hv.ren]

theorem bv_plain {b : UInt8} : Plain (bV b) := plain_int
theorem copy_W {i k d l bs mv sl hp} (hik : i ≠ k) (h0 : aget hp i = some (wBox i k l)) (h1 : aget hp k = some (wRow bs mv)) : callV G cl d (.fn (.func 97) [] []) [.ptr i 0 0] ⟨sl, hp⟩ = some (.val (.tup []) ⟨sl, [(i, wBox i k l), (k, wRow bs mv)] ++ hp⟩) := by
  have := callW (d := d) (sl := sl) (g := 97) (rest := []) rfl (by decide) rfl hik (by simp) plain_unit h0 h1 (copyCheck_1 l bs)
  simpa using this
theorem copy_G {i k d l mv sl hp} (hik : i ≠ k) (h0 : aget hp i = some (.box 87 (.agg [.nilp, .own k, ndo l]))) (h1 : aget hp k = some (wRow [] mv)) : callV G cl d (.fn (.func 97) [] []) [.ptr i 0 0] ⟨sl, hp⟩ = some (.val (.tup []) ⟨sl, [(i, wBox i k l), (k, wRow [] mv)] ++ hp⟩) := by
  have := callG (d := d) (sl := sl) (g := 97) (rest := []) rfl (by decide) rfl hik (by simp) plain_unit h0 h1 (copyCheck_G l)
  simpa using this
theorem copy_N {d l sl} : callV G cl d (.fn (.func 97) [] []) [.ptr 0 0 0] ⟨sl, hpN l⟩ = some (.val (.tup []) ⟨sl, (0, .box 87 (.agg [.ptr 0 0 0, .nils, ndo l])) :: hpN l⟩) := by
  refine callV_of (pre := [.ptr 0 0 0]) (st1 := ⟨sl, hpN l⟩) (ns := [0]) (y := (.ret (.tup []), [(0, .box 87 (.agg [.ptr 0 0 0, .nils, ndo l]))])) (st3 := ⟨sl, (0, .box 87 (.agg [.ptr 0 0 0, .nils, ndo l])) :: hpN l⟩) rfl (by decide) rfl rfl rfl ?_ ?_ ?_ ?_ rfl
  · simp [AV.namesL, reachL, hpN]
  · simp [hpN]
  · simp [AV.renL, subHeap, zipIx, toMap, hpN, AObj.unmv]
    exact copyCheck_0 l
  · simp [afterCall, afterHeap, zipIx, movedOf, killAll, backMap, backName, AObj.moved, AObj.isRow, AObj.ormv, hpN, ASt.killn]
set_option maxHeartbeats 8000000 in
theorem writeByte_0 (l : Option (List Nd)) (b : UInt8) : cl 66 [.ptr 0 0 0, bV b] (hpN l) = some (.ret .nili, [(0, wBox 0 1014 l), (1014, wRow [b] false)]) := by
  refine fn_intro Try.func66 rfl (by simp) (by decide) rfl ?_
  have h := fun d sl => copy_N (d := d) (l := l) (sl := sl)
  simp only [hpN] at h
  have h1 : 1 ≤ LIM := by unfold LIM; omega
  simp [Try.f66, hpN, h, bV, h1]
  cases l <;> rfl
set_option maxHeartbeats 8000000 in
theorem writeByte_1 (l : Option (List Nd)) (bs : List UInt8) (b : UInt8) (hb : bs.length ≤ 4000000) : cl 66 [.ptr 0 0 0, bV b] (hpW l bs false) = some (.ret .nili, hpW l (bs ++ [b]) true) := by
  refine fn_intro Try.func66 rfl (by simp) (by decide) rfl ?_
  have hL : bs.length + 1 ≤ LIM := by unfold LIM; omega
  have h := fun d sl => copy_W (d := d) (l := l) (bs := bs) (mv := false) (sl := sl) (hp := hpW l bs false) (i := 0) (k := 1) (by decide) rfl rfl
  simp only [hpW, wBox, wRow] at h
  simp [Try.f66, hpW, wBox, wRow, h, bV, hL, bysL_snoc]
  cases l <;> rfl
set_option maxHeartbeats 8000000 in
theorem writeByte_G (l : Option (List Nd)) (b : UInt8) : cl 66 [.ptr 0 0 0, bV b] (hpG l) = some (.ret .nili, hpW l [b] true) := by
  refine fn_intro Try.func66 rfl (by simp) (by decide) rfl ?_
  have h := fun d sl => copy_G (d := d) (l := l) (mv := false) (sl := sl) (hp := hpG l) (i := 0) (k := 1) (by decide) rfl rfl
  simp only [hpG, wBox, wRow] at h
  have h1 : 1 ≤ LIM := by unfold LIM; omega
  simp [Try.f66, hpG, wBox, wRow, h, bV, h1]
  cases l <;> rfl
theorem byte_W {i k d l bs mv sl hp} {b : UInt8} (hb : bs.length ≤ 4000000) (hik : i ≠ k) (h0 : aget hp i = some (wBox i k l)) (h1 : aget hp k = some (wRow bs mv)) : callV G cl d (.fn (.func 66) [] []) [.ptr i 0 0, bV b] ⟨sl, hp⟩ =
    some (.val .nili ⟨sl.map (fun p => (p.1, p.2.kill k)), [(i, wBox i k l), (k, wRow (bs ++ [b]) true)] ++ hp.map (fun p => (p.1, p.2.kill k))⟩) := by
  have := callW (d := d) (sl := sl) (g := 66) (rest := [bV b]) rfl (by decide) rfl hik (by simpa using bv_plain) plain_nili h0 h1 (writeByte_1 l bs b hb)
  simpa using this
theorem byte_G {i k d l mv sl hp} {b : UInt8} (hik : i ≠ k) (h0 : aget hp i = some (.box 87 (.agg [.nilp, .own k, ndo l]))) (h1 : aget hp k = some (wRow [] mv)) : callV G cl d (.fn (.func 66) [] []) [.ptr i 0 0, bV b] ⟨sl, hp⟩ =
    some (.val .nili ⟨sl.map (fun p => (p.1, p.2.kill k)), [(i, wBox i k l), (k, wRow [b] true)] ++ hp.map (fun p => (p.1, p.2.kill k))⟩) := by
  have := callG (d := d) (sl := sl) (g := 66) (rest := [bV b]) rfl (by decide) rfl hik (by simpa using bv_plain) plain_nili h0 h1 (writeByte_G l b)
  simpa using this
theorem byte_N {i d l sl hp} {b : UInt8} (hi : i ≠ newName (d.getD 0) 1014) (h0 : aget hp i = some (.box 87 (.agg [.nilp, .nils, ndo l]))) (h1 : aget hp (newName (d.getD 0) 1014) = none) : callV G cl d (.fn (.func 66) [] []) [.ptr i 0 0, bV b] ⟨sl, hp⟩ =
    some (.val .nili ⟨sl, [(i, wBox i (newName (d.getD 0) 1014) l), (newName (d.getD 0) 1014, wRow [b] false)] ++ hp⟩) := by
  have := callN (d := d) (sl := sl) (g := 66) (rest := [bV b]) rfl (by decide) rfl (by decide) hi (by simpa using bv_plain) plain_nili h0 h1 (writeByte_0 l b)
  simpa using this
/-- WriteString. -/
theorem bysL_app {l m : List UInt8} : bysL (l ++ m) = bysL l ++ List.map (fun b : UInt8 => AV.int .u8 b.toNat) m := by simp [bysL, bV]
set_option maxHeartbeats 8000000 in
theorem writeString_1 (l : Option (List Nd)) (bs t : List UInt8) (hb : bs.length + t.length ≤ 4000000) : cl 98 [.ptr 0 0 0, .str t] (hpW l bs false) = some (.ret (.tup [.int .i64 t.length, .nili]), hpW l (bs ++ t) true) := by
  refine fn_intro Try.func98 rfl (by simp) (by decide) rfl ?_
  have hL : bs.length + t.length ≤ LIM := by unfold LIM; omega
  have h := fun d sl => copy_W (d := d) (l := l) (bs := bs) (mv := false) (sl := sl) (hp := hpW l bs false) (i := 0) (k := 1) (by decide) rfl rfl
  simp only [hpW, wBox, wRow] at h
  simp [Try.f98, hpW, wBox, wRow, h, hL, bysL_app]
  cases l <;> rfl
theorem plain_wrote {n : Int} : Plain (.tup [.int .i64 n, .nili]) := ⟨fun _ => rfl, rfl, rfl, fun _ => rfl⟩
theorem string_W' {i k d l bs mv sl hp} {t : List UInt8} (hb : bs.length + t.length ≤ 4000000) (hik : i ≠ k) (h0 : aget hp i = some (wBox i k l)) (h1 : aget hp k = some (wRow bs mv)) : callV G cl d (.fn (.func 98) [] []) [.ptr i 0 0, .str t] ⟨sl, hp⟩ =
    some (.val (.tup [.int .i64 t.length, .nili]) ⟨sl.map (fun p => (p.1, p.2.kill k)), [(i, wBox i k l), (k, wRow (bs ++ t) true)] ++ hp.map (fun p => (p.1, p.2.kill k))⟩) := by
  have := callW (d := d) (sl := sl) (g := 98) (rest := [.str t]) rfl (by decide) rfl hik (by simpa using plain_str) plain_wrote h0 h1 (writeString_1 l bs t hb)
  simpa using this
/-- A text's bytes, without its kind. -/
def txtB : List UInt8 → List UInt8
  | [] => [0, 0]
  | b :: r => if b = 0 then b :: 255 :: txtB r else b :: txtB r
def txt0 : List UInt8 → List UInt8
  | [] => []
  | b :: r => if b = 0 then b :: 255 :: txt0 r else b :: txt0 r
theorem txtB_eq (s : List UInt8) : txtB s = txt0 s ++ [0, 0] := by
  induction s with
  | nil => rfl
  | cons b r ih => simp only [txtB, txt0]; split <;> simp [ih]
theorem txt0_length (s : List UInt8) : (txt0 s).length ≤ 2 * s.length := by
  induction s with
  | nil => simp [txt0]
  | cons b r ih => simp only [txt0]; split <;> simp <;> omega
theorem txt0_app (s t : List UInt8) : txt0 (s ++ t) = txt0 s ++ txt0 t := by
  induction s with
  | nil => rfl
  | cons b r ih => simp only [List.cons_append, txt0]; split <;> simp [ih]
theorem str_at {s : List UInt8} {i : Nat} {b : UInt8} (h : s[i]? = some b) : indexv Try.prog 9 (.str s) (.int .i64 i) = some (.int .u8 b.toNat) := by
  simp [indexv, h]
def sl67 (s : List UInt8) (i : Nat) : Slots := [(0, .ptr 0 0 0), (1, .str s), (6, .int .i64 s.length), (7, .int .i64 i)]
set_option maxHeartbeats 8000000 in
theorem round67 (l : Option (List Nd)) (s bs : List UInt8) (hs : s.length ≤ 1000000) (hb : bs.length ≤ 3000000) (i : Nat) (b : UInt8) (hi : s[i]? = some b) (mv : Bool) :
    rX 67 (lc Try.f67 0) (codeX G cl lp 67 (lc Try.f67 0) ⟨sl67 s i, hpW l bs mv⟩) = some (.normal, ⟨sl67 s (i + 1), hpW l (bs ++ txt0 [b]) true⟩) := by
  have hlt : i < s.length := (List.getElem?_eq_some_iff.1 hi).1
  have hw1 : IntKind.i64.wrap ((i : Int) + 1) = ((i + 1 : Nat) : Int) := by rw [i64_wrap (by omega) (by omega)]; omega
  have e : s[i] = b := (List.getElem?_eq_some_iff.1 hi).2
  have h1 := fun d sl hp (h0 : aget hp 0 = some (wBox 0 1 l)) (h1 : aget hp 1 = some (wRow bs mv)) => byte_W (d := d) (sl := sl) (hp := hp) (b := b) (by omega) (by decide) h0 h1
  have h2 := fun d sl hp mv (h0 : aget hp 0 = some (wBox 0 1 l)) (h1 : aget hp 1 = some (wRow (bs ++ [b]) mv)) => byte_W (d := d) (sl := sl) (hp := hp) (b := 255) (by simp; omega) (by decide) h0 h1
  simp only [show bV 255 = .int .u8 255 from rfl] at h2
  simp only [bV, wBox, wRow] at h1 h2
  have hx := str_at hi
  by_cases h0 : b.toNat = 0
  · have hz : b = 0 := by rw [← UInt8.toNat_inj]; exact h0
    have ht : txt0 [b] = [b, 255] := by simp [txt0, hz]
    rw [ht]
    simp only [h0, Int.natCast_zero] at h1 hx
    simp [lc, loopsOf, Try.f67, sl67, hpW, hlt, e, h1, h2, hw1, hx, wBox, wRow]
    done
  · have hz : ¬ b = 0 := fun h => h0 (by rw [h]; rfl)
    have ht : txt0 [b] = [b] := by simp [txt0, hz]
    rw [ht]
    simp [lc, loopsOf, Try.f67, sl67, hpW, hlt, e, h1, h2, hw1, hx, h0, wBox, wRow]
    done
theorem exit67 (l : Option (List Nd)) (s bs : List UInt8) (i : Nat) (hi : s.length ≤ i) (mv : Bool) : rX 67 (lc Try.f67 0) (codeX G cl lp 67 (lc Try.f67 0) ⟨sl67 s i, hpW l bs mv⟩) = some (.exit 0, ⟨sl67 s i ++ [(8, .bool false)], hpW l bs mv⟩) := by
  have : ¬ i < s.length := by omega
  simp [lc, loopsOf, Try.f67, sl67, hpW, this, wBox, wRow]
  done
theorem loop67 (l : Option (List Nd)) (s : List UInt8) (hs : s.length ≤ 1000000) (bs : List UInt8) : ∀ (c i : Nat) (mv : Bool), i + c = s.length → bs.length + 2 * s.length ≤ 3000000 →
    ∃ mv' sl, lp 67 (lc Try.f67 0) ⟨sl67 s i, hpW l (bs ++ txt0 (s.take i)) mv⟩ = some (.exit 0, ⟨(0, .ptr 0 0 0) :: sl, hpW l (bs ++ txt0 s) mv'⟩) := by
  intro c
  induction c with
  | zero =>
    intro i mv hi hb
    rw [List.take_of_length_le (by omega)]
    exact ⟨mv, _, loop_out (exit67 l s _ i (by omega) mv) (by simp)⟩
  | succ c ih =>
    intro i mv hi hb
    have hlt : i < s.length := by omega
    have hq : s[i]? = some s[i] := List.getElem?_eq_getElem hlt
    have hl := txt0_length (s.take i)
    rw [List.length_take] at hl
    have h := round67 l s (bs ++ txt0 (s.take i)) hs (by simp; omega) i _ hq mv
    have e : bs ++ txt0 (s.take i) ++ txt0 [s[i]] = bs ++ txt0 (s.take (i + 1)) := by
      rw [List.take_add_one, hq, List.append_assoc, ← txt0_app]; rfl
    rw [e] at h
    obtain ⟨mv', sl, hx⟩ := ih (i + 1) true (by omega) hb
    exact ⟨mv', sl, loop_next h hx⟩
set_option maxHeartbeats 8000000 in
theorem text_1 (l : Option (List Nd)) (s bs : List UInt8) (hs : s.length ≤ 1000000) (hb : bs.length + 2 * s.length ≤ 3000000) : cl 67 [.ptr 0 0 0, .str s] (hpW l bs false) = some (.ret (.tup []), hpW l (bs ++ txtB s) true) := by
  refine fn_intro Try.func67 rfl (by simp) (by decide) rfl ?_
  obtain ⟨mv', sl, hlp⟩ := loop67 l s hs bs s.length 0 false (by omega) hb
  have hl := txt0_length s
  have h1 := fun d sl hp mv (h0 : aget hp 0 = some (wBox 0 1 l)) (h1 : aget hp 1 = some (wRow (bs ++ txt0 s) mv)) => string_W' (d := d) (sl := sl) (hp := hp) (t := [0, 0]) (by simp; omega) (by decide) h0 h1
  simp [txt0, sl67, hpW, wBox, wRow, lc, loopsOf, Try.f67] at hlp
  simp only [wBox, wRow] at h1
  rw [txtB_eq]
  simp [Try.f67, hpW, wBox, wRow, hlp, h1]
  cases l <;> rfl
theorem text_W {i k d l bs mv sl hp} {s : List UInt8} (hs : s.length ≤ 1000000) (hb : bs.length + 2 * s.length ≤ 3000000) (hik : i ≠ k) (h0 : aget hp i = some (wBox i k l)) (h1 : aget hp k = some (wRow bs mv)) : callV G cl d (.fn (.func 67) [] []) [.ptr i 0 0, .str s] ⟨sl, hp⟩ =
    some (.val (.tup []) ⟨sl.map (fun p => (p.1, p.2.kill k)), [(i, wBox i k l), (k, wRow (bs ++ txtB s) true)] ++ hp.map (fun p => (p.1, p.2.kill k))⟩) := by
  have := callW (d := d) (sl := sl) (g := 67) (rest := [.str s]) rfl (by decide) rfl hik (by simpa using plain_str) plain_unit h0 h1 (text_1 l s bs hs hb)
  simpa using this
end Go.Proofs.Ytonaejfpiihfhaa

/- What the functions come to: numbers as bytes. -/
namespace Go.Proofs.Ytonaejfpiihfhaa
open Go Abs
set_option linter.unusedSimpArgs false
set_option linter.unusedVariables false

def lowB (n : Int) (i : Nat) : UInt8 := UInt8.ofNat (IntKind.u8.wrap (n.fdiv (2 ^ (8 * i)))).toNat
theorem u8_range {n : Int} : 0 ≤ IntKind.u8.wrap n ∧ IntKind.u8.wrap n < 256 := by
  rw [show IntKind.u8.wrap n = n % 256 from by simp [IntKind.wrap, IntKind.bits, IntKind.signed]]; omega
theorem lowV {n : Int} {i : Nat} : AV.int .u8 (IntKind.u8.wrap (n.fdiv (2 ^ (8 * i)))) = .int .u8 (lowB n i).toNat := by
  obtain ⟨h0, h1⟩ := u8_range (n := n.fdiv (2 ^ (8 * i)))
  rw [lowB, toNat_ofNat h0 h1]
def lows (n : Int) (i : Nat) : List UInt8 := (List.range i).map (lowB n)
@[simp] theorem lows_length {n : Int} {i : Nat} : (lows n i).length = i := by simp [lows]
def bigB (n : Int) : List UInt8 := [lowB n 7, lowB n 6, lowB n 5, lowB n 4, lowB n 3, lowB n 2, lowB n 1, lowB n 0]
attribute [local simp] canonK canonAll canonSlot canonCell canonBox ownStep restrictTo pureCells pureRows reachL AObj.names List.range_succ appendA
def st124 (n : Int) (es : List UInt8) (i : Nat) (mv : Bool) : ASt := ⟨[(0, .int .u64 n), (5, .own 5005), (11, .int .i64 8), (12, .int .i64 i)], [(5005, wRow es mv)]⟩
set_option maxHeartbeats 8000000 in
theorem big_round (n : Int) (es : List UInt8) (i : Nat) (hi : i < 8) (mv : Bool) (hes : es.length ≤ 8) :
    rX 124 (lc Try.f124 0) (codeX G cl lp 124 (lc Try.f124 0) (st124 n es i mv)) = some (.normal, st124 n (es ++ [lowB n i]) (i + 1) true) := by
  have hw1 : IntKind.i64.wrap ((i : Int) + 1) = ((i + 1 : Nat) : Int) := by rw [i64_wrap (by omega) (by omega)]; omega
  have hw2 : IntKind.i64.wrap (8 * (i : Int)) = ((8 * i : Nat) : Int) := by rw [i64_wrap (by omega) (by omega)]; omega
  have hlt : (i : Int) < 8 := by omega
  have hm : min (8 * i) 64 = 8 * i := by omega
  have hl := lowV (n := n) (i := i)
  have hL : es.length + 1 ≤ LIM := by unfold LIM; omega
  have h1 : ¬ (8 * (i : Int) < 0) := by omega
  have h2 : (8 * (i : Int)).toNat = 8 * i := by omega
  have h3 : IntKind.u64.bits = 64 := rfl
  simp [lc, loopsOf, Try.f124, st124, wRow, hlt, hw1, hw2, h1, h2, h3, hm, hl, hL, bysL_snoc]
  done
set_option maxHeartbeats 8000000 in
theorem big_exit (n : Int) (es : List UInt8) (mv : Bool) : rX 124 (lc Try.f124 0) (codeX G cl lp 124 (lc Try.f124 0) (st124 n es 8 mv)) = some (.exit 0, ⟨[(0, .int .u64 n), (5, .own 5005), (11, .int .i64 8), (12, .int .i64 8), (13, .bool false)], [(5005, wRow es mv)]⟩) := by
  simp [lc, loopsOf, Try.f124, st124, wRow]
  done
theorem big_loop (n : Int) : ∀ (c i : Nat) (mv : Bool), i + c = 8 → ∃ mv', lp 124 (lc Try.f124 0) (st124 n (lows n i) i mv) = some (.exit 0, ⟨[(0, .int .u64 n), (5, .own 5005), (11, .int .i64 8), (12, .int .i64 8), (13, .bool false)], [(5005, wRow (lows n 8) mv')]⟩) := by
  intro c
  induction c with
  | zero => intro i mv hi; obtain rfl : i = 8 := by omega
            exact ⟨mv, loop_out (big_exit n _ mv) (by simp)⟩
  | succ c ih =>
    intro i mv hi
    obtain ⟨mv', h⟩ := ih (i + 1) true (by omega)
    have hr := big_round n (lows n i) i (by omega) mv (by simp [lows]; omega)
    have e : lows n i ++ [lowB n i] = lows n (i + 1) := by simp [lows, List.range_succ]
    rw [e] at hr
    exact ⟨mv', loop_next hr h⟩
@[simp] theorem bysL_nil : bysL [] = [] := rfl
@[simp] theorem bysL_at {es : List UInt8} {i : Nat} {h : i < (bysL es).length} : (bysL es)[i] = .int .u8 ((es[i]'(by simpa using h)).toNat : Int) := by simp [bysL, bV]
theorem bysL_set {es : List UInt8} {i : Nat} {x : UInt8} : (bysL es).set i (.int .u8 x.toNat) = bysL (es.set i x) := by simp [bysL, bV, List.map_set]
def st124b (es : List UInt8) (i j : Nat) (mv : Bool) : ASt := ⟨[(5, .own 5005), (7, .int .i64 i), (8, .int .i64 j)], [(5005, wRow es mv)]⟩
set_option maxHeartbeats 8000000 in
theorem big_turn (es : List UInt8) (he : es.length ≤ 8) (i j : Nat) (hij : i < j) (x y : UInt8) (hx : es[i]? = some x) (hy : es[j]? = some y) (mv : Bool) :
    rX 124 (lc Try.f124 1) (codeX G cl lp 124 (lc Try.f124 1) (st124b es i j mv)) = some (.normal, st124b ((es.set i y).set j x) (i + 1) (j - 1) mv) := by
  have hi := (List.getElem?_eq_some_iff.1 hx).1
  have hj := (List.getElem?_eq_some_iff.1 hy).1
  have hw1 : IntKind.i64.wrap ((i : Int) + 1) = ((i + 1 : Nat) : Int) := by rw [i64_wrap (by omega) (by omega)]; omega
  have hw2 : IntKind.i64.wrap ((j : Int) - 1) = ((j - 1 : Nat) : Int) := by rw [i64_wrap (by omega) (by omega)]; omega
  have hlt : (i : Int) < j := by omega
  have ex : es[i] = x := (List.getElem?_eq_some_iff.1 hx).2
  have ey : es[j] = y := (List.getElem?_eq_some_iff.1 hy).2
  simp [lc, loopsOf, Try.f124, st124b, wRow, hlt, hw1, hw2, hi, hj, ex, ey, bysL_set]
  done
set_option maxHeartbeats 8000000 in
theorem big_exit2 (es : List UInt8) (mv : Bool) : rX 124 (lc Try.f124 1) (codeX G cl lp 124 (lc Try.f124 1) (st124b es 4 3 mv)) = some (.exit 2, ⟨[(5, .own 5005), (7, .int .i64 4), (8, .int .i64 3), (29, .bool false)], [(5005, wRow es mv)]⟩) := by
  simp [lc, loopsOf, Try.f124, st124b, wRow]
  done
theorem big_loop2 (n : Int) (mv : Bool) : lp 124 (lc Try.f124 1) (st124b (lows n 8) 0 7 mv) = some (.exit 2, ⟨[(5, .own 5005), (7, .int .i64 4), (8, .int .i64 3), (29, .bool false)], [(5005, wRow (bigB n) mv)]⟩) :=
  loop_next (big_turn _ (by simp [lows]) 0 7 (by omega) _ _ rfl rfl mv) (loop_next (big_turn _ (by simp [lows]) 1 6 (by omega) _ _ rfl rfl mv) (loop_next (big_turn _ (by simp [lows]) 2 5 (by omega) _ _ rfl rfl mv) (loop_next (big_turn _ (by simp [lows]) 3 4 (by omega) _ _ rfl rfl mv)
    (loop_out (big_exit2 _ mv) (by simp)))))
theorem bytesOf_bysL (es : List UInt8) : bytesOf? (bysL es) = some es := by
  induction es with
  | nil => rfl
  | cons b r ih => simp only [bysL, List.map_cons, bV, bytesOf?] at ih ⊢; rw [ih]; simp
set_option maxHeartbeats 8000000 in
theorem octtext_eq (es : List UInt8) : cl 137 [.list 1 (bysL es)] [] = some (.ret (.str es), []) := by
  refine fn_intro Try.func137 rfl (by simp) (by decide) rfl ?_
  have h := bytesOf_bysL es
  simp [Try.f137, h]
  exact end_is (.inr rfl) (by simp; rfl) rfl rfl
set_option maxHeartbeats 8000000 in
theorem big_eq (n : Int) : cl 124 [.int .u64 n, .int .i64 8] [] = some (.ret (.str (bigB n)), []) := by
  refine fn_intro Try.func124 rfl (by simp) (by decide) rfl ?_
  obtain ⟨mv, h1⟩ := big_loop n 8 0 false rfl
  have h2 := big_loop2 n mv
  have h3 : ∀ d sl, callV G cl d (.fn (.func 137) [] []) [.own 5005] ⟨sl, [(5005, .row 1 (bysL (bigB n)) false ⟨mv, 5⟩)]⟩ = some (.val (.str (bigB n)) (ASt.fix ⟨sl, [(5005, .row 1 (bysL (bigB n)) false ⟨mv, 5⟩)]⟩ [5005])) := fun d sl =>
    callV_rv (pre := [.list 1 (bysL (bigB n))]) E137 (by decide) ext137 rfl rfl rfl rfl (octtext_eq _) rfl
  have h4 : min (max (8 : Int) 0) 8 = 8 := rfl
  have h5 : IntKind.i64.wrap 7 = 7 := rfl
  rw [show lows n 0 = [] from rfl] at h1
  simp [st124, st124b, wRow, lc, loopsOf, Try.f124] at h1 h2
  simp [Try.f124, h1, h2, h3, h4, h5]
  exact end_is (.inr rfl) (by simp; rfl) rfl rfl
theorem big_call {d : Option Nat} {st : ASt} {n : Int} : callV G cl d (.fn (.func 124) [] []) [.int .u64 n, .int .i64 8] st = some (.val (.str (bigB n)) st) :=
  callV_ret E124 (by decide) ext124 rfl rfl (big_eq n) rfl
end Go.Proofs.Ytonaejfpiihfhaa

/- What the functions come to: the writer's plain values. -/
namespace Go.Proofs.Ytonaejfpiihfhaa
open Go Abs
set_option linter.unusedSimpArgs false
set_option linter.unusedVariables false
attribute [local simp] canonK canonAll canonSlot canonCell canonBox ownStep restrictTo pureCells pureRows reachL AObj.names List.range_succ appendA
theorem ndo_some {l : List Nd} : ndo (some l) = nds l := rfl
def u8B (n : Int) : UInt8 := UInt8.ofNat (IntKind.u8.wrap n).toNat
theorem u8V {n : Int} : AV.int .u8 (IntKind.u8.wrap n) = bV (u8B n) := by
  obtain ⟨h0, h1⟩ := u8_range (n := n)
  rw [u8B, bV, toNat_ofNat h0 h1]
set_option maxHeartbeats 8000000 in
theorem null_1 (l : List Nd) (bs : List UInt8) (a : Nat) : cl 90 [.ptr 0 0 0, .int .i64 a] (hpW (some l) bs false) = some (.ret (.tup []), hpW (some l) bs false) := by
  refine fn_intro Try.func90 rfl (by simp) (by decide) rfl ?_
  simp [Try.f90, hpW, wBox, wRow]
  rfl
set_option maxHeartbeats 8000000 in
theorem bool_1 (l : List Nd) (bs : List UInt8) (hb : bs.length ≤ 3000000) (a : Nat) (n : Nd) (hn : l[a]? = some n) : cl 91 [.ptr 0 0 0, .int .i64 a] (hpW (some l) bs false) = some (.ret (.tup []), hpW (some l) (bs ++ [u8B n.num]) true) := by
  refine fn_intro Try.func91 rfl (by simp) (by decide) rfl ?_
  have hlt := (List.getElem?_eq_some_iff.1 hn).1
  have e := (List.getElem?_eq_some_iff.1 hn).2
  have h1 := fun d sl hp (h0 : aget hp 0 = some (wBox 0 1 (some l))) (h1 : aget hp 1 = some (wRow bs false)) => byte_W (d := d) (sl := sl) (hp := hp) (b := u8B n.num) (by omega) (by decide) h0 h1
  rw [← u8V] at h1
  simp only [wBox, wRow, ndo_some, nds] at h1
  simp [Try.f91, hpW, wBox, wRow, ndo_some, nds, Nd.v, hn, hlt, e, h1]
  rfl
set_option maxHeartbeats 8000000 in
theorem word_1 (l : List Nd) (bs : List UInt8) (a : Nat) (n : Nd) (hn : l[a]? = some n) (hs : n.text.length ≤ 1000000) (hb : bs.length + 2 * n.text.length ≤ 3000000) : cl 93 [.ptr 0 0 0, .int .i64 a] (hpW (some l) bs false) = some (.ret (.tup []), hpW (some l) (bs ++ txtB n.text) true) := by
  refine fn_intro Try.func93 rfl (by simp) (by decide) rfl ?_
  have hlt := (List.getElem?_eq_some_iff.1 hn).1
  have e := (List.getElem?_eq_some_iff.1 hn).2
  have h1 := fun d sl hp (h0 : aget hp 0 = some (wBox 0 1 (some l))) (h1 : aget hp 1 = some (wRow bs false)) => text_W (d := d) (sl := sl) (hp := hp) hs hb (by decide) h0 h1
  simp only [wBox, wRow, ndo_some, nds] at h1
  simp [Try.f93, hpW, wBox, wRow, ndo_some, nds, Nd.v, hn, hlt, e, h1]
  rfl
/-- A number's bytes. -/
def numB (n : Int) : List UInt8 := bigB (wXor .u64 (IntKind.u64.wrap n) 9223372036854775808)
set_option maxHeartbeats 8000000 in
theorem num_1 (l : List Nd) (bs : List UInt8) (a : Nat) (n : Nd) (hn : l[a]? = some n) (hb : bs.length ≤ 3000000) : cl 92 [.ptr 0 0 0, .int .i64 a] (hpW (some l) bs false) = some (.ret (.tup []), hpW (some l) (bs ++ numB n.num) true) := by
  refine fn_intro Try.func92 rfl (by simp) (by decide) rfl ?_
  have hlt := (List.getElem?_eq_some_iff.1 hn).1
  have e := (List.getElem?_eq_some_iff.1 hn).2
  have h1 := fun d sl hp (h0 : aget hp 0 = some (wBox 0 1 (some l))) (h1 : aget hp 1 = some (wRow bs false)) => string_W' (d := d) (sl := sl) (hp := hp) (t := numB n.num) (by simp [numB, bigB]; omega) (by decide) h0 h1
  have h2 := fun d st => big_call (d := d) (st := st) (n := wXor .u64 (IntKind.u64.wrap n.num) 9223372036854775808)
  simp only [wBox, wRow, ndo_some, nds, numB] at h1
  simp [Try.f92, hpW, wBox, wRow, ndo_some, nds, Nd.v, hn, hlt, e, h1, h2, numB]
  rfl
end Go.Proofs.Ytonaejfpiihfhaa

/- What the functions come to: the writer's lists and maps. -/
namespace Go.Proofs.Ytonaejfpiihfhaa
open Go Abs
set_option linter.unusedSimpArgs false
set_option linter.unusedVariables false
attribute [local simp] canonK canonAll canonSlot canonCell canonBox ownStep restrictTo pureCells pureRows reachL AObj.names List.range_succ appendA
/-- The value at a place has these bytes. -/
def RunsV (l : List Nd) (q : Nat) (vb : List UInt8) : Prop := ∀ bs : List UInt8, bs.length + vb.length ≤ 900000 → cl 61 [.ptr 0 0 0, .int .i64 q] (hpW (some l) bs false) = some (.ret (.tup []), hpW (some l) (bs ++ vb) true)
theorem value_W {l : List Nd} {q : Nat} {vb : List UInt8} (h : RunsV l q vb) {i k d bs mv sl hp} (hb : bs.length + vb.length ≤ 900000) (hik : i ≠ k) (h0 : aget hp i = some (wBox i k (some l))) (h1 : aget hp k = some (wRow bs mv)) : callV G cl d (.fn (.func 61) [] []) [.ptr i 0 0, .int .i64 q] ⟨sl, hp⟩ =
    some (.val (.tup []) ⟨sl.map (fun p => (p.1, p.2.kill k)), [(i, wBox i k (some l)), (k, wRow (bs ++ vb) true)] ++ hp.map (fun p => (p.1, p.2.kill k))⟩) := by
  have := callW (d := d) (sl := sl) (g := 61) (rest := [.int .i64 q]) rfl (by decide) rfl hik (by simpa using plain_int) plain_unit h0 h1 (h bs hb)
  simpa using this
def sl94 (kids : List Nat) (i : Nat) : Slots := [(0, .ptr 0 0 0), (11, .list 1 (intsL kids)), (12, .int .i64 kids.length), (13, .int .i64 i)]
set_option maxHeartbeats 8000000 in
theorem round94 (l : List Nd) (kids : List Nat) (hk : kids.length ≤ 1000) (i q : Nat) (hi : kids[i]? = some q) (vb bs : List UInt8) (hv : RunsV l q vb) (hb : bs.length + vb.length ≤ 900000) (mv : Bool) :
    rX 94 (lc Try.f94 0) (codeX G cl lp 94 (lc Try.f94 0) ⟨sl94 kids i, hpW (some l) bs mv⟩) = some (.normal, ⟨sl94 kids (i + 1), hpW (some l) (bs ++ vb) true⟩) := by
  have hlt : i < kids.length := (List.getElem?_eq_some_iff.1 hi).1
  have hw1 : IntKind.i64.wrap ((i : Int) + 1) = ((i + 1 : Nat) : Int) := by rw [i64_wrap (by omega) (by omega)]; omega
  have e : kids[i] = q := (List.getElem?_eq_some_iff.1 hi).2
  have h1 := fun d sl hp (h0 : aget hp 0 = some (wBox 0 1 (some l))) (h1 : aget hp 1 = some (wRow bs mv)) => value_W hv (d := d) (sl := sl) (hp := hp) hb (by decide) h0 h1
  simp only [wBox, wRow, ndo_some, nds] at h1
  have e' : (intsL kids)[i]? = some (.int .i64 q) := by simp [intsL, hi]
  simp [lc, loopsOf, Try.f94, sl94, hpW, wBox, wRow, ndo_some, nds, hlt, e, e', h1, hw1]
  simp [intsL, e, h1, hw1]
theorem exit94 (l : List Nd) (kids : List Nat) (bs : List UInt8) (mv : Bool) :
    rX 94 (lc Try.f94 0) (codeX G cl lp 94 (lc Try.f94 0) ⟨sl94 kids kids.length, hpW (some l) bs mv⟩) = some (.exit 0, ⟨sl94 kids kids.length ++ [(14, .bool false)], hpW (some l) bs mv⟩) := by
  simp [lc, loopsOf, Try.f94, sl94, hpW, wBox, wRow]
  done
def key1 (l : List Nd) (q : Nat) : List UInt8 := ((l[q - 1]?).map (·.text)).getD []
set_option maxHeartbeats 8000000 in
theorem round95 (l : List Nd) (kids : List Nat) (hk : kids.length ≤ 1000) (i q : Nat) (hi : kids[i]? = some q) (hq0 : 0 < q) (hq1 : q ≤ 1000) (n : Nd) (hn : l[q - 1]? = some n) (hs : n.text.length ≤ 100000) (vb bs : List UInt8) (hv : RunsV l q vb) (hb : bs.length + (1 + (txtB n.text).length + vb.length) ≤ 900000) (mv : Bool) :
    rX 95 (lc Try.f95 0) (codeX G cl lp 95 (lc Try.f95 0) ⟨sl94 kids i, hpW (some l) bs mv⟩) = some (.normal, ⟨sl94 kids (i + 1), hpW (some l) (bs ++ (1 :: txtB n.text ++ vb)) true⟩) := by
  have hlt : i < kids.length := (List.getElem?_eq_some_iff.1 hi).1
  have hlt2 := (List.getElem?_eq_some_iff.1 hn).1
  have e2 := (List.getElem?_eq_some_iff.1 hn).2
  have hw1 : IntKind.i64.wrap ((i : Int) + 1) = ((i + 1 : Nat) : Int) := by rw [i64_wrap (by omega) (by omega)]; omega
  have hw : IntKind.i64.wrap ((q : Int) - 1) = ((q - 1 : Nat) : Int) := by rw [i64_wrap (by omega) (by omega)]; omega
  have e : kids[i] = q := (List.getElem?_eq_some_iff.1 hi).2
  have ht := txt0_length n.text
  have h1 := fun d sl hp (h0 : aget hp 0 = some (wBox 0 1 (some l))) (h1 : aget hp 1 = some (wRow bs mv)) => byte_W (d := d) (sl := sl) (hp := hp) (b := 1) (by omega) (by decide) h0 h1
  have h2 := fun d sl hp mv (h0 : aget hp 0 = some (wBox 0 1 (some l))) (h1 : aget hp 1 = some (wRow (bs ++ [1]) mv)) => text_W (d := d) (sl := sl) (hp := hp) (s := n.text) (by omega) (by simp; omega) (by decide) h0 h1
  have h3 := fun d sl hp mv (h0 : aget hp 0 = some (wBox 0 1 (some l))) (h1 : aget hp 1 = some (wRow (bs ++ [1] ++ txtB n.text) mv)) => value_W hv (d := d) (sl := sl) (hp := hp) (by simp; omega) (by decide) h0 h1
  simp only [show bV 1 = .int .u8 1 from rfl] at h1
  simp only [wBox, wRow, ndo_some, nds] at h1 h2 h3
  have e' : (intsL kids)[i]? = some (.int .i64 q) := by simp [intsL, hi]
  have ea : bs ++ (1 :: txtB n.text ++ vb) = bs ++ [1] ++ txtB n.text ++ vb := by simp
  rw [ea]
  simp [lc, loopsOf, Try.f95, sl94, hpW, wBox, wRow, ndo_some, nds, hlt, e, e', h1, hw1]
  simp [intsL, e, h1, h2, h3, hw1, hw, hn, hlt2, e2, Nd.v]
  done
theorem exit95 (l : List Nd) (kids : List Nat) (bs : List UInt8) (mv : Bool) :
    rX 95 (lc Try.f95 0) (codeX G cl lp 95 (lc Try.f95 0) ⟨sl94 kids kids.length, hpW (some l) bs mv⟩) = some (.exit 0, ⟨sl94 kids kids.length ++ [(14, .bool false)], hpW (some l) bs mv⟩) := by
  simp [lc, loopsOf, Try.f95, sl94, hpW, wBox, wRow]
  done
/-- What some places have, one behind the other. -/
def allB (f : Nat → List UInt8) (kids : List Nat) : List UInt8 := (kids.map f).flatten
theorem allB_take {f : Nat → List UInt8} {kids : List Nat} {i q : Nat} (h : kids[i]? = some q) : allB f (kids.take (i + 1)) = allB f (kids.take i) ++ f q := by
  unfold allB
  rw [List.take_add_one, h]; simp
theorem allB_le {f : Nat → List UInt8} {kids : List Nat} {i : Nat} : (allB f (kids.take i)).length ≤ (allB f kids).length := by
  unfold allB
  conv => rhs; rw [← List.take_append_drop i kids]
  rw [List.map_append, List.flatten_append, List.length_append]; omega
theorem loop94 (l : List Nd) (f : Nat → List UInt8) (kids : List Nat) (hk : kids.length ≤ 1000) (hv : ∀ q ∈ kids, RunsV l q (f q)) (bs : List UInt8) (hb : bs.length + (allB f kids).length ≤ 900000) : ∀ (c i : Nat) (mv : Bool), i + c = kids.length →
    ∃ mv' sl, lp 94 (lc Try.f94 0) ⟨sl94 kids i, hpW (some l) (bs ++ allB f (kids.take i)) mv⟩ = some (.exit 0, ⟨(0, .ptr 0 0 0) :: sl, hpW (some l) (bs ++ allB f kids) mv'⟩) := by
  intro c
  induction c with
  | zero =>
    intro i mv hi
    obtain rfl : i = kids.length := by omega
    rw [List.take_of_length_le (Nat.le_refl _)]
    exact ⟨mv, _, loop_out (exit94 l kids _ mv) (by simp)⟩
  | succ c ih =>
    intro i mv hi
    have hlt : i < kids.length := by omega
    have hq : kids[i]? = some kids[i] := List.getElem?_eq_getElem hlt
    have hle := allB_le (f := f) (kids := kids) (i := i + 1)
    rw [allB_take hq, List.length_append] at hle
    have h := round94 l kids hk i _ hq (f kids[i]) (bs ++ allB f (kids.take i)) (hv _ (List.getElem_mem hlt)) (by simp; omega) mv
    rw [List.append_assoc, ← allB_take hq] at h
    obtain ⟨mv', sl, hx⟩ := ih (i + 1) true (by omega)
    exact ⟨mv', sl, loop_next h hx⟩
/-- A member's bytes: its key, and its value. -/
def memB (l : List Nd) (f : Nat → List UInt8) (q : Nat) : List UInt8 := 1 :: txtB (key1 l q) ++ f q
theorem loop95 (l : List Nd) (hl : ∀ n ∈ l, n.text.length ≤ 100000) (f : Nat → List UInt8) (kids : List Nat) (hk : kids.length ≤ 1000) (hq : ∀ q ∈ kids, 0 < q ∧ q ≤ 1000 ∧ q - 1 < l.length) (hv : ∀ q ∈ kids, RunsV l q (f q)) (bs : List UInt8) (hb : bs.length + (allB (memB l f) kids).length ≤ 900000) : ∀ (c i : Nat) (mv : Bool), i + c = kids.length →
    ∃ mv' sl, lp 95 (lc Try.f95 0) ⟨sl94 kids i, hpW (some l) (bs ++ allB (memB l f) (kids.take i)) mv⟩ = some (.exit 0, ⟨(0, .ptr 0 0 0) :: sl, hpW (some l) (bs ++ allB (memB l f) kids) mv'⟩) := by
  intro c
  induction c with
  | zero =>
    intro i mv hi
    obtain rfl : i = kids.length := by omega
    rw [List.take_of_length_le (Nat.le_refl _)]
    exact ⟨mv, _, loop_out (exit95 l kids _ mv) (by simp)⟩
  | succ c ih =>
    intro i mv hi
    have hlt : i < kids.length := by omega
    have hqi : kids[i]? = some kids[i] := List.getElem?_eq_getElem hlt
    have hle := allB_le (f := memB l f) (kids := kids) (i := i + 1)
    rw [allB_take hqi, List.length_append] at hle
    obtain ⟨q1, q2, q3⟩ := hq kids[i] (List.getElem_mem hlt)
    have hn : l[kids[i] - 1]? = some l[kids[i] - 1] := List.getElem?_eq_getElem q3
    have ht := hl _ (List.getElem_mem q3)
    have hm : (memB l f kids[i]).length = 1 + (txtB l[kids[i] - 1].text).length + (f kids[i]).length := by simp [memB, key1, hn]; omega
    have h := round95 l kids hk i _ hqi q1 q2 _ hn ht (f kids[i]) (bs ++ allB (memB l f) (kids.take i)) (hv _ (List.getElem_mem hlt)) (by simp; omega) mv
    have e : 1 :: txtB l[kids[i] - 1].text ++ f kids[i] = memB l f kids[i] := by simp [memB, key1, hn]
    rw [List.append_assoc, e, ← allB_take hqi] at h
    obtain ⟨mv', sl, hx⟩ := ih (i + 1) true (by omega)
    exact ⟨mv', sl, loop_next h hx⟩
end Go.Proofs.Ytonaejfpiihfhaa

/- What the functions come to: the writer's values. -/
namespace Go.Proofs.Ytonaejfpiihfhaa
open Go Abs
set_option linter.unusedSimpArgs false
set_option linter.unusedVariables false
attribute [local simp] canonK canonAll canonSlot canonCell canonBox ownStep restrictTo pureCells pureRows reachL AObj.names List.range_succ appendA
def spanK (l : List Nd) (a : Nat) : List Nat := ((valS l (l.length + 1) a).map (·.kids)).getD []
/-- A value's bytes. -/
def valB (l : List Nd) : Nat → Nat → List UInt8
  | 0, _ => []
  | k + 1, a => match l[a]? with
    | none => []
    | some n => u8B (n.kind + 1) :: (if n.kind = 1 then [u8B n.num] else if n.kind = 2 then numB n.num else if n.kind = 3 then txtB n.text
        else if n.kind = 4 then allB (valB l k) (spanK l a) ++ [0] else if n.kind = 5 then allB (memB l (valB l k)) (spanK l a) ++ [0] else [])
theorem kids_at {l : List Nd} (hr : ∀ n ∈ l, n.inR) (hc : checkS l = 0) {a : Nat} (ha : a < l.length) {d : Option Nat} {st : ASt} : callV G cl d (.fn (.func 25) [] []) [nds l, .int .i64 a] st = some (.val (.list 1 (intsL (spanK l a))) st) := by
  obtain ⟨s, h2, h3, h4⟩ := checkS_inner hc ha
  obtain ⟨h5, _, _⟩ := checkS_ok hc
  rw [kids_call (by omega) hr]
  have : kidsAt l a = some (spanK l a) := by simp [kidsAt, spanK, thereS, hc, ha, h2]
  rw [this]; rfl
set_option maxHeartbeats 8000000 in
theorem list_1 (l : List Nd) (hr : ∀ n ∈ l, n.inR) (hc : checkS l = 0) (a : Nat) (ha : a < l.length) (f : Nat → List UInt8) (hk : (spanK l a).length ≤ 1000) (hv : ∀ q ∈ spanK l a, RunsV l q (f q)) (bs : List UInt8) (hb : bs.length + (allB f (spanK l a)).length ≤ 900000) :
    cl 94 [.ptr 0 0 0, .int .i64 a] (hpW (some l) bs false) = some (.ret (.tup []), hpW (some l) (bs ++ (allB f (spanK l a) ++ [0])) true) := by
  refine fn_intro Try.func94 rfl (by simp) (by decide) rfl ?_
  have h25 := fun d st => kids_at hr hc ha (d := d) (st := st)
  obtain ⟨mv', sl, hlp⟩ := loop94 l f (spanK l a) hk hv bs hb _ 0 false (Nat.zero_add _)
  have h1 := fun d sl hp mv (h0 : aget hp 0 = some (wBox 0 1 (some l))) (h1 : aget hp 1 = some (wRow (bs ++ allB f (spanK l a)) mv)) => byte_W (d := d) (sl := sl) (hp := hp) (b := 0) (by simp; omega) (by decide) h0 h1
  simp only [show bV 0 = .int .u8 0 from rfl] at h1
  rw [List.take_zero, show allB f [] = [] from rfl, List.append_nil] at hlp
  simp [sl94, hpW, wBox, wRow, ndo_some, nds, lc, loopsOf, Try.f94] at hlp
  simp only [wBox, wRow, ndo_some, nds] at h1 h25
  rw [← List.append_assoc]
  simp [Try.f94, hpW, wBox, wRow, ndo_some, nds, h25, hlp, h1]
  rfl
set_option maxHeartbeats 8000000 in
theorem members_1 (l : List Nd) (hr : ∀ n ∈ l, n.inR) (hc : checkS l = 0) (a : Nat) (ha : a < l.length) (hl : ∀ n ∈ l, n.text.length ≤ 100000) (f : Nat → List UInt8) (hk : (spanK l a).length ≤ 1000) (hq : ∀ q ∈ spanK l a, 0 < q ∧ q ≤ 1000 ∧ q - 1 < l.length) (hv : ∀ q ∈ spanK l a, RunsV l q (f q)) (bs : List UInt8) (hb : bs.length + (allB (memB l f) (spanK l a)).length ≤ 900000) :
    cl 95 [.ptr 0 0 0, .int .i64 a] (hpW (some l) bs false) = some (.ret (.tup []), hpW (some l) (bs ++ (allB (memB l f) (spanK l a) ++ [0])) true) := by
  refine fn_intro Try.func95 rfl (by simp) (by decide) rfl ?_
  have h25 := fun d st => kids_at hr hc ha (d := d) (st := st)
  obtain ⟨mv', sl, hlp⟩ := loop95 l hl f (spanK l a) hk hq hv bs hb _ 0 false (Nat.zero_add _)
  have h1 := fun d sl hp mv (h0 : aget hp 0 = some (wBox 0 1 (some l))) (h1 : aget hp 1 = some (wRow (bs ++ allB (memB l f) (spanK l a)) mv)) => byte_W (d := d) (sl := sl) (hp := hp) (b := 0) (by simp; omega) (by decide) h0 h1
  simp only [show bV 0 = .int .u8 0 from rfl] at h1
  rw [List.take_zero, show allB (memB l f) [] = [] from rfl, List.append_nil] at hlp
  simp [sl94, hpW, wBox, wRow, ndo_some, nds, lc, loopsOf, Try.f95] at hlp
  simp only [wBox, wRow, ndo_some, nds] at h1 h25
  rw [← List.append_assoc]
  simp [Try.f95, hpW, wBox, wRow, ndo_some, nds, h25, hlp, h1]
  rfl
theorem first_args {g : FuncId} {d p rest st} : callV G cl d (.fn (.func g) [p] []) rest st = callV G cl d (.fn (.func g) [] []) (p :: rest) st := by
  simp [callV, extA, callA, callB]
@[simp] theorem ix120_0 {x0 x1 x2 x3 x4 x5 : AV} : indexv Try.prog 120 (.agg [x0, x1, x2, x3, x4, x5]) (.int .i64 0) = some x0 := by kernel_rfl
@[simp] theorem ix120_1 {x0 x1 x2 x3 x4 x5 : AV} : indexv Try.prog 120 (.agg [x0, x1, x2, x3, x4, x5]) (.int .i64 1) = some x1 := by kernel_rfl
@[simp] theorem ix120_2 {x0 x1 x2 x3 x4 x5 : AV} : indexv Try.prog 120 (.agg [x0, x1, x2, x3, x4, x5]) (.int .i64 2) = some x2 := by kernel_rfl
@[simp] theorem ix120_3 {x0 x1 x2 x3 x4 x5 : AV} : indexv Try.prog 120 (.agg [x0, x1, x2, x3, x4, x5]) (.int .i64 3) = some x3 := by kernel_rfl
@[simp] theorem ix120_4 {x0 x1 x2 x3 x4 x5 : AV} : indexv Try.prog 120 (.agg [x0, x1, x2, x3, x4, x5]) (.int .i64 4) = some x4 := by kernel_rfl
@[simp] theorem ix120_5 {x0 x1 x2 x3 x4 x5 : AV} : indexv Try.prog 120 (.agg [x0, x1, x2, x3, x4, x5]) (.int .i64 5) = some x5 := by kernel_rfl
set_option maxHeartbeats 8000000 in
theorem value_by (l : List Nd) (a : Nat) (n : Nd) (hn : l[a]? = some n) (c : Nat) (hc : c < 6) (hk : n.kind = c) (out bs : List UInt8) (mv' : Bool) (hb : bs.length + out.length ≤ 900000) (hx : G.ext (90 + c) = none) (hE : G.E (90 + c) = true)
    (hcall : cl (90 + c) [.ptr 0 0 0, .int .i64 a] (hpW (some l) (bs ++ [u8B (n.kind + 1)]) false) = some (.ret (.tup []), hpW (some l) (bs ++ [u8B (n.kind + 1)] ++ out) mv')) :
    cl 61 [.ptr 0 0 0, .int .i64 a] (hpW (some l) bs false) = some (.ret (.tup []), hpW (some l) (bs ++ u8B (n.kind + 1) :: out) true) := by
  refine fn_intro Try.func61 rfl (by simp) (by decide) rfl ?_
  have hlt := (List.getElem?_eq_some_iff.1 hn).1
  have e := (List.getElem?_eq_some_iff.1 hn).2
  have h1 := fun d sl hp (h0 : aget hp 0 = some (wBox 0 1 (some l))) (h1 : aget hp 1 = some (wRow bs false)) => byte_W (d := d) (sl := sl) (hp := hp) (b := u8B (n.kind + 1)) (by omega) (by decide) h0 h1
  have h2 := fun d sl hp mv (h0 : aget hp 0 = some (wBox 0 1 (some l))) (h1 : aget hp 1 = some (wRow (bs ++ [u8B (n.kind + 1)]) mv)) => callW (d := d) (sl := sl) (g := 90 + c) (rest := [.int .i64 a]) hE (Nat.lt_of_lt_of_le (show 90 + c < 96 by omega) (by decide)) hx (by decide) (by simpa using plain_int) plain_unit h0 h1 hcall
  rw [← u8V] at h1
  generalize u8B (n.kind + 1) = B at h1 h2 ⊢
  have ea : bs ++ B :: out = bs ++ [B] ++ out := by simp
  rw [ea]
  simp only [wBox, wRow, ndo_some, nds] at h1 h2
  match c, hc with
  | 0, _ =>
    have hk' : n.kind = 0 := hk
    rw [hk', show IntKind.u8.wrap (0 + 1) = 1 from rfl] at h1
    have w1 : IntKind.u8.wrap 0 = 0 := rfl
    have w2 : IntKind.u8.wrap 1 = 1 := rfl
    simp [Try.f61, hpW, wBox, wRow, ndo_some, nds, Nd.v, hn, hlt, e, h1, h2, hk', w1, w2, first_args]
    cases mv' <;> rfl
  | 1, _ =>
    have hk' : n.kind = 1 := hk
    rw [hk', show IntKind.u8.wrap (1 + 1) = 2 from rfl] at h1
    have w1 : IntKind.u8.wrap 1 = 1 := rfl
    have w2 : IntKind.u8.wrap 2 = 2 := rfl
    simp [Try.f61, hpW, wBox, wRow, ndo_some, nds, Nd.v, hn, hlt, e, h1, h2, hk', w1, w2, first_args]
    cases mv' <;> rfl
  | 2, _ =>
    have hk' : n.kind = 2 := hk
    rw [hk', show IntKind.u8.wrap (2 + 1) = 3 from rfl] at h1
    have w1 : IntKind.u8.wrap 2 = 2 := rfl
    have w2 : IntKind.u8.wrap 3 = 3 := rfl
    simp [Try.f61, hpW, wBox, wRow, ndo_some, nds, Nd.v, hn, hlt, e, h1, h2, hk', w1, w2, first_args]
    cases mv' <;> rfl
  | 3, _ =>
    have hk' : n.kind = 3 := hk
    rw [hk', show IntKind.u8.wrap (3 + 1) = 4 from rfl] at h1
    have w1 : IntKind.u8.wrap 3 = 3 := rfl
    have w2 : IntKind.u8.wrap 4 = 4 := rfl
    simp [Try.f61, hpW, wBox, wRow, ndo_some, nds, Nd.v, hn, hlt, e, h1, h2, hk', w1, w2, first_args]
    cases mv' <;> rfl
  | 4, _ =>
    have hk' : n.kind = 4 := hk
    rw [hk', show IntKind.u8.wrap (4 + 1) = 5 from rfl] at h1
    have w1 : IntKind.u8.wrap 4 = 4 := rfl
    have w2 : IntKind.u8.wrap 5 = 5 := rfl
    simp [Try.f61, hpW, wBox, wRow, ndo_some, nds, Nd.v, hn, hlt, e, h1, h2, hk', w1, w2, first_args]
    cases mv' <;> rfl
  | 5, _ =>
    have hk' : n.kind = 5 := hk
    rw [hk', show IntKind.u8.wrap (5 + 1) = 6 from rfl] at h1
    have w1 : IntKind.u8.wrap 5 = 5 := rfl
    have w2 : IntKind.u8.wrap 6 = 6 := rfl
    simp [Try.f61, hpW, wBox, wRow, ndo_some, nds, Nd.v, hn, hlt, e, h1, h2, hk', w1, w2, first_args]
    cases mv' <;> rfl
set_option maxHeartbeats 8000000 in
theorem value_by_G (l : List Nd) (a : Nat) (n : Nd) (hn : l[a]? = some n) (c : Nat) (hc : c < 6) (hk : n.kind = c) (out : List UInt8) (mv' : Bool) (hb : out.length ≤ 900000) (hx : G.ext (90 + c) = none) (hE : G.E (90 + c) = true)
    (hcall : cl (90 + c) [.ptr 0 0 0, .int .i64 a] (hpW (some l) [u8B (n.kind + 1)] false) = some (.ret (.tup []), hpW (some l) ([u8B (n.kind + 1)] ++ out) mv')) :
    cl 61 [.ptr 0 0 0, .int .i64 a] (hpG (some l)) = some (.ret (.tup []), hpW (some l) (u8B (n.kind + 1) :: out) true) := by
  refine fn_intro Try.func61 rfl (by simp) (by decide) rfl ?_
  have hlt := (List.getElem?_eq_some_iff.1 hn).1
  have e := (List.getElem?_eq_some_iff.1 hn).2
  have h1 := fun d sl hp mv (h0 : aget hp 0 = some (.box 87 (.agg [.nilp, .own 1, ndo (some l)]))) (h1 : aget hp 1 = some (wRow [] mv)) => byte_G (d := d) (i := 0) (k := 1) (sl := sl) (hp := hp) (b := u8B (n.kind + 1)) (by decide) h0 h1
  have h2 := fun d sl hp mv (h0 : aget hp 0 = some (wBox 0 1 (some l))) (h1 : aget hp 1 = some (wRow [u8B (n.kind + 1)] mv)) => callW (d := d) (sl := sl) (g := 90 + c) (rest := [.int .i64 a]) hE (Nat.lt_of_lt_of_le (show 90 + c < 96 by omega) (by decide)) hx (by decide) (by simpa using plain_int) plain_unit h0 h1 hcall
  rw [← u8V] at h1
  generalize u8B (n.kind + 1) = B at h1 h2 ⊢
  simp only [wBox, wRow, ndo_some, nds] at h1 h2
  match c, hc with
  | 0, _ =>
    have hk' : n.kind = 0 := hk
    rw [hk', show IntKind.u8.wrap (0 + 1) = 1 from rfl] at h1
    have w1 : IntKind.u8.wrap 0 = 0 := rfl
    have w2 : IntKind.u8.wrap 1 = 1 := rfl
    simp [Try.f61, hpG, hpW, wBox, wRow, ndo_some, nds, Nd.v, hn, hlt, e, h1, h2, hk', w1, w2, first_args]
    cases mv' <;> rfl
  | 1, _ =>
    have hk' : n.kind = 1 := hk
    rw [hk', show IntKind.u8.wrap (1 + 1) = 2 from rfl] at h1
    have w1 : IntKind.u8.wrap 1 = 1 := rfl
    have w2 : IntKind.u8.wrap 2 = 2 := rfl
    simp [Try.f61, hpG, hpW, wBox, wRow, ndo_some, nds, Nd.v, hn, hlt, e, h1, h2, hk', w1, w2, first_args]
    cases mv' <;> rfl
  | 2, _ =>
    have hk' : n.kind = 2 := hk
    rw [hk', show IntKind.u8.wrap (2 + 1) = 3 from rfl] at h1
    have w1 : IntKind.u8.wrap 2 = 2 := rfl
    have w2 : IntKind.u8.wrap 3 = 3 := rfl
    simp [Try.f61, hpG, hpW, wBox, wRow, ndo_some, nds, Nd.v, hn, hlt, e, h1, h2, hk', w1, w2, first_args]
    cases mv' <;> rfl
  | 3, _ =>
    have hk' : n.kind = 3 := hk
    rw [hk', show IntKind.u8.wrap (3 + 1) = 4 from rfl] at h1
    have w1 : IntKind.u8.wrap 3 = 3 := rfl
    have w2 : IntKind.u8.wrap 4 = 4 := rfl
    simp [Try.f61, hpG, hpW, wBox, wRow, ndo_some, nds, Nd.v, hn, hlt, e, h1, h2, hk', w1, w2, first_args]
    cases mv' <;> rfl
  | 4, _ =>
    have hk' : n.kind = 4 := hk
    rw [hk', show IntKind.u8.wrap (4 + 1) = 5 from rfl] at h1
    have w1 : IntKind.u8.wrap 4 = 4 := rfl
    have w2 : IntKind.u8.wrap 5 = 5 := rfl
    simp [Try.f61, hpG, hpW, wBox, wRow, ndo_some, nds, Nd.v, hn, hlt, e, h1, h2, hk', w1, w2, first_args]
    cases mv' <;> rfl
  | 5, _ =>
    have hk' : n.kind = 5 := hk
    rw [hk', show IntKind.u8.wrap (5 + 1) = 6 from rfl] at h1
    have w1 : IntKind.u8.wrap 5 = 5 := rfl
    have w2 : IntKind.u8.wrap 6 = 6 := rfl
    simp [Try.f61, hpG, hpW, wBox, wRow, ndo_some, nds, Nd.v, hn, hlt, e, h1, h2, hk', w1, w2, first_args]
    cases mv' <;> rfl
theorem kidsS_ge {val : Nat → Option Span} {l : List Nd} {b : Bool} {m : Nat} (hv : ∀ st s, val st = some s → st < s.stop) : ∀ {c i s last r}, kidsS val l b c i s last = some r → m ≤ s.stop → (∀ q ∈ s.kids, m ≤ q) → ∀ q ∈ r.kids, m ≤ q := by
  intro c
  induction c with
  | zero => intro i s last r hr h1 h2; cases hr; exact h2
  | succ c ih =>
    intro i s last r hr h1 h2
    simp only [kidsS] at hr
    rw [Option.bind_eq_some_iff] at hr; obtain ⟨p, hp, hr⟩ := hr
    rw [Option.bind_eq_some_iff] at hr; obtain ⟨kid, hk, hr⟩ := hr
    have hge := keyS_ge hp
    have hlt := hv _ _ hk
    refine ih hr (by simp only; omega) (fun q hq => ?_)
    rcases List.mem_append.1 hq with h | h
    · exact h2 q h
    · obtain rfl : q = p.1 := by simpa using h
      omega
theorem spanK_ok {l : List Nd} (hc : checkS l = 0) {a : Nat} (ha : a < l.length) : (spanK l a).length ≤ 1000 ∧ ∀ q ∈ spanK l a, a < q ∧ q < l.length ∧ q ≤ 1000 := by
  obtain ⟨s, h2, h3, h4⟩ := checkS_inner hc ha
  obtain ⟨h5, _, _⟩ := checkS_ok hc
  have e : spanK l a = s.kids := by simp [spanK, h2]
  rw [e]
  have hg := valS_goodK (by omega) h2
  refine ⟨hg.1, fun q hq => ?_⟩
  have h6 := kidsS_lt h2 hq
  obtain ⟨n, r, hn, hf, hr, rfl⟩ := valS_map h2
  have := kidsS_ge (m := a + 1) (fun st s hs => (valS_spec hs).1) hr (Nat.le_refl _) (by simp) q hq
  exact ⟨by omega, h6, by omega⟩
theorem fits_kind {n : Nd} (h : fitsS n = true) : n.kind = 0 ∨ n.kind = 1 ∨ n.kind = 2 ∨ n.kind = 3 ∨ n.kind = 4 ∨ n.kind = 5 := by
  unfold fitsS at h
  repeat' split at h
  all_goals first | (simp at h; done) | omega
theorem text_len {l : List Nd} (hc : checkS l = 0) {n : Nd} (hn : n ∈ l) : n.text.length ≤ 120 := by
  obtain ⟨_, h, _⟩ := checkS_ok hc
  unfold longS at h
  rw [List.any_eq_false] at h
  have := h n hn
  simpa using this
/-- What the function that goes by the kind writes. -/
def bodyB (l : List Nd) (f : Nat → List UInt8) (a : Nat) (n : Nd) : List UInt8 :=
  if n.kind = 1 then [u8B n.num] else if n.kind = 2 then numB n.num else if n.kind = 3 then txtB n.text
        else if n.kind = 4 then allB f (spanK l a) ++ [0] else if n.kind = 5 then allB (memB l f) (spanK l a) ++ [0] else []
theorem valB_succ {l : List Nd} {k a : Nat} {n : Nd} (hn : l[a]? = some n) : valB l (k + 1) a = u8B (n.kind + 1) :: bodyB l (valB l k) a n := by simp only [valB, hn, bodyB]
theorem body_runs (l : List Nd) (hr : ∀ n ∈ l, n.inR) (hc : checkS l = 0) (f : Nat → List UInt8) (a : Nat) (n : Nd) (hn : l[a]? = some n) (hv : ∀ q ∈ spanK l a, RunsV l q (f q)) :
    ∃ c < 6, n.kind = (c : Nat) ∧ G.ext (90 + c) = none ∧ G.E (90 + c) = true ∧ ∃ mv, ∀ bs : List UInt8, bs.length + (bodyB l f a n).length ≤ 900000 → cl (90 + c) [.ptr 0 0 0, .int .i64 a] (hpW (some l) bs false) = some (.ret (.tup []), hpW (some l) (bs ++ bodyB l f a n) mv) := by
  have ha := (List.getElem?_eq_some_iff.1 hn).1
  have hm : n ∈ l := List.mem_of_getElem? hn
  obtain ⟨s, h2, h3, h4⟩ := checkS_inner hc ha
  obtain ⟨n', r, hn', hf, _, _⟩ := valS_map h2
  obtain rfl : n = n' := by rw [hn] at hn'; exact Option.some.inj hn'
  have ht := text_len hc hm
  obtain ⟨g1, g2⟩ := spanK_ok hc ha
  rcases fits_kind hf with h | h | h | h | h | h
  · refine ⟨0, by omega, h, rfl, E90, false, fun bs hb => ?_⟩
    have e : bodyB l f a n = [] := by simp [bodyB, h]
    rw [e, List.append_nil]; exact null_1 l bs a
  · refine ⟨1, by omega, h, rfl, E91, true, fun bs hb => ?_⟩
    have e : bodyB l f a n = [u8B n.num] := by simp [bodyB, h]
    rw [e]; exact bool_1 l bs (by omega) a n hn
  · refine ⟨2, by omega, h, rfl, E92, true, fun bs hb => ?_⟩
    have e : bodyB l f a n = numB n.num := by simp [bodyB, h]
    rw [e]; exact num_1 l bs a n hn (by omega)
  · refine ⟨3, by omega, h, rfl, E93, true, fun bs hb => ?_⟩
    have e : bodyB l f a n = txtB n.text := by simp [bodyB, h]
    rw [e]; exact word_1 l bs a n hn (by omega) (by omega)
  · refine ⟨4, by omega, h, rfl, E94, true, fun bs hb => ?_⟩
    have e : bodyB l f a n = allB f (spanK l a) ++ [0] := by simp [bodyB, h]
    rw [e] at hb ⊢; exact list_1 l hr hc a ha f g1 hv bs (by simp at hb; omega)
  · refine ⟨5, by omega, h, rfl, E95, true, fun bs hb => ?_⟩
    have e : bodyB l f a n = allB (memB l f) (spanK l a) ++ [0] := by simp [bodyB, h]
    rw [e] at hb ⊢
    exact members_1 l hr hc a ha (fun m hm => by have := text_len hc hm; omega) f g1 (fun q hq => by have := g2 q hq; omega) hv bs (by simp at hb; omega)
theorem value_all (l : List Nd) (hr : ∀ n ∈ l, n.inR) (hc : checkS l = 0) : ∀ k a, l.length - a ≤ k → a < l.length → RunsV l a (valB l k a) := by
  intro k
  induction k with
  | zero => intro a h1 h2; omega
  | succ k ih =>
    intro a h1 h2 bs hb
    have hn : l[a]? = some l[a] := List.getElem?_eq_getElem h2
    rw [valB_succ hn] at hb ⊢
    simp only [List.length_cons] at hb
    obtain ⟨c, hc6, hk, hx, hE, mv, hcall⟩ := body_runs l hr hc (valB l k) a _ hn (fun q hq => by
      obtain ⟨q1, q2, q3⟩ := (spanK_ok hc h2).2 q hq
      exact ih q (by omega) q2)
    exact value_by l a _ hn c hc6 hk _ bs mv (by omega) hx hE (hcall _ (by simp; omega))
theorem value_first (l : List Nd) (hr : ∀ n ∈ l, n.inR) (hc : checkS l = 0) (h2 : 0 < l.length) (hb : (valB l (l.length + 1) 0).length ≤ 900000) : cl 61 [.ptr 0 0 0, .int .i64 0] (hpG (some l)) = some (.ret (.tup []), hpW (some l) (valB l (l.length + 1) 0) true) := by
  have hn : l[0]? = some l[0] := List.getElem?_eq_getElem h2
  rw [valB_succ hn] at hb ⊢
  simp only [List.length_cons] at hb
  obtain ⟨c, hc6, hk, hx, hE, mv, hcall⟩ := body_runs l hr hc (valB l l.length) 0 _ hn (fun q hq => by
    obtain ⟨q1, q2, q3⟩ := (spanK_ok hc h2).2 q hq
    exact value_all l hr hc _ q (by omega) q2)
  exact value_by_G l 0 _ hn c hc6 hk _ mv (by omega) hx hE (hcall _ (by simp; omega))
end Go.Proofs.Ytonaejfpiihfhaa

/- What the functions come to: code.Put, code.Join. -/
namespace Go.Proofs.Ytonaejfpiihfhaa
open Go Abs
set_option linter.unusedSimpArgs false
set_option linter.unusedVariables false
attribute [local simp] canonK canonAll canonSlot canonCell canonBox ownStep restrictTo pureCells pureRows reachL AObj.names List.range_succ appendA
def hpS (p : AV) (l : Option (List Nd)) : Heap := [(0, .box 87 (.agg [p, .undef, ndo l])), (1, wRow [] true)]
theorem string_W1 (l : Option (List Nd)) (bs : List UInt8) (hb : bs.length ≤ 4000000) : cl 62 [.ptr 0 0 0] (hpW l bs false) = some (.ret (.str bs), hpS (.ptr 0 0 0) l) := by
  refine call_prim (p := strP 5) (by decide) (by rfl) ?_
  have hL : bs.length ≤ LIM := by unfold LIM; omega
  have h := bytesR_map bs
  simp only [bysL, hpW, wBox, wRow, hpS]
  simp [strP, cellAt, AV.cells, hL, h, ASt.killn, hput, hmod]
  done
theorem string_G1 (l : Option (List Nd)) : cl 62 [.ptr 0 0 0] (hpG l) = some (.ret (.str []), hpS .nilp l) := by
  refine call_prim (p := strP 5) (by decide) (by rfl) ?_
  have hL : 0 ≤ LIM := by unfold LIM; omega
  simp only [bysL, hpG, wRow, hpS]
  simp [strP, cellAt, AV.cells, bytesR?, ASt.killn, hput, hmod]
  done
theorem string_W {i k : Nat} {d : Option Nat} {l : Option (List Nd)} {bs : List UInt8} {mv : Bool} {sl : Slots} {hp : Heap} (hb : bs.length ≤ 4000000) (hik : i ≠ k) (h0 : aget hp i = some (wBox i k l)) (h1 : aget hp k = some (wRow bs mv)) :
    callV G cl d (.fn (.func 62) [] []) [.ptr i 0 0] ⟨sl, hp⟩ = some (.val (.str bs) ⟨sl.map (fun p => (p.1, p.2.kill k)), [(i, .box 87 (.agg [.ptr i 0 0, .undef, ndo l])), (k, wRow [] true)] ++ hp.map (fun p => (p.1, p.2.kill k))⟩) := by
  have hki : k ≠ i := fun e => hik e.symm
  have hkl : aget (hp.map fun p => (p.1, p.2.kill k)) k = some (wRow bs mv) := by rw [aget_mapv, h1]; rfl
  refine callV_of (pre := [.ptr i 0 0]) (st1 := ⟨sl, hp⟩) (ns := [i, k]) (y := (.ret (.str bs), hpS (.ptr 0 0 0) l)) (st3 := ⟨sl.map (fun p => (p.1, p.2.kill k)), [(i, .box 87 (.agg [.ptr i 0 0, .undef, ndo l])), (k, wRow [] true)] ++ hp.map (fun p => (p.1, p.2.kill k))⟩) E62 (by decide) rfl ?_ ?_ ?_ ?_ ?_ ?_ ?_
  · simp [prepL]
  · simp [prepRows, ASt.fix, hfix]
  · simp [AV.namesL, reachL, h0, h1, wBox, wRow, hik, hki]
  · simp [h0, h1]
  · simp [AV.renL, subHeap, zipIx, toMap, h0, h1, wBox, wRow, hik, hki, AObj.unmv]
    exact string_W1 l bs hb
  · simp [afterCall, afterHeap, zipIx, movedOf, killAll, backMap, backName, hpS, wBox, wRow, AObj.moved, AObj.isRow, AObj.ormv, h0, h1, hik, hki, hkl, ASt.killn]
  · simp [answered]
theorem string_G {i k : Nat} {d : Option Nat} {l : Option (List Nd)} {mv : Bool} {sl : Slots} {hp : Heap} (hik : i ≠ k) (h0 : aget hp i = some (.box 87 (.agg [.nilp, .own k, ndo l]))) (h1 : aget hp k = some (wRow [] mv)) :
    callV G cl d (.fn (.func 62) [] []) [.ptr i 0 0] ⟨sl, hp⟩ = some (.val (.str []) ⟨sl.map (fun p => (p.1, p.2.kill k)), [(i, .box 87 (.agg [.nilp, .undef, ndo l])), (k, wRow [] true)] ++ hp.map (fun p => (p.1, p.2.kill k))⟩) := by
  have hki : k ≠ i := fun e => hik e.symm
  have hkl : aget (hp.map fun p => (p.1, p.2.kill k)) k = some (wRow [] mv) := by rw [aget_mapv, h1]; rfl
  refine callV_of (pre := [.ptr i 0 0]) (st1 := ⟨sl, hp⟩) (ns := [i, k]) (y := (.ret (.str []), hpS .nilp l)) (st3 := ⟨sl.map (fun p => (p.1, p.2.kill k)), [(i, .box 87 (.agg [.nilp, .undef, ndo l])), (k, wRow [] true)] ++ hp.map (fun p => (p.1, p.2.kill k))⟩) E62 (by decide) rfl ?_ ?_ ?_ ?_ ?_ ?_ ?_
  · simp [prepL]
  · simp [prepRows, ASt.fix, hfix]
  · simp [AV.namesL, reachL, h0, h1, wBox, wRow, hik, hki]
  · simp [h0, h1]
  · simp [AV.renL, subHeap, zipIx, toMap, h0, h1, wBox, wRow, hik, hki, AObj.unmv]
    exact string_G1 l
  · simp [afterCall, afterHeap, zipIx, movedOf, killAll, backMap, backName, hpS, wBox, wRow, AObj.moved, AObj.isRow, AObj.ormv, h0, h1, hik, hki, hkl, ASt.killn]
  · simp [answered]

/-- A value's bytes, if it is one. -/
def putB (l : List Nd) : List UInt8 := valB l (l.length + 1) 0
set_option maxHeartbeats 8000000 in
theorem put_eq (l : List Nd) (hb : l.length ≤ 9223372036854775806) (hr : ∀ n ∈ l, n.inR) (hB : checkS l = 0 → (putB l).length ≤ 900000) : cl 36 [nds l] [] = some (.ret (.tup (if checkS l = 0 then [.str (putB l), .int .i64 0] else [.str [], .int .i64 (checkS l)])), []) := by
  refine fn_intro Try.func36 rfl (by simp) (by decide) rfl ?_
  have h19 := fun d st => check_call hb hr (d := d) (st := st)
  simp only [nds] at h19
  by_cases hc : checkS l = 0
  · have hpos : 0 < l.length := by
      obtain ⟨_, _, s, h3, _⟩ := checkS_ok hc
      obtain ⟨h5, h6⟩ := wholeS_some h3
      have := valS_spec h5; omega
    have hv := fun d sl hp mv (h0 : aget hp 1013 = some (.box 87 (.agg [.nilp, .own 201301, ndo (some l)]))) (h1 : aget hp 201301 = some (wRow [] mv)) => callG (d := d) (sl := sl) (g := 61) (rest := [.int .i64 0]) E61 (by decide) rfl (by decide) (by simpa using plain_int) plain_unit h0 h1 (value_first l hr hc hpos (hB hc))
    have h62 := fun d sl hp mv (h0 : aget hp 1013 = some (wBox 1013 201301 (some l))) (h1 : aget hp 201301 = some (wRow (valB l (l.length + 1) 0) mv)) => string_W (d := d) (sl := sl) (by have := hB hc; unfold putB at this; omega) (by decide) h0 h1
    simp only [wBox, wRow, ndo_some, nds] at hv h62
    simp only [bysL_nil] at hv
    rw [if_pos hc]
    simp [Try.f36, nds, h19, hc, hv, h62, putB]
    exact end_is (.inr rfl) (by simp; rfl) rfl rfl
  · rw [if_neg hc]
    simp [Try.f36, nds, h19, hc]
    exact end_is (.inr rfl) (by simp; rfl) rfl rfl
theorem ndo_none : ndo none = .nils := rfl
/-- Texts as bytes. -/
def oneB (s : List UInt8) : List UInt8 := 4 :: txtB s
def joinB (t : List (List UInt8)) : List UInt8 := (t.map oneB).flatten
def sl39 (t : List (List UInt8)) (i : Nat) : Slots := [(3, .ptr 1007 0 0), (8, .list 1 (strsL t)), (9, .int .i64 t.length), (10, .int .i64 i)]
def hp39 (bs : List UInt8) (mv : Bool) : Heap := [(1007, wBox 1007 200701 none), (200701, wRow bs mv)]
def hp39G (mv : Bool) : Heap := [(1007, .box 87 (.agg [.nilp, .own 200701, .nils])), (200701, wRow [] mv)]
@[simp] theorem strsL_len {t : List (List UInt8)} : (strsL t).length = t.length := by simp [strsL]
set_option maxHeartbeats 8000000 in
theorem join_round (t : List (List UInt8)) (ht : t.length ≤ 1000) (i : Nat) (s : List UInt8) (hi : t[i]? = some s) (hs : s.length ≤ 100000) (bs : List UInt8) (hb : bs.length ≤ 2000000) (mv : Bool) :
    rX 39 (lc Try.f39 0) (codeX G cl lp 39 (lc Try.f39 0) ⟨sl39 t i, hp39 bs mv⟩) = some (.normal, ⟨sl39 t (i + 1), hp39 (bs ++ oneB s) true⟩) := by
  have hlt : i < t.length := (List.getElem?_eq_some_iff.1 hi).1
  have e : t[i] = s := (List.getElem?_eq_some_iff.1 hi).2
  have hw1 : IntKind.i64.wrap ((i : Int) + 1) = ((i + 1 : Nat) : Int) := by rw [i64_wrap (by omega) (by omega)]; omega
  have h1 := fun d sl hp (h0 : aget hp 1007 = some (wBox 1007 200701 none)) (h1 : aget hp 200701 = some (wRow bs mv)) => byte_W (d := d) (sl := sl) (hp := hp) (b := 4) (by omega) (by decide) h0 h1
  have h2 := fun d sl hp mv (h0 : aget hp 1007 = some (wBox 1007 200701 none)) (h1 : aget hp 200701 = some (wRow (bs ++ [4]) mv)) => text_W (d := d) (sl := sl) (hp := hp) (s := s) (by omega) (by simp; omega) (by decide) h0 h1
  simp only [show bV 4 = .int .u8 4 from rfl] at h1
  simp only [wBox, wRow, ndo_none] at h1 h2
  have e' : (strsL t)[i]? = some (.str s) := by simp [strsL, hi]
  have ea : bs ++ oneB s = bs ++ [4] ++ txtB s := by simp [oneB]
  rw [ea]
  simp [lc, loopsOf, Try.f39, sl39, hp39, wBox, wRow, ndo_none, hlt, e', e, h1, h2, hw1]
  simp [strsL, e, h1, h2, hw1]
  done
set_option maxHeartbeats 8000000 in
theorem join_round0 (t : List (List UInt8)) (ht : t.length ≤ 1000) (s : List UInt8) (hi : t[0]? = some s) (hs : s.length ≤ 100000) (mv : Bool) :
    rX 39 (lc Try.f39 0) (codeX G cl lp 39 (lc Try.f39 0) ⟨sl39 t 0, hp39G mv⟩) = some (.normal, ⟨sl39 t 1, hp39 (oneB s) true⟩) := by
  have hlt : 0 < t.length := (List.getElem?_eq_some_iff.1 hi).1
  have e : t[0] = s := (List.getElem?_eq_some_iff.1 hi).2
  have h1 := fun d sl hp mv (h0 : aget hp 1007 = some (.box 87 (.agg [.nilp, .own 200701, ndo none]))) (h1 : aget hp 200701 = some (wRow [] mv)) => byte_G (d := d) (sl := sl) (hp := hp) (b := 4) (by decide) h0 h1
  have h2 := fun d sl hp mv (h0 : aget hp 1007 = some (wBox 1007 200701 none)) (h1 : aget hp 200701 = some (wRow ([4]) mv)) => text_W (d := d) (sl := sl) (hp := hp) (s := s) (by omega) (by simp; omega) (by decide) h0 h1
  simp only [show bV 4 = .int .u8 4 from rfl] at h1
  simp only [wBox, wRow, ndo_none, bysL_nil] at h1 h2
  have e' : (strsL t)[0]? = some (.str s) := by simp [strsL, hi]
  have ea : oneB s = [4] ++ txtB s := by simp [oneB]
  rw [ea]
  simp [lc, loopsOf, Try.f39, sl39, hp39, hp39G, wBox, wRow, ndo_none, hlt, e', e, h1, h2]
  simp [strsL, e, h1, h2]
  rfl
theorem join_exit (t : List (List UInt8)) (hp : Heap) (hh : (∃ mv, hp = hp39G mv) ∨ ∃ bs mv, hp = hp39 bs mv) : rX 39 (lc Try.f39 0) (codeX G cl lp 39 (lc Try.f39 0) ⟨sl39 t t.length, hp⟩) = some (.exit 0, ⟨sl39 t t.length ++ [(11, .bool false)], hp⟩) := by
  rcases hh with ⟨mv, rfl⟩ | ⟨bs, mv, rfl⟩ <;> simp [lc, loopsOf, Try.f39, sl39, hp39, hp39G, wBox, wRow, ndo_none]
theorem join_loop (t : List (List UInt8)) (ht : t.length ≤ 1000) (hs : ∀ s ∈ t, s.length ≤ 100000) (hb : (joinB t).length ≤ 2000000) : ∀ (c i : Nat) (mv : Bool), i + c = t.length →
    ∃ mv' sl, lp 39 (lc Try.f39 0) ⟨sl39 t i, hp39 (joinB (t.take i)) mv⟩ = some (.exit 0, ⟨(3, .ptr 1007 0 0) :: sl, hp39 (joinB t) mv'⟩) := by
  intro c
  induction c with
  | zero =>
    intro i mv hi
    obtain rfl : i = t.length := by omega
    rw [List.take_of_length_le (Nat.le_refl _)]
    exact ⟨mv, _, loop_out (join_exit t _ (.inr ⟨_, _, rfl⟩)) (by simp)⟩
  | succ c ih =>
    intro i mv hi
    have hlt : i < t.length := by omega
    have hq : t[i]? = some t[i] := List.getElem?_eq_getElem hlt
    have e : joinB (t.take i) ++ oneB t[i] = joinB (t.take (i + 1)) := by
      unfold joinB; rw [List.take_add_one, hq, Option.toList_some, List.map_append, List.flatten_append]; simp only [List.map_cons, List.map_nil, List.flatten_cons, List.flatten_nil, List.append_nil]
    have hle : (joinB (t.take i)).length ≤ (joinB t).length := by
      unfold joinB
      conv => rhs; rw [← List.take_append_drop i t]
      rw [List.map_append, List.flatten_append, List.length_append]; omega
    have h := join_round t ht i _ hq (hs _ (List.getElem_mem hlt)) (joinB (t.take i)) (by omega) mv
    rw [e] at h
    obtain ⟨mv', sl, hx⟩ := ih (i + 1) true (by omega)
    exact ⟨mv', sl, loop_next h hx⟩
theorem join_loop0 (t : List (List UInt8)) (ht : t.length ≤ 1000) (hs : ∀ s ∈ t, s.length ≤ 100000) (hb : (joinB t).length ≤ 2000000) (mv : Bool) :
    ∃ mv' sl, lp 39 (lc Try.f39 0) ⟨sl39 t 0, hp39G mv⟩ = some (.exit 0, ⟨(3, .ptr 1007 0 0) :: sl, if t = [] then hp39G mv else hp39 (joinB t) mv'⟩) := by
  cases t with
  | nil => exact ⟨mv, _, loop_out (join_exit [] _ (.inl ⟨mv, rfl⟩)) (by simp)⟩
  | cons s t =>
    have h := join_round0 (s :: t) ht s rfl (hs s (by simp)) mv
    obtain ⟨mv', sl, hx⟩ := join_loop (s :: t) ht hs hb t.length 1 true (by simp; omega)
    rw [show joinB ((s :: t).take 1) = oneB s from by simp [joinB]] at hx
    exact ⟨mv', sl, by rw [if_neg (by simp)]; exact loop_next h hx⟩
set_option maxHeartbeats 8000000 in
theorem join_eq (t : List (List UInt8)) (ht : t.length ≤ 1000) (hs : ∀ s ∈ t, s.length ≤ 100000) (hb : (joinB t).length ≤ 2000000) : cl 39 [.list 1 (strsL t)] [] = some (.ret (.str (joinB t)), []) := by
  refine fn_intro Try.func39 rfl (by simp) (by decide) rfl ?_
  obtain ⟨mv', sl, hlp⟩ := join_loop0 t ht hs hb false
  by_cases h0 : t = []
  · have h62 := fun d sl hp mv (h0 : aget hp 1007 = some (.box 87 (.agg [.nilp, .own 200701, ndo none]))) (h1 : aget hp 200701 = some (wRow [] mv)) => string_G (d := d) (sl := sl) (by decide) h0 h1
    simp only [wBox, wRow, ndo_none, bysL_nil] at h62
    subst h0
    simp [sl39, hp39G, wBox, wRow, ndo_none, lc, loopsOf, Try.f39] at hlp
    simp [Try.f39, hlp, h62]
    exact end_is (.inr rfl) (by simp; rfl) rfl rfl
  · have h62 := fun d sl hp mv (h0 : aget hp 1007 = some (wBox 1007 200701 none)) (h1 : aget hp 200701 = some (wRow (joinB t) mv)) => string_W (d := d) (sl := sl) (by omega) (by decide) h0 h1
    simp only [wBox, wRow, ndo_none, bysL_nil] at h62
    rw [if_neg h0] at hlp
    simp [sl39, hp39, hp39G, wBox, wRow, ndo_none, lc, loopsOf, Try.f39] at hlp
    simp [Try.f39, hlp, h62]
    exact end_is (.inr rfl) (by simp; rfl) rfl rfl
end Go.Proofs.Ytonaejfpiihfhaa
