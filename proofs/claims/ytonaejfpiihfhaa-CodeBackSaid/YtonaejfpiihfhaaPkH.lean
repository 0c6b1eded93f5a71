/- What the functions come to: texts that are the same; the document's Keys and Member. What the functions come to: tree.Member. What the functions come to: slices.Concat, tree.checked, tree.List. -/
import Derived.Test.YtonaejfpiihfhaaPkG

/- What the functions come to: texts that are the same; the document's Keys and Member. -/
namespace Go.Proofs.Ytonaejfpiihfhaa
open Go Abs
set_option linter.unusedSimpArgs false
set_option linter.unusedVariables false

@[simp high] theorem rowV_len {hp : Heap} {e : TypeId} {l : List Nat} : lenD hp (some (.slice e)) (rowV l) = some (.int .i64 l.length) := by
  unfold rowV
  split
  · rename_i h; subst h; rfl
  · simp [intsL]

/-! Texts -/
set_option maxHeartbeats 8000000 in
theorem texts_loop (a : List (List UInt8)) (hb : a.length ≤ 9223372036854775806) : ∃ sl, lp 27 (lc Try.f27 0) { sl := [(0, .list 1 (strsL a)), (1, .list 1 (strsL a)), (5, .int .i64 0)], hp := [] } = some (.exit 0, { sl, hp := [] }) := by
  have := for_loop (f := 27) (c := lc Try.f27 0) (n := a.length) (σ := fun i => { sl := [(0, .list 1 (strsL a)), (1, .list 1 (strsL a)), (5, .int .i64 (i : Int))], hp := [] }) (P := fun i => True)
    (Q := fun x s => x = .exit 0 ∧ ∃ sl, s = { sl, hp := [] }) (fun i hi hp => .inl ⟨?_, trivial⟩) (fun hp => ?_) 0 (by omega) trivial
  · obtain ⟨x, s, h, rfl, sl, rfl⟩ := this
    exact ⟨sl, h⟩
  · obtain ⟨n, hn⟩ : ∃ n, a[i]? = some n := ⟨a[i], List.getElem?_eq_getElem hi⟩
    have hw : IntKind.i64.wrap ((i : Int) + 1) = (i : Int) + 1 := i64_wrap (by omega) (by omega)
    simp [lc, loopsOf, Try.f27, strsL, hi, hn, hw]
  · exact ⟨.exit 0, ⟨[(0, .list 1 (strsL a)), (1, .list 1 (strsL a)), (5, .int .i64 a.length), (14, .bool false)], []⟩, by simp [lc, loopsOf, Try.f27, strsL], by simp, rfl, _, rfl⟩
theorem texts_eq (a : List (List UInt8)) (hb : a.length ≤ 9223372036854775806) : cl 27 [.list 1 (strsL a), .list 1 (strsL a)] [] = some (.ret (.bool true), []) := by
  obtain ⟨sl, h⟩ := texts_loop a hb
  refine fn_intro Try.func27 rfl (by simp) (by decide) rfl ?_
  simp [lc, loopsOf, Try.f27] at h
  simp [Try.f27, h]
  exact end_is (.inr rfl) (by simp; rfl) rfl rfl
theorem texts_nil {x y : AV} (hx : x = .nils ∨ x = .list 1 []) (hy : y = .nils ∨ y = .list 1 []) : cl 27 [x, y] [] = some (.ret (.bool true), []) := by
  have lp0 : ∀ st, (codeX G cl lp 27 (lc Try.f27 0) st = some (.exit 0, { sl := [(0, x), (1, y), (5, .int .i64 0), (14, .bool false)], hp := [] })) → lp 27 (lc Try.f27 0) st = some (.exit 0, { sl := [(0, x), (1, y), (5, .int .i64 0), (14, .bool false)], hp := [] }) := fun st h => loop_out (by rw [h]; rfl) (by simp)
  have h := lp0 { sl := [(0, x), (1, y), (5, .int .i64 0)], hp := [] } (by rcases hx with rfl | rfl <;> rcases hy with rfl | rfl <;> simp [lc, loopsOf, Try.f27])
  refine fn_intro Try.func27 rfl (by simp) (by decide) rfl ?_
  simp [lc, loopsOf, Try.f27] at h
  rcases hx with rfl | rfl <;> rcases hy with rfl | rfl <;> simp [Try.f27, h] <;> exact end_is (.inr rfl) (by simp; rfl) rfl rfl

@[simp] theorem strsL_nil : strsL [] = [] := rfl
/-! The document's Keys -/
def rkeysV (l : List Nd) (a : Int) : AV := if checkS l = 0 then .list 1 (strsL (keysAt l a)) else .nils
theorem rkeysV_names {l : List Nd} {a : Int} : (rkeysV l a).names = [] := by unfold rkeysV; split <;> rfl
theorem keysAt_check {l : List Nd} {a : Int} (h : keysAt l a ≠ []) : checkS l = 0 := by
  unfold keysAt at h
  split at h
  · rename_i hc
    rw [Bool.and_eq_true] at hc
    exact (thereS_nat hc.1).1
  · exact absurd rfl h
theorem texts_keys {l : List Nd} {a : Int} (hb : (keysAt l a).length ≤ 1000) {d : Option Nat} {st : ASt} : callV G cl d (.fn (.func 27) [] []) [strsV (keysAt l a), rkeysV l a] st = some (.val (.bool true) st) := by
  have hn : AV.namesL [strsV (keysAt l a), rkeysV l a] = [] := by unfold strsV rkeysV; split <;> split <;> rfl
  refine callV_ret (v := .bool true) E27 (by decide) ext27 rfl hn ?_ rfl
  by_cases h : keysAt l a = []
  · unfold strsV rkeysV
    rw [if_pos h]
    split
    · rw [h]; exact texts_nil (.inl rfl) (.inr rfl)
    · exact texts_nil (.inl rfl) (.inl rfl)
  · unfold strsV rkeysV
    rw [if_neg h, if_pos (keysAt_check h)]
    exact texts_eq _ (by omega)

def σ29 (l : List Nd) (sv : AV) (out : List (List UInt8)) (mv : Bool) (i : Nat) : ASt :=
  ⟨[(0, nds l), (5, .own 5005), (6, .ptr 1006 0 0), (7, .int .i64 i)], [(1006, .box 64 sv), (5005, .row 1 (strsL out) false ⟨mv, 9⟩)]⟩
-- What a loop's head is unfolded by, where there is memory.
attribute [local simp] canonK canonAll canonSlot canonCell canonBox ownStep restrictTo pureCells pureRows reachL AObj.names List.range_succ appendA seenV
set_option maxHeartbeats 8000000 in
theorem rkeys_round (l : List Nd) (e d : Int) (b : Bool) (ks keys : List Nat) (out : List (List UInt8)) (ho : out.length ≤ 1000) (mv : Bool) (i q : Nat) (n : Nd) (hk : keys.length ≤ 1000) (hi : keys[i]? = some q) (hq : l[q]? = some n) :
    rX 29 (lc Try.f29 0) (codeX G cl lp 29 (lc Try.f29 0) (σ29 l (seenV e d b ks keys) out mv i)) = some (.normal, σ29 l (seenV e d b ks keys) (out ++ [n.text]) true (i + 1)) := by
  have hlt : i < keys.length := (List.getElem?_eq_some_iff.1 hi).1
  have hw : IntKind.i64.wrap ((i : Int) + 1) = (i : Int) + 1 := i64_wrap (by omega) (by omega)
  have hL : out.length + 1 ≤ LIM := by unfold LIM; omega
  have hx : ∀ hp, indexD Try.prog hp (some (.slice 3)) (rowV keys) (i : Int) = some (.ep (.int .i64 (q : Int)) 0) := fun hp => rowV_index hi
  simp [lc, loopsOf, Try.f29, σ29]
  simp [hlt, nds, hx, hq, Nd.v, hw, hL, strsL]
theorem rkeys_exit (l : List Nd) (e d : Int) (b : Bool) (ks keys : List Nat) (out : List (List UInt8)) (mv : Bool) (i : Nat) (hi : keys.length ≤ i) :
    rX 29 (lc Try.f29 0) (codeX G cl lp 29 (lc Try.f29 0) (σ29 l (seenV e d b ks keys) out mv i)) = some (.exit 0, ⟨[(0, nds l), (5, .own 5005), (6, .ptr 1006 0 0), (7, .int .i64 i), (18, .bool false)], [(1006, .box 64 (seenV e d b ks keys)), (5005, .row 1 (strsL out) false ⟨mv, 9⟩)]⟩) := by
  have hlt : ¬ i < keys.length := by omega
  simp [lc, loopsOf, Try.f29, σ29, hlt]
theorem rkeys_loop (l : List Nd) (e d : Int) (b : Bool) (ks keys : List Nat) (hk : keys.length ≤ 1000) (hq : ∀ q ∈ keys, q < l.length) : ∀ (c i : Nat) (mv : Bool), i + c = keys.length → ∃ mv' j, lp 29 (lc Try.f29 0) (σ29 l (seenV e d b ks keys) ((keys.take i).map fun q => ((l[q]?).map (·.text)).getD []) mv i) =
    some (.exit 0, ⟨[(0, nds l), (5, .own 5005), (6, .ptr 1006 0 0), (7, j), (18, .bool false)], [(1006, .box 64 (seenV e d b ks keys)), (5005, .row 1 (strsL (keys.map fun q => ((l[q]?).map (·.text)).getD [])) false ⟨mv', 9⟩)]⟩) := by
  intro c
  induction c with
  | zero =>
    intro i mv hi
    refine ⟨mv, .int .i64 i, loop_out ?_ (by simp)⟩
    rw [List.take_of_length_le (by omega)]
    exact rkeys_exit l e d b ks keys _ mv i (by omega)
  | succ c ih =>
    intro i mv hi
    have hlt : i < keys.length := by omega
    have hki : keys[i]? = some keys[i] := List.getElem?_eq_getElem hlt
    have hql := hq keys[i] (List.getElem_mem hlt)
    have hn : l[keys[i]]? = some l[keys[i]] := List.getElem?_eq_getElem hql
    have h := rkeys_round l e d b ks keys ((keys.take i).map fun q => ((l[q]?).map (·.text)).getD []) (by simp; omega) mv i keys[i] _ hk hki hn
    have e1 : ((keys.take i).map fun q => ((l[q]?).map (·.text)).getD []) ++ [l[keys[i]].text] = (keys.take (i + 1)).map fun q => ((l[q]?).map (·.text)).getD [] := by
      rw [List.take_add_one, hki]
      simp only [Option.toList_some, List.map_append, List.map_cons, List.map_nil, hn, Option.map_some, Option.getD_some]
    rw [e1] at h
    obtain ⟨mv', j, hx⟩ := ih (i + 1) true (by omega)
    exact ⟨mv', j, loop_next h hx⟩
theorem textsS_keys (l : List Nd) (ks : List Nat) : (ks.map (· - 1)).map (fun q => ((l[q]?).map (·.text)).getD []) = textsS l ks := by
  simp [textsS]
set_option maxHeartbeats 8000000 in
theorem rkeys_eq (l : List Nd) (hb : l.length ≤ 9223372036854775806) (hr : ∀ n ∈ l, n.inR) (a : Int) : cl 29 [nds l, .int .i64 a] [] = some (.ret (rkeysV l a), []) := by
  have hc := fun d st => rcheck_call (l := l) hb hr (d := d) (st := st)
  refine fn_intro Try.func29 rfl (by simp) (by decide) rfl ?_
  simp only [nds] at hc
  by_cases h0 : checkS l = 0
  case neg =>
    simp [Try.f29, nds, hc, h0]
    exact end_is (.inr rfl) (by simp; rfl) rfl (by simp [rkeysV, h0])
  obtain ⟨h5, _, _⟩ := checkS_ok h0
  by_cases h1 : a < 0 ∨ (l.length : Int) ≤ a
  · have hv := rval_out (by omega) h1
    have h2 : thereS l a = false := by unfold thereS; simp; omega
    obtain ⟨mv, j, hx⟩ := rkeys_loop l 0 0 true [] [] (by simp) (by simp) 0 0 false rfl
    simp only [nds] at hv
    simp [lc, loopsOf, Try.f29, σ29, nds, strsL_nil] at hx
    simp [Try.f29, nds, hc, h0, hv, hx]
    exact end_rv (.inr rfl) (by simp; rfl) (by simp) (by simp [rkeysV, h0, keysAt, h2]) rkeysV_names
  · obtain ⟨k, rfl⟩ : ∃ k : Nat, a = k := ⟨a.toNat, by omega⟩
    have hlt : k < l.length := by omega
    obtain ⟨s, h2, h3, h4⟩ := checkS_inner h0 hlt
    have hgk := valS_goodK (by omega) h2
    have hv := seen_call (by omega) hr h2
    obtain ⟨mv, j, hx⟩ := rkeys_loop l s.stop s.deep false s.kids (keysN (mapAt l k) s.kids) (by unfold keysN; split <;> simp; have := hgk.1; omega) (fun q hq => by
      unfold keysN at hq
      split at hq
      · obtain ⟨p, hp, rfl⟩ := List.mem_map.1 hq
        have := hgk.2 p hp; omega
      · simp at hq) (keysN (mapAt l k) s.kids).length 0 false (by omega)
    simp only [nds] at hv
    simp [lc, loopsOf, Try.f29, σ29, nds, strsL_nil] at hx
    simp [Try.f29, nds, hc, h0, hv, hx]
    refine end_rv (.inr rfl) (by simp; rfl) (by simp) ?_ rkeysV_names
    unfold rkeysV keysAt
    rw [if_pos h0, there_in h0 hlt, Int.toNat_natCast, h2]
    cases hm : mapAt l k with
    | false => simp [keysN, strsL]
    | true => simp [keysN, strsL, textsS]
theorem rkeys_call {l : List Nd} (hb : l.length ≤ 9223372036854775806) (hr : ∀ n ∈ l, n.inR) {a : Int} {d : Option Nat} {st : ASt} : callV G cl d (.fn (.func 29) [] []) [nds l, .int .i64 a] st = some (.val (rkeysV l a) st) :=
  callV_ret E29 (by decide) ext29 rfl rfl (rkeys_eq l hb hr a) rkeysV_names

/-! The document's Member -/
/-- The value behind the first of these places whose text this is. -/
def memS (l : List Nd) (key : List UInt8) : List Nat → Option (List Nd)
  | [] => none
  | q :: ks => if ((l[q - 1]?).map (·.text)).getD [] = key then subS l q else memS l key ks
def memberS (l : List Nd) (key : List UInt8) : Option (List Nd) := if thereS l 0 && mapAt l 0 then memS l key (((valS l (l.length + 1) 0).map (·.kids)).getD []) else none
def memberV (o : Option (List Nd)) : AV := .tup [rowO o, .bool o.isSome]

def σ31 (l : List Nd) (key : List UInt8) (K : List (List UInt8)) (i : Nat) : ASt := ⟨[(0, nds l), (1, .str key), (6, .list 1 (strsL K)), (7, .int .i64 i)], []⟩
set_option maxHeartbeats 8000000 in
theorem rmem_on (l : List Nd) (key : List UInt8) (K : List (List UInt8)) (i : Nat) (t : List UInt8) (hi : K[i]? = some t) (hk : K.length ≤ 1000) (hne : t ≠ key) : rX 31 (lc Try.f31 0) (codeX G cl lp 31 (lc Try.f31 0) (σ31 l key K i)) = some (.normal, σ31 l key K (i + 1)) := by
  have hlt : i < K.length := (List.getElem?_eq_some_iff.1 hi).1
  have hw : IntKind.i64.wrap ((i : Int) + 1) = (i : Int) + 1 := i64_wrap (by omega) (by omega)
  have hg := (List.getElem?_eq_some_iff.1 hi).2
  simp [lc, loopsOf, Try.f31, σ31, strsL, nds, hlt, hg, hne, hw]
set_option maxHeartbeats 8000000 in
theorem rmem_hit (l : List Nd) (key : List UInt8) (K : List (List UInt8)) (i : Nat) (hi : K[i]? = some key) (hk : K.length ≤ 1000) (kids : List Nat) (q : Nat) (hq : kids[i]? = some q) (m : List Nd)
    (h26 : ∀ d st, callV G cl d (.fn (.func 26) [] []) [nds l, .int .i64 0] st = some (.val (rowV kids) st)) (h23 : ∀ d st, callV G cl d (.fn (.func 23) [] []) [nds l, .int .i64 (q : Int)] st = some (.val (nds m) st)) :
    rX 31 (lc Try.f31 0) (codeX G cl lp 31 (lc Try.f31 0) (σ31 l key K i)) = some (.ret, ⟨[(4, nds m), (5, .bool true)], []⟩) := by
  have hlt : i < K.length := (List.getElem?_eq_some_iff.1 hi).1
  have hg := (List.getElem?_eq_some_iff.1 hi).2
  have hx : ∀ hp, indexD Try.prog hp (some (.slice 3)) (rowV kids) (i : Int) = some (.ep (.int .i64 (q : Int)) 0) := fun hp => rowV_index hq
  simp only [nds] at h26 h23
  simp [lc, loopsOf, Try.f31, σ31, strsL, nds, hlt, hg, h26, hx, h23]
theorem rmem_exit (l : List Nd) (key : List UInt8) (K : List (List UInt8)) : rX 31 (lc Try.f31 0) (codeX G cl lp 31 (lc Try.f31 0) (σ31 l key K K.length)) = some (.exit 0, ⟨(σ31 l key K K.length).sl ++ [(13, .bool false)], []⟩) := by
  simp [lc, loopsOf, Try.f31, σ31, strsL]
theorem kidsS_lt {l : List Nd} {k a : Nat} {s : Span} (h : valS l k a = some s) {q : Nat} (hq : q ∈ s.kids) : q < l.length := by
  cases k with
  | zero => cases h
  | succ k =>
    obtain ⟨n, r, hn, hf, hr, rfl⟩ := valS_map h
    exact (kidsS_pos (fun st s hs => by have := valS_spec hs; omega) hr (by simp) (by simp) q hq).2
theorem rmem_loop (l : List Nd) (hr : ∀ n ∈ l, n.inR) (hc : checkS l = 0) (key : List UInt8) (S : Span) (hS : valS l (l.length + 1) 0 = some S) (h0 : 0 < l.length)
    (h26 : ∀ d st, callV G cl d (.fn (.func 26) [] []) [nds l, .int .i64 0] st = some (.val (rowV S.kids) st)) : ∀ (c i : Nat), i + c = S.kids.length →
    match memS l key (S.kids.drop i) with
    | some m => lp 31 (lc Try.f31 0) (σ31 l key (textsS l S.kids) i) = some (.ret, ⟨[(4, nds m), (5, .bool true)], []⟩)
    | none => lp 31 (lc Try.f31 0) (σ31 l key (textsS l S.kids) i) = some (.exit 0, ⟨(σ31 l key (textsS l S.kids) S.kids.length).sl ++ [(13, .bool false)], []⟩) := by
  have hlen := (checkS_ok hc).1
  have hgk := valS_goodK (by omega) hS
  have hKl : (textsS l S.kids).length = S.kids.length := by simp [textsS]
  intro c
  induction c with
  | zero =>
    intro i hi
    obtain rfl : i = S.kids.length := by omega
    rw [List.drop_of_length_le (Nat.le_refl _)]
    have := rmem_exit l key (textsS l S.kids)
    rw [hKl] at this
    exact loop_out this (by simp)
  | succ c ih =>
    intro i hi
    have hlt : i < S.kids.length := by omega
    rw [List.drop_eq_getElem_cons hlt]
    have hq : S.kids[i]? = some S.kids[i] := List.getElem?_eq_getElem hlt
    obtain ⟨q1, q2, q3⟩ := hgk.2 S.kids[i] (List.getElem_mem hlt)
    have hK : (textsS l S.kids)[i]? = some (((l[S.kids[i] - 1]?).map (·.text)).getD []) := by simp [textsS, hlt]
    simp only [memS]
    by_cases ht : ((l[S.kids[i] - 1]?).map (·.text)).getD [] = key
    · rw [if_pos ht]
      rw [ht] at hK
      obtain ⟨v, hv⟩ : ∃ v, valS l (l.length + 1) S.kids[i] = some v := by
        have hlt2 : S.kids[i] < l.length := kidsS_lt hS (List.getElem_mem hlt)
        obtain ⟨v, hv, _⟩ := checkS_inner hc hlt2
        exact ⟨v, hv⟩
      have h23 : ∀ d st, callV G cl d (.fn (.func 23) [] []) [nds l, .int .i64 (S.kids[i] : Int)] st = some (.val (nds (cutS l S.kids[i] v.stop)) st) := fun d st => by
        have := rsub_call (l := l) (by omega) hr (a := (S.kids[i] : Int)) (d := d) (st := st)
        rw [sub_at hr hc (Nat.le_refl _) hv] at this; exact this
      rw [sub_at hr hc (Nat.le_refl _) hv]
      exact loop_out (rmem_hit l key _ i hK (by have := hgk.1; omega) S.kids S.kids[i] hq _ h26 h23) (by simp)
    · rw [if_neg ht]
      have h := rmem_on l key _ i _ hK (by have := hgk.1; omega) ht
      have := ih (i + 1) (by omega)
      split at this
      · rename_i m hm
        exact loop_next h this
      · rename_i hm
        exact loop_next h this
set_option maxHeartbeats 8000000 in
theorem rmember_eq (l : List Nd) (hb : l.length ≤ 9223372036854775806) (hr : ∀ n ∈ l, n.inR) (key : List UInt8) : cl 31 [nds l, .str key] [] = some (.ret (memberV (memberS l key)), []) := by
  have h29 := fun d st => rkeys_call (l := l) hb hr (a := 0) (d := d) (st := st)
  refine fn_intro Try.func31 rfl (by simp) (by decide) rfl ?_
  have hc0 : ∀ h : checkS l = 0, 0 < l.length := fun h => by
    obtain ⟨_, _, s, h3, _⟩ := checkS_ok h
    obtain ⟨h5, h6⟩ := wholeS_some h3
    have := valS_spec h5; omega
  by_cases h0 : checkS l = 0
  case neg =>
    have h1 : lp 31 (lc Try.f31 0) ⟨[(0, nds l), (1, .str key), (6, .nils), (7, .int .i64 0)], []⟩ = some (.exit 0, ⟨[(0, nds l), (1, .str key), (6, .nils), (7, .int .i64 0), (13, .bool false)], []⟩) := loop_out (by simp [lc, loopsOf, Try.f31]) (by simp)
    have h2 : memberS l key = none := by unfold memberS thereS; simp [h0]
    simp [lc, loopsOf, Try.f31, nds] at h1
    simp only [nds, rkeysV, if_neg h0] at h29
    simp [Try.f31, nds, h29, h1]
    exact end_is (.inr rfl) (by simp [resL]; rfl) rfl (by rw [h2]; rfl)
  have hpos := hc0 h0
  obtain ⟨S, hS, h3, h4⟩ := checkS_inner h0 hpos
  have h26 : ∀ d st, callV G cl d (.fn (.func 26) [] []) [nds l, .int .i64 0] st = some (.val (rowV S.kids) st) := fun d st => by
    have := rkids_call (l := l) hb hr (a := 0) (d := d) (st := st)
    unfold kidsAt at this
    have e : thereS l 0 = true := there_in h0 hpos
    rw [e, if_pos rfl, show (0 : Int).toNat = 0 from rfl, hS] at this; exact this
  have ht : thereS l 0 = true := there_in h0 hpos
  cases hm : mapAt l 0 with
  | false =>
    have hK : keysAt l 0 = [] := by unfold keysAt; rw [ht, show (0 : Int).toNat = 0 from rfl, hm]; rfl
    have h1 : lp 31 (lc Try.f31 0) ⟨[(0, nds l), (1, .str key), (6, .list 1 []), (7, .int .i64 0)], []⟩ = some (.exit 0, ⟨[(0, nds l), (1, .str key), (6, .list 1 []), (7, .int .i64 0), (13, .bool false)], []⟩) := loop_out (by simp [lc, loopsOf, Try.f31]) (by simp)
    have h2 : memberS l key = none := by unfold memberS; simp [hm]
    simp [lc, loopsOf, Try.f31, nds] at h1
    simp only [nds, rkeysV, if_pos h0, hK, strsL_nil] at h29
    simp [Try.f31, nds, h29, h1]
    exact end_is (.inr rfl) (by simp [resL]; rfl) rfl (by rw [h2]; rfl)
  | true =>
    have hK : keysAt l 0 = textsS l S.kids := by unfold keysAt; rw [ht, show (0 : Int).toNat = 0 from rfl, hm, hS]; rfl
    have hl := rmem_loop l hr h0 key S hS hpos h26 S.kids.length 0 (by omega)
    rw [List.drop_zero] at hl
    have h2 : memberS l key = memS l key S.kids := by unfold memberS; rw [ht, hm, hS]; rfl
    simp only [nds, rkeysV, if_pos h0, hK] at h29
    split at hl
    · rename_i m hmm
      simp [lc, loopsOf, Try.f31, σ31] at hl
      simp only [nds] at hl
      simp [Try.f31, nds, h29, hl]
      exact end_is (.inr rfl) (by simp [resL]; rfl) rfl (by rw [h2, hmm]; rfl)
    · rename_i hmm
      simp [lc, loopsOf, Try.f31, σ31] at hl
      simp only [nds] at hl
      simp [Try.f31, nds, h29, hl]
      exact end_is (.inr rfl) (by simp [resL]; rfl) rfl (by rw [h2, hmm]; rfl)
theorem memberV_names {o : Option (List Nd)} : (memberV o).names = [] := by cases o <;> rfl
theorem rmember_call {l : List Nd} (hb : l.length ≤ 9223372036854775806) (hr : ∀ n ∈ l, n.inR) {key : List UInt8} {d : Option Nat} {st : ASt} : callV G cl d (.fn (.func 31) [] []) [nds l, .str key] st = some (.val (memberV (memberS l key)) st) :=
  callV_ret E31 (by decide) ext31 rfl rfl (rmember_eq l hb hr key) memberV_names
end Go.Proofs.Ytonaejfpiihfhaa

/- What the functions come to: tree.Member. -/
namespace Go.Proofs.Ytonaejfpiihfhaa
open Go Abs
set_option linter.unusedSimpArgs false
set_option linter.unusedVariables false

noncomputable abbrev rec30 : LRec := rcOf 30 Try.f30 .ready none
noncomputable abbrev rec30d : LRec := rcOf 30 Try.f30 .done (some .ret)
theorem rok30 : G.roundOK rec30 = true := by kernel_rfl
def slR : Slots := [(2, .ptr 1 0 0), (3, .ptr 2 0 0), (4, .ptr 3 0 0), (5, .ptr 4 0 0), (9, .fn (.func 85) [] [.ptr 5 0 0, .ptr 6 0 0]), (10, .undef), (11, .undef)]
noncomputable def hpR (l : List Nd) (a : Int) (key : List UInt8) (rc : LRec) (o ok : AV) : Heap :=
  [(0, .loop rc slR), (1, .box 22 (nds l)), (2, .box 9 (.str key)), (3, .box 22 o), (4, .box 4 ok), (5, .box 22 (nds l)), (6, .box 3 (.int .i64 a))]
set_option maxHeartbeats 8000000 in
theorem round30_on (l : List Nd) (a p : Int) (key k : List UInt8) (hk : k ≠ key) : cl RB [.str k, .int .i64 p] (hpR l a key rec30 .nils (.bool false)) = some (.ret (.bool true), hpR l a key rec30 .nils (.bool false)) := by
  have : RB = RB + 0 := rfl
  rw [this]
  have hr := rok30
  refine round_intro ?_
  unfold runRound
  unfold rec30 rcOf at hr
  simp [hpR, rec30, rcOf, rfsOf, Try.f30] at hr ⊢
  simp [hr, hk, slR]
  rfl
set_option maxHeartbeats 8000000 in
theorem round30_hit (l : List Nd) (a p : Int) (key : List UInt8) (m : List Nd) (hsub : ∀ d st, callV G cl d (.fn (.func 22) [] []) [nds l, .int .i64 p] st = some (.val (nds m) st)) :
    cl RB [.str key, .int .i64 p] (hpR l a key rec30 .nils (.bool false)) = some (.ret (.bool false), hpR l a key rec30d (nds m) (.bool true)) := by
  have : RB = RB + 0 := rfl
  rw [this]
  have hr := rok30
  refine round_intro ?_
  unfold runRound
  unfold rec30 rcOf at hr
  simp only [nds] at hsub
  simp [hpR, rec30, rec30d, rcOf, rfsOf, Try.f30] at hr ⊢
  simp [hr, slR, nds, hsub, storeA]
  rfl

/-! Seen from the function that goes through them. -/
def slM : Slots := [(2, .ptr 3 0 0), (3, .ptr 4 0 0), (4, .ptr 5 0 0), (5, .ptr 6 0 0), (9, .fn (.func 85) [] [.ptr 1 0 0, .ptr 2 0 0]), (10, .undef), (11, .undef)]
noncomputable def hpM (l : List Nd) (a : Int) (key : List UInt8) (rc : LRec) (o ok : AV) : Heap :=
  [(0, .loop rc slM), (1, .box 22 (nds l)), (2, .box 3 (.int .i64 a)), (3, .box 22 (nds l)), (4, .box 9 (.str key)), (5, .box 22 o), (6, .box 4 ok)]
noncomputable def hpM' (l : List Nd) (a : Int) (key : List UInt8) (rc : LRec) (o ok : AV) : Heap :=
  [(0, .loop rc slM), (3, .box 22 (nds l)), (4, .box 9 (.str key)), (5, .box 22 o), (6, .box 4 ok), (1, .box 22 (nds l)), (2, .box 3 (.int .i64 a))] ++ hpM l a key rec30 .nils (.bool false)
theorem yield30_on (l : List Nd) (a p : Int) (key k : List UInt8) (hk : k ≠ key) (sl : Slots) : callV G cl (some 35) (.yld 0) [.str k, .int .i64 p] ⟨sl, hpM l a key rec30 .nils (.bool false)⟩ = some (.val (.bool true) ⟨sl, hpM' l a key rec30 .nils (.bool false)⟩) :=
  callV_yld (st1 := ⟨sl, hpM l a key rec30 .nils (.bool false)⟩) (ns := [0, 3, 4, 5, 6, 1, 2]) (j := 0) (pre := [.str k, .int .i64 p]) rfl rfl rfl rfl rfl (by exact round30_on l a p key k hk) (by kernel_rfl) rfl
theorem yield30_hit (l : List Nd) (a p : Int) (key : List UInt8) (m : List Nd) (hsub : ∀ d st, callV G cl d (.fn (.func 22) [] []) [nds l, .int .i64 p] st = some (.val (nds m) st)) (sl : Slots) :
    callV G cl (some 35) (.yld 0) [.str key, .int .i64 p] ⟨sl, hpM l a key rec30 .nils (.bool false)⟩ = some (.val (.bool false) ⟨sl, hpM' l a key rec30d (nds m) (.bool true)⟩) :=
  callV_yld (st1 := ⟨sl, hpM l a key rec30 .nils (.bool false)⟩) (ns := [0, 3, 4, 5, 6, 1, 2]) (j := 0) (pre := [.str key, .int .i64 p]) rfl rfl rfl rfl rfl (by exact round30_hit l a p key m hsub) (by kernel_rfl) rfl

-- What a loop's head is unfolded by, where there is memory.
attribute [local simp] canonK canonAll canonSlot canonCell canonBox ownStep restrictTo pureCells pureRows reachL AObj.names List.range_succ appendA
set_option maxHeartbeats 8000000 in
theorem round85_on (l : List Nd) (a : Int) (key : List UInt8) (kids : List Nat) (hk : kids.length ≤ 1000) (i q : Nat) (hi : kids[i]? = some q) (hq0 : 0 < q) (hq1 : q ≤ 1000) (n : Nd) (hn : l[q - 1]? = some n) (hne : n.text ≠ key) :
    rX 85 (lc Try.f85 0) (codeX G cl lp 85 (lc Try.f85 0) ⟨sl85 kids i, hpM l a key rec30 .nils (.bool false)⟩) = some (.normal, ⟨sl85 kids (i + 1), hpM l a key rec30 .nils (.bool false)⟩) := by
  have hlt : i < kids.length := (List.getElem?_eq_some_iff.1 hi).1
  have hw : IntKind.i64.wrap ((q : Int) - 1) = ((q - 1 : Nat) : Int) := by rw [i64_wrap (by omega) (by omega)]; omega
  have hw1 : IntKind.i64.wrap ((i : Int) + 1) = (i : Int) + 1 := i64_wrap (by omega) (by omega)
  have hy := fun sl => yield30_on l a q key n.text hne sl
  simp only [hpM, nds] at hy
  simp [lc, loopsOf, Try.f85, sl85, hpM]
  have e : kids[i] = q := (List.getElem?_eq_some_iff.1 hi).2
  simp [intsL, nds, Nd.v, hw, hn, hlt, e, hw1]
  simp [hy]
  simp [hpM', hpM, nds, slM, oren_loop]
  exact hw1
set_option maxHeartbeats 8000000 in
theorem round85_hit (l : List Nd) (a : Int) (key : List UInt8) (kids : List Nat) (hk : kids.length ≤ 1000) (i q : Nat) (hi : kids[i]? = some q) (hq0 : 0 < q) (hq1 : q ≤ 1000) (n : Nd) (hn : l[q - 1]? = some n) (hne : n.text = key) (m : List Nd)
    (hsub : ∀ d st, callV G cl d (.fn (.func 22) [] []) [nds l, .int .i64 (q : Int)] st = some (.val (nds m) st)) :
    ∃ sl, rX 85 (lc Try.f85 0) (codeX G cl lp 85 (lc Try.f85 0) ⟨sl85 kids i, hpM l a key rec30 .nils (.bool false)⟩) = some (.ret, ⟨sl, hpM' l a key rec30d (nds m) (.bool true)⟩) := by
  have hlt : i < kids.length := (List.getElem?_eq_some_iff.1 hi).1
  have hw : IntKind.i64.wrap ((q : Int) - 1) = ((q - 1 : Nat) : Int) := by rw [i64_wrap (by omega) (by omega)]; omega
  have hy := fun sl => yield30_hit l a q key m hsub sl
  simp only [hpM, nds] at hy
  subst hne
  simp [lc, loopsOf, Try.f85, sl85, hpM]
  have e : kids[i] = q := (List.getElem?_eq_some_iff.1 hi).2
  simp [intsL, nds, Nd.v, hw, hn, hlt, e]
  simp [hy]

/-- Gone through, till the key is there. -/
theorem loop85M (l : List Nd) (hr : ∀ n ∈ l, n.inR) (hc : checkS l = 0) (a : Int) (key : List UInt8) (kids : List Nat) (hk : goodK l kids) (hkl : ∀ q ∈ kids, q < l.length) : ∀ (c i : Nat), i + c = kids.length →
    match memS l key (kids.drop i) with
    | some m => ∃ sl, lp 85 (lc Try.f85 0) ⟨sl85 kids i, hpM l a key rec30 .nils (.bool false)⟩ = some (.ret, ⟨sl, hpM' l a key rec30d (nds m) (.bool true)⟩)
    | none => ∃ sl, lp 85 (lc Try.f85 0) ⟨sl85 kids i, hpM l a key rec30 .nils (.bool false)⟩ = some (.exit 0, ⟨sl, hpM l a key rec30 .nils (.bool false)⟩) := by
  have hlen := (checkS_ok hc).1
  intro c
  induction c with
  | zero =>
    intro i hi
    obtain rfl : i = kids.length := by omega
    rw [List.drop_of_length_le (Nat.le_refl _)]
    exact ⟨_, loop_out (exit85 l a kids kids.length (by omega) _) (by simp)⟩
  | succ c ih =>
    intro i hi
    have hlt : i < kids.length := by omega
    rw [List.drop_eq_getElem_cons hlt]
    have hq : kids[i]? = some kids[i] := List.getElem?_eq_getElem hlt
    obtain ⟨q1, q2, q3⟩ := hk.2 kids[i] (List.getElem_mem hlt)
    have hn : l[kids[i] - 1]? = some l[kids[i] - 1] := List.getElem?_eq_getElem q3
    simp only [memS]
    rw [hn]
    simp only [Option.map_some, Option.getD_some]
    by_cases ht : l[kids[i] - 1].text = key
    · rw [if_pos ht]
      obtain ⟨v, hv, _⟩ := checkS_inner hc (hkl kids[i] (List.getElem_mem hlt))
      rw [sub_at hr hc (Nat.le_refl _) hv]
      obtain ⟨sl, h⟩ := round85_hit l a key kids hk.1 i kids[i] hq q1 q2 _ hn ht _ (sub_at_call hr hc (Nat.le_refl _) hv)
      exact ⟨sl, loop_out h (by simp)⟩
    · rw [if_neg ht]
      have h := round85_on l a key kids hk.1 i kids[i] hq q1 q2 _ hn ht
      have := ih (i + 1) (by omega)
      split at this
      · obtain ⟨sl, hx⟩ := this
        exact ⟨sl, loop_next h hx⟩
      · obtain ⟨sl, hx⟩ := this
        exact ⟨sl, loop_next h hx⟩
def memberAt (l : List Nd) (a : Int) (key : List UInt8) : Option (List Nd) := if thereS l a && mapAt l a.toNat then memS l key (((valS l (l.length + 1) a.toNat).map (·.kids)).getD []) else none
theorem memberAt_0 (l : List Nd) (key : List UInt8) : memberAt l 0 key = memberS l key := rfl
noncomputable def heapM (l : List Nd) (a : Int) (key : List UInt8) (o : Option (List Nd)) : Heap :=
  match o with
  | some m => hpM l a key rec30d (nds m) (.bool true)
  | none => hpM l a key rec30 .nils (.bool false)
theorem endM_none {l : List Nd} {a : Int} {key : List UInt8} {sl : Slots} {x : AX} (hx : x = .normal ∨ x = .ret) : endX G 85 [0, 1, 2, 3, 4, 5, 6] [] (some (x, ⟨sl, hpM l a key rec30 .nils (.bool false)⟩)) = some (.ret (.tup []), hpM l a key rec30 .nils (.bool false)) := by
  rcases hx with rfl | rfl <;> kernel_rfl
theorem endM_some {l m : List Nd} {a : Int} {key : List UInt8} {sl : Slots} : endX G 85 [0, 1, 2, 3, 4, 5, 6] [] (some (.ret, ⟨sl, hpM' l a key rec30d (nds m) (.bool true)⟩)) = some (.ret (.tup []), hpM l a key rec30d (nds m) (.bool true)) := by
  kernel_rfl
set_option maxHeartbeats 8000000 in
theorem membersM (l : List Nd) (hb : l.length ≤ 9223372036854775806) (hr : ∀ n ∈ l, n.inR) (a : Int) (key : List UInt8) : cl 85 [.yld 0, .ptr 1 0 0, .ptr 2 0 0] (hpM l a key rec30 .nils (.bool false)) = some (.ret (.tup []), heapM l a key (memberAt l a key)) := by
  have hc := fun d st => there_c (l := l) hb hr (a := a) (d := d) (st := st)
  refine fn_intro Try.func85 rfl (by simp) (by decide) rfl ?_
  cases h : thereS l a with
  | false =>
    have h2 : memberAt l a key = none := by unfold memberAt; rw [h]; rfl
    rw [h2]
    simp [Try.f85, hpM, nds, hc, h]
    exact endM_none (.inr rfl)
  | true =>
    obtain ⟨h0, k, rfl, h1⟩ := thereS_nat h
    obtain ⟨s, h2, h3, h4⟩ := checkS_inner h0 h1
    obtain ⟨h5, _, _⟩ := checkS_ok h0
    have hv := val_call (by omega) hr h2
    simp only [nds] at hv
    obtain ⟨n, hn⟩ : ∃ n, l[k]? = some n := ⟨l[k], List.getElem?_eq_getElem h1⟩
    have e : l[k] = n := (List.getElem?_eq_some_iff.1 hn).2
    by_cases hk : n.kind = 5
    · have hm : mapAt l k = true := by unfold mapAt; rw [hn]; simp [hk]
      have hks : memberAt l k key = memS l key s.kids := by unfold memberAt; rw [h, Int.toNat_natCast, hm, h2]; rfl
      have hlp := loop85M l hr h0 k key s.kids (valS_goodK (by omega) h2) (fun q hq => kidsS_lt h2 hq) s.kids.length 0 (by omega)
      rw [List.drop_zero] at hlp
      rw [hks]
      split at hlp
      · rename_i m hmm
        obtain ⟨sl, hlp⟩ := hlp
        simp [lc, loopsOf, Try.f85, sl85, intsL, hpM, nds, slM] at hlp
        simp [Try.f85, hpM, nds, hc, h, h1, e, hk, hv, spanV, Nd.v, intsL, oren_loop, slM]
        rw [hlp]
        rw [hmm]
        exact endM_some
      · rename_i hmm
        obtain ⟨sl, hlp⟩ := hlp
        simp [lc, loopsOf, Try.f85, sl85, intsL, hpM, nds, slM] at hlp
        simp [Try.f85, hpM, nds, hc, h, h1, e, hk, hv, spanV, Nd.v, intsL, oren_loop, slM]
        rw [hlp]
        rw [hmm]
        exact endM_none (.inl rfl)
    · have hm : mapAt l k = false := by unfold mapAt; rw [hn]; simp [hk]
      have hks : memberAt l k key = none := by unfold memberAt; rw [Int.toNat_natCast, hm]; simp
      rw [hks]
      simp [Try.f85, hpM, nds, hc, h, h1, e, hk, Nd.v]
      exact endM_none (.inr rfl)

/-! Seen from tree.Member -/
@[simp] theorem nds_rv {hp} {l : List Nd} : (nds l).rv hp = nds l := rfl
@[simp] theorem nds_names {l : List Nd} : (nds l).names = [] := rfl
@[simp] theorem nds_rows {l : List Nd} : (nds l).rows = [] := rfl
@[simp] theorem nds_cells {l : List Nd} : (nds l).cells = [nds l] := rfl
@[simp] theorem nds_okc {l : List Nd} : okCell (nds l) = true := rfl
@[simp] theorem nds_kno {l : List Nd} : (nds l).known = true := rfl
@[simp] theorem nds_isA {l : List Nd} : (nds l).isA = false := rfl
@[simp] theorem nds_pur {l : List Nd} : (nds l).pureB = true := pur_list
@[simp] theorem src_nds {hp} {l : List Nd} : srcEls hp 4 (nds l) = some (l.map Nd.v) := by simp [nds]
@[simp] theorem nds_ren {m} {l : List Nd} : (nds l).ren m = nds l := rfl
@[simp] theorem nds_kill {n} {l : List Nd} : (nds l).kill n = nds l := rfl
@[simp] theorem nds_len {hp} {e : TypeId} {l : List Nd} : lenD hp (some (.slice e)) (nds l) = some (.int .i64 l.length) := by simp [nds]
@[simp] theorem nds_plain {l : List Nd} : (nds l).plainB = true := by unfold nds; exact plainBL_map (fun _ => rfl) l
theorem members30 (l : List Nd) (sl : Slots) (b2 b3 b4 b5 : AV) : callV G cl (some 9) (.fn (.func 55) [] []) [nds l, .int .i64 0] ⟨sl, [(1005, .box 4 b5), (1004, .box 22 b4), (1003, .box 9 b3), (1002, .box 22 b2)]⟩ =
    some (.val (.fn (.func 85) [] [.ptr 1003000009 0 0, .ptr 1004000009 0 0]) ⟨sl, [(1003000009, .box 22 (nds l)), (1004000009, .box 3 (.int .i64 0)), (1005, .box 4 b5), (1004, .box 22 b4), (1003, .box 9 b3), (1002, .box 22 b2)]⟩) :=
  callV_of (pre := [nds l, .int .i64 0]) (st1 := ⟨sl, [(1005, .box 4 b5), (1004, .box 22 b4), (1003, .box 9 b3), (1002, .box 22 b2)]⟩) (ns := []) E55 (by decide) ext55 rfl rfl rfl rfl (by exact members_fn l 0) (by kernel_rfl) rfl
def sl30 : Slots := [(2, .ptr 1002 0 0), (3, .ptr 1003 0 0), (4, .ptr 1004 0 0), (5, .ptr 1005 0 0), (9, .fn (.func 85) [] [.ptr 1003000009 0 0, .ptr 1004000009 0 0]), (10, .undef), (11, .undef)]
noncomputable def hp30 (l : List Nd) (key : List UInt8) : Heap := [(1003000009, .box 22 (nds l)), (1004000009, .box 3 (.int .i64 0)), (1005, .box 4 (.bool false)), (1004, .box 22 .nils), (1003, .box 9 (.str key)), (1002, .box 22 (nds l))]
noncomputable def hp30o (l : List Nd) (key : List UInt8) : Heap := (20004, .loop rec30 sl30) :: hp30 l key
noncomputable def after30 (l : List Nd) (key : List UInt8) (h : Heap) : Heap := ((afterCall (some 30004) [20004, 1003000009, 1004000009, 1002, 1003, 1004, 1005] ⟨sl30, hp30o l key⟩ h).getD default).hp
noncomputable def recX (o : Option (List Nd)) : LRec := match o with | some _ => rec30d | none => rec30
theorem range30 (l : List Nd) (key : List UInt8) (o : Option (List Nd)) (h : cl 85 [.yld 0, .ptr 1 0 0, .ptr 2 0 0] (hpM l 0 key rec30 .nils (.bool false)) = some (.ret (.tup []), heapM l 0 key o)) :
    callB G cl (some 30004) (.fn (.func 85) [] [.ptr 1003000009 0 0, .ptr 1004000009 0 0]) [.yld 20004] ⟨sl30, hp30o l key⟩ = some (.val (.tup []) ⟨sl30, after30 l key (heapM l 0 key o)⟩, []) := by
  cases o <;> exact callB_of (d := some 30004) (first := []) (caps := [.ptr 1003000009 0 0, .ptr 1004000009 0 0]) (args := [.yld 20004]) (st := ⟨sl30, hp30o l key⟩) (pre := [.yld 20004, .ptr 1003000009 0 0, .ptr 1004000009 0 0]) (st1 := ⟨sl30, hp30o l key⟩) (ns := [20004, 1003000009, 1004000009, 1002, 1003, 1004, 1005]) E85 (by decide) rfl rfl (by kernel_rfl) rfl (by exact h) (by kernel_rfl)
noncomputable def rf30 : Code := match rfsOf (Try.f30.body.getD .skip) with | (g, ps, asg, body) :: _ => .rangeFunc g ps asg body | [] => .skip
noncomputable def done30 (l : List Nd) (key : List UInt8) (o : Option (List Nd)) : Heap := hput 20004 (.loop { recX o with state := .exhausted } sl30) (after30 l key (heapM l 0 key o))
theorem st30 (l : List Nd) (key : List UInt8) (o : Option (List Nd)) (h : cl 85 [.yld 0, .ptr 1 0 0, .ptr 2 0 0] (hpM l 0 key rec30 .nils (.bool false)) = some (.ret (.tup []), heapM l 0 key o)) :
    codeX G cl lp 30 rf30 ⟨sl30, hp30 l key⟩ = some (if o.isSome then .ret else .normal, ⟨sl30, done30 l key o⟩) := by
  cases o with
  | none =>
    exact rf_of (f := 30) (g := .tmp 9) (ps := rec30.ps) (asg := rec30.assign) (body := rec30.body) (st := ⟨sl30, hp30 l key⟩) (L := 20004) (d := 30004) (r := rec30) (sl := sl30) (x := .normal) (s := ⟨sl30, after30 l key (heapM l 0 key none)⟩) (v := .tup []) (M := [])
      (by kernel_rfl) (by kernel_rfl) rfl rok30 rfl (by exact range30 l key none h) rfl (by kernel_rfl) (by simp [rec30, rcOf, rfsOf, Try.f30]) (by kernel_rfl)
  | some m =>
    exact rf_of (f := 30) (g := .tmp 9) (ps := rec30.ps) (asg := rec30.assign) (body := rec30.body) (st := ⟨sl30, hp30 l key⟩) (L := 20004) (d := 30004) (r := rec30d) (sl := sl30) (x := .ret) (s := ⟨sl30, after30 l key (heapM l 0 key (some m))⟩) (v := .tup []) (M := [])
      (by kernel_rfl) (by kernel_rfl) rfl rok30 rfl (by exact range30 l key (some m) h) rfl (by kernel_rfl) (by simp [rec30d, rcOf, rfsOf, Try.f30]) (by kernel_rfl)
set_option maxHeartbeats 8000000 in
theorem member_eq (l : List Nd) (hb : l.length ≤ 9223372036854775806) (hr : ∀ n ∈ l, n.inR) (key : List UInt8) : cl 30 [nds l, .str key] [] = some (.ret (memberV (memberS l key)), []) := by
  have h := membersM l hb hr 0 key
  rw [memberAt_0] at h
  have hm := members30 l
  have hs := st30 l key _ h
  refine fn_intro Try.func30 rfl (by simp) (by decide) rfl ?_
  simp [rf30, rfsOf, Try.f30, sl30, hp30] at hs
  cases ho : memberS l key with
  | none =>
    simp only [ho] at hs
    have hb4 : aget (done30 l key none) 1004 = some (.box 22 .nils) := by kernel_rfl
    have hb5 : aget (done30 l key none) 1005 = some (.box 4 (.bool false)) := by kernel_rfl
    simp [Try.f30, hm, hs, allocX, newObj, hb4, hb5]
    exact end_rv (.inr rfl) (by simp [resL, hb4, hb5]; rfl) (by simp) (by rfl) (by rfl)
  | some m =>
    simp only [ho] at hs
    have hb4 : aget (done30 l key (some m)) 1004 = some (.box 22 (nds m)) := by kernel_rfl
    have hb5 : aget (done30 l key (some m)) 1005 = some (.box 4 (.bool true)) := by kernel_rfl
    simp [Try.f30, hm, hs, allocX, newObj, hb4, hb5]
    exact end_rv (.inr rfl) (by simp [resL, hb4, hb5]; rfl) (by simp) (by rfl) (by rfl)
end Go.Proofs.Ytonaejfpiihfhaa

/- What the functions come to: slices.Concat, tree.checked, tree.List. -/
namespace Go.Proofs.Ytonaejfpiihfhaa
open Go Abs
set_option linter.unusedSimpArgs false
set_option linter.unusedVariables false

def ndsL (kids : List (List Nd)) : List AV := kids.map nds
@[simp] theorem ndsL_length {kids} : (ndsL kids).length = kids.length := by simp [ndsL]
theorem ndsL_get {kids : List (List Nd)} {i : Nat} {m : List Nd} (h : kids[i]? = some m) : (ndsL kids)[i]? = some (nds m) := by simp [ndsL, h]
@[simp] theorem ndsL_plain {kids : List (List Nd)} : AV.plainBL (ndsL kids) = true := plainBL_map (fun a => by simp only [nds, AV.plainB]; exact plainBL_map (fun _ => rfl) a) kids
def tot (kids : List (List Nd)) : Nat := (kids.map List.length).sum

/-! Grow -/
set_option maxHeartbeats 8000000 in
theorem grow_0 : cl 86 [.nils, .int .i64 0] [] = some (.ret .nils, []) := call_intro (by decide) rfl (by kernel_rfl)
set_option maxHeartbeats 8000000 in
theorem grow_n (n : Nat) (h0 : 0 < n) (h1 : n ≤ 1000000) : cl 86 [.nils, .int .i64 (n : Int)] [] = some (.ret (.own 1022), [(1022, .row 4 [] false ⟨true, 46⟩)]) := by
  refine fn_intro Try.func86 rfl (by simp) (by decide) rfl ?_
  have hneg : ¬ (n : Int) < 0 := by omega
  have hw : IntKind.i64.wrap ((n : Int) - 0) = (n : Int) := by rw [i64_wrap (by omega) (by omega)]; omega
  have hw2 : IntKind.i64.wrap (n : Int) = (n : Int) := i64_wrap (by omega) (by omega)
  have hw3 : IntKind.i64.wrap 0 = 0 := rfl
  have hpos : (0 : Int) < n := by omega
  have hL : (n : Int) ≤ LIM := by unfold LIM; omega
  have hL' : n ≤ LIM := by unfold LIM; omega
  simp [Try.f86, hneg, hw, hw2, hw3, hpos, h0, appendA, hL, ASt.cut]
  simp [endX, finishA, outOf, reachL, retA, onlyHeap, idMap, AObj.names]

/-! Concat -/
def σ57 (kids : List (List Nd)) (n i : Nat) : ASt := ⟨[(0, .list 1 (ndsL kids)), (3, .int .i64 n), (9, .list 1 (ndsL kids)), (10, .int .i64 kids.length), (11, .int .i64 i)], []⟩
set_option maxHeartbeats 8000000 in
theorem concat_len (kids : List (List Nd)) (n i : Nat) (m : List Nd) (hi : kids[i]? = some m) (hk : kids.length ≤ 1000) (hn : n + m.length ≤ 1000000) :
    rX 57 (lc Try.f57 0) (codeX G cl lp 57 (lc Try.f57 0) (σ57 kids n i)) = some (.normal, σ57 kids (n + m.length) (i + 1)) := by
  have hlt : i < kids.length := (List.getElem?_eq_some_iff.1 hi).1
  have hg := ndsL_get hi
  have hg' := (List.getElem?_eq_some_iff.1 hg).2
  have hw : IntKind.i64.wrap ((i : Int) + 1) = (i : Int) + 1 := i64_wrap (by omega) (by omega)
  have hw2 : IntKind.i64.wrap ((n : Int) + (m.length : Int)) = (n : Int) + m.length := i64_wrap (by omega) (by omega)
  have hneg : ¬ (n : Int) + (m.length : Int) < 0 := by omega
  simp only [nds] at hg'
  simp [lc, loopsOf, Try.f57, σ57, hlt, hg', hw, hw2, hneg]
theorem concat_len_exit (kids : List (List Nd)) (n : Nat) :
    rX 57 (lc Try.f57 0) (codeX G cl lp 57 (lc Try.f57 0) (σ57 kids n kids.length)) = some (.exit 0, ⟨(σ57 kids n kids.length).sl ++ [(12, .bool false)], []⟩) := by
  simp [lc, loopsOf, Try.f57, σ57]
theorem concat_loop1 (kids : List (List Nd)) (hk : kids.length ≤ 1000) (ht : tot kids ≤ 1000000) : ∀ (c i : Nat), i + c = kids.length → lp 57 (lc Try.f57 0) (σ57 kids (tot (kids.take i)) i) = some (.exit 0, ⟨(σ57 kids (tot kids) kids.length).sl ++ [(12, .bool false)], []⟩) := by
  intro c
  induction c with
  | zero =>
    intro i hi
    obtain rfl : i = kids.length := by omega
    rw [List.take_of_length_le (Nat.le_refl _)]
    exact loop_out (concat_len_exit kids _) (by simp)
  | succ c ih =>
    intro i hi
    have hlt : i < kids.length := by omega
    have hki : kids[i]? = some kids[i] := List.getElem?_eq_getElem hlt
    have e : tot (kids.take (i + 1)) = tot (kids.take i) + kids[i].length := by
      unfold tot; rw [List.take_add_one, hki]; simp only [Option.toList_some, List.map_append, List.map_cons, List.map_nil, List.sum_append, List.sum_cons, List.sum_nil, Nat.add_zero]
    have hle : tot (kids.take (i + 1)) ≤ tot kids := by
      unfold tot
      conv => rhs; rw [← List.take_append_drop (i + 1) kids]
      rw [List.map_append, List.sum_append]; omega
    have h := concat_len kids (tot (kids.take i)) i kids[i] hki hk (by omega)
    rw [← e] at h
    exact loop_next h (ih (i + 1) (by omega))

def σ57b (kids : List (List Nd)) (out : List Nd) (mv : Bool) (i : Nat) : ASt := ⟨[(6, .own 5006), (25, .list 1 (ndsL kids)), (26, .int .i64 kids.length), (27, .int .i64 i)], [(5006, .row 4 (out.map Nd.v) false ⟨mv, 46⟩)]⟩
-- What a loop's head is unfolded by, where there is memory.
attribute [local simp] canonK canonAll canonSlot canonCell canonBox ownStep restrictTo pureCells pureRows reachL AObj.names List.range_succ appendA
set_option maxHeartbeats 8000000 in
theorem concat_put (kids : List (List Nd)) (out : List Nd) (mv : Bool) (i : Nat) (m : List Nd) (hi : kids[i]? = some m) (hk : kids.length ≤ 1000) (hn : out.length + m.length ≤ 1000000) :
    rX 57 (lc Try.f57 1) (codeX G cl lp 57 (lc Try.f57 1) (σ57b kids out mv i)) = some (.normal, σ57b kids (out ++ m) true (i + 1)) := by
  have hlt : i < kids.length := (List.getElem?_eq_some_iff.1 hi).1
  have hg := ndsL_get hi
  have hg' := (List.getElem?_eq_some_iff.1 hg).2
  have hw : IntKind.i64.wrap ((i : Int) + 1) = (i : Int) + 1 := i64_wrap (by omega) (by omega)
  have hL : out.length + m.length ≤ LIM := by unfold LIM; omega
  simp only [nds] at hg'
  simp [lc, loopsOf, Try.f57, σ57b, hlt, hg', hw, hL]
theorem concat_put_exit (kids : List (List Nd)) (out : List Nd) (mv : Bool) :
    rX 57 (lc Try.f57 1) (codeX G cl lp 57 (lc Try.f57 1) (σ57b kids out mv kids.length)) = some (.exit 2, ⟨(σ57b kids out mv kids.length).sl ++ [(28, .bool false)], (σ57b kids out mv kids.length).hp⟩) := by
  simp [lc, loopsOf, Try.f57, σ57b]
theorem tot_flatten (kids : List (List Nd)) : kids.flatten.length = tot kids := by simp [tot, List.length_flatten]
theorem concat_loop2 (kids : List (List Nd)) (hk : kids.length ≤ 1000) (ht : tot kids ≤ 1000000) : ∀ (c i : Nat) (mv : Bool), i + c = kids.length → ∃ mv', lp 57 (lc Try.f57 1) (σ57b kids (kids.take i).flatten mv i) = some (.exit 2, ⟨(σ57b kids kids.flatten mv' kids.length).sl ++ [(28, .bool false)], (σ57b kids kids.flatten mv' kids.length).hp⟩) := by
  intro c
  induction c with
  | zero =>
    intro i mv hi
    obtain rfl : i = kids.length := by omega
    rw [List.take_of_length_le (Nat.le_refl _)]
    exact ⟨mv, loop_out (concat_put_exit kids _ mv) (by simp)⟩
  | succ c ih =>
    intro i mv hi
    have hlt : i < kids.length := by omega
    have hki : kids[i]? = some kids[i] := List.getElem?_eq_getElem hlt
    have e : (kids.take (i + 1)).flatten = (kids.take i).flatten ++ kids[i] := by
      rw [List.take_add_one, hki]; simp only [Option.toList_some, List.flatten_append, List.flatten_cons, List.flatten_nil, List.append_nil]
    have hle : (kids.take (i + 1)).flatten.length ≤ kids.flatten.length := by
      conv => rhs; rw [← List.take_append_drop (i + 1) kids]
      rw [List.flatten_append, List.length_append]; omega
    rw [tot_flatten kids, e, List.length_append] at hle
    have h := concat_put kids (kids.take i).flatten mv i kids[i] hki hk (by omega)
    rw [← e] at h
    obtain ⟨mv', hx⟩ := ih (i + 1) true (by omega)
    exact ⟨mv', loop_next h hx⟩

theorem prepL_rv {g : FuncId} {hp : Heap} (hin : ∀ j, G.inplace g j = false) : ∀ {l : List AV} {j : Nat}, prepL G g hp l j = AV.rvL hp l
  | [], _ => rfl
  | a :: l, j => by simp only [prepL, hin, Bool.false_eq_true, if_false, prepL_rv hin (l := l), rvL_cons]
theorem prepRows_rv {g : FuncId} (hin : ∀ j, G.inplace g j = false) : ∀ {l : List AV} {j : Nat}, prepRows G g l j = AV.rowsL l
  | [], _ => rfl
  | a :: l, j => by simp only [prepRows, hin, Bool.false_eq_true, if_false, prepRows_rv hin (l := l), rowsL_cons]
theorem inp_false {g : FuncId} (h : inpT.contains g = false) (j : Nat) : G.inplace g j = false := by
  show (inpT.contains g && j == 0) = false
  rw [h]; rfl
/-- A call that is handed rows, told as lists. -/
theorem callV_rv {d : Option Nat} {g : FuncId} {first caps args all pre : List AV} {st : ASt} {v : AV} (hE : G.E g = true) (hg : g < RB) (hx : G.ext g = none) (hin : inpT.contains g = false) (ha : first ++ args ++ caps = all)
    (hpre : AV.rvL st.hp all = pre) (hn : AV.namesL pre = []) (hc : cl g pre [] = some (.ret v, [])) (hv : v.names = []) : callV G cl d (.fn (.func g) first caps) args st = some (.val v (st.fix (AV.rowsL all))) := by
  subst ha
  refine callV_of (pre := pre) (st1 := st.fix (AV.rowsL (first ++ args ++ caps))) (ns := []) (y := (.ret v, [])) hE hg hx ?_ ?_ ?_ rfl ?_ (st3 := st.fix (AV.rowsL (first ++ args ++ caps))) ?_ ?_
  · rw [prepL_rv (inp_false hin), hpre]
  · rw [prepRows_rv (inp_false hin)]
  · rw [hn]; rfl
  · rw [nameless_ren.nameless_renL hn]; exact hc
  · rfl
  · simp only [answered, nameless_ren hv]

set_option maxHeartbeats 8000000 in
theorem concat_eq (kids : List (List Nd)) (hk : kids.length ≤ 1000) (ht : tot kids ≤ 1000000) : cl 57 [.list 1 (ndsL kids)] [] = some (.ret (nds kids.flatten), []) := by
  have h1 := concat_loop1 kids hk ht kids.length 0 (by omega)
  obtain ⟨mv0, h2⟩ := concat_loop2 kids hk ht kids.length 0 false (by omega)
  obtain ⟨mv1, h3⟩ := concat_loop2 kids hk ht kids.length 0 true (by omega)
  have e0 : tot (kids.take 0) = 0 := rfl
  rw [e0] at h1
  refine fn_intro Try.func57 rfl (by simp) (by decide) rfl ?_
  simp [lc, loopsOf, Try.f57, σ57, σ57b] at h1 h2 h3
  by_cases hz : tot kids = 0
  · have hg : ∀ d st, callV G cl d (.fn (.func 86) [] []) [.nils, .int .i64 0] st = some (.val .nils st) := fun d st => callV_ret E86 (by decide) ext86 rfl rfl grow_0 rfl
    rw [hz] at h1
    simp at h1
    simp [Try.f57, h1, hg, h2]
    exact end_rv (.inr rfl) (by simp; rfl) (by simp) (by simp [nds]) rfl
  · have hg : ∀ sl, callV G cl (some 24) (.fn (.func 86) [] []) [.nils, .int .i64 (tot kids : Int)] ⟨sl, []⟩ = some (.val (.own 1023000024) ⟨sl, [(1023000024, .row 4 [] false ⟨true, 46⟩)]⟩) := fun sl =>
      callV_of (pre := [.nils, .int .i64 (tot kids : Int)]) (st1 := ⟨sl, []⟩) (ns := []) E86 (by decide) ext86 rfl rfl rfl rfl (by exact grow_n (tot kids) (by omega) ht) (by kernel_rfl) rfl
    simp [Try.f57, h1, hg, h3]
    exact end_rv (.inr rfl) (by simp; rfl) (by simp) (by simp [nds]) rfl

/-- Nodes that are a value, or the error. -/
def checkedV (l : List Nd) : AV := if checkS l = 0 then .tup [nds l, .int .i64 0] else .tup [.nils, .int .i64 (checkS l)]
set_option maxHeartbeats 8000000 in
theorem checked_eq (l : List Nd) (hb : l.length ≤ 9223372036854775806) (hr : ∀ n ∈ l, n.inR) : cl 56 [nds l] [] = some (.ret (checkedV l), []) := by
  have hc := fun d st => check_call (l := l) hb hr (d := d) (st := st)
  refine fn_intro Try.func56 rfl (by simp) (by decide) rfl ?_
  by_cases h : checkS l = 0
  · simp [Try.f56, hc, h]
    exact end_is (.inr rfl) (by simp [resL]; rfl) rfl (by simp [checkedV, h])
  · simp [Try.f56, hc, h]
    exact end_is (.inr rfl) (by simp [resL]; rfl) rfl (by simp [checkedV, h])

/-- The nodes of a list of such kids. -/
def listS (kids : List (List Nd)) : List Nd := ⟨4, 0, [], kids.length⟩ :: kids.flatten
set_option maxHeartbeats 8000000 in
theorem list_eq (kids : List (List Nd)) (hk : kids.length ≤ 1000) (ht : tot kids ≤ 1000000) (hr : ∀ m ∈ kids, ∀ n ∈ m, n.inR) : cl 33 [.list 1 (ndsL kids)] [] = some (.ret (checkedV (listS kids)), []) := by
  have hlr : ∀ n ∈ listS kids, n.inR := fun n hn => by
    rcases List.mem_cons.1 hn with rfl | hn
    · exact ⟨by simp, by simp, by simp only; omega, by simp only; omega⟩
    · obtain ⟨m, hm, hn⟩ := List.mem_flatten.1 hn
      exact hr m hm n hn
  have hlen : (listS kids).length = tot kids + 1 := by simp only [listS, List.length_cons, tot_flatten]
  have hcat : ∀ d st, callV G cl d (.fn (.func 57) [] []) [.list 1 (ndsL kids)] st = some (.val (nds kids.flatten) st) := fun d st => callV_ret E57 (by decide) ext57 rfl rfl (concat_eq kids hk ht) rfl
  have hchk := checked_eq (listS kids) (by omega) hlr
  have hL : 1 + kids.flatten.length ≤ LIM := by rw [tot_flatten]; unfold LIM; omega
  have hls : listS kids = ⟨4, 0, [], kids.length⟩ :: kids.flatten := rfl
  rw [hls] at hchk ⊢
  generalize kids.flatten = fl at *
  have hck : ∀ d sl, callV G cl d (.fn (.func 56) [] []) [.own 1008] ⟨sl, [(1008, .row 4 (.agg [.int .i64 4, .int .i64 0, .str [], .int .i64 kids.length] :: fl.map Nd.v) false ⟨true, 46⟩)]⟩ =
      some (.val (checkedV (⟨4, 0, [], kids.length⟩ :: fl)) ⟨sl, [(1008, .row 4 (.agg [.int .i64 4, .int .i64 0, .str [], .int .i64 kids.length] :: fl.map Nd.v) true ⟨true, 46⟩)]⟩) := fun d sl =>
    callV_rv (pre := [nds (⟨4, 0, [], kids.length⟩ :: fl)]) E56 (by decide) ext56 rfl rfl rfl rfl hchk (by unfold checkedV; split <;> rfl)
  refine fn_intro Try.func33 rfl (by simp) (by decide) rfl ?_
  simp only [nds] at hcat
  simp [Try.f33, hcat, appendA, hL, hck]
  unfold checkedV
  split
  · simp
    exact end_rv (.inr rfl) (by simp [resL]; rfl) (by simp) (by rfl) (by rfl)
  · simp
    exact end_rv (.inr rfl) (by simp [resL]; rfl) (by simp) (by rfl) (by rfl)
theorem checkedV_names {l : List Nd} : (checkedV l).names = [] := by unfold checkedV; split <;> rfl
end Go.Proofs.Ytonaejfpiihfhaa
