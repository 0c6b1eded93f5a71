/- What the functions come to: which value is ahead: plain values. What the functions come to: whether all are values. What the functions come to: the parts of a value. Bytes stand in the order of values: plain laws. Bytes stand in the order of values: the same bytes elsewhere; lists of bytes. Bytes stand in the order of values. What the law CodeOrders comes to. -/
import Derived.Test.YtonaejfpiihfhaaPkH
import Derived.Test.YtonaejfpiihfhaaPkN

/- What the functions come to: which value is ahead: plain values. -/
namespace Go.Proofs.Ytonaejfpiihfhaa
open Go Abs
set_option linter.unusedSimpArgs false
set_option linter.unusedVariables false
def ordI (x y : Int) : Int := if x < y then -1 else if y < x then 1 else 0
def ordT (s u : List UInt8) : Int := if ltB s u = true then -1 else if s = u then 0 else 1
set_option maxHeartbeats 8000000 in
theorem nan129 (n : Int) : cl 129 [.int .i64 n] [] = some (.ret (.bool false), []) := by
  refine fn_intro Try.func129 rfl (by simp) (by decide) rfl ?_
  simp [Try.f129]
  exact end_is (.inr rfl) (by first | rfl | (simp; rfl)) rfl rfl
set_option maxHeartbeats 8000000 in
theorem nan130 (n : Int) : cl 130 [.int .i64 n] [] = some (.ret (.bool false), []) := by
  refine fn_intro Try.func130 rfl (by simp) (by decide) rfl ?_
  simp [Try.f130]
  exact end_is (.inr rfl) (by first | rfl | (simp; rfl)) rfl rfl
set_option maxHeartbeats 8000000 in
theorem nan131 (s : List UInt8) : cl 131 [.str s] [] = some (.ret (.bool false), []) := by
  refine fn_intro Try.func131 rfl (by simp) (by decide) rfl ?_
  simp [Try.f131]
  exact end_is (.inr rfl) (by first | rfl | (simp; rfl)) rfl rfl
theorem nan129_call {d : Option Nat} {st : ASt} {n : Int} : callV G cl d (.fn (.func 129) [] []) [.int .i64 n] st = some (.val (.bool false) st) := callV_ret E129 (by decide) ext129 rfl rfl (nan129 n) rfl
theorem nan130_call {d : Option Nat} {st : ASt} {n : Int} : callV G cl d (.fn (.func 130) [] []) [.int .i64 n] st = some (.val (.bool false) st) := callV_ret E130 (by decide) ext130 rfl rfl (nan130 n) rfl
theorem nan131_call {d : Option Nat} {st : ASt} {s : List UInt8} : callV G cl d (.fn (.func 131) [] []) [.str s] st = some (.val (.bool false) st) := callV_ret E131 (by decide) ext131 rfl rfl (nan131 s) rfl
set_option maxHeartbeats 8000000 in
theorem cmp107 (x y : Int) : cl 107 [.int .i64 x, .int .i64 y] [] = some (.ret (.int .i64 (ordI x y)), []) := by
  refine fn_intro Try.func107 rfl (by simp) (by decide) rfl ?_
  unfold ordI
  by_cases h1 : x < y
  · simp [Try.f107, nan129_call, h1]
    exact end_is (.inr rfl) (by first | rfl | (simp; rfl)) rfl rfl
  by_cases h2 : y < x
  · simp [Try.f107, nan129_call, h1, h2]
    exact end_is (.inr rfl) (by first | rfl | (simp; rfl)) rfl rfl
  · simp [Try.f107, nan129_call, h1, h2]
    exact end_is (.inr rfl) (by first | rfl | (simp; rfl)) rfl rfl
set_option maxHeartbeats 8000000 in
theorem cmp108 (x y : Int) : cl 108 [.int .i64 x, .int .i64 y] [] = some (.ret (.int .i64 (ordI x y)), []) := by
  refine fn_intro Try.func108 rfl (by simp) (by decide) rfl ?_
  unfold ordI
  by_cases h1 : x < y
  · simp [Try.f108, nan130_call, h1]
    exact end_is (.inr rfl) (by first | rfl | (simp; rfl)) rfl rfl
  by_cases h2 : y < x
  · simp [Try.f108, nan130_call, h1, h2]
    exact end_is (.inr rfl) (by first | rfl | (simp; rfl)) rfl rfl
  · simp [Try.f108, nan130_call, h1, h2]
    exact end_is (.inr rfl) (by first | rfl | (simp; rfl)) rfl rfl
set_option maxHeartbeats 8000000 in
theorem cmp109 (x y : List UInt8) : cl 109 [.str x, .str y] [] = some (.ret (.int .i64 (ordT x y)), []) := by
  refine fn_intro Try.func109 rfl (by simp) (by decide) rfl ?_
  unfold ordT
  by_cases h1 : ltB x y = true
  · simp [Try.f109, nan131_call, h1]
    exact end_is (.inr rfl) (by first | rfl | (simp; rfl)) rfl rfl
  by_cases h2 : x = y
  · subst h2
    simp [Try.f109, nan131_call, h1]
    exact end_is (.inr rfl) (by first | rfl | (simp; rfl)) rfl rfl
  · simp [Try.f109, nan131_call, h1, h2]
    exact end_is (.inr rfl) (by first | rfl | (simp; rfl)) rfl rfl
theorem cmp107_call {d : Option Nat} {st : ASt} {x y : Int} : callV G cl d (.fn (.func 107) [] []) [.int .i64 x, .int .i64 y] st = some (.val (.int .i64 (ordI x y)) st) := callV_ret E107 (by decide) ext107 rfl rfl (cmp107 x y) rfl
theorem cmp108_call {d : Option Nat} {st : ASt} {x y : Int} : callV G cl d (.fn (.func 108) [] []) [.int .i64 x, .int .i64 y] st = some (.val (.int .i64 (ordI x y)) st) := callV_ret E108 (by decide) ext108 rfl rfl (cmp108 x y) rfl
theorem cmp109_call {d : Option Nat} {st : ASt} {x y : List UInt8} : callV G cl d (.fn (.func 109) [] []) [.str x, .str y] st = some (.val (.int .i64 (ordT x y)) st) := callV_ret E109 (by decide) ext109 rfl rfl (cmp109 x y) rfl
def orI (x y z : Int) : Int := if x ≠ 0 then x else if y ≠ 0 then y else z
set_option maxHeartbeats 8000000 in
theorem or106 (x y z : Int) : cl 106 [.list 1 [.int .i64 x, .int .i64 y, .int .i64 z]] [] = some (.ret (.int .i64 (orI x y z)), []) := by
  have w1 : IntKind.i64.wrap 1 = 1 := rfl
  have w2 : IntKind.i64.wrap 2 = 2 := rfl
  have w3 : IntKind.i64.wrap 3 = 3 := rfl
  have hit : ∀ i v, (∃ j : Nat, i = (j : Int) ∧ [x, y, z][j]? = some v) → v ≠ 0 → lp 106 (lc Try.f106 0) ⟨[(3, .int .i64 0), (6, .list 1 [.int .i64 x, .int .i64 y, .int .i64 z]), (7, .int .i64 3), (8, .int .i64 i)], []⟩ = some (.ret, ⟨[(2, .int .i64 v)], []⟩) := by
    rintro i v ⟨j, rfl, hj⟩ hv
    refine loop_out ?_ (by simp)
    match j, hj with
    | 0, hj => cases hj; simp [lc, loopsOf, Try.f106, hv]
    | 1, hj => cases hj; simp [lc, loopsOf, Try.f106, hv]
    | 2, hj => cases hj; simp [lc, loopsOf, Try.f106, hv]
  have on : ∀ (j : Nat) r, [x, y, z][j]? = some 0 → lp 106 (lc Try.f106 0) ⟨[(3, .int .i64 0), (6, .list 1 [.int .i64 x, .int .i64 y, .int .i64 z]), (7, .int .i64 3), (8, .int .i64 ((j : Int) + 1))], []⟩ = some r →
      lp 106 (lc Try.f106 0) ⟨[(3, .int .i64 0), (6, .list 1 [.int .i64 x, .int .i64 y, .int .i64 z]), (7, .int .i64 3), (8, .int .i64 (j : Int))], []⟩ = some r := by
    intro j r hj h
    refine loop_next ?_ h
    match j, hj with
    | 0, hj => cases hj; simp [lc, loopsOf, Try.f106, w1]
    | 1, hj => cases hj; simp [lc, loopsOf, Try.f106, w2]
    | 2, hj => cases hj; simp [lc, loopsOf, Try.f106, w3]
  have out : lp 106 (lc Try.f106 0) ⟨[(3, .int .i64 0), (6, .list 1 [.int .i64 x, .int .i64 y, .int .i64 z]), (7, .int .i64 3), (8, .int .i64 3)], []⟩ = some (.exit 0, ⟨[(3, .int .i64 0), (6, .list 1 [.int .i64 x, .int .i64 y, .int .i64 z]), (7, .int .i64 3), (8, .int .i64 3), (9, .bool false)], []⟩) := by
    refine loop_out ?_ (by simp)
    simp [lc, loopsOf, Try.f106]
  unfold orI
  by_cases hx : x = 0
  case neg =>
    rw [if_pos hx]
    have h := hit 0 x ⟨0, rfl, rfl⟩ hx
    refine fn_intro Try.func106 rfl (by simp) (by decide) rfl ?_
    simp [lc, loopsOf, Try.f106] at h
    simp [Try.f106, h]
    exact end_is (.inr rfl) (by first | rfl | (simp; rfl)) rfl rfl
  subst hx
  rw [if_neg (by simp)]
  by_cases hy : y = 0
  case neg =>
    rw [if_pos hy]
    have h := on 0 _ rfl (hit 1 y ⟨1, rfl, rfl⟩ hy)
    refine fn_intro Try.func106 rfl (by simp) (by decide) rfl ?_
    simp [lc, loopsOf, Try.f106] at h
    simp [Try.f106, h]
    exact end_is (.inr rfl) (by first | rfl | (simp; rfl)) rfl rfl
  subst hy
  rw [if_neg (by simp)]
  by_cases hz : z = 0
  case neg =>
    have h := on 0 _ rfl (on 1 _ rfl (hit 2 z ⟨2, rfl, rfl⟩ hz))
    refine fn_intro Try.func106 rfl (by simp) (by decide) rfl ?_
    simp [lc, loopsOf, Try.f106] at h
    simp [Try.f106, h]
    exact end_is (.inr rfl) (by first | rfl | (simp; rfl)) rfl rfl
  · subst hz
    have h := on 0 _ rfl (on 1 _ rfl (on 2 _ rfl out))
    refine fn_intro Try.func106 rfl (by simp) (by decide) rfl ?_
    simp [lc, loopsOf, Try.f106] at h
    simp [Try.f106, h]
    exact end_is (.inr rfl) (by first | rfl | (simp; rfl)) rfl rfl
end Go.Proofs.Ytonaejfpiihfhaa

/- What the functions come to: whether all are values. -/
namespace Go.Proofs.Ytonaejfpiihfhaa
open Go Abs
set_option linter.unusedSimpArgs false
set_option linter.unusedVariables false
set_option maxHeartbeats 8000000 in
theorem bad105 (l : List Nd) (hb : l.length ≤ 9223372036854775806) (hr : ∀ n ∈ l, n.inR) : cl 105 [nds l] [] = some (.ret (.bool (decide (checkS l ≠ 0))), []) := by
  have h19 := fun d st => check_call hb hr (d := d) (st := st)
  refine fn_intro Try.func105 rfl (by simp) (by decide) rfl ?_
  simp only [nds] at h19
  simp [Try.f105, nds, h19]
  exact end_is (.inr rfl) (by first | rfl | (simp; rfl)) rfl rfl
theorem bad105_call {l : List Nd} (hb : l.length ≤ 9223372036854775806) (hr : ∀ n ∈ l, n.inR) {d : Option Nat} {st : ASt} : callV G cl d (.fn (.func 105) [] []) [nds l] st = some (.val (.bool (decide (checkS l ≠ 0))) st) := callV_ret E105 (by decide) ext105 rfl rfl (bad105 l hb hr) rfl
@[simp] theorem ndsL_ix {K : List (List Nd)} {i : Nat} {h : i < (ndsL K).length} : (ndsL K)[i] = nds (K[i]'(by simpa using h)) := by simp [ndsL]
@[simp] theorem ndsL_bq {l : List (List Nd)} : AV.beqL (ndsL l) (ndsL l) = true := beqL_self ndsL_plain
def badL (L : List (List Nd)) : Bool := L.any fun l => decide (checkS l ≠ 0)
set_option maxHeartbeats 8000000 in
theorem index128_loop (L : List (List Nd)) (hL : L.length ≤ 9223372036854775806) (hb : ∀ l ∈ L, l.length ≤ 9223372036854775806) (hr : ∀ l ∈ L, ∀ n ∈ l, n.inR) : ∃ x s, lp 128 (lc Try.f128 0) { sl := [(0, .list 1 (ndsL L)), (1, .fn (.func 105) [] []), (7, .int .i64 L.length), (8, .int .i64 0)], hp := [] } = some (x, s) ∧
    ((x = .ret ∧ (∃ j : Nat, s = { sl := [(4, .int .i64 j)], hp := [] }) ∧ badL L = true) ∨ (x = .exit 0 ∧ (∃ sl, s = { sl, hp := [] }) ∧ badL L = false)) := by
  refine for_loop (f := 128) (c := lc Try.f128 0) (n := L.length) (σ := fun i => { sl := [(0, .list 1 (ndsL L)), (1, .fn (.func 105) [] []), (7, .int .i64 L.length), (8, .int .i64 (i : Int))], hp := [] }) (P := fun i => badL (L.take i) = false)
    (Q := fun x s => (x = .ret ∧ (∃ j : Nat, s = { sl := [(4, .int .i64 j)], hp := [] }) ∧ badL L = true) ∨ (x = .exit 0 ∧ (∃ sl, s = { sl, hp := [] }) ∧ badL L = false))
    (fun i hi hp => ?_) (fun hp => ?_) 0 (by omega) (by simp [badL])
  · obtain ⟨l, hl⟩ : ∃ l, L[i]? = some l := ⟨L[i], List.getElem?_eq_getElem hi⟩
    have e : L[i] = l := (List.getElem?_eq_some_iff.1 hl).2
    have hm := List.mem_of_getElem? hl
    have h1 : (i : Int) < L.length := by omega
    have hw : IntKind.i64.wrap ((i : Int) + 1) = (i : Int) + 1 := i64_wrap (by omega) (by omega)
    have hc := fun d st => bad105_call (hb l hm) (hr l hm) (d := d) (st := st)
    simp only [nds] at hc
    have e' : (ndsL L)[i]? = some (nds l) := ndsL_get hl
    by_cases ht : checkS l = 0
    · left
      rw [ht] at hc
      refine ⟨?_, ?_⟩
      · simp [lc, loopsOf, Try.f128, h1, hi, e', e, hw, nds, hc]
        done
      · rw [List.take_add_one, hl]; unfold badL at hp ⊢; rw [List.any_append, hp]; simpa using ht
    · right
      refine ⟨.ret, ⟨[(4, .int .i64 i)], []⟩, ?_, by simp, .inl ⟨rfl, ⟨i, rfl⟩, List.any_eq_true.2 ⟨l, hm, by simpa using ht⟩⟩⟩
      simp [lc, loopsOf, Try.f128, h1, hi, e', e, hw, nds, hc, ht]
      done
  · rw [List.take_of_length_le (Nat.le_refl _)] at hp
    exact ⟨.exit 0, ⟨[(0, .list 1 (ndsL L)), (1, .fn (.func 105) [] []), (7, .int .i64 L.length), (8, .int .i64 L.length), (9, .bool false)], []⟩, by simp [lc, loopsOf, Try.f128], by simp, .inr ⟨rfl, ⟨_, rfl⟩, hp⟩⟩
theorem index128_eq (L : List (List Nd)) (hL : L.length ≤ 9223372036854775806) (hb : ∀ l ∈ L, l.length ≤ 9223372036854775806) (hr : ∀ l ∈ L, ∀ n ∈ l, n.inR) : ∃ j : Int, cl 128 [.list 1 (ndsL L), .fn (.func 105) [] []] [] = some (.ret (.int .i64 j), []) ∧ (0 ≤ j ↔ badL L = true) := by
  obtain ⟨x, s, h, hx⟩ := index128_loop L hL hb hr
  simp [lc, loopsOf, Try.f128, Option.getD_some] at h
  rcases hx with ⟨rfl, ⟨j, rfl⟩, hf⟩ | ⟨rfl, ⟨sl, rfl⟩, hf⟩
  · refine ⟨j, fn_intro Try.func128 rfl (by simp) (by decide) rfl ?_, by simp [hf]⟩
    simp [Try.f128, h]
    exact end_is (.inr rfl) (by first | rfl | (simp; rfl)) rfl rfl
  · refine ⟨-1, fn_intro Try.func128 rfl (by simp) (by decide) rfl ?_, by simp [hf]⟩
    simp [Try.f128, h]
    exact end_is (.inr rfl) (by first | rfl | (simp; rfl)) rfl rfl
set_option maxHeartbeats 8000000 in
theorem contains104_eq (L : List (List Nd)) (hL : L.length ≤ 9223372036854775806) (hb : ∀ l ∈ L, l.length ≤ 9223372036854775806) (hr : ∀ l ∈ L, ∀ n ∈ l, n.inR) : cl 104 [.list 1 (ndsL L), .fn (.func 105) [] []] [] = some (.ret (.bool (badL L)), []) := by
  obtain ⟨j, h, hj⟩ := index128_eq L hL hb hr
  have hc : ∀ d st, callV G cl d (.fn (.func 128) [] []) [.list 1 (ndsL L), .fn (.func 105) [] []] st = some (.val (.int .i64 j) st) := fun d st => callV_ret E128 (by decide) ext128 rfl rfl h rfl
  refine fn_intro Try.func104 rfl (by simp) (by decide) rfl ?_
  simp [Try.f104, hc]
  refine end_is (.inr rfl) (by simp; rfl) rfl ?_
  cases hB : badL L with
  | true => simp [hj.2 hB, resOf]
  | false =>
    have : ¬ 0 ≤ j := fun h => by rw [hj.1 h] at hB; cases hB
    simp [resOf]; omega
set_option maxHeartbeats 8000000 in
theorem right78_eq (L : List (List Nd)) (hL : L.length ≤ 9223372036854775806) (hb : ∀ l ∈ L, l.length ≤ 9223372036854775806) (hr : ∀ l ∈ L, ∀ n ∈ l, n.inR) : cl 78 [.list 1 (ndsL L)] [] = some (.ret (.bool (!badL L)), []) := by
  have hc : ∀ d st, callV G cl d (.fn (.func 104) [] []) [.list 1 (ndsL L), .fn (.func 105) [] []] st = some (.val (.bool (badL L)) st) := fun d st => callV_ret E104 (by decide) ext104 rfl rfl (contains104_eq L hL hb hr) rfl
  refine fn_intro Try.func78 rfl (by simp) (by decide) rfl ?_
  simp [Try.f78, hc]
  exact end_is (.inr rfl) (by first | rfl | (simp; rfl)) rfl rfl
theorem right78_call {L : List (List Nd)} (hL : L.length ≤ 9223372036854775806) (hb : ∀ l ∈ L, l.length ≤ 9223372036854775806) (hr : ∀ l ∈ L, ∀ n ∈ l, n.inR) {d : Option Nat} {st : ASt} : callV G cl d (.fn (.func 78) [] []) [.list 1 (ndsL L)] st = some (.val (.bool (!badL L)) st) :=
  callV_ret E78 (by decide) ext78 rfl rfl (right78_eq L hL hb hr) rfl
end Go.Proofs.Ytonaejfpiihfhaa

/- What the functions come to: the parts of a value. -/
namespace Go.Proofs.Ytonaejfpiihfhaa
open Go Abs
set_option linter.unusedSimpArgs false
set_option linter.unusedVariables false
attribute [local simp] canonK canonAll canonSlot canonCell canonBox ownStep restrictTo pureCells pureRows reachL AObj.names List.range_succ appendA
/-- The kid at a place. -/
def kidL (l : List Nd) (q : Nat) : List Nd := (subS l (q : Int)).getD []
def keyN (t : List UInt8) : Nd := ⟨3, 0, t, 0⟩
def partAt (l : List Nd) (q : Nat) : List (List Nd) := if mapAt l 0 then [[keyN (key1 l q)], kidL l q] else [kidL l q]
def partsS (l : List Nd) : List (List Nd) := ((spanK l 0).map (partAt l)).flatten
theorem kidL_call {l : List Nd} (hr : ∀ n ∈ l, n.inR) (hc : checkS l = 0) {q : Nat} (hq : q < l.length) (d : Option Nat) (st : ASt) : callV G cl d (.fn (.func 22) [] []) [nds l, .int .i64 (q : Int)] st = some (.val (nds (kidL l q)) st) := by
  obtain ⟨s, h2, h3, h4⟩ := checkS_inner hc hq
  have := sub_at hr hc (Nat.le_refl _) h2
  unfold kidL
  rw [this]
  exact sub_at_call hr hc (Nat.le_refl _) h2 d st
def st111 (l : List Nd) (keys : AV) (kids : List Nat) (parts : List (List Nd)) (mv : Bool) (i : Nat) : ASt :=
  ⟨[(0, nds l), (3, .own 5003), (4, keys), (10, .list 1 (intsL kids)), (11, .int .i64 kids.length), (12, .int .i64 i)], [(5003, .row 1 (ndsL parts) false ⟨mv, 110⟩)]⟩
set_option maxHeartbeats 8000000 in
theorem parts_list (l : List Nd) (kids : List Nat) (hkl : kids.length ≤ 1000) (parts : List (List Nd)) (hp : parts.length ≤ 3000) (mv : Bool) (i q : Nat) (hi : kids[i]? = some q) (k : List Nd) (hk : ∀ d st, callV G cl d (.fn (.func 22) [] []) [nds l, .int .i64 (q : Int)] st = some (.val (nds k) st)) :
    rX 111 (lc Try.f111 0) (codeX G cl lp 111 (lc Try.f111 0) (st111 l .nils kids parts mv i)) = some (.normal, st111 l .nils kids (parts ++ [k]) true (i + 1)) := by
  have hlt : i < kids.length := (List.getElem?_eq_some_iff.1 hi).1
  have e : kids[i] = q := (List.getElem?_eq_some_iff.1 hi).2
  have hw1 : IntKind.i64.wrap ((i : Int) + 1) = ((i + 1 : Nat) : Int) := by rw [i64_wrap (by omega) (by omega)]; omega
  have hL : parts.length + 1 ≤ LIM := by unfold LIM; omega
  have hn : ¬ (i : Int) < 0 := by omega
  simp only [nds] at hk
  simp [lc, loopsOf, Try.f111, st111, hlt, e, hw1, hL, hn, nds, hk, ndsL]
  done
set_option maxHeartbeats 8000000 in
theorem parts_map (l : List Nd) (K : List (List UInt8)) (kids : List Nat) (hK : K.length = kids.length) (hkl : kids.length ≤ 1000) (parts : List (List Nd)) (hp : parts.length ≤ 3000) (mv : Bool) (i q : Nat) (t : List UInt8) (hi : kids[i]? = some q) (ht : K[i]? = some t) (k : List Nd) (hk : ∀ d st, callV G cl d (.fn (.func 22) [] []) [nds l, .int .i64 (q : Int)] st = some (.val (nds k) st)) :
    rX 111 (lc Try.f111 0) (codeX G cl lp 111 (lc Try.f111 0) (st111 l (.list 1 (strsL K)) kids parts mv i)) = some (.normal, st111 l (.list 1 (strsL K)) kids (parts ++ [[keyN t], k]) true (i + 1)) := by
  have hlt : i < kids.length := (List.getElem?_eq_some_iff.1 hi).1
  have e : kids[i] = q := (List.getElem?_eq_some_iff.1 hi).2
  have hlt2 : i < K.length := (List.getElem?_eq_some_iff.1 ht).1
  have e2 : K[i] = t := (List.getElem?_eq_some_iff.1 ht).2
  have hw1 : IntKind.i64.wrap ((i : Int) + 1) = ((i + 1 : Nat) : Int) := by rw [i64_wrap (by omega) (by omega)]; omega
  have hL : parts.length + 1 ≤ LIM := by unfold LIM; omega
  have hL2 : parts.length + 1 + 1 ≤ LIM := by unfold LIM; omega
  simp only [nds] at hk
  simp [lc, loopsOf, Try.f111, st111, hlt, hlt2, e, e2, hw1, hL, hL2, nds, hk, ndsL]
  rfl
theorem parts_exit (l : List Nd) (keys : AV) (hkeys : (∃ K, keys = .list 1 (strsL K)) ∨ keys = .nils) (kids : List Nat) (parts : List (List Nd)) (mv : Bool) :
    rX 111 (lc Try.f111 0) (codeX G cl lp 111 (lc Try.f111 0) (st111 l keys kids parts mv kids.length)) = some (.exit 0, ⟨(st111 l keys kids parts mv kids.length).sl ++ [(13, .bool false)], (st111 l keys kids parts mv kids.length).hp⟩) := by
  rcases hkeys with ⟨K, rfl⟩ | rfl <;> simp [lc, loopsOf, Try.f111, st111, nds]
def flatP (f : Nat → List (List Nd)) (kids : List Nat) : List (List Nd) := (kids.map f).flatten
theorem flatP_take {f : Nat → List (List Nd)} {kids : List Nat} {i q : Nat} (h : kids[i]? = some q) : flatP f (kids.take (i + 1)) = flatP f (kids.take i) ++ f q := by
  unfold flatP
  rw [List.take_add_one, h]; simp
theorem flatP_len {f : Nat → List (List Nd)} (hf : ∀ q, (f q).length ≤ 2) : ∀ kids : List Nat, (flatP f kids).length ≤ 2 * kids.length := by
  intro kids
  induction kids with
  | nil => simp [flatP]
  | cons q t ih =>
    have := hf q
    simp only [flatP, List.map_cons, List.flatten_cons, List.length_append, List.length_cons] at ih ⊢
    omega
theorem partAt_len (l : List Nd) (q : Nat) : (partAt l q).length ≤ 2 := by unfold partAt; split <;> simp
theorem parts_loop (l : List Nd) (keys : AV) (hkeys : (∃ K, keys = .list 1 (strsL K)) ∨ keys = .nils) (kids : List Nat) (hk : kids.length ≤ 1000)
    (hround : ∀ i q parts mv, kids[i]? = some q → parts.length ≤ 3000 → rX 111 (lc Try.f111 0) (codeX G cl lp 111 (lc Try.f111 0) (st111 l keys kids parts mv i)) = some (.normal, st111 l keys kids (parts ++ partAt l q) true (i + 1))) :
    ∀ (c i : Nat) (mv : Bool), i + c = kids.length → ∃ mv' sl, lp 111 (lc Try.f111 0) (st111 l keys kids (flatP (partAt l) (kids.take i)) mv i) = some (.exit 0, ⟨(0, nds l) :: (3, .own 5003) :: sl, [(5003, .row 1 (ndsL (flatP (partAt l) kids)) false ⟨mv', 110⟩)]⟩) := by
  intro c
  induction c with
  | zero =>
    intro i mv hi
    obtain rfl : i = kids.length := by omega
    rw [List.take_of_length_le (Nat.le_refl _)]
    exact ⟨mv, _, loop_out (parts_exit l keys hkeys kids _ mv) (by simp)⟩
  | succ c ih =>
    intro i mv hi
    have hlt : i < kids.length := by omega
    have hq : kids[i]? = some kids[i] := List.getElem?_eq_getElem hlt
    have hl := flatP_len (partAt_len l) (kids.take i)
    rw [List.length_take] at hl
    have h := hround i _ (flatP (partAt l) (kids.take i)) mv hq (by omega)
    rw [← flatP_take hq] at h
    obtain ⟨mv', sl, hx⟩ := ih (i + 1) true (by omega)
    exact ⟨mv', sl, loop_next h hx⟩
theorem textsS_at {l : List Nd} {kids : List Nat} {i q : Nat} (h : kids[i]? = some q) : (textsS l kids)[i]? = some (key1 l q) := by simp [textsS, h, key1]
set_option maxHeartbeats 8000000 in
theorem parts_eq (l : List Nd) (hr : ∀ n ∈ l, n.inR) (hc : checkS l = 0) : cl 111 [nds l] [] = some (.ret (.list 1 (ndsL (partsS l))), []) := by
  have hpos := checkS_pos hc
  obtain ⟨h5, _, _⟩ := checkS_ok hc
  obtain ⟨g1, g2⟩ := spanK_ok hc hpos
  have h28 := fun d st => keys_call (l := l) (by omega) hr (a := 0) (d := d) (st := st)
  have h25 := fun d st => kids_at hr hc hpos (d := d) (st := st)
  simp only [Int.natCast_zero] at h25
  have hkid := fun q (hq : q ∈ spanK l 0) => kidL_call hr hc (g2 q hq).2.1
  have hkeys : keysAt l 0 = if mapAt l 0 then textsS l (spanK l 0) else [] := by
    have : thereS l 0 = true := by simp [thereS, hc, hpos]
    unfold keysAt spanK
    rw [this]; simp
  refine fn_intro Try.func111 rfl (by simp) (by decide) rfl ?_
  cases hm : mapAt l 0 with
  | false =>
    rw [hm] at hkeys
    have hlp := parts_loop l .nils (.inr rfl) (spanK l 0) g1 (fun i q parts mv hi hp => by
      have e : partAt l q = [kidL l q] := by unfold partAt; rw [hm]; rfl
      rw [e]
      exact parts_list l (spanK l 0) g1 parts hp mv i q hi _ (hkid q (List.mem_of_getElem? hi))) (spanK l 0).length 0 false (by omega)
    obtain ⟨mv', sl, hlp⟩ := hlp
    rw [show flatP (partAt l) ((spanK l 0).take 0) = [] from rfl] at hlp
    have e0 : strsV (keysAt l 0) = .nils := by rw [hkeys]; rfl
    simp only [e0] at h28
    simp [st111, lc, loopsOf, Try.f111, nds, ndsL] at hlp
    simp only [nds] at h28 h25
    simp [Try.f111, nds, h28, h25, hlp]
    exact end_rv (.inr rfl) (by first | rfl | (simp; rfl)) (by simp) rfl rfl
  | true =>
    rw [hm] at hkeys
    by_cases hk0 : spanK l 0 = []
    · have hlp := parts_loop l .nils (.inr rfl) (spanK l 0) g1 (fun i q parts mv hi hp => by rw [hk0] at hi; simp at hi) (spanK l 0).length 0 false (by omega)
      obtain ⟨mv', sl, hlp⟩ := hlp
      rw [show flatP (partAt l) ((spanK l 0).take 0) = [] from rfl] at hlp
      have e0 : strsV (keysAt l 0) = .nils := by rw [hkeys, hk0]; rfl
      simp only [e0] at h28
      simp [st111, lc, loopsOf, Try.f111, nds, ndsL] at hlp
      simp only [nds] at h28 h25
      simp [Try.f111, nds, h28, h25, hlp]
      exact end_rv (.inr rfl) (by first | rfl | (simp; rfl)) (by simp) rfl rfl
    · have hlen : (textsS l (spanK l 0)).length = (spanK l 0).length := by simp [textsS]
      have hlp := parts_loop l (.list 1 (strsL (textsS l (spanK l 0)))) (.inl ⟨_, rfl⟩) (spanK l 0) g1 (fun i q parts mv hi hp => by
        have e : partAt l q = [[keyN (key1 l q)], kidL l q] := by unfold partAt; rw [hm]; rfl
        rw [e]
        exact parts_map l _ (spanK l 0) hlen g1 parts hp mv i q _ hi (textsS_at hi) _ (hkid q (List.mem_of_getElem? hi))) (spanK l 0).length 0 false (by omega)
      obtain ⟨mv', sl, hlp⟩ := hlp
      rw [show flatP (partAt l) ((spanK l 0).take 0) = [] from rfl] at hlp
      have e0 : strsV (keysAt l 0) = .list 1 (strsL (textsS l (spanK l 0))) := by
        rw [hkeys]; simp only [if_true, strsV]; rw [if_neg]; intro h; apply hk0; simpa [textsS] using h
      simp only [e0] at h28
      simp [st111, lc, loopsOf, Try.f111, nds, ndsL] at hlp
      simp only [nds] at h28 h25
      simp [Try.f111, nds, h28, h25, hlp]
      exact end_rv (.inr rfl) (by first | rfl | (simp; rfl)) (by simp) rfl rfl
theorem parts_call {l : List Nd} (hr : ∀ n ∈ l, n.inR) (hc : checkS l = 0) {d : Option Nat} {st : ASt} : callV G cl d (.fn (.func 111) [] []) [nds l] st = some (.val (.list 1 (ndsL (partsS l))) st) :=
  callV_ret E111 (by decide) ext111 rfl rfl (parts_eq l hr hc) rfl
/-- Which of two lists is ahead. -/
def listC (c : List Nd → List Nd → Int) : List (List Nd) → List (List Nd) → Int
  | [], [] => 0
  | [], _ :: _ => -1
  | _ :: _, [] => 1
  | x :: xs, y :: ys => if c x y = 0 then listC c xs ys else c x y
def st110 (A B : List (List Nd)) (i : Nat) : ASt := ⟨[(0, .list 1 (ndsL A)), (1, .list 1 (ndsL B)), (2, .fn (.func 79) [] []), (11, .list 1 (ndsL A)), (12, .int .i64 A.length), (13, .int .i64 i)], []⟩
set_option maxHeartbeats 8000000 in
theorem cmpl_short (A B : List (List Nd)) (i : Nat) (hi : i < A.length) (hB : B.length ≤ i) : rX 110 (lc Try.f110 0) (codeX G cl lp 110 (lc Try.f110 0) (st110 A B i)) = some (.ret, ⟨[(6, .int .i64 1)], []⟩) := by
  have h2 : (B.length : Int) ≤ i := by omega
  simp [lc, loopsOf, Try.f110, st110, hi, hB, h2, nds]
  done
set_option maxHeartbeats 8000000 in
theorem cmpl_step (A B : List (List Nd)) (hA : A.length ≤ 3000) (i : Nat) (x y : List Nd) (hx : A[i]? = some x) (hy : B[i]? = some y) (c : Int) (hc : ∀ d st, callV G cl d (.fn (.func 79) [] []) [nds x, nds y] st = some (.val (.int .i64 c) st)) :
    rX 110 (lc Try.f110 0) (codeX G cl lp 110 (lc Try.f110 0) (st110 A B i)) = if c = 0 then some (.normal, st110 A B (i + 1)) else some (.ret, ⟨[(6, .int .i64 c)], []⟩) := by
  have h1 := (List.getElem?_eq_some_iff.1 hx).1
  have e1 := (List.getElem?_eq_some_iff.1 hx).2
  have h2 := (List.getElem?_eq_some_iff.1 hy).1
  have e2 := (List.getElem?_eq_some_iff.1 hy).2
  have h3 : ¬ B.length ≤ i := by omega
  have h3' : ¬ (B.length : Int) ≤ i := by omega
  have hw1 : IntKind.i64.wrap ((i : Int) + 1) = ((i + 1 : Nat) : Int) := by rw [i64_wrap (by omega) (by omega)]; omega
  simp only [nds] at hc
  by_cases h0 : c = 0
  · rw [if_pos h0]
    simp [lc, loopsOf, Try.f110, st110, h1, h2, e1, e2, h3, h3', nds, hc, h0, hw1]
    done
  · rw [if_neg h0]
    simp [lc, loopsOf, Try.f110, st110, h1, h2, e1, e2, h3, h3', nds, hc, h0, hw1]
    done
set_option maxHeartbeats 8000000 in
theorem cmpl_exit (A B : List (List Nd)) : rX 110 (lc Try.f110 0) (codeX G cl lp 110 (lc Try.f110 0) (st110 A B A.length)) = some (.exit 0, ⟨(st110 A B A.length).sl ++ [(14, .bool false)], []⟩) := by
  simp [lc, loopsOf, Try.f110, st110]
  done
theorem cmpl_loop (A B : List (List Nd)) (hA : A.length ≤ 3000) (c : List Nd → List Nd → Int) (hc : ∀ x ∈ A, ∀ y ∈ B, ∀ d st, callV G cl d (.fn (.func 79) [] []) [nds x, nds y] st = some (.val (.int .i64 (c x y)) st)) : ∀ (k i : Nat), i + k = A.length →
    lp 110 (lc Try.f110 0) (st110 A B i) = some (.ret, ⟨[(6, .int .i64 (listC c (A.drop i) (B.drop i)))], []⟩) ∨
    (lp 110 (lc Try.f110 0) (st110 A B i) = some (.exit 0, ⟨(st110 A B A.length).sl ++ [(14, .bool false)], []⟩) ∧ listC c (A.drop i) (B.drop i) = if A.length < B.length then -1 else 0) := by
  intro k
  induction k with
  | zero =>
    intro i hi
    obtain rfl : i = A.length := by omega
    right
    refine ⟨loop_out (cmpl_exit A B) (by simp), ?_⟩
    rw [List.drop_of_length_le (Nat.le_refl _)]
    by_cases h : A.length < B.length
    · rw [if_pos h, List.drop_eq_getElem_cons h]; rfl
    · rw [if_neg h, List.drop_of_length_le (by omega)]; rfl
  | succ k ih =>
    intro i hi
    have hlt : i < A.length := by omega
    have hx : A[i]? = some A[i] := List.getElem?_eq_getElem hlt
    by_cases hB : i < B.length
    · have hy : B[i]? = some B[i] := List.getElem?_eq_getElem hB
      have h := cmpl_step A B hA i _ _ hx hy _ (hc _ (List.getElem_mem hlt) _ (List.getElem_mem hB))
      rw [List.drop_eq_getElem_cons hlt, List.drop_eq_getElem_cons hB]
      simp only [listC]
      by_cases h0 : c A[i] B[i] = 0
      · rw [if_pos h0] at h ⊢
        rcases ih (i + 1) (by omega) with h1 | ⟨h1, h2⟩
        · exact .inl (loop_next h h1)
        · exact .inr ⟨loop_next h h1, h2⟩
      · rw [if_neg h0] at h ⊢
        exact .inl (loop_out h (by simp))
    · left
      rw [List.drop_eq_getElem_cons hlt, List.drop_of_length_le (by omega : B.length ≤ i)]
      exact loop_out (cmpl_short A B i hlt (by omega)) (by simp)
set_option maxHeartbeats 8000000 in
theorem compareFunc_eq (A B : List (List Nd)) (hA : A.length ≤ 3000) (c : List Nd → List Nd → Int) (hc : ∀ x ∈ A, ∀ y ∈ B, ∀ d st, callV G cl d (.fn (.func 79) [] []) [nds x, nds y] st = some (.val (.int .i64 (c x y)) st)) :
    cl 110 [.list 1 (ndsL A), .list 1 (ndsL B), .fn (.func 79) [] []] [] = some (.ret (.int .i64 (listC c A B)), []) := by
  refine fn_intro Try.func110 rfl (by simp) (by decide) rfl ?_
  have := cmpl_loop A B hA c hc A.length 0 (by omega)
  rw [List.drop_zero, List.drop_zero] at this
  rcases this with h | ⟨h, h2⟩
  · simp [st110, lc, loopsOf, Try.f110] at h
    simp [Try.f110, h]
    exact end_is (.inr rfl) (by first | rfl | (simp; rfl)) rfl rfl
  · simp [st110, lc, loopsOf, Try.f110] at h
    rw [h2]
    by_cases hlt : A.length < B.length
    · have hlt' : (A.length : Int) < B.length := by omega
      rw [if_pos hlt]
      simp [Try.f110, h, hlt]
      exact end_is (.inr rfl) (by first | rfl | (simp; rfl)) rfl rfl
    · have hlt' : ¬ (A.length : Int) < B.length := by omega
      rw [if_neg hlt]
      simp [Try.f110, h, hlt]
      exact end_is (.inr rfl) (by first | rfl | (simp; rfl)) rfl rfl
theorem compareFunc_call {A B : List (List Nd)} (hA : A.length ≤ 3000) {c : List Nd → List Nd → Int} (hc : ∀ x ∈ A, ∀ y ∈ B, ∀ d st, callV G cl d (.fn (.func 79) [] []) [nds x, nds y] st = some (.val (.int .i64 (c x y)) st)) {d : Option Nat} {st : ASt} :
    callV G cl d (.fn (.func 110) [] []) [.list 1 (ndsL A), .list 1 (ndsL B), .fn (.func 79) [] []] st = some (.val (.int .i64 (listC c A B)) st) :=
  callV_ret E110 (by decide) ext110 rfl rfl (compareFunc_eq A B hA c hc) rfl
def headS (x y : Nd) : Int := orI (ordI x.kind y.kind) (ordI x.num y.num) (ordT x.text y.text)
/-- Which of two values is ahead. -/
def cmpS : Nat → List Nd → List Nd → Int
  | 0, _, _ => 0
  | k + 1, a, b => match a[0]?, b[0]? with
    | some x, some y => if headS x y ≠ 0 ∨ x.kind < 4 then headS x y else listC (cmpS k) (partsS a) (partsS b)
    | _, _ => 0
theorem or106_call {d : Option Nat} {st : ASt} {x y z : Int} : callV G cl d (.fn (.func 106) [] []) [.list 1 [.int .i64 x, .int .i64 y, .int .i64 z]] st = some (.val (.int .i64 (orI x y z)) st) := callV_ret E106 (by decide) ext106 rfl rfl (or106 x y z) rfl
@[simp] theorem bsv3 {p q r : Int} : bsvV G 31 3 [0, 1, 2] [.int .i64 p, .int .i64 q, .int .i64 r] = some (.list 1 [.int .i64 p, .int .i64 q, .int .i64 r]) := by kernel_rfl
set_option maxHeartbeats 16000000 in
theorem compare_step (a b : List Nd) (ra : ∀ n ∈ a, n.inR) (rb : ∀ n ∈ b, n.inR) (ca : checkS a = 0) (cb : checkS b = 0) (x y : Nd) (hx : a[0]? = some x) (hy : b[0]? = some y) (c : List Nd → List Nd → Int) (hA : (partsS a).length ≤ 3000)
    (hc : headS x y = 0 → ∀ x ∈ partsS a, ∀ y ∈ partsS b, ∀ d st, callV G cl d (.fn (.func 79) [] []) [nds x, nds y] st = some (.val (.int .i64 (c x y)) st)) :
    cl 79 [nds a, nds b] [] = some (.ret (.int .i64 (if headS x y ≠ 0 ∨ x.kind < 4 then headS x y else listC c (partsS a) (partsS b))), []) := by
  have h1 := (List.getElem?_eq_some_iff.1 hx).1
  have e1 := (List.getElem?_eq_some_iff.1 hx).2
  have h2 := (List.getElem?_eq_some_iff.1 hy).1
  have e2 := (List.getElem?_eq_some_iff.1 hy).2
  have pa := fun d st => parts_call ra ca (d := d) (st := st)
  have pb := fun d st => parts_call rb cb (d := d) (st := st)
  simp only [nds] at pa pb
  refine fn_intro Try.func79 rfl (by simp) (by decide) rfl ?_
  by_cases hn : headS x y = 0
  case neg =>
    rw [if_pos (.inl hn)]
    unfold headS at hn ⊢
    simp [Try.f79, nds, h1, h2, e1, e2, hx, hy, Nd.v, cmp107_call, cmp108_call, cmp109_call, or106_call, hn]
    exact end_is (.inr rfl) (by first | rfl | (simp; rfl)) rfl rfl
  have h110 := fun d st => compareFunc_call hA (hc hn) (d := d) (st := st)
  by_cases hk : x.kind < 4
  · rw [if_pos (.inr hk)]
    unfold headS at hn ⊢
    simp [Try.f79, nds, h1, h2, e1, e2, hx, hy, Nd.v, cmp107_call, cmp108_call, cmp109_call, or106_call, hn, hk]
    exact end_is (.inr rfl) (by first | rfl | (simp; rfl)) rfl rfl
  · rw [if_neg (by simp [hn, hk])]
    unfold headS at hn
    simp [Try.f79, nds, h1, h2, e1, e2, hx, hy, Nd.v, cmp107_call, cmp108_call, cmp109_call, or106_call, hn, hk, pa, pb, h110]
    exact end_is (.inr rfl) (by first | rfl | (simp; rfl)) rfl rfl
theorem keyN_check {t : List UInt8} (ht : t.length ≤ 120) : checkS [keyN t] = 0 := by
  have h1 : longS [keyN t] = false := by simp [longS, keyN]; omega
  have h2 : wholeS [keyN t] = some ⟨1, 1, []⟩ := by
    simp [wholeS, valS, keyN, fitsS, kidsS]
  unfold checkS
  rw [h1, h2]
  simp
theorem mem_partsS {l : List Nd} {x : List Nd} (h : x ∈ partsS l) : ∃ q ∈ spanK l 0, (mapAt l 0 = true ∧ x = [keyN (key1 l q)]) ∨ x = kidL l q := by
  unfold partsS at h
  rw [List.mem_flatten] at h
  obtain ⟨p, hp, hx⟩ := h
  obtain ⟨q, hq, rfl⟩ := List.mem_map.1 hp
  refine ⟨q, hq, ?_⟩
  unfold partAt at hx
  split at hx
  · rename_i hm
    rcases List.mem_cons.1 hx with h | h
    · exact .inl ⟨hm, h⟩
    · exact .inr (by simpa using h)
  · exact .inr (by simpa using hx)
theorem kidL_eq {l : List Nd} (hr : ∀ n ∈ l, n.inR) (hc : checkS l = 0) {q : Nat} (hq : q < l.length) : ∃ s, valS l (l.length + 1) q = some s ∧ kidL l q = cutS l q s.stop ∧ s.stop ≤ l.length ∧ s.deep ≤ 32 := by
  obtain ⟨s, h2, h3, h4⟩ := checkS_inner hc hq
  exact ⟨s, h2, by unfold kidL; rw [sub_at hr hc (Nat.le_refl _) h2]; rfl, h3, h4⟩
theorem part_ok {l : List Nd} (hr : ∀ n ∈ l, n.inR) (hc : checkS l = 0) {x : List Nd} (h : x ∈ partsS l) : checkS x = 0 ∧ (∀ n ∈ x, n.inR) ∧ x.length < l.length := by
  have hpos := checkS_pos hc
  obtain ⟨q, hq, h⟩ := mem_partsS h
  obtain ⟨q1, q2, q3⟩ := (spanK_ok hc hpos).2 q hq
  rcases h with ⟨hm, rfl⟩ | rfl
  · have hk : l[q - 1]? = some l[q - 1] := List.getElem?_eq_getElem (by omega)
    have ht := text_len hc (List.getElem_mem (show q - 1 < l.length by omega))
    refine ⟨keyN_check (by simp [key1, hk]; exact ht), fun n hn => ?_, by simp; omega⟩
    obtain rfl : n = keyN (key1 l q) := by simpa using hn
    exact ⟨by simp [keyN], by simp [keyN], by simp [keyN], by simp [keyN]⟩
  · obtain ⟨s, h2, h3, h4, h5⟩ := kidL_eq hr hc q2
    rw [h3]
    refine ⟨cutS_check h2 hc h5, fun n hn => hr n ?_, ?_⟩
    · unfold cutS at hn
      exact List.mem_of_mem_take (List.mem_of_mem_drop hn)
    · unfold cutS
      rw [List.length_drop, List.length_take]; omega
theorem partsS_len {l : List Nd} (hc : checkS l = 0) : (partsS l).length ≤ 2000 := by
  have h1 := flatP_len (partAt_len l) (spanK l 0)
  have h2 := (spanK_ok hc (checkS_pos hc)).1
  unfold flatP at h1
  unfold partsS
  omega
theorem compare_eq : ∀ (k : Nat) (a b : List Nd), a.length ≤ k → (∀ n ∈ a, n.inR) → (∀ n ∈ b, n.inR) → checkS a = 0 → checkS b = 0 → cl 79 [nds a, nds b] [] = some (.ret (.int .i64 (cmpS k a b)), []) := by
  intro k
  induction k with
  | zero => intro a b h _ _ ca _; have := checkS_pos ca; omega
  | succ k ih =>
    intro a b h ra rb ca cb
    have ha := checkS_pos ca
    have hb := checkS_pos cb
    have hx : a[0]? = some a[0] := List.getElem?_eq_getElem ha
    have hy : b[0]? = some b[0] := List.getElem?_eq_getElem hb
    have := compare_step a b ra rb ca cb _ _ hx hy (cmpS k) (by have := partsS_len ca; omega) (fun _ x hx y hy d st => by
      obtain ⟨x1, x2, x3⟩ := part_ok ra ca hx
      obtain ⟨y1, y2, y3⟩ := part_ok rb cb hy
      exact callV_ret E79 (by decide) ext79 rfl rfl (ih x y (by omega) x2 y2 x1 y1) rfl)
    rw [this]
    simp only [cmpS, hx, hy]
/-- Which of any two is ahead. -/
def orderS (a b : List Nd) : Int := if checkS a = 0 ∧ checkS b = 0 then cmpS a.length a b else 0
set_option maxHeartbeats 8000000 in
theorem order_eq (a b : List Nd) (ha : a.length ≤ 9223372036854775806) (hb : b.length ≤ 9223372036854775806) (ra : ∀ n ∈ a, n.inR) (rb : ∀ n ∈ b, n.inR) : cl 46 [nds a, nds b] [] = some (.ret (.int .i64 (orderS a b)), []) := by
  have h78 : ∀ d sl, callV G cl d (.fn (.func 78) [] []) [.own 1007] ⟨sl, [(1007, .row 1 [nds a, nds b] false ⟨false, 22⟩)]⟩ = some (.val (.bool (!badL [a, b])) (ASt.fix ⟨sl, [(1007, .row 1 [nds a, nds b] false ⟨false, 22⟩)]⟩ [1007])) := fun d sl =>
    callV_rv (pre := [.list 1 (ndsL [a, b])]) E78 (by decide) ext78 rfl rfl rfl rfl (right78_eq [a, b] (by simp) (by simp; exact ⟨ha, hb⟩) (by simp; exact ⟨ra, rb⟩)) rfl
  have hbad : badL [a, b] = !decide (checkS a = 0 ∧ checkS b = 0) := by
    by_cases h1 : checkS a = 0 <;> by_cases h2 : checkS b = 0 <;> simp [badL, h1, h2]
  rw [hbad] at h78
  refine fn_intro Try.func46 rfl (by simp) (by decide) rfl ?_
  unfold orderS
  by_cases hc : checkS a = 0 ∧ checkS b = 0
  · rw [if_pos hc]
    have h79 : ∀ d st, callV G cl d (.fn (.func 79) [] []) [nds a, nds b] st = some (.val (.int .i64 (cmpS a.length a b)) st) := fun d st => callV_ret E79 (by decide) ext79 rfl rfl (compare_eq a.length a b (Nat.le_refl _) ra rb hc.1 hc.2) rfl
    simp only [decide_eq_true hc, Bool.not_true, Bool.not_false] at h78
    simp only [nds] at h78 h79
    simp [Try.f46, nds, h78, h79]
    exact end_is (.inr rfl) (by first | rfl | (simp; rfl)) rfl rfl
  · rw [if_neg hc]
    simp only [decide_eq_false hc, Bool.not_false, Bool.not_true] at h78
    simp only [nds] at h78
    simp [Try.f46, nds, h78]
    exact end_is (.inr rfl) (by first | rfl | (simp; rfl)) rfl rfl
theorem order_call {a b : List Nd} (ha : a.length ≤ 9223372036854775806) (hb : b.length ≤ 9223372036854775806) (ra : ∀ n ∈ a, n.inR) (rb : ∀ n ∈ b, n.inR) {d : Option Nat} {st : ASt} : callV G cl d (.fn (.func 46) [] []) [nds a, nds b] st = some (.val (.int .i64 (orderS a b)) st) :=
  callV_ret E46 (by decide) ext46 rfl rfl (order_eq a b ha hb ra rb) rfl
end Go.Proofs.Ytonaejfpiihfhaa

/- Bytes stand in the order of values: plain laws. -/
namespace Go.Proofs.Ytonaejfpiihfhaa
open Go Abs
set_option linter.unusedSimpArgs false
set_option linter.unusedVariables false
theorem ordT_nil : ordT [] [] = 0 := rfl
theorem ordT_cons (b c : UInt8) (s u : List UInt8) : ordT (b :: s) (c :: u) = if b = c then ordT s u else if b < c then -1 else 1 := by
  unfold ordT
  by_cases h : b = c
  · subst h
    rw [if_pos rfl]
    have e : ltB (b :: s) (b :: u) = ltB s u := by simp [ltB]
    rw [e]
    by_cases h2 : s = u
    · subst h2; simp
    · have : ¬ (b :: s = b :: u) := fun h => h2 (List.cons.inj h).2
      rw [if_neg h2, if_neg this]
  · rw [if_neg h]
    have h2 : ¬ (b :: s = c :: u) := fun e => h (List.cons.inj e).1
    by_cases hlt : b < c
    · have : ltB (b :: s) (c :: u) = true := by simp [ltB, hlt]
      rw [if_pos this, if_pos hlt]
    · have : ¬ ltB (b :: s) (c :: u) = true := by simp [ltB, hlt, h]
      rw [if_neg this, if_neg h2, if_neg hlt]
theorem ordT_same (p s u : List UInt8) : ordT (p ++ s) (p ++ u) = ordT s u := by
  induction p with
  | nil => rfl
  | cons b p ih => rw [List.cons_append, List.cons_append, ordT_cons, if_pos rfl, ih]
/-- One byte that stands for a small number. -/
theorem u8B_lt {m n : Int} (hm : 0 ≤ m ∧ m < 256) (hn : 0 ≤ n ∧ n < 256) : (u8B m = u8B n ↔ m = n) ∧ (u8B m < u8B n ↔ m < n) := by
  have e : ∀ k : Int, 0 ≤ k ∧ k < 256 → ((u8B k).toNat : Int) = k := by
    intro k hk
    unfold u8B
    rw [show IntKind.u8.wrap k = k from by rw [u8w]; omega]
    exact toNat_ofNat hk.1 hk.2
  have e1 := e m hm
  have e2 := e n hn
  constructor
  · rw [← UInt8.toNat_inj]; omega
  · rw [UInt8.lt_iff_toNat_lt]; omega
theorem ordT_byte {m n : Int} (hm : 0 ≤ m ∧ m < 256) (hn : 0 ≤ n ∧ n < 256) (s u : List UInt8) : ordT (u8B m :: s) (u8B n :: u) = if ordI m n = 0 then ordT s u else ordI m n := by
  obtain ⟨h1, h2⟩ := u8B_lt hm hn
  rw [ordT_cons]
  unfold ordI
  by_cases e : m = n
  · subst e; simp
  · have : ¬ u8B m = u8B n := fun h => e (h1.1 h)
    rw [if_neg this]
    by_cases hlt : m < n
    · rw [if_pos (h2.2 hlt), if_pos hlt]; simp
    · have h3 : n < m := by omega
      rw [if_neg (fun h => hlt (h2.1 h))]
      simp [hlt, h3]
/-- A text's bytes stand in the order of texts; none begins another one. -/
theorem ordT_txt : ∀ (s t x y : List UInt8), ordT (txtB s ++ x) (txtB t ++ y) = if ordT s t = 0 then ordT x y else ordT s t := by
  intro s
  induction s with
  | nil =>
    intro t x y
    cases t with
    | nil => rw [ordT_nil, if_pos rfl, ordT_same]
    | cons c t =>
      have e : ordT [] (c :: t) = -1 := rfl
      rw [e, if_neg (by decide)]
      simp only [txtB]
      by_cases hc : c = 0
      · subst hc
        simp only [if_true, List.cons_append, ordT_cons]
        rw [if_neg (by decide), if_pos (by decide)]
      · rw [if_neg hc]
        simp only [List.cons_append, ordT_cons]
        rw [if_neg (fun h => hc h.symm), if_pos (by
          rw [UInt8.lt_iff_toNat_lt]
          have : c.toNat ≠ 0 := fun h => hc (by rw [← UInt8.toNat_inj]; exact h)
          show (0 : UInt8).toNat < c.toNat
          have : (0 : UInt8).toNat = 0 := rfl
          omega)]
  | cons b s ih =>
    intro t x y
    cases t with
    | nil =>
      have e : ordT (b :: s) [] = 1 := rfl
      rw [e, if_neg (by decide)]
      simp only [txtB]
      by_cases hb : b = 0
      · subst hb
        simp only [if_true, List.cons_append, ordT_cons]
        rw [if_neg (by decide), if_neg (by decide)]
      · rw [if_neg hb]
        simp only [List.cons_append, ordT_cons]
        rw [if_neg hb, if_neg (by
          rw [UInt8.lt_iff_toNat_lt]
          have : (0 : UInt8).toNat = 0 := rfl
          omega)]
    | cons c t =>
      rw [ordT_cons]
      have ih := ih t x y
      by_cases hbc : b = c
      · subst hbc
        rw [if_pos rfl]
        simp only [txtB]
        by_cases hb : b = 0
        · subst hb
          simp only [if_true, List.cons_append, ordT_cons]
          exact ih
        · rw [if_neg hb, if_neg hb]
          simp only [List.cons_append, ordT_cons, if_true]
          exact ih
      · rw [if_neg hbc]
        have hne : (if b < c then (-1 : Int) else 1) ≠ 0 := by split <;> decide
        rw [if_neg hne]
        have key : ∀ (p q : List UInt8), ordT (b :: p) (c :: q) = if b < c then -1 else 1 := fun p q => by rw [ordT_cons, if_neg hbc]
        simp only [txtB]
        by_cases hb : b = 0 <;> by_cases hc : c = 0
        · exact absurd (hb.trans hc.symm) hbc
        · rw [if_pos hb, if_neg hc]; simp only [List.cons_append]; exact key _ _
        · rw [if_neg hb, if_pos hc]; simp only [List.cons_append]; exact key _ _
        · rw [if_neg hb, if_neg hc]; simp only [List.cons_append]; exact key _ _
/-! Numbers -/
theorem ordI_shift (m n c : Int) : ordI (m + c) (n + c) = ordI m n := by
  unfold ordI
  have h1 : (m + c < n + c) ↔ m < n := by omega
  have h2 : (n + c < m + c) ↔ n < m := by omega
  simp only [h1, h2]
/-- The bytes of a number below 2^(8k), the highest one first. -/
def bytesN (n : Int) : Nat → List UInt8
  | 0 => []
  | k + 1 => lowR n k :: bytesN n k
theorem ordT_bytes (m n : Int) (hm : 0 ≤ m) (hn : 0 ≤ n) : ∀ (k : Nat) (x y : List UInt8), ordT (bytesN m k ++ x) (bytesN n k ++ y) = if ordI (m % 256 ^ k) (n % 256 ^ k) = 0 then ordT x y else ordI (m % 256 ^ k) (n % 256 ^ k) := by
  intro k
  induction k with
  | zero =>
    intro x y
    have e : ordI (m % 256 ^ 0) (n % 256 ^ 0) = 0 := by
      rw [Int.pow_zero, Int.emod_one, Int.emod_one]; rfl
    rw [e, if_pos rfl]; rfl
  | succ k ih =>
    intro x y
    have hp : (0 : Int) < 256 ^ k := Int.pow_pos (by decide)
    simp only [bytesN, List.cons_append, lowR]
    have r1 : 0 ≤ m / 256 ^ k % 256 ∧ m / 256 ^ k % 256 < 256 := ⟨Int.emod_nonneg _ (by decide), Int.emod_lt_of_pos _ (by decide)⟩
    have r2 : 0 ≤ n / 256 ^ k % 256 ∧ n / 256 ^ k % 256 < 256 := ⟨Int.emod_nonneg _ (by decide), Int.emod_lt_of_pos _ (by decide)⟩
    rw [ordT_byte r1 r2, ih x y]
    have split : ∀ z : Int, z % 256 ^ (k + 1) = (z / 256 ^ k % 256) * 256 ^ k + z % 256 ^ k := by
      intro z
      have h1 := Int.emod_add_mul_ediv z (256 ^ k)
      have h2 := Int.emod_add_mul_ediv (z / 256 ^ k) 256
      have h3 : z / 256 ^ (k + 1) = z / 256 ^ k / 256 := by rw [Int.pow_succ, Int.ediv_ediv_of_nonneg (by omega)]
      have h4 := Int.emod_add_mul_ediv z (256 ^ (k + 1))
      rw [h3, Int.pow_succ] at h4
      generalize z / 256 ^ k / 256 = q at *
      generalize z / 256 ^ k % 256 = r at *
      rw [← h2] at h1
      rw [Int.mul_add, ← Int.mul_assoc] at h1
      rw [Int.pow_succ]
      have : r * 256 ^ k = 256 ^ k * r := Int.mul_comm _ _
      omega
    have s1 := split m
    have s2 := split n
    have l1 : 0 ≤ m % 256 ^ k ∧ m % 256 ^ k < 256 ^ k := ⟨Int.emod_nonneg _ (by omega), Int.emod_lt_of_pos _ hp⟩
    have l2 : 0 ≤ n % 256 ^ k ∧ n % 256 ^ k < 256 ^ k := ⟨Int.emod_nonneg _ (by omega), Int.emod_lt_of_pos _ hp⟩
    rw [s1, s2]
    generalize m / 256 ^ k % 256 = a at *
    generalize n / 256 ^ k % 256 = b at *
    generalize m % 256 ^ k = c at *
    generalize n % 256 ^ k = d at *
    generalize (256 : Int) ^ k = P at *
    by_cases hab : a = b
    · subst hab
      have e0 : ordI a a = 0 := by unfold ordI; simp
      have e1 : ordI (a * P + c) (a * P + d) = ordI c d := by
        have := ordI_shift c d (a * P)
        rw [Int.add_comm c, Int.add_comm d] at this; exact this
      rw [e0, if_pos rfl, e1]
    · rcases Int.lt_or_gt_of_ne hab with h | h
      · have h5 : (a + 1) * P ≤ b * P := Int.mul_le_mul_of_nonneg_right (by omega) (by omega)
        rw [Int.add_mul, Int.one_mul] at h5
        have e1 : ordI a b = -1 := by unfold ordI; rw [if_pos h]
        have e2 : ordI (a * P + c) (b * P + d) = -1 := by unfold ordI; rw [if_pos (by omega)]
        rw [e1, e2, if_neg (by decide), if_neg (by decide)]
      · have h5 : (b + 1) * P ≤ a * P := Int.mul_le_mul_of_nonneg_right (by omega) (by omega)
        rw [Int.add_mul, Int.one_mul] at h5
        have e1 : ordI a b = 1 := by unfold ordI; rw [if_neg (by omega), if_pos h]
        have e2 : ordI (a * P + c) (b * P + d) = 1 := by unfold ordI; rw [if_neg (by omega), if_pos (by omega)]
        rw [e1, e2, if_neg (by decide), if_neg (by decide)]
theorem bytesN_eq {n : Int} (h0 : 0 ≤ n) : bytesN n 8 = bigB n := by
  simp only [bytesN, lowR_eq h0, bigB]
/-- A number's bytes stand in the order of numbers. -/
theorem ordT_num {m n : Int} (hm : -9223372036854775808 ≤ m ∧ m ≤ 9223372036854775807) (hn : -9223372036854775808 ≤ n ∧ n ≤ 9223372036854775807) (x y : List UInt8) : ordT (numB m ++ x) (numB n ++ y) = if ordI m n = 0 then ordT x y else ordI m n := by
  have sh : ∀ k : Int, -9223372036854775808 ≤ k ∧ k ≤ 9223372036854775807 → wXor .u64 (IntKind.u64.wrap k) 9223372036854775808 = k + 9223372036854775808 := by
    intro k hk
    have h1 : 0 ≤ IntKind.u64.wrap k ∧ IntKind.u64.wrap k < 18446744073709551616 := by rw [u64w]; omega
    rw [xor_sign _ h1.1 h1.2, u64w, u64w]
    omega
  unfold numB
  rw [sh m hm, sh n hn, ← bytesN_eq (show (0 : Int) ≤ m + 9223372036854775808 by omega), ← bytesN_eq (show (0 : Int) ≤ n + 9223372036854775808 by omega), ordT_bytes _ _ (by omega) (by omega)]
  have e : (256 : Int) ^ 8 = 18446744073709551616 := by decide
  rw [e, Int.emod_eq_of_lt (by omega) (by omega), Int.emod_eq_of_lt (by omega) (by omega), ordI_shift]
end Go.Proofs.Ytonaejfpiihfhaa

/- Bytes stand in the order of values: the same bytes elsewhere; lists of bytes. -/
namespace Go.Proofs.Ytonaejfpiihfhaa
open Go Abs
set_option linter.unusedSimpArgs false
set_option linter.unusedVariables false
theorem cutS_at {l : List Nd} {q e i : Nat} (h : q + i < e) : (cutS l q e)[i]? = l[q + i]? := by
  unfold cutS
  rw [List.getElem?_drop, List.getElem?_take, if_pos h]
theorem cutS_len {l : List Nd} {q e : Nat} (h : e ≤ l.length) : (cutS l q e).length = e - q := by
  unfold cutS; rw [List.length_drop, List.length_take]; omega
theorem kidsS_stop {val : Nat → Option Span} {l : List Nd} {b : Bool} (hv : ∀ st s, val st = some s → st < s.stop) : ∀ {c i s last r}, kidsS val l b c i s last = some r → (∀ q ∈ s.kids, q < s.stop) → s.stop ≤ r.stop ∧ ∀ q ∈ r.kids, q < r.stop := by
  intro c
  induction c with
  | zero => intro i s last r hr h2; cases hr; exact ⟨Nat.le_refl _, h2⟩
  | succ c ih =>
    intro i s last r hr h2
    simp only [kidsS] at hr
    rw [Option.bind_eq_some_iff] at hr; obtain ⟨p, hp, hr⟩ := hr
    rw [Option.bind_eq_some_iff] at hr; obtain ⟨kid, hk, hr⟩ := hr
    have hge := keyS_ge hp
    have hlt := hv _ _ hk
    obtain ⟨h3, h4⟩ := ih hr (fun q hq => by
      simp only
      rcases List.mem_append.1 hq with h | h
      · have := h2 q h; omega
      · obtain rfl : q = p.1 := by simpa using h
        omega)
    exact ⟨by simp only at h3; omega, h4⟩
theorem kidsS_below {l : List Nd} {k a : Nat} {s : Span} (h : valS l k a = some s) : ∀ x ∈ s.kids, x < s.stop := by
  cases k with
  | zero => cases h
  | succ k =>
    obtain ⟨n, r, hn, hf, hr, rfl⟩ := valS_map h
    exact (kidsS_stop (fun st s hs => (valS_spec hs).1) hr (by simp)).2
theorem spanK_moved {l : List Nd} (hc : checkS l = 0) {q : Nat} {s : Span} (hs : valS l (l.length + 1) q = some s) (hd : s.deep ≤ 32) {i : Nat} (hi : q + i < s.stop) :
    spanK (cutS l q s.stop) i = (spanK l (q + i)).map (· - q) ∧ ∀ x ∈ spanK l (q + i), q + i < x ∧ x < s.stop := by
  have hsp := valS_spec hs
  obtain ⟨sp, h1, h2, h3⟩ := valS_inner (a := q + i) hs (by omega) hi
  have hcc := cutS_check hs hc hd
  have hlen := cutS_len (l := l) (q := q) hsp.2.1
  obtain ⟨s2, g1, g2, g3⟩ := checkS_inner hcc (a := i) (by omega)
  have hm := valS_moved (l' := cutS l q s.stop) (b := i) (n := s.stop - (q + i)) (fun j hj => by
    rw [cutS_at (by omega)]; congr 1; omega) h1 (by omega)
  have hm2 := valS_mono g1 (show (cutS l q s.stop).length + 1 ≤ l.length + 1 by omega)
  rw [hm] at hm2
  have e : sp.at_ (q + i) i = s2 := Option.some.inj hm2
  have k1 : spanK l (q + i) = sp.kids := by simp [spanK, h1]
  have k2 : spanK (cutS l q s.stop) i = s2.kids := by simp [spanK, g1]
  have lt : ∀ x ∈ sp.kids, q + i < x ∧ x < s.stop := by
    intro x hx
    have hlt := valS_spec h1
    have g := (spanK_ok hc (show q + i < l.length by omega)).2 x (by rw [k1]; exact hx)
    refine ⟨g.1, ?_⟩
    -- a kid begins before its value's stop
    have := kidsS_below h1 x hx
    omega
  rw [k1, k2, ← e]
  refine ⟨?_, lt⟩
  show sp.kids.map (fun x => i + (x - (q + i))) = sp.kids.map (· - q)
  refine List.map_congr_left fun x hx => ?_
  have := lt x hx
  omega
/-- THE SAME NODES ELSEWHERE have the same bytes. -/
theorem valB_moved {l : List Nd} (hc : checkS l = 0) {q : Nat} {s : Span} (hs : valS l (l.length + 1) q = some s) (hd : s.deep ≤ 32) : ∀ (k k' i : Nat), s.stop - (q + i) ≤ k → l.length - (q + i) ≤ k' → q + i < s.stop → valB (cutS l q s.stop) k i = valB l k' (q + i) := by
  have hsp := valS_spec hs
  intro k
  induction k with
  | zero => intro k' i h1 h2 h3; omega
  | succ k ih =>
    intro k' i h1 h2 h3
    cases k' with
    | zero => omega
    | succ k' =>
      have hn : l[q + i]? = some l[q + i] := List.getElem?_eq_getElem (by omega)
      have hn2 : (cutS l q s.stop)[i]? = some l[q + i] := by rw [cutS_at h3]; exact hn
      obtain ⟨m1, m2⟩ := spanK_moved hc hs hd h3
      rw [valB_succ hn, valB_succ hn2]
      congr 1
      have hv : ∀ x ∈ spanK l (q + i), valB (cutS l q s.stop) k (x - q) = valB l k' x := fun x hx => by
        obtain ⟨x1, x2⟩ := m2 x hx
        have e : q + (x - q) = x := by omega
        have := ih k' (x - q) (by omega) (by omega) (by omega)
        rw [e] at this; exact this
      have hkey : ∀ x ∈ spanK l (q + i), key1 (cutS l q s.stop) (x - q) = key1 l x := fun x hx => by
        obtain ⟨x1, x2⟩ := m2 x hx
        unfold key1
        rw [cutS_at (by omega)]
        congr 3; omega
      have a1 : allB (valB (cutS l q s.stop) k) (spanK (cutS l q s.stop) i) = allB (valB l k') (spanK l (q + i)) := by
        unfold allB
        rw [m1, List.map_map]
        congr 1
        exact List.map_congr_left fun x hx => hv x hx
      have a2 : allB (memB (cutS l q s.stop) (valB (cutS l q s.stop) k)) (spanK (cutS l q s.stop) i) = allB (memB l (valB l k')) (spanK l (q + i)) := by
        unfold allB
        rw [m1, List.map_map]
        congr 1
        refine List.map_congr_left fun x hx => ?_
        show memB (cutS l q s.stop) (valB (cutS l q s.stop) k) (x - q) = memB l (valB l k') x
        simp only [memB, hkey x hx, hv x hx]
      simp only [bodyB, a1, a2]
/-- A kid's bytes are its own. -/
theorem valB_kid {l : List Nd} (hr : ∀ n ∈ l, n.inR) (hc : checkS l = 0) {q k : Nat} (hq : q < l.length) (hk : l.length - q ≤ k) : valB l k q = putB (kidL l q) := by
  obtain ⟨s, h2, h3, h4, h5⟩ := kidL_eq hr hc hq
  have hsp := valS_spec h2
  rw [h3]
  unfold putB
  have := valB_moved hc h2 h5 ((cutS l q s.stop).length + 1) k 0 (by rw [cutS_len h4]; omega) (by omega) (by omega)
  rw [this]; rfl
theorem putB_some {l : List Nd} {n : Nd} (hn : l[0]? = some n) : putB l = u8B (n.kind + 1) :: bodyB l (valB l l.length) 0 n := valB_succ hn
/-! Lists of bytes -/
theorem listC_app {c : List Nd → List Nd → Int} : ∀ (A B A' B' : List (List Nd)), A.length = B.length → listC c (A ++ A') (B ++ B') = if listC c A B = 0 then listC c A' B' else listC c A B := by
  intro A
  induction A with
  | nil => intro B A' B' h; cases B with
    | nil => simp [listC]
    | cons _ _ => simp at h
  | cons a A ih => intro B A' B' h; cases B with
    | nil => simp at h
    | cons b B =>
      have e1 : listC c (a :: A ++ A') (b :: B ++ B') = if c a b = 0 then listC c (A ++ A') (B ++ B') else c a b := rfl
      have e2 : listC c (a :: A) (b :: B) = if c a b = 0 then listC c A B else c a b := rfl
      by_cases h0 : c a b = 0
      · rw [if_pos h0] at e1 e2
        rw [e1, e2]; exact ih B A' B' (by simpa using h)
      · rw [if_neg h0] at e1 e2
        rw [e1, e2, if_neg h0]
theorem ordT_list {c : List Nd → List Nd → Int} {f1 f2 : Nat → List UInt8} {P1 P2 : Nat → List (List Nd)} (m : Nat) (hm : 0 < m) (x y : List UInt8) : ∀ (K1 K2 : List Nat), (∀ q ∈ K1, (P1 q).length = m ∧ ∃ h r, f1 q = h :: r ∧ h ≠ 0) → (∀ q ∈ K2, (P2 q).length = m ∧ ∃ h r, f2 q = h :: r ∧ h ≠ 0) →
    (∀ q1 ∈ K1, ∀ q2 ∈ K2, ∀ x' y', ordT (f1 q1 ++ x') (f2 q2 ++ y') = if listC c (P1 q1) (P2 q2) = 0 then ordT x' y' else listC c (P1 q1) (P2 q2)) →
    ordT (allB f1 K1 ++ (0 :: x)) (allB f2 K2 ++ (0 :: y)) = if listC c (flatP P1 K1) (flatP P2 K2) = 0 then ordT x y else listC c (flatP P1 K1) (flatP P2 K2) := by
  intro K1
  induction K1 with
  | nil =>
    intro K2 _ h2 _
    cases K2 with
    | nil => simp [allB, flatP, listC, ordT_cons]
    | cons q K2 =>
      obtain ⟨g1, h, r, g2, g3⟩ := h2 q (by simp)
      obtain ⟨p, P, hp⟩ : ∃ p P, P2 q = p :: P := by
        cases hP : P2 q with
        | nil => rw [hP] at g1; simp at g1; omega
        | cons p P => exact ⟨p, P, rfl⟩
      have e : listC c (flatP P1 []) (flatP P2 (q :: K2)) = -1 := by simp [flatP, hp, listC]
      rw [e, if_neg (by decide)]
      simp only [allB, List.map_nil, List.flatten_nil, List.nil_append, List.map_cons, List.flatten_cons, g2, List.cons_append, ordT_cons]
      rw [if_neg (fun e => g3 e.symm), if_pos]
      rw [UInt8.lt_iff_toNat_lt]
      have : h.toNat ≠ 0 := fun e => g3 (by rw [← UInt8.toNat_inj]; exact e)
      have h0 : (0 : UInt8).toNat = 0 := rfl
      omega
  | cons q1 K1 ih =>
    intro K2 h1 h2 h3
    obtain ⟨g1, h, r, g2, g3⟩ := h1 q1 (by simp)
    cases K2 with
    | nil =>
      obtain ⟨p, P, hp⟩ : ∃ p P, P1 q1 = p :: P := by
        cases hP : P1 q1 with
        | nil => rw [hP] at g1; simp at g1; omega
        | cons p P => exact ⟨p, P, rfl⟩
      have e : listC c (flatP P1 (q1 :: K1)) (flatP P2 []) = 1 := by simp [flatP, hp, listC]
      rw [e, if_neg (by decide)]
      simp only [allB, List.map_nil, List.flatten_nil, List.nil_append, List.map_cons, List.flatten_cons, g2, List.cons_append, ordT_cons]
      rw [if_neg g3, if_neg]
      rw [UInt8.lt_iff_toNat_lt]
      have h0 : (0 : UInt8).toNat = 0 := rfl
      omega
    | cons q2 K2 =>
      obtain ⟨k1, _⟩ := h2 q2 (by simp)
      have ihh := ih K2 (fun q hq => h1 q (List.mem_cons_of_mem _ hq)) (fun q hq => h2 q (List.mem_cons_of_mem _ hq)) (fun a ha b hb => h3 a (List.mem_cons_of_mem _ ha) b (List.mem_cons_of_mem _ hb))
      have e1 : allB f1 (q1 :: K1) ++ (0 :: x) = f1 q1 ++ (allB f1 K1 ++ (0 :: x)) := by simp [allB]
      have e2 : allB f2 (q2 :: K2) ++ (0 :: y) = f2 q2 ++ (allB f2 K2 ++ (0 :: y)) := by simp [allB]
      have e3 : flatP P1 (q1 :: K1) = P1 q1 ++ flatP P1 K1 := by simp [flatP]
      have e4 : flatP P2 (q2 :: K2) = P2 q2 ++ flatP P2 K2 := by simp [flatP]
      rw [e1, e2, h3 q1 (by simp) q2 (by simp), ihh, e3, e4, listC_app _ _ _ _ (g1.trans k1.symm)]
      by_cases h0 : listC c (P1 q1) (P2 q2) = 0
      · rw [if_pos h0, if_pos h0]
      · rw [if_neg h0, if_neg h0, if_neg h0]
end Go.Proofs.Ytonaejfpiihfhaa

/- Bytes stand in the order of values. -/
namespace Go.Proofs.Ytonaejfpiihfhaa
open Go Abs
set_option linter.unusedSimpArgs false
set_option linter.unusedVariables false
theorem ordI_self (m : Int) : ordI m m = 0 := by unfold ordI; simp
theorem ordT_self (s : List UInt8) : ordT s s = 0 := by
  induction s with
  | nil => rfl
  | cons b s ih => rw [ordT_cons, if_pos rfl, ih]
theorem ordI_eq {m n : Int} (h : ordI m n = 0) : m = n := by
  unfold ordI at h
  split at h
  · cases h
  · split at h
    · cases h
    · omega
theorem fits_plain0 {n : Nd} (h : fitsS n = true) (hr : n.inR) : (n.kind ≠ 1 → n.kind ≠ 2 → n.num = 0) ∧ (n.kind ≠ 3 → n.text = []) ∧ (n.kind = 1 → n.num = 0 ∨ n.num = 1) := by
  unfold fitsS at h
  split at h
  · rename_i h1
    simp only [Bool.and_eq_true, decide_eq_true_eq] at h
    exact ⟨fun h2 => absurd h1 h2, fun _ => h.1.2, fun _ => (andNot1 hr.1 hr.2.1).1 h.1.1⟩
  rename_i g1
  split at h
  · rename_i h1
    simp only [Bool.and_eq_true, decide_eq_true_eq] at h
    exact ⟨fun _ _ => h.1.1, fun _ => h.1.2, fun e => absurd e g1⟩
  split at h
  · rename_i h1
    simp only [Bool.and_eq_true, decide_eq_true_eq] at h
    exact ⟨fun _ h2 => absurd h1 h2, fun _ => h.1, fun e => absurd e g1⟩
  split at h
  · rename_i h1
    simp only [Bool.and_eq_true, decide_eq_true_eq] at h
    exact ⟨fun _ _ => h.1, fun h3 => absurd h1 h3, fun e => absurd e g1⟩
  split at h
  · simp only [Bool.and_eq_true, decide_eq_true_eq] at h
    exact ⟨fun _ _ => h.1.1, fun _ => h.1.2, fun e => absurd e g1⟩
  · cases h
theorem head_byte (l : List Nd) {k q : Nat} {n : Nd} (hn : l[q]? = some n) (hf : fitsS n = true) (hk : 0 < k) : ∃ h r, valB l k q = h :: r ∧ h ≠ 0 := by
  obtain ⟨k, rfl⟩ : ∃ j, k = j + 1 := ⟨k - 1, by omega⟩
  refine ⟨_, _, valB_succ hn, fun e => ?_⟩
  have h1 : u8B (n.kind + 1) = u8B 0 := e
  have := ((u8B_lt (m := n.kind + 1) (n := 0) (by rcases fits_kind hf with h | h | h | h | h | h <;> rw [h] <;> decide) (by decide)).1).1 h1
  rcases fits_kind hf with h | h | h | h | h | h <;> rw [h] at this <;> cases this
theorem valid_fits {l : List Nd} (hc : checkS l = 0) {q : Nat} (hq : q < l.length) : ∃ n, l[q]? = some n ∧ fitsS n = true := by
  obtain ⟨s, h2, _, _⟩ := checkS_inner hc hq
  obtain ⟨n, r, hn, hf, _, _⟩ := valS_map h2
  exact ⟨n, hn, hf⟩
theorem cmpS_key {k : Nat} (hk : 0 < k) (s t : List UInt8) : cmpS k [keyN s] [keyN t] = ordT s t := by
  obtain ⟨k, rfl⟩ : ∃ j, k = j + 1 := ⟨k - 1, by omega⟩
  have h : headS (keyN s) (keyN t) = ordT s t := by
    unfold headS orI keyN
    simp only [ordI_self]
    simp
  simp only [cmpS, List.getElem?_cons_zero, h]
  rw [if_pos (.inr (by simp [keyN]))]
theorem listC_one {c : List Nd → List Nd → Int} (x y : List Nd) : listC c [x] [y] = c x y := by
  have e : listC c [x] [y] = if c x y = 0 then 0 else c x y := rfl
  rw [e]; split
  · rename_i h; exact h.symm
  · rfl
theorem listC_two {c : List Nd → List Nd → Int} (x y x' y' : List Nd) : listC c [x, x'] [y, y'] = if c x y = 0 then c x' y' else c x y := by
  have e : listC c [x, x'] [y, y'] = if c x y = 0 then listC c [x'] [y'] else c x y := rfl
  rw [e, listC_one]
theorem partsS_flat (l : List Nd) : partsS l = flatP (partAt l) (spanK l 0) := rfl
/-- BYTES STAND IN THE ORDER OF VALUES, whatever is behind them. -/
theorem ordT_val : ∀ (k : Nat) (a b : List Nd), a.length ≤ k → (∀ n ∈ a, n.inR) → (∀ n ∈ b, n.inR) → checkS a = 0 → checkS b = 0 → ∀ x y, ordT (putB a ++ x) (putB b ++ y) = if cmpS k a b = 0 then ordT x y else cmpS k a b := by
  intro k
  induction k with
  | zero => intro a b h _ _ ca _; have := checkS_pos ca; omega
  | succ k ih =>
    intro a b hk ra rb ca cb x y
    have pa := checkS_pos ca
    have pb := checkS_pos cb
    obtain ⟨m, hm, fm⟩ := valid_fits ca pa
    obtain ⟨n, hn, fn⟩ := valid_fits cb pb
    have rm := ra m (List.mem_of_getElem? hm)
    have rn := rb n (List.mem_of_getElem? hn)
    rw [putB_some hm, putB_some hn, List.cons_append, List.cons_append, ordT_byte (by rcases fits_kind fm with h | h | h | h | h | h <;> rw [h] <;> decide) (by rcases fits_kind fn with h | h | h | h | h | h <;> rw [h] <;> decide), ordI_shift]
    have hcmp : cmpS (k + 1) a b = if headS m n ≠ 0 ∨ m.kind < 4 then headS m n else listC (cmpS k) (partsS a) (partsS b) := by simp only [cmpS, hm, hn]
    by_cases hkind : ordI m.kind n.kind = 0
    case neg =>
      have hh : headS m n = ordI m.kind n.kind := by unfold headS orI; rw [if_pos hkind]
      have e : cmpS (k + 1) a b = ordI m.kind n.kind := by rw [hcmp, hh]; exact if_pos (.inl hkind)
      rw [e, if_neg hkind, if_neg hkind]
    rw [if_pos hkind]
    have ek := ordI_eq hkind
    obtain ⟨m1, m2, m3⟩ := fits_plain0 fm rm
    obtain ⟨n1, n2, n3⟩ := fits_plain0 fn rn
    have hh : headS m n = if ordI m.num n.num ≠ 0 then ordI m.num n.num else ordT m.text n.text := by
      unfold headS orI; rw [if_neg (by simp [hkind])]
    have big : 4 ≤ m.kind → headS m n = 0 := fun h => by
      rw [hh, m1 (by omega) (by omega), n1 (by omega) (by omega), m2 (by omega), n2 (by omega), ordI_self, ordT_self]; simp
    have small : m.kind < 4 → cmpS (k + 1) a b = headS m n := fun h => by rw [hcmp, if_pos (.inr h)]
    rcases fits_kind fm with h | h | h | h | h | h
    · rw [small (by omega), hh, m1 (by omega) (by omega), n1 (by omega) (by omega), m2 (by omega), n2 (by omega), ordI_self, ordT_self]
      have e1 : bodyB a (valB a a.length) 0 m = [] := by simp [bodyB, h]
      have e2 : bodyB b (valB b b.length) 0 n = [] := by simp [bodyB, ← ek, h]
      rw [e1, e2]; simp
    · rw [small (by omega), hh, m2 (by omega), n2 (by omega), ordT_self]
      have e1 : bodyB a (valB a a.length) 0 m = [u8B m.num] := by simp [bodyB, h]
      have e2 : bodyB b (valB b b.length) 0 n = [u8B n.num] := by simp [bodyB, ← ek, h]
      rw [e1, e2, List.singleton_append, List.singleton_append, ordT_byte (by have := m3 h; omega) (by have := n3 (by omega); omega)]
      by_cases h0 : ordI m.num n.num = 0 <;> simp [h0]
    · rw [small (by omega), hh, m2 (by omega), n2 (by omega), ordT_self]
      have e1 : bodyB a (valB a a.length) 0 m = numB m.num := by simp [bodyB, h]
      have e2 : bodyB b (valB b b.length) 0 n = numB n.num := by simp [bodyB, ← ek, h]
      rw [e1, e2, ordT_num ⟨rm.1, rm.2.1⟩ ⟨rn.1, rn.2.1⟩]
      by_cases h0 : ordI m.num n.num = 0 <;> simp [h0]
    · rw [small (by omega), hh, m1 (by omega) (by omega), n1 (by omega) (by omega), ordI_self]
      have e1 : bodyB a (valB a a.length) 0 m = txtB m.text := by simp [bodyB, h]
      have e2 : bodyB b (valB b b.length) 0 n = txtB n.text := by simp [bodyB, ← ek, h]
      rw [e1, e2, ordT_txt]; simp
    · have hb := big (by omega)
      have ec : cmpS (k + 1) a b = listC (cmpS k) (partsS a) (partsS b) := by rw [hcmp]; exact if_neg fun hor => hor.elim (fun h0 => h0 hb) (fun h4 => by omega)
      rw [ec]
      have e1 : bodyB a (valB a a.length) 0 m = allB (valB a a.length) (spanK a 0) ++ [0] := by simp [bodyB, h]
      have e2 : bodyB b (valB b b.length) 0 n = allB (valB b b.length) (spanK b 0) ++ [0] := by simp [bodyB, ← ek, h]
      rw [e1, e2, List.append_assoc, List.append_assoc, List.singleton_append, List.singleton_append, partsS_flat, partsS_flat]
      have ma : mapAt a 0 = false := by simp [mapAt, hm, h]
      have mb : mapAt b 0 = false := by simp [mapAt, hn, ← ek, h]
      have qa : ∀ q, partAt a q = [kidL a q] := fun q => by unfold partAt; rw [ma]; rfl
      have qb : ∀ q, partAt b q = [kidL b q] := fun q => by unfold partAt; rw [mb]; rfl
      refine ordT_list (c := cmpS k) (f1 := valB a a.length) (f2 := valB b b.length) (P1 := partAt a) (P2 := partAt b) 1 (by omega) x y (spanK a 0) (spanK b 0) (fun q hq => ⟨by rw [qa]; rfl, ?_⟩) (fun q hq => ⟨by rw [qb]; rfl, ?_⟩) (fun q1 h1 q2 h2 x' y' => ?_)
      · obtain ⟨g1, g2, g3⟩ := (spanK_ok ca pa).2 q hq
        obtain ⟨z, hz, fz⟩ := valid_fits ca g2
        exact head_byte a hz fz pa
      · obtain ⟨g1, g2, g3⟩ := (spanK_ok cb pb).2 q hq
        obtain ⟨z, hz, fz⟩ := valid_fits cb g2
        exact head_byte b hz fz pb
      · obtain ⟨g1, g2, g3⟩ := (spanK_ok ca pa).2 q1 h1
        obtain ⟨j1, j2, j3⟩ := (spanK_ok cb pb).2 q2 h2
        rw [qa, qb, listC_one, valB_kid ra ca g2 (by omega), valB_kid rb cb j2 (by omega)]
        obtain ⟨p1, p2, p3⟩ := part_ok ra ca (x := kidL a q1) (by rw [partsS_flat]; unfold flatP; exact List.mem_flatten.2 ⟨_, List.mem_map_of_mem h1, by rw [qa]; simp⟩)
        obtain ⟨r1, r2, r3⟩ := part_ok rb cb (x := kidL b q2) (by rw [partsS_flat]; unfold flatP; exact List.mem_flatten.2 ⟨_, List.mem_map_of_mem h2, by rw [qb]; simp⟩)
        exact ih _ _ (by omega) p2 r2 p1 r1 x' y'
    · have hb := big (by omega)
      have ec : cmpS (k + 1) a b = listC (cmpS k) (partsS a) (partsS b) := by rw [hcmp]; exact if_neg fun hor => hor.elim (fun h0 => h0 hb) (fun h4 => by omega)
      rw [ec]
      have e1 : bodyB a (valB a a.length) 0 m = allB (memB a (valB a a.length)) (spanK a 0) ++ [0] := by simp [bodyB, h]
      have e2 : bodyB b (valB b b.length) 0 n = allB (memB b (valB b b.length)) (spanK b 0) ++ [0] := by simp [bodyB, ← ek, h]
      rw [e1, e2, List.append_assoc, List.append_assoc, List.singleton_append, List.singleton_append, partsS_flat, partsS_flat]
      have ma : mapAt a 0 = true := by simp [mapAt, hm, h]
      have mb : mapAt b 0 = true := by simp [mapAt, hn, ← ek, h]
      have qa : ∀ q, partAt a q = [[keyN (key1 a q)], kidL a q] := fun q => by unfold partAt; rw [ma]; rfl
      have qb : ∀ q, partAt b q = [[keyN (key1 b q)], kidL b q] := fun q => by unfold partAt; rw [mb]; rfl
      refine ordT_list (c := cmpS k) (f1 := memB a (valB a a.length)) (f2 := memB b (valB b b.length)) (P1 := partAt a) (P2 := partAt b) 2 (by omega) x y (spanK a 0) (spanK b 0) (fun q hq => ⟨by rw [qa]; rfl, 1, _, rfl, by decide⟩) (fun q hq => ⟨by rw [qb]; rfl, 1, _, rfl, by decide⟩) (fun q1 h1 q2 h2 x' y' => ?_)
      obtain ⟨g1, g2, g3⟩ := (spanK_ok ca pa).2 q1 h1
      obtain ⟨j1, j2, j3⟩ := (spanK_ok cb pb).2 q2 h2
      obtain ⟨p1, p2, p3⟩ := part_ok ra ca (x := kidL a q1) (by rw [partsS_flat]; unfold flatP; exact List.mem_flatten.2 ⟨_, List.mem_map_of_mem h1, by rw [qa]; simp⟩)
      obtain ⟨r1, r2, r3⟩ := part_ok rb cb (x := kidL b q2) (by rw [partsS_flat]; unfold flatP; exact List.mem_flatten.2 ⟨_, List.mem_map_of_mem h2, by rw [qb]; simp⟩)
      have pk := checkS_pos p1
      rw [qa, qb, listC_two, cmpS_key (by omega)]
      unfold memB
      rw [List.cons_append, List.cons_append, List.cons_append, List.cons_append, ordT_cons, if_pos rfl, List.append_assoc, List.append_assoc, ordT_txt, valB_kid ra ca g2 (by omega), valB_kid rb cb j2 (by omega), ih _ _ (by omega) p2 r2 p1 r1 x' y']
      by_cases h0 : ordT (key1 a q1) (key1 b q2) = 0
      · rw [if_pos h0, if_pos h0]
      · rw [if_neg h0, if_neg h0, if_neg h0]
theorem putB_order {a b : List Nd} (ra : ∀ n ∈ a, n.inR) (rb : ∀ n ∈ b, n.inR) (ca : checkS a = 0) (cb : checkS b = 0) : ordT (putB a) (putB b) = orderS a b := by
  have := ordT_val a.length a b (Nat.le_refl _) ra rb ca cb [] []
  rw [List.append_nil, List.append_nil] at this
  unfold orderS
  rw [if_pos ⟨ca, cb⟩, this]
  split
  · rename_i h; rw [h]; rfl
  · rfl
theorem ordT_lt {s u : List UInt8} : ordT s u < 0 ↔ ltB s u = true := by
  unfold ordT
  split
  · rename_i h; simp [h]
  · rename_i h; split <;> simp [h]
theorem ordT_gt {s u : List UInt8} : 0 < ordT s u ↔ (ltB s u || decide (s = u)) = false := by
  unfold ordT
  split
  · rename_i h; simp [h]
  · rename_i h; split
    · rename_i h2; simp [h2]
    · rename_i h2; simp [h, h2]
end Go.Proofs.Ytonaejfpiihfhaa

/- What the law CodeOrders comes to. -/
namespace Go.Proofs.Ytonaejfpiihfhaa
open Go Abs
set_option linter.unusedSimpArgs false
set_option linter.unusedVariables false
set_option maxHeartbeats 8000000 in
theorem codeOrders_eq (a : List Nd) (ra : ∀ n ∈ a, n.inR) (b : List Nd) (rb : ∀ n ∈ b, n.inR) : cl 13 [nds a, nds b] [] = some (.ret (.bool true), []) := by
  refine fn_intro Try.func13 rfl (by simp) (by decide) rfl ?_
  have h35 := fun d st => works12_call (d := d) (st := st)
  have h15 := fun d st => few_call (l := a) (d := d) (st := st)
  have k15 := fun d st => few_call (l := b) (d := d) (st := st)
  simp only [nds] at h15 k15
  cases hf : fewS a with
  | false =>
    rw [hf] at h15
    simp [Try.f13, nds, h35, h15]
    exact end_is (.inr rfl) (by first | rfl | (simp; rfl)) rfl rfl
  | true =>
    rw [hf] at h15
    cases hg : fewS b with
    | false =>
      rw [hg] at k15
      simp [Try.f13, nds, h35, h15, k15]
      exact end_is (.inr rfl) (by first | rfl | (simp; rfl)) rfl rfl
    | true =>
      rw [hg] at k15
      have la := fewS_len hf
      have lb := fewS_len hg
      have h36 := fun d st => put_call (l := a) (by omega) ra (d := d) (st := st)
      have k36 := fun d st => put_call (l := b) (by omega) rb (d := d) (st := st)
      have h46 := fun d st => order_call (a := a) (b := b) (by omega) (by omega) ra rb (d := d) (st := st)
      unfold putV at h36 k36
      simp only [nds] at h36 k36 h46
      by_cases ca : checkS a = 0
      case neg =>
        rw [if_neg ca] at h36
        by_cases cb : checkS b = 0
        · rw [if_pos cb] at k36
          simp [Try.f13, nds, h35, h15, k15, h36, k36, ca]
          exact end_is (.inr rfl) (by first | rfl | (simp; rfl)) rfl rfl
        · rw [if_neg cb] at k36
          simp [Try.f13, nds, h35, h15, k15, h36, k36, ca]
          exact end_is (.inr rfl) (by first | rfl | (simp; rfl)) rfl rfl
      rw [if_pos ca] at h36
      by_cases cb : checkS b = 0
      case neg =>
        rw [if_neg cb] at k36
        simp [Try.f13, nds, h35, h15, k15, h36, k36, cb]
        exact end_is (.inr rfl) (by first | rfl | (simp; rfl)) rfl rfl
      rw [if_pos cb] at k36
      have ho := putB_order ra rb ca cb
      have e1 : decide (orderS a b < 0) = ltB (putB a) (putB b) := by
        rw [← ho]
        cases h : ltB (putB a) (putB b) with
        | true => simpa using ordT_lt.2 h
        | false =>
          have : ¬ ordT (putB a) (putB b) < 0 := fun h2 => by rw [ordT_lt.1 h2] at h; cases h
          simpa using this
      have e2 : decide (0 < orderS a b) = !(ltB (putB a) (putB b) || decide (putB a = putB b)) := by
        rw [← ho]
        cases h : (ltB (putB a) (putB b) || decide (putB a = putB b)) with
        | false => simpa using ordT_gt.2 h
        | true =>
          have : ¬ 0 < ordT (putB a) (putB b) := fun h2 => by rw [ordT_gt.1 h2] at h; cases h
          simpa using this
      simp [Try.f13, nds, h35, h15, k15, h36, k36, h46, e1, e2]
      exact end_is (.inr rfl) (by first | rfl | (simp; rfl)) rfl rfl
end Go.Proofs.Ytonaejfpiihfhaa
