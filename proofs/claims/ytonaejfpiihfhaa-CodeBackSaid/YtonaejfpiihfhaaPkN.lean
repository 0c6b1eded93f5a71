/- What the functions come to: the document's bytes. What the functions come to: the document's value as bytes. What the functions come to: the document's Put, Join. What the law CodePuts comes to. -/
import Derived.Test.YtonaejfpiihfhaaPkM
import Derived.Test.YtonaejfpiihfhaaPkF

/- What the functions come to: the document's bytes. -/
namespace Go.Proofs.Ytonaejfpiihfhaa
open Go Abs
set_option linter.unusedSimpArgs false
set_option linter.unusedVariables false
attribute [local simp] canonK canonAll canonSlot canonCell canonBox ownStep restrictTo pureCells pureRows reachL AObj.names List.range_succ appendA
theorem u64w (n : Int) : IntKind.u64.wrap n = n % 18446744073709551616 := by simp [IntKind.wrap, IntKind.bits, IntKind.signed]
theorem u8w (n : Int) : IntKind.u8.wrap n = n % 256 := by simp [IntKind.wrap, IntKind.bits, IntKind.signed]
set_option maxHeartbeats 8000000 in
theorem byteOf_eq (n : Int) : cl 64 [.int .i64 n] [] = some (.ret (.str [u8B n]), []) := by
  refine fn_intro Try.func64 rfl (by simp) (by decide) rfl ?_
  have h := u8V (n := n)
  simp only [bV] at h
  simp [Try.f64, h, bytesOf?]
  exact end_is (.inr rfl) (by simp; rfl) rfl rfl
theorem byteOf_call {d : Option Nat} {st : ASt} {n : Int} : callV G cl d (.fn (.func 64) [] []) [.int .i64 n] st = some (.val (.str [u8B n]) st) := callV_ret E64 (by decide) ext64 rfl rfl (byteOf_eq n) rfl
def st65 (s out : List UInt8) (i : Nat) : ASt := ⟨[(0, .str s), (3, .str out), (4, .int .i64 i)], []⟩
set_option maxHeartbeats 8000000 in
theorem rtext_round (s : List UInt8) (hs : s.length ≤ 1000000) (i : Nat) (b : UInt8) (hi : s[i]? = some b) (out : List UInt8) (ho : out.length ≤ 2000000) :
    rX 65 (lc Try.f65 0) (codeX G cl lp 65 (lc Try.f65 0) (st65 s out i)) = some (.normal, st65 s (out ++ txt0 [b]) (i + 1)) := by
  have hlt : i < s.length := (List.getElem?_eq_some_iff.1 hi).1
  have e : s[i] = b := (List.getElem?_eq_some_iff.1 hi).2
  have hw1 : IntKind.i64.wrap ((i : Int) + 1) = ((i + 1 : Nat) : Int) := by rw [i64_wrap (by omega) (by omega)]; omega
  have h64 := fun d st => byteOf_call (d := d) (st := st) (n := 255)
  have hL : out.length + 1 ≤ LIM := by unfold LIM; omega
  have hL2 : out.length + 1 + 1 ≤ LIM := by unfold LIM; omega
  have hx := str_at hi
  have hc : (s.take (i + 1)).drop i = [b] := by rw [List.take_add_one, List.drop_append_of_le_length (by simp; omega), List.drop_of_length_le (by simp; omega), hi]; rfl
  have hp1 : (0 : Int) ≤ (i : Int) + 1 := by omega
  have hle : i + 1 ≤ s.length := by omega
  by_cases h0 : b.toNat = 0
  · have hz : b = 0 := by rw [← UInt8.toNat_inj]; exact h0
    have ht : txt0 [b] = [b, u8B 255] := by simp [txt0, hz]; rfl
    rw [ht]
    simp only [h0, Int.natCast_zero] at hx
    simp [lc, loopsOf, Try.f65, st65, hlt, e, hw1, hx, h64, hp1, hle, hc, hL, hL2]
    done
  · have hz : ¬ b = 0 := fun h => h0 (by rw [h]; rfl)
    have ht : txt0 [b] = [b] := by simp [txt0, hz]
    rw [ht]
    simp [lc, loopsOf, Try.f65, st65, hlt, e, hw1, hx, h64, h0, hp1, hle, hc, hL, hL2]
    done
theorem rtext_exit (s out : List UInt8) : rX 65 (lc Try.f65 0) (codeX G cl lp 65 (lc Try.f65 0) (st65 s out s.length)) = some (.exit 0, ⟨[(0, .str s), (3, .str out), (4, .int .i64 s.length), (8, .bool false)], []⟩) := by
  simp [lc, loopsOf, Try.f65, st65]
theorem rtext_loop (s : List UInt8) (hs : s.length ≤ 1000000) : ∀ (c i : Nat), i + c = s.length → lp 65 (lc Try.f65 0) (st65 s (txt0 (s.take i)) i) = some (.exit 0, ⟨[(0, .str s), (3, .str (txt0 s)), (4, .int .i64 s.length), (8, .bool false)], []⟩) := by
  intro c
  induction c with
  | zero =>
    intro i hi
    obtain rfl : i = s.length := by omega
    rw [List.take_of_length_le (Nat.le_refl _)]
    exact loop_out (rtext_exit s _) (by simp)
  | succ c ih =>
    intro i hi
    have hlt : i < s.length := by omega
    have hq : s[i]? = some s[i] := List.getElem?_eq_getElem hlt
    have hl := txt0_length (s.take i)
    rw [List.length_take] at hl
    have h := rtext_round s hs i _ hq (txt0 (s.take i)) (by omega)
    have e : txt0 (s.take i) ++ txt0 [s[i]] = txt0 (s.take (i + 1)) := by
      rw [List.take_add_one, hq, ← txt0_app]; rfl
    rw [e] at h
    exact loop_next h (ih (i + 1) (by omega))
set_option maxHeartbeats 8000000 in
theorem rtext_eq (s : List UInt8) (hs : s.length ≤ 1000000) : cl 65 [.str s] [] = some (.ret (.str (txtB s)), []) := by
  refine fn_intro Try.func65 rfl (by simp) (by decide) rfl ?_
  have hlp := rtext_loop s hs s.length 0 (by omega)
  have h64 := fun d st => byteOf_call (d := d) (st := st) (n := 0)
  have hl := txt0_length s
  have hL : (txt0 s).length + 1 ≤ LIM := by unfold LIM; omega
  have hL2 : (txt0 s).length + 1 + 1 ≤ LIM := by unfold LIM; omega
  have h0 : u8B 0 = 0 := rfl
  rw [txtB_eq]
  simp [st65, txt0, lc, loopsOf, Try.f65] at hlp
  simp [Try.f65, hlp, h64, hL, hL2, h0]
  exact end_is (.inr rfl) (by simp; rfl) rfl rfl
theorem rtext_call {d : Option Nat} {st : ASt} {s : List UInt8} (hs : s.length ≤ 1000000) : callV G cl d (.fn (.func 65) [] []) [.str s] st = some (.val (.str (txtB s)) st) := callV_ret E65 (by decide) ext65 rfl rfl (rtext_eq s hs) rfl

/-! Numbers -/
def lowR (n : Int) (i : Nat) : UInt8 := u8B ((n / 256 ^ i) % 256)
def bigR (n : Int) : Nat → List UInt8
  | 0 => []
  | i + 1 => lowR n i :: bigR n i
theorem bigR_len (n : Int) (i : Nat) : (bigR n i).length = i := by induction i with
  | zero => rfl
  | succ i ih => simp [bigR, ih]
def st125 (n : Int) (s : List UInt8) (i : Nat) : ASt := ⟨[(0, .int .u64 n), (1, .int .i64 8), (5, .str s), (6, .int .i64 i)], []⟩
set_option maxHeartbeats 8000000 in
theorem rbig_round (n : Int) (h0 : 0 ≤ n) (h1 : n < 18446744073709551616) (s : List UInt8) (hs : s.length ≤ 8) (i : Nat) (hi : i < 8) :
    rX 125 (lc Try.f125 0) (codeX G cl lp 125 (lc Try.f125 0) (st125 (n / 256 ^ i) s i)) = some (.normal, st125 (n / 256 ^ (i + 1)) (lowR n i :: s) (i + 1)) := by
  have hw1 : IntKind.i64.wrap ((i : Int) + 1) = ((i + 1 : Nat) : Int) := by rw [i64_wrap (by omega) (by omega)]; omega
  have hlt : (i : Int) < 8 := by omega
  have hn0 : 0 ≤ n / 256 ^ i := Int.ediv_nonneg h0 (by exact Int.pow_nonneg (by omega))
  have hq : n / 256 ^ (i + 1) = (n / 256 ^ i) / 256 := by rw [Int.pow_succ, Int.ediv_ediv_of_nonneg (Int.pow_nonneg (by omega))]
  have hn1 : n / 256 ^ i ≤ n := Int.ediv_le_self _ h0
  rw [hq]
  have hm : (n / 256 ^ i).tmod 256 = (n / 256 ^ i) % 256 := Int.tmod_eq_emod_of_nonneg hn0
  have hd : (n / 256 ^ i).tdiv 256 = (n / 256 ^ i) / 256 := Int.tdiv_eq_ediv_of_nonneg hn0
  have hl : lowR n i = u8B ((n / 256 ^ i) % 256) := rfl
  rw [hl]
  generalize n / 256 ^ i = m at *
  have hw : IntKind.u64.wrap (m / 256) = m / 256 := by rw [u64w]; omega
  have hv := u8V (n := m % 256)
  simp only [bV] at hv
  have hL : 1 + s.length ≤ LIM := by unfold LIM; omega
  simp [lc, loopsOf, Try.f125, st125, hlt, hw1, hm, hd, hw, hv, bytesOf?, hL]
  done
theorem rbig_exit (n : Int) (s : List UInt8) : rX 125 (lc Try.f125 0) (codeX G cl lp 125 (lc Try.f125 0) (st125 n s 8)) = some (.exit 0, ⟨[(0, .int .u64 n), (1, .int .i64 8), (5, .str s), (6, .int .i64 8), (13, .bool false)], []⟩) := by
  simp [lc, loopsOf, Try.f125, st125]
  done
theorem rbig_loop (n : Int) (h0 : 0 ≤ n) (h1 : n < 18446744073709551616) : ∀ (c i : Nat), i + c = 8 → ∃ m, lp 125 (lc Try.f125 0) (st125 (n / 256 ^ i) (bigR n i) i) = some (.exit 0, ⟨[(0, .int .u64 m), (1, .int .i64 8), (5, .str (bigR n 8)), (6, .int .i64 8), (13, .bool false)], []⟩) := by
  intro c
  induction c with
  | zero =>
    intro i hi
    obtain rfl : i = 8 := by omega
    exact ⟨_, loop_out (rbig_exit _ _) (by simp)⟩
  | succ c ih =>
    intro i hi
    obtain ⟨m, hx⟩ := ih (i + 1) (by omega)
    exact ⟨m, loop_next (rbig_round n h0 h1 (bigR n i) (by rw [bigR_len]; omega) i (by omega)) hx⟩
theorem lowR_eq {n : Int} (h0 : 0 ≤ n) (i : Nat) : lowR n i = lowB n i := by
  unfold lowR lowB u8B
  have e : n.fdiv (2 ^ (8 * i)) = n / 256 ^ i := by
    rw [Int.fdiv_eq_ediv_of_nonneg _ (Int.pow_nonneg (by omega)), Int.pow_mul]; rfl
  rw [e, u8w, u8w, Int.emod_emod_of_dvd _ (by omega)]
theorem bigR_eq {n : Int} (h0 : 0 ≤ n) : bigR n 8 = bigB n := by
  simp only [bigR, lowR_eq h0, bigB]
set_option maxHeartbeats 8000000 in
theorem rbig_eq (n : Int) (h0 : 0 ≤ n) (h1 : n < 18446744073709551616) : cl 125 [.int .u64 n, .int .i64 8] [] = some (.ret (.str (bigB n)), []) := by
  refine fn_intro Try.func125 rfl (by simp) (by decide) rfl ?_
  obtain ⟨m, hlp⟩ := rbig_loop n h0 h1 8 0 (by omega)
  rw [bigR_eq h0] at hlp
  simp [st125, bigR, lc, loopsOf, Try.f125] at hlp
  simp [Try.f125, hlp]
  exact end_is (.inr rfl) (by simp; rfl) rfl rfl
theorem nat_xor_sign (k : Nat) (h : k < 18446744073709551616) : k ^^^ 9223372036854775808 = (k + 9223372036854775808) % 18446744073709551616 := by
  have h1 : (k ^^^ 9223372036854775808) / 2 ^ 63 = k / 2 ^ 63 ^^^ 1 := by rw [Nat.xor_div_two_pow]
  have h2 : (k ^^^ 9223372036854775808) % 2 ^ 63 = k % 2 ^ 63 := by rw [Nat.xor_mod_two_pow]; simp
  rw [show (2 : Nat) ^ 63 = 9223372036854775808 from rfl] at h1 h2
  have h3 : k / 9223372036854775808 = 0 ∨ k / 9223372036854775808 = 1 := by omega
  rcases h3 with h3 | h3
  · rw [h3, show (0 : Nat) ^^^ 1 = 1 from rfl] at h1
    omega
  · rw [h3, show (1 : Nat) ^^^ 1 = 0 from rfl] at h1
    omega
theorem xor_sign (n : Int) (h0 : 0 ≤ n) (h1 : n < 18446744073709551616) : wXor .u64 n 9223372036854775808 = IntKind.u64.wrap (n + 9223372036854775808) := by
  obtain ⟨k, rfl⟩ : ∃ k : Nat, n = k := ⟨n.toNat, by omega⟩
  have e : wXor .u64 (k : Int) 9223372036854775808 = IntKind.u64.wrap ((BitVec.ofNat 64 k ^^^ BitVec.ofNat 64 9223372036854775808).toNat : Nat) := rfl
  rw [e, BitVec.toNat_xor, BitVec.toNat_ofNat, BitVec.toNat_ofNat, u64w, u64w]
  rw [Nat.mod_eq_of_lt (show k < 2 ^ 64 by omega), show 9223372036854775808 % 2 ^ 64 = 9223372036854775808 from rfl, nat_xor_sign k (by omega)]
  omega
set_option maxHeartbeats 8000000 in
theorem number_eq (n : Int) (h0 : -9223372036854775808 ≤ n) (h1 : n ≤ 9223372036854775807) : cl 96 [.int .i64 n] [] = some (.ret (.str (numB n)), []) := by
  refine fn_intro Try.func96 rfl (by simp) (by decide) rfl ?_
  have hr : 0 ≤ IntKind.u64.wrap n ∧ IntKind.u64.wrap n < 18446744073709551616 := by rw [u64w]; omega
  have hx := xor_sign (IntKind.u64.wrap n) hr.1 hr.2
  have hr2 : 0 ≤ IntKind.u64.wrap (IntKind.u64.wrap n + 9223372036854775808) ∧ IntKind.u64.wrap (IntKind.u64.wrap n + 9223372036854775808) < 18446744073709551616 := by rw [u64w (_ + _)]; omega
  have h125 : ∀ d st, callV G cl d (.fn (.func 125) [] []) [.int .u64 (IntKind.u64.wrap (IntKind.u64.wrap n + 9223372036854775808)), .int .i64 8] st = some (.val (.str (numB n)) st) := fun d st => by
    unfold numB
    rw [hx]
    exact callV_ret E125 (by decide) ext125 rfl rfl (rbig_eq _ hr2.1 hr2.2) rfl
  simp [Try.f96, h125]
  exact end_is (.inr rfl) (by simp; rfl) rfl rfl
theorem number_call {d : Option Nat} {st : ASt} {n : Int} (h0 : -9223372036854775808 ≤ n) (h1 : n ≤ 9223372036854775807) : callV G cl d (.fn (.func 96) [] []) [.int .i64 n] st = some (.val (.str (numB n)) st) := callV_ret E96 (by decide) ext96 rfl rfl (number_eq n h0 h1) rfl
end Go.Proofs.Ytonaejfpiihfhaa

/- What the functions come to: the document's value as bytes. -/
namespace Go.Proofs.Ytonaejfpiihfhaa
open Go Abs
set_option linter.unusedSimpArgs false
set_option linter.unusedVariables false
attribute [local simp] canonK canonAll canonSlot canonCell canonBox ownStep restrictTo pureCells pureRows reachL AObj.names List.range_succ appendA
@[simp] theorem intsL_ix {L : List Nat} {i : Nat} {h : i < (intsL L).length} : (intsL L)[i] = .int .i64 ((L[i]'(by simpa using h) : Nat) : Int) := by simp [intsL]
@[simp] theorem intsL_bq {l : List Nat} : AV.beqL (intsL l) (intsL l) = true := beqL_self (plainBL_map (fun _ => rfl) l)
def st63 (l : List Nd) (n : Nd) (s d : Int) (kids keys : List Nat) (out : List UInt8) (i : Nat) : ASt :=
  ⟨[(0, nds l), (5, .ptr 1005 0 0), (6, .ptr 1006 0 0), (7, .str out), (8, .int .i64 i)], [(1005, .box 46 n.v), (1006, .box 64 (seenV s d false kids keys))]⟩
def RunsR (l : List Nd) (q : Nat) (vb : List UInt8) : Prop := ∀ d st, callV G cl d (.fn (.func 63) [] []) [nds l, .int .i64 q] st = some (.val (.str vb) st)
set_option maxHeartbeats 8000000 in
theorem round63_list (l : List Nd) (n : Nd) (hk : n.kind = 4) (s d : Int) (kids keys : List Nat) (hkl : kids.length ≤ 1000) (i q : Nat) (hi : kids[i]? = some q) (vb out : List UInt8) (hv : RunsR l q vb) (hb : out.length + vb.length ≤ 900005) :
    rX 63 (lc Try.f63 0) (codeX G cl lp 63 (lc Try.f63 0) (st63 l n s d kids keys out i)) = some (.normal, st63 l n s d kids keys (out ++ vb) (i + 1)) := by
  have hlt : i < kids.length := (List.getElem?_eq_some_iff.1 hi).1
  have e : kids[i] = q := (List.getElem?_eq_some_iff.1 hi).2
  have hw1 : IntKind.i64.wrap ((i : Int) + 1) = ((i + 1 : Nat) : Int) := by rw [i64_wrap (by omega) (by omega)]; omega
  have hL : out.length + vb.length ≤ LIM := by unfold LIM; omega
  have h0 : rowV kids = .list 1 (intsL kids) := by unfold rowV; rw [if_neg]; rintro rfl; simp at hlt
  have e' : (intsL kids)[i]? = some (.int .i64 q) := by simp [intsL, hi]
  have hv1 := fun d st => hv d st
  simp only [nds] at hv1
  simp [lc, loopsOf, Try.f63, st63, seenV, h0, Nd.v, hk, hlt, e, e', hw1, hL, nds, hv1]
  done
set_option maxHeartbeats 8000000 in
theorem round63_map (l : List Nd) (n : Nd) (hk : n.kind = 5) (s d : Int) (kids keys : List Nat) (hkl : kids.length ≤ 1000) (i q : Nat) (hi : kids[i]? = some q) (hkeys : keys[i]? = some (q - 1)) (hq : 0 < q) (hq1 : q ≤ 1000) (k : Nd) (hn : l[q - 1]? = some k) (ht : k.text.length ≤ 100000)
    (vb out : List UInt8) (hv : RunsR l q vb) (hb : out.length + (1 + (txtB k.text).length + vb.length) ≤ 900005) :
    rX 63 (lc Try.f63 0) (codeX G cl lp 63 (lc Try.f63 0) (st63 l n s d kids keys out i)) = some (.normal, st63 l n s d kids keys (out ++ (1 :: txtB k.text ++ vb)) (i + 1)) := by
  have hlt : i < kids.length := (List.getElem?_eq_some_iff.1 hi).1
  have e : kids[i] = q := (List.getElem?_eq_some_iff.1 hi).2
  have hlt2 : i < keys.length := (List.getElem?_eq_some_iff.1 hkeys).1
  have e2 : keys[i] = q - 1 := (List.getElem?_eq_some_iff.1 hkeys).2
  have hlt3 := (List.getElem?_eq_some_iff.1 hn).1
  have e3 := (List.getElem?_eq_some_iff.1 hn).2
  have hw1 : IntKind.i64.wrap ((i : Int) + 1) = ((i + 1 : Nat) : Int) := by rw [i64_wrap (by omega) (by omega)]; omega
  have hL : out.length + 1 ≤ LIM := by unfold LIM; omega
  have hL2 : out.length + 1 + (txtB k.text).length ≤ LIM := by unfold LIM; omega
  have hL3 : out.length + 1 + (txtB k.text).length + vb.length ≤ LIM := by unfold LIM; omega
  have hL4 : out.length + ((txtB k.text).length + 1) + vb.length ≤ LIM := by unfold LIM; omega
  have h0 : rowV kids = .list 1 (intsL kids) := by unfold rowV; rw [if_neg]; rintro rfl; simp at hlt
  have h1 : rowV keys = .list 1 (intsL keys) := by unfold rowV; rw [if_neg]; rintro rfl; simp at hlt2
  have e' : (intsL kids)[i]? = some (.int .i64 q) := by simp [intsL, hi]
  have e'' : (intsL keys)[i]? = some (.int .i64 ((q - 1 : Nat) : Int)) := by simp [intsL, hkeys]
  have hv1 := fun d st => hv d st
  have h64 := fun d st => byteOf_call (d := d) (st := st) (n := 1)
  have h65 := fun d st => rtext_call (d := d) (st := st) (s := k.text) (by omega)
  have u1 : u8B 1 = 1 := rfl
  rw [u1] at h64
  have ea : out ++ (1 :: txtB k.text ++ vb) = out ++ [1] ++ txtB k.text ++ vb := by simp
  rw [ea]
  simp only [nds] at hv1
  simp [lc, loopsOf, Try.f63, st63, seenV, h0, h1, Nd.v, hk, hlt, hlt2, hlt3, e, e', e'', e2, e3, hn, hw1, hL, hL2, hL3, hL4, nds, hv1, h64, h65]
  done
theorem exit63 (l : List Nd) (n : Nd) (s d : Int) (kids keys : List Nat) (out : List UInt8) :
    rX 63 (lc Try.f63 0) (codeX G cl lp 63 (lc Try.f63 0) (st63 l n s d kids keys out kids.length)) = some (.exit 0, ⟨[(0, nds l), (5, .ptr 1005 0 0), (6, .ptr 1006 0 0), (7, .str out), (8, .int .i64 kids.length), (52, .bool false)], [(1005, .box 46 n.v), (1006, .box 64 (seenV s d false kids keys))]⟩) := by
  simp [lc, loopsOf, Try.f63, st63, seenV, Nd.v, nds]
  done
theorem loop63 (l : List Nd) (n : Nd) (s d : Int) (kids keys : List Nat) (w : Nat → List UInt8) (hw : (allB w kids).length ≤ 900000)
    (hround : ∀ i q out, kids[i]? = some q → out.length + (w q).length ≤ 900005 → rX 63 (lc Try.f63 0) (codeX G cl lp 63 (lc Try.f63 0) (st63 l n s d kids keys out i)) = some (.normal, st63 l n s d kids keys (out ++ w q) (i + 1))) (b : UInt8) :
    ∀ (c i : Nat), i + c = kids.length → lp 63 (lc Try.f63 0) (st63 l n s d kids keys (b :: allB w (kids.take i)) i) = some (.exit 0, ⟨[(0, nds l), (5, .ptr 1005 0 0), (6, .ptr 1006 0 0), (7, .str (b :: allB w kids)), (8, .int .i64 kids.length), (52, .bool false)], [(1005, .box 46 n.v), (1006, .box 64 (seenV s d false kids keys))]⟩) := by
  intro c
  induction c with
  | zero =>
    intro i hi
    obtain rfl : i = kids.length := by omega
    rw [List.take_of_length_le (Nat.le_refl _)]
    exact loop_out (exit63 l n s d kids keys _) (by simp)
  | succ c ih =>
    intro i hi
    have hlt : i < kids.length := by omega
    have hq : kids[i]? = some kids[i] := List.getElem?_eq_getElem hlt
    have hle := allB_le (f := w) (kids := kids) (i := i + 1)
    rw [allB_take hq, List.length_append] at hle
    have h := hround i _ (b :: allB w (kids.take i)) hq (by simp; omega)
    rw [List.cons_append, ← allB_take hq] at h
    exact loop_next h (ih (i + 1) (by omega))
set_option maxHeartbeats 8000000 in
theorem rvalue_step (l : List Nd) (hr : ∀ n ∈ l, n.inR) (hc : checkS l = 0) (f : Nat → List UInt8) (a : Nat) (n : Nd) (hn : l[a]? = some n) (hv : ∀ q ∈ spanK l a, RunsR l q (f q)) (hB : (bodyB l f a n).length ≤ 900000) :
    cl 63 [nds l, .int .i64 a] [] = some (.ret (.str (u8B (n.kind + 1) :: bodyB l f a n)), []) := by
  have ha := (List.getElem?_eq_some_iff.1 hn).1
  have ea := (List.getElem?_eq_some_iff.1 hn).2
  have hm : n ∈ l := List.mem_of_getElem? hn
  obtain ⟨s, h2, h3, h4⟩ := checkS_inner hc ha
  obtain ⟨h5, _, _⟩ := checkS_ok hc
  obtain ⟨n', r, hn', hf, _, _⟩ := valS_map h2
  obtain rfl : n = n' := by rw [hn] at hn'; exact Option.some.inj hn'
  have ht := text_len hc hm
  obtain ⟨g1, g2⟩ := spanK_ok hc ha
  have hsk : spanK l a = s.kids := by simp [spanK, h2]
  have h47 := fun d st => seen_call (by omega) hr h2 d st
  have h64 := fun d st => byteOf_call (d := d) (st := st) (n := n.kind + 1)
  have h64n := fun d st => byteOf_call (d := d) (st := st) (n := n.num)
  have h640 := fun d st => byteOf_call (d := d) (st := st) (n := 0)
  rw [show u8B 0 = 0 from rfl] at h640
  have h65 := fun d st => rtext_call (d := d) (st := st) (s := n.text) (by omega)
  have h96 := fun d st => number_call (d := d) (st := st) (n := n.num) (hr n hm).1 (hr n hm).2.1
  have hL1 : 1 + 1 ≤ LIM := by unfold LIM; omega
  have hL2 : 1 + (numB n.num).length ≤ LIM := by simp [numB, bigB, LIM]
  have hl := txt0_length n.text
  have hL3 : 1 + (txtB n.text).length ≤ LIM := by rw [txtB_eq]; simp [LIM]; omega
  refine fn_intro Try.func63 rfl (by simp) (by decide) rfl ?_
  simp only [nds, seenV] at h47
  generalize hB0 : u8B (n.kind + 1) = B at *
  have hkw : IntKind.i64.wrap (n.kind + 1) = n.kind + 1 := by
    rcases fits_kind hf with h | h | h | h | h | h <;> rw [h] <;> rfl
  have v1 : IntKind.i64.wrap 1 = 1 := rfl
  have v2 : IntKind.i64.wrap 2 = 2 := rfl
  have v3 : IntKind.i64.wrap 3 = 3 := rfl
  have v4 : IntKind.i64.wrap 4 = 4 := rfl
  have v5 : IntKind.i64.wrap 5 = 5 := rfl
  have v6 : IntKind.i64.wrap 6 = 6 := rfl
  rcases fits_kind hf with h | h | h | h | h | h
  · have e : bodyB l f a n = [] := by simp [bodyB, h]
    rw [e]
    rw [h, show (0 : Int) + 1 = 1 from rfl] at h64
    simp [Try.f63, nds, Nd.v, hn, ha, ea, h47, h, h64, v1]
    exact end_is (.inr rfl) (by simp; rfl) rfl rfl
  · have e : bodyB l f a n = [u8B n.num] := by simp [bodyB, h]
    rw [e]
    rw [h, show (1 : Int) + 1 = 2 from rfl] at h64
    simp [Try.f63, nds, Nd.v, hn, ha, ea, h47, h, h64, h64n, hL1, v2]
    exact end_is (.inr rfl) (by simp; rfl) rfl rfl
  · have e : bodyB l f a n = numB n.num := by simp [bodyB, h]
    rw [e]
    rw [h, show (2 : Int) + 1 = 3 from rfl] at h64
    simp [Try.f63, nds, Nd.v, hn, ha, ea, h47, h, h64, h96, hL2, v3]
    exact end_is (.inr rfl) (by simp; rfl) rfl rfl
  · have e : bodyB l f a n = txtB n.text := by simp [bodyB, h]
    rw [e]
    rw [h, show (3 : Int) + 1 = 4 from rfl] at h64
    simp [Try.f63, nds, Nd.v, hn, ha, ea, h47, h, h64, h65, hL3, v4]
    exact end_is (.inr rfl) (by simp; rfl) rfl rfl
  · have e : bodyB l f a n = allB f (spanK l a) ++ [0] := by simp [bodyB, h]
    rw [e] at hB ⊢
    rw [h, show (4 : Int) + 1 = 5 from rfl] at h64
    rw [hsk] at hv g1 g2 hB ⊢
    simp only [List.length_append, List.length_cons, List.length_nil] at hB
    have hlp := loop63 l n s.stop s.deep s.kids (keysN (mapAt l a) s.kids) f (by omega) (fun i q out hi hb => round63_list l n h s.stop s.deep s.kids _ g1 i q hi (f q) out (hv q (List.mem_of_getElem? hi)) hb) B s.kids.length 0 (by omega)
    simp [st63, lc, loopsOf, Try.f63, seenV, Nd.v, nds, h, show allB f [] = [] from rfl] at hlp
    have hL5 : (allB f s.kids).length + 1 + 1 ≤ LIM := by unfold LIM; omega
    simp [Try.f63, nds, Nd.v, hn, ha, ea, h47, h, h64, v5, hlp, h640, hL5]
    exact end_is (.inr rfl) (by simp; rfl) rfl rfl
  · have e : bodyB l f a n = allB (memB l f) (spanK l a) ++ [0] := by simp [bodyB, h]
    rw [e] at hB ⊢
    rw [h, show (5 : Int) + 1 = 6 from rfl] at h64
    rw [hsk] at hv g1 g2 hB ⊢
    simp only [List.length_append, List.length_cons, List.length_nil] at hB
    have hmap : mapAt l a = true := by simp [mapAt, hn, h]
    have hkn : keysN (mapAt l a) s.kids = s.kids.map (· - 1) := by simp [keysN, hmap]
    have hlp := loop63 l n s.stop s.deep s.kids (keysN (mapAt l a) s.kids) (memB l f) (by omega) (fun i q out hi hb => by
      have hq := g2 q (List.mem_of_getElem? hi)
      have hk : l[q - 1]? = some l[q - 1] := List.getElem?_eq_getElem (by omega)
      have hkt := text_len hc (List.getElem_mem (show q - 1 < l.length by omega))
      have em : memB l f q = 1 :: txtB l[q - 1].text ++ f q := by simp [memB, key1, hk]
      rw [em] at hb ⊢
      simp only [List.length_append, List.length_cons] at hb
      exact round63_map l n h s.stop s.deep s.kids _ g1 i q hi (by rw [hkn]; simp [hi]) (by omega) (by omega) _ hk (by omega) (f q) out (hv q (List.mem_of_getElem? hi)) (by omega)) B s.kids.length 0 (by omega)
    simp [st63, lc, loopsOf, Try.f63, seenV, Nd.v, nds, h, show allB (memB l f) [] = [] from rfl] at hlp
    have hL5 : (allB (memB l f) s.kids).length + 1 + 1 ≤ LIM := by unfold LIM; omega
    simp [Try.f63, nds, Nd.v, hn, ha, ea, h47, h, h64, v6, hlp, h640, hL5]
    exact end_is (.inr rfl) (by simp; rfl) rfl rfl
theorem kidsS_len {val : Nat → Option Span} {l : List Nd} {m : Bool} {w : Nat → Nat} (hsp : ∀ st s, val st = some s → st < s.stop)
    (hw : ∀ (stop q : Nat) (last last' : List UInt8) (i : Nat) (sp : Span), keyS l m i stop last = some (q, last') → val q = some sp → w q ≤ 250 * (sp.stop - stop)) :
    ∀ {c i s last r}, kidsS val l m c i s last = some r → s.stop ≤ r.stop ∧ ∃ t, r.kids = s.kids ++ t ∧ (t.map w).sum ≤ 250 * (r.stop - s.stop) := by
  intro c
  induction c with
  | zero => intro i s last r hr; cases hr; exact ⟨Nat.le_refl _, [], by simp, by simp⟩
  | succ c ih =>
    intro i s last r hr
    simp only [kidsS] at hr
    rw [Option.bind_eq_some_iff] at hr; obtain ⟨p, hp, hr⟩ := hr
    rw [Option.bind_eq_some_iff] at hr; obtain ⟨kid, hk, hr⟩ := hr
    have hge := keyS_ge hp
    have hlt := hsp _ _ hk
    obtain ⟨h1, t, h2, h3⟩ := ih hr
    have h4 := hw s.stop p.1 last p.2 i kid hp hk
    refine ⟨by simp only at h1; omega, p.1 :: t, by rw [h2]; simp, ?_⟩
    simp only [List.map_cons, List.sum_cons] at h1 h3 ⊢
    omega
theorem allB_len (f : Nat → List UInt8) (t : List Nat) : (allB f t).length = (t.map fun q => (f q).length).sum := by
  unfold allB
  induction t with
  | nil => rfl
  | cons q t ih => simp only [List.map_cons, List.flatten_cons, List.length_append, List.sum_cons, ih]
theorem valB_le (l : List Nd) (hc : checkS l = 0) : ∀ k a s, valS l (l.length + 1) a = some s → (valB l k a).length ≤ 250 * (s.stop - a) := by
  intro k
  induction k with
  | zero => intro a s h; simp [valB]
  | succ k ih =>
    intro a s h
    have hsk : spanK l a = s.kids := by simp [spanK, h]
    have hst := (valS_spec h).1
    obtain ⟨n, r, hn, hf, hr, rfl⟩ := valS_map h
    rw [valB_succ hn]
    have hm : n ∈ l := List.mem_of_getElem? hn
    have ht := text_len hc hm
    have hl := txt0_length n.text
    have e1 : (txtB n.text).length = (txt0 n.text).length + 2 := by rw [txtB_eq]; simp
    have e2 : (numB n.num).length = 8 := rfl
    simp only at hsk hst
    simp only [List.length_cons, bodyB, hsk]
    split
    · simp only [List.length_cons, List.length_nil]; omega
    split
    · omega
    split
    · omega
    split
    · rename_i h4
      have hma : mapAt l a = false := by simp [mapAt, hn, h4]
      rw [hma] at hr
      obtain ⟨k1, t, k2, k3⟩ := kidsS_len (w := fun q => (valB l k q).length) (fun st s hs => (valS_spec hs).1) (fun stop q last last' i sp hk hv => by
        have : stop = q := by unfold keyS at hk; simp at hk; exact hk.1
        subst this
        exact ih _ _ (valS_mono hv (by omega))) hr
      simp only [List.nil_append] at k2
      rw [← k2] at k3
      simp only [List.length_append, List.length_cons, List.length_nil, allB_len]
      simp only at k1 k3
      omega
    split
    · rename_i h5
      have hma : mapAt l a = true := by simp [mapAt, hn, h5]
      rw [hma] at hr
      obtain ⟨k1, t, k2, k3⟩ := kidsS_len (w := fun q => (memB l (valB l k) q).length) (fun st s hs => (valS_spec hs).1) (fun stop q last last' i sp hk hv => by
        have hsp := (valS_spec hv).1
        unfold keyS at hk
        simp only [if_true] at hk
        split at hk
        · rename_i kn hkn
          split at hk
          · simp only [Option.some.injEq, Prod.mk.injEq] at hk
            obtain ⟨rfl, _⟩ := hk
            have h1 := ih _ _ (valS_mono hv (show l.length ≤ l.length + 1 by omega))
            have hkt := text_len hc (List.mem_of_getElem? hkn)
            have hkl := txt0_length kn.text
            have e3 : (txtB kn.text).length = (txt0 kn.text).length + 2 := by rw [txtB_eq]; simp
            have e4 : (memB l (valB l k) (stop + 1)).length = 1 + (txtB kn.text).length + (valB l k (stop + 1)).length := by
              simp only [memB, key1, Nat.add_sub_cancel, hkn, Option.map_some, Option.getD_some, List.cons_append, List.length_cons, List.length_append]; omega
            omega
          · cases hk
        · cases hk) hr
      simp only [List.nil_append] at k2
      rw [← k2] at k3
      simp only [List.length_append, List.length_cons, List.length_nil, allB_len]
      simp only at k1 k3
      omega
    · simp only [List.length_nil]; omega
theorem valB_small (l : List Nd) (hc : checkS l = 0) (k a : Nat) : (valB l k a).length ≤ 30000 := by
  by_cases ha : a < l.length
  · obtain ⟨s, h2, h3, h4⟩ := checkS_inner hc ha
    obtain ⟨h5, _, _⟩ := checkS_ok hc
    have := valB_le l hc k a s h2
    omega
  · cases k with
    | zero => simp [valB]
    | succ k => simp only [valB, List.getElem?_eq_none_iff.2 (Nat.le_of_not_lt ha)]; simp
theorem rvalue_all (l : List Nd) (hr : ∀ n ∈ l, n.inR) (hc : checkS l = 0) : ∀ k a, l.length - a ≤ k → a < l.length → RunsR l a (valB l k a) := by
  intro k
  induction k with
  | zero => intro a h1 h2; omega
  | succ k ih =>
    intro a h1 h2 d st
    have hn : l[a]? = some l[a] := List.getElem?_eq_getElem h2
    have hb := valB_small l hc (k + 1) a
    rw [valB_succ hn] at hb ⊢
    simp only [List.length_cons] at hb
    exact callV_ret E63 (by decide) ext63 rfl rfl (rvalue_step l hr hc (valB l k) a _ hn (fun q hq => by
      obtain ⟨q1, q2, q3⟩ := (spanK_ok hc h2).2 q hq
      exact ih q (by omega) q2) (by omega)) rfl
end Go.Proofs.Ytonaejfpiihfhaa

/- What the functions come to: the document's Put, Join. -/
namespace Go.Proofs.Ytonaejfpiihfhaa
open Go Abs
set_option linter.unusedSimpArgs false
set_option linter.unusedVariables false
attribute [local simp] canonK canonAll canonSlot canonCell canonBox ownStep restrictTo pureCells pureRows reachL AObj.names List.range_succ appendA
def putV (l : List Nd) : AV := .tup (if checkS l = 0 then [.str (putB l), .int .i64 0] else [.str [], .int .i64 (checkS l)])
theorem putV_names {l : List Nd} : (putV l).names = [] := by unfold putV; split <;> rfl
theorem checkS_pos {l : List Nd} (hc : checkS l = 0) : 0 < l.length := by
  obtain ⟨_, _, s, h3, _⟩ := checkS_ok hc
  obtain ⟨h5, h6⟩ := wholeS_some h3
  have := valS_spec h5; omega
theorem put_call {l : List Nd} (hb : l.length ≤ 9223372036854775806) (hr : ∀ n ∈ l, n.inR) {d : Option Nat} {st : ASt} : callV G cl d (.fn (.func 36) [] []) [nds l] st = some (.val (putV l) st) :=
  callV_ret E36 (by decide) ext36 rfl rfl (put_eq l hb hr (fun hc => by have := valB_small l hc (l.length + 1) 0; unfold putB; omega)) putV_names
set_option maxHeartbeats 8000000 in
theorem rput_eq (l : List Nd) (hb : l.length ≤ 9223372036854775806) (hr : ∀ n ∈ l, n.inR) : cl 37 [nds l] [] = some (.ret (putV l), []) := by
  refine fn_intro Try.func37 rfl (by simp) (by decide) rfl ?_
  have h16 := fun d st => rcheck_call hb hr (d := d) (st := st)
  by_cases hc : checkS l = 0
  · have h63 := rvalue_all l hr hc (l.length + 1) 0 (by omega) (checkS_pos hc)
    unfold RunsR at h63
    simp only [nds] at h16 h63
    unfold putV
    rw [if_pos hc]
    simp only [Int.natCast_zero] at h63
    simp [Try.f37, nds, h16, hc, h63, putB]
    exact end_is (.inr rfl) (by simp; rfl) rfl rfl
  · unfold putV
    rw [if_neg hc]
    simp only [nds] at h16
    simp [Try.f37, nds, h16, hc]
    exact end_is (.inr rfl) (by simp; rfl) rfl rfl
theorem rput_call {l : List Nd} (hb : l.length ≤ 9223372036854775806) (hr : ∀ n ∈ l, n.inR) {d : Option Nat} {st : ASt} : callV G cl d (.fn (.func 37) [] []) [nds l] st = some (.val (putV l) st) :=
  callV_ret E37 (by decide) ext37 rfl rfl (rput_eq l hb hr) putV_names
def st38 (t : List (List UInt8)) (out : List UInt8) (i : Nat) : ASt := ⟨[(0, .list 1 (strsL t)), (3, .str out), (4, .int .i64 i)], []⟩
@[simp] theorem strsL_ix {K : List (List UInt8)} {i : Nat} {h : i < (strsL K).length} : (strsL K)[i] = .str (K[i]'(by simpa [strsL] using h)) := by simp [strsL]
@[simp] theorem strsL_bq {l : List (List UInt8)} : AV.beqL (strsL l) (strsL l) = true := beqL_self (plainBL_map (fun _ => rfl) l)
set_option maxHeartbeats 8000000 in
theorem rjoin_round (t : List (List UInt8)) (ht : t.length ≤ 1000) (i : Nat) (s : List UInt8) (hi : t[i]? = some s) (hs : s.length ≤ 100000) (out : List UInt8) (ho : out.length ≤ 2000000) :
    rX 38 (lc Try.f38 0) (codeX G cl lp 38 (lc Try.f38 0) (st38 t out i)) = some (.normal, st38 t (out ++ oneB s) (i + 1)) := by
  have hlt : i < t.length := (List.getElem?_eq_some_iff.1 hi).1
  have e : t[i] = s := (List.getElem?_eq_some_iff.1 hi).2
  have hw1 : IntKind.i64.wrap ((i : Int) + 1) = ((i + 1 : Nat) : Int) := by rw [i64_wrap (by omega) (by omega)]; omega
  have h64 := fun d st => byteOf_call (d := d) (st := st) (n := 4)
  rw [show u8B 4 = 4 from rfl] at h64
  have h65 := fun d st => rtext_call (d := d) (st := st) (s := s) (by omega)
  have hl := txt0_length s
  have e1 : (txtB s).length = (txt0 s).length + 2 := by rw [txtB_eq]; simp
  have hL : out.length + 1 ≤ LIM := by unfold LIM; omega
  have hL2 : out.length + 1 + (txtB s).length ≤ LIM := by unfold LIM; omega
  have ea : out ++ oneB s = out ++ [4] ++ txtB s := by simp [oneB]
  rw [ea]
  simp [lc, loopsOf, Try.f38, st38, hlt, e, hw1, h64, h65, hL, hL2]
  done
theorem rjoin_exit (t : List (List UInt8)) (out : List UInt8) : rX 38 (lc Try.f38 0) (codeX G cl lp 38 (lc Try.f38 0) (st38 t out t.length)) = some (.exit 0, ⟨[(0, .list 1 (strsL t)), (3, .str out), (4, .int .i64 t.length), (8, .bool false)], []⟩) := by
  simp [lc, loopsOf, Try.f38, st38]
  done
theorem rjoin_loop (t : List (List UInt8)) (ht : t.length ≤ 1000) (hs : ∀ s ∈ t, s.length ≤ 100000) (hb : (joinB t).length ≤ 2000000) : ∀ (c i : Nat), i + c = t.length →
    lp 38 (lc Try.f38 0) (st38 t (joinB (t.take i)) i) = some (.exit 0, ⟨[(0, .list 1 (strsL t)), (3, .str (joinB t)), (4, .int .i64 t.length), (8, .bool false)], []⟩) := by
  intro c
  induction c with
  | zero =>
    intro i hi
    obtain rfl : i = t.length := by omega
    rw [List.take_of_length_le (Nat.le_refl _)]
    exact loop_out (rjoin_exit t _) (by simp)
  | succ c ih =>
    intro i hi
    have hlt : i < t.length := by omega
    have hq : t[i]? = some t[i] := List.getElem?_eq_getElem hlt
    have e : joinB (t.take i) ++ oneB t[i] = joinB (t.take (i + 1)) := by
      unfold joinB; rw [List.take_add_one, hq, Option.toList_some, List.map_append, List.flatten_append]; simp only [List.map_cons, List.map_nil, List.flatten_cons, List.flatten_nil, List.append_nil]
    have hle : (joinB (t.take i)).length ≤ (joinB t).length := by
      unfold joinB
      conv => rhs; rw [← List.take_append_drop i t]
      rw [List.map_append, List.flatten_append, List.length_append]; omega
    have h := rjoin_round t ht i _ hq (hs _ (List.getElem_mem hlt)) (joinB (t.take i)) (by omega)
    rw [e] at h
    exact loop_next h (ih (i + 1) (by omega))
set_option maxHeartbeats 8000000 in
theorem rjoin_eq (t : List (List UInt8)) (ht : t.length ≤ 1000) (hs : ∀ s ∈ t, s.length ≤ 100000) (hb : (joinB t).length ≤ 2000000) : cl 38 [.list 1 (strsL t)] [] = some (.ret (.str (joinB t)), []) := by
  refine fn_intro Try.func38 rfl (by simp) (by decide) rfl ?_
  have hlp := rjoin_loop t ht hs hb t.length 0 (by omega)
  simp [st38, lc, loopsOf, Try.f38, show joinB [] = [] from rfl] at hlp
  simp [Try.f38, hlp]
  exact end_is (.inr rfl) (by simp; rfl) rfl rfl
theorem join_call {t : List (List UInt8)} (ht : t.length ≤ 1000) (hs : ∀ s ∈ t, s.length ≤ 100000) (hb : (joinB t).length ≤ 2000000) {d : Option Nat} {st : ASt} : callV G cl d (.fn (.func 39) [] []) [.list 1 (strsL t)] st = some (.val (.str (joinB t)) st) :=
  callV_ret E39 (by decide) ext39 rfl rfl (join_eq t ht hs hb) rfl
theorem rjoin_call {t : List (List UInt8)} (ht : t.length ≤ 1000) (hs : ∀ s ∈ t, s.length ≤ 100000) (hb : (joinB t).length ≤ 2000000) {d : Option Nat} {st : ASt} : callV G cl d (.fn (.func 38) [] []) [.list 1 (strsL t)] st = some (.val (.str (joinB t)) st) :=
  callV_ret E38 (by decide) ext38 rfl rfl (rjoin_eq t ht hs hb) rfl
end Go.Proofs.Ytonaejfpiihfhaa

/- What the law CodePuts comes to. -/
namespace Go.Proofs.Ytonaejfpiihfhaa
open Go Abs
set_option linter.unusedSimpArgs false
set_option linter.unusedVariables false
attribute [local simp] canonK canonAll canonSlot canonCell canonBox ownStep restrictTo pureCells pureRows reachL AObj.names List.range_succ appendA
theorem works12_call {d : Option Nat} {st : ASt} : callV G cl d (.fn (.func 35) [] []) [] st = some (.val (.bool true) st) :=
  callV_ret E35 (by decide) ext35 rfl rfl (call_prim (p := worksP) (by decide) (by rfl) rfl) rfl
theorem joinB_len {t : List (List UInt8)} {M : Nat} (h : ∀ s ∈ t, s.length ≤ M) : (joinB t).length ≤ t.length * (2 * M + 3) := by
  unfold joinB
  induction t with
  | nil => simp
  | cons s t ih =>
    have h1 := ih fun x hx => h x (List.mem_cons_of_mem _ hx)
    have h2 := h s (by simp)
    have h3 := txt0_length s
    have e : (oneB s).length = (txt0 s).length + 3 := by simp [oneB, txtB_eq]
    simp only [List.map_cons, List.flatten_cons, List.length_append, List.length_cons, Nat.add_mul, Nat.one_mul]
    omega
def stG (l : List Nd) (t : List (List UInt8)) (i : Nat) : ASt := ⟨[(0, nds l), (1, .list 1 (strsL t)), (5, .bool true), (7, .int .i64 i)], []⟩
set_option maxHeartbeats 8000000 in
theorem puts_loop (l : List Nd) (t : List (List UInt8)) (ht : t.length ≤ 20) : ∃ x s, lp 8 (lc Try.f8 0) (stG l t 0) = some (x, s) ∧ ((x = .ret ∧ s = ⟨[(4, .bool true)], []⟩) ∨ (x = .exit 0 ∧ (∃ sl, s = ⟨(0, nds l) :: (1, .list 1 (strsL t)) :: (5, .bool true) :: sl, []⟩) ∧ ∀ u ∈ t, u.length ≤ 400)) := by
  have := for_loop (f := 8) (c := lc Try.f8 0) (n := t.length) (σ := fun i => stG l t i) (P := fun i => ∀ u ∈ t.take i, u.length ≤ 400)
    (Q := fun x s => (x = .ret ∧ s = ⟨[(4, .bool true)], []⟩) ∨ (x = .exit 0 ∧ (∃ sl, s = ⟨(0, nds l) :: (1, .list 1 (strsL t)) :: (5, .bool true) :: sl, []⟩) ∧ ∀ u ∈ t, u.length ≤ 400))
    (fun i hi hp => ?_) (fun hp => ?_) 0 (by omega) (by simp)
  · simpa using this
  · have hq : t[i]? = some t[i] := List.getElem?_eq_getElem hi
    have hw1 : IntKind.i64.wrap ((i : Int) + 1) = ((i + 1 : Nat) : Int) := by rw [i64_wrap (by omega) (by omega)]; omega
    by_cases h : 400 < t[i].length
    · right
      refine ⟨.ret, ⟨[(4, .bool true)], []⟩, ?_, by simp, .inl ⟨rfl, rfl⟩⟩
      have h' : (400 : Int) < (t[i].length : Int) := by omega
      simp [lc, loopsOf, Try.f8, stG, hi, h']
    · left
      refine ⟨?_, fun u hu => ?_⟩
      · have h' : ¬ (400 : Int) < (t[i].length : Int) := by omega
        simp [lc, loopsOf, Try.f8, stG, hi, h', hw1]
      · rw [List.take_add_one, hq] at hu
        rcases List.mem_append.1 hu with hu | hu
        · exact hp u hu
        · obtain rfl : u = t[i] := by simpa using hu
          omega
  · rw [List.take_of_length_le (Nat.le_refl _)] at hp
    refine ⟨.exit 0, ⟨(0, nds l) :: (1, .list 1 (strsL t)) :: (5, .bool true) :: [(7, .int .i64 t.length), (29, .bool false)], []⟩, ?_, by simp, .inr ⟨rfl, ⟨_, rfl⟩, hp⟩⟩
    simp [lc, loopsOf, Try.f8, stG]
    done
set_option maxHeartbeats 8000000 in
theorem codePuts_eq (l : List Nd) (hr : ∀ n ∈ l, n.inR) (t : List (List UInt8)) : cl 8 [nds l, .list 1 (strsL t)] [] = some (.ret (.bool true), []) := by
  refine fn_intro Try.func8 rfl (by simp) (by decide) rfl ?_
  have h35 := fun d st => works12_call (d := d) (st := st)
  have h15 := fun d st => few_call (l := l) (d := d) (st := st)
  cases hf : fewS l with
  | false =>
    rw [hf] at h15
    simp only [nds] at h15
    simp [Try.f8, nds, h35, h15]
    exact end_is (.inr rfl) (by first | rfl | (simp; rfl)) rfl rfl
  | true =>
    have hlen := fewS_len hf
    have hb : l.length ≤ 9223372036854775806 := by omega
    have h36 := fun d st => put_call hb hr (d := d) (st := st)
    have h37 := fun d st => rput_call hb hr (d := d) (st := st)
    rw [hf] at h15
    by_cases h20 : (20 : Int) < (t.length : Int)
    · simp only [nds] at h15
      simp [Try.f8, nds, h35, h15, h20]
      exact end_is (.inr rfl) (by first | rfl | (simp; rfl)) rfl rfl
    · obtain ⟨x, s, hlp, hx⟩ := puts_loop l t (by omega)
      rcases hx with ⟨rfl, rfl⟩ | ⟨rfl, ⟨sl, rfl⟩, hall⟩
      · simp [lc, loopsOf, Try.f8, stG, nds] at hlp
        simp only [nds] at h15
        simp [Try.f8, nds, h35, h15, h20, hlp]
        exact end_is (.inr rfl) (by first | rfl | (simp; rfl)) rfl rfl
      · simp [lc, loopsOf, Try.f8, stG, nds] at hlp
        have hjl := joinB_len hall
        have hjl2 : t.length * (2 * 400 + 3) ≤ 20 * 803 := Nat.mul_le_mul (by omega) (by omega)
        have h38 := fun d st => rjoin_call (t := t) (by omega) (fun s hs => by have := hall s hs; omega) (by omega) (d := d) (st := st)
        have h39 := fun d st => join_call (t := t) (by omega) (fun s hs => by have := hall s hs; omega) (by omega) (d := d) (st := st)
        simp only [nds] at h15 h36 h37
        by_cases hc : checkS l = 0
        · unfold putV at h36 h37
          rw [if_pos hc] at h36 h37
          simp [Try.f8, nds, h35, h15, h20, hlp, h36, h37, h38, h39]
          exact end_is (.inr rfl) (by first | rfl | (simp; rfl)) rfl rfl
        · unfold putV at h36 h37
          rw [if_neg hc] at h36 h37
          simp [Try.f8, nds, h35, h15, h20, hlp, h36, h37, h38, h39]
          exact end_is (.inr rfl) (by first | rfl | (simp; rfl)) rfl rfl
end Go.Proofs.Ytonaejfpiihfhaa
