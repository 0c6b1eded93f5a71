/- What the functions come to: the document's value out of bytes, told. What the functions come to: texts out of bytes. What the functions come to: First, Get, Split. What the functions come to: CodeGets. -/
import Derived.Test.YtonaejfpiihfhaaPkQ

/- What the functions come to: the document's value out of bytes, told. -/
namespace Go.Proofs.Ytonaejfpiihfhaa
open Go Abs
set_option linter.unusedSimpArgs false
set_option linter.unusedVariables false
attribute [local simp] canonK canonAll canonSlot canonCell canonBox ownStep restrictTo pureCells pureRows reachL AObj.names List.range_succ appendA
theorem RVal_of {s : List UInt8} {at_ dp : Nat} {o : Option (List Nd × List UInt8)} (h : cl 71 [.str s, .int .i64 at_, .int .i64 dp] [] = some (.ret (readO s.length o), [])) : RVal s at_ dp o := fun d st => callV_ret E71 (by decide) ext71 rfl rfl h readO_names
set_option maxHeartbeats 32000000 in
theorem rval71_step (s : List UInt8) (hs : s.length ≤ 2000) (k at_ dp : Nat) (ha : at_ ≤ s.length) (hd : dp ≤ at_) (hval : ∀ a, at_ < a → a ≤ s.length → RVal s a (dp + 1) (valP k (s.drop a))) :
    cl 71 [.str s, .int .i64 at_, .int .i64 dp] [] = some (.ret (readO s.length (valP (k + 1) (s.drop at_))), []) := by
  refine fn_intro Try.func71 rfl (by simp) (by decide) rfl ?_
  match hdr : s.drop at_ with
  | [] =>
    have := congrArg List.length hdr
    simp at this
    have hge : s.length ≤ at_ := by omega
    simp only [valP, readO]
    simp [Try.f71, allocX, newObj, hge]
    exact endJ (.inr rfl) ⟨rfl, _, rfl, rfl, _, rfl, rfl⟩ rfl rfl
  | b :: r =>
    obtain ⟨g1, g2, g3, g4⟩ := drop_one hdr
    have hx := at_get g1
    have hge : ¬ s.length ≤ at_ := by omega
    have hdp : ¬ (3000 : Int) < dp := by omega
    have hdp' : ¬ 3000 < dp := by omega
    have hw3 : IntKind.i64.wrap ((at_ : Int) + 1) = ((at_ + 1 : Nat) : Int) := by rw [i64_wrap (by omega) (by omega)]; omega
    simp only [Int.natCast_add, Int.natCast_one] at hw3
    have hwx : ∀ x : Int, 0 ≤ x → x ≤ 6 → IntKind.i64.wrap x = x := fun x h1 h2 => i64_wrap (by omega) (by omega)
    have w0 := hwx 0 (by decide) (by decide)
    have w1 := hwx 1 (by decide) (by decide)
    have w2 := hwx 2 (by decide) (by decide)
    have w3 := hwx 3 (by decide) (by decide)
    have w4 := hwx 4 (by decide) (by decide)
    have w5 := hwx 5 (by decide) (by decide)
    have w6 := hwx 6 (by decide) (by decide)
    simp only [valP]
    by_cases h1 : b = 1
    · subst h1
      rw [if_pos rfl]
      simp [Try.f71, allocX, newObj, hge, hx, hdp, hdp', hw3, w0, w1]
      exact endJ (.inr rfl) ⟨rfl, _, rfl, (by simp [readO, okV, nds, Nd.v, hw3]; exact (by omega : (at_ : Int) + 1 = ((s.length - r.length : Nat) : Int))), _, rfl, rfl⟩ rfl rfl
    rw [if_neg h1]
    by_cases h2 : b = 2
    · subst h2
      rw [if_pos rfl]
      cases r with
      | nil =>
        simp only [List.length_nil] at g4
        have hge1 : (s.length : Int) ≤ (at_ : Int) + 1 := by omega
        have hge2 : s.length ≤ at_ + 1 := by omega
        simp [Try.f71, allocX, newObj, hge, hx, hdp, hdp', hw3, w1, w2, hge1, hge2]
        exact endJ (.inr rfl) ⟨rfl, _, rfl, rfl, _, rfl, rfl⟩ rfl rfl
      | cons c q =>
        simp only [List.length_cons] at g4
        obtain ⟨e1, e2, e3, e4⟩ := drop_one g2
        have hge1 : ¬ (s.length : Int) ≤ (at_ : Int) + 1 := by omega
        have hge2 : ¬ s.length ≤ at_ + 1 := by omega
        have hx2 := at_get e1
        have hle : (c ≤ 1) ↔ c.toNat ≤ 1 := by rw [UInt8.le_iff_toNat_le]; rfl
        have hwc : IntKind.i64.wrap (c.toNat : Int) = c.toNat := i64_wrap (by omega) (by have := c.toNat_lt; omega)
        have hw4 : IntKind.i64.wrap ((at_ : Int) + 1 + 1) = (at_ : Int) + 2 := by rw [i64_wrap (by omega) (by omega)]; omega
        simp only [Int.natCast_add, Int.natCast_one] at hx2
        by_cases hc : c ≤ 1
        · have hc' : ¬ 1 < c.toNat := by have := hle.1 hc; omega
          have hc'' : ¬ (1 : Int) < (c.toNat : Int) := by omega
          simp only [hc, if_true]
          simp [Try.f71, allocX, newObj, hge, hx, hdp, hdp', hw3, w1, w2, hge1, hge2, hx2, hc', hc'', hwc, hw4]
          exact endJ (.inr rfl) ⟨rfl, _, rfl, (by simp [readO, okV, nds, Nd.v, hw4, hw3]; exact (by omega : (at_ : Int) + 2 = ((s.length - q.length : Nat) : Int))), _, rfl, rfl⟩ rfl rfl
        · have hc' : 1 < c.toNat := Nat.lt_of_not_le fun h => hc (hle.2 h)
          have hc'' : (1 : Int) < (c.toNat : Int) := by omega
          simp only [hc, if_false]
          simp [Try.f71, allocX, newObj, hge, hx, hdp, hdp', hw3, w1, w2, hge1, hge2, hx2, hc', hc'']
          exact endJ (.inr rfl) ⟨rfl, _, rfl, rfl, _, rfl, rfl⟩ rfl rfl
    rw [if_neg h2]
    by_cases h3 : b = 3
    · subst h3
      rw [if_pos rfl]
      have hw9 : IntKind.i64.wrap ((at_ : Int) + 1 + 8) = (at_ : Int) + 9 := by rw [i64_wrap (by omega) (by omega)]; omega
      by_cases h8 : 8 ≤ r.length
      · rw [if_pos h8]
        have hge1 : ¬ (s.length : Int) < (at_ : Int) + 9 := by omega
        have hcut : (s.take (at_ + 9)).drop (at_ + 1) = r.take 8 := by rw [List.drop_take, g2, show at_ + 9 - (at_ + 1) = 8 by omega]
        have hrb := fun d st => rreadBig_call (d := d) (st := st) (s := r.take 8) (by simp; omega)
        have hb1 : (0 : Int) ≤ (at_ : Int) + 1 := by omega
        have hb2 : (0 : Int) ≤ (at_ : Int) + 9 := by omega
        have hb3 : at_ + 9 ≤ s.length := by omega
        have e1 : ((at_ : Int) + 1).toNat = at_ + 1 := by omega
        have e9 : ((at_ : Int) + 9).toNat = at_ + 9 := by omega
        simp [Try.f71, allocX, newObj, hge, hx, hdp, hdp', hw3, w2, w3, hw9, hge1, hb1, hb2, hb3, e1, e9, hcut, hrb]
        exact endJ (.inr rfl) ⟨rfl, _, rfl, (by simp [readO, okV, nds, Nd.v, numP_rd, hw9, hw3]; omega), _, rfl, rfl⟩ rfl rfl
      · rw [if_neg h8]
        have hge1 : (s.length : Int) < (at_ : Int) + 9 := by omega
        simp [Try.f71, allocX, newObj, hge, hx, hdp, hdp', hw3, w2, w3, hw9, hge1]
        exact endJ (.inr rfl) ⟨rfl, _, rfl, rfl, _, rfl, rfl⟩ rfl rfl
    rw [if_neg h3]
    by_cases h4 : b = 4
    · subst h4
      rw [if_pos rfl]
      have htx := fun d st => rtext77_call (s := s) (by omega) (at_ := at_ + 1) (by omega) (d := d) (st := st)
      simp only [Int.natCast_add, Int.natCast_one, g2] at htx
      unfold txtO at htx
      cases ht : textP r with
      | none =>
        rw [ht] at htx
        simp only [Option.map_none, readO, badV] at htx
        simp [Try.f71, allocX, newObj, hge, hx, hdp, hdp', hw3, w3, w4, htx]
        exact endJ (.inr rfl) ⟨rfl, _, rfl, rfl, _, rfl, rfl⟩ rfl rfl
      | some p =>
        rw [ht] at htx
        simp only [Option.map_some, readO, okV, nds] at htx
        simp [Try.f71, allocX, newObj, hge, hx, hdp, hdp', hw3, w3, w4, htx]
        exact endJ (.inr rfl) ⟨rfl, _, rfl, rfl, _, rfl, rfl⟩ rfl rfl
    rw [if_neg h4]
    by_cases h5 : b = 5
    · subst h5
      rw [if_pos rfl]
      have hl := rloopL (val := valP k) (fun s v q h => valP_len h) (fun s v q h => valP_suffix h) s (by omega) dp (by omega) [] (r.length + 1) (at_ + 1) 0 [] false (by omega) (by omega) (by simp) (by simp) (fun a h1 h2 => hval a (by omega) (by omega))
      rw [g2] at hl
      cases hp : listP (valP k) (r.length + 1) 0 [] r with
      | none =>
        rw [hp] at hl
        rcases hl with ⟨st, e1, e2⟩ | ⟨a, n, l', mv', e0, e1⟩
        · simp [st71, lpc71, lc, loopsOf, Try.f71, zeroRd, nRow, Nd.v] at e1
          simp [Try.f71, allocX, newObj, hge, hx, hdp, hdp', hw3, w4, w5, e1]
          exact endJ (.inr rfl) e2 rfl rfl
        · simp [st71, out71, lpc71, lc, loopsOf, Try.f71, zeroRd, nRow, Nd.v] at e1
          simp [Try.f71, allocX, newObj, hge, hx, hdp, hdp', hw3, w4, w5, e1, e0]
          exact endJ (.inr rfl) ⟨rfl, _, rfl, rfl, _, rfl, rfl⟩ rfl rfl
      | some p =>
        rw [hp] at hl
        obtain ⟨a, mv', e0, e2, e1⟩ := hl
        have ea := (List.getElem?_eq_some_iff.1 e0).1
        have ea' : ¬ s.length ≤ a := by omega
        have hwa : IntKind.i64.wrap ((a : Int) + 1) = ((a + 1 : Nat) : Int) := by rw [i64_wrap (by omega) (by omega)]; omega
        have eq : s.length - p.2.2.length = a + 1 := by rw [← e2, List.length_drop]; omega
        simp only [Int.natCast_add, Int.natCast_one] at hwa
        simp [st71, out71, lpc71, lc, loopsOf, Try.f71, zeroRd, nRow, Nd.v] at e1
        simp [Try.f71, allocX, newObj, hge, hx, hdp, hdp', hw3, w4, w5, e1, ea', hwa]
        exact endJ (.inr rfl) ⟨rfl, _, rfl, (by simp [readO, okV, nds, Nd.v, eq]), _, rfl, rfl⟩ rfl rfl
    rw [if_neg h5]
    by_cases h6 : b = 6
    · subst h6
      rw [if_pos rfl]
      have hl := rloopM (val := valP k) (fun s v q h => valP_len h) (fun s v q h => valP_suffix h) s (by omega) dp (by omega) (r.length + 1) (at_ + 1) 0 [] [] false (by omega) (by omega) (by simp) (by simp) (fun a h1 h2 => hval a (by omega) (by omega))
      rw [g2] at hl
      cases hp : mapP (valP k) (r.length + 1) 0 [] [] r with
      | none =>
        rw [hp] at hl
        rcases hl with ⟨st, e1, e2⟩ | ⟨a, n, l', mv', last', e0, e1⟩
        · simp [st71, lpc71, lc, loopsOf, Try.f71, zeroRd, nRow, Nd.v] at e1
          simp [Try.f71, allocX, newObj, hge, hx, hdp, hdp', hw3, w5, w6, e1]
          exact endJ (.inr rfl) e2 rfl rfl
        · simp [st71, out71, lpc71, lc, loopsOf, Try.f71, zeroRd, nRow, Nd.v] at e1
          simp [Try.f71, allocX, newObj, hge, hx, hdp, hdp', hw3, w5, w6, e1, e0]
          exact endJ (.inr rfl) ⟨rfl, _, rfl, rfl, _, rfl, rfl⟩ rfl rfl
      | some p =>
        rw [hp] at hl
        obtain ⟨a, mv', last', e0, e2, e1⟩ := hl
        have ea := (List.getElem?_eq_some_iff.1 e0).1
        have ea' : ¬ s.length ≤ a := by omega
        have hwa : IntKind.i64.wrap ((a : Int) + 1) = ((a + 1 : Nat) : Int) := by rw [i64_wrap (by omega) (by omega)]; omega
        have eq : s.length - p.2.2.length = a + 1 := by rw [← e2, List.length_drop]; omega
        simp only [Int.natCast_add, Int.natCast_one] at hwa
        simp [st71, out71, lpc71, lc, loopsOf, Try.f71, zeroRd, nRow, Nd.v] at e1
        simp [Try.f71, allocX, newObj, hge, hx, hdp, hdp', hw3, w5, w6, e1, ea', hwa]
        exact endJ (.inr rfl) ⟨rfl, _, rfl, (by simp [readO, okV, nds, Nd.v, eq]), _, rfl, rfl⟩ rfl rfl
    rw [if_neg h6]
    have hcases : b.toNat = 0 ∨ 7 ≤ b.toNat := by
      have e : ∀ m : Nat, m < 256 → b.toNat = m → b = UInt8.ofNat m := fun m hm h => by rw [← h]; simp
      by_cases h0 : b.toNat = 0
      · exact .inl h0
      · right
        apply Classical.byContradiction
        intro h7
        have : b.toNat = 1 ∨ b.toNat = 2 ∨ b.toNat = 3 ∨ b.toNat = 4 ∨ b.toNat = 5 ∨ b.toNat = 6 := by omega
        rcases this with h | h | h | h | h | h
        · exact h1 (e 1 (by decide) h)
        · exact h2 (e 2 (by decide) h)
        · exact h3 (e 3 (by decide) h)
        · exact h4 (e 4 (by decide) h)
        · exact h5 (e 5 (by decide) h)
        · exact h6 (e 6 (by decide) h)
    rcases hcases with h0 | h7
    · simp [Try.f71, allocX, newObj, hge, hx, hdp, hdp', h0]
      exact endJ (.inr rfl) ⟨rfl, _, rfl, rfl, _, rfl, rfl⟩ rfl rfl
    · have h0' : ¬ b.toNat < 1 := by omega
      have h0'' : ¬ (b.toNat : Int) < 1 := by omega
      have h7' : 6 < b.toNat := by omega
      have h7'' : (6 : Int) < (b.toNat : Int) := by omega
      have hz0 : ¬ b.toNat = 0 := by omega
      simp [Try.f71, allocX, newObj, hge, hx, hdp, hdp', h0', h0'', h7', h7'', hz0]
      exact endJ (.inr rfl) ⟨rfl, _, rfl, rfl, _, rfl, rfl⟩ rfl rfl
theorem rval71 (s : List UInt8) (hs : s.length ≤ 2000) : ∀ (k at_ dp : Nat), s.length < at_ + k → at_ ≤ s.length → dp ≤ at_ → RVal s at_ dp (valP k (s.drop at_)) := by
  intro k
  induction k with
  | zero => intro at_ dp h1 h2; omega
  | succ k ih => intro at_ dp h1 h2 h3; exact RVal_of (rval71_step s hs k at_ dp h2 h3 (fun a g1 g2 => ih a (dp + 1) (by omega) g2 (by omega)))
end Go.Proofs.Ytonaejfpiihfhaa

/- What the functions come to: texts out of bytes. -/
namespace Go.Proofs.Ytonaejfpiihfhaa
open Go Abs
set_option linter.unusedSimpArgs false
set_option linter.unusedVariables false
attribute [local simp] canonK canonAll canonSlot canonCell canonBox ownStep restrictTo pureCells pureRows reachL AObj.names List.range_succ appendA
/-- The texts that bytes are. -/
def splitA : Nat → List (List UInt8) → List UInt8 → Option (List (List UInt8))
  | 0, _, _ => none
  | _ + 1, l, [] => some l
  | f + 1, l, b :: r => if b = 4 then (textP r).bind fun p => splitA f (l ++ [p.1]) p.2 else none
def tRow (l : List (List UInt8)) (mv : Bool) : AObj := .row 1 (strsL l) false ⟨mv, 9⟩
def st73 (s : List UInt8) (l : List (List UInt8)) (mv : Bool) : ASt := ⟨[(0, .ptr 0 0 0), (1, .ptr 1 0 0)], [(0, rBox s), (1, .box 34 (.own 2)), (2, tRow l mv)]⟩
def ends73 (s : List UInt8) (l : List (List UInt8)) (mv : Bool) (hp : Heap) : Prop := aget hp 0 = some (rBox s) ∧ aget hp 1 = some (.box 34 (.own 2)) ∧ aget hp 2 = some (tRow l mv)
@[simp] theorem strsL_snoc {l : List (List UInt8)} {t : List UInt8} : strsL (l ++ [t]) = strsL l ++ [.str t] := by simp [strsL]
@[simp] theorem bsv34 {t : List UInt8} : bsvV G 34 1 [0] [.str t] = some (.list 1 [.str t]) := by kernel_rfl
set_option maxHeartbeats 8000000 in
theorem split_go (r t q : List UInt8) (hr : r.length ≤ 900000) (ht : textP r = some (t, q)) (l : List (List UInt8)) (hl : l.length ≤ 1000000) (mv : Bool) :
    rX 73 (lc Try.f73 0) (codeX G cl lp 73 (lc Try.f73 0) (st73 (4 :: r) l mv)) = some (.normal, st73 q (l ++ [t]) true) := by
  have h75 := fun d sl hp (h0 : aget hp 0 = some (rBox (4 :: r))) => take_1 (d := d) (sl := sl) h0
  have ht' := fun d sl hp (h0 : aget hp 0 = some (rBox r)) => text_some hr ht (d := d) (sl := sl) h0
  have hn := fun d st => rneed_call_t (d := d) (st := st)
  have hx : indexv Try.prog 9 (.str [4]) (.int .i64 0) = some (.int .u8 4) := bytes_at0
  have hL : l.length + 1 ≤ LIM := by unfold LIM; omega
  simp only [rBox] at h75 ht'
  simp [lc, loopsOf, Try.f73, st73, rBox, tRow, h75, ht', hn, hx, hL, show AV.undef.cells = [.undef] from rfl]
  done
set_option maxHeartbeats 8000000 in
theorem split_end (l : List (List UInt8)) (mv : Bool) : ∃ st, rX 73 (lc Try.f73 0) (codeX G cl lp 73 (lc Try.f73 0) (st73 [] l mv)) = some (.exit 0, st) ∧ ends73 [] l mv st.hp := by
  refine ⟨?st, ?h1, ?h2⟩
  case h1 =>
    simp [lc, loopsOf, Try.f73, st73, rBox, tRow]
    rfl
  case h2 => exact ⟨rfl, rfl, rfl⟩
set_option maxHeartbeats 8000000 in
theorem split_odd (b : UInt8) (hb : b ≠ 4) (r : List UInt8) (l : List (List UInt8)) (mv : Bool) : ∃ st s', rX 73 (lc Try.f73 0) (codeX G cl lp 73 (lc Try.f73 0) (st73 (b :: r) l mv)) = some (.pan oddR, st) ∧ ends73 s' l mv st.hp := by
  have h75 := fun d sl hp (h0 : aget hp 0 = some (rBox (b :: r))) => take_1 (d := d) (sl := sl) h0
  have hf := fun d st => rneed_call_f (d := d) (st := st)
  have hx : indexv Try.prog 9 (.str [b]) (.int .i64 0) = some (.int .u8 b.toNat) := bytes_at0
  have hz : ¬ b.toNat = 4 := fun h => hb (by rw [← UInt8.toNat_inj]; exact h)
  have hz' : ¬ (b.toNat : Int) = 4 := by omega
  simp only [rBox] at h75
  refine ⟨?st, r, ?h1, ?h2⟩
  case h1 =>
    simp [lc, loopsOf, Try.f73, st73, rBox, tRow, h75, hf, hx, hz, hz']
    rfl
  case h2 => exact ⟨rfl, rfl, rfl⟩
set_option maxHeartbeats 8000000 in
theorem split_bad (r : List UInt8) (hr : r.length ≤ 900000) (ht : textP r = none) (l : List (List UInt8)) (mv : Bool) : ∃ st s', rX 73 (lc Try.f73 0) (codeX G cl lp 73 (lc Try.f73 0) (st73 (4 :: r) l mv)) = some (.pan oddR, st) ∧ ends73 s' l mv st.hp := by
  have h75 := fun d sl hp (h0 : aget hp 0 = some (rBox (4 :: r))) => take_1 (d := d) (sl := sl) h0
  obtain ⟨s', ht⟩ := text_none hr ht
  have ht' := fun d sl hp' (h0 : aget hp' 0 = some (rBox r)) => read_P1 (d := d) (sl := sl) (hp := hp') (i := 0) (g := 76) (rest := []) E76 (by decide) rfl (by simp) h0 ht
  have hn := fun d st => rneed_call_t (d := d) (st := st)
  have hx : indexv Try.prog 9 (.str [4]) (.int .i64 0) = some (.int .u8 4) := bytes_at0
  simp only [rBox] at h75 ht'
  refine ⟨?st, s', ?h1, ?h2⟩
  case h1 =>
    simp [lc, loopsOf, Try.f73, st73, rBox, tRow, h75, ht', hn, hx]
    rfl
  case h2 => exact ⟨rfl, rfl, rfl⟩
theorem loop73 : ∀ (f : Nat) (s : List UInt8) (l : List (List UInt8)) (mv : Bool), s.length < f → l.length + s.length ≤ 900000 →
    match splitA f l s with
    | some l' => ∃ st mv', lp 73 (lc Try.f73 0) (st73 s l mv) = some (.exit 0, st) ∧ ends73 [] l' mv' st.hp
    | none => ∃ st s' l' mv', lp 73 (lc Try.f73 0) (st73 s l mv) = some (.pan oddR, st) ∧ ends73 s' l' mv' st.hp := by
  intro f
  induction f with
  | zero => intro s l mv h; omega
  | succ f ih =>
    intro s l mv h hb
    cases s with
    | nil =>
      obtain ⟨st, e1, e2⟩ := split_end l mv
      exact ⟨st, mv, loop_out e1 (by simp), e2⟩
    | cons b r =>
      simp only [List.length_cons] at h hb
      simp only [splitA]
      by_cases h4 : b = 4
      · subst h4
        rw [if_pos rfl]
        cases ht : textP r with
        | none =>
          obtain ⟨st, s', e1, e2⟩ := split_bad r (by omega) ht l mv
          exact ⟨st, s', l, mv, loop_out e1 (by simp), e2⟩
        | some p =>
          obtain ⟨t, q⟩ := p
          have hq := textP_len ht
          have e := split_go r t q (by omega) ht l (by omega) mv
          have := ih q (l ++ [t]) true (by omega) (by simp; omega)
          simp only [Option.bind_some]
          cases hs : splitA f (l ++ [t]) q with
          | none => rw [hs] at this; obtain ⟨st, s', l', mv', e1, e2⟩ := this; exact ⟨st, s', l', mv', loop_next e e1, e2⟩
          | some l' => rw [hs] at this; obtain ⟨st, mv', e1, e2⟩ := this; exact ⟨st, mv', loop_next e e1, e2⟩
      · rw [if_neg h4]
        obtain ⟨st, s', e1, e2⟩ := split_odd b h4 r l mv
        exact ⟨st, s', l, mv, loop_out e1 (by simp), e2⟩
def hp73 (s : List UInt8) (l : List (List UInt8)) (mv : Bool) : Heap := [(0, rBox s), (1, .box 34 (.own 2)), (2, tRow l mv)]
theorem out73 {hp : Heap} {v : AV} {s : List UInt8} {l : List (List UInt8)} {mv : Bool} (hv : Plain v) (h : ends73 s l mv hp) : outOf [0, 1, 2] hp v = (v, hp73 s l mv) := by
  obtain ⟨h0, h1, h2⟩ := h
  unfold outOf
  simp [hv.names, h0, h1, h2, rBox, tRow, hp73, hv.ren, onlyHeap, idMap]
theorem split73 (s : List UInt8) (hb : s.length ≤ 800000) : match splitA (s.length + 1) [] s with
    | some l => ∃ mv, cl 73 [.ptr 0 0 0, .ptr 1 0 0] (hp73 s [] false) = some (.ret (.tup []), hp73 [] l mv)
    | none => ∃ s' l' mv, cl 73 [.ptr 0 0 0, .ptr 1 0 0] (hp73 s [] false) = some (.pan oddR, hp73 s' l' mv) := by
  have h := loop73 (s.length + 1) s [] false (by omega) (by simp; omega)
  cases hs : splitA (s.length + 1) [] s with
  | none =>
    rw [hs] at h
    obtain ⟨st, s', l', mv, e1, e2⟩ := h
    refine ⟨s', l', mv, fn_intro Try.func73 rfl (by simp) (by decide) rfl ?_⟩
    simp [st73, lc, loopsOf, Try.f73, rBox, tRow] at e1
    simp [Try.f73, hp73, rBox, tRow, e1]
    have := out73 plain_odd e2
    unfold endX
    have e3 : hfix oddR.rows st.hp = st.hp := rfl
    have e4 : oddR.rv st.hp = oddR := rfl
    simp only [e3, e4, this, panA]
    rfl
  | some l =>
    rw [hs] at h
    obtain ⟨st, mv, e1, e2⟩ := h
    refine ⟨mv, fn_intro Try.func73 rfl (by simp) (by decide) rfl ?_⟩
    simp [st73, lc, loopsOf, Try.f73, rBox, tRow] at e1
    simp [Try.f73, hp73, rBox, tRow, e1]
    have := out73 plain_unit e2
    obtain ⟨sl, hp⟩ := st
    unfold endX
    simp [finishA, retA, this, ASt.fix]
    rfl
/-! read, with a function that was handed a place for texts. -/
def hp34 (l : List (List UInt8)) (mv : Bool) : Heap := [(0, .box 34 (.own 1)), (1, tRow l mv)]
def st68s (s : List UInt8) : ASt := ⟨[(0, .str s), (1, .fn (.func 73) [] [.ptr 0 0 0]), (4, .ptr 1004 0 0), (5, .ptr 1005 0 0)], [(1005, .box 4 (.bool false)), (1004, .box 9 (.str []))] ++ hp34 [] false⟩
def st68sb (s : List UInt8) : ASt := ⟨(7, .fn (.func 99) [] [.ptr 1004 0 0, .ptr 1005 0 0]) :: (st68s s).sl, (st68s s).hp⟩
def st68sc (s : List UInt8) : ASt := ⟨[(7, .fn (.func 99) [] [.ptr 2 0 0, .ptr 3 0 0]), (0, .str s), (1, .fn (.func 73) [] [.ptr 0 0 0]), (4, .ptr 2 0 0), (5, .ptr 3 0 0)], [(0, .box 34 (.own 1)), (1, tRow [] false), (2, .box 9 (.str [])), (3, .box 4 (.bool false))]⟩
theorem out34 {hp : Heap} {v : AV} {l : List (List UInt8)} {mv : Bool} (hv : Plain v) (h : aget hp 0 = some (.box 34 (.own 1))) (h1 : aget hp 1 = some (tRow l mv)) : outOf [0, 1] hp v = (v, hp34 l mv) := by
  unfold outOf
  simp [hv.names, h, h1, tRow, hp34, hv.ren, onlyHeap, idMap]
theorem read73_end (s : List UInt8) {x2 : AX} {rv : AV} {s3 : ASt} {t t' : List UInt8} {b b' : Bool} {l : List (List UInt8)} {mv : Bool} (hrest : codeX G cl lp 68 (restOf b68) (st68sc s) = some (x2, s3)) (hrv : recOf x2 = some rv) (h4 : s3.slot 4 = .ptr 2 0 0) (h5 : s3.slot 5 = .ptr 3 0 0)
    (hl : aget s3.hp 0 = some (.box 34 (.own 1))) (hl1 : aget s3.hp 1 = some (tRow l mv)) (h0 : aget s3.hp 2 = some (.box 9 (.str t))) (h1 : aget s3.hp 3 = some (.box 4 (.bool b)))
    (hc : runClosure G rv 99 [.ptr 0 0 0, .ptr 1 0 0] [(0, .box 9 (.str t)), (1, .box 4 (.bool b))] = some (.ret (.tup []), [(0, .box 9 (.str t')), (1, .box 4 (.bool b'))])) :
    cl 68 [.str s, .fn (.func 73) [] [.ptr 0 0 0]] (hp34 [] false) = some (.ret (.tup [.str t', .bool b']), hp34 l mv) := by
  obtain ⟨sl, H⟩ := s3
  refine call_intro (by decide) rfl (runD_of (fn := Try.f68) (A := sA b68) (ops := sO b68) (f := sF b68) (rest := restOf b68) (s0 := st68s s) (s1 := st68sb s) (ns := [0, 1, 1004, 1005]) (x2 := x2) (rv := rv) (vs := [.str t', .bool b']) (s4 := ⟨sl, [(2, .box 9 (.str t')), (3, .box 4 (.bool b'))] ++ H⟩) (m := []) (v := .tup [])
    (by simp) Try.func68 (by kernel_rfl) (by kernel_rfl) (by kernel_rfl) (by kernel_rfl) (by kernel_rfl) hrest ?_ hrv ?_ ?_ ?_)
  · have e : ((st68sb s).ev (sF b68)).ren (toMap [0, 1, 1004, 1005]) = .fn (.func 99) [] [.ptr 2 0 0, .ptr 3 0 0] := by kernel_rfl
    rw [e]
    simp [isBoxAt, h0, h1]
  · have e : ((st68sb s).ev (sF b68)).ren (toMap [0, 1, 1004, 1005]) = .fn (.func 99) [] [.ptr 2 0 0, .ptr 3 0 0] := by kernel_rfl
    rw [e]
    exact clo_call (by decide) h0 h1 hc
  · exact res68 (p := 2) (q := 3) (by simpa [ASt.slot] using h4) (by simpa [ASt.slot] using h5) (by simp) (by simp)
  · have hH : aget ([(2, AObj.box 9 (.str t')), (3, .box 4 (.bool b'))] ++ H) 0 = some (.box 34 (.own 1)) := by simpa using hl
    have hH1 : aget ([(2, AObj.box 9 (.str t')), (3, .box 4 (.bool b'))] ++ H) 1 = some (tRow l mv) := by simpa using hl1
    have e : finishA G 68 [0, 1] (.tup [.str t', .bool b']) ⟨sl, [(2, .box 9 (.str t')), (3, .box 4 (.bool b'))] ++ H⟩ = (.tup [.str t', .bool b'], hp34 l mv) := by
      unfold finishA
      split
      · exact out34 (pureOut _ _) hH hH1
      · exact out34 (pureOut _ _) hH hH1
    have e0 : (hp34 [] false).map (·.1) = [0, 1] := rfl
    simp only [e0, resOf_two, e, retA]
/-- The call of what splits, from read. -/
theorem call73 {d : Option Nat} {s s' : List UInt8} {l : List (List UInt8)} {mv : Bool} {res : ARes} {sl : Slots} {hp : Heap} (h0 : aget hp 1010 = some (rBox s)) (h1 : aget hp 0 = some (.box 34 (.own 1))) (h2 : aget hp 1 = some (tRow [] false)) (hv : Plain res.val)
    (hc : cl 73 [.ptr 0 0 0, .ptr 1 0 0] (hp73 s [] false) = some (res, hp73 s' l mv)) :
    callV G cl d (.fn (.func 73) [] [.ptr 0 0 0]) [.ptr 1010 0 0] ⟨sl, hp⟩ = some (pureR ⟨if mv then sl.map (fun p => (p.1, p.2.kill 1)) else sl, [(1010, rBox s'), (0, .box 34 (.own 1)), (1, tRow l mv)] ++ (if mv then hp.map (fun p => (p.1, p.2.kill 1)) else hp)⟩ res) := by
  have hk1 : aget (hp.map fun p => (p.1, p.2.kill 1)) 1 = some (tRow [] false) := by rw [aget_mapv, h2]; rfl
  have hk0 : aget (hp.map fun p => (p.1, p.2.kill 1)) 0 = some (.box 34 .undef) := by rw [aget_mapv, h1]; rfl
  have hk2 : aget (hp.map fun p => (p.1, p.2.kill 1)) 1010 = some (rBox s) := by rw [aget_mapv, h0]; rfl
  refine callV_of (pre := [.ptr 1010 0 0, .ptr 0 0 0]) (st1 := ⟨sl, hp⟩) (ns := [1010, 0, 1]) (y := (res, hp73 s' l mv)) (st3 := ⟨if mv then sl.map (fun p => (p.1, p.2.kill 1)) else sl, [(1010, rBox s'), (0, .box 34 (.own 1)), (1, tRow l mv)] ++ (if mv then hp.map (fun p => (p.1, p.2.kill 1)) else hp)⟩) E73 (by decide) rfl ?_ ?_ ?_ ?_ ?_ ?_ ?_
  · simp [prepL]
  · simp [prepRows, ASt.fix, hfix]
  · simp [AV.namesL, reachL, h0, h1, h2, rBox, tRow]
  · simp [h0, h1, h2]
  · simp [AV.renL, subHeap, zipIx, toMap, h0, h1, h2, rBox, tRow, AObj.unmv]
    exact hc
  · cases mv <;> simp [afterCall, afterHeap, zipIx, movedOf, killAll, backMap, backName, hp73, h0, h1, h2, hk0, hk1, hk2, rBox, tRow, AObj.moved, AObj.isRow, AObj.ormv, ASt.killn]
  · cases res with
    | ret v => simp [answered, pureR]; exact hv.ren _
    | pan v => simp [answered, pureR]; exact hv.ren _
set_option maxHeartbeats 8000000 in
theorem read73 (s : List UInt8) (hb : s.length ≤ 800000) : match splitA (s.length + 1) [] s with
    | some l => ∃ mv, cl 68 [.str s, .fn (.func 73) [] [.ptr 0 0 0]] (hp34 [] false) = some (.ret (.tup [.str [], .bool true]), hp34 l mv)
    | none => ∃ l mv, cl 68 [.str s, .fn (.func 73) [] [.ptr 0 0 0]] (hp34 [] false) = some (.ret (.tup [.str [], .bool false]), hp34 l mv) := by
  have h := split73 s hb
  cases hs : splitA (s.length + 1) [] s with
  | none =>
    rw [hs] at h
    obtain ⟨s', l, mv, h⟩ := h
    refine ⟨l, mv, ?_⟩
    have hm := fun d sl hp (h0 : aget hp 1010 = some (rBox s)) (h1 : aget hp 0 = some (.box 34 (.own 1))) (h2 : aget hp 1 = some (tRow [] false)) => call73 (d := d) (sl := sl) (res := .pan oddR) h0 h1 h2 plain_odd h
    simp only [rBox, tRow, pureR_p] at hm
    have hrest : ∃ st', codeX G cl lp 68 (restOf b68) (st68sc s) = some (.pan oddR, st') ∧ (st'.slot 4 = .ptr 2 0 0 ∧ st'.slot 5 = .ptr 3 0 0) ∧ aget st'.hp 0 = some (.box 34 (.own 1)) ∧ aget st'.hp 1 = some (tRow l mv) ∧ aget st'.hp 2 = some (.box 9 (.str [])) ∧ aget st'.hp 3 = some (.box 4 (.bool false)) := by
      cases mv with
      | false =>
        simp only [Bool.false_eq_true, if_false] at hm
        refine ⟨?st, ?h1, ?h2⟩
        case h1 =>
          simp [restOf, b68, Try.f68, splitD, st68sc, tRow, strsL, hm]
          rfl
        case h2 => exact ⟨⟨rfl, rfl⟩, rfl, rfl, rfl, rfl⟩
      | true =>
        simp only [if_true] at hm
        refine ⟨?st', ?h3, ?h4⟩
        case h3 =>
          simp [restOf, b68, Try.f68, splitD, st68sc, tRow, strsL, hm]
          rfl
        case h4 => exact ⟨⟨rfl, rfl⟩, rfl, rfl, rfl, rfl⟩
    obtain ⟨st', e, ⟨h4, h5⟩, g0, g1, g2, g3⟩ := hrest
    exact read73_end s e rfl h4 h5 g0 g1 g2 g3 (clo_odd _ _)
  | some l =>
    rw [hs] at h
    obtain ⟨mv, h⟩ := h
    refine ⟨mv, ?_⟩
    have hm := fun d sl hp (h0 : aget hp 1010 = some (rBox s)) (h1 : aget hp 0 = some (.box 34 (.own 1))) (h2 : aget hp 1 = some (tRow [] false)) => call73 (d := d) (sl := sl) (res := .ret (.tup [])) h0 h1 h2 plain_unit h
    simp only [rBox, tRow, pureR_r] at hm
    have hrest : ∃ st', codeX G cl lp 68 (restOf b68) (st68sc s) = some (.ret, st') ∧ (st'.slot 4 = .ptr 2 0 0 ∧ st'.slot 5 = .ptr 3 0 0) ∧ aget st'.hp 0 = some (.box 34 (.own 1)) ∧ aget st'.hp 1 = some (tRow l mv) ∧ aget st'.hp 2 = some (.box 9 (.str [])) ∧ aget st'.hp 3 = some (.box 4 (.bool true)) := by
      cases mv with
      | false =>
        simp only [Bool.false_eq_true, if_false] at hm
        refine ⟨?st5, ?h5, ?h6⟩
        case h5 =>
          simp [restOf, b68, Try.f68, splitD, st68sc, tRow, strsL, hm]
          rfl
        case h6 => exact ⟨⟨rfl, rfl⟩, rfl, rfl, rfl, rfl⟩
      | true =>
        simp only [if_true] at hm
        refine ⟨?st7, ?h7, ?h8⟩
        case h7 =>
          simp [restOf, b68, Try.f68, splitD, st68sc, tRow, strsL, hm]
          rfl
        case h8 => exact ⟨⟨rfl, rfl⟩, rfl, rfl, rfl, rfl⟩
    obtain ⟨st', e, ⟨h4, h5⟩, g0, g1, g2, g3⟩ := hrest
    exact read73_end s e rfl h4 h5 g0 g1 g2 g3 (clo_nil _ _)
end Go.Proofs.Ytonaejfpiihfhaa

/- What the functions come to: First, Get, Split. -/
namespace Go.Proofs.Ytonaejfpiihfhaa
open Go Abs
set_option linter.unusedSimpArgs false
set_option linter.unusedVariables false
attribute [local simp] canonK canonAll canonSlot canonCell canonBox ownStep restrictTo pureCells pureRows reachL AObj.names List.range_succ appendA
def firstO (s : List UInt8) : List AV := match valP (s.length + 1) s with
  | some p => [.str (s.take (s.length - p.2.length)), .str p.2, .int .i64 0]
  | none => [.str [], .str [], .int .i64 5]
set_option maxHeartbeats 8000000 in
theorem first42 (s : List UInt8) (hb : s.length ≤ 800000) : cl 42 [.str s] [] = some (.ret (.tup (firstO s)), []) := by
  have h := read72 s hb
  refine fn_intro Try.func42 rfl (by simp) (by decide) rfl ?_
  unfold firstO
  cases hv : valP (s.length + 1) s with
  | none =>
    rw [hv] at h
    have hc := fun d st => callV_ret (d := d) (st := st) (first := []) (caps := []) (args := [.str s, .fn (.func 72) [] []]) E68 (by decide) ext68 rfl rfl h rfl
    simp [Try.f42, hc]
    exact end_is (.inr rfl) (by simp; rfl) rfl rfl
  | some p =>
    rw [hv] at h
    have hlen := valP_len hv
    have hc := fun d st => callV_ret (d := d) (st := st) (first := []) (caps := []) (args := [.str s, .fn (.func 72) [] []]) E68 (by decide) ext68 rfl rfl h rfl
    have hw : IntKind.i64.wrap ((s.length : Int) - p.2.length) = ((s.length - p.2.length : Nat) : Int) := by rw [i64_wrap (by omega) (by omega)]; omega
    have h0 : (0 : Int) ≤ ((s.length - p.2.length : Nat) : Int) := by omega
    have h1 : s.length - p.2.length ≤ s.length := by omega
    simp [Try.f42, hc, hw, h0, h1]
    exact end_is (.inr rfl) (by simp; rfl) rfl rfl
theorem first_call {s : List UInt8} (hb : s.length ≤ 800000) {d : Option Nat} {st : ASt} : callV G cl d (.fn (.func 42) [] []) [.str s] st = some (.val (.tup (firstO s)) st) :=
  callV_ret E42 (by decide) ext42 rfl rfl (first42 s hb) (by unfold firstO; split <;> rfl)
set_option maxHeartbeats 8000000 in
theorem rfirst43 (s : List UInt8) (hb : s.length ≤ 2000) : cl 43 [.str s] [] = some (.ret (.tup (firstO s)), []) := by
  have h := fun d st => rval71 s hb (s.length + 1) 0 0 (by omega) (by omega) (by omega) d st
  simp only [List.drop_zero, Int.natCast_zero] at h
  refine fn_intro Try.func43 rfl (by simp) (by decide) rfl ?_
  unfold firstO
  cases hv : valP (s.length + 1) s with
  | none =>
    rw [hv] at h
    simp only [readO, badV] at h
    simp [Try.f43, h, allocX, newObj]
    exact end_is (.inr rfl) (by simp; rfl) rfl rfl
  | some p =>
    rw [hv] at h
    have hlen := valP_len hv
    obtain ⟨x, hx⟩ := valP_suffix hv
    have hd : s.drop (s.length - p.2.length) = p.2 := drop_suffix ⟨x, hx⟩
    have h0 : (0 : Int) ≤ ((s.length - p.2.length : Nat) : Int) := by omega
    have h1 : s.length - p.2.length ≤ s.length := by omega
    simp only [readO, okV, nds] at h
    simp [Try.f43, h, allocX, newObj, h0, h1, hd]
    exact end_is (.inr rfl) (by simp; rfl) rfl rfl
theorem rfirst_call {s : List UInt8} (hb : s.length ≤ 2000) {d : Option Nat} {st : ASt} : callV G cl d (.fn (.func 43) [] []) [.str s] st = some (.val (.tup (firstO s)) st) :=
  callV_ret E43 (by decide) ext43 rfl rfl (rfirst43 s hb) (by unfold firstO; split <;> rfl)
/-! Get. -/
theorem numP_in (t : List UInt8) : -9223372036854775808 ≤ numP t ∧ numP t ≤ 9223372036854775807 := by
  unfold numP
  rw [IntKind.wrap_i64]
  omega
theorem listP_in {val : List UInt8 → Option (List Nd × List UInt8)} {N : Nat} (hlen : ∀ s v q, val s = some (v, q) → 0 < v.length ∧ v.length + q.length ≤ s.length) (hv : ∀ s v q, s.length ≤ N → val s = some (v, q) → ∀ n ∈ v, n.inR) : ∀ {f c l s r}, listP val f c l s = some r → s.length ≤ N → (∀ n ∈ l, n.inR) → ∀ n ∈ r.2.1, n.inR := by
  intro f
  induction f with
  | zero => intro c l s r h; cases h
  | succ f ih =>
    intro c l s r h hN hl
    cases s with
    | nil => cases h
    | cons b s =>
      simp only [listP] at h
      split at h
      · cases h; exact hl
      · rw [Option.bind_eq_some_iff] at h
        obtain ⟨p, hp, h⟩ := h
        have := hlen _ _ _ hp
        refine ih h (by omega) fun n hn => ?_
        rcases List.mem_append.1 hn with hn | hn
        · exact hl n hn
        · exact hv _ _ _ hN hp n hn
theorem mapP_in {val : List UInt8 → Option (List Nd × List UInt8)} {N : Nat} (hlen : ∀ s v q, val s = some (v, q) → 0 < v.length ∧ v.length + q.length ≤ s.length) (hv : ∀ s v q, s.length ≤ N → val s = some (v, q) → ∀ n ∈ v, n.inR) : ∀ {f c k l s r}, mapP val f c k l s = some r → s.length ≤ N → (∀ n ∈ l, n.inR) → ∀ n ∈ r.2.1, n.inR := by
  intro f
  induction f with
  | zero => intro c k l s r h; cases h
  | succ f ih =>
    intro c k l s r h hN hl
    cases s with
    | nil => cases h
    | cons b s =>
      simp only [mapP] at h
      split at h
      · cases h; exact hl
      · split at h
        · rw [Option.bind_eq_some_iff] at h
          obtain ⟨t, ht, h⟩ := h
          split at h
          · rw [Option.bind_eq_some_iff] at h
            obtain ⟨p, hp, h⟩ := h
            have h1 := textP_len ht
            have h2 := hlen _ _ _ hp
            simp only [List.length_cons] at hN
            refine ih h (by omega) fun n hn => ?_
            rcases List.mem_append.1 hn with hn | hn
            · exact hl n hn
            · rcases List.mem_cons.1 hn with rfl | hn
              · exact ⟨by simp, by simp, by simp, by simp⟩
              · exact hv _ _ _ (by omega) hp n hn
          · cases h
        · cases h
theorem valP_in : ∀ {k s v q}, s.length ≤ 900000 → valP k s = some (v, q) → ∀ n ∈ v, n.inR := by
  intro k
  induction k with
  | zero => intro s v q _ h; cases h
  | succ k ih =>
    intro s v q hs h
    have one : ∀ {n m : Nd}, m.inR → n ∈ [m] → n.inR := fun hm hn => by rw [List.mem_singleton.1 hn]; exact hm
    cases s with
    | nil => cases h
    | cons b r =>
      simp only [List.length_cons] at hs
      simp only [valP] at h
      split at h
      · cases h; exact fun n hn => one ⟨by simp, by simp, by simp, by simp⟩ hn
      split at h
      · split at h
        · rename_i c q'
          split at h
          · cases h
            have := c.toNat_lt
            exact fun n hn => one ⟨by simp only; omega, by simp only; omega, by simp, by simp⟩ hn
          · cases h
        · cases h
      split at h
      · split at h
        · cases h; exact fun n hn => one ⟨(numP_in _).1, (numP_in _).2, by simp, by simp⟩ hn
        · cases h
      split at h
      · obtain ⟨p, hp, e⟩ := Option.map_eq_some_iff.1 h
        cases e
        exact fun n hn => one ⟨by simp, by simp, by simp, by simp⟩ hn
      split at h
      · obtain ⟨p, hp, e⟩ := Option.map_eq_some_iff.1 h
        cases e
        have hl := listP_len (fun s v q h => valP_len h) hp
        simp at hl
        intro n hn
        rcases List.mem_cons.1 hn with rfl | hn
        · exact ⟨by simp, by simp, by simp only; omega, by simp only; omega⟩
        · exact listP_in (N := 900000) (fun s v q h => valP_len h) (fun s v q h1 h2 => ih h1 h2) hp (by omega) (by simp) n hn
      split at h
      · obtain ⟨p, hp, e⟩ := Option.map_eq_some_iff.1 h
        cases e
        have hl := mapP_len (fun s v q h => valP_len h) hp
        simp at hl
        intro n hn
        rcases List.mem_cons.1 hn with rfl | hn
        · exact ⟨by simp, by simp, by simp only; omega, by simp only; omega⟩
        · exact mapP_in (N := 900000) (fun s v q h => valP_len h) (fun s v q h1 h2 => ih h1 h2) hp (by omega) (by simp) n hn
      · cases h
def getS (s : List UInt8) : Option (List Nd) := match valP (s.length + 1) s with
  | some p => if p.2 = [] ∧ checkS p.1 = 0 then some p.1 else none
  | none => none
def getO : Option (List Nd) → List AV
  | some l => [nds l, .int .i64 0]
  | none => [.nils, .int .i64 5]
theorem read_get (s : List UInt8) (hb : s.length ≤ 800000) (sl : Slots) : callV G cl (some 10) (.fn (.func 68) [] []) [.str s, .fn (.func 69) [] [.ptr 1004 0 0]] ⟨sl, [(1004, box22 none)]⟩ =
    some (match valP (s.length + 1) s with
      | some p => .val (.tup [.str p.2, .bool true]) ⟨sl, [(1004, box22 (some p.1)), (1004, box22 none)]⟩
      | none => .val (.tup [.str [], .bool false]) ⟨sl, [(1004, box22 none), (1004, box22 none)]⟩) := by
  have h := read69 s hb
  cases hv : valP (s.length + 1) s with
  | none =>
    rw [hv] at h
    refine callV_of (pre := [.str s, .fn (.func 69) [] [.ptr 1004 0 0]]) (st1 := ⟨sl, [(1004, box22 none)]⟩) (ns := [1004]) (y := (.ret (.tup [.str [], .bool false]), [(0, box22 none)])) E68 (by decide) ext68 rfl rfl rfl rfl (by exact h) (by kernel_rfl) rfl
  | some p =>
    rw [hv] at h
    refine callV_of (pre := [.str s, .fn (.func 69) [] [.ptr 1004 0 0]]) (st1 := ⟨sl, [(1004, box22 none)]⟩) (ns := [1004]) (y := (.ret (.tup [.str p.2, .bool true]), [(0, box22 (some p.1))])) E68 (by decide) ext68 rfl rfl rfl rfl (by exact h) (by kernel_rfl) rfl
set_option maxHeartbeats 8000000 in
theorem get40 (s : List UInt8) (hb : s.length ≤ 800000) : cl 40 [.str s] [] = some (.ret (.tup (getO (getS s))), []) := by
  have hc := fun sl => read_get s hb sl
  refine fn_intro Try.func40 rfl (by simp) (by decide) rfl ?_
  unfold getS
  cases hv : valP (s.length + 1) s with
  | none =>
    simp only [hv, box22] at hc
    simp [Try.f40, allocX, newObj, hc, getO]
    exact end_is (.inr rfl) (by simp; rfl) rfl rfl
  | some p =>
    have hk := fun d st => check_call (l := p.1) (by have := valP_len hv; omega) (valP_in (by omega) hv) (d := d) (st := st)
    simp only [hv, box22] at hc
    simp only
    simp only [nds] at hk hc
    by_cases h1 : p.2 = []
    · by_cases h2 : checkS p.1 = 0
      · rw [if_pos ⟨h1, h2⟩]
        simp [Try.f40, allocX, newObj, hc, hk, getO, h1, h2]
        exact end_rv (.inr rfl) (by simp; rfl) rfl rfl rfl
      · rw [if_neg (fun h => h2 h.2)]
        simp [Try.f40, allocX, newObj, hc, hk, getO, h1, h2]
        exact end_is (.inr rfl) (by simp; rfl) rfl rfl
    · rw [if_neg (fun h => h1 h.1)]
      simp [Try.f40, allocX, newObj, hc, hk, getO, h1]
      exact end_is (.inr rfl) (by simp; rfl) rfl rfl
theorem getO_names {o : Option (List Nd)} : (AV.tup (getO o)).names = [] := by cases o <;> rfl
theorem get_call {s : List UInt8} (hb : s.length ≤ 800000) {d : Option Nat} {st : ASt} : callV G cl d (.fn (.func 40) [] []) [.str s] st = some (.val (.tup (getO (getS s))) st) :=
  callV_ret E40 (by decide) ext40 rfl rfl (get40 s hb) getO_names
set_option maxHeartbeats 8000000 in
theorem rget41 (s : List UInt8) (hb : s.length ≤ 2000) : cl 41 [.str s] [] = some (.ret (.tup (getO (getS s))), []) := by
  have h := fun d st => rval71 s hb (s.length + 1) 0 0 (by omega) (by omega) (by omega) d st
  simp only [List.drop_zero, Int.natCast_zero] at h
  refine fn_intro Try.func41 rfl (by simp) (by decide) rfl ?_
  unfold getS
  cases hv : valP (s.length + 1) s with
  | none =>
    rw [hv] at h
    simp only [readO, badV] at h
    simp [Try.f41, h, allocX, newObj, getO]
    exact end_is (.inr rfl) (by simp; rfl) rfl rfl
  | some p =>
    have hlen := valP_len hv
    have hk := fun d st => rcheck_call (l := p.1) (by omega) (valP_in (by omega) hv) (d := d) (st := st)
    rw [hv] at h
    simp only [readO, okV, nds] at h hk
    simp only
    by_cases h1 : p.2 = []
    · have h1' : ((s.length - p.2.length : Nat) : Int) = s.length := by rw [h1]; rfl
      by_cases h2 : checkS p.1 = 0
      · rw [if_pos ⟨h1, h2⟩]
        simp [Try.f41, h, hk, allocX, newObj, getO, h1, h2]
        exact end_rv (.inr rfl) (by simp; rfl) rfl rfl rfl
      · rw [if_neg (fun h => h2 h.2)]
        simp [Try.f41, h, hk, allocX, newObj, getO, h1, h2]
        exact end_is (.inr rfl) (by simp; rfl) rfl rfl
    · have hp := List.length_pos_iff.2 h1
      have h1' : ¬ ((s.length - p.2.length : Nat) : Int) = s.length := by omega
      have h1'' : ¬ (s.length - p.2.length = s.length) := by omega
      rw [if_neg (fun h => h1 h.1)]
      simp [Try.f41, h, hk, allocX, newObj, getO, h1', h1'']
      exact end_is (.inr rfl) (by simp; rfl) rfl rfl
theorem rget_call {s : List UInt8} (hb : s.length ≤ 2000) {d : Option Nat} {st : ASt} : callV G cl d (.fn (.func 41) [] []) [.str s] st = some (.val (.tup (getO (getS s))) st) :=
  callV_ret E41 (by decide) ext41 rfl rfl (rget41 s hb) getO_names
/-! Split. -/
def splitS (s : List UInt8) : Option (List (List UInt8)) := splitA (s.length + 1) [] s
def splitO : Option (List (List UInt8)) → List AV
  | some l => [.list 1 (strsL l), .int .i64 0]
  | none => [.nils, .int .i64 5]
def hp44 : Heap := [(200400, .row 1 [] false ⟨false, 9⟩), (1004, .box 34 (.own 200400))]
theorem read_split {s : List UInt8} {l : List (List UInt8)} {mv b : Bool} (sl : Slots) (h : cl 68 [.str s, .fn (.func 73) [] [.ptr 0 0 0]] (hp34 [] false) = some (.ret (.tup [.str [], .bool b]), hp34 l mv)) :
    callV G cl (some 10) (.fn (.func 68) [] []) [.str s, .fn (.func 73) [] [.ptr 1004 0 0]] ⟨sl, hp44⟩ = some (.val (.tup [.str [], .bool b]) ⟨if mv then sl.map (fun p => (p.1, p.2.kill 200400)) else sl, [(1004, .box 34 (.own 200400)), (200400, tRow l mv)] ++ (if mv then [(200400, .row 1 [] false ⟨false, 9⟩), (1004, .box 34 .undef)] else hp44)⟩) := by
  refine callV_of (pre := [.str s, .fn (.func 73) [] [.ptr 1004 0 0]]) (st1 := ⟨sl, hp44⟩) (ns := [1004, 200400]) (y := (.ret (.tup [.str [], .bool b]), hp34 l mv)) (st3 := ⟨if mv then sl.map (fun p => (p.1, p.2.kill 200400)) else sl, [(1004, .box 34 (.own 200400)), (200400, tRow l mv)] ++ (if mv then [(200400, .row 1 [] false ⟨false, 9⟩), (1004, .box 34 .undef)] else hp44)⟩) E68 (by decide) ext68 rfl rfl rfl rfl (by exact h) ?_ rfl
  cases mv <;> simp [afterCall, afterHeap, zipIx, movedOf, killAll, backMap, backName, hp34, hp44, tRow, AObj.moved, AObj.isRow, AObj.ormv, ASt.killn]
set_option maxHeartbeats 8000000 in
theorem split44 (s : List UInt8) (hb : s.length ≤ 800000) : cl 44 [.str s] [] = some (.ret (.tup (splitO (splitS s))), []) := by
  have h := read73 s hb
  refine fn_intro Try.func44 rfl (by simp) (by decide) rfl ?_
  unfold splitS
  cases hs : splitA (s.length + 1) [] s with
  | none =>
    rw [hs] at h
    obtain ⟨l, mv, h⟩ := h
    have hc := fun sl => read_split sl h
    simp only [hp44, tRow] at hc
    cases mv with
    | false =>
      simp only [Bool.false_eq_true, if_false] at hc
      simp [Try.f44, allocX, newObj, hc, splitO]
      exact end_is (.inr rfl) (by simp; rfl) rfl rfl
    | true =>
      simp only [if_true] at hc
      simp [Try.f44, allocX, newObj, hc, splitO]
      exact end_is (.inr rfl) (by simp; rfl) rfl rfl
  | some l =>
    rw [hs] at h
    obtain ⟨mv, h⟩ := h
    have hc := fun sl => read_split sl h
    simp only [hp44, tRow] at hc
    cases mv with
    | false =>
      simp only [Bool.false_eq_true, if_false] at hc
      simp [Try.f44, allocX, newObj, hc, splitO]
      exact end_rv (.inr rfl) (by simp; rfl) rfl rfl rfl
    | true =>
      simp only [if_true] at hc
      simp [Try.f44, allocX, newObj, hc, splitO]
      exact end_rv (.inr rfl) (by simp; rfl) rfl rfl rfl
theorem splitO_names {o : Option (List (List UInt8))} : (AV.tup (splitO o)).names = [] := by cases o <;> rfl
theorem split_call {s : List UInt8} (hb : s.length ≤ 800000) {d : Option Nat} {st : ASt} : callV G cl d (.fn (.func 44) [] []) [.str s] st = some (.val (.tup (splitO (splitS s))) st) :=
  callV_ret E44 (by decide) ext44 rfl rfl (split44 s hb) splitO_names
/-! The document's Split. -/
def st45 (s : List UInt8) (l : List (List UInt8)) (at_ : Nat) (mv : Bool) : ASt := ⟨[(0, .str s), (4, .own 5004), (5, .int .i64 at_)], [(5004, tRow l mv)]⟩
set_option maxHeartbeats 8000000 in
theorem rsplit_go (s : List UInt8) (hs : s.length ≤ 800000) (at_ : Nat) (hb : s[at_]? = some 4) (t q : List UInt8) (ht : textP (s.drop (at_ + 1)) = some (t, q)) (l : List (List UInt8)) (hl : l.length ≤ 1000000) (mv : Bool) :
    rX 45 (lc Try.f45 0) (codeX G cl lp 45 (lc Try.f45 0) (st45 s l at_ mv)) = some (.normal, st45 s (l ++ [t]) (s.length - q.length) true) := by
  have hlt := (List.getElem?_eq_some_iff.1 hb).1
  have hx := at_get hb
  have hw3 : IntKind.i64.wrap ((at_ : Int) + 1) = ((at_ + 1 : Nat) : Int) := by rw [i64_wrap (by omega) (by omega)]; omega
  have hL : l.length + 1 ≤ LIM := by unfold LIM; omega
  have htx := fun d st => rtext77_call (s := s) (by omega) (at_ := at_ + 1) (by omega) (d := d) (st := st)
  simp only [txtO, ht, Option.map_some, readO, okV, nds, Int.natCast_add, Int.natCast_one] at hw3 htx
  simp [lc, loopsOf, Try.f45, st45, tRow, Nd.v, hlt, hx, hw3, htx, hL, nds]
  done
set_option maxHeartbeats 8000000 in
theorem rsplit_end (s : List UInt8) (at_ : Nat) (ha : s.length ≤ at_) (l : List (List UInt8)) (mv : Bool) : rX 45 (lc Try.f45 0) (codeX G cl lp 45 (lc Try.f45 0) (st45 s l at_ mv)) = some (.exit 0, ⟨(st45 s l at_ mv).sl ++ [(10, .bool false)], (st45 s l at_ mv).hp⟩) := by
  have : ¬ at_ < s.length := by omega
  simp [lc, loopsOf, Try.f45, st45, tRow, this]
  done
set_option maxHeartbeats 8000000 in
theorem rsplit_odd (s : List UInt8) (hs : s.length ≤ 800000) (at_ : Nat) (b : UInt8) (hb : s[at_]? = some b) (h4 : b ≠ 4) (l : List (List UInt8)) (mv : Bool) :
    ∃ st, rX 45 (lc Try.f45 0) (codeX G cl lp 45 (lc Try.f45 0) (st45 s l at_ mv)) = some (.ret, st) ∧ st.slot 2 = .nils ∧ st.slot 3 = .int .i64 5 := by
  have hlt := (List.getElem?_eq_some_iff.1 hb).1
  have hx := at_get hb
  have hz : ¬ b.toNat = 4 := fun h => h4 (by rw [← UInt8.toNat_inj]; exact h)
  have hz' : ¬ (b.toNat : Int) = 4 := by omega
  have hw3 : IntKind.i64.wrap ((at_ : Int) + 1) = ((at_ + 1 : Nat) : Int) := by rw [i64_wrap (by omega) (by omega)]; omega
  have htx := fun d st => rtext77_call (s := s) (by omega) (at_ := at_ + 1) (by omega) (d := d) (st := st)
  simp only [Int.natCast_add, Int.natCast_one] at hw3 htx
  cases ht : txtO (s.drop (at_ + 1)) with
  | none =>
    simp only [ht, readO, badV] at htx
    refine ⟨?st, ?h1, ?h2⟩
    case h1 =>
      simp [lc, loopsOf, Try.f45, st45, tRow, hlt, hx, hw3, htx, hz, hz']
      rfl
    case h2 => exact ⟨rfl, rfl⟩
  | some p =>
    simp only [ht, readO, okV, nds] at htx
    refine ⟨?st', ?h3, ?h4⟩
    case h3 =>
      simp [lc, loopsOf, Try.f45, st45, tRow, hlt, hx, hw3, htx, hz, hz']
      rfl
    case h4 => exact ⟨rfl, rfl⟩
set_option maxHeartbeats 8000000 in
theorem rsplit_bad (s : List UInt8) (hs : s.length ≤ 800000) (at_ : Nat) (hb : s[at_]? = some 4) (ht : textP (s.drop (at_ + 1)) = none) (l : List (List UInt8)) (mv : Bool) :
    ∃ st, rX 45 (lc Try.f45 0) (codeX G cl lp 45 (lc Try.f45 0) (st45 s l at_ mv)) = some (.ret, st) ∧ st.slot 2 = .nils ∧ st.slot 3 = .int .i64 5 := by
  have hlt := (List.getElem?_eq_some_iff.1 hb).1
  have hx := at_get hb
  have hw3 : IntKind.i64.wrap ((at_ : Int) + 1) = ((at_ + 1 : Nat) : Int) := by rw [i64_wrap (by omega) (by omega)]; omega
  have htx := fun d st => rtext77_call (s := s) (by omega) (at_ := at_ + 1) (by omega) (d := d) (st := st)
  simp only [txtO, ht, Option.map_none, readO, badV, Int.natCast_add, Int.natCast_one] at hw3 htx
  refine ⟨?st, ?h1, ?h2⟩
  case h1 =>
    simp [lc, loopsOf, Try.f45, st45, tRow, hlt, hx, hw3, htx]
    rfl
  case h2 => exact ⟨rfl, rfl⟩
theorem loop45 (s : List UInt8) (hs : s.length ≤ 800000) : ∀ (f at_ : Nat) (l : List (List UInt8)) (mv : Bool), s.length < at_ + f → at_ ≤ s.length → l.length ≤ at_ →
    match splitA f l (s.drop at_) with
    | some l' => ∃ a mv', lp 45 (lc Try.f45 0) (st45 s l at_ mv) = some (.exit 0, ⟨(st45 s l' a mv').sl ++ [(10, .bool false)], (st45 s l' a mv').hp⟩)
    | none => ∃ st, lp 45 (lc Try.f45 0) (st45 s l at_ mv) = some (.ret, st) ∧ st.slot 2 = .nils ∧ st.slot 3 = .int .i64 5 := by
  intro f
  induction f with
  | zero => intro at_ l mv h1 h2; omega
  | succ f ih =>
    intro at_ l mv h1 h2 h3
    match hd : s.drop at_ with
    | [] =>
      have := congrArg List.length hd
      simp at this
      exact ⟨at_, mv, loop_out (rsplit_end s at_ (by omega) l mv) (by simp)⟩
    | b :: r =>
      obtain ⟨g1, g2, g3, g4⟩ := drop_one hd
      simp only [splitA]
      by_cases h4 : b = 4
      · subst h4
        rw [if_pos rfl]
        cases ht : textP r with
        | none =>
          obtain ⟨st, e1, e2⟩ := rsplit_bad s hs at_ g1 (by rw [g2]; exact ht) l mv
          exact ⟨st, loop_out e1 (by simp), e2⟩
        | some p =>
          obtain ⟨t, q⟩ := p
          have htl := textP_len ht
          have hsq : s.drop (s.length - q.length) = q := by
            obtain ⟨p, hp⟩ := textP_suffix ht
            refine drop_suffix ⟨s.take (at_ + 1) ++ p, ?_⟩
            rw [List.append_assoc, ← hp, ← g2, List.take_append_drop]
          have e := rsplit_go s hs at_ g1 t q (by rw [g2]; exact ht) l (by omega) mv
          have := ih (s.length - q.length) (l ++ [t]) true (by omega) (by omega) (by simp; omega)
          rw [hsq] at this
          simp only [Option.bind_some]
          cases hsp : splitA f (l ++ [t]) q with
          | none => rw [hsp] at this; obtain ⟨st, e1, e2⟩ := this; exact ⟨st, loop_next e e1, e2⟩
          | some l' => rw [hsp] at this; obtain ⟨a, mv', e1⟩ := this; exact ⟨a, mv', loop_next e e1⟩
      · rw [if_neg h4]
        obtain ⟨st, e1, e2⟩ := rsplit_odd s hs at_ b g1 h4 l mv
        exact ⟨st, loop_out e1 (by simp), e2⟩
set_option maxHeartbeats 8000000 in
theorem rsplit45 (s : List UInt8) (hs : s.length ≤ 800000) : cl 45 [.str s] [] = some (.ret (.tup (splitO (splitS s))), []) := by
  have h := loop45 s hs (s.length + 1) 0 [] false (by omega) (by omega) (by simp)
  rw [List.drop_zero] at h
  refine fn_intro Try.func45 rfl (by simp) (by decide) rfl ?_
  unfold splitS
  cases hsp : splitA (s.length + 1) [] s with
  | none =>
    rw [hsp] at h
    obtain ⟨st, e1, e2, e3⟩ := h
    simp [st45, tRow, strsL, lc, loopsOf, Try.f45] at e1
    simp [Try.f45, e1]
    exact end_is (vs := [.nils, .int .i64 5]) (.inr rfl) (by simp [e2, e3]) rfl rfl
  | some l =>
    rw [hsp] at h
    obtain ⟨a, mv, e1⟩ := h
    simp [st45, tRow, strsL, lc, loopsOf, Try.f45] at e1
    simp [Try.f45, e1]
    exact end_rv (.inr rfl) (by simp; rfl) rfl (by simp [splitO, strsL]) rfl
theorem rsplit_call {s : List UInt8} (hb : s.length ≤ 800000) {d : Option Nat} {st : ASt} : callV G cl d (.fn (.func 45) [] []) [.str s] st = some (.val (.tup (splitO (splitS s))) st) :=
  callV_ret E45 (by decide) ext45 rfl rfl (rsplit45 s hb) splitO_names
end Go.Proofs.Ytonaejfpiihfhaa

/- What the functions come to: CodeGets. -/
namespace Go.Proofs.Ytonaejfpiihfhaa
open Go Abs
set_option linter.unusedSimpArgs false
set_option linter.unusedVariables false
theorem same18_l {l : List Nd} (hb : l.length ≤ 9223372036854775806) {d : Option Nat} {st : ASt} : callV G cl d (.fn (.func 18) [] []) [nds l, nds l] st = some (.val (.bool true) st) :=
  callV_ret (v := .bool true) E18 (by decide) ext18 rfl rfl (by have := same18_eq l l hb; rw [decide_eq_true rfl] at this; exact this) rfl
theorem same18_n {d : Option Nat} {st : ASt} : callV G cl d (.fn (.func 18) [] []) [.nils, .nils] st = some (.val (.bool true) st) := callV_ret E18 (by decide) ext18 rfl rfl same18_nils rfl
theorem texts27_l {l : List (List UInt8)} (hb : l.length ≤ 9223372036854775806) {d : Option Nat} {st : ASt} : callV G cl d (.fn (.func 27) [] []) [.list 1 (strsL l), .list 1 (strsL l)] st = some (.val (.bool true) st) :=
  callV_ret (v := .bool true) E27 (by decide) ext27 rfl rfl (texts_eq l hb) rfl
theorem texts27_n {d : Option Nat} {st : ASt} : callV G cl d (.fn (.func 27) [] []) [.nils, .nils] st = some (.val (.bool true) st) :=
  callV_ret (v := .bool true) E27 (by decide) ext27 rfl rfl (texts_nil (.inl rfl) (.inl rfl)) rfl
theorem splitA_len : ∀ {f : Nat} {l l' : List (List UInt8)} {s : List UInt8}, splitA f l s = some l' → l'.length ≤ l.length + s.length := by
  intro f
  induction f with
  | zero => intro l l' s h; cases h
  | succ f ih =>
    intro l l' s h
    cases s with
    | nil => cases h; omega
    | cons b r =>
      simp only [splitA] at h
      split at h
      · rw [Option.bind_eq_some_iff] at h
        obtain ⟨p, hp, h⟩ := h
        have h1 := textP_len hp
        have h2 := ih h
        simp at h2 ⊢; omega
      · cases h
theorem getS_len {s : List UInt8} {l : List Nd} (h : getS s = some l) : l.length ≤ s.length := by
  unfold getS at h
  split at h
  · rename_i p hp
    split at h
    · cases h; have := valP_len hp; omega
    · cases h
  · cases h
set_option maxHeartbeats 16000000 in
theorem codeGets_eq (s : List UInt8) : cl 9 [.str s] [] = some (.ret (.bool true), []) := by
  have h35 := fun d st => works12_call (d := d) (st := st)
  refine fn_intro Try.func9 rfl (by simp) (by decide) rfl ?_
  by_cases hl : (400 : Int) < s.length
  · have hl' : 400 < s.length := by omega
    simp [Try.f9, h35, hl, hl']
    exact end_is (.inr rfl) (by simp; rfl) rfl rfl
  have hl' : ¬ 400 < s.length := by omega
  have h40 := fun d st => get_call (s := s) (by omega) (d := d) (st := st)
  have h41 := fun d st => rget_call (s := s) (by omega) (d := d) (st := st)
  have h42 := fun d st => first_call (s := s) (by omega) (d := d) (st := st)
  have h43 := fun d st => rfirst_call (s := s) (by omega) (d := d) (st := st)
  have h44 := fun d st => split_call (s := s) (by omega) (d := d) (st := st)
  have h45 := fun d st => rsplit_call (s := s) (by omega) (d := d) (st := st)
  obtain ⟨x, y, z, hf⟩ : ∃ x y z, firstO s = [.str x, .str y, .int .i64 z] := by unfold firstO; split <;> exact ⟨_, _, _, rfl⟩
  rw [hf] at h42 h43
  have h18n := fun d st => same18_n (d := d) (st := st)
  have h27n := fun d st => texts27_n (d := d) (st := st)
  cases hg : getS s with
  | none =>
    rw [hg] at h40 h41
    simp only [getO] at h40 h41
    cases hs : splitS s with
    | none =>
      rw [hs] at h44 h45
      simp only [splitO] at h44 h45
      simp [Try.f9, h35, hl, hl', h40, h41, h42, h43, h44, h45, h18n, h27n]
      exact end_is (.inr rfl) (by simp; rfl) rfl rfl
    | some t =>
      rw [hs] at h44 h45
      have := splitA_len hs
      have h27 := fun d st => texts27_l (l := t) (by simp at this; omega) (d := d) (st := st)
      simp only [splitO] at h44 h45
      simp [Try.f9, h35, hl, hl', h40, h41, h42, h43, h44, h45, h18n, h27]
      exact end_is (.inr rfl) (by simp; rfl) rfl rfl
  | some l =>
    rw [hg] at h40 h41
    have := getS_len hg
    have h18 := fun d st => same18_l (l := l) (by omega) (d := d) (st := st)
    simp only [getO, nds] at h40 h41 h18
    cases hs : splitS s with
    | none =>
      rw [hs] at h44 h45
      simp only [splitO] at h44 h45
      simp [Try.f9, h35, hl, hl', h40, h41, h42, h43, h44, h45, h18, h27n]
      exact end_is (.inr rfl) (by simp; rfl) rfl rfl
    | some t =>
      rw [hs] at h44 h45
      have := splitA_len hs
      have h27 := fun d st => texts27_l (l := t) (by simp at this; omega) (d := d) (st := st)
      simp only [splitO] at h44 h45
      simp [Try.f9, h35, hl, hl', h40, h41, h42, h43, h44, h45, h18, h27]
      exact end_is (.inr rfl) (by simp; rfl) rfl rfl
end Go.Proofs.Ytonaejfpiihfhaa
