/- What the law CodeBack comes to. What the law CodeBack comes to. -/
import Derived.Test.YtonaejfpiihfhaaPkU
import Derived.Test.YtonaejfpiihfhaaPkT
import Derived.Test.YtonaejfpiihfhaaPkG

/- What the law CodeBack comes to. -/
namespace Go.Proofs.Ytonaejfpiihfhaa
open Go Abs
set_option linter.unusedSimpArgs false
set_option linter.unusedVariables false
attribute [local simp] canonK canonAll canonSlot canonCell canonBox ownStep restrictTo pureCells pureRows reachL AObj.names List.range_succ appendA
def stBk (l : List Nd) (s : List UInt8) (t : List (List UInt8)) (i : Nat) : ASt := ⟨[(0, nds l), (1, .str s), (2, .list 1 (strsL t)), (7, .bool true), (9, .int .i64 i)], []⟩
set_option maxHeartbeats 8000000 in
theorem back_loop (l : List Nd) (s : List UInt8) (t : List (List UInt8)) (ht : t.length ≤ 20) : ∃ x st, lp 10 (lc Try.f10 0) (stBk l s t 0) = some (x, st) ∧ ((x = .ret ∧ st = ⟨[(6, .bool true)], []⟩) ∨ (x = .exit 0 ∧ (∃ sl, st = ⟨(0, nds l) :: (1, .str s) :: (2, .list 1 (strsL t)) :: (7, .bool true) :: sl, []⟩) ∧ ∀ u ∈ t, u.length ≤ 400)) := by
  have := for_loop (f := 10) (c := lc Try.f10 0) (n := t.length) (σ := fun i => stBk l s t i) (P := fun i => ∀ u ∈ t.take i, u.length ≤ 400)
    (Q := fun x st => (x = .ret ∧ st = ⟨[(6, .bool true)], []⟩) ∨ (x = .exit 0 ∧ (∃ sl, st = ⟨(0, nds l) :: (1, .str s) :: (2, .list 1 (strsL t)) :: (7, .bool true) :: sl, []⟩) ∧ ∀ u ∈ t, u.length ≤ 400))
    (fun i hi hp => ?_) (fun hp => ?_) 0 (by omega) (by simp)
  · simpa using this
  · have hq : t[i]? = some t[i] := List.getElem?_eq_getElem hi
    have hw1 : IntKind.i64.wrap ((i : Int) + 1) = ((i + 1 : Nat) : Int) := by rw [i64_wrap (by omega) (by omega)]; omega
    by_cases h : 400 < t[i].length
    · right
      refine ⟨.ret, ⟨[(6, .bool true)], []⟩, ?_, by simp, .inl ⟨rfl, rfl⟩⟩
      have h' : (400 : Int) < (t[i].length : Int) := by omega
      simp [lc, loopsOf, Try.f10, stBk, hi, h']
    · left
      refine ⟨?_, fun u hu => ?_⟩
      · have h' : ¬ (400 : Int) < (t[i].length : Int) := by omega
        simp [lc, loopsOf, Try.f10, stBk, hi, h', hw1]
      · rw [List.take_add_one, hq] at hu
        rcases List.mem_append.1 hu with hu | hu
        · exact hp u hu
        · obtain rfl : u = t[i] := by simpa using hu
          omega
  · rw [List.take_of_length_le (Nat.le_refl _)] at hp
    refine ⟨.exit 0, ⟨(0, nds l) :: (1, .str s) :: (2, .list 1 (strsL t)) :: (7, .bool true) :: [(9, .int .i64 t.length), (44, .bool false)], []⟩, ?_, by simp, .inr ⟨rfl, ⟨_, rfl⟩, hp⟩⟩
    simp [lc, loopsOf, Try.f10, stBk]
    done
theorem getS_nil : getS [] = none := by simp [getS, valP]
theorem getS_len' {s : List UInt8} (hb : s.length ≤ 800000) {n : List Nd} (h : getS s = some n) : n.length ≤ 120 := (checkS_ok (get_back hb h).1).1
/-- What of code is left when some of it has been walked. -/
def tl : Nat → Code → Code
  | 0, c => c
  | n + 1, .seq _ b => tl n b
  | _ + 1, c => c
/-- The same, behind other code. -/
def graft : Nat → Code → Code → Code
  | 0, _, T => T
  | n + 1, .seq a b, T => .seq a (graft n b T)
  | _ + 1, c, _ => c
theorem graft_tl : ∀ (n : Nat) (c : Code), graft n c (tl n c) = c
  | 0, c => rfl
  | n + 1, c => by
    cases c with
    | seq a b => simp only [graft, tl, graft_tl n b]
    | _ => rfl
noncomputable def body10 : Code := Try.f10.body.getD .skip
def rv10 : List ResultVar := [.tmp 6]
set_option maxHeartbeats 8000000 in
theorem back3_00 (s : List UInt8) (hs : ¬ 400 < s.length) (hk : splitS s = none) (hg : getS s = none) : endX G 10 [] [ResultVar.tmp 6] (codeX G cl lp 10 (tl 12 body10) ⟨[(1, .str s), (7, .bool true), (98, .bool false)], []⟩) = some (.ret (.bool true), []) := by
  have h40 := fun d st => get_call (s := s) (by omega) (d := d) (st := st)
  have k44 := fun d st => split_call (s := s) (by omega) (d := d) (st := st)
  rw [hk] at k44
  rw [hg] at h40
  simp only [splitO] at k44
  simp only [getO] at h40
  simp [body10, tl, Try.f10, nds, h40, k44]
  exact end_is (.inr rfl) (by first | rfl | (simp; rfl)) rfl rfl
set_option maxHeartbeats 8000000 in
theorem back3_01 (s : List UInt8) (hs : ¬ 400 < s.length) (hk : splitS s = none) {n : List Nd} (hg : getS s = some n) : endX G 10 [] [ResultVar.tmp 6] (codeX G cl lp 10 (tl 12 body10) ⟨[(1, .str s), (7, .bool true), (98, .bool false)], []⟩) = some (.ret (.bool true), []) := by
  have h40 := fun d st => get_call (s := s) (by omega) (d := d) (st := st)
  have k44 := fun d st => split_call (s := s) (by omega) (d := d) (st := st)
  rw [hk] at k44
  rw [hg] at h40
  simp only [splitO] at k44
  obtain ⟨c1, c2, c3⟩ := get_back (by omega) hg
  have ln := (checkS_ok c1).1
  have p36 := fun d st => put_call (l := n) (by omega) c2 (d := d) (st := st)
  unfold putV at p36
  rw [if_pos c1, c3] at p36
  simp only [getO, nds] at h40 p36
  simp [body10, tl, Try.f10, nds, h40, k44, p36]
  exact end_is (.inr rfl) (by first | rfl | (simp; rfl)) rfl rfl
set_option maxHeartbeats 8000000 in
theorem back3_10 (s : List UInt8) (hs : ¬ 400 < s.length) {k : List (List UInt8)} (hk : splitS s = some k) (hg : getS s = none) : endX G 10 [] [ResultVar.tmp 6] (codeX G cl lp 10 (tl 12 body10) ⟨[(1, .str s), (7, .bool true), (98, .bool false)], []⟩) = some (.ret (.bool true), []) := by
  have h40 := fun d st => get_call (s := s) (by omega) (d := d) (st := st)
  have k44 := fun d st => split_call (s := s) (by omega) (d := d) (st := st)
  rw [hk] at k44
  rw [hg] at h40
  simp only [splitO] at k44
  have hkj := join_split hk
  have hkc := join_count k
  rw [hkj] at hkc
  have q39 := fun d st => join_call (t := k) (by omega) (fun u hu => by have := join_parts hu; rw [hkj] at this; omega) (by rw [hkj]; omega) (d := d) (st := st)
  rw [hkj] at q39
  simp only [getO] at h40
  simp [body10, tl, Try.f10, nds, h40, k44, q39]
  exact end_is (.inr rfl) (by first | rfl | (simp; rfl)) rfl rfl
set_option maxHeartbeats 8000000 in
theorem back3_11 (s : List UInt8) (hs : ¬ 400 < s.length) {k : List (List UInt8)} (hk : splitS s = some k) {n : List Nd} (hg : getS s = some n) : endX G 10 [] [ResultVar.tmp 6] (codeX G cl lp 10 (tl 12 body10) ⟨[(1, .str s), (7, .bool true), (98, .bool false)], []⟩) = some (.ret (.bool true), []) := by
  have h40 := fun d st => get_call (s := s) (by omega) (d := d) (st := st)
  have k44 := fun d st => split_call (s := s) (by omega) (d := d) (st := st)
  rw [hk] at k44
  rw [hg] at h40
  simp only [splitO] at k44
  have hkj := join_split hk
  have hkc := join_count k
  rw [hkj] at hkc
  have q39 := fun d st => join_call (t := k) (by omega) (fun u hu => by have := join_parts hu; rw [hkj] at this; omega) (by rw [hkj]; omega) (d := d) (st := st)
  rw [hkj] at q39
  obtain ⟨c1, c2, c3⟩ := get_back (by omega) hg
  have ln := (checkS_ok c1).1
  have p36 := fun d st => put_call (l := n) (by omega) c2 (d := d) (st := st)
  unfold putV at p36
  rw [if_pos c1, c3] at p36
  simp only [getO, nds] at h40 p36
  simp [body10, tl, Try.f10, nds, h40, k44, q39, p36]
  exact end_is (.inr rfl) (by first | rfl | (simp; rfl)) rfl rfl
theorem back3 (s : List UInt8) (hs : ¬ 400 < s.length) : endX G 10 [] [ResultVar.tmp 6] (codeX G cl lp 10 (tl 12 body10) ⟨[(1, .str s), (7, .bool true), (98, .bool false)], []⟩) = some (.ret (.bool true), []) := by
  cases hk : splitS s with
  | none => cases hg : getS s with
    | none => exact back3_00 s hs hk hg
    | some n => exact back3_01 s hs hk hg
  | some k => cases hg : getS s with
    | none => exact back3_10 s hs hk hg
    | some n => exact back3_11 s hs hk hg
set_option maxHeartbeats 8000000 in
theorem back2 (s : List UInt8) (hs : ¬ 400 < s.length) (t : List (List UInt8)) (ht : ¬ 20 < t.length) (htl : ∀ u ∈ t, u.length ≤ 400) : endX G 10 [] [ResultVar.tmp 6] (codeX G cl lp 10 (graft 3 (tl 9 body10) (tl 12 body10)) ⟨[(1, .str s), (2, .list 1 (strsL t)), (7, .bool true), (83, .bool false)], []⟩) = some (.ret (.bool true), []) := by
  have h3 := back3 s hs
  generalize tl 12 body10 = T at h3 ⊢
  have hj := joinB_len htl
  have hj2 : t.length * (2 * 400 + 3) ≤ 20 * (2 * 400 + 3) := Nat.mul_le_mul_right _ (by omega)
  have h39 := fun d st => join_call (t := t) (by omega) (fun u hu => by have := htl u hu; omega) (by omega) (d := d) (st := st)
  have h44 := fun d st => split_call (s := joinB t) (by omega) (d := d) (st := st)
  rw [split_join] at h44
  have h27 := fun d st => texts27_l (l := t) (by omega) (d := d) (st := st)
  simp only [splitO] at h44
  simp [body10, tl, graft, Try.f10, h39, h44, h27]
  exact h3
end Go.Proofs.Ytonaejfpiihfhaa

/- What the law CodeBack comes to. -/
namespace Go.Proofs.Ytonaejfpiihfhaa
open Go Abs
set_option linter.unusedSimpArgs false
set_option linter.unusedVariables false
attribute [local simp] canonK canonAll canonSlot canonCell canonBox ownStep restrictTo pureCells pureRows reachL AObj.names List.range_succ appendA
set_option maxHeartbeats 8000000 in
theorem mid_0 (l : List Nd) (hr : ∀ n ∈ l, n.inR) (s : List UInt8) (t : List (List UInt8)) (hf : fewS l = true) (hs : ¬ 400 < s.length) (ht : ¬ 20 < t.length) {sl : Slots} (htl : ∀ u ∈ t, u.length ≤ 400) (hc : checkS l = 0) :
    endX G 10 [] [ResultVar.tmp 6] (codeX G cl lp 10 (graft 3 (tl 6 body10) (tl 9 body10)) ⟨(0, nds l) :: (1, .str s) :: (2, .list 1 (strsL t)) :: (7, .bool true) :: sl, []⟩) = some (.ret (.bool true), []) := by
  have h2 := back2 s hs t ht htl
  rw [show graft 3 (tl 9 body10) (tl 12 body10) = tl 9 body10 from graft_tl 3 (tl 9 body10)] at h2
  generalize tl 9 body10 = T at h2 ⊢
  have la := fewS_len hf
  have h36 := fun d st => put_call (l := l) (by omega) hr (d := d) (st := st)
  unfold putV at h36
  simp only [nds] at h36
  have sb := putB_small hc
  have k40 := fun d st => get_call (s := putB l) (by omega) (d := d) (st := st)
  rw [get_put hr hc] at k40
  have h21 := fun d st => tsame_call (a := l) (b := l) (by omega) (d := d) (st := st)
  rw [decide_eq_true rfl] at h21
  simp only [getO, nds] at k40 h21
  rw [if_pos hc] at h36
  simp [body10, tl, graft, Try.f10, nds, h36, k40, h21]
  exact h2
set_option maxHeartbeats 8000000 in
theorem mid_1 (l : List Nd) (hr : ∀ n ∈ l, n.inR) (s : List UInt8) (t : List (List UInt8)) (hf : fewS l = true) (hs : ¬ 400 < s.length) (ht : ¬ 20 < t.length) {sl : Slots} (htl : ∀ u ∈ t, u.length ≤ 400) (hc : ¬ checkS l = 0) :
    endX G 10 [] [ResultVar.tmp 6] (codeX G cl lp 10 (graft 3 (tl 6 body10) (tl 9 body10)) ⟨(0, nds l) :: (1, .str s) :: (2, .list 1 (strsL t)) :: (7, .bool true) :: sl, []⟩) = some (.ret (.bool true), []) := by
  have h2 := back2 s hs t ht htl
  rw [show graft 3 (tl 9 body10) (tl 12 body10) = tl 9 body10 from graft_tl 3 (tl 9 body10)] at h2
  generalize tl 9 body10 = T at h2 ⊢
  have la := fewS_len hf
  have h36 := fun d st => put_call (l := l) (by omega) hr (d := d) (st := st)
  unfold putV at h36
  simp only [nds] at h36
  have k40 := fun d st => get_call (s := []) (by simp) (d := d) (st := st)
  rw [getS_nil] at k40
  simp only [getO] at k40
  rw [if_neg hc] at h36
  simp [body10, tl, graft, Try.f10, nds, h36, k40, hc]
  exact h2
set_option maxHeartbeats 8000000 in
theorem head10 (l : List Nd) (s : List UInt8) (t : List (List UInt8)) (T : Code) (hT : fewS l = true → ¬ 400 < s.length → ¬ 20 < t.length → (∀ u ∈ t, u.length ≤ 400) → ∀ sl, endX G 10 [] [ResultVar.tmp 6] (codeX G cl lp 10 T ⟨(0, nds l) :: (1, .str s) :: (2, .list 1 (strsL t)) :: (7, .bool true) :: sl, []⟩) = some (.ret (.bool true), [])) : endX G 10 [] [ResultVar.tmp 6] (codeX G cl lp 10 (graft 6 body10 T) { sl := zipIx [nds l, .str s, .list 1 (strsL t)] 0, hp := [] }) = some (.ret (.bool true), []) := by
  have h35 := fun d st => works12_call (d := d) (st := st)
  have h15 := fun d st => few_call (l := l) (d := d) (st := st)
  simp only [nds] at h15
  cases hf : fewS l with
  | false =>
    rw [hf] at h15
    simp [body10, graft, Try.f10, nds, h35, h15]
    exact end_is (.inr rfl) (by first | rfl | (simp; rfl)) rfl rfl
  | true =>
    rw [hf] at h15
    by_cases hs : 400 < s.length
    · have hs' : (400 : Int) < (s.length : Int) := by omega
      simp [body10, graft, Try.f10, nds, h35, h15, hs']
      exact end_is (.inr rfl) (by first | rfl | (simp; rfl)) rfl rfl
    have hs' : ¬ (400 : Int) < (s.length : Int) := by omega
    by_cases ht : 20 < t.length
    · have ht' : (20 : Int) < (t.length : Int) := by omega
      simp [body10, graft, Try.f10, nds, h35, h15, hs', ht']
      exact end_is (.inr rfl) (by first | rfl | (simp; rfl)) rfl rfl
    have ht' : ¬ (20 : Int) < (t.length : Int) := by omega
    obtain ⟨x, st, hlp, hx⟩ := back_loop l s t (by omega)
    rcases hx with ⟨rfl, rfl⟩ | ⟨rfl, ⟨sl, rfl⟩, htl⟩
    · simp [stBk, lc, loopsOf, Try.f10, nds] at hlp
      simp [body10, graft, Try.f10, nds, h35, h15, hs', ht', hlp]
      exact end_is (.inr rfl) (by first | rfl | (simp; rfl)) rfl rfl
    · have h2 := hT hf hs ht htl sl
      simp [stBk, lc, loopsOf, Try.f10, nds] at hlp
      simp [body10, graft, Try.f10, nds, h35, h15, hs', ht', hlp]
      exact h2
theorem codeBack_eq (l : List Nd) (hr : ∀ n ∈ l, n.inR) (s : List UInt8) (t : List (List UInt8)) : cl 10 [nds l, .str s, .list 1 (strsL t)] [] = some (.ret (.bool true), []) := by
  refine fn_intro (c := graft 6 body10 (tl 6 body10)) Try.func10 (by rw [graft_tl]; rfl) (by simp) (by decide) rfl ?_
  refine head10 l s t (tl 6 body10) fun hf hs ht htl sl => ?_
  rw [← show graft 3 (tl 6 body10) (tl 9 body10) = tl 6 body10 from graft_tl 3 (tl 6 body10)]
  by_cases hc : checkS l = 0
  · exact mid_0 l hr s t hf hs ht htl hc
  · exact mid_1 l hr s t hf hs ht htl hc
end Go.Proofs.Ytonaejfpiihfhaa
