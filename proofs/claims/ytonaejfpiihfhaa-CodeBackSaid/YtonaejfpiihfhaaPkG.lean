/- Values within values: where one is, the same nodes elsewhere are one, too; no program is looked at here. What the functions come to: tree.there, tree.Sub, tree.Kids, and the document's. What the functions come to: a map's keys, gone through by a function: tree.members, tree.Keys. What the functions come to: tree.Keys. What TreeCovers comes to. -/
import Derived.Test.YtonaejfpiihfhaaPkF

/- Values within values: where one is, the same nodes elsewhere are one, too; no program is looked at here. -/
namespace Go.Proofs.Ytonaejfpiihfhaa
open Go Abs
set_option linter.unusedSimpArgs false
set_option linter.unusedVariables false

theorem kidsS_mono {val val' : Nat → Option Span} {l : List Nd} {b : Bool} (h : ∀ st s, val st = some s → val' st = some s) : ∀ {c i s last r}, kidsS val l b c i s last = some r → kidsS val' l b c i s last = some r := by
  intro c
  induction c with
  | zero => intro i s last r hr; exact hr
  | succ c ih =>
    intro i s last r hr
    simp only [kidsS] at hr ⊢
    rw [Option.bind_eq_some_iff] at hr; obtain ⟨p, hp, hr⟩ := hr
    rw [Option.bind_eq_some_iff] at hr; obtain ⟨kid, hk, hr⟩ := hr
    rw [hp, Option.bind_some, h _ _ hk, Option.bind_some]
    exact ih hr
theorem valS_succ {l : List Nd} : ∀ {k a s}, valS l k a = some s → valS l (k + 1) a = some s := by
  intro k
  induction k with
  | zero => intro a s h; cases h
  | succ k ih =>
    intro a s h
    rw [valS] at h ⊢
    rw [Option.bind_eq_some_iff] at h; obtain ⟨n, hn, h⟩ := h
    rw [hn, Option.bind_some]
    split at h
    · rename_i hf
      rw [if_pos hf]
      obtain ⟨r, hr, rfl⟩ := Option.map_eq_some_iff.1 h
      rw [kidsS_mono (fun st s => ih) hr]; rfl
    · cases h
theorem valS_mono {l : List Nd} {k k' a : Nat} {s : Span} (h : valS l k a = some s) (hk : k ≤ k') : valS l k' a = some s := by
  induction hk with
  | refl => exact h
  | step _ ih => exact valS_succ ih

/-- The kids that come are put behind those that were. -/
theorem kidsS_pre {val : Nat → Option Span} {l : List Nd} {b : Bool} : ∀ {c i s last r}, kidsS val l b c i s last = some r → ∃ t, r.kids = s.kids ++ t ∧ t.length = c := by
  intro c
  induction c with
  | zero => intro i s last r hr; cases hr; exact ⟨[], by simp⟩
  | succ c ih =>
    intro i s last r hr
    simp only [kidsS] at hr
    rw [Option.bind_eq_some_iff] at hr; obtain ⟨p, hp, hr⟩ := hr
    rw [Option.bind_eq_some_iff] at hr; obtain ⟨kid, hk, hr⟩ := hr
    obtain ⟨t, h1, h2⟩ := ih hr
    exact ⟨p.1 :: t, by rw [h1]; simp, by simp [h2]⟩

/-- Elsewhere: what began at a begins at b. -/
def Span.at_ (a b : Nat) (s : Span) : Span := ⟨b + (s.stop - a), s.deep, s.kids.map fun x => b + (x - a)⟩

theorem keyS_moved {l l' : List Nd} {a b n : Nat} (h : ∀ i, i < n → l'[b + i]? = l[a + i]?) {m : Bool} {i stop : Nat} {last : List UInt8} {p : Nat × List UInt8} (hp : keyS l m i stop last = some p) (ha : a ≤ stop) (hn : p.1 ≤ a + n) :
    keyS l' m i (b + (stop - a)) last = some (b + (p.1 - a), p.2) := by
  unfold keyS at hp ⊢
  cases m with
  | false => simp only [Bool.false_eq_true, if_false] at hp ⊢; cases hp; rfl
  | true =>
    simp only [if_true] at hp ⊢
    split at hp
    · rename_i k hk
      split at hp
      · rename_i hc
        cases hp
        simp only at hn
        have := h (stop - a) (by omega)
        rw [this, show a + (stop - a) = stop by omega, hk]
        simp only
        rw [if_pos hc, show b + (stop - a) + 1 = b + (stop + 1 - a) by omega]
      · cases hp
    · cases hp
theorem kidsS_moved {val val' : Nat → Option Span} {l l' : List Nd} {a b n : Nat} (h : ∀ i, i < n → l'[b + i]? = l[a + i]?) (hsp : ∀ st s, val st = some s → st < s.stop)
    (hv : ∀ st s, a ≤ st → val st = some s → s.stop ≤ a + n → val' (b + (st - a)) = some (s.at_ st (b + (st - a)))) {m : Bool} : ∀ {c i s last r}, kidsS val l m c i s last = some r → a ≤ s.stop → r.stop ≤ a + n →
    s.stop ≤ r.stop ∧ kidsS val' l' m c i (s.at_ a b) last = some (r.at_ a b) := by
  intro c
  induction c with
  | zero => intro i s last r hr h1 h2; cases hr; exact ⟨Nat.le_refl _, rfl⟩
  | succ c ih =>
    intro i s last r hr h1 h2
    simp only [kidsS] at hr ⊢
    rw [Option.bind_eq_some_iff] at hr; obtain ⟨p, hp, hr⟩ := hr
    rw [Option.bind_eq_some_iff] at hr; obtain ⟨kid, hk, hr⟩ := hr
    have hge := keyS_ge hp
    have hlt := hsp _ _ hk
    obtain ⟨h3, h4⟩ := ih hr (by simp only; omega) h2
    simp only at h3
    refine ⟨by omega, ?_⟩
    have hky := keyS_moved h hp h1 (by omega)
    have hkid := hv p.1 kid (by omega) hk (by omega)
    simp only [Span.at_] at hky hkid h4 ⊢
    rw [hky, Option.bind_some]
    simp only
    rw [hkid, Option.bind_some]
    simp only
    rw [← h4]
    simp only [List.map_append, List.map_cons, List.map_nil]
    rw [show b + (p.1 - a) + (kid.stop - p.1) = b + (kid.stop - a) by omega]
/-- THE SAME NODES ELSEWHERE are the same value. -/
theorem valS_moved {l l' : List Nd} : ∀ {k a b n s}, (∀ i, i < n → l'[b + i]? = l[a + i]?) → valS l k a = some s → s.stop ≤ a + n → valS l' k b = some (s.at_ a b) := by
  intro k
  induction k with
  | zero => intro a b n s h hs; cases hs
  | succ k ih =>
    intro a b n s h hs hn
    have hsp := (valS_spec hs).1
    rw [valS] at hs ⊢
    rw [Option.bind_eq_some_iff] at hs; obtain ⟨d, hd, hs⟩ := hs
    have h0 := h 0 (by omega)
    simp only [Nat.add_zero] at h0
    rw [h0, hd, Option.bind_some]
    split at hs
    · rename_i hf
      rw [if_pos hf]
      obtain ⟨r, hr, rfl⟩ := Option.map_eq_some_iff.1 hs
      simp only at hn hsp
      obtain ⟨_, h2⟩ := kidsS_moved (a := a) (b := b) (n := n) h (fun st s h => (valS_spec h).1) (fun st s' h1 h2 h3 => ih (n := a + n - st) (fun i hi => by
        have := h (st - a + i) (by omega)
        rw [show b + (st - a) + i = b + (st - a + i) by omega, this, show a + (st - a + i) = st + i by omega]) h2 (by omega)) hr (by simp only; omega) hn
      have e : (⟨a + 1, 0, []⟩ : Span).at_ a b = ⟨b + 1, 0, []⟩ := by simp [Span.at_]
      rw [e] at h2
      rw [h2]; rfl
    · cases hs

theorem kidsS_enough {val val' : Nat → Option Span} {l : List Nd} {b : Bool} {A : Nat} (hsp : ∀ st s, val st = some s → st < s.stop) (h : ∀ st s, A ≤ st → val st = some s → val' st = some s) : ∀ {c i s last r}, kidsS val l b c i s last = some r → A ≤ s.stop → kidsS val' l b c i s last = some r := by
  intro c
  induction c with
  | zero => intro i s last r hr _; exact hr
  | succ c ih =>
    intro i s last r hr hA
    simp only [kidsS] at hr ⊢
    rw [Option.bind_eq_some_iff] at hr; obtain ⟨p, hp, hr⟩ := hr
    rw [Option.bind_eq_some_iff] at hr; obtain ⟨kid, hk, hr⟩ := hr
    have := keyS_ge hp
    have := hsp _ _ hk
    rw [hp, Option.bind_some, h _ _ (by omega) hk, Option.bind_some]
    exact ih hr (by simp only; omega)
/-- As many rounds as there are nodes are enough. -/
theorem valS_enough {l : List Nd} : ∀ {k k' a s}, valS l k a = some s → l.length < a + k' → valS l k' a = some s := by
  intro k
  induction k with
  | zero => intro k' a s h; cases h
  | succ k ih =>
    intro k' a s h hk
    have hlt : a < l.length := by have := valS_spec h; omega
    obtain ⟨k', rfl⟩ : ∃ j, k' = j + 1 := ⟨k' - 1, by omega⟩
    rw [valS] at h ⊢
    rw [Option.bind_eq_some_iff] at h; obtain ⟨n, hn, h⟩ := h
    rw [hn, Option.bind_some]
    split at h
    · rename_i hf
      rw [if_pos hf]
      obtain ⟨r, hr, rfl⟩ := Option.map_eq_some_iff.1 h
      rw [kidsS_enough (A := a + 1) (fun st s hs => (valS_spec hs).1) (fun st s h1 h2 => ih h2 (by omega)) hr (by simp)]; rfl
    · cases h

/-- A text, alone, is a value. -/
theorem valS_leaf {l : List Nd} {a k : Nat} {n : Nd} (hn : l[a]? = some n) (hf : fitsS n = true) (hk : n.kind = 3) : valS l (k + 1) a = some ⟨a + 1, 1, []⟩ := by
  have h0 : n.kids = 0 := by
    unfold fitsS at hf
    simp only [hk] at hf
    simp at hf
    exact hf.2
  rw [valS, hn, Option.bind_some, if_pos hf, h0]
  rfl

theorem kidsS_inner {val : Nat → Option Span} {l : List Nd} {a : Nat} {m : Bool} (Q : Nat → Nat → Prop) (hsp : ∀ st s, val st = some s → st < s.stop)
    (hv : ∀ st s, val st = some s → st ≤ a → a < s.stop → Q s.stop s.deep) (hkey : ∀ n, l[a]? = some n → fitsS n = true → n.kind = 3 → Q (a + 1) 1) : ∀ {c i s last r}, kidsS val l m c i s last = some r → s.stop ≤ a → a < r.stop → ∃ x d, Q x d ∧ x ≤ r.stop ∧ d ≤ max 1 r.deep := by
  intro c
  induction c with
  | zero => intro i s last r hr h1 h2; cases hr; omega
  | succ c ih =>
    intro i s last r hr h1 h2
    simp only [kidsS] at hr
    rw [Option.bind_eq_some_iff] at hr; obtain ⟨p, hp, hr⟩ := hr
    rw [Option.bind_eq_some_iff] at hr; obtain ⟨kid, hk, hr⟩ := hr
    have hstop : ∀ {c i s last r}, kidsS val l m c i s last = some r → s.stop ≤ r.stop ∧ s.deep ≤ r.deep := by
      intro c
      induction c with
      | zero => intro i s last r hr; cases hr; exact ⟨Nat.le_refl _, Nat.le_refl _⟩
      | succ c ih =>
        intro i s last r hr
        simp only [kidsS] at hr
        rw [Option.bind_eq_some_iff] at hr; obtain ⟨p, hp, hr⟩ := hr
        rw [Option.bind_eq_some_iff] at hr; obtain ⟨kid, hk, hr⟩ := hr
        have := keyS_ge hp
        have := hsp _ _ hk
        have := ih hr
        simp only at this
        omega
    have hge := keyS_ge hp
    have hlt := hsp _ _ hk
    have hst := hstop hr
    simp only at hst
    by_cases h3 : kid.stop ≤ a
    · exact ih hr h3 h2
    · by_cases h4 : p.1 ≤ a
      · exact ⟨_, _, hv _ _ hk h4 (by omega), by omega, by omega⟩
      · -- a key
        have : m = true ∧ p.1 = s.stop + 1 ∧ ∃ n, l[s.stop]? = some n ∧ n.kind = 3 ∧ fitsS n = true := by
          unfold keyS at hp
          split at hp
          · rename_i hm
            split at hp
            · rename_i n hn
              split at hp
              · rename_i hc
                cases hp
                exact ⟨hm, rfl, n, hn, hc.1, hc.2.1⟩
              · cases hp
            · cases hp
          · cases hp; omega
        obtain ⟨_, h5, n, h6, h7, h8⟩ := this
        obtain rfl : s.stop = a := by omega
        exact ⟨_, _, hkey n h6 h8 h7, by omega, by omega⟩
/-- WITHIN A VALUE each node is the beginning of one. -/
theorem valS_inner {l : List Nd} {a : Nat} : ∀ {k b s}, valS l k b = some s → b ≤ a → a < s.stop → ∃ s', valS l k a = some s' ∧ s'.stop ≤ s.stop ∧ s'.deep ≤ s.deep := by
  intro k
  induction k with
  | zero => intro b s h; cases h
  | succ k ih =>
    intro b s h h1 h2
    by_cases hab : a = b
    · subst hab; exact ⟨s, h, Nat.le_refl _, Nat.le_refl _⟩
    · have h' := h
      rw [valS, Option.bind_eq_some_iff] at h'
      obtain ⟨n, hn, h'⟩ := h'
      split at h'
      · obtain ⟨r, hr, rfl⟩ := Option.map_eq_some_iff.1 h'
        simp only at h2 ⊢
        obtain ⟨x, d, ⟨s', hq, hx, hd⟩, h3, h4⟩ := kidsS_inner (a := a) (fun x d => ∃ s', valS l (k + 1) a = some s' ∧ s'.stop ≤ x ∧ s'.deep ≤ d) (fun st s hs => (valS_spec hs).1)
          (fun st s hs h5 h6 => by
            obtain ⟨s', h7, h8, h9⟩ := ih hs h5 h6
            exact ⟨s', valS_succ h7, h8, h9⟩)
          (fun n hn hf hk => ⟨_, valS_leaf hn hf hk, Nat.le_refl _, Nat.le_refl _⟩) hr (by simp only; omega) h2
        exact ⟨s', hq, by omega, by omega⟩
      · cases h'

/-- The nodes of a value that was gone through. -/
def cutS (l : List Nd) (a stop : Nat) : List Nd := (l.take stop).drop a
theorem cutS_length {l : List Nd} {a e : Nat} (h : e ≤ l.length) : (cutS l a e).length = e - a := by unfold cutS; simp; omega
theorem cutS_get {l : List Nd} {a e i : Nat} (h : i < e - a) : (cutS l a e)[0 + i]? = l[a + i]? := by
  unfold cutS
  rw [List.getElem?_drop, List.getElem?_take, if_pos (by omega), Nat.zero_add]
theorem cutS_mem {l : List Nd} {a e : Nat} {n : Nd} (h : n ∈ cutS l a e) : n ∈ l := List.mem_of_mem_take (List.mem_of_mem_drop h)
/-- A value, cut out, is one, as deep. -/
theorem cutS_whole {l : List Nd} {k a : Nat} {s : Span} (h : valS l k a = some s) : wholeS (cutS l a s.stop) = some (s.at_ a 0) := by
  obtain ⟨h1, h2, h3⟩ := valS_spec h
  have hl := cutS_length (l := l) (a := a) h2
  have hm := valS_moved (l' := cutS l a s.stop) (b := 0) (n := s.stop - a) (fun i hi => cutS_get hi) h (by omega)
  unfold wholeS
  -- enough rounds
  have : valS (cutS l a s.stop) ((cutS l a s.stop).length + 1) 0 = some (s.at_ a 0) := by
    exact valS_enough hm (by omega)
  rw [this, Option.bind_some, if_pos (by rw [hl]; simp [Span.at_])]
theorem cutS_check {l : List Nd} {k a : Nat} {s : Span} (h : valS l k a = some s) (hc : checkS l = 0) (hd : s.deep ≤ 32) : checkS (cutS l a s.stop) = 0 := by
  obtain ⟨h1, h2, _⟩ := checkS_ok hc
  obtain ⟨_, g2, _⟩ := valS_spec h
  unfold checkS
  rw [cutS_whole h, cutS_length g2]
  have hlg : longS (cutS l a s.stop) = false := by
    unfold longS at h2 ⊢
    rw [List.any_eq_false] at h2 ⊢
    exact fun n hn => h2 n (cutS_mem hn)
  rw [if_neg (by rw [hlg]; simp; omega)]
  exact if_neg (show ¬ 32 < (s.at_ a 0).deep from by simp only [Span.at_]; omega)
theorem checkS_inner {l : List Nd} (hc : checkS l = 0) {a : Nat} (ha : a < l.length) : ∃ s, valS l (l.length + 1) a = some s ∧ s.stop ≤ l.length ∧ s.deep ≤ 32 := by
  obtain ⟨h1, h2, s, h3, h4⟩ := checkS_ok hc
  obtain ⟨h5, h6⟩ := wholeS_some h3
  obtain ⟨s', h7, h8, h9⟩ := valS_inner h5 (Nat.zero_le a) (by omega)
  exact ⟨s', h7, by omega, by omega⟩
end Go.Proofs.Ytonaejfpiihfhaa

/- What the functions come to: tree.there, tree.Sub, tree.Kids, and the document's. -/
namespace Go.Proofs.Ytonaejfpiihfhaa
open Go Abs
set_option linter.unusedSimpArgs false
set_option linter.unusedVariables false

def thereS (l : List Nd) (a : Int) : Bool := decide (checkS l = 0) && (decide (0 ≤ a) && decide (a < l.length))
set_option maxHeartbeats 8000000 in
theorem there_eq (l : List Nd) (hb : l.length ≤ 9223372036854775806) (hr : ∀ n ∈ l, n.inR) (a : Int) : cl 53 [nds l, .int .i64 a] [] = some (.ret (.bool (thereS l a)), []) := by
  have hc := fun d st => check_call (l := l) hb hr (d := d) (st := st)
  simp only [nds] at hc
  refine fn_intro Try.func53 rfl (by simp) (by decide) rfl ?_
  by_cases h : checkS l = 0
  · by_cases h2 : 0 ≤ a
    · simp [Try.f53, nds, hc, h, h2]
      exact end_is (.inr rfl) (by simp; rfl) rfl (by simp [thereS, h, h2])
    · simp [Try.f53, nds, hc, h, h2]
      exact end_is (.inr rfl) (by simp; rfl) rfl (by simp [thereS, h, h2])
  · simp [Try.f53, nds, hc, h]
    exact end_is (.inr rfl) (by simp; rfl) rfl (by simp [thereS, h])
theorem there_call {l : List Nd} (hb : l.length ≤ 9223372036854775806) (hr : ∀ n ∈ l, n.inR) {a : Int} {d : Option Nat} {st : ASt} : callV G cl d (.fn (.func 53) [] []) [nds l, .int .i64 a] st = some (.val (.bool (thereS l a)) st) :=
  callV_ret E53 (by decide) ext53 rfl rfl (there_eq l hb hr a) rfl
theorem thereS_nat {l : List Nd} {a : Int} (h : thereS l a = true) : checkS l = 0 ∧ ∃ k : Nat, a = k ∧ k < l.length := by
  unfold thereS at h
  simp only [Bool.and_eq_true, decide_eq_true_eq] at h
  exact ⟨h.1, a.toNat, by omega, by omega⟩

/-! Cloned, where there is something. -/
set_option maxHeartbeats 8000000 in
theorem clone54_eq (n : Nd) (l : List Nd) (hb : l.length + 1 ≤ 1000) : cl 54 [nds (n :: l)] [] = some (.ret (nds (n :: l)), []) := by
  have hL : l.length + 1 ≤ LIM := by unfold LIM; omega
  refine fn_intro Try.func54 rfl (by simp) (by decide) rfl ?_
  simp [Try.f54, nds, binO, binv, eqv, appendA, hL]
  exact end_rv (.inr rfl) (by simp [resL]; rfl) rfl (by simp) rfl
theorem clone54_call {l : List Nd} (h : l ≠ []) (hb : l.length ≤ 1000) {d : Option Nat} {st : ASt} : callV G cl d (.fn (.func 54) [] []) [nds l] st = some (.val (nds l) st) := by
  cases l with
  | nil => exact absurd rfl h
  | cons n l => exact callV_ret E54 (by decide) ext54 rfl rfl (clone54_eq n l hb) rfl

theorem val_call {l : List Nd} {a : Nat} {s : Span} (hl : l.length ≤ 900) (hr : ∀ n ∈ l, n.inR) (h : valS l (l.length + 1) a = some s) (d : Option Nat) (w : ASt) : callV G cl d (.fn (.func 51) [] []) [nds l, .int .i64 (a : Int)] w = some (.val (spanV s) w) := by
  refine callV_ret E51 (by decide) ext51 rfl rfl ?_ rfl
  have := value_eq l hl hr (l.length + 1) a (by omega)
  rw [h] at this; exact this
theorem seen_call {l : List Nd} {a : Nat} {s : Span} (hl : l.length ≤ 900) (hr : ∀ n ∈ l, n.inR) (h : valS l (l.length + 1) a = some s) (d : Option Nat) (w : ASt) : callV G cl d (.fn (.func 47) [] []) [nds l, .int .i64 (a : Int)] w = some (.val (seenV s.stop s.deep false s.kids (keysN (mapAt l a) s.kids)) w) := by
  obtain ⟨v, hv, hs⟩ := seen_eq l hl hr (l.length + 1) a (by omega)
  rw [h] at hs
  obtain ⟨keys, rfl, rfl⟩ := hs
  exact callV_ret E47 (by decide) ext47 rfl rfl hv (by simp [seenV])

/-- The nodes of the value at a place, if there is one. -/
def subS (l : List Nd) (a : Int) : Option (List Nd) := if thereS l a then (valS l (l.length + 1) a.toNat).map fun s => cutS l a.toNat s.stop else none
def rowO : Option (List Nd) → AV
  | some m => nds m
  | none => .nils
theorem nds_cut (l : List Nd) (a e : Nat) : nds (cutS l a e) = .list 4 (((l.map Nd.v).take e).drop a) := by simp [nds, cutS]
theorem cutS_ne {l : List Nd} {a e : Nat} (h1 : a < e) (h2 : e ≤ l.length) : cutS l a e ≠ [] := by
  intro h
  have := cutS_length (l := l) (a := a) h2
  rw [h] at this; simp at this; omega

set_option maxHeartbeats 8000000 in
theorem sub_eq (l : List Nd) (hb : l.length ≤ 9223372036854775806) (hr : ∀ n ∈ l, n.inR) (a : Int) : cl 22 [nds l, .int .i64 a] [] = some (.ret (rowO (subS l a)), []) := by
  have hc := fun d st => there_call (l := l) hb hr (a := a) (d := d) (st := st)
  refine fn_intro Try.func22 rfl (by simp) (by decide) rfl ?_
  cases h : thereS l a with
  | false =>
    simp [Try.f22, hc, h]
    exact end_is (.inr rfl) (by simp; rfl) rfl (by simp [subS, h, rowO])
  | true =>
    obtain ⟨h0, k, rfl, h1⟩ := thereS_nat h
    obtain ⟨s, h2, h3, h4⟩ := checkS_inner h0 h1
    obtain ⟨h5, _, _⟩ := checkS_ok h0
    obtain ⟨g1, _, _⟩ := valS_spec h2
    have hv := val_call (by omega) hr h2
    have hcl := fun d st => clone54_call (l := cutS l k s.stop) (cutS_ne g1 h3) (by rw [cutS_length h3]; omega) (d := d) (st := st)
    rw [nds_cut] at hcl
    have hk : (k : Int) ≤ s.stop := by omega
    have hk2 : (s.stop : Int) ≤ l.length := by omega
    simp only [nds] at hc hv
    have e1 : k ≤ s.stop := by omega
    simp [Try.f22, nds, hc, h, hv, spanV, e1, h3, hcl]
    exact end_is (.inr rfl) (by simp; rfl) rfl (by simp [subS, h, h2, rowO, nds_cut])

theorem sub_call {l : List Nd} (hb : l.length ≤ 9223372036854775806) (hr : ∀ n ∈ l, n.inR) {a : Int} {d : Option Nat} {st : ASt} : callV G cl d (.fn (.func 22) [] []) [nds l, .int .i64 a] st = some (.val (rowO (subS l a)) st) :=
  callV_ret E22 (by decide) ext22 rfl rfl (sub_eq l hb hr a) (by cases subS l a <;> rfl)

set_option maxHeartbeats 8000000 in
theorem rsub_eq (l : List Nd) (hb : l.length ≤ 9223372036854775806) (hr : ∀ n ∈ l, n.inR) (a : Int) : cl 23 [nds l, .int .i64 a] [] = some (.ret (rowO (subS l a)), []) := by
  have hc := fun d st => rcheck_call (l := l) hb hr (d := d) (st := st)
  refine fn_intro Try.func23 rfl (by simp) (by decide) rfl ?_
  simp only [nds] at hc
  by_cases h0 : checkS l = 0
  case neg =>
    simp [Try.f23, nds, hc, h0]
    exact end_is (.inr rfl) (by simp; rfl) rfl (by simp [subS, thereS, h0, rowO])
  by_cases h1 : a < 0
  · have h1' : ¬ 0 ≤ a := by omega
    simp [Try.f23, nds, hc, h0, h1]
    exact end_is (.inr rfl) (by simp; rfl) rfl (by simp [subS, thereS, h1', rowO])
  by_cases h2 : (l.length : Int) ≤ a
  · have h2' : ¬ a < l.length := by omega
    simp [Try.f23, nds, hc, h0, h1, h2]
    exact end_is (.inr rfl) (by simp; rfl) rfl (by simp [subS, thereS, h2', rowO])
  obtain ⟨k, rfl⟩ : ∃ k : Nat, a = k := ⟨a.toNat, by omega⟩
  have hlt : k < l.length := by omega
  obtain ⟨s, h2, h3, h4⟩ := checkS_inner h0 hlt
  obtain ⟨h5, _, _⟩ := checkS_ok h0
  obtain ⟨g1, _, _⟩ := valS_spec h2
  have hv := seen_call (by omega) hr h2
  have e1 : k ≤ s.stop := by omega
  simp only [nds] at hv
  have e2 : ¬ (k : Int) < 0 := by omega
  have e3 : ¬ l.length ≤ k := by omega
  simp [Try.f23, nds, hc, h0, hlt, hv, seenV, e1, h3, e2, e3]
  exact end_is (.inr rfl) (by simp; rfl) rfl (by simp [subS, thereS, h0, hlt, h2, rowO, nds_cut])
theorem rsub_call {l : List Nd} (hb : l.length ≤ 9223372036854775806) (hr : ∀ n ∈ l, n.inR) {a : Int} {d : Option Nat} {st : ASt} : callV G cl d (.fn (.func 23) [] []) [nds l, .int .i64 a] st = some (.val (rowO (subS l a)) st) :=
  callV_ret E23 (by decide) ext23 rfl rfl (rsub_eq l hb hr a) (by cases subS l a <;> rfl)

/-- Where the kids of the value at a place begin, if there is one. -/
def kidsAt (l : List Nd) (a : Int) : Option (List Nat) := if thereS l a then (valS l (l.length + 1) a.toNat).map (·.kids) else none
def intsO : Option (List Nat) → AV
  | some m => .list 1 (intsL m)
  | none => .nils
set_option maxHeartbeats 8000000 in
theorem kids_eq (l : List Nd) (hb : l.length ≤ 9223372036854775806) (hr : ∀ n ∈ l, n.inR) (a : Int) : cl 25 [nds l, .int .i64 a] [] = some (.ret (intsO (kidsAt l a)), []) := by
  have hc := fun d st => there_call (l := l) hb hr (a := a) (d := d) (st := st)
  refine fn_intro Try.func25 rfl (by simp) (by decide) rfl ?_
  cases h : thereS l a with
  | false =>
    simp [Try.f25, hc, h]
    exact end_is (.inr rfl) (by simp; rfl) rfl (by simp [kidsAt, h, intsO])
  | true =>
    obtain ⟨h0, k, rfl, h1⟩ := thereS_nat h
    obtain ⟨s, h2, h3, h4⟩ := checkS_inner h0 h1
    obtain ⟨h5, _, _⟩ := checkS_ok h0
    have hv := val_call (by omega) hr h2
    simp [Try.f25, hc, h, hv, spanV]
    exact end_is (.inr rfl) (by simp; rfl) rfl (by simp [kidsAt, h, h2, intsO])
theorem kids_call {l : List Nd} (hb : l.length ≤ 9223372036854775806) (hr : ∀ n ∈ l, n.inR) {a : Int} {d : Option Nat} {st : ASt} : callV G cl d (.fn (.func 25) [] []) [nds l, .int .i64 a] st = some (.val (intsO (kidsAt l a)) st) :=
  callV_ret E25 (by decide) ext25 rfl rfl (kids_eq l hb hr a) (by cases kidsAt l a <;> rfl)

/-- The same, as the document has it. -/
def rintsO : Option (List Nat) → AV
  | some m => rowV m
  | none => .nils
theorem rval_out {l : List Nd} (hl : l.length ≤ 900) {a : Int} (h : a < 0 ∨ (l.length : Int) ≤ a) (d : Option Nat) (w : ASt) : callV G cl d (.fn (.func 47) [] []) [nds l, .int .i64 a] w = some (.val (seenV 0 0 true [] []) w) := by
  refine callV_ret E47 (by decide) ext47 rfl rfl (seen_bad l a none ?_ ?_) (by simp [seenV])
  · by_cases h1 : a < 0
    · exact .inl h1
    · exact .inr ⟨by omega, List.getElem?_eq_none_iff.2 (by omega)⟩
  · exact .inr (.inl rfl)
set_option maxHeartbeats 8000000 in
theorem rkids_eq (l : List Nd) (hb : l.length ≤ 9223372036854775806) (hr : ∀ n ∈ l, n.inR) (a : Int) : cl 26 [nds l, .int .i64 a] [] = some (.ret (rintsO (kidsAt l a)), []) := by
  have hc := fun d st => rcheck_call (l := l) hb hr (d := d) (st := st)
  refine fn_intro Try.func26 rfl (by simp) (by decide) rfl ?_
  simp only [nds] at hc
  by_cases h0 : checkS l = 0
  case neg =>
    simp [Try.f26, nds, hc, h0]
    exact end_is (.inr rfl) (by simp; rfl) rfl (by simp [kidsAt, thereS, h0, rintsO])
  obtain ⟨h5, _, _⟩ := checkS_ok h0
  by_cases h1 : a < 0 ∨ (l.length : Int) ≤ a
  · have hv := rval_out (by omega) h1
    simp only [nds] at hv
    have h2 : thereS l a = false := by unfold thereS; simp; omega
    simp [Try.f26, nds, hc, h0, hv, seenV]
    exact end_is (.inr rfl) (by simp; rfl) (by simp) (by simp [kidsAt, h2, rintsO, rowV_nil])
  obtain ⟨k, rfl⟩ : ∃ k : Nat, a = k := ⟨a.toNat, by omega⟩
  have hlt : k < l.length := by omega
  obtain ⟨s, h2, h3, h4⟩ := checkS_inner h0 hlt
  have hv := seen_call (by omega) hr h2
  simp only [nds] at hv
  simp [Try.f26, nds, hc, h0, hv, seenV]
  exact end_is (.inr rfl) (by simp; rfl) (by simp) (by simp [kidsAt, thereS, h0, hlt, h2, rintsO])
theorem rintsO_names {o : Option (List Nat)} : (rintsO o).names = [] := by cases o <;> simp [rintsO]
theorem rkids_call {l : List Nd} (hb : l.length ≤ 9223372036854775806) (hr : ∀ n ∈ l, n.inR) {a : Int} {d : Option Nat} {st : ASt} : callV G cl d (.fn (.func 26) [] []) [nds l, .int .i64 a] st = some (.val (rintsO (kidsAt l a)) st) :=
  callV_ret E26 (by decide) ext26 rfl rfl (rkids_eq l hb hr a) rintsO_names

/-! Ints -/
set_option maxHeartbeats 8000000 in
theorem ints_loop (a : List Nat) (hb : a.length ≤ 9223372036854775806) : ∃ sl, lp 24 (lc Try.f24 0) { sl := [(0, .list 1 (intsL a)), (1, .list 1 (intsL a)), (5, .int .i64 0)], hp := [] } = some (.exit 0, { sl, hp := [] }) := by
  have := for_loop (f := 24) (c := lc Try.f24 0) (n := a.length) (σ := fun i => { sl := [(0, .list 1 (intsL a)), (1, .list 1 (intsL a)), (5, .int .i64 (i : Int))], hp := [] }) (P := fun i => True)
    (Q := fun x s => x = .exit 0 ∧ ∃ sl, s = { sl, hp := [] }) (fun i hi hp => .inl ⟨?_, trivial⟩) (fun hp => ?_) 0 (by omega) trivial
  · obtain ⟨x, s, h, rfl, sl, rfl⟩ := this
    exact ⟨sl, h⟩
  · obtain ⟨n, hn⟩ : ∃ n, a[i]? = some n := ⟨a[i], List.getElem?_eq_getElem hi⟩
    have hw : IntKind.i64.wrap ((i : Int) + 1) = (i : Int) + 1 := i64_wrap (by omega) (by omega)
    simp [lc, loopsOf, Try.f24, intsL, hi, hn, hw]
  · exact ⟨.exit 0, ⟨[(0, .list 1 (intsL a)), (1, .list 1 (intsL a)), (5, .int .i64 a.length), (14, .bool false)], []⟩, by simp [lc, loopsOf, Try.f24, intsL], by simp, rfl, _, rfl⟩
theorem ints_eq (a : List Nat) (hb : a.length ≤ 9223372036854775806) : cl 24 [.list 1 (intsL a), .list 1 (intsL a)] [] = some (.ret (.bool true), []) := by
  obtain ⟨sl, h⟩ := ints_loop a hb
  refine fn_intro Try.func24 rfl (by simp) (by decide) rfl ?_
  simp [lc, loopsOf, Try.f24] at h
  simp [Try.f24, h]
  exact end_is (.inr rfl) (by simp; rfl) rfl rfl
theorem ints_nil {x y : AV} (hx : x = .nils ∨ x = .list 1 []) (hy : y = .nils ∨ y = .list 1 []) : cl 24 [x, y] [] = some (.ret (.bool true), []) := by
  have lp0 : ∀ st, (codeX G cl lp 24 (lc Try.f24 0) st = some (.exit 0, { sl := [(0, x), (1, y), (5, .int .i64 0), (14, .bool false)], hp := [] })) → lp 24 (lc Try.f24 0) st = some (.exit 0, { sl := [(0, x), (1, y), (5, .int .i64 0), (14, .bool false)], hp := [] }) := fun st h => loop_out (by rw [h]; rfl) (by simp)
  have h := lp0 { sl := [(0, x), (1, y), (5, .int .i64 0)], hp := [] } (by rcases hx with rfl | rfl <;> rcases hy with rfl | rfl <;> simp [lc, loopsOf, Try.f24])
  refine fn_intro Try.func24 rfl (by simp) (by decide) rfl ?_
  simp [lc, loopsOf, Try.f24] at h
  rcases hx with rfl | rfl <;> rcases hy with rfl | rfl <;> simp [Try.f24, h] <;> exact end_is (.inr rfl) (by simp; rfl) rfl rfl
/-- The kids by both are the same. -/
theorem ints_kids {o : Option (List Nat)} (hb : ∀ m, o = some m → m.length ≤ 1000) {d : Option Nat} {st : ASt} : callV G cl d (.fn (.func 24) [] []) [intsO o, rintsO o] st = some (.val (.bool true) st) := by
  refine callV_ret (v := .bool true) E24 (by decide) ext24 rfl (by cases o <;> simp [intsO, rintsO]) ?_ rfl
  cases o with
  | none => exact ints_nil (.inl rfl) (.inl rfl)
  | some m =>
    simp only [intsO, rintsO, rowV]
    split
    · rename_i h; subst h; exact ints_nil (.inr rfl) (.inl rfl)
    · exact ints_eq m (by have := hb m rfl; omega)
/-- Nodes that may be none are the same as themselves. -/
theorem same18_nils : cl 18 [.nils, .nils] [] = some (.ret (.bool true), []) := by
  have h : lp 18 (lc Try.f18 0) { sl := [(0, .nils), (1, .nils), (5, .int .i64 0)], hp := [] } = some (.exit 0, { sl := [(0, .nils), (1, .nils), (5, .int .i64 0), (14, .bool false)], hp := [] }) := loop_out (by simp [lc, loopsOf, Try.f18]) (by simp)
  refine fn_intro Try.func18 rfl (by simp) (by decide) rfl ?_
  simp [lc, loopsOf, Try.f18] at h
  simp [Try.f18, h]
  exact end_is (.inr rfl) (by simp; rfl) rfl rfl
theorem same18_o {o : Option (List Nd)} (hb : ∀ m, o = some m → m.length ≤ 1000) {d : Option Nat} {st : ASt} : callV G cl d (.fn (.func 18) [] []) [rowO o, rowO o] st = some (.val (.bool true) st) := by
  refine callV_ret (v := .bool true) E18 (by decide) ext18 rfl (by cases o <;> rfl) ?_ rfl
  cases o with
  | none => exact same18_nils
  | some m => have := same18_eq m m (by have := hb m rfl; omega); rw [decide_eq_true rfl] at this; exact this
end Go.Proofs.Ytonaejfpiihfhaa

/- What the functions come to: a map's keys, gone through by a function: tree.members, tree.Keys. -/
namespace Go.Proofs.Ytonaejfpiihfhaa
open Go Abs
set_option linter.unusedSimpArgs false
set_option linter.unusedVariables false

/-- A call that is handed memory, told by its answer. -/
theorem callB_of {d : Option Nat} {g : FuncId} {first caps args pre : List AV} {st st1 st3 : ASt} {ns : List Nat} {y : ARes × Heap} (hE : G.E g = true) (hg : g < RB) (hpre : prepL G g st.hp (first ++ args ++ caps) 0 = pre)
    (hst : st.fix (prepRows G g (first ++ args ++ caps) 0) = st1) (hns : reachL 40 st1.hp (AV.namesL pre) [] = ns) (hall : (ns.all fun n => (aget st1.hp n).isSome) = true)
    (hc : cl g (AV.renL (toMap ns) pre) (subHeap ns st1.hp) = some y) (ha : afterCall d ns st1 y.2 = some st3) : callB G cl d (.fn (.func g) first caps) args st = some (answered (backMap ns d y.2) st3 y.1, movedOf ns y.2) := by
  simp only [callB, hpre, hst, hns, hE, hg, hall, decide_true, Bool.and_true, if_true, hc, Option.bind_some, ha, Option.map_some]
theorem callV_of {d : Option Nat} {g : FuncId} {first caps args pre : List AV} {st st1 st3 : ASt} {ns : List Nat} {y : ARes × Heap} (hE : G.E g = true) (hg : g < RB) (hx : G.ext g = none) (hpre : prepL G g st.hp (first ++ args ++ caps) 0 = pre)
    (hst : st.fix (prepRows G g (first ++ args ++ caps) 0) = st1) (hns : reachL 40 st1.hp (AV.namesL pre) [] = ns) (hall : (ns.all fun n => (aget st1.hp n).isSome) = true)
    (hc : cl g (AV.renL (toMap ns) pre) (subHeap ns st1.hp) = some y) (ha : afterCall d ns st1 y.2 = some st3) {r : AR} (hr : answered (backMap ns d y.2) st3 y.1 = r) : callV G cl d (.fn (.func g) first caps) args st = some r := by
  unfold callV extA
  simp only [hx, Option.bind_none]
  unfold callA
  rw [callB_of hE hg hpre hst hns hall hc ha, Option.map_some, hr]
/-- A round that is called, told by its answer. -/
theorem callV_yld {d : Option Nat} {id j : Nat} {args pre : List AV} {st st1 st3 : ASt} {ns : List Nat} {y : ARes × Heap} (hpre : AV.rvL st.hp args = pre)
    (hst : st.fix (AV.rowsL args) = st1) (hns : reachL 40 st1.hp (id :: AV.namesL pre) [] = ns) (hall : (ns.all fun n => (aget st1.hp n).isSome) = true) (hj : aget (toMap ns) id = some j)
    (hc : cl (RB + j) (AV.renL (toMap ns) pre) (subHeap ns st1.hp) = some y) (ha : afterCall d ns st1 y.2 = some st3) {r : AR} (hr : answered (backMap ns d y.2) st3 y.1 = r) : callV G cl d (.yld id) args st = some r := by
  unfold callV extA
  simp only []
  unfold callA callB
  simp only [hpre, hst, hns, hall, if_true, hj, Option.bind_some, hc, ha, Option.map_some, hr]

/-- The first loop over a function in some code. -/
def rfsOf : Code → List (Operand × Array Nat × Code × Code)
  | .seq a b => rfsOf a ++ rfsOf b
  | .cond _ a b => rfsOf a ++ rfsOf b
  | .block _ b => rfsOf b
  | .rangeFunc g ps asg body => [(g, ps, asg, body)]
  | _ => []
noncomputable def rcOf (g : FuncId) (f : Func) (st : LoopState) (p : Option Code) : LRec :=
  match rfsOf (f.body.getD .skip) with
  | (_, ps, asg, body) :: _ => ⟨g, G.ntm g, ps, asg, body, st, p⟩
  | [] => default

def strsL (l : List (List UInt8)) : List AV := l.map .str
noncomputable abbrev rec28 : LRec := rcOf 28 Try.f28 .ready none
theorem rok28 : G.roundOK rec28 = true := by kernel_rfl
noncomputable def hp28 (l : List Nd) (a : Int) (out : List (List UInt8)) (mv : Bool) : Heap :=
  [(0, .loop rec28 [(5, .ptr 1 0 0), (9, .fn (.func 85) [] [.ptr 2 0 0, .ptr 3 0 0]), (10, .undef)]), (1, .box 34 (.own 4)), (2, .box 22 (nds l)), (3, .box 3 (.int .i64 a)), (4, .row 1 (strsL out) false ⟨mv, 9⟩)]
set_option maxHeartbeats 8000000 in
theorem round28_0 (l : List Nd) (a p : Int) (k : List UInt8) : cl RB [.str k, .int .i64 p] [(0, .loop rec28 [(5, .ptr 1 0 0), (9, .fn (.func 85) [] [.ptr 2 0 0, .ptr 3 0 0]), (10, .undef)]), (1, .box 34 .nils), (2, .box 22 (nds l)), (3, .box 3 (.int .i64 a))] =
    some (.ret (.bool true), [(0, .loop rec28 [(5, .ptr 1 0 0), (9, .fn (.func 85) [] [.ptr 2 0 0, .ptr 3 0 0]), (10, .undef)]), (1, .box 34 (.own 1015)), (2, .box 22 (nds l)), (3, .box 3 (.int .i64 a)), (1015, .row 1 [.str k] false ⟨false, 9⟩)]) := by
  have : RB = RB + 0 := rfl
  rw [this]
  exact round_intro (by kernel_rfl)
set_option maxHeartbeats 8000000 in
theorem round28_1 (l : List Nd) (a p : Int) (k : List UInt8) (out : List (List UInt8)) (ho : out.length ≤ 1000) : cl RB [.str k, .int .i64 p] (hp28 l a out false) = some (.ret (.bool true), hp28 l a (out ++ [k]) true) := by
  have : RB = RB + 0 := rfl
  rw [this]
  have hL : out.length + 1 ≤ LIM := by unfold LIM; omega
  have hr := rok28
  refine round_intro ?_
  unfold runRound
  unfold rec28 rcOf at hr
  simp [hp28, rec28, rcOf, rfsOf, Try.f28] at hr ⊢
  simp [hr, appendA, strsL, hL]
  rfl

/-! Seen from the function that goes through them. -/
def RN : Nat := 1016000035
noncomputable def hpA (l : List Nd) (a : Int) : Heap := [(0, .loop rec28 [(5, .ptr 3 0 0), (9, .fn (.func 85) [] [.ptr 1 0 0, .ptr 2 0 0]), (10, .undef)]), (1, .box 22 (nds l)), (2, .box 3 (.int .i64 a)), (3, .box 34 .nils)]
noncomputable def hpB (l : List Nd) (a : Int) (out : List (List UInt8)) (mv : Bool) : Heap := [(0, .loop rec28 [(5, .ptr 3 0 0), (9, .fn (.func 85) [] [.ptr 1 0 0, .ptr 2 0 0]), (10, .undef)]), (1, .box 22 (nds l)), (2, .box 3 (.int .i64 a)), (3, .box 34 (.own 1016000035)), (1016000035, .row 1 (strsL out) false ⟨mv, 9⟩)]
noncomputable def hpA' (l : List Nd) (a : Int) (k : List UInt8) : Heap :=
  [(0, .loop rec28 [(5, .ptr 3 0 0), (9, .fn (.func 85) [] [.ptr 1 0 0, .ptr 2 0 0]), (10, .undef)]), (3, .box 34 (.own 1016000035)), (1, .box 22 (nds l)), (2, .box 3 (.int .i64 a)), (1016000035, .row 1 [.str k] false ⟨false, 9⟩)] ++ hpA l a
noncomputable def hpB' (l : List Nd) (a : Int) (out : List (List UInt8)) (k : List UInt8) (mv : Bool) : Heap :=
  [(0, .loop rec28 [(5, .ptr 3 0 0), (9, .fn (.func 85) [] [.ptr 1 0 0, .ptr 2 0 0]), (10, .undef)]), (3, .box 34 (.own 1016000035)), (1, .box 22 (nds l)), (2, .box 3 (.int .i64 a)), (1016000035, .row 1 (strsL (out ++ [k])) false ⟨true, 9⟩)] ++
  [(0, .loop rec28 [(5, .ptr 3 0 0), (9, .fn (.func 85) [] [.ptr 1 0 0, .ptr 2 0 0]), (10, .undef)]), (1, .box 22 (nds l)), (2, .box 3 (.int .i64 a)), (3, .box 34 .undef), (1016000035, .row 1 (strsL out) false ⟨mv, 9⟩)]
theorem yield_A (l : List Nd) (a p : Int) (k : List UInt8) (sl : Slots) : callV G cl (some 35) (.yld 0) [.str k, .int .i64 p] ⟨sl, hpA l a⟩ = some (.val (.bool true) ⟨sl, hpA' l a k⟩) :=
  callV_yld (st1 := ⟨sl, hpA l a⟩) (ns := [0, 3, 1, 2]) (j := 0) (pre := [.str k, .int .i64 p]) rfl rfl rfl rfl rfl (by exact round28_0 l a p k) (by kernel_rfl) rfl
theorem yield_B (l : List Nd) (a p : Int) (k : List UInt8) (out : List (List UInt8)) (ho : out.length ≤ 1000) (mv : Bool) (sl : Slots) : callV G cl (some 35) (.yld 0) [.str k, .int .i64 p] ⟨sl, hpB l a out mv⟩ = some (.val (.bool true) ⟨sl.map fun p => (p.1, p.2.kill 1016000035), hpB' l a out k mv⟩) := by
  cases mv <;>
  exact callV_yld (st1 := ⟨sl, hpB l a out _⟩) (ns := [0, 3, 1, 2, 1016000035]) (j := 0) (pre := [.str k, .int .i64 p]) rfl rfl rfl rfl rfl (by exact round28_1 l a p k out ho) (by kernel_rfl) rfl

def sl85 (kids : List Nat) (i : Nat) : Slots := [(0, .yld 0), (1, .ptr 1 0 0), (21, .list 1 (intsL kids)), (22, .int .i64 kids.length), (23, .int .i64 i)]
-- What a loop's head is unfolded by, where there is memory.
attribute [local simp] canonK canonAll canonSlot canonCell canonBox ownStep restrictTo pureCells pureRows reachL AObj.names List.range_succ appendA
set_option maxHeartbeats 8000000 in
theorem round85_A (l : List Nd) (a : Int) (ks : List Nat) (q : Nat) (hk : (q :: ks).length ≤ 1000) (hq0 : 0 < q) (hq1 : q ≤ 1000) (n : Nd) (hn : l[q - 1]? = some n) :
    rX 85 (lc Try.f85 0) (codeX G cl lp 85 (lc Try.f85 0) ⟨sl85 (q :: ks) 0, hpA l a⟩) = some (.normal, ⟨sl85 (q :: ks) 1, hpB l a [n.text] false⟩) := by
  have hw : IntKind.i64.wrap ((q : Int) - 1) = ((q - 1 : Nat) : Int) := by rw [i64_wrap (by omega) (by omega)]; omega
  have hy := fun sl => yield_A l a q n.text sl
  have hw1 : IntKind.i64.wrap 1 = 1 := rfl
  have hpos : (0 : Int) < (ks.length : Int) + 1 := by omega
  simp only [hpA] at hy
  simp [lc, loopsOf, Try.f85, sl85, hpA]
  simp [intsL, nds, Nd.v, hw, hn, hpos]
  simp only [nds] at hy
  simp [hy, hpA', hpA, nds]
  exact ⟨rfl, rfl⟩
set_option maxHeartbeats 8000000 in
theorem round85_B (l : List Nd) (a : Int) (kids : List Nat) (hk : kids.length ≤ 1000) (i q : Nat) (hi : kids[i]? = some q) (hq0 : 0 < q) (hq1 : q ≤ 1000) (n : Nd) (hn : l[q - 1]? = some n) (out : List (List UInt8)) (ho : out.length ≤ 1000) (mv : Bool) :
    rX 85 (lc Try.f85 0) (codeX G cl lp 85 (lc Try.f85 0) ⟨sl85 kids i, hpB l a out mv⟩) = some (.normal, ⟨sl85 kids (i + 1), hpB l a (out ++ [n.text]) true⟩) := by
  have hlt : i < kids.length := (List.getElem?_eq_some_iff.1 hi).1
  have hw : IntKind.i64.wrap ((q : Int) - 1) = ((q - 1 : Nat) : Int) := by rw [i64_wrap (by omega) (by omega)]; omega
  have hw1 : IntKind.i64.wrap ((i : Int) + 1) = (i : Int) + 1 := i64_wrap (by omega) (by omega)
  have hy := fun sl => yield_B l a q n.text out ho mv sl
  simp only [hpB, nds] at hy
  simp [lc, loopsOf, Try.f85, sl85, hpB]
  have e : kids[i] = q := (List.getElem?_eq_some_iff.1 hi).2
  simp [intsL, nds, Nd.v, hw, hn, hlt, e, hw1]
  simp [hy, hpB', nds]
  exact ⟨hw1, rfl⟩
theorem exit85 (l : List Nd) (a : Int) (kids : List Nat) (i : Nat) (hi : kids.length ≤ i) (hp : Heap) :
    rX 85 (lc Try.f85 0) (codeX G cl lp 85 (lc Try.f85 0) ⟨sl85 kids i, hp⟩) = some (.exit 0, ⟨sl85 kids i ++ [(24, .bool false)], hp⟩) := by
  have h1 : ¬ i < kids.length := by omega
  simp [lc, loopsOf, Try.f85, sl85, h1]

/-- The texts ahead of the places. -/
def textsS (l : List Nd) (kids : List Nat) : List (List UInt8) := kids.map fun q => ((l[q - 1]?).map (·.text)).getD []
def goodK (l : List Nd) (kids : List Nat) : Prop := kids.length ≤ 1000 ∧ ∀ q ∈ kids, 0 < q ∧ q ≤ 1000 ∧ q - 1 < l.length
theorem loop85_B (l : List Nd) (a : Int) (kids : List Nat) (hk : goodK l kids) : ∀ (c i : Nat) (mv : Bool), i + c = kids.length → ∃ mv' sl, lp 85 (lc Try.f85 0) ⟨sl85 kids i, hpB l a (textsS l (kids.take i)) mv⟩ = some (.exit 0, ⟨sl, hpB l a (textsS l kids) mv'⟩) := by
  intro c
  induction c with
  | zero =>
    intro i mv hi
    refine ⟨mv, sl85 kids i ++ [(24, .bool false)], loop_out ?_ (by simp)⟩
    rw [List.take_of_length_le (by omega)]
    exact exit85 l a kids i (by omega) _
  | succ c ih =>
    intro i mv hi
    have hlt : i < kids.length := by omega
    have hq : kids[i]? = some kids[i] := List.getElem?_eq_getElem hlt
    obtain ⟨q1, q2, q3⟩ := hk.2 kids[i] (List.getElem_mem hlt)
    have hn : l[kids[i] - 1]? = some l[kids[i] - 1] := List.getElem?_eq_getElem q3
    have h := round85_B l a kids hk.1 i kids[i] hq q1 q2 _ hn (textsS l (kids.take i)) (by simp [textsS]; have := hk.1; omega) mv
    have e : textsS l (kids.take i) ++ [l[kids[i] - 1].text] = textsS l (kids.take (i + 1)) := by
      rw [List.take_add_one, hq]
      simp only [textsS, Option.toList_some, List.map_append, List.map_cons, List.map_nil, hn, Option.map_some, Option.getD_some]
    rw [e] at h
    obtain ⟨mv', sl, hx⟩ := ih (i + 1) true (by omega)
    exact ⟨mv', sl, loop_next h hx⟩
theorem loop85 (l : List Nd) (a : Int) (kids : List Nat) (hk : goodK l kids) : ∃ mv sl, lp 85 (lc Try.f85 0) ⟨sl85 kids 0, hpA l a⟩ = some (.exit 0, ⟨sl, if kids = [] then hpA l a else hpB l a (textsS l kids) mv⟩) := by
  cases kids with
  | nil =>
    refine ⟨false, sl85 [] 0 ++ [(24, .bool false)], loop_out ?_ (by simp)⟩
    exact exit85 l a [] 0 (by simp) _
  | cons q ks =>
    obtain ⟨q1, q2, q3⟩ := hk.2 q (by simp)
    have hn : l[q - 1]? = some l[q - 1] := List.getElem?_eq_getElem q3
    have h := round85_A l a ks q hk.1 q1 q2 _ hn
    obtain ⟨mv', sl, hx⟩ := loop85_B l a (q :: ks) hk ks.length 1 false (by simp; omega)
    have e : textsS l ((q :: ks).take 1) = [l[q - 1].text] := by simp [textsS, hn]
    rw [e] at hx
    exact ⟨mv', sl, by rw [if_neg (by simp)]; exact loop_next h hx⟩

theorem there_c {l : List Nd} (hb : l.length ≤ 9223372036854775806) (hr : ∀ n ∈ l, n.inR) {a : Int} {d : Option Nat} {st : ASt} : callV G cl d (.fn (.func 53) [] []) [.list 4 (l.map Nd.v), .int .i64 a] st = some (.val (.bool (thereS l a)) st) := there_call hb hr
theorem kidsS_pos {val : Nat → Option Span} {l : List Nd} {m : Bool} (hsp : ∀ st s, val st = some s → st < s.stop ∧ s.stop ≤ l.length) : ∀ {c i s last r}, kidsS val l m c i s last = some r → 0 < s.stop → (∀ q ∈ s.kids, 0 < q ∧ q < l.length) → ∀ q ∈ r.kids, 0 < q ∧ q < l.length := by
  intro c
  induction c with
  | zero => intro i s last r hr h1 h2; cases hr; exact h2
  | succ c ih =>
    intro i s last r hr h1 h2
    simp only [kidsS] at hr
    rw [Option.bind_eq_some_iff] at hr; obtain ⟨p, hp, hr⟩ := hr
    rw [Option.bind_eq_some_iff] at hr; obtain ⟨kid, hk, hr⟩ := hr
    have hge := keyS_ge hp
    have hlt := hsp _ _ hk
    refine ih hr (by simp only; omega) (fun q hq => ?_)
    rcases List.mem_append.1 hq with h | h
    · exact h2 q h
    · obtain rfl : q = p.1 := by simpa using h
      omega
theorem valS_goodK {l : List Nd} (hl : l.length ≤ 900) {k a : Nat} {s : Span} (h : valS l k a = some s) : goodK l s.kids := by
  cases k with
  | zero => cases h
  | succ k =>
    rw [valS, Option.bind_eq_some_iff] at h
    obtain ⟨n, hn, h⟩ := h
    split at h
    · obtain ⟨r, hr, rfl⟩ := Option.map_eq_some_iff.1 h
      refine ⟨?_, fun q hq => ?_⟩
      · have : ∀ {c i s last r}, kidsS (valS l k) l (decide (n.kind = 5)) c i s last = some r → s.kids.length ≤ s.stop → r.kids.length ≤ r.stop := by
          intro c
          induction c with
          | zero => intro i s last r hr h; cases hr; exact h
          | succ c ih =>
            intro i s last r hr h
            simp only [kidsS] at hr
            rw [Option.bind_eq_some_iff] at hr; obtain ⟨p, hp, hr⟩ := hr
            rw [Option.bind_eq_some_iff] at hr; obtain ⟨kid, hk, hr⟩ := hr
            have hge := keyS_ge hp
            have hlt := valS_spec hk
            exact ih hr (by simp; omega)
        have h1 := this hr (by simp)
        have h2 := (kidsS_spec (A := 0) (fun st s hs => by have := valS_spec hs; omega) hr (by simp only; have := (List.getElem?_eq_some_iff.1 hn).1; omega) (by simp) (by simp)).2.1
        simp only; omega
      · have := kidsS_pos (fun st s hs => by have := valS_spec hs; omega) hr (by simp) (by simp) q hq
        omega
    · cases h

/-- A map's keys, if there is one at a place. -/
def keysAt (l : List Nd) (a : Int) : List (List UInt8) :=
  if thereS l a && mapAt l a.toNat then textsS l (((valS l (l.length + 1) a.toNat).map (·.kids)).getD []) else []

theorem oren_loop {m : List (Nat × Nat)} {r : LRec} {sl : Slots} : AObj.ren m (.loop r sl) = .loop r (sl.map fun p => (p.1, p.2.ren m)) := rfl
def heap85 (l : List Nd) (a : Int) (h : Heap) : Prop := (keysAt l a = [] ∧ h = hpA l a) ∨ (keysAt l a ≠ [] ∧ ∃ mv, h = hpB l a (keysAt l a) mv)
theorem end85 {l : List Nd} {a : Int} {sl : Slots} {h : Heap} {x : AX} (hx : x = .normal ∨ x = .ret) (hh : heap85 l a h) : endX G 85 [0, 1, 2, 3] [] (some (x, ⟨sl, h⟩)) = some (.ret (.tup []), h) := by
  rcases hh with ⟨h1, rfl⟩ | ⟨h1, mv, rfl⟩
  · rcases hx with rfl | rfl <;> kernel_rfl
  · rcases hx with rfl | rfl <;> kernel_rfl
set_option maxHeartbeats 8000000 in
theorem members_eq (l : List Nd) (hb : l.length ≤ 9223372036854775806) (hr : ∀ n ∈ l, n.inR) (a : Int) : ∃ h, cl 85 [.yld 0, .ptr 1 0 0, .ptr 2 0 0] (hpA l a) = some (.ret (.tup []), h) ∧ heap85 l a h := by
  have hc := fun d st => there_c (l := l) hb hr (a := a) (d := d) (st := st)
  cases h : thereS l a with
  | false =>
    have hh : heap85 l a (hpA l a) := .inl ⟨by simp [keysAt, h], rfl⟩
    refine ⟨_, fn_intro Try.func85 rfl (by simp) (by decide) rfl ?_, hh⟩
    simp [Try.f85, hpA, nds, hc, h]
    exact end85 (.inr rfl) hh
  | true =>
    obtain ⟨h0, k, rfl, h1⟩ := thereS_nat h
    obtain ⟨s, h2, h3, h4⟩ := checkS_inner h0 h1
    obtain ⟨h5, _, _⟩ := checkS_ok h0
    have hv := val_call (by omega) hr h2
    simp only [nds] at hv
    obtain ⟨n, hn⟩ : ∃ n, l[k]? = some n := ⟨l[k], List.getElem?_eq_getElem h1⟩
    have e : l[k] = n := (List.getElem?_eq_some_iff.1 hn).2
    by_cases hk : n.kind = 5
    · have hm : mapAt l k = true := by unfold mapAt; rw [hn]; simp [hk]
      have hks : keysAt l k = textsS l s.kids := by simp [keysAt, h, hm, h2]
      obtain ⟨mv, sl, hlp⟩ := loop85 l k s.kids (valS_goodK (by omega) h2)
      have hh : heap85 l k (if s.kids = [] then hpA l k else hpB l k (textsS l s.kids) mv) := by
        unfold heap85
        rw [hks]
        by_cases hz : s.kids = []
        · rw [if_pos hz]; exact .inl ⟨by simp [textsS, hz], rfl⟩
        · rw [if_neg hz]; exact .inr ⟨by simp [textsS, hz], mv, rfl⟩
      refine ⟨_, fn_intro Try.func85 rfl (by simp) (by decide) rfl ?_, hh⟩
      simp [lc, loopsOf, Try.f85, sl85, intsL, hpA, nds] at hlp
      simp [Try.f85, hpA, nds, hc, h, h1, e, hk, hv, spanV, Nd.v, intsL, oren_loop]
      rw [hlp]
      exact end85 (.inl rfl) hh
    · have hm : mapAt l k = false := by unfold mapAt; rw [hn]; simp [hk]
      have hh : heap85 l k (hpA l k) := .inl ⟨by simp [keysAt, hm], rfl⟩
      refine ⟨_, fn_intro Try.func85 rfl (by simp) (by decide) rfl ?_, hh⟩
      simp [Try.f85, hpA, nds, hc, h, h1, e, hk, Nd.v]
      exact end85 (.inr rfl) hh
end Go.Proofs.Ytonaejfpiihfhaa

/- What the functions come to: tree.Keys. -/
namespace Go.Proofs.Ytonaejfpiihfhaa
open Go Abs
set_option linter.unusedSimpArgs false
set_option linter.unusedVariables false

/-- A loop over a function, told by the call of that function. -/
theorem rf_of {f : FuncId} {g : Operand} {ps : Array Nat} {asg body : Code} {st s : ASt} {v : AV} {M : List Nat} {r : LRec} {sl : Slots} {x : AX} {L d : Nat} (hL : L = 20000 + firstRegion body) (hd : d = 30000 + firstRegion body)
    (h1 : (aget st.hp L).isSome = false) (h2 : G.roundOK ⟨f, G.ntm f, ps, asg, body, .ready, none⟩ = true) (h3 : isFn (st.ev g) = true)
    (hc : callB G cl (some d) (st.ev g) [.yld L] { st with hp := (L, .loop ⟨f, G.ntm f, ps, asg, body, .ready, none⟩ st.sl) :: st.hp } = some (.val v s, M))
    (h4 : M.contains L = false) (h5 : aget s.hp L = some (.loop r sl)) (h6 : r.state ≠ .busy) (h7 : jumpX r.pending = some x) :
    codeX G cl lp f (.rangeFunc g ps asg body) st = some (x, { s with hp := hput L (.loop { r with state := .exhausted } sl) s.hp }) := by
  subst hL hd
  unfold codeX
  simp only [h1, h2, h3, Bool.not_true, Bool.or_false, Bool.false_eq_true, if_false, hc, Option.bind_some, h4, h5, h6, h7, Option.map_some]

theorem members_fn (l : List Nd) (a : Int) : cl 55 [nds l, .int .i64 a] [] = some (.ret (.fn (.func 85) [] [.ptr 1002 0 0, .ptr 1003 0 0]), [(1002, .box 22 (nds l)), (1003, .box 3 (.int .i64 a))]) :=
  call_intro (by decide) rfl (by kernel_rfl)
theorem members28 (l : List Nd) (a : Int) (sl : Slots) : callV G cl (some 9) (.fn (.func 55) [] []) [nds l, .int .i64 a] ⟨sl, [(1005, .box 34 .nils)]⟩ =
    some (.val (.fn (.func 85) [] [.ptr 1003000009 0 0, .ptr 1004000009 0 0]) ⟨sl, [(1003000009, .box 22 (nds l)), (1004000009, .box 3 (.int .i64 a)), (1005, .box 34 .nils)]⟩) :=
  callV_of (pre := [nds l, .int .i64 a]) (st1 := ⟨sl, [(1005, .box 34 .nils)]⟩) (ns := []) E55 (by decide) ext55 rfl rfl rfl rfl (by exact members_fn l a) (by kernel_rfl) rfl

def sl28 : Slots := [(5, .ptr 1005 0 0), (9, .fn (.func 85) [] [.ptr 1003000009 0 0, .ptr 1004000009 0 0]), (10, .undef)]
noncomputable def hp28o (l : List Nd) (a : Int) : Heap := [(20004, .loop rec28 sl28), (1003000009, .box 22 (nds l)), (1004000009, .box 3 (.int .i64 a)), (1005, .box 34 .nils)]
noncomputable def after28 (l : List Nd) (a : Int) (h : Heap) : Heap := ((afterCall (some 30004) [20004, 1003000009, 1004000009, 1005] ⟨sl28, hp28o l a⟩ h).getD default).hp
noncomputable def done28 (l : List Nd) (a : Int) (h : Heap) : Heap := hput 20004 (.loop (rcOf 28 Try.f28 .exhausted none) sl28) (after28 l a h)
theorem range28_A (l : List Nd) (a : Int) (h : cl 85 [.yld 0, .ptr 1 0 0, .ptr 2 0 0] (hpA l a) = some (.ret (.tup []), hpA l a)) :
    callB G cl (some 30004) (.fn (.func 85) [] [.ptr 1003000009 0 0, .ptr 1004000009 0 0]) [.yld 20004] ⟨sl28, hp28o l a⟩ = some (.val (.tup []) ⟨sl28, after28 l a (hpA l a)⟩, []) :=
  callB_of (pre := [.yld 20004, .ptr 1003000009 0 0, .ptr 1004000009 0 0]) (st1 := ⟨sl28, hp28o l a⟩) (ns := [20004, 1003000009, 1004000009, 1005]) E85 (by decide) rfl rfl rfl rfl (by exact h) (by kernel_rfl)
noncomputable def after28B (l : List Nd) (a : Int) (out : List (List UInt8)) (mv : Bool) : Heap :=
  [(20004, .loop rec28 sl28), (1003000009, .box 22 (nds l)), (1004000009, .box 3 (.int .i64 a)), (1005, .box 34 (.own 1016000036030004)), (1016000036030004, .row 1 (strsL out) false ⟨mv, 9⟩)] ++ hp28o l a
theorem nn28 : newName 30004 1016000035 = 1016000036030004 := by decide
theorem after28B_eq (l : List Nd) (a : Int) (out : List (List UInt8)) (mv : Bool) : afterCall (some 30004) [20004, 1003000009, 1004000009, 1005] ⟨sl28, hp28o l a⟩ (hpB l a out mv) = some ⟨sl28, after28B l a out mv⟩ := by
  cases mv <;> simp [afterCall, hpB, hp28o, backName, backMap, afterHeap, movedOf, killAll, zipIx, nn28, AObj.moved, AObj.isRow, AObj.ormv, nds, sl28, after28B, oren_loop]
theorem range28_B (l : List Nd) (a : Int) (out : List (List UInt8)) (mv : Bool) (h : cl 85 [.yld 0, .ptr 1 0 0, .ptr 2 0 0] (hpA l a) = some (.ret (.tup []), hpB l a out mv)) :
    callB G cl (some 30004) (.fn (.func 85) [] [.ptr 1003000009 0 0, .ptr 1004000009 0 0]) [.yld 20004] ⟨sl28, hp28o l a⟩ = some (.val (.tup []) ⟨sl28, after28B l a out mv⟩, []) := by
  have := callB_of (d := some 30004) (first := []) (caps := [.ptr 1003000009 0 0, .ptr 1004000009 0 0]) (args := [.yld 20004]) (st := ⟨sl28, hp28o l a⟩) (y := (.ret (.tup []), hpB l a out mv)) (pre := [.yld 20004, .ptr 1003000009 0 0, .ptr 1004000009 0 0]) (st1 := ⟨sl28, hp28o l a⟩) (ns := [20004, 1003000009, 1004000009, 1005]) E85 (by decide) rfl rfl rfl rfl (by exact h) (after28B_eq l a out mv)
  rw [this]
  cases mv <;> simp [answered, movedOf, hpB, zipIx, AObj.moved]
def strsV (l : List (List UInt8)) : AV := if l = [] then .nils else .list 1 (strsL l)
noncomputable def rf28 : Code := match rfsOf (Try.f28.body.getD .skip) with | (g, ps, asg, body) :: _ => .rangeFunc g ps asg body | [] => .skip
noncomputable abbrev at28 (l : List Nd) (a : Int) : ASt := ⟨sl28, [(1003000009, .box 22 (nds l)), (1004000009, .box 3 (.int .i64 a)), (1005, .box 34 .nils)]⟩
theorem st28_A (l : List Nd) (a : Int) (h : cl 85 [.yld 0, .ptr 1 0 0, .ptr 2 0 0] (hpA l a) = some (.ret (.tup []), hpA l a)) : codeX G cl lp 28 rf28 (at28 l a) = some (.normal, ⟨sl28, done28 l a (hpA l a)⟩) := by
  have := rf_of (f := 28) (g := .tmp 9) (ps := rec28.ps) (asg := rec28.assign) (body := rec28.body) (st := at28 l a) (L := 20004) (d := 30004) (r := rec28) (sl := sl28) (x := .normal) (s := ⟨sl28, after28 l a (hpA l a)⟩) (v := .tup []) (M := [])
    (by kernel_rfl) (by kernel_rfl) rfl rok28 rfl (by exact range28_A l a h) rfl (by kernel_rfl) (by simp [rec28, rcOf, rfsOf, Try.f28]) (by kernel_rfl)
  exact this
noncomputable def done28B (l : List Nd) (a : Int) (out : List (List UInt8)) (mv : Bool) : Heap := hput 20004 (.loop (rcOf 28 Try.f28 .exhausted none) sl28) (after28B l a out mv)
theorem st28_B (l : List Nd) (a : Int) (out : List (List UInt8)) (mv : Bool) (h : cl 85 [.yld 0, .ptr 1 0 0, .ptr 2 0 0] (hpA l a) = some (.ret (.tup []), hpB l a out mv)) : codeX G cl lp 28 rf28 (at28 l a) = some (.normal, ⟨sl28, done28B l a out mv⟩) := by
  have := rf_of (f := 28) (g := .tmp 9) (ps := rec28.ps) (asg := rec28.assign) (body := rec28.body) (st := at28 l a) (L := 20004) (d := 30004) (r := rec28) (sl := sl28) (x := .normal) (s := ⟨sl28, after28B l a out mv⟩) (v := .tup []) (M := [])
    (by kernel_rfl) (by kernel_rfl) rfl rok28 rfl (by exact range28_B l a out mv h) rfl (by kernel_rfl) (by simp [rec28, rcOf, rfsOf, Try.f28]) (by kernel_rfl)
  exact this
set_option maxHeartbeats 8000000 in
theorem keys_eq (l : List Nd) (hb : l.length ≤ 9223372036854775806) (hr : ∀ n ∈ l, n.inR) (a : Int) : cl 28 [nds l, .int .i64 a] [] = some (.ret (strsV (keysAt l a)), []) := by
  obtain ⟨h, h1, h2⟩ := members_eq l hb hr a
  have hm := members28 l a
  refine fn_intro Try.func28 rfl (by simp) (by decide) rfl ?_
  rcases h2 with ⟨h3, rfl⟩ | ⟨h3, mv, rfl⟩
  · have hs := st28_A l a h1
    simp [rf28, rfsOf, Try.f28] at hs
    simp only [nds, sl28, at28] at hs hm
    have e : sl28 = [(5, .ptr 1005 0 0), (9, .fn (.func 85) [] [.ptr 1003000009 0 0, .ptr 1004000009 0 0]), (10, .undef)] := rfl
    have hb1 : aget (done28 l a (hpA l a)) 1005 = some (.box 34 .nils) := by kernel_rfl
    simp [Try.f28, nds, hm, hs, allocX, newObj, hb1]
    exact end_rv (.inr rfl) (by simp; rfl) (by simp) (by rw [h3]; rfl) (by unfold strsV; split <;> rfl)
  · have hs := st28_B l a _ mv h1
    simp [rf28, rfsOf, Try.f28] at hs
    simp only [nds, sl28, at28] at hs hm
    have hb1 : aget (done28B l a (keysAt l a) mv) 1005 = some (.box 34 (.own 1016000036030004)) := by kernel_rfl
    have hb2 : aget (done28B l a (keysAt l a) mv) 1016000036030004 = some (.row 1 (strsL (keysAt l a)) false ⟨mv, 9⟩) := by kernel_rfl
    simp [Try.f28, nds, hm, hs, allocX, newObj, hb1]
    exact end_rv (.inr rfl) (by simp; rfl) (by simp) (by simp [hb2, strsV, h3]) (by unfold strsV; split <;> rfl)
end Go.Proofs.Ytonaejfpiihfhaa

/- What TreeCovers comes to. -/
namespace Go.Proofs.Ytonaejfpiihfhaa
open Go Abs
set_option linter.unusedSimpArgs false
set_option linter.unusedVariables false

theorem keys_call {l : List Nd} (hb : l.length ≤ 9223372036854775806) (hr : ∀ n ∈ l, n.inR) {a : Int} {d : Option Nat} {st : ASt} : callV G cl d (.fn (.func 28) [] []) [nds l, .int .i64 a] st = some (.val (strsV (keysAt l a)) st) :=
  callV_ret E28 (by decide) ext28 rfl rfl (keys_eq l hb hr a) (by unfold strsV; split <;> rfl)

def σ6 (l : List Nd) (a : Int) (v : List Nd) (ks : List Nat) (K : AV) (next : Nat) (i : Nat) : ASt :=
  ⟨[(0, nds l), (1, .int .i64 a), (5, .bool true), (7, nds v), (8, .list 1 (intsL ks)), (9, K), (10, .int .i64 next), (11, .int .i64 i)], []⟩
@[simp] theorem plainBL_strs {l : List (List UInt8)} : AV.plainBL (strsL l) = true := plainBL_map (fun a => rfl) l

set_option maxHeartbeats 8000000 in
theorem covers_plain (l : List Nd) (a : Int) (v : List Nd) (ks : List Nat) (next i e : Nat) (hi : ks[i]? = some next) (hks : ks.length ≤ 1000) (he : e ≤ 1000) (hne : next < e) (hel : e ≤ l.length)
    (hsub : ∀ d st, callV G cl d (.fn (.func 22) [] []) [nds l, .int .i64 (next : Int)] st = some (.val (nds (cutS l next e)) st)) :
    rX 6 (lc Try.f6 0) (codeX G cl lp 6 (lc Try.f6 0) (σ6 l a v ks .nils next i)) = some (.normal, σ6 l a v ks .nils e (i + 1)) := by
  have hlt : i < ks.length := (List.getElem?_eq_some_iff.1 hi).1
  have hg : ks[i] = next := (List.getElem?_eq_some_iff.1 hi).2
  have hw : IntKind.i64.wrap ((i : Int) + 1) = (i : Int) + 1 := i64_wrap (by omega) (by omega)
  have hc := cutS_length (l := l) (a := next) hel
  have hw2 : IntKind.i64.wrap ((next : Int) + ((cutS l next e).length : Int)) = (e : Int) := by rw [hc, i64_wrap (by omega) (by omega)]; omega
  simp only [nds] at hsub
  simp [lc, loopsOf, Try.f6, σ6, nds, intsL, hlt, hg, hsub, hw, hw2]
set_option maxHeartbeats 8000000 in
theorem covers_map (l : List Nd) (a : Int) (v : List Nd) (ks : List Nat) (Ks : List (List UInt8)) (hK : Ks ≠ []) (next i e : Nat) (m : Nd) (hi : ks[i]? = some (next + 1)) (hm : l[next]? = some m) (hKi : Ks[i]? = some m.text)
    (hlast : i = 0 ∨ ∃ j t, i = j + 1 ∧ Ks[j]? = some t ∧ ltB t m.text = true) (hks : ks.length ≤ 1000) (he : e ≤ 1000) (hne : next + 1 < e) (hel : e ≤ l.length)
    (hsub : ∀ d st, callV G cl d (.fn (.func 22) [] []) [nds l, .int .i64 ((next + 1 : Nat) : Int)] st = some (.val (nds (cutS l (next + 1) e)) st)) :
    rX 6 (lc Try.f6 0) (codeX G cl lp 6 (lc Try.f6 0) (σ6 l a v ks (.list 1 (strsL Ks)) next i)) = some (.normal, σ6 l a v ks (.list 1 (strsL Ks)) e (i + 1)) := by
  have hlt : i < ks.length := (List.getElem?_eq_some_iff.1 hi).1
  have hg : ks[i] = next + 1 := (List.getElem?_eq_some_iff.1 hi).2
  have hKl : 0 < Ks.length := by cases Ks with | nil => exact absurd rfl hK | cons _ _ => simp
  have hnl : next < l.length := by omega
  have hng : l[next] = m := (List.getElem?_eq_some_iff.1 hm).2
  have hw : IntKind.i64.wrap ((i : Int) + 1) = (i : Int) + 1 := i64_wrap (by omega) (by omega)
  have hw1 : IntKind.i64.wrap ((next : Int) + 1) = ((next + 1 : Nat) : Int) := by rw [i64_wrap (by omega) (by omega)]; omega
  have hc := cutS_length (l := l) (a := next + 1) hel
  have hw2 : IntKind.i64.wrap (((next + 1 : Nat) : Int) + ((cutS l (next + 1) e).length : Int)) = (e : Int) := by rw [hc, i64_wrap (by omega) (by omega)]; omega
  have hcast : ((next + 1 : Nat) : Int) = (next : Int) + 1 := by omega
  simp only [nds] at hsub
  rcases hlast with rfl | ⟨j, t, rfl, hj, htl⟩
  · cases Ks with
    | nil => exact absurd rfl hK
    | cons k0 Ks =>
      cases ks with
      | nil => simp at hlt
      | cons q0 ks =>
        simp only [List.getElem?_cons_zero, Option.some.injEq] at hKi hi
        subst hKi hi
        have hpos : (0 : Int) < (Ks.length : Int) + 1 := by omega
        have hpos2 : (0 : Int) < (ks.length : Int) + 1 := by omega
        have hw0 : IntKind.i64.wrap 1 = 1 := rfl
        simp only [hcast] at hsub hw1 hw2
        simp [lc, loopsOf, Try.f6, σ6, nds, intsL, strsL, hng, hnl, Nd.v, hw1, hsub, hw2, hw0, hpos, hpos2]
  · have hjl : j < Ks.length := (List.getElem?_eq_some_iff.1 hj).1
    have hj1 : j + 1 < Ks.length := (List.getElem?_eq_some_iff.1 hKi).1
    have hKi' : (strsL Ks)[(((j + 1 : Nat) : Int)).toNat]? = some (.str m.text) := by simp [strsL, hKi]
    have hj' : (strsL Ks)[j]? = some (.str t) := by simp [strsL, hj]
    have hki : (intsL ks)[(((j + 1 : Nat) : Int)).toNat]? = some (.int .i64 ((next + 1 : Nat) : Int)) := by simp [intsL, hi]
    have hw3 : IntKind.i64.wrap (((j + 1 : Nat) : Int) - 1) = (j : Int) := by rw [i64_wrap (by omega) (by omega)]; omega
    have hij0 : (0 : Int) < ((j + 1 : Nat) : Int) := by omega
    have hij1 : (0 : Int) ≤ ((j + 1 : Nat) : Int) := by omega
    have hlt' : ((j + 1 : Nat) : Int) < (ks.length : Int) := by omega
    have hcast2 : (((j + 1 + 1 : Nat)) : Int) = ((j + 1 : Nat) : Int) + 1 := by omega
    have hlS : (strsL Ks).length = Ks.length := by simp [strsL]
    have hlI : (intsL ks).length = ks.length := by simp [intsL]
    simp only [hcast] at hsub hw1 hw2 hki
    have e6 : σ6 l a v ks (.list 1 (strsL Ks)) e (j + 1 + 1) = ⟨[(0, nds l), (1, .int .i64 a), (5, .bool true), (7, nds v), (8, .list 1 (intsL ks)), (9, .list 1 (strsL Ks)), (10, .int .i64 e), (11, .int .i64 (((j + 1 : Nat) : Int) + 1))], []⟩ := by
      unfold σ6; rw [hcast2]
    rw [e6]
    unfold σ6
    generalize ((j + 1 : Nat) : Int) = I at *
    have hkg := (List.getElem?_eq_some_iff.1 hki).2
    simp [lc, loopsOf, Try.f6, nds, hkg, hlt', hKi', hj', hki, hlS, hlI, hng, hnl, Nd.v, hw, hw1, hw3, hsub, hw2, hij0, hij1, hKl, htl]

def σ6e (l : List Nd) (a : Int) (v : List Nd) (ks : List Nat) (K : AV) (next : Nat) : ASt :=
  ⟨[(0, nds l), (1, .int .i64 a), (5, .bool true), (7, nds v), (8, .list 1 (intsL ks)), (9, K), (10, .int .i64 next), (11, .int .i64 ks.length), (81, .bool false)], []⟩
theorem covers_exit (l : List Nd) (a : Int) (v : List Nd) (ks : List Nat) (K : AV) (next : Nat) :
    rX 6 (lc Try.f6 0) (codeX G cl lp 6 (lc Try.f6 0) (σ6 l a v ks K next ks.length)) = some (.exit 0, σ6e l a v ks K next) := by
  simp [lc, loopsOf, Try.f6, σ6, σ6e, nds, intsL]

theorem there_in {l : List Nd} (hc : checkS l = 0) {p : Nat} (hp : p < l.length) : thereS l (p : Int) = true := by
  unfold thereS; simp [hc, hp]
theorem sub_at {l : List Nd} (hr : ∀ n ∈ l, n.inR) (hc : checkS l = 0) {k p : Nat} {kid : Span} (hk : k ≤ l.length + 1) (h : valS l k p = some kid) : subS l (p : Int) = some (cutS l p kid.stop) := by
  have h2 := valS_spec h
  unfold subS
  rw [there_in hc (by omega), if_pos rfl, Int.toNat_natCast, valS_mono h hk]; rfl
theorem sub_at_call {l : List Nd} (hr : ∀ n ∈ l, n.inR) (hc : checkS l = 0) {k p : Nat} {kid : Span} (hk : k ≤ l.length + 1) (h : valS l k p = some kid) (d : Option Nat) (st : ASt) :
    callV G cl d (.fn (.func 22) [] []) [nds l, .int .i64 (p : Int)] st = some (.val (nds (cutS l p kid.stop)) st) := by
  have := sub_call (l := l) (by have := (checkS_ok hc).1; omega) hr (a := (p : Int)) (d := d) (st := st)
  rw [sub_at hr hc hk h] at this; exact this

theorem keyS_map {l : List Nd} {i stop : Nat} {last : List UInt8} {p : Nat × List UInt8} (h : keyS l true i stop last = some p) : ∃ m, l[stop]? = some m ∧ p = (stop + 1, m.text) ∧ m.kind = 3 ∧ fitsS m = true ∧ (i = 0 ∨ ltB last m.text = true) := by
  unfold keyS at h
  simp only [if_true] at h
  split at h
  · rename_i m hm
    split at h
    · rename_i hc
      cases h
      exact ⟨m, hm, rfl, hc.1, hc.2.1, hc.2.2⟩
    · cases h
  · cases h
theorem covers_loop (l : List Nd) (hr : ∀ n ∈ l, n.inR) (hc : checkS l = 0) (a : Int) (v : List Nd) (k : Nat) (hk : k ≤ l.length + 1) (m : Bool) (r : Span) (hgk : goodK l r.kids) : ∀ (c i : Nat) (s : Span) (last : List UInt8), kidsS (valS l k) l m c i s last = some r → s.kids.length = i →
    (m = true → i = 0 ∨ ∃ j, i = j + 1 ∧ (textsS l r.kids)[j]? = some last) →
    lp 6 (lc Try.f6 0) (σ6 l a v r.kids (strsV (if m then textsS l r.kids else [])) s.stop i) = some (.exit 0, σ6e l a v r.kids (strsV (if m then textsS l r.kids else [])) r.stop) := by
  intro c
  induction c with
  | zero =>
    intro i s last h hi hl
    cases h
    subst hi
    exact loop_out (covers_exit l a v r.kids _ r.stop) (by simp)
  | succ c ih =>
    intro i s last h hi hl
    have hlen := (checkS_ok hc).1
    simp only [kidsS] at h
    rw [Option.bind_eq_some_iff] at h; obtain ⟨p, hp, h⟩ := h
    rw [Option.bind_eq_some_iff] at h; obtain ⟨kid, hkid, h⟩ := h
    obtain ⟨g1, g2, g3⟩ := valS_spec hkid
    obtain ⟨t, ht, _⟩ := kidsS_pre h
    simp only at ht
    have hki : r.kids[i]? = some p.1 := by
      rw [ht, List.append_assoc, List.getElem?_append_right (by omega), hi]; simp
    cases m with
    | false =>
      have hp1 : p.1 = s.stop := by unfold keyS at hp; simp only [Bool.false_eq_true, if_false] at hp; cases hp; rfl
      rw [hp1] at hkid hki g1
      have h1 := covers_plain l a v r.kids s.stop i kid.stop hki hgk.1 (by omega) g1 g2 (sub_at_call hr hc hk hkid)
      exact loop_next h1 (ih (i + 1) ⟨kid.stop, max s.deep kid.deep, s.kids ++ [p.1]⟩ p.2 h (by simp [hi]) (fun e => by cases e))
    | true =>
      obtain ⟨n, hn, rfl, _, _, hlt⟩ := keyS_map hp
      simp only at hki hkid g1 h
      have hne : textsS l r.kids ≠ [] := by
        intro e
        have : r.kids.length = 0 := by have := congrArg List.length e; simpa [textsS] using this
        rw [List.eq_nil_of_length_eq_zero this] at hki; simp at hki
      have hKi : (textsS l r.kids)[i]? = some n.text := by
        unfold textsS; rw [List.getElem?_map, hki]; simp [hn]
      have e : strsV (if true = true then textsS l r.kids else []) = .list 1 (strsL (textsS l r.kids)) := by
        unfold strsV; rw [if_pos rfl, if_neg hne]
      rw [e] at ih ⊢
      have h1 := covers_map l a v r.kids (textsS l r.kids) hne s.stop i kid.stop n hki hn hKi (by
        rcases hl rfl with h0 | ⟨j, hj, hjt⟩
        · exact .inl h0
        · exact .inr ⟨j, last, hj, hjt, hlt.resolve_left (by omega)⟩) hgk.1 (by omega) g1 g2 (sub_at_call hr hc hk hkid)
      exact loop_next h1 (ih (i + 1) ⟨kid.stop, max s.deep kid.deep, s.kids ++ [s.stop + 1]⟩ n.text h (by simp [hi]) (fun _ => .inr ⟨i, rfl, hKi⟩))

theorem tsame_call {a b : List Nd} (hb : a.length ≤ 9223372036854775806) {d : Option Nat} {st : ASt} : callV G cl d (.fn (.func 21) [] []) [nds a, nds b] st = some (.val (.bool (decide (a = b))) st) :=
  callV_ret E21 (by decide) ext21 rfl rfl (tsame_eq a b hb) rfl
theorem valS_map {l : List Nd} {k a : Nat} {s : Span} (h : valS l (k + 1) a = some s) : ∃ n r, l[a]? = some n ∧ fitsS n = true ∧ kidsS (valS l k) l (mapAt l a) n.kids.toNat 0 ⟨a + 1, 0, []⟩ [] = some r ∧ s = { r with deep := r.deep + 1 } := by
  rw [valS, Option.bind_eq_some_iff] at h
  obtain ⟨n, hn, h⟩ := h
  split at h
  · rename_i hf
    obtain ⟨r, hr, rfl⟩ := Option.map_eq_some_iff.1 h
    refine ⟨n, r, hn, hf, ?_, rfl⟩
    unfold mapAt
    rw [hn]; exact hr
  · cases h
set_option maxHeartbeats 8000000 in
theorem covers_eq (l : List Nd) (hr : ∀ n ∈ l, n.inR) (a : Int) : cl 6 [nds l, .int .i64 a] [] = some (.ret (.bool true), []) := by
  refine fn_intro Try.func6 rfl (by simp) (by decide) rfl ?_
  cases h1 : fewS l with
  | false =>
    simp [Try.f6, works_call, few_call, h1]
    exact end_is (.inr rfl) (by simp; rfl) rfl rfl
  | true =>
    have l1 := fewS_len h1
    have c19 : ∀ d st, callV G cl d (.fn (.func 19) [] []) [nds l] st = some (.val (.int .i64 (checkS l)) st) := fun d st => check_call (by omega) hr
    have c15 : ∀ d st, callV G cl d (.fn (.func 15) [] []) [nds l] st = some (.val (.bool true) st) := fun d st => by rw [few_call, h1]
    simp only [nds] at c15 c19 ⊢
    by_cases hc : checkS l = 0
    case neg =>
      simp [Try.f6, works_call, c15, c19, hc]
      exact end_is (.inr rfl) (by simp; rfl) rfl rfl
    by_cases ha : a < 0
    · simp [Try.f6, works_call, c15, c19, hc, ha]
      exact end_is (.inr rfl) (by simp; rfl) rfl rfl
    by_cases hb : (l.length : Int) ≤ a
    · simp [Try.f6, works_call, c15, c19, hc, ha, hb]
      exact end_is (.inr rfl) (by simp; rfl) rfl rfl
    obtain ⟨k, rfl⟩ : ∃ k : Nat, a = k := ⟨a.toNat, by omega⟩
    have hlt : k < l.length := by omega
    have hlen := (checkS_ok hc).1
    obtain ⟨S, h2, h3, h4⟩ := checkS_inner hc hlt
    obtain ⟨g1, _, _⟩ := valS_spec h2
    obtain ⟨n, r, hn, hf, hkids, rfl⟩ := valS_map h2
    simp only at g1 h3 h4
    have hgk := valS_goodK (by omega) h2
    simp only at hgk
    have hv := cutS_length (l := l) (a := k) h3
    have hvr : ∀ n ∈ cutS l k r.stop, n.inR := fun n hn => hr n (cutS_mem hn)
    have hvc : checkS (cutS l k r.stop) = 0 := cutS_check (s := ⟨r.stop, r.deep + 1, r.kids⟩) h2 hc h4
    have c22 := sub_at_call hr hc (Nat.le_refl _) h2
    have c25 : ∀ d st, callV G cl d (.fn (.func 25) [] []) [nds l, .int .i64 (k : Int)] st = some (.val (.list 1 (intsL r.kids)) st) := fun d st => by
      have := kids_call (l := l) (by omega) hr (a := (k : Int)) (d := d) (st := st)
      unfold kidsAt at this
      rw [there_in hc hlt, if_pos rfl, Int.toNat_natCast, h2] at this; exact this
    have hK : keysAt l k = if mapAt l k then textsS l r.kids else [] := by
      unfold keysAt
      rw [there_in hc hlt, Int.toNat_natCast, h2]
      simp
    have c28 : ∀ d st, callV G cl d (.fn (.func 28) [] []) [nds l, .int .i64 (k : Int)] st = some (.val (strsV (if mapAt l k then textsS l r.kids else [])) st) := fun d st => by
      have := keys_call (l := l) (by omega) hr (a := (k : Int)) (d := d) (st := st)
      rw [hK] at this; exact this
    have c19v : ∀ d st, callV G cl d (.fn (.func 19) [] []) [nds (cutS l k r.stop)] st = some (.val (.int .i64 0) st) := fun d st => by
      have := check_call (l := cutS l k r.stop) (by omega) hvr (d := d) (st := st)
      rw [hvc] at this; exact this
    have c21 : ∀ d st, callV G cl d (.fn (.func 21) [] []) [nds (cutS l k r.stop), .list 4 (((l.map Nd.v).take r.stop).drop k)] st = some (.val (.bool true) st) := fun d st => by
      have := tsame_call (a := cutS l k r.stop) (b := cutS l k r.stop) (by omega) (d := d) (st := st)
      rw [decide_eq_true rfl] at this
      rw [← nds_cut]; exact this
    have hw1 : IntKind.i64.wrap ((k : Int) + 1) = ((k + 1 : Nat) : Int) := by rw [i64_wrap (by omega) (by omega)]; omega
    have hw2 : IntKind.i64.wrap ((k : Int) + ((cutS l k r.stop).length : Int)) = (r.stop : Int) := by rw [hv, i64_wrap (by omega) (by omega)]; omega
    have hvz : ¬ cutS l k r.stop = [] := cutS_ne g1 h3
    have hloop := covers_loop l hr hc k (cutS l k r.stop) l.length (by omega) (mapAt l k) r hgk n.kids.toNat 0 ⟨k + 1, 0, []⟩ [] hkids rfl (fun _ => .inl rfl)
    have e1 : k ≤ r.stop := by omega
    generalize hKs : (if mapAt l k then textsS l r.kids else []) = Ks at *
    have hKl : Ks = [] ∨ Ks.length = r.kids.length := by
      rw [← hKs]; cases mapAt l k <;> simp [textsS]
    cases Ks with
    | nil =>
      simp [lc, loopsOf, Try.f6, σ6, strsV] at hloop
      simp only [nds] at c22 c25 c28 c19v c21 hloop
      have ha' : ¬ (k : Int) < 0 := by omega
      have hlt' : ¬ l.length ≤ k := by omega
      have es : strsV [] = .nils := rfl
      simp [Try.f6, works_call, c15, c19, hc, ha', hlt', c22, c25, c28, c19v, c21, hw1, hw2, hvz, e1, h3, es, hloop, σ6e, nds]
      exact end_is (.inr rfl) (by simp; rfl) rfl rfl
    | cons q Ks =>
      have hKl' : Ks.length + 1 = r.kids.length := by simpa using hKl
      have hSl : (strsL (q :: Ks)).length = r.kids.length := by rw [← hKl']; simp [strsL]
      have hIl : (intsL r.kids).length = r.kids.length := by simp [intsL]
      have hpos : 0 < r.kids.length := by omega
      have es : strsV (q :: Ks) = .list 1 (strsL (q :: Ks)) := rfl
      simp [lc, loopsOf, Try.f6, σ6, es] at hloop
      simp only [nds] at c22 c25 c28 c19v c21 hloop
      have ha' : ¬ (k : Int) < 0 := by omega
      have hlt' : ¬ l.length ≤ k := by omega
      simp [Try.f6, works_call, c15, c19, hc, ha', hlt', c22, c25, c28, c19v, c21, hw1, hw2, hvz, e1, h3, es, hloop, σ6e, nds, hSl, hIl, hpos]
      exact end_is (.inr rfl) (by simp; rfl) rfl rfl
end Go.Proofs.Ytonaejfpiihfhaa
