/- What the functions come to: tree.value. -/
import Derived.Test.YtonaejfpiihfhaaS5
namespace Go.Proofs.Ytonaejfpiihfhaa
open Go Abs
set_option linter.unusedSimpArgs false
set_option linter.unusedVariables false

/-- Where a kid begins; of a map behind its key. -/
def keyS (l : List Nd) (isMap : Bool) (i : Nat) (stop : Nat) (last : List UInt8) : Option (Nat × List UInt8) :=
  if isMap then (match l[stop]? with
    | some k => if k.kind = 3 ∧ fitsS k = true ∧ (i = 0 ∨ ltB last k.text = true) then some (stop + 1, k.text) else none
    | none => none)
  else some (stop, last)
def kidsS (val : Nat → Option Span) (l : List Nd) (isMap : Bool) : Nat → Nat → Span → List UInt8 → Option Span
  | 0, _, s, _ => some s
  | c + 1, i, s, last => (keyS l isMap i s.stop last).bind fun p => (val p.1).bind fun kid => kidsS val l isMap c (i + 1) ⟨kid.stop, max s.deep kid.deep, s.kids ++ [p.1]⟩ p.2
/-- The value at a place, gone through. -/
def valS (l : List Nd) : Nat → Nat → Option Span
  | 0, _ => none
  | k + 1, at_ => (l[at_]?).bind fun n => if fitsS n then (kidsS (valS l k) l (decide (n.kind = 5)) n.kids.toNat 0 ⟨at_ + 1, 0, []⟩ []).map fun s => { s with deep := s.deep + 1 } else none

theorem keyS_ge {l : List Nd} {b i stop last p} (h : keyS l b i stop last = some p) : stop ≤ p.1 := by
  unfold keyS at h
  split at h
  · split at h
    · split at h
      · cases h; simp
      · cases h
    · cases h
  · cases h; simp
theorem kidsS_spec {val : Nat → Option Span} {l : List Nd} {b : Bool} {A : Nat} (hv : ∀ st s, val st = some s → st < s.stop ∧ s.stop ≤ l.length ∧ s.deep + st ≤ s.stop) : ∀ {c i s last r}, kidsS val l b c i s last = some r → s.stop ≤ l.length → A ≤ s.stop → s.deep + A ≤ s.stop → s.stop ≤ r.stop ∧ r.stop ≤ l.length ∧ r.deep + A ≤ r.stop := by
  intro c
  induction c with
  | zero => intro i s last r h h1 h2 h3; cases h; exact ⟨Nat.le_refl _, h1, h3⟩
  | succ c ih =>
    intro i s last r h h1 h2 h3
    simp only [kidsS] at h
    rw [Option.bind_eq_some_iff] at h; obtain ⟨p, hp, h⟩ := h
    rw [Option.bind_eq_some_iff] at h; obtain ⟨kid, hk, h⟩ := h
    obtain ⟨g1, g2, g3⟩ := hv _ _ hk
    have := keyS_ge hp
    obtain ⟨k1, k2, k3⟩ := ih h g2 (by simp only; omega) (by simp only; omega)
    simp only at k1
    exact ⟨by omega, k2, k3⟩
theorem valS_spec {l : List Nd} : ∀ {k at_ s}, valS l k at_ = some s → at_ < s.stop ∧ s.stop ≤ l.length ∧ s.deep + at_ ≤ s.stop := by
  intro k
  induction k with
  | zero => intro at_ s h; cases h
  | succ k ih =>
    intro at_ s h
    simp only [valS] at h
    rw [Option.bind_eq_some_iff] at h; obtain ⟨n, hn, h⟩ := h
    split at h
    · obtain ⟨r, hr, rfl⟩ := Option.map_eq_some_iff.1 h
      have hlt := (List.getElem?_eq_some_iff.1 hn).1
      obtain ⟨h1, h2, h3⟩ := kidsS_spec (A := at_ + 1) (fun st s hs => ih hs) hr (by simp only; omega) (by simp) (by simp)
      simp only at h1 ⊢
      exact ⟨by omega, h2, by omega⟩
    · cases h

/-- What 'value' is told as. -/
def valR : Option Span → ARes
  | some s => .ret (spanV s)
  | none => .pan oddV

theorem value_loop (l : List Nd) (hl : l.length ≤ 900) (k at_ : Nat) (n : Nd) (hn : l[at_]? = some n) (hkb : n.kids ≤ 9223372036854775807)
    (ih : ∀ st, at_ < st → cl 51 [nds l, .int .i64 (st : Int)] [] = some (valR (valS l k st), [])) : ∀ (c i : Nat) (s : Span) (last : List UInt8) (mv : Bool), i + c = n.kids.toNat → at_ < s.stop → s.stop ≤ l.length → s.kids.length ≤ s.stop →
    match kidsS (valS l k) l (decide (n.kind = 5)) c i s last with
    | some sp => ∃ mv' last' i', lp 51 (lc Try.f51 0) (valσ l at_ s last i mv) = some (.exit 0, valE l at_ sp last' i' mv')
    | none => ∃ s', lp 51 (lc Try.f51 0) (valσ l at_ s last i mv) = some (.pan oddV, s') := by
  have call : ∀ st : Nat, at_ < st → ∀ d (w : ASt), callV G cl d (.fn (.func 51) [] []) [nds l, .int .i64 (st : Int)] w = some (pureR w (valR (valS l k st))) := by
    intro st hst d w
    refine callV_pure E51 (by decide) ext51 rfl rfl (ih st hst) ?_
    cases valS l k st <;> rfl
  intro c
  induction c with
  | zero =>
    intro i s last mv hi h1 h2 h3
    exact ⟨mv, last, i, loop_out (value_exit l at_ n hn s last i mv (by omega)) (by simp)⟩
  | succ c ihc =>
    intro i s last mv hi h1 h2 h3
    have hi' : (i : Int) < n.kids := by omega
    have hL : s.kids.length ≤ 1000 := by omega
    simp only [kidsS]
    by_cases hk : n.kind = 5
    · simp only [hk, decide_true] at ihc ⊢
      cases hm : l[s.stop]? with
      | none =>
        simp only [keyS, hm, if_true, Option.bind_none]
        obtain ⟨s', h⟩ := value_map_end l at_ n hn hk s last i mv hi' hm
        exact ⟨s', loop_out h (by simp)⟩
      | some m =>
        simp only [keyS, hm, if_true]
        by_cases hc : m.kind = 3 ∧ fitsS m = true ∧ (i = 0 ∨ ltB last m.text = true)
        · obtain ⟨c1, c2, c3⟩ := hc
          rw [if_pos ⟨c1, c2, c3⟩]
          simp only [Option.bind_some]
          have hcall := call (s.stop + 1) (by omega)
          cases hv : valS l k (s.stop + 1) with
          | none =>
            rw [hv] at hcall
            obtain ⟨s', h⟩ := value_map_pan l at_ n hn hk s last i mv hi' hL m hm c1 c2 c3 (by omega) (fun d st => hcall d st)
            exact ⟨s', loop_out h (by simp)⟩
          | some kid =>
            rw [hv] at hcall
            have h := value_map l at_ n hn hk s last i mv hi' hkb hL m hm c1 c2 c3 (by omega) kid (fun d st => hcall d st)
            obtain ⟨g1, g2, g3⟩ := valS_spec hv
            have := ihc (i + 1) ⟨kid.stop, max s.deep kid.deep, s.kids ++ [s.stop + 1]⟩ m.text true (by omega) (by simp only; omega) g2 (by simp; omega)
            simp only [Option.bind_some]
            split at this
            · rename_i sp hsp
              obtain ⟨mv', last', i', hr⟩ := this
              exact ⟨mv', last', i', loop_next h hr⟩
            · rename_i hsp
              obtain ⟨s', hr⟩ := this
              exact ⟨s', loop_next h hr⟩
        · rw [if_neg hc]
          simp only [Option.bind_none]
          have hbad : m.kind ≠ 3 ∨ (m.kind = 3 ∧ fitsS m = false) ∨ (m.kind = 3 ∧ fitsS m = true ∧ i ≠ 0 ∧ ltB last m.text = false) := by
            by_cases q1 : m.kind = 3
            · cases q2 : fitsS m with
              | false => exact .inr (.inl ⟨q1, rfl⟩)
              | true =>
                by_cases q3 : i = 0
                · exact absurd ⟨q1, q2, .inl q3⟩ hc
                · cases q4 : ltB last m.text with
                  | true => exact absurd ⟨q1, q2, .inr q4⟩ hc
                  | false => exact .inr (.inr ⟨q1, rfl, q3, rfl⟩)
            · exact .inl q1
          obtain ⟨s', h⟩ := value_map_bad l at_ n hn hk s last i mv hi' m hm hbad
          exact ⟨s', loop_out h (by simp)⟩
    · simp only [hk, decide_false] at ihc ⊢
      simp only [keyS, Bool.false_eq_true, if_false, Option.bind_some]
      have hcall := call s.stop h1
      cases hv : valS l k s.stop with
      | none =>
        rw [hv] at hcall
        obtain ⟨s', h⟩ := value_plain_pan l at_ n hn hk s last i mv hi' hL (fun d st => hcall d st)
        exact ⟨s', loop_out h (by simp)⟩
      | some kid =>
        rw [hv] at hcall
        have h := value_plain l at_ n hn hk s last i mv hi' hkb hL kid (fun d st => hcall d st)
        obtain ⟨g1, g2, g3⟩ := valS_spec hv
        have := ihc (i + 1) ⟨kid.stop, max s.deep kid.deep, s.kids ++ [s.stop]⟩ last true (by omega) (by simp only; omega) g2 (by simp; omega)
        simp only [Option.bind_some]
        split at this
        · rename_i sp hsp
          obtain ⟨mv', last', i', hr⟩ := this
          exact ⟨mv', last', i', loop_next h hr⟩
        · rename_i hsp
          obtain ⟨s', hr⟩ := this
          exact ⟨s', loop_next h hr⟩

-- What a loop's head is unfolded by, where there is memory.
attribute [local simp] canonK canonAll canonSlot canonCell canonBox ownStep restrictTo pureCells pureRows reachL AObj.names List.range_succ appendA spanV intsL valσ nds Nd.v

def Nd.inR (n : Nd) : Prop := -9223372036854775808 ≤ n.num ∧ n.num ≤ 9223372036854775807 ∧ -9223372036854775808 ≤ n.kids ∧ n.kids ≤ 9223372036854775807

theorem fits_kids {n : Nd} (h : fitsS n = true) : 0 ≤ n.kids := by
  unfold fitsS at h
  split at h
  · simp at h; omega
  split at h
  · simp at h; omega
  split at h
  · simp at h; omega
  split at h
  · simp at h; omega
  split at h
  · simp at h; omega
  · cases h

set_option maxHeartbeats 8000000 in
theorem value_beyond (l : List Nd) (at_ : Nat) (h : l[at_]? = none) : cl 51 [nds l, .int .i64 (at_ : Int)] [] = some (.pan oddV, []) := by
  have h1 : ¬ (at_ : Int) < l.length := by have := List.getElem?_eq_none_iff.1 h; omega
  refine fn_intro Try.func51 rfl (by simp) (by decide) rfl ?_
  simp [Try.f51, h1, need_call_f]
  exact end_pan rfl
set_option maxHeartbeats 8000000 in
theorem value_bad (l : List Nd) (at_ : Nat) (n : Nd) (hn : l[at_]? = some n) (hf : fitsS n = false) : cl 51 [nds l, .int .i64 (at_ : Int)] [] = some (.pan oddV, []) := by
  have h1 : (at_ : Int) < l.length := by have := (List.getElem?_eq_some_iff.1 hn).1; omega
  refine fn_intro Try.func51 rfl (by simp) (by decide) rfl ?_
  simp [Try.f51, h1, hn, hf, need_call_f, fits_call]
  exact end_pan rfl
set_option maxHeartbeats 8000000 in
theorem value_eq (l : List Nd) (hl : l.length ≤ 900) (hr : ∀ n ∈ l, n.inR) : ∀ (k at_ : Nat), l.length < at_ + k → cl 51 [nds l, .int .i64 (at_ : Int)] [] = some (valR (valS l k at_), []) := by
  intro k
  induction k with
  | zero =>
    intro at_ h
    exact value_beyond l at_ (List.getElem?_eq_none_iff.2 (by omega))
  | succ k ih =>
    intro at_ h
    simp only [valS]
    cases hn : l[at_]? with
    | none => exact value_beyond l at_ hn
    | some n =>
      simp only [Option.bind_some]
      cases hf : fitsS n with
      | false => exact value_bad l at_ n hn hf
      | true =>
        have hlt := (List.getElem?_eq_some_iff.1 hn).1
        have hnr := hr n (List.mem_of_getElem? hn)
        have h1 : (at_ : Int) < l.length := by omega
        have hw : IntKind.i64.wrap ((at_ : Int) + 1) = (at_ : Int) + 1 := i64_wrap (by omega) (by omega)
        have hloop := value_loop l hl k at_ n hn hnr.2.2.2 (fun st hst => ih st (by omega)) n.kids.toNat 0 ⟨at_ + 1, 0, []⟩ [] false (by omega) (by simp) (by simp only; omega) (by simp)
        have hbd : ∀ r, kidsS (valS l k) l (decide (n.kind = 5)) n.kids.toNat 0 ⟨at_ + 1, 0, []⟩ [] = some r → r.deep ≤ 900 := fun r hr => by
          obtain ⟨_, q1, q2⟩ := kidsS_spec (A := at_ + 1) (fun st s hs => valS_spec hs) hr (by simp only; omega) (by simp) (by simp)
          omega
        refine fn_intro Try.func51 rfl (by simp) (by decide) rfl ?_
        cases hks : kidsS (valS l k) l (decide (n.kind = 5)) n.kids.toNat 0 ⟨at_ + 1, 0, []⟩ [] with
        | none =>
          rw [hks] at hloop
          obtain ⟨s', hx⟩ := hloop
          simp [lc, loopsOf, Try.f51] at hx
          simp [Try.f51, h1, hn, hf, need_call_t, fits_call, hw, hx, valR]
          exact end_pan rfl
        | some sp =>
          rw [hks] at hloop
          obtain ⟨mv', last', i', hx⟩ := hloop
          have hd := hbd sp hks
          simp [lc, loopsOf, Try.f51] at hx
          have hw2 : IntKind.i64.wrap ((sp.deep : Int) + 1) = (sp.deep : Int) + 1 := i64_wrap (by omega) (by omega)
          simp [Try.f51, h1, hn, hf, need_call_t, fits_call, hw, hx, valR, valE, hw2]
          exact end_rv (.inr rfl) (by simp [resL]; rfl) (by simp) (by simp) rfl
end Go.Proofs.Ytonaejfpiihfhaa
