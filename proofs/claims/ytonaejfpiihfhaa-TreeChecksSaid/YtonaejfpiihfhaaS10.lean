/- What the functions come to: the document's value; nodes that may be, either way. -/
import Derived.Test.YtonaejfpiihfhaaS9
namespace Go.Proofs.Ytonaejfpiihfhaa
open Go Abs
set_option linter.unusedSimpArgs false
set_option linter.unusedVariables false

theorem andNot1 {a : Int} (h1 : -9223372036854775808 ≤ a) (h2 : a ≤ 9223372036854775807) : wAndNot .i64 a 1 = 0 ↔ a = 0 ∨ a = 1 := by
  have hbits : IntKind.i64.bits = 64 := rfl
  unfold wAndNot
  rw [hbits]
  have key : ∀ x : BitVec 64, x &&& ~~~(1#64) = 0#64 → x.toNat ≤ 1 := by
    intro x hx
    have e : x = (x &&& 1#64) ||| (x &&& ~~~(1#64)) := by
      ext i hi
      simp only [BitVec.getElem_or, BitVec.getElem_and, BitVec.getElem_not]
      cases x[i] <;> cases (1#64)[i] <;> rfl
    rw [hx, BitVec.or_zero] at e
    have : x.toNat = x.toNat &&& 1 := by
      conv => lhs; rw [e]
      simp
    rw [Nat.and_one_is_mod] at this
    omega
  constructor
  · intro h
    have hlt := (BitVec.ofInt 64 a &&& ~~~BitVec.ofInt 64 1).isLt
    rw [IntKind.wrap_i64] at h
    have h0 : (BitVec.ofInt 64 a &&& ~~~BitVec.ofInt 64 1).toNat = 0 := by omega
    have hz : BitVec.ofInt 64 a &&& ~~~(1#64) = 0#64 := by
      apply BitVec.eq_of_toNat_eq
      simpa using h0
    have := key _ hz
    rw [BitVec.toNat_ofInt] at this
    omega
  · rintro (rfl | rfl) <;> rfl

theorem fits_plain {n : Nd} (h : n.inR) : fitsS n = plainS n := by
  obtain ⟨k, nu, t, c⟩ := n
  obtain ⟨h1, h2, h3, h4⟩ := h
  simp only at h1 h2 h3 h4
  unfold fitsS plainS
  simp only
  have hcc : (decide (c = 0) || decide (0 < c)) = decide (0 ≤ c) := by
    rw [← Bool.decide_or]; congr 1; apply propext; omega
  by_cases k1 : k = 1
  · subst k1
    have : decide (wAndNot .i64 nu 1 = 0) = (decide (nu = 0) || decide (nu = 1)) := by
      rw [← Bool.decide_or]; congr 1; exact propext (andNot1 h1 h2)
    simp [this]
  by_cases k0 : k = 0
  · subst k0; simp
  by_cases k2 : k = 2
  · subst k2; simp
  by_cases k3 : k = 3
  · subst k3; simp
  by_cases k4 : k = 4
  · subst k4; simp [hcc]
  by_cases k5 : k = 5
  · subst k5; simp [hcc]
  have : ¬ (0 ≤ k ∧ k ≤ 5) := by omega
  simp only [k1, k0, k2, k3, k4, k5, if_false, or_self, decide_false]
  by_cases q : 0 ≤ k
  · have q' : ¬ k ≤ 5 := fun h => this ⟨q, h⟩
    simp [q']
  · simp [q]

/-- What the document's value is told as. -/
def seenR (r : Option Span) (v : AV) : Prop :=
  match r with
  | some s => ∃ keys, v = seenV s.stop s.deep false s.kids keys
  | none => ∃ a d ks qs, v = seenV a d true ks qs

theorem seen_bad (l : List Nd) (a : Int) (n : Option Nd) (hn : a < 0 ∨ (0 ≤ a ∧ l[a.toNat]? = n)) (hb : a < 0 ∨ n = none ∨ ∃ m, n = some m ∧ plainS m = false) : cl 47 [nds l, .int .i64 a] [] = some (.ret (seenV 0 0 true [] []), []) := by
  refine fn_intro Try.func47 rfl (by simp) (by decide) rfl ?_
  by_cases h0 : a < 0
  · simp [Try.f47, h0]
    exact end_rv (.inr rfl) (by simp [resL]; rfl) (by simp) (by simp; rfl) rfl
  obtain ⟨h0', hn⟩ := hn.resolve_left h0
  rcases hb.resolve_left h0 with rfl | ⟨m, rfl, hm⟩
  · have h2 : (l.length : Int) ≤ a := by have := List.getElem?_eq_none_iff.1 hn; omega
    simp [Try.f47, h0, h2, nds]
    exact end_rv (.inr rfl) (by simp [resL]; rfl) (by simp) (by simp; rfl) rfl
  · have h2 : ¬ (l.length : Int) ≤ a := by have := (List.getElem?_eq_some_iff.1 hn).1; omega
    simp [Try.f47, h0, h0', h2, nds, hn, Nd.v, plain_call, hm]
    exact end_rv (.inr rfl) (by simp [resL]; rfl) (by simp) (by simp; rfl) rfl

def lastOK (l : List Nd) (keys : List Nat) (i : Nat) (last : List UInt8) : Prop := keys.length = i ∧ (i = 0 ∨ ∃ j q b, i = j + 1 ∧ keys[j]? = some q ∧ l[q]? = some b ∧ b.text = last)

theorem seen_loop (l : List Nd) (hl : l.length ≤ 900) (hr : ∀ n ∈ l, n.inR) (k at_ : Nat) (n : Nd) (hn : l[at_]? = some n) (hkb : n.kids ≤ 9223372036854775807)
    (ih : ∀ st, at_ < st → ∃ v, cl 47 [nds l, .int .i64 (st : Int)] [] = some (.ret v, []) ∧ seenR (valS l k st) v) : ∀ (c i : Nat) (s : Span) (keys : List Nat) (last : List UInt8), i + c = n.kids.toNat → at_ < s.stop → s.stop ≤ l.length → s.kids.length ≤ s.stop → (n.kind = 5 → lastOK l keys i last ∧ keys.length ≤ s.stop) →
    match kidsS (valS l k) l (decide (n.kind = 5)) c i s last with
    | some sp => ∃ keys' i', lp 47 (lc Try.f47 0) (seenσ l at_ s.stop s.deep false s.kids keys i) = some (.exit 0, seenE l at_ sp.stop sp.deep false sp.kids keys' i')
    | none => (∃ b, lp 47 (lc Try.f47 0) (seenσ l at_ s.stop s.deep false s.kids keys i) = some (.ret, ⟨[(4, .ptr 1004 0 0)], [(1004, .box (.agg [.int .i64 0, .int .i64 0, .bool true, .nils, .nils])), (1005, .box b)]⟩)) ∨
        ∃ a d ks qs i', lp 47 (lc Try.f47 0) (seenσ l at_ s.stop s.deep false s.kids keys i) = some (.exit 0, seenE l at_ a d true ks qs i') := by
  have call : ∀ st : Nat, at_ < st → ∃ v, (∀ d (w : ASt), callV G cl d (.fn (.func 47) [] []) [nds l, .int .i64 (st : Int)] w = some (.val v w)) ∧ seenR (valS l k st) v := by
    intro st hst
    obtain ⟨v, h1, h2⟩ := ih st hst
    refine ⟨v, fun d w => callV_ret E47 (by decide) ext47 rfl rfl h1 ?_, h2⟩
    unfold seenR at h2
    split at h2
    · obtain ⟨_, rfl⟩ := h2; simp [seenV]
    · obtain ⟨_, _, _, _, rfl⟩ := h2; simp [seenV]
  intro c
  induction c with
  | zero =>
    intro i s keys last hi h1 h2 h3 h4
    exact ⟨keys, i, loop_out (seen_exit l at_ n hn s.stop s.deep false s.kids keys i (.inl (by omega))) (by simp)⟩
  | succ c ihc =>
    intro i s keys last hi h1 h2 h3 h4
    have hi' : (i : Int) < n.kids := by omega
    have hL : s.kids.length ≤ 1000 := by omega
    simp only [kidsS]
    by_cases hk : n.kind = 5
    · obtain ⟨⟨hlo1, hlo⟩, hkl⟩ := h4 hk
      simp only [hk, decide_true] at ihc ⊢
      simp only [keyS, if_true]
      cases hm : l[s.stop]? with
      | none =>
        simp only [Option.bind_none]
        exact .inl ⟨_, loop_out (seen_map_bad l at_ n hn hk s.stop s.deep s.kids keys i hi' hkb (.inl hm)) (by simp)⟩
      | some m =>
        simp only []
        have hmr : fitsS m = plainS m := fits_plain (hr m (List.mem_of_getElem? hm))
        by_cases hc : m.kind = 3 ∧ fitsS m = true ∧ (i = 0 ∨ ltB last m.text = true)
        · obtain ⟨c1, c2, c3⟩ := hc
          rw [if_pos ⟨c1, c2, c3⟩]
          simp only [Option.bind_some]
          have hml : i = 0 ∨ ∃ j q b, i = j + 1 ∧ keys[j]? = some q ∧ l[q]? = some b ∧ ltB b.text m.text = true := by
            rcases hlo with hz | ⟨j, q, b, q1, q2, q3, q4⟩
            · exact .inl hz
            · exact .inr ⟨j, q, b, q1, q2, q3, by rw [q4]; exact c3.resolve_left (by omega)⟩
          obtain ⟨v, hcall, hv⟩ := call (s.stop + 1) (by omega)
          cases hvs : valS l k (s.stop + 1) with
          | none =>
            rw [hvs] at hv
            obtain ⟨a, d, ks, qs, rfl⟩ := hv
            have h := seen_map l at_ n hn hk s.stop s.deep s.kids keys i hi' hkb hL (by omega) (by omega) m hm c1 (by rw [← hmr]; exact c2) hml a d true ks qs hcall
            simp only [Option.bind_none]
            exact .inr ⟨_, _, _, _, _, loop_next h (loop_out (seen_exit l at_ n hn _ _ true _ _ (i + 1) (.inr rfl)) (by simp))⟩
          | some kid =>
            rw [hvs] at hv
            obtain ⟨ks', rfl⟩ := hv
            have h := seen_map l at_ n hn hk s.stop s.deep s.kids keys i hi' hkb hL (by omega) (by omega) m hm c1 (by rw [← hmr]; exact c2) hml kid.stop kid.deep false kid.kids ks' hcall
            rw [← max_cast] at h
            obtain ⟨g1, g2, g3⟩ := valS_spec hvs
            have := ihc (i + 1) ⟨kid.stop, max s.deep kid.deep, s.kids ++ [s.stop + 1]⟩ (keys ++ [s.stop]) m.text (by omega) (by simp only; omega) g2 (by simp; omega) (fun _ => ⟨⟨by simp [hlo1], .inr ⟨i, s.stop, m, rfl, by rw [List.getElem?_append_right (by omega)]; simp [hlo1], hm, rfl⟩⟩, by simp; omega⟩)
            simp only [Option.bind_some]
            split at this
            · obtain ⟨keys', i', hr⟩ := this
              exact ⟨keys', i', loop_next h hr⟩
            · rcases this with ⟨b, hr⟩ | ⟨a, d, ks, qs, i', hr⟩
              · exact .inl ⟨b, loop_next h hr⟩
              · exact .inr ⟨a, d, ks, qs, i', loop_next h hr⟩
        · rw [if_neg hc]
          simp only [Option.bind_none]
          have hbad : m.kind ≠ 3 ∨ (m.kind = 3 ∧ plainS m = false) ∨ (m.kind = 3 ∧ plainS m = true ∧ ∃ j q b, i = j + 1 ∧ keys[j]? = some q ∧ l[q]? = some b ∧ ltB b.text m.text = false) := by
            rw [hmr] at hc
            by_cases q1 : m.kind = 3
            · cases q2 : plainS m with
              | false => exact .inr (.inl ⟨q1, rfl⟩)
              | true =>
                refine .inr (.inr ⟨q1, rfl, ?_⟩)
                rcases hlo with hz | ⟨j, q, b, p1, p2, p3, p4⟩
                · exact absurd ⟨q1, q2, .inl hz⟩ hc
                · refine ⟨j, q, b, p1, p2, p3, ?_⟩
                  cases q4 : ltB b.text m.text with
                  | true => rw [p4] at q4; exact absurd ⟨q1, q2, .inr q4⟩ hc
                  | false => rfl
            · exact .inl q1
          exact .inl ⟨_, loop_out (seen_map_bad l at_ n hn hk s.stop s.deep s.kids keys i hi' hkb (.inr ⟨m, hm, hbad⟩)) (by simp)⟩
    · simp only [hk, decide_false] at ihc ⊢
      simp only [keyS, Bool.false_eq_true, if_false, Option.bind_some]
      obtain ⟨v, hcall, hv⟩ := call s.stop h1
      cases hvs : valS l k s.stop with
      | none =>
        rw [hvs] at hv
        obtain ⟨a, d, ks, qs, rfl⟩ := hv
        have h := seen_plain l at_ n hn hk s.stop s.deep s.kids keys i hi' hkb hL a d true ks qs s.stop rfl hcall
        simp only [Option.bind_none]
        exact .inr ⟨_, _, _, _, _, loop_next h (loop_out (seen_exit l at_ n hn _ _ true _ _ (i + 1) (.inr rfl)) (by simp))⟩
      | some kid =>
        rw [hvs] at hv
        obtain ⟨ks', rfl⟩ := hv
        have h := seen_plain l at_ n hn hk s.stop s.deep s.kids keys i hi' hkb hL kid.stop kid.deep false kid.kids ks' s.stop rfl hcall
        rw [← max_cast] at h
        obtain ⟨g1, g2, g3⟩ := valS_spec hvs
        have := ihc (i + 1) ⟨kid.stop, max s.deep kid.deep, s.kids ++ [s.stop]⟩ keys last (by omega) (by simp only; omega) g2 (by simp; omega) (fun e => e.elim)
        simp only [Option.bind_some]
        split at this
        · obtain ⟨keys', i', hr⟩ := this
          exact ⟨keys', i', loop_next h hr⟩
        · rcases this with ⟨b, hr⟩ | ⟨a, d, ks, qs, i', hr⟩
          · exact .inl ⟨b, loop_next h hr⟩
          · exact .inr ⟨a, d, ks, qs, i', loop_next h hr⟩

-- What a loop's head is unfolded by, where there is memory.
attribute [local simp] canonK canonAll canonSlot canonCell canonBox ownStep restrictTo pureCells pureRows reachL AObj.names List.range_succ appendA nds Nd.v seenσ seenV bsvV

set_option maxHeartbeats 8000000 in
theorem seen_eq (l : List Nd) (hl : l.length ≤ 900) (hr : ∀ n ∈ l, n.inR) : ∀ (k at_ : Nat), l.length < at_ + k → ∃ v, cl 47 [nds l, .int .i64 (at_ : Int)] [] = some (.ret v, []) ∧ seenR (valS l k at_) v := by
  intro k
  induction k with
  | zero =>
    intro at_ h
    exact ⟨_, seen_bad l at_ none (.inr ⟨by omega, by simpa using by omega⟩) (.inr (.inl rfl)), 0, 0, [], [], rfl⟩
  | succ k ih =>
    intro at_ h
    simp only [valS]
    cases hn : l[at_]? with
    | none => exact ⟨_, seen_bad l at_ none (.inr ⟨by omega, by simpa using hn⟩) (.inr (.inl rfl)), 0, 0, [], [], rfl⟩
    | some n =>
      have hlt := (List.getElem?_eq_some_iff.1 hn).1
      have hnr := hr n (List.mem_of_getElem? hn)
      have hmr : fitsS n = plainS n := fits_plain hnr
      simp only [Option.bind_some]
      cases hf : fitsS n with
      | false => exact ⟨_, seen_bad l at_ (some n) (.inr ⟨by omega, by simpa using hn⟩) (.inr (.inr ⟨n, rfl, by rw [← hmr]; exact hf⟩)), 0, 0, [], [], rfl⟩
      | true =>
        have hpl : plainS n = true := by rw [← hmr]; exact hf
        have h1 : ¬ (l.length : Int) ≤ at_ := by omega
        have h0 : ¬ (at_ : Int) < 0 := by omega
        have hw : IntKind.i64.wrap ((at_ : Int) + 1) = (at_ : Int) + 1 := i64_wrap (by omega) (by omega)
        have hloop := seen_loop l hl hr k at_ n hn hnr.2.2.2 (fun st hst => ih st (by omega)) n.kids.toNat 0 ⟨at_ + 1, 0, []⟩ [] [] (by omega) (by simp) (by simp only; omega) (by simp) (fun _ => ⟨⟨rfl, .inl rfl⟩, by simp⟩)
        have hbd : ∀ r, kidsS (valS l k) l (decide (n.kind = 5)) n.kids.toNat 0 ⟨at_ + 1, 0, []⟩ [] = some r → r.deep ≤ 900 := fun r hr => by
          obtain ⟨_, q1, q2⟩ := kidsS_spec (A := at_ + 1) (fun st s hs => valS_spec hs) hr (by simp only; omega) (by simp) (by simp)
          omega
        cases hks : kidsS (valS l k) l (decide (n.kind = 5)) n.kids.toNat 0 ⟨at_ + 1, 0, []⟩ [] with
        | none =>
          rw [hks] at hloop
          rcases hloop with ⟨b, hx⟩ | ⟨a, d, ks, qs, i', hx⟩
          · refine ⟨seenV 0 0 true [] [], fn_intro Try.func47 rfl (by simp) (by decide) rfl ?_, 0, 0, [], [], rfl⟩
            simp [lc, loopsOf, Try.f47, rowV_nil] at hx
            simp [Try.f47, h1, h0, hn, hpl, plain_call, hw, hx]
            exact end_rv (.inr rfl) (by simp [resL]; rfl) (by simp) (by simp; rfl) rfl
          · refine ⟨seenV a (IntKind.i64.wrap (d + 1)) true ks qs, fn_intro Try.func47 rfl (by simp) (by decide) rfl ?_, _, _, _, _, rfl⟩
            simp [lc, loopsOf, Try.f47, rowV_nil] at hx
            simp [Try.f47, h1, h0, hn, hpl, plain_call, hw, hx, seenE]
            exact end_rv (.inr rfl) (by simp [resL]; rfl) (by simp) (by simp) (by simp)
        | some sp =>
          rw [hks] at hloop
          obtain ⟨keys', i', hx⟩ := hloop
          have hd := hbd sp hks
          have hw2 : IntKind.i64.wrap ((sp.deep : Int) + 1) = (sp.deep : Int) + 1 := i64_wrap (by omega) (by omega)
          refine ⟨seenV sp.stop ((sp.deep + 1 : Nat) : Int) false sp.kids keys', fn_intro Try.func47 rfl (by simp) (by decide) rfl ?_, keys', rfl⟩
          simp [lc, loopsOf, Try.f47, rowV_nil] at hx
          simp [Try.f47, h1, h0, hn, hpl, plain_call, hw, hx, seenE, hw2]
          exact end_rv (.inr rfl) (by simp [resL]; rfl) (by simp) (by simp) (by simp)
end Go.Proofs.Ytonaejfpiihfhaa
