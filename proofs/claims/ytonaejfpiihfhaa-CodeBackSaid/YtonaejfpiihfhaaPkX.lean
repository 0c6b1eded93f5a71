/- Numbers as bytes, and back. Values as trees: their bytes. Values as trees: written and read. What is put is got again, and nothing else is. -/
import Derived.Test.YtonaejfpiihfhaaPkP
import Derived.Test.YtonaejfpiihfhaaPkV
import Derived.Test.YtonaejfpiihfhaaPkM
import Derived.Test.YtonaejfpiihfhaaPkT

/- Numbers as bytes, and back. -/
namespace Go.Proofs.Ytonaejfpiihfhaa
open Go Abs
set_option linter.unusedSimpArgs false
set_option linter.unusedVariables false
/-- The last bytes of a number, the highest one first. -/
def bigL : Nat → Nat → List UInt8
  | 0, _ => []
  | k + 1, m => bigL k (m / 256) ++ [UInt8.ofNat (m % 256)]
/-- The number that bytes are. -/
def natB (l : List UInt8) : Nat := l.foldl (fun n b => n * 256 + b.toNat) 0
theorem bigL_len : ∀ (k m : Nat), (bigL k m).length = k := by
  intro k
  induction k with
  | zero => intro m; rfl
  | succ k ih => intro m; simp [bigL, ih]
theorem natB_snoc (l : List UInt8) (b : UInt8) : natB (l ++ [b]) = natB l * 256 + b.toNat := by simp [natB]
theorem natB_lt (l : List UInt8) : natB l < 256 ^ l.length := by
  have : ∀ (l : List UInt8) (n k : Nat), n < 256 ^ k → l.foldl (fun n b => n * 256 + b.toNat) n < 256 ^ (k + l.length) := by
    intro l
    induction l with
    | nil => intro n k h; exact h
    | cons b l ih =>
      intro n k h
      have hb := b.toNat_lt
      have := ih (n * 256 + b.toNat) (k + 1) (by rw [Nat.pow_succ]; omega)
      rw [List.foldl_cons, List.length_cons, show k + (l.length + 1) = k + 1 + l.length by omega]
      exact this
  have := this l 0 0 (by decide)
  rwa [Nat.zero_add] at this
theorem natB_bigL : ∀ (k m : Nat), m < 256 ^ k → natB (bigL k m) = m := by
  intro k
  induction k with
  | zero => intro m h; simp at h; subst h; rfl
  | succ k ih =>
    intro m h
    rw [Nat.pow_succ] at h
    have h1 : m / 256 < 256 ^ k := Nat.div_lt_of_lt_mul (by rw [Nat.mul_comm]; exact h)
    rw [bigL, natB_snoc, ih _ h1]
    have : (UInt8.ofNat (m % 256)).toNat = m % 256 := by simp
    rw [this]; omega
theorem bigL_natB (l : List UInt8) : bigL l.length (natB l) = l := by
  generalize hk : l.length = k
  induction k generalizing l with
  | zero => rw [List.length_eq_zero_iff.1 hk]; rfl
  | succ k ih =>
    obtain ⟨l', b, rfl⟩ : ∃ l' b, l = l' ++ [b] := by
      have hne : l ≠ [] := fun e => by rw [e] at hk; simp at hk
      exact ⟨l.dropLast, l.getLast hne, (List.dropLast_concat_getLast hne).symm⟩
    simp at hk
    have hb := b.toNat_lt
    rw [natB_snoc, bigL, show (natB l' * 256 + b.toNat) / 256 = natB l' by omega, ih l' hk, show (natB l' * 256 + b.toNat) % 256 = b.toNat by omega]
    simp
theorem rdU_natB (l : List UInt8) (h : l.length ≤ 8) : rdU l = natB l := by
  generalize hk : l.length = k at h
  induction k generalizing l with
  | zero => rw [List.length_eq_zero_iff.1 hk]; rfl
  | succ k ih =>
    obtain ⟨l', b, rfl⟩ : ∃ l' b, l = l' ++ [b] := by
      have hne : l ≠ [] := fun e => by rw [e] at hk; simp at hk
      exact ⟨l.dropLast, l.getLast hne, (List.dropLast_concat_getLast hne).symm⟩
    simp at hk
    have hb := b.toNat_lt
    have e : rdU (l' ++ [b]) = accR (rdU l') b := by simp [rdU]
    have hlt := natB_lt l'
    have h7 : natB l' < 256 ^ 7 := Nat.lt_of_lt_of_le hlt (Nat.pow_le_pow_right (by decide) (by omega))
    rw [e, ih l' hk (by omega), natB_snoc]
    unfold accR
    rw [u64w, u64w]
    omega
theorem lowB_eq (m : Nat) (i : Nat) : lowB m i = UInt8.ofNat (m / 256 ^ i % 256) := by
  unfold lowB
  have e : (2 : Int) ^ (8 * i) = ((256 ^ i : Nat) : Int) := by rw [Int.pow_mul]; simp
  rw [e, Int.fdiv_eq_ediv_of_nonneg _ (Int.natCast_nonneg _), ← Int.natCast_ediv, u8w]
  congr 1
theorem bigB_bigL (m : Nat) : bigB m = bigL 8 m := by
  unfold bigB
  simp only [lowB_eq]
  simp only [bigL, List.nil_append, List.cons_append, Nat.div_div_eq_div_mul]
  simp
theorem numB_len (n : Int) : (numB n).length = 8 := rfl
theorem numB_bigL (n : Int) : ∃ m : Nat, m < 18446744073709551616 ∧ numB n = bigL 8 m ∧ (m : Int) = IntKind.u64.wrap (IntKind.u64.wrap n + 9223372036854775808) := by
  unfold numB
  have hr : 0 ≤ IntKind.u64.wrap n ∧ IntKind.u64.wrap n < 18446744073709551616 := by rw [u64w]; omega
  rw [xor_sign _ hr.1 hr.2]
  generalize hx : IntKind.u64.wrap (IntKind.u64.wrap n + 9223372036854775808) = x
  have : 0 ≤ x ∧ x < 18446744073709551616 := by rw [← hx, u64w]; omega
  refine ⟨x.toNat, by omega, ?_, by omega⟩
  rw [← bigB_bigL]
  congr 1
  omega
theorem numP_numB {n : Int} (h : -9223372036854775808 ≤ n ∧ n ≤ 9223372036854775807) : numP (numB n) = n := by
  obtain ⟨m, h1, h2, h3⟩ := numB_bigL n
  rw [numP_rd, h2, rdU_natB _ (by rw [bigL_len]; omega), natB_bigL 8 m (by omega), h3]
  simp only [u64w, IntKind.wrap_i64]
  omega
theorem numB_numP {t : List UInt8} (h : t.length = 8) : numB (numP t) = t := by
  obtain ⟨m, h1, h2, h3⟩ := numB_bigL (numP t)
  rw [h2]
  have hlt : natB t < 256 ^ 8 := by have := natB_lt t; rwa [h] at this
  have e : m = natB t := by
    have : (m : Int) = (natB t : Int) := by
      rw [h3, numP_rd, rdU_natB t (by omega)]
      simp only [u64w, IntKind.wrap_i64]
      omega
    omega
  rw [e, ← h]
  exact bigL_natB t
end Go.Proofs.Ytonaejfpiihfhaa

/- Values as trees: their bytes. -/
namespace Go.Proofs.Ytonaejfpiihfhaa
open Go Abs
set_option linter.unusedSimpArgs false
set_option linter.unusedVariables false
/-- A leaf's bytes. -/
def leafB (n : Nd) : List UInt8 := if n.kind = 1 then [2, u8B n.num] else if n.kind = 2 then 3 :: numB n.num else if n.kind = 3 then 4 :: txtB n.text else [1]
def keyB (m : Bool) (k : List UInt8) : List UInt8 := if m then 1 :: txtB k else []
mutual
/-- Its bytes. -/
def VT.enc : VT → List UInt8
  | .leaf n => leafB n
  | .node m ms => (if m then 6 else 5) :: (ms.enc m ++ [0])
def VL.enc (m : Bool) : VL → List UInt8
  | .nil => []
  | .cons k t r => keyB m k ++ (t.enc ++ r.enc m)
end
theorem txtB_parts (s : List UInt8) : txtB s = txt0 s ++ [0, 0] := txtB_eq ..
/-- A text's bytes are read as it. -/
theorem textP_txtB (t r : List UInt8) : textP (txtB t ++ r) = some (t, r) := by
  rw [txtB_parts]
  induction t with
  | nil =>
    show textP (0 :: 0 :: r) = _
    rw [textP]; simp
  | cons a t ih =>
    rw [show a :: t = [a] ++ t from rfl, txt0_app]
    by_cases ha : a = 0
    · subst ha
      show textP (0 :: 255 :: (txt0 t ++ [0, 0] ++ r)) = _
      rw [textP]
      simp only [if_true, show ¬ (255 : UInt8) = 0 by decide, if_false]
      rw [ih]; rfl
    · have e : txt0 [a] = [a] := by simp [txt0, ha]
      rw [e]
      obtain ⟨b, x, hb⟩ : ∃ b x, txt0 t ++ [0, 0] ++ r = b :: x := by
        cases h : txt0 t ++ [0, 0] ++ r with
        | nil => simp at h
        | cons b x => exact ⟨b, x, rfl⟩
      rw [List.append_assoc, List.append_assoc, ← List.append_assoc (txt0 t), hb]
      show textP (a :: b :: x) = _
      rw [textP, if_neg ha, ← hb, ih]; rfl
/-- What is read as a text is its bytes. -/
theorem textP_back {s t r : List UInt8} (h : textP s = some (t, r)) : s = txtB t ++ r := by
  generalize hk : s.length = k
  induction k using Nat.strongRecOn generalizing s t r with
  | ind k ih =>
    match s, h with
    | [], h => simp [textP] at h
    | [a], h => simp [textP] at h
    | a :: b :: q, h =>
      rw [textP] at h
      simp only [List.length_cons] at hk
      split at h
      · rename_i ha
        subst ha
        split at h
        · rename_i hb
          subst hb
          cases h
          rw [txtB_parts]; rfl
        · split at h
          · rename_i h0 h5
            subst h5
            obtain ⟨p, hp, e⟩ := Option.map_eq_some_iff.1 h
            cases e
            have := ih q.length (by omega) hp rfl
            rw [this, txtB_parts, txtB_parts, show (0 : UInt8) :: p.1 = [0] ++ p.1 from rfl, txt0_app]
            rfl
          · cases h
      · rename_i ha
        obtain ⟨p, hp, e⟩ := Option.map_eq_some_iff.1 h
        cases e
        have := ih (b :: q).length (by simp; omega) hp rfl
        rw [this, txtB_parts, txtB_parts, show a :: p.1 = [a] ++ p.1 from rfl, txt0_app]
        have e : txt0 [a] = [a] := by simp [txt0, ha]
        rw [e]; simp
end Go.Proofs.Ytonaejfpiihfhaa

/- Values as trees: written and read. -/
namespace Go.Proofs.Ytonaejfpiihfhaa
open Go Abs
set_option linter.unusedSimpArgs false
set_option linter.unusedVariables false
/-- A leaf is one of these. -/
theorem leaf_form {n : Nd} (h : fitsS n = true) (hk : n.kind < 4) (hr : n.inR) : n = ⟨0, 0, [], 0⟩ ∨ n = ⟨1, 0, [], 0⟩ ∨ n = ⟨1, 1, [], 0⟩ ∨ n = ⟨2, n.num, [], 0⟩ ∨ n = ⟨3, 0, n.text, 0⟩ := by
  obtain ⟨kd, nu, tx, ki⟩ := n
  simp only at hk
  unfold fitsS at h
  simp only at h
  split at h
  · rename_i hk; subst hk
    simp only [Bool.and_eq_true, decide_eq_true_eq] at h
    obtain ⟨⟨h1, rfl⟩, rfl⟩ := h
    rcases (andNot1 hr.1 hr.2.1).1 h1 with rfl | rfl
    · exact .inr (.inl rfl)
    · exact .inr (.inr (.inl rfl))
  split at h
  · rename_i hk; subst hk; simp only [Bool.and_eq_true, decide_eq_true_eq] at h; obtain ⟨⟨rfl, rfl⟩, rfl⟩ := h; exact .inl rfl
  split at h
  · rename_i hk; subst hk; simp only [Bool.and_eq_true, decide_eq_true_eq] at h; obtain ⟨rfl, rfl⟩ := h; exact .inr (.inr (.inr (.inl rfl)))
  split at h
  · rename_i hk; subst hk; simp only [Bool.and_eq_true, decide_eq_true_eq] at h; obtain ⟨rfl, rfl⟩ := h; exact .inr (.inr (.inr (.inr rfl)))
  split at h
  · omega
  · cases h
/-! What is written. -/
theorem spanK_tree {L : List Nd} {t : VT} (h : t.ok) {a : Nat} (hs : Sub L a t.flat) : spanK L a = t.pos (a + 1) := by
  have hle := hs.le (List.ne_nil_of_length_pos t.flat_pos)
  unfold spanK
  rw [VT.fwd t h (L.length + 1) L a (by omega) hs]
  rfl
mutual
theorem VT.bytes : ∀ (t : VT), t.ok → ∀ (k : Nat) (L : List Nd) (a : Nat), t.flat.length ≤ k → Sub L a t.flat → valB L k a = t.enc
  | .leaf n, h, k, L, a, hk, hs => by
    obtain ⟨h1, h2, h3⟩ := h
    cases k with
    | zero => simp [VT.flat] at hk
    | succ k =>
      have hn := (Sub.cons.1 hs).1
      simp only [valB, hn]
      rcases leaf_form h1 h2 h3 with e | e | e | e | e <;> rw [e] <;> simp [VT.enc, leafB] <;> rfl
  | .node m ms, h, k, L, a, hk, hs => by
    cases k with
    | zero => simp [VT.flat] at hk
    | succ k =>
      have hsp := spanK_tree (t := .node m ms) h hs
      obtain ⟨hn, hs⟩ := Sub.cons.1 hs
      simp only [VT.flat, List.length_cons] at hk
      have := VL.bytes ms m none h.1 k L (a + 1) (by omega) hs
      simp only [valB, hn, hsp, VT.pos]
      cases m with
      | false => simp only [Bool.false_eq_true, if_false] at this; rw [this]; simp [headN, VT.enc]; rfl
      | true => simp only [if_true] at this; rw [this]; simp [headN, VT.enc]; rfl
theorem VL.bytes : ∀ (ms : VL) (m : Bool) (last : Option (List UInt8)), ms.ok m last → ∀ (k : Nat) (L : List Nd) (a : Nat), (ms.flat m).length ≤ k → Sub L a (ms.flat m) →
    allB (if m = true then memB L (valB L k) else valB L k) (ms.pos m a) = ms.enc m
  | .nil, m, last, h, k, L, a, hk, hs => by simp [VL.pos, VL.enc, allB]
  | .cons key t r, m, last, h, k, L, a, hk, hs => by
    obtain ⟨g1, g2, g3, g4⟩ := h
    simp only [VL.flat] at hk hs
    obtain ⟨s1, s2⟩ := Sub.app.1 hs
    obtain ⟨s2, s3⟩ := Sub.app.1 s2
    have hv := VT.bytes t g1 k L (a + (keyL m key).length) (by simp at hk; omega) s2
    have hr := VL.bytes r m (some key) g4 k L (a + (keyL m key).length + t.flat.length) (by simp at hk; omega) s3
    have e : ∀ f p ps, allB f (p :: ps) = f p ++ allB f ps := fun f p ps => by simp [allB]
    simp only [VL.pos, e, hr, VL.enc]
    cases m with
    | false => simp only [Bool.false_eq_true, if_false, hv]; simp [keyB]
    | true =>
      have hn := (Sub.cons.1 (show Sub L a (⟨3, 0, key, 0⟩ :: []) from s1)).1
      simp only [if_true, memB, hv]
      have hk1 : key1 L (a + (keyL true key).length) = key := by simp [key1, keyL, hn]
      rw [hk1]
      simp [keyB]
end
theorem putB_flat {t : VT} (h : t.ok) : putB t.flat = t.enc := VT.bytes t h (t.flat.length + 1) t.flat 0 (by omega) (fun i n hi => by rwa [Nat.zero_add])
/-! What is read. -/
theorem VT.enc_head : ∀ t : VT, t.ok → ∃ b x, t.enc = b :: x ∧ b ≠ 0
  | .leaf n, h => by
    obtain ⟨h1, h2, h3⟩ := h
    rcases leaf_form h1 h2 h3 with e | e | e | e | e <;> rw [e] <;> simp [VT.enc, leafB]
  | .node m ms, h => by cases m <;> exact ⟨_, _, rfl, by decide⟩
theorem VL.len_enc : ∀ (ms : VL) (m : Bool) (last : Option (List UInt8)), ms.ok m last → ms.len ≤ (ms.enc m).length
  | .nil, m, last, h => by simp [VL.len]
  | .cons k t r, m, last, h => by
    have := VL.len_enc r m _ h.2.2.2
    obtain ⟨b, x, e, _⟩ := t.enc_head h.1
    simp [VL.len, VL.enc, e]; omega
mutual
theorem VT.deep_enc : ∀ (t : VT), t.ok → t.deep ≤ t.enc.length
  | .leaf n, h => by
    obtain ⟨b, x, e, _⟩ := (VT.leaf n).enc_head h
    rw [e]; simp [VT.deep]
  | .node m ms, h => by
    have := VL.deep_enc ms m none h.1
    simp [VT.deep, VT.enc]; omega
theorem VL.deep_enc : ∀ (ms : VL) (m : Bool) (last : Option (List UInt8)), ms.ok m last → ms.deep ≤ (ms.enc m).length
  | .nil, m, last, h => by simp [VL.deep]
  | .cons k t r, m, last, h => by
    have := VT.deep_enc t h.1
    have := VL.deep_enc r m _ h.2.2.2
    simp [VL.deep, VL.enc]; omega
end
theorem valP_leaf {n : Nd} (h1 : fitsS n = true) (h2 : n.kind < 4) (h3 : n.inR) (k : Nat) (r : List UInt8) : valP (k + 1) (leafB n ++ r) = some ([n], r) := by
  rcases leaf_form h1 h2 h3 with e | e | e | e | e
  · rw [e]; simp [leafB, valP]
  · rw [e]; simp [leafB, valP, u8B, show IntKind.u8.wrap 0 = 0 from rfl]
  · rw [e]; simp [leafB, valP, u8B, show IntKind.u8.wrap 1 = 1 from rfl]
  · rw [e]
    have e8 := numB_len n.num
    have ht : (numB n.num ++ r).take 8 = numB n.num := by rw [List.take_append_of_le_length (by omega), List.take_of_length_le (by omega)]
    have hd : (numB n.num ++ r).drop 8 = r := by rw [List.drop_append_of_le_length (by omega), List.drop_of_length_le (by omega)]; rfl
    have hp := numP_numB (n := n.num) ⟨h3.1, h3.2.1⟩
    simp [leafB, valP, ht, hd, hp, e8]
  · rw [e]; simp [leafB, valP, textP_txtB]
mutual
theorem VT.read : ∀ (t : VT), t.ok → ∀ (k : Nat) (r : List UInt8), t.deep ≤ k → valP k (t.enc ++ r) = some (t.flat, r)
  | .leaf n, h, k, r, hk => by
    cases k with
    | zero => simp [VT.deep] at hk
    | succ k => exact valP_leaf h.1 h.2.1 h.2.2 k r
  | .node m ms, h, k, r, hk => by
    cases k with
    | zero => simp [VT.deep] at hk
    | succ k =>
      simp only [VT.deep] at hk
      have hl := VL.len_enc ms m none h.1
      cases m with
      | false =>
        have := VL.readL ms none h.1 k (by omega) ((ms.enc false ++ 0 :: r).length + 1) 0 [] r (by simp; omega)
        simp [VT.enc, valP] at this ⊢
        simp [this, VT.flat, headN]
      | true =>
        have := VL.readM ms none h.1 k (by omega) ((ms.enc true ++ 0 :: r).length + 1) 0 [] [] r (by simp; omega) (fun _ => rfl) (fun l hl => by cases hl)
        simp [VT.enc, valP] at this ⊢
        simp [this, VT.flat, headN]
theorem VL.readL : ∀ (ms : VL) (last : Option (List UInt8)), ms.ok false last → ∀ (k : Nat), ms.deep ≤ k → ∀ (f c : Nat) (l : List Nd) (r : List UInt8), ms.len < f →
    listP (valP k) f c l (ms.enc false ++ 0 :: r) = some (c + ms.len, l ++ ms.flat false, r)
  | .nil, last, h, k, hk, f, c, l, r, hf => by
    cases f with
    | zero => omega
    | succ f => simp [VL.enc, listP, VL.len, VL.flat]
  | .cons key t q, last, h, k, hk, f, c, l, r, hf => by
    cases f with
    | zero => omega
    | succ f =>
      obtain ⟨g1, g2, g3, g4⟩ := h
      simp only [VL.deep] at hk
      simp only [VL.len] at hf
      obtain ⟨b, x, e, hb⟩ := t.enc_head g1
      have hv := VT.read t g1 k (q.enc false ++ 0 :: r) (by omega)
      have hq := VL.readL q _ g4 k (by omega) f (c + 1) (l ++ t.flat) r (by omega)
      rw [e] at hv
      simp [VL.enc, keyB, e, listP, hb] at hv ⊢
      rw [hv]
      simp [hq, VL.len, VL.flat, keyL]; omega
theorem VL.readM : ∀ (ms : VL) (last : Option (List UInt8)), ms.ok true last → ∀ (k : Nat), ms.deep ≤ k → ∀ (f c : Nat) (lb : List UInt8) (l : List Nd) (r : List UInt8), ms.len < f → (last = none → c = 0) → (∀ x, last = some x → lb = x) →
    mapP (valP k) f c lb l (ms.enc true ++ 0 :: r) = some (c + ms.len, l ++ ms.flat true, r)
  | .nil, last, h, k, hk, f, c, lb, l, r, hf, h1, h2 => by
    cases f with
    | zero => omega
    | succ f => simp [VL.enc, mapP, VL.len, VL.flat]
  | .cons key t q, last, h, k, hk, f, c, lb, l, r, hf, h1, h2 => by
    cases f with
    | zero => omega
    | succ f =>
      obtain ⟨g1, g2, g3, g4⟩ := h
      simp only [VL.deep] at hk
      simp only [VL.len] at hf
      have hl : c = 0 ∨ ltB lb key = true := by
        cases last with
        | none => exact .inl (h1 rfl)
        | some x => rw [h2 x rfl]; exact .inr (g3 rfl x rfl)
      have ht := textP_txtB key (t.enc ++ (q.enc true ++ 0 :: r))
      have hv := VT.read t g1 k (q.enc true ++ 0 :: r) (by omega)
      have hq := VL.readM q _ g4 k (by omega) f (c + 1) key (l ++ ⟨3, 0, key, 0⟩ :: t.flat) r (by omega) (fun h => by cases h) (fun x hx => by cases hx; rfl)
      simp [VL.enc, keyB, mapP, ht, hl, hv]
      rw [hq]
      simp [VL.len, VL.flat, keyL]; omega
end
/-! What is read is what is written. -/
theorem listP_tree {val : List UInt8 → Option (List Nd × List UInt8)} {N k : Nat} (hv : ∀ s v q, s.length ≤ N → val s = some (v, q) → ∃ t : VT, t.ok ∧ v = t.flat ∧ s = t.enc ++ q ∧ t.deep ≤ k ∧ q.length ≤ s.length) :
    ∀ {f c l s r}, s.length ≤ N → listP val f c l s = some r → ∃ ms : VL, (∀ last, ms.ok false last) ∧ r.1 = c + ms.len ∧ r.2.1 = l ++ ms.flat false ∧ s = ms.enc false ++ 0 :: r.2.2 ∧ ms.deep ≤ k := by
  intro f
  induction f with
  | zero => intro c l s r _ h; cases h
  | succ f ih =>
    intro c l s r hs h
    cases s with
    | nil => cases h
    | cons b s =>
      simp only [listP] at h
      split at h
      · rename_i hb; subst hb; cases h
        exact ⟨.nil, fun _ => trivial, rfl, by simp [VL.flat], rfl, by simp [VL.deep]⟩
      · rw [Option.bind_eq_some_iff] at h
        obtain ⟨p, hp, h⟩ := h
        obtain ⟨t, t1, t2, t3, t4, t5⟩ := hv _ _ _ hs hp
        obtain ⟨ms, m1, m2, m3, m4, m5⟩ := ih (by omega) h
        refine ⟨.cons [] t ms, fun last => ⟨t1, fun _ => rfl, fun h => (by cases h), m1 _⟩, by rw [m2]; simp [VL.len]; omega, by rw [m3, t2]; simp [VL.flat, keyL], ?_, by simp [VL.deep]; omega⟩
        rw [t3, m4]; simp [VL.enc, keyB]
theorem mapP_tree {val : List UInt8 → Option (List Nd × List UInt8)} {N k : Nat} (hv : ∀ s v q, s.length ≤ N → val s = some (v, q) → ∃ t : VT, t.ok ∧ v = t.flat ∧ s = t.enc ++ q ∧ t.deep ≤ k ∧ q.length ≤ s.length) :
    ∀ {f c lb l s r}, s.length ≤ N → mapP val f c lb l s = some r → ∃ ms : VL, (∀ last, (∀ x, last = some x → c ≠ 0 ∧ lb = x) → ms.ok true last) ∧ r.1 = c + ms.len ∧ r.2.1 = l ++ ms.flat true ∧ s = ms.enc true ++ 0 :: r.2.2 ∧ ms.deep ≤ k := by
  intro f
  induction f with
  | zero => intro c lb l s r _ h; cases h
  | succ f ih =>
    intro c lb l s r hs h
    cases s with
    | nil => cases h
    | cons b s =>
      simp only [mapP] at h
      simp only [List.length_cons] at hs
      split at h
      · rename_i hb; subst hb; cases h
        exact ⟨.nil, fun _ _ => trivial, rfl, by simp [VL.flat], rfl, by simp [VL.deep]⟩
      split at h
      case isFalse => cases h
      rename_i hb1; subst hb1
      rw [Option.bind_eq_some_iff] at h
      obtain ⟨kk, hkk, h⟩ := h
      split at h
      case isFalse => cases h
      rename_i hlt
      rw [Option.bind_eq_some_iff] at h
      obtain ⟨p, hp, h⟩ := h
      have hkl := textP_len hkk
      have hke := textP_back hkk
      obtain ⟨t, t1, t2, t3, t4, t5⟩ := hv _ _ _ (by omega) hp
      obtain ⟨ms, m1, m2, m3, m4, m5⟩ := ih (by omega) h
      refine ⟨.cons kk.1 t ms, fun last hl => ⟨t1, fun h => (by cases h), fun _ x hx => ?_, m1 _ (fun x hx => by cases hx; exact ⟨by omega, rfl⟩)⟩, by rw [m2]; simp [VL.len]; omega, by rw [m3, t2]; simp [VL.flat, keyL], ?_, by simp [VL.deep]; omega⟩
      · obtain ⟨g1, g2⟩ := hl x hx
        rw [← g2]; exact hlt.resolve_left g1
      · rw [hke, t3, m4]; simp [VL.enc, keyB]
theorem valP_tree : ∀ {k s v q}, s.length ≤ 900000 → valP k s = some (v, q) → ∃ t : VT, t.ok ∧ v = t.flat ∧ s = t.enc ++ q ∧ t.deep ≤ k ∧ q.length ≤ s.length := by
  intro k
  induction k with
  | zero => intro s v q _ h; cases h
  | succ k ih =>
    intro s v q hs h
    have hlen := valP_len h
    have one : ∀ (n : Nd), fitsS n = true → n.kind < 4 → n.inR → v = [n] → s = leafB n ++ q → ∃ t : VT, t.ok ∧ v = t.flat ∧ s = t.enc ++ q ∧ t.deep ≤ k + 1 ∧ q.length ≤ s.length := fun n h1 h2 h3 h4 h5 =>
      ⟨.leaf n, ⟨h1, h2, h3⟩, h4, h5, by simp [VT.deep], by omega⟩
    have hin := valP_in hs h
    cases s with
    | nil => cases h
    | cons b r =>
      simp only [List.length_cons] at hs
      simp only [valP] at h
      split at h
      · rename_i hb; subst hb; cases h
        exact one ⟨0, 0, [], 0⟩ (by decide) (by decide) (hin _ (by simp)) rfl rfl
      split at h
      · rename_i hb; subst hb
        split at h
        · rename_i c q'
          split at h
          · rename_i hc
            cases h
            have hc' : c = 0 ∨ c = 1 := by
              have : c.toNat ≤ 1 := by simpa using UInt8.le_iff_toNat_le.1 hc
              have h2 : c.toNat = 0 ∨ c.toNat = 1 := by omega
              rcases h2 with h2 | h2
              · exact .inl (UInt8.toNat_inj.1 h2)
              · exact .inr (UInt8.toNat_inj.1 h2)
            rcases hc' with rfl | rfl
            · exact one ⟨1, 0, [], 0⟩ (by decide) (by decide) (hin _ (by simp)) rfl rfl
            · exact one ⟨1, 1, [], 0⟩ (by decide) (by decide) (hin _ (by simp)) rfl rfl
          · cases h
        · cases h
      split at h
      · rename_i hb; subst hb
        split at h
        · rename_i h8
          cases h
          have h8' : (r.take 8).length = 8 := by rw [List.length_take]; omega
          refine one ⟨2, numP (r.take 8), [], 0⟩ (by simp [fitsS]) (by simp) (hin _ (by simp)) rfl ?_
          simp only [leafB]
          rw [if_neg (by decide), if_pos (by decide), numB_numP h8']
          simp
        · cases h
      split at h
      · rename_i hb; subst hb
        obtain ⟨p, hp, e⟩ := Option.map_eq_some_iff.1 h
        cases e
        refine one ⟨3, 0, p.1, 0⟩ (by simp [fitsS]) (by simp) (hin _ (by simp)) rfl ?_
        rw [textP_back (show textP r = some (p.1, p.2) from hp)]
        simp [leafB]
      split at h
      · rename_i hb; subst hb
        obtain ⟨p, hp, e⟩ := Option.map_eq_some_iff.1 h
        cases e
        have hl := listP_len (fun s v q h => valP_len h) hp
        obtain ⟨ms, m1, m2, m3, m4, m5⟩ := listP_tree (fun s v q h1 h2 => ih h1 h2) (by omega) hp
        simp at hl m2
        refine ⟨.node false ms, ⟨m1 _, by omega⟩, by simp [VT.flat, headN, m2, m3], by rw [m4]; simp [VT.enc], by simp [VT.deep]; omega, by simp; omega⟩
      split at h
      · rename_i hb; subst hb
        obtain ⟨p, hp, e⟩ := Option.map_eq_some_iff.1 h
        cases e
        have hl := mapP_len (fun s v q h => valP_len h) hp
        obtain ⟨ms, m1, m2, m3, m4, m5⟩ := mapP_tree (fun s v q h1 h2 => ih h1 h2) (by omega) hp
        simp at hl m2
        refine ⟨.node true ms, ⟨m1 _ (fun x hx => by cases hx), by omega⟩, by simp [VT.flat, headN, m2, m3], by rw [m4]; simp [VT.enc], by simp [VT.deep]; omega, by simp; omega⟩
      · cases h
end Go.Proofs.Ytonaejfpiihfhaa

/- What is put is got again, and nothing else is. -/
namespace Go.Proofs.Ytonaejfpiihfhaa
open Go Abs
set_option linter.unusedSimpArgs false
set_option linter.unusedVariables false
theorem read_put {l : List Nd} (hr : ∀ n ∈ l, n.inR) (hc : checkS l = 0) (r : List UInt8) : valP ((putB l ++ r).length + 1) (putB l ++ r) = some (l, r) := by
  obtain ⟨t, t1, rfl, t3⟩ := checkS_tree hr hc
  rw [putB_flat t1]
  have := t.deep_enc t1
  exact VT.read t t1 _ r (by simp; omega)
theorem get_put {l : List Nd} (hr : ∀ n ∈ l, n.inR) (hc : checkS l = 0) : getS (putB l) = some l := by
  have := read_put hr hc []
  rw [List.append_nil] at this
  unfold getS
  rw [this]
  simp [hc]
theorem put_pos {l : List Nd} (hr : ∀ n ∈ l, n.inR) (hc : checkS l = 0) : 0 < (putB l).length := by
  obtain ⟨t, t1, rfl, t3⟩ := checkS_tree hr hc
  rw [putB_flat t1]
  obtain ⟨b, x, e, _⟩ := t.enc_head t1
  rw [e]; simp
theorem get_more {l : List Nd} (hr : ∀ n ∈ l, n.inR) (hc : checkS l = 0) {r : List UInt8} (h : r ≠ []) : getS (putB l ++ r) = none := by
  have := read_put hr hc r
  unfold getS
  rw [this]
  simp [h]
theorem get_back {s : List UInt8} (hb : s.length ≤ 800000) {n : List Nd} (h : getS s = some n) : checkS n = 0 ∧ (∀ x ∈ n, x.inR) ∧ putB n = s := by
  unfold getS at h
  split at h
  · rename_i p hp
    split at h
    · rename_i hc
      cases h
      obtain ⟨v, q⟩ := p
      obtain ⟨rfl, hc⟩ := hc
      have hin := valP_in (by omega) hp
      obtain ⟨t, t1, t2, t3, _, _⟩ := valP_tree (by omega) hp
      subst t2
      rw [List.append_nil] at t3
      exact ⟨hc, hin, by rw [putB_flat t1, t3]⟩
    · cases h
  · cases h
theorem read_more {k : Nat} {s v q : List UInt8} {l : List Nd} (hb : s.length ≤ 900000) (h : valP k s = some (l, q)) {j : Nat} (hj : s.length + v.length < j) : valP j (s ++ v) = some (l, q ++ v) := by
  obtain ⟨t, t1, rfl, rfl, t4, _⟩ := valP_tree hb h
  have := t.deep_enc t1
  rw [List.append_assoc]
  exact VT.read t t1 j (q ++ v) (by simp at hj; omega)
theorem cut_none {l : List Nd} (hr : ∀ n ∈ l, n.inR) (hc : checkS l = 0) (hb : (putB l).length ≤ 900000) {i : Nat} (hi : i < (putB l).length) (k : Nat) : valP k ((putB l).take i) = none := by
  cases h : valP k ((putB l).take i) with
  | none => rfl
  | some p =>
    obtain ⟨v, q⟩ := p
    have hl : ((putB l).take i).length = i := by rw [List.length_take]; omega
    have h2 := read_put hr hc []
    have h1 := read_more (v := (putB l).drop i) (by omega) h (j := (putB l).length + 1) (by rw [hl, List.length_drop]; omega)
    rw [List.take_append_drop] at h1
    rw [List.append_nil, h1] at h2
    have : (q ++ (putB l).drop i).length = 0 := by simp only [Option.some.injEq, Prod.mk.injEq] at h2; rw [h2.2]; rfl
    rw [List.length_append, List.length_drop] at this
    omega
theorem put_prefix {a b : List Nd} (ra : ∀ n ∈ a, n.inR) (ca : checkS a = 0) (rb : ∀ n ∈ b, n.inR) (cb : checkS b = 0) {q : List UInt8} (h : putB b = putB a ++ q) : q = [] := by
  have h1 := read_put rb cb []
  have h2 := read_put ra ca q
  rw [List.append_nil, h, h2] at h1
  simp only [Option.some.injEq, Prod.mk.injEq] at h1
  exact h1.2
theorem first_put {a : List Nd} (ra : ∀ n ∈ a, n.inR) (ca : checkS a = 0) (s : List UInt8) : firstO (putB a ++ s) = [.str (putB a), .str s, .int .i64 0] := by
  unfold firstO
  rw [read_put ra ca s]
  simp
theorem first_none {s : List UInt8} (h : valP (s.length + 1) s = none) : firstO s = [.str [], .str [], .int .i64 5] := by
  unfold firstO; rw [h]
theorem get_none {s : List UInt8} (h : valP (s.length + 1) s = none) : getS s = none := by
  unfold getS; rw [h]
/-! Texts. -/
theorem splitA_join : ∀ (t : List (List UInt8)) (f : Nat) (l : List (List UInt8)), (joinB t).length < f → splitA f l (joinB t) = some (l ++ t) := by
  intro t
  induction t with
  | nil =>
    intro f l h
    cases f with
    | zero => omega
    | succ f => simp [joinB, splitA]
  | cons s t ih =>
    intro f l h
    cases f with
    | zero => omega
    | succ f =>
      have e : joinB (s :: t) = 4 :: (txtB s ++ joinB t) := by simp [joinB, oneB]
      rw [e] at h ⊢
      simp only [List.length_cons, List.length_append] at h
      simp only [splitA, if_true, textP_txtB, Option.bind_some]
      rw [ih f (l ++ [s]) (by omega)]
      simp
theorem split_join (t : List (List UInt8)) : splitS (joinB t) = some t := splitA_join t _ [] (by omega)
theorem splitA_back : ∀ {f : Nat} {l k : List (List UInt8)} {s : List UInt8}, splitA f l s = some k → ∃ t, k = l ++ t ∧ s = joinB t := by
  intro f
  induction f with
  | zero => intro l k s h; cases h
  | succ f ih =>
    intro l k s h
    cases s with
    | nil => cases h; exact ⟨[], by simp, rfl⟩
    | cons b r =>
      simp only [splitA] at h
      split at h
      · rename_i hb; subst hb
        rw [Option.bind_eq_some_iff] at h
        obtain ⟨p, hp, h⟩ := h
        obtain ⟨t, t1, t2⟩ := ih h
        refine ⟨p.1 :: t, by rw [t1]; simp, ?_⟩
        rw [textP_back (show textP r = some (p.1, p.2) from hp), t2]
        simp [joinB, oneB]
      · cases h
theorem join_split {s : List UInt8} {k : List (List UInt8)} (h : splitS s = some k) : joinB k = s := by
  obtain ⟨t, t1, t2⟩ := splitA_back h
  rw [t1, t2]; rfl
theorem join_parts : ∀ {k : List (List UInt8)} {x : List UInt8}, x ∈ k → x.length ≤ (joinB k).length
  | a :: k, x, h => by
    have e : joinB (a :: k) = 4 :: (txtB a ++ joinB k) := by simp [joinB, oneB]
    have la : ∀ s : List UInt8, s.length ≤ (txtB s).length := fun s => by
      rw [txtB_eq]
      have : s.length ≤ (txt0 s).length := by
        induction s with
        | nil => simp
        | cons b r ih => simp only [txt0]; split <;> simp <;> omega
      simp; omega
    rw [e]
    have := la a
    rcases List.mem_cons.1 h with rfl | h
    · simp; omega
    · have := join_parts h; simp; omega
theorem join_count : ∀ (k : List (List UInt8)), k.length ≤ (joinB k).length
  | [] => by simp
  | a :: k => by
    have e : joinB (a :: k) = 4 :: (txtB a ++ joinB k) := by simp [joinB, oneB]
    have := join_count k
    rw [e]; simp; omega
end Go.Proofs.Ytonaejfpiihfhaa
