/- Values as trees: what nodes are one. -/
import Derived.Test.YtonaejfpiihfhaaPkM
namespace Go.Proofs.Ytonaejfpiihfhaa
open Go Abs
set_option linter.unusedSimpArgs false
set_option linter.unusedVariables false
mutual
inductive VT where
  | leaf (n : Nd)
  | node (m : Bool) (ms : VL)
inductive VL where
  | nil
  | cons (k : List UInt8) (t : VT) (r : VL)
end
def VL.len : VL → Nat
  | .nil => 0
  | .cons _ _ r => r.len + 1
def keyL (m : Bool) (k : List UInt8) : List Nd := if m then [⟨3, 0, k, 0⟩] else []
def headN (m : Bool) (c : Nat) : Nd := ⟨if m then 5 else 4, 0, [], c⟩
mutual
/-- Its nodes. -/
def VT.flat : VT → List Nd
  | .leaf n => [n]
  | .node m ms => headN m ms.len :: ms.flat m
def VL.flat (m : Bool) : VL → List Nd
  | .nil => []
  | .cons k t r => keyL m k ++ (t.flat ++ r.flat m)
end
mutual
def VT.deep : VT → Nat
  | .leaf _ => 1
  | .node _ ms => ms.deep + 1
def VL.deep : VL → Nat
  | .nil => 0
  | .cons _ t r => max t.deep r.deep
end
mutual
/-- What may be: keys rise. -/
def VT.ok : VT → Prop
  | .leaf n => fitsS n = true ∧ n.kind < 4 ∧ n.inR
  | .node m ms => ms.ok m none ∧ ms.len ≤ 9223372036854775807
def VL.ok (m : Bool) : VL → Option (List UInt8) → Prop
  | .nil, _ => True
  | .cons k t r, last => t.ok ∧ (m = false → k = []) ∧ (m = true → ∀ l, last = some l → ltB l k = true) ∧ r.ok m (some k)
end
/-- Where the kids begin. -/
def VL.pos (m : Bool) : VL → Nat → List Nat
  | .nil, _ => []
  | .cons k t r, a => (a + (keyL m k).length) :: r.pos m (a + (keyL m k).length + t.flat.length)
def VT.pos : VT → Nat → List Nat
  | .leaf _, _ => []
  | .node m ms, a => ms.pos m a
theorem VL.pos_len {m : Bool} : ∀ {ms : VL} {a : Nat}, (ms.pos m a).length = ms.len
  | .nil, _ => rfl
  | .cons k t r, a => by simp [VL.pos, VL.len, VL.pos_len (ms := r)]
theorem keyL_len {m : Bool} {k : List UInt8} : (keyL m k).length = if m then 1 else 0 := by unfold keyL; split <;> rfl
theorem VT.flat_pos : ∀ t : VT, 0 < t.flat.length
  | .leaf n => by simp [VT.flat]
  | .node m ms => by simp [VT.flat]
theorem VL.len_flat {m : Bool} : ∀ ms : VL, ms.len ≤ (ms.flat m).length
  | .nil => by simp [VL.len]
  | .cons k t r => by have := VL.len_flat (m := m) r; have := t.flat_pos; simp [VL.len, VL.flat]; omega
/-- Nodes that lie at a place. -/
def Sub (L : List Nd) (a : Nat) (f : List Nd) : Prop := ∀ i n, f[i]? = some n → L[a + i]? = some n
theorem Sub.app {L : List Nd} {a : Nat} {f g : List Nd} : Sub L a (f ++ g) ↔ Sub L a f ∧ Sub L (a + f.length) g := by
  constructor
  · intro h
    refine ⟨fun i n hi => h i n ?_, fun i n hi => ?_⟩
    · rw [List.getElem?_append_left (List.getElem?_eq_some_iff.1 hi).1]; exact hi
    · have := h (f.length + i) n (by rw [List.getElem?_append_right (by omega)]; simpa using hi)
      rwa [Nat.add_assoc]
  · intro ⟨h1, h2⟩ i n hi
    rcases Nat.lt_or_ge i f.length with h | h
    · exact h1 i n (by rwa [List.getElem?_append_left h] at hi)
    · rw [List.getElem?_append_right h] at hi
      have := h2 _ n hi
      rwa [show a + f.length + (i - f.length) = a + i by omega] at this
theorem Sub.nil {L : List Nd} {a : Nat} : Sub L a [] := fun i n h => by simp at h
theorem Sub.cons {L : List Nd} {a : Nat} {x : Nd} {f : List Nd} : Sub L a (x :: f) ↔ L[a]? = some x ∧ Sub L (a + 1) f := by
  have := Sub.app (L := L) (a := a) (f := [x]) (g := f)
  rw [show [x] ++ f = x :: f from rfl] at this
  rw [this]
  constructor
  · intro ⟨h1, h2⟩; exact ⟨by simpa using h1 0 x rfl, h2⟩
  · intro ⟨h1, h2⟩
    refine ⟨fun i n hi => ?_, h2⟩
    cases i with
    | zero => simp at hi; subst hi; simpa using h1
    | succ i => simp at hi
theorem Sub.self {f g h : List Nd} : Sub (g ++ (f ++ h)) g.length f := fun i n hi => by
  rw [List.getElem?_append_right (by omega), Nat.add_sub_cancel_left, List.getElem?_append_left (List.getElem?_eq_some_iff.1 hi).1]; exact hi
theorem Sub.le {L : List Nd} {a : Nat} {f : List Nd} (h : Sub L a f) (hf : f ≠ []) : a + f.length ≤ L.length := by
  have hp := List.length_pos_iff.2 hf
  have := h (f.length - 1) f[f.length - 1] (List.getElem?_eq_getElem (by omega))
  have := (List.getElem?_eq_some_iff.1 this).1
  omega
theorem Sub.cut {L : List Nd} {a : Nat} {f : List Nd} (h : Sub L a f) (hf : f ≠ []) : cutS L a (a + f.length) = f := by
  have hle := h.le hf
  unfold cutS
  apply List.ext_getElem?
  intro i
  rw [List.getElem?_drop]
  rcases Nat.lt_or_ge i f.length with hi | hi
  · rw [List.getElem?_take, if_pos (by omega), List.getElem?_eq_getElem hi]
    exact h i _ (List.getElem?_eq_getElem hi)
  · rw [List.getElem?_eq_none_iff.2 hi, List.getElem?_take, if_neg (by omega)]
theorem head_fits {m : Bool} {c : Nat} : fitsS (headN m c) = true := by
  cases m <;> simp [headN, fitsS]
theorem key_fits {k : List UInt8} : fitsS ⟨3, 0, k, 0⟩ = true := by simp [fitsS]
theorem leaf_kids {n : Nd} (h : fitsS n = true) (hk : n.kind < 4) : n.kids = 0 := by
  unfold fitsS at h
  split at h
  · simp at h; exact h.2
  split at h
  · simp at h; exact h.2
  split at h
  · simp at h; exact h.2
  split at h
  · simp at h; exact h.2
  split at h
  · omega
  · cases h
mutual
/-- A tree's nodes are gone through. -/
theorem VT.fwd : ∀ (t : VT), t.ok → ∀ (k : Nat) (L : List Nd) (a : Nat), t.flat.length ≤ k → Sub L a t.flat → valS L k a = some ⟨a + t.flat.length, t.deep, t.pos (a + 1)⟩
  | .leaf n, h, k, L, a, hk, hs => by
    obtain ⟨h1, h2, h3⟩ := h
    cases k with
    | zero => simp [VT.flat] at hk
    | succ k =>
      have hn := (Sub.cons.1 hs).1
      simp only [valS, hn, Option.bind_some, h1, if_true, leaf_kids h1 h2]
      rfl
  | .node m ms, h, k, L, a, hk, hs => by
    cases k with
    | zero => simp [VT.flat] at hk
    | succ k =>
      obtain ⟨hn, hs⟩ := Sub.cons.1 hs
      simp only [VT.flat, List.length_cons] at hk
      have := VL.fwd ms m none h.1 k L (a + 1) 0 0 [] [] (by omega) hs (fun _ => rfl) (fun _ l hl => by cases hl)
      have e1 : (headN m ms.len).kids.toNat = ms.len := by simp [headN]
      have e2 : decide ((headN m ms.len).kind = 5) = m := by cases m <;> simp [headN]
      simp only [valS, hn, Option.bind_some, head_fits, if_true, e1, e2, this, Option.map_some]
      simp [VT.flat, VT.deep, VT.pos]
      omega
theorem VL.fwd : ∀ (ms : VL) (m : Bool) (last : Option (List UInt8)), ms.ok m last → ∀ (k : Nat) (L : List Nd) (a i d : Nat) (ks : List Nat) (lb : List UInt8), (ms.flat m).length ≤ k → Sub L a (ms.flat m) →
    (last = none → i = 0) → (m = true → ∀ l, last = some l → lb = l) → kidsS (valS L k) L m ms.len i ⟨a, d, ks⟩ lb = some ⟨a + (ms.flat m).length, max d ms.deep, ks ++ ms.pos m a⟩
  | .nil, m, last, h, k, L, a, i, d, ks, lb, hk, hs, h1, h2 => by simp [VL.len, kidsS, VL.flat, VL.deep, VL.pos]
  | .cons key t r, m, last, h, k, L, a, i, d, ks, lb, hk, hs, h1, h2 => by
    obtain ⟨g1, g2, g3, g4⟩ := h
    simp only [VL.flat] at hk hs
    obtain ⟨s1, s2⟩ := Sub.app.1 hs
    obtain ⟨s2, s3⟩ := Sub.app.1 s2
    have hkey : keyS L m i a lb = some (a + (keyL m key).length, if m then key else lb) := by
      unfold keyS
      cases m with
      | false => simp [keyL]
      | true =>
        have hn := (Sub.cons.1 (show Sub L a (⟨3, 0, key, 0⟩ :: []) from s1)).1
        have hl : i = 0 ∨ ltB lb key = true := by
          cases last with
          | none => exact .inl (h1 rfl)
          | some l => rw [h2 rfl l rfl]; exact .inr (g3 rfl l rfl)
        simp [hn, key_fits, hl, keyL]
    have hv := VT.fwd t g1 k L (a + (keyL m key).length) (by simp at hk; omega) s2
    have hr := VL.fwd r m (some key) g4 k L (a + (keyL m key).length + t.flat.length) (i + 1) (max d t.deep) (ks ++ [a + (keyL m key).length]) (if m then key else lb) (by simp at hk; omega) s3 (fun h => by cases h) (fun hm l hl => by cases hl; rw [hm]; rfl)
    simp only [VL.len, kidsS, hkey, Option.bind_some, hv, hr]
    simp [VL.flat, VL.deep, VL.pos]
    omega
end
theorem kidsS_tree {val : Nat → Option Span} {L : List Nd} {m : Bool} (hv : ∀ a s, val a = some s → ∃ t : VT, t.ok ∧ Sub L a t.flat ∧ s = ⟨a + t.flat.length, t.deep, t.pos (a + 1)⟩) :
    ∀ {c i : Nat} {s r : Span} {lb : List UInt8}, kidsS val L m c i s lb = some r → ∃ ms : VL, (∀ last, (∀ l, last = some l → m = true → i ≠ 0 ∧ lb = l) → ms.ok m last) ∧ ms.len = c ∧ Sub L s.stop (ms.flat m) ∧ r = ⟨s.stop + (ms.flat m).length, max s.deep ms.deep, s.kids ++ ms.pos m s.stop⟩ := by
  intro c
  induction c with
  | zero => intro i s r lb h; cases h; exact ⟨.nil, fun _ _ => trivial, rfl, Sub.nil, by simp [VL.flat, VL.deep, VL.pos]⟩
  | succ c ih =>
    intro i s r lb h
    simp only [kidsS] at h
    rw [Option.bind_eq_some_iff] at h; obtain ⟨p, hp, h⟩ := h
    rw [Option.bind_eq_some_iff] at h; obtain ⟨kid, hk, h⟩ := h
    obtain ⟨t, t1, t2, rfl⟩ := hv _ _ hk
    obtain ⟨ms, m1, m2, m3, m4⟩ := ih h
    cases m with
    | false =>
      have hp : some (s.stop, lb) = some p := hp
      cases hp
      refine ⟨.cons [] t ms, fun last _ => ⟨t1, fun _ => rfl, fun h => (by cases h), m1 _ (fun l _ h => by cases h)⟩, by simp [VL.len, m2], ?_, ?_⟩
      · simp only [VL.flat, keyL]
        exact Sub.app.2 ⟨Sub.nil, Sub.app.2 ⟨by simpa using t2, by simpa using m3⟩⟩
      · rw [m4]; simp [VL.flat, VL.deep, VL.pos, keyL]; omega
    | true =>
      unfold keyS at hp
      simp only [if_true] at hp
      split at hp
      case h_2 => cases hp
      rename_i k hkn
      split at hp
      case isFalse => cases hp
      rename_i hc
      cases hp
      obtain ⟨c1, c2, c3⟩ := hc
      have hk3 : k = ⟨3, 0, k.text, 0⟩ := by
        obtain ⟨a, b, c, d⟩ := k
        simp only at c1; subst c1
        simp [fitsS] at c2 ⊢
        exact c2
      refine ⟨.cons k.text t ms, fun last hl => ⟨t1, fun h => (by cases h), fun _ l e => ?_, m1 _ (fun l e _ => by cases e; exact ⟨by omega, rfl⟩)⟩, by simp [VL.len, m2], ?_, ?_⟩
      · obtain ⟨g1, g2⟩ := hl l e rfl
        rw [← g2]; exact c3.resolve_left g1
      · simp only [VL.flat, keyL]
        refine Sub.app.2 ⟨?_, Sub.app.2 ⟨by simpa using t2, by simpa using m3⟩⟩
        simp only [if_true]
        exact Sub.cons.2 ⟨hk3 ▸ hkn, Sub.nil⟩
      · rw [m4]; simp [VL.flat, VL.deep, VL.pos, keyL]; omega
/-- What is gone through is a tree. -/
theorem valS_tree {L : List Nd} (hr : ∀ n ∈ L, n.inR) : ∀ {k a : Nat} {s : Span}, valS L k a = some s → ∃ t : VT, t.ok ∧ Sub L a t.flat ∧ s = ⟨a + t.flat.length, t.deep, t.pos (a + 1)⟩ := by
  intro k
  induction k with
  | zero => intro a s h; cases h
  | succ k ih =>
    intro a s h
    simp only [valS] at h
    rw [Option.bind_eq_some_iff] at h; obtain ⟨n, hn, h⟩ := h
    split at h
    case isFalse => cases h
    rename_i hf
    obtain ⟨r, hr1, rfl⟩ := Option.map_eq_some_iff.1 h
    have hin := hr n (List.mem_of_getElem? hn)
    by_cases h4 : n.kind < 4
    · rw [leaf_kids hf h4] at hr1
      cases hr1
      exact ⟨.leaf n, ⟨hf, h4, hin⟩, by simp only [VT.flat]; exact Sub.cons.2 ⟨hn, Sub.nil⟩, by simp [VT.flat, VT.deep, VT.pos]⟩
    · obtain ⟨ms, m1, m2, m3, m4⟩ := kidsS_tree (fun a s h => ih h) hr1
      have hkind : (n.kind = 4 ∨ n.kind = 5) ∧ n.num = 0 ∧ n.text = [] ∧ 0 ≤ n.kids := by
        unfold fitsS at hf
        rw [if_neg (by omega), if_neg (by omega), if_neg (by omega), if_neg (by omega)] at hf
        split at hf
        · rename_i hk; simp at hf; exact ⟨hk, hf.1.1, hf.1.2, hf.2⟩
        · cases hf
      obtain ⟨k1, k2, k3, k4⟩ := hkind
      have hhead : n = headN (decide (n.kind = 5)) ms.len := by
        obtain ⟨kd, nu, tx, ki⟩ := n
        simp only at k1 k2 k3 k4 m2
        subst k2 k3
        rcases k1 with rfl | rfl <;> simp [headN, m2, Int.toNat_of_nonneg k4]
      refine ⟨.node (decide (n.kind = 5)) ms, ⟨m1 none (fun l h => by cases h), by rw [m2]; have := hin.2.2.2; omega⟩, ?_, ?_⟩
      · simp only [VT.flat]
        exact Sub.cons.2 ⟨hhead ▸ hn, m3⟩
      · rw [m4]; simp [VT.flat, VT.deep, VT.pos]; omega
/-- A value is a tree. -/
theorem checkS_tree {l : List Nd} (hr : ∀ n ∈ l, n.inR) (hc : checkS l = 0) : ∃ t : VT, t.ok ∧ l = t.flat ∧ t.deep ≤ 32 := by
  obtain ⟨h1, h2, s, h3, h4⟩ := checkS_ok hc
  obtain ⟨h5, h6⟩ := wholeS_some h3
  obtain ⟨t, t1, t2, t3⟩ := valS_tree hr h5
  refine ⟨t, t1, ?_, by rw [t3] at h4; exact h4⟩
  have hne : t.flat ≠ [] := List.ne_nil_of_length_pos t.flat_pos
  have := t2.cut hne
  rw [t3] at h6
  simp only at h6
  unfold cutS at this
  rw [List.take_of_length_le (by omega)] at this
  simpa using this
end Go.Proofs.Ytonaejfpiihfhaa
