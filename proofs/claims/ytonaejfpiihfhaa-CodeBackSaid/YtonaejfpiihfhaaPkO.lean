/- strings.Builder's String, told by hand; what it is sound by. -/
import Derived.Test.YtonaejfpiihfhaaPkC
import Derived.Lib.UnsafeStr
namespace Go.Proofs.Ytonaejfpiihfhaa.Abs
open Go Go.RowKit
set_option linter.unusedSimpArgs false
set_option linter.unusedVariables false

/-- A byte's value. -/
def bV (b : UInt8) : AV := .int .u8 b.toNat
def bytesR? : List AV → Option (List UInt8)
  | [] => some []
  | .int .u8 n :: r => if 0 ≤ n ∧ n < 256 then (bytesR? r).map fun l => UInt8.ofNat n.toNat :: l else none
  | _ => none
theorem toNat_ofNat {n : Int} (h0 : 0 ≤ n) (h1 : n < 256) : ((UInt8.ofNat n.toNat).toNat : Int) = n := by
  rw [UInt8.toNat_ofNat']
  have : n.toNat < 256 := by omega
  rw [Nat.mod_eq_of_lt this]; omega
theorem bytesR_map (l : List UInt8) : bytesR? (l.map bV) = some l := by
  induction l with
  | nil => rfl
  | cons b l ih =>
    have h1 : (b.toNat : Int) < 256 := by have := b.toNat_lt; omega
    simp only [List.map_cons, bV, bytesR?]
    rw [if_pos ⟨by omega, h1⟩]
    have : List.map (fun b : UInt8 => AV.int .u8 b.toNat) l = l.map bV := rfl
    rw [show (List.map bV l) = l.map bV from rfl, ih]
    simp
theorem bytesR_eq : ∀ {es : List AV} {l : List UInt8}, bytesR? es = some l → es = l.map bV
  | [], l, h => by cases h; rfl
  | .int .u8 n :: r, l, h => by
    simp only [bytesR?] at h
    split at h
    · rename_i hc
      obtain ⟨l', h', rfl⟩ := Option.map_eq_some_iff.1 h
      simp only [List.map_cons, bV, toNat_ofNat hc.1 hc.2, ← bytesR_eq h']
    · cases h

def cellAt (v : AV) (i : Nat) : Option AV := v.cells[i]?
/-- What String tells; the row is not looked at, or written, any more. -/
def strP (B : TypeId) : CallFn := fun _ args hp =>
  match args with
  | [.ptr id 0 0] => (match aget hp id with
    | some (.box _ v) => (match cellAt v 1 with
      | some (.own k) => (match aget hp k with
        | some (.row 1 es _ m) => if m.t = B ∧ es.length ≤ LIM then (bytesR? es).map fun bs => (.ret (.str bs), hput k (.row 1 [] false ⟨true, m.t⟩) (({ sl := [], hp } : ASt).killn k).hp) else none
        | _ => none)
      | _ => none)
    | _ => none)
  | _ => none

structure StrRun (P : Program) (g : FuncId) (B : TypeId) : Prop where
  some_ : ∀ (w : World) (b k : Nat) (l : List UInt8) (cap : Nat) (cells : Array Value) (fr : Nat × Nat), w.cell? (at0 b 1) = some (.slice (some (at0 k 0)) l.length cap) → w.heap[k]? = some (.cells cells B fr) → l ≠ [] → l.length ≤ cap →
    (∀ (j : Nat) x, l[j]? = some x → w.cell? (at0 k j) = some (.int .u8 x.toNat)) → l.length ≤ cells.size → l.length ≤ 9223372036854775807 →
    CallsIn (FW none) 0 P g #[.pointer (some (at0 b 0))] w fun e w' => e = .returned (.string ⟨l.toArray⟩) ∧ w' = w.drew.freeze (at0 k 0) l.length
  none_ : ∀ (w : World) (b : Nat), w.cell? (at0 b 1) = some (.slice none 0 0) → CallsIn (FW none) 0 P g #[.pointer (some (at0 b 0))] w fun e w' => e = .returned (.string ⟨#[]⟩) ∧ w' = w.drew
  zero_ : ∀ (w : World) (b k cap : Nat) (cells : Array Value) (t : TypeId) (fr : Nat × Nat), w.cell? (at0 b 1) = some (.slice (some (at0 k 0)) 0 cap) → w.heap[k]? = some (.cells cells t fr) →
    CallsIn (FW none) 0 P g #[.pointer (some (at0 b 0))] w fun e w' => e = .returned (.string ⟨#[]⟩) ∧ (w' = w.drew ∨ ∃ o, w' = w.drew.alloc o)

theorem freeze_other {w : World} {k n : Nat} {b : Nat} (h : b ≠ k) : (w.freeze (at0 k 0) n).heap[b]? = w.heap[b]? := by
  unfold World.freeze
  split
  · rfl
  · simp only [at0, Array.getElem?_modify, if_neg (Ne.symm h)]
theorem freeze_same {w : World} {k n : Nat} {c : Array Value} {t : TypeId} {fr : Nat × Nat} (h : w.heap[k]? = some (.cells c t fr)) : ∃ fr', (w.freeze (at0 k 0) n).heap[k]? = some (.cells c t fr') := by
  unfold World.freeze
  split
  · exact ⟨fr, h⟩
  · obtain ⟨lo, hi⟩ := fr
    simp only [at0, Array.getElem?_modify, if_true, h, Option.map_some]
    exact ⟨_, rfl⟩
theorem freeze_cell {w : World} {k n : Nat} (b o : Nat) : (w.freeze (at0 k 0) n).cell? (at0 b o) = w.cell? (at0 b o) := by
  by_cases h : b = k
  · subst h
    cases hb : w.heap[b]? with
    | none =>
      have : (w.freeze (at0 b 0) n).heap[b]? = none := by
        unfold World.freeze
        split
        · exact hb
        · simp only [at0, Array.getElem?_modify, if_true, hb, Option.map_none]
      simp [World.cell?, at0, hb, this]
      simp [at0] at this
      simp [this]
    | some ob =>
      cases ob with
      | cells c t fr =>
        obtain ⟨fr', h'⟩ := freeze_same (n := n) hb
        simp only [cell_block hb, cell_block h']
      | _ =>
        have : (w.freeze (at0 b 0) n).heap[b]? = w.heap[b]? := by
          unfold World.freeze
          split
          · rfl
          · simp only [at0, Array.getElem?_modify, if_true, hb, Option.map_some]
        exact cell_same this o
  · exact cell_same (freeze_other h) o
theorem freeze_size {w : World} {a : Addr} {n : Nat} : (w.freeze a n).heap.size = w.heap.size := by
  unfold World.freeze
  split <;> simp

variable {G : Cfg}
theorem strP_ok {g : FuncId} {B : TypeId} (R : StrRun G.P g B) {args : List AV} {hp : Heap} {r : ARes × Heap} (h : strP B g args hp = some r) : CallSound G.P g args hp r := by
  unfold strP at h
  split at h
  case h_2 => cases h
  rename_i id
  split at h
  case h_2 => cases h
  rename_i T v hob
  split at h
  case h_2 => cases h
  rename_i k hk
  split at h
  case h_2 => cases h
  rename_i es fx m hrow
  split at h
  case isFalse => cases h
  rename_i hc
  obtain ⟨bs, hbs, rfl⟩ := Option.map_eq_some_iff.1 h
  have hes := bytesR_eq hbs
  have hlen : es.length = bs.length := by rw [hes]; simp
  intro S ρ w vs hl H hS hal hv
  obtain ⟨u0, rfl⟩ : ∃ u0, vs = #[u0] := by
    obtain ⟨l⟩ := vs
    match l, hal with
    | [x], _ => exact ⟨x, rfl⟩
  obtain ⟨b, sz, n, hρ, rfl⟩ := vr_ptr (hv 0 _ u0 rfl rfl)
  rw [Nat.zero_mul, Nat.zero_add]
  obtain ⟨rfl, cells, t, fr, g2, g3, g4, g5, g6⟩ := box_of H hob hρ
  obtain ⟨u, hu, hvu⟩ := g6 1 _ hk
  have hcell : w.cell? (at0 b 1) = some u := by rw [cell_block g2]; exact hu
  have S0 : SR (envOf S ρ w hl) { sl := [], hp } S ρ #[] w := by
    refine ⟨fun t => .undef _, H, fun n b sz k hn => .inl ⟨n, sz, k, hn⟩, fun n o _ _ r hr => hr, ⟨Ext.refl S w, fun _ _ h => .inl h, hS, Nat.le_refl _, fun _ _ _ => rfl, fun _ h => h, rfl, rfl, rfl⟩⟩
  have fin : ∀ (w' : World) (e : Ending), e = .returned (.string ⟨bs.toArray⟩) → SR (envOf S ρ w hl) { sl := (({ sl := [], hp } : ASt).killn k).sl, hp := hput k (.row 1 [] false ⟨true, m.t⟩) (({ sl := [], hp } : ASt).killn k).hp } S (upd ρ k ⟨none, 0⟩) #[] w' →
      ∃ S' ρ', Out (envOf S ρ w hl) (hput k (.row 1 [] false ⟨true, m.t⟩) (({ sl := [], hp } : ASt).killn k).hp) S' ρ' w' ∧ AnswerR S' ρ' w' (.ret (.str bs)) e := by
    rintro w' e rfl k1
    refine ⟨S, _, ⟨k1.heap, k1.mine, k1.old, k1.fr⟩, ?_⟩
    have := VR.pure (ρ := upd ρ k ⟨none, 0⟩) (PR.str (S := S) (w := w') ⟨bs.toArray⟩)
    exact this
  have hst0 : Step (envOf S ρ w hl) S w S w.drew := Step.drew S0.fr
  cases hvu with
  | pure hp => cases hp
  | own0 _ h0 =>
    have he := row0_of H hrow h0
    have hb0 : bs = [] := by subst he; simpa [eq_comm] using hlen
    subst hb0
    refine (R.none_ w b hcell).mono fun e w' ⟨he, hw⟩ => ?_
    subst hw
    exact fin _ e he (S0.regrow hrow hst0 (fun m b s k _ _ => ⟨rfl, fun _ h => h⟩) (fun b s k e => by cases e) (.inl ⟨rfl, by simp [upd]⟩) rfl)
  | own _ gb s n cap hρk hcap hr =>
    obtain ⟨rfl, rfl, _, hsz, cells', t', fr', k2, k3, k4, k5, k6⟩ := rowobj_of H hrow hρk
    by_cases hb0 : bs = []
    · subst hb0
      have he0 : es = [] := by simpa using hlen
      subst he0
      refine (R.zero_ w b gb cap cells' t' fr' hcell k2).mono fun e w' ⟨he, hw⟩ => ?_
      refine fin _ e he ?_
      rcases hw with rfl | ⟨o, rfl⟩
      · exact S0.regrow hrow hst0 (fun m b s k _ _ => ⟨rfl, fun _ h => h⟩) (fun b s k e => by cases e) (.inl ⟨rfl, by simp [upd]⟩) rfl
      · have h1 := S0.drew
        refine h1.regrow hrow (Step.alloc h1.fr o) (fun m b' s k _ hb => ⟨Below.heap_alloc w.drew o b' (h1.heap.lt hb), fun _ h => h⟩) (fun b s k e => by cases e) (.inl ⟨rfl, by simp [upd]⟩) rfl
    · rw [hlen] at hcell
      have hlim := hc.2
      unfold LIM at hlim
      have hcells : ∀ (j : Nat) x, bs[j]? = some x → w.cell? (at0 gb j) = some (.int .u8 x.toNat) := by
        intro j x hx
        have he : es[j]? = some (bV x) := by rw [hes, List.getElem?_map, hx]; rfl
        obtain ⟨q, hq, hp, _⟩ := k5 j 0 (bV x) (bV x) he rfl
        rw [Nat.mul_one, Nat.add_zero] at hq
        rw [cell_block k2, hq]
        cases hp; rfl
      obtain ⟨k3a, k3b⟩ := k3
      refine (R.some_ w b gb bs cap cells' fr' hcell (by rw [k2, k3b, hc.1]) hb0 (by omega) hcells (by omega) (by omega)).mono fun e w' ⟨he, hw⟩ => ?_
      subst hw
      refine fin _ e he ?_
      have h1 := S0.drew
      have hF : (envOf S ρ w hl).F gb := ⟨k, _, _, hρk⟩
      have hg2 : w.drew.heap[gb]? = some (.cells cells' t' fr') := k2
      refine h1.regrow hrow (w' := w.drew.freeze (at0 gb 0) bs.length) ⟨⟨fun _ _ h => h, fun b' o _ => freeze_cell b' o, fun b' c t2 f2 hb' => ?_⟩, by rw [freeze_size]; exact Nat.le_refl _, fun b' _ hnF => freeze_other (fun e => hnF (e ▸ hF)), fun b' hb' => ?_, fun _ _ h => .inl h, fun b' o hb' => by rw [freeze_size]; exact hS b' o hb', ?_, ?_, ?_⟩
        (fun n b' s' k' hn hb' => ⟨freeze_other fun e => ?_, fun _ h => h⟩) (fun b s k e => by cases e) (.inl ⟨rfl, by simp [upd]⟩) rfl
      · by_cases e : b' = gb
        · subst e
          rw [hg2] at hb'; cases hb'
          obtain ⟨fr3, h3⟩ := freeze_same (n := bs.length) hg2
          exact ⟨cells', fr3, h3, rfl⟩
        · exact ⟨c, f2, by rw [freeze_other e]; exact hb', rfl⟩
      · have e : b' ≠ gb := fun e => by subst e; rw [hg2] at hb'; cases hb'
        rw [freeze_other e]; exact hb'
      · unfold World.freeze; split <;> rfl
      · unfold World.freeze; split <;> rfl
      · unfold World.freeze; split <;> rfl
      · subst e
        exact hn (H.inj _ _ _ _ _ _ _ hb' hρk)

/-- A pointer that does not escape is as it is. -/
def idP : List AV → Option AV
  | [v] => some v
  | _ => none
theorem idP_ok {P : Program} {g : FuncId} {fn : Func} (hf : P.funcs[g]? = some fn) (hn : (fn.name == "runtime.NumGoroutine") = false) (hb : fn.body = none) (h1 : Extern.findNext fn = none) (h2 : Extern.find fn = some Extern.AbiNoEscape.same)
    {args : List AV} {v : AV} (h : idP args = some v) {S : Stab} {ρ : Rho} {w : World} {vs : Array Value} (hl : args.length = vs.size) (hv : ∀ (j : Nat) c u, args[j]? = some c → vs[j]? = some u → VR S ρ w c u) :
    ∃ u, (callFunc g vs).run P w = .ok (.value u) w ∧ VR S ρ w v u := by
  unfold idP at h
  split at h
  case h_2 => cases h
  cases h
  obtain ⟨x, rfl⟩ : ∃ x, vs = #[x] := by
    obtain ⟨l⟩ := vs
    match l, hl with
    | [x], _ => exact ⟨x, rfl⟩
  refine ⟨x, ?_, hv 0 _ x rfl rfl⟩
  rw [run_callFunc_extern hf hn (by rw [hb]; rfl) h1 h2, Lib.run_noEscape]
  rfl
end Go.Proofs.Ytonaejfpiihfhaa.Abs
