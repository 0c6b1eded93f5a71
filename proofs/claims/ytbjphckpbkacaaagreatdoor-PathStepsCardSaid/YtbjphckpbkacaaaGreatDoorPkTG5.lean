/- What the row of this claim leans on: own texts, merged. -/
import Derived.Test.YtbjphckpbkacaaaGreatDoorProg
import Derived.Lib.SliceRun
import Derived.ArgAppend
import Derived.BigRegionIn
import Derived.Shelf.LaysC
import Derived.Shelf.Strconv.In.AtoiAll
import Derived.Ground.NamesProg
import Derived.Lib.ItoaMem
import Derived.Lib.ItoaWalk
import Derived.Lib.ConvBytes
import Derived.Lib.Walk
import Derived.WalkKit
import Derived.Shelf.RegionOpen
import Derived.TacticsInMore
import Derived.LoopIn
import Derived.Lib.Bytealg
import Derived.Lib.SmallJoins
import Derived.Deep.Slices
import Derived.ChangeArms
import Derived.DataReads
import Derived.Test.YtbjphckpbkacaaaGreatDoorRows
import Derived.ProofKit
import Derived.OpenShut
import Derived.ShutString
import Derived.ChangeOld
import Derived.Below
import Derived.Carry
import Derived.Stop.LaidErr
import Derived.Lib.LaidTab
import Derived.LaidHandle
import Derived.LaidMore
import Derived.Stop.Joined
import Derived.Test.YtbjphckpbkacaaaGreatDoorPkTG4

/- slices.Delete, walked: at rows of texts, and at rows of rows. -/
namespace Go.Proofs.YtbjphckpbkacaaaGreatDoor
open Go Abs Go.RowKit
set_option linter.unusedSimpArgs false
set_option linter.unusedVariables false

theorem step_append_roomIn {F : Fence} {nn : Nat} {P : Program} {ops : Array Oper} {o : Oper} {a : Act} {w : World} {K : Act → World → Prop} {Q : Exit → Act → World → Prop} {E : Prop}
    (hg : o.guard = none) (s x : Operand) (t : TypeId) (hop : o.op = Op.call { callee := Callee.builtin Builtin.append, args := #[s, x], argTypes := #[t, t] })
    (e : TypeId) (i : TypeInfo) (size : Nat) (h1 : P.underlying t = some (.slice e)) (h2 : P.info? e = some i) (h4 : i.size = size)
    (b off n cap : Nat) (hs : a.eval s = .slice (some ⟨b, off, none⟩) n cap)
    (ad : Addr) (m c : Nat) (news : List Value) (hx : a.eval x = .slice (some ad) m c) (hn : news.length = m * size) (hc : ∀ j u, news[j]? = some u → w.cell? (ad.add j) = some u) (h1c : ∀ u ∈ news, u.oneCell' = true)
    (hroom : n + m ≤ cap) (hspare : ∀ j, j < news.length → (w.cell? ⟨b, off + n * size + j, none⟩).isSome = true ∧ w.frozen? ⟨b, off + n * size + j, none⟩ = false)
    (hK : K (a.put o.dst (.slice (some ⟨b, off, none⟩) (n + m) cap)) (w.setCells b (off + n * size) news)) :
    if Region.wanted o (yielded ops a.tmps) = true then Oper.wpIn F nn P o a w K Q else E := by
  have hw : Region.wanted o (yielded ops a.tmps) = true := by simp [Region.wanted, hg]
  rw [if_pos hw]
  subst h4
  have hrun := run_append_room_cells (P := P) w t o.type e i h1 h2 b off n cap ad m c news hn hc h1c hroom (fun j hj => (hspare j hj).1) (fun j hj => (hspare j hj).2)
  unfold Oper.wpIn
  refine ⟨fun f hf => ?_, ?_⟩
  · simp [Oper.about, hop, resolve, Target.leads] at hf
  · simp [Oper.semAt, execOp, hop, resolve, invoke, builtin, hs, hx, hrun, Result.andThen]
    exact hK
theorem setCell_keeps (w : World) (b o v) (a : Addr) (h : (w.cell? a).isSome = true ∧ w.frozen? a = false) : ((w.setCell (at0 b o) v).cell? a).isSome = true ∧ (w.setCell (at0 b o) v).frozen? a = false := by
  obtain ⟨u, hu⟩ := Option.isSome_iff_exists.1 h.1
  obtain ⟨v', hv⟩ := Go.RowKit.cell?_setCell_some (p := at0 b o) (x := v) hu
  exact ⟨by rw [hv]; rfl, by rw [World.frozen?_setCell]; exact h.2⟩
theorem setCells_keeps (b : Nat) (l : List Value) : ∀ (w : World) (o : Nat) (a : Addr), ((w.cell? a).isSome = true ∧ w.frozen? a = false) → ((w.setCells b o l).cell? a).isSome = true ∧ (w.setCells b o l).frozen? a = false := by
  induction l with
  | nil => intro w o a h; exact h
  | cons v l ih => intro w o a h; exact ih _ _ _ (setCell_keeps w b o v a h)
theorem one_of_scalar {v : Value} (h : scalarV v = true) : v.oneCell' = true := by cases v <;> first | rfl | cases h


set_option maxHeartbeats 4000000 in
set_option maxRecDepth 1000000 in
theorem del161 (w : World) (blk off cap i j : Nat) (d : List Value) (hH : ∀ (k : Nat) x, d[k]? = some x → w.cell? ⟨blk, off + k, none⟩ = some x ∧ w.frozen? ⟨blk, off + k, none⟩ = false) (hsc : ∀ x ∈ d, scalarV x = true) (hcap : d.length ≤ cap) (hm : d.length ≤ 9223372036854775807) (hlt : i < j) (hj : j ≤ d.length) :
    CallsIn (FW none) 0 Tryz.prog 161 #[.slice (some ⟨blk, off, none⟩) d.length cap, .int .i64 i, .int .i64 j] w fun e w' => e = .returned (.slice (some ⟨blk, off, none⟩) (d.length - (j - i)) cap) ∧
      ∃ zs : List Value, zs.length = j - i ∧ w' = (w.drew.setCells blk (off + i) (d.drop j)).setCells blk (off + (i + (d.length - j))) zs := by
  have mixed : Tryz.prog.follows .mixedOrders = true := by kernel_rfl
  obtain ⟨news, hnews⟩ : ∃ news, news = d.drop j := ⟨_, rfl⟩
  obtain ⟨L, hL⟩ : ∃ L, L = d.length := ⟨_, rfl⟩
  have hlen : news.length = L - j := by rw [hnews, hL]; simp
  obtain ⟨A, hA, hsrc⟩ : ∃ A : Addr, (if cap = j then some (⟨blk, off, none⟩ : Addr) else some ⟨blk, off + j, none⟩) = some A ∧ Hid (∀ t u, news[t]? = some u → w.drew.cell? (A.add t) = some u) := by
    by_cases h : cap = j
    · refine ⟨⟨blk, off, none⟩, by simp [h], fun t u hu => ?_⟩
      have h0 : news.length = 0 := by rw [hlen]; omega
      rw [List.length_eq_zero_iff.1 h0] at hu
      simp at hu
    · refine ⟨⟨blk, off + j, none⟩, by simp [h], fun t u hu => ?_⟩
      rw [hnews, List.getElem?_drop] at hu
      rw [Addr.add_lit, Nat.add_assoc]
      exact (hH (j + t) u hu).1
  have s1 : Hid (news.length = (L - j) * 1) := by rw [Nat.mul_one]; exact hlen
  have s2 : Hid (∀ u ∈ news, u.oneCell' = true) := by
    intro u hu
    rw [hnews] at hu
    exact one_of_scalar (hsc u (List.mem_of_mem_drop hu))
  have hfr : ∀ k, k < L → (w.drew.cell? ⟨blk, off + k, none⟩).isSome = true ∧ w.drew.frozen? ⟨blk, off + k, none⟩ = false := by
    intro k hk
    have h := hH k d[k] (List.getElem?_eq_getElem (by omega))
    exact ⟨by show (w.cell? _).isSome = true; rw [h.1]; rfl, h.2⟩
  have s3 : Hid (∀ t, t < news.length → (w.drew.cell? ⟨blk, off + i * 1 + t, none⟩).isSome = true ∧ w.drew.frozen? ⟨blk, off + i * 1 + t, none⟩ = false) := by
    intro t ht
    rw [hlen] at ht
    rw [Nat.mul_one, Nat.add_assoc]
    exact hfr _ (by omega)
  obtain ⟨W1, hW1⟩ : ∃ W1, W1 = w.drew.setCells blk (off + i * 1) news := ⟨_, rfl⟩
  have hfr1 : ∀ k, k < L → (W1.cell? ⟨blk, off + k, none⟩).isSome = true ∧ W1.frozen? ⟨blk, off + k, none⟩ = false := by
    intro k hk
    rw [hW1]
    exact setCells_keeps _ _ _ _ _ (hfr k hk)
  have hcl : ∀ ty, (Builtin.clear_ #[110] ty #[.slice (some ⟨blk, off + (i + (L - j)), none⟩) (L - (i + (L - j))) (cap - (i + (L - j)))]).run Tryz.prog W1 = .ok (.tuple #[]) (W1.setCells blk (off + (i + (L - j))) (List.replicate (L - (i + (L - j))) (.string .empty))) :=
    fun ty => Lib.run_clear_slice W1 110 9 ty _ Tryz.underlying110 Tryz.zeroValue9 rfl rfl blk (off + (i + (L - j))) _ _ (by omega) (fun t ht => by rw [Nat.add_assoc]; exact (hfr1 _ (by omega)).1) (fun t ht => by rw [Nat.add_assoc]; exact (hfr1 _ (by omega)).2)
  have hW : Hid (W1 = w.drew.setCells blk (off + i * 1) news) := hW1
  have hic : i ≤ cap := by omega
  have hjc : j ≤ cap := by omega
  have hLc : L ≤ cap := by omega
  have hjL : j ≤ L := by omega
  rw [← hL] at hm hcap hj ⊢
  have fin : ∃ zs : List Value, zs.length = j - i ∧ W1.setCells blk (off + (i + (L - j))) (List.replicate (L - (i + (L - j))) (.string .empty)) = (w.drew.setCells blk (off + i) (d.drop j)).setCells blk (off + (i + (L - j))) zs :=
    ⟨List.replicate (L - (i + (L - j))) (.string .empty), by rw [List.length_replicate]; omega, by rw [hW1, hnews, Nat.mul_one]⟩
  have fin' : Hid _ := fin
  clear fin hW1 hfr1 hfr hH hnews hlen hsc hcap hL
  gi_enter Tryz.func161, Tryz.ntmps161
  gi_wp2
  refine wpIn_region_any (by assumption) ?_
  change wpAnyIn _ _ _ _ _ _ _ _ _ (World.drew _)
  refine wpAnyIn_take (i := 0) (v := ?_) rfl rfl (by kernel_rfl) (by kernel_rfl) (by kernel_rfl) (fun _ _ _ h => h) ⟨Or.inl ⟨by rfl, ?_⟩, fun _ => rfl⟩ ?_
  rotate_left
  · intro w; go_simp; try with_reducible rfl
  refine wpAnyIn_take (i := 1) (v := ?_) rfl rfl (by kernel_rfl) (by kernel_rfl) (by kernel_rfl) (fun _ _ _ h => h) ⟨Or.inl ⟨by rfl, ?_⟩, fun _ => rfl⟩ ?_
  rotate_left
  · intro w; go_simp; try with_reducible rfl
  refine wpAnyIn_take (i := 3) (v := ?_) rfl rfl (by kernel_rfl) (by kernel_rfl) (by kernel_rfl) (fun _ _ _ h => h) ⟨Or.inl ⟨by rfl, ?_⟩, fun _ => rfl⟩ ?_
  rotate_left
  · intro w; go_simp; try with_reducible rfl
  refine wpAnyIn_take (i := 4) (v := ?_) rfl rfl (by kernel_rfl) (by kernel_rfl) (by kernel_rfl) (fun _ _ _ h => h) ⟨Or.inl ⟨by rfl, ?_⟩, fun _ => rfl⟩ ?_
  rotate_left
  · intro w; go_simp; try with_reducible rfl
  refine wpAnyIn_ready (rs := [2, 5]) (by kernel_rfl) (by simp) ?_
  refine AllReadyIn.cons rfl (fun K hK => ?_) (AllReadyIn.cons rfl (fun K hK => ?_) AllReadyIn.nil)
  · go_simp
    refine hK _ _ ?_
    clear hK K
    refine wpAnyIn_ready (rs := [5]) (by kernel_rfl) (by simp) ?_
    refine AllReadyIn.cons rfl (fun K hK => ?_) AllReadyIn.nil
    go_simp
    refine hK _ _ ?_
    clear hK K
    refine wpAnyIn_ready (rs := [6]) (by kernel_rfl) (by simp) ?_
    refine AllReadyIn.cons rfl (fun K hK => ?_) AllReadyIn.nil
    refine step_append_roomIn rfl (.tmp 22) (.tmp 25) 110 rfl 9 Tryz.t9 1 Tryz.underlying110 (by kernel_rfl) rfl blk off i cap (by simp [Act.eval, Act.put]) A (L - j) (cap - j) news (by simp [Act.eval, Act.put]) s1.out hsrc.out s2.out (by omega) s3.out ?_
    rw [← hW.out]
    refine hK _ _ ?_
    clear hK K
    refine wpAnyIn_ready (rs := [7]) (by kernel_rfl) (by simp) ?_
    refine AllReadyIn.cons rfl (fun K hK => ?_) AllReadyIn.nil
    go_simp
    refine hK _ _ ?_
    clear hK K
    refine wpAnyIn_done (by kernel_rfl) ?_ _
    gi_wp2
    go_ret
    exact ⟨by rw [show L - (j - i) = i + (L - j) by omega]; rfl, fin'.out⟩
  · go_simp
    refine hK _ _ ?_
    clear hK K
    refine wpAnyIn_ready (rs := [2]) (by kernel_rfl) (by simp) ?_
    refine AllReadyIn.cons rfl (fun K hK => ?_) AllReadyIn.nil
    go_simp
    refine hK _ _ ?_
    clear hK K
    refine wpAnyIn_ready (rs := [6]) (by kernel_rfl) (by simp) ?_
    refine AllReadyIn.cons rfl (fun K hK => ?_) AllReadyIn.nil
    refine step_append_roomIn rfl (.tmp 22) (.tmp 25) 110 rfl 9 Tryz.t9 1 Tryz.underlying110 (by kernel_rfl) rfl blk off i cap (by simp [Act.eval, Act.put]) A (L - j) (cap - j) news (by simp [Act.eval, Act.put]) s1.out hsrc.out s2.out (by omega) s3.out ?_
    rw [← hW.out]
    refine hK _ _ ?_
    clear hK K
    refine wpAnyIn_ready (rs := [7]) (by kernel_rfl) (by simp) ?_
    refine AllReadyIn.cons rfl (fun K hK => ?_) AllReadyIn.nil
    go_simp
    refine hK _ _ ?_
    clear hK K
    refine wpAnyIn_done (by kernel_rfl) ?_ _
    gi_wp2
    go_ret
    exact ⟨by rw [show L - (j - i) = i + (L - j) by omega]; rfl, fin'.out⟩


set_option maxHeartbeats 4000000 in
set_option maxRecDepth 1000000 in
theorem del162 (w : World) (blk off cap i j : Nat) (d : List Value) (hH : ∀ (k : Nat) x, d[k]? = some x → w.cell? ⟨blk, off + k, none⟩ = some x ∧ w.frozen? ⟨blk, off + k, none⟩ = false) (hsc : ∀ x ∈ d, scalarV x = true) (hcap : d.length ≤ cap) (hm : d.length ≤ 9223372036854775807) (hlt : i < j) (hj : j ≤ d.length) :
    CallsIn (FW none) 0 Tryz.prog 162 #[.slice (some ⟨blk, off, none⟩) d.length cap, .int .i64 i, .int .i64 j] w fun e w' => e = .returned (.slice (some ⟨blk, off, none⟩) (d.length - (j - i)) cap) ∧
      ∃ zs : List Value, zs.length = j - i ∧ w' = (w.drew.setCells blk (off + i) (d.drop j)).setCells blk (off + (i + (d.length - j))) zs := by
  have mixed : Tryz.prog.follows .mixedOrders = true := by kernel_rfl
  obtain ⟨news, hnews⟩ : ∃ news, news = d.drop j := ⟨_, rfl⟩
  obtain ⟨L, hL⟩ : ∃ L, L = d.length := ⟨_, rfl⟩
  have hlen : news.length = L - j := by rw [hnews, hL]; simp
  obtain ⟨A, hA, hsrc⟩ : ∃ A : Addr, (if cap = j then some (⟨blk, off, none⟩ : Addr) else some ⟨blk, off + j, none⟩) = some A ∧ Hid (∀ t u, news[t]? = some u → w.drew.cell? (A.add t) = some u) := by
    by_cases h : cap = j
    · refine ⟨⟨blk, off, none⟩, by simp [h], fun t u hu => ?_⟩
      have h0 : news.length = 0 := by rw [hlen]; omega
      rw [List.length_eq_zero_iff.1 h0] at hu
      simp at hu
    · refine ⟨⟨blk, off + j, none⟩, by simp [h], fun t u hu => ?_⟩
      rw [hnews, List.getElem?_drop] at hu
      rw [Addr.add_lit, Nat.add_assoc]
      exact (hH (j + t) u hu).1
  have s1 : Hid (news.length = (L - j) * 1) := by rw [Nat.mul_one]; exact hlen
  have s2 : Hid (∀ u ∈ news, u.oneCell' = true) := by
    intro u hu
    rw [hnews] at hu
    exact one_of_scalar (hsc u (List.mem_of_mem_drop hu))
  have hfr : ∀ k, k < L → (w.drew.cell? ⟨blk, off + k, none⟩).isSome = true ∧ w.drew.frozen? ⟨blk, off + k, none⟩ = false := by
    intro k hk
    have h := hH k d[k] (List.getElem?_eq_getElem (by omega))
    exact ⟨by show (w.cell? _).isSome = true; rw [h.1]; rfl, h.2⟩
  have s3 : Hid (∀ t, t < news.length → (w.drew.cell? ⟨blk, off + i * 1 + t, none⟩).isSome = true ∧ w.drew.frozen? ⟨blk, off + i * 1 + t, none⟩ = false) := by
    intro t ht
    rw [hlen] at ht
    rw [Nat.mul_one, Nat.add_assoc]
    exact hfr _ (by omega)
  obtain ⟨W1, hW1⟩ : ∃ W1, W1 = w.drew.setCells blk (off + i * 1) news := ⟨_, rfl⟩
  have hfr1 : ∀ k, k < L → (W1.cell? ⟨blk, off + k, none⟩).isSome = true ∧ W1.frozen? ⟨blk, off + k, none⟩ = false := by
    intro k hk
    rw [hW1]
    exact setCells_keeps _ _ _ _ _ (hfr k hk)
  have hcl : ∀ ty, (Builtin.clear_ #[49] ty #[.slice (some ⟨blk, off + (i + (L - j)), none⟩) (L - (i + (L - j))) (cap - (i + (L - j)))]).run Tryz.prog W1 = .ok (.tuple #[]) (W1.setCells blk (off + (i + (L - j))) (List.replicate (L - (i + (L - j))) (.slice none 0 0))) :=
    fun ty => Lib.run_clear_slice W1 49 37 ty _ Tryz.underlying49 Tryz.zeroValue37 rfl rfl blk (off + (i + (L - j))) _ _ (by omega) (fun t ht => by rw [Nat.add_assoc]; exact (hfr1 _ (by omega)).1) (fun t ht => by rw [Nat.add_assoc]; exact (hfr1 _ (by omega)).2)
  have hW : Hid (W1 = w.drew.setCells blk (off + i * 1) news) := hW1
  have hic : i ≤ cap := by omega
  have hjc : j ≤ cap := by omega
  have hLc : L ≤ cap := by omega
  have hjL : j ≤ L := by omega
  rw [← hL] at hm hcap hj ⊢
  have fin : ∃ zs : List Value, zs.length = j - i ∧ W1.setCells blk (off + (i + (L - j))) (List.replicate (L - (i + (L - j))) (.slice none 0 0)) = (w.drew.setCells blk (off + i) (d.drop j)).setCells blk (off + (i + (L - j))) zs :=
    ⟨List.replicate (L - (i + (L - j))) (.slice none 0 0), by rw [List.length_replicate]; omega, by rw [hW1, hnews, Nat.mul_one]⟩
  have fin' : Hid _ := fin
  clear fin hW1 hfr1 hfr hH hnews hlen hsc hcap hL
  gi_enter Tryz.func162, Tryz.ntmps162
  gi_wp2
  refine wpIn_region_any (by assumption) ?_
  change wpAnyIn _ _ _ _ _ _ _ _ _ (World.drew _)
  refine wpAnyIn_take (i := 0) (v := ?_) rfl rfl (by kernel_rfl) (by kernel_rfl) (by kernel_rfl) (fun _ _ _ h => h) ⟨Or.inl ⟨by rfl, ?_⟩, fun _ => rfl⟩ ?_
  rotate_left
  · intro w; go_simp; try with_reducible rfl
  refine wpAnyIn_take (i := 1) (v := ?_) rfl rfl (by kernel_rfl) (by kernel_rfl) (by kernel_rfl) (fun _ _ _ h => h) ⟨Or.inl ⟨by rfl, ?_⟩, fun _ => rfl⟩ ?_
  rotate_left
  · intro w; go_simp; try with_reducible rfl
  refine wpAnyIn_take (i := 3) (v := ?_) rfl rfl (by kernel_rfl) (by kernel_rfl) (by kernel_rfl) (fun _ _ _ h => h) ⟨Or.inl ⟨by rfl, ?_⟩, fun _ => rfl⟩ ?_
  rotate_left
  · intro w; go_simp; try with_reducible rfl
  refine wpAnyIn_take (i := 4) (v := ?_) rfl rfl (by kernel_rfl) (by kernel_rfl) (by kernel_rfl) (fun _ _ _ h => h) ⟨Or.inl ⟨by rfl, ?_⟩, fun _ => rfl⟩ ?_
  rotate_left
  · intro w; go_simp; try with_reducible rfl
  refine wpAnyIn_ready (rs := [2, 5]) (by kernel_rfl) (by simp) ?_
  refine AllReadyIn.cons rfl (fun K hK => ?_) (AllReadyIn.cons rfl (fun K hK => ?_) AllReadyIn.nil)
  · go_simp
    refine hK _ _ ?_
    clear hK K
    refine wpAnyIn_ready (rs := [5]) (by kernel_rfl) (by simp) ?_
    refine AllReadyIn.cons rfl (fun K hK => ?_) AllReadyIn.nil
    go_simp
    refine hK _ _ ?_
    clear hK K
    refine wpAnyIn_ready (rs := [6]) (by kernel_rfl) (by simp) ?_
    refine AllReadyIn.cons rfl (fun K hK => ?_) AllReadyIn.nil
    refine step_append_roomIn rfl (.tmp 22) (.tmp 25) 49 rfl 37 Tryz.t37 1 Tryz.underlying49 (by kernel_rfl) rfl blk off i cap (by simp [Act.eval, Act.put]) A (L - j) (cap - j) news (by simp [Act.eval, Act.put]) s1.out hsrc.out s2.out (by omega) s3.out ?_
    rw [← hW.out]
    refine hK _ _ ?_
    clear hK K
    refine wpAnyIn_ready (rs := [7]) (by kernel_rfl) (by simp) ?_
    refine AllReadyIn.cons rfl (fun K hK => ?_) AllReadyIn.nil
    go_simp
    refine hK _ _ ?_
    clear hK K
    refine wpAnyIn_done (by kernel_rfl) ?_ _
    gi_wp2
    go_ret
    exact ⟨by rw [show L - (j - i) = i + (L - j) by omega]; rfl, fin'.out⟩
  · go_simp
    refine hK _ _ ?_
    clear hK K
    refine wpAnyIn_ready (rs := [2]) (by kernel_rfl) (by simp) ?_
    refine AllReadyIn.cons rfl (fun K hK => ?_) AllReadyIn.nil
    go_simp
    refine hK _ _ ?_
    clear hK K
    refine wpAnyIn_ready (rs := [6]) (by kernel_rfl) (by simp) ?_
    refine AllReadyIn.cons rfl (fun K hK => ?_) AllReadyIn.nil
    refine step_append_roomIn rfl (.tmp 22) (.tmp 25) 49 rfl 37 Tryz.t37 1 Tryz.underlying49 (by kernel_rfl) rfl blk off i cap (by simp [Act.eval, Act.put]) A (L - j) (cap - j) news (by simp [Act.eval, Act.put]) s1.out hsrc.out s2.out (by omega) s3.out ?_
    rw [← hW.out]
    refine hK _ _ ?_
    clear hK K
    refine wpAnyIn_ready (rs := [7]) (by kernel_rfl) (by simp) ?_
    refine AllReadyIn.cons rfl (fun K hK => ?_) AllReadyIn.nil
    go_simp
    refine hK _ _ ?_
    clear hK K
    refine wpAnyIn_done (by kernel_rfl) ?_ _
    gi_wp2
    go_ret
    exact ⟨by rw [show L - (j - i) = i + (L - j) by omega]; rfl, fin'.out⟩

theorem delRun161 : DelRun Tryz.prog 161 where
  run := fun w blk cap i j d h1 h2 h3 h4 h5 h6 => by
    refine (del161 w blk 0 cap i j d (fun k x hx => ?_) h2 h3 h4 h5 h6).mono fun e w' ⟨he, zs, hz, hw⟩ => ⟨he, zs, hz, ?_⟩
    · have := h1 k x hx
      rw [Nat.zero_add]; exact this
    · rw [hw, Nat.zero_add, Nat.zero_add, setCells_kit, setCells_kit]
theorem delRun162 : DelRun Tryz.prog 162 where
  run := fun w blk cap i j d h1 h2 h3 h4 h5 h6 => by
    refine (del162 w blk 0 cap i j d (fun k x hx => ?_) h2 h3 h4 h5 h6).mono fun e w' ⟨he, zs, hz, hw⟩ => ⟨he, zs, hz, ?_⟩
    · have := h1 k x hx
      rw [Nat.zero_add]; exact this
    · rw [hw, Nat.zero_add, Nat.zero_add, setCells_kit, setCells_kit]
end Go.Proofs.YtbjphckpbkacaaaGreatDoor


/- strconv.Atoi, by the shelf's contract. -/
namespace Go.Proofs.YtbjphckpbkacaaaGreatDoor
open Go Abs Go.RowKit Go.Shelf
set_option linter.unusedSimpArgs false
set_option linter.unusedVariables false

def laysAtoi_ren : Go.Shelf.Ren := ⟨fun | 172 => 24 | 244 => 53 | 245 => 54 | 247 => 76 | 279 => 77 | 280 => 78 | 281 => 79 | 282 => 80 | 287 => 98 | 316 => 99 | 171 => 25 | 205 => 100 | 321 => 118 | 322 => 119 | 243 => 55 | 246 => 81 | 283 => 101 | 284 => 102 | 285 => 103 | 286 => 104 | 129 => 121 | 317 => 120 | 318 => 122 | 319 => 123 | 320 => 124 | 337 => 132 | 338 => 133 | n => n, fun | 9 => 9 | 3 => 3 | 75 => 60 | 76 => 61 | 4 => 4 | 5 => 5 | 167 => 143 | 37 => 71 | 0 => 0 | 85 => 144 | 2 => 2 | 168 => 146 | 53 => 171 | 175 => 172 | 46 => 170 | 210 => 175 | 127 => 108 | 145 => 200 | 143 => 198 | 21 => 21 | 171 => 177 | 173 => 180 | 212 => 202 | 51 => 194 | 20 => 20 | 213 => 203 | 232 => 221 | 233 => 222 | 80 => 77 | n => n, fun | 15 => 2 | 16 => 3 | 17 => 5 | 18 => 7 | 19 => 8 | n => n⟩
theorem laysAtoi : LaysC.n172 Tryz.prog laysAtoi_ren := {
  mixed := by kernel_rfl
  f129 := Tryz.func121.trans (congrArg some (by kernel_rfl))
  f171 := Tryz.func25.trans (congrArg some (by kernel_rfl))
  f172 := Tryz.func24.trans (congrArg some (by kernel_rfl))
  f205 := Tryz.func100.trans (congrArg some (by kernel_rfl))
  f243 := Tryz.func55.trans (congrArg some (by kernel_rfl))
  f244 := Tryz.func53.trans (congrArg some (by kernel_rfl))
  f245 := Tryz.func54.trans (congrArg some (by kernel_rfl))
  f246 := Tryz.func81.trans (congrArg some (by kernel_rfl))
  f247 := Tryz.func76.trans (congrArg some (by kernel_rfl))
  f279 := Tryz.func77.trans (congrArg some (by kernel_rfl))
  f280 := Tryz.func78.trans (congrArg some (by kernel_rfl))
  f281 := Tryz.func79.trans (congrArg some (by kernel_rfl))
  f282 := Tryz.func80.trans (congrArg some (by kernel_rfl))
  f283 := Tryz.func101.trans (congrArg some (by kernel_rfl))
  f284 := Tryz.func102.trans (congrArg some (by kernel_rfl))
  f285 := Tryz.func103.trans (congrArg some (by kernel_rfl))
  f286 := Tryz.func104.trans (congrArg some (by kernel_rfl))
  f287 := Tryz.func98.trans (congrArg some (by kernel_rfl))
  f316 := Tryz.func99.trans (congrArg some (by kernel_rfl))
  f317 := Tryz.func120.trans (congrArg some (by kernel_rfl))
  f318 := Tryz.func122.trans (congrArg some (by kernel_rfl))
  f319 := Tryz.func123.trans (congrArg some (by kernel_rfl))
  f320 := Tryz.func124.trans (congrArg some (by kernel_rfl))
  f321 := Tryz.func118.trans (congrArg some (by kernel_rfl))
  f322 := Tryz.func119.trans (congrArg some (by kernel_rfl))
  f337 := Tryz.func132.trans (congrArg some (by kernel_rfl))
  f338 := Tryz.func133.trans (congrArg some (by kernel_rfl))
  t0 := Tryz.underlying0
  a0 := Tryz.isAgg0
  z0 := Tryz.sizeOf0
  v0 := Tryz.zeroValue0
  t2 := Tryz.underlying2
  a2 := Tryz.isAgg2
  z2 := Tryz.sizeOf2
  v2 := Tryz.zeroValue2
  t3 := Tryz.underlying3
  a3 := Tryz.isAgg3
  z3 := Tryz.sizeOf3
  v3 := Tryz.zeroValue3
  t4 := Tryz.underlying4
  a4 := Tryz.isAgg4
  z4 := Tryz.sizeOf4
  v4 := Tryz.zeroValue4
  t5 := Tryz.underlying5
  a5 := Tryz.isAgg5
  z5 := Tryz.sizeOf5
  v5 := Tryz.zeroValue5
  t9 := Tryz.underlying9
  a9 := Tryz.isAgg9
  z9 := Tryz.sizeOf9
  v9 := Tryz.zeroValue9
  t20 := Tryz.underlying20
  a20 := Tryz.isAgg20
  z20 := Tryz.sizeOf20
  v20 := Tryz.zeroValue20
  t21 := Tryz.underlying21
  a21 := Tryz.isAgg21
  z21 := Tryz.sizeOf21
  v21 := Tryz.zeroValue21
  t37 := Tryz.underlying71
  a37 := Tryz.isAgg71
  z37 := Tryz.sizeOf71
  v37 := Tryz.zeroValue71
  t46 := Tryz.underlying170
  a46 := Tryz.isAgg170
  z46 := Tryz.sizeOf170
  v46 := Tryz.zeroValue170
  t51 := Tryz.underlying194
  a51 := Tryz.isAgg194
  z51 := Tryz.sizeOf194
  v51 := Tryz.zeroValue194
  t53 := Tryz.underlying171
  a53 := Tryz.isAgg171
  z53 := Tryz.sizeOf171
  v53 := Tryz.zeroValue171
  t75 := Tryz.underlying60
  a75 := Tryz.isAgg60
  z75 := Tryz.sizeOf60
  v75 := Tryz.zeroValue60
  t76 := Tryz.underlying61
  a76 := Tryz.isAgg61
  z76 := Tryz.sizeOf61
  v76 := Tryz.zeroValue61
  t85 := Tryz.underlying144
  a85 := Tryz.isAgg144
  z85 := Tryz.sizeOf144
  v85 := Tryz.zeroValue144
  t127 := Tryz.underlying108
  a127 := Tryz.isAgg108
  z127 := Tryz.sizeOf108
  v127 := Tryz.zeroValue108
  t143 := Tryz.underlying198
  a143 := Tryz.isAgg198
  z143 := Tryz.sizeOf198
  v143 := Tryz.zeroValue198
  t145 := Tryz.underlying200
  a145 := Tryz.isAgg200
  z145 := Tryz.sizeOf200
  v145 := Tryz.zeroValue200
  t167 := Tryz.underlying143
  a167 := Tryz.isAgg143
  z167 := Tryz.sizeOf143
  v167 := Tryz.zeroValue143
  t168 := Tryz.underlying146
  a168 := Tryz.isAgg146
  z168 := Tryz.sizeOf146
  v168 := Tryz.zeroValue146
  t171 := Tryz.underlying177
  a171 := Tryz.isAgg177
  z171 := Tryz.sizeOf177
  v171 := Tryz.zeroValue177
  t173 := Tryz.underlying180
  a173 := Tryz.isAgg180
  z173 := Tryz.sizeOf180
  v173 := Tryz.zeroValue180
  t175 := Tryz.underlying172
  a175 := Tryz.isAgg172
  z175 := Tryz.sizeOf172
  v175 := Tryz.zeroValue172
  t210 := Tryz.underlying175
  a210 := Tryz.isAgg175
  z210 := Tryz.sizeOf175
  v210 := Tryz.zeroValue175
  t212 := Tryz.underlying202
  a212 := Tryz.isAgg202
  z212 := Tryz.sizeOf202
  v212 := Tryz.zeroValue202
  t213 := Tryz.underlying203
  a213 := Tryz.isAgg203
  z213 := Tryz.sizeOf203
  t232 := Tryz.underlying221
  a232 := Tryz.isAgg221
  z232 := Tryz.sizeOf221
  v232 := Tryz.zeroValue221
  t233 := Tryz.underlying222
  a233 := Tryz.isAgg222
  z233 := Tryz.sizeOf222
  v233 := Tryz.zeroValue222
  g15 := by kernel_rfl
  g16 := by kernel_rfl
  g17 := by kernel_rfl
  g18 := by kernel_rfl
  g19 := by kernel_rfl
  t80 := Tryz.underlying77
  a80 := Tryz.isAgg77
  z80 := Tryz.sizeOf77
  v80 := Tryz.zeroValue77
  i0 := by kernel_rfl
  i2 := by kernel_rfl
  i3 := by kernel_rfl
  i4 := by kernel_rfl
  i5 := by kernel_rfl
  i9 := by kernel_rfl
  i20 := by kernel_rfl
  i21 := by kernel_rfl
  i37 := by kernel_rfl
  i46 := by kernel_rfl
  i51 := by kernel_rfl
  i53 := by kernel_rfl
  i75 := by kernel_rfl
  i76 := by kernel_rfl
  i80 := by kernel_rfl
  i85 := by kernel_rfl
  i127 := by kernel_rfl
  i143 := by kernel_rfl
  i145 := by kernel_rfl
  i167 := by kernel_rfl
  i168 := by kernel_rfl
  i171 := by kernel_rfl
  i173 := by kernel_rfl
  i175 := by kernel_rfl
  i210 := by kernel_rfl
  i212 := by kernel_rfl
  i232 := by kernel_rfl
  i233 := by kernel_rfl
  m15 := by kernel_rfl
  m16 := by kernel_rfl
  m17 := by kernel_rfl
  m18 := by kernel_rfl
  m19 := by kernel_rfl
  c0 := by kernel_rfl
  c2 := by kernel_rfl
  c3 := by kernel_rfl
  c4 := by kernel_rfl
  c5 := by kernel_rfl
  c9 := by kernel_rfl
  c20 := by kernel_rfl
  c21 := by kernel_rfl
  c37 := by kernel_rfl
  c46 := by kernel_rfl
  c51 := by kernel_rfl
  c53 := by kernel_rfl
  c75 := by kernel_rfl
  c76 := by kernel_rfl
  c80 := by kernel_rfl
  c85 := by kernel_rfl
  c127 := by kernel_rfl
  c143 := by kernel_rfl
  c145 := by kernel_rfl
  c167 := by kernel_rfl
  c168 := by kernel_rfl
  c171 := by kernel_rfl
  c173 := by kernel_rfl
  c175 := by kernel_rfl
  c210 := by kernel_rfl
  c212 := by kernel_rfl
  c213 := by kernel_rfl
  c232 := by kernel_rfl
  c233 := by kernel_rfl }

theorem glob_iface {S : Stab} {w : World} (h : GlobOK S w) {g : Nat} {t : TypeId} {x : AV} (hg : aget globT g = some (.iface t x)) : ∃ ev, w.cell? ⟨g, 0, none⟩ = some ev ∧ (ev = .nilIface ∨ ∃ te pe, ev = .iface te pe) := by
  have hp := h g _ hg
  generalize hv : Value.pointer (some (at0 g 0)) = v at hp
  cases hp with
  | ep _ b base off f ho hS hw hq =>
    have e : at0 g 0 = at0 b (base + 0) := Option.some.inj (Value.pointer.inj hv)
    have eb : g = b := congrArg Addr.block e
    have eo : 0 = base + 0 := congrArg Addr.off e
    have h1 := hw 0 (.iface t x) rfl
    have h2 := hq 0 (.iface t x) rfl
    obtain ⟨u, hu⟩ : ∃ u, f 0 = .iface t u := by
      generalize f 0 = q at h2
      cases h2 with
      | iface _ _ u hu => exact ⟨u, rfl⟩
    refine ⟨.iface t u, ?_, .inr ⟨t, u, rfl⟩⟩
    rw [hu, ← eo] at h1
    subst eb
    exact h1
theorem atoiRun : AtoiRun Tryz.prog 24 146 where
  run := fun S w hg s hs => by
    have hF : ∀ k ∈ [129, 171, 172, 205, 243, 244, 245, 246, 247, 279, 280, 281, 282, 283, 284, 285, 286, 287, 316, 317, 318, 319, 320, 321, 322, 337, 338], (FW none).fn (laysAtoi_ren.f k) := by
      show ∀ k ∈ [129, 171, 172, 205, 243, 244, 245, 246, 247, 279, 280, 281, 282, 283, 284, 285, 286, 287, 316, 317, 318, 319, 320, 321, 322, 337, 338], laysAtoi_ren.f k < 212
      decide
    obtain ⟨e2, h2, k2⟩ := glob_iface hg (g := 2) rfl
    obtain ⟨e3, h3, k3⟩ := glob_iface hg (g := 3) rfl
    cases h : Lib.atoiAll s.data.toList with
    | ok v =>
      refine (AnyS.strconv_Atoi_ok_in laysAtoi (FW none) 0 rfl hF (fun h => by cases h) s (by omega) v h w).mono fun e w' ⟨he, hw⟩ => ⟨?_, he⟩
      rcases hw with rfl | ⟨t, rfl⟩
      · exact Below.refl _ _
      · exact Lib.bytesWorld_below _ _ _
    | range =>
      refine (AnyS.strconv_Atoi_range_in laysAtoi (FW none) 0 rfl hF (fun h => by cases h) s hs h e3 w h3 k3).mono fun e w' ⟨N, he, _, _, hb⟩ => ⟨hb, _, he⟩
    | _ =>
      refine (AnyS.strconv_Atoi_syntax_in laysAtoi (FW none) 0 rfl hF (fun h => by cases h) s hs h e2 w h2 k2).mono fun e w' ⟨N, he, _, _, hb⟩ => ⟨hb, _, he⟩
end Go.Proofs.YtbjphckpbkacaaaGreatDoor


/- The seat's tables are sound. -/
namespace Go.Proofs.YtbjphckpbkacaaaGreatDoor
open Go Abs
theorem extOK : ExtOK G := by
  intro g p hp args v hv S ρ w vs hl hvs
  have hp : (if cmpT.contains g then some cmpStr else if escT.contains g then some idP else if ixbT.contains g then some ixbP else none) = some p := hp
  split at hp
  · rename_i hc
    simp [cmpT] at hc
  · split at hp
    · rename_i hc
      cases hp
      have hg : g = 82 := by simpa [escT] using hc
      subst hg
      exact idP_ok Tryz.func82 (by kernel_rfl) (by kernel_rfl) (by kernel_rfl) (by kernel_rfl) hv hl hvs
    · split at hp
      · rename_i hc
        cases hp
        have hg : g = 116 := by simpa [ixbT] using hc
        subst hg
        exact ixbP_ok Tryz.func116 (by kernel_rfl) (by kernel_rfl) (by kernel_rfl) (by kernel_rfl) hv hl hvs
      · cases hp
theorem E_lt (g : FuncId) (h : G.E g = true) : g < 212 := by
  have h : (hasBody[g]?).getD false = true := h
  rcases Nat.lt_or_ge g 212 with h1 | h1
  · exact h1
  · exfalso
    have hl : hasBody.length = 212 := by kernel_rfl
    rw [List.getElem?_eq_none_iff.2 (by omega)] at h
    cases h
theorem plansB_G0 (f : FuncId) (c : Code) : plansB G0 f c = plansB G f c := by
  induction c with
  | seq a b iha ihb => simp only [plansB, iha, ihb]
  | cond c a b iha ihb => simp only [plansB, iha, ihb]
  | block id b ih => simp only [plansB, ih]
  | scope b ih => simp only [plansB, ih]
  | loop b ih => simp only [plansB, ih]
  | rangeFunc g ps a b iha ihb => simp only [plansB, iha, ihb]
  | _ => rfl
theorem rOK_G0 (r : LRec) : rOK G0 r = rOK G r := by unfold rOK; simp only [plansB_G0]
theorem ext_lt : ∀ g p, G.ext g = some p → g < NF := by
  intro g p hp
  have hp : (if cmpT.contains g then some cmpStr else if escT.contains g then some idP else if ixbT.contains g then some ixbP else none) = some p := hp
  split at hp
  · rename_i hc
    simp [cmpT] at hc
  · split at hp
    · rename_i hc
      have hg : g = 82 := by simpa [escT] using hc
      subst hg; decide
    · split at hp
      · rename_i hc
        have hg : g = 116 := by simpa [ixbT] using hc
        subst hg; decide
      · cases hp
theorem meth87cryptex_path_change (v u : Value) (w : World) (h : u = v) : (method (G.P.types.size + Made.depth) 87 v "cryptex/path.change").run G.P w = .ok (160, u) w := by subst h; exact methValD (by kernel_rfl) (by kernel_rfl) u w
theorem methf87cryptex_path_change (v r : Value) (w w' : World) (g : FuncId) (h : (method (G.P.types.size + Made.depth) 87 v "cryptex/path.change").run G.P w = .ok (g, r) w') : g < NF := by rw [methFnD (f := 160) (pt := false) (by kernel_rfl) v w w' h]; decide
theorem meth96cryptex_path_change (v u : Value) (w : World) (h : u = v) : (method (G.P.types.size + Made.depth) 96 v "cryptex/path.change").run G.P w = .ok (163, u) w := by subst h; exact methValD (by kernel_rfl) (by kernel_rfl) u w
theorem methf96cryptex_path_change (v r : Value) (w w' : World) (g : FuncId) (h : (method (G.P.types.size + Made.depth) 96 v "cryptex/path.change").run G.P w = .ok (g, r) w') : g < NF := by rw [methFnD (f := 163) (pt := false) (by kernel_rfl) v w w' h]; decide
theorem methOK : MethOK G := by
  intro t n m h v u w hv
  have h : metT.lookup (t, n) = some m := h
  have h := mem_of_lookup h
  simp only [metT, List.mem_cons, List.not_mem_nil, or_false, Prod.mk.injEq] at h
  rcases h with ⟨⟨rfl, rfl⟩, rfl⟩ | ⟨⟨rfl, rfl⟩, rfl⟩
  · exact meth87cryptex_path_change v u w hv
  · exact meth96cryptex_path_change v u w hv
theorem methIn : MethIn G := by
  intro t n v f r w w' h hr
  obtain ⟨m, h⟩ := Option.isSome_iff_exists.1 h
  have h := mem_of_lookup h
  simp only [metT, List.mem_cons, List.not_mem_nil, or_false, Prod.mk.injEq] at h
  rcases h with ⟨⟨rfl, rfl⟩, rfl⟩ | ⟨⟨rfl, rfl⟩, rfl⟩
  · exact methf87cryptex_path_change v r w w' f hr
  · exact methf96cryptex_path_change v r w w' f hr
theorem GS : GSound G := gsound 212 E_lt all_ok follows (fun r h => by rw [← rOK_G0]; exact h) extOK (by kernel_rfl) ext_lt methOK methIn
end Go.Proofs.YtbjphckpbkacaaaGreatDoor


/- strconv.FormatInt of numbers below a hundred, numDigits below a thousand, by the kernel. -/
namespace Go.Proofs.YtbjphckpbkacaaaGreatDoor
open Go Abs Go.RowKit
set_option linter.unusedSimpArgs false
set_option linter.unusedVariables false
theorem prim_none : PrimSound G (fun _ => none) := fun g p args hp r _ h => by cases h
/-- What a function that only reads comes to, in memory. -/
theorem call_of {g : FuncId} {args : List AV} {v : AV} {k : Nat} (h : (both G (fun _ => none) k).1 g args [] = some (.ret v, [])) (hg : g < RB) (hE : G.E g = true) {S : Stab} {ρ : Rho} {w : World} (hl : Ent S ρ w) (hS : ∀ b o, S b o → b < w.heap.size)
    {vs : Array Value} (hlen : args.length = vs.size) (hv : ∀ (j : Nat) c x, args[j]? = some c → vs[j]? = some x → PR S w c x) : CallsIn (FW none) 0 Tryz.prog g vs w fun e w' => Below w.heap.size w w' ∧ ∃ u S' ρ', e = .returned u ∧ VR S' ρ' w' v u := by
  have hs := CallSound.of_run GS prim_none hg hE h
  refine (hs S (fun _ => none) w vs ⟨fun n q hq => (by cases hq), hl.glob⟩ ⟨fun n o ho => (by cases ho), fun n _ => rfl, fun n m b sz sz' k k' hq => (by cases hq)⟩ hS hlen (fun j c x hc hx => .pure (hv j c x hc hx))).mono fun e w' ⟨S', ρ', hout, hans⟩ => ?_
  cases e with
  | panicked ch => exact hans.elim
  | outgrown => exact hans.elim
  | returned u =>
    have f := hout.fr
    exact ⟨⟨f.os, f.tape, f.output, f.size, fun k hk => f.keep k hk (fun hF => by obtain ⟨n, sz, k', hq⟩ := hF; cases hq)⟩, u, S', ρ', rfl, hans⟩
noncomputable def ndOK (n : Nat) : Bool := match (both G (fun _ => none) 60).1 102 [.int .u64 n] [] with
  | some (.ret (.int .i64 3), []) => true
  | _ => false
noncomputable def smallOK (n : Nat) : Bool := match (both G (fun _ => none) 60).1 81 [.int .i64 n, .int .i64 10] [] with
  | some (.ret (.str s), []) => s == digs n
  | _ => false
theorem small_all : (List.range 100).all smallOK = true := by kernel_rfl
theorem nd_0 : (List.range 60).all (fun i => ndOK (100 + i)) = true := by kernel_rfl
theorem nd_1 : (List.range 60).all (fun i => ndOK (160 + i)) = true := by kernel_rfl
theorem nd_2 : (List.range 60).all (fun i => ndOK (220 + i)) = true := by kernel_rfl
theorem nd_3 : (List.range 60).all (fun i => ndOK (280 + i)) = true := by kernel_rfl
theorem nd_4 : (List.range 60).all (fun i => ndOK (340 + i)) = true := by kernel_rfl
theorem nd_5 : (List.range 60).all (fun i => ndOK (400 + i)) = true := by kernel_rfl
theorem nd_6 : (List.range 60).all (fun i => ndOK (460 + i)) = true := by kernel_rfl
theorem nd_7 : (List.range 60).all (fun i => ndOK (520 + i)) = true := by kernel_rfl
theorem nd_8 : (List.range 60).all (fun i => ndOK (580 + i)) = true := by kernel_rfl
theorem nd_9 : (List.range 60).all (fun i => ndOK (640 + i)) = true := by kernel_rfl
theorem nd_10 : (List.range 60).all (fun i => ndOK (700 + i)) = true := by kernel_rfl
theorem nd_11 : (List.range 60).all (fun i => ndOK (760 + i)) = true := by kernel_rfl
theorem nd_12 : (List.range 60).all (fun i => ndOK (820 + i)) = true := by kernel_rfl
theorem nd_13 : (List.range 60).all (fun i => ndOK (880 + i)) = true := by kernel_rfl
theorem nd_14 : (List.range 60).all (fun i => ndOK (940 + i)) = true := by kernel_rfl
theorem nd_run {n : Nat} (h1 : 100 ≤ n) (h2 : n < 1000) : (both G (fun _ => none) 60).1 102 [.int .u64 n] [] = some (.ret (.int .i64 3), []) := by
  have ok : ndOK n = true := by
    have go : ∀ b, (List.range 60).all (fun i => ndOK (b + i)) = true → b ≤ n → n < b + 60 → ndOK n = true := by
      intro b h h1 h2
      have h := List.all_eq_true.1 h (n - b) (List.mem_range.2 (by omega))
      rwa [show b + (n - b) = n by omega] at h
    by_cases c0 : n < 160
    · exact go 100 nd_0 (by omega) (by omega)
    by_cases c1 : n < 220
    · exact go 160 nd_1 (by omega) (by omega)
    by_cases c2 : n < 280
    · exact go 220 nd_2 (by omega) (by omega)
    by_cases c3 : n < 340
    · exact go 280 nd_3 (by omega) (by omega)
    by_cases c4 : n < 400
    · exact go 340 nd_4 (by omega) (by omega)
    by_cases c5 : n < 460
    · exact go 400 nd_5 (by omega) (by omega)
    by_cases c6 : n < 520
    · exact go 460 nd_6 (by omega) (by omega)
    by_cases c7 : n < 580
    · exact go 520 nd_7 (by omega) (by omega)
    by_cases c8 : n < 640
    · exact go 580 nd_8 (by omega) (by omega)
    by_cases c9 : n < 700
    · exact go 640 nd_9 (by omega) (by omega)
    by_cases c10 : n < 760
    · exact go 700 nd_10 (by omega) (by omega)
    by_cases c11 : n < 820
    · exact go 760 nd_11 (by omega) (by omega)
    by_cases c12 : n < 880
    · exact go 820 nd_12 (by omega) (by omega)
    by_cases c13 : n < 940
    · exact go 880 nd_13 (by omega) (by omega)
    by_cases c14 : n < 1000
    · exact go 940 nd_14 (by omega) (by omega)
    omega
  unfold ndOK at ok
  generalize (both G (fun _ => none) 60).1 102 [.int .u64 n] [] = r at ok ⊢
  split at ok
  · rfl
  · cases ok
theorem small_run {n : Nat} (h : n < 100) : (both G (fun _ => none) 60).1 81 [.int .i64 n, .int .i64 10] [] = some (.ret (.str (digs n)), []) := by
  have h := List.all_eq_true.1 small_all n (List.mem_range.2 h)
  unfold smallOK at h
  generalize (both G (fun _ => none) 60).1 81 [.int .i64 n, .int .i64 10] [] = r at h ⊢
  split at h
  · rw [eq_of_beq h]
  · cases h
theorem nd_call {S : Stab} {ρ : Rho} {w : World} (hl : Ent S ρ w) (hS : ∀ b o, S b o → b < w.heap.size) {n : Nat} (h1 : 100 ≤ n) (h2 : n < 1000) : CallsIn (FW none) 0 Tryz.prog 102 #[.int .u64 n] w fun e w' => Below w.heap.size w w' ∧ e = .returned (.int .i64 3) := by
  refine (call_of (nd_run h1 h2) (by decide) E102 hl hS (vs := #[.int .u64 n]) rfl (fun j c x hc hx => ?_)).mono fun e w' ⟨hb, u, S', ρ', he, hv⟩ => ⟨hb, ?_⟩
  · match j, hc, hx with
    | 0, hc, hx => cases hc; cases hx; exact .int _ _
  · subst he
    cases hv with
    | pure hp => cases hp; rfl
theorem small_call {S : Stab} {ρ : Rho} {w : World} (hl : Ent S ρ w) (hS : ∀ b o, S b o → b < w.heap.size) {n : Nat} (h2 : n < 100) : CallsIn (FW none) 0 Tryz.prog 81 #[.int .i64 n, .int .i64 10] w fun e w' => Below w.heap.size w w' ∧ e = .returned (.string ⟨(digs n).toArray⟩) := by
  refine (call_of (small_run h2) (by decide) E81 hl hS (vs := #[.int .i64 n, .int .i64 10]) rfl (fun j c x hc hx => ?_)).mono fun e w' ⟨hb, u, S', ρ', he, hv⟩ => ⟨hb, ?_⟩
  · match j, hc, hx with
    | 0, hc, hx => cases hc; cases hx; exact .int _ _
    | 1, hc, hx => cases hc; cases hx; exact .int _ _
  · subst he
    obtain ⟨s, rfl, hs⟩ : ∃ s, u = .string s ∧ digs n = s.data.toList := by
      generalize digs n = d at hv
      cases hv with
      | pure hp => cases hp; exact ⟨_, rfl, rfl⟩
    rw [hs]
end Go.Proofs.YtbjphckpbkacaaaGreatDoor


/- strconv.FormatInt of numbers below a thousand, walked. -/
namespace Go.Proofs.YtbjphckpbkacaaaGreatDoor
open Go Abs Go.RowKit
set_option linter.unusedSimpArgs false
set_option linter.unusedVariables false
theorem sm_two (p : Nat) (h : p < 100) : (Lib.sm (p * 2 + 1)).toNat = 48 + p % 10 ∧ (Lib.sm (p * 2)).toNat = 48 + p / 10 := by
  have : ∀ q : Fin 100, (Lib.sm (q.val * 2 + 1)).toNat = 48 + q.val % 10 ∧ (Lib.sm (q.val * 2)).toNat = 48 + q.val / 10 := by decide +kernel
  exact this ⟨p, h⟩
set_option maxHeartbeats 12800000 in
set_option maxRecDepth 100000 in
theorem fmt3 (w : World) (blk : Nat) (u : Nat) (h1 : 100 ≤ u) (h2 : u < 1000) (hc : ∀ t, t < 3 → w.cell? ⟨blk, 1 + t, none⟩ = some (.int .u8 0)) (hf : ∀ t, t < 3 → w.frozen? ⟨blk, 1 + t, none⟩ = false) :
    CallsIn (FW none) 0 Tryz.prog 103 #[.slice (some ⟨blk, 1, none⟩) 3 23, .int .u64 u] w fun e w' => e = .returned (.tuple #[]) ∧ w' = (((w.drew.setCell ⟨blk, 3, none⟩ (.int .u8 (48 + u % 10))).setCell ⟨blk, 2, none⟩ (.int .u8 (48 + u / 10 % 10))).setCell ⟨blk, 1, none⟩ (.int .u8 (48 + u / 100))) := by
  have mixed : Tryz.prog.follows .mixedOrders = true := by kernel_rfl
  gi_enter Tryz.func103, Tryz.ntmps103
  go_name_bytes SM hSM
  have eSM : SM = Lib.smalls := by rw [← hSM]; decide +kernel
  subst eSM
  clear hSM
  gi_wp2
  gi_loopw [1, 4] (fun vu vn wr => vu = .int .u64 u ∧ vn = .int .i64 3 ∧ wr = w) (fun _ vn _ => 0)
  case atStart => exact ⟨rfl, rfl, rfl⟩
  case round =>
    obtain ⟨rfl, rfl, rfl⟩ := hrel
    gi_wp2
    generalize hx : ((u : Int) % 100 * 2) = x
    have hXa : ∀ w, (Instr.index 9 (.string Lib.smalls) (.int .u32 (x + 1))).run Tryz.prog w = .ok (.int .u8 ((Lib.sm (u % 100 * 2 + 1)).toNat : Int)) w := Lib.idx_smalls 9 Tryz.underlying9 .u32 _ _ (by omega) (by omega)
    have hXb : ∀ w, (Instr.index 9 (.string Lib.smalls) (.int .u32 x)).run Tryz.prog w = .ok (.int .u8 ((Lib.sm (u % 100 * 2)).toNat : Int)) w := Lib.idx_smalls 9 Tryz.underlying9 .u32 _ _ (by omega) (by omega)
    have hlo : 0 ≤ x := by omega
    have hhi : x ≤ 198 := by omega
    have c1 : wr.cell? ⟨blk, 1, none⟩ = some (.int .u8 0) := hc 0 (by omega)
    have c2 : wr.cell? ⟨blk, 2, none⟩ = some (.int .u8 0) := hc 1 (by omega)
    have c3 : wr.cell? ⟨blk, 3, none⟩ = some (.int .u8 0) := hc 2 (by omega)
    have f1 : wr.frozen? ⟨blk, 1, none⟩ = false := hf 0 (by omega)
    have f2 : wr.frozen? ⟨blk, 2, none⟩ = false := hf 1 (by omega)
    have f3 : wr.frozen? ⟨blk, 3, none⟩ = false := hf 2 (by omega)
    clear hx hc hf
    gi_region_o
    gi_wp2
    go_end0
    refine ⟨rfl, ?_⟩
    obtain ⟨e1, e2⟩ := sm_two (u % 100) (by omega)
    rw [e1, e2, show ((48 + u % 100 % 10 : Nat) : Int) = 48 + (u : Int) % 10 by omega, show ((48 + u % 100 / 10 : Nat) : Int) = 48 + (u : Int) / 10 % 10 by omega]
    rfl
set_option maxHeartbeats 12800000 in
set_option maxRecDepth 100000 in
theorem fmt81 {S : Stab} {ρ : Rho} {w : World} (hl : Ent S ρ w) (hS : ∀ b o, S b o → b < w.heap.size) {n : Nat} (h1 : 100 ≤ n) (h2 : n < 1000) :
    CallsIn (FW none) 0 Tryz.prog 81 #[.int .i64 n, .int .i64 10] w fun e w' => e = .returned (.string ⟨#[UInt8.ofNat (48 + n / 100), UInt8.ofNat (48 + n / 10 % 10), UInt8.ofNat (48 + n % 10)]⟩) ∧ Below w.heap.size w w' := by
  have mixed : Tryz.prog.follows .mixedOrders = true := by kernel_rfl
  have hwr : IntKind.u64.wrap (n : Int) = (n : Int) := by rw [IntKind.wrap_u64]; omega
  have nd : Hid (CallsIn (FW none) 0 Tryz.prog 102 #[.int .u64 n] (w.alloc (.cells Lib.zeros24 177)) fun e w' => Below (w.alloc (.cells Lib.zeros24 177)).heap.size (w.alloc (.cells Lib.zeros24 177)) w' ∧ e = .returned (.int .i64 3)) :=
    nd_call ⟨hl.low, hl.glob.ext (Ext.alloc hS _)⟩ (fun b o h => by have := hS b o h; show b < (w.heap.push _).size; rw [Array.size_push]; omega) h1 h2
  have hal : Tryz.prog.arrayLen 177 = 24 := by kernel_rfl
  have hsl1 : ∀ W, (Instr.sliceAt 177 (.pointer (some ⟨w.heap.size, 0, none⟩)) (some (.int .i64 1)) (some (.int .i64 4)) none).run Tryz.prog W = .ok (.slice (some ⟨w.heap.size, 1, none⟩) 3 23) W := fun W => by
    rw [run_sliceAt_array_lh W 177 ⟨w.heap.size, 0, none⟩ (by kernel_rfl) .i64 .i64 1 4 (by omega) (by omega) (by rw [hal]; omega)]
    go_simp
  clear hal hl hS
  gi_enter Tryz.func81, Tryz.ntmps81
  gi_wp2_with fail
  refine nd.out.mono ?_
  rintro e W1 ⟨hb1, rfl⟩
  gi_wp2_with fail
  have hN : w.heap.size < (w.alloc (.cells Lib.zeros24 177)).heap.size := by show _ < (w.heap.push _).size; rw [Array.size_push]; omega
  have hblk : W1.heap[w.heap.size]? = some (.cells Lib.zeros24 177) := by rw [hb1.block _ hN]; exact heap_new _ _
  refine (fmt3 W1 w.heap.size n h1 h2 (fun t ht => ?_) (fun t ht => ?_)).mono ?_
  · have := cell_block hblk (o := 1 + t)
    rw [show (⟨w.heap.size, 1 + t, none⟩ : Addr) = at0 w.heap.size (1 + t) from rfl, this]
    exact Lib.zeros24_at _ (by omega)
  · have h0 := heap_new w (.cells Lib.zeros24 177)
    have := frozen_block h0 hblk (o := 1 + t)
    rw [show (⟨w.heap.size, 1 + t, none⟩ : Addr) = at0 w.heap.size (1 + t) from rfl, this]
    exact World.frozen?_alloc_new _ _ _ _
  rintro e W2 ⟨rfl, hW2⟩
  have k0 : (UInt8.ofNat (48 + n / 100)).toNat = 48 + n / 100 := by rw [UInt8.toNat_ofNat']; omega
  have k1 : (UInt8.ofNat (48 + n / 10 % 10)).toNat = 48 + n / 10 % 10 := by rw [UInt8.toNat_ofNat']; omega
  have k2 : (UInt8.ofNat (48 + n % 10)).toNat = 48 + n % 10 := by rw [UInt8.toNat_ofNat']; omega
  have hW2' : W2 = setCells (setCells (setCells W1.drew w.heap.size 3 [.int .u8 (48 + n % 10)]) w.heap.size 2 [.int .u8 (48 + n / 10 % 10)]) w.heap.size 1 [.int .u8 (48 + n / 100)] := hW2
  have hblk' : W1.drew.heap[w.heap.size]? = some (.cells Lib.zeros24 177) := hblk
  obtain ⟨a1, b1, b2, b3, b4⟩ := setCells_block w.heap.size [.int .u8 (48 + n % 10)] W1.drew 3 _ _ _ hblk' (by simp [Lib.zeros24])
  obtain ⟨a2, d1, d2, d3, d4⟩ := setCells_block w.heap.size [.int .u8 (48 + n / 10 % 10)] _ 2 _ _ _ b1 (by rw [b2]; simp [Lib.zeros24])
  obtain ⟨a3, e1, e2, e3, e4⟩ := setCells_block w.heap.size [.int .u8 (48 + n / 100)] _ 1 _ _ _ d1 (by rw [d2, b2]; simp [Lib.zeros24])
  rw [← hW2'] at e1
  have hcv : (convert 71 9 (.slice (some ⟨w.heap.size, 1, none⟩) 3 23)).run Tryz.prog W2 = .ok (.string ⟨#[UInt8.ofNat (48 + n / 100), UInt8.ofNat (48 + n / 10 % 10), UInt8.ofNat (48 + n % 10)]⟩) W2 := run_convert_bytes_back (P := Tryz.prog) W2 71 9 5 ⟨w.heap.size, 1, none⟩ 23 [UInt8.ofNat (48 + n / 100), UInt8.ofNat (48 + n / 10 % 10), UInt8.ofNat (48 + n % 10)] Tryz.underlying71 Tryz.underlying5 Tryz.underlying9 (fun j hj => by
    rw [show ((⟨w.heap.size, 1, none⟩ : Addr).add j) = at0 w.heap.size (1 + j) from Lib.add_plain _ _ _, cell_block e1]
    have g1 := e4 0 (by simp)
    have g2 := d4 0 (by simp)
    have g3 := b4 0 (by simp)
    simp only [Nat.add_zero, List.getElem?_cons_zero] at g1 g2 g3
    match j, hj with
    | 0, _ => rw [g1]; simp; omega
    | 1, _ => rw [e3 2 (.inr (by simp)), g2]; simp; omega
    | 2, _ => rw [e3 3 (.inr (by simp)), d3 3 (.inr (by simp)), g3]; simp; omega)
  have hB : Hid (Below w.heap.size w W2) := by
    have hb0 : Below w.heap.size w W1 := ⟨hb1.os, hb1.tape, hb1.output, Nat.le_trans (Nat.le_of_lt hN) hb1.size, fun k hk => by rw [hb1.block k (Nat.lt_trans hk hN)]; exact Below.heap_alloc w _ k hk⟩
    rw [hW2']
    refine ⟨?_, ?_, ?_, ?_, fun k hk => ?_⟩
    · rw [(setCells_outer _ _ _ _).1, (setCells_outer _ _ _ _).1, (setCells_outer _ _ _ _).1]; exact hb0.os
    · rw [(setCells_outer _ _ _ _).2.1, (setCells_outer _ _ _ _).2.1, (setCells_outer _ _ _ _).2.1]; exact hb0.tape
    · rw [(setCells_outer _ _ _ _).2.2, (setCells_outer _ _ _ _).2.2, (setCells_outer _ _ _ _).2.2]; exact hb0.output
    · rw [setCells_size, setCells_size, setCells_size]; exact hb0.size
    · have hne : k ≠ w.heap.size := by omega
      rw [setCells_other _ _ _ _ _ hne, setCells_other _ _ _ _ _ hne, setCells_other _ _ _ _ _ hne]; exact hb0.block k hk
  clear hW2 hW2' hblk hblk' b1 b2 b3 b4 d1 d2 d3 d4 e1 e2 e3 e4 hb1 hN k0 k1 k2 nd
  gi_wp2_with fail
  go_ret
  exact ⟨by simp, hB.out⟩
theorem digs_big {n : Nat} (h1 : 100 ≤ n) : digs n = [UInt8.ofNat (48 + n / 100), UInt8.ofNat (48 + n / 10 % 10), UInt8.ofNat (48 + n % 10)] := by
  unfold digs; rw [if_neg (by omega), if_neg (by omega)]
theorem fmtRun : FmtRun Tryz.prog 81 where
  run := fun S ρ w hl hS n hn => by
    by_cases h : n < 100
    · exact (small_call hl hS h).mono fun e w' ⟨h1, h2⟩ => ⟨h2, h1⟩
    · refine (fmt81 hl hS (by omega) hn).mono fun e w' ⟨h1, h2⟩ => ⟨?_, h2⟩
      rw [digs_big (by omega)]; exact h1
end Go.Proofs.YtbjphckpbkacaaaGreatDoor


/- What is told by hand is sound. -/
namespace Go.Proofs.YtbjphckpbkacaaaGreatDoor
open Go Abs
theorem prim1OK : PrimSound G prim1 := by
  intro g p args hp r hE h1 h2
  have h1 : (if strT.contains g then some (strP 5) else if delT.contains g then some delP else if atoT.contains g then some (atoiP 146) else if fmtT.contains g then some fmtP else none) = some p := h1
  split at h1
  · rename_i hc
    cases h1
    have hg : g = 35 := by simpa [strT] using hc
    subst hg
    exact strP_ok strRun h2
  split at h1
  · rename_i hc
    cases h1
    have hg : g = 161 ∨ g = 162 := by simpa [delT] using hc
    rcases hg with rfl | rfl
    · exact delP_ok delRun161 h2
    · exact delP_ok delRun162 h2
  split at h1
  · rename_i hc
    cases h1
    have hg : g = 24 := by simpa [atoT] using hc
    subst hg
    exact atoiP_ok atoiRun h2
  split at h1
  · rename_i hc
    cases h1
    have hg : g = 81 := by simpa [fmtT] using hc
    subst hg
    exact fmtP_ok fmtRun h2
  · cases h1
end Go.Proofs.YtbjphckpbkacaaaGreatDoor


/- Calls that are told by a table, since they were gone through before. -/
namespace Go.Proofs.YtbjphckpbkacaaaGreatDoor.Abs
open Go Go.RowKit
set_option linter.unusedSimpArgs false
set_option linter.unusedVariables false

structure Tld where
  g : FuncId
  args : List AV
  r : AV

def findT : List Tld → FuncId → List AV → Option AV
  | [], _, _ => none
  | t :: l, g, args => if t.g == g && AV.beqL t.args args then some t.r else findT l g args
def toldC (T : List Tld) : CallFn := fun g args hp => match hp with
  | [] => (findT T g args).map fun r => (.ret r, [])
  | _ => none
def toldP (fs : List FuncId) (T : List Tld) (base : FuncId → Option CallFn) : FuncId → Option CallFn := fun f => if fs.contains f then some (toldC T) else base f

theorem findT_mem : ∀ {T : List Tld} {g : FuncId} {args : List AV} {r : AV}, findT T g args = some r → (⟨g, args, r⟩ : Tld) ∈ T
  | [], _, _, _, h => by cases h
  | t :: l, g, args, r, h => by
    unfold findT at h
    split at h
    · rename_i hc
      simp only [Bool.and_eq_true, beq_iff_eq] at hc
      cases h
      obtain ⟨tg, ta, tr⟩ := t
      simp only at hc
      rw [hc.1, beqL_eq _ _ hc.2]
      exact List.mem_cons_self
    · exact List.mem_cons_of_mem _ (findT_mem h)
theorem toldP_ok {G : Cfg} {fs : List FuncId} {T : List Tld} {base : FuncId → Option CallFn} (hb : PrimSound G base) (hT : ∀ t ∈ T, CallSound G.P t.g t.args [] (.ret t.r, [])) : PrimSound G (toldP fs T base) := by
  intro g p args hp r hE h1 h2
  unfold toldP at h1
  split at h1
  · cases h1
    unfold toldC at h2
    split at h2
    · obtain ⟨x, hx, rfl⟩ := Option.map_eq_some_iff.1 h2
      exact hT _ (findT_mem hx)
    · cases h2
  · exact hb g p args hp r hE h1 h2
/-- Each entry of a table was gone through. -/
theorem told_run {G : Cfg} (GE : GSound G) {base : FuncId → Option CallFn} (hb : PrimSound G base) {k : Nat} {t : Tld} (hg : t.g < RB) (hE : G.E t.g = true) (h : (both G base k).1 t.g t.args [] = some (.ret t.r, [])) : CallSound G.P t.g t.args [] (.ret t.r, []) :=
  CallSound.of_run GE hb hg hE h
end Go.Proofs.YtbjphckpbkacaaaGreatDoor.Abs


/- What 'works' comes to, by the kernel, in parts. -/
namespace Go.Proofs.YtbjphckpbkacaaaGreatDoor
open Go Abs
def told1_0 : Tld := ⟨47, [.str [123, 34, 97, 34, 58, 91, 123, 34, 98, 34, 58, 49, 125, 44, 123, 34, 98, 34, 58, 50, 125, 93, 125]], .tup [.list 4 [.agg [.int .i64 5, .int .i64 0, .str [], .int .i64 1], .agg [.int .i64 3, .int .i64 0, .str [97], .int .i64 0], .agg [.int .i64 4, .int .i64 0, .str [], .int .i64 2], .agg [.int .i64 5, .int .i64 0, .str [], .int .i64 1], .agg [.int .i64 3, .int .i64 0, .str [98], .int .i64 0], .agg [.int .i64 2, .int .i64 1, .str [], .int .i64 0], .agg [.int .i64 5, .int .i64 0, .str [], .int .i64 1], .agg [.int .i64 3, .int .i64 0, .str [98], .int .i64 0], .agg [.int .i64 2, .int .i64 2, .str [], .int .i64 0]], .nili]⟩
theorem told1_0_run : (both G prim1 80).1 told1_0.g told1_0.args [] = some (.ret told1_0.r, []) := by kernel_rfl
def told1_1 : Tld := ⟨17, [.list 4 [.agg [.int .i64 5, .int .i64 0, .str [], .int .i64 1], .agg [.int .i64 3, .int .i64 0, .str [97], .int .i64 0], .agg [.int .i64 4, .int .i64 0, .str [], .int .i64 2], .agg [.int .i64 5, .int .i64 0, .str [], .int .i64 1], .agg [.int .i64 3, .int .i64 0, .str [98], .int .i64 0], .agg [.int .i64 2, .int .i64 1, .str [], .int .i64 0], .agg [.int .i64 5, .int .i64 0, .str [], .int .i64 1], .agg [.int .i64 3, .int .i64 0, .str [98], .int .i64 0], .agg [.int .i64 2, .int .i64 2, .str [], .int .i64 0]]], .int .i64 0⟩
theorem told1_1_run : (both G prim1 80).1 told1_1.g told1_1.args [] = some (.ret told1_1.r, []) := by kernel_rfl
def told1_2 : Tld := ⟨8, [.str [97, 91, 49, 93, 46, 98]], .tup [.list 2 [.agg [.str [97], .int .i64 (-1)], .agg [.str [], .int .i64 1], .agg [.str [98], .int .i64 (-1)]], .int .i64 0]⟩
theorem told1_2_run : (both G prim1 80).1 told1_2.g told1_2.args [] = some (.ret told1_2.r, []) := by kernel_rfl
def told1_3 : Tld := ⟨50, [.list 4 [.agg [.int .i64 5, .int .i64 0, .str [], .int .i64 1], .agg [.int .i64 3, .int .i64 0, .str [97], .int .i64 0], .agg [.int .i64 4, .int .i64 0, .str [], .int .i64 2], .agg [.int .i64 5, .int .i64 0, .str [], .int .i64 1], .agg [.int .i64 3, .int .i64 0, .str [98], .int .i64 0], .agg [.int .i64 2, .int .i64 1, .str [], .int .i64 0], .agg [.int .i64 5, .int .i64 0, .str [], .int .i64 1], .agg [.int .i64 3, .int .i64 0, .str [98], .int .i64 0], .agg [.int .i64 2, .int .i64 2, .str [], .int .i64 0]], .int .i64 0], .list 1 [.int .i64 2]⟩
theorem told1_3_run : (both G prim1 80).1 told1_3.g told1_3.args [] = some (.ret told1_3.r, []) := by kernel_rfl
def told1_4 : Tld := ⟨40, [.list 4 [.agg [.int .i64 5, .int .i64 0, .str [], .int .i64 1], .agg [.int .i64 3, .int .i64 0, .str [97], .int .i64 0], .agg [.int .i64 4, .int .i64 0, .str [], .int .i64 2], .agg [.int .i64 5, .int .i64 0, .str [], .int .i64 1], .agg [.int .i64 3, .int .i64 0, .str [98], .int .i64 0], .agg [.int .i64 2, .int .i64 1, .str [], .int .i64 0], .agg [.int .i64 5, .int .i64 0, .str [], .int .i64 1], .agg [.int .i64 3, .int .i64 0, .str [98], .int .i64 0], .agg [.int .i64 2, .int .i64 2, .str [], .int .i64 0]], .int .i64 2], .list 4 [.agg [.int .i64 4, .int .i64 0, .str [], .int .i64 2], .agg [.int .i64 5, .int .i64 0, .str [], .int .i64 1], .agg [.int .i64 3, .int .i64 0, .str [98], .int .i64 0], .agg [.int .i64 2, .int .i64 1, .str [], .int .i64 0], .agg [.int .i64 5, .int .i64 0, .str [], .int .i64 1], .agg [.int .i64 3, .int .i64 0, .str [98], .int .i64 0], .agg [.int .i64 2, .int .i64 2, .str [], .int .i64 0]]⟩
theorem told1_4_run : (both G prim1 80).1 told1_4.g told1_4.args [] = some (.ret told1_4.r, []) := by kernel_rfl
def told1_5 : Tld := ⟨50, [.list 4 [.agg [.int .i64 4, .int .i64 0, .str [], .int .i64 2], .agg [.int .i64 5, .int .i64 0, .str [], .int .i64 1], .agg [.int .i64 3, .int .i64 0, .str [98], .int .i64 0], .agg [.int .i64 2, .int .i64 1, .str [], .int .i64 0], .agg [.int .i64 5, .int .i64 0, .str [], .int .i64 1], .agg [.int .i64 3, .int .i64 0, .str [98], .int .i64 0], .agg [.int .i64 2, .int .i64 2, .str [], .int .i64 0]], .int .i64 0], .list 1 [.int .i64 1, .int .i64 4]⟩
theorem told1_5_run : (both G prim1 80).1 told1_5.g told1_5.args [] = some (.ret told1_5.r, []) := by kernel_rfl
def told1_6 : Tld := ⟨40, [.list 4 [.agg [.int .i64 4, .int .i64 0, .str [], .int .i64 2], .agg [.int .i64 5, .int .i64 0, .str [], .int .i64 1], .agg [.int .i64 3, .int .i64 0, .str [98], .int .i64 0], .agg [.int .i64 2, .int .i64 1, .str [], .int .i64 0], .agg [.int .i64 5, .int .i64 0, .str [], .int .i64 1], .agg [.int .i64 3, .int .i64 0, .str [98], .int .i64 0], .agg [.int .i64 2, .int .i64 2, .str [], .int .i64 0]], .int .i64 4], .list 4 [.agg [.int .i64 5, .int .i64 0, .str [], .int .i64 1], .agg [.int .i64 3, .int .i64 0, .str [98], .int .i64 0], .agg [.int .i64 2, .int .i64 2, .str [], .int .i64 0]]⟩
theorem told1_6_run : (both G prim1 80).1 told1_6.g told1_6.args [] = some (.ret told1_6.r, []) := by kernel_rfl
def told1_7 : Tld := ⟨50, [.list 4 [.agg [.int .i64 5, .int .i64 0, .str [], .int .i64 1], .agg [.int .i64 3, .int .i64 0, .str [98], .int .i64 0], .agg [.int .i64 2, .int .i64 2, .str [], .int .i64 0]], .int .i64 0], .list 1 [.int .i64 2]⟩
theorem told1_7_run : (both G prim1 80).1 told1_7.g told1_7.args [] = some (.ret told1_7.r, []) := by kernel_rfl
def told1_8 : Tld := ⟨17, [.list 4 [.agg [.int .i64 5, .int .i64 0, .str [], .int .i64 1], .agg [.int .i64 3, .int .i64 0, .str [98], .int .i64 0], .agg [.int .i64 2, .int .i64 2, .str [], .int .i64 0]]], .int .i64 0⟩
theorem told1_8_run : (both G prim1 80).1 told1_8.g told1_8.args [] = some (.ret told1_8.r, []) := by kernel_rfl
def told1_9 : Tld := ⟨40, [.list 4 [.agg [.int .i64 5, .int .i64 0, .str [], .int .i64 1], .agg [.int .i64 3, .int .i64 0, .str [98], .int .i64 0], .agg [.int .i64 2, .int .i64 2, .str [], .int .i64 0]], .int .i64 2], .list 4 [.agg [.int .i64 2, .int .i64 2, .str [], .int .i64 0]]⟩
theorem told1_9_run : (both G prim1 80).1 told1_9.g told1_9.args [] = some (.ret told1_9.r, []) := by kernel_rfl
def told1_10 : Tld := ⟨8, [.str [97, 46, 98]], .tup [.list 2 [.agg [.str [97], .int .i64 (-1)], .agg [.str [98], .int .i64 (-1)]], .int .i64 0]⟩
theorem told1_10_run : (both G prim1 80).1 told1_10.g told1_10.args [] = some (.ret told1_10.r, []) := by kernel_rfl
def told1_11 : Tld := ⟨40, [.list 4 [.agg [.int .i64 4, .int .i64 0, .str [], .int .i64 2], .agg [.int .i64 5, .int .i64 0, .str [], .int .i64 1], .agg [.int .i64 3, .int .i64 0, .str [98], .int .i64 0], .agg [.int .i64 2, .int .i64 1, .str [], .int .i64 0], .agg [.int .i64 5, .int .i64 0, .str [], .int .i64 1], .agg [.int .i64 3, .int .i64 0, .str [98], .int .i64 0], .agg [.int .i64 2, .int .i64 2, .str [], .int .i64 0]], .int .i64 1], .list 4 [.agg [.int .i64 5, .int .i64 0, .str [], .int .i64 1], .agg [.int .i64 3, .int .i64 0, .str [98], .int .i64 0], .agg [.int .i64 2, .int .i64 1, .str [], .int .i64 0]]⟩
theorem told1_11_run : (both G prim1 80).1 told1_11.g told1_11.args [] = some (.ret told1_11.r, []) := by kernel_rfl
def told1_12 : Tld := ⟨50, [.list 4 [.agg [.int .i64 5, .int .i64 0, .str [], .int .i64 1], .agg [.int .i64 3, .int .i64 0, .str [98], .int .i64 0], .agg [.int .i64 2, .int .i64 1, .str [], .int .i64 0]], .int .i64 0], .list 1 [.int .i64 2]⟩
theorem told1_12_run : (both G prim1 80).1 told1_12.g told1_12.args [] = some (.ret told1_12.r, []) := by kernel_rfl
def told1_13 : Tld := ⟨17, [.list 4 [.agg [.int .i64 5, .int .i64 0, .str [], .int .i64 1], .agg [.int .i64 3, .int .i64 0, .str [98], .int .i64 0], .agg [.int .i64 2, .int .i64 1, .str [], .int .i64 0]]], .int .i64 0⟩
theorem told1_13_run : (both G prim1 80).1 told1_13.g told1_13.args [] = some (.ret told1_13.r, []) := by kernel_rfl
def told1_14 : Tld := ⟨40, [.list 4 [.agg [.int .i64 5, .int .i64 0, .str [], .int .i64 1], .agg [.int .i64 3, .int .i64 0, .str [98], .int .i64 0], .agg [.int .i64 2, .int .i64 1, .str [], .int .i64 0]], .int .i64 2], .list 4 [.agg [.int .i64 2, .int .i64 1, .str [], .int .i64 0]]⟩
theorem told1_14_run : (both G prim1 80).1 told1_14.g told1_14.args [] = some (.ret told1_14.r, []) := by kernel_rfl
def told1_15 : Tld := ⟨8, [.str [97, 91, 48, 93]], .tup [.list 2 [.agg [.str [97], .int .i64 (-1)], .agg [.str [], .int .i64 0]], .int .i64 0]⟩
theorem told1_15_run : (both G prim1 80).1 told1_15.g told1_15.args [] = some (.ret told1_15.r, []) := by kernel_rfl
def told1_16 : Tld := ⟨17, [.list 4 [.agg [.int .i64 2, .int .i64 2, .str [], .int .i64 0]]], .int .i64 0⟩
theorem told1_16_run : (both G prim1 80).1 told1_16.g told1_16.args [] = some (.ret told1_16.r, []) := by kernel_rfl
def told1_17 : Tld := ⟨17, [.list 4 [.agg [.int .i64 4, .int .i64 0, .str [], .int .i64 2], .agg [.int .i64 5, .int .i64 0, .str [], .int .i64 1], .agg [.int .i64 3, .int .i64 0, .str [98], .int .i64 0], .agg [.int .i64 2, .int .i64 1, .str [], .int .i64 0], .agg [.int .i64 5, .int .i64 0, .str [], .int .i64 1], .agg [.int .i64 3, .int .i64 0, .str [98], .int .i64 0], .agg [.int .i64 2, .int .i64 2, .str [], .int .i64 0]]], .int .i64 0⟩
theorem told1_17_run : (both G prim1 80).1 told1_17.g told1_17.args [] = some (.ret told1_17.r, []) := by kernel_rfl
def told1_18 : Tld := ⟨17, [.list 4 [.agg [.int .i64 5, .int .i64 0, .str [], .int .i64 1], .agg [.int .i64 3, .int .i64 0, .str [97], .int .i64 0], .agg [.int .i64 4, .int .i64 0, .str [], .int .i64 2], .agg [.int .i64 2, .int .i64 2, .str [], .int .i64 0], .agg [.int .i64 5, .int .i64 0, .str [], .int .i64 1], .agg [.int .i64 3, .int .i64 0, .str [98], .int .i64 0], .agg [.int .i64 2, .int .i64 2, .str [], .int .i64 0]]], .int .i64 0⟩
theorem told1_18_run : (both G prim1 80).1 told1_18.g told1_18.args [] = some (.ret told1_18.r, []) := by kernel_rfl
def told1_19 : Tld := ⟨8, [.str [97, 91, 49, 93]], .tup [.list 2 [.agg [.str [97], .int .i64 (-1)], .agg [.str [], .int .i64 1]], .int .i64 0]⟩
theorem told1_19_run : (both G prim1 80).1 told1_19.g told1_19.args [] = some (.ret told1_19.r, []) := by kernel_rfl
def told1_20 : Tld := ⟨50, [.list 4 [.agg [.int .i64 5, .int .i64 0, .str [], .int .i64 1], .agg [.int .i64 3, .int .i64 0, .str [97], .int .i64 0], .agg [.int .i64 4, .int .i64 0, .str [], .int .i64 2], .agg [.int .i64 2, .int .i64 2, .str [], .int .i64 0], .agg [.int .i64 5, .int .i64 0, .str [], .int .i64 1], .agg [.int .i64 3, .int .i64 0, .str [98], .int .i64 0], .agg [.int .i64 2, .int .i64 2, .str [], .int .i64 0]], .int .i64 0], .list 1 [.int .i64 2]⟩
theorem told1_20_run : (both G prim1 80).1 told1_20.g told1_20.args [] = some (.ret told1_20.r, []) := by kernel_rfl
def told1_21 : Tld := ⟨40, [.list 4 [.agg [.int .i64 5, .int .i64 0, .str [], .int .i64 1], .agg [.int .i64 3, .int .i64 0, .str [97], .int .i64 0], .agg [.int .i64 4, .int .i64 0, .str [], .int .i64 2], .agg [.int .i64 2, .int .i64 2, .str [], .int .i64 0], .agg [.int .i64 5, .int .i64 0, .str [], .int .i64 1], .agg [.int .i64 3, .int .i64 0, .str [98], .int .i64 0], .agg [.int .i64 2, .int .i64 2, .str [], .int .i64 0]], .int .i64 2], .list 4 [.agg [.int .i64 4, .int .i64 0, .str [], .int .i64 2], .agg [.int .i64 2, .int .i64 2, .str [], .int .i64 0], .agg [.int .i64 5, .int .i64 0, .str [], .int .i64 1], .agg [.int .i64 3, .int .i64 0, .str [98], .int .i64 0], .agg [.int .i64 2, .int .i64 2, .str [], .int .i64 0]]⟩
theorem told1_21_run : (both G prim1 80).1 told1_21.g told1_21.args [] = some (.ret told1_21.r, []) := by kernel_rfl
def told1_22 : Tld := ⟨17, [.list 4 [.agg [.int .i64 4, .int .i64 0, .str [], .int .i64 2], .agg [.int .i64 2, .int .i64 2, .str [], .int .i64 0], .agg [.int .i64 5, .int .i64 0, .str [], .int .i64 1], .agg [.int .i64 3, .int .i64 0, .str [98], .int .i64 0], .agg [.int .i64 2, .int .i64 2, .str [], .int .i64 0]]], .int .i64 0⟩
theorem told1_22_run : (both G prim1 80).1 told1_22.g told1_22.args [] = some (.ret told1_22.r, []) := by kernel_rfl
def told1_23 : Tld := ⟨50, [.list 4 [.agg [.int .i64 4, .int .i64 0, .str [], .int .i64 2], .agg [.int .i64 2, .int .i64 2, .str [], .int .i64 0], .agg [.int .i64 5, .int .i64 0, .str [], .int .i64 1], .agg [.int .i64 3, .int .i64 0, .str [98], .int .i64 0], .agg [.int .i64 2, .int .i64 2, .str [], .int .i64 0]], .int .i64 0], .list 1 [.int .i64 1, .int .i64 2]⟩
theorem told1_23_run : (both G prim1 80).1 told1_23.g told1_23.args [] = some (.ret told1_23.r, []) := by kernel_rfl
def told1_24 : Tld := ⟨40, [.list 4 [.agg [.int .i64 4, .int .i64 0, .str [], .int .i64 2], .agg [.int .i64 2, .int .i64 2, .str [], .int .i64 0], .agg [.int .i64 5, .int .i64 0, .str [], .int .i64 1], .agg [.int .i64 3, .int .i64 0, .str [98], .int .i64 0], .agg [.int .i64 2, .int .i64 2, .str [], .int .i64 0]], .int .i64 1], .list 4 [.agg [.int .i64 2, .int .i64 2, .str [], .int .i64 0]]⟩
theorem told1_24_run : (both G prim1 80).1 told1_24.g told1_24.args [] = some (.ret told1_24.r, []) := by kernel_rfl
def told1_25 : Tld := ⟨40, [.list 4 [.agg [.int .i64 4, .int .i64 0, .str [], .int .i64 2], .agg [.int .i64 2, .int .i64 2, .str [], .int .i64 0], .agg [.int .i64 5, .int .i64 0, .str [], .int .i64 1], .agg [.int .i64 3, .int .i64 0, .str [98], .int .i64 0], .agg [.int .i64 2, .int .i64 2, .str [], .int .i64 0]], .int .i64 2], .list 4 [.agg [.int .i64 5, .int .i64 0, .str [], .int .i64 1], .agg [.int .i64 3, .int .i64 0, .str [98], .int .i64 0], .agg [.int .i64 2, .int .i64 2, .str [], .int .i64 0]]⟩
theorem told1_25_run : (both G prim1 80).1 told1_25.g told1_25.args [] = some (.ret told1_25.r, []) := by kernel_rfl
def told1_26 : Tld := ⟨8, [.str [97, 91, 50, 93]], .tup [.list 2 [.agg [.str [97], .int .i64 (-1)], .agg [.str [], .int .i64 2]], .int .i64 0]⟩
theorem told1_26_run : (both G prim1 80).1 told1_26.g told1_26.args [] = some (.ret told1_26.r, []) := by kernel_rfl
def told1_27 : Tld := ⟨8, [.str [97, 46, 46, 98]], .tup [.nils, .int .i64 9]⟩
theorem told1_27_run : (both G prim1 80).1 told1_27.g told1_27.args [] = some (.ret told1_27.r, []) := by kernel_rfl
def told1_28 : Tld := ⟨47, [.str [123, 34, 97, 34, 58, 91, 50, 93, 125]], .tup [.list 4 [.agg [.int .i64 5, .int .i64 0, .str [], .int .i64 1], .agg [.int .i64 3, .int .i64 0, .str [97], .int .i64 0], .agg [.int .i64 4, .int .i64 0, .str [], .int .i64 1], .agg [.int .i64 2, .int .i64 2, .str [], .int .i64 0]], .nili]⟩
theorem told1_28_run : (both G prim1 80).1 told1_28.g told1_28.args [] = some (.ret told1_28.r, []) := by kernel_rfl
def told1_29 : Tld := ⟨17, [.list 4 [.agg [.int .i64 5, .int .i64 0, .str [], .int .i64 1], .agg [.int .i64 3, .int .i64 0, .str [97], .int .i64 0], .agg [.int .i64 4, .int .i64 0, .str [], .int .i64 1], .agg [.int .i64 2, .int .i64 2, .str [], .int .i64 0]]], .int .i64 0⟩
theorem told1_29_run : (both G prim1 80).1 told1_29.g told1_29.args [] = some (.ret told1_29.r, []) := by kernel_rfl
def told1_30 : Tld := ⟨10, [.list 2 [.agg [.str [97], .int .i64 (-1)], .agg [.str [], .int .i64 1], .agg [.str [98], .int .i64 (-1)]]], .tup [.str [97, 91, 49, 93, 46, 98], .int .i64 0]⟩
theorem told1_30_run : (both G prim1 80).1 told1_30.g told1_30.args [] = some (.ret told1_30.r, []) := by kernel_rfl
def told1_31 : Tld := ⟨19, [.list 4 [.agg [.int .i64 5, .int .i64 0, .str [], .int .i64 1], .agg [.int .i64 3, .int .i64 0, .str [97], .int .i64 0], .agg [.int .i64 4, .int .i64 0, .str [], .int .i64 1], .agg [.int .i64 2, .int .i64 2, .str [], .int .i64 0]], .list 4 [.agg [.int .i64 5, .int .i64 0, .str [], .int .i64 1], .agg [.int .i64 3, .int .i64 0, .str [97], .int .i64 0], .agg [.int .i64 4, .int .i64 0, .str [], .int .i64 1], .agg [.int .i64 2, .int .i64 2, .str [], .int .i64 0]]], .bool true⟩
theorem told1_31_run : (both G prim1 80).1 told1_31.g told1_31.args [] = some (.ret told1_31.r, []) := by kernel_rfl
def toldT1 : List Tld := [told1_0, told1_1, told1_2, told1_3, told1_4, told1_5, told1_6, told1_7, told1_8, told1_9, told1_10, told1_11, told1_12, told1_13, told1_14, told1_15, told1_16, told1_17, told1_18, told1_19, told1_20, told1_21, told1_22, told1_23, told1_24, told1_25, told1_26, told1_27, told1_28, told1_29, told1_30, told1_31]
theorem toldT1_ok : ∀ t ∈ toldT1, CallSound G.P t.g t.args [] (.ret t.r, []) := by
  intro t ht
  simp only [toldT1, List.mem_cons, List.not_mem_nil, or_false] at ht
  rcases ht with rfl | rfl | rfl | rfl | rfl | rfl | rfl | rfl | rfl | rfl | rfl | rfl | rfl | rfl | rfl | rfl | rfl | rfl | rfl | rfl | rfl | rfl | rfl | rfl | rfl | rfl | rfl | rfl | rfl | rfl | rfl | rfl
  · exact told_run GS prim1OK (by decide) (by kernel_rfl) told1_0_run
  · exact told_run GS prim1OK (by decide) (by kernel_rfl) told1_1_run
  · exact told_run GS prim1OK (by decide) (by kernel_rfl) told1_2_run
  · exact told_run GS prim1OK (by decide) (by kernel_rfl) told1_3_run
  · exact told_run GS prim1OK (by decide) (by kernel_rfl) told1_4_run
  · exact told_run GS prim1OK (by decide) (by kernel_rfl) told1_5_run
  · exact told_run GS prim1OK (by decide) (by kernel_rfl) told1_6_run
  · exact told_run GS prim1OK (by decide) (by kernel_rfl) told1_7_run
  · exact told_run GS prim1OK (by decide) (by kernel_rfl) told1_8_run
  · exact told_run GS prim1OK (by decide) (by kernel_rfl) told1_9_run
  · exact told_run GS prim1OK (by decide) (by kernel_rfl) told1_10_run
  · exact told_run GS prim1OK (by decide) (by kernel_rfl) told1_11_run
  · exact told_run GS prim1OK (by decide) (by kernel_rfl) told1_12_run
  · exact told_run GS prim1OK (by decide) (by kernel_rfl) told1_13_run
  · exact told_run GS prim1OK (by decide) (by kernel_rfl) told1_14_run
  · exact told_run GS prim1OK (by decide) (by kernel_rfl) told1_15_run
  · exact told_run GS prim1OK (by decide) (by kernel_rfl) told1_16_run
  · exact told_run GS prim1OK (by decide) (by kernel_rfl) told1_17_run
  · exact told_run GS prim1OK (by decide) (by kernel_rfl) told1_18_run
  · exact told_run GS prim1OK (by decide) (by kernel_rfl) told1_19_run
  · exact told_run GS prim1OK (by decide) (by kernel_rfl) told1_20_run
  · exact told_run GS prim1OK (by decide) (by kernel_rfl) told1_21_run
  · exact told_run GS prim1OK (by decide) (by kernel_rfl) told1_22_run
  · exact told_run GS prim1OK (by decide) (by kernel_rfl) told1_23_run
  · exact told_run GS prim1OK (by decide) (by kernel_rfl) told1_24_run
  · exact told_run GS prim1OK (by decide) (by kernel_rfl) told1_25_run
  · exact told_run GS prim1OK (by decide) (by kernel_rfl) told1_26_run
  · exact told_run GS prim1OK (by decide) (by kernel_rfl) told1_27_run
  · exact told_run GS prim1OK (by decide) (by kernel_rfl) told1_28_run
  · exact told_run GS prim1OK (by decide) (by kernel_rfl) told1_29_run
  · exact told_run GS prim1OK (by decide) (by kernel_rfl) told1_30_run
  · exact told_run GS prim1OK (by decide) (by kernel_rfl) told1_31_run
noncomputable def primT1 : FuncId → Option CallFn := toldP [17, 19, 40, 50, 90, 114, 113, 8, 10, 47] toldT1 prim1
theorem primT1OK : PrimSound G primT1 := toldP_ok prim1OK toldT1_ok
def told2_0 : Tld := ⟨20, [.str [123, 34, 97, 34, 58, 91, 123, 34, 98, 34, 58, 49, 125, 44, 123, 34, 98, 34, 58, 50, 125, 93, 125]], .tup [.list 4 [.agg [.int .i64 5, .int .i64 0, .str [], .int .i64 1], .agg [.int .i64 3, .int .i64 0, .str [97], .int .i64 0], .agg [.int .i64 4, .int .i64 0, .str [], .int .i64 2], .agg [.int .i64 5, .int .i64 0, .str [], .int .i64 1], .agg [.int .i64 3, .int .i64 0, .str [98], .int .i64 0], .agg [.int .i64 2, .int .i64 1, .str [], .int .i64 0], .agg [.int .i64 5, .int .i64 0, .str [], .int .i64 1], .agg [.int .i64 3, .int .i64 0, .str [98], .int .i64 0], .agg [.int .i64 2, .int .i64 2, .str [], .int .i64 0]], .int .i64 23, .int .i64 0]⟩
theorem told2_0_run : (both G primT1 80).1 told2_0.g told2_0.args [] = some (.ret told2_0.r, []) := by kernel_rfl
def told2_1 : Tld := ⟨15, [.list 4 [.agg [.int .i64 5, .int .i64 0, .str [], .int .i64 1], .agg [.int .i64 3, .int .i64 0, .str [97], .int .i64 0], .agg [.int .i64 4, .int .i64 0, .str [], .int .i64 2], .agg [.int .i64 5, .int .i64 0, .str [], .int .i64 1], .agg [.int .i64 3, .int .i64 0, .str [98], .int .i64 0], .agg [.int .i64 2, .int .i64 1, .str [], .int .i64 0], .agg [.int .i64 5, .int .i64 0, .str [], .int .i64 1], .agg [.int .i64 3, .int .i64 0, .str [98], .int .i64 0], .agg [.int .i64 2, .int .i64 2, .str [], .int .i64 0]], .str [97, 91, 49, 93, 46, 98]], .tup [.list 4 [.agg [.int .i64 2, .int .i64 2, .str [], .int .i64 0]], .int .i64 0]⟩
theorem told2_1_run : (both G primT1 80).1 told2_1.g told2_1.args [] = some (.ret told2_1.r, []) := by kernel_rfl
def told2_2 : Tld := ⟨21, [.list 4 [.agg [.int .i64 5, .int .i64 0, .str [], .int .i64 1], .agg [.int .i64 3, .int .i64 0, .str [97], .int .i64 0], .agg [.int .i64 4, .int .i64 0, .str [], .int .i64 2], .agg [.int .i64 5, .int .i64 0, .str [], .int .i64 1], .agg [.int .i64 3, .int .i64 0, .str [98], .int .i64 0], .agg [.int .i64 2, .int .i64 1, .str [], .int .i64 0], .agg [.int .i64 5, .int .i64 0, .str [], .int .i64 1], .agg [.int .i64 3, .int .i64 0, .str [98], .int .i64 0], .agg [.int .i64 2, .int .i64 2, .str [], .int .i64 0]], .str [97, 46, 98]], .tup [.list 1 [.list 4 [.agg [.int .i64 2, .int .i64 1, .str [], .int .i64 0]], .list 4 [.agg [.int .i64 2, .int .i64 2, .str [], .int .i64 0]]], .int .i64 0]⟩
theorem told2_2_run : (both G primT1 80).1 told2_2.g told2_2.args [] = some (.ret told2_2.r, []) := by kernel_rfl
def told2_3 : Tld := ⟨18, [.list 4 [.agg [.int .i64 5, .int .i64 0, .str [], .int .i64 1], .agg [.int .i64 3, .int .i64 0, .str [97], .int .i64 0], .agg [.int .i64 4, .int .i64 0, .str [], .int .i64 2], .agg [.int .i64 5, .int .i64 0, .str [], .int .i64 1], .agg [.int .i64 3, .int .i64 0, .str [98], .int .i64 0], .agg [.int .i64 2, .int .i64 1, .str [], .int .i64 0], .agg [.int .i64 5, .int .i64 0, .str [], .int .i64 1], .agg [.int .i64 3, .int .i64 0, .str [98], .int .i64 0], .agg [.int .i64 2, .int .i64 2, .str [], .int .i64 0]], .str [97, 91, 48, 93], .list 4 [.agg [.int .i64 2, .int .i64 2, .str [], .int .i64 0]]], .tup [.list 4 [.agg [.int .i64 5, .int .i64 0, .str [], .int .i64 1], .agg [.int .i64 3, .int .i64 0, .str [97], .int .i64 0], .agg [.int .i64 4, .int .i64 0, .str [], .int .i64 2], .agg [.int .i64 2, .int .i64 2, .str [], .int .i64 0], .agg [.int .i64 5, .int .i64 0, .str [], .int .i64 1], .agg [.int .i64 3, .int .i64 0, .str [98], .int .i64 0], .agg [.int .i64 2, .int .i64 2, .str [], .int .i64 0]], .int .i64 0]⟩
theorem told2_3_run : (both G primT1 80).1 told2_3.g told2_3.args [] = some (.ret told2_3.r, []) := by kernel_rfl
def told2_4 : Tld := ⟨16, [.list 4 [.agg [.int .i64 5, .int .i64 0, .str [], .int .i64 1], .agg [.int .i64 3, .int .i64 0, .str [97], .int .i64 0], .agg [.int .i64 4, .int .i64 0, .str [], .int .i64 2], .agg [.int .i64 2, .int .i64 2, .str [], .int .i64 0], .agg [.int .i64 5, .int .i64 0, .str [], .int .i64 1], .agg [.int .i64 3, .int .i64 0, .str [98], .int .i64 0], .agg [.int .i64 2, .int .i64 2, .str [], .int .i64 0]], .str [97, 91, 49, 93]], .tup [.list 4 [.agg [.int .i64 5, .int .i64 0, .str [], .int .i64 1], .agg [.int .i64 3, .int .i64 0, .str [97], .int .i64 0], .agg [.int .i64 4, .int .i64 0, .str [], .int .i64 1], .agg [.int .i64 2, .int .i64 2, .str [], .int .i64 0]], .int .i64 0]⟩
theorem told2_4_run : (both G primT1 80).1 told2_4.g told2_4.args [] = some (.ret told2_4.r, []) := by kernel_rfl
def told2_5 : Tld := ⟨15, [.list 4 [.agg [.int .i64 5, .int .i64 0, .str [], .int .i64 1], .agg [.int .i64 3, .int .i64 0, .str [97], .int .i64 0], .agg [.int .i64 4, .int .i64 0, .str [], .int .i64 2], .agg [.int .i64 5, .int .i64 0, .str [], .int .i64 1], .agg [.int .i64 3, .int .i64 0, .str [98], .int .i64 0], .agg [.int .i64 2, .int .i64 1, .str [], .int .i64 0], .agg [.int .i64 5, .int .i64 0, .str [], .int .i64 1], .agg [.int .i64 3, .int .i64 0, .str [98], .int .i64 0], .agg [.int .i64 2, .int .i64 2, .str [], .int .i64 0]], .str [97, 91, 50, 93]], .tup [.nils, .int .i64 6]⟩
theorem told2_5_run : (both G primT1 80).1 told2_5.g told2_5.args [] = some (.ret told2_5.r, []) := by kernel_rfl
def told2_6 : Tld := ⟨15, [.list 4 [.agg [.int .i64 5, .int .i64 0, .str [], .int .i64 1], .agg [.int .i64 3, .int .i64 0, .str [97], .int .i64 0], .agg [.int .i64 4, .int .i64 0, .str [], .int .i64 2], .agg [.int .i64 5, .int .i64 0, .str [], .int .i64 1], .agg [.int .i64 3, .int .i64 0, .str [98], .int .i64 0], .agg [.int .i64 2, .int .i64 1, .str [], .int .i64 0], .agg [.int .i64 5, .int .i64 0, .str [], .int .i64 1], .agg [.int .i64 3, .int .i64 0, .str [98], .int .i64 0], .agg [.int .i64 2, .int .i64 2, .str [], .int .i64 0]], .str [97, 46, 46, 98]], .tup [.nils, .int .i64 9]⟩
theorem told2_6_run : (both G primT1 80).1 told2_6.g told2_6.args [] = some (.ret told2_6.r, []) := by kernel_rfl
def told2_7 : Tld := ⟨20, [.str [123, 34, 97, 34, 58, 91, 50, 93, 125]], .tup [.list 4 [.agg [.int .i64 5, .int .i64 0, .str [], .int .i64 1], .agg [.int .i64 3, .int .i64 0, .str [97], .int .i64 0], .agg [.int .i64 4, .int .i64 0, .str [], .int .i64 1], .agg [.int .i64 2, .int .i64 2, .str [], .int .i64 0]], .int .i64 9, .int .i64 0]⟩
theorem told2_7_run : (both G primT1 80).1 told2_7.g told2_7.args [] = some (.ret told2_7.r, []) := by kernel_rfl
def toldT2 : List Tld := [told2_0, told2_1, told2_2, told2_3, told2_4, told2_5, told2_6, told2_7]
theorem toldT2_ok : ∀ t ∈ toldT2, CallSound G.P t.g t.args [] (.ret t.r, []) := by
  intro t ht
  simp only [toldT2, List.mem_cons, List.not_mem_nil, or_false] at ht
  rcases ht with rfl | rfl | rfl | rfl | rfl | rfl | rfl | rfl
  · exact told_run GS primT1OK (by decide) (by kernel_rfl) told2_0_run
  · exact told_run GS primT1OK (by decide) (by kernel_rfl) told2_1_run
  · exact told_run GS primT1OK (by decide) (by kernel_rfl) told2_2_run
  · exact told_run GS primT1OK (by decide) (by kernel_rfl) told2_3_run
  · exact told_run GS primT1OK (by decide) (by kernel_rfl) told2_4_run
  · exact told_run GS primT1OK (by decide) (by kernel_rfl) told2_5_run
  · exact told_run GS primT1OK (by decide) (by kernel_rfl) told2_6_run
  · exact told_run GS primT1OK (by decide) (by kernel_rfl) told2_7_run
noncomputable def primT2 : FuncId → Option CallFn := toldP [20, 15, 21, 18, 16] toldT2 primT1
theorem primT2OK : PrimSound G primT2 := toldP_ok primT1OK toldT2_ok
noncomputable abbrev primW : FuncId → Option CallFn := primT2
theorem primWOK : PrimSound G primW := primT2OK
theorem works6_run : (both G primW 80).1 6 [] [] = some (.ret (.bool true), []) := by kernel_rfl
end Go.Proofs.YtbjphckpbkacaaaGreatDoor


/- Values within values: where one is, the same nodes elsewhere are one, too; no program is looked at here. -/
namespace Go.Proofs.YtbjphckpbkacaaaGreatDoor
open Go Abs
set_option linter.unusedSimpArgs false
set_option linter.unusedVariables false

/-- Elsewhere: what began at a begins at b. -/
def Span.at_ (a b : Nat) (s : Span) : Span := ⟨b + (s.stop - a), s.deep, s.kids.map fun x => b + (x - a)⟩

end Go.Proofs.YtbjphckpbkacaaaGreatDoor


/- What the functions come to: a map's keys, gone through by a function: tree.members, tree.Keys. -/
namespace Go.Proofs.YtbjphckpbkacaaaGreatDoor
open Go Abs
set_option linter.unusedSimpArgs false
set_option linter.unusedVariables false

/-- A call that is handed memory, told by its answer. -/
theorem callB_of {d : Option Nat} {g : FuncId} {first caps args pre : List AV} {st st1 st3 : ASt} {ns : List Nat} {y : ARes × Heap} (hE : G.E g = true) (hg : g < RB) (hpre : prepL G g st.hp (first ++ args ++ caps) 0 = pre)
    (hst : st.fix (prepRows G g (first ++ args ++ caps) 0) = st1) (hns : reachL 40 st1.hp (AV.namesL pre) [] = ns) (hall : (ns.all fun n => (aget st1.hp n).isSome) = true)
    (hc : cl g (AV.renL (toMap ns) pre) (subHeap ns st1.hp) = some y) (ha : afterCall d ns st1 y.2 = some st3) : callB G cl d (.fn (.func g) first caps) args st = some (answered (backMap ns d y.2) st3 y.1, movedOf ns y.2) := by
  simp only [callB, hpre, hst, hns, hE, hg, hall, decide_true, Bool.and_true, if_true, hc, Option.bind_some, ha, Option.map_some]
theorem callV_of {d : Option Nat} {g : FuncId} {first caps args pre : List AV} {st st1 st3 : ASt} {ns : List Nat} {y : ARes × Heap} (hE : G.E g = true) (hg : g < RB) (hx : G.ext g = none) (hpre : prepL G g st.hp (first ++ args ++ caps) 0 = pre)
    (hst : st.fix (prepRows G g (first ++ args ++ caps) 0) = st1) (hns : reachL 40 st1.hp (AV.namesL pre) [] = ns) (hall : (ns.all fun n => (aget st1.hp n).isSome) = true)
    (hc : cl g (AV.renL (toMap ns) pre) (subHeap ns st1.hp) = some y) (ha : afterCall d ns st1 y.2 = some st3) {r : AR} (hr : answered (backMap ns d y.2) st3 y.1 = r) : callV G cl d (.fn (.func g) first caps) args st = some r := by
  unfold callV extA
  simp only [hx, Option.bind_none]
  unfold callA
  rw [callB_of hE hg hpre hst hns hall hc ha, Option.map_some, hr]
/-! Seen from the function that goes through them. -/
attribute [local simp] canonK canonAll canonSlot canonCell canonBox ownStep restrictTo pureCells pureRows reachL AObj.names List.range_succ appendA
end Go.Proofs.YtbjphckpbkacaaaGreatDoor


/- What comes to something at one limit comes to it at every greater one, and without a limit. -/
namespace Go.Proofs.YtbjphckpbkacaaaGreatDoor.Abs
open Go
set_option linter.unusedSimpArgs false
set_option linter.unusedVariables false
section
variable {G : Cfg} {cf : CallFn} {lf : LoopFn} {ck : Nat → CallFn} {lk : Nat → LoopFn}
theorem callA_evG (HC : ∀ g args hp r, cf g args hp = some r → Ev (fun k => ck k g args hp) r) {d : Option Nat} {fv : AV} {args : List AV} {st : ASt} {r : AR} (h : callA G cf d fv args st = some r) :
    Ev (fun k => callA G (ck k) d fv args st) r := by
  unfold callA at h ⊢
  obtain ⟨y, hy, rfl⟩ := Option.map_eq_some_iff.1 h
  exact (callB_evG HC hy).map _

theorem aop_evG (HC : ∀ g args hp r, cf g args hp = some r → Ev (fun k => ck k g args hp) r) {o : Oper} {st : ASt} {r : AR} (h : aop G cf o st = some r) : Ev (fun k => aop G (ck k) o st) r := by
  unfold aop at h ⊢
  split at h
  · split at h
    · exact ⟨0, fun _ _ => h⟩
    · exact callA_evG HC h
  · split at h
    · unfold invA at h ⊢
      split at h
      · rw [Option.bind_eq_some_iff] at h
        obtain ⟨m, hm, h⟩ := h
        rw [Option.bind_eq_some_iff] at h
        obtain ⟨u, hu, h⟩ := h
        exact Ev.bind ⟨0, fun _ _ => hm⟩ (Ev.bind ⟨0, fun _ _ => hu⟩ (callA_evG HC h))
      · cases h
    · exact ⟨0, fun _ _ => h⟩

theorem aops_evG (HC : ∀ g args hp r, cf g args hp = some r → Ev (fun k => ck k g args hp) r) {ops : Array Oper} (l : List Nat) : ∀ {st : ASt} {r : AX × ASt}, aops G cf ops l st = some r → Ev (fun k => aops G (ck k) ops l st) r := by
  induction l with
  | nil => intro st r h; exact ⟨0, fun _ _ => h⟩
  | cons i l ih =>
    intro st r h
    simp only [aops] at h ⊢
    cases ho : ops[i]? with
    | none => simp only [ho] at h ⊢; exact ih h
    | some o =>
      simp only [ho] at h ⊢
      rw [Option.bind_eq_some_iff] at h
      obtain ⟨g, hg, h⟩ := h
      refine Ev.bind ⟨0, fun _ _ => hg⟩ ?_
      cases g with
      | false =>
        simp only [Bool.false_eq_true, if_false] at h ⊢
        split at h
        case isFalse => cases h
        rename_i hsk
        simp only [if_pos hsk]
        exact ih h
      | true =>
        simp only [if_true] at h ⊢
        rw [Option.bind_eq_some_iff] at h
        obtain ⟨a, ha, h⟩ := h
        refine Ev.bind (aop_evG HC ha) ?_
        cases a with
        | val v s => exact ih h
        | pan v s => exact ⟨0, fun _ _ => h⟩

theorem runPlan_evG (HC : ∀ g args hp r, cf g args hp = some r → Ev (fun k => ck k g args hp) r) {ops : Array Oper} (l : List PS) : ∀ {st : ASt} {r : AX × ASt}, runPlan G cf ops l st = some r → Ev (fun k => runPlan G (ck k) ops l st) r := by
  induction l with
  | nil => intro st r h; exact ⟨0, fun _ _ => h⟩
  | cons x l ih =>
    intro st r h
    cases x with
    | n i =>
      simp only [runPlan] at h ⊢
      rw [Option.bind_eq_some_iff] at h
      obtain ⟨o, ho, h⟩ := h
      rw [Option.bind_eq_some_iff] at h
      obtain ⟨v, hv, h⟩ := h
      exact Ev.bind ⟨0, fun _ _ => ho⟩ (Ev.bind ⟨0, fun _ _ => hv⟩ (ih h))
    | e j re =>
      simp only [runPlan] at h ⊢
      rw [Option.bind_eq_some_iff] at h
      obtain ⟨o, ho, h⟩ := h
      rw [Option.bind_eq_some_iff] at h
      obtain ⟨a, ha, h⟩ := h
      refine Ev.bind ⟨0, fun _ _ => ho⟩ (Ev.bind (a := a) ?_ ?_)
      · unfold stepE at ha ⊢
        rw [Option.bind_eq_some_iff] at ha
        obtain ⟨g, hg, ha⟩ := ha
        refine Ev.bind ⟨0, fun _ _ => hg⟩ ?_
        cases g with
        | true => simp only [if_true] at ha ⊢; exact aop_evG HC ha
        | false => simp only [Bool.false_eq_true, if_false] at ha ⊢; exact ⟨0, fun _ _ => ha⟩
      · cases a with
        | pan v s => exact ⟨0, fun _ _ => h⟩
        | val v s =>
          simp only at h ⊢
          split at h
          · rename_i hc; simp only [hc, if_true]; exact ih h
          · cases h
    | sw j k re =>
      simp only [runPlan] at h ⊢
      split at h
      case isFalse => cases h
      rename_i hc
      simp only [if_pos hc]
      rw [Option.bind_eq_some_iff] at h
      obtain ⟨s0, h0, h⟩ := h
      rw [Option.bind_eq_some_iff] at h
      obtain ⟨s1, h1, h⟩ := h
      rw [Option.bind_eq_some_iff] at h
      obtain ⟨s2, h2, h⟩ := h
      exact Ev.bind ⟨0, fun _ _ => h0⟩ (Ev.bind ⟨0, fun _ _ => h1⟩ (Ev.bind ⟨0, fun _ _ => h2⟩ (ih h)))

theorem codeX_evG (HC : ∀ g args hp r, cf g args hp = some r → Ev (fun k => ck k g args hp) r) (HL : ∀ f c st r, lf f c st = some r → Ev (fun k => lk k f c st) r) {f : FuncId} (c : Code) : ∀ {st : ASt} {r : AX × ASt}, codeX G cf lf f c st = some r →
    Ev (fun k => codeX G (ck k) (lk k) f c st) r := by
  induction c with
  | skip => intro st r h; exact ⟨0, fun _ _ => h⟩
  | label l => intro st r h; exact ⟨0, fun _ _ => h⟩
  | exit id => intro st r h; exact ⟨0, fun _ _ => h⟩
  | ret => intro st r h; exact ⟨0, fun _ _ => h⟩
  | scope b _ => intro st r h; exact ⟨0, fun _ _ => h⟩
  | goto l => intro st r h; exact ⟨0, fun _ _ => h⟩
  | refuse w => intro st r h; exact ⟨0, fun _ _ => h⟩
  | rangeFunc g ps a b _ _ =>
    intro st r h
    simp only [codeX] at h ⊢
    split at h
    · cases h
    · rename_i hc
      simp only [if_neg hc]
      rw [Option.bind_eq_some_iff] at h
      obtain ⟨y, hy, h⟩ := h
      exact Ev.bind (callB_evG HC hy) ⟨0, fun _ _ => h⟩
  | region id ops draw =>
    intro st r h
    simp only [codeX] at h ⊢
    rw [Option.bind_eq_some_iff] at h
    obtain ⟨y, h1, h2⟩ := h
    refine Ev.bind ?_ ⟨0, fun _ _ => h2⟩
    split at h1
    · rename_i hd
      simp only [hd, if_true]
      rw [Option.bind_eq_some_iff] at h1
      obtain ⟨p, hp, hs⟩ := h1
      exact Ev.bind (f := fun k (p : List PS) => runPlan G (ck k) ops p st) ⟨0, fun _ _ => hp⟩ (runPlan_evG HC p hs)
    · rename_i hd; simp only [if_neg hd]; exact aops_evG HC _ h1
  | seq a b iha ihb =>
    intro st r h
    simp only [codeX] at h ⊢
    rw [Option.bind_eq_some_iff] at h
    obtain ⟨⟨x, s⟩, h1, h2⟩ := h
    refine Ev.bind (iha h1) ?_
    cases x with
    | normal => exact ihb h2
    | exit i => exact ⟨0, fun _ _ => h2⟩
    | ret => exact ⟨0, fun _ _ => h2⟩
    | pan v => exact ⟨0, fun _ _ => h2⟩
  | cond c a b iha ihb =>
    intro st r h
    cases hc : st.ev c with
    | bool t =>
      simp only [codeX, hc] at h ⊢
      cases t with
      | true => simp only [if_true] at h ⊢; exact iha h
      | false => simp only [Bool.false_eq_true, if_false] at h ⊢; exact ihb h
    | _ => simp [codeX, hc] at h
  | block id b ih =>
    intro st r h
    simp only [codeX] at h ⊢
    rw [Option.bind_eq_some_iff] at h
    obtain ⟨⟨x, s⟩, h1, h2⟩ := h
    exact Ev.bind (ih h1) ⟨0, fun _ _ => h2⟩
  | loop b _ =>
    intro st r h
    simp only [codeX] at h ⊢
    rw [Option.bind_eq_some_iff] at h
    obtain ⟨s, h1, h2⟩ := h
    exact Ev.bind ⟨0, fun _ _ => h1⟩ (HL _ _ _ _ h2)

theorem runBody_evG (HC : ∀ g args hp r, cf g args hp = some r → Ev (fun k => ck k g args hp) r) (HL : ∀ f c st r, lf f c st = some r → Ev (fun k => lk k f c st) r) {g : FuncId} {args : List AV} {hp : Heap} {r : ARes × Heap} (h : runBody G cf lf g args hp = some r) :
    Ev (fun k => runBody G (ck k) (lk k) g args hp) r := by
  unfold runBody at h ⊢
  rw [Option.bind_eq_some_iff] at h
  obtain ⟨fn, h1, h⟩ := h
  refine Ev.bind ⟨0, fun _ _ => h1⟩ ?_
  rw [Option.bind_eq_some_iff] at h
  obtain ⟨c, h2, h⟩ := h
  refine Ev.bind ⟨0, fun _ _ => h2⟩ ?_
  rw [Option.bind_eq_some_iff] at h
  obtain ⟨y, h3, h⟩ := h
  exact Ev.bind (codeX_evG HC HL c h3) ⟨0, fun _ _ => h⟩

theorem runRound_evG (HC : ∀ g args hp r, cf g args hp = some r → Ev (fun k => ck k g args hp) r) (HL : ∀ f c st r, lf f c st = some r → Ev (fun k => lk k f c st) r) {L : Nat} {args : List AV} {hp : Heap} {r : ARes × Heap} (h : runRound G cf lf L args hp = some r) :
    Ev (fun k => runRound G (ck k) (lk k) L args hp) r := by
  unfold runRound at h ⊢
  split at h
  · rename_i r0 sl h0
    simp only [h0]
    split at h
    · rename_i hc
      simp only [if_pos hc]
      rw [Option.bind_eq_some_iff] at h
      obtain ⟨⟨y1, y2⟩, hy, h⟩ := h
      refine Ev.bind (codeX_evG HC HL _ hy) ?_
      cases y1 with
      | normal =>
        simp only at h ⊢
        cases h1 : aget y2.hp L with
        | none => rw [h1] at h; cases h
        | some o =>
          rw [h1] at h
          cases o with
          | loop r1 sl1 =>
            simp only at h ⊢
            split at h
            · rename_i hc1
              simp only [if_pos hc1]
              rw [Option.bind_eq_some_iff] at h
              obtain ⟨z, hz, h⟩ := h
              exact Ev.bind (codeX_evG HC HL _ hz) ⟨0, fun _ _ => h⟩
            · cases h
          | _ => cases h
      | _ => cases h
    · cases h
  · cases h

theorem runBodyD_evG (HC : ∀ g args hp r, cf g args hp = some r → Ev (fun k => ck k g args hp) r) (HL : ∀ f c st r, lf f c st = some r → Ev (fun k => lk k f c st) r) {g : FuncId} {args : List AV} {hp : Heap} {r : ARes × Heap} (h : runBodyD G cf lf g args hp = some r) :
    Ev (fun k => runBodyD G (ck k) (lk k) g args hp) r := by
  unfold runBodyD at h ⊢
  rw [Option.bind_eq_some_iff] at h; obtain ⟨fn, h1, h⟩ := h
  refine Ev.bind ⟨0, fun _ _ => h1⟩ ?_
  rw [Option.bind_eq_some_iff] at h; obtain ⟨q, h2, h⟩ := h
  refine Ev.bind ⟨0, fun _ _ => h2⟩ ?_
  rw [Option.bind_eq_some_iff] at h; obtain ⟨⟨x0, s0⟩, h3, h⟩ := h
  refine Ev.bind (codeX_evG HC HL _ h3) ?_
  cases x0 with
  | normal =>
    simp only at h ⊢
    rw [Option.bind_eq_some_iff] at h; obtain ⟨⟨x1, s1⟩, h4, h⟩ := h
    refine Ev.bind (aops_evG HC _ h4) ?_
    cases x1 with
    | normal =>
      simp only at h ⊢
      split at h
      · rename_i hc
        simp only [if_pos hc]
        rw [Option.bind_eq_some_iff] at h; obtain ⟨y2, h5, h⟩ := h
        refine Ev.bind (codeX_evG HC HL _ h5) ?_
        split at h
        · cases h
        rename_i hbx
        simp only [if_neg hbx]
        rw [Option.bind_eq_some_iff] at h; obtain ⟨rv, h6, h⟩ := h
        refine Ev.bind ⟨0, fun _ _ => h6⟩ ?_
        rw [Option.bind_eq_some_iff] at h; obtain ⟨z, h7, h⟩ := h
        exact Ev.bind ⟨0, fun _ _ => h7⟩ ⟨0, fun _ _ => h⟩
      · cases h
    | _ => cases h
  | _ => cases h
theorem runFn_evG (HC : ∀ g args hp r, cf g args hp = some r → Ev (fun k => ck k g args hp) r) (HL : ∀ f c st r, lf f c st = some r → Ev (fun k => lk k f c st) r) {g : FuncId} {args : List AV} {hp : Heap} {r : ARes × Heap} (h : runFn G cf lf g args hp = some r) :
    Ev (fun k => runFn G (ck k) (lk k) g args hp) r := by
  unfold runFn at h ⊢
  split at h
  · rename_i hd; simp only [if_pos hd]; exact runBodyD_evG HC HL h
  · rename_i hd; simp only [if_neg hd]; exact runBody_evG HC HL h


theorem loopStep_evG (HC : ∀ g args hp r, cf g args hp = some r → Ev (fun k => ck k g args hp) r) (HL : ∀ f c st r, lf f c st = some r → Ev (fun k => lk k f c st) r) {f : FuncId} {c : Code} {st : ASt} {r : AX × ASt} (h : loopStep G cf lf f c st = some r) : Ev (fun k => loopStep G (ck k) (lk k) f c st) r := by
  unfold loopStep at h ⊢
  split at h
  case h_2 q hq => exact mapStep_evH (fun c st r h => codeX_evG HC HL c h) (fun c st r h => HL _ _ _ _ h) h
  unfold loopStep0 at h ⊢
  rw [Option.bind_eq_some_iff] at h
  obtain ⟨⟨x, s⟩, h1, h2⟩ := h
  refine Ev.bind (codeX_evG HC HL c h1) ?_
  cases x with
  | normal =>
    rw [Option.bind_eq_some_iff] at h2
    obtain ⟨s', h3, h4⟩ := h2
    exact Ev.bind ⟨0, fun _ _ => h3⟩ (HL _ _ _ _ h4)
  | exit i => exact ⟨0, fun _ _ => h2⟩
  | ret => exact ⟨0, fun _ _ => h2⟩
  | pan v => exact ⟨0, fun _ _ => h2⟩
end
theorem Ev.const {α : Type} {x : Option α} {y : α} (h : Ev (fun _ => x) y) : x = some y := by
  obtain ⟨K, h⟩ := h; exact h K (Nat.le_refl _)
theorem both_succ {G : Cfg} {prim : FuncId → Option CallFn} : ∀ k, (∀ g args hp r, (both G prim k).1 g args hp = some r → (both G prim (k + 1)).1 g args hp = some r) ∧ (∀ f c st r, (both G prim k).2 f c st = some r → (both G prim (k + 1)).2 f c st = some r) := by
  intro k
  induction k with
  | zero => exact ⟨fun g args hp r h => (by cases h), fun f c st r h => (by cases h)⟩
  | succ k ih =>
    have hc : ∀ g args hp r, (both G prim k).1 g args hp = some r → Ev (fun _ => (both G prim (k + 1)).1 g args hp) r := fun g args hp r h => ⟨0, fun _ _ => ih.1 g args hp r h⟩
    have hl : ∀ f c st r, (both G prim k).2 f c st = some r → Ev (fun _ => (both G prim (k + 1)).2 f c st) r := fun f c st r h => ⟨0, fun _ _ => ih.2 f c st r h⟩
    refine ⟨fun g args hp r h => ?_, fun f c st r h => ?_⟩
    · rw [both] at h ⊢
      simp only at h ⊢
      split at h
      · rename_i hg
        rw [if_pos hg]
        split at h
        · exact h
        · exact Ev.const (runFn_evG (ck := fun _ => (both G prim (k + 1)).1) (lk := fun _ => (both G prim (k + 1)).2) hc hl h)
      · rename_i hg
        rw [if_neg hg]
        exact Ev.const (runRound_evG (ck := fun _ => (both G prim (k + 1)).1) (lk := fun _ => (both G prim (k + 1)).2) hc hl h)
    · rw [both] at h ⊢
      simp only at h ⊢
      exact Ev.const (loopStep_evG (ck := fun _ => (both G prim (k + 1)).1) (lk := fun _ => (both G prim (k + 1)).2) hc hl h)
theorem both_le {G : Cfg} {prim : FuncId → Option CallFn} {k k' : Nat} (h : k ≤ k') {g : FuncId} {args : List AV} {hp : Heap} {r : ARes × Heap} (hr : (both G prim k).1 g args hp = some r) : (both G prim k').1 g args hp = some r := by
  induction h with
  | refl => exact hr
  | step _ ih => exact (both_succ _).1 _ _ _ _ ih
/-- What was gone through is what it comes to. -/
theorem callL_of_run {G : Cfg} {prim : FuncId → Option CallFn} {k : Nat} {g : FuncId} {args : List AV} {hp : Heap} {r : ARes × Heap} (hr : (both G prim k).1 g args hp = some r) : callL G prim g args hp = some r :=
  limit_of ⟨k, fun _ hk => both_le hk hr⟩
end Go.Proofs.YtbjphckpbkacaaaGreatDoor.Abs


/- What the functions come to: beginnings of texts, and names. -/
namespace Go.Proofs.YtbjphckpbkacaaaGreatDoor
open Go Abs
set_option linter.unusedSimpArgs false
set_option linter.unusedVariables false
abbrev Tx := List UInt8

set_option maxHeartbeats 8000000 in
theorem hasPre_eq (s : Tx) (c : UInt8) : cl 74 [.str s, .str [c]] [] = some (.ret (.bool (decide (s.head? = some c))), []) := by
  refine fn_intro Tryz.func74 rfl (by simp) (by decide) rfl ?_
  cases s with
  | nil => simp [Tryz.f74]; exact end_is (.inr rfl) (by simp; rfl) rfl (by simp)
  | cons b r =>
    have h1 : (1 : Int) ≤ (r.length : Int) + 1 := by omega
    simp [Tryz.f74, h1]; exact end_is (.inr rfl) (by simp; rfl) rfl (by simp)
theorem hasPre_call {s : Tx} {c : UInt8} {d : Option Nat} {st : ASt} : callV G cl d (.fn (.func 74) [] []) [.str s, .str [c]] st = some (.val (.bool (decide (s.head? = some c))) st) :=
  callV_ret E74 (by decide) ext74 rfl rfl (hasPre_eq s c) rfl
/-- What is behind a byte, if a text begins with it. -/
def cutP (s : Tx) (c : UInt8) : AV := if s.head? = some c then .tup [.str s.tail, .bool true] else .tup [.str s, .bool false]
set_option maxHeartbeats 8000000 in
theorem cutPre51 (s : Tx) (c : UInt8) : cl 51 [.str s, .str [c]] [] = some (.ret (cutP s c), []) := by
  refine fn_intro Tryz.func51 rfl (by simp) (by decide) rfl ?_
  unfold cutP
  cases s with
  | nil =>
    simp [Tryz.f51, hasPre_call]; exact end_is (.inr rfl) (by simp; rfl) rfl (by simp)
  | cons b r =>
    have h1 : (1 : Int) ≤ (r.length : Int) + 1 := by omega
    by_cases h : b = c
    · subst h
      simp [Tryz.f51, hasPre_call, h1]; exact end_is (.inr rfl) (by simp; rfl) rfl (by simp)
    · simp [Tryz.f51, hasPre_call, h1, h]; exact end_is (.inr rfl) (by simp; rfl) rfl (by simp)
theorem cutP_names {s c} : (cutP s c).names = [] := by unfold cutP; split <;> rfl
set_option maxHeartbeats 8000000 in
theorem cutPre22 (s : Tx) (c : UInt8) : cl 22 [.str s, .str [c]] [] = some (.ret (cutP s c), []) := by
  have h51 : ∀ d st, callV G cl d (.fn (.func 51) [] []) [.str s, .str [c]] st = some (.val (cutP s c) st) := fun d st => callV_ret E51 (by decide) ext51 rfl rfl (cutPre51 s c) cutP_names
  refine fn_intro Tryz.func22 rfl (by simp) (by decide) rfl ?_
  unfold cutP at *
  split at h51
  · rename_i h
    simp [Tryz.f22, h51, h]; exact end_is (.inr rfl) (by simp; rfl) rfl (by simp)
  · rename_i h
    simp [Tryz.f22, h51, h]; exact end_is (.inr rfl) (by simp; rfl) rfl (by simp)
theorem cutPre_call {s : Tx} {c : UInt8} {d : Option Nat} {st : ASt} : callV G cl d (.fn (.func 22) [] []) [.str s, .str [c]] st = some (.val (cutP s c) st) :=
  callV_ret E22 (by decide) ext22 rfl rfl (cutPre22 s c) cutP_names

/-! Where a byte is -/
theorem strx_at {s : Tx} {i : Nat} {b : UInt8} (h : s[i]? = some b) : indexv Tryz.prog 9 (.str s) (.int .i64 i) = some (.int .u8 b.toNat) := by
  simp [indexv, h]
theorem ix116 {s : Tx} {c : UInt8} {d : Option Nat} {st : ASt} : callV G cl d (.fn (.func 116) [] []) [.str s, .int .u8 c.toNat] st = some (.val (.int .i64 (Lib.indexByte s c)) st) := by
  have e : ((c.toNat : Int)).toNat.toUInt8 = c := by simp
  have h : callV G cl d (.fn (.func 116) [] []) [.str s, .int .u8 c.toNat] st = some (.val (.int .i64 (Lib.indexByte s ((c.toNat : Int)).toNat.toUInt8)) st) := rfl
  rw [e] at h; exact h
set_option maxHeartbeats 8000000 in
theorem ixByte_eq (s : Tx) (c : UInt8) : cl 94 [.str s, .int .u8 c.toNat] [] = some (.ret (.int .i64 (Lib.indexByte s c)), []) := by
  have h := fun d st => ix116 (s := s) (c := c) (d := d) (st := st)
  refine fn_intro Tryz.func94 rfl (by simp) (by decide) rfl ?_
  simp [Tryz.f94, h]; exact end_is (.inr rfl) (by simp; rfl) rfl (by simp)
theorem ixByte_call {s : Tx} {c : UInt8} {d : Option Nat} {st : ASt} : callV G cl d (.fn (.func 94) [] []) [.str s, .int .u8 c.toNat] st = some (.val (.int .i64 (Lib.indexByte s c)) st) :=
  callV_ret E94 (by decide) ext94 rfl rfl (ixByte_eq s c) rfl
set_option maxHeartbeats 8000000 in
set_option maxRecDepth 100000 in
theorem index_eq (s : Tx) (c : UInt8) : cl 75 [.str s, .str [c]] [] = some (.ret (.int .i64 (Lib.indexByte s c)), []) := by
  refine fn_intro Tryz.func75 rfl (by simp) (by decide) rfl ?_
  by_cases h : [c] = s
  · subst h
    simp [Tryz.f75]; exact end_is (.inr rfl) (by simp; rfl) rfl (by simp [Lib.indexByte])
  · have hx : indexv Tryz.prog 9 (.str [c]) (.int .i64 0) = some (.int .u8 c.toNat) := strx_at (s := [c]) (i := 0) rfl
    simp [Tryz.f75, h, hx, ixByte_call]; exact end_is (.inr rfl) (by simp; rfl) rfl (by simp)
theorem index_call {s : Tx} {c : UInt8} {d : Option Nat} {st : ASt} : callV G cl d (.fn (.func 75) [] []) [.str s, .str [c]] st = some (.val (.int .i64 (Lib.indexByte s c)) st) :=
  callV_ret E75 (by decide) ext75 rfl rfl (index_eq s c) rfl
/-- A text, cut round a byte. -/
def cutX : Tx → UInt8 → Option (Tx × Tx)
  | [], _ => none
  | b :: r, c => if b = c then some ([], r) else (cutX r c).map fun p => (b :: p.1, p.2)
theorem cutX_some : ∀ {s : Tx} {c : UInt8} {x y : Tx}, cutX s c = some (x, y) → s = x ++ c :: y ∧ c ∉ x ∧ Lib.indexByte s c = x.length
  | [], c, x, y, h => by cases h
  | b :: r, c, x, y, h => by
    unfold cutX at h
    split at h
    · rename_i e
      subst e; cases h
      exact ⟨rfl, by simp, by simp [Lib.indexByte]⟩
    · rename_i e
      obtain ⟨p, hp, hq⟩ := Option.map_eq_some_iff.1 h
      cases hq
      obtain ⟨h1, h2, h3⟩ := cutX_some (x := p.1) (y := p.2) hp
      refine ⟨by rw [h1]; rfl, ?_, ?_⟩
      · intro hm
        rcases List.mem_cons.1 hm with h | h
        · exact e h.symm
        · exact h2 h
      · have hb : (b == c) = false := by simpa using e
        have hn : (Lib.indexByte r c == -1) = false := by rw [h3]; simp
        show (if (b == c) = true then (0:Int) else if (Lib.indexByte r c == -1) = true then -1 else Lib.indexByte r c + 1) = _
        rw [hb, hn, h3]
        simp
theorem cutX_none : ∀ {s : Tx} {c : UInt8}, cutX s c = none → c ∉ s ∧ Lib.indexByte s c = -1
  | [], c, _ => ⟨by simp, rfl⟩
  | b :: r, c, h => by
    unfold cutX at h
    split at h
    · cases h
    · rename_i e
      obtain ⟨h1, h2⟩ := cutX_none (Option.map_eq_none_iff.1 h)
      refine ⟨fun hm => ?_, ?_⟩
      · rcases List.mem_cons.1 hm with h | h
        · exact e h.symm
        · exact h1 h
      · have hb : (b == c) = false := by simpa using e
        simp [Lib.indexByte, hb, h2]
def cutV (s : Tx) (c : UInt8) : AV := match cutX s c with
  | some (x, y) => .tup [.str x, .str y, .bool true]
  | none => .tup [.str s, .str [], .bool false]
theorem cutV_names {s c} : (cutV s c).names = [] := by unfold cutV; split <;> rfl
set_option maxHeartbeats 8000000 in
theorem cut52 (s : Tx) (c : UInt8) (hs : s.length ≤ 1000000) : cl 52 [.str s, .str [c]] [] = some (.ret (cutV s c), []) := by
  have hi := fun d st => index_call (s := s) (c := c) (d := d) (st := st)
  refine fn_intro Tryz.func52 rfl (by simp) (by decide) rfl ?_
  unfold cutV
  cases h : cutX s c with
  | none =>
    rw [(cutX_none h).2] at hi
    simp [Tryz.f52, hi]; exact end_is (.inr rfl) (by simp; rfl) rfl (by simp)
  | some p =>
    obtain ⟨x, y⟩ := p
    obtain ⟨h1, _, h3⟩ := cutX_some h
    rw [h3] at hi
    have hlen : s.length = x.length + (y.length + 1) := by rw [h1]; simp
    have e1 : s.take x.length = x := by rw [h1]; simp
    have e2 : s.drop (x.length + 1) = y := by rw [h1]; simp
    have hw : IntKind.i64.wrap ((x.length : Int) + 1) = ((x.length + 1 : Nat) : Int) := by rw [i64_wrap (by omega) (by omega)]; omega
    have hp1 : (0 : Int) ≤ (x.length : Int) + 1 := by omega
    have c1 : x.length ≤ s.length := by omega
    have c2 : x.length + 1 ≤ s.length := by omega
    generalize hk : x.length = k at *
    simp [Tryz.f52, hi, hw, hp1, c1, c2, e1, e2]; exact end_is (.inr rfl) (by simp; rfl) rfl (by simp [e1, e2])
set_option maxHeartbeats 8000000 in
theorem cut23 (s : Tx) (c : UInt8) (hs : s.length ≤ 1000000) : cl 23 [.str s, .str [c]] [] = some (.ret (cutV s c), []) := by
  have h52 : ∀ d st, callV G cl d (.fn (.func 52) [] []) [.str s, .str [c]] st = some (.val (cutV s c) st) := fun d st => callV_ret E52 (by decide) ext52 rfl rfl (cut52 s c hs) cutV_names
  refine fn_intro Tryz.func23 rfl (by simp) (by decide) rfl ?_
  unfold cutV at *
  cases h : cutX s c with
  | none =>
    simp only [h] at h52
    simp [Tryz.f23, h52]; exact end_is (.inr rfl) (by simp; rfl) rfl rfl
  | some p =>
    simp only [h] at h52
    simp [Tryz.f23, h52]; exact end_is (.inr rfl) (by simp; rfl) rfl rfl
theorem cut_call {s : Tx} {c : UInt8} (hs : s.length ≤ 1000000) {d : Option Nat} {st : ASt} : callV G cl d (.fn (.func 23) [] []) [.str s, .str [c]] st = some (.val (cutV s c) st) :=
  callV_ret E23 (by decide) ext23 rfl rfl (cut23 s c hs) cutV_names

/-! Names -/
def namedB (c : UInt8) : Bool := decide (97 ≤ c.toNat ∧ c.toNat ≤ 122) || decide (65 ≤ c.toNat ∧ c.toNat ≤ 90) || decide (48 ≤ c.toNat ∧ c.toNat ≤ 57) || decide (c.toNat = 95)
noncomputable def namedOK (f : FuncId) (n : Nat) : Bool := match (both G prim0 40).1 f [.int .u8 n] [] with
  | some (.ret (.bool b), []) => b == namedB (UInt8.ofNat n)
  | _ => false
theorem named_all : (List.range 256).all (namedOK 56) = true := by kernel_rfl
theorem rnamed_all : (List.range 256).all (namedOK 30) = true := by kernel_rfl
theorem named_of {f : FuncId} (h : (List.range 256).all (namedOK f) = true) (c : UInt8) : cl f [.int .u8 c.toNat] [] = some (.ret (.bool (namedB c)), []) := by
  have h := List.all_eq_true.1 h c.toNat (List.mem_range.2 c.toNat_lt)
  unfold namedOK at h
  generalize hr : (both G prim0 40).1 f [.int .u8 c.toNat] [] = r at h
  split at h
  · rw [eq_of_beq h, show UInt8.ofNat c.toNat = c by simp] at hr
    exact callL_of_run hr
  · cases h
theorem named_call {c : UInt8} {d : Option Nat} {st : ASt} : callV G cl d (.fn (.func 56) [] []) [.int .u8 c.toNat] st = some (.val (.bool (namedB c)) st) := callV_ret E56 (by decide) ext56 rfl rfl (named_of named_all c) rfl
theorem rnamed_call {c : UInt8} {d : Option Nat} {st : ASt} : callV G cl d (.fn (.func 30) [] []) [.int .u8 c.toNat] st = some (.val (.bool (namedB c)) st) := callV_ret E30 (by decide) ext30 rfl rfl (named_of rnamed_all c) rfl
/-- The name that a text begins with. -/
def nameB (s : Tx) : Tx := s.takeWhile namedB
def stN (s : Tx) (i : Nat) : ASt := ⟨[(0, .str s), (3, .int .i64 i)], []⟩
set_option maxHeartbeats 8000000 in
theorem name_round (s : Tx) (hs : s.length ≤ 1000000) (i : Nat) (b : UInt8) (hb : s[i]? = some b) (hn : namedB b = true) : rX 27 (lc Tryz.f27 0) (codeX G cl lp 27 (lc Tryz.f27 0) (stN s i)) = some (.normal, stN s (i + 1)) := by
  have hlt : i < s.length := (List.getElem?_eq_some_iff.1 hb).1
  have hw : IntKind.i64.wrap ((i : Int) + 1) = ((i + 1 : Nat) : Int) := by rw [i64_wrap (by omega) (by omega)]; omega
  have hx := strx_at hb
  have hc := fun d st => named_call (c := b) (d := d) (st := st)
  rw [hn] at hc
  simp [lc, loopsOf, Tryz.f27, stN, hlt, hw, hx, hc]
  done
set_option maxHeartbeats 8000000 in
theorem name_stop (s : Tx) (hs : s.length ≤ 1000000) (i : Nat) (h : ∀ b, s[i]? = some b → namedB b = false) : rX 27 (lc Tryz.f27 0) (codeX G cl lp 27 (lc Tryz.f27 0) (stN s i)) = some (.exit 0, ⟨[(0, .str s), (3, .int .i64 i), (13, .bool false)], []⟩) := by
  cases hb : s[i]? with
  | none =>
    have hlt : ¬ i < s.length := by have := List.getElem?_eq_none_iff.1 hb; omega
    simp [lc, loopsOf, Tryz.f27, stN, hlt]
    done
  | some b =>
    have hlt : i < s.length := (List.getElem?_eq_some_iff.1 hb).1
    have hx := strx_at hb
    have hc := fun d st => named_call (c := b) (d := d) (st := st)
    rw [h b hb] at hc
    simp [lc, loopsOf, Tryz.f27, stN, hlt, hx, hc]
    done
theorem name_loop : ∀ (r pre : Tx), (pre ++ r).length ≤ 1000000 → lp 27 (lc Tryz.f27 0) (stN (pre ++ r) pre.length) = some (.exit 0, ⟨[(0, .str (pre ++ r)), (3, .int .i64 ((pre.length + (nameB r).length : Nat) : Int)), (13, .bool false)], []⟩)
  | [], pre, h => loop_out (name_stop _ h _ (fun b hb => by simp at hb)) (by simp)
  | b :: r, pre, h => by
    have hb : (pre ++ b :: r)[pre.length]? = some b := by simp
    by_cases hn : namedB b = true
    · have e : pre ++ b :: r = (pre ++ [b]) ++ r := by simp
      have h2 := name_loop r (pre ++ [b]) (by rw [← e]; exact h)
      have h1 := name_round _ h _ b hb hn
      rw [List.length_append, ← e] at h2
      have := loop_next h1 h2
      rw [this]
      simp [nameB, hn]
      omega
    · have := loop_out (name_stop _ h pre.length (fun b' hb' => by rw [hb] at hb'; cases hb'; simpa using hn)) (by simp)
      rw [this]
      simp [nameB, hn]
set_option maxHeartbeats 8000000 in
theorem name_eq (s : Tx) (hs : s.length ≤ 1000000) : cl 27 [.str s] [] = some (.ret (.str (nameB s)), []) := by
  have h := name_loop s [] hs
  have hle : (nameB s).length ≤ s.length := List.Sublist.length_le (List.takeWhile_sublist _)
  have ht : s.take (nameB s).length = nameB s := (List.prefix_iff_eq_take.1 (List.takeWhile_prefix _)).symm
  simp [lc, loopsOf, Tryz.f27, stN] at h
  refine fn_intro Tryz.func27 rfl (by simp) (by decide) rfl ?_
  simp [Tryz.f27, h, hle, ht]
  exact end_is (.inr rfl) (by simp; rfl) rfl (by simp [ht])
theorem name_call {s : Tx} (hs : s.length ≤ 1000000) {d : Option Nat} {st : ASt} : callV G cl d (.fn (.func 27) [] []) [.str s] st = some (.val (.str (nameB s)) st) := callV_ret E27 (by decide) ext27 rfl rfl (name_eq s hs) rfl
end Go.Proofs.YtbjphckpbkacaaaGreatDoor


/- What the functions come to: a Builder; a step's text; path.Show. -/
namespace Go.Proofs.YtbjphckpbkacaaaGreatDoor
open Go Abs
set_option linter.unusedSimpArgs false
set_option linter.unusedVariables false
def bysL' (l : List UInt8) : List AV := l.map bV
@[simp] theorem bysL'_length {l : List UInt8} : (bysL' l).length = l.length := by simp [bysL']
theorem bysL'_snoc {l : List UInt8} {b : UInt8} : bysL' (l ++ [b]) = bysL' l ++ [.int .u8 b.toNat] := by simp [bysL', bV]
theorem bysL'_app {l m : List UInt8} : bysL' (l ++ m) = bysL' l ++ List.map (fun b : UInt8 => AV.int .u8 b.toNat) m := by simp [bysL', bV]
@[simp] theorem bysL'_nil : bysL' [] = [] := rfl
def adr : Bool → Nat → AV
  | true, i => .ptr i 0 0
  | false, _ => .nilp
def sBox (p : Bool) (i k : Nat) : AObj := .box 73 (.agg [adr p i, .own k])
def sRow (bs : List UInt8) (mv : Bool) : AObj := .row 1 (bysL' bs) false ⟨mv, 5⟩
def hpY (p : Bool) (bs : List UInt8) (mv : Bool) : Heap := [(0, sBox p 0 1), (1, sRow bs mv)]
attribute [local simp] canonK canonAll canonSlot canonCell canonBox ownStep restrictTo pureCells pureRows reachL AObj.names List.range_succ appendA
@[simp] theorem noesc' {d v st} : callV G cl d (.fn (.func 82) [] []) [v] st = some (.val v st) := rfl
set_option maxHeartbeats 8000000 in
set_option maxRecDepth 100000 in
theorem copyCheck_b (p : Bool) (bs : List UInt8) : cl 57 [.ptr 0 0 0] (hpY p bs false) = some (.ret (.tup []), hpY true bs false) := by
  refine fn_intro Tryz.func57 rfl (by simp) (by decide) rfl ?_
  cases p
  · simp [Tryz.f57, hpY, sBox, adr, sRow]
    rfl
  · simp [Tryz.f57, hpY, sBox, adr, sRow]
    rfl
/-- A value that hangs on no memory. -/
structure Plain' (x : AV) : Prop where
  rv : ∀ hp, x.rv hp = x
  names : x.names = []
  rows : x.rows = []
  ren : ∀ m, x.ren m = x
theorem plains' {g : FuncId} {rest : List AV} (h : ∀ x ∈ rest, Plain' x) : (∀ hp j, prepL G g hp rest j = rest) ∧ (∀ j, prepRows G g rest j = []) ∧ AV.namesL rest = [] ∧ ∀ m, AV.renL m rest = rest := by
  induction rest with
  | nil => exact ⟨fun _ _ => rfl, fun _ => rfl, rfl, fun _ => rfl⟩
  | cons a r ih =>
    obtain ⟨h1, h2, h3, h4⟩ := ih fun x hx => h x (List.mem_cons_of_mem _ hx)
    have ha := h a (by simp)
    refine ⟨fun hp j => ?_, fun j => ?_, ?_, fun m => ?_⟩
    · simp [prepL, h1, ha.rv]
    · simp [prepRows, h2, ha.rows]
    · simp [AV.namesL, h3, ha.names]
    · simp [AV.renL, h4, ha.ren]
theorem aget_mapv' {f : AObj → AObj} {hp : Heap} {n : Nat} : aget (hp.map fun p => (p.1, f p.2)) n = (aget hp n).map f := by
  induction hp with
  | nil => rfl
  | cons a r ih => obtain ⟨a1, a2⟩ := a; simp only [List.map_cons, aget_cons', ih]; split <;> rfl
theorem callY {g : FuncId} {i k : Nat} {d : Option Nat} {p p' : Bool} {bs bs' : List UInt8} {mv mv' : Bool} {rest : List AV} {v : AV} {sl : Slots} {hp : Heap} (hE : G.E g = true) (hg : g < RB) (hx : G.ext g = none) (hik : i ≠ k) (hrest : ∀ x ∈ rest, Plain' x) (hv : Plain' v)
    (h0 : aget hp i = some (sBox p i k)) (h1 : aget hp k = some (sRow bs mv)) (hc : cl g (.ptr 0 0 0 :: rest) (hpY p bs false) = some (.ret v, hpY p' bs' mv')) :
    callV G cl d (.fn (.func g) [] []) (.ptr i 0 0 :: rest) ⟨sl, hp⟩ =
      some (.val v ⟨if mv' then sl.map (fun p => (p.1, p.2.kill k)) else sl, [(i, sBox p' i k), (k, sRow bs' (mv' || mv))] ++ (if mv' then hp.map (fun p => (p.1, p.2.kill k)) else hp)⟩) := by
  obtain ⟨p1, p2, p3, p4⟩ := plains' (g := g) hrest
  have hki : k ≠ i := fun e => hik e.symm
  have hkl : aget (hp.map fun p => (p.1, p.2.kill k)) k = some (sRow bs mv) := by rw [aget_mapv', h1]; rfl
  refine callV_of (pre := .ptr i 0 0 :: rest) (st1 := ⟨sl, hp⟩) (ns := [i, k]) (y := (.ret v, hpY p' bs' mv')) (st3 := ⟨if mv' then sl.map (fun p => (p.1, p.2.kill k)) else sl, [(i, sBox p' i k), (k, sRow bs' (mv' || mv))] ++ (if mv' then hp.map (fun p => (p.1, p.2.kill k)) else hp)⟩) hE hg hx ?_ ?_ ?_ ?_ ?_ ?_ ?_
  · simp [prepL, p1]
  · simp [prepRows, p2, ASt.fix, hfix]
  · cases p <;> simp [AV.namesL, p3, reachL, h0, h1, sBox, adr, sRow, hik, hki]
  · simp [h0, h1]
  · cases p <;> simp [AV.renL, p4, subHeap, zipIx, toMap, h0, h1, sBox, adr, sRow, hik, hki, AObj.unmv] <;> exact hc
  · cases p' <;> cases mv' <;> simp [afterCall, afterHeap, zipIx, movedOf, killAll, backMap, backName, hpY, sBox, adr, sRow, AObj.moved, AObj.isRow, AObj.ormv, h0, h1, hik, hki, hkl, ASt.killn]
  · simp [answered, hv.ren]
theorem copy_B {i k d p bs mv sl hp} (hik : i ≠ k) (h0 : aget hp i = some (sBox p i k)) (h1 : aget hp k = some (sRow bs mv)) : callV G cl d (.fn (.func 57) [] []) [.ptr i 0 0] ⟨sl, hp⟩ = some (.val (.tup []) ⟨sl, [(i, sBox true i k), (k, sRow bs mv)] ++ hp⟩) := by
  have := callY (d := d) (sl := sl) (g := 57) (rest := []) rfl (by decide) rfl hik (by simp) ⟨fun _ => rfl, rfl, rfl, fun _ => rfl⟩ h0 h1 (copyCheck_b p bs)
  simpa using this
set_option maxHeartbeats 8000000 in
set_option maxRecDepth 100000 in
theorem writeByte_b (p : Bool) (bs : List UInt8) (b : UInt8) (hb : bs.length ≤ 4000000) : cl 32 [.ptr 0 0 0, .int .u8 b.toNat] (hpY p bs false) = some (.ret .nili, hpY true (bs ++ [b]) true) := by
  refine fn_intro Tryz.func32 rfl (by simp) (by decide) rfl ?_
  have hL : bs.length + 1 ≤ LIM := by unfold LIM; omega
  have h := fun d sl => copy_B (d := d) (p := p) (bs := bs) (mv := false) (sl := sl) (hp := hpY p bs false) (i := 0) (k := 1) (by decide) rfl rfl
  cases p <;> simp only [hpY, sBox, adr, sRow] at h <;> simp [Tryz.f32, hpY, sBox, adr, sRow, h, hL, bysL'_snoc] <;> rfl
set_option maxHeartbeats 8000000 in
set_option maxRecDepth 100000 in
theorem writeString_b (p : Bool) (bs t : List UInt8) (hb : bs.length + t.length ≤ 4000000) : cl 33 [.ptr 0 0 0, .str t] (hpY p bs false) = some (.ret (.tup [.int .i64 t.length, .nili]), hpY true (bs ++ t) true) := by
  refine fn_intro Tryz.func33 rfl (by simp) (by decide) rfl ?_
  have hL : bs.length + t.length ≤ LIM := by unfold LIM; omega
  have h := fun d sl => copy_B (d := d) (p := p) (bs := bs) (mv := false) (sl := sl) (hp := hpY p bs false) (i := 0) (k := 1) (by decide) rfl rfl
  cases p <;> simp only [hpY, sBox, adr, sRow] at h <;> simp [Tryz.f33, hpY, sBox, adr, sRow, h, hL, bysL'_app] <;> rfl
set_option maxHeartbeats 8000000 in
set_option maxRecDepth 100000 in
theorem len_b (p : Bool) (bs : List UInt8) : cl 34 [.ptr 0 0 0] (hpY p bs false) = some (.ret (.int .i64 bs.length), hpY p bs false) := by
  refine fn_intro Tryz.func34 rfl (by simp) (by decide) rfl ?_
  cases p <;> simp [Tryz.f34, hpY, sBox, adr, sRow] <;> rfl
theorem string_b (p : Bool) (bs : List UInt8) (hb : bs.length ≤ 4000000) : cl 35 [.ptr 0 0 0] (hpY p bs false) = some (.ret (.str bs), [(0, .box 73 (.agg [adr p 0, .undef])), (1, sRow [] true)]) := by
  refine call_prim (p := strP 5) (by decide) (by rfl) ?_
  have hL : bs.length ≤ LIM := by unfold LIM; omega
  have h := bytesR_map bs
  simp only [bysL', hpY, sBox, sRow]
  cases p <;> simp [strP, cellAt, AV.cells, hL, h, ASt.killn, hput, hmod, adr]
section
variable {i k : Nat} {d : Option Nat} {p : Bool} {bs : List UInt8} {mv : Bool} {sl : Slots} {hp : Heap}
theorem byte_B {b : UInt8} (hb : bs.length ≤ 4000000) (hik : i ≠ k) (h0 : aget hp i = some (sBox p i k)) (h1 : aget hp k = some (sRow bs mv)) : callV G cl d (.fn (.func 32) [] []) [.ptr i 0 0, .int .u8 b.toNat] ⟨sl, hp⟩ =
    some (.val .nili ⟨sl.map (fun p => (p.1, p.2.kill k)), [(i, sBox true i k), (k, sRow (bs ++ [b]) true)] ++ hp.map (fun p => (p.1, p.2.kill k))⟩) := by
  have := callY (d := d) (sl := sl) (g := 32) (rest := [.int .u8 b.toNat]) rfl (by decide) rfl hik (by simpa using (⟨fun _ => rfl, rfl, rfl, fun _ => rfl⟩ : Plain' _)) ⟨fun _ => rfl, rfl, rfl, fun _ => rfl⟩ h0 h1 (writeByte_b p bs b hb)
  simpa using this
theorem string_B {t : List UInt8} (hb : bs.length + t.length ≤ 4000000) (hik : i ≠ k) (h0 : aget hp i = some (sBox p i k)) (h1 : aget hp k = some (sRow bs mv)) : callV G cl d (.fn (.func 33) [] []) [.ptr i 0 0, .str t] ⟨sl, hp⟩ =
    some (.val (.tup [.int .i64 t.length, .nili]) ⟨sl.map (fun p => (p.1, p.2.kill k)), [(i, sBox true i k), (k, sRow (bs ++ t) true)] ++ hp.map (fun p => (p.1, p.2.kill k))⟩) := by
  have := callY (d := d) (sl := sl) (g := 33) (rest := [.str t]) rfl (by decide) rfl hik (by simpa using (⟨fun _ => rfl, rfl, rfl, fun _ => rfl⟩ : Plain' _)) ⟨fun _ => rfl, rfl, rfl, fun _ => rfl⟩ h0 h1 (writeString_b p bs t hb)
  simpa using this
theorem len_B (hik : i ≠ k) (h0 : aget hp i = some (sBox p i k)) (h1 : aget hp k = some (sRow bs mv)) : callV G cl d (.fn (.func 34) [] []) [.ptr i 0 0] ⟨sl, hp⟩ =
    some (.val (.int .i64 bs.length) ⟨sl, [(i, sBox p i k), (k, sRow bs mv)] ++ hp⟩) := by
  have := callY (d := d) (sl := sl) (g := 34) (rest := []) rfl (by decide) rfl hik (by simp) ⟨fun _ => rfl, rfl, rfl, fun _ => rfl⟩ h0 h1 (len_b p bs)
  simpa using this
theorem text_B (hb : bs.length ≤ 4000000) (hik : i ≠ k) (h0 : aget hp i = some (sBox p i k)) (h1 : aget hp k = some (sRow bs mv)) :
    callV G cl d (.fn (.func 35) [] []) [.ptr i 0 0] ⟨sl, hp⟩ = some (.val (.str bs) ⟨sl.map (fun p => (p.1, p.2.kill k)), [(i, .box 73 (.agg [adr p i, .undef])), (k, sRow [] true)] ++ hp.map (fun p => (p.1, p.2.kill k))⟩) := by
  have hki : k ≠ i := fun e => hik e.symm
  have hkl : aget (hp.map fun p => (p.1, p.2.kill k)) k = some (sRow bs mv) := by rw [aget_mapv', h1]; rfl
  refine callV_of (pre := [.ptr i 0 0]) (st1 := ⟨sl, hp⟩) (ns := [i, k]) (y := (.ret (.str bs), [(0, .box 73 (.agg [adr p 0, .undef])), (1, sRow [] true)])) (st3 := ⟨sl.map (fun p => (p.1, p.2.kill k)), [(i, .box 73 (.agg [adr p i, .undef])), (k, sRow [] true)] ++ hp.map (fun p => (p.1, p.2.kill k))⟩) E35 (by decide) rfl ?_ ?_ ?_ ?_ ?_ ?_ ?_
  · simp [prepL]
  · simp [prepRows, ASt.fix, hfix]
  · cases p <;> simp [AV.namesL, reachL, h0, h1, sBox, adr, sRow, hik, hki]
  · simp [h0, h1]
  · cases p <;> simp [AV.renL, subHeap, zipIx, toMap, h0, h1, sBox, adr, sRow, hik, hki, AObj.unmv]
    · exact string_b false bs hb
    · exact string_b true bs hb
  · cases p <;> simp [afterCall, afterHeap, zipIx, movedOf, killAll, backMap, backName, sBox, adr, sRow, AObj.moved, AObj.isRow, AObj.ormv, h0, h1, hik, hki, hkl, ASt.killn]
  · simp [answered]
end
end Go.Proofs.YtbjphckpbkacaaaGreatDoor


/- What the functions come to: a step's text; path.Show. -/
namespace Go.Proofs.YtbjphckpbkacaaaGreatDoor
open Go Abs
set_option linter.unusedSimpArgs false
set_option linter.unusedVariables false
attribute [local simp] canonK canonAll canonSlot canonCell canonBox ownStep restrictTo pureCells pureRows reachL AObj.names List.range_succ appendA
attribute [simp] Tryz.stoodInHeld43 Tryz.eqGuardType43 Tryz.stoodInHeld68 Tryz.eqGuardType68
abbrev Sp := Tx × Int
def stV (x : Sp) : AV := .agg [.str x.1, .int .i64 x.2]
def stps (l : List Sp) : AV := .list 2 (l.map stV)
set_option maxHeartbeats 8000000 in
theorem key_eq (k : Tx) : cl 28 [.str k] [] = some (.ret (.agg [.str k, .int .i64 (-1)]), []) := by
  refine fn_intro Tryz.func28 rfl (by simp) (by decide) rfl ?_
  simp [Tryz.f28]
  exact end_is (.inr rfl) (by simp [resL, resv, objCells, partT]; rfl) rfl rfl
theorem key_call {k : Tx} {d : Option Nat} {st : ASt} : callV G cl d (.fn (.func 28) [] []) [.str k] st = some (.val (.agg [.str k, .int .i64 (-1)]) st) := callV_ret E28 (by decide) ext28 rfl rfl (key_eq k) rfl
set_option maxHeartbeats 8000000 in
theorem place_eq (n : Int) : cl 26 [.int .i64 n] [] = some (.ret (.agg [.str [], .int .i64 n]), []) := by
  refine fn_intro Tryz.func26 rfl (by simp) (by decide) rfl ?_
  simp [Tryz.f26]
  exact end_is (.inr rfl) (by simp [resL, resv, objCells, partT]; rfl) rfl rfl
theorem place_call {n : Int} {d : Option Nat} {st : ASt} : callV G cl d (.fn (.func 26) [] []) [.int .i64 n] st = some (.val (.agg [.str [], .int .i64 n]) st) := callV_ret E26 (by decide) ext26 rfl rfl (place_eq n) rfl
theorem fmt_call {n : Nat} (h : n < 1000) {d : Option Nat} {st : ASt} : callV G cl d (.fn (.func 81) [] []) [.int .i64 n, .int .i64 10] st = some (.val (.str (digs n)) st) := by
  refine callV_ret E81 (by decide) ext81 rfl rfl (call_prim (p := fmtP) (by decide) (by rfl) ?_) rfl
  have h1 : 0 ≤ (n : Int) ∧ (n : Int) < 1000 ∧ (10 : Int) = 10 := ⟨by omega, by omega, rfl⟩
  show (if 0 ≤ (n : Int) ∧ (n : Int) < 1000 ∧ (10 : Int) = 10 then some (ARes.ret (AV.str (digs (n : Int).toNat)), ([] : Heap)) else none) = _
  rw [if_pos h1]
  simp
theorem itoa55 (n : Nat) (h : n < 1000) : cl 55 [.int .i64 n] [] = some (.ret (.str (digs n)), []) := by
  have hc := fun d st => fmt_call h (d := d) (st := st)
  refine fn_intro Tryz.func55 rfl (by simp) (by decide) rfl ?_
  simp [Tryz.f55, hc]
  exact end_is (.inr rfl) (by simp; rfl) rfl rfl
theorem itoa25 (n : Nat) (h : n < 1000) : cl 25 [.int .i64 n] [] = some (.ret (.str (digs n)), []) := by
  have hc : ∀ d st, callV G cl d (.fn (.func 55) [] []) [.int .i64 n] st = some (.val (.str (digs n)) st) := fun d st => callV_ret E55 (by decide) ext55 rfl rfl (itoa55 n h) rfl
  refine fn_intro Tryz.func25 rfl (by simp) (by decide) rfl ?_
  simp [Tryz.f25, hc]
  exact end_is (.inr rfl) (by simp; rfl) rfl rfl
theorem itoa_call {n : Nat} (h : n < 1000) {d : Option Nat} {st : ASt} : callV G cl d (.fn (.func 25) [] []) [.int .i64 n] st = some (.val (.str (digs n)) st) := callV_ret E25 (by decide) ext25 rfl rfl (itoa25 n h) rfl

/-- A step's text, if it is one. -/
def textB (x : Sp) : Option Tx :=
  if x.1 = [] ∧ 0 ≤ x.2 ∧ x.2 ≤ 999 then some (91 :: (digs x.2.toNat ++ [93])) else if x.2 = -1 ∧ x.1 ≠ [] ∧ nameB x.1 = x.1 then some x.1 else none
def textV (x : Sp) : AV := match textB x with
  | some t => .tup [.str t, .bool true]
  | none => .tup [.str [], .bool false]
theorem textV_names {x} : (textV x).names = [] := by unfold textV; split <;> rfl
set_option maxHeartbeats 16000000 in
set_option maxRecDepth 100000 in
theorem text_eq (x : Sp) (hx : x.1.length ≤ 1000000) : cl 31 [stV x] [] = some (.ret (textV x), []) := by
  obtain ⟨k, n⟩ := x
  have hp := fun n d st => place_call (n := n) (d := d) (st := st)
  have hk := fun d st => key_call (k := k) (d := d) (st := st)
  have hn := fun d st => name_call (s := k) hx (d := d) (st := st)
  refine fn_intro Tryz.func31 rfl (by simp) (by decide) rfl ?_
  unfold textV textB
  by_cases h1 : k = []
  · subst h1
    by_cases h2 : 0 ≤ n
    · by_cases h3 : n ≤ 999
      · obtain ⟨m, rfl⟩ := Int.eq_ofNat_of_zero_le h2
        have hi := fun d st => itoa_call (n := m) (by omega) (d := d) (st := st)
        have hL : 1 + (digs m).length ≤ LIM := by
          have : (digs m).length ≤ 3 := by unfold digs; split <;> (try split) <;> simp
          unfold LIM; omega
        have hL2 : (digs m).length + 1 + 1 ≤ LIM := by
          have : (digs m).length ≤ 3 := by unfold digs; split <;> (try split) <;> simp
          unfold LIM; omega
        simp [Tryz.f31, stV, hp, hk, h3, hi, hL, hL2]
        exact end_is (.inr rfl) (by simp; rfl) rfl (by simp)
      · have h4 : ¬ n = -1 := by omega
        simp [Tryz.f31, stV, hp, hk, h2, h3, h4]
        exact end_is (.inr rfl) (by simp; rfl) rfl (by simp)
    · by_cases h4 : n = -1
      · subst h4
        simp [Tryz.f31, stV, hp, hk]
        exact end_is (.inr rfl) (by simp; rfl) rfl (by simp)
      · simp [Tryz.f31, stV, hp, hk, h2, h4]
        exact end_is (.inr rfl) (by simp; rfl) rfl (by simp)
  · by_cases h4 : n = -1
    · subst h4
      by_cases h5 : nameB k = k
      · simp [Tryz.f31, stV, hp, hk, hn, h1, h5]
        exact end_is (.inr rfl) (by simp; rfl) rfl (by simp)
      · simp [Tryz.f31, stV, hp, hk, hn, h1, h5]
        exact end_is (.inr rfl) (by simp; rfl) rfl (by simp)
    · simp [Tryz.f31, stV, hp, hk, h1, h4]
      exact end_is (.inr rfl) (by simp; rfl) rfl (by simp)
theorem text_call {x : Sp} (hx : x.1.length ≤ 1000000) {d : Option Nat} {st : ASt} : callV G cl d (.fn (.func 31) [] []) [stV x] st = some (.val (textV x) st) := callV_ret E31 (by decide) ext31 rfl rfl (text_eq x hx) textV_names

/-! Show -/
/-- The text of steps, behind one of some bytes, if it is one. -/
def showB : List Sp → Bool → Tx → Option Tx
  | [], _, bs => some bs
  | x :: l, first, bs => match textB x with
    | none => none
    | some t => if 120 < ((if first = false ∧ x.2 < 0 then bs ++ [46] else bs) ++ t).length then none else showB l false ((if first = false ∧ x.2 < 0 then bs ++ [46] else bs) ++ t)
def stS (l : List Sp) (p : Bool) (bs : Tx) (mv : Bool) (i : Nat) : ASt := ⟨[(4, .ptr 1004 0 0), (9, stps l), (10, .int .i64 l.length), (11, .int .i64 i)], [(1004, sBox p 1004 200401), (200401, sRow bs mv)]⟩
set_option maxHeartbeats 16000000 in
set_option maxRecDepth 100000 in
theorem show_round (l : List Sp) (hl : l.length ≤ 1000000) (p : Bool) (bs : Tx) (hb : bs.length ≤ 1000000) (mv : Bool) (i : Nat) (x : Sp) (hi : l[i]? = some x) (hx : x.1.length ≤ 1000000) (t : Tx) (ht : textB x = some t) (hlen : ¬ 120 < ((if i ≠ 0 ∧ x.2 < 0 then bs ++ [46] else bs) ++ t).length) :
    rX 10 (lc Tryz.f10 0) (codeX G cl lp 10 (lc Tryz.f10 0) (stS l p bs mv i)) = some (.normal, stS l true ((if i ≠ 0 ∧ x.2 < 0 then bs ++ [46] else bs) ++ t) true (i + 1)) := by
  have hlt : i < l.length := (List.getElem?_eq_some_iff.1 hi).1
  have hw : IntKind.i64.wrap ((i : Int) + 1) = ((i + 1 : Nat) : Int) := by rw [i64_wrap (by omega) (by omega)]; omega
  obtain ⟨k, n⟩ := x
  have he : l[i] = (k, n) := (List.getElem?_eq_some_iff.1 hi).2
  have htx := fun d st => text_call (x := (k, n)) hx (d := d) (st := st)
  have htv : textV (k, n) = .tup [.str t, .bool true] := by unfold textV; rw [ht]
  rw [htv] at htx
  simp only [stV] at htx
  have hT : t.length ≤ 1000010 := by
    unfold textB at ht
    split at ht
    · cases ht
      have : (digs n.toNat).length ≤ 3 := by unfold digs; split <;> (try split) <;> simp
      simp; omega
    · split at ht
      · cases ht; exact Nat.le_trans hx (by omega)
      · cases ht
  by_cases h0 : i ≠ 0 ∧ n < 0
  · rw [if_pos h0] at hlen ⊢
    have h1 : (0 : Int) < i := by omega
    have h2 : n < 0 := h0.2
    have h1n : 0 < i := by omega
    have hbb := fun d sl hp h0 h1 => byte_B (i := 1004) (k := 200401) (b := 46) (d := d) (p := p) (bs := bs) (mv := mv) (sl := sl) (hp := hp) (by omega) (by decide) h0 h1
    have hsb := fun d sl hp h0 h1 => string_B (i := 1004) (k := 200401) (t := t) (d := d) (p := true) (bs := bs ++ [46]) (mv := true) (sl := sl) (hp := hp) (by simp; omega) (by decide) h0 h1
    have hln := fun d sl hp h0 h1 => len_B (i := 1004) (k := 200401) (d := d) (p := true) (bs := bs ++ [46] ++ t) (mv := true) (sl := sl) (hp := hp) (by decide) h0 h1
    have h3 : ¬ 120 < ((bs ++ [46] ++ t).length : Int) := by omega
    generalize hW : bs ++ [46] ++ t = W at *
    generalize hV : bs ++ [46] = V at *
    have h46 : ((46 : UInt8).toNat : Int) = 46 := rfl
    simp only [h46] at hbb
    simp [lc, loopsOf, Tryz.f10, stS, stps, hlt, hi, he, hw, stV, htx, h1, h1n, h2, hbb, hsb, hln, h3, hW]
    simp [sBox, sRow, adr]
    done
  · rw [if_neg h0] at hlen ⊢
    have hsb := fun d sl hp h0 h1 => string_B (i := 1004) (k := 200401) (t := t) (d := d) (p := p) (bs := bs) (mv := mv) (sl := sl) (hp := hp) (by omega) (by decide) h0 h1
    have hln := fun d sl hp h0 h1 => len_B (i := 1004) (k := 200401) (d := d) (p := true) (bs := bs ++ t) (mv := true) (sl := sl) (hp := hp) (by decide) h0 h1
    have h3 : ¬ 120 < ((bs ++ t).length : Int) := by omega
    generalize hW : bs ++ t = W at *
    by_cases h1 : (0 : Int) < i
    · have h2 : ¬ n < 0 := by omega
      simp [lc, loopsOf, Tryz.f10, stS, stps, hlt, hi, he, hw, stV, htx, h1, h2, hsb, hln, h3]
      simp [sBox, sRow, adr]
      done
    · have hd : decide (0 < i) = false := by simp; omega
      simp [lc, loopsOf, Tryz.f10, stS, stps, hlt, hi, he, hw, stV, htx, hd, hsb, hln, h3]
      simp [sBox, sRow, adr]
      done
set_option maxHeartbeats 16000000 in
set_option maxRecDepth 100000 in
theorem show_end (l : List Sp) (hl : l.length ≤ 1000000) (p : Bool) (bs : Tx) (hb : bs.length ≤ 1000000) (mv : Bool) : rX 10 (lc Tryz.f10 0) (codeX G cl lp 10 (lc Tryz.f10 0) (stS l p bs mv l.length)) = some (.exit 0, ⟨[(4, .ptr 1004 0 0), (9, stps l), (10, .int .i64 l.length), (11, .int .i64 l.length), (12, .bool false)], [(1004, sBox p 1004 200401), (200401, sRow bs mv)]⟩) := by
  simp [lc, loopsOf, Tryz.f10, stS, stps]
theorem textB_len {x : Sp} {t : Tx} (hx : x.1.length ≤ 1000000) (ht : textB x = some t) : t.length ≤ 1000010 := by
  unfold textB at ht
  split at ht
  · cases ht
    have : (digs x.2.toNat).length ≤ 3 := by unfold digs; split <;> (try split) <;> simp
    simp; omega
  · split at ht
    · cases ht; exact Nat.le_trans hx (by omega)
    · cases ht
set_option maxHeartbeats 32000000 in
set_option maxRecDepth 100000 in
/-- A step that is none, or a text that is too long. -/
theorem show_bad (l : List Sp) (hl : l.length ≤ 1000000) (p : Bool) (bs : Tx) (hb : bs.length ≤ 1000000) (mv : Bool) (i : Nat) (x : Sp) (hi : l[i]? = some x) (hx : x.1.length ≤ 1000000)
    (hbad : ∀ t, textB x = some t → 120 < ((if i ≠ 0 ∧ x.2 < 0 then bs ++ [46] else bs) ++ t).length) :
    ∃ hp, rX 10 (lc Tryz.f10 0) (codeX G cl lp 10 (lc Tryz.f10 0) (stS l p bs mv i)) = some (.ret, ⟨[(2, .str []), (3, .int .i64 9)], hp⟩) := by
  have hlt : i < l.length := (List.getElem?_eq_some_iff.1 hi).1
  obtain ⟨k, n⟩ := x
  have he : l[i] = (k, n) := (List.getElem?_eq_some_iff.1 hi).2
  have htx := fun d st => text_call (x := (k, n)) hx (d := d) (st := st)
  obtain ⟨t, ok, htv, hT, hlong⟩ : ∃ t ok, textV (k, n) = .tup [.str t, .bool ok] ∧ t.length ≤ 1000010 ∧ (ok = true → 120 < ((if i ≠ 0 ∧ n < 0 then bs ++ [46] else bs) ++ t).length) := by
    unfold textV
    cases h : textB (k, n) with
    | none => exact ⟨[], false, rfl, by simp, by simp⟩
    | some t => exact ⟨t, true, rfl, textB_len hx h, fun _ => hbad t h⟩
  rw [htv] at htx
  simp only [stV] at htx
  have hbb := fun d sl hp h0 h1 => byte_B (i := 1004) (k := 200401) (b := 46) (d := d) (p := p) (bs := bs) (mv := mv) (sl := sl) (hp := hp) (by omega) (by decide) h0 h1
  have h46 : ((46 : UInt8).toNat : Int) = 46 := rfl
  simp only [h46] at hbb
  by_cases h0 : i ≠ 0 ∧ n < 0
  · rw [if_pos h0] at hlong
    have h1 : (0 : Int) < i := by omega
    have h2 : n < 0 := h0.2
    have h1n : 0 < i := by omega
    have hsb := fun d sl hp h0 h1 => string_B (i := 1004) (k := 200401) (t := t) (d := d) (p := true) (bs := bs ++ [46]) (mv := true) (sl := sl) (hp := hp) (by simp; omega) (by decide) h0 h1
    have hln := fun d sl hp h0 h1 => len_B (i := 1004) (k := 200401) (d := d) (p := true) (bs := bs ++ [46] ++ t) (mv := true) (sl := sl) (hp := hp) (by decide) h0 h1
    generalize hW : bs ++ [46] ++ t = W at *
    generalize hV : bs ++ [46] = V at *
    by_cases h3 : 120 < (W.length : Int)
    · generalize hs : rX 10 (lc Tryz.f10 0) (codeX G cl lp 10 (lc Tryz.f10 0) (stS l p bs mv i)) = r
      simp [lc, loopsOf, Tryz.f10, stS, stps, hlt, hi, he, stV, htx, h1, h1n, h2, hbb, hsb, hln, h3, hW] at hs
      subst hs
      exact ⟨_, rfl⟩
    · have hok : ok = false := by cases ok; rfl; exact absurd (hlong rfl) (by omega)
      subst hok
      generalize hs : rX 10 (lc Tryz.f10 0) (codeX G cl lp 10 (lc Tryz.f10 0) (stS l p bs mv i)) = r
      simp [lc, loopsOf, Tryz.f10, stS, stps, hlt, hi, he, stV, htx, h1, h1n, h2, hbb, hsb, hln, h3, hW] at hs
      subst hs
      exact ⟨_, rfl⟩
  · rw [if_neg h0] at hlong
    have hsb := fun d sl hp h0 h1 => string_B (i := 1004) (k := 200401) (t := t) (d := d) (p := p) (bs := bs) (mv := mv) (sl := sl) (hp := hp) (by omega) (by decide) h0 h1
    have hln := fun d sl hp h0 h1 => len_B (i := 1004) (k := 200401) (d := d) (p := true) (bs := bs ++ t) (mv := true) (sl := sl) (hp := hp) (by decide) h0 h1
    generalize hW : bs ++ t = W at *
    by_cases h3 : 120 < (W.length : Int)
    · by_cases h1 : (0 : Int) < i
      · have h2 : ¬ n < 0 := by omega
        generalize hs : rX 10 (lc Tryz.f10 0) (codeX G cl lp 10 (lc Tryz.f10 0) (stS l p bs mv i)) = r
        simp [lc, loopsOf, Tryz.f10, stS, stps, hlt, hi, he, stV, htx, h1, h2, hsb, hln, h3] at hs
        subst hs
        exact ⟨_, rfl⟩
      · have hd : decide (0 < i) = false := by simp; omega
        generalize hs : rX 10 (lc Tryz.f10 0) (codeX G cl lp 10 (lc Tryz.f10 0) (stS l p bs mv i)) = r
        simp [lc, loopsOf, Tryz.f10, stS, stps, hlt, hi, he, stV, htx, hd, hsb, hln, h3] at hs
        subst hs
        exact ⟨_, rfl⟩
    · have hok : ok = false := by cases ok; rfl; exact absurd (hlong rfl) (by omega)
      subst hok
      by_cases h1 : (0 : Int) < i
      · have h2 : ¬ n < 0 := by omega
        generalize hs : rX 10 (lc Tryz.f10 0) (codeX G cl lp 10 (lc Tryz.f10 0) (stS l p bs mv i)) = r
        simp [lc, loopsOf, Tryz.f10, stS, stps, hlt, hi, he, stV, htx, h1, h2, hsb, hln, h3] at hs
        subst hs
        exact ⟨_, rfl⟩
      · have hd : decide (0 < i) = false := by simp; omega
        generalize hs : rX 10 (lc Tryz.f10 0) (codeX G cl lp 10 (lc Tryz.f10 0) (stS l p bs mv i)) = r
        simp [lc, loopsOf, Tryz.f10, stS, stps, hlt, hi, he, stV, htx, hd, hsb, hln, h3] at hs
        subst hs
        exact ⟨_, rfl⟩
def showV : Option Tx → AV
  | some t => .tup [.str t, .int .i64 0]
  | none => .tup [.str [], .int .i64 9]
theorem show_loop (l : List Sp) (hl : l.length ≤ 1000000) (hk : ∀ x ∈ l, x.1.length ≤ 1000000) : ∀ (r pre : List Sp) (p : Bool) (bs : Tx) (mv : Bool), l = pre ++ r → bs.length ≤ 120 →
    (∃ hp, lp 10 (lc Tryz.f10 0) (stS l p bs mv pre.length) = some (.ret, ⟨[(2, .str []), (3, .int .i64 9)], hp⟩) ∧ showB r (decide (pre.length = 0)) bs = none) ∨
    (∃ p' mv' t, lp 10 (lc Tryz.f10 0) (stS l p bs mv pre.length) = some (.exit 0, ⟨[(4, .ptr 1004 0 0), (9, stps l), (10, .int .i64 l.length), (11, .int .i64 l.length), (12, .bool false)], [(1004, sBox p' 1004 200401), (200401, sRow t mv')]⟩) ∧ showB r (decide (pre.length = 0)) bs = some t ∧ t.length ≤ 120)
  | [], pre, p, bs, mv, e, hb => by
    have : pre.length = l.length := by rw [e]; simp
    rw [this]
    exact .inr ⟨p, mv, bs, loop_out (show_end l hl p bs (by omega) mv) (by simp), rfl, hb⟩
  | x :: r, pre, p, bs, mv, e, hb => by
    have hi : l[pre.length]? = some x := by rw [e]; simp
    have hx := hk x (List.mem_of_getElem? hi)
    have e2 : l = (pre ++ [x]) ++ r := by rw [e]; simp
    have hcond : (if decide (pre.length = 0) = false ∧ x.2 < 0 then bs ++ [46] else bs) = (if pre.length ≠ 0 ∧ x.2 < 0 then bs ++ [46] else bs) := by simp
    unfold showB
    rw [hcond]
    cases ht : textB x with
    | none =>
      obtain ⟨hp, h⟩ := show_bad l hl p bs (by omega) mv pre.length x hi hx (fun t h => by rw [ht] at h; cases h)
      exact .inl ⟨hp, loop_out h (by simp), rfl⟩
    | some t =>
      by_cases hlen : 120 < ((if pre.length ≠ 0 ∧ x.2 < 0 then bs ++ [46] else bs) ++ t).length
      · obtain ⟨hp, h⟩ := show_bad l hl p bs (by omega) mv pre.length x hi hx (fun t' h => by rw [ht] at h; cases h; exact hlen)
        refine .inl ⟨hp, loop_out h (by simp), ?_⟩
        simp only [if_pos hlen]
      · have h1 := show_round l hl p bs (by omega) mv pre.length x hi hx t ht hlen
        have h2 := show_loop l hl hk r (pre ++ [x]) true _ true e2 (Nat.le_of_not_lt hlen)
        rw [List.length_append, show pre.length + [x].length = pre.length + 1 from rfl] at h2
        simp only [if_neg hlen]
        have hd : decide (pre.length + 1 = 0) = false := by simp
        rw [hd] at h2
        rcases h2 with ⟨hp, h2, h3⟩ | ⟨p', mv', t', h2, h3, h4⟩
        · exact .inl ⟨hp, loop_next h1 h2, h3⟩
        · exact .inr ⟨p', mv', t', loop_next h1 h2, h3, h4⟩
set_option maxHeartbeats 16000000 in
set_option maxRecDepth 100000 in
theorem show_eq (l : List Sp) (hl : l.length ≤ 1000000) (hk : ∀ x ∈ l, x.1.length ≤ 1000000) : cl 10 [stps l] [] = some (.ret (showV (showB l true [])), []) := by
  refine fn_intro Tryz.func10 rfl (by simp) (by decide) rfl ?_
  rcases show_loop l hl hk l [] false [] false rfl (by simp) with ⟨hp, h, hs⟩ | ⟨p', mv', t, h, hs, ht⟩
  · simp at hs
    rw [hs]
    simp [lc, loopsOf, Tryz.f10, stS, stps, sBox, sRow, adr] at h
    simp [Tryz.f10, stps, h]
    exact end_is (.inr rfl) (by simp; rfl) rfl rfl
  · simp at hs
    rw [hs]
    have htb := fun d sl hp h0 h1 => text_B (i := 1004) (k := 200401) (d := d) (p := p') (bs := t) (mv := mv') (sl := sl) (hp := hp) (by omega) (by decide) h0 h1
    cases p' <;> simp [lc, loopsOf, Tryz.f10, stS, stps, sBox, sRow, adr] at h <;> simp only [sBox, sRow, adr] at htb <;> simp [Tryz.f10, stps, h, htb] <;>
      exact end_is (.inr rfl) (by simp; rfl) rfl rfl
end Go.Proofs.YtbjphckpbkacaaaGreatDoor


/- What the functions come to: path.Parse. -/
namespace Go.Proofs.YtbjphckpbkacaaaGreatDoor
open Go Abs
set_option linter.unusedSimpArgs false
set_option linter.unusedVariables false
attribute [local simp] canonK canonAll canonSlot canonCell canonBox ownStep restrictTo pureCells pureRows reachL AObj.names List.range_succ appendA
@[simp] theorem neq_nili : binO Tryz.prog .neq 60 false true .nili .nili = some (.bool false) := by kernel_rfl
@[simp] theorem bsv22 {k : Tx} {n : Int} : bsvV G 22 1 [0] [.agg [.str k, .int .i64 n]] = some (.list 2 [.agg [.str k, .int .i64 n]]) := by kernel_rfl
@[simp] theorem bsv28 {k : Tx} {n : Int} : bsvV G 28 1 [0] [.agg [.str k, .int .i64 n]] = some (.list 2 [.agg [.str k, .int .i64 n]]) := by kernel_rfl
/-- The number that digits are, in a path. -/
def numD (d : Tx) : Option Nat := match Lib.atoiAll d with
  | .ok v => if 0 ≤ v ∧ v ≤ 999 ∧ digs v.toNat = d then some v.toNat else none
  | _ => none
/-- The step that a path goes on with, and what is left. -/
def stepP (s : Tx) (any : Bool) : Option (Sp × Tx) :=
  if s.head? = some 91 then
    match cutX s.tail 93 with
    | some (d, r) => (numD d).map fun (n : Nat) => (([], (n : Int)), r)
    | none => none
  else
    if any = true ∧ ¬ s.head? = some 46 then none
    else if nameB (if any then s.tail else s) = [] then none
    else some ((nameB (if any then s.tail else s), -1), (if any then s.tail else s).drop (nameB (if any then s.tail else s)).length)
def parseB : Nat → Tx → List Sp → Option (List Sp)
  | _, [], acc => some acc
  | 0, _ :: _, _ => none
  | n + 1, s, acc => match stepP s (decide (acc ≠ [])) with
    | none => none
    | some (x, s') => parseB n s' (acc ++ [x])
theorem atoiV_names {d : Tx} : (atoiV 146 d).names = [] := by unfold atoiV; split <;> rfl
theorem atoi_call {s : Tx} (hs : s.length ≤ 1000000) {d : Option Nat} {st : ASt} : callV G cl d (.fn (.func 24) [] []) [.str s] st = some (.val (atoiV 146 s) st) := by
  refine callV_ret E24 (by decide) ext24 rfl rfl (call_prim (p := atoiP 146) (by decide) (by rfl) ?_) atoiV_names
  show (if s.length ≤ 281474976710656 then some (ARes.ret (atoiV 146 s), ([] : Heap)) else none) = _
  rw [if_pos (by omega)]
def stP (acc : List Sp) (mv : Bool) (s : Tx) : ASt := ⟨[(4, .own 5004), (5, .str s)], [(5004, .row 2 (acc.map stV) false ⟨mv, 43⟩)]⟩
set_option maxHeartbeats 32000000 in
set_option maxRecDepth 100000 in
theorem parse_place (acc : List Sp) (ha : acc.length ≤ 1000000) (mv : Bool) (r dg bh : Tx) (hs : r.length ≤ 1000000) (hc : cutX r 93 = some (dg, bh)) (n : Nat) (hn : numD dg = some n) :
    rX 8 (lc Tryz.f8 0) (codeX G cl lp 8 (lc Tryz.f8 0) (stP acc mv (91 :: r))) = some (.normal, stP (acc ++ [([], (n : Int))]) true bh) := by
  have hd : dg.length ≤ 1000000 := by have := (cutX_some hc).1; rw [this] at hs; simp at hs; omega
  have h1 := fun d st => cutPre_call (s := 91 :: r) (c := 91) (d := d) (st := st)
  have h2 := fun d st => cut_call (s := r) (c := 93) hs (d := d) (st := st)
  have h3 := fun d st => atoi_call (s := dg) hd (d := d) (st := st)
  have h4 := fun n d st => place_call (n := n) (d := d) (st := st)
  have e1 : cutP (91 :: r) 91 = .tup [.str r, .bool true] := by simp [cutP]
  have e2 : cutV r 93 = .tup [.str dg, .str bh, .bool true] := by unfold cutV; rw [hc]
  rw [e1] at h1
  rw [e2] at h2
  have hL : acc.length + 1 ≤ LIM := by unfold LIM; omega
  unfold numD at hn
  unfold atoiV at h3
  split at hn
  · rename_i v hv
    simp only [hv] at h3
    split at hn
    · rename_i hcond
      obtain ⟨c1, c2, c3⟩ := hcond
      cases hn
      obtain ⟨m, rfl⟩ := Int.eq_ofNat_of_zero_le c1
      simp only [Int.toNat_natCast] at c3 ⊢
      have h5 := fun d st => itoa_call (n := m) (by omega) (d := d) (st := st)
      rw [c3] at h5
      have m0 : ¬ (m : Int) < 0 := by omega
      have m1 : ¬ (999 : Int) < m := by omega
      simp [lc, loopsOf, Tryz.f8, stP, stV, h1, h2, h3, h4, h5, m0, m1, hL]
      done
    · cases hn
  · cases hn
set_option maxHeartbeats 32000000 in
set_option maxRecDepth 100000 in
theorem parse_noplace (acc : List Sp) (ha : acc.length ≤ 1000000) (mv : Bool) (r : Tx) (hs : r.length ≤ 1000000) (hn : ∀ dg bh, cutX r 93 = some (dg, bh) → numD dg = none) :
    ∃ hp, rX 8 (lc Tryz.f8 0) (codeX G cl lp 8 (lc Tryz.f8 0) (stP acc mv (91 :: r))) = some (.ret, ⟨[(2, .nils), (3, .int .i64 9)], hp⟩) := by
  have h1 := fun d st => cutPre_call (s := 91 :: r) (c := 91) (d := d) (st := st)
  have h2 := fun d st => cut_call (s := r) (c := 93) hs (d := d) (st := st)
  have e1 : cutP (91 :: r) 91 = .tup [.str r, .bool true] := by simp [cutP]
  rw [e1] at h1
  generalize hq : rX 8 (lc Tryz.f8 0) (codeX G cl lp 8 (lc Tryz.f8 0) (stP acc mv (91 :: r))) = q
  cases hc : cutX r 93 with
  | none =>
    have e2 : cutV r 93 = .tup [.str r, .str [], .bool false] := by unfold cutV; rw [hc]
    rw [e2] at h2
    have h3 := fun d st => atoi_call (s := r) hs (d := d) (st := st)
    unfold atoiV at h3
    cases hv : Lib.atoiAll r <;> simp only [hv] at h3 <;> simp [lc, loopsOf, Tryz.f8, stP, stV, h1, h2, h3] at hq <;> subst hq <;> exact ⟨_, rfl⟩
  | some p =>
    obtain ⟨dg, bh⟩ := p
    have hd : dg.length ≤ 1000000 := by have := (cutX_some hc).1; rw [this] at hs; simp at hs; omega
    have e2 : cutV r 93 = .tup [.str dg, .str bh, .bool true] := by unfold cutV; rw [hc]
    rw [e2] at h2
    have h3 := fun d st => atoi_call (s := dg) hd (d := d) (st := st)
    have hn := hn dg bh hc
    unfold numD at hn
    unfold atoiV at h3
    cases hv : Lib.atoiAll dg with
    | ok v =>
      simp only [hv] at h3 hn
      have hcond : ¬ (0 ≤ v ∧ v ≤ 999 ∧ digs v.toNat = dg) := fun h => by rw [if_pos h] at hn; cases hn
      by_cases c1 : 0 ≤ v
      · by_cases c2 : v ≤ 999
        · obtain ⟨m, rfl⟩ := Int.eq_ofNat_of_zero_le c1
          have h5 := fun d st => itoa_call (n := m) (by omega) (d := d) (st := st)
          have c3 : ¬ digs m = dg := fun h => hcond ⟨c1, c2, by simpa using h⟩
          have m0 : ¬ (m : Int) < 0 := by omega
          have m1 : ¬ (999 : Int) < m := by omega
          simp [lc, loopsOf, Tryz.f8, stP, stV, h1, h2, h3, h5, m0, m1, c3] at hq
          subst hq; exact ⟨_, rfl⟩
        · have m0 : ¬ v < 0 := by omega
          have m1 : (999 : Int) < v := by omega
          simp [lc, loopsOf, Tryz.f8, stP, stV, h1, h2, h3, m0, m1] at hq
          subst hq; exact ⟨_, rfl⟩
      · have m0 : v < 0 := by omega
        simp [lc, loopsOf, Tryz.f8, stP, stV, h1, h2, h3, m0] at hq
        subst hq; exact ⟨_, rfl⟩
    | _ => simp only [hv] at h3; simp [lc, loopsOf, Tryz.f8, stP, stV, h1, h2, h3] at hq; subst hq; exact ⟨_, rfl⟩
set_option maxHeartbeats 32000000 in
set_option maxRecDepth 100000 in
theorem parse_name (acc : List Sp) (ha : acc.length ≤ 1000000) (mv : Bool) (s : Tx) (hs : s.length ≤ 1000000) (h0 : s ≠ []) (h91 : ¬ s.head? = some 91) (hdot : decide (acc ≠ []) = true → s.head? = some 46)
    (hk : nameB (if decide (acc ≠ []) then s.tail else s) ≠ []) :
    rX 8 (lc Tryz.f8 0) (codeX G cl lp 8 (lc Tryz.f8 0) (stP acc mv s)) = some (.normal, stP (acc ++ [(nameB (if decide (acc ≠ []) then s.tail else s), -1)]) true ((if decide (acc ≠ []) then s.tail else s).drop (nameB (if decide (acc ≠ []) then s.tail else s)).length)) := by
  have h1 := fun d st => cutPre_call (s := s) (c := 91) (d := d) (st := st)
  have e1 : cutP s 91 = .tup [.str s, .bool false] := by unfold cutP; rw [if_neg h91]
  rw [e1] at h1
  have h2 := fun d st => cutPre_call (s := s) (c := 46) (d := d) (st := st)
  have h4 := fun k d st => key_call (k := k) (d := d) (st := st)
  have hL : acc.length + 1 ≤ LIM := by unfold LIM; omega
  by_cases hacc : acc = []
  · subst hacc
    simp only [ne_eq, not_true_eq_false, decide_false, Bool.false_eq_true, if_false] at hk ⊢
    have h3 := fun d st => name_call (s := s) hs (d := d) (st := st)
    have hle : (nameB s).length ≤ s.length := List.Sublist.length_le (List.takeWhile_sublist _)
    generalize hkk : nameB s = k at *
    have h1L : 1 ≤ LIM := by unfold LIM; omega
    simp [lc, loopsOf, Tryz.f8, stP, stV, h0, h1, h3, h4, hk, hle, h1L]
    done
  · have hpos : 0 < acc.length := List.length_pos_iff.2 hacc
    have e2 : cutP s 46 = .tup [.str s.tail, .bool true] := by unfold cutP; rw [if_pos (hdot (by simpa using hacc))]
    rw [e2] at h2
    have hd : decide (acc ≠ []) = true := by simpa using hacc
    rw [hd] at hk ⊢
    simp only [if_true] at hk ⊢
    have ht : s.tail.length ≤ 1000000 := by simp; omega
    have h3 := fun d st => name_call (s := s.tail) ht (d := d) (st := st)
    have hle : (nameB s.tail).length ≤ s.tail.length := List.Sublist.length_le (List.takeWhile_sublist _)
    generalize s.tail = u at *
    generalize hkk : nameB u = k at *
    simp [lc, loopsOf, Tryz.f8, stP, stV, h0, h1, h2, h3, h4, hk, hle, hL, hpos]
    done
set_option maxHeartbeats 32000000 in
set_option maxRecDepth 100000 in
theorem parse_noname (acc : List Sp) (ha : acc.length ≤ 1000000) (mv : Bool) (s : Tx) (hs : s.length ≤ 1000000) (h0 : s ≠ []) (h91 : ¬ s.head? = some 91)
    (hk : (decide (acc ≠ []) = true ∧ ¬ s.head? = some 46) ∨ nameB (if decide (acc ≠ []) then s.tail else s) = []) :
    ∃ hp, rX 8 (lc Tryz.f8 0) (codeX G cl lp 8 (lc Tryz.f8 0) (stP acc mv s)) = some (.ret, ⟨[(2, .nils), (3, .int .i64 9)], hp⟩) := by
  have h1 := fun d st => cutPre_call (s := s) (c := 91) (d := d) (st := st)
  have e1 : cutP s 91 = .tup [.str s, .bool false] := by unfold cutP; rw [if_neg h91]
  rw [e1] at h1
  have h2 := fun d st => cutPre_call (s := s) (c := 46) (d := d) (st := st)
  generalize hq : rX 8 (lc Tryz.f8 0) (codeX G cl lp 8 (lc Tryz.f8 0) (stP acc mv s)) = q
  by_cases hacc : acc = []
  · subst hacc
    simp only [ne_eq, not_true_eq_false, decide_false, Bool.false_eq_true, if_false, false_and, false_or] at hk
    have h3 := fun d st => name_call (s := s) hs (d := d) (st := st)
    rw [hk] at h3
    simp [lc, loopsOf, Tryz.f8, stP, stV, h0, h1, h3] at hq
    subst hq; exact ⟨_, rfl⟩
  · have hpos : 0 < acc.length := List.length_pos_iff.2 hacc
    have hd : decide (acc ≠ []) = true := by simpa using hacc
    rw [hd] at hk
    simp only [if_true, true_and] at hk
    by_cases h46 : s.head? = some 46
    · have e2 : cutP s 46 = .tup [.str s.tail, .bool true] := by unfold cutP; rw [if_pos h46]
      rw [e2] at h2
      have ht : s.tail.length ≤ 1000000 := by simp; omega
      have h3 := fun d st => name_call (s := s.tail) ht (d := d) (st := st)
      rw [hk.resolve_left (fun h => h h46)] at h3
      generalize s.tail = u at *
      simp [lc, loopsOf, Tryz.f8, stP, stV, h0, h1, h2, h3, hpos] at hq
      subst hq; exact ⟨_, rfl⟩
    · have e2 : cutP s 46 = .tup [.str s, .bool false] := by unfold cutP; rw [if_neg h46]
      rw [e2] at h2
      simp [lc, loopsOf, Tryz.f8, stP, stV, h0, h1, h2, hpos] at hq
      subst hq; exact ⟨_, rfl⟩
set_option maxHeartbeats 32000000 in
theorem parse_end (acc : List Sp) (mv : Bool) : rX 8 (lc Tryz.f8 0) (codeX G cl lp 8 (lc Tryz.f8 0) (stP acc mv [])) = some (.exit 0, ⟨[(4, .own 5004), (5, .str []), (21, .bool false)], [(5004, .row 2 (acc.map stV) false ⟨mv, 43⟩)]⟩) := by
  simp [lc, loopsOf, Tryz.f8, stP]
theorem stepP_less {s s' : Tx} {any : Bool} {x : Sp} (h : stepP s any = some (x, s')) : s'.length < s.length := by
  unfold stepP at h
  split at h
  · rename_i h91
    split at h
    · rename_i d r hc
      obtain ⟨n, _, h2⟩ := Option.map_eq_some_iff.1 h
      cases h2
      have := (cutX_some hc).1
      cases s with
      | nil => cases h91
      | cons a t => simp only [List.tail_cons] at this; rw [this]; simp; omega
    · cases h
  · split at h
    · cases h
    · rename_i h1
      by_cases h2 : nameB (if any = true then s.tail else s) = []
      · rw [if_pos h2] at h; cases h
      · rw [if_neg h2] at h
        have h := Option.some.inj h
        have h := congrArg Prod.snd h
        simp only at h
        subst h
        have hpos : 0 < (nameB (if any = true then s.tail else s)).length := List.length_pos_iff.2 h2
        rw [List.length_drop]
        have hle : (nameB (if any = true then s.tail else s)).length ≤ (if any = true then s.tail else s).length := List.Sublist.length_le (List.takeWhile_sublist _)
        have : (if any = true then s.tail else s).length ≤ s.length := by split <;> simp
        omega
def parseV : Option (List Sp) → AV
  | some l => .tup [stps l, .int .i64 0]
  | none => .tup [.nils, .int .i64 9]
theorem parse_loop : ∀ (n : Nat) (s : Tx) (acc : List Sp) (mv : Bool), s.length ≤ n → n + acc.length ≤ 1000000 →
    (∃ hp, lp 8 (lc Tryz.f8 0) (stP acc mv s) = some (.ret, ⟨[(2, .nils), (3, .int .i64 9)], hp⟩) ∧ parseB n s acc = none) ∨
    (∃ mv' l, lp 8 (lc Tryz.f8 0) (stP acc mv s) = some (.exit 0, ⟨[(4, .own 5004), (5, .str []), (21, .bool false)], [(5004, .row 2 (l.map stV) false ⟨mv', 43⟩)]⟩) ∧ parseB n s acc = some l)
  | n, [], acc, mv, hs, hn => by
    refine .inr ⟨mv, acc, loop_out (parse_end acc mv) (by simp), ?_⟩
    cases n <;> rfl
  | 0, b :: r, acc, mv, hs, hn => by simp at hs
  | n + 1, b :: r, acc, mv, hs, hn => by
    have hs1 : (b :: r).length ≤ 1000000 := by omega
    have ha : acc.length ≤ 1000000 := by omega
    show (∃ hp, _ ∧ (match stepP (b :: r) (decide (acc ≠ [])) with | none => none | some (x, s') => parseB n s' (acc ++ [x])) = none) ∨ (∃ mv' l, _ ∧ (match stepP (b :: r) (decide (acc ≠ [])) with | none => none | some (x, s') => parseB n s' (acc ++ [x])) = some l)
    have go : ∀ x s', stepP (b :: r) (decide (acc ≠ [])) = some (x, s') → rX 8 (lc Tryz.f8 0) (codeX G cl lp 8 (lc Tryz.f8 0) (stP acc mv (b :: r))) = some (.normal, stP (acc ++ [x]) true s') →
        (∃ hp, lp 8 (lc Tryz.f8 0) (stP acc mv (b :: r)) = some (.ret, ⟨[(2, .nils), (3, .int .i64 9)], hp⟩) ∧ parseB n s' (acc ++ [x]) = none) ∨
        (∃ mv' l, lp 8 (lc Tryz.f8 0) (stP acc mv (b :: r)) = some (.exit 0, ⟨[(4, .own 5004), (5, .str []), (21, .bool false)], [(5004, .row 2 (l.map stV) false ⟨mv', 43⟩)]⟩) ∧ parseB n s' (acc ++ [x]) = some l) := by
      intro x s' h1 h2
      have := stepP_less h1
      rcases parse_loop n s' (acc ++ [x]) true (by simp at hs this; omega) (by simp; omega) with ⟨hp, h3, h4⟩ | ⟨mv', l, h3, h4⟩
      · exact .inl ⟨hp, loop_next h2 h3, h4⟩
      · exact .inr ⟨mv', l, loop_next h2 h3, h4⟩
    by_cases h91 : b = 91
    · subst h91
      cases hc : cutX r 93 with
      | none =>
        obtain ⟨hp, h⟩ := parse_noplace acc ha mv r (by simp at hs1; omega) (fun dg bh h => by rw [hc] at h; cases h)
        refine .inl ⟨hp, loop_out h (by simp), ?_⟩
        simp [stepP, hc]
      | some p =>
        obtain ⟨dg, bh⟩ := p
        cases hn' : numD dg with
        | none =>
          obtain ⟨hp, h⟩ := parse_noplace acc ha mv r (by simp at hs1; omega) (fun dg' bh' h => by rw [hc] at h; cases h; exact hn')
          refine .inl ⟨hp, loop_out h (by simp), ?_⟩
          simp [stepP, hc, hn']
        | some k =>
          have h1 : stepP (91 :: r) (decide (acc ≠ [])) = some (([], (k : Int)), bh) := by simp [stepP, hc, hn']
          rw [h1]
          exact go _ _ h1 (parse_place acc ha mv r dg bh (by simp at hs1; omega) hc k hn')
    · have hh : ¬ (b :: r).head? = some 91 := by simpa using h91
      by_cases hbad : (decide (acc ≠ []) = true ∧ ¬ (b :: r).head? = some 46) ∨ nameB (if decide (acc ≠ []) then (b :: r).tail else (b :: r)) = []
      · obtain ⟨hp, h⟩ := parse_noname acc ha mv (b :: r) hs1 (by simp) hh hbad
        refine .inl ⟨hp, loop_out h (by simp), ?_⟩
        have h1 : stepP (b :: r) (decide (acc ≠ [])) = none := by
          unfold stepP
          rw [if_neg hh]
          rcases hbad with h | h
          · rw [if_pos h]
          · split
            · rfl
            · first | rfl | rw [if_pos h]
        rw [h1]
      · have hb1 : ¬ (decide (acc ≠ []) = true ∧ ¬ (b :: r).head? = some 46) := fun h => hbad (.inl h)
        have hb2 : ¬ nameB (if decide (acc ≠ []) then (b :: r).tail else (b :: r)) = [] := fun h => hbad (.inr h)
        have h1 : stepP (b :: r) (decide (acc ≠ [])) = some ((nameB (if decide (acc ≠ []) then (b :: r).tail else (b :: r)), -1), (if decide (acc ≠ []) then (b :: r).tail else (b :: r)).drop (nameB (if decide (acc ≠ []) then (b :: r).tail else (b :: r))).length) := by
          unfold stepP
          rw [if_neg hh, if_neg hb1, if_neg hb2]
        rw [h1]
        exact go _ _ h1 (parse_name acc ha mv (b :: r) hs1 (by simp) hh (fun h => Classical.not_not.1 fun h' => hb1 ⟨h, h'⟩) hb2)
set_option maxHeartbeats 16000000 in
set_option maxRecDepth 100000 in
theorem parse_eq (s : Tx) (hs : s.length ≤ 1000000) : cl 8 [.str s] [] = some (.ret (parseV (if 120 < s.length then none else parseB s.length s [])), []) := by
  refine fn_intro Tryz.func8 rfl (by simp) (by decide) rfl ?_
  by_cases hl : 120 < s.length
  · have hl' : (120 : Int) < s.length := by omega
    simp [Tryz.f8, hl']
    rw [if_pos hl]
    exact end_is (.inr rfl) (by simp; rfl) rfl rfl
  · have hl' : ¬ (120 : Int) < s.length := by omega
    rw [if_neg hl]
    rcases parse_loop s.length s [] false (Nat.le_refl _) (by simp; omega) with ⟨hp, h, hr⟩ | ⟨mv', l, h, hr⟩
    · rw [hr]
      simp [lc, loopsOf, Tryz.f8, stP] at h
      simp [Tryz.f8, hl', h]
      exact end_is (.inr rfl) (by simp; rfl) rfl rfl
    · rw [hr]
      simp [lc, loopsOf, Tryz.f8, stP] at h
      simp [Tryz.f8, hl', h]
      exact end_rv (.inr rfl) (by simp; rfl) rfl rfl (by simp [parseV, stps])
end Go.Proofs.YtbjphckpbkacaaaGreatDoor


/- What the functions come to: how many steps; steps that are the same. -/
namespace Go.Proofs.YtbjphckpbkacaaaGreatDoor
open Go Abs
set_option linter.unusedSimpArgs false
set_option linter.unusedVariables false
attribute [local simp] canonK canonAll canonSlot canonCell canonBox ownStep restrictTo pureCells pureRows reachL AObj.names List.range_succ appendA
def fewP (l : List Sp) : Bool := decide (l.length ≤ 140) && (l.take 141).all fun n => decide (n.1.length ≤ 140)
theorem fewp_loop (l : List Sp) : ∃ x s, lp 7 (lc Tryz.f7 0) { sl := [(0, stps l), (3, .int .i64 0)], hp := [] } = some (x, s) ∧
    ((x = .ret ∧ s = { sl := [(2, .bool false)], hp := [] } ∧ fewP l = false) ∨ (x = .exit 0 ∧ (∃ sl, s = { sl := (0, stps l) :: sl, hp := [] }) ∧ (l.take 141).all (fun n => decide (n.1.length ≤ 140)) = true)) := by
  have := for_loop (f := 7) (c := lc Tryz.f7 0) (n := min l.length 141) (σ := fun i => { sl := [(0, stps l), (3, .int .i64 (i : Int))], hp := [] }) (P := fun i => (l.take i).all (fun n => decide (n.1.length ≤ 140)) = true)
    (Q := fun x s => (x = .ret ∧ s = { sl := [(2, .bool false)], hp := [] } ∧ fewP l = false) ∨ (x = .exit 0 ∧ (∃ sl, s = { sl := (0, stps l) :: sl, hp := [] }) ∧ (l.take 141).all (fun n => decide (n.1.length ≤ 140)) = true))
    (fun i hi hp => ?_) (fun hp => ?_) 0 (by omega) (by simp)
  · exact this
  · have h1 : i < l.length := by omega
    obtain ⟨n, hn⟩ : ∃ n, l[i]? = some n := ⟨l[i], List.getElem?_eq_getElem h1⟩
    have he : l[i] = n := (List.getElem?_eq_some_iff.1 hn).2
    have h1' : (i : Int) < l.length := by omega
    have h2' : (i : Int) ≤ 140 := by omega
    have hw : IntKind.i64.wrap ((i : Int) + 1) = (i : Int) + 1 := i64_wrap (by omega) (by omega)
    by_cases ht : n.1.length ≤ 140
    · left
      have h3' : ¬ (140 < (n.1.length : Int)) := by omega
      refine ⟨by simp [lc, loopsOf, Tryz.f7, stps, h1', h1, h2', hn, he, stV, h3', hw], ?_⟩
      rw [List.take_add_one, hn]
      simp only [List.all_append, hp, Option.toList_some, List.all_cons, List.all_nil, Bool.and_true, Bool.true_and]
      simpa using ht
    · right
      have h3' : 140 < (n.1.length : Int) := by omega
      refine ⟨.ret, _, by simp [lc, loopsOf, Tryz.f7, stps, h1', h1, h2', hn, he, stV, h3', hw], by simp, .inl ⟨rfl, rfl, ?_⟩⟩
      have : n ∈ l.take 141 := List.mem_of_getElem? (i := i) (by rw [List.getElem?_take, if_pos (by omega)]; exact hn)
      unfold fewP
      rw [Bool.and_eq_false_iff]; right
      rw [List.all_eq_false]
      exact ⟨n, this, by simpa using ht⟩
  · have hall : (l.take 141).all (fun n => decide (n.1.length ≤ 140)) = true := by
      rcases Nat.le_total l.length 141 with h | h
      · rw [Nat.min_eq_left h, List.take_of_length_le (Nat.le_refl _)] at hp
        rw [List.take_of_length_le h]; exact hp
      · rw [Nat.min_eq_right h] at hp; exact hp
    by_cases h : l.length ≤ 140
    · refine ⟨.exit 0, ⟨[(0, stps l), (3, .int .i64 ((min l.length 141 : Nat) : Int)), (11, .bool false)], []⟩, ?_, by simp, .inr ⟨rfl, ⟨_, rfl⟩, hall⟩⟩
      have e : min l.length 141 = l.length := by omega
      rw [e]
      simp [lc, loopsOf, Tryz.f7, stps]
    · refine ⟨.exit 0, ⟨[(0, stps l), (3, .int .i64 ((min l.length 141 : Nat) : Int)), (11, .bool false)], []⟩, ?_, by simp, .inr ⟨rfl, ⟨_, rfl⟩, hall⟩⟩
      have e : min l.length 141 = 141 := by omega
      rw [e]
      by_cases h2 : (141 : Int) < l.length
      · have h2' : 141 < l.length := by omega
        simp [lc, loopsOf, Tryz.f7, stps, h2, h2']
      · have h2' : ¬ 141 < l.length := by omega
        simp [lc, loopsOf, Tryz.f7, stps, h2, h2']
theorem fewp_eq (l : List Sp) : cl 7 [stps l] [] = some (.ret (.bool (fewP l)), []) := by
  refine fn_intro Tryz.func7 rfl (by simp) (by decide) rfl ?_
  obtain ⟨x, s, h, hx⟩ := fewp_loop l
  simp [lc, loopsOf, Tryz.f7, stps] at h
  rcases hx with ⟨rfl, rfl, hf⟩ | ⟨rfl, ⟨sl, rfl⟩, hall⟩
  · simp [Tryz.f7, stps, h]
    exact end_is (.inr rfl) (by simp; rfl) rfl (by simp [hf])
  · simp [Tryz.f7, stps, h]
    exact end_is (.inr rfl) (by simp; rfl) rfl (by simp [fewP, hall]; omega)
theorem fewp_call {l : List Sp} {d : Option Nat} {st : ASt} : callV G cl d (.fn (.func 7) [] []) [stps l] st = some (.val (.bool (fewP l)) st) := callV_ret E7 (by decide) ext7 rfl rfl (fewp_eq l) rfl
theorem fewP_of {l : List Sp} (h : fewP l = true) : l.length ≤ 140 ∧ ∀ x ∈ l, x.1.length ≤ 140 := by
  unfold fewP at h
  rw [Bool.and_eq_true] at h
  have h1 : l.length ≤ 140 := by simpa using h.1
  rw [List.take_of_length_le (by omega)] at h
  exact ⟨h1, fun x hx => by simpa using List.all_eq_true.1 h.2 x hx⟩

/-! of -/
@[simp] theorem stV_beqL (l : List Sp) : AV.beqL (l.map stV) (l.map stV) = true := by
  induction l with
  | nil => rfl
  | cons x l ih => simp [AV.beqL, AV.beq, stV]; simpa [stV] using ih
def stO (l acc : List Sp) (mv : Bool) (i : Nat) : ASt := ⟨[(0, stps l), (3, .own 5003), (4, .int .i64 i)], [(5003, .row 2 (acc.map stV) false ⟨mv, 68⟩)]⟩
set_option maxHeartbeats 16000000 in
set_option maxRecDepth 100000 in
theorem of_round (l acc : List Sp) (hl : l.length ≤ 1000000) (ha : acc.length ≤ 1000000) (mv : Bool) (i : Nat) (x : Sp) (hi : l[i]? = some x) :
    rX 12 (lc Tryz.f12 0) (codeX G cl lp 12 (lc Tryz.f12 0) (stO l acc mv i)) = some (.normal, stO l (acc ++ [x]) true (i + 1)) := by
  have hlt : i < l.length := (List.getElem?_eq_some_iff.1 hi).1
  have he : l[i] = x := (List.getElem?_eq_some_iff.1 hi).2
  have hw : IntKind.i64.wrap ((i : Int) + 1) = ((i + 1 : Nat) : Int) := by rw [i64_wrap (by omega) (by omega)]; omega
  have hL : acc.length + 1 ≤ LIM := by unfold LIM; omega
  simp [lc, loopsOf, Tryz.f12, stO, stps, hlt, hi, he, hw, stV, hL]
  done
theorem of_end (l acc : List Sp) (mv : Bool) : rX 12 (lc Tryz.f12 0) (codeX G cl lp 12 (lc Tryz.f12 0) (stO l acc mv l.length)) = some (.exit 0, ⟨[(0, stps l), (3, .own 5003), (4, .int .i64 l.length), (8, .bool false)], [(5003, .row 2 (acc.map stV) false ⟨mv, 68⟩)]⟩) := by
  simp [lc, loopsOf, Tryz.f12, stO, stps]
theorem of_loop (l : List Sp) (hl : l.length ≤ 1000000) : ∀ (r pre : List Sp) (mv : Bool), l = pre ++ r → ∃ mv', lp 12 (lc Tryz.f12 0) (stO l pre mv pre.length) = some (.exit 0, ⟨[(0, stps l), (3, .own 5003), (4, .int .i64 l.length), (8, .bool false)], [(5003, .row 2 (l.map stV) false ⟨mv', 68⟩)]⟩)
  | [], pre, mv, e => by
    have e' : l = pre := by simpa using e
    subst e'
    exact ⟨mv, loop_out (of_end _ _ mv) (by simp)⟩
  | x :: r, pre, mv, e => by
    have hi : l[pre.length]? = some x := by rw [e]; simp
    have hp : pre.length ≤ l.length := by rw [e]; simp
    have h1 := of_round l pre hl (by omega) mv pre.length x hi
    obtain ⟨mv', h2⟩ := of_loop l hl r (pre ++ [x]) true (by rw [e]; simp)
    rw [List.length_append, show pre.length + [x].length = pre.length + 1 from rfl] at h2
    exact ⟨mv', loop_next h1 h2⟩
theorem of_eq (l : List Sp) (hl : l.length ≤ 1000000) : cl 12 [stps l] [] = some (.ret (stps l), []) := by
  refine fn_intro Tryz.func12 rfl (by simp) (by decide) rfl ?_
  obtain ⟨mv', h⟩ := of_loop l hl l [] false rfl
  simp [lc, loopsOf, Tryz.f12, stO, stps] at h
  simp [Tryz.f12, stps, h]
  exact end_rv (.inr rfl) (by simp; rfl) rfl rfl (by simp [stps])
theorem of_call {l : List Sp} (hl : l.length ≤ 1000000) {d : Option Nat} {st : ASt} : callV G cl d (.fn (.func 12) [] []) [stps l] st = some (.val (stps l) st) := callV_ret E12 (by decide) ext12 rfl rfl (of_eq l hl) rfl
theorem of_nils : cl 12 [.nils] [] = some (.ret (stps []), []) := by
  refine fn_intro Tryz.func12 rfl (by simp) (by decide) rfl ?_
  have h : lp 12 (lc Tryz.f12 0) ⟨[(0, .nils), (3, .own 5003), (4, .int .i64 0)], [(5003, .row 2 [] false ⟨false, 68⟩)]⟩ = some (.exit 0, ⟨[(0, .nils), (3, .own 5003), (4, .int .i64 0), (8, .bool false)], [(5003, .row 2 [] false ⟨false, 68⟩)]⟩) := loop_out (by simp [lc, loopsOf, Tryz.f12]) (by simp)
  simp [lc, loopsOf, Tryz.f12] at h
  simp [Tryz.f12, h]
  exact end_rv (.inr rfl) (by simp; rfl) rfl rfl (by simp [stps])
theorem of_nils_call {d : Option Nat} {st : ASt} : callV G cl d (.fn (.func 12) [] []) [.nils] st = some (.val (stps []) st) := callV_ret E12 (by decide) ext12 rfl rfl of_nils rfl

/-! Same -/
theorem sp_ne {x y : Sp} (h : x ≠ y) : ¬ x.1 = y.1 ∨ x.1 = y.1 ∧ ¬ x.2 = y.2 := by
  by_cases h1 : x.1 = y.1
  · exact .inr ⟨h1, fun h2 => h (Prod.ext h1 h2)⟩
  · exact .inl h1
set_option maxHeartbeats 16000000 in
set_option maxRecDepth 100000 in
theorem samep_loop (a b : List Sp) (hl : a.length = b.length) (hb : a.length ≤ 1000000) : ∃ x s, lp 13 (lc Tryz.f13 0) { sl := [(0, stps a), (1, stps b), (5, .int .i64 0)], hp := [] } = some (x, s) ∧
    ((x = .ret ∧ s = { sl := [(4, .bool false)], hp := [] } ∧ a ≠ b) ∨ (x = .exit 0 ∧ (∃ sl, s = { sl, hp := [] }) ∧ a = b)) := by
  refine for_loop (f := 13) (c := lc Tryz.f13 0) (n := a.length) (σ := fun i => { sl := [(0, stps a), (1, stps b), (5, .int .i64 (i : Int))], hp := [] }) (P := fun i => a.take i = b.take i)
    (Q := fun x s => (x = .ret ∧ s = { sl := [(4, .bool false)], hp := [] } ∧ a ≠ b) ∨ (x = .exit 0 ∧ (∃ sl, s = { sl, hp := [] }) ∧ a = b))
    (fun i hi hp => ?_) (fun hp => ?_) 0 (by omega) (by simp)
  · obtain ⟨n, hn⟩ : ∃ n, a[i]? = some n := ⟨a[i], List.getElem?_eq_getElem hi⟩
    have hi2 : i < b.length := by omega
    obtain ⟨m, hm⟩ : ∃ m, b[i]? = some m := ⟨b[i], List.getElem?_eq_getElem hi2⟩
    have he1 : a[i] = n := (List.getElem?_eq_some_iff.1 hn).2
    have he2 : b[i] = m := (List.getElem?_eq_some_iff.1 hm).2
    have hw : IntKind.i64.wrap ((i : Int) + 1) = (i : Int) + 1 := i64_wrap (by omega) (by omega)
    by_cases hnm : n = m
    · subst hnm
      left
      refine ⟨?_, (take_eq_of hp hn hm).2 rfl⟩
      simp [lc, loopsOf, Tryz.f13, stps, hi, hi2, hn, hm, he1, he2, stV, hw]
    · right
      have hne : a ≠ b := fun e => hnm (by subst e; rw [hn] at hm; exact Option.some.inj hm)
      have : rX 13 (lc Tryz.f13 0) (codeX G cl lp 13 (lc Tryz.f13 0) { sl := [(0, stps a), (1, stps b), (5, .int .i64 (i : Int))], hp := [] }) = some (.ret, { sl := [(4, .bool false)], hp := [] }) := by
        rcases sp_ne hnm with q | ⟨q1, q⟩
        · simp [lc, loopsOf, Tryz.f13, stps, hi, hi2, hn, hm, he1, he2, stV, hw, q]
        · simp [lc, loopsOf, Tryz.f13, stps, hi, hi2, hn, hm, he1, he2, stV, hw, q1, q]
      exact ⟨.ret, _, this, by simp, .inl ⟨rfl, rfl, hne⟩⟩
  · have e : a = b := by rw [List.take_of_length_le (Nat.le_refl _), List.take_of_length_le (by omega)] at hp; exact hp
    exact ⟨.exit 0, ⟨[(0, stps a), (1, stps b), (5, .int .i64 a.length), (14, .bool false)], []⟩, by simp [lc, loopsOf, Tryz.f13, stps], by simp, .inr ⟨rfl, ⟨_, rfl⟩, e⟩⟩
theorem samep_eq (a b : List Sp) (hb : a.length ≤ 1000000) : cl 13 [stps a, stps b] [] = some (.ret (.bool (decide (a = b))), []) := by
  refine fn_intro Tryz.func13 rfl (by simp) (by decide) rfl ?_
  by_cases hl : a.length = b.length
  · obtain ⟨x, s, h, hx⟩ := samep_loop a b hl hb
    simp [lc, loopsOf, Tryz.f13, stps] at h
    rcases hx with ⟨rfl, rfl, hf⟩ | ⟨rfl, ⟨sl, rfl⟩, hall⟩
    · simp [Tryz.f13, stps, h, hl]
      exact end_is (.inr rfl) (by simp; rfl) rfl (by simp [hf])
    · simp [Tryz.f13, stps, h, hl]
      exact end_is (.inr rfl) (by simp; rfl) rfl (by simp [hall])
  · have hl' : ¬ (a.length : Int) = b.length := by omega
    have hne : a ≠ b := fun e => hl (by rw [e])
    simp [Tryz.f13, stps, hl, hl']
    exact end_is (.inr rfl) (by simp; rfl) rfl (by simp [hne])
theorem samep_call {a b : List Sp} (hb : a.length ≤ 1000000) {d : Option Nat} {st : ASt} : callV G cl d (.fn (.func 13) [] []) [stps a, stps b] st = some (.val (.bool (decide (a = b))) st) := callV_ret E13 (by decide) ext13 rfl rfl (samep_eq a b hb) rfl
theorem samep_nils : cl 13 [stps [], .nils] [] = some (.ret (.bool true), []) := by
  refine fn_intro Tryz.func13 rfl (by simp) (by decide) rfl ?_
  have h : lp 13 (lc Tryz.f13 0) ⟨[(0, stps []), (1, .nils), (5, .int .i64 0)], []⟩ = some (.exit 0, ⟨[(0, stps []), (1, .nils), (5, .int .i64 0), (14, .bool false)], []⟩) := loop_out (by simp [lc, loopsOf, Tryz.f13, stps]) (by simp)
  simp [lc, loopsOf, Tryz.f13, stps] at h
  simp [Tryz.f13, stps, h]
  exact end_is (.inr rfl) (by simp; rfl) rfl rfl
theorem samep_nils_call {d : Option Nat} {st : ASt} : callV G cl d (.fn (.func 13) [] []) [stps [], .nils] st = some (.val (.bool true) st) := callV_ret E13 (by decide) ext13 rfl rfl samep_nils rfl
theorem works6 {d : Option Nat} {st : ASt} : callV G cl d (.fn (.func 6) [] []) [] st = some (.val (.bool true) st) :=
  callV_ret E6 (by decide) ext6 rfl rfl (call_prim (p := worksP) (by decide) (by rfl) rfl) rfl
end Go.Proofs.YtbjphckpbkacaaaGreatDoor


/- Paths and their steps, plainly: one way, and back. -/
namespace Go.Proofs.YtbjphckpbkacaaaGreatDoor
open Go Abs
set_option linter.unusedSimpArgs false
set_option linter.unusedVariables false
theorem digs_all : (List.range 1000).all (fun m => numD (digs m) == some m && !(digs m).contains 93) = true := by kernel_rfl
theorem digs_num {m : Nat} (h : m ≤ 999) : numD (digs m) = some m ∧ 93 ∉ digs m := by
  have := List.all_eq_true.1 digs_all m (List.mem_range.2 (by omega))
  rw [Bool.and_eq_true] at this
  exact ⟨eq_of_beq this.1, by simpa using this.2⟩
theorem numD_some {d : Tx} {n : Nat} (h : numD d = some n) : n ≤ 999 ∧ digs n = d := by
  unfold numD at h
  split at h
  · split at h
    · rename_i hc
      cases h
      exact ⟨by omega, hc.2.2⟩
    · cases h
  · cases h
theorem nameB_cons (b : UInt8) (u : Tx) : nameB (b :: u) = if namedB b then b :: nameB u else [] := by
  unfold nameB; rw [List.takeWhile_cons]
theorem nameB_idem : ∀ (u : Tx), nameB (nameB u) = nameB u
  | [] => rfl
  | b :: u => by
    rw [nameB_cons]
    split
    · rename_i h; rw [nameB_cons, if_pos h, nameB_idem u]
    · rfl
theorem name_split : ∀ (u : Tx), u = nameB u ++ u.drop (nameB u).length
  | [] => rfl
  | b :: u => by
    rw [nameB_cons]
    split
    · simpa using name_split u
    · simp
theorem textB_place {m : Nat} (h : m ≤ 999) : textB ([], (m : Int)) = some (91 :: (digs m ++ [93])) := by
  have h1 : (0 : Int) ≤ m ∧ (m : Int) ≤ 999 := by omega
  simp [textB, h1]
theorem textB_name {k : Tx} (h0 : k ≠ []) (hk : nameB k = k) : textB (k, -1) = some k := by
  simp [textB, h0, hk]
theorem textB_cases {x : Sp} {t : Tx} (h : textB x = some t) : (∃ m : Nat, m ≤ 999 ∧ x = ([], (m : Int)) ∧ t = 91 :: (digs m ++ [93])) ∨ (x = (t, -1) ∧ t ≠ [] ∧ nameB t = t) := by
  obtain ⟨k, n⟩ := x
  unfold textB at h
  split at h
  · rename_i hc
    simp only at hc
    obtain ⟨c1, c2, c3⟩ := hc
    obtain ⟨m, rfl⟩ := Int.eq_ofNat_of_zero_le c2
    cases h
    exact .inl ⟨m, by omega, by rw [c1], by simp⟩
  · split at h
    · rename_i hc
      simp only at hc h
      cases h
      exact .inr ⟨by rw [hc.1], hc.2.1, hc.2.2⟩
    · cases h
theorem stepP_text {s s' : Tx} {any : Bool} {x : Sp} (h : stepP s any = some (x, s')) : ∃ t, textB x = some t ∧ s = (if any = true ∧ x.2 < 0 then [46] else []) ++ t ++ s' := by
  unfold stepP at h
  split at h
  · rename_i h91
    split at h
    · rename_i d r hc
      obtain ⟨n, hn, h2⟩ := Option.map_eq_some_iff.1 h
      cases h2
      obtain ⟨hn1, hn2⟩ := numD_some hn
      refine ⟨_, textB_place hn1, ?_⟩
      have hneg : ¬ ((n : Int) < 0) := by omega
      have := (cutX_some hc).1
      cases s with
      | nil => cases h91
      | cons a t =>
        simp only [List.head?_cons, Option.some.injEq, List.tail_cons] at h91 this
        rw [h91, this, hn2]
        simp [hneg]
    · cases h
  · split at h
    · cases h
    · rename_i h1
      by_cases h2 : nameB (if any = true then s.tail else s) = []
      · rw [if_pos h2] at h; cases h
      · rw [if_neg h2] at h
        have h := Option.some.inj h
        have e1 := congrArg Prod.fst h
        have e2 := congrArg Prod.snd h
        simp only at e1 e2
        subst e1; subst e2
        refine ⟨_, textB_name h2 (nameB_idem _), ?_⟩
        cases any with
        | false => simpa using name_split s
        | true =>
          simp only [true_and, Classical.not_not, if_true] at h1 ⊢
          have h1 : s.head? = some 46 := by simpa using h1
          cases s with
          | nil => cases h1
          | cons a t =>
            simp only [List.head?_cons, Option.some.injEq] at h1
            subst h1
            have := name_split t
            simp
            exact this
/-- A path's steps. -/
def parseS (s : Tx) : Option (List Sp) := if 120 < s.length then none else parseB s.length s []
end Go.Proofs.YtbjphckpbkacaaaGreatDoor


/- What the document's functions come to: names, numbers, digits. -/
namespace Go.Proofs.YtbjphckpbkacaaaGreatDoor
open Go Abs
set_option linter.unusedSimpArgs false
set_option linter.unusedVariables false
attribute [local simp] canonK canonAll canonSlot canonCell canonBox ownStep restrictTo pureCells pureRows reachL AObj.names List.range_succ appendA
def stM (s : Tx) (i : Nat) : ASt := ⟨[(0, .str s), (3, .int .i64 i)], []⟩
set_option maxHeartbeats 8000000 in
theorem rname_round (s : Tx) (hs : s.length ≤ 1000000) (i : Nat) (b : UInt8) (hb : s[i]? = some b) (hn : namedB b = true) : rX 37 (lc Tryz.f37 0) (codeX G cl lp 37 (lc Tryz.f37 0) (stM s i)) = some (.normal, stM s (i + 1)) := by
  have hlt : i < s.length := (List.getElem?_eq_some_iff.1 hb).1
  have hw : IntKind.i64.wrap ((i : Int) + 1) = ((i + 1 : Nat) : Int) := by rw [i64_wrap (by omega) (by omega)]; omega
  have hx := strx_at hb
  have hc := fun d st => rnamed_call (c := b) (d := d) (st := st)
  rw [hn] at hc
  simp [lc, loopsOf, Tryz.f37, stM, hlt, hw, hx, hc]
  done
set_option maxHeartbeats 8000000 in
theorem rname_bad (s : Tx) (hs : s.length ≤ 1000000) (i : Nat) (b : UInt8) (hb : s[i]? = some b) (hn : namedB b = false) : rX 37 (lc Tryz.f37 0) (codeX G cl lp 37 (lc Tryz.f37 0) (stM s i)) = some (.ret, ⟨[(2, .bool false)], []⟩) := by
  have hlt : i < s.length := (List.getElem?_eq_some_iff.1 hb).1
  have hx := strx_at hb
  have hc := fun d st => rnamed_call (c := b) (d := d) (st := st)
  rw [hn] at hc
  simp [lc, loopsOf, Tryz.f37, stM, hlt, hx, hc]
  done
theorem rname_end (s : Tx) : rX 37 (lc Tryz.f37 0) (codeX G cl lp 37 (lc Tryz.f37 0) (stM s s.length)) = some (.exit 0, ⟨[(0, .str s), (3, .int .i64 s.length), (7, .bool false)], []⟩) := by
  simp [lc, loopsOf, Tryz.f37, stM]
theorem rname_loop : ∀ (r pre : Tx), (pre ++ r).length ≤ 1000000 →
    (lp 37 (lc Tryz.f37 0) (stM (pre ++ r) pre.length) = some (.ret, ⟨[(2, .bool false)], []⟩) ∧ nameB r ≠ r) ∨
    (lp 37 (lc Tryz.f37 0) (stM (pre ++ r) pre.length) = some (.exit 0, ⟨[(0, .str (pre ++ r)), (3, .int .i64 (pre ++ r).length), (7, .bool false)], []⟩) ∧ nameB r = r)
  | [], pre, h => by
    have := rname_end (pre ++ [])
    rw [show (pre ++ ([] : Tx)).length = pre.length by simp] at this ⊢
    exact .inr ⟨loop_out this (by simp), rfl⟩
  | b :: r, pre, h => by
    have hb : (pre ++ b :: r)[pre.length]? = some b := by simp
    by_cases hn : namedB b = true
    · have e : pre ++ b :: r = (pre ++ [b]) ++ r := by simp
      have h1 := rname_round _ h _ b hb hn
      have h2 := rname_loop r (pre ++ [b]) (by rw [← e]; exact h)
      rw [← e, List.length_append, show pre.length + [b].length = pre.length + 1 from rfl] at h2
      rw [nameB_cons, if_pos hn]
      rcases h2 with ⟨h2, h3⟩ | ⟨h2, h3⟩
      · exact .inl ⟨loop_next h1 h2, by simpa using h3⟩
      · exact .inr ⟨loop_next h1 h2, by rw [h3]⟩
    · have hn' : namedB b = false := by simpa using hn
      refine .inl ⟨loop_out (rname_bad _ h _ b hb hn') (by simp), ?_⟩
      rw [nameB_cons, if_neg hn]
      simp
set_option maxHeartbeats 8000000 in
theorem rname_eq (s : Tx) (hs : s.length ≤ 1000000) : cl 37 [.str s] [] = some (.ret (.bool (decide (s ≠ [] ∧ nameB s = s))), []) := by
  refine fn_intro Tryz.func37 rfl (by simp) (by decide) rfl ?_
  rcases rname_loop s [] hs with ⟨h, hr⟩ | ⟨h, hr⟩
  · simp [lc, loopsOf, Tryz.f37, stM] at h
    simp [Tryz.f37, h]
    exact end_is (.inr rfl) (by simp; rfl) rfl (by simp [hr])
  · simp [lc, loopsOf, Tryz.f37, stM] at h
    simp [Tryz.f37, h]
    exact end_is (.inr rfl) (by simp; rfl) rfl (by simp [hr])
theorem rname_call {s : Tx} (hs : s.length ≤ 1000000) {d : Option Nat} {st : ASt} : callV G cl d (.fn (.func 37) [] []) [.str s] st = some (.val (.bool (decide (s ≠ [] ∧ nameB s = s))) st) := callV_ret E37 (by decide) ext37 rfl rfl (rname_eq s hs) rfl

/-! Digits -/
noncomputable def rdOK (n : Nat) : Bool := match (both G prim0 60).1 36 [.int .i64 n] [] with
  | some (.ret (.str s), []) => s == digs n
  | _ => false
theorem rd_0 : (List.range 250).all (fun i => rdOK (0 + i)) = true := by kernel_rfl
theorem rd_1 : (List.range 250).all (fun i => rdOK (250 + i)) = true := by kernel_rfl
theorem rd_2 : (List.range 250).all (fun i => rdOK (500 + i)) = true := by kernel_rfl
theorem rd_3 : (List.range 250).all (fun i => rdOK (750 + i)) = true := by kernel_rfl
theorem rdigs_eq {n : Nat} (h : n < 1000) : cl 36 [.int .i64 n] [] = some (.ret (.str (digs n)), []) := by
  have ok : rdOK n = true := by
    have go : ∀ b, (List.range 250).all (fun i => rdOK (b + i)) = true → b ≤ n → n < b + 250 → rdOK n = true := by
      intro b h h1 h2
      have h := List.all_eq_true.1 h (n - b) (List.mem_range.2 (by omega))
      rwa [show b + (n - b) = n by omega] at h
    by_cases c0 : n < 250
    · exact go 0 rd_0 (by omega) (by omega)
    by_cases c1 : n < 500
    · exact go 250 rd_1 (by omega) (by omega)
    by_cases c2 : n < 750
    · exact go 500 rd_2 (by omega) (by omega)
    · exact go 750 rd_3 (by omega) (by omega)
  unfold rdOK at ok
  generalize hr : (both G prim0 60).1 36 [.int .i64 n] [] = r at ok
  split at ok
  · rw [eq_of_beq ok] at hr
    exact callL_of_run hr
  · cases ok
theorem rdigs_call {n : Nat} (h : n < 1000) {d : Option Nat} {st : ASt} : callV G cl d (.fn (.func 36) [] []) [.int .i64 n] st = some (.val (.str (digs n)) st) := callV_ret E36 (by decide) ext36 rfl rfl (rdigs_eq h) rfl

end Go.Proofs.YtbjphckpbkacaaaGreatDoor


/- What the document's functions come to: numbers. -/
namespace Go.Proofs.YtbjphckpbkacaaaGreatDoor
open Go Abs
set_option linter.unusedSimpArgs false
set_option linter.unusedVariables false
attribute [local simp] canonK canonAll canonSlot canonCell canonBox ownStep restrictTo pureCells pureRows reachL AObj.names List.range_succ appendA
/-! number -/
def digB (b : UInt8) : Bool := decide (48 ≤ b.toNat ∧ b.toNat ≤ 57)
/-- The number of digits, behind one. -/
def valD (n : Nat) : Tx → Option Nat
  | [] => some n
  | b :: r => if digB b then valD (10 * n + (b.toNat - 48)) r else none
def rnumB (s : Tx) : Option Nat := if s = [] ∨ 3 < s.length ∨ (1 < s.length ∧ s.head? = some 48) then none else valD 0 s
def stK (s : Tx) (n i : Nat) : ASt := ⟨[(0, .str s), (3, .int .i64 n), (4, .int .i64 i)], []⟩
set_option maxHeartbeats 16000000 in
theorem num_round (s : Tx) (hs : s.length ≤ 3) (n i : Nat) (hn : n ≤ 1000) (b : UInt8) (hb : s[i]? = some b) (hd : digB b = true) : rX 29 (lc Tryz.f29 0) (codeX G cl lp 29 (lc Tryz.f29 0) (stK s n i)) = some (.normal, stK s (10 * n + (b.toNat - 48)) (i + 1)) := by
  have hlt : i < s.length := (List.getElem?_eq_some_iff.1 hb).1
  have hw : IntKind.i64.wrap ((i : Int) + 1) = ((i + 1 : Nat) : Int) := by rw [i64_wrap (by omega) (by omega)]; omega
  have hx := strx_at hb
  unfold digB at hd
  simp only [decide_eq_true_eq] at hd
  obtain ⟨d1, d2⟩ := hd
  have e1 : ¬ (b.toNat : Int) < 48 := by omega
  have e2 : ¬ (57 : Int) < b.toNat := by omega
  have e3 : ¬ b.toNat < 48 := by omega
  have e4 : ¬ 57 < b.toNat := by omega
  have w1 : IntKind.u8.wrap ((b.toNat : Int) - 48) = ((b.toNat - 48 : Nat) : Int) := by
    have : IntKind.u8.wrap ((b.toNat : Int) - 48) = ((b.toNat : Int) - 48) % 256 := by simp [IntKind.wrap, IntKind.bits, IntKind.signed]
    rw [this]; omega
  have w2 : IntKind.i64.wrap (10 * (n : Int)) = ((10 * n : Nat) : Int) := by rw [i64_wrap (by omega) (by omega)]; omega
  have w3 : IntKind.i64.wrap ((b.toNat - 48 : Nat) : Int) = ((b.toNat - 48 : Nat) : Int) := i64_wrap (by omega) (by omega)
  have w4 : IntKind.i64.wrap (((10 * n : Nat) : Int) + ((b.toNat - 48 : Nat) : Int)) = ((10 * n + (b.toNat - 48) : Nat) : Int) := by rw [i64_wrap (by omega) (by omega)]; omega
  generalize ((b.toNat - 48 : Nat)) = v at *
  generalize 10 * n = u at *
  simp [lc, loopsOf, Tryz.f29, stK, hlt, hw, hx, e1, e2, e3, e4, w1, w2, w3, w4]
  done
set_option maxHeartbeats 16000000 in
theorem num_bad (s : Tx) (hs : s.length ≤ 3) (n i : Nat) (b : UInt8) (hb : s[i]? = some b) (hd : digB b = false) : rX 29 (lc Tryz.f29 0) (codeX G cl lp 29 (lc Tryz.f29 0) (stK s n i)) = some (.ret, ⟨[(2, .int .i64 (-1))], []⟩) := by
  have hlt : i < s.length := (List.getElem?_eq_some_iff.1 hb).1
  have hx := strx_at hb
  unfold digB at hd
  simp only [decide_eq_false_iff_not] at hd
  by_cases e3 : b.toNat < 48
  · have e1 : (b.toNat : Int) < 48 := by omega
    simp [lc, loopsOf, Tryz.f29, stK, hlt, hx, e1, e3]
    done
  · have e1 : ¬ (b.toNat : Int) < 48 := by omega
    have e4 : 57 < b.toNat := by omega
    have e2 : (57 : Int) < b.toNat := by omega
    simp [lc, loopsOf, Tryz.f29, stK, hlt, hx, e1, e2, e3, e4]
    done
theorem num_end (s : Tx) (n : Nat) : rX 29 (lc Tryz.f29 0) (codeX G cl lp 29 (lc Tryz.f29 0) (stK s n s.length)) = some (.exit 0, ⟨[(0, .str s), (3, .int .i64 n), (4, .int .i64 s.length), (25, .bool false)], []⟩) := by
  simp [lc, loopsOf, Tryz.f29, stK]
theorem num_loop (s : Tx) (hs : s.length ≤ 3) : ∀ (r pre : Tx) (n : Nat), s = pre ++ r → n < 10 ^ pre.length →
    (lp 29 (lc Tryz.f29 0) (stK s n pre.length) = some (.ret, ⟨[(2, .int .i64 (-1))], []⟩) ∧ valD n r = none) ∨
    (∃ v : Nat, lp 29 (lc Tryz.f29 0) (stK s n pre.length) = some (.exit 0, ⟨[(0, .str s), (3, .int .i64 v), (4, .int .i64 s.length), (25, .bool false)], []⟩) ∧ valD n r = some v)
  | [], pre, n, e, hn => by
    have : pre.length = s.length := by rw [e]; simp
    rw [this]
    exact .inr ⟨n, loop_out (num_end s n) (by simp), rfl⟩
  | b :: r, pre, n, e, hn => by
    have hb : s[pre.length]? = some b := by rw [e]; simp
    have hl : pre.length + (r.length + 1) = s.length := by rw [e]; simp
    have hn1 : n ≤ 1000 := by
      have : 10 ^ pre.length ≤ 10 ^ 2 := Nat.pow_le_pow_right (by omega) (by omega)
      omega
    cases hd : digB b with
    | false => exact .inl ⟨loop_out (num_bad s hs n pre.length b hb hd) (by simp), by simp [valD, hd]⟩
    | true =>
      have h1 := num_round s hs n pre.length hn1 b hb hd
      have hd' := hd
      unfold digB at hd'
      simp only [decide_eq_true_eq] at hd'
      have h2 := num_loop s hs r (pre ++ [b]) (10 * n + (b.toNat - 48)) (by rw [e]; simp) (by
        rw [List.length_append, show pre.length + [b].length = pre.length + 1 from rfl, Nat.pow_succ]; omega)
      rw [List.length_append, show pre.length + [b].length = pre.length + 1 from rfl] at h2
      have hv : valD n (b :: r) = valD (10 * n + (b.toNat - 48)) r := by simp [valD, hd]
      rw [hv]
      rcases h2 with ⟨h2, h3⟩ | ⟨v, h2, h3⟩
      · exact .inl ⟨loop_next h1 h2, h3⟩
      · exact .inr ⟨v, loop_next h1 h2, h3⟩
def rnumV (s : Tx) : Int := match rnumB s with
  | some n => n
  | none => -1
set_option maxHeartbeats 16000000 in
theorem rnum_eq (s : Tx) : cl 29 [.str s] [] = some (.ret (.int .i64 (rnumV s)), []) := by
  refine fn_intro Tryz.func29 rfl (by simp) (by decide) rfl ?_
  unfold rnumV rnumB
  by_cases h0 : s = []
  · subst h0
    simp [Tryz.f29]
    exact end_is (.inr rfl) (by simp; rfl) rfl (by simp)
  · by_cases h3 : 3 < s.length
    · have h3' : (3 : Int) < s.length := by omega
      simp [Tryz.f29, h0, h3, h3']
      exact end_is (.inr rfl) (by simp; rfl) rfl (by simp)
    · have h3' : ¬ (3 : Int) < s.length := by omega
      have main : ¬ (s = [] ∨ 3 < s.length ∨ (1 < s.length ∧ s.head? = some 48)) → (∀ x : Int, (lp 29 (lc Tryz.f29 0) (stK s 0 0) = some (.ret, ⟨[(2, .int .i64 (-1))], []⟩) ∧ x = -1) ∨ (∃ v : Nat, lp 29 (lc Tryz.f29 0) (stK s 0 0) = some (.exit 0, ⟨[(0, .str s), (3, .int .i64 v), (4, .int .i64 s.length), (25, .bool false)], []⟩) ∧ x = v) → True) := fun _ _ _ => trivial
      have hl := num_loop s (by omega) s [] 0 rfl (by simp)
      obtain ⟨b, r, rfl⟩ : ∃ b r, s = b :: r := by
        cases s with
        | nil => exact absurd rfl h0
        | cons b r => exact ⟨b, r, rfl⟩
      have hx := strx_at (s := b :: r) (i := 0) rfl
      simp only [Int.natCast_zero] at hx
      have fin : (¬ (1 < (b :: r).length ∧ b = 48)) → (∀ (z : Int), z = (match valD 0 (b :: r) with | some n => (n : Int) | none => -1) → ((lp 29 (lc Tryz.f29 0) (stK (b :: r) 0 0) = some (.ret, ⟨[(2, .int .i64 (-1))], []⟩) ∧ z = -1) ∨ ∃ v : Nat, lp 29 (lc Tryz.f29 0) (stK (b :: r) 0 0) = some (.exit 0, ⟨[(0, .str (b :: r)), (3, .int .i64 v), (4, .int .i64 (b :: r).length), (25, .bool false)], []⟩) ∧ z = v)) := by
        intro _ z hz
        rcases hl with ⟨h1, h2⟩ | ⟨v, h1, h2⟩
        · rw [h2] at hz; exact .inl ⟨h1, hz⟩
        · rw [h2] at hz; exact .inr ⟨v, h1, hz⟩
      by_cases h1 : 1 < (b :: r).length
      · have h1' : (1 : Int) < (b :: r).length := by omega
        by_cases h48 : b = 48
        · subst h48
          have hx' : indexv Tryz.prog 9 (.str (48 :: r)) (.int .i64 0) = some (.int .u8 48) := hx
          have hr : ¬ r = [] := by intro h; subst h; simp at h1
          simp at h3 h3' h1 h1'
          simp [Tryz.f29, h3, h3', h1, h1', hx', hr]
          exact end_is (.inr rfl) (by simp; rfl) rfl (by simp [h3, hr])
        · have hne : ¬ (b.toNat : Int) = 48 := by
            intro h
            have q : (48 : UInt8).toNat = 48 := rfl
            exact h48 (by rw [← UInt8.toNat_inj]; omega)
          have hne' : ¬ b.toNat = 48 := by omega
          have hr : ¬ r = [] := by intro h; subst h; simp at h1
          have g4 : ¬ 3 < r.length + 1 := by simp at h3; omega
          have g3 : ¬ (3 : Int) < (r.length : Int) + 1 := by simp at h3; omega
          rcases fin (fun h => h48 h.2) _ rfl with ⟨h, hz⟩ | ⟨v, h, hz⟩
          · simp at h3 h3' h1 h1'
            simp [lc, loopsOf, Tryz.f29, stK] at h
            simp [Tryz.f29, g3, h1, h1', hx, hne, hne', h]
            exact end_is (.inr rfl) (by simp; rfl) rfl (by simp only [List.length_cons, if_neg g4, h48, List.head?_cons, Option.some.injEq, reduceCtorEq, false_or, and_false, or_false]; simp [g4, h48]; exact hz.symm)
          · simp at h3 h3' h1 h1'
            simp [lc, loopsOf, Tryz.f29, stK] at h
            simp [Tryz.f29, g3, h1, h1', hx, hne, hne', h]
            exact end_is (.inr rfl) (by simp; rfl) rfl (by simp only [List.length_cons, if_neg g4, h48, List.head?_cons, Option.some.injEq, reduceCtorEq, false_or, and_false, or_false]; simp [g4, h48]; exact hz.symm)
      · have h1' : ¬ (1 : Int) < (b :: r).length := by omega
        have hr : r = [] := by
          cases r with
          | nil => rfl
          | cons c t => simp at h1
        subst hr
        rcases fin (fun h => h1 h.1) _ rfl with ⟨h, hz⟩ | ⟨v, h, hz⟩
        · simp [lc, loopsOf, Tryz.f29, stK] at h
          simp [Tryz.f29, hx, h]
          exact end_is (.inr rfl) (by simp; rfl) rfl (by simp; exact hz.symm)
        · simp [lc, loopsOf, Tryz.f29, stK] at h
          simp [Tryz.f29, hx, h]
          exact end_is (.inr rfl) (by simp; rfl) rfl (by simp; exact hz.symm)
theorem rnum_call {s : Tx} {d : Option Nat} {st : ASt} : callV G cl d (.fn (.func 29) [] []) [.str s] st = some (.val (.int .i64 (rnumV s)) st) := callV_ret E29 (by decide) ext29 rfl rfl (rnum_eq s) rfl

/-! The document's numbers are the path's -/
theorem rnum_digs : (List.range 1000).all (fun m => rnumB (digs m) == some m) = true := by kernel_rfl
theorem dig_of {b : UInt8} (h : digB b = true) : ∃ x : Nat, x < 10 ∧ b = UInt8.ofNat (48 + x) := by
  unfold digB at h
  simp only [decide_eq_true_eq] at h
  refine ⟨b.toNat - 48, by omega, ?_⟩
  rw [show 48 + (b.toNat - 48) = b.toNat by omega]; simp
theorem digs1 : ∀ x : Fin 10, digs (x.val) = [UInt8.ofNat (48 + x.val)] := by decide +kernel
theorem digs2 : ∀ x y : Fin 10, x.val ≠ 0 → digs (10 * x.val + y.val) = [UInt8.ofNat (48 + x.val), UInt8.ofNat (48 + y.val)] := by decide +kernel
theorem digs3 : ∀ x y z : Fin 10, x.val ≠ 0 → digs (10 * (10 * x.val + y.val) + z.val) = [UInt8.ofNat (48 + x.val), UInt8.ofNat (48 + y.val), UInt8.ofNat (48 + z.val)] := by decide +kernel
theorem of48 {x : Nat} (h : x < 10) : (UInt8.ofNat (48 + x)).toNat - 48 = x := by rw [UInt8.toNat_ofNat']; omega
theorem rnumB_some {s : Tx} {n : Nat} (h : rnumB s = some n) : n ≤ 999 ∧ digs n = s := by
  unfold rnumB at h
  split at h
  · cases h
  · rename_i hc
    have c0 : s ≠ [] := fun e => hc (.inl e)
    have c1 : ¬ 3 < s.length := fun e => hc (.inr (.inl e))
    have c2 : ¬ (1 < s.length ∧ s.head? = some 48) := fun e => hc (.inr (.inr e))
    match s, c0, c1, c2, h with
    | [a], _, _, _, h =>
      unfold valD at h
      split at h
      · rename_i ha
        obtain ⟨x, hx, rfl⟩ := dig_of ha
        rw [of48 hx] at h
        cases h
        have := digs1 ⟨x, hx⟩
        exact ⟨by omega, by simpa using this⟩
      · cases h
    | [a, b], _, _, c2, h =>
      unfold valD at h
      split at h
      · rename_i ha
        unfold valD at h
        split at h
        · rename_i hb
          obtain ⟨x, hx, rfl⟩ := dig_of ha
          obtain ⟨y, hy, rfl⟩ := dig_of hb
          rw [of48 hx, of48 hy] at h
          cases h
          have hx0 : x ≠ 0 := fun e => c2 (by subst e; simp)
          have := digs2 ⟨x, hx⟩ ⟨y, hy⟩ hx0
          exact ⟨by omega, by simpa using this⟩
        · cases h
      · cases h
    | [a, b, c], _, _, c2, h =>
      unfold valD at h
      split at h
      · rename_i ha
        unfold valD at h
        split at h
        · rename_i hb
          unfold valD at h
          split at h
          · rename_i hcc
            obtain ⟨x, hx, rfl⟩ := dig_of ha
            obtain ⟨y, hy, rfl⟩ := dig_of hb
            obtain ⟨z, hz, rfl⟩ := dig_of hcc
            rw [of48 hx, of48 hy, of48 hz] at h
            cases h
            have hx0 : x ≠ 0 := fun e => c2 (by subst e; simp)
            have := digs3 ⟨x, hx⟩ ⟨y, hy⟩ ⟨z, hz⟩ hx0
            exact ⟨by omega, by simpa using this⟩
          · cases h
        · cases h
      · cases h
    | a :: b :: c :: e :: t, _, c1, _, _ => exact absurd (by simp) c1
theorem rnum_num (s : Tx) : rnumB s = numD s := by
  cases h : rnumB s with
  | some n =>
    obtain ⟨h1, h2⟩ := rnumB_some h
    rw [← h2, (digs_num h1).1]
  | none =>
    cases h2 : numD s with
    | none => rfl
    | some m =>
      obtain ⟨h3, h4⟩ := numD_some h2
      have := List.all_eq_true.1 rnum_digs m (List.mem_range.2 (by omega))
      rw [h4] at this
      rw [eq_of_beq this] at h
      cases h
end Go.Proofs.YtbjphckpbkacaaaGreatDoor


/- What the document's Show comes to. -/
namespace Go.Proofs.YtbjphckpbkacaaaGreatDoor
open Go Abs
set_option linter.unusedSimpArgs false
set_option linter.unusedVariables false
attribute [local simp] canonK canonAll canonSlot canonCell canonBox ownStep restrictTo pureCells pureRows reachL AObj.names List.range_succ appendA
def stH (l : List Sp) (bs : Tx) (i : Nat) : ASt := ⟨[(0, stps l), (4, .str bs), (5, .int .i64 i)], []⟩
def upB (bs : Tx) (i : Nat) (x : Sp) (t : Tx) : Tx := (if i ≠ 0 ∧ x.2 < 0 then bs ++ [46] else bs) ++ t
set_option maxHeartbeats 16000000 in
set_option maxRecDepth 100000 in
theorem rshow_round (l : List Sp) (hl : l.length ≤ 1000000) (bs : Tx) (hb : bs.length ≤ 120) (i : Nat) (x : Sp) (hi : l[i]? = some x) (hx : x.1.length ≤ 1000000) (t : Tx) (ht : textB x = some t) :
    rX 11 (lc Tryz.f11 0) (codeX G cl lp 11 (lc Tryz.f11 0) (stH l bs i)) = some (.normal, stH l (upB bs i x t) (i + 1)) := by
  have hlt : i < l.length := (List.getElem?_eq_some_iff.1 hi).1
  have hw : IntKind.i64.wrap ((i : Int) + 1) = ((i + 1 : Nat) : Int) := by rw [i64_wrap (by omega) (by omega)]; omega
  have hb' : (bs.length : Int) ≤ 120 := by omega
  rcases textB_cases ht with ⟨m, hm, rfl, rfl⟩ | ⟨rfl, h3, h4⟩
  · have he : l[i] = ([], (m : Int)) := (List.getElem?_eq_some_iff.1 hi).2
    have hd := fun d st => rdigs_call (n := m) (by omega) (d := d) (st := st)
    have hneg : ¬ ((m : Int) < 0) := by omega
    have hm' : (m : Int) ≤ 999 := by omega
    have hdl : (digs m).length ≤ 3 := by unfold digs; split <;> (try split) <;> simp
    have L1 : bs.length + 1 ≤ LIM := by unfold LIM; omega
    have L2 : bs.length + 1 + (digs m).length ≤ LIM := by unfold LIM; omega
    have L3 : bs.length + ((digs m).length + 1) ≤ LIM := by unfold LIM; omega
    have L4 : bs.length + ((digs m).length + 1) + 1 ≤ LIM := by unfold LIM; omega
    have L5 : bs.length + 1 + (digs m).length + 1 ≤ LIM := by unfold LIM; omega
    have e : upB bs i ([], (m : Int)) (91 :: (digs m ++ [93])) = bs ++ 91 :: (digs m ++ [93]) := by simp [upB, hneg]
    rw [e]
    simp [lc, loopsOf, Tryz.f11, stH, stps, hlt, hi, he, hw, stV, hb, hb', hd, hm, hm', L1, L2, L3, L4, L5]
    done
  · have he : l[i] = (t, -1) := (List.getElem?_eq_some_iff.1 hi).2
    have hn := fun d st => rname_call (s := t) hx (d := d) (st := st)
    have hok : decide (t ≠ [] ∧ nameB t = t) = true := by simp [h3, h4]
    rw [hok] at hn
    have L1 : bs.length + 1 ≤ LIM := by unfold LIM; omega
    have hx' : t.length ≤ 1000000 := hx
    have L2 : bs.length + 1 + t.length ≤ LIM := by unfold LIM; omega
    have L3 : bs.length + t.length ≤ LIM := by unfold LIM; omega
    have L4 : bs.length + (t.length + 1) ≤ LIM := by unfold LIM; omega
    by_cases h0 : 0 < i
    · have h0' : (0 : Int) < i := by omega
      have e : upB bs i (t, -1) t = bs ++ 46 :: t := by
        have : i ≠ 0 := by omega
        simp [upB, this]
      rw [e]
      simp [lc, loopsOf, Tryz.f11, stH, stps, hlt, hi, he, hw, stV, hb, hb', hn, h3, h0, h0', L1, L2, L3, L4]
      done
    · have hd : decide (0 < i) = false := by simp; omega
      have e : upB bs i (t, -1) t = bs ++ t := by
        have : i = 0 := by omega
        simp [upB, this]
      rw [e]
      simp [lc, loopsOf, Tryz.f11, stH, stps, hlt, hi, he, hw, stV, hb, hb', hn, h3, hd, L1, L2, L3, L4]
      done
set_option maxHeartbeats 16000000 in
set_option maxRecDepth 100000 in
theorem rshow_bad (l : List Sp) (hl : l.length ≤ 1000000) (bs : Tx) (hb : bs.length ≤ 120) (i : Nat) (x : Sp) (hi : l[i]? = some x) (hx : x.1.length ≤ 1000000) (ht : textB x = none) :
    rX 11 (lc Tryz.f11 0) (codeX G cl lp 11 (lc Tryz.f11 0) (stH l bs i)) = some (.ret, ⟨[(2, .str []), (3, .int .i64 9)], []⟩) := by
  have hlt : i < l.length := (List.getElem?_eq_some_iff.1 hi).1
  have hb' : (bs.length : Int) ≤ 120 := by omega
  obtain ⟨k, n⟩ := x
  have he : l[i] = (k, n) := (List.getElem?_eq_some_iff.1 hi).2
  have hn := fun d st => rname_call (s := k) hx (d := d) (st := st)
  unfold textB at ht
  split at ht
  · cases ht
  · rename_i c1
    split at ht
    · cases ht
    · rename_i c2
      simp only at c1 c2
      by_cases h1 : n = -1
      · subst h1
        have hbad : decide (k ≠ [] ∧ nameB k = k) = false := by
          rw [decide_eq_false_iff_not]
          exact fun h => c2 ⟨rfl, h.1, h.2⟩
        rw [hbad] at hn
        by_cases h0 : k = []
        · subst h0
          simp [lc, loopsOf, Tryz.f11, stH, stps, hlt, hi, he, stV, hb, hb', hn]
          done
        · simp [lc, loopsOf, Tryz.f11, stH, stps, hlt, hi, he, stV, hb, hb', hn, h0]
          done
      · by_cases h0 : k = []
        · subst h0
          by_cases h2 : 0 ≤ n
          · have h3 : ¬ n ≤ 999 := fun h => c1 ⟨rfl, h2, h⟩
            simp [lc, loopsOf, Tryz.f11, stH, stps, hlt, hi, he, stV, hb, hb', h1, h2, h3]
            done
          · simp [lc, loopsOf, Tryz.f11, stH, stps, hlt, hi, he, stV, hb, hb', h1, h2]
            done
        · simp [lc, loopsOf, Tryz.f11, stH, stps, hlt, hi, he, stV, hb, hb', h1, h0]
          done
theorem rshow_end (l : List Sp) (bs : Tx) : rX 11 (lc Tryz.f11 0) (codeX G cl lp 11 (lc Tryz.f11 0) (stH l bs l.length)) = some (.exit 0, ⟨[(0, stps l), (4, .str bs), (5, .int .i64 l.length), (14, .bool false)], []⟩) := by
  simp [lc, loopsOf, Tryz.f11, stH, stps]
theorem rshow_long (l : List Sp) (bs : Tx) (hb : 120 < bs.length) (i : Nat) : rX 11 (lc Tryz.f11 0) (codeX G cl lp 11 (lc Tryz.f11 0) (stH l bs i)) = some (.exit 0, ⟨[(0, stps l), (4, .str bs), (5, .int .i64 i), (14, .bool false)], []⟩) := by
  have h1 : ¬ (bs.length : Int) ≤ 120 := by omega
  have h2 : ¬ bs.length ≤ 120 := by omega
  by_cases hlt : i < l.length
  · simp [lc, loopsOf, Tryz.f11, stH, stps, hlt, h1, h2]
  · simp [lc, loopsOf, Tryz.f11, stH, stps, hlt, h1, h2]
theorem rshow_loop (l : List Sp) (hl : l.length ≤ 1000000) (hk : ∀ x ∈ l, x.1.length ≤ 1000000) : ∀ (r pre : List Sp) (bs : Tx), l = pre ++ r → bs.length ≤ 120 →
    (lp 11 (lc Tryz.f11 0) (stH l bs pre.length) = some (.ret, ⟨[(2, .str []), (3, .int .i64 9)], []⟩) ∧ showB r (decide (pre.length = 0)) bs = none) ∨
    (∃ t n, lp 11 (lc Tryz.f11 0) (stH l bs pre.length) = some (.exit 0, ⟨[(0, stps l), (4, .str t), (5, n), (14, .bool false)], []⟩) ∧ showB r (decide (pre.length = 0)) bs = if 120 < t.length then none else some t)
  | [], pre, bs, e, hb => by
    have : pre.length = l.length := by rw [e]; simp
    rw [this]
    exact .inr ⟨bs, _, loop_out (rshow_end l bs) (by simp), by rw [if_neg (by omega)]; rfl⟩
  | x :: r, pre, bs, e, hb => by
    have hi : l[pre.length]? = some x := by rw [e]; simp
    have hx := hk x (List.mem_of_getElem? hi)
    have e2 : l = (pre ++ [x]) ++ r := by rw [e]; simp
    have hcond : (if decide (pre.length = 0) = false ∧ x.2 < 0 then bs ++ [46] else bs) = (if pre.length ≠ 0 ∧ x.2 < 0 then bs ++ [46] else bs) := by simp
    unfold showB
    rw [hcond]
    cases ht : textB x with
    | none => exact .inl ⟨loop_out (rshow_bad l hl bs hb pre.length x hi hx ht) (by simp), rfl⟩
    | some t =>
      have h1 := rshow_round l hl bs hb pre.length x hi hx t ht
      have hu : (if pre.length ≠ 0 ∧ x.2 < 0 then bs ++ [46] else bs) ++ t = upB bs pre.length x t := rfl
      simp only [hu]
      by_cases hlen : 120 < (upB bs pre.length x t).length
      · rw [if_pos hlen]
        exact .inr ⟨_, _, loop_next h1 (loop_out (rshow_long l _ hlen _) (by simp)), by rw [if_pos hlen]⟩
      · rw [if_neg hlen]
        have h2 := rshow_loop l hl hk r (pre ++ [x]) (upB bs pre.length x t) e2 (Nat.le_of_not_lt hlen)
        rw [List.length_append, show pre.length + [x].length = pre.length + 1 from rfl] at h2
        have hd : decide (pre.length + 1 = 0) = false := by simp
        rw [hd] at h2
        rcases h2 with ⟨h2, h3⟩ | ⟨t', n, h2, h3⟩
        · exact .inl ⟨loop_next h1 h2, h3⟩
        · exact .inr ⟨t', n, loop_next h1 h2, h3⟩
set_option maxHeartbeats 16000000 in
set_option maxRecDepth 100000 in
theorem rshow_eq (l : List Sp) (hl : l.length ≤ 1000000) (hk : ∀ x ∈ l, x.1.length ≤ 1000000) : cl 11 [stps l] [] = some (.ret (showV (showB l true [])), []) := by
  refine fn_intro Tryz.func11 rfl (by simp) (by decide) rfl ?_
  rcases rshow_loop l hl hk l [] [] rfl (by simp) with ⟨h, hs⟩ | ⟨t, n, h, hs⟩
  · simp at hs
    rw [hs]
    simp [lc, loopsOf, Tryz.f11, stH, stps] at h
    simp [Tryz.f11, stps, h]
    exact end_is (.inr rfl) (by simp; rfl) rfl rfl
  · simp only [List.length_nil, decide_true] at hs
    rw [hs]
    simp [lc, loopsOf, Tryz.f11, stH, stps] at h
    by_cases hlen : 120 < t.length
    · have hlen' : (120 : Int) < t.length := by omega
      rw [if_pos hlen]
      simp [Tryz.f11, stps, h, hlen, hlen']
      exact end_is (.inr rfl) (by simp; rfl) rfl rfl
    · have hlen' : ¬ (120 : Int) < t.length := by omega
      rw [if_neg hlen]
      simp [Tryz.f11, stps, h, hlen, hlen']
      exact end_is (.inr rfl) (by simp; rfl) rfl rfl
end Go.Proofs.YtbjphckpbkacaaaGreatDoor


/- What the document's Parse comes to. -/
namespace Go.Proofs.YtbjphckpbkacaaaGreatDoor
open Go Abs
set_option linter.unusedSimpArgs false
set_option linter.unusedVariables false
attribute [local simp] canonK canonAll canonSlot canonCell canonBox ownStep restrictTo pureCells pureRows reachL AObj.names List.range_succ appendA
def hpR (acc : List Sp) (mv : Bool) : Heap := [(5004, .row 2 (acc.map stV) false ⟨mv, 68⟩)]
def stR (s : Tx) (acc : List Sp) (mv : Bool) (a : Nat) : ASt := ⟨[(0, .str s), (4, .own 5004), (5, .int .i64 a)], hpR acc mv⟩
def stR6 (s : Tx) (acc : List Sp) (mv : Bool) (a e : Nat) : ASt := ⟨[(0, .str s), (4, .own 5004), (5, .int .i64 a), (6, .int .i64 e)], hpR acc mv⟩
def stR7 (s : Tx) (acc : List Sp) (mv : Bool) (a e : Nat) : ASt := ⟨[(0, .str s), (4, .own 5004), (5, .int .i64 a), (7, .int .i64 e)], hpR acc mv⟩
set_option maxHeartbeats 16000000 in
theorem f1_round (s : Tx) (hs : s.length ≤ 1000000) (acc : List Sp) (mv : Bool) (a e : Nat) (b : UInt8) (hb : s[e]? = some b) (h93 : b ≠ 93) : rX 9 (lc Tryz.f9 1) (codeX G cl lp 9 (lc Tryz.f9 1) (stR6 s acc mv a e)) = some (.normal, stR6 s acc mv a (e + 1)) := by
  have hlt : e < s.length := (List.getElem?_eq_some_iff.1 hb).1
  have hw : IntKind.i64.wrap ((e : Int) + 1) = ((e + 1 : Nat) : Int) := by rw [i64_wrap (by omega) (by omega)]; omega
  have hx := strx_at hb
  have hn : ¬ b.toNat = 93 := fun h => h93 (by rw [← UInt8.toNat_inj]; exact h)
  have hn' : ¬ (b.toNat : Int) = 93 := by omega
  simp [lc, loopsOf, Tryz.f9, stR6, hpR, hlt, hw, hx, hn, hn']
  done
set_option maxHeartbeats 16000000 in
theorem f1_stop (s : Tx) (hs : s.length ≤ 1000000) (acc : List Sp) (mv : Bool) (a e : Nat) (h : ∀ b, s[e]? = some b → b = 93) : rX 9 (lc Tryz.f9 1) (codeX G cl lp 9 (lc Tryz.f9 1) (stR6 s acc mv a e)) = some (.exit 2, ⟨[(0, .str s), (4, .own 5004), (5, .int .i64 a), (6, .int .i64 e), (29, .bool false)], hpR acc mv⟩) := by
  cases hb : s[e]? with
  | none =>
    have hlt : ¬ e < s.length := by have := List.getElem?_eq_none_iff.1 hb; omega
    simp [lc, loopsOf, Tryz.f9, stR6, hpR, hlt]
    done
  | some b =>
    have hlt : e < s.length := (List.getElem?_eq_some_iff.1 hb).1
    have hx := strx_at hb
    have hn : b.toNat = 93 := by rw [h b hb]; rfl
    simp [lc, loopsOf, Tryz.f9, stR6, hpR, hlt, hx, hn]
    done
theorem f1_loop (s : Tx) (hs : s.length ≤ 1000000) (acc : List Sp) (mv : Bool) (a : Nat) : ∀ (r pre : Tx) (E : Nat), s = pre ++ r → E = pre.length + (match cutX r 93 with | some p => p.1.length | none => r.length) →
    lp 9 (lc Tryz.f9 1) (stR6 s acc mv a pre.length) = some (.exit 2, ⟨[(0, .str s), (4, .own 5004), (5, .int .i64 a), (6, .int .i64 E), (29, .bool false)], hpR acc mv⟩)
  | [], pre, E, e, hE => by
    have : E = pre.length := by rw [hE]; simp [cutX]
    rw [this]
    exact loop_out (f1_stop s hs acc mv a _ (fun b hb => by rw [e] at hb; simp at hb)) (by simp)
  | b :: r, pre, E, e, hE => by
    have hb : s[pre.length]? = some b := by rw [e]; simp
    by_cases h93 : b = 93
    · have : E = pre.length := by rw [hE]; simp [cutX, h93]
      rw [this]
      exact loop_out (f1_stop s hs acc mv a _ (fun b' hb' => by rw [hb] at hb'; cases hb'; exact h93)) (by simp)
    · have h1 := f1_round s hs acc mv a pre.length b hb h93
      have h2 := f1_loop s hs acc mv a r (pre ++ [b]) E (by rw [e]; simp) (by
        rw [hE, List.length_append]
        simp only [cutX, if_neg h93]
        cases cutX r 93 with
        | none => show pre.length + (r.length + 1) = pre.length + 1 + r.length; omega
        | some p => show pre.length + (p.1.length + 1) = pre.length + 1 + p.1.length; omega)
      rw [List.length_append, show pre.length + [b].length = pre.length + 1 from rfl] at h2
      exact loop_next h1 h2
set_option maxHeartbeats 16000000 in
theorem f2_round (s : Tx) (hs : s.length ≤ 1000000) (acc : List Sp) (mv : Bool) (a e : Nat) (b : UInt8) (hb : s[e]? = some b) (hn : namedB b = true) : rX 9 (lc Tryz.f9 2) (codeX G cl lp 9 (lc Tryz.f9 2) (stR7 s acc mv a e)) = some (.normal, stR7 s acc mv a (e + 1)) := by
  have hlt : e < s.length := (List.getElem?_eq_some_iff.1 hb).1
  have hw : IntKind.i64.wrap ((e : Int) + 1) = ((e + 1 : Nat) : Int) := by rw [i64_wrap (by omega) (by omega)]; omega
  have hx := strx_at hb
  have hc := fun d st => rnamed_call (c := b) (d := d) (st := st)
  rw [hn] at hc
  simp [lc, loopsOf, Tryz.f9, stR7, hpR, hlt, hw, hx, hc]
  done
set_option maxHeartbeats 16000000 in
theorem f2_stop (s : Tx) (hs : s.length ≤ 1000000) (acc : List Sp) (mv : Bool) (a e : Nat) (h : ∀ b, s[e]? = some b → namedB b = false) : rX 9 (lc Tryz.f9 2) (codeX G cl lp 9 (lc Tryz.f9 2) (stR7 s acc mv a e)) = some (.exit 4, ⟨[(0, .str s), (4, .own 5004), (5, .int .i64 a), (7, .int .i64 e), (75, .bool false)], hpR acc mv⟩) := by
  cases hb : s[e]? with
  | none =>
    have hlt : ¬ e < s.length := by have := List.getElem?_eq_none_iff.1 hb; omega
    simp [lc, loopsOf, Tryz.f9, stR7, hpR, hlt]
    done
  | some b =>
    have hlt : e < s.length := (List.getElem?_eq_some_iff.1 hb).1
    have hx := strx_at hb
    have hc := fun d st => rnamed_call (c := b) (d := d) (st := st)
    rw [h b hb] at hc
    simp [lc, loopsOf, Tryz.f9, stR7, hpR, hlt, hx, hc]
    done
theorem f2_loop (s : Tx) (hs : s.length ≤ 1000000) (acc : List Sp) (mv : Bool) (a : Nat) : ∀ (r pre : Tx) (E : Nat), s = pre ++ r → E = pre.length + (nameB r).length →
    lp 9 (lc Tryz.f9 2) (stR7 s acc mv a pre.length) = some (.exit 4, ⟨[(0, .str s), (4, .own 5004), (5, .int .i64 a), (7, .int .i64 E), (75, .bool false)], hpR acc mv⟩)
  | [], pre, E, e, hE => by
    have : E = pre.length := by rw [hE]; simp [nameB]
    rw [this]
    exact loop_out (f2_stop s hs acc mv a _ (fun b hb => by rw [e] at hb; simp at hb)) (by simp)
  | b :: r, pre, E, e, hE => by
    have hb : s[pre.length]? = some b := by rw [e]; simp
    by_cases hn : namedB b = true
    · have h1 := f2_round s hs acc mv a pre.length b hb hn
      have h2 := f2_loop s hs acc mv a r (pre ++ [b]) E (by rw [e]; simp) (by
        rw [hE, List.length_append, nameB_cons, if_pos hn]; simp; omega)
      rw [List.length_append, show pre.length + [b].length = pre.length + 1 from rfl] at h2
      exact loop_next h1 h2
    · have : E = pre.length := by rw [hE, nameB_cons, if_neg hn]; simp
      rw [this]
      exact loop_out (f2_stop s hs acc mv a _ (fun b' hb' => by rw [hb] at hb'; cases hb'; simpa using hn)) (by simp)
set_option maxHeartbeats 32000000 in
set_option maxRecDepth 100000 in
theorem rp_place (s : Tx) (hs : s.length ≤ 1000000) (acc : List Sp) (ha : acc.length ≤ 1000000) (mv : Bool) (pre r x y : Tx) (e : s = pre ++ 91 :: r) (hc : cutX r 93 = some (x, y)) (n : Nat) (hn : numD x = some n) :
    rX 9 (lc Tryz.f9 0) (codeX G cl lp 9 (lc Tryz.f9 0) (stR s acc mv pre.length)) = some (.normal, stR s (acc ++ [([], (n : Int))]) true (pre ++ 91 :: (x ++ [93])).length) := by
  have hr := (cutX_some hc).1
  have hb : s[pre.length]? = some 91 := by rw [e]; simp
  have hlt : pre.length < s.length := (List.getElem?_eq_some_iff.1 hb).1
  have hx := strx_at hb
  have h91 : ((91 : UInt8).toNat : Int) = 91 := rfl
  rw [h91] at hx
  have hlen : s.length = pre.length + 1 + x.length + 1 + y.length := by rw [e, hr]; simp; omega
  obtain ⟨E, hE⟩ : ∃ E, E = pre.length + 1 + x.length := ⟨_, rfl⟩
  have hf := f1_loop s hs acc mv pre.length (91 :: r) pre E e (by rw [hE]; simp [cutX, hc]; show pre.length + 1 + x.length = pre.length + (x.length + 1); omega)
  have hsl : (s.take E).drop (pre.length + 1) = x := by
    rw [e, hr, hE, show pre.length + 1 + x.length = (pre ++ 91 :: x).length by simp; omega, show pre ++ 91 :: (x ++ 93 :: y) = (pre ++ 91 :: x) ++ 93 :: y by simp]
    rw [List.take_left]
    rw [show pre ++ 91 :: x = (pre ++ [91]) ++ x by simp, show pre.length + 1 = (pre ++ [91]).length by simp, List.drop_left]
  have hnum := fun d st => rnum_call (s := x) (d := d) (st := st)
  have hv : rnumV x = n := by unfold rnumV; rw [rnum_num, hn]
  rw [hv] at hnum
  have hlast : (pre ++ 91 :: (x ++ [93])).length = E + 1 := by rw [hE]; simp; omega
  rw [hlast]
  have hEl : ¬ E = s.length := by omega
  have hEl' : ¬ (E : Int) = s.length := by omega
  have hE1 : E ≤ s.length := by omega
  have hE2 : pre.length + 1 ≤ E := by omega
  generalize pre.length = A at *
  have w1 : IntKind.i64.wrap ((A : Int) + 1) = ((A + 1 : Nat) : Int) := by rw [i64_wrap (by omega) (by omega)]; omega
  have w2 : IntKind.i64.wrap ((E : Int) + 1) = ((E + 1 : Nat) : Int) := by rw [i64_wrap (by omega) (by omega)]; omega
  have hp1 : (0 : Int) ≤ (A : Int) + 1 := by omega
  have hn0 : ¬ (n : Int) < 0 := by omega
  have hL : acc.length + 1 ≤ LIM := by unfold LIM; omega
  simp [lc, loopsOf, Tryz.f9, stR6, hpR] at hf
  simp [lc, loopsOf, Tryz.f9, stR, hpR, hlt, hx, hf, hEl, hEl', w1, w2, hp1, hE1, hE2, hsl, hnum, hn0, hL, stV]
  done
set_option maxHeartbeats 32000000 in
set_option maxRecDepth 100000 in
theorem rp_noplace (s : Tx) (hs : s.length ≤ 1000000) (acc : List Sp) (ha : acc.length ≤ 1000000) (mv : Bool) (pre r : Tx) (e : s = pre ++ 91 :: r) (hn : ∀ x y, cutX r 93 = some (x, y) → numD x = none) :
    ∃ hp, rX 9 (lc Tryz.f9 0) (codeX G cl lp 9 (lc Tryz.f9 0) (stR s acc mv pre.length)) = some (.ret, ⟨[(2, .nils), (3, .int .i64 9)], hp⟩) := by
  have hb : s[pre.length]? = some 91 := by rw [e]; simp
  have hlt : pre.length < s.length := (List.getElem?_eq_some_iff.1 hb).1
  have hx := strx_at hb
  have h91 : ((91 : UInt8).toNat : Int) = 91 := rfl
  rw [h91] at hx
  generalize hq : rX 9 (lc Tryz.f9 0) (codeX G cl lp 9 (lc Tryz.f9 0) (stR s acc mv pre.length)) = q
  cases hc : cutX r 93 with
  | none =>
    have hf := f1_loop s hs acc mv pre.length (91 :: r) pre s.length e (by rw [e]; simp [cutX, hc])
    generalize pre.length = A at *
    simp [lc, loopsOf, Tryz.f9, stR6, hpR] at hf
    simp [lc, loopsOf, Tryz.f9, stR, hpR, hlt, hx, hf] at hq
    subst hq; exact ⟨_, rfl⟩
  | some p =>
    obtain ⟨x, y⟩ := p
    have hr := (cutX_some hc).1
    have hlen : s.length = pre.length + 1 + x.length + 1 + y.length := by rw [e, hr]; simp; omega
    obtain ⟨E, hE⟩ : ∃ E, E = pre.length + 1 + x.length := ⟨_, rfl⟩
    have hf := f1_loop s hs acc mv pre.length (91 :: r) pre E e (by rw [hE]; simp [cutX, hc]; show pre.length + 1 + x.length = pre.length + (x.length + 1); omega)
    have hsl : (s.take E).drop (pre.length + 1) = x := by
      rw [e, hr, hE, show pre.length + 1 + x.length = (pre ++ 91 :: x).length by simp; omega, show pre ++ 91 :: (x ++ 93 :: y) = (pre ++ 91 :: x) ++ 93 :: y by simp]
      rw [List.take_left]
      rw [show pre ++ 91 :: x = (pre ++ [91]) ++ x by simp, show pre.length + 1 = (pre ++ [91]).length by simp, List.drop_left]
    have hnum := fun d st => rnum_call (s := x) (d := d) (st := st)
    have hv : rnumV x = -1 := by unfold rnumV; rw [rnum_num, hn x y hc]
    rw [hv] at hnum
    have hEl : ¬ E = s.length := by omega
    have hEl' : ¬ (E : Int) = s.length := by omega
    have hE1 : E ≤ s.length := by omega
    have hE2 : pre.length + 1 ≤ E := by omega
    generalize pre.length = A at *
    have w1 : IntKind.i64.wrap ((A : Int) + 1) = ((A + 1 : Nat) : Int) := by rw [i64_wrap (by omega) (by omega)]; omega
    have hp1 : (0 : Int) ≤ (A : Int) + 1 := by omega
    simp [lc, loopsOf, Tryz.f9, stR6, hpR] at hf
    simp [lc, loopsOf, Tryz.f9, stR, hpR, hlt, hx, hf, hEl, hEl', w1, hp1, hE1, hE2, hsl, hnum] at hq
    subst hq; exact ⟨_, rfl⟩
theorem not91 {b : UInt8} {c : UInt8} (h : b ≠ c) : ¬ b.toNat = c.toNat := fun e => h (by rw [← UInt8.toNat_inj]; exact e)
set_option maxHeartbeats 32000000 in
set_option maxRecDepth 100000 in
/-- A name; the place is behind a dot, if any. -/
theorem rp_name (s : Tx) (hs : s.length ≤ 1000000) (acc : List Sp) (ha : acc.length ≤ 1000000) (mv : Bool) (pre : Tx) (b : UInt8) (r u : Tx) (e : s = pre ++ b :: r) (h91 : b ≠ 91)
    (hu : (pre = [] ∧ u = b :: r) ∨ (pre ≠ [] ∧ b = 46 ∧ u = r)) (P : Nat) (hP : P = if pre = [] then 0 else pre.length + 1) :
    (nameB u ≠ [] → rX 9 (lc Tryz.f9 0) (codeX G cl lp 9 (lc Tryz.f9 0) (stR s acc mv pre.length)) = some (.normal, stR s (acc ++ [(nameB u, -1)]) true (P + (nameB u).length))) ∧
    (nameB u = [] → ∃ hp, rX 9 (lc Tryz.f9 0) (codeX G cl lp 9 (lc Tryz.f9 0) (stR s acc mv pre.length)) = some (.ret, ⟨[(2, .nils), (3, .int .i64 9)], hp⟩)) := by
  have hb : s[pre.length]? = some b := by rw [e]; simp
  have hlt : pre.length < s.length := (List.getElem?_eq_some_iff.1 hb).1
  have hx := strx_at hb
  have n91 : ¬ b.toNat = 91 := not91 (c := 91) h91
  have n91' : ¬ (b.toNat : Int) = 91 := by omega
  obtain ⟨pp, hpp, hpl⟩ : ∃ pp : Tx, s = pp ++ u ∧ pp.length = P := by
    rcases hu with ⟨h1, h2⟩ | ⟨h1, h2, h3⟩
    · exact ⟨[], by rw [e, h1, h2], by rw [hP, if_pos h1]; rfl⟩
    · exact ⟨pre ++ [46], by rw [e, h2, h3]; simp, by rw [hP, if_neg h1]; simp⟩
  have hPl : P + u.length = s.length := by rw [hpp, ← hpl]; simp
  obtain ⟨E, hE⟩ : ∃ E, E = P + (nameB u).length := ⟨_, rfl⟩
  have hf := f2_loop s hs acc mv P u pp E hpp (by rw [hpl, hE])
  rw [hpl] at hf
  have hle : (nameB u).length ≤ u.length := List.Sublist.length_le (List.takeWhile_sublist _)
  have hE1 : E ≤ s.length := by omega
  have hE2 : P ≤ E := by omega
  have hsl : (s.take E).drop P = nameB u := by
    have h1 := name_split u
    rw [hpp]
    conv => lhs; rw [h1]
    rw [hE, ← hpl, show pp.length + (nameB u).length = (pp ++ nameB u).length by simp, ← List.append_assoc, List.take_left, List.drop_left]
  have hL : acc.length + 1 ≤ LIM := by unfold LIM; omega
  simp [lc, loopsOf, Tryz.f9, stR7, hpR] at hf
  by_cases h0 : pre = []
  · have hP0 : P = 0 := by rw [hP, if_pos h0]
    have hA : pre.length = 0 := by rw [h0]; rfl
    rw [hA] at hx hlt hb ⊢
    rw [hP0] at hf hE hE2 hsl ⊢
    simp only [Int.natCast_zero] at hx hf
    simp only [Nat.zero_add] at hE ⊢
    simp only [List.drop_zero] at hsl
    have hlt' : (0 : Int) < s.length := by omega
    constructor
    · intro hk
      have hE0 : ¬ E = 0 := by rw [hE]; exact fun h => hk (List.length_eq_zero_iff.1 h)
      have hE0' : ¬ (E : Int) = 0 := by omega
      rw [← hE]
      simp [lc, loopsOf, Tryz.f9, stR, hpR, hlt, hlt', hx, n91, n91', hf, hE0, hE0', hE1, hsl, hL, stV]
      done
    · intro hk
      have hE0 : E = 0 := by rw [hE, hk]; rfl
      subst hE0
      generalize hq : rX 9 (lc Tryz.f9 0) (codeX G cl lp 9 (lc Tryz.f9 0) (stR s acc mv 0)) = q
      simp only [Int.natCast_zero] at hf
      simp [lc, loopsOf, Tryz.f9, stR, hpR, hlt, hlt', hx, n91, n91', hf] at hq
      subst hq; exact ⟨_, rfl⟩
  · have hP0 : P = pre.length + 1 := by rw [hP, if_neg h0]
    have hb46 : b = 46 := by
      rcases hu with ⟨h1, _⟩ | ⟨_, h2, _⟩
      · exact absurd h1 h0
      · exact h2
    have n46 : b.toNat = 46 := by rw [hb46]; rfl
    have hpos : 0 < pre.length := List.length_pos_iff.2 h0
    rw [n46] at hx
    generalize pre.length = A at *
    have w1 : IntKind.i64.wrap ((A : Int) + 1) = (P : Int) := by rw [i64_wrap (by omega) (by omega)]; omega
    have hpos' : (0 : Int) < A := by omega
    constructor
    · intro hk
      have hEP : ¬ E = P := by
        rw [hE]
        have : (nameB u).length ≠ 0 := fun h => hk (List.length_eq_zero_iff.1 h)
        omega
      have hEP' : ¬ (E : Int) = P := by omega
      rw [← hE]
      simp [lc, loopsOf, Tryz.f9, stR, hpR, hlt, hx, hpos, hpos', w1, hf, hEP, hEP', hE1, hE2, hsl, hL, stV]
      done
    · intro hk
      have hE0 : E = P := by rw [hE, hk]; simp
      subst hE0
      generalize hq : rX 9 (lc Tryz.f9 0) (codeX G cl lp 9 (lc Tryz.f9 0) (stR s acc mv A)) = q
      simp [lc, loopsOf, Tryz.f9, stR, hpR, hlt, hx, hpos, hpos', w1, hf] at hq
      subst hq; exact ⟨_, rfl⟩
set_option maxHeartbeats 32000000 in
theorem rp_nodot (s : Tx) (hs : s.length ≤ 1000000) (acc : List Sp) (mv : Bool) (pre : Tx) (b : UInt8) (r : Tx) (e : s = pre ++ b :: r) (h91 : b ≠ 91) (h0 : pre ≠ []) (h46 : b ≠ 46) :
    ∃ hp, rX 9 (lc Tryz.f9 0) (codeX G cl lp 9 (lc Tryz.f9 0) (stR s acc mv pre.length)) = some (.ret, ⟨[(2, .nils), (3, .int .i64 9)], hp⟩) := by
  have hb : s[pre.length]? = some b := by rw [e]; simp
  have hlt : pre.length < s.length := (List.getElem?_eq_some_iff.1 hb).1
  have hx := strx_at hb
  have n91 : ¬ b.toNat = 91 := not91 (c := 91) h91
  have n91' : ¬ (b.toNat : Int) = 91 := by omega
  have n46 : ¬ b.toNat = 46 := not91 (c := 46) h46
  have n46' : ¬ (b.toNat : Int) = 46 := by omega
  have hpos : 0 < pre.length := List.length_pos_iff.2 h0
  have hpos' : (0 : Int) < pre.length := by omega
  generalize hq : rX 9 (lc Tryz.f9 0) (codeX G cl lp 9 (lc Tryz.f9 0) (stR s acc mv pre.length)) = q
  generalize pre.length = A at *
  simp [lc, loopsOf, Tryz.f9, stR, hpR, hlt, hx, n91, n91', n46, n46', hpos, hpos'] at hq
  subst hq; exact ⟨_, rfl⟩
theorem rp_end (s : Tx) (acc : List Sp) (mv : Bool) : rX 9 (lc Tryz.f9 0) (codeX G cl lp 9 (lc Tryz.f9 0) (stR s acc mv s.length)) = some (.exit 0, ⟨[(0, .str s), (4, .own 5004), (5, .int .i64 s.length), (14, .bool false)], hpR acc mv⟩) := by
  simp [lc, loopsOf, Tryz.f9, stR, hpR]
theorem rp_loop (s : Tx) (hs : s.length ≤ 1000000) : ∀ (n : Nat) (left pre : Tx) (acc : List Sp) (mv : Bool), s = pre ++ left → left.length ≤ n → n + acc.length ≤ 1000000 → (acc = [] ↔ pre = []) →
    (∃ hp, lp 9 (lc Tryz.f9 0) (stR s acc mv pre.length) = some (.ret, ⟨[(2, .nils), (3, .int .i64 9)], hp⟩) ∧ parseB n left acc = none) ∨
    (∃ mv' l, lp 9 (lc Tryz.f9 0) (stR s acc mv pre.length) = some (.exit 0, ⟨[(0, .str s), (4, .own 5004), (5, .int .i64 s.length), (14, .bool false)], hpR l mv'⟩) ∧ parseB n left acc = some l)
  | n, [], pre, acc, mv, e, hn, hna, hap => by
    have : pre.length = s.length := by rw [e]; simp
    rw [this]
    refine .inr ⟨mv, acc, loop_out (rp_end s acc mv) (by simp), ?_⟩
    cases n <;> rfl
  | 0, b :: r, pre, acc, mv, e, hn, hna, hap => by simp at hn
  | n + 1, b :: r, pre, acc, mv, e, hn, hna, hap => by
    have ha : acc.length ≤ 1000000 := by omega
    have go : ∀ x left' pre', stepP (b :: r) (decide (acc ≠ [])) = some (x, left') → s = pre' ++ left' → pre' ≠ [] →
        rX 9 (lc Tryz.f9 0) (codeX G cl lp 9 (lc Tryz.f9 0) (stR s acc mv pre.length)) = some (.normal, stR s (acc ++ [x]) true pre'.length) →
        (∃ hp, lp 9 (lc Tryz.f9 0) (stR s acc mv pre.length) = some (.ret, ⟨[(2, .nils), (3, .int .i64 9)], hp⟩) ∧ parseB n left' (acc ++ [x]) = none) ∨
        (∃ mv' l, lp 9 (lc Tryz.f9 0) (stR s acc mv pre.length) = some (.exit 0, ⟨[(0, .str s), (4, .own 5004), (5, .int .i64 s.length), (14, .bool false)], hpR l mv'⟩) ∧ parseB n left' (acc ++ [x]) = some l) := by
      intro x left' pre' h1 h2 h3 h4
      have := stepP_less h1
      rcases rp_loop s hs n left' pre' (acc ++ [x]) true h2 (by simp at hn this; omega) (by simp; omega) (by simp [h3]) with ⟨hp, h5, h6⟩ | ⟨mv', l, h5, h6⟩
      · exact .inl ⟨hp, loop_next h4 h5, h6⟩
      · exact .inr ⟨mv', l, loop_next h4 h5, h6⟩
    show (∃ hp, _ ∧ (match stepP (b :: r) (decide (acc ≠ [])) with | none => none | some (x, s') => parseB n s' (acc ++ [x])) = none) ∨ (∃ mv' l, _ ∧ (match stepP (b :: r) (decide (acc ≠ [])) with | none => none | some (x, s') => parseB n s' (acc ++ [x])) = some l)
    by_cases h91 : b = 91
    · subst h91
      cases hc : cutX r 93 with
      | none =>
        obtain ⟨hp, h⟩ := rp_noplace s hs acc ha mv pre r e (fun x y h => by rw [hc] at h; cases h)
        exact .inl ⟨hp, loop_out h (by simp), by simp [stepP, hc]⟩
      | some p =>
        obtain ⟨x, y⟩ := p
        cases hn' : numD x with
        | none =>
          obtain ⟨hp, h⟩ := rp_noplace s hs acc ha mv pre r e (fun x' y' h => by rw [hc] at h; cases h; exact hn')
          exact .inl ⟨hp, loop_out h (by simp), by simp [stepP, hc, hn']⟩
        | some k =>
          have h1 : stepP (91 :: r) (decide (acc ≠ [])) = some (([], (k : Int)), y) := by simp [stepP, hc, hn']
          rw [h1]
          have hr := (cutX_some hc).1
          exact go _ _ (pre ++ 91 :: (x ++ [93])) h1 (by rw [e, hr]; simp) (by simp) (rp_place s hs acc ha mv pre r x y e hc k hn')
    · have hh : ¬ (b :: r).head? = some 91 := by simpa using h91
      by_cases h0 : pre = []
      · have ha0 : acc = [] := hap.2 h0
        have hu : (pre = [] ∧ (b :: r) = b :: r) ∨ (pre ≠ [] ∧ b = 46 ∧ (b :: r) = r) := .inl ⟨h0, rfl⟩
        obtain ⟨g1, g2⟩ := rp_name s hs acc ha mv pre b r (b :: r) e h91 hu 0 (by rw [if_pos h0])
        by_cases hk : nameB (b :: r) = []
        · obtain ⟨hp, h⟩ := g2 hk
          refine .inl ⟨hp, loop_out h (by simp), ?_⟩
          have : stepP (b :: r) (decide (acc ≠ [])) = none := by
            unfold stepP
            rw [if_neg hh]
            simp [ha0, hk]
          rw [this]
        · have h1 : stepP (b :: r) (decide (acc ≠ [])) = some ((nameB (b :: r), -1), (b :: r).drop (nameB (b :: r)).length) := by
            unfold stepP
            rw [if_neg hh]
            simp [ha0, hk]
          rw [h1]
          have h2 := g1 hk
          rw [Nat.zero_add] at h2
          exact go _ _ (nameB (b :: r)) h1 (by rw [e, h0]; exact name_split _) hk h2
      · have ha0 : acc ≠ [] := fun h => h0 (hap.1 h)
        by_cases h46 : b = 46
        · have hu : (pre = [] ∧ r = b :: r) ∨ (pre ≠ [] ∧ b = 46 ∧ r = r) := .inr ⟨h0, h46, rfl⟩
          obtain ⟨g1, g2⟩ := rp_name s hs acc ha mv pre b r r e h91 hu (pre.length + 1) (by rw [if_neg h0])
          by_cases hk : nameB r = []
          · obtain ⟨hp, h⟩ := g2 hk
            refine .inl ⟨hp, loop_out h (by simp), ?_⟩
            have : stepP (b :: r) (decide (acc ≠ [])) = none := by
              unfold stepP
              rw [if_neg hh]
              simp [ha0, h46, hk]
            rw [this]
          · have h1 : stepP (b :: r) (decide (acc ≠ [])) = some ((nameB r, -1), r.drop (nameB r).length) := by
              unfold stepP
              rw [if_neg hh]
              simp [ha0, h46, hk]
            rw [h1]
            have h2 := g1 hk
            refine go _ _ (pre ++ [46] ++ nameB r) h1 ?_ (by simp) ?_
            · rw [e, h46]
              have := name_split r
              conv => lhs; rw [this]
              simp
            · have hq : List.length (pre ++ [46] ++ nameB r) = List.length pre + 1 + List.length (nameB r) := by rw [List.length_append, List.length_append]; rfl
              rw [hq]
              exact h2
        · obtain ⟨hp, h⟩ := rp_nodot s hs acc mv pre b r e h91 h0 h46
          refine .inl ⟨hp, loop_out h (by simp), ?_⟩
          have : stepP (b :: r) (decide (acc ≠ [])) = none := by
            unfold stepP
            rw [if_neg hh]
            simp [ha0, h46]
          rw [this]
set_option maxHeartbeats 16000000 in
set_option maxRecDepth 100000 in
theorem rparse_eq (s : Tx) (hs : s.length ≤ 1000000) : cl 9 [.str s] [] = some (.ret (parseV (parseS s)), []) := by
  refine fn_intro Tryz.func9 rfl (by simp) (by decide) rfl ?_
  unfold parseS
  by_cases hl : 120 < s.length
  · have hl' : (120 : Int) < s.length := by omega
    rw [if_pos hl]
    simp [Tryz.f9, hl, hl']
    exact end_is (.inr rfl) (by simp; rfl) rfl rfl
  · have hl' : ¬ (120 : Int) < s.length := by omega
    rw [if_neg hl]
    rcases rp_loop s hs s.length s [] [] false rfl (Nat.le_refl _) (by simp; omega) (by simp) with ⟨hp, h, hr⟩ | ⟨mv', l, h, hr⟩
    · rw [hr]
      simp [lc, loopsOf, Tryz.f9, stR, hpR] at h
      simp [Tryz.f9, hl, hl', h]
      exact end_is (.inr rfl) (by simp; rfl) rfl rfl
    · rw [hr]
      simp [lc, loopsOf, Tryz.f9, stR, hpR] at h
      simp [Tryz.f9, hl, hl', h]
      exact end_rv (.inr rfl) (by simp; rfl) rfl rfl (by simp [parseV, stps])
end Go.Proofs.YtbjphckpbkacaaaGreatDoor


/- What PathBack comes to. -/
namespace Go.Proofs.YtbjphckpbkacaaaGreatDoor
open Go Abs
set_option linter.unusedSimpArgs false
set_option linter.unusedVariables false
attribute [local simp] canonK canonAll canonSlot canonCell canonBox ownStep restrictTo pureCells pureRows reachL AObj.names List.range_succ appendA
theorem parseV_names {o} : (parseV o).names = [] := by cases o <;> simp [parseV, stps]
theorem showV_names {o} : (showV o).names = [] := by cases o <;> simp [showV]
theorem parse_call {s : Tx} (hs : s.length ≤ 1000000) {d : Option Nat} {st : ASt} : callV G cl d (.fn (.func 8) [] []) [.str s] st = some (.val (parseV (parseS s)) st) := callV_ret E8 (by decide) ext8 rfl rfl (parse_eq s hs) parseV_names
theorem show_call {l : List Sp} (hl : l.length ≤ 1000000) (hk : ∀ x ∈ l, x.1.length ≤ 1000000) {d : Option Nat} {st : ASt} : callV G cl d (.fn (.func 10) [] []) [stps l] st = some (.val (showV (showB l true [])) st) := callV_ret E10 (by decide) ext10 rfl rfl (show_eq l hl hk) showV_names
theorem parseS_len {s : Tx} {l : List Sp} (h : parseS s = some l) : s.length ≤ 120 := by
  unfold parseS at h
  split at h
  · cases h
  · omega
theorem parseB_bound : ∀ {n : Nat} {s : Tx} {acc l : List Sp}, parseB n s acc = some l → s.length ≤ n → l.length ≤ acc.length + s.length ∧ ∀ x ∈ l, x ∈ acc ∨ x.1.length ≤ s.length
  | n, [], acc, l, h, hn => by
    have : l = acc := by cases n <;> (cases h; rfl)
    subst this
    exact ⟨by omega, fun x hx => .inl hx⟩
  | 0, b :: t, acc, l, h, hn => by cases h
  | n + 1, b :: t, acc, l, h, hn => by
    have h : (match stepP (b :: t) (decide (acc ≠ [])) with | none => none | some (x, s') => parseB n s' (acc ++ [x])) = some l := h
    split at h
    · cases h
    · rename_i x s' hst
      have hlt := stepP_less hst
      obtain ⟨tx, h1, h2⟩ := stepP_text hst
      have hx : x.1.length ≤ (b :: t).length := by
        rcases textB_cases h1 with ⟨m, hm, rfl, rfl⟩ | ⟨rfl, _, _⟩
        · simp
        · rw [h2]; simp; omega
      obtain ⟨h3, h4⟩ := parseB_bound h (by simp at hlt hn; omega)
      refine ⟨by simp at h3 hlt ⊢; omega, fun y hy => ?_⟩
      rcases h4 y hy with h5 | h5
      · rcases List.mem_append.1 h5 with h6 | h6
        · exact .inl h6
        · simp at h6; subst h6; exact .inr hx
      · exact .inr (by omega)
theorem parseS_bound {s : Tx} {l : List Sp} (h : parseS s = some l) : l.length ≤ 1000000 ∧ ∀ x ∈ l, x.1.length ≤ 1000000 := by
  have h0 := parseS_len h
  unfold parseS at h
  rw [if_neg (by omega)] at h
  obtain ⟨h1, h2⟩ := parseB_bound h (Nat.le_refl _)
  simp at h1
  refine ⟨by omega, fun x hx => ?_⟩
  rcases h2 x hx with h3 | h3
  · cases h3
  · omega
end Go.Proofs.YtbjphckpbkacaaaGreatDoor


/- What PathSteps comes to. -/
namespace Go.Proofs.YtbjphckpbkacaaaGreatDoor
open Go Abs
set_option linter.unusedSimpArgs false
set_option linter.unusedVariables false
theorem rparse_call {s : Tx} (hs : s.length ≤ 1000000) {d : Option Nat} {st : ASt} : callV G cl d (.fn (.func 9) [] []) [.str s] st = some (.val (parseV (parseS s)) st) := callV_ret E9 (by decide) ext9 rfl rfl (rparse_eq s hs) parseV_names
theorem rshow_call {l : List Sp} (hl : l.length ≤ 1000000) (hk : ∀ x ∈ l, x.1.length ≤ 1000000) {d : Option Nat} {st : ASt} : callV G cl d (.fn (.func 11) [] []) [stps l] st = some (.val (showV (showB l true [])) st) := callV_ret E11 (by decide) ext11 rfl rfl (rshow_eq l hl hk) showV_names
set_option maxHeartbeats 64000000 in
set_option maxRecDepth 100000 in
theorem pathSteps_eq (s : Tx) (l : List Sp) : cl 3 [.str s, stps l] [] = some (.ret (.bool true), []) := by
  refine fn_intro Tryz.func3 rfl (by simp) (by decide) rfl ?_
  have hfw := fun d st => fewp_call (l := l) (d := d) (st := st)
  have hwk := fun d st => works6 (d := d) (st := st)
  cases hf : fewP l with
  | false =>
    rw [hf] at hfw
    simp only [stps] at hfw
    simp [Tryz.f3, stps, hwk, hfw]
    exact end_is (.inr rfl) (by simp; rfl) rfl rfl
  | true =>
    rw [hf] at hfw
    obtain ⟨hl, hk⟩ := fewP_of hf
    by_cases hs : 140 < s.length
    · have hs' : (140 : Int) < s.length := by omega
      simp only [stps] at hfw
      simp [Tryz.f3, stps, hwk, hfw, hs, hs']
      exact end_is (.inr rfl) (by simp; rfl) rfl rfl
    · have hs' : ¬ (140 : Int) < s.length := by omega
      have hk' : ∀ x ∈ l, x.1.length ≤ 1000000 := fun x hx => Nat.le_trans (hk x hx) (by omega)
      have hp1 := fun d st => parse_call (s := s) (by omega) (d := d) (st := st)
      have hp2 := fun d st => rparse_call (s := s) (by omega) (d := d) (st := st)
      have hs2 := fun d st => show_call (l := l) (by omega) hk' (d := d) (st := st)
      have hs3 := fun d st => rshow_call (l := l) (by omega) hk' (d := d) (st := st)
      have hol := fun d st => of_call (l := l) (by omega) (d := d) (st := st)
      cases hps : parseS s with
      | none =>
        rw [hps] at hp1 hp2
        have h0 := fun d st => of_nils_call (d := d) (st := st)
        have h1 := fun d st => samep_nils_call (d := d) (st := st)
        simp only [parseV] at hp1 hp2
        cases hsh : showB l true [] with
        | none =>
          rw [hsh] at hs2 hs3
          simp only [showV] at hs2 hs3
          simp only [stps, List.map_nil] at *
          simp [Tryz.f3, stps, hwk, hfw, hs, hs', hp1, hp2, hs2, hs3, hol, h0, h1]
          exact end_is (.inr rfl) (by simp; rfl) rfl (by simp)
        | some u =>
          rw [hsh] at hs2 hs3
          simp only [showV] at hs2 hs3
          simp only [stps, List.map_nil] at *
          simp [Tryz.f3, stps, hwk, hfw, hs, hs', hp1, hp2, hs2, hs3, hol, h0, h1]
          exact end_is (.inr rfl) (by simp; rfl) rfl (by simp)
      | some a =>
        rw [hps] at hp1 hp2
        obtain ⟨b1, b2⟩ := parseS_bound hps
        have h0 := fun d st => of_call (l := a) b1 (d := d) (st := st)
        have h1 := fun d st => samep_call (a := a) (b := a) b1 (d := d) (st := st)
        simp only [parseV] at hp1 hp2
        cases hsh : showB l true [] with
        | none =>
          rw [hsh] at hs2 hs3
          simp only [showV] at hs2 hs3
          simp only [stps, List.map_nil] at *
          simp [Tryz.f3, stps, hwk, hfw, hs, hs', hp1, hp2, hs2, hs3, hol, h0, h1]
          exact end_is (.inr rfl) (by simp; rfl) rfl (by simp)
        | some u =>
          rw [hsh] at hs2 hs3
          simp only [showV] at hs2 hs3
          simp only [stps, List.map_nil] at *
          simp [Tryz.f3, stps, hwk, hfw, hs, hs', hp1, hp2, hs2, hs3, hol, h0, h1]
          exact end_is (.inr rfl) (by simp; rfl) rfl (by simp)
end Go.Proofs.YtbjphckpbkacaaaGreatDoor


/- The seat's tables are sound: with what was gone through. -/
namespace Go.Proofs.YtbjphckpbkacaaaGreatDoor
open Go Abs
theorem primOK : PrimSound G prim0 := by
  intro g p args hp r hE h1 h2
  have h1 : (if worksT.contains g then some worksP else prim1 g) = some p := h1
  split at h1
  · rename_i hc
    cases h1
    have hg : g = 6 := by simpa [worksT] using hc
    unfold worksP at h2
    split at h2
    · cases h2
      subst hg
      exact CallSound.of_run GS primWOK (by decide) hE works6_run
    · cases h2
  · exact prim1OK g p args hp r hE h1 h2
end Go.Proofs.YtbjphckpbkacaaaGreatDoor


/- The arguments, as they lie in memory. -/
namespace Go.Proofs.YtbjphckpbkacaaaGreatDoor
open Go Abs Go.RowKit
set_option linter.unusedSimpArgs false
set_option linter.unusedVariables false

section
variable {H : Type} {enc : TypeId × Value → H} {W : World}

/-- What the memory at the call's beginning holds stays. -/
def allS (W : World) : Stab := fun b _ => b < W.heap.size

theorem spot_none {w : World} {a : Addr} {v : Value} (h : w.cell? a = some v) : a.spot = none ∧ a.block < w.heap.size := by
  unfold World.cell? at h
  split at h
  · rename_i c t fr hb
    split at h
    · cases h
    · rename_i hs
      refine ⟨by cases hsp : a.spot <;> simp_all, (Array.getElem?_eq_some_iff.1 hb).1⟩
  · cases h

end
end Go.Proofs.YtbjphckpbkacaaaGreatDoor


/- A law's row, out of its equation. -/
namespace Go.Proofs.YtbjphckpbkacaaaGreatDoor
open Go Abs Go.ChangeShapes Go.WideShapes Go.ChangeAt Go.RowKit
set_option linter.unusedVariables false

theorem own : ownKnob Tryz.prog.godebug = none := by kernel_rfl
theorem laidOut : laidOutB Tryz.prog = true := by kernel_rfl

/-- A law that is told to be true is true of whatever lies in memory. -/
theorem law_run {g : FuncId} {args : List AV} (hg : g < RB) (hE : G.E g = true) (h : cl g args [] = some (.ret (.bool true), [])) (W : World) (vs : Array Value) (hl : args.length = vs.size)
    (hv : ∀ (j : Nat) c v, args[j]? = some c → vs[j]? = some v → PR (allS W) W c v) (hgl : GlobOK (allS W) W := by (intro g v h; cases h)) : Calls Tryz.prog g vs W fun e W' => e = .returned (.bool true) ∧ Below W.heap.size W W' := by
  have hs := callL_ok GS primOK hg hE h
  refine (CallsIn.calls (hs (allS W) (fun _ => none) W vs ⟨fun n q hq => (by cases hq), hgl⟩ ⟨fun n o ho => (by cases ho), fun n _ => rfl, fun n m b sz sz' k k' hq => (by cases hq)⟩ (fun b o hb => hb) hl (fun j c v hc hv' =>   .pure (hv j c v hc hv'))) (fun k d hd => by cases hd)).mono fun e W' ⟨S', ρ', hout, hans⟩ => ?_
  cases e with
  | panicked ch => exact hans.elim
  | outgrown => exact hans.elim
  | returned u =>
  have hu : VR S' ρ' W' (.bool true) u := hans
  cases vr_bool hu
  refine ⟨rfl, ?_⟩
  have f := hout.fr
  exact ⟨f.os, f.tape, f.output, f.size, fun k hk => f.keep k hk (fun hF => by obtain ⟨n, sz, k', hq⟩ := hF; cases hq)⟩

theorem two_args {S : Stab} {W : World} {a b : AV} {v u : Value} (h1 : PR S W a v) (h2 : PR S W b u) : ∀ (j : Nat) c x, [a, b][j]? = some c → #[v, u][j]? = some x → PR S W c x := by
  intro j c x hc hx
  match j, hc with
  | 0, hc => cases hc; cases hx; exact h1
  | 1, hc => cases hc; cases hx; exact h2
  | j + 2, hc => simp at hc
section
variable {S : Stab} {W : World} {a b c d : AV} {v u x y : Value}
theorem args2 (h1 : PR S W a v) (h2 : PR S W b u) : ∀ (j : Nat) c x, [a, b][j]? = some c → #[v, u][j]? = some x → PR S W c x := two_args h1 h2
end
end Go.Proofs.YtbjphckpbkacaaaGreatDoor


/- The steps that are handed in; the program's own variables, as they lie in memory. -/
namespace Go.Proofs.YtbjphckpbkacaaaGreatDoor
open Go Abs Go.RowKit
set_option linter.unusedSimpArgs false
set_option linter.unusedVariables false
section
variable {H : Type} {enc : TypeId × Value → H} {W : World}
theorem list3 {α : Type} {cs : List α} (h : cs.length = 2) : ∃ a b, cs = [a, b] := by
  match cs, h with
  | [a, b], _ => exact ⟨a, b, rfl⟩
theorem step_open {n : Nat} {cs : List Value} {x : DataW H × List MemPlace} (h : DataW.trod enc Tryz.prog W 0 (fun _ => true) true n 43 cs = some x) :
    ∃ (s : ByteArray) (k : Int), cs = [.string s, .int .i64 k] := by
  obtain ⟨y0, y1, n', _, hl, h0, h1⟩ := ChangeShapes.trod_struct2 Tryz.underlying43 h
  rw [show Tryz.prog.cellsOf 43 = 2 from by kernel_rfl] at hl
  obtain ⟨a, b, rfl⟩ := list3 hl
  obtain ⟨s, e0, _, _⟩ := DataW.trod_string Tryz.underlying9 h0
  obtain ⟨k, e1, _, w1⟩ := DataW.trod_int Tryz.underlying3 h1
  rw [show Tryz.prog.cellsOf 9 = 1 from by kernel_rfl] at e0
  rw [show Tryz.prog.cellsOf 3 = 1 from by kernel_rfl] at e1
  simp at e0 e1
  subst e0 e1
  exact ⟨s, k, rfl⟩
theorem steps_open {n : Nat} {cs : List Value} {x : DataW H × List MemPlace} (h : DataW.trod enc Tryz.prog W 0 (fun _ => true) true n 22 cs = some x) :
    ∃ (v : Value) (l : List Sp), cs = [v] ∧ PR (allS W) W (stps l) v := by
  rcases Deep.open_slice Tryz.underlying22 h with ⟨rfl, _⟩ | ⟨a, len, cap, m, n', D, Pl, rfl, _, hlc, hcm, hm, _, hel⟩
  · exact ⟨_, [], rfl, .empty 2 none 0 (fun e => by omega)⟩
  · simp only [if_true] at hm
    subst hm
    have hc46 : Tryz.prog.cellsOf 43 = 2 := by kernel_rfl
    have each : ∀ i, i < len → ∃ q : ByteArray × Int, ∀ j c, [Value.string q.1, .int .i64 q.2][j]? = some c → W.cell? ((a.add (i * 2)).add j) = some c := by
      intro i hi
      obtain ⟨cs', h1, h2⟩ := hel i (by omega)
      rw [hc46] at h1
      obtain ⟨s, k, rfl⟩ := step_open h2
      obtain ⟨_, _, h5⟩ := World.cells?_some h1
      refine ⟨(s, k), fun j c hj => ?_⟩
      have hj4 : j < 2 := by have := (List.getElem?_eq_some_iff.1 hj).1; simpa using this
      rw [h5 j hj4]; exact hj
    by_cases hlen : len = 0
    · subst hlen
      exact ⟨_, [], rfl, .empty 2 (some a) _ (fun e => by omega)⟩
    · have hsp : a.spot = none ∧ a.block < W.heap.size := by
        obtain ⟨q, h3⟩ := each 0 (by omega)
        have := h3 0 _ rfl
        simp only [Nat.zero_mul, Addr.add, if_true] at this
        exact spot_none this
      obtain ⟨b, off, sp⟩ := a
      simp only at hsp
      obtain ⟨rfl, hb⟩ := hsp
      let N : Nat → ByteArray × Int := fun i => if hi : i < len then (each i hi).choose else (ByteArray.empty, 0)
      have hN : ∀ i, (hi : i < len) → ∀ j c, [Value.string (N i).1, .int .i64 (N i).2][j]? = some c → W.cell? (((⟨b, off, none⟩ : Addr).add (i * 2)).add j) = some c := by
        intro i hi
        simp only [N, dif_pos hi]
        exact (each i hi).choose_spec
      let M : Nat → Sp := fun i => ((N i).1.data.toList, (N i).2)
      refine ⟨_, (List.range len).map M, rfl, ?_⟩
      have hget : ∀ (i : Nat) e, (((List.range len).map M).map stV)[i]? = some e → i < len ∧ e = stV (M i) := by
        intro i e he
        simp only [List.getElem?_map] at he
        obtain ⟨q, hq, rfl⟩ := Option.map_eq_some_iff.1 he
        obtain ⟨r, hr, rfl⟩ := Option.map_eq_some_iff.1 hq
        obtain ⟨hi, rfl⟩ := List.getElem?_eq_some_iff.1 hr
        simp only [List.length_range] at hi
        simp [hi]
      have hcell : ∀ (i j : Nat) e c, (((List.range len).map M).map stV)[i]? = some e → e.cells[j]? = some c →
          ∃ u, [Value.string (N i).1, .int .i64 (N i).2][j]? = some u ∧ PR (allS W) W c u ∧ scalarV u = true := by
        intro i j e c he hj
        obtain ⟨hi, rfl⟩ := hget i e he
        simp only [stV, M, AV.cells] at hj
        match j, hj with
        | 0, hj => cases hj; exact ⟨_, rfl, .str _, rfl⟩
        | 1, hj => cases hj; exact ⟨_, rfl, .int _ _, rfl⟩
        | j + 2, hj => simp at hj
      have := PR.list (S := allS W) (w := W) (((List.range len).map M).map stV) b off m 2
        (fun i j => ([Value.string (N i).1, .int .i64 (N i).2][j]?).getD default) (by omega) (by simpa using hlc)
        (fun e he => by obtain ⟨q, _, rfl⟩ := List.mem_map.1 he; rfl) (fun i j e c he hj => hb)
        (fun i j e c he hj => by
          obtain ⟨hi, _⟩ := hget i e he
          obtain ⟨u, hu, _, _⟩ := hcell i j e c he hj
          rw [hu]
          have := hN i hi j u hu
          rwa [Deep.add_add, show (⟨b, off, none⟩ : Addr) = at0 b off from rfl, at0_add, ← Nat.add_assoc] at this)
        (fun i j e c he hj => by obtain ⟨u, hu, _, hs⟩ := hcell i j e c he hj; rw [hu]; exact hs)
        (fun i j e c he hj => by obtain ⟨u, hu, hp, _⟩ := hcell i j e c he hj; rw [hu]; exact hp)
      simp only [List.length_map, List.length_range] at this
      exact this
theorem steps_Trod {a : Option Addr} {len cap : Nat} {d : DataW H} {p : List MemPlace} (h : DataW.Trod enc Tryz.prog W 0 (fun _ => true) true 22 (.slice a len cap) d p) :
    ∃ l : List Sp, PR (allS W) W (stps l) (.slice a len cap) := by
  obtain ⟨n, hn⟩ := h
  obtain ⟨v, l, hv, h2⟩ := steps_open hn
  have : v = .slice a len cap := by
    have e : (Value.slice a len cap).cells.toList = [.slice a len cap] := rfl
    rw [e] at hv
    exact (List.cons.inj hv).1.symm
  subst this
  exact ⟨l, h2⟩
end

/-! The program's own variables -/
theorem gRange : Tryz.prog.globalNamed "strconv.ErrRange" = some 3 := by kernel_rfl
theorem gSyntax : Tryz.prog.globalNamed "strconv.ErrSyntax" = some 2 := by kernel_rfl
theorem gPow : Tryz.prog.globalNamed "internal/strconv.uint64pow10" = some 5 := by kernel_rfl
theorem tRange : (Tryz.prog.globals[3]?).map (·.type) = some 60 := by kernel_rfl
theorem tSyntax : (Tryz.prog.globals[2]?).map (·.type) = some 60 := by kernel_rfl
theorem tPow : (Tryz.prog.globals[5]?).map (·.type) = some 202 := by kernel_rfl
end Go.Proofs.YtbjphckpbkacaaaGreatDoor


/- A world in which the program's own variables are laid. -/
namespace Go.Proofs.YtbjphckpbkacaaaGreatDoor
open Go
noncomputable def firstCells : Array Value := (Go.Pinned.utf8FirstZ.map fun (n : Nat) => Value.int .u8 n).toArray
noncomputable def laidWorld (os : Os) : World :=
  let w0 := World.doorLaid Tryz.prog 400 os
  { w0 with heap := w0.heap.modify 9 fun
      | .cells _ t frozen => .cells firstCells t frozen
      | o => o }
theorem laidWorld_met (os : Os) (args : Array Value) : laidMetH Tryz.prog Rows.pathBackRow.laid ((laidWorld os).forCall (fun _ _ => 0) ⟨#[], args, []⟩).memory :=
  laidMetH_of_parts3 (fuel := 8) (laidMet_of_run' 8 (by kernel_rfl) (by kernel_rfl)) (by kernel_rfl) (by kernel_rfl)
end Go.Proofs.YtbjphckpbkacaaaGreatDoor


/- What the condition on the program's own variables gives a run. -/
namespace Go.Proofs.YtbjphckpbkacaaaGreatDoor
open Go Abs Go.RowKit
set_option linter.unusedSimpArgs false
set_option linter.unusedVariables false
def pows : List Int := [1, 10, 100, 1000, 10000, 100000, 1000000, 10000000, 100000000, 1000000000, 10000000000, 100000000000, 1000000000000, 10000000000000, 100000000000000, 1000000000000000, 10000000000000000, 100000000000000000, 1000000000000000000, 10000000000000000000]
theorem errStar : "*" ++ "errors.errorString" = "*errors.errorString" := by decide
theorem errRow (u : TypeId) (h : Tryz.prog.typeName? 3 u = some "*errors.errorString") : u = 198 :=
  typeName_ptr_named (nm := "errors.errorString") (by rw [errStar]; kernel_rfl) (by kernel_rfl) (by decide) u (by rw [errStar]; exact h)
theorem sent_glob {W : World} {g : Nat} {s : ByteArray} {a : Addr} (hv : W.cell? ⟨g, 0, none⟩ = some (.iface 198 (.pointer (some a)))) (ha : W.cell? a = some (.string s)) :
    PR (allS W) W (.ep (.iface 198 (.ep (.str s.data.toList) 0)) 0) (.pointer (some (at0 g 0))) := by
  obtain ⟨h1, h2⟩ := spot_none hv
  obtain ⟨h3, h4⟩ := spot_none ha
  obtain ⟨b, o, sp⟩ := a
  simp only at h3 h4
  subst h3
  refine PR.ep _ g 0 0 (fun _ => .iface 198 (.pointer (some ⟨b, o, none⟩))) (by simp [AV.cells]) (fun j c hj => h2) (fun j c hj => ?_) (fun j c hj => ?_)
  · match j, hj with
    | 0, hj => exact hv
    | j + 1, hj => simp [AV.cells] at hj
  · match j, hj with
    | 0, hj =>
      cases hj
      refine PR.iface _ _ _ ?_
      refine PR.ep (.str s.data.toList) b o 0 (fun _ => .string s) (by simp [AV.cells]) (fun j c hj => h4) (fun j c hj => ?_) (fun j c hj => ?_)
      · match j, hj with
        | 0, hj => exact ha
        | j + 1, hj => simp [AV.cells] at hj
      · match j, hj with
        | 0, hj => cases hj; exact .str s
        | j + 1, hj => simp [AV.cells] at hj
    | j + 1, hj => simp [AV.cells] at hj
theorem tab_glob {W : World} {g : Nat} (hv : ∀ j, j < 20 → W.cell? ⟨g, j, none⟩ = some (.int .u64 (pows.getD j 0))) : PR (allS W) W (.ep (.agg (pows.map fun z => .int .u64 z)) 0) (.pointer (some (at0 g 0))) := by
  have h2 := (spot_none (hv 0 (by omega))).2
  refine PR.ep _ g 0 0 (fun j => .int .u64 (pows.getD j 0)) (by simp [AV.cells, pows]) (fun j c hj => h2) (fun j c hj => ?_) (fun j c hj => ?_)
  · have hj' : j < 20 := by have := (List.getElem?_eq_some_iff.1 hj).1; simpa [AV.cells, pows] using this
    rw [Nat.zero_add]; exact hv j hj'
  · simp only [AV.cells, List.getElem?_map] at hj
    obtain ⟨z, hz, rfl⟩ := Option.map_eq_some_iff.1 hj
    rw [List.getD_eq_getElem?_getD, hz]
    exact .int _ _
theorem glob_of {W : World} (h : laidMetH Tryz.prog Rows.pathBackRow.laid W) : GlobOK (allS W) W := by
  have h' : laidMet Tryz.prog [("math/bits.deBruijn32tab", Rows.laid_math_bits_deBruijn32tab), ("math/bits.deBruijn64tab", Rows.laid_math_bits_deBruijn64tab), ("internal/strconv.uint64pow10", Rows.laid_internal_strconv_uint64pow10), ("unicode/utf8.acceptRanges", Rows.laid_unicode_utf8_acceptRanges), ("strconv.ErrRange", Rows.laid_strconv_ErrRange), ("strconv.ErrSyntax", Rows.laid_strconv_ErrSyntax), ("cryptex/parse.words", Rows.laid_cryptex_parse_words), ("cryptex/parse.signs", Rows.laid_cryptex_parse_signs), ("unicode/utf8.first", Rows.laid_unicode_utf8_first)] W := h.1
  have hL2 := h'.tail.tail
  have hL4 := hL2.tail.tail
  obtain ⟨a3, s3, hv3, hc3, hs3, _⟩ := laid_sentinel hL4 gRange tRange Tryz.underlying60 errRow Tryz.underlying198 Tryz.underlying200 rfl rfl Tryz.underlying9 (by kernel_rfl) (by kernel_rfl)
  obtain ⟨a2, s2, hv2, hc2, hs2, _⟩ := laid_sentinel hL4.tail gSyntax tSyntax Tryz.underlying60 errRow Tryz.underlying198 Tryz.underlying200 rfl rfl Tryz.underlying9 (by kernel_rfl) (by kernel_rfl)
  have hp : Lib.TabIs Tryz.prog W "internal/strconv.uint64pow10" .u64 pows := Lib.tabIs_of_head gPow tPow Tryz.underlying202 Tryz.underlying171 (by kernel_rfl) (by kernel_rfl) hL2
  intro g v hg
  have hg : aget globT g = some v := hg
  simp only [globT, aget] at hg
  split at hg
  · rename_i e
    subst e; cases hg
    have := sent_glob (by simpa using World.var?_cell gSyntax hv2 0) hc2
    rw [hs2] at this
    exact this
  · split at hg
    · rename_i e
      subst e; cases hg
      have := sent_glob (by simpa using World.var?_cell gRange hv3 0) hc3
      rw [hs3] at this
      exact this
    · split at hg
      · rename_i e
        subst e; cases hg
        refine tab_glob fun j hj => ?_
        have := World.var?_cell gPow hp j
        rw [this]
        have hj' : j < pows.length := hj
        simp [List.getElem?_eq_getElem hj']
      · cases hg
end Go.Proofs.YtbjphckpbkacaaaGreatDoor

