/- What the functions come to: nodes. -/
import Derived.Test.YtonaejfpiihfhaaTy
namespace Go.Proofs.Ytonaejfpiihfhaa
open Go Abs
set_option linter.unusedSimpArgs false
set_option linter.unusedVariables false
structure Nd where
  kind : Int
  num : Int
  text : List UInt8
  kids : Int
  deriving DecidableEq
def Nd.v (n : Nd) : AV := .agg [.int .i64 n.kind, .int .i64 n.num, .str n.text, .int .i64 n.kids]
def nds (l : List Nd) : AV := .list 4 (l.map Nd.v)

noncomputable abbrev cl : CallFn := callL G prim0
noncomputable abbrev lp : LoopFn := loopL G prim0

/-- A function's body, gone through. -/
theorem fn_intro {g : FuncId} {fn : Func} {c : Code} {args : List AV} {hp : Heap} {r : ARes × Heap} (hf : Try.prog.funcs[g]? = some fn) (hb : fn.body = some c) (hd : G.dfr g = false) (hg : g < RB) (hp0 : prim0 g = none)
    (h : endX G g (hp.map (·.1)) fn.results.toList (codeX G cl lp g c { sl := zipIx args 0, hp }) = some r) : cl g args hp = some r :=
  call_intro hg hp0 (by rw [runFn_body hd hf hb]; exact h)

theorem need_t : cl 83 [.bool true] [] = some (.ret (.tup []), []) := call_intro (by decide) rfl (by kernel_rfl)
theorem need_f : cl 83 [.bool false] [] = some (.pan (.iface 114 (.agg [])), []) := call_intro (by decide) rfl (by kernel_rfl)

theorem bare_eq (n : Nd) : cl 112 [n.v] [] = some (.ret (.agg [.int .i64 n.kind, .int .i64 0, .str [], .int .i64 n.kids]), []) := by
  refine fn_intro Try.func112 rfl (by simp) (by decide) rfl ?_
  simp only [Try.f112]
  simp [Nd.v]
  exact end_is (.inr rfl) (by simp [resL]; rfl) rfl rfl

theorem bare_call {d : Option Nat} {st : ASt} {k n c : Int} {t : List UInt8} : callV G cl d (.fn (.func 112) [] []) [.agg [.int .i64 k, .int .i64 n, .str t, .int .i64 c]] st = some (.val (.agg [.int .i64 k, .int .i64 0, .str [], .int .i64 c]) st) :=
  callV_ret E112 (by decide) ext112 rfl rfl (bare_eq ⟨k, n, t, c⟩) rfl
attribute [simp] eqAggA eqFieldsA Try.stoodInHeld46 Try.eqGuardType46

/-- Whether a node's fields may be. -/
def fitsS (n : Nd) : Bool :=
  if n.kind = 1 then decide (wAndNot .i64 n.num 1 = 0) && decide (n.text = []) && decide (n.kids = 0)
  else if n.kind = 0 then decide (n.num = 0) && decide (n.text = []) && decide (n.kids = 0)
  else if n.kind = 2 then decide (n.text = []) && decide (n.kids = 0)
  else if n.kind = 3 then decide (n.num = 0) && decide (n.kids = 0)
  else if n.kind = 4 ∨ n.kind = 5 then decide (n.num = 0) && decide (n.text = []) && decide (0 ≤ n.kids)
  else false

set_option maxHeartbeats 8000000 in
theorem fits_eq (n : Nd) : cl 84 [n.v] [] = some (.ret (.bool (fitsS n)), []) := by
  obtain ⟨k, nu, t, c⟩ := n
  refine fn_intro Try.func84 rfl (by simp) (by decide) rfl ?_
  simp only [Try.f84, Nd.v]
  by_cases h1 : k = 1
  · simp [h1, bare_call, fitsS]; exact end_is (.inr rfl) (by simp; rfl) rfl rfl
  by_cases h2 : k = 0
  · simp [h2, bare_call, fitsS]; exact end_is (.inr rfl) (by simp; rfl) rfl rfl
  by_cases h3 : k = 2
  · simp [h3, bare_call, fitsS]; exact end_is (.inr rfl) (by simp; rfl) rfl rfl
  by_cases h4 : k = 3
  · simp [h4, bare_call, fitsS]; exact end_is (.inr rfl) (by simp; rfl) rfl rfl
  by_cases h5 : k = 4
  · simp [h5, bare_call, fitsS]; exact end_is (.inr rfl) (by simp; rfl) rfl rfl
  by_cases h6 : k = 5
  · simp [h6, bare_call, fitsS]; exact end_is (.inr rfl) (by simp; rfl) rfl rfl
  simp [h1, h2, h3, h4, h5, h6, fitsS]
  exact end_is (.inr rfl) (by simp; rfl) rfl rfl
theorem fits_call {d : Option Nat} {st : ASt} {k n c : Int} {t : List UInt8} : callV G cl d (.fn (.func 84) [] []) [.agg [.int .i64 k, .int .i64 n, .str t, .int .i64 c]] st = some (.val (.bool (fitsS ⟨k, n, t, c⟩)) st) :=
  callV_ret E84 (by decide) ext84 rfl rfl (fits_eq ⟨k, n, t, c⟩) rfl
theorem need_call_t {d : Option Nat} {st : ASt} : callV G cl d (.fn (.func 83) [] []) [.bool true] st = some (.val (.tup []) st) := callV_ret E83 (by decide) ext83 rfl rfl need_t rfl
theorem need_call_f {d : Option Nat} {st : ASt} : callV G cl d (.fn (.func 83) [] []) [.bool false] st = some (.pan (.iface 114 (.agg [])) st) := callV_pan E83 (by decide) ext83 rfl rfl need_f rfl
end Go.Proofs.Ytonaejfpiihfhaa
