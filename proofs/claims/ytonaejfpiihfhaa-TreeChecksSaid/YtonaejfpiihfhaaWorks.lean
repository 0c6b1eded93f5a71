/- What 'works' comes to. -/
import Derived.Test.YtonaejfpiihfhaaTab
namespace Go.Proofs.Ytonaejfpiihfhaa
open Go Abs
theorem works_run : (both G primN 60).1 14 [] [] = some (.ret (.bool true), []) := by kernel_rfl
end Go.Proofs.Ytonaejfpiihfhaa
