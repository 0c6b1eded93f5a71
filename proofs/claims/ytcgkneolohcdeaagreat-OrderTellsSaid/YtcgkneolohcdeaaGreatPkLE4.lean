/- What the row of this claim leans on: own texts, merged. -/
import Derived.Lib.SmallJoins
import Derived.Deep.Slices
import Derived.ChangeArms
import Derived.DataReads
import Derived.Test.YtcgkneolohcdeaaGreatRows
import Derived.WalkKit
import Derived.ProofKit
import Derived.OpenShut
import Derived.ShutString
import Derived.ChangeOld
import Derived.Below
import Derived.Carry
import Derived.Test.YtcgkneolohcdeaaGreatPkLE3

/- The seat's types and functions, as equations. -/
namespace Go.Proofs.YtcgkneolohcdeaaGreat
open Go Abs
set_option linter.unusedSimpArgs false

@[simp] theorem GP : G.P = Tryz.prog := rfl
@[simp] theorem cells0 : Tryz.prog.cellsOf 0 = 1 := by kernel_rfl
@[simp] theorem info0 : Tryz.prog.info? 0 = some Tryz.t0 := by kernel_rfl
@[simp] theorem agg0 : isAggT Tryz.prog 0 = false := by kernel_rfl
attribute [simp] Tryz.underlying0
@[simp] theorem bytes0 : Tryz.t0.bytes = 0 := rfl
@[simp] theorem cells1 : Tryz.prog.cellsOf 1 = 1 := by kernel_rfl
@[simp] theorem info1 : Tryz.prog.info? 1 = some Tryz.t1 := by kernel_rfl
@[simp] theorem agg1 : isAggT Tryz.prog 1 = false := by kernel_rfl
attribute [simp] Tryz.underlying1
@[simp] theorem bytes1 : Tryz.t1.bytes = 8 := rfl
@[simp] theorem zero1 : Tryz.t1.zero = some .nilFunc := rfl
@[simp] theorem cells2 : Tryz.prog.cellsOf 2 = 1 := by kernel_rfl
@[simp] theorem info2 : Tryz.prog.info? 2 = some Tryz.t2 := by kernel_rfl
@[simp] theorem agg2 : isAggT Tryz.prog 2 = false := by kernel_rfl
attribute [simp] Tryz.underlying2
@[simp] theorem bytes2 : Tryz.t2.bytes = 8 := rfl
@[simp] theorem zero2 : Tryz.t2.zero = some (.int .i64 0) := rfl
@[simp] theorem cells3 : Tryz.prog.cellsOf 3 = 1 := by kernel_rfl
@[simp] theorem info3 : Tryz.prog.info? 3 = some Tryz.t3 := by kernel_rfl
@[simp] theorem agg3 : isAggT Tryz.prog 3 = false := by kernel_rfl
attribute [simp] Tryz.underlying3
@[simp] theorem bytes3 : Tryz.t3.bytes = 8 := rfl
@[simp] theorem zero3 : Tryz.t3.zero = some (.int .i64 0) := rfl
@[simp] theorem cells4 : Tryz.prog.cellsOf 4 = 1 := by kernel_rfl
@[simp] theorem info4 : Tryz.prog.info? 4 = some Tryz.t4 := by kernel_rfl
@[simp] theorem agg4 : isAggT Tryz.prog 4 = false := by kernel_rfl
attribute [simp] Tryz.underlying4
@[simp] theorem bytes4 : Tryz.t4.bytes = 1 := rfl
@[simp] theorem zero4 : Tryz.t4.zero = some (.bool false) := rfl
@[simp] theorem cells5 : Tryz.prog.cellsOf 5 = 1 := by kernel_rfl
@[simp] theorem info5 : Tryz.prog.info? 5 = some Tryz.t5 := by kernel_rfl
@[simp] theorem agg5 : isAggT Tryz.prog 5 = false := by kernel_rfl
attribute [simp] Tryz.underlying5
@[simp] theorem bytes5 : Tryz.t5.bytes = 1 := rfl
@[simp] theorem zero5 : Tryz.t5.zero = some (.int .u8 0) := rfl
@[simp] theorem cells6 : Tryz.prog.cellsOf 6 = 1 := by kernel_rfl
@[simp] theorem info6 : Tryz.prog.info? 6 = some Tryz.t6 := by kernel_rfl
@[simp] theorem agg6 : isAggT Tryz.prog 6 = false := by kernel_rfl
attribute [simp] Tryz.underlying6
@[simp] theorem bytes6 : Tryz.t6.bytes = 1 := rfl
@[simp] theorem zero6 : Tryz.t6.zero = some (.int .u8 0) := rfl
@[simp] theorem cells7 : Tryz.prog.cellsOf 7 = 4 := by kernel_rfl
@[simp] theorem info7 : Tryz.prog.info? 7 = some Tryz.t7 := by kernel_rfl
@[simp] theorem agg7 : isAggT Tryz.prog 7 = true := by kernel_rfl
attribute [simp] Tryz.underlying7
@[simp] theorem bytes7 : Tryz.t7.bytes = 24 := rfl
@[simp] theorem zero7 : Tryz.t7.zero = some (.agg #[(.int .i64 0), (.int .i64 0), (.bool false), (.int .u8 0)]) := rfl
@[simp] theorem cells8 : Tryz.prog.cellsOf 8 = 4 := by kernel_rfl
@[simp] theorem info8 : Tryz.prog.info? 8 = some Tryz.t8 := by kernel_rfl
@[simp] theorem agg8 : isAggT Tryz.prog 8 = true := by kernel_rfl
attribute [simp] Tryz.underlying8
@[simp] theorem bytes8 : Tryz.t8.bytes = 24 := rfl
@[simp] theorem zero8 : Tryz.t8.zero = some (.agg #[(.int .i64 0), (.int .i64 0), (.bool false), (.int .u8 0)]) := rfl
@[simp] theorem cells9 : Tryz.prog.cellsOf 9 = 1 := by kernel_rfl
@[simp] theorem info9 : Tryz.prog.info? 9 = some Tryz.t9 := by kernel_rfl
@[simp] theorem agg9 : isAggT Tryz.prog 9 = false := by kernel_rfl
attribute [simp] Tryz.underlying9
@[simp] theorem bytes9 : Tryz.t9.bytes = 16 := rfl
@[simp] theorem zero9 : Tryz.t9.zero = some (.string ⟨#[]⟩) := rfl
@[simp] theorem cells10 : Tryz.prog.cellsOf 10 = 1 := by kernel_rfl
@[simp] theorem info10 : Tryz.prog.info? 10 = some Tryz.t10 := by kernel_rfl
@[simp] theorem agg10 : isAggT Tryz.prog 10 = false := by kernel_rfl
attribute [simp] Tryz.underlying10
@[simp] theorem bytes10 : Tryz.t10.bytes = 16 := rfl
@[simp] theorem zero10 : Tryz.t10.zero = some (.string ⟨#[]⟩) := rfl
@[simp] theorem cells11 : Tryz.prog.cellsOf 11 = 1 := by kernel_rfl
@[simp] theorem info11 : Tryz.prog.info? 11 = some Tryz.t11 := by kernel_rfl
@[simp] theorem agg11 : isAggT Tryz.prog 11 = false := by kernel_rfl
attribute [simp] Tryz.underlying11
@[simp] theorem bytes11 : Tryz.t11.bytes = 16 := rfl
@[simp] theorem zero11 : Tryz.t11.zero = some (.string ⟨#[]⟩) := rfl
@[simp] theorem cells12 : Tryz.prog.cellsOf 12 = 1 := by kernel_rfl
@[simp] theorem info12 : Tryz.prog.info? 12 = some Tryz.t12 := by kernel_rfl
@[simp] theorem agg12 : isAggT Tryz.prog 12 = false := by kernel_rfl
attribute [simp] Tryz.underlying12
@[simp] theorem bytes12 : Tryz.t12.bytes = 8 := rfl
@[simp] theorem zero12 : Tryz.t12.zero = some (.int .u64 0) := rfl
@[simp] theorem cells13 : Tryz.prog.cellsOf 13 = 2 := by kernel_rfl
@[simp] theorem info13 : Tryz.prog.info? 13 = some Tryz.t13 := by kernel_rfl
@[simp] theorem agg13 : isAggT Tryz.prog 13 = true := by kernel_rfl
attribute [simp] Tryz.underlying13
@[simp] theorem bytes13 : Tryz.t13.bytes = 24 := rfl
@[simp] theorem zero13 : Tryz.t13.zero = some (.agg #[(.string ⟨#[]⟩), (.int .u64 0)]) := rfl
@[simp] theorem cells14 : Tryz.prog.cellsOf 14 = 2 := by kernel_rfl
@[simp] theorem info14 : Tryz.prog.info? 14 = some Tryz.t14 := by kernel_rfl
@[simp] theorem agg14 : isAggT Tryz.prog 14 = true := by kernel_rfl
attribute [simp] Tryz.underlying14
@[simp] theorem bytes14 : Tryz.t14.bytes = 24 := rfl
@[simp] theorem zero14 : Tryz.t14.zero = some (.agg #[(.string ⟨#[]⟩), (.int .u64 0)]) := rfl
@[simp] theorem cells15 : Tryz.prog.cellsOf 15 = 1 := by kernel_rfl
@[simp] theorem info15 : Tryz.prog.info? 15 = some Tryz.t15 := by kernel_rfl
@[simp] theorem agg15 : isAggT Tryz.prog 15 = false := by kernel_rfl
attribute [simp] Tryz.underlying15
@[simp] theorem bytes15 : Tryz.t15.bytes = 8 := rfl
@[simp] theorem zero15 : Tryz.t15.zero = some (.pointer none) := rfl
@[simp] theorem cells16 : Tryz.prog.cellsOf 16 = 1 := by kernel_rfl
@[simp] theorem info16 : Tryz.prog.info? 16 = some Tryz.t16 := by kernel_rfl
@[simp] theorem agg16 : isAggT Tryz.prog 16 = false := by kernel_rfl
attribute [simp] Tryz.underlying16
@[simp] theorem bytes16 : Tryz.t16.bytes = 8 := rfl
@[simp] theorem zero16 : Tryz.t16.zero = some (.pointer none) := rfl
@[simp] theorem cells17 : Tryz.prog.cellsOf 17 = 1 := by kernel_rfl
@[simp] theorem info17 : Tryz.prog.info? 17 = some Tryz.t17 := by kernel_rfl
@[simp] theorem agg17 : isAggT Tryz.prog 17 = false := by kernel_rfl
attribute [simp] Tryz.underlying17
@[simp] theorem bytes17 : Tryz.t17.bytes = 8 := rfl
@[simp] theorem zero17 : Tryz.t17.zero = some (.pointer none) := rfl
@[simp] theorem cells18 : Tryz.prog.cellsOf 18 = 1 := by kernel_rfl
@[simp] theorem info18 : Tryz.prog.info? 18 = some Tryz.t18 := by kernel_rfl
@[simp] theorem agg18 : isAggT Tryz.prog 18 = true := by kernel_rfl
attribute [simp] Tryz.underlying18
@[simp] theorem bytes18 : Tryz.t18.bytes = 8 := rfl
@[simp] theorem zero18 : Tryz.t18.zero = some (.agg #[(.pointer none)]) := rfl
@[simp] theorem cells19 : Tryz.prog.cellsOf 19 = 1 := by kernel_rfl
@[simp] theorem info19 : Tryz.prog.info? 19 = some Tryz.t19 := by kernel_rfl
@[simp] theorem agg19 : isAggT Tryz.prog 19 = true := by kernel_rfl
attribute [simp] Tryz.underlying19
@[simp] theorem bytes19 : Tryz.t19.bytes = 8 := rfl
@[simp] theorem zero19 : Tryz.t19.zero = some (.agg #[(.pointer none)]) := rfl
@[simp] theorem cells20 : Tryz.prog.cellsOf 20 = 1 := by kernel_rfl
@[simp] theorem info20 : Tryz.prog.info? 20 = some Tryz.t20 := by kernel_rfl
@[simp] theorem agg20 : isAggT Tryz.prog 20 = false := by kernel_rfl
attribute [simp] Tryz.underlying20
@[simp] theorem bytes20 : Tryz.t20.bytes = 16 := rfl
@[simp] theorem zero20 : Tryz.t20.zero = some .nilIface := rfl
@[simp] theorem cells21 : Tryz.prog.cellsOf 21 = 1 := by kernel_rfl
@[simp] theorem info21 : Tryz.prog.info? 21 = some Tryz.t21 := by kernel_rfl
@[simp] theorem agg21 : isAggT Tryz.prog 21 = false := by kernel_rfl
attribute [simp] Tryz.underlying21
@[simp] theorem bytes21 : Tryz.t21.bytes = 4 := rfl
@[simp] theorem zero21 : Tryz.t21.zero = some (.int .i32 0) := rfl
@[simp] theorem cells22 : Tryz.prog.cellsOf 22 = 1 := by kernel_rfl
@[simp] theorem info22 : Tryz.prog.info? 22 = some Tryz.t22 := by kernel_rfl
@[simp] theorem agg22 : isAggT Tryz.prog 22 = false := by kernel_rfl
attribute [simp] Tryz.underlying22
@[simp] theorem bytes22 : Tryz.t22.bytes = 24 := rfl
@[simp] theorem zero22 : Tryz.t22.zero = some (.slice none 0 0) := rfl
@[simp] theorem cells23 : Tryz.prog.cellsOf 23 = 1 := by kernel_rfl
@[simp] theorem info23 : Tryz.prog.info? 23 = some Tryz.t23 := by kernel_rfl
@[simp] theorem agg23 : isAggT Tryz.prog 23 = false := by kernel_rfl
attribute [simp] Tryz.underlying23
@[simp] theorem bytes23 : Tryz.t23.bytes = 24 := rfl
@[simp] theorem zero23 : Tryz.t23.zero = some (.slice none 0 0) := rfl
@[simp] theorem cells24 : Tryz.prog.cellsOf 24 = 1 := by kernel_rfl
@[simp] theorem info24 : Tryz.prog.info? 24 = some Tryz.t24 := by kernel_rfl
@[simp] theorem agg24 : isAggT Tryz.prog 24 = false := by kernel_rfl
attribute [simp] Tryz.underlying24
@[simp] theorem bytes24 : Tryz.t24.bytes = 8 := rfl
@[simp] theorem zero24 : Tryz.t24.zero = some .nilFunc := rfl
@[simp] theorem cells25 : Tryz.prog.cellsOf 25 = 1 := by kernel_rfl
@[simp] theorem info25 : Tryz.prog.info? 25 = some Tryz.t25 := by kernel_rfl
@[simp] theorem agg25 : isAggT Tryz.prog 25 = false := by kernel_rfl
attribute [simp] Tryz.underlying25
@[simp] theorem bytes25 : Tryz.t25.bytes = 8 := rfl
@[simp] theorem zero25 : Tryz.t25.zero = some .nilFunc := rfl
@[simp] theorem cells26 : Tryz.prog.cellsOf 26 = 1 := by kernel_rfl
@[simp] theorem info26 : Tryz.prog.info? 26 = some Tryz.t26 := by kernel_rfl
@[simp] theorem agg26 : isAggT Tryz.prog 26 = false := by kernel_rfl
attribute [simp] Tryz.underlying26
@[simp] theorem bytes26 : Tryz.t26.bytes = 8 := rfl
@[simp] theorem zero26 : Tryz.t26.zero = some .nilFunc := rfl
@[simp] theorem cells27 : Tryz.prog.cellsOf 27 = 1 := by kernel_rfl
@[simp] theorem info27 : Tryz.prog.info? 27 = some Tryz.t27 := by kernel_rfl
@[simp] theorem agg27 : isAggT Tryz.prog 27 = false := by kernel_rfl
attribute [simp] Tryz.underlying27
@[simp] theorem bytes27 : Tryz.t27.bytes = 8 := rfl
@[simp] theorem zero27 : Tryz.t27.zero = some .nilFunc := rfl
@[simp] theorem cells28 : Tryz.prog.cellsOf 28 = 1 := by kernel_rfl
@[simp] theorem info28 : Tryz.prog.info? 28 = some Tryz.t28 := by kernel_rfl
@[simp] theorem agg28 : isAggT Tryz.prog 28 = false := by kernel_rfl
attribute [simp] Tryz.underlying28
@[simp] theorem bytes28 : Tryz.t28.bytes = 8 := rfl
@[simp] theorem zero28 : Tryz.t28.zero = some .nilFunc := rfl
@[simp] theorem cells29 : Tryz.prog.cellsOf 29 = 1 := by kernel_rfl
@[simp] theorem info29 : Tryz.prog.info? 29 = some Tryz.t29 := by kernel_rfl
@[simp] theorem agg29 : isAggT Tryz.prog 29 = false := by kernel_rfl
attribute [simp] Tryz.underlying29
@[simp] theorem bytes29 : Tryz.t29.bytes = 8 := rfl
@[simp] theorem zero29 : Tryz.t29.zero = some .nilFunc := rfl
@[simp] theorem cells30 : Tryz.prog.cellsOf 30 = 1 := by kernel_rfl
@[simp] theorem info30 : Tryz.prog.info? 30 = some Tryz.t30 := by kernel_rfl
@[simp] theorem agg30 : isAggT Tryz.prog 30 = false := by kernel_rfl
attribute [simp] Tryz.underlying30
@[simp] theorem bytes30 : Tryz.t30.bytes = 8 := rfl
@[simp] theorem zero30 : Tryz.t30.zero = some .nilFunc := rfl
@[simp] theorem cells31 : Tryz.prog.cellsOf 31 = 1 := by kernel_rfl
@[simp] theorem info31 : Tryz.prog.info? 31 = some Tryz.t31 := by kernel_rfl
@[simp] theorem agg31 : isAggT Tryz.prog 31 = false := by kernel_rfl
attribute [simp] Tryz.underlying31
@[simp] theorem bytes31 : Tryz.t31.bytes = 8 := rfl
@[simp] theorem zero31 : Tryz.t31.zero = some .nilFunc := rfl
@[simp] theorem cells32 : Tryz.prog.cellsOf 32 = 1 := by kernel_rfl
@[simp] theorem info32 : Tryz.prog.info? 32 = some Tryz.t32 := by kernel_rfl
@[simp] theorem agg32 : isAggT Tryz.prog 32 = false := by kernel_rfl
attribute [simp] Tryz.underlying32
@[simp] theorem bytes32 : Tryz.t32.bytes = 8 := rfl
@[simp] theorem zero32 : Tryz.t32.zero = some .nilFunc := rfl
@[simp] theorem cells33 : Tryz.prog.cellsOf 33 = 1 := by kernel_rfl
@[simp] theorem info33 : Tryz.prog.info? 33 = some Tryz.t33 := by kernel_rfl
@[simp] theorem agg33 : isAggT Tryz.prog 33 = false := by kernel_rfl
attribute [simp] Tryz.underlying33
@[simp] theorem bytes33 : Tryz.t33.bytes = 8 := rfl
@[simp] theorem zero33 : Tryz.t33.zero = some (.int .i64 0) := rfl
@[simp] theorem cells34 : Tryz.prog.cellsOf 34 = 1 := by kernel_rfl
@[simp] theorem info34 : Tryz.prog.info? 34 = some Tryz.t34 := by kernel_rfl
@[simp] theorem agg34 : isAggT Tryz.prog 34 = false := by kernel_rfl
attribute [simp] Tryz.underlying34
@[simp] theorem bytes34 : Tryz.t34.bytes = 0 := rfl
@[simp] theorem cells35 : Tryz.prog.cellsOf 35 = 1 := by kernel_rfl
@[simp] theorem info35 : Tryz.prog.info? 35 = some Tryz.t35 := by kernel_rfl
@[simp] theorem agg35 : isAggT Tryz.prog 35 = false := by kernel_rfl
attribute [simp] Tryz.underlying35
@[simp] theorem bytes35 : Tryz.t35.bytes = 8 := rfl
@[simp] theorem zero35 : Tryz.t35.zero = some .nilFunc := rfl
@[simp] theorem cells36 : Tryz.prog.cellsOf 36 = 1 := by kernel_rfl
@[simp] theorem info36 : Tryz.prog.info? 36 = some Tryz.t36 := by kernel_rfl
@[simp] theorem agg36 : isAggT Tryz.prog 36 = false := by kernel_rfl
attribute [simp] Tryz.underlying36
@[simp] theorem bytes36 : Tryz.t36.bytes = 8 := rfl
@[simp] theorem zero36 : Tryz.t36.zero = some .nilFunc := rfl
@[simp] theorem cells37 : Tryz.prog.cellsOf 37 = 1 := by kernel_rfl
@[simp] theorem info37 : Tryz.prog.info? 37 = some Tryz.t37 := by kernel_rfl
@[simp] theorem agg37 : isAggT Tryz.prog 37 = false := by kernel_rfl
attribute [simp] Tryz.underlying37
@[simp] theorem bytes37 : Tryz.t37.bytes = 8 := rfl
@[simp] theorem zero37 : Tryz.t37.zero = some (.int .i64 0) := rfl
@[simp] theorem cells38 : Tryz.prog.cellsOf 38 = 4 := by kernel_rfl
@[simp] theorem info38 : Tryz.prog.info? 38 = some Tryz.t38 := by kernel_rfl
@[simp] theorem agg38 : isAggT Tryz.prog 38 = true := by kernel_rfl
attribute [simp] Tryz.underlying38
@[simp] theorem bytes38 : Tryz.t38.bytes = 40 := rfl
@[simp] theorem zero38 : Tryz.t38.zero = some (.agg #[(.int .i64 0), (.int .i64 0), (.string ⟨#[]⟩), (.int .i64 0)]) := rfl
@[simp] theorem cells39 : Tryz.prog.cellsOf 39 = 4 := by kernel_rfl
@[simp] theorem info39 : Tryz.prog.info? 39 = some Tryz.t39 := by kernel_rfl
@[simp] theorem agg39 : isAggT Tryz.prog 39 = true := by kernel_rfl
attribute [simp] Tryz.underlying39
@[simp] theorem bytes39 : Tryz.t39.bytes = 40 := rfl
@[simp] theorem zero39 : Tryz.t39.zero = some (.agg #[(.int .i64 0), (.int .i64 0), (.string ⟨#[]⟩), (.int .i64 0)]) := rfl
@[simp] theorem cells40 : Tryz.prog.cellsOf 40 = 1 := by kernel_rfl
@[simp] theorem info40 : Tryz.prog.info? 40 = some Tryz.t40 := by kernel_rfl
@[simp] theorem agg40 : isAggT Tryz.prog 40 = false := by kernel_rfl
attribute [simp] Tryz.underlying40
@[simp] theorem bytes40 : Tryz.t40.bytes = 8 := rfl
@[simp] theorem zero40 : Tryz.t40.zero = some .nilFunc := rfl
@[simp] theorem cells41 : Tryz.prog.cellsOf 41 = 1 := by kernel_rfl
@[simp] theorem info41 : Tryz.prog.info? 41 = some Tryz.t41 := by kernel_rfl
@[simp] theorem agg41 : isAggT Tryz.prog 41 = false := by kernel_rfl
attribute [simp] Tryz.underlying41
@[simp] theorem bytes41 : Tryz.t41.bytes = 8 := rfl
@[simp] theorem zero41 : Tryz.t41.zero = some .nilFunc := rfl
@[simp] theorem cells42 : Tryz.prog.cellsOf 42 = 1 := by kernel_rfl
@[simp] theorem info42 : Tryz.prog.info? 42 = some Tryz.t42 := by kernel_rfl
@[simp] theorem agg42 : isAggT Tryz.prog 42 = false := by kernel_rfl
attribute [simp] Tryz.underlying42
@[simp] theorem bytes42 : Tryz.t42.bytes = 8 := rfl
@[simp] theorem zero42 : Tryz.t42.zero = some .nilFunc := rfl
@[simp] theorem cells43 : Tryz.prog.cellsOf 43 = 1 := by kernel_rfl
@[simp] theorem info43 : Tryz.prog.info? 43 = some Tryz.t43 := by kernel_rfl
@[simp] theorem agg43 : isAggT Tryz.prog 43 = false := by kernel_rfl
attribute [simp] Tryz.underlying43
@[simp] theorem bytes43 : Tryz.t43.bytes = 8 := rfl
@[simp] theorem zero43 : Tryz.t43.zero = some .nilFunc := rfl
@[simp] theorem cells44 : Tryz.prog.cellsOf 44 = 1 := by kernel_rfl
@[simp] theorem info44 : Tryz.prog.info? 44 = some Tryz.t44 := by kernel_rfl
@[simp] theorem agg44 : isAggT Tryz.prog 44 = false := by kernel_rfl
attribute [simp] Tryz.underlying44
@[simp] theorem bytes44 : Tryz.t44.bytes = 24 := rfl
@[simp] theorem zero44 : Tryz.t44.zero = some (.slice none 0 0) := rfl
@[simp] theorem cells45 : Tryz.prog.cellsOf 45 = 1 := by kernel_rfl
@[simp] theorem info45 : Tryz.prog.info? 45 = some Tryz.t45 := by kernel_rfl
@[simp] theorem agg45 : isAggT Tryz.prog 45 = false := by kernel_rfl
attribute [simp] Tryz.underlying45
@[simp] theorem bytes45 : Tryz.t45.bytes = 8 := rfl
@[simp] theorem zero45 : Tryz.t45.zero = some .nilFunc := rfl
@[simp] theorem cells46 : Tryz.prog.cellsOf 46 = 1 := by kernel_rfl
@[simp] theorem info46 : Tryz.prog.info? 46 = some Tryz.t46 := by kernel_rfl
@[simp] theorem agg46 : isAggT Tryz.prog 46 = false := by kernel_rfl
attribute [simp] Tryz.underlying46
@[simp] theorem bytes46 : Tryz.t46.bytes = 24 := rfl
@[simp] theorem zero46 : Tryz.t46.zero = some (.slice none 0 0) := rfl
@[simp] theorem cells47 : Tryz.prog.cellsOf 47 = 1 := by kernel_rfl
@[simp] theorem info47 : Tryz.prog.info? 47 = some Tryz.t47 := by kernel_rfl
@[simp] theorem agg47 : isAggT Tryz.prog 47 = false := by kernel_rfl
attribute [simp] Tryz.underlying47
@[simp] theorem bytes47 : Tryz.t47.bytes = 8 := rfl
@[simp] theorem zero47 : Tryz.t47.zero = some .nilFunc := rfl
@[simp] theorem cells48 : Tryz.prog.cellsOf 48 = 1 := by kernel_rfl
@[simp] theorem info48 : Tryz.prog.info? 48 = some Tryz.t48 := by kernel_rfl
@[simp] theorem agg48 : isAggT Tryz.prog 48 = false := by kernel_rfl
attribute [simp] Tryz.underlying48
@[simp] theorem bytes48 : Tryz.t48.bytes = 8 := rfl
@[simp] theorem zero48 : Tryz.t48.zero = some .nilFunc := rfl
@[simp] theorem cells49 : Tryz.prog.cellsOf 49 = 2 := by kernel_rfl
@[simp] theorem info49 : Tryz.prog.info? 49 = some Tryz.t49 := by kernel_rfl
@[simp] theorem agg49 : isAggT Tryz.prog 49 = true := by kernel_rfl
attribute [simp] Tryz.underlying49
@[simp] theorem bytes49 : Tryz.t49.bytes = 32 := rfl
@[simp] theorem zero49 : Tryz.t49.zero = some (.agg #[(.slice none 0 0), (.int .i64 0)]) := rfl
@[simp] theorem cells50 : Tryz.prog.cellsOf 50 = 2 := by kernel_rfl
@[simp] theorem info50 : Tryz.prog.info? 50 = some Tryz.t50 := by kernel_rfl
@[simp] theorem agg50 : isAggT Tryz.prog 50 = true := by kernel_rfl
attribute [simp] Tryz.underlying50
@[simp] theorem bytes50 : Tryz.t50.bytes = 32 := rfl
@[simp] theorem zero50 : Tryz.t50.zero = some (.agg #[(.slice none 0 0), (.int .i64 0)]) := rfl
@[simp] theorem cells51 : Tryz.prog.cellsOf 51 = 1 := by kernel_rfl
@[simp] theorem info51 : Tryz.prog.info? 51 = some Tryz.t51 := by kernel_rfl
@[simp] theorem agg51 : isAggT Tryz.prog 51 = false := by kernel_rfl
attribute [simp] Tryz.underlying51
@[simp] theorem bytes51 : Tryz.t51.bytes = 8 := rfl
@[simp] theorem zero51 : Tryz.t51.zero = some .nilFunc := rfl
@[simp] theorem cells52 : Tryz.prog.cellsOf 52 = 1 := by kernel_rfl
@[simp] theorem info52 : Tryz.prog.info? 52 = some Tryz.t52 := by kernel_rfl
@[simp] theorem agg52 : isAggT Tryz.prog 52 = false := by kernel_rfl
attribute [simp] Tryz.underlying52
@[simp] theorem bytes52 : Tryz.t52.bytes = 8 := rfl
@[simp] theorem zero52 : Tryz.t52.zero = some .nilFunc := rfl
@[simp] theorem cells53 : Tryz.prog.cellsOf 53 = 1 := by kernel_rfl
@[simp] theorem info53 : Tryz.prog.info? 53 = some Tryz.t53 := by kernel_rfl
@[simp] theorem agg53 : isAggT Tryz.prog 53 = false := by kernel_rfl
attribute [simp] Tryz.underlying53
@[simp] theorem bytes53 : Tryz.t53.bytes = 8 := rfl
@[simp] theorem zero53 : Tryz.t53.zero = some (.pointer none) := rfl
@[simp] theorem cells54 : Tryz.prog.cellsOf 54 = 1 := by kernel_rfl
@[simp] theorem info54 : Tryz.prog.info? 54 = some Tryz.t54 := by kernel_rfl
@[simp] theorem agg54 : isAggT Tryz.prog 54 = false := by kernel_rfl
attribute [simp] Tryz.underlying54
@[simp] theorem bytes54 : Tryz.t54.bytes = 24 := rfl
@[simp] theorem zero54 : Tryz.t54.zero = some (.slice none 0 0) := rfl
@[simp] theorem cells55 : Tryz.prog.cellsOf 55 = 1 := by kernel_rfl
@[simp] theorem info55 : Tryz.prog.info? 55 = some Tryz.t55 := by kernel_rfl
@[simp] theorem agg55 : isAggT Tryz.prog 55 = false := by kernel_rfl
attribute [simp] Tryz.underlying55
@[simp] theorem bytes55 : Tryz.t55.bytes = 8 := rfl
@[simp] theorem zero55 : Tryz.t55.zero = some .nilFunc := rfl
@[simp] theorem cells56 : Tryz.prog.cellsOf 56 = 1 := by kernel_rfl
@[simp] theorem info56 : Tryz.prog.info? 56 = some Tryz.t56 := by kernel_rfl
@[simp] theorem agg56 : isAggT Tryz.prog 56 = false := by kernel_rfl
attribute [simp] Tryz.underlying56
@[simp] theorem bytes56 : Tryz.t56.bytes = 8 := rfl
@[simp] theorem zero56 : Tryz.t56.zero = some .nilFunc := rfl
@[simp] theorem cells57 : Tryz.prog.cellsOf 57 = 1 := by kernel_rfl
@[simp] theorem info57 : Tryz.prog.info? 57 = some Tryz.t57 := by kernel_rfl
@[simp] theorem agg57 : isAggT Tryz.prog 57 = false := by kernel_rfl
attribute [simp] Tryz.underlying57
@[simp] theorem bytes57 : Tryz.t57.bytes = 8 := rfl
@[simp] theorem zero57 : Tryz.t57.zero = some .nilFunc := rfl
@[simp] theorem cells58 : Tryz.prog.cellsOf 58 = 1 := by kernel_rfl
@[simp] theorem info58 : Tryz.prog.info? 58 = some Tryz.t58 := by kernel_rfl
@[simp] theorem agg58 : isAggT Tryz.prog 58 = false := by kernel_rfl
attribute [simp] Tryz.underlying58
@[simp] theorem bytes58 : Tryz.t58.bytes = 8 := rfl
@[simp] theorem zero58 : Tryz.t58.zero = some .nilFunc := rfl
@[simp] theorem cells59 : Tryz.prog.cellsOf 59 = 1 := by kernel_rfl
@[simp] theorem info59 : Tryz.prog.info? 59 = some Tryz.t59 := by kernel_rfl
@[simp] theorem agg59 : isAggT Tryz.prog 59 = false := by kernel_rfl
attribute [simp] Tryz.underlying59
@[simp] theorem bytes59 : Tryz.t59.bytes = 8 := rfl
@[simp] theorem zero59 : Tryz.t59.zero = some .nilFunc := rfl
@[simp] theorem cells60 : Tryz.prog.cellsOf 60 = 1 := by kernel_rfl
@[simp] theorem info60 : Tryz.prog.info? 60 = some Tryz.t60 := by kernel_rfl
@[simp] theorem agg60 : isAggT Tryz.prog 60 = false := by kernel_rfl
attribute [simp] Tryz.underlying60
@[simp] theorem bytes60 : Tryz.t60.bytes = 24 := rfl
@[simp] theorem zero60 : Tryz.t60.zero = some (.slice none 0 0) := rfl
@[simp] theorem cells61 : Tryz.prog.cellsOf 61 = 1 := by kernel_rfl
@[simp] theorem info61 : Tryz.prog.info? 61 = some Tryz.t61 := by kernel_rfl
@[simp] theorem agg61 : isAggT Tryz.prog 61 = false := by kernel_rfl
attribute [simp] Tryz.underlying61
@[simp] theorem bytes61 : Tryz.t61.bytes = 24 := rfl
@[simp] theorem zero61 : Tryz.t61.zero = some (.slice none 0 0) := rfl
@[simp] theorem cells62 : Tryz.prog.cellsOf 62 = 1 := by kernel_rfl
@[simp] theorem info62 : Tryz.prog.info? 62 = some Tryz.t62 := by kernel_rfl
@[simp] theorem agg62 : isAggT Tryz.prog 62 = false := by kernel_rfl
attribute [simp] Tryz.underlying62
@[simp] theorem bytes62 : Tryz.t62.bytes = 8 := rfl
@[simp] theorem zero62 : Tryz.t62.zero = some .nilFunc := rfl
@[simp] theorem cells63 : Tryz.prog.cellsOf 63 = 1 := by kernel_rfl
@[simp] theorem info63 : Tryz.prog.info? 63 = some Tryz.t63 := by kernel_rfl
@[simp] theorem agg63 : isAggT Tryz.prog 63 = false := by kernel_rfl
attribute [simp] Tryz.underlying63
@[simp] theorem bytes63 : Tryz.t63.bytes = 8 := rfl
@[simp] theorem zero63 : Tryz.t63.zero = some .nilFunc := rfl
@[simp] theorem cells64 : Tryz.prog.cellsOf 64 = 1 := by kernel_rfl
@[simp] theorem info64 : Tryz.prog.info? 64 = some Tryz.t64 := by kernel_rfl
@[simp] theorem agg64 : isAggT Tryz.prog 64 = false := by kernel_rfl
attribute [simp] Tryz.underlying64
@[simp] theorem bytes64 : Tryz.t64.bytes = 8 := rfl
@[simp] theorem zero64 : Tryz.t64.zero = some .nilFunc := rfl
@[simp] theorem cells65 : Tryz.prog.cellsOf 65 = 5 := by kernel_rfl
@[simp] theorem info65 : Tryz.prog.info? 65 = some Tryz.t65 := by kernel_rfl
@[simp] theorem agg65 : isAggT Tryz.prog 65 = true := by kernel_rfl
attribute [simp] Tryz.underlying65
@[simp] theorem bytes65 : Tryz.t65.bytes = 72 := rfl
@[simp] theorem zero65 : Tryz.t65.zero = some (.agg #[(.int .i64 0), (.int .i64 0), (.bool false), (.slice none 0 0), (.slice none 0 0)]) := rfl
@[simp] theorem cells66 : Tryz.prog.cellsOf 66 = 5 := by kernel_rfl
@[simp] theorem info66 : Tryz.prog.info? 66 = some Tryz.t66 := by kernel_rfl
@[simp] theorem agg66 : isAggT Tryz.prog 66 = true := by kernel_rfl
attribute [simp] Tryz.underlying66
@[simp] theorem bytes66 : Tryz.t66.bytes = 72 := rfl
@[simp] theorem zero66 : Tryz.t66.zero = some (.agg #[(.int .i64 0), (.int .i64 0), (.bool false), (.slice none 0 0), (.slice none 0 0)]) := rfl
@[simp] theorem cells67 : Tryz.prog.cellsOf 67 = 1 := by kernel_rfl
@[simp] theorem info67 : Tryz.prog.info? 67 = some Tryz.t67 := by kernel_rfl
@[simp] theorem agg67 : isAggT Tryz.prog 67 = false := by kernel_rfl
attribute [simp] Tryz.underlying67
@[simp] theorem bytes67 : Tryz.t67.bytes = 8 := rfl
@[simp] theorem zero67 : Tryz.t67.zero = some .nilFunc := rfl
@[simp] theorem cells68 : Tryz.prog.cellsOf 68 = 1 := by kernel_rfl
@[simp] theorem info68 : Tryz.prog.info? 68 = some Tryz.t68 := by kernel_rfl
@[simp] theorem agg68 : isAggT Tryz.prog 68 = false := by kernel_rfl
attribute [simp] Tryz.underlying68
@[simp] theorem bytes68 : Tryz.t68.bytes = 8 := rfl
@[simp] theorem zero68 : Tryz.t68.zero = some .nilFunc := rfl
@[simp] theorem cells69 : Tryz.prog.cellsOf 69 = 1 := by kernel_rfl
@[simp] theorem info69 : Tryz.prog.info? 69 = some Tryz.t69 := by kernel_rfl
@[simp] theorem agg69 : isAggT Tryz.prog 69 = false := by kernel_rfl
attribute [simp] Tryz.underlying69
@[simp] theorem bytes69 : Tryz.t69.bytes = 8 := rfl
@[simp] theorem zero69 : Tryz.t69.zero = some .nilFunc := rfl
@[simp] theorem cells70 : Tryz.prog.cellsOf 70 = 1 := by kernel_rfl
@[simp] theorem info70 : Tryz.prog.info? 70 = some Tryz.t70 := by kernel_rfl
@[simp] theorem agg70 : isAggT Tryz.prog 70 = false := by kernel_rfl
attribute [simp] Tryz.underlying70
@[simp] theorem bytes70 : Tryz.t70.bytes = 8 := rfl
@[simp] theorem zero70 : Tryz.t70.zero = some .nilFunc := rfl
@[simp] theorem cells71 : Tryz.prog.cellsOf 71 = 1 := by kernel_rfl
@[simp] theorem info71 : Tryz.prog.info? 71 = some Tryz.t71 := by kernel_rfl
@[simp] theorem agg71 : isAggT Tryz.prog 71 = false := by kernel_rfl
attribute [simp] Tryz.underlying71
@[simp] theorem bytes71 : Tryz.t71.bytes = 8 := rfl
@[simp] theorem zero71 : Tryz.t71.zero = some .nilFunc := rfl
@[simp] theorem cells72 : Tryz.prog.cellsOf 72 = 1 := by kernel_rfl
@[simp] theorem info72 : Tryz.prog.info? 72 = some Tryz.t72 := by kernel_rfl
@[simp] theorem agg72 : isAggT Tryz.prog 72 = false := by kernel_rfl
attribute [simp] Tryz.underlying72
@[simp] theorem bytes72 : Tryz.t72.bytes = 8 := rfl
@[simp] theorem zero72 : Tryz.t72.zero = some .nilFunc := rfl
@[simp] theorem cells73 : Tryz.prog.cellsOf 73 = 1 := by kernel_rfl
@[simp] theorem info73 : Tryz.prog.info? 73 = some Tryz.t73 := by kernel_rfl
@[simp] theorem agg73 : isAggT Tryz.prog 73 = false := by kernel_rfl
attribute [simp] Tryz.underlying73
@[simp] theorem bytes73 : Tryz.t73.bytes = 8 := rfl
@[simp] theorem zero73 : Tryz.t73.zero = some .nilFunc := rfl
@[simp] theorem cells74 : Tryz.prog.cellsOf 74 = 1 := by kernel_rfl
@[simp] theorem info74 : Tryz.prog.info? 74 = some Tryz.t74 := by kernel_rfl
@[simp] theorem agg74 : isAggT Tryz.prog 74 = false := by kernel_rfl
attribute [simp] Tryz.underlying74
@[simp] theorem bytes74 : Tryz.t74.bytes = 8 := rfl
@[simp] theorem zero74 : Tryz.t74.zero = some .nilFunc := rfl
@[simp] theorem cells75 : Tryz.prog.cellsOf 75 = 1 := by kernel_rfl
@[simp] theorem info75 : Tryz.prog.info? 75 = some Tryz.t75 := by kernel_rfl
@[simp] theorem agg75 : isAggT Tryz.prog 75 = false := by kernel_rfl
attribute [simp] Tryz.underlying75
@[simp] theorem bytes75 : Tryz.t75.bytes = 24 := rfl
@[simp] theorem zero75 : Tryz.t75.zero = some (.slice none 0 0) := rfl
@[simp] theorem cells76 : Tryz.prog.cellsOf 76 = 1 := by kernel_rfl
@[simp] theorem info76 : Tryz.prog.info? 76 = some Tryz.t76 := by kernel_rfl
@[simp] theorem agg76 : isAggT Tryz.prog 76 = false := by kernel_rfl
attribute [simp] Tryz.underlying76
@[simp] theorem bytes76 : Tryz.t76.bytes = 8 := rfl
@[simp] theorem zero76 : Tryz.t76.zero = some .nilFunc := rfl
@[simp] theorem cells77 : Tryz.prog.cellsOf 77 = 1 := by kernel_rfl
@[simp] theorem info77 : Tryz.prog.info? 77 = some Tryz.t77 := by kernel_rfl
@[simp] theorem agg77 : isAggT Tryz.prog 77 = false := by kernel_rfl
attribute [simp] Tryz.underlying77
@[simp] theorem bytes77 : Tryz.t77.bytes = 8 := rfl
@[simp] theorem zero77 : Tryz.t77.zero = some .nilFunc := rfl
@[simp] theorem cells78 : Tryz.prog.cellsOf 78 = 1 := by kernel_rfl
@[simp] theorem info78 : Tryz.prog.info? 78 = some Tryz.t78 := by kernel_rfl
@[simp] theorem agg78 : isAggT Tryz.prog 78 = false := by kernel_rfl
attribute [simp] Tryz.underlying78
@[simp] theorem bytes78 : Tryz.t78.bytes = 8 := rfl
@[simp] theorem zero78 : Tryz.t78.zero = some .nilFunc := rfl
@[simp] theorem cells79 : Tryz.prog.cellsOf 79 = 1 := by kernel_rfl
@[simp] theorem info79 : Tryz.prog.info? 79 = some Tryz.t79 := by kernel_rfl
@[simp] theorem agg79 : isAggT Tryz.prog 79 = false := by kernel_rfl
attribute [simp] Tryz.underlying79
@[simp] theorem bytes79 : Tryz.t79.bytes = 8 := rfl
@[simp] theorem zero79 : Tryz.t79.zero = some .nilFunc := rfl
@[simp] theorem cells80 : Tryz.prog.cellsOf 80 = 1 := by kernel_rfl
@[simp] theorem info80 : Tryz.prog.info? 80 = some Tryz.t80 := by kernel_rfl
@[simp] theorem agg80 : isAggT Tryz.prog 80 = false := by kernel_rfl
attribute [simp] Tryz.underlying80
@[simp] theorem bytes80 : Tryz.t80.bytes = 8 := rfl
@[simp] theorem zero80 : Tryz.t80.zero = some (.int .u64 0) := rfl
@[simp] theorem cells81 : Tryz.prog.cellsOf 81 = 1 := by kernel_rfl
@[simp] theorem info81 : Tryz.prog.info? 81 = some Tryz.t81 := by kernel_rfl
@[simp] theorem agg81 : isAggT Tryz.prog 81 = false := by kernel_rfl
attribute [simp] Tryz.underlying81
@[simp] theorem bytes81 : Tryz.t81.bytes = 16 := rfl
@[simp] theorem zero81 : Tryz.t81.zero = some .nilIface := rfl
@[simp] theorem cells82 : Tryz.prog.cellsOf 82 = 1 := by kernel_rfl
@[simp] theorem info82 : Tryz.prog.info? 82 = some Tryz.t82 := by kernel_rfl
@[simp] theorem agg82 : isAggT Tryz.prog 82 = false := by kernel_rfl
attribute [simp] Tryz.underlying82
@[simp] theorem bytes82 : Tryz.t82.bytes = 16 := rfl
@[simp] theorem zero82 : Tryz.t82.zero = some .nilIface := rfl
@[simp] theorem cells83 : Tryz.prog.cellsOf 83 = 1 := by kernel_rfl
@[simp] theorem info83 : Tryz.prog.info? 83 = some Tryz.t83 := by kernel_rfl
@[simp] theorem agg83 : isAggT Tryz.prog 83 = false := by kernel_rfl
attribute [simp] Tryz.underlying83
@[simp] theorem bytes83 : Tryz.t83.bytes = 8 := rfl
@[simp] theorem zero83 : Tryz.t83.zero = some .nilFunc := rfl
@[simp] theorem cells84 : Tryz.prog.cellsOf 84 = 1 := by kernel_rfl
@[simp] theorem info84 : Tryz.prog.info? 84 = some Tryz.t84 := by kernel_rfl
@[simp] theorem agg84 : isAggT Tryz.prog 84 = false := by kernel_rfl
attribute [simp] Tryz.underlying84
@[simp] theorem bytes84 : Tryz.t84.bytes = 8 := rfl
@[simp] theorem zero84 : Tryz.t84.zero = some .nilFunc := rfl
@[simp] theorem cells85 : Tryz.prog.cellsOf 85 = 1 := by kernel_rfl
@[simp] theorem info85 : Tryz.prog.info? 85 = some Tryz.t85 := by kernel_rfl
@[simp] theorem agg85 : isAggT Tryz.prog 85 = false := by kernel_rfl
attribute [simp] Tryz.underlying85
@[simp] theorem bytes85 : Tryz.t85.bytes = 8 := rfl
@[simp] theorem zero85 : Tryz.t85.zero = some .nilFunc := rfl
@[simp] theorem cells86 : Tryz.prog.cellsOf 86 = 1 := by kernel_rfl
@[simp] theorem info86 : Tryz.prog.info? 86 = some Tryz.t86 := by kernel_rfl
@[simp] theorem agg86 : isAggT Tryz.prog 86 = false := by kernel_rfl
attribute [simp] Tryz.underlying86
@[simp] theorem bytes86 : Tryz.t86.bytes = 8 := rfl
@[simp] theorem zero86 : Tryz.t86.zero = some .nilFunc := rfl
@[simp] theorem cells87 : Tryz.prog.cellsOf 87 = 1 := by kernel_rfl
@[simp] theorem info87 : Tryz.prog.info? 87 = some Tryz.t87 := by kernel_rfl
@[simp] theorem agg87 : isAggT Tryz.prog 87 = false := by kernel_rfl
attribute [simp] Tryz.underlying87
@[simp] theorem bytes87 : Tryz.t87.bytes = 8 := rfl
@[simp] theorem zero87 : Tryz.t87.zero = some .nilFunc := rfl
@[simp] theorem cells88 : Tryz.prog.cellsOf 88 = 1 := by kernel_rfl
@[simp] theorem info88 : Tryz.prog.info? 88 = some Tryz.t88 := by kernel_rfl
@[simp] theorem agg88 : isAggT Tryz.prog 88 = false := by kernel_rfl
attribute [simp] Tryz.underlying88
@[simp] theorem bytes88 : Tryz.t88.bytes = 8 := rfl
@[simp] theorem zero88 : Tryz.t88.zero = some .nilFunc := rfl
@[simp] theorem cells89 : Tryz.prog.cellsOf 89 = 1 := by kernel_rfl
@[simp] theorem info89 : Tryz.prog.info? 89 = some Tryz.t89 := by kernel_rfl
@[simp] theorem agg89 : isAggT Tryz.prog 89 = false := by kernel_rfl
attribute [simp] Tryz.underlying89
@[simp] theorem bytes89 : Tryz.t89.bytes = 8 := rfl
@[simp] theorem zero89 : Tryz.t89.zero = some .nilFunc := rfl
@[simp] theorem cells90 : Tryz.prog.cellsOf 90 = 1 := by kernel_rfl
@[simp] theorem info90 : Tryz.prog.info? 90 = some Tryz.t90 := by kernel_rfl
@[simp] theorem agg90 : isAggT Tryz.prog 90 = false := by kernel_rfl
attribute [simp] Tryz.underlying90
@[simp] theorem bytes90 : Tryz.t90.bytes = 8 := rfl
@[simp] theorem zero90 : Tryz.t90.zero = some .nilFunc := rfl
@[simp] theorem cells91 : Tryz.prog.cellsOf 91 = 1 := by kernel_rfl
@[simp] theorem info91 : Tryz.prog.info? 91 = some Tryz.t91 := by kernel_rfl
@[simp] theorem agg91 : isAggT Tryz.prog 91 = false := by kernel_rfl
attribute [simp] Tryz.underlying91
@[simp] theorem bytes91 : Tryz.t91.bytes = 8 := rfl
@[simp] theorem zero91 : Tryz.t91.zero = some .nilFunc := rfl
@[simp] theorem cells92 : Tryz.prog.cellsOf 92 = 1 := by kernel_rfl
@[simp] theorem info92 : Tryz.prog.info? 92 = some Tryz.t92 := by kernel_rfl
@[simp] theorem agg92 : isAggT Tryz.prog 92 = false := by kernel_rfl
attribute [simp] Tryz.underlying92
@[simp] theorem bytes92 : Tryz.t92.bytes = 8 := rfl
@[simp] theorem zero92 : Tryz.t92.zero = some .nilFunc := rfl
@[simp] theorem cells93 : Tryz.prog.cellsOf 93 = 3 := by kernel_rfl
@[simp] theorem info93 : Tryz.prog.info? 93 = some Tryz.t93 := by kernel_rfl
@[simp] theorem agg93 : isAggT Tryz.prog 93 = true := by kernel_rfl
attribute [simp] Tryz.underlying93
@[simp] theorem bytes93 : Tryz.t93.bytes = 40 := rfl
@[simp] theorem zero93 : Tryz.t93.zero = some (.agg #[(.int .i64 0), (.int .i64 0), (.slice none 0 0)]) := rfl
@[simp] theorem cells94 : Tryz.prog.cellsOf 94 = 3 := by kernel_rfl
@[simp] theorem info94 : Tryz.prog.info? 94 = some Tryz.t94 := by kernel_rfl
@[simp] theorem agg94 : isAggT Tryz.prog 94 = true := by kernel_rfl
attribute [simp] Tryz.underlying94
@[simp] theorem bytes94 : Tryz.t94.bytes = 40 := rfl
@[simp] theorem zero94 : Tryz.t94.zero = some (.agg #[(.int .i64 0), (.int .i64 0), (.slice none 0 0)]) := rfl
@[simp] theorem cells95 : Tryz.prog.cellsOf 95 = 1 := by kernel_rfl
@[simp] theorem info95 : Tryz.prog.info? 95 = some Tryz.t95 := by kernel_rfl
@[simp] theorem agg95 : isAggT Tryz.prog 95 = false := by kernel_rfl
attribute [simp] Tryz.underlying95
@[simp] theorem bytes95 : Tryz.t95.bytes = 0 := rfl
@[simp] theorem cells96 : Tryz.prog.cellsOf 96 = 1 := by kernel_rfl
@[simp] theorem info96 : Tryz.prog.info? 96 = some Tryz.t96 := by kernel_rfl
@[simp] theorem agg96 : isAggT Tryz.prog 96 = false := by kernel_rfl
attribute [simp] Tryz.underlying96
@[simp] theorem bytes96 : Tryz.t96.bytes = 8 := rfl
@[simp] theorem zero96 : Tryz.t96.zero = some .nilFunc := rfl
@[simp] theorem cells97 : Tryz.prog.cellsOf 97 = 1 := by kernel_rfl
@[simp] theorem info97 : Tryz.prog.info? 97 = some Tryz.t97 := by kernel_rfl
@[simp] theorem agg97 : isAggT Tryz.prog 97 = false := by kernel_rfl
attribute [simp] Tryz.underlying97
@[simp] theorem bytes97 : Tryz.t97.bytes = 8 := rfl
@[simp] theorem zero97 : Tryz.t97.zero = some .nilFunc := rfl
@[simp] theorem cells98 : Tryz.prog.cellsOf 98 = 1 := by kernel_rfl
@[simp] theorem info98 : Tryz.prog.info? 98 = some Tryz.t98 := by kernel_rfl
@[simp] theorem agg98 : isAggT Tryz.prog 98 = false := by kernel_rfl
attribute [simp] Tryz.underlying98
@[simp] theorem bytes98 : Tryz.t98.bytes = 8 := rfl
@[simp] theorem zero98 : Tryz.t98.zero = some .nilFunc := rfl
@[simp] theorem cells99 : Tryz.prog.cellsOf 99 = 1 := by kernel_rfl
@[simp] theorem info99 : Tryz.prog.info? 99 = some Tryz.t99 := by kernel_rfl
@[simp] theorem agg99 : isAggT Tryz.prog 99 = false := by kernel_rfl
attribute [simp] Tryz.underlying99
@[simp] theorem bytes99 : Tryz.t99.bytes = 8 := rfl
@[simp] theorem zero99 : Tryz.t99.zero = some .nilFunc := rfl
@[simp] theorem cells100 : Tryz.prog.cellsOf 100 = 1 := by kernel_rfl
@[simp] theorem info100 : Tryz.prog.info? 100 = some Tryz.t100 := by kernel_rfl
@[simp] theorem agg100 : isAggT Tryz.prog 100 = false := by kernel_rfl
attribute [simp] Tryz.underlying100
@[simp] theorem bytes100 : Tryz.t100.bytes = 8 := rfl
@[simp] theorem zero100 : Tryz.t100.zero = some .nilFunc := rfl
@[simp] theorem cells101 : Tryz.prog.cellsOf 101 = 1 := by kernel_rfl
@[simp] theorem info101 : Tryz.prog.info? 101 = some Tryz.t101 := by kernel_rfl
@[simp] theorem agg101 : isAggT Tryz.prog 101 = false := by kernel_rfl
attribute [simp] Tryz.underlying101
@[simp] theorem bytes101 : Tryz.t101.bytes = 8 := rfl
@[simp] theorem zero101 : Tryz.t101.zero = some .nilFunc := rfl
@[simp] theorem cells102 : Tryz.prog.cellsOf 102 = 1 := by kernel_rfl
@[simp] theorem info102 : Tryz.prog.info? 102 = some Tryz.t102 := by kernel_rfl
@[simp] theorem agg102 : isAggT Tryz.prog 102 = false := by kernel_rfl
attribute [simp] Tryz.underlying102
@[simp] theorem bytes102 : Tryz.t102.bytes = 8 := rfl
@[simp] theorem zero102 : Tryz.t102.zero = some .nilFunc := rfl
@[simp] theorem cells103 : Tryz.prog.cellsOf 103 = 1 := by kernel_rfl
@[simp] theorem info103 : Tryz.prog.info? 103 = some Tryz.t103 := by kernel_rfl
@[simp] theorem agg103 : isAggT Tryz.prog 103 = false := by kernel_rfl
attribute [simp] Tryz.underlying103
@[simp] theorem bytes103 : Tryz.t103.bytes = 8 := rfl
@[simp] theorem zero103 : Tryz.t103.zero = some (.int .i64 0) := rfl
@[simp] theorem cells104 : Tryz.prog.cellsOf 104 = 1 := by kernel_rfl
@[simp] theorem info104 : Tryz.prog.info? 104 = some Tryz.t104 := by kernel_rfl
@[simp] theorem agg104 : isAggT Tryz.prog 104 = false := by kernel_rfl
attribute [simp] Tryz.underlying104
@[simp] theorem bytes104 : Tryz.t104.bytes = 0 := rfl
@[simp] theorem cells105 : Tryz.prog.cellsOf 105 = 1 := by kernel_rfl
@[simp] theorem info105 : Tryz.prog.info? 105 = some Tryz.t105 := by kernel_rfl
@[simp] theorem agg105 : isAggT Tryz.prog 105 = false := by kernel_rfl
attribute [simp] Tryz.underlying105
@[simp] theorem bytes105 : Tryz.t105.bytes = 8 := rfl
@[simp] theorem zero105 : Tryz.t105.zero = some .nilFunc := rfl
@[simp] theorem cells106 : Tryz.prog.cellsOf 106 = 1 := by kernel_rfl
@[simp] theorem info106 : Tryz.prog.info? 106 = some Tryz.t106 := by kernel_rfl
@[simp] theorem agg106 : isAggT Tryz.prog 106 = false := by kernel_rfl
attribute [simp] Tryz.underlying106
@[simp] theorem bytes106 : Tryz.t106.bytes = 8 := rfl
@[simp] theorem zero106 : Tryz.t106.zero = some .nilFunc := rfl
@[simp] theorem cells107 : Tryz.prog.cellsOf 107 = 1 := by kernel_rfl
@[simp] theorem info107 : Tryz.prog.info? 107 = some Tryz.t107 := by kernel_rfl
@[simp] theorem agg107 : isAggT Tryz.prog 107 = false := by kernel_rfl
attribute [simp] Tryz.underlying107
@[simp] theorem bytes107 : Tryz.t107.bytes = 8 := rfl
@[simp] theorem zero107 : Tryz.t107.zero = some .nilFunc := rfl
@[simp] theorem cells108 : Tryz.prog.cellsOf 108 = 1 := by kernel_rfl
@[simp] theorem info108 : Tryz.prog.info? 108 = some Tryz.t108 := by kernel_rfl
@[simp] theorem agg108 : isAggT Tryz.prog 108 = false := by kernel_rfl
attribute [simp] Tryz.underlying108
@[simp] theorem bytes108 : Tryz.t108.bytes = 0 := rfl
@[simp] theorem cells109 : Tryz.prog.cellsOf 109 = 1 := by kernel_rfl
@[simp] theorem info109 : Tryz.prog.info? 109 = some Tryz.t109 := by kernel_rfl
@[simp] theorem agg109 : isAggT Tryz.prog 109 = false := by kernel_rfl
attribute [simp] Tryz.underlying109
@[simp] theorem bytes109 : Tryz.t109.bytes = 8 := rfl
@[simp] theorem zero109 : Tryz.t109.zero = some .nilFunc := rfl
@[simp] theorem cells110 : Tryz.prog.cellsOf 110 = 1 := by kernel_rfl
@[simp] theorem info110 : Tryz.prog.info? 110 = some Tryz.t110 := by kernel_rfl
@[simp] theorem agg110 : isAggT Tryz.prog 110 = false := by kernel_rfl
attribute [simp] Tryz.underlying110
@[simp] theorem bytes110 : Tryz.t110.bytes = 8 := rfl
@[simp] theorem zero110 : Tryz.t110.zero = some .nilFunc := rfl
@[simp] theorem cells111 : Tryz.prog.cellsOf 111 = 1 := by kernel_rfl
@[simp] theorem info111 : Tryz.prog.info? 111 = some Tryz.t111 := by kernel_rfl
@[simp] theorem agg111 : isAggT Tryz.prog 111 = false := by kernel_rfl
attribute [simp] Tryz.underlying111
@[simp] theorem bytes111 : Tryz.t111.bytes = 4 := rfl
@[simp] theorem zero111 : Tryz.t111.zero = some (.int .u32 0) := rfl
@[simp] theorem cells112 : Tryz.prog.cellsOf 112 = 1 := by kernel_rfl
@[simp] theorem info112 : Tryz.prog.info? 112 = some Tryz.t112 := by kernel_rfl
@[simp] theorem agg112 : isAggT Tryz.prog 112 = false := by kernel_rfl
attribute [simp] Tryz.underlying112
@[simp] theorem bytes112 : Tryz.t112.bytes = 8 := rfl
@[simp] theorem zero112 : Tryz.t112.zero = some .nilFunc := rfl
@[simp] theorem cells113 : Tryz.prog.cellsOf 113 = 1 := by kernel_rfl
@[simp] theorem info113 : Tryz.prog.info? 113 = some Tryz.t113 := by kernel_rfl
@[simp] theorem agg113 : isAggT Tryz.prog 113 = false := by kernel_rfl
attribute [simp] Tryz.underlying113
@[simp] theorem bytes113 : Tryz.t113.bytes = 8 := rfl
@[simp] theorem zero113 : Tryz.t113.zero = some (.int .u64 0) := rfl
@[simp] theorem cells114 : Tryz.prog.cellsOf 114 = 1 := by kernel_rfl
@[simp] theorem info114 : Tryz.prog.info? 114 = some Tryz.t114 := by kernel_rfl
@[simp] theorem agg114 : isAggT Tryz.prog 114 = false := by kernel_rfl
attribute [simp] Tryz.underlying114
@[simp] theorem bytes114 : Tryz.t114.bytes = 8 := rfl
@[simp] theorem zero114 : Tryz.t114.zero = some .nilFunc := rfl
@[simp] theorem cells115 : Tryz.prog.cellsOf 115 = 1 := by kernel_rfl
@[simp] theorem info115 : Tryz.prog.info? 115 = some Tryz.t115 := by kernel_rfl
@[simp] theorem agg115 : isAggT Tryz.prog 115 = false := by kernel_rfl
attribute [simp] Tryz.underlying115
@[simp] theorem bytes115 : Tryz.t115.bytes = 8 := rfl
@[simp] theorem zero115 : Tryz.t115.zero = some .nilFunc := rfl
@[simp] theorem cells116 : Tryz.prog.cellsOf 116 = 1 := by kernel_rfl
@[simp] theorem info116 : Tryz.prog.info? 116 = some Tryz.t116 := by kernel_rfl
@[simp] theorem agg116 : isAggT Tryz.prog 116 = false := by kernel_rfl
attribute [simp] Tryz.underlying116
@[simp] theorem bytes116 : Tryz.t116.bytes = 8 := rfl
@[simp] theorem zero116 : Tryz.t116.zero = some .nilFunc := rfl
@[simp] theorem cells117 : Tryz.prog.cellsOf 117 = 1 := by kernel_rfl
@[simp] theorem info117 : Tryz.prog.info? 117 = some Tryz.t117 := by kernel_rfl
@[simp] theorem agg117 : isAggT Tryz.prog 117 = false := by kernel_rfl
attribute [simp] Tryz.underlying117
@[simp] theorem bytes117 : Tryz.t117.bytes = 8 := rfl
@[simp] theorem zero117 : Tryz.t117.zero = some .nilFunc := rfl
@[simp] theorem cells118 : Tryz.prog.cellsOf 118 = 1 := by kernel_rfl
@[simp] theorem info118 : Tryz.prog.info? 118 = some Tryz.t118 := by kernel_rfl
@[simp] theorem agg118 : isAggT Tryz.prog 118 = false := by kernel_rfl
attribute [simp] Tryz.underlying118
@[simp] theorem bytes118 : Tryz.t118.bytes = 8 := rfl
@[simp] theorem zero118 : Tryz.t118.zero = some .nilFunc := rfl
@[simp] theorem cells119 : Tryz.prog.cellsOf 119 = 1 := by kernel_rfl
@[simp] theorem info119 : Tryz.prog.info? 119 = some Tryz.t119 := by kernel_rfl
@[simp] theorem agg119 : isAggT Tryz.prog 119 = false := by kernel_rfl
attribute [simp] Tryz.underlying119
@[simp] theorem bytes119 : Tryz.t119.bytes = 8 := rfl
@[simp] theorem zero119 : Tryz.t119.zero = some .nilFunc := rfl
@[simp] theorem cells120 : Tryz.prog.cellsOf 120 = 1 := by kernel_rfl
@[simp] theorem info120 : Tryz.prog.info? 120 = some Tryz.t120 := by kernel_rfl
@[simp] theorem agg120 : isAggT Tryz.prog 120 = false := by kernel_rfl
attribute [simp] Tryz.underlying120
@[simp] theorem bytes120 : Tryz.t120.bytes = 8 := rfl
@[simp] theorem zero120 : Tryz.t120.zero = some .nilFunc := rfl
@[simp] theorem cells121 : Tryz.prog.cellsOf 121 = 1 := by kernel_rfl
@[simp] theorem info121 : Tryz.prog.info? 121 = some Tryz.t121 := by kernel_rfl
@[simp] theorem agg121 : isAggT Tryz.prog 121 = false := by kernel_rfl
attribute [simp] Tryz.underlying121
@[simp] theorem bytes121 : Tryz.t121.bytes = 8 := rfl
@[simp] theorem zero121 : Tryz.t121.zero = some .nilFunc := rfl
@[simp] theorem cells122 : Tryz.prog.cellsOf 122 = 0 := by kernel_rfl
@[simp] theorem info122 : Tryz.prog.info? 122 = some Tryz.t122 := by kernel_rfl
@[simp] theorem agg122 : isAggT Tryz.prog 122 = true := by kernel_rfl
attribute [simp] Tryz.underlying122
@[simp] theorem bytes122 : Tryz.t122.bytes = 0 := rfl
@[simp] theorem zero122 : Tryz.t122.zero = some (.agg #[]) := rfl
@[simp] theorem cells123 : Tryz.prog.cellsOf 123 = 0 := by kernel_rfl
@[simp] theorem info123 : Tryz.prog.info? 123 = some Tryz.t123 := by kernel_rfl
@[simp] theorem agg123 : isAggT Tryz.prog 123 = true := by kernel_rfl
attribute [simp] Tryz.underlying123
@[simp] theorem bytes123 : Tryz.t123.bytes = 0 := rfl
@[simp] theorem zero123 : Tryz.t123.zero = some (.agg #[]) := rfl
@[simp] theorem cells124 : Tryz.prog.cellsOf 124 = 1 := by kernel_rfl
@[simp] theorem info124 : Tryz.prog.info? 124 = some Tryz.t124 := by kernel_rfl
@[simp] theorem agg124 : isAggT Tryz.prog 124 = false := by kernel_rfl
attribute [simp] Tryz.underlying124
@[simp] theorem bytes124 : Tryz.t124.bytes = 0 := rfl
@[simp] theorem cells125 : Tryz.prog.cellsOf 125 = 1 := by kernel_rfl
@[simp] theorem info125 : Tryz.prog.info? 125 = some Tryz.t125 := by kernel_rfl
@[simp] theorem agg125 : isAggT Tryz.prog 125 = false := by kernel_rfl
attribute [simp] Tryz.underlying125
@[simp] theorem bytes125 : Tryz.t125.bytes = 8 := rfl
@[simp] theorem zero125 : Tryz.t125.zero = some .nilFunc := rfl
@[simp] theorem cells126 : Tryz.prog.cellsOf 126 = 1 := by kernel_rfl
@[simp] theorem info126 : Tryz.prog.info? 126 = some Tryz.t126 := by kernel_rfl
@[simp] theorem agg126 : isAggT Tryz.prog 126 = false := by kernel_rfl
attribute [simp] Tryz.underlying126
@[simp] theorem bytes126 : Tryz.t126.bytes = 8 := rfl
@[simp] theorem zero126 : Tryz.t126.zero = some .nilFunc := rfl
@[simp] theorem cells127 : Tryz.prog.cellsOf 127 = 1 := by kernel_rfl
@[simp] theorem info127 : Tryz.prog.info? 127 = some Tryz.t127 := by kernel_rfl
@[simp] theorem agg127 : isAggT Tryz.prog 127 = false := by kernel_rfl
attribute [simp] Tryz.underlying127
@[simp] theorem bytes127 : Tryz.t127.bytes = 8 := rfl
@[simp] theorem zero127 : Tryz.t127.zero = some .nilFunc := rfl
@[simp] theorem cells128 : Tryz.prog.cellsOf 128 = 1 := by kernel_rfl
@[simp] theorem info128 : Tryz.prog.info? 128 = some Tryz.t128 := by kernel_rfl
@[simp] theorem agg128 : isAggT Tryz.prog 128 = false := by kernel_rfl
attribute [simp] Tryz.underlying128
@[simp] theorem bytes128 : Tryz.t128.bytes = 8 := rfl
@[simp] theorem zero128 : Tryz.t128.zero = some .nilFunc := rfl
@[simp] theorem cells129 : Tryz.prog.cellsOf 129 = 1 := by kernel_rfl
@[simp] theorem info129 : Tryz.prog.info? 129 = some Tryz.t129 := by kernel_rfl
@[simp] theorem agg129 : isAggT Tryz.prog 129 = false := by kernel_rfl
attribute [simp] Tryz.underlying129
@[simp] theorem bytes129 : Tryz.t129.bytes = 8 := rfl
@[simp] theorem zero129 : Tryz.t129.zero = some .nilFunc := rfl
@[simp] theorem cells130 : Tryz.prog.cellsOf 130 = 1 := by kernel_rfl
@[simp] theorem info130 : Tryz.prog.info? 130 = some Tryz.t130 := by kernel_rfl
@[simp] theorem agg130 : isAggT Tryz.prog 130 = false := by kernel_rfl
attribute [simp] Tryz.underlying130
@[simp] theorem bytes130 : Tryz.t130.bytes = 8 := rfl
@[simp] theorem zero130 : Tryz.t130.zero = some .nilFunc := rfl
@[simp] theorem cells131 : Tryz.prog.cellsOf 131 = 1 := by kernel_rfl
@[simp] theorem info131 : Tryz.prog.info? 131 = some Tryz.t131 := by kernel_rfl
@[simp] theorem agg131 : isAggT Tryz.prog 131 = false := by kernel_rfl
attribute [simp] Tryz.underlying131
@[simp] theorem bytes131 : Tryz.t131.bytes = 8 := rfl
@[simp] theorem zero131 : Tryz.t131.zero = some (.int .u64 0) := rfl
@[simp] theorem cells132 : Tryz.prog.cellsOf 132 = 1 := by kernel_rfl
@[simp] theorem info132 : Tryz.prog.info? 132 = some Tryz.t132 := by kernel_rfl
@[simp] theorem agg132 : isAggT Tryz.prog 132 = false := by kernel_rfl
attribute [simp] Tryz.underlying132
@[simp] theorem bytes132 : Tryz.t132.bytes = 8 := rfl
@[simp] theorem zero132 : Tryz.t132.zero = some .nilFunc := rfl
@[simp] theorem cells133 : Tryz.prog.cellsOf 133 = 1 := by kernel_rfl
@[simp] theorem info133 : Tryz.prog.info? 133 = some Tryz.t133 := by kernel_rfl
@[simp] theorem agg133 : isAggT Tryz.prog 133 = false := by kernel_rfl
attribute [simp] Tryz.underlying133
@[simp] theorem bytes133 : Tryz.t133.bytes = 8 := rfl
@[simp] theorem zero133 : Tryz.t133.zero = some .nilFunc := rfl
@[simp] theorem cells134 : Tryz.prog.cellsOf 134 = 1 := by kernel_rfl
@[simp] theorem info134 : Tryz.prog.info? 134 = some Tryz.t134 := by kernel_rfl
@[simp] theorem agg134 : isAggT Tryz.prog 134 = false := by kernel_rfl
attribute [simp] Tryz.underlying134
@[simp] theorem bytes134 : Tryz.t134.bytes = 8 := rfl
@[simp] theorem zero134 : Tryz.t134.zero = some .nilFunc := rfl
@[simp] theorem cells135 : Tryz.prog.cellsOf 135 = 1 := by kernel_rfl
@[simp] theorem info135 : Tryz.prog.info? 135 = some Tryz.t135 := by kernel_rfl
@[simp] theorem agg135 : isAggT Tryz.prog 135 = false := by kernel_rfl
attribute [simp] Tryz.underlying135
@[simp] theorem bytes135 : Tryz.t135.bytes = 8 := rfl
@[simp] theorem zero135 : Tryz.t135.zero = some (.pointer none) := rfl
@[simp] theorem cells136 : Tryz.prog.cellsOf 136 = 1 := by kernel_rfl
@[simp] theorem info136 : Tryz.prog.info? 136 = some Tryz.t136 := by kernel_rfl
@[simp] theorem agg136 : isAggT Tryz.prog 136 = false := by kernel_rfl
attribute [simp] Tryz.underlying136
@[simp] theorem bytes136 : Tryz.t136.bytes = 8 := rfl
@[simp] theorem zero136 : Tryz.t136.zero = some .nilFunc := rfl
@[simp] theorem cells137 : Tryz.prog.cellsOf 137 = 1 := by kernel_rfl
@[simp] theorem info137 : Tryz.prog.info? 137 = some Tryz.t137 := by kernel_rfl
@[simp] theorem agg137 : isAggT Tryz.prog 137 = false := by kernel_rfl
attribute [simp] Tryz.underlying137
@[simp] theorem bytes137 : Tryz.t137.bytes = 8 := rfl
@[simp] theorem zero137 : Tryz.t137.zero = some .nilFunc := rfl
@[simp] theorem cells138 : Tryz.prog.cellsOf 138 = 1 := by kernel_rfl
@[simp] theorem info138 : Tryz.prog.info? 138 = some Tryz.t138 := by kernel_rfl
@[simp] theorem agg138 : isAggT Tryz.prog 138 = false := by kernel_rfl
attribute [simp] Tryz.underlying138
@[simp] theorem bytes138 : Tryz.t138.bytes = 8 := rfl
@[simp] theorem zero138 : Tryz.t138.zero = some .nilFunc := rfl
@[simp] theorem cells139 : Tryz.prog.cellsOf 139 = 1 := by kernel_rfl
@[simp] theorem info139 : Tryz.prog.info? 139 = some Tryz.t139 := by kernel_rfl
@[simp] theorem agg139 : isAggT Tryz.prog 139 = false := by kernel_rfl
attribute [simp] Tryz.underlying139
@[simp] theorem bytes139 : Tryz.t139.bytes = 8 := rfl
@[simp] theorem zero139 : Tryz.t139.zero = some .nilFunc := rfl
@[simp] theorem cells140 : Tryz.prog.cellsOf 140 = 1 := by kernel_rfl
@[simp] theorem info140 : Tryz.prog.info? 140 = some Tryz.t140 := by kernel_rfl
@[simp] theorem agg140 : isAggT Tryz.prog 140 = false := by kernel_rfl
attribute [simp] Tryz.underlying140
@[simp] theorem bytes140 : Tryz.t140.bytes = 8 := rfl
@[simp] theorem zero140 : Tryz.t140.zero = some (.pointer none) := rfl
@[simp] theorem cells141 : Tryz.prog.cellsOf 141 = 1 := by kernel_rfl
@[simp] theorem info141 : Tryz.prog.info? 141 = some Tryz.t141 := by kernel_rfl
@[simp] theorem agg141 : isAggT Tryz.prog 141 = false := by kernel_rfl
attribute [simp] Tryz.underlying141
@[simp] theorem bytes141 : Tryz.t141.bytes = 0 := rfl
@[simp] theorem cells142 : Tryz.prog.cellsOf 142 = 1 := by kernel_rfl
@[simp] theorem info142 : Tryz.prog.info? 142 = some Tryz.t142 := by kernel_rfl
@[simp] theorem agg142 : isAggT Tryz.prog 142 = false := by kernel_rfl
attribute [simp] Tryz.underlying142
@[simp] theorem bytes142 : Tryz.t142.bytes = 8 := rfl
@[simp] theorem zero142 : Tryz.t142.zero = some .nilFunc := rfl
@[simp] theorem cells143 : Tryz.prog.cellsOf 143 = 1 := by kernel_rfl
@[simp] theorem info143 : Tryz.prog.info? 143 = some Tryz.t143 := by kernel_rfl
@[simp] theorem agg143 : isAggT Tryz.prog 143 = false := by kernel_rfl
attribute [simp] Tryz.underlying143
@[simp] theorem bytes143 : Tryz.t143.bytes = 8 := rfl
@[simp] theorem zero143 : Tryz.t143.zero = some .nilFunc := rfl
@[simp] theorem cells144 : Tryz.prog.cellsOf 144 = 1 := by kernel_rfl
@[simp] theorem info144 : Tryz.prog.info? 144 = some Tryz.t144 := by kernel_rfl
@[simp] theorem agg144 : isAggT Tryz.prog 144 = false := by kernel_rfl
attribute [simp] Tryz.underlying144
@[simp] theorem bytes144 : Tryz.t144.bytes = 8 := rfl
@[simp] theorem zero144 : Tryz.t144.zero = some .nilFunc := rfl
@[simp] theorem cells145 : Tryz.prog.cellsOf 145 = 1 := by kernel_rfl
@[simp] theorem info145 : Tryz.prog.info? 145 = some Tryz.t145 := by kernel_rfl
@[simp] theorem agg145 : isAggT Tryz.prog 145 = false := by kernel_rfl
attribute [simp] Tryz.underlying145
@[simp] theorem bytes145 : Tryz.t145.bytes = 8 := rfl
@[simp] theorem zero145 : Tryz.t145.zero = some .nilFunc := rfl
@[simp] theorem cells146 : Tryz.prog.cellsOf 146 = 4 := by kernel_rfl
@[simp] theorem info146 : Tryz.prog.info? 146 = some Tryz.t146 := by kernel_rfl
@[simp] theorem agg146 : isAggT Tryz.prog 146 = true := by kernel_rfl
attribute [simp] Tryz.underlying146
@[simp] theorem bytes146 : Tryz.t146.bytes = 40 := rfl
@[simp] theorem zero146 : Tryz.t146.zero = some (.agg #[(.pointer none), (.pointer none), (.pointer none), (.string ⟨#[]⟩)]) := rfl
@[simp] theorem cells147 : Tryz.prog.cellsOf 147 = 4 := by kernel_rfl
@[simp] theorem info147 : Tryz.prog.info? 147 = some Tryz.t147 := by kernel_rfl
@[simp] theorem agg147 : isAggT Tryz.prog 147 = true := by kernel_rfl
attribute [simp] Tryz.underlying147
@[simp] theorem bytes147 : Tryz.t147.bytes = 40 := rfl
@[simp] theorem zero147 : Tryz.t147.zero = some (.agg #[(.pointer none), (.pointer none), (.pointer none), (.string ⟨#[]⟩)]) := rfl
@[simp] theorem cells148 : Tryz.prog.cellsOf 148 = 0 := by kernel_rfl
@[simp] theorem info148 : Tryz.prog.info? 148 = some Tryz.t148 := by kernel_rfl
@[simp] theorem agg148 : isAggT Tryz.prog 148 = true := by kernel_rfl
attribute [simp] Tryz.underlying148
@[simp] theorem bytes148 : Tryz.t148.bytes = 0 := rfl
@[simp] theorem zero148 : Tryz.t148.zero = some (.agg #[]) := rfl
@[simp] theorem cells149 : Tryz.prog.cellsOf 149 = 0 := by kernel_rfl
@[simp] theorem info149 : Tryz.prog.info? 149 = some Tryz.t149 := by kernel_rfl
@[simp] theorem agg149 : isAggT Tryz.prog 149 = true := by kernel_rfl
attribute [simp] Tryz.underlying149
@[simp] theorem bytes149 : Tryz.t149.bytes = 0 := rfl
@[simp] theorem zero149 : Tryz.t149.zero = some (.agg #[]) := rfl
@[simp] theorem cells150 : Tryz.prog.cellsOf 150 = 0 := by kernel_rfl
@[simp] theorem info150 : Tryz.prog.info? 150 = some Tryz.t150 := by kernel_rfl
@[simp] theorem agg150 : isAggT Tryz.prog 150 = true := by kernel_rfl
attribute [simp] Tryz.underlying150
@[simp] theorem bytes150 : Tryz.t150.bytes = 0 := rfl
@[simp] theorem zero150 : Tryz.t150.zero = some (.agg #[]) := rfl
@[simp] theorem cells151 : Tryz.prog.cellsOf 151 = 1 := by kernel_rfl
@[simp] theorem info151 : Tryz.prog.info? 151 = some Tryz.t151 := by kernel_rfl
@[simp] theorem agg151 : isAggT Tryz.prog 151 = false := by kernel_rfl
attribute [simp] Tryz.underlying151
@[simp] theorem bytes151 : Tryz.t151.bytes = 1 := rfl
@[simp] theorem zero151 : Tryz.t151.zero = some (.int .u8 0) := rfl
@[simp] theorem cells152 : Tryz.prog.cellsOf 152 = 1 := by kernel_rfl
@[simp] theorem info152 : Tryz.prog.info? 152 = some Tryz.t152 := by kernel_rfl
@[simp] theorem agg152 : isAggT Tryz.prog 152 = false := by kernel_rfl
attribute [simp] Tryz.underlying152
@[simp] theorem bytes152 : Tryz.t152.bytes = 1 := rfl
@[simp] theorem zero152 : Tryz.t152.zero = some (.int .u8 0) := rfl
@[simp] theorem cells153 : Tryz.prog.cellsOf 153 = 1 := by kernel_rfl
@[simp] theorem info153 : Tryz.prog.info? 153 = some Tryz.t153 := by kernel_rfl
@[simp] theorem agg153 : isAggT Tryz.prog 153 = false := by kernel_rfl
attribute [simp] Tryz.underlying153
@[simp] theorem bytes153 : Tryz.t153.bytes = 8 := rfl
@[simp] theorem zero153 : Tryz.t153.zero = some .nilFunc := rfl
@[simp] theorem cells154 : Tryz.prog.cellsOf 154 = 1 := by kernel_rfl
@[simp] theorem info154 : Tryz.prog.info? 154 = some Tryz.t154 := by kernel_rfl
@[simp] theorem agg154 : isAggT Tryz.prog 154 = false := by kernel_rfl
attribute [simp] Tryz.underlying154
@[simp] theorem bytes154 : Tryz.t154.bytes = 8 := rfl
@[simp] theorem zero154 : Tryz.t154.zero = some (.pointer none) := rfl
@[simp] theorem cells155 : Tryz.prog.cellsOf 155 = 1 := by kernel_rfl
@[simp] theorem info155 : Tryz.prog.info? 155 = some Tryz.t155 := by kernel_rfl
@[simp] theorem agg155 : isAggT Tryz.prog 155 = false := by kernel_rfl
attribute [simp] Tryz.underlying155
@[simp] theorem bytes155 : Tryz.t155.bytes = 4 := rfl
@[simp] theorem zero155 : Tryz.t155.zero = some (.int .i32 0) := rfl
@[simp] theorem cells156 : Tryz.prog.cellsOf 156 = 1 := by kernel_rfl
@[simp] theorem info156 : Tryz.prog.info? 156 = some Tryz.t156 := by kernel_rfl
@[simp] theorem agg156 : isAggT Tryz.prog 156 = false := by kernel_rfl
attribute [simp] Tryz.underlying156
@[simp] theorem bytes156 : Tryz.t156.bytes = 4 := rfl
@[simp] theorem zero156 : Tryz.t156.zero = some (.int .i32 0) := rfl
@[simp] theorem cells157 : Tryz.prog.cellsOf 157 = 11 := by kernel_rfl
@[simp] theorem info157 : Tryz.prog.info? 157 = some Tryz.t157 := by kernel_rfl
@[simp] theorem agg157 : isAggT Tryz.prog 157 = true := by kernel_rfl
attribute [simp] Tryz.underlying157
@[simp] theorem bytes157 : Tryz.t157.bytes = 48 := rfl
@[simp] theorem zero157 : Tryz.t157.zero = some (.agg #[(.int .u64 0), (.int .u64 0), (.int .u32 0), (.int .u8 0), (.int .u8 0), (.int .u8 0), (.int .u8 0), .nilFunc, (.pointer none), (.int .i32 0), (.int .i32 0)]) := rfl
@[simp] theorem cells158 : Tryz.prog.cellsOf 158 = 11 := by kernel_rfl
@[simp] theorem info158 : Tryz.prog.info? 158 = some Tryz.t158 := by kernel_rfl
@[simp] theorem agg158 : isAggT Tryz.prog 158 = true := by kernel_rfl
attribute [simp] Tryz.underlying158
@[simp] theorem bytes158 : Tryz.t158.bytes = 48 := rfl
@[simp] theorem zero158 : Tryz.t158.zero = some (.agg #[(.int .u64 0), (.int .u64 0), (.int .u32 0), (.int .u8 0), (.int .u8 0), (.int .u8 0), (.int .u8 0), .nilFunc, (.pointer none), (.int .i32 0), (.int .i32 0)]) := rfl
@[simp] theorem cells159 : Tryz.prog.cellsOf 159 = 1 := by kernel_rfl
@[simp] theorem info159 : Tryz.prog.info? 159 = some Tryz.t159 := by kernel_rfl
@[simp] theorem agg159 : isAggT Tryz.prog 159 = false := by kernel_rfl
attribute [simp] Tryz.underlying159
@[simp] theorem bytes159 : Tryz.t159.bytes = 8 := rfl
@[simp] theorem zero159 : Tryz.t159.zero = some (.pointer none) := rfl
@[simp] theorem E2 : G.E 2 = true := by kernel_rfl
@[simp] theorem ext2 : G.ext 2 = none := by kernel_rfl
@[simp] theorem dfr2 : G.dfr 2 = false := by kernel_rfl
@[simp] theorem own2 : G.retOwn 2 = false := by kernel_rfl
@[simp] theorem live2_0 : G.live 2 0 = some ⟨[], []⟩ := by kernel_rfl
@[simp] theorem E3 : G.E 3 = true := by kernel_rfl
@[simp] theorem ext3 : G.ext 3 = none := by kernel_rfl
@[simp] theorem dfr3 : G.dfr 3 = false := by kernel_rfl
@[simp] theorem own3 : G.retOwn 3 = false := by kernel_rfl
@[simp] theorem live3_0 : G.live 3 0 = some ⟨[0, 1, 2], []⟩ := by kernel_rfl
@[simp] theorem live3_1 : G.live 3 1 = some ⟨[0, 1, 2, 7], []⟩ := by kernel_rfl
@[simp] theorem live3_2 : G.live 3 2 = some ⟨[0, 1, 2, 7, 13], []⟩ := by kernel_rfl
@[simp] theorem live3_3 : G.live 3 3 = some ⟨[6], []⟩ := by kernel_rfl
@[simp] theorem live3_4 : G.live 3 4 = some ⟨[0, 1, 2, 7, 8], []⟩ := by kernel_rfl
@[simp] theorem live3_5 : G.live 3 5 = some ⟨[0, 1, 2, 7, 23], []⟩ := by kernel_rfl
@[simp] theorem live3_6 : G.live 3 6 = some ⟨[6], []⟩ := by kernel_rfl
@[simp] theorem live3_7 : G.live 3 7 = some ⟨[0, 1, 2, 7, 9], []⟩ := by kernel_rfl
@[simp] theorem live3_8 : G.live 3 8 = some ⟨[0, 1, 2, 7, 9, 10], []⟩ := by kernel_rfl
@[simp] theorem live3_9 : G.live 3 9 = some ⟨[6], []⟩ := by kernel_rfl
@[simp] theorem E4 : G.E 4 = true := by kernel_rfl
@[simp] theorem ext4 : G.ext 4 = none := by kernel_rfl
@[simp] theorem dfr4 : G.dfr 4 = false := by kernel_rfl
@[simp] theorem own4 : G.retOwn 4 = false := by kernel_rfl
@[simp] theorem live4_0 : G.live 4 0 = some ⟨[0, 1], []⟩ := by kernel_rfl
@[simp] theorem live4_1 : G.live 4 1 = some ⟨[0, 1, 5], []⟩ := by kernel_rfl
@[simp] theorem live4_2 : G.live 4 2 = some ⟨[0, 1, 5, 11], []⟩ := by kernel_rfl
@[simp] theorem live4_3 : G.live 4 3 = some ⟨[4], []⟩ := by kernel_rfl
@[simp] theorem live4_4 : G.live 4 4 = some ⟨[0, 1, 5, 6], []⟩ := by kernel_rfl
@[simp] theorem live4_5 : G.live 4 5 = some ⟨[0, 1, 5, 15], []⟩ := by kernel_rfl
@[simp] theorem live4_6 : G.live 4 6 = some ⟨[4], []⟩ := by kernel_rfl
@[simp] theorem live4_7 : G.live 4 7 = some ⟨[0, 1, 5, 7], []⟩ := by kernel_rfl
@[simp] theorem live4_8 : G.live 4 8 = some ⟨[5, 7, 8], []⟩ := by kernel_rfl
@[simp] theorem live4_9 : G.live 4 9 = some ⟨[4], []⟩ := by kernel_rfl
@[simp] theorem E5 : G.E 5 = true := by kernel_rfl
@[simp] theorem ext5 : G.ext 5 = none := by kernel_rfl
@[simp] theorem dfr5 : G.dfr 5 = false := by kernel_rfl
@[simp] theorem own5 : G.retOwn 5 = false := by kernel_rfl
@[simp] theorem keep5_9 : G.keep 5 9 = some ⟨[(3, none), (5, none), (6, none), (7, none), (8, none)], []⟩ := by kernel_rfl
@[simp] theorem live5_0 : G.live 5 0 = some ⟨[], []⟩ := by kernel_rfl
@[simp] theorem live5_1 : G.live 5 1 = some ⟨[1], []⟩ := by kernel_rfl
@[simp] theorem live5_2 : G.live 5 2 = some ⟨[1, 3], []⟩ := by kernel_rfl
@[simp] theorem live5_3 : G.live 5 3 = some ⟨[3, 5], []⟩ := by kernel_rfl
@[simp] theorem live5_4 : G.live 5 4 = some ⟨[3, 5, 6], []⟩ := by kernel_rfl
@[simp] theorem live5_5 : G.live 5 5 = some ⟨[3, 5, 6, 7], []⟩ := by kernel_rfl
@[simp] theorem live5_6 : G.live 5 6 = some ⟨[3, 5, 6, 7, 39], []⟩ := by kernel_rfl
@[simp] theorem live5_7 : G.live 5 7 = some ⟨[0], []⟩ := by kernel_rfl
@[simp] theorem live5_8 : G.live 5 8 = some ⟨[3, 5, 6, 7, 8], []⟩ := by kernel_rfl
@[simp] theorem live5_9 : G.live 5 9 = some ⟨[3, 5, 6, 7, 8, 43], []⟩ := by kernel_rfl
@[simp] theorem live5_11 : G.live 5 11 = some ⟨[3, 5, 6, 7, 8, 66], []⟩ := by kernel_rfl
@[simp] theorem live5_12 : G.live 5 12 = some ⟨[0], []⟩ := by kernel_rfl
@[simp] theorem live5_10 : G.live 5 10 = some ⟨[3, 5, 6, 7, 8], []⟩ := by kernel_rfl
@[simp] theorem live5_13 : G.live 5 13 = some ⟨[0], []⟩ := by kernel_rfl
@[simp] theorem plan5_11 : G.plan 5 11 = some [.n 0, .n 1, .n 2, .n 3, .n 4, .n 5, .n 6, .n 7, .n 8, .e 9 [5], .n 10, .n 11, .n 12, .n 13, .n 14, .n 15, .n 16, .n 18, .e 17 [18, 7, 6, 5, 4, 2, 1, 0], .n 19, .n 20] := by kernel_rfl
@[simp] theorem plan5_13 : G.plan 5 13 = some [.n 0, .n 1, .n 2, .n 3, .n 4, .n 5, .e 6 [], .n 7, .n 8, .n 9, .n 10, .n 11, .n 12, .n 13, .e 14 [4, 3, 1, 0], .n 15, .n 16, .n 17, .n 18, .n 19, .n 20, .n 21, .n 22, .n 23, .e 24 [12, 11, 9, 8, 5, 4, 3, 2, 1, 0], .n 25, .n 26, .n 27, .n 28, .n 29, .e 30 [22, 21, 19, 18, 16, 15, 13, 12, 11, 10, 9, 8, 7, 5, 4, 3, 2, 1, 0], .n 31, .n 32, .n 33, .n 34, .e 35 [26, 25, 23, 22, 21, 20, 19, 18, 17, 16, 15, 13, 12, 11, 10, 9, 8, 7, 5, 4, 3, 2, 1, 0], .n 36, .n 37, .n 38] := by kernel_rfl
@[simp] theorem E6 : G.E 6 = true := by kernel_rfl
@[simp] theorem ext6 : G.ext 6 = none := by kernel_rfl
@[simp] theorem dfr6 : G.dfr 6 = false := by kernel_rfl
@[simp] theorem own6 : G.retOwn 6 = false := by kernel_rfl
@[simp] theorem keep6_2 : G.keep 6 2 = some ⟨[(0, none), (3, none)], []⟩ := by kernel_rfl
@[simp] theorem live6_0 : G.live 6 0 = some ⟨[0], []⟩ := by kernel_rfl
@[simp] theorem live6_1 : G.live 6 1 = some ⟨[0, 3], []⟩ := by kernel_rfl
@[simp] theorem live6_2 : G.live 6 2 = some ⟨[0, 3, 12], []⟩ := by kernel_rfl
@[simp] theorem live6_4 : G.live 6 4 = some ⟨[0, 3, 4], []⟩ := by kernel_rfl
@[simp] theorem live6_5 : G.live 6 5 = some ⟨[0, 3, 21], []⟩ := by kernel_rfl
@[simp] theorem live6_6 : G.live 6 6 = some ⟨[2], []⟩ := by kernel_rfl
@[simp] theorem live6_3 : G.live 6 3 = some ⟨[0, 3], []⟩ := by kernel_rfl
@[simp] theorem live6_7 : G.live 6 7 = some ⟨[2], []⟩ := by kernel_rfl
@[simp] theorem E7 : G.E 7 = true := by kernel_rfl
@[simp] theorem ext7 : G.ext 7 = none := by kernel_rfl
@[simp] theorem dfr7 : G.dfr 7 = false := by kernel_rfl
@[simp] theorem own7 : G.retOwn 7 = false := by kernel_rfl
@[simp] theorem live7_0 : G.live 7 0 = some ⟨[0, 1], []⟩ := by kernel_rfl
@[simp] theorem live7_1 : G.live 7 1 = some ⟨[0, 1, 12], []⟩ := by kernel_rfl
@[simp] theorem live7_2 : G.live 7 2 = some ⟨[4], []⟩ := by kernel_rfl
@[simp] theorem live7_3 : G.live 7 3 = some ⟨[4], []⟩ := by kernel_rfl
@[simp] theorem E8 : G.E 8 = true := by kernel_rfl
@[simp] theorem ext8 : G.ext 8 = none := by kernel_rfl
@[simp] theorem dfr8 : G.dfr 8 = false := by kernel_rfl
@[simp] theorem own8 : G.retOwn 8 = false := by kernel_rfl
@[simp] theorem keep8_5 : G.keep 8 5 = some ⟨[(0, none), (1, none), (5, none), (6, none)], []⟩ := by kernel_rfl
@[simp] theorem live8_0 : G.live 8 0 = some ⟨[0, 1], []⟩ := by kernel_rfl
@[simp] theorem live8_1 : G.live 8 1 = some ⟨[0, 1, 5], []⟩ := by kernel_rfl
@[simp] theorem live8_2 : G.live 8 2 = some ⟨[0, 1, 5, 9], []⟩ := by kernel_rfl
@[simp] theorem live8_3 : G.live 8 3 = some ⟨[4], []⟩ := by kernel_rfl
@[simp] theorem live8_4 : G.live 8 4 = some ⟨[0, 1, 5, 6], []⟩ := by kernel_rfl
@[simp] theorem live8_5 : G.live 8 5 = some ⟨[0, 1, 5, 6, 13], []⟩ := by kernel_rfl
@[simp] theorem live8_7 : G.live 8 7 = some ⟨[0, 1, 5, 6, 22], []⟩ := by kernel_rfl
@[simp] theorem live8_8 : G.live 8 8 = some ⟨[0, 1, 5, 6], []⟩ := by kernel_rfl
@[simp] theorem live8_6 : G.live 8 6 = some ⟨[0, 1, 5, 6], []⟩ := by kernel_rfl
@[simp] theorem live8_9 : G.live 8 9 = some ⟨[4], []⟩ := by kernel_rfl
@[simp] theorem E9 : G.E 9 = true := by kernel_rfl
@[simp] theorem ext9 : G.ext 9 = none := by kernel_rfl
@[simp] theorem dfr9 : G.dfr 9 = false := by kernel_rfl
@[simp] theorem own9 : G.retOwn 9 = false := by kernel_rfl
@[simp] theorem live9_0 : G.live 9 0 = some ⟨[0, 1], []⟩ := by kernel_rfl
@[simp] theorem live9_1 : G.live 9 1 = some ⟨[0, 1, 9], []⟩ := by kernel_rfl
@[simp] theorem live9_2 : G.live 9 2 = some ⟨[4], []⟩ := by kernel_rfl
@[simp] theorem live9_3 : G.live 9 3 = some ⟨[4], []⟩ := by kernel_rfl
@[simp] theorem E10 : G.E 10 = true := by kernel_rfl
@[simp] theorem ext10 : G.ext 10 = none := by kernel_rfl
@[simp] theorem dfr10 : G.dfr 10 = false := by kernel_rfl
@[simp] theorem own10 : G.retOwn 10 = false := by kernel_rfl
@[simp] theorem keep10_6 : G.keep 10 6 = some ⟨[(5, none), (6, none), (20, none), (21, none), (22, none)], []⟩ := by kernel_rfl
@[simp] theorem live10_0 : G.live 10 0 = some ⟨[0, 1], []⟩ := by kernel_rfl
@[simp] theorem live10_1 : G.live 10 1 = some ⟨[0, 1, 17], []⟩ := by kernel_rfl
@[simp] theorem live10_2 : G.live 10 2 = some ⟨[4], []⟩ := by kernel_rfl
@[simp] theorem live10_3 : G.live 10 3 = some ⟨[0, 1, 5], []⟩ := by kernel_rfl
@[simp] theorem live10_4 : G.live 10 4 = some ⟨[0, 5, 6], []⟩ := by kernel_rfl
@[simp] theorem live10_5 : G.live 10 5 = some ⟨[5, 6, 20, 21, 22], []⟩ := by kernel_rfl
@[simp] theorem live10_6 : G.live 10 6 = some ⟨[5, 6, 20, 21, 22, 23], []⟩ := by kernel_rfl
@[simp] theorem live10_7 : G.live 10 7 = some ⟨[5, 6, 8, 20, 21, 22], []⟩ := by kernel_rfl
@[simp] theorem live10_8 : G.live 10 8 = some ⟨[5, 6, 20, 21, 22, 29], []⟩ := by kernel_rfl
@[simp] theorem live10_9 : G.live 10 9 = some ⟨[5, 6, 20, 21, 22], []⟩ := by kernel_rfl
@[simp] theorem live10_10 : G.live 10 10 = some ⟨[5, 6, 20, 21, 22], []⟩ := by kernel_rfl
@[simp] theorem live10_11 : G.live 10 11 = some ⟨[4], []⟩ := by kernel_rfl
@[simp] theorem E11 : G.E 11 = true := by kernel_rfl
@[simp] theorem ext11 : G.ext 11 = none := by kernel_rfl
@[simp] theorem dfr11 : G.dfr 11 = false := by kernel_rfl
@[simp] theorem own11 : G.retOwn 11 = false := by kernel_rfl
@[simp] theorem keep11_4 : G.keep 11 4 = some ⟨[(0, none), (1, none), (5, none)], []⟩ := by kernel_rfl
@[simp] theorem live11_0 : G.live 11 0 = some ⟨[0, 1], []⟩ := by kernel_rfl
@[simp] theorem live11_1 : G.live 11 1 = some ⟨[0, 1, 10], []⟩ := by kernel_rfl
@[simp] theorem live11_2 : G.live 11 2 = some ⟨[4], []⟩ := by kernel_rfl
@[simp] theorem live11_3 : G.live 11 3 = some ⟨[0, 1, 5], []⟩ := by kernel_rfl
@[simp] theorem live11_4 : G.live 11 4 = some ⟨[0, 1, 5, 14], []⟩ := by kernel_rfl
@[simp] theorem live11_6 : G.live 11 6 = some ⟨[0, 1, 5, 26], []⟩ := by kernel_rfl
@[simp] theorem live11_7 : G.live 11 7 = some ⟨[4], []⟩ := by kernel_rfl
@[simp] theorem live11_5 : G.live 11 5 = some ⟨[0, 1, 5], []⟩ := by kernel_rfl
@[simp] theorem live11_8 : G.live 11 8 = some ⟨[4], []⟩ := by kernel_rfl
@[simp] theorem plan11_6 : G.plan 11 6 = some [.n 0, .n 1, .n 2, .n 3, .n 4, .n 5, .n 6, .n 7, .e 8 [], .n 9] := by kernel_rfl
@[simp] theorem E12 : G.E 12 = true := by kernel_rfl
@[simp] theorem ext12 : G.ext 12 = none := by kernel_rfl
@[simp] theorem dfr12 : G.dfr 12 = false := by kernel_rfl
@[simp] theorem own12 : G.retOwn 12 = false := by kernel_rfl
@[simp] theorem keep12_7 : G.keep 12 7 = some ⟨[(4, some (1, 22)), (14, none), (15, none), (16, none)], []⟩ := by kernel_rfl
@[simp] theorem live12_0 : G.live 12 0 = some ⟨[0], []⟩ := by kernel_rfl
@[simp] theorem live12_1 : G.live 12 1 = some ⟨[0, 9], []⟩ := by kernel_rfl
@[simp] theorem live12_2 : G.live 12 2 = some ⟨[2], []⟩ := by kernel_rfl
@[simp] theorem live12_3 : G.live 12 3 = some ⟨[3], []⟩ := by kernel_rfl
@[simp] theorem live12_4 : G.live 12 4 = some ⟨[3], []⟩ := by kernel_rfl
@[simp] theorem live12_5 : G.live 12 5 = some ⟨[3, 4], []⟩ := by kernel_rfl
@[simp] theorem live12_6 : G.live 12 6 = some ⟨[4, 14, 15, 16], []⟩ := by kernel_rfl
@[simp] theorem live12_7 : G.live 12 7 = some ⟨[4, 14, 15, 16, 17], []⟩ := by kernel_rfl
@[simp] theorem live12_8 : G.live 12 8 = some ⟨[4, 6, 14, 15, 16], []⟩ := by kernel_rfl
@[simp] theorem live12_9 : G.live 12 9 = some ⟨[4, 14, 15, 16], []⟩ := by kernel_rfl
@[simp] theorem live12_10 : G.live 12 10 = some ⟨[4, 14, 15, 16], []⟩ := by kernel_rfl
@[simp] theorem live12_11 : G.live 12 11 = some ⟨[2], []⟩ := by kernel_rfl
@[simp] theorem E13 : G.E 13 = true := by kernel_rfl
@[simp] theorem ext13 : G.ext 13 = none := by kernel_rfl
@[simp] theorem dfr13 : G.dfr 13 = false := by kernel_rfl
@[simp] theorem own13 : G.retOwn 13 = false := by kernel_rfl
@[simp] theorem keep13_5 : G.keep 13 5 = some ⟨[(0, none), (3, none), (4, none)], []⟩ := by kernel_rfl
@[simp] theorem keep13_8 : G.keep 13 8 = some ⟨[(0, none), (3, none), (4, none), (5, none)], []⟩ := by kernel_rfl
@[simp] theorem live13_0 : G.live 13 0 = some ⟨[0], []⟩ := by kernel_rfl
@[simp] theorem live13_1 : G.live 13 1 = some ⟨[0, 9], []⟩ := by kernel_rfl
@[simp] theorem live13_2 : G.live 13 2 = some ⟨[2], []⟩ := by kernel_rfl
@[simp] theorem live13_3 : G.live 13 3 = some ⟨[0, 3], []⟩ := by kernel_rfl
@[simp] theorem live13_4 : G.live 13 4 = some ⟨[0, 3, 4], []⟩ := by kernel_rfl
@[simp] theorem live13_5 : G.live 13 5 = some ⟨[0, 3, 4, 13], []⟩ := by kernel_rfl
@[simp] theorem live13_7 : G.live 13 7 = some ⟨[0, 3, 4, 5], []⟩ := by kernel_rfl
@[simp] theorem live13_8 : G.live 13 8 = some ⟨[0, 3, 4, 5, 32], []⟩ := by kernel_rfl
@[simp] theorem live13_9 : G.live 13 9 = some ⟨[0, 3, 4, 5], []⟩ := by kernel_rfl
@[simp] theorem live13_10 : G.live 13 10 = some ⟨[0, 3, 4, 5, 6], []⟩ := by kernel_rfl
@[simp] theorem live13_11 : G.live 13 11 = some ⟨[0, 3, 4, 5, 6], []⟩ := by kernel_rfl
@[simp] theorem live13_12 : G.live 13 12 = some ⟨[0, 3, 4, 5, 6], []⟩ := by kernel_rfl
@[simp] theorem live13_13 : G.live 13 13 = some ⟨[0, 3, 4], []⟩ := by kernel_rfl
@[simp] theorem live13_6 : G.live 13 6 = some ⟨[0, 3, 4], []⟩ := by kernel_rfl
@[simp] theorem live13_14 : G.live 13 14 = some ⟨[2], []⟩ := by kernel_rfl
@[simp] theorem plan13_8 : G.plan 13 8 = some [.n 0, .n 1, .n 2, .n 3, .n 4, .n 5, .n 6, .n 7, .n 8, .n 9, .n 10, .n 11, .e 12 [4], .n 13, .n 14] := by kernel_rfl
@[simp] theorem E14 : G.E 14 = true := by kernel_rfl
@[simp] theorem ext14 : G.ext 14 = none := by kernel_rfl
@[simp] theorem dfr14 : G.dfr 14 = false := by kernel_rfl
@[simp] theorem own14 : G.retOwn 14 = false := by kernel_rfl
@[simp] theorem keep14_5 : G.keep 14 5 = some ⟨[(1, none), (5, none), (20, none), (21, none), (22, none)], []⟩ := by kernel_rfl
@[simp] theorem keep14_13 : G.keep 14 13 = some ⟨[(5, none), (8, some (1, 22)), (47, none), (48, none)], []⟩ := by kernel_rfl
@[simp] theorem live14_0 : G.live 14 0 = some ⟨[0, 1], []⟩ := by kernel_rfl
@[simp] theorem live14_1 : G.live 14 1 = some ⟨[0, 1, 16], []⟩ := by kernel_rfl
@[simp] theorem live14_2 : G.live 14 2 = some ⟨[4], []⟩ := by kernel_rfl
@[simp] theorem live14_3 : G.live 14 3 = some ⟨[0, 1, 5], []⟩ := by kernel_rfl
@[simp] theorem live14_4 : G.live 14 4 = some ⟨[1, 5, 20, 21, 22], []⟩ := by kernel_rfl
@[simp] theorem live14_5 : G.live 14 5 = some ⟨[1, 5, 20, 21, 22, 23], []⟩ := by kernel_rfl
@[simp] theorem live14_6 : G.live 14 6 = some ⟨[1, 5, 7, 20, 21, 22], []⟩ := by kernel_rfl
@[simp] theorem live14_7 : G.live 14 7 = some ⟨[1, 5, 20, 21, 22], []⟩ := by kernel_rfl
@[simp] theorem live14_8 : G.live 14 8 = some ⟨[1, 5, 20, 21, 22, 36], []⟩ := by kernel_rfl
@[simp] theorem live14_9 : G.live 14 9 = some ⟨[1, 5, 20, 21, 22], []⟩ := by kernel_rfl
@[simp] theorem live14_10 : G.live 14 10 = some ⟨[1, 5, 20, 21, 22], []⟩ := by kernel_rfl
@[simp] theorem live14_11 : G.live 14 11 = some ⟨[5, 8], []⟩ := by kernel_rfl
@[simp] theorem live14_12 : G.live 14 12 = some ⟨[5, 8, 47, 48], []⟩ := by kernel_rfl
@[simp] theorem live14_13 : G.live 14 13 = some ⟨[5, 8, 47, 48, 49], []⟩ := by kernel_rfl
@[simp] theorem live14_14 : G.live 14 14 = some ⟨[5, 8, 9, 47, 48], []⟩ := by kernel_rfl
@[simp] theorem live14_15 : G.live 14 15 = some ⟨[5, 8, 47, 48], []⟩ := by kernel_rfl
@[simp] theorem live14_16 : G.live 14 16 = some ⟨[5, 8, 47, 48], []⟩ := by kernel_rfl
@[simp] theorem live14_17 : G.live 14 17 = some ⟨[4], []⟩ := by kernel_rfl
@[simp] theorem E15 : G.E 15 = true := by kernel_rfl
@[simp] theorem ext15 : G.ext 15 = none := by kernel_rfl
@[simp] theorem dfr15 : G.dfr 15 = false := by kernel_rfl
@[simp] theorem own15 : G.retOwn 15 = false := by kernel_rfl
@[simp] theorem live15_0 : G.live 15 0 = some ⟨[0, 1], []⟩ := by kernel_rfl
@[simp] theorem live15_1 : G.live 15 1 = some ⟨[1, 5], []⟩ := by kernel_rfl
@[simp] theorem live15_2 : G.live 15 2 = some ⟨[1, 5, 9], []⟩ := by kernel_rfl
@[simp] theorem live15_3 : G.live 15 3 = some ⟨[4], []⟩ := by kernel_rfl
@[simp] theorem live15_4 : G.live 15 4 = some ⟨[4], []⟩ := by kernel_rfl
@[simp] theorem E16 : G.E 16 = true := by kernel_rfl
@[simp] theorem ext16 : G.ext 16 = none := by kernel_rfl
@[simp] theorem dfr16 : G.dfr 16 = false := by kernel_rfl
@[simp] theorem own16 : G.retOwn 16 = false := by kernel_rfl
@[simp] theorem live16_0 : G.live 16 0 = some ⟨[0], []⟩ := by kernel_rfl
@[simp] theorem live16_1 : G.live 16 1 = some ⟨[0, 4], []⟩ := by kernel_rfl
@[simp] theorem live16_2 : G.live 16 2 = some ⟨[2, 3], []⟩ := by kernel_rfl
@[simp] theorem E17 : G.E 17 = true := by kernel_rfl
@[simp] theorem ext17 : G.ext 17 = none := by kernel_rfl
@[simp] theorem dfr17 : G.dfr 17 = false := by kernel_rfl
@[simp] theorem own17 : G.retOwn 17 = false := by kernel_rfl
@[simp] theorem keep17_5 : G.keep 17 5 = some ⟨[(1, none), (2, none), (6, some (1, 3)), (20, none), (21, none)], [(1002, [])]⟩ := by kernel_rfl
@[simp] theorem keep17_12 : G.keep 17 12 = some ⟨[(1, none), (2, none), (6, none), (8, some (4, 39)), (36, none), (37, none), (38, none)], [(1002, [])]⟩ := by kernel_rfl
@[simp] theorem live17_0 : G.live 17 0 = some ⟨[1, 2], []⟩ := by kernel_rfl
@[simp] theorem live17_1 : G.live 17 1 = some ⟨[1, 2, 15], []⟩ := by kernel_rfl
@[simp] theorem live17_2 : G.live 17 2 = some ⟨[4, 5], []⟩ := by kernel_rfl
@[simp] theorem live17_3 : G.live 17 3 = some ⟨[1, 2, 6], []⟩ := by kernel_rfl
@[simp] theorem live17_4 : G.live 17 4 = some ⟨[1, 2, 6, 20, 21], []⟩ := by kernel_rfl
@[simp] theorem live17_5 : G.live 17 5 = some ⟨[1, 2, 6, 20, 21, 22], []⟩ := by kernel_rfl
@[simp] theorem live17_6 : G.live 17 6 = some ⟨[1, 2, 6, 7, 20, 21], []⟩ := by kernel_rfl
@[simp] theorem live17_7 : G.live 17 7 = some ⟨[1, 2, 6, 20, 21], []⟩ := by kernel_rfl
@[simp] theorem live17_8 : G.live 17 8 = some ⟨[1, 2, 6, 20, 21], []⟩ := by kernel_rfl
@[simp] theorem live17_9 : G.live 17 9 = some ⟨[1, 2, 6], []⟩ := by kernel_rfl
@[simp] theorem live17_10 : G.live 17 10 = some ⟨[1, 2, 6, 8], []⟩ := by kernel_rfl
@[simp] theorem live17_11 : G.live 17 11 = some ⟨[1, 2, 6, 8, 36, 37, 38], []⟩ := by kernel_rfl
@[simp] theorem live17_12 : G.live 17 12 = some ⟨[1, 2, 6, 8, 36, 37, 38, 39], []⟩ := by kernel_rfl
@[simp] theorem live17_13 : G.live 17 13 = some ⟨[1, 2, 6, 8, 9, 10, 36, 37, 38], []⟩ := by kernel_rfl
@[simp] theorem live17_14 : G.live 17 14 = some ⟨[1, 2, 6, 8, 10, 36, 37, 38, 59], []⟩ := by kernel_rfl
@[simp] theorem live17_15 : G.live 17 15 = some ⟨[4, 5], []⟩ := by kernel_rfl
@[simp] theorem live17_16 : G.live 17 16 = some ⟨[1, 2, 6, 8, 10, 36, 37, 38], []⟩ := by kernel_rfl
@[simp] theorem live17_17 : G.live 17 17 = some ⟨[1, 2, 6, 8, 36, 37, 38], []⟩ := by kernel_rfl
@[simp] theorem live17_18 : G.live 17 18 = some ⟨[1, 2, 6, 8, 36, 37, 38], []⟩ := by kernel_rfl
@[simp] theorem live17_19 : G.live 17 19 = some ⟨[4, 5], []⟩ := by kernel_rfl
@[simp] theorem plan17_14 : G.plan 17 14 = some [.n 0, .n 1, .n 2, .n 3, .n 4, .n 5, .n 6, .n 7, .n 8, .n 9, .n 10, .n 11, .n 12, .n 13, .n 14, .n 15, .n 16] := by kernel_rfl
@[simp] theorem E18 : G.E 18 = true := by kernel_rfl
@[simp] theorem ext18 : G.ext 18 = none := by kernel_rfl
@[simp] theorem dfr18 : G.dfr 18 = false := by kernel_rfl
@[simp] theorem own18 : G.retOwn 18 = false := by kernel_rfl
@[simp] theorem live18_0 : G.live 18 0 = some ⟨[0, 1], []⟩ := by kernel_rfl
@[simp] theorem live18_1 : G.live 18 1 = some ⟨[4], []⟩ := by kernel_rfl
@[simp] theorem E19 : G.E 19 = true := by kernel_rfl
@[simp] theorem ext19 : G.ext 19 = none := by kernel_rfl
@[simp] theorem dfr19 : G.dfr 19 = false := by kernel_rfl
@[simp] theorem own19 : G.retOwn 19 = false := by kernel_rfl
@[simp] theorem keep19_2 : G.keep 19 2 = some ⟨[(0, none), (3, none)], []⟩ := by kernel_rfl
@[simp] theorem live19_0 : G.live 19 0 = some ⟨[0], []⟩ := by kernel_rfl
@[simp] theorem live19_1 : G.live 19 1 = some ⟨[0, 3], []⟩ := by kernel_rfl
@[simp] theorem live19_2 : G.live 19 2 = some ⟨[0, 3, 11], []⟩ := by kernel_rfl
@[simp] theorem live19_4 : G.live 19 4 = some ⟨[0, 3, 20], []⟩ := by kernel_rfl
@[simp] theorem live19_5 : G.live 19 5 = some ⟨[2], []⟩ := by kernel_rfl
@[simp] theorem live19_3 : G.live 19 3 = some ⟨[0, 3], []⟩ := by kernel_rfl
@[simp] theorem live19_6 : G.live 19 6 = some ⟨[2], []⟩ := by kernel_rfl
@[simp] theorem E20 : G.E 20 = true := by kernel_rfl
@[simp] theorem ext20 : G.ext 20 = none := by kernel_rfl
@[simp] theorem dfr20 : G.dfr 20 = false := by kernel_rfl
@[simp] theorem own20 : G.retOwn 20 = false := by kernel_rfl
@[simp] theorem keep20_4 : G.keep 20 4 = some ⟨[(0, none), (3, none)], []⟩ := by kernel_rfl
@[simp] theorem live20_0 : G.live 20 0 = some ⟨[0], []⟩ := by kernel_rfl
@[simp] theorem live20_1 : G.live 20 1 = some ⟨[0, 7], []⟩ := by kernel_rfl
@[simp] theorem live20_2 : G.live 20 2 = some ⟨[2], []⟩ := by kernel_rfl
@[simp] theorem live20_3 : G.live 20 3 = some ⟨[0, 3], []⟩ := by kernel_rfl
@[simp] theorem live20_4 : G.live 20 4 = some ⟨[0, 3, 11], []⟩ := by kernel_rfl
@[simp] theorem live20_6 : G.live 20 6 = some ⟨[0, 3, 20], []⟩ := by kernel_rfl
@[simp] theorem live20_7 : G.live 20 7 = some ⟨[2], []⟩ := by kernel_rfl
@[simp] theorem live20_5 : G.live 20 5 = some ⟨[0, 3], []⟩ := by kernel_rfl
@[simp] theorem live20_8 : G.live 20 8 = some ⟨[0, 4], []⟩ := by kernel_rfl
@[simp] theorem live20_9 : G.live 20 9 = some ⟨[4, 31], []⟩ := by kernel_rfl
@[simp] theorem live20_10 : G.live 20 10 = some ⟨[2], []⟩ := by kernel_rfl
@[simp] theorem live20_11 : G.live 20 11 = some ⟨[34], []⟩ := by kernel_rfl
@[simp] theorem live20_12 : G.live 20 12 = some ⟨[2], []⟩ := by kernel_rfl
@[simp] theorem live20_13 : G.live 20 13 = some ⟨[2], []⟩ := by kernel_rfl
@[simp] theorem E21 : G.E 21 = true := by kernel_rfl
@[simp] theorem ext21 : G.ext 21 = none := by kernel_rfl
@[simp] theorem dfr21 : G.dfr 21 = false := by kernel_rfl
@[simp] theorem own21 : G.retOwn 21 = false := by kernel_rfl
@[simp] theorem keep21_12 : G.keep 21 12 = some ⟨[(7, none), (8, none), (9, none)], []⟩ := by kernel_rfl
@[simp] theorem live21_0 : G.live 21 0 = some ⟨[0, 1], []⟩ := by kernel_rfl
@[simp] theorem live21_1 : G.live 21 1 = some ⟨[0, 1, 5], []⟩ := by kernel_rfl
@[simp] theorem live21_2 : G.live 21 2 = some ⟨[0, 1, 5, 6], []⟩ := by kernel_rfl
@[simp] theorem live21_3 : G.live 21 3 = some ⟨[0, 1, 5, 6, 21], []⟩ := by kernel_rfl
@[simp] theorem live21_4 : G.live 21 4 = some ⟨[4], []⟩ := by kernel_rfl
@[simp] theorem live21_5 : G.live 21 5 = some ⟨[0, 1, 5, 6, 32], []⟩ := by kernel_rfl
@[simp] theorem live21_6 : G.live 21 6 = some ⟨[4], []⟩ := by kernel_rfl
@[simp] theorem live21_7 : G.live 21 7 = some ⟨[0, 1, 5, 6, 43], []⟩ := by kernel_rfl
@[simp] theorem live21_8 : G.live 21 8 = some ⟨[4], []⟩ := by kernel_rfl
@[simp] theorem live21_9 : G.live 21 9 = some ⟨[1, 7], []⟩ := by kernel_rfl
@[simp] theorem live21_10 : G.live 21 10 = some ⟨[7, 8], []⟩ := by kernel_rfl
@[simp] theorem live21_11 : G.live 21 11 = some ⟨[7, 8, 9], []⟩ := by kernel_rfl
@[simp] theorem live21_12 : G.live 21 12 = some ⟨[7, 8, 9, 63], []⟩ := by kernel_rfl
@[simp] theorem live21_14 : G.live 21 14 = some ⟨[7, 8, 9, 10], []⟩ := by kernel_rfl
@[simp] theorem live21_15 : G.live 21 15 = some ⟨[7, 8, 9, 10, 76], []⟩ := by kernel_rfl
@[simp] theorem live21_16 : G.live 21 16 = some ⟨[4], []⟩ := by kernel_rfl
@[simp] theorem live21_13 : G.live 21 13 = some ⟨[7, 8, 9], []⟩ := by kernel_rfl
@[simp] theorem live21_17 : G.live 21 17 = some ⟨[4], []⟩ := by kernel_rfl
@[simp] theorem plan21_14 : G.plan 21 14 = some [.n 0, .n 1, .n 2, .n 3, .n 4, .n 5, .n 6, .n 7, .e 8 [], .n 9] := by kernel_rfl
@[simp] theorem E22 : G.E 22 = true := by kernel_rfl
@[simp] theorem ext22 : G.ext 22 = none := by kernel_rfl
@[simp] theorem dfr22 : G.dfr 22 = false := by kernel_rfl
@[simp] theorem own22 : G.retOwn 22 = false := by kernel_rfl
@[simp] theorem keep22_2 : G.keep 22 2 = some ⟨[(0, none), (3, none)], []⟩ := by kernel_rfl
@[simp] theorem live22_0 : G.live 22 0 = some ⟨[0], []⟩ := by kernel_rfl
@[simp] theorem live22_1 : G.live 22 1 = some ⟨[0, 3], []⟩ := by kernel_rfl
@[simp] theorem live22_2 : G.live 22 2 = some ⟨[0, 3, 7], []⟩ := by kernel_rfl
@[simp] theorem live22_4 : G.live 22 4 = some ⟨[0, 3, 15], []⟩ := by kernel_rfl
@[simp] theorem live22_5 : G.live 22 5 = some ⟨[2], []⟩ := by kernel_rfl
@[simp] theorem live22_3 : G.live 22 3 = some ⟨[0, 3], []⟩ := by kernel_rfl
@[simp] theorem live22_6 : G.live 22 6 = some ⟨[2], []⟩ := by kernel_rfl
@[simp] theorem E23 : G.E 23 = true := by kernel_rfl
@[simp] theorem ext23 : G.ext 23 = none := by kernel_rfl
@[simp] theorem dfr23 : G.dfr 23 = false := by kernel_rfl
@[simp] theorem own23 : G.retOwn 23 = false := by kernel_rfl
@[simp] theorem live23_0 : G.live 23 0 = some ⟨[0], []⟩ := by kernel_rfl
@[simp] theorem live23_1 : G.live 23 1 = some ⟨[2], []⟩ := by kernel_rfl
@[simp] theorem E24 : G.E 24 = true := by kernel_rfl
@[simp] theorem ext24 : G.ext 24 = none := by kernel_rfl
@[simp] theorem dfr24 : G.dfr 24 = false := by kernel_rfl
@[simp] theorem own24 : G.retOwn 24 = false := by kernel_rfl
@[simp] theorem live24_0 : G.live 24 0 = some ⟨[0, 1], []⟩ := by kernel_rfl
@[simp] theorem live24_1 : G.live 24 1 = some ⟨[0, 1, 5, 6], []⟩ := by kernel_rfl
@[simp] theorem live24_2 : G.live 24 2 = some ⟨[0, 1, 5, 7], []⟩ := by kernel_rfl
@[simp] theorem live24_3 : G.live 24 3 = some ⟨[0, 1, 7, 37], []⟩ := by kernel_rfl
@[simp] theorem live24_4 : G.live 24 4 = some ⟨[4], []⟩ := by kernel_rfl
@[simp] theorem live24_5 : G.live 24 5 = some ⟨[4], []⟩ := by kernel_rfl
@[simp] theorem plan24_1 : G.plan 24 1 = some [.n 0, .n 1, .n 2, .n 3, .n 4, .n 5, .sw 6 7 [5, 4, 3, 2, 1, 0], .e 8 [5, 4, 3], .e 9 []] := by kernel_rfl
@[simp] theorem plan24_2 : G.plan 24 2 = some [.n 0, .n 1, .n 2, .n 3, .n 5, .n 6, .n 7, .n 8, .n 10, .n 11, .n 12, .n 13, .e 4 [13, 12, 11, 10, 8, 7, 6, 5], .e 9 [13, 12, 11, 10], .e 14 [2, 0], .n 15, .e 16 [7, 5, 2, 0], .n 17] := by kernel_rfl
@[simp] theorem E25 : G.E 25 = true := by kernel_rfl
@[simp] theorem ext25 : G.ext 25 = none := by kernel_rfl
@[simp] theorem dfr25 : G.dfr 25 = false := by kernel_rfl
@[simp] theorem own25 : G.retOwn 25 = false := by kernel_rfl
@[simp] theorem keep25_4 : G.keep 25 4 = some ⟨[(0, none), (1, none), (5, none)], []⟩ := by kernel_rfl
@[simp] theorem live25_0 : G.live 25 0 = some ⟨[0, 1], []⟩ := by kernel_rfl
@[simp] theorem live25_1 : G.live 25 1 = some ⟨[0, 1, 10], []⟩ := by kernel_rfl
@[simp] theorem live25_2 : G.live 25 2 = some ⟨[4], []⟩ := by kernel_rfl
@[simp] theorem live25_3 : G.live 25 3 = some ⟨[0, 1, 5], []⟩ := by kernel_rfl
@[simp] theorem live25_4 : G.live 25 4 = some ⟨[0, 1, 5, 14], []⟩ := by kernel_rfl
@[simp] theorem live25_6 : G.live 25 6 = some ⟨[0, 1, 5, 25], []⟩ := by kernel_rfl
@[simp] theorem live25_7 : G.live 25 7 = some ⟨[4], []⟩ := by kernel_rfl
@[simp] theorem live25_5 : G.live 25 5 = some ⟨[0, 1, 5], []⟩ := by kernel_rfl
@[simp] theorem live25_8 : G.live 25 8 = some ⟨[4], []⟩ := by kernel_rfl
@[simp] theorem plan25_6 : G.plan 25 6 = some [.n 0, .n 1, .n 2, .n 3, .n 4, .n 5, .n 6, .n 7, .n 8] := by kernel_rfl
@[simp] theorem E26 : G.E 26 = true := by kernel_rfl
@[simp] theorem ext26 : G.ext 26 = none := by kernel_rfl
@[simp] theorem dfr26 : G.dfr 26 = false := by kernel_rfl
@[simp] theorem own26 : G.retOwn 26 = true := by kernel_rfl
@[simp] theorem keep26_3 : G.keep 26 3 = some ⟨[(3, some (2, 50)), (6, none), (7, none), (8, none)], []⟩ := by kernel_rfl
@[simp] theorem live26_0 : G.live 26 0 = some ⟨[0], []⟩ := by kernel_rfl
@[simp] theorem live26_1 : G.live 26 1 = some ⟨[0, 3], []⟩ := by kernel_rfl
@[simp] theorem live26_2 : G.live 26 2 = some ⟨[3, 6, 7, 8], []⟩ := by kernel_rfl
@[simp] theorem live26_3 : G.live 26 3 = some ⟨[3, 6, 7, 8, 9], []⟩ := by kernel_rfl
@[simp] theorem live26_4 : G.live 26 4 = some ⟨[3, 4, 5, 6, 7, 8], []⟩ := by kernel_rfl
@[simp] theorem live26_5 : G.live 26 5 = some ⟨[3, 6, 7, 8], []⟩ := by kernel_rfl
@[simp] theorem live26_6 : G.live 26 6 = some ⟨[3, 6, 7, 8], []⟩ := by kernel_rfl
@[simp] theorem live26_7 : G.live 26 7 = some ⟨[2], []⟩ := by kernel_rfl
@[simp] theorem E27 : G.E 27 = true := by kernel_rfl
@[simp] theorem ext27 : G.ext 27 = none := by kernel_rfl
@[simp] theorem dfr27 : G.dfr 27 = false := by kernel_rfl
@[simp] theorem own27 : G.retOwn 27 = false := by kernel_rfl
@[simp] theorem live27_0 : G.live 27 0 = some ⟨[0, 1, 4], []⟩ := by kernel_rfl
@[simp] theorem live27_1 : G.live 27 1 = some ⟨[], []⟩ := by kernel_rfl
@[simp] theorem E28 : G.E 28 = true := by kernel_rfl
@[simp] theorem ext28 : G.ext 28 = none := by kernel_rfl
@[simp] theorem dfr28 : G.dfr 28 = false := by kernel_rfl
@[simp] theorem own28 : G.retOwn 28 = false := by kernel_rfl
@[simp] theorem live28_0 : G.live 28 0 = some ⟨[2, 3], []⟩ := by kernel_rfl
@[simp] theorem live28_1 : G.live 28 1 = some ⟨[4], []⟩ := by kernel_rfl
@[simp] theorem plan28_1 : G.plan 28 1 = some [.n 0, .n 1, .n 2, .n 3, .n 5, .n 6, .n 7, .n 8, .e 4 [8, 7, 6, 5], .e 9 [], .n 10, .e 11 [2, 0], .n 12] := by kernel_rfl
@[simp] theorem E29 : G.E 29 = true := by kernel_rfl
@[simp] theorem ext29 : G.ext 29 = none := by kernel_rfl
@[simp] theorem dfr29 : G.dfr 29 = false := by kernel_rfl
@[simp] theorem own29 : G.retOwn 29 = false := by kernel_rfl
@[simp] theorem live29_0 : G.live 29 0 = some ⟨[0], []⟩ := by kernel_rfl
@[simp] theorem live29_1 : G.live 29 1 = some ⟨[], []⟩ := by kernel_rfl
@[simp] theorem E30 : G.E 30 = true := by kernel_rfl
@[simp] theorem ext30 : G.ext 30 = none := by kernel_rfl
@[simp] theorem dfr30 : G.dfr 30 = false := by kernel_rfl
@[simp] theorem own30 : G.retOwn 30 = false := by kernel_rfl
@[simp] theorem live30_0 : G.live 30 0 = some ⟨[0], []⟩ := by kernel_rfl
@[simp] theorem live30_1 : G.live 30 1 = some ⟨[2], []⟩ := by kernel_rfl
@[simp] theorem E31 : G.E 31 = true := by kernel_rfl
@[simp] theorem ext31 : G.ext 31 = none := by kernel_rfl
@[simp] theorem dfr31 : G.dfr 31 = false := by kernel_rfl
@[simp] theorem own31 : G.retOwn 31 = false := by kernel_rfl
@[simp] theorem live31_0 : G.live 31 0 = some ⟨[0], []⟩ := by kernel_rfl
@[simp] theorem live31_1 : G.live 31 1 = some ⟨[0, 3], []⟩ := by kernel_rfl
@[simp] theorem live31_2 : G.live 31 2 = some ⟨[0, 3], []⟩ := by kernel_rfl
@[simp] theorem live31_3 : G.live 31 3 = some ⟨[0], []⟩ := by kernel_rfl
@[simp] theorem live31_4 : G.live 31 4 = some ⟨[2], []⟩ := by kernel_rfl
@[simp] theorem E32 : G.E 32 = true := by kernel_rfl
@[simp] theorem ext32 : G.ext 32 = none := by kernel_rfl
@[simp] theorem dfr32 : G.dfr 32 = false := by kernel_rfl
@[simp] theorem own32 : G.retOwn 32 = false := by kernel_rfl
@[simp] theorem live32_0 : G.live 32 0 = some ⟨[0], []⟩ := by kernel_rfl
@[simp] theorem live32_1 : G.live 32 1 = some ⟨[0, 4], []⟩ := by kernel_rfl
@[simp] theorem live32_2 : G.live 32 2 = some ⟨[0, 4, 8], []⟩ := by kernel_rfl
@[simp] theorem live32_3 : G.live 32 3 = some ⟨[2, 3], []⟩ := by kernel_rfl
@[simp] theorem live32_4 : G.live 32 4 = some ⟨[2, 3], []⟩ := by kernel_rfl
@[simp] theorem E33 : G.E 33 = true := by kernel_rfl
@[simp] theorem ext33 : G.ext 33 = none := by kernel_rfl
@[simp] theorem dfr33 : G.dfr 33 = false := by kernel_rfl
@[simp] theorem own33 : G.retOwn 33 = false := by kernel_rfl
@[simp] theorem keep33_3 : G.keep 33 3 = some ⟨[(0, none), (3, none), (9, none), (10, none), (11, none)], []⟩ := by kernel_rfl
@[simp] theorem keep33_11 : G.keep 33 11 = some ⟨[(6, some (4, 39)), (25, none), (26, none), (27, none)], []⟩ := by kernel_rfl
@[simp] theorem live33_0 : G.live 33 0 = some ⟨[0], []⟩ := by kernel_rfl
@[simp] theorem live33_1 : G.live 33 1 = some ⟨[0, 3], []⟩ := by kernel_rfl
@[simp] theorem live33_2 : G.live 33 2 = some ⟨[0, 3, 9, 10, 11], []⟩ := by kernel_rfl
@[simp] theorem live33_3 : G.live 33 3 = some ⟨[0, 3, 9, 10, 11, 12], []⟩ := by kernel_rfl
@[simp] theorem live33_4 : G.live 33 4 = some ⟨[0, 3, 5, 9, 10, 11], []⟩ := by kernel_rfl
@[simp] theorem live33_5 : G.live 33 5 = some ⟨[0, 3, 9, 10, 11], []⟩ := by kernel_rfl
@[simp] theorem live33_6 : G.live 33 6 = some ⟨[0, 3, 9, 10, 11, 20], []⟩ := by kernel_rfl
@[simp] theorem live33_7 : G.live 33 7 = some ⟨[0, 3, 9, 10, 11], []⟩ := by kernel_rfl
@[simp] theorem live33_8 : G.live 33 8 = some ⟨[0, 3, 9, 10, 11], []⟩ := by kernel_rfl
@[simp] theorem live33_9 : G.live 33 9 = some ⟨[0, 6], []⟩ := by kernel_rfl
@[simp] theorem live33_10 : G.live 33 10 = some ⟨[6, 25, 26, 27], []⟩ := by kernel_rfl
@[simp] theorem live33_11 : G.live 33 11 = some ⟨[6, 25, 26, 27, 28], []⟩ := by kernel_rfl
@[simp] theorem live33_12 : G.live 33 12 = some ⟨[6, 8, 25, 26, 27], []⟩ := by kernel_rfl
@[simp] theorem live33_13 : G.live 33 13 = some ⟨[6, 25, 26, 27], []⟩ := by kernel_rfl
@[simp] theorem live33_14 : G.live 33 14 = some ⟨[6, 25, 26, 27], []⟩ := by kernel_rfl
@[simp] theorem live33_15 : G.live 33 15 = some ⟨[2], []⟩ := by kernel_rfl
@[simp] theorem E34 : G.E 34 = true := by kernel_rfl
@[simp] theorem ext34 : G.ext 34 = none := by kernel_rfl
@[simp] theorem dfr34 : G.dfr 34 = false := by kernel_rfl
@[simp] theorem own34 : G.retOwn 34 = false := by kernel_rfl
@[simp] theorem live34_0 : G.live 34 0 = some ⟨[0, 1, 4], []⟩ := by kernel_rfl
@[simp] theorem live34_1 : G.live 34 1 = some ⟨[], []⟩ := by kernel_rfl
@[simp] theorem E35 : G.E 35 = true := by kernel_rfl
@[simp] theorem ext35 : G.ext 35 = none := by kernel_rfl
@[simp] theorem dfr35 : G.dfr 35 = false := by kernel_rfl
@[simp] theorem own35 : G.retOwn 35 = false := by kernel_rfl
@[simp] theorem live35_0 : G.live 35 0 = some ⟨[0, 1, 2], []⟩ := by kernel_rfl
@[simp] theorem live35_1 : G.live 35 1 = some ⟨[5], []⟩ := by kernel_rfl
@[simp] theorem plan35_1 : G.plan 35 1 = some [.n 0, .n 1, .n 2, .n 3, .n 4, .n 5, .n 6, .n 7, .e 8 [], .n 9] := by kernel_rfl
@[simp] theorem E36 : G.E 36 = true := by kernel_rfl
@[simp] theorem ext36 : G.ext 36 = none := by kernel_rfl
@[simp] theorem dfr36 : G.dfr 36 = false := by kernel_rfl
@[simp] theorem own36 : G.retOwn 36 = false := by kernel_rfl
@[simp] theorem live36_0 : G.live 36 0 = some ⟨[0, 1], []⟩ := by kernel_rfl
@[simp] theorem live36_1 : G.live 36 1 = some ⟨[4], []⟩ := by kernel_rfl
@[simp] theorem E37 : G.E 37 = true := by kernel_rfl
@[simp] theorem ext37 : G.ext 37 = none := by kernel_rfl
@[simp] theorem dfr37 : G.dfr 37 = false := by kernel_rfl
@[simp] theorem own37 : G.retOwn 37 = false := by kernel_rfl
@[simp] theorem keep37_4 : G.keep 37 4 = some ⟨[(0, none), (1, none), (12, none), (13, none)], []⟩ := by kernel_rfl
@[simp] theorem live37_0 : G.live 37 0 = some ⟨[0, 1], []⟩ := by kernel_rfl
@[simp] theorem live37_1 : G.live 37 1 = some ⟨[0, 1, 10], []⟩ := by kernel_rfl
@[simp] theorem live37_2 : G.live 37 2 = some ⟨[4], []⟩ := by kernel_rfl
@[simp] theorem live37_3 : G.live 37 3 = some ⟨[0, 1, 12, 13], []⟩ := by kernel_rfl
@[simp] theorem live37_4 : G.live 37 4 = some ⟨[0, 1, 12, 13, 14], []⟩ := by kernel_rfl
@[simp] theorem live37_5 : G.live 37 5 = some ⟨[0, 1, 5, 12, 13], []⟩ := by kernel_rfl
@[simp] theorem live37_6 : G.live 37 6 = some ⟨[0, 1, 12, 13, 24], []⟩ := by kernel_rfl
@[simp] theorem live37_7 : G.live 37 7 = some ⟨[4], []⟩ := by kernel_rfl
@[simp] theorem live37_8 : G.live 37 8 = some ⟨[0, 1, 12, 13], []⟩ := by kernel_rfl
@[simp] theorem live37_9 : G.live 37 9 = some ⟨[4], []⟩ := by kernel_rfl
@[simp] theorem plan37_6 : G.plan 37 6 = some [.n 0, .n 1, .n 2, .n 3, .n 4, .n 5, .n 6, .n 7, .n 8] := by kernel_rfl
@[simp] theorem E38 : G.E 38 = true := by kernel_rfl
@[simp] theorem ext38 : G.ext 38 = none := by kernel_rfl
@[simp] theorem dfr38 : G.dfr 38 = false := by kernel_rfl
@[simp] theorem own38 : G.retOwn 38 = false := by kernel_rfl
@[simp] theorem keep38_5 : G.keep 38 5 = some ⟨[(0, none), (1, none), (4, none), (5, none), (6, none)], [(1004, []), (1005, [])]⟩ := by kernel_rfl
@[simp] theorem live38_0 : G.live 38 0 = some ⟨[0, 1, 4], []⟩ := by kernel_rfl
@[simp] theorem live38_1 : G.live 38 1 = some ⟨[0, 1, 4, 24], []⟩ := by kernel_rfl
@[simp] theorem live38_2 : G.live 38 2 = some ⟨[4], []⟩ := by kernel_rfl
@[simp] theorem live38_3 : G.live 38 3 = some ⟨[0, 1, 4, 5], []⟩ := by kernel_rfl
@[simp] theorem live38_4 : G.live 38 4 = some ⟨[0, 1, 4, 5, 6], []⟩ := by kernel_rfl
@[simp] theorem live38_5 : G.live 38 5 = some ⟨[0, 1, 4, 5, 6, 40], []⟩ := by kernel_rfl
@[simp] theorem live38_7 : G.live 38 7 = some ⟨[0, 1, 4, 5, 6, 48], []⟩ := by kernel_rfl
@[simp] theorem live38_8 : G.live 38 8 = some ⟨[0, 1, 4, 5, 6, 7], []⟩ := by kernel_rfl
@[simp] theorem live38_9 : G.live 38 9 = some ⟨[0, 1, 4, 5, 6, 7, 92], []⟩ := by kernel_rfl
@[simp] theorem live38_10 : G.live 38 10 = some ⟨[4], []⟩ := by kernel_rfl
@[simp] theorem live38_11 : G.live 38 11 = some ⟨[0, 1, 4, 5, 6, 7], []⟩ := by kernel_rfl
@[simp] theorem live38_12 : G.live 38 12 = some ⟨[0, 1, 4, 5, 6], []⟩ := by kernel_rfl
@[simp] theorem live38_13 : G.live 38 13 = some ⟨[0, 1, 4, 5, 6, 8], []⟩ := by kernel_rfl
@[simp] theorem live38_14 : G.live 38 14 = some ⟨[0, 1, 4, 5, 6, 8], []⟩ := by kernel_rfl
@[simp] theorem live38_15 : G.live 38 15 = some ⟨[0, 1, 4, 5, 6, 8], []⟩ := by kernel_rfl
@[simp] theorem live38_16 : G.live 38 16 = some ⟨[0, 1, 4, 5, 6, 8], []⟩ := by kernel_rfl
@[simp] theorem live38_17 : G.live 38 17 = some ⟨[0, 1, 4, 5, 6], []⟩ := by kernel_rfl
@[simp] theorem live38_6 : G.live 38 6 = some ⟨[0, 1, 4, 5, 6], []⟩ := by kernel_rfl
@[simp] theorem live38_18 : G.live 38 18 = some ⟨[4, 5], []⟩ := by kernel_rfl
@[simp] theorem live38_19 : G.live 38 19 = some ⟨[4], []⟩ := by kernel_rfl
@[simp] theorem plan38_9 : G.plan 38 9 = some [.n 0, .n 1, .n 2, .n 3, .n 4, .n 5, .n 6, .n 7, .n 8, .n 9, .n 10, .n 11, .n 12, .n 13, .n 14, .n 15, .n 16, .e 17 [9, 8, 7, 6, 5, 2, 1, 0], .n 18, .n 19, .n 20, .n 21, .n 22, .n 23, .n 24, .n 25, .n 26, .n 27, .n 28, .n 29, .n 30, .n 31, .n 32, .n 33, .n 34, .n 35, .n 36, .n 37, .n 38, .n 39, .n 40, .n 41] := by kernel_rfl
@[simp] theorem plan38_14 : G.plan 38 14 = some [.n 1, .n 2, .n 4, .n 5, .n 6, .e 0 [6, 5, 4, 2, 1], .e 3 [6, 5, 4], .e 7 [], .n 8, .e 9 []] := by kernel_rfl
@[simp] theorem E39 : G.E 39 = true := by kernel_rfl
@[simp] theorem ext39 : G.ext 39 = none := by kernel_rfl
@[simp] theorem dfr39 : G.dfr 39 = false := by kernel_rfl
@[simp] theorem own39 : G.retOwn 39 = false := by kernel_rfl
@[simp] theorem live39_0 : G.live 39 0 = some ⟨[0, 1], []⟩ := by kernel_rfl
@[simp] theorem live39_1 : G.live 39 1 = some ⟨[1, 5], []⟩ := by kernel_rfl
@[simp] theorem live39_2 : G.live 39 2 = some ⟨[4], []⟩ := by kernel_rfl
@[simp] theorem live39_3 : G.live 39 3 = some ⟨[6], []⟩ := by kernel_rfl
@[simp] theorem live39_4 : G.live 39 4 = some ⟨[4], []⟩ := by kernel_rfl
@[simp] theorem live39_5 : G.live 39 5 = some ⟨[4], []⟩ := by kernel_rfl
@[simp] theorem E40 : G.E 40 = true := by kernel_rfl
@[simp] theorem ext40 : G.ext 40 = none := by kernel_rfl
@[simp] theorem dfr40 : G.dfr 40 = false := by kernel_rfl
@[simp] theorem own40 : G.retOwn 40 = false := by kernel_rfl
@[simp] theorem keep40_4 : G.keep 40 4 = some ⟨[(0, none), (3, none), (4, some (1, 22)), (5, none)], [(1003, [])]⟩ := by kernel_rfl
@[simp] theorem live40_0 : G.live 40 0 = some ⟨[0], []⟩ := by kernel_rfl
@[simp] theorem live40_1 : G.live 40 1 = some ⟨[0, 3], []⟩ := by kernel_rfl
@[simp] theorem live40_2 : G.live 40 2 = some ⟨[0, 3, 4], []⟩ := by kernel_rfl
@[simp] theorem live40_3 : G.live 40 3 = some ⟨[0, 3, 4, 5], []⟩ := by kernel_rfl
@[simp] theorem live40_4 : G.live 40 4 = some ⟨[0, 3, 4, 5, 12], []⟩ := by kernel_rfl
@[simp] theorem live40_6 : G.live 40 6 = some ⟨[0, 3, 4, 5, 19], []⟩ := by kernel_rfl
@[simp] theorem live40_7 : G.live 40 7 = some ⟨[0, 3, 4, 5], []⟩ := by kernel_rfl
@[simp] theorem live40_8 : G.live 40 8 = some ⟨[0, 3, 4, 5], []⟩ := by kernel_rfl
@[simp] theorem live40_5 : G.live 40 5 = some ⟨[0, 3, 4, 5], []⟩ := by kernel_rfl
@[simp] theorem live40_9 : G.live 40 9 = some ⟨[2], []⟩ := by kernel_rfl
@[simp] theorem plan40_7 : G.plan 40 7 = some [.n 0, .n 1, .n 2, .n 3, .n 4, .n 5, .n 6, .n 7, .n 8, .n 9, .n 10, .n 11, .n 12, .n 13, .n 14, .e 15 [11, 10, 9, 8, 7, 5, 4, 3, 2], .e 16 []] := by kernel_rfl
@[simp] theorem plan40_8 : G.plan 40 8 = some [.n 0, .n 1, .n 2, .n 3, .n 4, .n 5, .n 6, .n 7, .n 8, .n 9, .n 10, .n 11, .n 12, .e 13 [8, 6, 5, 4, 3, 2, 1, 0], .n 14, .n 15, .n 16, .e 17 [10, 9, 8, 5, 4, 3, 2], .e 18 []] := by kernel_rfl
@[simp] theorem E41 : G.E 41 = true := by kernel_rfl
@[simp] theorem ext41 : G.ext 41 = none := by kernel_rfl
@[simp] theorem dfr41 : G.dfr 41 = false := by kernel_rfl
@[simp] theorem own41 : G.retOwn 41 = false := by kernel_rfl
@[simp] theorem live41_0 : G.live 41 0 = some ⟨[0, 1], []⟩ := by kernel_rfl
@[simp] theorem live41_1 : G.live 41 1 = some ⟨[4], []⟩ := by kernel_rfl
@[simp] theorem E42 : G.E 42 = true := by kernel_rfl
@[simp] theorem ext42 : G.ext 42 = none := by kernel_rfl
@[simp] theorem dfr42 : G.dfr 42 = false := by kernel_rfl
@[simp] theorem own42 : G.retOwn 42 = false := by kernel_rfl
@[simp] theorem live42_0 : G.live 42 0 = some ⟨[0], []⟩ := by kernel_rfl
@[simp] theorem live42_1 : G.live 42 1 = some ⟨[2], []⟩ := by kernel_rfl
@[simp] theorem E43 : G.E 43 = true := by kernel_rfl
@[simp] theorem ext43 : G.ext 43 = none := by kernel_rfl
@[simp] theorem dfr43 : G.dfr 43 = false := by kernel_rfl
@[simp] theorem own43 : G.retOwn 43 = false := by kernel_rfl
@[simp] theorem live43_0 : G.live 43 0 = some ⟨[0], []⟩ := by kernel_rfl
@[simp] theorem live43_1 : G.live 43 1 = some ⟨[0, 3], []⟩ := by kernel_rfl
@[simp] theorem live43_2 : G.live 43 2 = some ⟨[0, 13], []⟩ := by kernel_rfl
@[simp] theorem live43_3 : G.live 43 3 = some ⟨[2], []⟩ := by kernel_rfl
@[simp] theorem live43_4 : G.live 43 4 = some ⟨[4, 5], []⟩ := by kernel_rfl
@[simp] theorem live43_5 : G.live 43 5 = some ⟨[4, 19], []⟩ := by kernel_rfl
@[simp] theorem live43_6 : G.live 43 6 = some ⟨[2], []⟩ := by kernel_rfl
@[simp] theorem live43_7 : G.live 43 7 = some ⟨[22], []⟩ := by kernel_rfl
@[simp] theorem live43_8 : G.live 43 8 = some ⟨[2], []⟩ := by kernel_rfl
@[simp] theorem live43_9 : G.live 43 9 = some ⟨[2], []⟩ := by kernel_rfl
@[simp] theorem E44 : G.E 44 = true := by kernel_rfl
@[simp] theorem ext44 : G.ext 44 = none := by kernel_rfl
@[simp] theorem dfr44 : G.dfr 44 = false := by kernel_rfl
@[simp] theorem own44 : G.retOwn 44 = false := by kernel_rfl
@[simp] theorem keep44_3 : G.keep 44 3 = some ⟨[(3, none), (6, none), (7, none), (8, none)], []⟩ := by kernel_rfl
@[simp] theorem live44_0 : G.live 44 0 = some ⟨[0], []⟩ := by kernel_rfl
@[simp] theorem live44_1 : G.live 44 1 = some ⟨[0, 3], []⟩ := by kernel_rfl
@[simp] theorem live44_2 : G.live 44 2 = some ⟨[3, 6, 7, 8], []⟩ := by kernel_rfl
@[simp] theorem live44_3 : G.live 44 3 = some ⟨[3, 6, 7, 8, 9], []⟩ := by kernel_rfl
@[simp] theorem live44_4 : G.live 44 4 = some ⟨[3, 5, 6, 7, 8], []⟩ := by kernel_rfl
@[simp] theorem live44_5 : G.live 44 5 = some ⟨[3, 5, 6, 7, 8, 14], []⟩ := by kernel_rfl
@[simp] theorem live44_6 : G.live 44 6 = some ⟨[2], []⟩ := by kernel_rfl
@[simp] theorem live44_7 : G.live 44 7 = some ⟨[3, 6, 7, 8], []⟩ := by kernel_rfl
@[simp] theorem live44_8 : G.live 44 8 = some ⟨[2], []⟩ := by kernel_rfl
@[simp] theorem E45 : G.E 45 = true := by kernel_rfl
@[simp] theorem ext45 : G.ext 45 = none := by kernel_rfl
@[simp] theorem dfr45 : G.dfr 45 = false := by kernel_rfl
@[simp] theorem own45 : G.retOwn 45 = false := by kernel_rfl
@[simp] theorem live45_0 : G.live 45 0 = some ⟨[0, 1], []⟩ := by kernel_rfl
@[simp] theorem live45_1 : G.live 45 1 = some ⟨[0, 1, 5], []⟩ := by kernel_rfl
@[simp] theorem live45_2 : G.live 45 2 = some ⟨[0, 1, 5, 6], []⟩ := by kernel_rfl
@[simp] theorem live45_3 : G.live 45 3 = some ⟨[0, 1, 6, 11], []⟩ := by kernel_rfl
@[simp] theorem live45_4 : G.live 45 4 = some ⟨[12], []⟩ := by kernel_rfl
@[simp] theorem live45_5 : G.live 45 5 = some ⟨[4], []⟩ := by kernel_rfl
@[simp] theorem live45_6 : G.live 45 6 = some ⟨[4], []⟩ := by kernel_rfl
@[simp] theorem live45_7 : G.live 45 7 = some ⟨[0, 1, 13], []⟩ := by kernel_rfl
@[simp] theorem live45_8 : G.live 45 8 = some ⟨[4], []⟩ := by kernel_rfl
@[simp] theorem live45_9 : G.live 45 9 = some ⟨[0, 1, 16], []⟩ := by kernel_rfl
@[simp] theorem live45_10 : G.live 45 10 = some ⟨[4], []⟩ := by kernel_rfl
@[simp] theorem live45_11 : G.live 45 11 = some ⟨[19], []⟩ := by kernel_rfl
@[simp] theorem live45_12 : G.live 45 12 = some ⟨[4], []⟩ := by kernel_rfl
@[simp] theorem live45_13 : G.live 45 13 = some ⟨[4], []⟩ := by kernel_rfl
@[simp] theorem E46 : G.E 46 = true := by kernel_rfl
@[simp] theorem ext46 : G.ext 46 = none := by kernel_rfl
@[simp] theorem dfr46 : G.dfr 46 = false := by kernel_rfl
@[simp] theorem own46 : G.retOwn 46 = false := by kernel_rfl
@[simp] theorem live46_0 : G.live 46 0 = some ⟨[0, 1], []⟩ := by kernel_rfl
@[simp] theorem live46_1 : G.live 46 1 = some ⟨[0, 1, 5], []⟩ := by kernel_rfl
@[simp] theorem live46_2 : G.live 46 2 = some ⟨[0, 1, 5, 6], []⟩ := by kernel_rfl
@[simp] theorem live46_3 : G.live 46 3 = some ⟨[0, 1, 6, 11], []⟩ := by kernel_rfl
@[simp] theorem live46_4 : G.live 46 4 = some ⟨[12], []⟩ := by kernel_rfl
@[simp] theorem live46_5 : G.live 46 5 = some ⟨[4], []⟩ := by kernel_rfl
@[simp] theorem live46_6 : G.live 46 6 = some ⟨[4], []⟩ := by kernel_rfl
@[simp] theorem live46_7 : G.live 46 7 = some ⟨[0, 1, 13], []⟩ := by kernel_rfl
@[simp] theorem live46_8 : G.live 46 8 = some ⟨[4], []⟩ := by kernel_rfl
@[simp] theorem live46_9 : G.live 46 9 = some ⟨[0, 1, 16], []⟩ := by kernel_rfl
@[simp] theorem live46_10 : G.live 46 10 = some ⟨[4], []⟩ := by kernel_rfl
@[simp] theorem live46_11 : G.live 46 11 = some ⟨[19], []⟩ := by kernel_rfl
@[simp] theorem live46_12 : G.live 46 12 = some ⟨[4], []⟩ := by kernel_rfl
@[simp] theorem live46_13 : G.live 46 13 = some ⟨[4], []⟩ := by kernel_rfl
@[simp] theorem E47 : G.E 47 = true := by kernel_rfl
@[simp] theorem ext47 : G.ext 47 = none := by kernel_rfl
@[simp] theorem dfr47 : G.dfr 47 = false := by kernel_rfl
@[simp] theorem own47 : G.retOwn 47 = false := by kernel_rfl
@[simp] theorem live47_0 : G.live 47 0 = some ⟨[0, 1], []⟩ := by kernel_rfl
@[simp] theorem live47_1 : G.live 47 1 = some ⟨[0, 1, 5], []⟩ := by kernel_rfl
@[simp] theorem live47_2 : G.live 47 2 = some ⟨[0, 1, 5, 6], []⟩ := by kernel_rfl
@[simp] theorem live47_3 : G.live 47 3 = some ⟨[0, 1, 6, 11], []⟩ := by kernel_rfl
@[simp] theorem live47_4 : G.live 47 4 = some ⟨[12], []⟩ := by kernel_rfl
@[simp] theorem live47_5 : G.live 47 5 = some ⟨[4], []⟩ := by kernel_rfl
@[simp] theorem live47_6 : G.live 47 6 = some ⟨[4], []⟩ := by kernel_rfl
@[simp] theorem live47_7 : G.live 47 7 = some ⟨[0, 1, 13], []⟩ := by kernel_rfl
@[simp] theorem live47_8 : G.live 47 8 = some ⟨[4], []⟩ := by kernel_rfl
@[simp] theorem live47_9 : G.live 47 9 = some ⟨[0, 1, 16], []⟩ := by kernel_rfl
@[simp] theorem live47_10 : G.live 47 10 = some ⟨[4], []⟩ := by kernel_rfl
@[simp] theorem live47_11 : G.live 47 11 = some ⟨[19], []⟩ := by kernel_rfl
@[simp] theorem live47_12 : G.live 47 12 = some ⟨[4], []⟩ := by kernel_rfl
@[simp] theorem live47_13 : G.live 47 13 = some ⟨[4], []⟩ := by kernel_rfl
@[simp] theorem E48 : G.E 48 = true := by kernel_rfl
@[simp] theorem ext48 : G.ext 48 = none := by kernel_rfl
@[simp] theorem dfr48 : G.dfr 48 = false := by kernel_rfl
@[simp] theorem own48 : G.retOwn 48 = false := by kernel_rfl
@[simp] theorem keep48_2 : G.keep 48 2 = some ⟨[(0, none), (1, none), (2, none), (11, none), (12, none), (13, none)], []⟩ := by kernel_rfl
@[simp] theorem live48_0 : G.live 48 0 = some ⟨[0, 1, 2], []⟩ := by kernel_rfl
@[simp] theorem live48_1 : G.live 48 1 = some ⟨[0, 1, 2, 11, 12, 13], []⟩ := by kernel_rfl
@[simp] theorem live48_2 : G.live 48 2 = some ⟨[0, 1, 2, 11, 12, 13, 14], []⟩ := by kernel_rfl
@[simp] theorem live48_3 : G.live 48 3 = some ⟨[0, 1, 2, 7, 8, 11, 12, 13], []⟩ := by kernel_rfl
@[simp] theorem live48_4 : G.live 48 4 = some ⟨[0, 1, 2, 7, 8, 11, 12, 13, 21], []⟩ := by kernel_rfl
@[simp] theorem live48_5 : G.live 48 5 = some ⟨[6], []⟩ := by kernel_rfl
@[simp] theorem live48_6 : G.live 48 6 = some ⟨[0, 1, 2, 8, 9, 11, 12, 13], []⟩ := by kernel_rfl
@[simp] theorem live48_7 : G.live 48 7 = some ⟨[0, 1, 2, 10, 11, 12, 13], []⟩ := by kernel_rfl
@[simp] theorem live48_8 : G.live 48 8 = some ⟨[0, 1, 2, 10, 11, 12, 13, 31], []⟩ := by kernel_rfl
@[simp] theorem live48_9 : G.live 48 9 = some ⟨[6], []⟩ := by kernel_rfl
@[simp] theorem live48_10 : G.live 48 10 = some ⟨[0, 1, 2, 11, 12, 13], []⟩ := by kernel_rfl
@[simp] theorem live48_11 : G.live 48 11 = some ⟨[38], []⟩ := by kernel_rfl
@[simp] theorem live48_12 : G.live 48 12 = some ⟨[6], []⟩ := by kernel_rfl
@[simp] theorem live48_13 : G.live 48 13 = some ⟨[6], []⟩ := by kernel_rfl
@[simp] theorem E49 : G.E 49 = true := by kernel_rfl
@[simp] theorem ext49 : G.ext 49 = none := by kernel_rfl
@[simp] theorem dfr49 : G.dfr 49 = false := by kernel_rfl
@[simp] theorem own49 : G.retOwn 49 = false := by kernel_rfl
@[simp] theorem keep49_4 : G.keep 49 4 = some ⟨[(0, none), (3, some (1, 44)), (4, none), (10, none), (11, none), (12, none)], []⟩ := by kernel_rfl
@[simp] theorem live49_0 : G.live 49 0 = some ⟨[0], []⟩ := by kernel_rfl
@[simp] theorem live49_1 : G.live 49 1 = some ⟨[0, 3], []⟩ := by kernel_rfl
@[simp] theorem live49_2 : G.live 49 2 = some ⟨[0, 3, 4], []⟩ := by kernel_rfl
@[simp] theorem live49_3 : G.live 49 3 = some ⟨[0, 3, 4, 10, 11, 12], []⟩ := by kernel_rfl
@[simp] theorem live49_4 : G.live 49 4 = some ⟨[0, 3, 4, 10, 11, 12, 13], []⟩ := by kernel_rfl
@[simp] theorem live49_5 : G.live 49 5 = some ⟨[0, 3, 4, 5, 6, 10, 11, 12], []⟩ := by kernel_rfl
@[simp] theorem live49_6 : G.live 49 6 = some ⟨[0, 3, 4, 5, 6, 10, 11, 12, 20], []⟩ := by kernel_rfl
@[simp] theorem live49_7 : G.live 49 7 = some ⟨[0, 3, 4, 6, 10, 11, 12], []⟩ := by kernel_rfl
@[simp] theorem live49_8 : G.live 49 8 = some ⟨[0, 3, 4, 10, 11, 12], []⟩ := by kernel_rfl
@[simp] theorem live49_9 : G.live 49 9 = some ⟨[0, 3, 4, 10, 11, 12], []⟩ := by kernel_rfl
@[simp] theorem live49_10 : G.live 49 10 = some ⟨[2], []⟩ := by kernel_rfl
@[simp] theorem E50 : G.E 50 = true := by kernel_rfl
@[simp] theorem ext50 : G.ext 50 = none := by kernel_rfl
@[simp] theorem dfr50 : G.dfr 50 = false := by kernel_rfl
@[simp] theorem own50 : G.retOwn 50 = false := by kernel_rfl
@[simp] theorem keep50_2 : G.keep 50 2 = some ⟨[(0, some (2, 50)), (1, none), (2, none), (3, none), (4, none), (10, none), (11, none)], []⟩ := by kernel_rfl
@[simp] theorem live50_0 : G.live 50 0 = some ⟨[0, 1, 2, 3, 4, 10], []⟩ := by kernel_rfl
@[simp] theorem live50_1 : G.live 50 1 = some ⟨[0, 1, 2, 3, 4, 10, 11], []⟩ := by kernel_rfl
@[simp] theorem live50_2 : G.live 50 2 = some ⟨[0, 1, 2, 3, 4, 10, 11, 12], []⟩ := by kernel_rfl
@[simp] theorem live50_3 : G.live 50 3 = some ⟨[0, 1, 2, 3, 4, 10, 11, 12, 25], []⟩ := by kernel_rfl
@[simp] theorem live50_4 : G.live 50 4 = some ⟨[], []⟩ := by kernel_rfl
@[simp] theorem live50_5 : G.live 50 5 = some ⟨[0, 1, 2, 3, 4, 10, 11, 12, 32], []⟩ := by kernel_rfl
@[simp] theorem live50_6 : G.live 50 6 = some ⟨[], []⟩ := by kernel_rfl
@[simp] theorem live50_7 : G.live 50 7 = some ⟨[0, 1, 2, 3, 4, 10, 11, 12, 39], []⟩ := by kernel_rfl
@[simp] theorem live50_8 : G.live 50 8 = some ⟨[0, 1, 2, 3, 4, 10, 11, 12], []⟩ := by kernel_rfl
@[simp] theorem live50_9 : G.live 50 9 = some ⟨[0, 1, 2, 3, 4, 10, 11, 12], []⟩ := by kernel_rfl
@[simp] theorem live50_10 : G.live 50 10 = some ⟨[0, 1, 2, 3, 4, 10, 11, 12, 13, 14], []⟩ := by kernel_rfl
@[simp] theorem live50_11 : G.live 50 11 = some ⟨[0, 1, 2, 3, 4, 10, 11, 12, 13, 14, 56], []⟩ := by kernel_rfl
@[simp] theorem live50_12 : G.live 50 12 = some ⟨[0, 1, 2, 3, 4, 10, 11, 12, 13], []⟩ := by kernel_rfl
@[simp] theorem live50_13 : G.live 50 13 = some ⟨[0, 1, 2, 3, 4, 10, 11, 12, 13], []⟩ := by kernel_rfl
@[simp] theorem live50_14 : G.live 50 14 = some ⟨[0, 1, 2, 3, 4, 10, 11, 12, 13, 14], []⟩ := by kernel_rfl
@[simp] theorem live50_15 : G.live 50 15 = some ⟨[0, 1, 2, 3, 4, 10, 11, 12, 13, 75], []⟩ := by kernel_rfl
@[simp] theorem live50_16 : G.live 50 16 = some ⟨[0, 1, 2, 3, 4, 10, 11, 12, 13, 80], []⟩ := by kernel_rfl
@[simp] theorem live50_17 : G.live 50 17 = some ⟨[0, 1, 2, 3, 4, 10, 11, 12, 13, 97], []⟩ := by kernel_rfl
@[simp] theorem live50_18 : G.live 50 18 = some ⟨[0, 2, 3, 4, 10, 11, 15], []⟩ := by kernel_rfl
@[simp] theorem live50_19 : G.live 50 19 = some ⟨[0, 1, 2, 3, 4, 10, 11], []⟩ := by kernel_rfl
@[simp] theorem live50_20 : G.live 50 20 = some ⟨[0, 1, 2, 3, 4, 12, 16, 17], []⟩ := by kernel_rfl
@[simp] theorem live50_21 : G.live 50 21 = some ⟨[0, 1, 2, 3, 4, 11, 12, 16], []⟩ := by kernel_rfl
@[simp] theorem live50_22 : G.live 50 22 = some ⟨[0, 1, 2, 3, 4, 11, 12, 16, 18, 19], []⟩ := by kernel_rfl
@[simp] theorem live50_23 : G.live 50 23 = some ⟨[0, 1, 2, 3, 4, 11, 16, 18, 19, 20], []⟩ := by kernel_rfl
@[simp] theorem live50_24 : G.live 50 24 = some ⟨[0, 1, 2, 3, 4, 11, 16, 18, 19, 20, 125], []⟩ := by kernel_rfl
@[simp] theorem live50_25 : G.live 50 25 = some ⟨[0, 1, 2, 3, 4, 10, 11, 16], []⟩ := by kernel_rfl
@[simp] theorem live50_26 : G.live 50 26 = some ⟨[0, 2, 3, 4, 10, 11, 16], []⟩ := by kernel_rfl
@[simp] theorem live50_27 : G.live 50 27 = some ⟨[0, 1, 2, 3, 4, 10, 11], []⟩ := by kernel_rfl
@[simp] theorem live50_28 : G.live 50 28 = some ⟨[0, 1, 2, 3, 4, 10, 11, 16], []⟩ := by kernel_rfl
@[simp] theorem live50_29 : G.live 50 29 = some ⟨[0, 1, 3, 4, 10, 11, 16], []⟩ := by kernel_rfl
@[simp] theorem live50_30 : G.live 50 30 = some ⟨[0, 1, 2, 3, 4, 10, 11], []⟩ := by kernel_rfl
@[simp] theorem plan50_17 : G.plan 50 17 = some [.n 0, .n 1, .n 2, .n 3, .n 4, .n 5, .n 6, .n 7, .n 8, .n 9, .n 10, .n 11, .n 12, .e 13 [5], .n 14, .n 15, .n 16] := by kernel_rfl
@[simp] theorem E51 : G.E 51 = true := by kernel_rfl
@[simp] theorem ext51 : G.ext 51 = none := by kernel_rfl
@[simp] theorem dfr51 : G.dfr 51 = false := by kernel_rfl
@[simp] theorem own51 : G.retOwn 51 = false := by kernel_rfl
@[simp] theorem live51_0 : G.live 51 0 = some ⟨[0], []⟩ := by kernel_rfl
@[simp] theorem live51_1 : G.live 51 1 = some ⟨[2], []⟩ := by kernel_rfl
@[simp] theorem live51_2 : G.live 51 2 = some ⟨[2], []⟩ := by kernel_rfl
@[simp] theorem E52 : G.E 52 = true := by kernel_rfl
@[simp] theorem ext52 : G.ext 52 = none := by kernel_rfl
@[simp] theorem dfr52 : G.dfr 52 = false := by kernel_rfl
@[simp] theorem own52 : G.retOwn 52 = false := by kernel_rfl
@[simp] theorem live52_0 : G.live 52 0 = some ⟨[0, 1], []⟩ := by kernel_rfl
@[simp] theorem live52_1 : G.live 52 1 = some ⟨[0, 1, 5], []⟩ := by kernel_rfl
@[simp] theorem live52_2 : G.live 52 2 = some ⟨[0, 1, 5, 6], []⟩ := by kernel_rfl
@[simp] theorem live52_3 : G.live 52 3 = some ⟨[0, 1, 6, 11], []⟩ := by kernel_rfl
@[simp] theorem live52_4 : G.live 52 4 = some ⟨[12], []⟩ := by kernel_rfl
@[simp] theorem live52_5 : G.live 52 5 = some ⟨[4], []⟩ := by kernel_rfl
@[simp] theorem live52_6 : G.live 52 6 = some ⟨[4], []⟩ := by kernel_rfl
@[simp] theorem live52_7 : G.live 52 7 = some ⟨[0, 1, 13], []⟩ := by kernel_rfl
@[simp] theorem live52_8 : G.live 52 8 = some ⟨[4], []⟩ := by kernel_rfl
@[simp] theorem live52_9 : G.live 52 9 = some ⟨[0, 1, 16], []⟩ := by kernel_rfl
@[simp] theorem live52_10 : G.live 52 10 = some ⟨[4], []⟩ := by kernel_rfl
@[simp] theorem live52_11 : G.live 52 11 = some ⟨[19], []⟩ := by kernel_rfl
@[simp] theorem live52_12 : G.live 52 12 = some ⟨[4], []⟩ := by kernel_rfl
@[simp] theorem live52_13 : G.live 52 13 = some ⟨[4], []⟩ := by kernel_rfl
@[simp] theorem E53 : G.E 53 = true := by kernel_rfl
@[simp] theorem ext53 : G.ext 53 = none := by kernel_rfl
@[simp] theorem dfr53 : G.dfr 53 = false := by kernel_rfl
@[simp] theorem own53 : G.retOwn 53 = false := by kernel_rfl
@[simp] theorem keep53_0 : G.keep 53 0 = some ⟨[(0, none), (1, none)], []⟩ := by kernel_rfl
@[simp] theorem live53_0 : G.live 53 0 = some ⟨[0, 1, 4], []⟩ := by kernel_rfl
@[simp] theorem live53_1 : G.live 53 1 = some ⟨[0, 1, 4, 17], []⟩ := by kernel_rfl
@[simp] theorem live53_2 : G.live 53 2 = some ⟨[0, 4], []⟩ := by kernel_rfl
@[simp] theorem live53_3 : G.live 53 3 = some ⟨[0, 1], []⟩ := by kernel_rfl
@[simp] theorem E54 : G.E 54 = true := by kernel_rfl
@[simp] theorem ext54 : G.ext 54 = none := by kernel_rfl
@[simp] theorem dfr54 : G.dfr 54 = false := by kernel_rfl
@[simp] theorem own54 : G.retOwn 54 = false := by kernel_rfl
@[simp] theorem keep54_2 : G.keep 54 2 = some ⟨[(0, none), (1, none), (2, none), (7, none)], []⟩ := by kernel_rfl
@[simp] theorem live54_0 : G.live 54 0 = some ⟨[0, 1, 2], []⟩ := by kernel_rfl
@[simp] theorem live54_1 : G.live 54 1 = some ⟨[0, 1, 2, 7], []⟩ := by kernel_rfl
@[simp] theorem live54_2 : G.live 54 2 = some ⟨[0, 1, 2, 7, 8], []⟩ := by kernel_rfl
@[simp] theorem live54_3 : G.live 54 3 = some ⟨[0, 1, 2, 7, 8, 21], []⟩ := by kernel_rfl
@[simp] theorem live54_4 : G.live 54 4 = some ⟨[0, 1, 2, 7, 8, 9], []⟩ := by kernel_rfl
@[simp] theorem live54_5 : G.live 54 5 = some ⟨[0, 1, 2, 7, 8, 9, 10], []⟩ := by kernel_rfl
@[simp] theorem live54_6 : G.live 54 6 = some ⟨[0, 1, 2, 7, 9, 10, 33], []⟩ := by kernel_rfl
@[simp] theorem live54_7 : G.live 54 7 = some ⟨[0, 1, 2, 7, 9], []⟩ := by kernel_rfl
@[simp] theorem live54_8 : G.live 54 8 = some ⟨[0, 1, 2, 7, 9, 39], []⟩ := by kernel_rfl
@[simp] theorem live54_9 : G.live 54 9 = some ⟨[0, 1, 2, 9], []⟩ := by kernel_rfl
@[simp] theorem live54_10 : G.live 54 10 = some ⟨[0, 1, 2, 7], []⟩ := by kernel_rfl
@[simp] theorem live54_11 : G.live 54 11 = some ⟨[6], []⟩ := by kernel_rfl
@[simp] theorem E55 : G.E 55 = true := by kernel_rfl
@[simp] theorem ext55 : G.ext 55 = none := by kernel_rfl
@[simp] theorem dfr55 : G.dfr 55 = false := by kernel_rfl
@[simp] theorem own55 : G.retOwn 55 = true := by kernel_rfl
@[simp] theorem live55_0 : G.live 55 0 = some ⟨[0, 1], []⟩ := by kernel_rfl
@[simp] theorem live55_1 : G.live 55 1 = some ⟨[0, 1, 6], []⟩ := by kernel_rfl
@[simp] theorem live55_2 : G.live 55 2 = some ⟨[0, 1], []⟩ := by kernel_rfl
@[simp] theorem live55_3 : G.live 55 3 = some ⟨[0, 1], []⟩ := by kernel_rfl
@[simp] theorem live55_4 : G.live 55 4 = some ⟨[0, 1, 16], []⟩ := by kernel_rfl
@[simp] theorem live55_5 : G.live 55 5 = some ⟨[0], []⟩ := by kernel_rfl
@[simp] theorem live55_6 : G.live 55 6 = some ⟨[4], []⟩ := by kernel_rfl
@[simp] theorem E56 : G.E 56 = true := by kernel_rfl
@[simp] theorem ext56 : G.ext 56 = none := by kernel_rfl
@[simp] theorem dfr56 : G.dfr 56 = false := by kernel_rfl
@[simp] theorem own56 : G.retOwn 56 = false := by kernel_rfl
@[simp] theorem keep56_2 : G.keep 56 2 = some ⟨[(0, some (1, 3)), (1, none), (2, none), (3, none), (4, none), (10, none), (11, none)], []⟩ := by kernel_rfl
@[simp] theorem live56_0 : G.live 56 0 = some ⟨[0, 1, 2, 3, 4, 10], []⟩ := by kernel_rfl
@[simp] theorem live56_1 : G.live 56 1 = some ⟨[0, 1, 2, 3, 4, 10, 11], []⟩ := by kernel_rfl
@[simp] theorem live56_2 : G.live 56 2 = some ⟨[0, 1, 2, 3, 4, 10, 11, 12], []⟩ := by kernel_rfl
@[simp] theorem live56_3 : G.live 56 3 = some ⟨[0, 1, 2, 3, 4, 10, 11, 12, 25], []⟩ := by kernel_rfl
@[simp] theorem live56_4 : G.live 56 4 = some ⟨[], []⟩ := by kernel_rfl
@[simp] theorem live56_5 : G.live 56 5 = some ⟨[0, 1, 2, 3, 4, 10, 11, 12, 32], []⟩ := by kernel_rfl
@[simp] theorem live56_6 : G.live 56 6 = some ⟨[], []⟩ := by kernel_rfl
@[simp] theorem live56_7 : G.live 56 7 = some ⟨[0, 1, 2, 3, 4, 10, 11, 12, 39], []⟩ := by kernel_rfl
@[simp] theorem live56_8 : G.live 56 8 = some ⟨[0, 1, 2, 3, 4, 10, 11, 12], []⟩ := by kernel_rfl
@[simp] theorem live56_9 : G.live 56 9 = some ⟨[0, 1, 2, 3, 4, 10, 11, 12], []⟩ := by kernel_rfl
@[simp] theorem live56_10 : G.live 56 10 = some ⟨[0, 1, 2, 3, 4, 10, 11, 12, 13, 14], []⟩ := by kernel_rfl
@[simp] theorem live56_11 : G.live 56 11 = some ⟨[0, 1, 2, 3, 4, 10, 11, 12, 13, 14, 56], []⟩ := by kernel_rfl
@[simp] theorem live56_12 : G.live 56 12 = some ⟨[0, 1, 2, 3, 4, 10, 11, 12, 13], []⟩ := by kernel_rfl
@[simp] theorem live56_13 : G.live 56 13 = some ⟨[0, 1, 2, 3, 4, 10, 11, 12, 13], []⟩ := by kernel_rfl
@[simp] theorem live56_14 : G.live 56 14 = some ⟨[0, 1, 2, 3, 4, 10, 11, 12, 13, 14], []⟩ := by kernel_rfl
@[simp] theorem live56_15 : G.live 56 15 = some ⟨[0, 1, 2, 3, 4, 10, 11, 12, 13, 75], []⟩ := by kernel_rfl
@[simp] theorem live56_16 : G.live 56 16 = some ⟨[0, 1, 2, 3, 4, 10, 11, 12, 13, 80], []⟩ := by kernel_rfl
@[simp] theorem live56_17 : G.live 56 17 = some ⟨[0, 1, 2, 3, 4, 10, 11, 12, 13, 97], []⟩ := by kernel_rfl
@[simp] theorem live56_18 : G.live 56 18 = some ⟨[0, 2, 3, 4, 10, 11, 15], []⟩ := by kernel_rfl
@[simp] theorem live56_19 : G.live 56 19 = some ⟨[0, 1, 2, 3, 4, 10, 11], []⟩ := by kernel_rfl
@[simp] theorem live56_20 : G.live 56 20 = some ⟨[0, 1, 2, 3, 4, 12, 16, 17], []⟩ := by kernel_rfl
@[simp] theorem live56_21 : G.live 56 21 = some ⟨[0, 1, 2, 3, 4, 11, 12, 16], []⟩ := by kernel_rfl
@[simp] theorem live56_22 : G.live 56 22 = some ⟨[0, 1, 2, 3, 4, 11, 12, 16, 18, 19], []⟩ := by kernel_rfl
@[simp] theorem live56_23 : G.live 56 23 = some ⟨[0, 1, 2, 3, 4, 11, 16, 18, 19, 20], []⟩ := by kernel_rfl
@[simp] theorem live56_24 : G.live 56 24 = some ⟨[0, 1, 2, 3, 4, 11, 16, 18, 19, 20, 125], []⟩ := by kernel_rfl
@[simp] theorem live56_25 : G.live 56 25 = some ⟨[0, 1, 2, 3, 4, 10, 11, 16], []⟩ := by kernel_rfl
@[simp] theorem live56_26 : G.live 56 26 = some ⟨[0, 2, 3, 4, 10, 11, 16], []⟩ := by kernel_rfl
@[simp] theorem live56_27 : G.live 56 27 = some ⟨[0, 1, 2, 3, 4, 10, 11], []⟩ := by kernel_rfl
@[simp] theorem live56_28 : G.live 56 28 = some ⟨[0, 1, 2, 3, 4, 10, 11, 16], []⟩ := by kernel_rfl
@[simp] theorem live56_29 : G.live 56 29 = some ⟨[0, 1, 3, 4, 10, 11, 16], []⟩ := by kernel_rfl
@[simp] theorem live56_30 : G.live 56 30 = some ⟨[0, 1, 2, 3, 4, 10, 11], []⟩ := by kernel_rfl
@[simp] theorem plan56_17 : G.plan 56 17 = some [.n 0, .n 1, .n 2, .n 3, .n 4, .n 5, .n 6, .n 7, .n 8, .n 9, .n 10, .n 11, .n 12, .e 13 [5], .n 14, .n 15, .n 16] := by kernel_rfl
@[simp] theorem E57 : G.E 57 = true := by kernel_rfl
@[simp] theorem ext57 : G.ext 57 = none := by kernel_rfl
@[simp] theorem dfr57 : G.dfr 57 = false := by kernel_rfl
@[simp] theorem own57 : G.retOwn 57 = false := by kernel_rfl
@[simp] theorem live57_0 : G.live 57 0 = some ⟨[0, 1], []⟩ := by kernel_rfl
@[simp] theorem live57_1 : G.live 57 1 = some ⟨[4], []⟩ := by kernel_rfl
@[simp] theorem E58 : G.E 58 = true := by kernel_rfl
@[simp] theorem ext58 : G.ext 58 = none := by kernel_rfl
@[simp] theorem dfr58 : G.dfr 58 = false := by kernel_rfl
@[simp] theorem own58 : G.retOwn 58 = false := by kernel_rfl
@[simp] theorem live58_0 : G.live 58 0 = some ⟨[1], []⟩ := by kernel_rfl
@[simp] theorem live58_1 : G.live 58 1 = some ⟨[1, 3], []⟩ := by kernel_rfl
@[simp] theorem live58_2 : G.live 58 2 = some ⟨[1, 3, 4], []⟩ := by kernel_rfl
@[simp] theorem live58_3 : G.live 58 3 = some ⟨[1, 3, 4, 5], []⟩ := by kernel_rfl
@[simp] theorem live58_4 : G.live 58 4 = some ⟨[2], []⟩ := by kernel_rfl
@[simp] theorem E59 : G.E 59 = true := by kernel_rfl
@[simp] theorem ext59 : G.ext 59 = none := by kernel_rfl
@[simp] theorem dfr59 : G.dfr 59 = false := by kernel_rfl
@[simp] theorem own59 : G.retOwn 59 = false := by kernel_rfl
@[simp] theorem keep59_2 : G.keep 59 2 = some ⟨[(0, none), (1, none), (7, none), (8, none)], []⟩ := by kernel_rfl
@[simp] theorem live59_0 : G.live 59 0 = some ⟨[0, 1], []⟩ := by kernel_rfl
@[simp] theorem live59_1 : G.live 59 1 = some ⟨[0, 1, 7, 8], []⟩ := by kernel_rfl
@[simp] theorem live59_2 : G.live 59 2 = some ⟨[0, 1, 7, 8, 9], []⟩ := by kernel_rfl
@[simp] theorem live59_3 : G.live 59 3 = some ⟨[0, 1, 5, 7, 8], []⟩ := by kernel_rfl
@[simp] theorem live59_4 : G.live 59 4 = some ⟨[0, 1, 5, 7, 8, 16], []⟩ := by kernel_rfl
@[simp] theorem live59_5 : G.live 59 5 = some ⟨[4], []⟩ := by kernel_rfl
@[simp] theorem live59_6 : G.live 59 6 = some ⟨[0, 1, 7, 8], []⟩ := by kernel_rfl
@[simp] theorem live59_7 : G.live 59 7 = some ⟨[4], []⟩ := by kernel_rfl
@[simp] theorem E60 : G.E 60 = true := by kernel_rfl
@[simp] theorem ext60 : G.ext 60 = none := by kernel_rfl
@[simp] theorem dfr60 : G.dfr 60 = false := by kernel_rfl
@[simp] theorem own60 : G.retOwn 60 = false := by kernel_rfl
@[simp] theorem live60_0 : G.live 60 0 = some ⟨[1], []⟩ := by kernel_rfl
@[simp] theorem live60_1 : G.live 60 1 = some ⟨[2], []⟩ := by kernel_rfl
@[simp] theorem E61 : G.E 61 = true := by kernel_rfl
@[simp] theorem ext61 : G.ext 61 = none := by kernel_rfl
@[simp] theorem dfr61 : G.dfr 61 = false := by kernel_rfl
@[simp] theorem own61 : G.retOwn 61 = false := by kernel_rfl
@[simp] theorem live61_0 : G.live 61 0 = some ⟨[0, 1], []⟩ := by kernel_rfl
@[simp] theorem live61_1 : G.live 61 1 = some ⟨[4], []⟩ := by kernel_rfl
@[simp] theorem E62 : G.E 62 = true := by kernel_rfl
@[simp] theorem ext62 : G.ext 62 = none := by kernel_rfl
@[simp] theorem dfr62 : G.dfr 62 = true := by kernel_rfl
@[simp] theorem own62 : G.retOwn 62 = false := by kernel_rfl
@[simp] theorem live62_0 : G.live 62 0 = some ⟨[0, 2, 3], []⟩ := by kernel_rfl
@[simp] theorem live62_1 : G.live 62 1 = some ⟨[0, 2, 3], []⟩ := by kernel_rfl
@[simp] theorem live62_2 : G.live 62 2 = some ⟨[0, 2, 3], []⟩ := by kernel_rfl
@[simp] theorem live62_3 : G.live 62 3 = some ⟨[2, 3], []⟩ := by kernel_rfl
@[simp] theorem live62_4 : G.live 62 4 = some ⟨[2, 3], []⟩ := by kernel_rfl
@[simp] theorem E63 : G.E 63 = true := by kernel_rfl
@[simp] theorem ext63 : G.ext 63 = none := by kernel_rfl
@[simp] theorem dfr63 : G.dfr 63 = false := by kernel_rfl
@[simp] theorem own63 : G.retOwn 63 = false := by kernel_rfl
@[simp] theorem live63_0 : G.live 63 0 = some ⟨[0], []⟩ := by kernel_rfl
@[simp] theorem live63_1 : G.live 63 1 = some ⟨[2], []⟩ := by kernel_rfl
@[simp] theorem E64 : G.E 64 = true := by kernel_rfl
@[simp] theorem ext64 : G.ext 64 = none := by kernel_rfl
@[simp] theorem dfr64 : G.dfr 64 = false := by kernel_rfl
@[simp] theorem own64 : G.retOwn 64 = false := by kernel_rfl
@[simp] theorem live64_0 : G.live 64 0 = some ⟨[0], []⟩ := by kernel_rfl
@[simp] theorem live64_1 : G.live 64 1 = some ⟨[2], []⟩ := by kernel_rfl
@[simp] theorem E65 : G.E 65 = true := by kernel_rfl
@[simp] theorem ext65 : G.ext 65 = none := by kernel_rfl
@[simp] theorem dfr65 : G.dfr 65 = false := by kernel_rfl
@[simp] theorem own65 : G.retOwn 65 = false := by kernel_rfl
@[simp] theorem live65_0 : G.live 65 0 = some ⟨[0], []⟩ := by kernel_rfl
@[simp] theorem live65_1 : G.live 65 1 = some ⟨[2], []⟩ := by kernel_rfl
@[simp] theorem E66 : G.E 66 = true := by kernel_rfl
@[simp] theorem ext66 : G.ext 66 = none := by kernel_rfl
@[simp] theorem dfr66 : G.dfr 66 = false := by kernel_rfl
@[simp] theorem own66 : G.retOwn 66 = false := by kernel_rfl
@[simp] theorem live66_0 : G.live 66 0 = some ⟨[0, 1, 10], []⟩ := by kernel_rfl
@[simp] theorem live66_1 : G.live 66 1 = some ⟨[0, 1, 5, 10], []⟩ := by kernel_rfl
@[simp] theorem live66_2 : G.live 66 2 = some ⟨[5, 9, 10], []⟩ := by kernel_rfl
@[simp] theorem live66_3 : G.live 66 3 = some ⟨[5, 6, 9, 10], []⟩ := by kernel_rfl
@[simp] theorem live66_4 : G.live 66 4 = some ⟨[5, 9, 10], []⟩ := by kernel_rfl
@[simp] theorem live66_5 : G.live 66 5 = some ⟨[4], []⟩ := by kernel_rfl
@[simp] theorem E67 : G.E 67 = true := by kernel_rfl
@[simp] theorem ext67 : G.ext 67 = none := by kernel_rfl
@[simp] theorem dfr67 : G.dfr 67 = false := by kernel_rfl
@[simp] theorem own67 : G.retOwn 67 = false := by kernel_rfl
@[simp] theorem live67_0 : G.live 67 0 = some ⟨[0, 1], []⟩ := by kernel_rfl
@[simp] theorem live67_1 : G.live 67 1 = some ⟨[0, 1, 8], []⟩ := by kernel_rfl
@[simp] theorem live67_2 : G.live 67 2 = some ⟨[4], []⟩ := by kernel_rfl
@[simp] theorem live67_3 : G.live 67 3 = some ⟨[4], []⟩ := by kernel_rfl
@[simp] theorem E68 : G.E 68 = true := by kernel_rfl
@[simp] theorem ext68 : G.ext 68 = none := by kernel_rfl
@[simp] theorem dfr68 : G.dfr 68 = false := by kernel_rfl
@[simp] theorem own68 : G.retOwn 68 = false := by kernel_rfl
@[simp] theorem live68_0 : G.live 68 0 = some ⟨[0, 1], []⟩ := by kernel_rfl
@[simp] theorem live68_1 : G.live 68 1 = some ⟨[0, 1, 8], []⟩ := by kernel_rfl
@[simp] theorem live68_2 : G.live 68 2 = some ⟨[4], []⟩ := by kernel_rfl
@[simp] theorem live68_3 : G.live 68 3 = some ⟨[4], []⟩ := by kernel_rfl
@[simp] theorem E69 : G.E 69 = true := by kernel_rfl
@[simp] theorem ext69 : G.ext 69 = none := by kernel_rfl
@[simp] theorem dfr69 : G.dfr 69 = false := by kernel_rfl
@[simp] theorem own69 : G.retOwn 69 = false := by kernel_rfl
@[simp] theorem keep69_1 : G.keep 69 1 = some ⟨[(0, some (2, 50)), (1, none), (2, none), (3, none), (8, none)], []⟩ := by kernel_rfl
@[simp] theorem keep69_4 : G.keep 69 4 = some ⟨[(0, some (2, 50)), (1, none), (2, none), (3, none), (8, none), (9, none)], []⟩ := by kernel_rfl
@[simp] theorem live69_0 : G.live 69 0 = some ⟨[0, 1, 2, 3, 8], []⟩ := by kernel_rfl
@[simp] theorem live69_1 : G.live 69 1 = some ⟨[0, 1, 2, 3, 8, 14], []⟩ := by kernel_rfl
@[simp] theorem live69_3 : G.live 69 3 = some ⟨[0, 1, 2, 3, 8, 9], []⟩ := by kernel_rfl
@[simp] theorem live69_4 : G.live 69 4 = some ⟨[0, 1, 2, 3, 8, 9, 34], []⟩ := by kernel_rfl
@[simp] theorem live69_6 : G.live 69 6 = some ⟨[0, 1, 2, 3, 8, 9], []⟩ := by kernel_rfl
@[simp] theorem live69_5 : G.live 69 5 = some ⟨[0, 1, 2, 3, 8, 9], []⟩ := by kernel_rfl
@[simp] theorem live69_2 : G.live 69 2 = some ⟨[0, 1, 2, 3, 8], []⟩ := by kernel_rfl
@[simp] theorem plan69_4 : G.plan 69 4 = some [.n 0, .n 1, .n 2, .n 3, .n 4, .n 5, .n 6, .n 7, .n 8, .n 9, .n 10, .n 11, .n 12, .n 13, .e 14 [10], .n 15, .n 16] := by kernel_rfl
@[simp] theorem plan69_6 : G.plan 69 6 = some [.n 0, .n 1, .n 2, .n 3, .n 4, .n 5, .n 6, .n 7, .n 8, .n 9, .n 10, .n 11, .n 12, .n 13, .n 14, .e 15 [4, 3, 2], .n 16, .e 17 []] := by kernel_rfl
@[simp] theorem E70 : G.E 70 = true := by kernel_rfl
@[simp] theorem ext70 : G.ext 70 = none := by kernel_rfl
@[simp] theorem dfr70 : G.dfr 70 = false := by kernel_rfl
@[simp] theorem own70 : G.retOwn 70 = false := by kernel_rfl
@[simp] theorem keep70_4 : G.keep 70 4 = some ⟨[(0, some (2, 50)), (3, none), (8, none), (9, none), (10, none), (11, none)], []⟩ := by kernel_rfl
@[simp] theorem keep70_8 : G.keep 70 8 = some ⟨[(0, some (2, 50)), (3, none), (8, none), (9, none), (12, none)], []⟩ := by kernel_rfl
@[simp] theorem live70_0 : G.live 70 0 = some ⟨[0, 1, 2, 3, 8], []⟩ := by kernel_rfl
@[simp] theorem live70_1 : G.live 70 1 = some ⟨[0, 1, 2, 3, 8, 9], []⟩ := by kernel_rfl
@[simp] theorem live70_2 : G.live 70 2 = some ⟨[0, 3, 8, 9, 10], []⟩ := by kernel_rfl
@[simp] theorem live70_3 : G.live 70 3 = some ⟨[0, 3, 8, 9, 10, 11], []⟩ := by kernel_rfl
@[simp] theorem live70_4 : G.live 70 4 = some ⟨[0, 3, 8, 9, 10, 11, 21], []⟩ := by kernel_rfl
@[simp] theorem live70_6 : G.live 70 6 = some ⟨[0, 3, 8, 9, 10, 11], []⟩ := by kernel_rfl
@[simp] theorem live70_5 : G.live 70 5 = some ⟨[0, 3, 8, 9, 10, 11], []⟩ := by kernel_rfl
@[simp] theorem live70_7 : G.live 70 7 = some ⟨[0, 3, 8, 9, 12], []⟩ := by kernel_rfl
@[simp] theorem live70_8 : G.live 70 8 = some ⟨[0, 3, 8, 9, 12, 33], []⟩ := by kernel_rfl
@[simp] theorem live70_10 : G.live 70 10 = some ⟨[0, 3, 8, 9, 12], []⟩ := by kernel_rfl
@[simp] theorem live70_11 : G.live 70 11 = some ⟨[0, 3, 8, 9, 12], []⟩ := by kernel_rfl
@[simp] theorem live70_9 : G.live 70 9 = some ⟨[0, 3, 8, 9, 12], []⟩ := by kernel_rfl
@[simp] theorem plan70_10 : G.plan 70 10 = some [.n 0, .n 1, .n 2, .n 3, .n 4, .n 5, .n 6, .n 7, .n 8, .n 9, .n 10, .n 11, .n 12, .n 13, .n 14, .n 15, .n 16, .e 17 [5, 4, 3, 2], .n 18, .e 19 []] := by kernel_rfl
@[simp] theorem E71 : G.E 71 = true := by kernel_rfl
@[simp] theorem ext71 : G.ext 71 = none := by kernel_rfl
@[simp] theorem dfr71 : G.dfr 71 = false := by kernel_rfl
@[simp] theorem own71 : G.retOwn 71 = false := by kernel_rfl
@[simp] theorem keep71_5 : G.keep 71 5 = some ⟨[(0, some (2, 50)), (1, none), (8, none), (9, none), (10, none), (11, none)], [(1009, [])]⟩ := by kernel_rfl
@[simp] theorem live71_0 : G.live 71 0 = some ⟨[0, 1, 8], []⟩ := by kernel_rfl
@[simp] theorem live71_1 : G.live 71 1 = some ⟨[0, 1, 8, 17], []⟩ := by kernel_rfl
@[simp] theorem live71_2 : G.live 71 2 = some ⟨[0, 1, 8, 9], []⟩ := by kernel_rfl
@[simp] theorem live71_3 : G.live 71 3 = some ⟨[0, 1, 8, 9, 10], []⟩ := by kernel_rfl
@[simp] theorem live71_4 : G.live 71 4 = some ⟨[0, 1, 8, 9, 10, 11], []⟩ := by kernel_rfl
@[simp] theorem live71_5 : G.live 71 5 = some ⟨[0, 1, 8, 9, 10, 11, 35], []⟩ := by kernel_rfl
@[simp] theorem live71_7 : G.live 71 7 = some ⟨[0, 1, 8, 9, 10, 11, 12], []⟩ := by kernel_rfl
@[simp] theorem live71_8 : G.live 71 8 = some ⟨[0, 1, 8, 9, 10, 11, 12, 45], []⟩ := by kernel_rfl
@[simp] theorem live71_9 : G.live 71 9 = some ⟨[0, 1, 8, 9, 10, 11, 12], []⟩ := by kernel_rfl
@[simp] theorem live71_10 : G.live 71 10 = some ⟨[0, 1, 8, 9, 10, 11], []⟩ := by kernel_rfl
@[simp] theorem live71_6 : G.live 71 6 = some ⟨[0, 1, 8, 9, 10, 11], []⟩ := by kernel_rfl
@[simp] theorem plan71_10 : G.plan 71 10 = some [.n 0, .n 1, .n 2, .n 3, .n 4, .n 5, .n 6, .n 7, .n 8, .n 9, .n 10, .n 11, .n 12, .n 13, .n 14, .n 15, .n 16, .e 17 [5, 4, 3, 2], .n 18, .e 19 []] := by kernel_rfl
@[simp] theorem E72 : G.E 72 = true := by kernel_rfl
@[simp] theorem ext72 : G.ext 72 = none := by kernel_rfl
@[simp] theorem dfr72 : G.dfr 72 = false := by kernel_rfl
@[simp] theorem own72 : G.retOwn 72 = false := by kernel_rfl
@[simp] theorem live72_0 : G.live 72 0 = some ⟨[0, 1, 2, 3], []⟩ := by kernel_rfl
@[simp] theorem live72_1 : G.live 72 1 = some ⟨[0, 1, 3, 10], []⟩ := by kernel_rfl
@[simp] theorem live72_2 : G.live 72 2 = some ⟨[0, 1, 3, 10, 11], []⟩ := by kernel_rfl
@[simp] theorem live72_3 : G.live 72 3 = some ⟨[0, 1, 3, 10, 11, 12], []⟩ := by kernel_rfl
@[simp] theorem live72_4 : G.live 72 4 = some ⟨[0, 1, 3, 10, 11, 12, 13], []⟩ := by kernel_rfl
@[simp] theorem live72_5 : G.live 72 5 = some ⟨[0, 3, 10, 11, 12, 13, 14], []⟩ := by kernel_rfl
@[simp] theorem live72_6 : G.live 72 6 = some ⟨[0, 3, 10, 11, 12, 13, 14, 34], []⟩ := by kernel_rfl
@[simp] theorem live72_7 : G.live 72 7 = some ⟨[0, 3, 11, 12, 13, 14, 36], []⟩ := by kernel_rfl
@[simp] theorem live72_8 : G.live 72 8 = some ⟨[0, 3, 11, 12, 13, 14], []⟩ := by kernel_rfl
@[simp] theorem live72_9 : G.live 72 9 = some ⟨[0, 3, 11, 12, 13, 14], []⟩ := by kernel_rfl
@[simp] theorem live72_10 : G.live 72 10 = some ⟨[0, 3, 11, 12, 13, 14], []⟩ := by kernel_rfl
@[simp] theorem live72_11 : G.live 72 11 = some ⟨[11, 13], []⟩ := by kernel_rfl
@[simp] theorem live72_12 : G.live 72 12 = some ⟨[13, 55], []⟩ := by kernel_rfl
@[simp] theorem live72_14 : G.live 72 14 = some ⟨[13, 55, 57], []⟩ := by kernel_rfl
@[simp] theorem live72_15 : G.live 72 15 = some ⟨[8, 9], []⟩ := by kernel_rfl
@[simp] theorem live72_16 : G.live 72 16 = some ⟨[13, 60], []⟩ := by kernel_rfl
@[simp] theorem live72_17 : G.live 72 17 = some ⟨[8, 9], []⟩ := by kernel_rfl
@[simp] theorem live72_13 : G.live 72 13 = some ⟨[8, 9], []⟩ := by kernel_rfl
@[simp] theorem E73 : G.E 73 = true := by kernel_rfl
@[simp] theorem ext73 : G.ext 73 = none := by kernel_rfl
@[simp] theorem dfr73 : G.dfr 73 = false := by kernel_rfl
@[simp] theorem own73 : G.retOwn 73 = false := by kernel_rfl
@[simp] theorem keep73_2 : G.keep 73 2 = some ⟨[(0, some (2, 50)), (8, none), (9, none)], []⟩ := by kernel_rfl
@[simp] theorem live73_0 : G.live 73 0 = some ⟨[0, 2, 8], []⟩ := by kernel_rfl
@[simp] theorem live73_1 : G.live 73 1 = some ⟨[0, 8, 9], []⟩ := by kernel_rfl
@[simp] theorem live73_2 : G.live 73 2 = some ⟨[0, 8, 9, 15], []⟩ := by kernel_rfl
@[simp] theorem live73_3 : G.live 73 3 = some ⟨[0, 8, 9], []⟩ := by kernel_rfl
@[simp] theorem live73_4 : G.live 73 4 = some ⟨[0, 8, 9], []⟩ := by kernel_rfl
@[simp] theorem live73_5 : G.live 73 5 = some ⟨[0, 8, 9], []⟩ := by kernel_rfl
@[simp] theorem plan73_3 : G.plan 73 3 = some [.n 0, .n 1, .n 2, .n 3, .n 4, .n 5, .n 6, .n 7, .n 8, .n 9, .n 10, .n 11, .n 12, .e 13 [3, 2], .n 14, .e 15 []] := by kernel_rfl
@[simp] theorem E74 : G.E 74 = true := by kernel_rfl
@[simp] theorem ext74 : G.ext 74 = none := by kernel_rfl
@[simp] theorem dfr74 : G.dfr 74 = false := by kernel_rfl
@[simp] theorem own74 : G.retOwn 74 = false := by kernel_rfl
@[simp] theorem keep74_3 : G.keep 74 3 = some ⟨[(0, some (2, 50)), (1, none), (2, none), (3, none), (9, none), (10, none)], []⟩ := by kernel_rfl
@[simp] theorem keep74_5 : G.keep 74 5 = some ⟨[(0, none), (1, none), (2, none), (3, none), (9, none), (10, none)], []⟩ := by kernel_rfl
@[simp] theorem keep74_14 : G.keep 74 14 = some ⟨[(0, some (2, 50)), (1, none), (2, none), (3, none), (9, none), (10, none), (11, none)], []⟩ := by kernel_rfl
@[simp] theorem keep74_20 : G.keep 74 20 = some ⟨[(0, some (2, 50)), (1, none), (2, none), (3, none), (9, none), (10, none), (12, none)], []⟩ := by kernel_rfl
@[simp] theorem live74_0 : G.live 74 0 = some ⟨[0, 1, 2, 3], []⟩ := by kernel_rfl
@[simp] theorem live74_1 : G.live 74 1 = some ⟨[0, 1, 2, 3, 9], []⟩ := by kernel_rfl
@[simp] theorem live74_2 : G.live 74 2 = some ⟨[0, 1, 2, 3, 9, 10], []⟩ := by kernel_rfl
@[simp] theorem live74_3 : G.live 74 3 = some ⟨[0, 1, 2, 3, 9, 10, 16], []⟩ := by kernel_rfl
@[simp] theorem live74_5 : G.live 74 5 = some ⟨[0, 1, 2, 3, 9, 10, 36], []⟩ := by kernel_rfl
@[simp] theorem live74_6 : G.live 74 6 = some ⟨[0, 1, 2, 3, 9, 10], []⟩ := by kernel_rfl
@[simp] theorem live74_7 : G.live 74 7 = some ⟨[0, 1, 2, 3, 9, 10, 41], []⟩ := by kernel_rfl
@[simp] theorem live74_8 : G.live 74 8 = some ⟨[8], []⟩ := by kernel_rfl
@[simp] theorem live74_9 : G.live 74 9 = some ⟨[0, 1, 2, 3, 9, 10, 45], []⟩ := by kernel_rfl
@[simp] theorem live74_10 : G.live 74 10 = some ⟨[8], []⟩ := by kernel_rfl
@[simp] theorem live74_11 : G.live 74 11 = some ⟨[0, 1, 2, 3, 9, 10], []⟩ := by kernel_rfl
@[simp] theorem live74_12 : G.live 74 12 = some ⟨[0, 1, 2, 3, 9, 10, 65], []⟩ := by kernel_rfl
@[simp] theorem live74_13 : G.live 74 13 = some ⟨[0, 1, 2, 3, 9, 10, 11], []⟩ := by kernel_rfl
@[simp] theorem live74_14 : G.live 74 14 = some ⟨[0, 1, 2, 3, 9, 10, 11, 69], []⟩ := by kernel_rfl
@[simp] theorem live74_16 : G.live 74 16 = some ⟨[0, 1, 2, 3, 9, 10, 11, 84], []⟩ := by kernel_rfl
@[simp] theorem live74_17 : G.live 74 17 = some ⟨[0, 1, 2, 3, 9, 10, 11], []⟩ := by kernel_rfl
@[simp] theorem live74_15 : G.live 74 15 = some ⟨[0, 1, 2, 3, 9, 10, 11], []⟩ := by kernel_rfl
@[simp] theorem live74_18 : G.live 74 18 = some ⟨[0, 1, 2, 3, 9, 10, 104], []⟩ := by kernel_rfl
@[simp] theorem live74_19 : G.live 74 19 = some ⟨[0, 1, 2, 3, 9, 10, 12], []⟩ := by kernel_rfl
@[simp] theorem live74_20 : G.live 74 20 = some ⟨[0, 1, 2, 3, 9, 10, 12, 109], []⟩ := by kernel_rfl
@[simp] theorem live74_22 : G.live 74 22 = some ⟨[0, 1, 2, 3, 9, 10, 12, 124], []⟩ := by kernel_rfl
@[simp] theorem live74_23 : G.live 74 23 = some ⟨[0, 1, 2, 3, 9, 10, 12], []⟩ := by kernel_rfl
@[simp] theorem live74_21 : G.live 74 21 = some ⟨[0, 1, 2, 3, 9, 10, 12], []⟩ := by kernel_rfl
@[simp] theorem live74_4 : G.live 74 4 = some ⟨[0, 1, 2, 3, 9, 10], []⟩ := by kernel_rfl
@[simp] theorem live74_24 : G.live 74 24 = some ⟨[8], []⟩ := by kernel_rfl
@[simp] theorem plan74_5 : G.plan 74 5 = some [.n 0, .n 1, .n 2, .n 3, .n 4, .n 5, .n 6, .n 7, .n 8, .n 9, .n 10, .n 11, .n 12, .n 13, .e 14 [10], .n 15, .n 16, .n 17] := by kernel_rfl
@[simp] theorem plan74_11 : G.plan 74 11 = some [.n 0, .n 1, .n 2, .n 3, .n 4, .n 5, .n 6, .n 7, .n 8, .n 9, .n 10, .n 11, .n 12, .n 13, .n 14, .e 15 [4, 3, 2], .n 16, .e 17 []] := by kernel_rfl
@[simp] theorem plan74_16 : G.plan 74 16 = some [.n 0, .n 1, .n 2, .n 3, .n 4, .n 5, .n 6, .n 7, .n 8, .n 9, .e 10 [6], .n 11, .n 12] := by kernel_rfl
@[simp] theorem plan74_17 : G.plan 74 17 = some [.n 0, .n 1, .n 2, .n 3, .n 4, .n 5, .n 6, .n 7, .n 8, .n 9, .n 10, .n 11, .n 12, .n 13, .n 14, .e 15 [4, 3, 2], .n 16, .e 17 []] := by kernel_rfl
@[simp] theorem plan74_22 : G.plan 74 22 = some [.n 0, .n 1, .n 2, .n 3, .n 4, .n 5, .n 6, .n 7, .n 8, .n 9, .e 10 [6], .n 11, .n 12] := by kernel_rfl
@[simp] theorem plan74_23 : G.plan 74 23 = some [.n 0, .n 1, .n 2, .n 3, .n 4, .n 5, .n 6, .n 7, .n 8, .n 9, .n 10, .n 11, .n 12, .n 13, .n 14, .e 15 [4, 3, 2], .n 16, .e 17 []] := by kernel_rfl
@[simp] theorem E75 : G.E 75 = true := by kernel_rfl
@[simp] theorem ext75 : G.ext 75 = none := by kernel_rfl
@[simp] theorem dfr75 : G.dfr 75 = false := by kernel_rfl
@[simp] theorem own75 : G.retOwn 75 = false := by kernel_rfl
@[simp] theorem keep75_3 : G.keep 75 3 = some ⟨[(0, some (2, 50)), (1, none), (4, none), (11, none), (12, none)], []⟩ := by kernel_rfl
@[simp] theorem keep75_5 : G.keep 75 5 = some ⟨[(0, none), (1, none), (4, none), (11, none), (12, none)], []⟩ := by kernel_rfl
@[simp] theorem live75_0 : G.live 75 0 = some ⟨[0, 1, 2, 3, 4], []⟩ := by kernel_rfl
@[simp] theorem live75_1 : G.live 75 1 = some ⟨[0, 1, 2, 4], []⟩ := by kernel_rfl
@[simp] theorem live75_2 : G.live 75 2 = some ⟨[0, 1, 4, 11, 12], []⟩ := by kernel_rfl
@[simp] theorem live75_3 : G.live 75 3 = some ⟨[0, 1, 4, 11, 12, 47], []⟩ := by kernel_rfl
@[simp] theorem live75_4 : G.live 75 4 = some ⟨[0, 1, 4, 11, 12], []⟩ := by kernel_rfl
@[simp] theorem live75_5 : G.live 75 5 = some ⟨[0, 1, 4, 11, 12, 65], []⟩ := by kernel_rfl
@[simp] theorem live75_6 : G.live 75 6 = some ⟨[0, 1, 4, 11, 12], []⟩ := by kernel_rfl
@[simp] theorem live75_7 : G.live 75 7 = some ⟨[0, 1, 4, 11, 12, 70], []⟩ := by kernel_rfl
@[simp] theorem live75_8 : G.live 75 8 = some ⟨[0, 1, 4, 11, 12], []⟩ := by kernel_rfl
@[simp] theorem live75_9 : G.live 75 9 = some ⟨[0, 1, 4, 11, 12], []⟩ := by kernel_rfl
@[simp] theorem live75_10 : G.live 75 10 = some ⟨[0, 1, 4, 11, 12], []⟩ := by kernel_rfl
@[simp] theorem live75_11 : G.live 75 11 = some ⟨[10], []⟩ := by kernel_rfl
@[simp] theorem plan75_1 : G.plan 75 1 = some [.n 0, .n 1, .n 2, .n 3, .n 4, .n 5, .n 6, .n 7, .n 8, .n 9, .n 10, .n 11, .n 12, .e 13 [3, 2], .n 14, .e 15 []] := by kernel_rfl
@[simp] theorem plan75_3 : G.plan 75 3 = some [.n 0, .n 1, .n 2, .n 3, .n 4, .n 5, .n 6, .n 7, .n 8, .n 9, .n 10, .n 11, .n 12, .e 13 [], .n 14, .n 15, .n 16] := by kernel_rfl
@[simp] theorem plan75_5 : G.plan 75 5 = some [.n 0, .n 1, .n 2, .n 3, .n 4, .n 5, .n 6, .n 7, .n 8, .n 9, .n 10, .n 11, .n 12, .e 13 [], .n 14, .n 15] := by kernel_rfl
@[simp] theorem plan75_8 : G.plan 75 8 = some [.n 0, .n 1, .n 2, .n 3, .n 4, .n 5, .n 6, .n 7, .n 8, .n 9, .n 10, .n 11, .n 12, .e 13 [3, 2], .n 14, .e 15 []] := by kernel_rfl
@[simp] theorem E76 : G.E 76 = true := by kernel_rfl
@[simp] theorem ext76 : G.ext 76 = none := by kernel_rfl
@[simp] theorem dfr76 : G.dfr 76 = false := by kernel_rfl
@[simp] theorem own76 : G.retOwn 76 = false := by kernel_rfl
@[simp] theorem keep76_3 : G.keep 76 3 = some ⟨[(0, none), (1, none), (4, none), (12, none), (13, none)], []⟩ := by kernel_rfl
@[simp] theorem keep76_5 : G.keep 76 5 = some ⟨[(0, none), (1, none), (4, none), (12, none), (13, none)], []⟩ := by kernel_rfl
@[simp] theorem keep76_13 : G.keep 76 13 = some ⟨[(0, some (2, 50)), (1, none), (4, none), (12, none), (13, none)], []⟩ := by kernel_rfl
@[simp] theorem keep76_15 : G.keep 76 15 = some ⟨[(0, none), (1, none), (4, none), (12, none), (13, none)], []⟩ := by kernel_rfl
@[simp] theorem live76_0 : G.live 76 0 = some ⟨[0, 1, 2, 3, 4], []⟩ := by kernel_rfl
@[simp] theorem live76_1 : G.live 76 1 = some ⟨[0, 1, 2, 4], []⟩ := by kernel_rfl
@[simp] theorem live76_2 : G.live 76 2 = some ⟨[0, 1, 4, 12, 13], []⟩ := by kernel_rfl
@[simp] theorem live76_3 : G.live 76 3 = some ⟨[0, 1, 4, 12, 13, 47], []⟩ := by kernel_rfl
@[simp] theorem live76_4 : G.live 76 4 = some ⟨[0, 1, 4, 12, 13], []⟩ := by kernel_rfl
@[simp] theorem live76_5 : G.live 76 5 = some ⟨[0, 1, 4, 12, 13, 66], []⟩ := by kernel_rfl
@[simp] theorem live76_6 : G.live 76 6 = some ⟨[0, 1, 4, 12, 13], []⟩ := by kernel_rfl
@[simp] theorem live76_7 : G.live 76 7 = some ⟨[0, 1, 4, 12, 13, 71], []⟩ := by kernel_rfl
@[simp] theorem live76_8 : G.live 76 8 = some ⟨[13], []⟩ := by kernel_rfl
@[simp] theorem live76_9 : G.live 76 9 = some ⟨[10, 11], []⟩ := by kernel_rfl
@[simp] theorem live76_10 : G.live 76 10 = some ⟨[0, 1, 4, 12, 13], []⟩ := by kernel_rfl
@[simp] theorem live76_11 : G.live 76 11 = some ⟨[0, 1, 4, 12, 13], []⟩ := by kernel_rfl
@[simp] theorem live76_12 : G.live 76 12 = some ⟨[0, 1, 4, 12, 13], []⟩ := by kernel_rfl
@[simp] theorem live76_13 : G.live 76 13 = some ⟨[0, 1, 4, 12, 13, 120], []⟩ := by kernel_rfl
@[simp] theorem live76_14 : G.live 76 14 = some ⟨[0, 1, 4, 12, 13], []⟩ := by kernel_rfl
@[simp] theorem live76_15 : G.live 76 15 = some ⟨[0, 1, 4, 12, 13, 139], []⟩ := by kernel_rfl
@[simp] theorem live76_16 : G.live 76 16 = some ⟨[0, 1, 4, 12, 13], []⟩ := by kernel_rfl
@[simp] theorem live76_17 : G.live 76 17 = some ⟨[0, 1, 4, 12, 13, 144], []⟩ := by kernel_rfl
@[simp] theorem live76_18 : G.live 76 18 = some ⟨[0, 1, 4, 12, 13], []⟩ := by kernel_rfl
@[simp] theorem live76_19 : G.live 76 19 = some ⟨[0, 1, 4, 12, 13], []⟩ := by kernel_rfl
@[simp] theorem live76_20 : G.live 76 20 = some ⟨[0, 1, 4, 12, 13], []⟩ := by kernel_rfl
@[simp] theorem live76_21 : G.live 76 21 = some ⟨[13], []⟩ := by kernel_rfl
@[simp] theorem live76_22 : G.live 76 22 = some ⟨[10, 11], []⟩ := by kernel_rfl
@[simp] theorem plan76_1 : G.plan 76 1 = some [.n 0, .n 1, .n 2, .n 3, .n 4, .n 5, .n 6, .n 7, .n 8, .n 9, .n 10, .n 11, .n 12, .e 13 [3, 2], .n 14, .e 15 []] := by kernel_rfl
@[simp] theorem plan76_3 : G.plan 76 3 = some [.n 0, .n 1, .n 2, .n 3, .n 4, .n 5, .n 6, .n 7, .n 8, .n 9, .n 10, .n 11, .n 12, .e 13 [], .n 14, .n 15] := by kernel_rfl
@[simp] theorem plan76_5 : G.plan 76 5 = some [.n 0, .n 1, .n 2, .n 3, .n 4, .n 5, .n 6, .n 7, .n 8, .n 9, .n 10, .n 11, .n 12, .e 13 [], .n 14, .n 15, .n 16] := by kernel_rfl
@[simp] theorem plan76_8 : G.plan 76 8 = some [.n 0, .n 1, .n 2, .n 3, .n 4, .n 5, .n 6, .n 7, .n 8, .n 9, .n 10, .n 11, .n 12, .e 13 [3, 2], .n 14, .e 15 []] := by kernel_rfl
@[simp] theorem plan76_10 : G.plan 76 10 = some [.n 0, .n 1, .n 2, .n 3, .n 4, .n 5, .n 6, .n 7, .n 8, .n 9, .n 10, .n 11, .n 12, .e 13 [3, 2], .n 14, .e 15 []] := by kernel_rfl
@[simp] theorem plan76_13 : G.plan 76 13 = some [.n 0, .n 1, .n 2, .n 3, .n 4, .n 5, .n 6, .n 7, .n 8, .n 9, .n 10, .n 11, .n 12, .e 13 [], .n 14, .n 15] := by kernel_rfl
@[simp] theorem plan76_15 : G.plan 76 15 = some [.n 0, .n 1, .n 2, .n 3, .n 4, .n 5, .n 6, .n 7, .n 8, .n 9, .n 10, .n 11, .n 12, .e 13 [], .n 14, .n 15, .n 16] := by kernel_rfl
@[simp] theorem plan76_18 : G.plan 76 18 = some [.n 0, .n 1, .n 2, .n 3, .n 4, .n 5, .n 6, .n 7, .n 8, .n 9, .n 10, .n 11, .n 12, .e 13 [3, 2], .n 14, .e 15 []] := by kernel_rfl
@[simp] theorem plan76_21 : G.plan 76 21 = some [.n 0, .n 1, .n 2, .n 3, .n 4, .n 5, .n 6, .n 7, .n 8, .n 9, .n 10, .n 11, .n 12, .e 13 [3, 2], .n 14, .e 15 []] := by kernel_rfl
@[simp] theorem E77 : G.E 77 = true := by kernel_rfl
@[simp] theorem ext77 : G.ext 77 = none := by kernel_rfl
@[simp] theorem dfr77 : G.dfr 77 = false := by kernel_rfl
@[simp] theorem own77 : G.retOwn 77 = false := by kernel_rfl
@[simp] theorem live77_0 : G.live 77 0 = some ⟨[0, 2], []⟩ := by kernel_rfl
@[simp] theorem live77_1 : G.live 77 1 = some ⟨[0, 2, 4], []⟩ := by kernel_rfl
@[simp] theorem live77_2 : G.live 77 2 = some ⟨[0], []⟩ := by kernel_rfl
@[simp] theorem live77_3 : G.live 77 3 = some ⟨[0, 2], []⟩ := by kernel_rfl
@[simp] theorem live77_4 : G.live 77 4 = some ⟨[0, 2, 8], []⟩ := by kernel_rfl
@[simp] theorem live77_5 : G.live 77 5 = some ⟨[0, 2], []⟩ := by kernel_rfl
@[simp] theorem live77_6 : G.live 77 6 = some ⟨[0, 2], []⟩ := by kernel_rfl
@[simp] theorem live77_7 : G.live 77 7 = some ⟨[2], []⟩ := by kernel_rfl
@[simp] theorem E78 : G.E 78 = true := by kernel_rfl
@[simp] theorem ext78 : G.ext 78 = none := by kernel_rfl
@[simp] theorem dfr78 : G.dfr 78 = false := by kernel_rfl
@[simp] theorem own78 : G.retOwn 78 = false := by kernel_rfl
@[simp] theorem live78_0 : G.live 78 0 = some ⟨[0, 2], []⟩ := by kernel_rfl
@[simp] theorem live78_1 : G.live 78 1 = some ⟨[0, 2, 4], []⟩ := by kernel_rfl
@[simp] theorem live78_2 : G.live 78 2 = some ⟨[0], []⟩ := by kernel_rfl
@[simp] theorem live78_3 : G.live 78 3 = some ⟨[0, 2], []⟩ := by kernel_rfl
@[simp] theorem live78_4 : G.live 78 4 = some ⟨[0, 2, 8], []⟩ := by kernel_rfl
@[simp] theorem live78_5 : G.live 78 5 = some ⟨[0, 2], []⟩ := by kernel_rfl
@[simp] theorem live78_6 : G.live 78 6 = some ⟨[0, 2], []⟩ := by kernel_rfl
@[simp] theorem live78_7 : G.live 78 7 = some ⟨[0, 2, 14], []⟩ := by kernel_rfl
@[simp] theorem live78_8 : G.live 78 8 = some ⟨[0, 2], []⟩ := by kernel_rfl
@[simp] theorem live78_9 : G.live 78 9 = some ⟨[0, 2], []⟩ := by kernel_rfl
@[simp] theorem live78_10 : G.live 78 10 = some ⟨[2], []⟩ := by kernel_rfl
@[simp] theorem E79 : G.E 79 = true := by kernel_rfl
@[simp] theorem ext79 : G.ext 79 = none := by kernel_rfl
@[simp] theorem dfr79 : G.dfr 79 = false := by kernel_rfl
@[simp] theorem own79 : G.retOwn 79 = false := by kernel_rfl
@[simp] theorem live79_0 : G.live 79 0 = some ⟨[0], []⟩ := by kernel_rfl
@[simp] theorem live79_1 : G.live 79 1 = some ⟨[2], []⟩ := by kernel_rfl
@[simp] theorem E80 : G.E 80 = true := by kernel_rfl
@[simp] theorem ext80 : G.ext 80 = none := by kernel_rfl
@[simp] theorem dfr80 : G.dfr 80 = false := by kernel_rfl
@[simp] theorem own80 : G.retOwn 80 = false := by kernel_rfl
@[simp] theorem keep80_1 : G.keep 80 1 = some ⟨[(0, some (1, 3)), (1, none), (2, none), (3, none), (8, none)], []⟩ := by kernel_rfl
@[simp] theorem keep80_4 : G.keep 80 4 = some ⟨[(0, some (1, 3)), (1, none), (2, none), (3, none), (8, none), (9, none)], []⟩ := by kernel_rfl
@[simp] theorem live80_0 : G.live 80 0 = some ⟨[0, 1, 2, 3, 8], []⟩ := by kernel_rfl
@[simp] theorem live80_1 : G.live 80 1 = some ⟨[0, 1, 2, 3, 8, 14], []⟩ := by kernel_rfl
@[simp] theorem live80_3 : G.live 80 3 = some ⟨[0, 1, 2, 3, 8, 9], []⟩ := by kernel_rfl
@[simp] theorem live80_4 : G.live 80 4 = some ⟨[0, 1, 2, 3, 8, 9, 34], []⟩ := by kernel_rfl
@[simp] theorem live80_6 : G.live 80 6 = some ⟨[0, 1, 2, 3, 8, 9], []⟩ := by kernel_rfl
@[simp] theorem live80_5 : G.live 80 5 = some ⟨[0, 1, 2, 3, 8, 9], []⟩ := by kernel_rfl
@[simp] theorem live80_2 : G.live 80 2 = some ⟨[0, 1, 2, 3, 8], []⟩ := by kernel_rfl
@[simp] theorem plan80_4 : G.plan 80 4 = some [.n 0, .n 1, .n 2, .n 3, .n 4, .n 5, .n 6, .n 7, .n 8, .n 9, .n 10, .n 11, .n 12, .n 13, .e 14 [10], .n 15, .n 16] := by kernel_rfl
@[simp] theorem plan80_6 : G.plan 80 6 = some [.n 0, .n 1, .n 2, .n 3, .n 4, .n 5, .n 6, .n 7, .n 8, .n 9, .n 10, .n 11, .n 12, .n 13, .n 14, .e 15 [4, 3, 2], .n 16, .e 17 []] := by kernel_rfl
@[simp] theorem E81 : G.E 81 = true := by kernel_rfl
@[simp] theorem ext81 : G.ext 81 = none := by kernel_rfl
@[simp] theorem dfr81 : G.dfr 81 = false := by kernel_rfl
@[simp] theorem own81 : G.retOwn 81 = false := by kernel_rfl
@[simp] theorem keep81_4 : G.keep 81 4 = some ⟨[(0, some (1, 3)), (3, none), (8, none), (9, none), (10, none), (11, none)], []⟩ := by kernel_rfl
@[simp] theorem keep81_8 : G.keep 81 8 = some ⟨[(0, some (1, 3)), (3, none), (8, none), (9, none), (12, none)], []⟩ := by kernel_rfl
@[simp] theorem live81_0 : G.live 81 0 = some ⟨[0, 1, 2, 3, 8], []⟩ := by kernel_rfl
@[simp] theorem live81_1 : G.live 81 1 = some ⟨[0, 1, 2, 3, 8, 9], []⟩ := by kernel_rfl
@[simp] theorem live81_2 : G.live 81 2 = some ⟨[0, 3, 8, 9, 10], []⟩ := by kernel_rfl
@[simp] theorem live81_3 : G.live 81 3 = some ⟨[0, 3, 8, 9, 10, 11], []⟩ := by kernel_rfl
@[simp] theorem live81_4 : G.live 81 4 = some ⟨[0, 3, 8, 9, 10, 11, 21], []⟩ := by kernel_rfl
@[simp] theorem live81_6 : G.live 81 6 = some ⟨[0, 3, 8, 9, 10, 11], []⟩ := by kernel_rfl
@[simp] theorem live81_5 : G.live 81 5 = some ⟨[0, 3, 8, 9, 10, 11], []⟩ := by kernel_rfl
@[simp] theorem live81_7 : G.live 81 7 = some ⟨[0, 3, 8, 9, 12], []⟩ := by kernel_rfl
@[simp] theorem live81_8 : G.live 81 8 = some ⟨[0, 3, 8, 9, 12, 33], []⟩ := by kernel_rfl
@[simp] theorem live81_10 : G.live 81 10 = some ⟨[0, 3, 8, 9, 12], []⟩ := by kernel_rfl
@[simp] theorem live81_11 : G.live 81 11 = some ⟨[0, 3, 8, 9, 12], []⟩ := by kernel_rfl
@[simp] theorem live81_9 : G.live 81 9 = some ⟨[0, 3, 8, 9, 12], []⟩ := by kernel_rfl
@[simp] theorem plan81_10 : G.plan 81 10 = some [.n 0, .n 1, .n 2, .n 3, .n 4, .n 5, .n 6, .n 7, .n 8, .n 9, .n 10, .n 11, .n 12, .n 13, .n 14, .n 15, .n 16, .e 17 [5, 4, 3, 2], .n 18, .e 19 []] := by kernel_rfl
@[simp] theorem E82 : G.E 82 = true := by kernel_rfl
@[simp] theorem ext82 : G.ext 82 = none := by kernel_rfl
@[simp] theorem dfr82 : G.dfr 82 = false := by kernel_rfl
@[simp] theorem own82 : G.retOwn 82 = false := by kernel_rfl
@[simp] theorem keep82_5 : G.keep 82 5 = some ⟨[(0, some (1, 3)), (1, none), (8, none), (9, none), (10, none), (11, none)], [(1009, [])]⟩ := by kernel_rfl
@[simp] theorem live82_0 : G.live 82 0 = some ⟨[0, 1, 8], []⟩ := by kernel_rfl
@[simp] theorem live82_1 : G.live 82 1 = some ⟨[0, 1, 8, 17], []⟩ := by kernel_rfl
@[simp] theorem live82_2 : G.live 82 2 = some ⟨[0, 1, 8, 9], []⟩ := by kernel_rfl
@[simp] theorem live82_3 : G.live 82 3 = some ⟨[0, 1, 8, 9, 10], []⟩ := by kernel_rfl
@[simp] theorem live82_4 : G.live 82 4 = some ⟨[0, 1, 8, 9, 10, 11], []⟩ := by kernel_rfl
@[simp] theorem live82_5 : G.live 82 5 = some ⟨[0, 1, 8, 9, 10, 11, 35], []⟩ := by kernel_rfl
@[simp] theorem live82_7 : G.live 82 7 = some ⟨[0, 1, 8, 9, 10, 11, 12], []⟩ := by kernel_rfl
@[simp] theorem live82_8 : G.live 82 8 = some ⟨[0, 1, 8, 9, 10, 11, 12, 45], []⟩ := by kernel_rfl
@[simp] theorem live82_9 : G.live 82 9 = some ⟨[0, 1, 8, 9, 10, 11, 12], []⟩ := by kernel_rfl
@[simp] theorem live82_10 : G.live 82 10 = some ⟨[0, 1, 8, 9, 10, 11], []⟩ := by kernel_rfl
@[simp] theorem live82_6 : G.live 82 6 = some ⟨[0, 1, 8, 9, 10, 11], []⟩ := by kernel_rfl
@[simp] theorem plan82_10 : G.plan 82 10 = some [.n 0, .n 1, .n 2, .n 3, .n 4, .n 5, .n 6, .n 7, .n 8, .n 9, .n 10, .n 11, .n 12, .n 13, .n 14, .n 15, .n 16, .e 17 [5, 4, 3, 2], .n 18, .e 19 []] := by kernel_rfl
@[simp] theorem E83 : G.E 83 = true := by kernel_rfl
@[simp] theorem ext83 : G.ext 83 = none := by kernel_rfl
@[simp] theorem dfr83 : G.dfr 83 = false := by kernel_rfl
@[simp] theorem own83 : G.retOwn 83 = false := by kernel_rfl
@[simp] theorem live83_0 : G.live 83 0 = some ⟨[0, 1, 2, 3], []⟩ := by kernel_rfl
@[simp] theorem live83_1 : G.live 83 1 = some ⟨[0, 1, 3, 10], []⟩ := by kernel_rfl
@[simp] theorem live83_2 : G.live 83 2 = some ⟨[0, 1, 3, 10, 11], []⟩ := by kernel_rfl
@[simp] theorem live83_3 : G.live 83 3 = some ⟨[0, 1, 3, 10, 11, 12], []⟩ := by kernel_rfl
@[simp] theorem live83_4 : G.live 83 4 = some ⟨[0, 1, 3, 10, 11, 12, 13], []⟩ := by kernel_rfl
@[simp] theorem live83_5 : G.live 83 5 = some ⟨[0, 3, 10, 11, 12, 13, 14], []⟩ := by kernel_rfl
@[simp] theorem live83_6 : G.live 83 6 = some ⟨[0, 3, 10, 11, 12, 13, 14, 34], []⟩ := by kernel_rfl
@[simp] theorem live83_7 : G.live 83 7 = some ⟨[0, 3, 11, 12, 13, 14, 36], []⟩ := by kernel_rfl
@[simp] theorem live83_8 : G.live 83 8 = some ⟨[0, 3, 11, 12, 13, 14], []⟩ := by kernel_rfl
@[simp] theorem live83_9 : G.live 83 9 = some ⟨[0, 3, 11, 12, 13, 14], []⟩ := by kernel_rfl
@[simp] theorem live83_10 : G.live 83 10 = some ⟨[0, 3, 11, 12, 13, 14], []⟩ := by kernel_rfl
@[simp] theorem live83_11 : G.live 83 11 = some ⟨[11, 13], []⟩ := by kernel_rfl
@[simp] theorem live83_12 : G.live 83 12 = some ⟨[13, 55], []⟩ := by kernel_rfl
@[simp] theorem live83_14 : G.live 83 14 = some ⟨[13, 55, 57], []⟩ := by kernel_rfl
@[simp] theorem live83_15 : G.live 83 15 = some ⟨[8, 9], []⟩ := by kernel_rfl
@[simp] theorem live83_16 : G.live 83 16 = some ⟨[13, 60], []⟩ := by kernel_rfl
@[simp] theorem live83_17 : G.live 83 17 = some ⟨[8, 9], []⟩ := by kernel_rfl
@[simp] theorem live83_13 : G.live 83 13 = some ⟨[8, 9], []⟩ := by kernel_rfl
@[simp] theorem E84 : G.E 84 = true := by kernel_rfl
@[simp] theorem ext84 : G.ext 84 = none := by kernel_rfl
@[simp] theorem dfr84 : G.dfr 84 = false := by kernel_rfl
@[simp] theorem own84 : G.retOwn 84 = false := by kernel_rfl
@[simp] theorem keep84_2 : G.keep 84 2 = some ⟨[(0, some (1, 3)), (8, none), (9, none)], []⟩ := by kernel_rfl
@[simp] theorem live84_0 : G.live 84 0 = some ⟨[0, 2, 8], []⟩ := by kernel_rfl
@[simp] theorem live84_1 : G.live 84 1 = some ⟨[0, 8, 9], []⟩ := by kernel_rfl
@[simp] theorem live84_2 : G.live 84 2 = some ⟨[0, 8, 9, 15], []⟩ := by kernel_rfl
@[simp] theorem live84_3 : G.live 84 3 = some ⟨[0, 8, 9], []⟩ := by kernel_rfl
@[simp] theorem live84_4 : G.live 84 4 = some ⟨[0, 8, 9], []⟩ := by kernel_rfl
@[simp] theorem live84_5 : G.live 84 5 = some ⟨[0, 8, 9], []⟩ := by kernel_rfl
@[simp] theorem plan84_3 : G.plan 84 3 = some [.n 0, .n 1, .n 2, .n 3, .n 4, .n 5, .n 6, .n 7, .n 8, .n 9, .n 10, .n 11, .n 12, .e 13 [3, 2], .n 14, .e 15 []] := by kernel_rfl
@[simp] theorem E85 : G.E 85 = true := by kernel_rfl
@[simp] theorem ext85 : G.ext 85 = none := by kernel_rfl
@[simp] theorem dfr85 : G.dfr 85 = false := by kernel_rfl
@[simp] theorem own85 : G.retOwn 85 = false := by kernel_rfl
@[simp] theorem keep85_3 : G.keep 85 3 = some ⟨[(0, some (1, 3)), (1, none), (2, none), (3, none), (9, none), (10, none)], []⟩ := by kernel_rfl
@[simp] theorem keep85_5 : G.keep 85 5 = some ⟨[(0, none), (1, none), (2, none), (3, none), (9, none), (10, none)], []⟩ := by kernel_rfl
@[simp] theorem keep85_14 : G.keep 85 14 = some ⟨[(0, some (1, 3)), (1, none), (2, none), (3, none), (9, none), (10, none), (11, none)], []⟩ := by kernel_rfl
@[simp] theorem keep85_20 : G.keep 85 20 = some ⟨[(0, some (1, 3)), (1, none), (2, none), (3, none), (9, none), (10, none), (12, none)], []⟩ := by kernel_rfl
@[simp] theorem live85_0 : G.live 85 0 = some ⟨[0, 1, 2, 3], []⟩ := by kernel_rfl
@[simp] theorem live85_1 : G.live 85 1 = some ⟨[0, 1, 2, 3, 9], []⟩ := by kernel_rfl
@[simp] theorem live85_2 : G.live 85 2 = some ⟨[0, 1, 2, 3, 9, 10], []⟩ := by kernel_rfl
@[simp] theorem live85_3 : G.live 85 3 = some ⟨[0, 1, 2, 3, 9, 10, 16], []⟩ := by kernel_rfl
@[simp] theorem live85_5 : G.live 85 5 = some ⟨[0, 1, 2, 3, 9, 10, 36], []⟩ := by kernel_rfl
@[simp] theorem live85_6 : G.live 85 6 = some ⟨[0, 1, 2, 3, 9, 10], []⟩ := by kernel_rfl
@[simp] theorem live85_7 : G.live 85 7 = some ⟨[0, 1, 2, 3, 9, 10, 41], []⟩ := by kernel_rfl
@[simp] theorem live85_8 : G.live 85 8 = some ⟨[8], []⟩ := by kernel_rfl
@[simp] theorem live85_9 : G.live 85 9 = some ⟨[0, 1, 2, 3, 9, 10, 45], []⟩ := by kernel_rfl
@[simp] theorem live85_10 : G.live 85 10 = some ⟨[8], []⟩ := by kernel_rfl
@[simp] theorem live85_11 : G.live 85 11 = some ⟨[0, 1, 2, 3, 9, 10], []⟩ := by kernel_rfl
@[simp] theorem live85_12 : G.live 85 12 = some ⟨[0, 1, 2, 3, 9, 10, 65], []⟩ := by kernel_rfl
@[simp] theorem live85_13 : G.live 85 13 = some ⟨[0, 1, 2, 3, 9, 10, 11], []⟩ := by kernel_rfl
@[simp] theorem live85_14 : G.live 85 14 = some ⟨[0, 1, 2, 3, 9, 10, 11, 69], []⟩ := by kernel_rfl
@[simp] theorem live85_16 : G.live 85 16 = some ⟨[0, 1, 2, 3, 9, 10, 11, 84], []⟩ := by kernel_rfl
@[simp] theorem live85_17 : G.live 85 17 = some ⟨[0, 1, 2, 3, 9, 10, 11], []⟩ := by kernel_rfl
@[simp] theorem live85_15 : G.live 85 15 = some ⟨[0, 1, 2, 3, 9, 10, 11], []⟩ := by kernel_rfl
@[simp] theorem live85_18 : G.live 85 18 = some ⟨[0, 1, 2, 3, 9, 10, 104], []⟩ := by kernel_rfl
@[simp] theorem live85_19 : G.live 85 19 = some ⟨[0, 1, 2, 3, 9, 10, 12], []⟩ := by kernel_rfl
@[simp] theorem live85_20 : G.live 85 20 = some ⟨[0, 1, 2, 3, 9, 10, 12, 109], []⟩ := by kernel_rfl
@[simp] theorem live85_22 : G.live 85 22 = some ⟨[0, 1, 2, 3, 9, 10, 12, 124], []⟩ := by kernel_rfl
@[simp] theorem live85_23 : G.live 85 23 = some ⟨[0, 1, 2, 3, 9, 10, 12], []⟩ := by kernel_rfl
@[simp] theorem live85_21 : G.live 85 21 = some ⟨[0, 1, 2, 3, 9, 10, 12], []⟩ := by kernel_rfl
@[simp] theorem live85_4 : G.live 85 4 = some ⟨[0, 1, 2, 3, 9, 10], []⟩ := by kernel_rfl
@[simp] theorem live85_24 : G.live 85 24 = some ⟨[8], []⟩ := by kernel_rfl
@[simp] theorem plan85_5 : G.plan 85 5 = some [.n 0, .n 1, .n 2, .n 3, .n 4, .n 5, .n 6, .n 7, .n 8, .n 9, .n 10, .n 11, .n 12, .n 13, .e 14 [10], .n 15, .n 16, .n 17] := by kernel_rfl
@[simp] theorem plan85_11 : G.plan 85 11 = some [.n 0, .n 1, .n 2, .n 3, .n 4, .n 5, .n 6, .n 7, .n 8, .n 9, .n 10, .n 11, .n 12, .n 13, .n 14, .e 15 [4, 3, 2], .n 16, .e 17 []] := by kernel_rfl
@[simp] theorem plan85_16 : G.plan 85 16 = some [.n 0, .n 1, .n 2, .n 3, .n 4, .n 5, .n 6, .n 7, .n 8, .n 9, .e 10 [6], .n 11, .n 12] := by kernel_rfl
@[simp] theorem plan85_17 : G.plan 85 17 = some [.n 0, .n 1, .n 2, .n 3, .n 4, .n 5, .n 6, .n 7, .n 8, .n 9, .n 10, .n 11, .n 12, .n 13, .n 14, .e 15 [4, 3, 2], .n 16, .e 17 []] := by kernel_rfl
@[simp] theorem plan85_22 : G.plan 85 22 = some [.n 0, .n 1, .n 2, .n 3, .n 4, .n 5, .n 6, .n 7, .n 8, .n 9, .e 10 [6], .n 11, .n 12] := by kernel_rfl
@[simp] theorem plan85_23 : G.plan 85 23 = some [.n 0, .n 1, .n 2, .n 3, .n 4, .n 5, .n 6, .n 7, .n 8, .n 9, .n 10, .n 11, .n 12, .n 13, .n 14, .e 15 [4, 3, 2], .n 16, .e 17 []] := by kernel_rfl
@[simp] theorem E86 : G.E 86 = true := by kernel_rfl
@[simp] theorem ext86 : G.ext 86 = none := by kernel_rfl
@[simp] theorem dfr86 : G.dfr 86 = false := by kernel_rfl
@[simp] theorem own86 : G.retOwn 86 = false := by kernel_rfl
@[simp] theorem keep86_3 : G.keep 86 3 = some ⟨[(0, some (1, 3)), (1, none), (4, none), (11, none), (12, none)], []⟩ := by kernel_rfl
@[simp] theorem keep86_5 : G.keep 86 5 = some ⟨[(0, none), (1, none), (4, none), (11, none), (12, none)], []⟩ := by kernel_rfl
@[simp] theorem live86_0 : G.live 86 0 = some ⟨[0, 1, 2, 3, 4], []⟩ := by kernel_rfl
@[simp] theorem live86_1 : G.live 86 1 = some ⟨[0, 1, 2, 4], []⟩ := by kernel_rfl
@[simp] theorem live86_2 : G.live 86 2 = some ⟨[0, 1, 4, 11, 12], []⟩ := by kernel_rfl
@[simp] theorem live86_3 : G.live 86 3 = some ⟨[0, 1, 4, 11, 12, 47], []⟩ := by kernel_rfl
@[simp] theorem live86_4 : G.live 86 4 = some ⟨[0, 1, 4, 11, 12], []⟩ := by kernel_rfl
@[simp] theorem live86_5 : G.live 86 5 = some ⟨[0, 1, 4, 11, 12, 65], []⟩ := by kernel_rfl
@[simp] theorem live86_6 : G.live 86 6 = some ⟨[0, 1, 4, 11, 12], []⟩ := by kernel_rfl
@[simp] theorem live86_7 : G.live 86 7 = some ⟨[0, 1, 4, 11, 12, 70], []⟩ := by kernel_rfl
@[simp] theorem live86_8 : G.live 86 8 = some ⟨[0, 1, 4, 11, 12], []⟩ := by kernel_rfl
@[simp] theorem live86_9 : G.live 86 9 = some ⟨[0, 1, 4, 11, 12], []⟩ := by kernel_rfl
@[simp] theorem live86_10 : G.live 86 10 = some ⟨[0, 1, 4, 11, 12], []⟩ := by kernel_rfl
@[simp] theorem live86_11 : G.live 86 11 = some ⟨[10], []⟩ := by kernel_rfl
@[simp] theorem plan86_1 : G.plan 86 1 = some [.n 0, .n 1, .n 2, .n 3, .n 4, .n 5, .n 6, .n 7, .n 8, .n 9, .n 10, .n 11, .n 12, .e 13 [3, 2], .n 14, .e 15 []] := by kernel_rfl
@[simp] theorem plan86_3 : G.plan 86 3 = some [.n 0, .n 1, .n 2, .n 3, .n 4, .n 5, .n 6, .n 7, .n 8, .n 9, .n 10, .n 11, .n 12, .e 13 [], .n 14, .n 15, .n 16] := by kernel_rfl
@[simp] theorem plan86_5 : G.plan 86 5 = some [.n 0, .n 1, .n 2, .n 3, .n 4, .n 5, .n 6, .n 7, .n 8, .n 9, .n 10, .n 11, .n 12, .e 13 [], .n 14, .n 15] := by kernel_rfl
@[simp] theorem plan86_8 : G.plan 86 8 = some [.n 0, .n 1, .n 2, .n 3, .n 4, .n 5, .n 6, .n 7, .n 8, .n 9, .n 10, .n 11, .n 12, .e 13 [3, 2], .n 14, .e 15 []] := by kernel_rfl
@[simp] theorem E87 : G.E 87 = true := by kernel_rfl
@[simp] theorem ext87 : G.ext 87 = none := by kernel_rfl
@[simp] theorem dfr87 : G.dfr 87 = false := by kernel_rfl
@[simp] theorem own87 : G.retOwn 87 = false := by kernel_rfl
@[simp] theorem keep87_3 : G.keep 87 3 = some ⟨[(0, none), (1, none), (4, none), (12, none), (13, none)], []⟩ := by kernel_rfl
@[simp] theorem keep87_5 : G.keep 87 5 = some ⟨[(0, none), (1, none), (4, none), (12, none), (13, none)], []⟩ := by kernel_rfl
@[simp] theorem keep87_13 : G.keep 87 13 = some ⟨[(0, some (1, 3)), (1, none), (4, none), (12, none), (13, none)], []⟩ := by kernel_rfl
@[simp] theorem keep87_15 : G.keep 87 15 = some ⟨[(0, none), (1, none), (4, none), (12, none), (13, none)], []⟩ := by kernel_rfl
@[simp] theorem live87_0 : G.live 87 0 = some ⟨[0, 1, 2, 3, 4], []⟩ := by kernel_rfl
@[simp] theorem live87_1 : G.live 87 1 = some ⟨[0, 1, 2, 4], []⟩ := by kernel_rfl
@[simp] theorem live87_2 : G.live 87 2 = some ⟨[0, 1, 4, 12, 13], []⟩ := by kernel_rfl
@[simp] theorem live87_3 : G.live 87 3 = some ⟨[0, 1, 4, 12, 13, 47], []⟩ := by kernel_rfl
@[simp] theorem live87_4 : G.live 87 4 = some ⟨[0, 1, 4, 12, 13], []⟩ := by kernel_rfl
@[simp] theorem live87_5 : G.live 87 5 = some ⟨[0, 1, 4, 12, 13, 66], []⟩ := by kernel_rfl
@[simp] theorem live87_6 : G.live 87 6 = some ⟨[0, 1, 4, 12, 13], []⟩ := by kernel_rfl
@[simp] theorem live87_7 : G.live 87 7 = some ⟨[0, 1, 4, 12, 13, 71], []⟩ := by kernel_rfl
@[simp] theorem live87_8 : G.live 87 8 = some ⟨[13], []⟩ := by kernel_rfl
@[simp] theorem live87_9 : G.live 87 9 = some ⟨[10, 11], []⟩ := by kernel_rfl
@[simp] theorem live87_10 : G.live 87 10 = some ⟨[0, 1, 4, 12, 13], []⟩ := by kernel_rfl
@[simp] theorem live87_11 : G.live 87 11 = some ⟨[0, 1, 4, 12, 13], []⟩ := by kernel_rfl
@[simp] theorem live87_12 : G.live 87 12 = some ⟨[0, 1, 4, 12, 13], []⟩ := by kernel_rfl
@[simp] theorem live87_13 : G.live 87 13 = some ⟨[0, 1, 4, 12, 13, 120], []⟩ := by kernel_rfl
@[simp] theorem live87_14 : G.live 87 14 = some ⟨[0, 1, 4, 12, 13], []⟩ := by kernel_rfl
@[simp] theorem live87_15 : G.live 87 15 = some ⟨[0, 1, 4, 12, 13, 139], []⟩ := by kernel_rfl
@[simp] theorem live87_16 : G.live 87 16 = some ⟨[0, 1, 4, 12, 13], []⟩ := by kernel_rfl
@[simp] theorem live87_17 : G.live 87 17 = some ⟨[0, 1, 4, 12, 13, 144], []⟩ := by kernel_rfl
@[simp] theorem live87_18 : G.live 87 18 = some ⟨[0, 1, 4, 12, 13], []⟩ := by kernel_rfl
@[simp] theorem live87_19 : G.live 87 19 = some ⟨[0, 1, 4, 12, 13], []⟩ := by kernel_rfl
@[simp] theorem live87_20 : G.live 87 20 = some ⟨[0, 1, 4, 12, 13], []⟩ := by kernel_rfl
@[simp] theorem live87_21 : G.live 87 21 = some ⟨[13], []⟩ := by kernel_rfl
@[simp] theorem live87_22 : G.live 87 22 = some ⟨[10, 11], []⟩ := by kernel_rfl
@[simp] theorem plan87_1 : G.plan 87 1 = some [.n 0, .n 1, .n 2, .n 3, .n 4, .n 5, .n 6, .n 7, .n 8, .n 9, .n 10, .n 11, .n 12, .e 13 [3, 2], .n 14, .e 15 []] := by kernel_rfl
@[simp] theorem plan87_3 : G.plan 87 3 = some [.n 0, .n 1, .n 2, .n 3, .n 4, .n 5, .n 6, .n 7, .n 8, .n 9, .n 10, .n 11, .n 12, .e 13 [], .n 14, .n 15] := by kernel_rfl
@[simp] theorem plan87_5 : G.plan 87 5 = some [.n 0, .n 1, .n 2, .n 3, .n 4, .n 5, .n 6, .n 7, .n 8, .n 9, .n 10, .n 11, .n 12, .e 13 [], .n 14, .n 15, .n 16] := by kernel_rfl
@[simp] theorem plan87_8 : G.plan 87 8 = some [.n 0, .n 1, .n 2, .n 3, .n 4, .n 5, .n 6, .n 7, .n 8, .n 9, .n 10, .n 11, .n 12, .e 13 [3, 2], .n 14, .e 15 []] := by kernel_rfl
@[simp] theorem plan87_10 : G.plan 87 10 = some [.n 0, .n 1, .n 2, .n 3, .n 4, .n 5, .n 6, .n 7, .n 8, .n 9, .n 10, .n 11, .n 12, .e 13 [3, 2], .n 14, .e 15 []] := by kernel_rfl
@[simp] theorem plan87_13 : G.plan 87 13 = some [.n 0, .n 1, .n 2, .n 3, .n 4, .n 5, .n 6, .n 7, .n 8, .n 9, .n 10, .n 11, .n 12, .e 13 [], .n 14, .n 15] := by kernel_rfl
@[simp] theorem plan87_15 : G.plan 87 15 = some [.n 0, .n 1, .n 2, .n 3, .n 4, .n 5, .n 6, .n 7, .n 8, .n 9, .n 10, .n 11, .n 12, .e 13 [], .n 14, .n 15, .n 16] := by kernel_rfl
@[simp] theorem plan87_18 : G.plan 87 18 = some [.n 0, .n 1, .n 2, .n 3, .n 4, .n 5, .n 6, .n 7, .n 8, .n 9, .n 10, .n 11, .n 12, .e 13 [3, 2], .n 14, .e 15 []] := by kernel_rfl
@[simp] theorem plan87_21 : G.plan 87 21 = some [.n 0, .n 1, .n 2, .n 3, .n 4, .n 5, .n 6, .n 7, .n 8, .n 9, .n 10, .n 11, .n 12, .e 13 [3, 2], .n 14, .e 15 []] := by kernel_rfl
@[simp] theorem E89 : G.E 89 = true := by kernel_rfl
@[simp] theorem ext89 : G.ext 89 = none := by kernel_rfl
@[simp] theorem dfr89 : G.dfr 89 = false := by kernel_rfl
@[simp] theorem own89 : G.retOwn 89 = false := by kernel_rfl
@[simp] theorem keep89_2 : G.keep 89 2 = some ⟨[(0, none), (1, none), (7, none), (8, none)], []⟩ := by kernel_rfl
@[simp] theorem live89_0 : G.live 89 0 = some ⟨[0, 1], []⟩ := by kernel_rfl
@[simp] theorem live89_1 : G.live 89 1 = some ⟨[0, 1, 7, 8], []⟩ := by kernel_rfl
@[simp] theorem live89_2 : G.live 89 2 = some ⟨[0, 1, 7, 8, 9], []⟩ := by kernel_rfl
@[simp] theorem live89_3 : G.live 89 3 = some ⟨[0, 1, 5, 7, 8], []⟩ := by kernel_rfl
@[simp] theorem live89_4 : G.live 89 4 = some ⟨[0, 1, 5, 7, 8, 16], []⟩ := by kernel_rfl
@[simp] theorem live89_5 : G.live 89 5 = some ⟨[4], []⟩ := by kernel_rfl
@[simp] theorem live89_6 : G.live 89 6 = some ⟨[0, 1, 7, 8], []⟩ := by kernel_rfl
@[simp] theorem live89_7 : G.live 89 7 = some ⟨[4], []⟩ := by kernel_rfl
@[simp] theorem E90 : G.E 90 = true := by kernel_rfl
@[simp] theorem ext90 : G.ext 90 = none := by kernel_rfl
@[simp] theorem dfr90 : G.dfr 90 = false := by kernel_rfl
@[simp] theorem own90 : G.retOwn 90 = false := by kernel_rfl
@[simp] theorem live90_0 : G.live 90 0 = some ⟨[0, 1, 3], []⟩ := by kernel_rfl
@[simp] theorem live90_1 : G.live 90 1 = some ⟨[0, 1, 9], []⟩ := by kernel_rfl
@[simp] theorem live90_2 : G.live 90 2 = some ⟨[], []⟩ := by kernel_rfl
@[simp] theorem E91 : G.E 91 = true := by kernel_rfl
@[simp] theorem ext91 : G.ext 91 = none := by kernel_rfl
@[simp] theorem dfr91 : G.dfr 91 = false := by kernel_rfl
@[simp] theorem own91 : G.retOwn 91 = false := by kernel_rfl
@[simp] theorem keep91_5 : G.keep 91 5 = some ⟨[(0, none), (1, none), (4, none), (5, none), (6, none), (7, none)], [(1004, []), (1005, [(2, 1, 3)])]⟩ := by kernel_rfl
@[simp] theorem live91_0 : G.live 91 0 = some ⟨[0, 1, 4], []⟩ := by kernel_rfl
@[simp] theorem live91_1 : G.live 91 1 = some ⟨[0, 1, 4], []⟩ := by kernel_rfl
@[simp] theorem live91_2 : G.live 91 2 = some ⟨[0, 1, 4, 5], []⟩ := by kernel_rfl
@[simp] theorem live91_3 : G.live 91 3 = some ⟨[0, 1, 4, 5, 6], []⟩ := by kernel_rfl
@[simp] theorem live91_4 : G.live 91 4 = some ⟨[0, 1, 4, 5, 6, 7], []⟩ := by kernel_rfl
@[simp] theorem live91_5 : G.live 91 5 = some ⟨[0, 1, 4, 5, 6, 7, 31], []⟩ := by kernel_rfl
@[simp] theorem live91_7 : G.live 91 7 = some ⟨[0, 1, 4, 5, 6, 7, 39], []⟩ := by kernel_rfl
@[simp] theorem live91_8 : G.live 91 8 = some ⟨[0, 1, 4, 5, 6, 7], []⟩ := by kernel_rfl
@[simp] theorem live91_9 : G.live 91 9 = some ⟨[0, 1, 4, 5, 6, 7, 8], []⟩ := by kernel_rfl
@[simp] theorem live91_10 : G.live 91 10 = some ⟨[0, 1, 4, 5, 7, 8], []⟩ := by kernel_rfl
@[simp] theorem live91_11 : G.live 91 11 = some ⟨[0, 1, 4, 5, 6, 7], []⟩ := by kernel_rfl
@[simp] theorem live91_12 : G.live 91 12 = some ⟨[0, 1, 4, 5, 6, 7], []⟩ := by kernel_rfl
@[simp] theorem live91_13 : G.live 91 13 = some ⟨[0, 1, 4, 5, 6, 7], []⟩ := by kernel_rfl
@[simp] theorem live91_14 : G.live 91 14 = some ⟨[0, 1, 4, 5, 6, 7, 9], []⟩ := by kernel_rfl
@[simp] theorem live91_15 : G.live 91 15 = some ⟨[0, 1, 4, 5, 6, 7], []⟩ := by kernel_rfl
@[simp] theorem live91_6 : G.live 91 6 = some ⟨[0, 1, 4, 5, 6, 7], []⟩ := by kernel_rfl
@[simp] theorem live91_16 : G.live 91 16 = some ⟨[4, 5], []⟩ := by kernel_rfl
@[simp] theorem live91_17 : G.live 91 17 = some ⟨[4], []⟩ := by kernel_rfl
@[simp] theorem plan91_15 : G.plan 91 15 = some [.n 0, .n 1, .n 2, .n 3, .n 4, .n 5, .n 6, .n 7, .e 8 [6, 5, 4], .n 9, .e 10 []] := by kernel_rfl
@[simp] theorem E92 : G.E 92 = true := by kernel_rfl
@[simp] theorem ext92 : G.ext 92 = none := by kernel_rfl
@[simp] theorem dfr92 : G.dfr 92 = false := by kernel_rfl
@[simp] theorem own92 : G.retOwn 92 = false := by kernel_rfl
@[simp] theorem live92_0 : G.live 92 0 = some ⟨[3], []⟩ := by kernel_rfl
@[simp] theorem live92_1 : G.live 92 1 = some ⟨[], []⟩ := by kernel_rfl
@[simp] theorem E93 : G.E 93 = true := by kernel_rfl
@[simp] theorem ext93 : G.ext 93 = none := by kernel_rfl
@[simp] theorem dfr93 : G.dfr 93 = false := by kernel_rfl
@[simp] theorem own93 : G.retOwn 93 = false := by kernel_rfl
@[simp] theorem live93_0 : G.live 93 0 = some ⟨[2, 3], []⟩ := by kernel_rfl
@[simp] theorem live93_1 : G.live 93 1 = some ⟨[4], []⟩ := by kernel_rfl
@[simp] theorem E94 : G.E 94 = true := by kernel_rfl
@[simp] theorem ext94 : G.ext 94 = none := by kernel_rfl
@[simp] theorem dfr94 : G.dfr 94 = false := by kernel_rfl
@[simp] theorem own94 : G.retOwn 94 = false := by kernel_rfl
@[simp] theorem live94_0 : G.live 94 0 = some ⟨[0, 1], []⟩ := by kernel_rfl
@[simp] theorem live94_1 : G.live 94 1 = some ⟨[4], []⟩ := by kernel_rfl
@[simp] theorem E95 : G.E 95 = true := by kernel_rfl
@[simp] theorem ext95 : G.ext 95 = none := by kernel_rfl
@[simp] theorem dfr95 : G.dfr 95 = false := by kernel_rfl
@[simp] theorem own95 : G.retOwn 95 = false := by kernel_rfl
@[simp] theorem live95_0 : G.live 95 0 = some ⟨[0], []⟩ := by kernel_rfl
@[simp] theorem live95_1 : G.live 95 1 = some ⟨[0, 4], []⟩ := by kernel_rfl
@[simp] theorem live95_2 : G.live 95 2 = some ⟨[2], []⟩ := by kernel_rfl
@[simp] theorem live95_3 : G.live 95 3 = some ⟨[2], []⟩ := by kernel_rfl
@[simp] theorem E96 : G.E 96 = true := by kernel_rfl
@[simp] theorem ext96 : G.ext 96 = none := by kernel_rfl
@[simp] theorem dfr96 : G.dfr 96 = false := by kernel_rfl
@[simp] theorem own96 : G.retOwn 96 = false := by kernel_rfl
@[simp] theorem keep96_1 : G.keep 96 1 = some ⟨[(0, some (2, 50)), (2, none), (3, none), (4, none), (10, none)], []⟩ := by kernel_rfl
@[simp] theorem live96_0 : G.live 96 0 = some ⟨[0, 2, 3, 4, 10], []⟩ := by kernel_rfl
@[simp] theorem live96_1 : G.live 96 1 = some ⟨[0, 2, 3, 4, 10, 11], []⟩ := by kernel_rfl
@[simp] theorem live96_2 : G.live 96 2 = some ⟨[0, 2, 3, 4, 10, 11, 18], []⟩ := by kernel_rfl
@[simp] theorem live96_3 : G.live 96 3 = some ⟨[0, 2, 3, 4, 10, 11, 40], []⟩ := by kernel_rfl
@[simp] theorem live96_4 : G.live 96 4 = some ⟨[0, 2, 3, 4, 10, 11], []⟩ := by kernel_rfl
@[simp] theorem live96_5 : G.live 96 5 = some ⟨[0, 2, 3, 4, 10, 11, 58], []⟩ := by kernel_rfl
@[simp] theorem live96_6 : G.live 96 6 = some ⟨[0, 2, 3, 4, 11], []⟩ := by kernel_rfl
@[simp] theorem live96_7 : G.live 96 7 = some ⟨[0, 2, 3, 4, 10], []⟩ := by kernel_rfl
@[simp] theorem plan96_3 : G.plan 96 3 = some [.n 0, .n 1, .n 2, .n 3, .n 4, .n 5, .n 6, .n 7, .n 8, .n 9, .n 10, .n 11, .n 12, .n 13, .n 14, .n 15, .n 16, .n 17, .n 18, .e 19 [15, 14, 13, 8, 7, 0], .n 20, .n 21] := by kernel_rfl
@[simp] theorem plan96_5 : G.plan 96 5 = some [.n 0, .n 1, .n 2, .n 3, .n 4, .n 5, .n 6, .n 7, .n 8, .n 9, .n 10, .n 11, .n 12, .e 13 [9, 8, 3, 2], .n 14, .n 15] := by kernel_rfl
@[simp] theorem plan96_6 : G.plan 96 6 = some [.n 0, .n 1, .n 2, .n 3, .n 4, .n 5, .n 6, .n 7, .n 8, .n 9, .n 10, .n 11, .n 12, .n 13, .n 14, .n 15, .n 16, .n 17, .n 18, .n 19, .n 20, .e 21 [16, 15, 7, 6, 5, 4], .n 22, .e 23 []] := by kernel_rfl
@[simp] theorem E97 : G.E 97 = true := by kernel_rfl
@[simp] theorem ext97 : G.ext 97 = none := by kernel_rfl
@[simp] theorem dfr97 : G.dfr 97 = false := by kernel_rfl
@[simp] theorem own97 : G.retOwn 97 = false := by kernel_rfl
@[simp] theorem live97_0 : G.live 97 0 = some ⟨[0], []⟩ := by kernel_rfl
@[simp] theorem live97_1 : G.live 97 1 = some ⟨[2], []⟩ := by kernel_rfl
@[simp] theorem E98 : G.E 98 = true := by kernel_rfl
@[simp] theorem ext98 : G.ext 98 = none := by kernel_rfl
@[simp] theorem dfr98 : G.dfr 98 = false := by kernel_rfl
@[simp] theorem own98 : G.retOwn 98 = false := by kernel_rfl
@[simp] theorem live98_0 : G.live 98 0 = some ⟨[0], []⟩ := by kernel_rfl
@[simp] theorem live98_1 : G.live 98 1 = some ⟨[0], []⟩ := by kernel_rfl
@[simp] theorem live98_2 : G.live 98 2 = some ⟨[0], []⟩ := by kernel_rfl
@[simp] theorem live98_3 : G.live 98 3 = some ⟨[0], []⟩ := by kernel_rfl
@[simp] theorem live98_4 : G.live 98 4 = some ⟨[2], []⟩ := by kernel_rfl
@[simp] theorem plan98_1 : G.plan 98 1 = some [.n 0, .n 1, .n 2, .n 3, .n 4, .n 5, .n 6, .n 7, .n 8, .e 9 []] := by kernel_rfl
@[simp] theorem plan98_2 : G.plan 98 2 = some [.n 0, .n 1, .n 2, .n 3, .n 4, .n 5, .n 6, .n 7, .n 8, .e 9 []] := by kernel_rfl
@[simp] theorem plan98_3 : G.plan 98 3 = some [.n 0, .n 1, .n 2, .n 3, .n 4, .n 5, .n 6, .n 7, .n 8, .e 9 []] := by kernel_rfl
@[simp] theorem E99 : G.E 99 = true := by kernel_rfl
@[simp] theorem ext99 : G.ext 99 = none := by kernel_rfl
@[simp] theorem dfr99 : G.dfr 99 = false := by kernel_rfl
@[simp] theorem own99 : G.retOwn 99 = false := by kernel_rfl
@[simp] theorem live99_0 : G.live 99 0 = some ⟨[0, 1, 2, 3], []⟩ := by kernel_rfl
@[simp] theorem live99_1 : G.live 99 1 = some ⟨[8], []⟩ := by kernel_rfl
@[simp] theorem E100 : G.E 100 = true := by kernel_rfl
@[simp] theorem ext100 : G.ext 100 = none := by kernel_rfl
@[simp] theorem dfr100 : G.dfr 100 = false := by kernel_rfl
@[simp] theorem own100 : G.retOwn 100 = false := by kernel_rfl
@[simp] theorem live100_0 : G.live 100 0 = some ⟨[0, 1, 2, 3, 4, 5], []⟩ := by kernel_rfl
@[simp] theorem live100_1 : G.live 100 1 = some ⟨[0, 1, 2, 3, 4, 5], []⟩ := by kernel_rfl
@[simp] theorem live100_2 : G.live 100 2 = some ⟨[0, 1, 2, 4, 5], []⟩ := by kernel_rfl
@[simp] theorem live100_3 : G.live 100 3 = some ⟨[2], []⟩ := by kernel_rfl
@[simp] theorem live100_4 : G.live 100 4 = some ⟨[12], []⟩ := by kernel_rfl
@[simp] theorem E101 : G.E 101 = true := by kernel_rfl
@[simp] theorem ext101 : G.ext 101 = none := by kernel_rfl
@[simp] theorem dfr101 : G.dfr 101 = false := by kernel_rfl
@[simp] theorem own101 : G.retOwn 101 = false := by kernel_rfl
@[simp] theorem keep101_1 : G.keep 101 1 = some ⟨[(0, some (1, 3)), (2, none), (3, none), (4, none), (10, none)], []⟩ := by kernel_rfl
@[simp] theorem live101_0 : G.live 101 0 = some ⟨[0, 2, 3, 4, 10], []⟩ := by kernel_rfl
@[simp] theorem live101_1 : G.live 101 1 = some ⟨[0, 2, 3, 4, 10, 11], []⟩ := by kernel_rfl
@[simp] theorem live101_2 : G.live 101 2 = some ⟨[0, 2, 3, 4, 10, 11, 18], []⟩ := by kernel_rfl
@[simp] theorem live101_3 : G.live 101 3 = some ⟨[0, 2, 3, 4, 10, 11, 40], []⟩ := by kernel_rfl
@[simp] theorem live101_4 : G.live 101 4 = some ⟨[0, 2, 3, 4, 10, 11], []⟩ := by kernel_rfl
@[simp] theorem live101_5 : G.live 101 5 = some ⟨[0, 2, 3, 4, 10, 11, 58], []⟩ := by kernel_rfl
@[simp] theorem live101_6 : G.live 101 6 = some ⟨[0, 2, 3, 4, 11], []⟩ := by kernel_rfl
@[simp] theorem live101_7 : G.live 101 7 = some ⟨[0, 2, 3, 4, 10], []⟩ := by kernel_rfl
@[simp] theorem plan101_3 : G.plan 101 3 = some [.n 0, .n 1, .n 2, .n 3, .n 4, .n 5, .n 6, .n 7, .n 8, .n 9, .n 10, .n 11, .n 12, .n 13, .n 14, .n 15, .n 16, .n 17, .n 18, .e 19 [15, 14, 13, 8, 7, 0], .n 20, .n 21] := by kernel_rfl
@[simp] theorem plan101_5 : G.plan 101 5 = some [.n 0, .n 1, .n 2, .n 3, .n 4, .n 5, .n 6, .n 7, .n 8, .n 9, .n 10, .n 11, .n 12, .e 13 [9, 8, 3, 2], .n 14, .n 15] := by kernel_rfl
@[simp] theorem plan101_6 : G.plan 101 6 = some [.n 0, .n 1, .n 2, .n 3, .n 4, .n 5, .n 6, .n 7, .n 8, .n 9, .n 10, .n 11, .n 12, .n 13, .n 14, .n 15, .n 16, .n 17, .n 18, .n 19, .n 20, .e 21 [16, 15, 7, 6, 5, 4], .n 22, .e 23 []] := by kernel_rfl
@[simp] theorem E102 : G.E 102 = true := by kernel_rfl
@[simp] theorem ext102 : G.ext 102 = none := by kernel_rfl
@[simp] theorem dfr102 : G.dfr 102 = false := by kernel_rfl
@[simp] theorem own102 : G.retOwn 102 = false := by kernel_rfl
@[simp] theorem live102_0 : G.live 102 0 = some ⟨[0, 1, 2, 3], []⟩ := by kernel_rfl
@[simp] theorem live102_1 : G.live 102 1 = some ⟨[8], []⟩ := by kernel_rfl
@[simp] theorem E103 : G.E 103 = true := by kernel_rfl
@[simp] theorem ext103 : G.ext 103 = none := by kernel_rfl
@[simp] theorem dfr103 : G.dfr 103 = false := by kernel_rfl
@[simp] theorem own103 : G.retOwn 103 = false := by kernel_rfl
@[simp] theorem live103_0 : G.live 103 0 = some ⟨[0, 1, 2, 3, 4, 5], []⟩ := by kernel_rfl
@[simp] theorem live103_1 : G.live 103 1 = some ⟨[0, 1, 2, 3, 4, 5], []⟩ := by kernel_rfl
@[simp] theorem live103_2 : G.live 103 2 = some ⟨[0, 1, 2, 4, 5], []⟩ := by kernel_rfl
@[simp] theorem live103_3 : G.live 103 3 = some ⟨[2], []⟩ := by kernel_rfl
@[simp] theorem live103_4 : G.live 103 4 = some ⟨[12], []⟩ := by kernel_rfl
@[simp] theorem E104 : G.E 104 = true := by kernel_rfl
@[simp] theorem ext104 : G.ext 104 = none := by kernel_rfl
@[simp] theorem dfr104 : G.dfr 104 = false := by kernel_rfl
@[simp] theorem own104 : G.retOwn 104 = false := by kernel_rfl
@[simp] theorem live104_0 : G.live 104 0 = some ⟨[1], []⟩ := by kernel_rfl
@[simp] theorem live104_1 : G.live 104 1 = some ⟨[1, 3], []⟩ := by kernel_rfl
@[simp] theorem live104_2 : G.live 104 2 = some ⟨[1, 3, 6], []⟩ := by kernel_rfl
@[simp] theorem live104_3 : G.live 104 3 = some ⟨[1, 3, 6, 7], []⟩ := by kernel_rfl
@[simp] theorem live104_4 : G.live 104 4 = some ⟨[1, 3, 6, 9], []⟩ := by kernel_rfl
@[simp] theorem live104_5 : G.live 104 5 = some ⟨[1, 3, 6, 11], []⟩ := by kernel_rfl
@[simp] theorem live104_6 : G.live 104 6 = some ⟨[1, 3, 6, 13], []⟩ := by kernel_rfl
@[simp] theorem live104_7 : G.live 104 7 = some ⟨[1, 3, 6, 15], []⟩ := by kernel_rfl
@[simp] theorem live104_8 : G.live 104 8 = some ⟨[1, 3, 15], []⟩ := by kernel_rfl
@[simp] theorem live104_9 : G.live 104 9 = some ⟨[1, 3], []⟩ := by kernel_rfl
@[simp] theorem live104_10 : G.live 104 10 = some ⟨[2], []⟩ := by kernel_rfl
@[simp] theorem live104_11 : G.live 104 11 = some ⟨[1, 3], []⟩ := by kernel_rfl
@[simp] theorem live104_12 : G.live 104 12 = some ⟨[2], []⟩ := by kernel_rfl
@[simp] theorem live104_13 : G.live 104 13 = some ⟨[1, 3], []⟩ := by kernel_rfl
@[simp] theorem live104_14 : G.live 104 14 = some ⟨[2], []⟩ := by kernel_rfl
@[simp] theorem live104_15 : G.live 104 15 = some ⟨[2], []⟩ := by kernel_rfl
@[simp] theorem live104_16 : G.live 104 16 = some ⟨[2], []⟩ := by kernel_rfl
@[simp] theorem plan104_10 : G.plan 104 10 = some [.n 0, .n 1, .e 2 [0], .n 3, .n 4, .n 5, .n 6, .n 7, .n 8, .n 9] := by kernel_rfl
@[simp] theorem plan104_12 : G.plan 104 12 = some [.n 0, .n 1, .e 2 [0], .n 3, .n 4, .n 5, .n 6, .n 7, .n 8, .n 9] := by kernel_rfl
@[simp] theorem plan104_14 : G.plan 104 14 = some [.n 0, .n 1, .e 2 [0], .n 3, .n 4, .n 5, .n 6, .n 7, .n 8, .n 9] := by kernel_rfl
@[simp] theorem plan104_15 : G.plan 104 15 = some [.n 0, .n 1, .e 2 [0], .n 3, .n 4, .n 5, .n 6, .n 7, .n 8, .n 9] := by kernel_rfl
@[simp] theorem E105 : G.E 105 = true := by kernel_rfl
@[simp] theorem ext105 : G.ext 105 = none := by kernel_rfl
@[simp] theorem dfr105 : G.dfr 105 = false := by kernel_rfl
@[simp] theorem own105 : G.retOwn 105 = false := by kernel_rfl
@[simp] theorem keep105_2 : G.keep 105 2 = some ⟨[(0, none), (1, none), (21, none), (22, none), (23, none)], []⟩ := by kernel_rfl
@[simp] theorem live105_0 : G.live 105 0 = some ⟨[0, 1, 2, 17], []⟩ := by kernel_rfl
@[simp] theorem live105_1 : G.live 105 1 = some ⟨[0, 1, 21, 22, 23], []⟩ := by kernel_rfl
@[simp] theorem live105_2 : G.live 105 2 = some ⟨[0, 1, 21, 22, 23, 24], []⟩ := by kernel_rfl
@[simp] theorem live105_3 : G.live 105 3 = some ⟨[0, 1, 5, 21, 22, 23], []⟩ := by kernel_rfl
@[simp] theorem live105_4 : G.live 105 4 = some ⟨[0, 1, 21, 22, 23, 36], []⟩ := by kernel_rfl
@[simp] theorem live105_5 : G.live 105 5 = some ⟨[0, 1, 21, 22, 23], []⟩ := by kernel_rfl
@[simp] theorem E106 : G.E 106 = true := by kernel_rfl
@[simp] theorem ext106 : G.ext 106 = none := by kernel_rfl
@[simp] theorem dfr106 : G.dfr 106 = false := by kernel_rfl
@[simp] theorem own106 : G.retOwn 106 = false := by kernel_rfl
@[simp] theorem live106_0 : G.live 106 0 = some ⟨[0, 1, 2, 3, 4], []⟩ := by kernel_rfl
@[simp] theorem live106_1 : G.live 106 1 = some ⟨[1, 2, 3, 22], []⟩ := by kernel_rfl
@[simp] theorem live106_2 : G.live 106 2 = some ⟨[1, 2], []⟩ := by kernel_rfl
@[simp] theorem live106_3 : G.live 106 3 = some ⟨[10, 11], []⟩ := by kernel_rfl
@[simp] theorem live106_4 : G.live 106 4 = some ⟨[10, 11], []⟩ := by kernel_rfl
@[simp] theorem plan106_1 : G.plan 106 1 = some [.n 0, .n 1, .n 2, .n 3, .n 4, .n 5, .n 6, .n 7, .n 8, .e 9 [], .n 10] := by kernel_rfl
@[simp] theorem E107 : G.E 107 = true := by kernel_rfl
@[simp] theorem ext107 : G.ext 107 = none := by kernel_rfl
@[simp] theorem dfr107 : G.dfr 107 = false := by kernel_rfl
@[simp] theorem own107 : G.retOwn 107 = false := by kernel_rfl
@[simp] theorem live107_0 : G.live 107 0 = some ⟨[0, 1, 2, 3, 4], []⟩ := by kernel_rfl
@[simp] theorem live107_1 : G.live 107 1 = some ⟨[1, 2, 3, 22], []⟩ := by kernel_rfl
@[simp] theorem live107_2 : G.live 107 2 = some ⟨[1, 2], []⟩ := by kernel_rfl
@[simp] theorem live107_3 : G.live 107 3 = some ⟨[10, 11], []⟩ := by kernel_rfl
@[simp] theorem live107_4 : G.live 107 4 = some ⟨[10, 11], []⟩ := by kernel_rfl
@[simp] theorem plan107_1 : G.plan 107 1 = some [.n 0, .n 1, .n 2, .n 3, .n 4, .n 5, .n 6, .n 7, .n 8, .e 9 [], .n 10] := by kernel_rfl
@[simp] theorem E108 : G.E 108 = true := by kernel_rfl
@[simp] theorem ext108 : G.ext 108 = none := by kernel_rfl
@[simp] theorem dfr108 : G.dfr 108 = false := by kernel_rfl
@[simp] theorem own108 : G.retOwn 108 = false := by kernel_rfl
@[simp] theorem live108_0 : G.live 108 0 = some ⟨[1, 2], []⟩ := by kernel_rfl
@[simp] theorem live108_1 : G.live 108 1 = some ⟨[2], []⟩ := by kernel_rfl
@[simp] theorem E126 : G.E 126 = true := by kernel_rfl
@[simp] theorem ext126 : G.ext 126 = none := by kernel_rfl
@[simp] theorem dfr126 : G.dfr 126 = false := by kernel_rfl
@[simp] theorem own126 : G.retOwn 126 = false := by kernel_rfl
@[simp] theorem live126_0 : G.live 126 0 = some ⟨[0, 1, 2], []⟩ := by kernel_rfl
@[simp] theorem live126_1 : G.live 126 1 = some ⟨[6], []⟩ := by kernel_rfl
@[simp] theorem plan126_1 : G.plan 126 1 = some [.n 0, .n 1, .n 2, .n 3, .n 4, .n 5, .n 6, .n 7, .e 8 [], .n 9, .n 10] := by kernel_rfl
@[simp] theorem E127 : G.E 127 = true := by kernel_rfl
@[simp] theorem ext127 : G.ext 127 = none := by kernel_rfl
@[simp] theorem dfr127 : G.dfr 127 = false := by kernel_rfl
@[simp] theorem own127 : G.retOwn 127 = false := by kernel_rfl
@[simp] theorem live127_0 : G.live 127 0 = some ⟨[0], []⟩ := by kernel_rfl
@[simp] theorem live127_1 : G.live 127 1 = some ⟨[0, 3], []⟩ := by kernel_rfl
@[simp] theorem live127_2 : G.live 127 2 = some ⟨[3], []⟩ := by kernel_rfl
@[simp] theorem live127_3 : G.live 127 3 = some ⟨[2], []⟩ := by kernel_rfl
@[simp] theorem plan127_1 : G.plan 127 1 = some [.n 0, .n 1, .n 2, .n 3, .n 4, .n 5, .n 6, .n 7, .n 8, .n 9, .e 10 [9, 8, 7, 6, 5, 4, 3, 2, 1, 0], .e 11 []] := by kernel_rfl
@[simp] theorem plan127_2 : G.plan 127 2 = some [.n 0, .n 1, .n 2, .n 3, .n 4, .n 5, .n 6, .n 7, .n 8, .e 9 [5, 4, 0], .n 10, .e 11 []] := by kernel_rfl
@[simp] theorem E128 : G.E 128 = true := by kernel_rfl
@[simp] theorem ext128 : G.ext 128 = none := by kernel_rfl
@[simp] theorem dfr128 : G.dfr 128 = false := by kernel_rfl
@[simp] theorem own128 : G.retOwn 128 = false := by kernel_rfl
@[simp] theorem live128_0 : G.live 128 0 = some ⟨[], []⟩ := by kernel_rfl
@[simp] theorem plan128_0 : G.plan 128 0 = some [.n 0, .n 1, .n 2, .n 3, .n 4, .n 5, .n 6, .e 7 [0], .n 8, .e 9 []] := by kernel_rfl
@[simp] theorem E129 : G.E 129 = true := by kernel_rfl
@[simp] theorem ext129 : G.ext 129 = none := by kernel_rfl
@[simp] theorem dfr129 : G.dfr 129 = false := by kernel_rfl
@[simp] theorem own129 : G.retOwn 129 = false := by kernel_rfl
@[simp] theorem live129_0 : G.live 129 0 = some ⟨[], []⟩ := by kernel_rfl
@[simp] theorem plan129_0 : G.plan 129 0 = some [.n 0, .n 1, .n 2, .n 3, .n 4, .n 5, .n 6, .n 7, .n 8, .n 9, .n 10, .n 11, .n 12, .e 13 [3, 2], .n 14, .e 15 []] := by kernel_rfl
end Go.Proofs.YtcgkneolohcdeaaGreat


/- What the functions come to: nodes. -/
namespace Go.Proofs.YtcgkneolohcdeaaGreat
open Go Abs
set_option linter.unusedSimpArgs false
set_option linter.unusedVariables false
structure Nd where
  kind : Int
  num : Int
  text : List UInt8
  kids : Int
  deriving DecidableEq
def Nd.v (n : Nd) : AV := .agg [.int .i64 n.kind, .int .i64 n.num, .str n.text, .int .i64 n.kids]
def nds (l : List Nd) : AV := .list 4 (l.map Nd.v)

noncomputable abbrev cl : CallFn := callL G prim0
noncomputable abbrev lp : LoopFn := loopL G prim0

/-- A function's body, gone through. -/
theorem fn_intro {g : FuncId} {fn : Func} {c : Code} {args : List AV} {hp : Heap} {r : ARes × Heap} (hf : Tryz.prog.funcs[g]? = some fn) (hb : fn.body = some c) (hd : G.dfr g = false) (hg : g < RB) (hp0 : prim0 g = none)
    (h : endX G g (hp.map (·.1)) fn.results.toList (codeX G cl lp g c { sl := zipIx args 0, hp }) = some r) : cl g args hp = some r :=
  call_intro hg hp0 (by rw [runFn_body hd hf hb]; exact h)

theorem need_t : cl 92 [.bool true] [] = some (.ret (.tup []), []) := call_intro (by decide) rfl (by kernel_rfl)
theorem need_f : cl 92 [.bool false] [] = some (.pan (.iface 123 (.agg [])), []) := call_intro (by decide) rfl (by kernel_rfl)

theorem bare_eq (n : Nd) : cl 108 [n.v] [] = some (.ret (.agg [.int .i64 n.kind, .int .i64 0, .str [], .int .i64 n.kids]), []) := by
  refine fn_intro Tryz.func108 rfl (by simp) (by decide) rfl ?_
  simp only [Tryz.f108]
  simp [Nd.v]
  exact end_is (.inr rfl) (by simp [resL]; rfl) rfl rfl

theorem bare_call {d : Option Nat} {st : ASt} {k n c : Int} {t : List UInt8} : callV G cl d (.fn (.func 108) [] []) [.agg [.int .i64 k, .int .i64 n, .str t, .int .i64 c]] st = some (.val (.agg [.int .i64 k, .int .i64 0, .str [], .int .i64 c]) st) :=
  callV_ret E108 (by decide) ext108 rfl rfl (bare_eq ⟨k, n, t, c⟩) rfl
attribute [simp] eqAggA eqFieldsA Tryz.stoodInHeld39 Tryz.eqGuardType39

/-- Whether a node's fields may be. -/
def fitsS (n : Nd) : Bool :=
  if n.kind = 1 then decide (wAndNot .i64 n.num 1 = 0) && decide (n.text = []) && decide (n.kids = 0)
  else if n.kind = 0 then decide (n.num = 0) && decide (n.text = []) && decide (n.kids = 0)
  else if n.kind = 2 then decide (n.text = []) && decide (n.kids = 0)
  else if n.kind = 3 then decide (n.num = 0) && decide (n.kids = 0)
  else if n.kind = 4 ∨ n.kind = 5 then decide (n.num = 0) && decide (n.text = []) && decide (0 ≤ n.kids)
  else false

set_option maxHeartbeats 8000000 in
theorem fits_eq (n : Nd) : cl 104 [n.v] [] = some (.ret (.bool (fitsS n)), []) := by
  obtain ⟨k, nu, t, c⟩ := n
  refine fn_intro Tryz.func104 rfl (by simp) (by decide) rfl ?_
  simp only [Tryz.f104, Nd.v]
  by_cases h1 : k = 1
  · simp [h1, bare_call, fitsS]; exact end_is (.inr rfl) (by simp; rfl) rfl rfl
  by_cases h2 : k = 0
  · simp [h2, bare_call, fitsS]; exact end_is (.inr rfl) (by simp; rfl) rfl rfl
  by_cases h3 : k = 2
  · simp [h3, bare_call, fitsS]; exact end_is (.inr rfl) (by simp; rfl) rfl rfl
  by_cases h4 : k = 3
  · simp [h4, bare_call, fitsS]; exact end_is (.inr rfl) (by simp; rfl) rfl rfl
  by_cases h5 : k = 4
  · simp [h5, bare_call, fitsS]; exact end_is (.inr rfl) (by simp; rfl) rfl rfl
  by_cases h6 : k = 5
  · simp [h6, bare_call, fitsS]; exact end_is (.inr rfl) (by simp; rfl) rfl rfl
  simp [h1, h2, h3, h4, h5, h6, fitsS]
  exact end_is (.inr rfl) (by simp; rfl) rfl rfl
theorem fits_call {d : Option Nat} {st : ASt} {k n c : Int} {t : List UInt8} : callV G cl d (.fn (.func 104) [] []) [.agg [.int .i64 k, .int .i64 n, .str t, .int .i64 c]] st = some (.val (.bool (fitsS ⟨k, n, t, c⟩)) st) :=
  callV_ret E104 (by decide) ext104 rfl rfl (fits_eq ⟨k, n, t, c⟩) rfl
theorem need_call_t {d : Option Nat} {st : ASt} : callV G cl d (.fn (.func 92) [] []) [.bool true] st = some (.val (.tup []) st) := callV_ret E92 (by decide) ext92 rfl rfl need_t rfl
theorem need_call_f {d : Option Nat} {st : ASt} : callV G cl d (.fn (.func 92) [] []) [.bool false] st = some (.pan (.iface 123 (.agg [])) st) := callV_pan E92 (by decide) ext92 rfl rfl need_f rfl
end Go.Proofs.YtcgkneolohcdeaaGreat


/- What the functions come to: nodes, by the document. -/
namespace Go.Proofs.YtcgkneolohcdeaaGreat
open Go Abs
set_option linter.unusedSimpArgs false
set_option linter.unusedVariables false

/-- Whether a node's fields may be, by the document. -/
def plainS (n : Nd) : Bool :=
  decide (0 ≤ n.kind) && decide (n.kind ≤ 5) && (decide (n.kind = 2) || decide (n.num = 0) || decide (n.kind = 1) && decide (n.num = 1)) && (decide (n.kind = 3) || decide (n.text = [])) &&
    (decide (n.kids = 0) || decide (0 < n.kids) && (decide (n.kind = 4) || decide (n.kind = 5)))

set_option maxHeartbeats 8000000 in
theorem plain_eq (n : Nd) : cl 58 [n.v] [] = some (.ret (.bool (plainS n)), []) := by
  obtain ⟨k, nu, t, c⟩ := n
  refine fn_intro Tryz.func58 rfl (by simp) (by decide) rfl ?_
  simp only [Tryz.f58, Nd.v]
  simp
  exact end_is (.inr rfl) (by simp; rfl) rfl (by simp [plainS, Bool.and_assoc, Bool.or_assoc])
theorem plain_call {d : Option Nat} {st : ASt} {k n c : Int} {t : List UInt8} : callV G cl d (.fn (.func 58) [] []) [.agg [.int .i64 k, .int .i64 n, .str t, .int .i64 c]] st = some (.val (.bool (plainS ⟨k, n, t, c⟩)) st) :=
  callV_ret E58 (by decide) ext58 rfl rfl (plain_eq ⟨k, n, t, c⟩) rfl

/-- A round, and the loop's head behind it. -/
noncomputable def rX (f : FuncId) (c : Code) : Option (AX × ASt) → Option (AX × ASt)
  | some (.normal, s) => (canon G f c s).map fun s => (.normal, s)
  | r => r
@[simp] theorem rX_n {f c s} : rX f c (some (.normal, s)) = (canon G f c s).map fun s => (.normal, s) := rfl
@[simp] theorem rX_e {f c i s} : rX f c (some (.exit i, s)) = some (.exit i, s) := rfl
@[simp] theorem rX_r {f c s} : rX f c (some (.ret, s)) = some (.ret, s) := rfl
@[simp] theorem rX_p {f c v s} : rX f c (some (.pan v, s)) = some (.pan v, s) := rfl
theorem loop_next {f : FuncId} {c : Code} {st st' : ASt} {r : AX × ASt} (h : rX f c (codeX G cl lp f c st) = some (.normal, st')) (hr : lp f c st' = some r) : lp f c st = some r := by
  refine loop_intro ?_
  unfold loopStep
  cases hx : codeX G cl lp f c st with
  | none => rw [hx] at h; cases h
  | some y =>
    obtain ⟨x, s⟩ := y
    rw [hx] at h
    cases x with
    | normal =>
      obtain ⟨s2, h1, h2⟩ := Option.map_eq_some_iff.1 h
      cases h2
      simp only [Option.bind_some, h1]; exact hr
    | _ => cases h
theorem loop_out {f : FuncId} {c : Code} {st s : ASt} {x : AX} (h : rX f c (codeX G cl lp f c st) = some (x, s)) (hx : x ≠ .normal) : lp f c st = some (x, s) := by
  refine loop_intro ?_
  unfold loopStep
  cases hy : codeX G cl lp f c st with
  | none => rw [hy] at h; cases h
  | some y =>
    obtain ⟨x', s'⟩ := y
    rw [hy] at h
    cases x' with
    | normal =>
      obtain ⟨s2, h1, h2⟩ := Option.map_eq_some_iff.1 h
      cases h2; exact absurd rfl hx
    | _ => exact h
/-- The code of a function's first loop; of the next. -/
def loopsOf : Code → List Code
  | .seq a b => loopsOf a ++ loopsOf b
  | .cond _ a b => loopsOf a ++ loopsOf b
  | .block _ b => loopsOf b
  | .loop b => b :: loopsOf b
  | _ => []
noncomputable def lc (f : Func) (k : Nat) : Code := ((loopsOf (f.body.getD .skip))[k]?).getD .skip

theorem i64_wrap {a : Int} (h1 : -9223372036854775808 ≤ a) (h2 : a ≤ 9223372036854775807) : IntKind.i64.wrap a = a := by rw [IntKind.wrap_i64]; omega

/-- A loop over the numbers below n, that may be left early. -/
theorem for_loop {f : FuncId} {c : Code} {n : Nat} {σ : Nat → ASt} {P : Nat → Prop} {Q : AX → ASt → Prop}
    (hstep : ∀ i, i < n → P i → (rX f c (codeX G cl lp f c (σ i)) = some (.normal, σ (i + 1)) ∧ P (i + 1)) ∨ ∃ x s, rX f c (codeX G cl lp f c (σ i)) = some (x, s) ∧ x ≠ .normal ∧ Q x s)
    (hend : P n → ∃ x s, rX f c (codeX G cl lp f c (σ n)) = some (x, s) ∧ x ≠ .normal ∧ Q x s) : ∀ i, i ≤ n → P i → ∃ x s, lp f c (σ i) = some (x, s) ∧ Q x s := by
  intro i hi
  generalize hk : n - i = k
  induction k generalizing i with
  | zero =>
    intro hp
    obtain rfl : i = n := by omega
    obtain ⟨x, s, h1, h2, h3⟩ := hend hp
    exact ⟨x, s, loop_out h1 h2, h3⟩
  | succ k ih =>
    intro hp
    rcases hstep i (by omega) hp with ⟨h1, h2⟩ | ⟨x, s, h1, h2, h3⟩
    · obtain ⟨x, s, h3, h4⟩ := ih (i + 1) (by omega) (by omega) h2
      exact ⟨x, s, loop_next h1 h3, h4⟩
    · exact ⟨x, s, loop_out h1 h2, h3⟩
attribute [simp] canonK_p

/-! Few -/
def fewS (l : List Nd) : Bool := decide (l.length ≤ 130) && (l.take 131).all fun n => decide (n.text.length ≤ 130)
theorem few_loop (l : List Nd) : ∃ x s, lp 19 (lc Tryz.f19 0) { sl := [(0, nds l), (3, .int .i64 0)], hp := [] } = some (x, s) ∧
    ((x = .ret ∧ s = { sl := [(2, .bool false)], hp := [] } ∧ fewS l = false) ∨ (x = .exit 0 ∧ (∃ sl, s = { sl := (0, nds l) :: sl, hp := [] }) ∧ (l.take 131).all (fun n => decide (n.text.length ≤ 130)) = true)) := by
  have := for_loop (f := 19) (c := lc Tryz.f19 0) (n := min l.length 131) (σ := fun i => { sl := [(0, nds l), (3, .int .i64 (i : Int))], hp := [] }) (P := fun i => (l.take i).all (fun n => decide (n.text.length ≤ 130)) = true)
    (Q := fun x s => (x = .ret ∧ s = { sl := [(2, .bool false)], hp := [] } ∧ fewS l = false) ∨ (x = .exit 0 ∧ (∃ sl, s = { sl := (0, nds l) :: sl, hp := [] }) ∧ (l.take 131).all (fun n => decide (n.text.length ≤ 130)) = true))
    (fun i hi hp => ?_) (fun hp => ?_) 0 (by omega) (by simp)
  · exact this
  · have h1 : i < l.length := by omega
    obtain ⟨n, hn⟩ : ∃ n, l[i]? = some n := ⟨l[i], List.getElem?_eq_getElem h1⟩
    have h1' : (i : Int) < l.length := by omega
    have h2' : (i : Int) ≤ 130 := by omega
    have hw : IntKind.i64.wrap ((i : Int) + 1) = (i : Int) + 1 := i64_wrap (by omega) (by omega)
    by_cases ht : n.text.length ≤ 130
    · left
      have h3' : ¬ (130 < (n.text.length : Int)) := by omega
      refine ⟨by simp [lc, loopsOf, Tryz.f19, nds, h1', h2', hn, Nd.v, h3', hw], ?_⟩
      rw [List.take_add_one, hn]
      simp only [List.all_append, hp, Option.toList_some, List.all_cons, List.all_nil, Bool.and_true, Bool.true_and]
      simpa using ht
    · right
      have h3' : 130 < (n.text.length : Int) := by omega
      refine ⟨.ret, _, by simp [lc, loopsOf, Tryz.f19, nds, h1', h2', hn, Nd.v, h3', hw], by simp, .inl ⟨rfl, rfl, ?_⟩⟩
      have : n ∈ l.take 131 := List.mem_of_getElem? (i := i) (by rw [List.getElem?_take, if_pos (by omega)]; exact hn)
      unfold fewS
      rw [Bool.and_eq_false_iff]; right
      rw [List.all_eq_false]
      exact ⟨n, this, by simpa using ht⟩
  · have hall : (l.take 131).all (fun n => decide (n.text.length ≤ 130)) = true := by
      rcases Nat.le_total l.length 131 with h | h
      · rw [Nat.min_eq_left h, List.take_of_length_le (Nat.le_refl _)] at hp
        rw [List.take_of_length_le h]; exact hp
      · rwa [Nat.min_eq_right h] at hp
    rcases Nat.lt_or_ge l.length 131 with h | h
    · have e : min l.length 131 = l.length := by omega
      exact ⟨.exit 0, ⟨[(0, nds l), (3, .int .i64 (min l.length 131 : Nat)), (11, .bool false)], []⟩, by simp [lc, loopsOf, Tryz.f19, nds, e], by simp, .inr ⟨rfl, ⟨_, rfl⟩, hall⟩⟩
    · have e : min l.length 131 = 131 := by omega
      by_cases h2 : l.length = 131
      · exact ⟨.exit 0, ⟨[(0, nds l), (3, .int .i64 (min l.length 131 : Nat)), (11, .bool false)], []⟩, by simp [lc, loopsOf, Tryz.f19, nds, e, h2], by simp, .inr ⟨rfl, ⟨_, rfl⟩, hall⟩⟩
      · have h3 : (131 : Int) < l.length := by omega
        exact ⟨.exit 0, ⟨[(0, nds l), (3, .int .i64 (min l.length 131 : Nat)), (11, .bool false)], []⟩, by simp [lc, loopsOf, Tryz.f19, nds, e, h3], by simp, .inr ⟨rfl, ⟨_, rfl⟩, hall⟩⟩

theorem few_eq (l : List Nd) : cl 19 [nds l] [] = some (.ret (.bool (fewS l)), []) := by
  obtain ⟨x, s, h, hx⟩ := few_loop l
  refine fn_intro Tryz.func19 rfl (by simp) (by decide) rfl ?_
  simp only [lc, loopsOf, Tryz.f19, nds, Option.getD_some] at h
  simp [loopsOf] at h
  rcases hx with ⟨rfl, rfl, hf⟩ | ⟨rfl, ⟨sl, rfl⟩, hall⟩
  · simp [Tryz.f19, nds, h]
    exact end_is (.inr rfl) (by simp; rfl) rfl (by simp [hf])
  · by_cases hl : l.length ≤ 130
    · have hl' : (l.length : Int) ≤ 130 := by omega
      simp [Tryz.f19, nds, h, hl']
      exact end_is (.inr rfl) (by simp; rfl) rfl (by simp [fewS, hl]; simpa using hall)
    · have hl' : ¬ (l.length : Int) ≤ 130 := by omega
      simp [Tryz.f19, nds, h, hl']
      exact end_is (.inr rfl) (by simp; rfl) rfl (by simp [fewS, hl])
end Go.Proofs.YtcgkneolohcdeaaGreat


/- What the functions come to: slices.Equal, ContainsFunc over nodes. -/
namespace Go.Proofs.YtcgkneolohcdeaaGreat
open Go Abs
set_option linter.unusedSimpArgs false
set_option linter.unusedVariables false

/-! Texts that are too long -/
theorem long_eq (n : Nd) : cl 60 [n.v] [] = some (.ret (.bool (decide (120 < n.text.length))), []) := by
  obtain ⟨k, nu, t, c⟩ := n
  refine fn_intro Tryz.func60 rfl (by simp) (by decide) rfl ?_
  simp [Tryz.f60, Nd.v]
  exact end_is (.inr rfl) (by simp; rfl) rfl (by simp; omega)
theorem long_call {d : Option Nat} {st : ASt} {k n c : Int} {t : List UInt8} : callV G cl d (.fn (.func 60) [] []) [.agg [.int .i64 k, .int .i64 n, .str t, .int .i64 c]] st = some (.val (.bool (decide (120 < t.length))) st) :=
  callV_ret E60 (by decide) ext60 rfl rfl (long_eq ⟨k, n, t, c⟩) rfl

set_option maxHeartbeats 8000000 in
theorem index81_loop (l : List Nd) (hb : l.length ≤ 9223372036854775806) : ∃ x s, lp 89 (lc Tryz.f89 0) { sl := [(0, nds l), (1, .fn (.func 60) [] []), (7, .int .i64 l.length), (8, .int .i64 0)], hp := [] } = some (x, s) ∧
    ((x = .ret ∧ (∃ j : Nat, s = { sl := [(4, .int .i64 j)], hp := [] }) ∧ l.any (fun n => decide (120 < n.text.length)) = true) ∨ (x = .exit 0 ∧ (∃ sl, s = { sl, hp := [] }) ∧ l.any (fun n => decide (120 < n.text.length)) = false)) := by
  refine for_loop (f := 89) (c := lc Tryz.f89 0) (n := l.length) (σ := fun i => { sl := [(0, nds l), (1, .fn (.func 60) [] []), (7, .int .i64 l.length), (8, .int .i64 (i : Int))], hp := [] }) (P := fun i => (l.take i).any (fun n => decide (120 < n.text.length)) = false)
    (Q := fun x s => (x = .ret ∧ (∃ j : Nat, s = { sl := [(4, .int .i64 j)], hp := [] }) ∧ l.any (fun n => decide (120 < n.text.length)) = true) ∨ (x = .exit 0 ∧ (∃ sl, s = { sl, hp := [] }) ∧ l.any (fun n => decide (120 < n.text.length)) = false))
    (fun i hi hp => ?_) (fun hp => ?_) 0 (by omega) (by simp)
  · obtain ⟨n, hn⟩ : ∃ n, l[i]? = some n := ⟨l[i], List.getElem?_eq_getElem hi⟩
    have h1 : (i : Int) < l.length := by omega
    have hw : IntKind.i64.wrap ((i : Int) + 1) = (i : Int) + 1 := i64_wrap (by omega) (by omega)
    by_cases ht : 120 < n.text.length
    · right
      exact ⟨.ret, ⟨[(4, .int .i64 i)], []⟩, by simp [lc, loopsOf, Tryz.f89, nds, h1, hn, Nd.v, hw, long_call, ht], by simp, .inl ⟨rfl, ⟨i, rfl⟩, List.any_eq_true.2 ⟨n, List.mem_of_getElem? hn, by simpa using ht⟩⟩⟩
    · left
      refine ⟨by simp [lc, loopsOf, Tryz.f89, nds, h1, hn, Nd.v, hw, long_call, ht], ?_⟩
      rw [List.take_add_one, hn, List.any_append, hp]; simpa using ht
  · rw [List.take_of_length_le (Nat.le_refl _)] at hp
    exact ⟨.exit 0, ⟨[(0, nds l), (1, .fn (.func 60) [] []), (7, .int .i64 l.length), (8, .int .i64 l.length), (9, .bool false)], []⟩, by simp [lc, loopsOf, Tryz.f89, nds], by simp, .inr ⟨rfl, ⟨_, rfl⟩, hp⟩⟩
theorem index81_eq (l : List Nd) (hb : l.length ≤ 9223372036854775806) : ∃ j : Int, cl 89 [nds l, .fn (.func 60) [] []] [] = some (.ret (.int .i64 j), []) ∧ (0 ≤ j ↔ l.any (fun n => decide (120 < n.text.length)) = true) := by
  obtain ⟨x, s, h, hx⟩ := index81_loop l hb
  simp [lc, loopsOf, Tryz.f89, nds, Option.getD_some] at h
  rcases hx with ⟨rfl, ⟨j, rfl⟩, hf⟩ | ⟨rfl, ⟨sl, rfl⟩, hf⟩
  · refine ⟨j, fn_intro Tryz.func89 rfl (by simp) (by decide) rfl ?_, by simp [hf]⟩
    simp [Tryz.f89, nds, h]
    exact end_is (.inr rfl) (by simp; rfl) rfl rfl
  · refine ⟨-1, fn_intro Tryz.func89 rfl (by simp) (by decide) rfl ?_, by simp [hf]⟩
    simp [Tryz.f89, nds, h]
    exact end_is (.inr rfl) (by simp; rfl) rfl rfl
def longS (l : List Nd) : Bool := l.any fun n => decide (120 < n.text.length)
theorem contains49_eq (l : List Nd) (hb : l.length ≤ 9223372036854775806) : cl 61 [nds l, .fn (.func 60) [] []] [] = some (.ret (.bool (longS l)), []) := by
  obtain ⟨j, h, hj⟩ := index81_eq l hb
  have hc : ∀ {d : Option Nat} {st : ASt}, callV G cl d (.fn (.func 89) [] []) [nds l, .fn (.func 60) [] []] st = some (.val (.int .i64 j) st) := fun {d st} => callV_ret E89 (by decide) ext89 rfl rfl h rfl
  refine fn_intro Tryz.func61 rfl (by simp) (by decide) rfl ?_
  simp [Tryz.f61, hc]
  refine end_is (.inr rfl) (by simp; rfl) rfl ?_
  simp only [resOf_one, AV.bool.injEq]
  rw [Bool.eq_iff_iff, decide_eq_true_eq, hj]; rfl
theorem contains49_call {l : List Nd} (hb : l.length ≤ 9223372036854775806) {d : Option Nat} {st : ASt} : callV G cl d (.fn (.func 61) [] []) [nds l, .fn (.func 60) [] []] st = some (.val (.bool (longS l)) st) :=
  callV_ret E61 (by decide) ext61 rfl rfl (contains49_eq l hb) rfl
end Go.Proofs.YtcgkneolohcdeaaGreat


/- What the functions come to: a value, gone through. -/
namespace Go.Proofs.YtcgkneolohcdeaaGreat
open Go Abs
set_option linter.unusedSimpArgs false
set_option linter.unusedVariables false

structure Span where
  stop : Nat
  deep : Nat
  kids : List Nat
def intsL (l : List Nat) : List AV := l.map fun (k : Nat) => AV.int .i64 (k : Int)
def spanV (s : Span) : AV := .agg [.int .i64 s.stop, .int .i64 s.deep, .list 1 (intsL s.kids)]
def oddV : AV := .iface 123 (.agg [])
def valσ (l : List Nd) (at_ : Nat) (s : Span) (last : List UInt8) (i : Nat) (mv : Bool) : ASt :=
  ⟨[(0, nds l), (1, .int .i64 at_), (4, .ptr 1004 0 0), (5, .ptr 1005 0 0), (6, .str last), (7, .int .i64 i)],
   [(1004, .box 94 (.agg [.int .i64 0, .int .i64 0, .nils])), (1005, .box 94 (.agg [.int .i64 s.stop, .int .i64 s.deep, .own 200502])), (200502, .row 1 (intsL s.kids) false ⟨mv, 3⟩)]⟩

-- What a loop's head is unfolded by, where there is memory.
attribute [local simp] canonK canonAll canonSlot canonCell canonBox ownStep restrictTo pureCells pureRows reachL AObj.names List.range_succ appendA spanV intsL valσ nds Nd.v

theorem max_cast (a b : Nat) : ((max a b : Nat) : Int) = max (a : Int) b := by omega

set_option maxHeartbeats 8000000 in
theorem value_plain (l : List Nd) (at_ : Nat) (n : Nd) (hn : l[at_]? = some n) (hk : n.kind ≠ 5) (s : Span) (last : List UInt8) (i : Nat) (mv : Bool) (hi : (i : Int) < n.kids) (hkb : n.kids ≤ 9223372036854775807) (hc : s.kids.length ≤ 1000)
    (kid : Span) (hcall : ∀ d st, callV G cl d (.fn (.func 91) [] []) [nds l, .int .i64 s.stop] st = some (.val (spanV kid) st)) :
    rX 91 (lc Tryz.f91 0) (codeX G cl lp 91 (lc Tryz.f91 0) (valσ l at_ s last i mv)) = some (.normal, valσ l at_ ⟨kid.stop, max s.deep kid.deep, s.kids ++ [s.stop]⟩ last (i + 1) true) := by
  have h1 : (at_ : Int) < l.length := by have := (List.getElem?_eq_some_iff.1 hn).1; omega
  have hL : s.kids.length + 1 ≤ LIM := by unfold LIM; omega
  have hw : IntKind.i64.wrap ((i : Int) + 1) = (i : Int) + 1 := i64_wrap (by omega) (by have := hi; omega)
  simp [lc, loopsOf, Tryz.f91]
  simp at hcall
  simp [h1, hn, hi, hk, hcall, hL, hw, max_cast]
set_option maxHeartbeats 8000000 in
theorem value_plain_pan (l : List Nd) (at_ : Nat) (n : Nd) (hn : l[at_]? = some n) (hk : n.kind ≠ 5) (s : Span) (last : List UInt8) (i : Nat) (mv : Bool) (hi : (i : Int) < n.kids) (hc : s.kids.length ≤ 1000)
    (hcall : ∀ d st, callV G cl d (.fn (.func 91) [] []) [nds l, .int .i64 s.stop] st = some (.pan oddV st)) :
    ∃ s', rX 91 (lc Tryz.f91 0) (codeX G cl lp 91 (lc Tryz.f91 0) (valσ l at_ s last i mv)) = some (.pan oddV, s') := by
  have h1 : (at_ : Int) < l.length := by have := (List.getElem?_eq_some_iff.1 hn).1; omega
  have hL : s.kids.length + 1 ≤ LIM := by unfold LIM; omega
  simp [lc, loopsOf, Tryz.f91]
  simp at hcall
  simp [h1, hn, hi, hk, hcall, hL]
set_option maxHeartbeats 8000000 in
theorem value_map (l : List Nd) (at_ : Nat) (n : Nd) (hn : l[at_]? = some n) (hk : n.kind = 5) (s : Span) (last : List UInt8) (i : Nat) (mv : Bool) (hi : (i : Int) < n.kids) (hkb : n.kids ≤ 9223372036854775807) (hc : s.kids.length ≤ 1000)
    (m : Nd) (hm : l[s.stop]? = some m) (hmk : m.kind = 3) (hmf : fitsS m = true) (hml : i = 0 ∨ ltB last m.text = true) (hsb : s.stop ≤ 1000)
    (kid : Span) (hcall : ∀ d st, callV G cl d (.fn (.func 91) [] []) [nds l, .int .i64 ((s.stop + 1 : Nat) : Int)] st = some (.val (spanV kid) st)) :
    rX 91 (lc Tryz.f91 0) (codeX G cl lp 91 (lc Tryz.f91 0) (valσ l at_ s last i mv)) = some (.normal, valσ l at_ ⟨kid.stop, max s.deep kid.deep, s.kids ++ [s.stop + 1]⟩ m.text (i + 1) true) := by
  have h1 : (at_ : Int) < l.length := by have := (List.getElem?_eq_some_iff.1 hn).1; omega
  have h2 : (s.stop : Int) < l.length := by have := (List.getElem?_eq_some_iff.1 hm).1; omega
  have hL : s.kids.length + 1 ≤ LIM := by unfold LIM; omega
  have hw : IntKind.i64.wrap ((i : Int) + 1) = (i : Int) + 1 := i64_wrap (by omega) (by have := hi; omega)
  have hw2 : IntKind.i64.wrap ((s.stop : Int) + 1) = (s.stop : Int) + 1 := i64_wrap (by omega) (by omega)
  have hmf' : fitsS ⟨3, m.num, m.text, m.kids⟩ = true := by rw [← hmk]; exact hmf
  simp [lc, loopsOf, Tryz.f91]
  simp at hcall
  rcases hml with hml | hml
  · subst hml
    simp only [Int.natCast_zero, Int.zero_add] at hi hw
    simp [h1, h2, hn, hm, hmk, hmf', hi, hk, hcall, hL, hw, hw2, max_cast, need_call_t, fits_call]
  · simp [h1, h2, hn, hm, hmk, hmf', hml, hi, hk, hcall, hL, hw, hw2, max_cast, need_call_t, fits_call]
set_option maxHeartbeats 8000000 in
theorem value_map_pan (l : List Nd) (at_ : Nat) (n : Nd) (hn : l[at_]? = some n) (hk : n.kind = 5) (s : Span) (last : List UInt8) (i : Nat) (mv : Bool) (hi : (i : Int) < n.kids) (hc : s.kids.length ≤ 1000)
    (m : Nd) (hm : l[s.stop]? = some m) (hmk : m.kind = 3) (hmf : fitsS m = true) (hml : i = 0 ∨ ltB last m.text = true) (hsb : s.stop ≤ 1000)
    (hcall : ∀ d st, callV G cl d (.fn (.func 91) [] []) [nds l, .int .i64 ((s.stop + 1 : Nat) : Int)] st = some (.pan oddV st)) :
    ∃ s', rX 91 (lc Tryz.f91 0) (codeX G cl lp 91 (lc Tryz.f91 0) (valσ l at_ s last i mv)) = some (.pan oddV, s') := by
  have h1 : (at_ : Int) < l.length := by have := (List.getElem?_eq_some_iff.1 hn).1; omega
  have h2 : (s.stop : Int) < l.length := by have := (List.getElem?_eq_some_iff.1 hm).1; omega
  have hL : s.kids.length + 1 ≤ LIM := by unfold LIM; omega
  have hw2 : IntKind.i64.wrap ((s.stop : Int) + 1) = (s.stop : Int) + 1 := i64_wrap (by omega) (by omega)
  have hmf' : fitsS ⟨3, m.num, m.text, m.kids⟩ = true := by rw [← hmk]; exact hmf
  simp [lc, loopsOf, Tryz.f91]
  simp at hcall
  rcases hml with hml | hml
  · subst hml
    simp only [Int.natCast_zero] at hi
    simp [h1, h2, hn, hm, hmk, hmf', hi, hk, hcall, hL, hw2, need_call_t, fits_call]
  · simp [h1, h2, hn, hm, hmk, hmf', hml, hi, hk, hcall, hL, hw2, need_call_t, fits_call]
set_option maxHeartbeats 8000000 in
theorem value_map_end (l : List Nd) (at_ : Nat) (n : Nd) (hn : l[at_]? = some n) (hk : n.kind = 5) (s : Span) (last : List UInt8) (i : Nat) (mv : Bool) (hi : (i : Int) < n.kids) (hm : l[s.stop]? = none) :
    ∃ s', rX 91 (lc Tryz.f91 0) (codeX G cl lp 91 (lc Tryz.f91 0) (valσ l at_ s last i mv)) = some (.pan oddV, s') := by
  have h1 : (at_ : Int) < l.length := by have := (List.getElem?_eq_some_iff.1 hn).1; omega
  have h2 : ¬ (s.stop : Int) < l.length := by have := List.getElem?_eq_none_iff.1 hm; omega
  simp [lc, loopsOf, Tryz.f91]
  simp [h1, h2, hn, hi, hk, need_call_f, oddV]
set_option maxHeartbeats 8000000 in
theorem value_map_bad (l : List Nd) (at_ : Nat) (n : Nd) (hn : l[at_]? = some n) (hk : n.kind = 5) (s : Span) (last : List UInt8) (i : Nat) (mv : Bool) (hi : (i : Int) < n.kids)
    (m : Nd) (hm : l[s.stop]? = some m) (hbad : m.kind ≠ 3 ∨ (m.kind = 3 ∧ fitsS m = false) ∨ (m.kind = 3 ∧ fitsS m = true ∧ i ≠ 0 ∧ ltB last m.text = false)) :
    ∃ s', rX 91 (lc Tryz.f91 0) (codeX G cl lp 91 (lc Tryz.f91 0) (valσ l at_ s last i mv)) = some (.pan oddV, s') := by
  have h1 : (at_ : Int) < l.length := by have := (List.getElem?_eq_some_iff.1 hn).1; omega
  have h2 : (s.stop : Int) < l.length := by have := (List.getElem?_eq_some_iff.1 hm).1; omega
  simp [lc, loopsOf, Tryz.f91]
  rcases hbad with q | ⟨q1, q⟩ | ⟨q1, q2, q3, q4⟩
  · simp [h1, h2, hn, hm, q, hi, hk, need_call_t, need_call_f, fits_call, oddV]
  · have hmf' : fitsS ⟨3, m.num, m.text, m.kids⟩ = false := by rw [← q1]; exact q
    simp [h1, h2, hn, hm, q1, hmf', hi, hk, need_call_t, need_call_f, fits_call, oddV]
  · have hmf' : fitsS ⟨3, m.num, m.text, m.kids⟩ = true := by rw [← q1]; exact q2
    simp [h1, h2, hn, hm, q1, hmf', q3, q4, hi, hk, need_call_t, need_call_f, fits_call, oddV]
def valE (l : List Nd) (at_ : Nat) (s : Span) (last : List UInt8) (i : Nat) (mv : Bool) : ASt :=
  ⟨[(0, nds l), (1, .int .i64 at_), (4, .ptr 1004 0 0), (5, .ptr 1005 0 0), (6, .str last), (7, .int .i64 i), (31, .bool false)], (valσ l at_ s last i mv).hp⟩
theorem value_exit (l : List Nd) (at_ : Nat) (n : Nd) (hn : l[at_]? = some n) (s : Span) (last : List UInt8) (i : Nat) (mv : Bool) (hi : ¬ (i : Int) < n.kids) :
    rX 91 (lc Tryz.f91 0) (codeX G cl lp 91 (lc Tryz.f91 0) (valσ l at_ s last i mv)) = some (.exit 0, valE l at_ s last i mv) := by
  have h1 : (at_ : Int) < l.length := by have := (List.getElem?_eq_some_iff.1 hn).1; omega
  simp [lc, loopsOf, Tryz.f91]
  simp [h1, hn, hi, valE]
end Go.Proofs.YtcgkneolohcdeaaGreat


/- What the functions come to: tree.value. -/
namespace Go.Proofs.YtcgkneolohcdeaaGreat
open Go Abs
set_option linter.unusedSimpArgs false
set_option linter.unusedVariables false

/-- Where a kid begins; of a map behind its key. -/
def keyS (l : List Nd) (isMap : Bool) (i : Nat) (stop : Nat) (last : List UInt8) : Option (Nat × List UInt8) :=
  if isMap then (match l[stop]? with
    | some k => if k.kind = 3 ∧ fitsS k = true ∧ (i = 0 ∨ ltB last k.text = true) then some (stop + 1, k.text) else none
    | none => none)
  else some (stop, last)
def kidsS (val : Nat → Option Span) (l : List Nd) (isMap : Bool) : Nat → Nat → Span → List UInt8 → Option Span
  | 0, _, s, _ => some s
  | c + 1, i, s, last => (keyS l isMap i s.stop last).bind fun p => (val p.1).bind fun kid => kidsS val l isMap c (i + 1) ⟨kid.stop, max s.deep kid.deep, s.kids ++ [p.1]⟩ p.2
/-- The value at a place, gone through. -/
def valS (l : List Nd) : Nat → Nat → Option Span
  | 0, _ => none
  | k + 1, at_ => (l[at_]?).bind fun n => if fitsS n then (kidsS (valS l k) l (decide (n.kind = 5)) n.kids.toNat 0 ⟨at_ + 1, 0, []⟩ []).map fun s => { s with deep := s.deep + 1 } else none

theorem keyS_ge {l : List Nd} {b i stop last p} (h : keyS l b i stop last = some p) : stop ≤ p.1 := by
  unfold keyS at h
  split at h
  · split at h
    · split at h
      · cases h; simp
      · cases h
    · cases h
  · cases h; simp
theorem kidsS_spec {val : Nat → Option Span} {l : List Nd} {b : Bool} {A : Nat} (hv : ∀ st s, val st = some s → st < s.stop ∧ s.stop ≤ l.length ∧ s.deep + st ≤ s.stop) : ∀ {c i s last r}, kidsS val l b c i s last = some r → s.stop ≤ l.length → A ≤ s.stop → s.deep + A ≤ s.stop → s.stop ≤ r.stop ∧ r.stop ≤ l.length ∧ r.deep + A ≤ r.stop := by
  intro c
  induction c with
  | zero => intro i s last r h h1 h2 h3; cases h; exact ⟨Nat.le_refl _, h1, h3⟩
  | succ c ih =>
    intro i s last r h h1 h2 h3
    simp only [kidsS] at h
    rw [Option.bind_eq_some_iff] at h; obtain ⟨p, hp, h⟩ := h
    rw [Option.bind_eq_some_iff] at h; obtain ⟨kid, hk, h⟩ := h
    obtain ⟨g1, g2, g3⟩ := hv _ _ hk
    have := keyS_ge hp
    obtain ⟨k1, k2, k3⟩ := ih h g2 (by simp only; omega) (by simp only; omega)
    simp only at k1
    exact ⟨by omega, k2, k3⟩
theorem valS_spec {l : List Nd} : ∀ {k at_ s}, valS l k at_ = some s → at_ < s.stop ∧ s.stop ≤ l.length ∧ s.deep + at_ ≤ s.stop := by
  intro k
  induction k with
  | zero => intro at_ s h; cases h
  | succ k ih =>
    intro at_ s h
    simp only [valS] at h
    rw [Option.bind_eq_some_iff] at h; obtain ⟨n, hn, h⟩ := h
    split at h
    · obtain ⟨r, hr, rfl⟩ := Option.map_eq_some_iff.1 h
      have hlt := (List.getElem?_eq_some_iff.1 hn).1
      obtain ⟨h1, h2, h3⟩ := kidsS_spec (A := at_ + 1) (fun st s hs => ih hs) hr (by simp only; omega) (by simp) (by simp)
      simp only at h1 ⊢
      exact ⟨by omega, h2, by omega⟩
    · cases h

/-- What 'value' is told as. -/
def valR : Option Span → ARes
  | some s => .ret (spanV s)
  | none => .pan oddV

theorem value_loop (l : List Nd) (hl : l.length ≤ 900) (k at_ : Nat) (n : Nd) (hn : l[at_]? = some n) (hkb : n.kids ≤ 9223372036854775807)
    (ih : ∀ st, at_ < st → cl 91 [nds l, .int .i64 (st : Int)] [] = some (valR (valS l k st), [])) : ∀ (c i : Nat) (s : Span) (last : List UInt8) (mv : Bool), i + c = n.kids.toNat → at_ < s.stop → s.stop ≤ l.length → s.kids.length ≤ s.stop →
    match kidsS (valS l k) l (decide (n.kind = 5)) c i s last with
    | some sp => ∃ mv' last' i', lp 91 (lc Tryz.f91 0) (valσ l at_ s last i mv) = some (.exit 0, valE l at_ sp last' i' mv')
    | none => ∃ s', lp 91 (lc Tryz.f91 0) (valσ l at_ s last i mv) = some (.pan oddV, s') := by
  have call : ∀ st : Nat, at_ < st → ∀ d (w : ASt), callV G cl d (.fn (.func 91) [] []) [nds l, .int .i64 (st : Int)] w = some (pureR w (valR (valS l k st))) := by
    intro st hst d w
    refine callV_pure E91 (by decide) ext91 rfl rfl (ih st hst) ?_
    cases valS l k st <;> rfl
  intro c
  induction c with
  | zero =>
    intro i s last mv hi h1 h2 h3
    exact ⟨mv, last, i, loop_out (value_exit l at_ n hn s last i mv (by omega)) (by simp)⟩
  | succ c ihc =>
    intro i s last mv hi h1 h2 h3
    have hi' : (i : Int) < n.kids := by omega
    have hL : s.kids.length ≤ 1000 := by omega
    simp only [kidsS]
    by_cases hk : n.kind = 5
    · simp only [hk, decide_true] at ihc ⊢
      cases hm : l[s.stop]? with
      | none =>
        simp only [keyS, hm, if_true, Option.bind_none]
        obtain ⟨s', h⟩ := value_map_end l at_ n hn hk s last i mv hi' hm
        exact ⟨s', loop_out h (by simp)⟩
      | some m =>
        simp only [keyS, hm, if_true]
        by_cases hc : m.kind = 3 ∧ fitsS m = true ∧ (i = 0 ∨ ltB last m.text = true)
        · obtain ⟨c1, c2, c3⟩ := hc
          rw [if_pos ⟨c1, c2, c3⟩]
          simp only [Option.bind_some]
          have hcall := call (s.stop + 1) (by omega)
          cases hv : valS l k (s.stop + 1) with
          | none =>
            rw [hv] at hcall
            obtain ⟨s', h⟩ := value_map_pan l at_ n hn hk s last i mv hi' hL m hm c1 c2 c3 (by omega) (fun d st => hcall d st)
            exact ⟨s', loop_out h (by simp)⟩
          | some kid =>
            rw [hv] at hcall
            have h := value_map l at_ n hn hk s last i mv hi' hkb hL m hm c1 c2 c3 (by omega) kid (fun d st => hcall d st)
            obtain ⟨g1, g2, g3⟩ := valS_spec hv
            have := ihc (i + 1) ⟨kid.stop, max s.deep kid.deep, s.kids ++ [s.stop + 1]⟩ m.text true (by omega) (by simp only; omega) g2 (by simp; omega)
            simp only [Option.bind_some]
            split at this
            · rename_i sp hsp
              obtain ⟨mv', last', i', hr⟩ := this
              exact ⟨mv', last', i', loop_next h hr⟩
            · rename_i hsp
              obtain ⟨s', hr⟩ := this
              exact ⟨s', loop_next h hr⟩
        · rw [if_neg hc]
          simp only [Option.bind_none]
          have hbad : m.kind ≠ 3 ∨ (m.kind = 3 ∧ fitsS m = false) ∨ (m.kind = 3 ∧ fitsS m = true ∧ i ≠ 0 ∧ ltB last m.text = false) := by
            by_cases q1 : m.kind = 3
            · cases q2 : fitsS m with
              | false => exact .inr (.inl ⟨q1, rfl⟩)
              | true =>
                by_cases q3 : i = 0
                · exact absurd ⟨q1, q2, .inl q3⟩ hc
                · cases q4 : ltB last m.text with
                  | true => exact absurd ⟨q1, q2, .inr q4⟩ hc
                  | false => exact .inr (.inr ⟨q1, rfl, q3, rfl⟩)
            · exact .inl q1
          obtain ⟨s', h⟩ := value_map_bad l at_ n hn hk s last i mv hi' m hm hbad
          exact ⟨s', loop_out h (by simp)⟩
    · simp only [hk, decide_false] at ihc ⊢
      simp only [keyS, Bool.false_eq_true, if_false, Option.bind_some]
      have hcall := call s.stop h1
      cases hv : valS l k s.stop with
      | none =>
        rw [hv] at hcall
        obtain ⟨s', h⟩ := value_plain_pan l at_ n hn hk s last i mv hi' hL (fun d st => hcall d st)
        exact ⟨s', loop_out h (by simp)⟩
      | some kid =>
        rw [hv] at hcall
        have h := value_plain l at_ n hn hk s last i mv hi' hkb hL kid (fun d st => hcall d st)
        obtain ⟨g1, g2, g3⟩ := valS_spec hv
        have := ihc (i + 1) ⟨kid.stop, max s.deep kid.deep, s.kids ++ [s.stop]⟩ last true (by omega) (by simp only; omega) g2 (by simp; omega)
        simp only [Option.bind_some]
        split at this
        · rename_i sp hsp
          obtain ⟨mv', last', i', hr⟩ := this
          exact ⟨mv', last', i', loop_next h hr⟩
        · rename_i hsp
          obtain ⟨s', hr⟩ := this
          exact ⟨s', loop_next h hr⟩

-- What a loop's head is unfolded by, where there is memory.
attribute [local simp] canonK canonAll canonSlot canonCell canonBox ownStep restrictTo pureCells pureRows reachL AObj.names List.range_succ appendA spanV intsL valσ nds Nd.v

def Nd.inR (n : Nd) : Prop := -9223372036854775808 ≤ n.num ∧ n.num ≤ 9223372036854775807 ∧ -9223372036854775808 ≤ n.kids ∧ n.kids ≤ 9223372036854775807

set_option maxHeartbeats 8000000 in
theorem value_beyond (l : List Nd) (at_ : Nat) (h : l[at_]? = none) : cl 91 [nds l, .int .i64 (at_ : Int)] [] = some (.pan oddV, []) := by
  have h1 : ¬ (at_ : Int) < l.length := by have := List.getElem?_eq_none_iff.1 h; omega
  refine fn_intro Tryz.func91 rfl (by simp) (by decide) rfl ?_
  simp [Tryz.f91, h1, need_call_f]
  exact end_pan rfl
set_option maxHeartbeats 8000000 in
theorem value_bad (l : List Nd) (at_ : Nat) (n : Nd) (hn : l[at_]? = some n) (hf : fitsS n = false) : cl 91 [nds l, .int .i64 (at_ : Int)] [] = some (.pan oddV, []) := by
  have h1 : (at_ : Int) < l.length := by have := (List.getElem?_eq_some_iff.1 hn).1; omega
  refine fn_intro Tryz.func91 rfl (by simp) (by decide) rfl ?_
  simp [Tryz.f91, h1, hn, hf, need_call_f, fits_call]
  exact end_pan rfl
set_option maxHeartbeats 8000000 in
theorem value_eq (l : List Nd) (hl : l.length ≤ 900) (hr : ∀ n ∈ l, n.inR) : ∀ (k at_ : Nat), l.length < at_ + k → cl 91 [nds l, .int .i64 (at_ : Int)] [] = some (valR (valS l k at_), []) := by
  intro k
  induction k with
  | zero =>
    intro at_ h
    exact value_beyond l at_ (List.getElem?_eq_none_iff.2 (by omega))
  | succ k ih =>
    intro at_ h
    simp only [valS]
    cases hn : l[at_]? with
    | none => exact value_beyond l at_ hn
    | some n =>
      simp only [Option.bind_some]
      cases hf : fitsS n with
      | false => exact value_bad l at_ n hn hf
      | true =>
        have hlt := (List.getElem?_eq_some_iff.1 hn).1
        have hnr := hr n (List.mem_of_getElem? hn)
        have h1 : (at_ : Int) < l.length := by omega
        have hw : IntKind.i64.wrap ((at_ : Int) + 1) = (at_ : Int) + 1 := i64_wrap (by omega) (by omega)
        have hloop := value_loop l hl k at_ n hn hnr.2.2.2 (fun st hst => ih st (by omega)) n.kids.toNat 0 ⟨at_ + 1, 0, []⟩ [] false (by omega) (by simp) (by simp only; omega) (by simp)
        have hbd : ∀ r, kidsS (valS l k) l (decide (n.kind = 5)) n.kids.toNat 0 ⟨at_ + 1, 0, []⟩ [] = some r → r.deep ≤ 900 := fun r hr => by
          obtain ⟨_, q1, q2⟩ := kidsS_spec (A := at_ + 1) (fun st s hs => valS_spec hs) hr (by simp only; omega) (by simp) (by simp)
          omega
        refine fn_intro Tryz.func91 rfl (by simp) (by decide) rfl ?_
        cases hks : kidsS (valS l k) l (decide (n.kind = 5)) n.kids.toNat 0 ⟨at_ + 1, 0, []⟩ [] with
        | none =>
          rw [hks] at hloop
          obtain ⟨s', hx⟩ := hloop
          simp [lc, loopsOf, Tryz.f91] at hx
          simp [Tryz.f91, h1, hn, hf, need_call_t, fits_call, hw, hx, valR]
          exact end_pan rfl
        | some sp =>
          rw [hks] at hloop
          obtain ⟨mv', last', i', hx⟩ := hloop
          have hd := hbd sp hks
          simp [lc, loopsOf, Tryz.f91] at hx
          have hw2 : IntKind.i64.wrap ((sp.deep : Int) + 1) = (sp.deep : Int) + 1 := i64_wrap (by omega) (by omega)
          simp [Tryz.f91, h1, hn, hf, need_call_t, fits_call, hw, hx, valR, valE, hw2]
          exact end_rv (.inr rfl) (by simp [resL]; rfl) (by simp) (by simp) rfl
end Go.Proofs.YtcgkneolohcdeaaGreat


/- The arguments, as they lie in memory. -/
namespace Go.Proofs.YtcgkneolohcdeaaGreat
open Go Abs Go.RowKit
set_option linter.unusedSimpArgs false
set_option linter.unusedVariables false

section
variable {H : Type} {enc : TypeId × Value → H} {W : World}

theorem Nd.inR_of {k : Int} (h : (Lit.int .i64 k).wf = true) : -9223372036854775808 ≤ k ∧ k ≤ 9223372036854775807 := by
  simp only [Lit.wf, Bool.and_eq_true, decide_eq_true_eq] at h
  exact h

theorem list4 {α : Type} {cs : List α} (h : cs.length = 4) : ∃ a b c d, cs = [a, b, c, d] := by
  match cs, h with
  | [a, b, c, d], _ => exact ⟨a, b, c, d, rfl⟩

theorem node_open {n : Nat} {cs : List Value} {x : DataW H × List MemPlace} (h : DataW.trod enc Tryz.prog W 0 (fun _ => true) true n 39 cs = some x) :
    ∃ (m : Nd) (s : ByteArray), cs = [.int .i64 m.kind, .int .i64 m.num, .string s, .int .i64 m.kids] ∧ m.text = s.data.toList ∧ m.inR := by
  obtain ⟨y0, y1, y2, y3, n', _, hl, h0, h1, h2, h3⟩ := Joins.trod_struct4 Tryz.underlying39 h
  rw [show Tryz.prog.cellsOf 39 = 4 from by kernel_rfl] at hl
  obtain ⟨a, b, c, d, rfl⟩ := list4 hl
  obtain ⟨k0, e0, _, w0⟩ := DataW.trod_int Tryz.underlying37 h0
  obtain ⟨k1, e1, _, w1⟩ := DataW.trod_int Tryz.underlying2 h1
  obtain ⟨s, e2, _, _⟩ := DataW.trod_string Tryz.underlying9 h2
  obtain ⟨k3, e3, _, w3⟩ := DataW.trod_int Tryz.underlying3 h3
  simp at e0 e1 e2 e3
  subst e0 e1 e2 e3
  exact ⟨⟨k0, k1, s.data.toList, k3⟩, s, rfl, rfl, (Nd.inR_of w1).1, (Nd.inR_of w1).2, (Nd.inR_of w3).1, (Nd.inR_of w3).2⟩

/-- What the memory at the call's beginning holds stays. -/
def allS (W : World) : Stab := fun b _ => b < W.heap.size

theorem spot_none {w : World} {a : Addr} {v : Value} (h : w.cell? a = some v) : a.spot = none ∧ a.block < w.heap.size := by
  unfold World.cell? at h
  split at h
  · rename_i c t fr hb
    split at h
    · cases h
    · rename_i hs
      refine ⟨by cases hsp : a.spot <;> simp_all, (Array.getElem?_eq_some_iff.1 hb).1⟩
  · cases h

theorem nodes_open {n : Nat} {cs : List Value} {x : DataW H × List MemPlace} (h : DataW.trod enc Tryz.prog W 0 (fun _ => true) true n 22 cs = some x) :
    ∃ (v : Value) (l : List Nd), cs = [v] ∧ (∀ m ∈ l, m.inR) ∧ PR (allS W) W (nds l) v := by
  rcases Deep.open_slice Tryz.underlying22 h with ⟨rfl, _⟩ | ⟨a, len, cap, m, n', D, Pl, rfl, _, hlc, hcm, hm, _, hel⟩
  · exact ⟨_, [], rfl, fun m hm => by simp at hm, .empty 4 none 0 (fun e => by omega)⟩
  · simp only [if_true] at hm
    subst hm
    have hc46 : Tryz.prog.cellsOf 39 = 4 := by kernel_rfl
    have each : ∀ i, i < len → ∃ q : Nd × ByteArray, q.1.text = q.2.data.toList ∧ q.1.inR ∧ ∀ j c, [Value.int .i64 q.1.kind, .int .i64 q.1.num, .string q.2, .int .i64 q.1.kids][j]? = some c → W.cell? ((a.add (i * 4)).add j) = some c := by
      intro i hi
      obtain ⟨cs', h1, h2⟩ := hel i (by omega)
      rw [hc46] at h1
      obtain ⟨q, s, rfl, h3, h4⟩ := node_open h2
      obtain ⟨_, _, h5⟩ := World.cells?_some h1
      refine ⟨(q, s), h3, h4, fun j c hj => ?_⟩
      have hj4 : j < 4 := by have := (List.getElem?_eq_some_iff.1 hj).1; simpa using this
      rw [h5 j hj4]; exact hj
    by_cases hlen : len = 0
    · subst hlen
      exact ⟨_, [], rfl, fun m hm => by simp at hm, .empty 4 (some a) _ (fun e => by omega)⟩
    · have hsp : a.spot = none ∧ a.block < W.heap.size := by
        obtain ⟨q, _, _, h3⟩ := each 0 (by omega)
        have := h3 0 _ rfl
        simp only [Nat.zero_mul, Addr.add, if_true] at this
        exact spot_none this
      obtain ⟨b, off, sp⟩ := a
      simp only at hsp
      obtain ⟨rfl, hb⟩ := hsp
      let N : Nat → Nd × ByteArray := fun i => if hi : i < len then (each i hi).choose else (⟨0, 0, [], 0⟩, ByteArray.empty)
      have hN : ∀ i, (hi : i < len) → (N i).1.text = (N i).2.data.toList ∧ (N i).1.inR ∧ ∀ j c, [Value.int .i64 (N i).1.kind, .int .i64 (N i).1.num, .string (N i).2, .int .i64 (N i).1.kids][j]? = some c → W.cell? (((⟨b, off, none⟩ : Addr).add (i * 4)).add j) = some c := by
        intro i hi
        simp only [N, dif_pos hi]
        exact (each i hi).choose_spec
      refine ⟨_, (List.range len).map fun i => (N i).1, rfl, fun m hm => ?_, ?_⟩
      · obtain ⟨i, hi, rfl⟩ := List.mem_map.1 hm
        exact (hN i (List.mem_range.1 hi)).2.1
      · have hget : ∀ (i : Nat) e, (((List.range len).map fun i => (N i).1).map Nd.v)[i]? = some e → i < len ∧ e = (N i).1.v := by
          intro i e he
          simp only [List.getElem?_map] at he
          obtain ⟨q, hq, rfl⟩ := Option.map_eq_some_iff.1 he
          obtain ⟨r, hr, rfl⟩ := Option.map_eq_some_iff.1 hq
          obtain ⟨hi, rfl⟩ := List.getElem?_eq_some_iff.1 hr
          simp only [List.length_range] at hi
          simp [hi]
        have hcell : ∀ (i j : Nat) e c, (((List.range len).map fun i => (N i).1).map Nd.v)[i]? = some e → e.cells[j]? = some c →
            ∃ u, [Value.int .i64 (N i).1.kind, .int .i64 (N i).1.num, .string (N i).2, .int .i64 (N i).1.kids][j]? = some u ∧ PR (allS W) W c u ∧ scalarV u = true := by
          intro i j e c he hj
          obtain ⟨hi, rfl⟩ := hget i e he
          obtain ⟨t1, _, _⟩ := hN i hi
          simp only [Nd.v, AV.cells] at hj
          match j, hj with
          | 0, hj => cases hj; exact ⟨_, rfl, .int _ _, rfl⟩
          | 1, hj => cases hj; exact ⟨_, rfl, .int _ _, rfl⟩
          | 2, hj => cases hj; exact ⟨_, rfl, t1 ▸ .str _, rfl⟩
          | 3, hj => cases hj; exact ⟨_, rfl, .int _ _, rfl⟩
          | j + 4, hj => simp at hj
        have := PR.list (S := allS W) (w := W) (((List.range len).map fun i => (N i).1).map Nd.v) b off m 4
          (fun i j => ([Value.int .i64 (N i).1.kind, .int .i64 (N i).1.num, .string (N i).2, .int .i64 (N i).1.kids][j]?).getD default) (by omega) (by simpa using hlc)
          (fun e he => by obtain ⟨q, _, rfl⟩ := List.mem_map.1 he; rfl) (fun i j e c he hj => hb)
          (fun i j e c he hj => by
            obtain ⟨hi, _⟩ := hget i e he
            obtain ⟨u, hu, _, _⟩ := hcell i j e c he hj
            rw [hu]
            have := (hN i hi).2.2 j u hu
            rwa [Deep.add_add, show (⟨b, off, none⟩ : Addr) = at0 b off from rfl, at0_add, ← Nat.add_assoc] at this)
          (fun i j e c he hj => by obtain ⟨u, hu, _, hs⟩ := hcell i j e c he hj; rw [hu]; exact hs)
          (fun i j e c he hj => by obtain ⟨u, hu, hp, _⟩ := hcell i j e c he hj; rw [hu]; exact hp)
        simp only [List.length_map, List.length_range] at this
        exact this
end
end Go.Proofs.YtcgkneolohcdeaaGreat


/- A law's row, out of its equation. -/
namespace Go.Proofs.YtcgkneolohcdeaaGreat
open Go Abs Go.ChangeShapes Go.WideShapes Go.ChangeAt Go.RowKit
set_option linter.unusedVariables false

theorem own : ownKnob Tryz.prog.godebug = none := by kernel_rfl
theorem laidOut : laidOutB Tryz.prog = true := by kernel_rfl

/-- A law that is told to be true is true of whatever lies in memory. -/
theorem law_run {g : FuncId} {args : List AV} (hg : g < RB) (hE : G.E g = true) (h : cl g args [] = some (.ret (.bool true), [])) (W : World) (vs : Array Value) (hl : args.length = vs.size)
    (hv : ∀ (j : Nat) c v, args[j]? = some c → vs[j]? = some v → PR (allS W) W c v) (hgl : GlobOK (allS W) W := by (intro g v h; cases h)) : Calls Tryz.prog g vs W fun e W' => e = .returned (.bool true) ∧ Below W.heap.size W W' := by
  have hs := callL_ok GS primOK hg hE h
  refine (CallsIn.calls (hs (allS W) (fun _ => none) W vs ⟨fun n q hq => (by cases hq), hgl⟩ ⟨fun n o ho => (by cases ho), fun n _ => rfl, fun n m b sz sz' k k' hq => (by cases hq)⟩ (fun b o hb => hb) hl (fun j c v hc hv' =>   .pure (hv j c v hc hv'))) (fun k d hd => by cases hd)).mono fun e W' ⟨S', ρ', hout, hans⟩ => ?_
  cases e with
  | panicked ch => exact hans.elim
  | outgrown => exact hans.elim
  | returned u =>
  have hu : VR S' ρ' W' (.bool true) u := hans
  cases vr_bool hu
  refine ⟨rfl, ?_⟩
  have f := hout.fr
  exact ⟨f.os, f.tape, f.output, f.size, fun k hk => f.keep k hk (fun hF => by obtain ⟨n, sz, k', hq⟩ := hF; cases hq)⟩

theorem nodes_Trod {H : Type} {enc : TypeId × Value → H} {W : World} {a : Option Addr} {len cap : Nat} {d : DataW H} {p : List MemPlace} (h : DataW.Trod enc Tryz.prog W 0 (fun _ => true) true 22 (.slice a len cap) d p) :
    ∃ l : List Nd, (∀ m ∈ l, m.inR) ∧ PR (allS W) W (nds l) (.slice a len cap) := by
  obtain ⟨n, hn⟩ := h
  obtain ⟨v, l, hv, h1, h2⟩ := nodes_open hn
  have : v = .slice a len cap := by
    have e : (Value.slice a len cap).cells.toList = [.slice a len cap] := rfl
    rw [e] at hv
    exact (List.cons.inj hv).1.symm
  subst this
  exact ⟨l, h1, h2⟩

section
variable {S : Stab} {W : World} {a b c d : AV} {v u x y : Value}
theorem args3 (h1 : PR S W a v) (h2 : PR S W b u) (h3 : PR S W c x) : ∀ (j : Nat) e z, [a, b, c][j]? = some e → #[v, u, x][j]? = some z → PR S W e z := by
  intro j e z hc hx
  match j, hc with
  | 0, hc => cases hc; cases hx; exact h1
  | 1, hc => cases hc; cases hx; exact h2
  | 2, hc => cases hc; cases hx; exact h3
  | j + 3, hc => simp at hc
end
end Go.Proofs.YtcgkneolohcdeaaGreat


/- What the functions come to: tree.whole. -/
namespace Go.Proofs.YtcgkneolohcdeaaGreat
open Go Abs
set_option linter.unusedSimpArgs false
set_option linter.unusedVariables false

def zeroSpan : AV := .agg [.int .i64 0, .int .i64 0, .nils]
def st50 (l : List Nd) : ASt := ⟨[(0, nds l), (2, .ptr 1002 0 0), (3, .ptr 1003 0 0)], [(1003, .box 4 (.bool false)), (1002, .box 94 zeroSpan)]⟩
def st50b (l : List Nd) : ASt := ⟨(4, .fn (.func 90) [] [.ptr 1002 0 0, .ptr 1003 0 0]) :: (st50 l).sl, (st50 l).hp⟩
def st50c (l : List Nd) : ASt := ⟨[(4, .fn (.func 90) [] [.ptr 0 0 0, .ptr 1 0 0]), (0, nds l), (2, .ptr 0 0 0), (3, .ptr 1 0 0)], [(0, .box 94 zeroSpan), (1, .box 4 (.bool false))]⟩
def restOf (c : Code) : Code := match splitD c with | some q => q.2.2.2 | none => .skip

def sp3 (x y : Int) (ks : List AV) : AV := .agg [.int .i64 x, .int .i64 y, .list 1 ks]
theorem clo_ok (sl : Slots) (x y : Int) (ks : List AV) : callB G (runClosure G .nili) (some 40000) (.fn (.func 90) [] [.ptr 0 0 0, .ptr 1 0 0]) [] ⟨sl, [(0, .box 94 (sp3 x y ks)), (1, .box 4 (.bool true))]⟩ =
    some (.val (.tup []) ⟨sl, [(0, .box 94 (sp3 x y ks)), (1, .box 4 (.bool true)), (0, .box 94 (sp3 x y ks)), (1, .box 4 (.bool true))]⟩, []) := by kernel_rfl
theorem clo_pan1 (sl : Slots) (x y : Int) (ks : List AV) : callB G (runClosure G oddV) (some 40000) (.fn (.func 90) [] [.ptr 0 0 0, .ptr 1 0 0]) [] ⟨sl, [(0, .box 94 (sp3 x y ks)), (1, .box 4 (.bool false))]⟩ =
    some (.val (.tup []) ⟨sl, [(0, .box 94 zeroSpan), (1, .box 4 (.bool false)), (0, .box 94 (sp3 x y ks)), (1, .box 4 (.bool false))]⟩, []) := by kernel_rfl
theorem clo_pan0 (sl : Slots) : callB G (runClosure G oddV) (some 40000) (.fn (.func 90) [] [.ptr 0 0 0, .ptr 1 0 0]) [] ⟨sl, [(0, .box 94 zeroSpan), (1, .box 4 (.bool false))]⟩ =
    some (.val (.tup []) ⟨sl, [(0, .box 94 zeroSpan), (1, .box 4 (.bool false)), (0, .box 94 zeroSpan), (1, .box 4 (.bool false))]⟩, []) := by kernel_rfl

def sA (c : Code) : Code := match splitD c with | some q => q.1 | none => .skip
def sO (c : Code) : Array Oper := match splitD c with | some q => q.2.1 | none => #[]
def sF (c : Code) : Operand := match splitD c with | some q => q.2.2.1 | none => .func 0
noncomputable abbrev b50 : Code := Tryz.f62.body.getD .skip
/-- The rest goes well. -/
theorem whole_ok (l : List Nd) (x y : Int) (ks : List AV) (h : codeX G cl lp 62 (restOf (Tryz.f62.body.getD .skip)) (st50c l) = some (.ret, ⟨[(2, .ptr 0 0 0), (3, .ptr 1 0 0)], [(0, .box 94 (sp3 x y ks)), (1, .box 4 (.bool true))]⟩)) :
    cl 62 [nds l] [] = some (.ret (.tup [sp3 x y ks, .bool true]), []) :=
  call_intro (by decide) rfl (runD_of (fn := Tryz.f62) (A := sA b50) (ops := sO b50) (f := sF b50) (rest := restOf b50) (s0 := st50 l) (s1 := st50b l) (ns := [1002, 1003]) (x2 := .ret) (rv := .nili) (vs := [sp3 x y ks, .bool true]) (by simp) Tryz.func62 (by kernel_rfl) (by kernel_rfl) (by kernel_rfl) (by kernel_rfl) (by kernel_rfl) h (by kernel_rfl) rfl (clo_ok _ x y ks) (by kernel_rfl) (by kernel_rfl))
theorem whole_pan0 (l : List Nd) (sl : Slots) (h : codeX G cl lp 62 (restOf (Tryz.f62.body.getD .skip)) (st50c l) = some (.pan oddV, ⟨[(0, nds l), (2, .ptr 0 0 0), (3, .ptr 1 0 0)], [(0, .box 94 zeroSpan), (1, .box 4 (.bool false))]⟩)) :
    cl 62 [nds l] [] = some (.ret (.tup [zeroSpan, .bool false]), []) :=
  call_intro (by decide) rfl (runD_of (fn := Tryz.f62) (A := sA b50) (ops := sO b50) (f := sF b50) (rest := restOf b50) (s0 := st50 l) (s1 := st50b l) (ns := [1002, 1003]) (x2 := .pan oddV) (rv := oddV) (vs := [zeroSpan, .bool false]) (by simp) Tryz.func62 (by kernel_rfl) (by kernel_rfl) (by kernel_rfl) (by kernel_rfl) (by kernel_rfl) h (by kernel_rfl) (by kernel_rfl) (clo_pan0 _) (by kernel_rfl) (by kernel_rfl))
theorem whole_pan1 (l : List Nd) (x y : Int) (ks : List AV) (h : codeX G cl lp 62 (restOf (Tryz.f62.body.getD .skip)) (st50c l) = some (.pan oddV, ⟨[(2, .ptr 0 0 0), (3, .ptr 1 0 0)], [(0, .box 94 (sp3 x y ks)), (1, .box 4 (.bool false))]⟩)) :
    cl 62 [nds l] [] = some (.ret (.tup [zeroSpan, .bool false]), []) :=
  call_intro (by decide) rfl (runD_of (fn := Tryz.f62) (A := sA b50) (ops := sO b50) (f := sF b50) (rest := restOf b50) (s0 := st50 l) (s1 := st50b l) (ns := [1002, 1003]) (x2 := .pan oddV) (rv := oddV) (vs := [zeroSpan, .bool false]) (by simp) Tryz.func62 (by kernel_rfl) (by kernel_rfl) (by kernel_rfl) (by kernel_rfl) (by kernel_rfl) h (by kernel_rfl) (by kernel_rfl) (clo_pan1 _ x y ks) (by kernel_rfl) (by kernel_rfl))

/-- All of it is one value. -/
def wholeS (l : List Nd) : Option Span := (valS l (l.length + 1) 0).bind fun s => if s.stop = l.length then some s else none
def wholeR (l : List Nd) : AV := match wholeS l with | some s => .tup [spanV s, .bool true] | none => .tup [zeroSpan, .bool false]
theorem whole_eq (l : List Nd) (hl : l.length ≤ 900) (hr : ∀ n ∈ l, n.inR) : cl 62 [nds l] [] = some (.ret (wholeR l), []) := by
  have hv : ∀ d (w : ASt), callV G cl d (.fn (.func 91) [] []) [.list 4 (l.map Nd.v), .int .i64 0] w = some (pureR w (valR (valS l (l.length + 1) 0))) := by
    intro d w
    refine callV_pure E91 (by decide) ext91 rfl rfl (value_eq l hl hr (l.length + 1) 0 (by omega)) ?_
    cases valS l (l.length + 1) 0 <;> rfl
  unfold wholeR wholeS
  cases hs : valS l (l.length + 1) 0 with
  | none =>
    refine whole_pan0 l [] ?_
    simp [restOf, Tryz.f62, splitD, st50c, nds, hv, hs, valR, oddV]
  | some s =>
    simp only [Option.bind_some]
    by_cases he : s.stop = l.length
    · rw [if_pos he]
      have he' : (s.stop : Int) = l.length := by omega
      refine whole_ok l s.stop s.deep (intsL s.kids) ?_
      simp [restOf, Tryz.f62, splitD, st50c, nds, hv, hs, valR, zeroSpan, spanV, he', need_call_t, sp3]
    · rw [if_neg he]
      have he' : ¬ (s.stop : Int) = l.length := by omega
      refine whole_pan1 l s.stop s.deep (intsL s.kids) ?_
      simp [restOf, Tryz.f62, splitD, st50c, nds, hv, hs, valR, zeroSpan, spanV, he', need_call_f, sp3, oddV]
end Go.Proofs.YtcgkneolohcdeaaGreat


/- What the functions come to: tree.Check, tree.Depth. -/
namespace Go.Proofs.YtcgkneolohcdeaaGreat
open Go Abs
set_option linter.unusedSimpArgs false
set_option linter.unusedVariables false

/-- The error's number. -/
def checkS (l : List Nd) : Int :=
  if 120 < l.length ∨ longS l = true then 4 else match wholeS l with
    | none => 1
    | some s => if 32 < s.deep then 3 else 0

theorem whole_call {l : List Nd} (hl : l.length ≤ 900) (hr : ∀ n ∈ l, n.inR) {d : Option Nat} {st : ASt} : callV G cl d (.fn (.func 62) [] []) [nds l] st = some (.val (wholeR l) st) := by
  refine callV_ret E62 (by decide) ext62 rfl rfl (whole_eq l hl hr) ?_
  unfold wholeR; cases wholeS l <;> rfl

set_option maxHeartbeats 8000000 in
theorem check_eq (l : List Nd) (hb : l.length ≤ 9223372036854775806) (hr : ∀ n ∈ l, n.inR) : cl 43 [nds l] [] = some (.ret (.int .i64 (checkS l)), []) := by
  have hc := fun d st => contains49_call (l := l) hb (d := d) (st := st)
  refine fn_intro Tryz.func43 rfl (by simp) (by decide) rfl ?_
  simp only [nds] at hc
  by_cases h1 : 120 < l.length
  · have h1' : (120 : Int) < l.length := by omega
    simp [Tryz.f43, nds, h1']
    exact end_is (.inr rfl) (by simp; rfl) rfl (by simp [checkS, h1])
  have h1' : ¬ (120 : Int) < l.length := by omega
  cases h2 : longS l with
  | true =>
    simp [Tryz.f43, nds, h1', hc, h2]
    exact end_is (.inr rfl) (by simp; rfl) rfl (by simp [checkS, h2])
  | false =>
    have hw := fun d st => whole_call (l := l) (by omega) hr (d := d) (st := st)
    simp only [nds] at hw
    cases h3 : wholeS l with
    | none =>
      simp [Tryz.f43, nds, h1', hc, h2, hw, wholeR, h3, zeroSpan]
      exact end_is (.inr rfl) (by simp; rfl) rfl (by simp [checkS, h1, h2, h3])
    | some s =>
      by_cases h4 : 32 < s.deep
      · have h4' : (32 : Int) < s.deep := by omega
        simp [Tryz.f43, nds, h1', hc, h2, hw, wholeR, h3, spanV, h4']
        exact end_is (.inr rfl) (by simp; rfl) rfl (by simp [checkS, h1, h2, h3, h4])
      · have h4' : ¬ (32 : Int) < s.deep := by omega
        simp [Tryz.f43, nds, h1', hc, h2, hw, wholeR, h3, spanV, h4']
        exact end_is (.inr rfl) (by simp; rfl) rfl (by simp [checkS, h1, h2, h3, h4])
theorem check_call {l : List Nd} (hb : l.length ≤ 9223372036854775806) (hr : ∀ n ∈ l, n.inR) {d : Option Nat} {st : ASt} : callV G cl d (.fn (.func 43) [] []) [nds l] st = some (.val (.int .i64 (checkS l)) st) :=
  callV_ret E43 (by decide) ext43 rfl rfl (check_eq l hb hr) rfl

theorem checkS_ok {l : List Nd} (h : checkS l = 0) : l.length ≤ 120 ∧ longS l = false ∧ ∃ s, wholeS l = some s ∧ s.deep ≤ 32 := by
  unfold checkS at h
  split at h
  · cases h
  · rename_i hc
    simp only [not_or, Bool.not_eq_true] at hc
    split at h
    · cases h
    · rename_i s hs
      split at h
      · cases h
      · exact ⟨by omega, hc.2, s, hs, by omega⟩
theorem wholeS_some {l : List Nd} {s : Span} (h : wholeS l = some s) : valS l (l.length + 1) 0 = some s ∧ s.stop = l.length := by
  unfold wholeS at h
  rw [Option.bind_eq_some_iff] at h
  obtain ⟨t, h1, h2⟩ := h
  split at h2
  · cases h2; exact ⟨h1, by assumption⟩
  · cases h2

end Go.Proofs.YtcgkneolohcdeaaGreat


/- What the functions come to: the document's value, gone through. -/
namespace Go.Proofs.YtcgkneolohcdeaaGreat
open Go Abs
set_option linter.unusedSimpArgs false
set_option linter.unusedVariables false

/-- Numbers, in a row that may be nil. -/
def rowV (l : List Nat) : AV := if l = [] then .nils else .list 1 (intsL l)
@[simp high] theorem rowV_rv {hp l} : (rowV l).rv hp = rowV l := by unfold rowV; split <;> rfl
@[simp high] theorem rowV_names {l} : (rowV l).names = [] := by unfold rowV; split <;> rfl
@[simp high] theorem rowV_rows {l} : (rowV l).rows = [] := by unfold rowV; split <;> rfl
@[simp high] theorem rowV_ren {m l} : (rowV l).ren m = rowV l := by unfold rowV; split <;> rfl
@[simp high] theorem rowV_kill {n l} : (rowV l).kill n = rowV l := by unfold rowV; split <;> rfl
@[simp high] theorem rowV_cells {l} : (rowV l).cells = [rowV l] := by unfold rowV; split <;> rfl
@[simp high] theorem rowV_ok {l} : okCell (rowV l) = true := by unfold rowV; split <;> rfl
@[simp high] theorem rowV_known {l} : (rowV l).known = true := by unfold rowV; split <;> rfl
@[simp high] theorem rowV_beq {l} : AV.beq (rowV l) (rowV l) = true := by
  refine beq_self ?_
  unfold rowV
  split
  · rfl
  · exact plainBL_map (fun a => rfl) l
theorem rowV_nil : rowV [] = .nils := rfl
@[simp high] theorem rowV_src {hp l} : srcEls hp 1 (rowV l) = some (intsL l) := by
  unfold rowV
  split
  · rename_i h; subst h; rfl
  · simp
theorem rowV_app {l x} : rowV (l ++ [x]) = .list 1 (intsL (l ++ [x])) := by unfold rowV; rw [if_neg (by simp)]
theorem rowV_index {hp : Heap} {l : List Nat} {j k : Nat} (h : l[j]? = some k) : indexD Tryz.prog hp (some (.slice 3)) (rowV l) (j : Int) = some (.ep (.int .i64 (k : Int)) 0) := by
  have : l ≠ [] := by intro e; subst e; simp at h
  unfold rowV
  rw [if_neg this]
  simp [intsL, h]
@[simp] theorem plainBL_ints {l : List Nat} : AV.plainBL (intsL l) = true := plainBL_map (fun a => rfl) l

def seenV (stop deep : Int) (bad : Bool) (kids keys : List Nat) : AV := .agg [.int .i64 stop, .int .i64 deep, .bool bad, rowV kids, rowV keys]
def seenσ (l : List Nd) (at_ : Nat) (stop deep : Int) (bad : Bool) (kids keys : List Nat) (i : Nat) : ASt :=
  ⟨[(0, nds l), (1, .int .i64 at_), (4, .ptr 1004 0 0), (5, .ptr 1005 0 0), (6, .int .i64 i)],
   [(1004, .box 66 (.agg [.int .i64 0, .int .i64 0, .bool false, .nils, .nils])), (1005, .box 66 (seenV stop deep bad kids keys))]⟩

@[simp] theorem nds_beq {l : List Nd} : AV.beqL (l.map Nd.v) (l.map Nd.v) = true := beqL_self (plainBL_map (fun _ => rfl) l)
-- What a loop's head is unfolded by, where there is memory.
attribute [local simp] canonK canonAll canonSlot canonCell canonBox ownStep restrictTo pureCells pureRows reachL AObj.names List.range_succ appendA nds Nd.v seenσ seenV bsvV

set_option maxHeartbeats 8000000 in
theorem seen_plain (l : List Nd) (at_ : Nat) (n : Nd) (hn : l[at_]? = some n) (hk : n.kind ≠ 5) (stop deep : Int) (kids keys : List Nat) (i : Nat) (hi : (i : Int) < n.kids) (hkb : n.kids ≤ 9223372036854775807) (hc : kids.length ≤ 1000)
    (e d : Int) (b : Bool) (ks qs : List Nat) (st : Nat) (hst : stop = st) (hcall : ∀ d' w, callV G cl d' (.fn (.func 38) [] []) [nds l, .int .i64 stop] w = some (.val (seenV e d b ks qs) w)) :
    rX 38 (lc Tryz.f38 0) (codeX G cl lp 38 (lc Tryz.f38 0) (seenσ l at_ stop deep false kids keys i)) = some (.normal, seenσ l at_ e (max deep d) b (kids ++ [st]) keys (i + 1)) := by
  have h1 : (at_ : Int) < l.length := by have := (List.getElem?_eq_some_iff.1 hn).1; omega
  have hL : kids.length + 1 ≤ LIM := by unfold LIM; omega
  have hL' : kids.length ≤ LIM := by unfold LIM; omega
  have hw : IntKind.i64.wrap ((i : Int) + 1) = (i : Int) + 1 := i64_wrap (by omega) (by have := hi; omega)
  simp [lc, loopsOf, Tryz.f38]
  simp at hcall
  subst hst
  simp [h1, hn, hi, hk, hcall, hL, hL', hw, rowV_app, intsL]
set_option maxHeartbeats 8000000 in
theorem seen_map (l : List Nd) (at_ : Nat) (n : Nd) (hn : l[at_]? = some n) (hk : n.kind = 5) (st : Nat) (deep : Int) (kids keys : List Nat) (i : Nat) (hi : (i : Int) < n.kids) (hkb : n.kids ≤ 9223372036854775807) (hc : kids.length ≤ 1000) (hq : keys.length ≤ 1000) (hsb : st ≤ 1000)
    (m : Nd) (hm : l[st]? = some m) (hmk : m.kind = 3) (hmf : plainS m = true) (hml : i = 0 ∨ ∃ j q b, i = j + 1 ∧ keys[j]? = some q ∧ l[q]? = some b ∧ ltB b.text m.text = true)
    (e d : Int) (b : Bool) (ks qs : List Nat) (hcall : ∀ d' w, callV G cl d' (.fn (.func 38) [] []) [nds l, .int .i64 ((st + 1 : Nat) : Int)] w = some (.val (seenV e d b ks qs) w)) :
    rX 38 (lc Tryz.f38 0) (codeX G cl lp 38 (lc Tryz.f38 0) (seenσ l at_ st deep false kids keys i)) = some (.normal, seenσ l at_ e (max deep d) b (kids ++ [st + 1]) (keys ++ [st]) (i + 1)) := by
  have h1 : (at_ : Int) < l.length := by have := (List.getElem?_eq_some_iff.1 hn).1; omega
  have h2 : (st : Int) < l.length := by have := (List.getElem?_eq_some_iff.1 hm).1; omega
  have h2' : ¬ (l.length : Int) ≤ st := by omega
  have hL : kids.length + 1 ≤ LIM := by unfold LIM; omega
  have hL' : kids.length ≤ LIM := by unfold LIM; omega
  have hL2 : keys.length + 1 ≤ LIM := by unfold LIM; omega
  have hL2' : keys.length ≤ LIM := by unfold LIM; omega
  have hw : IntKind.i64.wrap ((i : Int) + 1) = (i : Int) + 1 := i64_wrap (by omega) (by have := hi; omega)
  have hw2 : IntKind.i64.wrap ((st : Int) + 1) = (st : Int) + 1 := i64_wrap (by omega) (by omega)
  have hmf' : plainS ⟨3, m.num, m.text, m.kids⟩ = true := by rw [← hmk]; exact hmf
  simp [lc, loopsOf, Tryz.f38]
  simp at hcall
  rcases hml with hml | ⟨j, q, nb, hij, hkj, hlq, hlt⟩
  · subst hml
    simp only [Int.natCast_zero, Int.zero_add] at hi hw
    simp [h1, h2, h2', hn, hm, hmk, hmf', hi, hk, hcall, hL, hL', hL2, hL2', hw, hw2, rowV_app, intsL, plain_call]
  · subst hij
    have hij0 : (0 : Int) < ((j + 1 : Nat) : Int) := by omega
    have hw3 : IntKind.i64.wrap (((j + 1 : Nat) : Int) - 1) = (j : Int) := by rw [i64_wrap (by omega) (by omega)]; omega
    have hx : ∀ hp, indexD Tryz.prog hp (some (.slice 3)) (rowV keys) (j : Int) = some (.ep (.int .i64 (q : Int)) 0) := fun hp => rowV_index hkj
    generalize ((j + 1 : Nat) : Int) = I at *
    simp [h1, h2, h2', hn, hm, hmk, hmf', hi, hk, hcall, hL, hL', hL2, hL2', hw, hw2, hw3, hij0, hx, hlq, hlt, rowV_app, intsL, plain_call]
set_option maxHeartbeats 8000000 in
theorem seen_map_bad (l : List Nd) (at_ : Nat) (n : Nd) (hn : l[at_]? = some n) (hk : n.kind = 5) (st : Nat) (deep : Int) (kids keys : List Nat) (i : Nat) (hi : (i : Int) < n.kids) (hkb : n.kids ≤ 9223372036854775807)
    (hbad : l[st]? = none ∨ ∃ m, l[st]? = some m ∧ (m.kind ≠ 3 ∨ (m.kind = 3 ∧ plainS m = false) ∨ (m.kind = 3 ∧ plainS m = true ∧ ∃ j q b, i = j + 1 ∧ keys[j]? = some q ∧ l[q]? = some b ∧ ltB b.text m.text = false))) :
    rX 38 (lc Tryz.f38 0) (codeX G cl lp 38 (lc Tryz.f38 0) (seenσ l at_ st deep false kids keys i)) =
      some (.ret, ⟨[(4, .ptr 1004 0 0)], [(1004, .box 66 (.agg [.int .i64 0, .int .i64 0, .bool true, .nils, .nils])), (1005, .box 66 (seenV st deep false kids keys))]⟩) := by
  have h1 : (at_ : Int) < l.length := by have := (List.getElem?_eq_some_iff.1 hn).1; omega
  simp [lc, loopsOf, Tryz.f38]
  rcases hbad with hm | ⟨m, hm, hbad⟩
  · have h2' : (l.length : Int) ≤ st := by have := List.getElem?_eq_none_iff.1 hm; omega
    simp [h1, h2', hn, hi, hk]
  have h2 : (st : Int) < l.length := by have := (List.getElem?_eq_some_iff.1 hm).1; omega
  have h2' : ¬ (l.length : Int) ≤ st := by omega
  rcases hbad with q | ⟨q1, q⟩ | ⟨q1, q2, j, q, nb, hij, hkj, hlq, hlt⟩
  · simp [h1, h2, h2', hn, hm, q, hi, hk, plain_call]
  · have hmf' : plainS ⟨3, m.num, m.text, m.kids⟩ = false := by rw [← q1]; exact q
    simp [h1, h2, h2', hn, hm, q1, hmf', hi, hk, plain_call]
  · have hmf' : plainS ⟨3, m.num, m.text, m.kids⟩ = true := by rw [← q1]; exact q2
    subst hij
    have hij0 : (0 : Int) < ((j + 1 : Nat) : Int) := by omega
    have hw3 : IntKind.i64.wrap (((j + 1 : Nat) : Int) - 1) = (j : Int) := by rw [i64_wrap (by omega) (by omega)]; omega
    have hx : ∀ hp, indexD Tryz.prog hp (some (.slice 3)) (rowV keys) (j : Int) = some (.ep (.int .i64 (q : Int)) 0) := fun hp => rowV_index hkj
    generalize ((j + 1 : Nat) : Int) = I at *
    simp [h1, h2, h2', hn, hm, q1, hmf', hi, hk, hw3, hij0, hx, hlq, hlt, plain_call]
def seenE (l : List Nd) (at_ : Nat) (stop deep : Int) (bad : Bool) (kids keys : List Nat) (i : Nat) : ASt :=
  ⟨[(0, nds l), (1, .int .i64 at_), (4, .ptr 1004 0 0), (5, .ptr 1005 0 0), (6, .int .i64 i), (40, .bool false)], (seenσ l at_ stop deep bad kids keys i).hp⟩
theorem seen_exit (l : List Nd) (at_ : Nat) (n : Nd) (hn : l[at_]? = some n) (stop deep : Int) (bad : Bool) (kids keys : List Nat) (i : Nat) (hi : ¬ (i : Int) < n.kids ∨ bad = true) :
    rX 38 (lc Tryz.f38 0) (codeX G cl lp 38 (lc Tryz.f38 0) (seenσ l at_ stop deep bad kids keys i)) = some (.exit 0, seenE l at_ stop deep bad kids keys i) := by
  have h1 : (at_ : Int) < l.length := by have := (List.getElem?_eq_some_iff.1 hn).1; omega
  simp [lc, loopsOf, Tryz.f38]
  by_cases hx : (i : Int) < n.kids
  · have hb := hi.resolve_left (by simpa using hx)
    simp [h1, hn, hx, hb, seenE]
  · simp [h1, hn, hx, seenE]
end Go.Proofs.YtcgkneolohcdeaaGreat


/- What the functions come to: the document's value; nodes that may be, either way. -/
namespace Go.Proofs.YtcgkneolohcdeaaGreat
open Go Abs
set_option linter.unusedSimpArgs false
set_option linter.unusedVariables false

theorem andNot1 {a : Int} (h1 : -9223372036854775808 ≤ a) (h2 : a ≤ 9223372036854775807) : wAndNot .i64 a 1 = 0 ↔ a = 0 ∨ a = 1 := by
  have hbits : IntKind.i64.bits = 64 := rfl
  unfold wAndNot
  rw [hbits]
  have key : ∀ x : BitVec 64, x &&& ~~~(1#64) = 0#64 → x.toNat ≤ 1 := by
    intro x hx
    have e : x = (x &&& 1#64) ||| (x &&& ~~~(1#64)) := by
      ext i hi
      simp only [BitVec.getElem_or, BitVec.getElem_and, BitVec.getElem_not]
      cases x[i] <;> cases (1#64)[i] <;> rfl
    rw [hx, BitVec.or_zero] at e
    have : x.toNat = x.toNat &&& 1 := by
      conv => lhs; rw [e]
      simp
    rw [Nat.and_one_is_mod] at this
    omega
  constructor
  · intro h
    have hlt := (BitVec.ofInt 64 a &&& ~~~BitVec.ofInt 64 1).isLt
    rw [IntKind.wrap_i64] at h
    have h0 : (BitVec.ofInt 64 a &&& ~~~BitVec.ofInt 64 1).toNat = 0 := by omega
    have hz : BitVec.ofInt 64 a &&& ~~~(1#64) = 0#64 := by
      apply BitVec.eq_of_toNat_eq
      simpa using h0
    have := key _ hz
    rw [BitVec.toNat_ofInt] at this
    omega
  · rintro (rfl | rfl) <;> rfl

theorem fits_plain {n : Nd} (h : n.inR) : fitsS n = plainS n := by
  obtain ⟨k, nu, t, c⟩ := n
  obtain ⟨h1, h2, h3, h4⟩ := h
  simp only at h1 h2 h3 h4
  unfold fitsS plainS
  simp only
  have hcc : (decide (c = 0) || decide (0 < c)) = decide (0 ≤ c) := by
    rw [← Bool.decide_or]; congr 1; apply propext; omega
  by_cases k1 : k = 1
  · subst k1
    have : decide (wAndNot .i64 nu 1 = 0) = (decide (nu = 0) || decide (nu = 1)) := by
      rw [← Bool.decide_or]; congr 1; exact propext (andNot1 h1 h2)
    simp [this]
  by_cases k0 : k = 0
  · subst k0; simp
  by_cases k2 : k = 2
  · subst k2; simp
  by_cases k3 : k = 3
  · subst k3; simp
  by_cases k4 : k = 4
  · subst k4; simp [hcc]
  by_cases k5 : k = 5
  · subst k5; simp [hcc]
  have : ¬ (0 ≤ k ∧ k ≤ 5) := by omega
  simp only [k1, k0, k2, k3, k4, k5, if_false, or_self, decide_false]
  by_cases q : 0 ≤ k
  · have q' : ¬ k ≤ 5 := fun h => this ⟨q, h⟩
    simp [q']
  · simp [q]

/-- What the document's value is told as. -/
def keysN (m : Bool) (ks : List Nat) : List Nat := if m then ks.map (· - 1) else []
def mapAt (l : List Nd) (a : Nat) : Bool := match l[a]? with | some n => decide (n.kind = 5) | none => false
def seenR (m : Bool) (r : Option Span) (v : AV) : Prop :=
  match r with
  | some s => ∃ keys, v = seenV s.stop s.deep false s.kids keys ∧ keys = keysN m s.kids
  | none => ∃ a d ks qs, v = seenV a d true ks qs

theorem seen_bad (l : List Nd) (a : Int) (n : Option Nd) (hn : a < 0 ∨ (0 ≤ a ∧ l[a.toNat]? = n)) (hb : a < 0 ∨ n = none ∨ ∃ m, n = some m ∧ plainS m = false) : cl 38 [nds l, .int .i64 a] [] = some (.ret (seenV 0 0 true [] []), []) := by
  refine fn_intro Tryz.func38 rfl (by simp) (by decide) rfl ?_
  by_cases h0 : a < 0
  · simp [Tryz.f38, h0]
    exact end_rv (.inr rfl) (by simp [resL]; rfl) (by simp) (by simp; rfl) rfl
  obtain ⟨h0', hn⟩ := hn.resolve_left h0
  rcases hb.resolve_left h0 with rfl | ⟨m, rfl, hm⟩
  · have h2 : (l.length : Int) ≤ a := by have := List.getElem?_eq_none_iff.1 hn; omega
    simp [Tryz.f38, h0, h2, nds]
    exact end_rv (.inr rfl) (by simp [resL]; rfl) (by simp) (by simp; rfl) rfl
  · have h2 : ¬ (l.length : Int) ≤ a := by have := (List.getElem?_eq_some_iff.1 hn).1; omega
    simp [Tryz.f38, h0, h0', h2, nds, hn, Nd.v, plain_call, hm]
    exact end_rv (.inr rfl) (by simp [resL]; rfl) (by simp) (by simp; rfl) rfl

def lastOK (l : List Nd) (keys : List Nat) (i : Nat) (last : List UInt8) : Prop := keys.length = i ∧ (i = 0 ∨ ∃ j q b, i = j + 1 ∧ keys[j]? = some q ∧ l[q]? = some b ∧ b.text = last)

theorem seen_loop (l : List Nd) (hl : l.length ≤ 900) (hr : ∀ n ∈ l, n.inR) (k at_ : Nat) (n : Nd) (hn : l[at_]? = some n) (hkb : n.kids ≤ 9223372036854775807)
    (ih : ∀ st, at_ < st → ∃ v, cl 38 [nds l, .int .i64 (st : Int)] [] = some (.ret v, []) ∧ seenR (mapAt l st) (valS l k st) v) : ∀ (c i : Nat) (s : Span) (keys : List Nat) (last : List UInt8), i + c = n.kids.toNat → at_ < s.stop → s.stop ≤ l.length → s.kids.length ≤ s.stop → (n.kind = 5 → lastOK l keys i last ∧ keys.length ≤ s.stop) → keys = keysN (decide (n.kind = 5)) s.kids →
    match kidsS (valS l k) l (decide (n.kind = 5)) c i s last with
    | some sp => ∃ keys' i', lp 38 (lc Tryz.f38 0) (seenσ l at_ s.stop s.deep false s.kids keys i) = some (.exit 0, seenE l at_ sp.stop sp.deep false sp.kids keys' i') ∧ keys' = keysN (decide (n.kind = 5)) sp.kids
    | none => (∃ b, lp 38 (lc Tryz.f38 0) (seenσ l at_ s.stop s.deep false s.kids keys i) = some (.ret, ⟨[(4, .ptr 1004 0 0)], [(1004, .box 66 (.agg [.int .i64 0, .int .i64 0, .bool true, .nils, .nils])), (1005, .box 66 b)]⟩)) ∨
        ∃ a d ks qs i', lp 38 (lc Tryz.f38 0) (seenσ l at_ s.stop s.deep false s.kids keys i) = some (.exit 0, seenE l at_ a d true ks qs i') := by
  have call : ∀ st : Nat, at_ < st → ∃ v, (∀ d (w : ASt), callV G cl d (.fn (.func 38) [] []) [nds l, .int .i64 (st : Int)] w = some (.val v w)) ∧ seenR (mapAt l st) (valS l k st) v := by
    intro st hst
    obtain ⟨v, h1, h2⟩ := ih st hst
    refine ⟨v, fun d w => callV_ret E38 (by decide) ext38 rfl rfl h1 ?_, h2⟩
    unfold seenR at h2
    split at h2
    · obtain ⟨_, rfl, _⟩ := h2; simp [seenV]
    · obtain ⟨_, _, _, _, rfl⟩ := h2; simp [seenV]
  intro c
  induction c with
  | zero =>
    intro i s keys last hi h1 h2 h3 h4 h5
    exact ⟨keys, i, loop_out (seen_exit l at_ n hn s.stop s.deep false s.kids keys i (.inl (by omega))) (by simp), h5⟩
  | succ c ihc =>
    intro i s keys last hi h1 h2 h3 h4 h5
    have hi' : (i : Int) < n.kids := by omega
    have hL : s.kids.length ≤ 1000 := by omega
    simp only [kidsS]
    by_cases hk : n.kind = 5
    · obtain ⟨⟨hlo1, hlo⟩, hkl⟩ := h4 hk
      simp only [hk, decide_true] at ihc ⊢
      simp only [keyS, if_true]
      cases hm : l[s.stop]? with
      | none =>
        simp only [Option.bind_none]
        exact .inl ⟨_, loop_out (seen_map_bad l at_ n hn hk s.stop s.deep s.kids keys i hi' hkb (.inl hm)) (by simp)⟩
      | some m =>
        simp only []
        have hmr : fitsS m = plainS m := fits_plain (hr m (List.mem_of_getElem? hm))
        by_cases hc : m.kind = 3 ∧ fitsS m = true ∧ (i = 0 ∨ ltB last m.text = true)
        · obtain ⟨c1, c2, c3⟩ := hc
          rw [if_pos ⟨c1, c2, c3⟩]
          simp only [Option.bind_some]
          have hml : i = 0 ∨ ∃ j q b, i = j + 1 ∧ keys[j]? = some q ∧ l[q]? = some b ∧ ltB b.text m.text = true := by
            rcases hlo with hz | ⟨j, q, b, q1, q2, q3, q4⟩
            · exact .inl hz
            · exact .inr ⟨j, q, b, q1, q2, q3, by rw [q4]; exact c3.resolve_left (by omega)⟩
          obtain ⟨v, hcall, hv⟩ := call (s.stop + 1) (by omega)
          cases hvs : valS l k (s.stop + 1) with
          | none =>
            rw [hvs] at hv
            obtain ⟨a, d, ks, qs, rfl⟩ := hv
            have h := seen_map l at_ n hn hk s.stop s.deep s.kids keys i hi' hkb hL (by omega) (by omega) m hm c1 (by rw [← hmr]; exact c2) hml a d true ks qs hcall
            simp only [Option.bind_none]
            exact .inr ⟨_, _, _, _, _, loop_next h (loop_out (seen_exit l at_ n hn _ _ true _ _ (i + 1) (.inr rfl)) (by simp))⟩
          | some kid =>
            rw [hvs] at hv
            obtain ⟨ks', rfl, _⟩ := hv
            have h := seen_map l at_ n hn hk s.stop s.deep s.kids keys i hi' hkb hL (by omega) (by omega) m hm c1 (by rw [← hmr]; exact c2) hml kid.stop kid.deep false kid.kids ks' hcall
            rw [← max_cast] at h
            obtain ⟨g1, g2, g3⟩ := valS_spec hvs
            have := ihc (i + 1) ⟨kid.stop, max s.deep kid.deep, s.kids ++ [s.stop + 1]⟩ (keys ++ [s.stop]) m.text (by omega) (by simp only; omega) g2 (by simp; omega) (fun _ => ⟨⟨by simp [hlo1], .inr ⟨i, s.stop, m, rfl, by rw [List.getElem?_append_right (by omega)]; simp [hlo1], hm, rfl⟩⟩, by simp; omega⟩) (by rw [h5]; simp [keysN, hk])
            simp only [Option.bind_some]
            split at this
            · obtain ⟨keys', i', hr, hkk⟩ := this
              exact ⟨keys', i', loop_next h hr, hkk⟩
            · rcases this with ⟨b, hr⟩ | ⟨a, d, ks, qs, i', hr⟩
              · exact .inl ⟨b, loop_next h hr⟩
              · exact .inr ⟨a, d, ks, qs, i', loop_next h hr⟩
        · rw [if_neg hc]
          simp only [Option.bind_none]
          have hbad : m.kind ≠ 3 ∨ (m.kind = 3 ∧ plainS m = false) ∨ (m.kind = 3 ∧ plainS m = true ∧ ∃ j q b, i = j + 1 ∧ keys[j]? = some q ∧ l[q]? = some b ∧ ltB b.text m.text = false) := by
            rw [hmr] at hc
            by_cases q1 : m.kind = 3
            · cases q2 : plainS m with
              | false => exact .inr (.inl ⟨q1, rfl⟩)
              | true =>
                refine .inr (.inr ⟨q1, rfl, ?_⟩)
                rcases hlo with hz | ⟨j, q, b, p1, p2, p3, p4⟩
                · exact absurd ⟨q1, q2, .inl hz⟩ hc
                · refine ⟨j, q, b, p1, p2, p3, ?_⟩
                  cases q4 : ltB b.text m.text with
                  | true => rw [p4] at q4; exact absurd ⟨q1, q2, .inr q4⟩ hc
                  | false => rfl
            · exact .inl q1
          exact .inl ⟨_, loop_out (seen_map_bad l at_ n hn hk s.stop s.deep s.kids keys i hi' hkb (.inr ⟨m, hm, hbad⟩)) (by simp)⟩
    · simp only [hk, decide_false] at ihc ⊢
      simp only [keyS, Bool.false_eq_true, if_false, Option.bind_some]
      obtain ⟨v, hcall, hv⟩ := call s.stop h1
      cases hvs : valS l k s.stop with
      | none =>
        rw [hvs] at hv
        obtain ⟨a, d, ks, qs, rfl⟩ := hv
        have h := seen_plain l at_ n hn hk s.stop s.deep s.kids keys i hi' hkb hL a d true ks qs s.stop rfl hcall
        simp only [Option.bind_none]
        exact .inr ⟨_, _, _, _, _, loop_next h (loop_out (seen_exit l at_ n hn _ _ true _ _ (i + 1) (.inr rfl)) (by simp))⟩
      | some kid =>
        rw [hvs] at hv
        obtain ⟨ks', rfl, _⟩ := hv
        have h := seen_plain l at_ n hn hk s.stop s.deep s.kids keys i hi' hkb hL kid.stop kid.deep false kid.kids ks' s.stop rfl hcall
        rw [← max_cast] at h
        obtain ⟨g1, g2, g3⟩ := valS_spec hvs
        have := ihc (i + 1) ⟨kid.stop, max s.deep kid.deep, s.kids ++ [s.stop]⟩ keys last (by omega) (by simp only; omega) g2 (by simp; omega) (fun e => e.elim) (by rw [h5]; simp [keysN, hk])
        simp only [Option.bind_some]
        split at this
        · obtain ⟨keys', i', hr, hkk⟩ := this
          exact ⟨keys', i', loop_next h hr, hkk⟩
        · rcases this with ⟨b, hr⟩ | ⟨a, d, ks, qs, i', hr⟩
          · exact .inl ⟨b, loop_next h hr⟩
          · exact .inr ⟨a, d, ks, qs, i', loop_next h hr⟩

-- What a loop's head is unfolded by, where there is memory.
attribute [local simp] canonK canonAll canonSlot canonCell canonBox ownStep restrictTo pureCells pureRows reachL AObj.names List.range_succ appendA nds Nd.v seenσ seenV bsvV

set_option maxHeartbeats 8000000 in
theorem seen_eq (l : List Nd) (hl : l.length ≤ 900) (hr : ∀ n ∈ l, n.inR) : ∀ (k at_ : Nat), l.length < at_ + k → ∃ v, cl 38 [nds l, .int .i64 (at_ : Int)] [] = some (.ret v, []) ∧ seenR (mapAt l at_) (valS l k at_) v := by
  intro k
  induction k with
  | zero =>
    intro at_ h
    exact ⟨_, seen_bad l at_ none (.inr ⟨by omega, by simpa using by omega⟩) (.inr (.inl rfl)), 0, 0, [], [], rfl⟩
  | succ k ih =>
    intro at_ h
    simp only [valS]
    cases hn : l[at_]? with
    | none => exact ⟨_, seen_bad l at_ none (.inr ⟨by omega, by simpa using hn⟩) (.inr (.inl rfl)), 0, 0, [], [], rfl⟩
    | some n =>
      have hlt := (List.getElem?_eq_some_iff.1 hn).1
      have hnr := hr n (List.mem_of_getElem? hn)
      have hmr : fitsS n = plainS n := fits_plain hnr
      simp only [Option.bind_some]
      cases hf : fitsS n with
      | false => exact ⟨_, seen_bad l at_ (some n) (.inr ⟨by omega, by simpa using hn⟩) (.inr (.inr ⟨n, rfl, by rw [← hmr]; exact hf⟩)), 0, 0, [], [], rfl⟩
      | true =>
        have hpl : plainS n = true := by rw [← hmr]; exact hf
        have h1 : ¬ (l.length : Int) ≤ at_ := by omega
        have h0 : ¬ (at_ : Int) < 0 := by omega
        have hw : IntKind.i64.wrap ((at_ : Int) + 1) = (at_ : Int) + 1 := i64_wrap (by omega) (by omega)
        have hloop := seen_loop l hl hr k at_ n hn hnr.2.2.2 (fun st hst => ih st (by omega)) n.kids.toNat 0 ⟨at_ + 1, 0, []⟩ [] [] (by omega) (by simp) (by simp only; omega) (by simp) (fun _ => ⟨⟨rfl, .inl rfl⟩, by simp⟩) (by simp [keysN])
        have hbd : ∀ r, kidsS (valS l k) l (decide (n.kind = 5)) n.kids.toNat 0 ⟨at_ + 1, 0, []⟩ [] = some r → r.deep ≤ 900 := fun r hr => by
          obtain ⟨_, q1, q2⟩ := kidsS_spec (A := at_ + 1) (fun st s hs => valS_spec hs) hr (by simp only; omega) (by simp) (by simp)
          omega
        cases hks : kidsS (valS l k) l (decide (n.kind = 5)) n.kids.toNat 0 ⟨at_ + 1, 0, []⟩ [] with
        | none =>
          rw [hks] at hloop
          rcases hloop with ⟨b, hx⟩ | ⟨a, d, ks, qs, i', hx⟩
          · refine ⟨seenV 0 0 true [] [], fn_intro Tryz.func38 rfl (by simp) (by decide) rfl ?_, 0, 0, [], [], rfl⟩
            simp [lc, loopsOf, Tryz.f38, rowV_nil] at hx
            simp [Tryz.f38, h1, h0, hn, hpl, plain_call, hw, hx]
            exact end_rv (.inr rfl) (by simp [resL]; rfl) (by simp) (by simp; rfl) rfl
          · refine ⟨seenV a (IntKind.i64.wrap (d + 1)) true ks qs, fn_intro Tryz.func38 rfl (by simp) (by decide) rfl ?_, _, _, _, _, rfl⟩
            simp [lc, loopsOf, Tryz.f38, rowV_nil] at hx
            simp [Tryz.f38, h1, h0, hn, hpl, plain_call, hw, hx, seenE]
            exact end_rv (.inr rfl) (by simp [resL]; rfl) (by simp) (by simp) (by simp)
        | some sp =>
          rw [hks] at hloop
          obtain ⟨keys', i', hx, hkk⟩ := hloop
          have hd := hbd sp hks
          have hw2 : IntKind.i64.wrap ((sp.deep : Int) + 1) = (sp.deep : Int) + 1 := i64_wrap (by omega) (by omega)
          refine ⟨seenV sp.stop ((sp.deep + 1 : Nat) : Int) false sp.kids keys', fn_intro Tryz.func38 rfl (by simp) (by decide) rfl ?_, keys', rfl, by rw [hkk]; unfold mapAt; rw [hn]⟩
          simp [lc, loopsOf, Tryz.f38, rowV_nil] at hx
          simp [Tryz.f38, h1, h0, hn, hpl, plain_call, hw, hx, seenE, hw2]
          exact end_rv (.inr rfl) (by simp [resL]; rfl) (by simp) (by simp) (by simp)
end Go.Proofs.YtcgkneolohcdeaaGreat


/- What the functions come to: the document's Check and Depth; TreeChecks. -/
namespace Go.Proofs.YtcgkneolohcdeaaGreat
open Go Abs
set_option linter.unusedSimpArgs false
set_option linter.unusedVariables false

set_option maxHeartbeats 8000000 in
theorem rcheck_loop (l : List Nd) (hb : l.length ≤ 120) : ∃ x s, lp 20 (lc Tryz.f20 0) { sl := [(0, nds l), (3, .int .i64 0)], hp := [] } = some (x, s) ∧
    ((x = .ret ∧ s = { sl := [(2, .int .i64 4)], hp := [] } ∧ longS l = true) ∨ (x = .exit 0 ∧ (∃ sl, s = { sl := (0, nds l) :: sl, hp := [] }) ∧ longS l = false)) := by
  refine for_loop (f := 20) (c := lc Tryz.f20 0) (n := l.length) (σ := fun i => { sl := [(0, nds l), (3, .int .i64 (i : Int))], hp := [] }) (P := fun i => (l.take i).any (fun n => decide (120 < n.text.length)) = false)
    (Q := fun x s => (x = .ret ∧ s = { sl := [(2, .int .i64 4)], hp := [] } ∧ longS l = true) ∨ (x = .exit 0 ∧ (∃ sl, s = { sl := (0, nds l) :: sl, hp := [] }) ∧ longS l = false))
    (fun i hi hp => ?_) (fun hp => ?_) 0 (by omega) (by simp)
  · obtain ⟨n, hn⟩ : ∃ n, l[i]? = some n := ⟨l[i], List.getElem?_eq_getElem hi⟩
    have h1 : (i : Int) < l.length := by omega
    have hw : IntKind.i64.wrap ((i : Int) + 1) = (i : Int) + 1 := i64_wrap (by omega) (by omega)
    by_cases ht : 120 < n.text.length
    · right
      have ht' : (120 : Int) < n.text.length := by omega
      exact ⟨.ret, ⟨[(2, .int .i64 4)], []⟩, by simp [lc, loopsOf, Tryz.f20, nds, h1, hn, Nd.v, hw, ht'], by simp, .inl ⟨rfl, rfl, List.any_eq_true.2 ⟨n, List.mem_of_getElem? hn, by simpa using ht⟩⟩⟩
    · left
      have ht' : ¬ (120 : Int) < n.text.length := by omega
      refine ⟨by simp [lc, loopsOf, Tryz.f20, nds, h1, hn, Nd.v, hw, ht'], ?_⟩
      rw [List.take_add_one, hn, List.any_append, hp]; simpa using ht
  · rw [List.take_of_length_le (Nat.le_refl _)] at hp
    exact ⟨.exit 0, ⟨[(0, nds l), (3, .int .i64 l.length), (11, .bool false)], []⟩, by simp [lc, loopsOf, Tryz.f20, nds], by simp, .inr ⟨rfl, ⟨_, rfl⟩, hp⟩⟩

set_option maxHeartbeats 8000000 in
theorem rcheck_eq (l : List Nd) (hb : l.length ≤ 9223372036854775806) (hr : ∀ n ∈ l, n.inR) : cl 20 [nds l] [] = some (.ret (.int .i64 (checkS l)), []) := by
  refine fn_intro Tryz.func20 rfl (by simp) (by decide) rfl ?_
  by_cases h1 : 120 < l.length
  · have h1' : (120 : Int) < l.length := by omega
    simp [Tryz.f20, nds, h1']
    exact end_is (.inr rfl) (by simp; rfl) rfl (by simp [checkS, h1])
  have h1' : ¬ (120 : Int) < l.length := by omega
  obtain ⟨x, s, h, hx⟩ := rcheck_loop l (by omega)
  simp [lc, loopsOf, Tryz.f20, nds] at h
  rcases hx with ⟨rfl, rfl, h2⟩ | ⟨rfl, ⟨sl, rfl⟩, h2⟩
  · simp [Tryz.f20, nds, h1', h]
    exact end_is (.inr rfl) (by simp; rfl) rfl (by simp [checkS, h2])
  obtain ⟨v, hv, hs⟩ := seen_eq l (by omega) hr (l.length + 1) 0 (by omega)
  cases h5 : valS l (l.length + 1) 0 with
  | none =>
    rw [h5] at hs
    obtain ⟨a, d, ks, qs, rfl⟩ := hs
    have hcall : ∀ d' w, callV G cl d' (.fn (.func 38) [] []) [.list 4 (l.map Nd.v), .int .i64 0] w = some (.val (seenV a d true ks qs) w) := fun d' w => callV_ret E38 (by decide) ext38 rfl rfl hv (by simp [seenV])
    have h3 : wholeS l = none := by unfold wholeS; rw [h5]; rfl
    simp [Tryz.f20, nds, h1', h, hcall, seenV]
    exact end_is (.inr rfl) (by simp; rfl) rfl (by simp [checkS, h1, h2, h3])
  | some sp =>
    rw [h5] at hs
    obtain ⟨keys, rfl, hkeys⟩ := hs
    have hcall : ∀ d' w, callV G cl d' (.fn (.func 38) [] []) [.list 4 (l.map Nd.v), .int .i64 0] w = some (.val (seenV sp.stop sp.deep false sp.kids keys) w) := fun d' w => callV_ret E38 (by decide) ext38 rfl rfl hv (by simp [seenV])
    by_cases he : sp.stop = l.length
    · have h3 : wholeS l = some sp := by unfold wholeS; rw [h5]; simp [he]
      by_cases h4 : 32 < sp.deep
      · have h4' : (32 : Int) < sp.deep := by omega
        simp [Tryz.f20, nds, h1', h, hcall, seenV, he, h4']
        exact end_is (.inr rfl) (by simp; rfl) rfl (by simp [checkS, h1, h2, h3, h4])
      · have h4' : ¬ (32 : Int) < sp.deep := by omega
        simp [Tryz.f20, nds, h1', h, hcall, seenV, he, h4']
        exact end_is (.inr rfl) (by simp; rfl) rfl (by simp [checkS, h1, h2, h3, h4])
    · have h3 : wholeS l = none := by unfold wholeS; rw [h5]; simp [he]
      have he' : ¬ (sp.stop : Int) = l.length := by omega
      simp [Tryz.f20, nds, h1', h, hcall, seenV, he']
      exact end_is (.inr rfl) (by simp; rfl) rfl (by simp [checkS, h1, h2, h3])
theorem rcheck_call {l : List Nd} (hb : l.length ≤ 9223372036854775806) (hr : ∀ n ∈ l, n.inR) {d : Option Nat} {st : ASt} : callV G cl d (.fn (.func 20) [] []) [nds l] st = some (.val (.int .i64 (checkS l)) st) :=
  callV_ret E20 (by decide) ext20 rfl rfl (rcheck_eq l hb hr) rfl
end Go.Proofs.YtcgkneolohcdeaaGreat


/- Values within values: where one is, the same nodes elsewhere are one, too; no program is looked at here. -/
namespace Go.Proofs.YtcgkneolohcdeaaGreat
open Go Abs
set_option linter.unusedSimpArgs false
set_option linter.unusedVariables false

theorem kidsS_mono {val val' : Nat → Option Span} {l : List Nd} {b : Bool} (h : ∀ st s, val st = some s → val' st = some s) : ∀ {c i s last r}, kidsS val l b c i s last = some r → kidsS val' l b c i s last = some r := by
  intro c
  induction c with
  | zero => intro i s last r hr; exact hr
  | succ c ih =>
    intro i s last r hr
    simp only [kidsS] at hr ⊢
    rw [Option.bind_eq_some_iff] at hr; obtain ⟨p, hp, hr⟩ := hr
    rw [Option.bind_eq_some_iff] at hr; obtain ⟨kid, hk, hr⟩ := hr
    rw [hp, Option.bind_some, h _ _ hk, Option.bind_some]
    exact ih hr
theorem valS_succ {l : List Nd} : ∀ {k a s}, valS l k a = some s → valS l (k + 1) a = some s := by
  intro k
  induction k with
  | zero => intro a s h; cases h
  | succ k ih =>
    intro a s h
    rw [valS] at h ⊢
    rw [Option.bind_eq_some_iff] at h; obtain ⟨n, hn, h⟩ := h
    rw [hn, Option.bind_some]
    split at h
    · rename_i hf
      rw [if_pos hf]
      obtain ⟨r, hr, rfl⟩ := Option.map_eq_some_iff.1 h
      rw [kidsS_mono (fun st s => ih) hr]; rfl
    · cases h
theorem valS_mono {l : List Nd} {k k' a : Nat} {s : Span} (h : valS l k a = some s) (hk : k ≤ k') : valS l k' a = some s := by
  induction hk with
  | refl => exact h
  | step _ ih => exact valS_succ ih

/-- Elsewhere: what began at a begins at b. -/
def Span.at_ (a b : Nat) (s : Span) : Span := ⟨b + (s.stop - a), s.deep, s.kids.map fun x => b + (x - a)⟩

theorem keyS_moved {l l' : List Nd} {a b n : Nat} (h : ∀ i, i < n → l'[b + i]? = l[a + i]?) {m : Bool} {i stop : Nat} {last : List UInt8} {p : Nat × List UInt8} (hp : keyS l m i stop last = some p) (ha : a ≤ stop) (hn : p.1 ≤ a + n) :
    keyS l' m i (b + (stop - a)) last = some (b + (p.1 - a), p.2) := by
  unfold keyS at hp ⊢
  cases m with
  | false => simp only [Bool.false_eq_true, if_false] at hp ⊢; cases hp; rfl
  | true =>
    simp only [if_true] at hp ⊢
    split at hp
    · rename_i k hk
      split at hp
      · rename_i hc
        cases hp
        simp only at hn
        have := h (stop - a) (by omega)
        rw [this, show a + (stop - a) = stop by omega, hk]
        simp only
        rw [if_pos hc, show b + (stop - a) + 1 = b + (stop + 1 - a) by omega]
      · cases hp
    · cases hp
theorem kidsS_moved {val val' : Nat → Option Span} {l l' : List Nd} {a b n : Nat} (h : ∀ i, i < n → l'[b + i]? = l[a + i]?) (hsp : ∀ st s, val st = some s → st < s.stop)
    (hv : ∀ st s, a ≤ st → val st = some s → s.stop ≤ a + n → val' (b + (st - a)) = some (s.at_ st (b + (st - a)))) {m : Bool} : ∀ {c i s last r}, kidsS val l m c i s last = some r → a ≤ s.stop → r.stop ≤ a + n →
    s.stop ≤ r.stop ∧ kidsS val' l' m c i (s.at_ a b) last = some (r.at_ a b) := by
  intro c
  induction c with
  | zero => intro i s last r hr h1 h2; cases hr; exact ⟨Nat.le_refl _, rfl⟩
  | succ c ih =>
    intro i s last r hr h1 h2
    simp only [kidsS] at hr ⊢
    rw [Option.bind_eq_some_iff] at hr; obtain ⟨p, hp, hr⟩ := hr
    rw [Option.bind_eq_some_iff] at hr; obtain ⟨kid, hk, hr⟩ := hr
    have hge := keyS_ge hp
    have hlt := hsp _ _ hk
    obtain ⟨h3, h4⟩ := ih hr (by simp only; omega) h2
    simp only at h3
    refine ⟨by omega, ?_⟩
    have hky := keyS_moved h hp h1 (by omega)
    have hkid := hv p.1 kid (by omega) hk (by omega)
    simp only [Span.at_] at hky hkid h4 ⊢
    rw [hky, Option.bind_some]
    simp only
    rw [hkid, Option.bind_some]
    simp only
    rw [← h4]
    simp only [List.map_append, List.map_cons, List.map_nil]
    rw [show b + (p.1 - a) + (kid.stop - p.1) = b + (kid.stop - a) by omega]
/-- THE SAME NODES ELSEWHERE are the same value. -/
theorem valS_moved {l l' : List Nd} : ∀ {k a b n s}, (∀ i, i < n → l'[b + i]? = l[a + i]?) → valS l k a = some s → s.stop ≤ a + n → valS l' k b = some (s.at_ a b) := by
  intro k
  induction k with
  | zero => intro a b n s h hs; cases hs
  | succ k ih =>
    intro a b n s h hs hn
    have hsp := (valS_spec hs).1
    rw [valS] at hs ⊢
    rw [Option.bind_eq_some_iff] at hs; obtain ⟨d, hd, hs⟩ := hs
    have h0 := h 0 (by omega)
    simp only [Nat.add_zero] at h0
    rw [h0, hd, Option.bind_some]
    split at hs
    · rename_i hf
      rw [if_pos hf]
      obtain ⟨r, hr, rfl⟩ := Option.map_eq_some_iff.1 hs
      simp only at hn hsp
      obtain ⟨_, h2⟩ := kidsS_moved (a := a) (b := b) (n := n) h (fun st s h => (valS_spec h).1) (fun st s' h1 h2 h3 => ih (n := a + n - st) (fun i hi => by
        have := h (st - a + i) (by omega)
        rw [show b + (st - a) + i = b + (st - a + i) by omega, this, show a + (st - a + i) = st + i by omega]) h2 (by omega)) hr (by simp only; omega) hn
      have e : (⟨a + 1, 0, []⟩ : Span).at_ a b = ⟨b + 1, 0, []⟩ := by simp [Span.at_]
      rw [e] at h2
      rw [h2]; rfl
    · cases hs

theorem kidsS_enough {val val' : Nat → Option Span} {l : List Nd} {b : Bool} {A : Nat} (hsp : ∀ st s, val st = some s → st < s.stop) (h : ∀ st s, A ≤ st → val st = some s → val' st = some s) : ∀ {c i s last r}, kidsS val l b c i s last = some r → A ≤ s.stop → kidsS val' l b c i s last = some r := by
  intro c
  induction c with
  | zero => intro i s last r hr _; exact hr
  | succ c ih =>
    intro i s last r hr hA
    simp only [kidsS] at hr ⊢
    rw [Option.bind_eq_some_iff] at hr; obtain ⟨p, hp, hr⟩ := hr
    rw [Option.bind_eq_some_iff] at hr; obtain ⟨kid, hk, hr⟩ := hr
    have := keyS_ge hp
    have := hsp _ _ hk
    rw [hp, Option.bind_some, h _ _ (by omega) hk, Option.bind_some]
    exact ih hr (by simp only; omega)
/-- As many rounds as there are nodes are enough. -/
theorem valS_enough {l : List Nd} : ∀ {k k' a s}, valS l k a = some s → l.length < a + k' → valS l k' a = some s := by
  intro k
  induction k with
  | zero => intro k' a s h; cases h
  | succ k ih =>
    intro k' a s h hk
    have hlt : a < l.length := by have := valS_spec h; omega
    obtain ⟨k', rfl⟩ : ∃ j, k' = j + 1 := ⟨k' - 1, by omega⟩
    rw [valS] at h ⊢
    rw [Option.bind_eq_some_iff] at h; obtain ⟨n, hn, h⟩ := h
    rw [hn, Option.bind_some]
    split at h
    · rename_i hf
      rw [if_pos hf]
      obtain ⟨r, hr, rfl⟩ := Option.map_eq_some_iff.1 h
      rw [kidsS_enough (A := a + 1) (fun st s hs => (valS_spec hs).1) (fun st s h1 h2 => ih h2 (by omega)) hr (by simp)]; rfl
    · cases h

/-- A text, alone, is a value. -/
theorem valS_leaf {l : List Nd} {a k : Nat} {n : Nd} (hn : l[a]? = some n) (hf : fitsS n = true) (hk : n.kind = 3) : valS l (k + 1) a = some ⟨a + 1, 1, []⟩ := by
  have h0 : n.kids = 0 := by
    unfold fitsS at hf
    simp only [hk] at hf
    simp at hf
    exact hf.2
  rw [valS, hn, Option.bind_some, if_pos hf, h0]
  rfl

theorem kidsS_inner {val : Nat → Option Span} {l : List Nd} {a : Nat} {m : Bool} (Q : Nat → Nat → Prop) (hsp : ∀ st s, val st = some s → st < s.stop)
    (hv : ∀ st s, val st = some s → st ≤ a → a < s.stop → Q s.stop s.deep) (hkey : ∀ n, l[a]? = some n → fitsS n = true → n.kind = 3 → Q (a + 1) 1) : ∀ {c i s last r}, kidsS val l m c i s last = some r → s.stop ≤ a → a < r.stop → ∃ x d, Q x d ∧ x ≤ r.stop ∧ d ≤ max 1 r.deep := by
  intro c
  induction c with
  | zero => intro i s last r hr h1 h2; cases hr; omega
  | succ c ih =>
    intro i s last r hr h1 h2
    simp only [kidsS] at hr
    rw [Option.bind_eq_some_iff] at hr; obtain ⟨p, hp, hr⟩ := hr
    rw [Option.bind_eq_some_iff] at hr; obtain ⟨kid, hk, hr⟩ := hr
    have hstop : ∀ {c i s last r}, kidsS val l m c i s last = some r → s.stop ≤ r.stop ∧ s.deep ≤ r.deep := by
      intro c
      induction c with
      | zero => intro i s last r hr; cases hr; exact ⟨Nat.le_refl _, Nat.le_refl _⟩
      | succ c ih =>
        intro i s last r hr
        simp only [kidsS] at hr
        rw [Option.bind_eq_some_iff] at hr; obtain ⟨p, hp, hr⟩ := hr
        rw [Option.bind_eq_some_iff] at hr; obtain ⟨kid, hk, hr⟩ := hr
        have := keyS_ge hp
        have := hsp _ _ hk
        have := ih hr
        simp only at this
        omega
    have hge := keyS_ge hp
    have hlt := hsp _ _ hk
    have hst := hstop hr
    simp only at hst
    by_cases h3 : kid.stop ≤ a
    · exact ih hr h3 h2
    · by_cases h4 : p.1 ≤ a
      · exact ⟨_, _, hv _ _ hk h4 (by omega), by omega, by omega⟩
      · -- a key
        have : m = true ∧ p.1 = s.stop + 1 ∧ ∃ n, l[s.stop]? = some n ∧ n.kind = 3 ∧ fitsS n = true := by
          unfold keyS at hp
          split at hp
          · rename_i hm
            split at hp
            · rename_i n hn
              split at hp
              · rename_i hc
                cases hp
                exact ⟨hm, rfl, n, hn, hc.1, hc.2.1⟩
              · cases hp
            · cases hp
          · cases hp; omega
        obtain ⟨_, h5, n, h6, h7, h8⟩ := this
        obtain rfl : s.stop = a := by omega
        exact ⟨_, _, hkey n h6 h8 h7, by omega, by omega⟩
/-- WITHIN A VALUE each node is the beginning of one. -/
theorem valS_inner {l : List Nd} {a : Nat} : ∀ {k b s}, valS l k b = some s → b ≤ a → a < s.stop → ∃ s', valS l k a = some s' ∧ s'.stop ≤ s.stop ∧ s'.deep ≤ s.deep := by
  intro k
  induction k with
  | zero => intro b s h; cases h
  | succ k ih =>
    intro b s h h1 h2
    by_cases hab : a = b
    · subst hab; exact ⟨s, h, Nat.le_refl _, Nat.le_refl _⟩
    · have h' := h
      rw [valS, Option.bind_eq_some_iff] at h'
      obtain ⟨n, hn, h'⟩ := h'
      split at h'
      · obtain ⟨r, hr, rfl⟩ := Option.map_eq_some_iff.1 h'
        simp only at h2 ⊢
        obtain ⟨x, d, ⟨s', hq, hx, hd⟩, h3, h4⟩ := kidsS_inner (a := a) (fun x d => ∃ s', valS l (k + 1) a = some s' ∧ s'.stop ≤ x ∧ s'.deep ≤ d) (fun st s hs => (valS_spec hs).1)
          (fun st s hs h5 h6 => by
            obtain ⟨s', h7, h8, h9⟩ := ih hs h5 h6
            exact ⟨s', valS_succ h7, h8, h9⟩)
          (fun n hn hf hk => ⟨_, valS_leaf hn hf hk, Nat.le_refl _, Nat.le_refl _⟩) hr (by simp only; omega) h2
        exact ⟨s', hq, by omega, by omega⟩
      · cases h'

/-- The nodes of a value that was gone through. -/
def cutS (l : List Nd) (a stop : Nat) : List Nd := (l.take stop).drop a
theorem cutS_length {l : List Nd} {a e : Nat} (h : e ≤ l.length) : (cutS l a e).length = e - a := by unfold cutS; simp; omega
theorem cutS_get {l : List Nd} {a e i : Nat} (h : i < e - a) : (cutS l a e)[0 + i]? = l[a + i]? := by
  unfold cutS
  rw [List.getElem?_drop, List.getElem?_take, if_pos (by omega), Nat.zero_add]
theorem cutS_mem {l : List Nd} {a e : Nat} {n : Nd} (h : n ∈ cutS l a e) : n ∈ l := List.mem_of_mem_take (List.mem_of_mem_drop h)
/-- A value, cut out, is one, as deep. -/
theorem cutS_whole {l : List Nd} {k a : Nat} {s : Span} (h : valS l k a = some s) : wholeS (cutS l a s.stop) = some (s.at_ a 0) := by
  obtain ⟨h1, h2, h3⟩ := valS_spec h
  have hl := cutS_length (l := l) (a := a) h2
  have hm := valS_moved (l' := cutS l a s.stop) (b := 0) (n := s.stop - a) (fun i hi => cutS_get hi) h (by omega)
  unfold wholeS
  -- enough rounds
  have : valS (cutS l a s.stop) ((cutS l a s.stop).length + 1) 0 = some (s.at_ a 0) := by
    exact valS_enough hm (by omega)
  rw [this, Option.bind_some, if_pos (by rw [hl]; simp [Span.at_])]
theorem cutS_check {l : List Nd} {k a : Nat} {s : Span} (h : valS l k a = some s) (hc : checkS l = 0) (hd : s.deep ≤ 32) : checkS (cutS l a s.stop) = 0 := by
  obtain ⟨h1, h2, _⟩ := checkS_ok hc
  obtain ⟨_, g2, _⟩ := valS_spec h
  unfold checkS
  rw [cutS_whole h, cutS_length g2]
  have hlg : longS (cutS l a s.stop) = false := by
    unfold longS at h2 ⊢
    rw [List.any_eq_false] at h2 ⊢
    exact fun n hn => h2 n (cutS_mem hn)
  rw [if_neg (by rw [hlg]; simp; omega)]
  exact if_neg (show ¬ 32 < (s.at_ a 0).deep from by simp only [Span.at_]; omega)
theorem checkS_inner {l : List Nd} (hc : checkS l = 0) {a : Nat} (ha : a < l.length) : ∃ s, valS l (l.length + 1) a = some s ∧ s.stop ≤ l.length ∧ s.deep ≤ 32 := by
  obtain ⟨h1, h2, s, h3, h4⟩ := checkS_ok hc
  obtain ⟨h5, h6⟩ := wholeS_some h3
  obtain ⟨s', h7, h8, h9⟩ := valS_inner h5 (Nat.zero_le a) (by omega)
  exact ⟨s', h7, by omega, by omega⟩
end Go.Proofs.YtcgkneolohcdeaaGreat

