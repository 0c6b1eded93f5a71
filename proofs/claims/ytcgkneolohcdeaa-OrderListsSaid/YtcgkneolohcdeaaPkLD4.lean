/- What the row of this claim leans on: own texts, merged. -/
import Derived.Lib.SmallJoins
import Derived.Deep.Slices
import Derived.ChangeArms
import Derived.DataReads
import Derived.Test.YtcgkneolohcdeaaRows
import Derived.WalkKit
import Derived.ProofKit
import Derived.OpenShut
import Derived.ShutString
import Derived.ChangeOld
import Derived.Below
import Derived.Carry
import Derived.Test.YtcgkneolohcdeaaPkLD3

/- The seat's types and functions, as equations. -/
namespace Go.Proofs.Ytcgkneolohcdeaa
open Go Abs
set_option linter.unusedSimpArgs false

@[simp] theorem GP : G.P = Try.prog := rfl
@[simp] theorem cells0 : Try.prog.cellsOf 0 = 1 := by kernel_rfl
@[simp] theorem info0 : Try.prog.info? 0 = some Try.t0 := by kernel_rfl
@[simp] theorem agg0 : isAggT Try.prog 0 = false := by kernel_rfl
attribute [simp] Try.underlying0
@[simp] theorem bytes0 : Try.t0.bytes = 0 := rfl
@[simp] theorem cells1 : Try.prog.cellsOf 1 = 1 := by kernel_rfl
@[simp] theorem info1 : Try.prog.info? 1 = some Try.t1 := by kernel_rfl
@[simp] theorem agg1 : isAggT Try.prog 1 = false := by kernel_rfl
attribute [simp] Try.underlying1
@[simp] theorem bytes1 : Try.t1.bytes = 8 := rfl
@[simp] theorem zero1 : Try.t1.zero = some .nilFunc := rfl
@[simp] theorem cells2 : Try.prog.cellsOf 2 = 1 := by kernel_rfl
@[simp] theorem info2 : Try.prog.info? 2 = some Try.t2 := by kernel_rfl
@[simp] theorem agg2 : isAggT Try.prog 2 = false := by kernel_rfl
attribute [simp] Try.underlying2
@[simp] theorem bytes2 : Try.t2.bytes = 8 := rfl
@[simp] theorem zero2 : Try.t2.zero = some (.int .i64 0) := rfl
@[simp] theorem cells3 : Try.prog.cellsOf 3 = 1 := by kernel_rfl
@[simp] theorem info3 : Try.prog.info? 3 = some Try.t3 := by kernel_rfl
@[simp] theorem agg3 : isAggT Try.prog 3 = false := by kernel_rfl
attribute [simp] Try.underlying3
@[simp] theorem bytes3 : Try.t3.bytes = 8 := rfl
@[simp] theorem zero3 : Try.t3.zero = some (.int .i64 0) := rfl
@[simp] theorem cells4 : Try.prog.cellsOf 4 = 1 := by kernel_rfl
@[simp] theorem info4 : Try.prog.info? 4 = some Try.t4 := by kernel_rfl
@[simp] theorem agg4 : isAggT Try.prog 4 = false := by kernel_rfl
attribute [simp] Try.underlying4
@[simp] theorem bytes4 : Try.t4.bytes = 1 := rfl
@[simp] theorem zero4 : Try.t4.zero = some (.bool false) := rfl
@[simp] theorem cells5 : Try.prog.cellsOf 5 = 1 := by kernel_rfl
@[simp] theorem info5 : Try.prog.info? 5 = some Try.t5 := by kernel_rfl
@[simp] theorem agg5 : isAggT Try.prog 5 = false := by kernel_rfl
attribute [simp] Try.underlying5
@[simp] theorem bytes5 : Try.t5.bytes = 1 := rfl
@[simp] theorem zero5 : Try.t5.zero = some (.int .u8 0) := rfl
@[simp] theorem cells6 : Try.prog.cellsOf 6 = 1 := by kernel_rfl
@[simp] theorem info6 : Try.prog.info? 6 = some Try.t6 := by kernel_rfl
@[simp] theorem agg6 : isAggT Try.prog 6 = false := by kernel_rfl
attribute [simp] Try.underlying6
@[simp] theorem bytes6 : Try.t6.bytes = 1 := rfl
@[simp] theorem zero6 : Try.t6.zero = some (.int .u8 0) := rfl
@[simp] theorem cells7 : Try.prog.cellsOf 7 = 4 := by kernel_rfl
@[simp] theorem info7 : Try.prog.info? 7 = some Try.t7 := by kernel_rfl
@[simp] theorem agg7 : isAggT Try.prog 7 = true := by kernel_rfl
attribute [simp] Try.underlying7
@[simp] theorem bytes7 : Try.t7.bytes = 24 := rfl
@[simp] theorem zero7 : Try.t7.zero = some (.agg #[(.int .i64 0), (.int .i64 0), (.bool false), (.int .u8 0)]) := rfl
@[simp] theorem cells8 : Try.prog.cellsOf 8 = 4 := by kernel_rfl
@[simp] theorem info8 : Try.prog.info? 8 = some Try.t8 := by kernel_rfl
@[simp] theorem agg8 : isAggT Try.prog 8 = true := by kernel_rfl
attribute [simp] Try.underlying8
@[simp] theorem bytes8 : Try.t8.bytes = 24 := rfl
@[simp] theorem zero8 : Try.t8.zero = some (.agg #[(.int .i64 0), (.int .i64 0), (.bool false), (.int .u8 0)]) := rfl
@[simp] theorem cells9 : Try.prog.cellsOf 9 = 1 := by kernel_rfl
@[simp] theorem info9 : Try.prog.info? 9 = some Try.t9 := by kernel_rfl
@[simp] theorem agg9 : isAggT Try.prog 9 = false := by kernel_rfl
attribute [simp] Try.underlying9
@[simp] theorem bytes9 : Try.t9.bytes = 16 := rfl
@[simp] theorem zero9 : Try.t9.zero = some (.string ⟨#[]⟩) := rfl
@[simp] theorem cells10 : Try.prog.cellsOf 10 = 1 := by kernel_rfl
@[simp] theorem info10 : Try.prog.info? 10 = some Try.t10 := by kernel_rfl
@[simp] theorem agg10 : isAggT Try.prog 10 = false := by kernel_rfl
attribute [simp] Try.underlying10
@[simp] theorem bytes10 : Try.t10.bytes = 16 := rfl
@[simp] theorem zero10 : Try.t10.zero = some (.string ⟨#[]⟩) := rfl
@[simp] theorem cells11 : Try.prog.cellsOf 11 = 1 := by kernel_rfl
@[simp] theorem info11 : Try.prog.info? 11 = some Try.t11 := by kernel_rfl
@[simp] theorem agg11 : isAggT Try.prog 11 = false := by kernel_rfl
attribute [simp] Try.underlying11
@[simp] theorem bytes11 : Try.t11.bytes = 16 := rfl
@[simp] theorem zero11 : Try.t11.zero = some (.string ⟨#[]⟩) := rfl
@[simp] theorem cells12 : Try.prog.cellsOf 12 = 1 := by kernel_rfl
@[simp] theorem info12 : Try.prog.info? 12 = some Try.t12 := by kernel_rfl
@[simp] theorem agg12 : isAggT Try.prog 12 = false := by kernel_rfl
attribute [simp] Try.underlying12
@[simp] theorem bytes12 : Try.t12.bytes = 8 := rfl
@[simp] theorem zero12 : Try.t12.zero = some (.int .u64 0) := rfl
@[simp] theorem cells13 : Try.prog.cellsOf 13 = 2 := by kernel_rfl
@[simp] theorem info13 : Try.prog.info? 13 = some Try.t13 := by kernel_rfl
@[simp] theorem agg13 : isAggT Try.prog 13 = true := by kernel_rfl
attribute [simp] Try.underlying13
@[simp] theorem bytes13 : Try.t13.bytes = 24 := rfl
@[simp] theorem zero13 : Try.t13.zero = some (.agg #[(.string ⟨#[]⟩), (.int .u64 0)]) := rfl
@[simp] theorem cells14 : Try.prog.cellsOf 14 = 2 := by kernel_rfl
@[simp] theorem info14 : Try.prog.info? 14 = some Try.t14 := by kernel_rfl
@[simp] theorem agg14 : isAggT Try.prog 14 = true := by kernel_rfl
attribute [simp] Try.underlying14
@[simp] theorem bytes14 : Try.t14.bytes = 24 := rfl
@[simp] theorem zero14 : Try.t14.zero = some (.agg #[(.string ⟨#[]⟩), (.int .u64 0)]) := rfl
@[simp] theorem cells15 : Try.prog.cellsOf 15 = 1 := by kernel_rfl
@[simp] theorem info15 : Try.prog.info? 15 = some Try.t15 := by kernel_rfl
@[simp] theorem agg15 : isAggT Try.prog 15 = false := by kernel_rfl
attribute [simp] Try.underlying15
@[simp] theorem bytes15 : Try.t15.bytes = 8 := rfl
@[simp] theorem zero15 : Try.t15.zero = some (.pointer none) := rfl
@[simp] theorem cells16 : Try.prog.cellsOf 16 = 1 := by kernel_rfl
@[simp] theorem info16 : Try.prog.info? 16 = some Try.t16 := by kernel_rfl
@[simp] theorem agg16 : isAggT Try.prog 16 = false := by kernel_rfl
attribute [simp] Try.underlying16
@[simp] theorem bytes16 : Try.t16.bytes = 8 := rfl
@[simp] theorem zero16 : Try.t16.zero = some (.pointer none) := rfl
@[simp] theorem cells17 : Try.prog.cellsOf 17 = 1 := by kernel_rfl
@[simp] theorem info17 : Try.prog.info? 17 = some Try.t17 := by kernel_rfl
@[simp] theorem agg17 : isAggT Try.prog 17 = false := by kernel_rfl
attribute [simp] Try.underlying17
@[simp] theorem bytes17 : Try.t17.bytes = 8 := rfl
@[simp] theorem zero17 : Try.t17.zero = some (.pointer none) := rfl
@[simp] theorem cells18 : Try.prog.cellsOf 18 = 1 := by kernel_rfl
@[simp] theorem info18 : Try.prog.info? 18 = some Try.t18 := by kernel_rfl
@[simp] theorem agg18 : isAggT Try.prog 18 = true := by kernel_rfl
attribute [simp] Try.underlying18
@[simp] theorem bytes18 : Try.t18.bytes = 8 := rfl
@[simp] theorem zero18 : Try.t18.zero = some (.agg #[(.pointer none)]) := rfl
@[simp] theorem cells19 : Try.prog.cellsOf 19 = 1 := by kernel_rfl
@[simp] theorem info19 : Try.prog.info? 19 = some Try.t19 := by kernel_rfl
@[simp] theorem agg19 : isAggT Try.prog 19 = true := by kernel_rfl
attribute [simp] Try.underlying19
@[simp] theorem bytes19 : Try.t19.bytes = 8 := rfl
@[simp] theorem zero19 : Try.t19.zero = some (.agg #[(.pointer none)]) := rfl
@[simp] theorem cells20 : Try.prog.cellsOf 20 = 1 := by kernel_rfl
@[simp] theorem info20 : Try.prog.info? 20 = some Try.t20 := by kernel_rfl
@[simp] theorem agg20 : isAggT Try.prog 20 = false := by kernel_rfl
attribute [simp] Try.underlying20
@[simp] theorem bytes20 : Try.t20.bytes = 16 := rfl
@[simp] theorem zero20 : Try.t20.zero = some .nilIface := rfl
@[simp] theorem cells21 : Try.prog.cellsOf 21 = 1 := by kernel_rfl
@[simp] theorem info21 : Try.prog.info? 21 = some Try.t21 := by kernel_rfl
@[simp] theorem agg21 : isAggT Try.prog 21 = false := by kernel_rfl
attribute [simp] Try.underlying21
@[simp] theorem bytes21 : Try.t21.bytes = 4 := rfl
@[simp] theorem zero21 : Try.t21.zero = some (.int .i32 0) := rfl
@[simp] theorem cells22 : Try.prog.cellsOf 22 = 1 := by kernel_rfl
@[simp] theorem info22 : Try.prog.info? 22 = some Try.t22 := by kernel_rfl
@[simp] theorem agg22 : isAggT Try.prog 22 = false := by kernel_rfl
attribute [simp] Try.underlying22
@[simp] theorem bytes22 : Try.t22.bytes = 24 := rfl
@[simp] theorem zero22 : Try.t22.zero = some (.slice none 0 0) := rfl
@[simp] theorem cells23 : Try.prog.cellsOf 23 = 1 := by kernel_rfl
@[simp] theorem info23 : Try.prog.info? 23 = some Try.t23 := by kernel_rfl
@[simp] theorem agg23 : isAggT Try.prog 23 = false := by kernel_rfl
attribute [simp] Try.underlying23
@[simp] theorem bytes23 : Try.t23.bytes = 8 := rfl
@[simp] theorem zero23 : Try.t23.zero = some .nilFunc := rfl
@[simp] theorem cells24 : Try.prog.cellsOf 24 = 1 := by kernel_rfl
@[simp] theorem info24 : Try.prog.info? 24 = some Try.t24 := by kernel_rfl
@[simp] theorem agg24 : isAggT Try.prog 24 = false := by kernel_rfl
attribute [simp] Try.underlying24
@[simp] theorem bytes24 : Try.t24.bytes = 8 := rfl
@[simp] theorem zero24 : Try.t24.zero = some .nilFunc := rfl
@[simp] theorem cells25 : Try.prog.cellsOf 25 = 1 := by kernel_rfl
@[simp] theorem info25 : Try.prog.info? 25 = some Try.t25 := by kernel_rfl
@[simp] theorem agg25 : isAggT Try.prog 25 = false := by kernel_rfl
attribute [simp] Try.underlying25
@[simp] theorem bytes25 : Try.t25.bytes = 24 := rfl
@[simp] theorem zero25 : Try.t25.zero = some (.slice none 0 0) := rfl
@[simp] theorem cells26 : Try.prog.cellsOf 26 = 1 := by kernel_rfl
@[simp] theorem info26 : Try.prog.info? 26 = some Try.t26 := by kernel_rfl
@[simp] theorem agg26 : isAggT Try.prog 26 = false := by kernel_rfl
attribute [simp] Try.underlying26
@[simp] theorem bytes26 : Try.t26.bytes = 8 := rfl
@[simp] theorem zero26 : Try.t26.zero = some (.int .i64 0) := rfl
@[simp] theorem cells27 : Try.prog.cellsOf 27 = 1 := by kernel_rfl
@[simp] theorem info27 : Try.prog.info? 27 = some Try.t27 := by kernel_rfl
@[simp] theorem agg27 : isAggT Try.prog 27 = false := by kernel_rfl
attribute [simp] Try.underlying27
@[simp] theorem bytes27 : Try.t27.bytes = 8 := rfl
@[simp] theorem zero27 : Try.t27.zero = some .nilFunc := rfl
@[simp] theorem cells28 : Try.prog.cellsOf 28 = 1 := by kernel_rfl
@[simp] theorem info28 : Try.prog.info? 28 = some Try.t28 := by kernel_rfl
@[simp] theorem agg28 : isAggT Try.prog 28 = false := by kernel_rfl
attribute [simp] Try.underlying28
@[simp] theorem bytes28 : Try.t28.bytes = 8 := rfl
@[simp] theorem zero28 : Try.t28.zero = some .nilFunc := rfl
@[simp] theorem cells29 : Try.prog.cellsOf 29 = 1 := by kernel_rfl
@[simp] theorem info29 : Try.prog.info? 29 = some Try.t29 := by kernel_rfl
@[simp] theorem agg29 : isAggT Try.prog 29 = false := by kernel_rfl
attribute [simp] Try.underlying29
@[simp] theorem bytes29 : Try.t29.bytes = 8 := rfl
@[simp] theorem zero29 : Try.t29.zero = some .nilFunc := rfl
@[simp] theorem cells30 : Try.prog.cellsOf 30 = 1 := by kernel_rfl
@[simp] theorem info30 : Try.prog.info? 30 = some Try.t30 := by kernel_rfl
@[simp] theorem agg30 : isAggT Try.prog 30 = false := by kernel_rfl
attribute [simp] Try.underlying30
@[simp] theorem bytes30 : Try.t30.bytes = 8 := rfl
@[simp] theorem zero30 : Try.t30.zero = some .nilFunc := rfl
@[simp] theorem cells31 : Try.prog.cellsOf 31 = 1 := by kernel_rfl
@[simp] theorem info31 : Try.prog.info? 31 = some Try.t31 := by kernel_rfl
@[simp] theorem agg31 : isAggT Try.prog 31 = false := by kernel_rfl
attribute [simp] Try.underlying31
@[simp] theorem bytes31 : Try.t31.bytes = 8 := rfl
@[simp] theorem zero31 : Try.t31.zero = some .nilFunc := rfl
@[simp] theorem cells32 : Try.prog.cellsOf 32 = 1 := by kernel_rfl
@[simp] theorem info32 : Try.prog.info? 32 = some Try.t32 := by kernel_rfl
@[simp] theorem agg32 : isAggT Try.prog 32 = false := by kernel_rfl
attribute [simp] Try.underlying32
@[simp] theorem bytes32 : Try.t32.bytes = 8 := rfl
@[simp] theorem zero32 : Try.t32.zero = some .nilFunc := rfl
@[simp] theorem cells33 : Try.prog.cellsOf 33 = 1 := by kernel_rfl
@[simp] theorem info33 : Try.prog.info? 33 = some Try.t33 := by kernel_rfl
@[simp] theorem agg33 : isAggT Try.prog 33 = false := by kernel_rfl
attribute [simp] Try.underlying33
@[simp] theorem bytes33 : Try.t33.bytes = 8 := rfl
@[simp] theorem zero33 : Try.t33.zero = some .nilFunc := rfl
@[simp] theorem cells34 : Try.prog.cellsOf 34 = 1 := by kernel_rfl
@[simp] theorem info34 : Try.prog.info? 34 = some Try.t34 := by kernel_rfl
@[simp] theorem agg34 : isAggT Try.prog 34 = false := by kernel_rfl
attribute [simp] Try.underlying34
@[simp] theorem bytes34 : Try.t34.bytes = 8 := rfl
@[simp] theorem zero34 : Try.t34.zero = some .nilFunc := rfl
@[simp] theorem cells35 : Try.prog.cellsOf 35 = 1 := by kernel_rfl
@[simp] theorem info35 : Try.prog.info? 35 = some Try.t35 := by kernel_rfl
@[simp] theorem agg35 : isAggT Try.prog 35 = false := by kernel_rfl
attribute [simp] Try.underlying35
@[simp] theorem bytes35 : Try.t35.bytes = 8 := rfl
@[simp] theorem zero35 : Try.t35.zero = some .nilFunc := rfl
@[simp] theorem cells36 : Try.prog.cellsOf 36 = 1 := by kernel_rfl
@[simp] theorem info36 : Try.prog.info? 36 = some Try.t36 := by kernel_rfl
@[simp] theorem agg36 : isAggT Try.prog 36 = false := by kernel_rfl
attribute [simp] Try.underlying36
@[simp] theorem bytes36 : Try.t36.bytes = 0 := rfl
@[simp] theorem cells37 : Try.prog.cellsOf 37 = 1 := by kernel_rfl
@[simp] theorem info37 : Try.prog.info? 37 = some Try.t37 := by kernel_rfl
@[simp] theorem agg37 : isAggT Try.prog 37 = false := by kernel_rfl
attribute [simp] Try.underlying37
@[simp] theorem bytes37 : Try.t37.bytes = 8 := rfl
@[simp] theorem zero37 : Try.t37.zero = some .nilFunc := rfl
@[simp] theorem cells38 : Try.prog.cellsOf 38 = 1 := by kernel_rfl
@[simp] theorem info38 : Try.prog.info? 38 = some Try.t38 := by kernel_rfl
@[simp] theorem agg38 : isAggT Try.prog 38 = false := by kernel_rfl
attribute [simp] Try.underlying38
@[simp] theorem bytes38 : Try.t38.bytes = 8 := rfl
@[simp] theorem zero38 : Try.t38.zero = some .nilFunc := rfl
@[simp] theorem cells39 : Try.prog.cellsOf 39 = 1 := by kernel_rfl
@[simp] theorem info39 : Try.prog.info? 39 = some Try.t39 := by kernel_rfl
@[simp] theorem agg39 : isAggT Try.prog 39 = false := by kernel_rfl
attribute [simp] Try.underlying39
@[simp] theorem bytes39 : Try.t39.bytes = 24 := rfl
@[simp] theorem zero39 : Try.t39.zero = some (.slice none 0 0) := rfl
@[simp] theorem cells40 : Try.prog.cellsOf 40 = 1 := by kernel_rfl
@[simp] theorem info40 : Try.prog.info? 40 = some Try.t40 := by kernel_rfl
@[simp] theorem agg40 : isAggT Try.prog 40 = false := by kernel_rfl
attribute [simp] Try.underlying40
@[simp] theorem bytes40 : Try.t40.bytes = 8 := rfl
@[simp] theorem zero40 : Try.t40.zero = some .nilFunc := rfl
@[simp] theorem cells41 : Try.prog.cellsOf 41 = 1 := by kernel_rfl
@[simp] theorem info41 : Try.prog.info? 41 = some Try.t41 := by kernel_rfl
@[simp] theorem agg41 : isAggT Try.prog 41 = false := by kernel_rfl
attribute [simp] Try.underlying41
@[simp] theorem bytes41 : Try.t41.bytes = 8 := rfl
@[simp] theorem zero41 : Try.t41.zero = some (.int .i64 0) := rfl
@[simp] theorem cells42 : Try.prog.cellsOf 42 = 4 := by kernel_rfl
@[simp] theorem info42 : Try.prog.info? 42 = some Try.t42 := by kernel_rfl
@[simp] theorem agg42 : isAggT Try.prog 42 = true := by kernel_rfl
attribute [simp] Try.underlying42
@[simp] theorem bytes42 : Try.t42.bytes = 40 := rfl
@[simp] theorem zero42 : Try.t42.zero = some (.agg #[(.int .i64 0), (.int .i64 0), (.string ⟨#[]⟩), (.int .i64 0)]) := rfl
@[simp] theorem cells43 : Try.prog.cellsOf 43 = 4 := by kernel_rfl
@[simp] theorem info43 : Try.prog.info? 43 = some Try.t43 := by kernel_rfl
@[simp] theorem agg43 : isAggT Try.prog 43 = true := by kernel_rfl
attribute [simp] Try.underlying43
@[simp] theorem bytes43 : Try.t43.bytes = 40 := rfl
@[simp] theorem zero43 : Try.t43.zero = some (.agg #[(.int .i64 0), (.int .i64 0), (.string ⟨#[]⟩), (.int .i64 0)]) := rfl
@[simp] theorem cells44 : Try.prog.cellsOf 44 = 1 := by kernel_rfl
@[simp] theorem info44 : Try.prog.info? 44 = some Try.t44 := by kernel_rfl
@[simp] theorem agg44 : isAggT Try.prog 44 = false := by kernel_rfl
attribute [simp] Try.underlying44
@[simp] theorem bytes44 : Try.t44.bytes = 8 := rfl
@[simp] theorem zero44 : Try.t44.zero = some .nilFunc := rfl
@[simp] theorem cells45 : Try.prog.cellsOf 45 = 1 := by kernel_rfl
@[simp] theorem info45 : Try.prog.info? 45 = some Try.t45 := by kernel_rfl
@[simp] theorem agg45 : isAggT Try.prog 45 = false := by kernel_rfl
attribute [simp] Try.underlying45
@[simp] theorem bytes45 : Try.t45.bytes = 8 := rfl
@[simp] theorem zero45 : Try.t45.zero = some .nilFunc := rfl
@[simp] theorem cells46 : Try.prog.cellsOf 46 = 1 := by kernel_rfl
@[simp] theorem info46 : Try.prog.info? 46 = some Try.t46 := by kernel_rfl
@[simp] theorem agg46 : isAggT Try.prog 46 = false := by kernel_rfl
attribute [simp] Try.underlying46
@[simp] theorem bytes46 : Try.t46.bytes = 8 := rfl
@[simp] theorem zero46 : Try.t46.zero = some .nilFunc := rfl
@[simp] theorem cells47 : Try.prog.cellsOf 47 = 1 := by kernel_rfl
@[simp] theorem info47 : Try.prog.info? 47 = some Try.t47 := by kernel_rfl
@[simp] theorem agg47 : isAggT Try.prog 47 = false := by kernel_rfl
attribute [simp] Try.underlying47
@[simp] theorem bytes47 : Try.t47.bytes = 24 := rfl
@[simp] theorem zero47 : Try.t47.zero = some (.slice none 0 0) := rfl
@[simp] theorem cells48 : Try.prog.cellsOf 48 = 3 := by kernel_rfl
@[simp] theorem info48 : Try.prog.info? 48 = some Try.t48 := by kernel_rfl
@[simp] theorem agg48 : isAggT Try.prog 48 = true := by kernel_rfl
attribute [simp] Try.underlying48
@[simp] theorem bytes48 : Try.t48.bytes = 40 := rfl
@[simp] theorem zero48 : Try.t48.zero = some (.agg #[(.int .i64 0), (.int .i64 0), (.slice none 0 0)]) := rfl
@[simp] theorem cells49 : Try.prog.cellsOf 49 = 3 := by kernel_rfl
@[simp] theorem info49 : Try.prog.info? 49 = some Try.t49 := by kernel_rfl
@[simp] theorem agg49 : isAggT Try.prog 49 = true := by kernel_rfl
attribute [simp] Try.underlying49
@[simp] theorem bytes49 : Try.t49.bytes = 40 := rfl
@[simp] theorem zero49 : Try.t49.zero = some (.agg #[(.int .i64 0), (.int .i64 0), (.slice none 0 0)]) := rfl
@[simp] theorem cells50 : Try.prog.cellsOf 50 = 1 := by kernel_rfl
@[simp] theorem info50 : Try.prog.info? 50 = some Try.t50 := by kernel_rfl
@[simp] theorem agg50 : isAggT Try.prog 50 = false := by kernel_rfl
attribute [simp] Try.underlying50
@[simp] theorem bytes50 : Try.t50.bytes = 0 := rfl
@[simp] theorem cells51 : Try.prog.cellsOf 51 = 1 := by kernel_rfl
@[simp] theorem info51 : Try.prog.info? 51 = some Try.t51 := by kernel_rfl
@[simp] theorem agg51 : isAggT Try.prog 51 = false := by kernel_rfl
attribute [simp] Try.underlying51
@[simp] theorem bytes51 : Try.t51.bytes = 8 := rfl
@[simp] theorem zero51 : Try.t51.zero = some .nilFunc := rfl
@[simp] theorem cells52 : Try.prog.cellsOf 52 = 1 := by kernel_rfl
@[simp] theorem info52 : Try.prog.info? 52 = some Try.t52 := by kernel_rfl
@[simp] theorem agg52 : isAggT Try.prog 52 = false := by kernel_rfl
attribute [simp] Try.underlying52
@[simp] theorem bytes52 : Try.t52.bytes = 8 := rfl
@[simp] theorem zero52 : Try.t52.zero = some .nilFunc := rfl
@[simp] theorem cells53 : Try.prog.cellsOf 53 = 1 := by kernel_rfl
@[simp] theorem info53 : Try.prog.info? 53 = some Try.t53 := by kernel_rfl
@[simp] theorem agg53 : isAggT Try.prog 53 = false := by kernel_rfl
attribute [simp] Try.underlying53
@[simp] theorem bytes53 : Try.t53.bytes = 24 := rfl
@[simp] theorem zero53 : Try.t53.zero = some (.slice none 0 0) := rfl
@[simp] theorem cells54 : Try.prog.cellsOf 54 = 1 := by kernel_rfl
@[simp] theorem info54 : Try.prog.info? 54 = some Try.t54 := by kernel_rfl
@[simp] theorem agg54 : isAggT Try.prog 54 = false := by kernel_rfl
attribute [simp] Try.underlying54
@[simp] theorem bytes54 : Try.t54.bytes = 8 := rfl
@[simp] theorem zero54 : Try.t54.zero = some .nilFunc := rfl
@[simp] theorem cells55 : Try.prog.cellsOf 55 = 1 := by kernel_rfl
@[simp] theorem info55 : Try.prog.info? 55 = some Try.t55 := by kernel_rfl
@[simp] theorem agg55 : isAggT Try.prog 55 = false := by kernel_rfl
attribute [simp] Try.underlying55
@[simp] theorem bytes55 : Try.t55.bytes = 24 := rfl
@[simp] theorem zero55 : Try.t55.zero = some (.slice none 0 0) := rfl
@[simp] theorem cells56 : Try.prog.cellsOf 56 = 1 := by kernel_rfl
@[simp] theorem info56 : Try.prog.info? 56 = some Try.t56 := by kernel_rfl
@[simp] theorem agg56 : isAggT Try.prog 56 = false := by kernel_rfl
attribute [simp] Try.underlying56
@[simp] theorem bytes56 : Try.t56.bytes = 8 := rfl
@[simp] theorem zero56 : Try.t56.zero = some .nilFunc := rfl
@[simp] theorem cells57 : Try.prog.cellsOf 57 = 1 := by kernel_rfl
@[simp] theorem info57 : Try.prog.info? 57 = some Try.t57 := by kernel_rfl
@[simp] theorem agg57 : isAggT Try.prog 57 = false := by kernel_rfl
attribute [simp] Try.underlying57
@[simp] theorem bytes57 : Try.t57.bytes = 8 := rfl
@[simp] theorem zero57 : Try.t57.zero = some .nilFunc := rfl
@[simp] theorem cells58 : Try.prog.cellsOf 58 = 2 := by kernel_rfl
@[simp] theorem info58 : Try.prog.info? 58 = some Try.t58 := by kernel_rfl
@[simp] theorem agg58 : isAggT Try.prog 58 = true := by kernel_rfl
attribute [simp] Try.underlying58
@[simp] theorem bytes58 : Try.t58.bytes = 32 := rfl
@[simp] theorem zero58 : Try.t58.zero = some (.agg #[(.slice none 0 0), (.int .i64 0)]) := rfl
@[simp] theorem cells59 : Try.prog.cellsOf 59 = 2 := by kernel_rfl
@[simp] theorem info59 : Try.prog.info? 59 = some Try.t59 := by kernel_rfl
@[simp] theorem agg59 : isAggT Try.prog 59 = true := by kernel_rfl
attribute [simp] Try.underlying59
@[simp] theorem bytes59 : Try.t59.bytes = 32 := rfl
@[simp] theorem zero59 : Try.t59.zero = some (.agg #[(.slice none 0 0), (.int .i64 0)]) := rfl
@[simp] theorem cells60 : Try.prog.cellsOf 60 = 1 := by kernel_rfl
@[simp] theorem info60 : Try.prog.info? 60 = some Try.t60 := by kernel_rfl
@[simp] theorem agg60 : isAggT Try.prog 60 = false := by kernel_rfl
attribute [simp] Try.underlying60
@[simp] theorem bytes60 : Try.t60.bytes = 8 := rfl
@[simp] theorem zero60 : Try.t60.zero = some .nilFunc := rfl
@[simp] theorem cells61 : Try.prog.cellsOf 61 = 1 := by kernel_rfl
@[simp] theorem info61 : Try.prog.info? 61 = some Try.t61 := by kernel_rfl
@[simp] theorem agg61 : isAggT Try.prog 61 = false := by kernel_rfl
attribute [simp] Try.underlying61
@[simp] theorem bytes61 : Try.t61.bytes = 8 := rfl
@[simp] theorem zero61 : Try.t61.zero = some .nilFunc := rfl
@[simp] theorem cells62 : Try.prog.cellsOf 62 = 1 := by kernel_rfl
@[simp] theorem info62 : Try.prog.info? 62 = some Try.t62 := by kernel_rfl
@[simp] theorem agg62 : isAggT Try.prog 62 = false := by kernel_rfl
attribute [simp] Try.underlying62
@[simp] theorem bytes62 : Try.t62.bytes = 8 := rfl
@[simp] theorem zero62 : Try.t62.zero = some (.pointer none) := rfl
@[simp] theorem cells63 : Try.prog.cellsOf 63 = 1 := by kernel_rfl
@[simp] theorem info63 : Try.prog.info? 63 = some Try.t63 := by kernel_rfl
@[simp] theorem agg63 : isAggT Try.prog 63 = false := by kernel_rfl
attribute [simp] Try.underlying63
@[simp] theorem bytes63 : Try.t63.bytes = 24 := rfl
@[simp] theorem zero63 : Try.t63.zero = some (.slice none 0 0) := rfl
@[simp] theorem cells64 : Try.prog.cellsOf 64 = 1 := by kernel_rfl
@[simp] theorem info64 : Try.prog.info? 64 = some Try.t64 := by kernel_rfl
@[simp] theorem agg64 : isAggT Try.prog 64 = false := by kernel_rfl
attribute [simp] Try.underlying64
@[simp] theorem bytes64 : Try.t64.bytes = 8 := rfl
@[simp] theorem zero64 : Try.t64.zero = some .nilFunc := rfl
@[simp] theorem cells65 : Try.prog.cellsOf 65 = 1 := by kernel_rfl
@[simp] theorem info65 : Try.prog.info? 65 = some Try.t65 := by kernel_rfl
@[simp] theorem agg65 : isAggT Try.prog 65 = false := by kernel_rfl
attribute [simp] Try.underlying65
@[simp] theorem bytes65 : Try.t65.bytes = 8 := rfl
@[simp] theorem zero65 : Try.t65.zero = some .nilFunc := rfl
@[simp] theorem cells66 : Try.prog.cellsOf 66 = 1 := by kernel_rfl
@[simp] theorem info66 : Try.prog.info? 66 = some Try.t66 := by kernel_rfl
@[simp] theorem agg66 : isAggT Try.prog 66 = false := by kernel_rfl
attribute [simp] Try.underlying66
@[simp] theorem bytes66 : Try.t66.bytes = 8 := rfl
@[simp] theorem zero66 : Try.t66.zero = some .nilFunc := rfl
@[simp] theorem cells67 : Try.prog.cellsOf 67 = 1 := by kernel_rfl
@[simp] theorem info67 : Try.prog.info? 67 = some Try.t67 := by kernel_rfl
@[simp] theorem agg67 : isAggT Try.prog 67 = false := by kernel_rfl
attribute [simp] Try.underlying67
@[simp] theorem bytes67 : Try.t67.bytes = 8 := rfl
@[simp] theorem zero67 : Try.t67.zero = some .nilFunc := rfl
@[simp] theorem cells68 : Try.prog.cellsOf 68 = 1 := by kernel_rfl
@[simp] theorem info68 : Try.prog.info? 68 = some Try.t68 := by kernel_rfl
@[simp] theorem agg68 : isAggT Try.prog 68 = false := by kernel_rfl
attribute [simp] Try.underlying68
@[simp] theorem bytes68 : Try.t68.bytes = 8 := rfl
@[simp] theorem zero68 : Try.t68.zero = some .nilFunc := rfl
@[simp] theorem cells69 : Try.prog.cellsOf 69 = 1 := by kernel_rfl
@[simp] theorem info69 : Try.prog.info? 69 = some Try.t69 := by kernel_rfl
@[simp] theorem agg69 : isAggT Try.prog 69 = false := by kernel_rfl
attribute [simp] Try.underlying69
@[simp] theorem bytes69 : Try.t69.bytes = 8 := rfl
@[simp] theorem zero69 : Try.t69.zero = some .nilFunc := rfl
@[simp] theorem cells70 : Try.prog.cellsOf 70 = 1 := by kernel_rfl
@[simp] theorem info70 : Try.prog.info? 70 = some Try.t70 := by kernel_rfl
@[simp] theorem agg70 : isAggT Try.prog 70 = false := by kernel_rfl
attribute [simp] Try.underlying70
@[simp] theorem bytes70 : Try.t70.bytes = 8 := rfl
@[simp] theorem zero70 : Try.t70.zero = some .nilFunc := rfl
@[simp] theorem cells71 : Try.prog.cellsOf 71 = 1 := by kernel_rfl
@[simp] theorem info71 : Try.prog.info? 71 = some Try.t71 := by kernel_rfl
@[simp] theorem agg71 : isAggT Try.prog 71 = false := by kernel_rfl
attribute [simp] Try.underlying71
@[simp] theorem bytes71 : Try.t71.bytes = 8 := rfl
@[simp] theorem zero71 : Try.t71.zero = some .nilFunc := rfl
@[simp] theorem cells72 : Try.prog.cellsOf 72 = 1 := by kernel_rfl
@[simp] theorem info72 : Try.prog.info? 72 = some Try.t72 := by kernel_rfl
@[simp] theorem agg72 : isAggT Try.prog 72 = false := by kernel_rfl
attribute [simp] Try.underlying72
@[simp] theorem bytes72 : Try.t72.bytes = 8 := rfl
@[simp] theorem zero72 : Try.t72.zero = some .nilFunc := rfl
@[simp] theorem cells73 : Try.prog.cellsOf 73 = 0 := by kernel_rfl
@[simp] theorem info73 : Try.prog.info? 73 = some Try.t73 := by kernel_rfl
@[simp] theorem agg73 : isAggT Try.prog 73 = true := by kernel_rfl
attribute [simp] Try.underlying73
@[simp] theorem bytes73 : Try.t73.bytes = 0 := rfl
@[simp] theorem zero73 : Try.t73.zero = some (.agg #[]) := rfl
@[simp] theorem cells74 : Try.prog.cellsOf 74 = 0 := by kernel_rfl
@[simp] theorem info74 : Try.prog.info? 74 = some Try.t74 := by kernel_rfl
@[simp] theorem agg74 : isAggT Try.prog 74 = true := by kernel_rfl
attribute [simp] Try.underlying74
@[simp] theorem bytes74 : Try.t74.bytes = 0 := rfl
@[simp] theorem zero74 : Try.t74.zero = some (.agg #[]) := rfl
@[simp] theorem cells75 : Try.prog.cellsOf 75 = 1 := by kernel_rfl
@[simp] theorem info75 : Try.prog.info? 75 = some Try.t75 := by kernel_rfl
@[simp] theorem agg75 : isAggT Try.prog 75 = false := by kernel_rfl
attribute [simp] Try.underlying75
@[simp] theorem bytes75 : Try.t75.bytes = 0 := rfl
@[simp] theorem cells76 : Try.prog.cellsOf 76 = 1 := by kernel_rfl
@[simp] theorem info76 : Try.prog.info? 76 = some Try.t76 := by kernel_rfl
@[simp] theorem agg76 : isAggT Try.prog 76 = false := by kernel_rfl
attribute [simp] Try.underlying76
@[simp] theorem bytes76 : Try.t76.bytes = 8 := rfl
@[simp] theorem zero76 : Try.t76.zero = some .nilFunc := rfl
@[simp] theorem cells77 : Try.prog.cellsOf 77 = 1 := by kernel_rfl
@[simp] theorem info77 : Try.prog.info? 77 = some Try.t77 := by kernel_rfl
@[simp] theorem agg77 : isAggT Try.prog 77 = false := by kernel_rfl
attribute [simp] Try.underlying77
@[simp] theorem bytes77 : Try.t77.bytes = 8 := rfl
@[simp] theorem zero77 : Try.t77.zero = some .nilFunc := rfl
@[simp] theorem cells78 : Try.prog.cellsOf 78 = 1 := by kernel_rfl
@[simp] theorem info78 : Try.prog.info? 78 = some Try.t78 := by kernel_rfl
@[simp] theorem agg78 : isAggT Try.prog 78 = false := by kernel_rfl
attribute [simp] Try.underlying78
@[simp] theorem bytes78 : Try.t78.bytes = 8 := rfl
@[simp] theorem zero78 : Try.t78.zero = some .nilFunc := rfl
@[simp] theorem cells79 : Try.prog.cellsOf 79 = 1 := by kernel_rfl
@[simp] theorem info79 : Try.prog.info? 79 = some Try.t79 := by kernel_rfl
@[simp] theorem agg79 : isAggT Try.prog 79 = false := by kernel_rfl
attribute [simp] Try.underlying79
@[simp] theorem bytes79 : Try.t79.bytes = 8 := rfl
@[simp] theorem zero79 : Try.t79.zero = some .nilFunc := rfl
@[simp] theorem cells80 : Try.prog.cellsOf 80 = 1 := by kernel_rfl
@[simp] theorem info80 : Try.prog.info? 80 = some Try.t80 := by kernel_rfl
@[simp] theorem agg80 : isAggT Try.prog 80 = false := by kernel_rfl
attribute [simp] Try.underlying80
@[simp] theorem bytes80 : Try.t80.bytes = 8 := rfl
@[simp] theorem zero80 : Try.t80.zero = some .nilFunc := rfl
@[simp] theorem cells81 : Try.prog.cellsOf 81 = 1 := by kernel_rfl
@[simp] theorem info81 : Try.prog.info? 81 = some Try.t81 := by kernel_rfl
@[simp] theorem agg81 : isAggT Try.prog 81 = false := by kernel_rfl
attribute [simp] Try.underlying81
@[simp] theorem bytes81 : Try.t81.bytes = 8 := rfl
@[simp] theorem zero81 : Try.t81.zero = some .nilFunc := rfl
@[simp] theorem cells82 : Try.prog.cellsOf 82 = 1 := by kernel_rfl
@[simp] theorem info82 : Try.prog.info? 82 = some Try.t82 := by kernel_rfl
@[simp] theorem agg82 : isAggT Try.prog 82 = false := by kernel_rfl
attribute [simp] Try.underlying82
@[simp] theorem bytes82 : Try.t82.bytes = 8 := rfl
@[simp] theorem zero82 : Try.t82.zero = some .nilFunc := rfl
@[simp] theorem cells83 : Try.prog.cellsOf 83 = 1 := by kernel_rfl
@[simp] theorem info83 : Try.prog.info? 83 = some Try.t83 := by kernel_rfl
@[simp] theorem agg83 : isAggT Try.prog 83 = false := by kernel_rfl
attribute [simp] Try.underlying83
@[simp] theorem bytes83 : Try.t83.bytes = 24 := rfl
@[simp] theorem zero83 : Try.t83.zero = some (.slice none 0 0) := rfl
@[simp] theorem cells84 : Try.prog.cellsOf 84 = 1 := by kernel_rfl
@[simp] theorem info84 : Try.prog.info? 84 = some Try.t84 := by kernel_rfl
@[simp] theorem agg84 : isAggT Try.prog 84 = false := by kernel_rfl
attribute [simp] Try.underlying84
@[simp] theorem bytes84 : Try.t84.bytes = 8 := rfl
@[simp] theorem zero84 : Try.t84.zero = some .nilFunc := rfl
@[simp] theorem cells85 : Try.prog.cellsOf 85 = 1 := by kernel_rfl
@[simp] theorem info85 : Try.prog.info? 85 = some Try.t85 := by kernel_rfl
@[simp] theorem agg85 : isAggT Try.prog 85 = false := by kernel_rfl
attribute [simp] Try.underlying85
@[simp] theorem bytes85 : Try.t85.bytes = 8 := rfl
@[simp] theorem zero85 : Try.t85.zero = some .nilFunc := rfl
@[simp] theorem cells86 : Try.prog.cellsOf 86 = 1 := by kernel_rfl
@[simp] theorem info86 : Try.prog.info? 86 = some Try.t86 := by kernel_rfl
@[simp] theorem agg86 : isAggT Try.prog 86 = false := by kernel_rfl
attribute [simp] Try.underlying86
@[simp] theorem bytes86 : Try.t86.bytes = 8 := rfl
@[simp] theorem zero86 : Try.t86.zero = some .nilFunc := rfl
@[simp] theorem cells87 : Try.prog.cellsOf 87 = 1 := by kernel_rfl
@[simp] theorem info87 : Try.prog.info? 87 = some Try.t87 := by kernel_rfl
@[simp] theorem agg87 : isAggT Try.prog 87 = false := by kernel_rfl
attribute [simp] Try.underlying87
@[simp] theorem bytes87 : Try.t87.bytes = 8 := rfl
@[simp] theorem zero87 : Try.t87.zero = some .nilFunc := rfl
@[simp] theorem cells88 : Try.prog.cellsOf 88 = 1 := by kernel_rfl
@[simp] theorem info88 : Try.prog.info? 88 = some Try.t88 := by kernel_rfl
@[simp] theorem agg88 : isAggT Try.prog 88 = false := by kernel_rfl
attribute [simp] Try.underlying88
@[simp] theorem bytes88 : Try.t88.bytes = 8 := rfl
@[simp] theorem zero88 : Try.t88.zero = some (.int .u64 0) := rfl
@[simp] theorem cells89 : Try.prog.cellsOf 89 = 1 := by kernel_rfl
@[simp] theorem info89 : Try.prog.info? 89 = some Try.t89 := by kernel_rfl
@[simp] theorem agg89 : isAggT Try.prog 89 = false := by kernel_rfl
attribute [simp] Try.underlying89
@[simp] theorem bytes89 : Try.t89.bytes = 16 := rfl
@[simp] theorem zero89 : Try.t89.zero = some .nilIface := rfl
@[simp] theorem cells90 : Try.prog.cellsOf 90 = 1 := by kernel_rfl
@[simp] theorem info90 : Try.prog.info? 90 = some Try.t90 := by kernel_rfl
@[simp] theorem agg90 : isAggT Try.prog 90 = false := by kernel_rfl
attribute [simp] Try.underlying90
@[simp] theorem bytes90 : Try.t90.bytes = 16 := rfl
@[simp] theorem zero90 : Try.t90.zero = some .nilIface := rfl
@[simp] theorem cells91 : Try.prog.cellsOf 91 = 1 := by kernel_rfl
@[simp] theorem info91 : Try.prog.info? 91 = some Try.t91 := by kernel_rfl
@[simp] theorem agg91 : isAggT Try.prog 91 = false := by kernel_rfl
attribute [simp] Try.underlying91
@[simp] theorem bytes91 : Try.t91.bytes = 8 := rfl
@[simp] theorem zero91 : Try.t91.zero = some .nilFunc := rfl
@[simp] theorem cells92 : Try.prog.cellsOf 92 = 1 := by kernel_rfl
@[simp] theorem info92 : Try.prog.info? 92 = some Try.t92 := by kernel_rfl
@[simp] theorem agg92 : isAggT Try.prog 92 = false := by kernel_rfl
attribute [simp] Try.underlying92
@[simp] theorem bytes92 : Try.t92.bytes = 8 := rfl
@[simp] theorem zero92 : Try.t92.zero = some .nilFunc := rfl
@[simp] theorem cells93 : Try.prog.cellsOf 93 = 1 := by kernel_rfl
@[simp] theorem info93 : Try.prog.info? 93 = some Try.t93 := by kernel_rfl
@[simp] theorem agg93 : isAggT Try.prog 93 = false := by kernel_rfl
attribute [simp] Try.underlying93
@[simp] theorem bytes93 : Try.t93.bytes = 8 := rfl
@[simp] theorem zero93 : Try.t93.zero = some .nilFunc := rfl
@[simp] theorem cells94 : Try.prog.cellsOf 94 = 1 := by kernel_rfl
@[simp] theorem info94 : Try.prog.info? 94 = some Try.t94 := by kernel_rfl
@[simp] theorem agg94 : isAggT Try.prog 94 = false := by kernel_rfl
attribute [simp] Try.underlying94
@[simp] theorem bytes94 : Try.t94.bytes = 8 := rfl
@[simp] theorem zero94 : Try.t94.zero = some .nilFunc := rfl
@[simp] theorem cells95 : Try.prog.cellsOf 95 = 1 := by kernel_rfl
@[simp] theorem info95 : Try.prog.info? 95 = some Try.t95 := by kernel_rfl
@[simp] theorem agg95 : isAggT Try.prog 95 = false := by kernel_rfl
attribute [simp] Try.underlying95
@[simp] theorem bytes95 : Try.t95.bytes = 8 := rfl
@[simp] theorem zero95 : Try.t95.zero = some .nilFunc := rfl
@[simp] theorem cells96 : Try.prog.cellsOf 96 = 1 := by kernel_rfl
@[simp] theorem info96 : Try.prog.info? 96 = some Try.t96 := by kernel_rfl
@[simp] theorem agg96 : isAggT Try.prog 96 = false := by kernel_rfl
attribute [simp] Try.underlying96
@[simp] theorem bytes96 : Try.t96.bytes = 8 := rfl
@[simp] theorem zero96 : Try.t96.zero = some .nilFunc := rfl
@[simp] theorem cells97 : Try.prog.cellsOf 97 = 1 := by kernel_rfl
@[simp] theorem info97 : Try.prog.info? 97 = some Try.t97 := by kernel_rfl
@[simp] theorem agg97 : isAggT Try.prog 97 = false := by kernel_rfl
attribute [simp] Try.underlying97
@[simp] theorem bytes97 : Try.t97.bytes = 8 := rfl
@[simp] theorem zero97 : Try.t97.zero = some .nilFunc := rfl
@[simp] theorem cells98 : Try.prog.cellsOf 98 = 1 := by kernel_rfl
@[simp] theorem info98 : Try.prog.info? 98 = some Try.t98 := by kernel_rfl
@[simp] theorem agg98 : isAggT Try.prog 98 = false := by kernel_rfl
attribute [simp] Try.underlying98
@[simp] theorem bytes98 : Try.t98.bytes = 8 := rfl
@[simp] theorem zero98 : Try.t98.zero = some .nilFunc := rfl
@[simp] theorem cells99 : Try.prog.cellsOf 99 = 1 := by kernel_rfl
@[simp] theorem info99 : Try.prog.info? 99 = some Try.t99 := by kernel_rfl
@[simp] theorem agg99 : isAggT Try.prog 99 = false := by kernel_rfl
attribute [simp] Try.underlying99
@[simp] theorem bytes99 : Try.t99.bytes = 8 := rfl
@[simp] theorem zero99 : Try.t99.zero = some .nilFunc := rfl
@[simp] theorem cells100 : Try.prog.cellsOf 100 = 1 := by kernel_rfl
@[simp] theorem info100 : Try.prog.info? 100 = some Try.t100 := by kernel_rfl
@[simp] theorem agg100 : isAggT Try.prog 100 = false := by kernel_rfl
attribute [simp] Try.underlying100
@[simp] theorem bytes100 : Try.t100.bytes = 8 := rfl
@[simp] theorem zero100 : Try.t100.zero = some .nilFunc := rfl
@[simp] theorem cells101 : Try.prog.cellsOf 101 = 1 := by kernel_rfl
@[simp] theorem info101 : Try.prog.info? 101 = some Try.t101 := by kernel_rfl
@[simp] theorem agg101 : isAggT Try.prog 101 = false := by kernel_rfl
attribute [simp] Try.underlying101
@[simp] theorem bytes101 : Try.t101.bytes = 8 := rfl
@[simp] theorem zero101 : Try.t101.zero = some .nilFunc := rfl
@[simp] theorem cells102 : Try.prog.cellsOf 102 = 1 := by kernel_rfl
@[simp] theorem info102 : Try.prog.info? 102 = some Try.t102 := by kernel_rfl
@[simp] theorem agg102 : isAggT Try.prog 102 = false := by kernel_rfl
attribute [simp] Try.underlying102
@[simp] theorem bytes102 : Try.t102.bytes = 8 := rfl
@[simp] theorem zero102 : Try.t102.zero = some .nilFunc := rfl
@[simp] theorem cells103 : Try.prog.cellsOf 103 = 1 := by kernel_rfl
@[simp] theorem info103 : Try.prog.info? 103 = some Try.t103 := by kernel_rfl
@[simp] theorem agg103 : isAggT Try.prog 103 = false := by kernel_rfl
attribute [simp] Try.underlying103
@[simp] theorem bytes103 : Try.t103.bytes = 8 := rfl
@[simp] theorem zero103 : Try.t103.zero = some .nilFunc := rfl
@[simp] theorem cells104 : Try.prog.cellsOf 104 = 1 := by kernel_rfl
@[simp] theorem info104 : Try.prog.info? 104 = some Try.t104 := by kernel_rfl
@[simp] theorem agg104 : isAggT Try.prog 104 = false := by kernel_rfl
attribute [simp] Try.underlying104
@[simp] theorem bytes104 : Try.t104.bytes = 8 := rfl
@[simp] theorem zero104 : Try.t104.zero = some .nilFunc := rfl
@[simp] theorem cells105 : Try.prog.cellsOf 105 = 1 := by kernel_rfl
@[simp] theorem info105 : Try.prog.info? 105 = some Try.t105 := by kernel_rfl
@[simp] theorem agg105 : isAggT Try.prog 105 = false := by kernel_rfl
attribute [simp] Try.underlying105
@[simp] theorem bytes105 : Try.t105.bytes = 8 := rfl
@[simp] theorem zero105 : Try.t105.zero = some (.int .i64 0) := rfl
@[simp] theorem cells106 : Try.prog.cellsOf 106 = 1 := by kernel_rfl
@[simp] theorem info106 : Try.prog.info? 106 = some Try.t106 := by kernel_rfl
@[simp] theorem agg106 : isAggT Try.prog 106 = false := by kernel_rfl
attribute [simp] Try.underlying106
@[simp] theorem bytes106 : Try.t106.bytes = 0 := rfl
@[simp] theorem cells107 : Try.prog.cellsOf 107 = 1 := by kernel_rfl
@[simp] theorem info107 : Try.prog.info? 107 = some Try.t107 := by kernel_rfl
@[simp] theorem agg107 : isAggT Try.prog 107 = false := by kernel_rfl
attribute [simp] Try.underlying107
@[simp] theorem bytes107 : Try.t107.bytes = 8 := rfl
@[simp] theorem zero107 : Try.t107.zero = some .nilFunc := rfl
@[simp] theorem cells108 : Try.prog.cellsOf 108 = 1 := by kernel_rfl
@[simp] theorem info108 : Try.prog.info? 108 = some Try.t108 := by kernel_rfl
@[simp] theorem agg108 : isAggT Try.prog 108 = false := by kernel_rfl
attribute [simp] Try.underlying108
@[simp] theorem bytes108 : Try.t108.bytes = 8 := rfl
@[simp] theorem zero108 : Try.t108.zero = some .nilFunc := rfl
@[simp] theorem cells109 : Try.prog.cellsOf 109 = 1 := by kernel_rfl
@[simp] theorem info109 : Try.prog.info? 109 = some Try.t109 := by kernel_rfl
@[simp] theorem agg109 : isAggT Try.prog 109 = false := by kernel_rfl
attribute [simp] Try.underlying109
@[simp] theorem bytes109 : Try.t109.bytes = 8 := rfl
@[simp] theorem zero109 : Try.t109.zero = some .nilFunc := rfl
@[simp] theorem cells110 : Try.prog.cellsOf 110 = 1 := by kernel_rfl
@[simp] theorem info110 : Try.prog.info? 110 = some Try.t110 := by kernel_rfl
@[simp] theorem agg110 : isAggT Try.prog 110 = false := by kernel_rfl
attribute [simp] Try.underlying110
@[simp] theorem bytes110 : Try.t110.bytes = 0 := rfl
@[simp] theorem cells111 : Try.prog.cellsOf 111 = 1 := by kernel_rfl
@[simp] theorem info111 : Try.prog.info? 111 = some Try.t111 := by kernel_rfl
@[simp] theorem agg111 : isAggT Try.prog 111 = false := by kernel_rfl
attribute [simp] Try.underlying111
@[simp] theorem bytes111 : Try.t111.bytes = 8 := rfl
@[simp] theorem zero111 : Try.t111.zero = some .nilFunc := rfl
@[simp] theorem cells112 : Try.prog.cellsOf 112 = 1 := by kernel_rfl
@[simp] theorem info112 : Try.prog.info? 112 = some Try.t112 := by kernel_rfl
@[simp] theorem agg112 : isAggT Try.prog 112 = false := by kernel_rfl
attribute [simp] Try.underlying112
@[simp] theorem bytes112 : Try.t112.bytes = 8 := rfl
@[simp] theorem zero112 : Try.t112.zero = some .nilFunc := rfl
@[simp] theorem cells113 : Try.prog.cellsOf 113 = 1 := by kernel_rfl
@[simp] theorem info113 : Try.prog.info? 113 = some Try.t113 := by kernel_rfl
@[simp] theorem agg113 : isAggT Try.prog 113 = false := by kernel_rfl
attribute [simp] Try.underlying113
@[simp] theorem bytes113 : Try.t113.bytes = 4 := rfl
@[simp] theorem zero113 : Try.t113.zero = some (.int .u32 0) := rfl
@[simp] theorem cells114 : Try.prog.cellsOf 114 = 1 := by kernel_rfl
@[simp] theorem info114 : Try.prog.info? 114 = some Try.t114 := by kernel_rfl
@[simp] theorem agg114 : isAggT Try.prog 114 = false := by kernel_rfl
attribute [simp] Try.underlying114
@[simp] theorem bytes114 : Try.t114.bytes = 8 := rfl
@[simp] theorem zero114 : Try.t114.zero = some .nilFunc := rfl
@[simp] theorem cells115 : Try.prog.cellsOf 115 = 1 := by kernel_rfl
@[simp] theorem info115 : Try.prog.info? 115 = some Try.t115 := by kernel_rfl
@[simp] theorem agg115 : isAggT Try.prog 115 = false := by kernel_rfl
attribute [simp] Try.underlying115
@[simp] theorem bytes115 : Try.t115.bytes = 8 := rfl
@[simp] theorem zero115 : Try.t115.zero = some (.int .u64 0) := rfl
@[simp] theorem cells116 : Try.prog.cellsOf 116 = 1 := by kernel_rfl
@[simp] theorem info116 : Try.prog.info? 116 = some Try.t116 := by kernel_rfl
@[simp] theorem agg116 : isAggT Try.prog 116 = false := by kernel_rfl
attribute [simp] Try.underlying116
@[simp] theorem bytes116 : Try.t116.bytes = 8 := rfl
@[simp] theorem zero116 : Try.t116.zero = some .nilFunc := rfl
@[simp] theorem cells117 : Try.prog.cellsOf 117 = 1 := by kernel_rfl
@[simp] theorem info117 : Try.prog.info? 117 = some Try.t117 := by kernel_rfl
@[simp] theorem agg117 : isAggT Try.prog 117 = false := by kernel_rfl
attribute [simp] Try.underlying117
@[simp] theorem bytes117 : Try.t117.bytes = 8 := rfl
@[simp] theorem zero117 : Try.t117.zero = some .nilFunc := rfl
@[simp] theorem cells118 : Try.prog.cellsOf 118 = 1 := by kernel_rfl
@[simp] theorem info118 : Try.prog.info? 118 = some Try.t118 := by kernel_rfl
@[simp] theorem agg118 : isAggT Try.prog 118 = false := by kernel_rfl
attribute [simp] Try.underlying118
@[simp] theorem bytes118 : Try.t118.bytes = 8 := rfl
@[simp] theorem zero118 : Try.t118.zero = some .nilFunc := rfl
@[simp] theorem cells119 : Try.prog.cellsOf 119 = 1 := by kernel_rfl
@[simp] theorem info119 : Try.prog.info? 119 = some Try.t119 := by kernel_rfl
@[simp] theorem agg119 : isAggT Try.prog 119 = false := by kernel_rfl
attribute [simp] Try.underlying119
@[simp] theorem bytes119 : Try.t119.bytes = 8 := rfl
@[simp] theorem zero119 : Try.t119.zero = some .nilFunc := rfl
@[simp] theorem cells120 : Try.prog.cellsOf 120 = 1 := by kernel_rfl
@[simp] theorem info120 : Try.prog.info? 120 = some Try.t120 := by kernel_rfl
@[simp] theorem agg120 : isAggT Try.prog 120 = false := by kernel_rfl
attribute [simp] Try.underlying120
@[simp] theorem bytes120 : Try.t120.bytes = 8 := rfl
@[simp] theorem zero120 : Try.t120.zero = some .nilFunc := rfl
@[simp] theorem cells121 : Try.prog.cellsOf 121 = 1 := by kernel_rfl
@[simp] theorem info121 : Try.prog.info? 121 = some Try.t121 := by kernel_rfl
@[simp] theorem agg121 : isAggT Try.prog 121 = false := by kernel_rfl
attribute [simp] Try.underlying121
@[simp] theorem bytes121 : Try.t121.bytes = 8 := rfl
@[simp] theorem zero121 : Try.t121.zero = some .nilFunc := rfl
@[simp] theorem cells122 : Try.prog.cellsOf 122 = 1 := by kernel_rfl
@[simp] theorem info122 : Try.prog.info? 122 = some Try.t122 := by kernel_rfl
@[simp] theorem agg122 : isAggT Try.prog 122 = false := by kernel_rfl
attribute [simp] Try.underlying122
@[simp] theorem bytes122 : Try.t122.bytes = 8 := rfl
@[simp] theorem zero122 : Try.t122.zero = some .nilFunc := rfl
@[simp] theorem cells123 : Try.prog.cellsOf 123 = 1 := by kernel_rfl
@[simp] theorem info123 : Try.prog.info? 123 = some Try.t123 := by kernel_rfl
@[simp] theorem agg123 : isAggT Try.prog 123 = false := by kernel_rfl
attribute [simp] Try.underlying123
@[simp] theorem bytes123 : Try.t123.bytes = 8 := rfl
@[simp] theorem zero123 : Try.t123.zero = some .nilFunc := rfl
@[simp] theorem cells124 : Try.prog.cellsOf 124 = 1 := by kernel_rfl
@[simp] theorem info124 : Try.prog.info? 124 = some Try.t124 := by kernel_rfl
@[simp] theorem agg124 : isAggT Try.prog 124 = false := by kernel_rfl
attribute [simp] Try.underlying124
@[simp] theorem bytes124 : Try.t124.bytes = 8 := rfl
@[simp] theorem zero124 : Try.t124.zero = some .nilFunc := rfl
@[simp] theorem cells125 : Try.prog.cellsOf 125 = 1 := by kernel_rfl
@[simp] theorem info125 : Try.prog.info? 125 = some Try.t125 := by kernel_rfl
@[simp] theorem agg125 : isAggT Try.prog 125 = false := by kernel_rfl
attribute [simp] Try.underlying125
@[simp] theorem bytes125 : Try.t125.bytes = 8 := rfl
@[simp] theorem zero125 : Try.t125.zero = some .nilFunc := rfl
@[simp] theorem cells126 : Try.prog.cellsOf 126 = 1 := by kernel_rfl
@[simp] theorem info126 : Try.prog.info? 126 = some Try.t126 := by kernel_rfl
@[simp] theorem agg126 : isAggT Try.prog 126 = false := by kernel_rfl
attribute [simp] Try.underlying126
@[simp] theorem bytes126 : Try.t126.bytes = 8 := rfl
@[simp] theorem zero126 : Try.t126.zero = some .nilFunc := rfl
@[simp] theorem cells127 : Try.prog.cellsOf 127 = 1 := by kernel_rfl
@[simp] theorem info127 : Try.prog.info? 127 = some Try.t127 := by kernel_rfl
@[simp] theorem agg127 : isAggT Try.prog 127 = false := by kernel_rfl
attribute [simp] Try.underlying127
@[simp] theorem bytes127 : Try.t127.bytes = 8 := rfl
@[simp] theorem zero127 : Try.t127.zero = some .nilFunc := rfl
@[simp] theorem cells128 : Try.prog.cellsOf 128 = 1 := by kernel_rfl
@[simp] theorem info128 : Try.prog.info? 128 = some Try.t128 := by kernel_rfl
@[simp] theorem agg128 : isAggT Try.prog 128 = false := by kernel_rfl
attribute [simp] Try.underlying128
@[simp] theorem bytes128 : Try.t128.bytes = 8 := rfl
@[simp] theorem zero128 : Try.t128.zero = some (.int .u64 0) := rfl
@[simp] theorem cells129 : Try.prog.cellsOf 129 = 1 := by kernel_rfl
@[simp] theorem info129 : Try.prog.info? 129 = some Try.t129 := by kernel_rfl
@[simp] theorem agg129 : isAggT Try.prog 129 = false := by kernel_rfl
attribute [simp] Try.underlying129
@[simp] theorem bytes129 : Try.t129.bytes = 8 := rfl
@[simp] theorem zero129 : Try.t129.zero = some .nilFunc := rfl
@[simp] theorem cells130 : Try.prog.cellsOf 130 = 1 := by kernel_rfl
@[simp] theorem info130 : Try.prog.info? 130 = some Try.t130 := by kernel_rfl
@[simp] theorem agg130 : isAggT Try.prog 130 = false := by kernel_rfl
attribute [simp] Try.underlying130
@[simp] theorem bytes130 : Try.t130.bytes = 8 := rfl
@[simp] theorem zero130 : Try.t130.zero = some .nilFunc := rfl
@[simp] theorem cells131 : Try.prog.cellsOf 131 = 1 := by kernel_rfl
@[simp] theorem info131 : Try.prog.info? 131 = some Try.t131 := by kernel_rfl
@[simp] theorem agg131 : isAggT Try.prog 131 = false := by kernel_rfl
attribute [simp] Try.underlying131
@[simp] theorem bytes131 : Try.t131.bytes = 8 := rfl
@[simp] theorem zero131 : Try.t131.zero = some .nilFunc := rfl
@[simp] theorem cells132 : Try.prog.cellsOf 132 = 1 := by kernel_rfl
@[simp] theorem info132 : Try.prog.info? 132 = some Try.t132 := by kernel_rfl
@[simp] theorem agg132 : isAggT Try.prog 132 = false := by kernel_rfl
attribute [simp] Try.underlying132
@[simp] theorem bytes132 : Try.t132.bytes = 8 := rfl
@[simp] theorem zero132 : Try.t132.zero = some (.pointer none) := rfl
@[simp] theorem cells133 : Try.prog.cellsOf 133 = 1 := by kernel_rfl
@[simp] theorem info133 : Try.prog.info? 133 = some Try.t133 := by kernel_rfl
@[simp] theorem agg133 : isAggT Try.prog 133 = false := by kernel_rfl
attribute [simp] Try.underlying133
@[simp] theorem bytes133 : Try.t133.bytes = 8 := rfl
@[simp] theorem zero133 : Try.t133.zero = some .nilFunc := rfl
@[simp] theorem cells134 : Try.prog.cellsOf 134 = 1 := by kernel_rfl
@[simp] theorem info134 : Try.prog.info? 134 = some Try.t134 := by kernel_rfl
@[simp] theorem agg134 : isAggT Try.prog 134 = false := by kernel_rfl
attribute [simp] Try.underlying134
@[simp] theorem bytes134 : Try.t134.bytes = 8 := rfl
@[simp] theorem zero134 : Try.t134.zero = some .nilFunc := rfl
@[simp] theorem cells135 : Try.prog.cellsOf 135 = 1 := by kernel_rfl
@[simp] theorem info135 : Try.prog.info? 135 = some Try.t135 := by kernel_rfl
@[simp] theorem agg135 : isAggT Try.prog 135 = false := by kernel_rfl
attribute [simp] Try.underlying135
@[simp] theorem bytes135 : Try.t135.bytes = 8 := rfl
@[simp] theorem zero135 : Try.t135.zero = some .nilFunc := rfl
@[simp] theorem cells136 : Try.prog.cellsOf 136 = 1 := by kernel_rfl
@[simp] theorem info136 : Try.prog.info? 136 = some Try.t136 := by kernel_rfl
@[simp] theorem agg136 : isAggT Try.prog 136 = false := by kernel_rfl
attribute [simp] Try.underlying136
@[simp] theorem bytes136 : Try.t136.bytes = 8 := rfl
@[simp] theorem zero136 : Try.t136.zero = some .nilFunc := rfl
@[simp] theorem cells137 : Try.prog.cellsOf 137 = 1 := by kernel_rfl
@[simp] theorem info137 : Try.prog.info? 137 = some Try.t137 := by kernel_rfl
@[simp] theorem agg137 : isAggT Try.prog 137 = false := by kernel_rfl
attribute [simp] Try.underlying137
@[simp] theorem bytes137 : Try.t137.bytes = 8 := rfl
@[simp] theorem zero137 : Try.t137.zero = some (.pointer none) := rfl
@[simp] theorem cells138 : Try.prog.cellsOf 138 = 1 := by kernel_rfl
@[simp] theorem info138 : Try.prog.info? 138 = some Try.t138 := by kernel_rfl
@[simp] theorem agg138 : isAggT Try.prog 138 = false := by kernel_rfl
attribute [simp] Try.underlying138
@[simp] theorem bytes138 : Try.t138.bytes = 0 := rfl
@[simp] theorem cells139 : Try.prog.cellsOf 139 = 1 := by kernel_rfl
@[simp] theorem info139 : Try.prog.info? 139 = some Try.t139 := by kernel_rfl
@[simp] theorem agg139 : isAggT Try.prog 139 = false := by kernel_rfl
attribute [simp] Try.underlying139
@[simp] theorem bytes139 : Try.t139.bytes = 8 := rfl
@[simp] theorem zero139 : Try.t139.zero = some .nilFunc := rfl
@[simp] theorem cells140 : Try.prog.cellsOf 140 = 1 := by kernel_rfl
@[simp] theorem info140 : Try.prog.info? 140 = some Try.t140 := by kernel_rfl
@[simp] theorem agg140 : isAggT Try.prog 140 = false := by kernel_rfl
attribute [simp] Try.underlying140
@[simp] theorem bytes140 : Try.t140.bytes = 8 := rfl
@[simp] theorem zero140 : Try.t140.zero = some .nilFunc := rfl
@[simp] theorem cells141 : Try.prog.cellsOf 141 = 1 := by kernel_rfl
@[simp] theorem info141 : Try.prog.info? 141 = some Try.t141 := by kernel_rfl
@[simp] theorem agg141 : isAggT Try.prog 141 = false := by kernel_rfl
attribute [simp] Try.underlying141
@[simp] theorem bytes141 : Try.t141.bytes = 8 := rfl
@[simp] theorem zero141 : Try.t141.zero = some .nilFunc := rfl
@[simp] theorem cells142 : Try.prog.cellsOf 142 = 4 := by kernel_rfl
@[simp] theorem info142 : Try.prog.info? 142 = some Try.t142 := by kernel_rfl
@[simp] theorem agg142 : isAggT Try.prog 142 = true := by kernel_rfl
attribute [simp] Try.underlying142
@[simp] theorem bytes142 : Try.t142.bytes = 40 := rfl
@[simp] theorem zero142 : Try.t142.zero = some (.agg #[(.pointer none), (.pointer none), (.pointer none), (.string ⟨#[]⟩)]) := rfl
@[simp] theorem cells143 : Try.prog.cellsOf 143 = 4 := by kernel_rfl
@[simp] theorem info143 : Try.prog.info? 143 = some Try.t143 := by kernel_rfl
@[simp] theorem agg143 : isAggT Try.prog 143 = true := by kernel_rfl
attribute [simp] Try.underlying143
@[simp] theorem bytes143 : Try.t143.bytes = 40 := rfl
@[simp] theorem zero143 : Try.t143.zero = some (.agg #[(.pointer none), (.pointer none), (.pointer none), (.string ⟨#[]⟩)]) := rfl
@[simp] theorem cells144 : Try.prog.cellsOf 144 = 0 := by kernel_rfl
@[simp] theorem info144 : Try.prog.info? 144 = some Try.t144 := by kernel_rfl
@[simp] theorem agg144 : isAggT Try.prog 144 = true := by kernel_rfl
attribute [simp] Try.underlying144
@[simp] theorem bytes144 : Try.t144.bytes = 0 := rfl
@[simp] theorem zero144 : Try.t144.zero = some (.agg #[]) := rfl
@[simp] theorem cells145 : Try.prog.cellsOf 145 = 0 := by kernel_rfl
@[simp] theorem info145 : Try.prog.info? 145 = some Try.t145 := by kernel_rfl
@[simp] theorem agg145 : isAggT Try.prog 145 = true := by kernel_rfl
attribute [simp] Try.underlying145
@[simp] theorem bytes145 : Try.t145.bytes = 0 := rfl
@[simp] theorem zero145 : Try.t145.zero = some (.agg #[]) := rfl
@[simp] theorem cells146 : Try.prog.cellsOf 146 = 0 := by kernel_rfl
@[simp] theorem info146 : Try.prog.info? 146 = some Try.t146 := by kernel_rfl
@[simp] theorem agg146 : isAggT Try.prog 146 = true := by kernel_rfl
attribute [simp] Try.underlying146
@[simp] theorem bytes146 : Try.t146.bytes = 0 := rfl
@[simp] theorem zero146 : Try.t146.zero = some (.agg #[]) := rfl
@[simp] theorem cells147 : Try.prog.cellsOf 147 = 1 := by kernel_rfl
@[simp] theorem info147 : Try.prog.info? 147 = some Try.t147 := by kernel_rfl
@[simp] theorem agg147 : isAggT Try.prog 147 = false := by kernel_rfl
attribute [simp] Try.underlying147
@[simp] theorem bytes147 : Try.t147.bytes = 1 := rfl
@[simp] theorem zero147 : Try.t147.zero = some (.int .u8 0) := rfl
@[simp] theorem cells148 : Try.prog.cellsOf 148 = 1 := by kernel_rfl
@[simp] theorem info148 : Try.prog.info? 148 = some Try.t148 := by kernel_rfl
@[simp] theorem agg148 : isAggT Try.prog 148 = false := by kernel_rfl
attribute [simp] Try.underlying148
@[simp] theorem bytes148 : Try.t148.bytes = 1 := rfl
@[simp] theorem zero148 : Try.t148.zero = some (.int .u8 0) := rfl
@[simp] theorem cells149 : Try.prog.cellsOf 149 = 1 := by kernel_rfl
@[simp] theorem info149 : Try.prog.info? 149 = some Try.t149 := by kernel_rfl
@[simp] theorem agg149 : isAggT Try.prog 149 = false := by kernel_rfl
attribute [simp] Try.underlying149
@[simp] theorem bytes149 : Try.t149.bytes = 8 := rfl
@[simp] theorem zero149 : Try.t149.zero = some .nilFunc := rfl
@[simp] theorem cells150 : Try.prog.cellsOf 150 = 1 := by kernel_rfl
@[simp] theorem info150 : Try.prog.info? 150 = some Try.t150 := by kernel_rfl
@[simp] theorem agg150 : isAggT Try.prog 150 = false := by kernel_rfl
attribute [simp] Try.underlying150
@[simp] theorem bytes150 : Try.t150.bytes = 8 := rfl
@[simp] theorem zero150 : Try.t150.zero = some (.pointer none) := rfl
@[simp] theorem cells151 : Try.prog.cellsOf 151 = 1 := by kernel_rfl
@[simp] theorem info151 : Try.prog.info? 151 = some Try.t151 := by kernel_rfl
@[simp] theorem agg151 : isAggT Try.prog 151 = false := by kernel_rfl
attribute [simp] Try.underlying151
@[simp] theorem bytes151 : Try.t151.bytes = 4 := rfl
@[simp] theorem zero151 : Try.t151.zero = some (.int .i32 0) := rfl
@[simp] theorem cells152 : Try.prog.cellsOf 152 = 1 := by kernel_rfl
@[simp] theorem info152 : Try.prog.info? 152 = some Try.t152 := by kernel_rfl
@[simp] theorem agg152 : isAggT Try.prog 152 = false := by kernel_rfl
attribute [simp] Try.underlying152
@[simp] theorem bytes152 : Try.t152.bytes = 4 := rfl
@[simp] theorem zero152 : Try.t152.zero = some (.int .i32 0) := rfl
@[simp] theorem cells153 : Try.prog.cellsOf 153 = 11 := by kernel_rfl
@[simp] theorem info153 : Try.prog.info? 153 = some Try.t153 := by kernel_rfl
@[simp] theorem agg153 : isAggT Try.prog 153 = true := by kernel_rfl
attribute [simp] Try.underlying153
@[simp] theorem bytes153 : Try.t153.bytes = 48 := rfl
@[simp] theorem zero153 : Try.t153.zero = some (.agg #[(.int .u64 0), (.int .u64 0), (.int .u32 0), (.int .u8 0), (.int .u8 0), (.int .u8 0), (.int .u8 0), .nilFunc, (.pointer none), (.int .i32 0), (.int .i32 0)]) := rfl
@[simp] theorem cells154 : Try.prog.cellsOf 154 = 11 := by kernel_rfl
@[simp] theorem info154 : Try.prog.info? 154 = some Try.t154 := by kernel_rfl
@[simp] theorem agg154 : isAggT Try.prog 154 = true := by kernel_rfl
attribute [simp] Try.underlying154
@[simp] theorem bytes154 : Try.t154.bytes = 48 := rfl
@[simp] theorem zero154 : Try.t154.zero = some (.agg #[(.int .u64 0), (.int .u64 0), (.int .u32 0), (.int .u8 0), (.int .u8 0), (.int .u8 0), (.int .u8 0), .nilFunc, (.pointer none), (.int .i32 0), (.int .i32 0)]) := rfl
@[simp] theorem cells155 : Try.prog.cellsOf 155 = 1 := by kernel_rfl
@[simp] theorem info155 : Try.prog.info? 155 = some Try.t155 := by kernel_rfl
@[simp] theorem agg155 : isAggT Try.prog 155 = false := by kernel_rfl
attribute [simp] Try.underlying155
@[simp] theorem bytes155 : Try.t155.bytes = 8 := rfl
@[simp] theorem zero155 : Try.t155.zero = some (.pointer none) := rfl
@[simp] theorem E2 : G.E 2 = true := by kernel_rfl
@[simp] theorem ext2 : G.ext 2 = none := by kernel_rfl
@[simp] theorem dfr2 : G.dfr 2 = false := by kernel_rfl
@[simp] theorem own2 : G.retOwn 2 = false := by kernel_rfl
@[simp] theorem live2_0 : G.live 2 0 = some ⟨[], []⟩ := by kernel_rfl
@[simp] theorem E3 : G.E 3 = true := by kernel_rfl
@[simp] theorem ext3 : G.ext 3 = none := by kernel_rfl
@[simp] theorem dfr3 : G.dfr 3 = false := by kernel_rfl
@[simp] theorem own3 : G.retOwn 3 = false := by kernel_rfl
@[simp] theorem live3_0 : G.live 3 0 = some ⟨[0, 1, 2], []⟩ := by kernel_rfl
@[simp] theorem live3_1 : G.live 3 1 = some ⟨[0, 1, 2, 7], []⟩ := by kernel_rfl
@[simp] theorem live3_2 : G.live 3 2 = some ⟨[0, 1, 2, 7, 14], []⟩ := by kernel_rfl
@[simp] theorem live3_3 : G.live 3 3 = some ⟨[6], []⟩ := by kernel_rfl
@[simp] theorem live3_4 : G.live 3 4 = some ⟨[0, 1, 2, 7, 8], []⟩ := by kernel_rfl
@[simp] theorem live3_5 : G.live 3 5 = some ⟨[0, 1, 2, 7, 36], []⟩ := by kernel_rfl
@[simp] theorem live3_6 : G.live 3 6 = some ⟨[6], []⟩ := by kernel_rfl
@[simp] theorem live3_7 : G.live 3 7 = some ⟨[0, 1, 2, 7, 9], []⟩ := by kernel_rfl
@[simp] theorem live3_8 : G.live 3 8 = some ⟨[0, 1, 2, 7, 9, 10], []⟩ := by kernel_rfl
@[simp] theorem live3_9 : G.live 3 9 = some ⟨[0, 1, 7, 9, 10, 11], []⟩ := by kernel_rfl
@[simp] theorem live3_10 : G.live 3 10 = some ⟨[7, 9, 10, 11, 68], []⟩ := by kernel_rfl
@[simp] theorem live3_11 : G.live 3 11 = some ⟨[6], []⟩ := by kernel_rfl
@[simp] theorem live3_12 : G.live 3 12 = some ⟨[6], []⟩ := by kernel_rfl
@[simp] theorem ext4 : G.ext 4 = none := by kernel_rfl
@[simp] theorem dfr4 : G.dfr 4 = false := by kernel_rfl
@[simp] theorem own4 : G.retOwn 4 = false := by kernel_rfl
@[simp] theorem keep4_8 : G.keep 4 8 = some ⟨[(0, none), (1, none), (5, none), (7, none)], []⟩ := by kernel_rfl
@[simp] theorem keep4_16 : G.keep 4 16 = some ⟨[(0, none), (1, none), (5, none), (8, none), (9, none)], []⟩ := by kernel_rfl
@[simp] theorem keep4_23 : G.keep 4 23 = some ⟨[(0, none), (1, none), (5, none), (8, none), (9, none), (10, none), (11, none), (12, none)], []⟩ := by kernel_rfl
@[simp] theorem live4_0 : G.live 4 0 = some ⟨[0, 1], []⟩ := by kernel_rfl
@[simp] theorem live4_1 : G.live 4 1 = some ⟨[0, 1, 5], []⟩ := by kernel_rfl
@[simp] theorem live4_2 : G.live 4 2 = some ⟨[0, 1, 5, 16], []⟩ := by kernel_rfl
@[simp] theorem live4_3 : G.live 4 3 = some ⟨[4], []⟩ := by kernel_rfl
@[simp] theorem live4_4 : G.live 4 4 = some ⟨[0, 1, 5, 6], []⟩ := by kernel_rfl
@[simp] theorem live4_5 : G.live 4 5 = some ⟨[0, 1, 5, 20], []⟩ := by kernel_rfl
@[simp] theorem live4_6 : G.live 4 6 = some ⟨[4], []⟩ := by kernel_rfl
@[simp] theorem live4_7 : G.live 4 7 = some ⟨[0, 1, 5, 7], []⟩ := by kernel_rfl
@[simp] theorem live4_8 : G.live 4 8 = some ⟨[0, 1, 5, 7, 25], []⟩ := by kernel_rfl
@[simp] theorem live4_10 : G.live 4 10 = some ⟨[0, 1, 5, 7, 33], []⟩ := by kernel_rfl
@[simp] theorem live4_11 : G.live 4 11 = some ⟨[4], []⟩ := by kernel_rfl
@[simp] theorem live4_9 : G.live 4 9 = some ⟨[0, 1, 5, 7], []⟩ := by kernel_rfl
@[simp] theorem live4_12 : G.live 4 12 = some ⟨[0, 1, 5, 8], []⟩ := by kernel_rfl
@[simp] theorem live4_13 : G.live 4 13 = some ⟨[0, 1, 5, 8, 55], []⟩ := by kernel_rfl
@[simp] theorem live4_14 : G.live 4 14 = some ⟨[4], []⟩ := by kernel_rfl
@[simp] theorem live4_15 : G.live 4 15 = some ⟨[0, 1, 5, 8, 9], []⟩ := by kernel_rfl
@[simp] theorem live4_16 : G.live 4 16 = some ⟨[0, 1, 5, 8, 9, 59], []⟩ := by kernel_rfl
@[simp] theorem live4_18 : G.live 4 18 = some ⟨[0, 1, 5, 8, 9, 76], []⟩ := by kernel_rfl
@[simp] theorem live4_19 : G.live 4 19 = some ⟨[4], []⟩ := by kernel_rfl
@[simp] theorem live4_20 : G.live 4 20 = some ⟨[0, 1, 5, 8, 9, 10], []⟩ := by kernel_rfl
@[simp] theorem live4_21 : G.live 4 21 = some ⟨[0, 1, 5, 8, 9, 10, 11], []⟩ := by kernel_rfl
@[simp] theorem live4_22 : G.live 4 22 = some ⟨[0, 1, 5, 8, 9, 10, 11, 12], []⟩ := by kernel_rfl
@[simp] theorem live4_23 : G.live 4 23 = some ⟨[0, 1, 5, 8, 9, 10, 11, 12, 80], []⟩ := by kernel_rfl
@[simp] theorem live4_25 : G.live 4 25 = some ⟨[0, 1, 5, 8, 9, 10, 11, 12, 91], []⟩ := by kernel_rfl
@[simp] theorem live4_26 : G.live 4 26 = some ⟨[0, 1, 5, 8, 9, 10, 11, 12], []⟩ := by kernel_rfl
@[simp] theorem live4_27 : G.live 4 27 = some ⟨[0, 1, 5, 8, 9, 10, 11, 12, 102], []⟩ := by kernel_rfl
@[simp] theorem live4_28 : G.live 4 28 = some ⟨[0, 1, 5, 8, 9, 10, 11, 12], []⟩ := by kernel_rfl
@[simp] theorem live4_24 : G.live 4 24 = some ⟨[0, 1, 5, 8, 9, 10, 11, 12], []⟩ := by kernel_rfl
@[simp] theorem live4_29 : G.live 4 29 = some ⟨[0, 1, 5, 8, 9, 117], []⟩ := by kernel_rfl
@[simp] theorem live4_30 : G.live 4 30 = some ⟨[4], []⟩ := by kernel_rfl
@[simp] theorem live4_17 : G.live 4 17 = some ⟨[0, 1, 5, 8, 9], []⟩ := by kernel_rfl
@[simp] theorem live4_31 : G.live 4 31 = some ⟨[0, 1, 5, 8, 13], []⟩ := by kernel_rfl
@[simp] theorem live4_32 : G.live 4 32 = some ⟨[4], []⟩ := by kernel_rfl
@[simp] theorem plan4_18 : G.plan 4 18 = some [.n 0, .n 1, .n 2, .n 3, .n 4, .n 5, .n 6, .n 7, .n 8, .n 9, .n 10, .n 11, .e 12 [4], .n 13, .n 14] := by kernel_rfl
@[simp] theorem plan4_25 : G.plan 4 25 = some [.n 0, .n 1, .n 2, .n 3, .n 4, .n 5, .n 6, .n 7, .e 8 []] := by kernel_rfl
@[simp] theorem plan4_27 : G.plan 4 27 = some [.n 0, .n 1, .n 2, .n 3, .n 4, .n 5, .n 6, .n 7, .e 8 []] := by kernel_rfl
@[simp] theorem E5 : G.E 5 = true := by kernel_rfl
@[simp] theorem ext5 : G.ext 5 = none := by kernel_rfl
@[simp] theorem dfr5 : G.dfr 5 = false := by kernel_rfl
@[simp] theorem own5 : G.retOwn 5 = false := by kernel_rfl
@[simp] theorem keep5_8 : G.keep 5 8 = some ⟨[(0, none), (1, none), (2, none), (7, none), (9, none)], []⟩ := by kernel_rfl
@[simp] theorem live5_0 : G.live 5 0 = some ⟨[0, 1, 2], []⟩ := by kernel_rfl
@[simp] theorem live5_1 : G.live 5 1 = some ⟨[0, 1, 2, 7], []⟩ := by kernel_rfl
@[simp] theorem live5_2 : G.live 5 2 = some ⟨[0, 1, 2, 7, 25], []⟩ := by kernel_rfl
@[simp] theorem live5_3 : G.live 5 3 = some ⟨[6], []⟩ := by kernel_rfl
@[simp] theorem live5_4 : G.live 5 4 = some ⟨[0, 1, 2, 7, 8], []⟩ := by kernel_rfl
@[simp] theorem live5_5 : G.live 5 5 = some ⟨[0, 1, 2, 7, 45], []⟩ := by kernel_rfl
@[simp] theorem live5_6 : G.live 5 6 = some ⟨[6], []⟩ := by kernel_rfl
@[simp] theorem live5_7 : G.live 5 7 = some ⟨[0, 1, 2, 7, 9], []⟩ := by kernel_rfl
@[simp] theorem live5_8 : G.live 5 8 = some ⟨[0, 1, 2, 7, 9, 50], []⟩ := by kernel_rfl
@[simp] theorem live5_10 : G.live 5 10 = some ⟨[0, 1, 2, 7, 9, 58], []⟩ := by kernel_rfl
@[simp] theorem live5_11 : G.live 5 11 = some ⟨[6], []⟩ := by kernel_rfl
@[simp] theorem live5_9 : G.live 5 9 = some ⟨[0, 1, 2, 7, 9], []⟩ := by kernel_rfl
@[simp] theorem live5_12 : G.live 5 12 = some ⟨[0, 1, 2, 7, 10, 11], []⟩ := by kernel_rfl
@[simp] theorem live5_13 : G.live 5 13 = some ⟨[0, 1, 2, 7, 10, 11, 12, 13], []⟩ := by kernel_rfl
@[simp] theorem live5_14 : G.live 5 14 = some ⟨[0, 1, 7, 10, 11, 12, 13, 14, 15], []⟩ := by kernel_rfl
@[simp] theorem live5_15 : G.live 5 15 = some ⟨[0, 1, 7, 10, 12, 14, 94], []⟩ := by kernel_rfl
@[simp] theorem live5_16 : G.live 5 16 = some ⟨[6], []⟩ := by kernel_rfl
@[simp] theorem live5_17 : G.live 5 17 = some ⟨[0, 1, 7, 10, 12, 14, 16, 17], []⟩ := by kernel_rfl
@[simp] theorem live5_18 : G.live 5 18 = some ⟨[0, 1, 7, 10, 12, 14, 16, 17, 18, 19], []⟩ := by kernel_rfl
@[simp] theorem live5_19 : G.live 5 19 = some ⟨[0, 1, 7, 10, 12, 14, 16, 17, 18, 19, 20, 21], []⟩ := by kernel_rfl
@[simp] theorem live5_20 : G.live 5 20 = some ⟨[0, 1, 7, 10, 12, 14, 16, 18, 20, 126], []⟩ := by kernel_rfl
@[simp] theorem live5_21 : G.live 5 21 = some ⟨[6], []⟩ := by kernel_rfl
@[simp] theorem live5_22 : G.live 5 22 = some ⟨[7, 10, 12, 14, 16, 18, 20, 22], []⟩ := by kernel_rfl
@[simp] theorem live5_23 : G.live 5 23 = some ⟨[6], []⟩ := by kernel_rfl
@[simp] theorem E6 : G.E 6 = true := by kernel_rfl
@[simp] theorem ext6 : G.ext 6 = none := by kernel_rfl
@[simp] theorem dfr6 : G.dfr 6 = false := by kernel_rfl
@[simp] theorem own6 : G.retOwn 6 = false := by kernel_rfl
@[simp] theorem keep6_9 : G.keep 6 9 = some ⟨[(3, none), (5, none), (6, none), (7, none), (8, none)], []⟩ := by kernel_rfl
@[simp] theorem live6_0 : G.live 6 0 = some ⟨[], []⟩ := by kernel_rfl
@[simp] theorem live6_1 : G.live 6 1 = some ⟨[1], []⟩ := by kernel_rfl
@[simp] theorem live6_2 : G.live 6 2 = some ⟨[1, 3], []⟩ := by kernel_rfl
@[simp] theorem live6_3 : G.live 6 3 = some ⟨[3, 5], []⟩ := by kernel_rfl
@[simp] theorem live6_4 : G.live 6 4 = some ⟨[3, 5, 6], []⟩ := by kernel_rfl
@[simp] theorem live6_5 : G.live 6 5 = some ⟨[3, 5, 6, 7], []⟩ := by kernel_rfl
@[simp] theorem live6_6 : G.live 6 6 = some ⟨[3, 5, 6, 7, 39], []⟩ := by kernel_rfl
@[simp] theorem live6_7 : G.live 6 7 = some ⟨[0], []⟩ := by kernel_rfl
@[simp] theorem live6_8 : G.live 6 8 = some ⟨[3, 5, 6, 7, 8], []⟩ := by kernel_rfl
@[simp] theorem live6_9 : G.live 6 9 = some ⟨[3, 5, 6, 7, 8, 43], []⟩ := by kernel_rfl
@[simp] theorem live6_11 : G.live 6 11 = some ⟨[3, 5, 6, 7, 8, 66], []⟩ := by kernel_rfl
@[simp] theorem live6_12 : G.live 6 12 = some ⟨[0], []⟩ := by kernel_rfl
@[simp] theorem live6_10 : G.live 6 10 = some ⟨[3, 5, 6, 7, 8], []⟩ := by kernel_rfl
@[simp] theorem live6_13 : G.live 6 13 = some ⟨[0], []⟩ := by kernel_rfl
@[simp] theorem plan6_11 : G.plan 6 11 = some [.n 0, .n 1, .n 2, .n 3, .n 4, .n 5, .n 6, .n 7, .n 8, .e 9 [5], .n 10, .n 11, .n 12, .n 13, .n 14, .n 15, .n 16, .n 18, .e 17 [18, 7, 6, 5, 4, 2, 1, 0], .n 19, .n 20] := by kernel_rfl
@[simp] theorem plan6_13 : G.plan 6 13 = some [.n 0, .n 1, .n 2, .n 3, .n 4, .n 5, .e 6 [], .n 7, .n 8, .n 9, .n 10, .n 11, .n 12, .n 13, .e 14 [4, 3, 1, 0], .n 15, .n 16, .n 17, .n 18, .n 19, .n 20, .n 21, .n 22, .n 23, .e 24 [12, 11, 9, 8, 5, 4, 3, 2, 1, 0], .n 25, .n 26, .n 27, .n 28, .n 29, .e 30 [22, 21, 19, 18, 16, 15, 13, 12, 11, 10, 9, 8, 7, 5, 4, 3, 2, 1, 0], .n 31, .n 32, .n 33, .n 34, .e 35 [26, 25, 23, 22, 21, 20, 19, 18, 17, 16, 15, 13, 12, 11, 10, 9, 8, 7, 5, 4, 3, 2, 1, 0], .n 36, .n 37, .n 38] := by kernel_rfl
@[simp] theorem E7 : G.E 7 = true := by kernel_rfl
@[simp] theorem ext7 : G.ext 7 = none := by kernel_rfl
@[simp] theorem dfr7 : G.dfr 7 = false := by kernel_rfl
@[simp] theorem own7 : G.retOwn 7 = false := by kernel_rfl
@[simp] theorem keep7_2 : G.keep 7 2 = some ⟨[(0, none), (3, none)], []⟩ := by kernel_rfl
@[simp] theorem live7_0 : G.live 7 0 = some ⟨[0], []⟩ := by kernel_rfl
@[simp] theorem live7_1 : G.live 7 1 = some ⟨[0, 3], []⟩ := by kernel_rfl
@[simp] theorem live7_2 : G.live 7 2 = some ⟨[0, 3, 12], []⟩ := by kernel_rfl
@[simp] theorem live7_4 : G.live 7 4 = some ⟨[0, 3, 4], []⟩ := by kernel_rfl
@[simp] theorem live7_5 : G.live 7 5 = some ⟨[0, 3, 21], []⟩ := by kernel_rfl
@[simp] theorem live7_6 : G.live 7 6 = some ⟨[2], []⟩ := by kernel_rfl
@[simp] theorem live7_3 : G.live 7 3 = some ⟨[0, 3], []⟩ := by kernel_rfl
@[simp] theorem live7_7 : G.live 7 7 = some ⟨[2], []⟩ := by kernel_rfl
@[simp] theorem E8 : G.E 8 = true := by kernel_rfl
@[simp] theorem ext8 : G.ext 8 = none := by kernel_rfl
@[simp] theorem dfr8 : G.dfr 8 = false := by kernel_rfl
@[simp] theorem own8 : G.retOwn 8 = false := by kernel_rfl
@[simp] theorem live8_0 : G.live 8 0 = some ⟨[0], []⟩ := by kernel_rfl
@[simp] theorem live8_1 : G.live 8 1 = some ⟨[0, 3], []⟩ := by kernel_rfl
@[simp] theorem live8_2 : G.live 8 2 = some ⟨[0, 13], []⟩ := by kernel_rfl
@[simp] theorem live8_3 : G.live 8 3 = some ⟨[2], []⟩ := by kernel_rfl
@[simp] theorem live8_4 : G.live 8 4 = some ⟨[4, 5], []⟩ := by kernel_rfl
@[simp] theorem live8_5 : G.live 8 5 = some ⟨[4, 19], []⟩ := by kernel_rfl
@[simp] theorem live8_6 : G.live 8 6 = some ⟨[2], []⟩ := by kernel_rfl
@[simp] theorem live8_7 : G.live 8 7 = some ⟨[22], []⟩ := by kernel_rfl
@[simp] theorem live8_8 : G.live 8 8 = some ⟨[2], []⟩ := by kernel_rfl
@[simp] theorem live8_9 : G.live 8 9 = some ⟨[2], []⟩ := by kernel_rfl
@[simp] theorem E9 : G.E 9 = true := by kernel_rfl
@[simp] theorem ext9 : G.ext 9 = none := by kernel_rfl
@[simp] theorem dfr9 : G.dfr 9 = false := by kernel_rfl
@[simp] theorem own9 : G.retOwn 9 = false := by kernel_rfl
@[simp] theorem live9_0 : G.live 9 0 = some ⟨[0, 1], []⟩ := by kernel_rfl
@[simp] theorem live9_1 : G.live 9 1 = some ⟨[0, 1, 9], []⟩ := by kernel_rfl
@[simp] theorem live9_2 : G.live 9 2 = some ⟨[4], []⟩ := by kernel_rfl
@[simp] theorem live9_3 : G.live 9 3 = some ⟨[4], []⟩ := by kernel_rfl
@[simp] theorem E10 : G.E 10 = true := by kernel_rfl
@[simp] theorem ext10 : G.ext 10 = none := by kernel_rfl
@[simp] theorem dfr10 : G.dfr 10 = false := by kernel_rfl
@[simp] theorem own10 : G.retOwn 10 = false := by kernel_rfl
@[simp] theorem live10_0 : G.live 10 0 = some ⟨[0, 1], []⟩ := by kernel_rfl
@[simp] theorem live10_1 : G.live 10 1 = some ⟨[4], []⟩ := by kernel_rfl
@[simp] theorem E11 : G.E 11 = true := by kernel_rfl
@[simp] theorem ext11 : G.ext 11 = none := by kernel_rfl
@[simp] theorem dfr11 : G.dfr 11 = false := by kernel_rfl
@[simp] theorem own11 : G.retOwn 11 = false := by kernel_rfl
@[simp] theorem keep11_7 : G.keep 11 7 = some ⟨[(4, some (1, 22)), (14, none), (15, none), (16, none)], []⟩ := by kernel_rfl
@[simp] theorem live11_0 : G.live 11 0 = some ⟨[0], []⟩ := by kernel_rfl
@[simp] theorem live11_1 : G.live 11 1 = some ⟨[0, 9], []⟩ := by kernel_rfl
@[simp] theorem live11_2 : G.live 11 2 = some ⟨[2], []⟩ := by kernel_rfl
@[simp] theorem live11_3 : G.live 11 3 = some ⟨[3], []⟩ := by kernel_rfl
@[simp] theorem live11_4 : G.live 11 4 = some ⟨[3], []⟩ := by kernel_rfl
@[simp] theorem live11_5 : G.live 11 5 = some ⟨[3, 4], []⟩ := by kernel_rfl
@[simp] theorem live11_6 : G.live 11 6 = some ⟨[4, 14, 15, 16], []⟩ := by kernel_rfl
@[simp] theorem live11_7 : G.live 11 7 = some ⟨[4, 14, 15, 16, 17], []⟩ := by kernel_rfl
@[simp] theorem live11_8 : G.live 11 8 = some ⟨[4, 6, 14, 15, 16], []⟩ := by kernel_rfl
@[simp] theorem live11_9 : G.live 11 9 = some ⟨[4, 14, 15, 16], []⟩ := by kernel_rfl
@[simp] theorem live11_10 : G.live 11 10 = some ⟨[4, 14, 15, 16], []⟩ := by kernel_rfl
@[simp] theorem live11_11 : G.live 11 11 = some ⟨[2], []⟩ := by kernel_rfl
@[simp] theorem E12 : G.E 12 = true := by kernel_rfl
@[simp] theorem ext12 : G.ext 12 = none := by kernel_rfl
@[simp] theorem dfr12 : G.dfr 12 = false := by kernel_rfl
@[simp] theorem own12 : G.retOwn 12 = false := by kernel_rfl
@[simp] theorem keep12_5 : G.keep 12 5 = some ⟨[(1, none), (5, none), (20, none), (21, none), (22, none)], []⟩ := by kernel_rfl
@[simp] theorem keep12_13 : G.keep 12 13 = some ⟨[(5, none), (8, some (1, 22)), (47, none), (48, none)], []⟩ := by kernel_rfl
@[simp] theorem live12_0 : G.live 12 0 = some ⟨[0, 1], []⟩ := by kernel_rfl
@[simp] theorem live12_1 : G.live 12 1 = some ⟨[0, 1, 16], []⟩ := by kernel_rfl
@[simp] theorem live12_2 : G.live 12 2 = some ⟨[4], []⟩ := by kernel_rfl
@[simp] theorem live12_3 : G.live 12 3 = some ⟨[0, 1, 5], []⟩ := by kernel_rfl
@[simp] theorem live12_4 : G.live 12 4 = some ⟨[1, 5, 20, 21, 22], []⟩ := by kernel_rfl
@[simp] theorem live12_5 : G.live 12 5 = some ⟨[1, 5, 20, 21, 22, 23], []⟩ := by kernel_rfl
@[simp] theorem live12_6 : G.live 12 6 = some ⟨[1, 5, 7, 20, 21, 22], []⟩ := by kernel_rfl
@[simp] theorem live12_7 : G.live 12 7 = some ⟨[1, 5, 20, 21, 22], []⟩ := by kernel_rfl
@[simp] theorem live12_8 : G.live 12 8 = some ⟨[1, 5, 20, 21, 22, 36], []⟩ := by kernel_rfl
@[simp] theorem live12_9 : G.live 12 9 = some ⟨[1, 5, 20, 21, 22], []⟩ := by kernel_rfl
@[simp] theorem live12_10 : G.live 12 10 = some ⟨[1, 5, 20, 21, 22], []⟩ := by kernel_rfl
@[simp] theorem live12_11 : G.live 12 11 = some ⟨[5, 8], []⟩ := by kernel_rfl
@[simp] theorem live12_12 : G.live 12 12 = some ⟨[5, 8, 47, 48], []⟩ := by kernel_rfl
@[simp] theorem live12_13 : G.live 12 13 = some ⟨[5, 8, 47, 48, 49], []⟩ := by kernel_rfl
@[simp] theorem live12_14 : G.live 12 14 = some ⟨[5, 8, 9, 47, 48], []⟩ := by kernel_rfl
@[simp] theorem live12_15 : G.live 12 15 = some ⟨[5, 8, 47, 48], []⟩ := by kernel_rfl
@[simp] theorem live12_16 : G.live 12 16 = some ⟨[5, 8, 47, 48], []⟩ := by kernel_rfl
@[simp] theorem live12_17 : G.live 12 17 = some ⟨[4], []⟩ := by kernel_rfl
@[simp] theorem E13 : G.E 13 = true := by kernel_rfl
@[simp] theorem ext13 : G.ext 13 = none := by kernel_rfl
@[simp] theorem dfr13 : G.dfr 13 = false := by kernel_rfl
@[simp] theorem own13 : G.retOwn 13 = false := by kernel_rfl
@[simp] theorem keep13_6 : G.keep 13 6 = some ⟨[(5, none), (6, none), (20, none), (21, none), (22, none)], []⟩ := by kernel_rfl
@[simp] theorem live13_0 : G.live 13 0 = some ⟨[0, 1], []⟩ := by kernel_rfl
@[simp] theorem live13_1 : G.live 13 1 = some ⟨[0, 1, 17], []⟩ := by kernel_rfl
@[simp] theorem live13_2 : G.live 13 2 = some ⟨[4], []⟩ := by kernel_rfl
@[simp] theorem live13_3 : G.live 13 3 = some ⟨[0, 1, 5], []⟩ := by kernel_rfl
@[simp] theorem live13_4 : G.live 13 4 = some ⟨[0, 5, 6], []⟩ := by kernel_rfl
@[simp] theorem live13_5 : G.live 13 5 = some ⟨[5, 6, 20, 21, 22], []⟩ := by kernel_rfl
@[simp] theorem live13_6 : G.live 13 6 = some ⟨[5, 6, 20, 21, 22, 23], []⟩ := by kernel_rfl
@[simp] theorem live13_7 : G.live 13 7 = some ⟨[5, 6, 8, 20, 21, 22], []⟩ := by kernel_rfl
@[simp] theorem live13_8 : G.live 13 8 = some ⟨[5, 6, 20, 21, 22, 29], []⟩ := by kernel_rfl
@[simp] theorem live13_9 : G.live 13 9 = some ⟨[5, 6, 20, 21, 22], []⟩ := by kernel_rfl
@[simp] theorem live13_10 : G.live 13 10 = some ⟨[5, 6, 20, 21, 22], []⟩ := by kernel_rfl
@[simp] theorem live13_11 : G.live 13 11 = some ⟨[4], []⟩ := by kernel_rfl
@[simp] theorem E14 : G.E 14 = true := by kernel_rfl
@[simp] theorem ext14 : G.ext 14 = none := by kernel_rfl
@[simp] theorem dfr14 : G.dfr 14 = false := by kernel_rfl
@[simp] theorem own14 : G.retOwn 14 = false := by kernel_rfl
@[simp] theorem keep14_4 : G.keep 14 4 = some ⟨[(0, none), (1, none), (5, none)], []⟩ := by kernel_rfl
@[simp] theorem live14_0 : G.live 14 0 = some ⟨[0, 1], []⟩ := by kernel_rfl
@[simp] theorem live14_1 : G.live 14 1 = some ⟨[0, 1, 10], []⟩ := by kernel_rfl
@[simp] theorem live14_2 : G.live 14 2 = some ⟨[4], []⟩ := by kernel_rfl
@[simp] theorem live14_3 : G.live 14 3 = some ⟨[0, 1, 5], []⟩ := by kernel_rfl
@[simp] theorem live14_4 : G.live 14 4 = some ⟨[0, 1, 5, 14], []⟩ := by kernel_rfl
@[simp] theorem live14_6 : G.live 14 6 = some ⟨[0, 1, 5, 26], []⟩ := by kernel_rfl
@[simp] theorem live14_7 : G.live 14 7 = some ⟨[4], []⟩ := by kernel_rfl
@[simp] theorem live14_5 : G.live 14 5 = some ⟨[0, 1, 5], []⟩ := by kernel_rfl
@[simp] theorem live14_8 : G.live 14 8 = some ⟨[4], []⟩ := by kernel_rfl
@[simp] theorem plan14_6 : G.plan 14 6 = some [.n 0, .n 1, .n 2, .n 3, .n 4, .n 5, .n 6, .n 7, .e 8 [], .n 9] := by kernel_rfl
@[simp] theorem E15 : G.E 15 = true := by kernel_rfl
@[simp] theorem ext15 : G.ext 15 = none := by kernel_rfl
@[simp] theorem dfr15 : G.dfr 15 = false := by kernel_rfl
@[simp] theorem own15 : G.retOwn 15 = false := by kernel_rfl
@[simp] theorem live15_0 : G.live 15 0 = some ⟨[0], []⟩ := by kernel_rfl
@[simp] theorem live15_1 : G.live 15 1 = some ⟨[0, 4], []⟩ := by kernel_rfl
@[simp] theorem live15_2 : G.live 15 2 = some ⟨[2, 3], []⟩ := by kernel_rfl
@[simp] theorem E16 : G.E 16 = true := by kernel_rfl
@[simp] theorem ext16 : G.ext 16 = none := by kernel_rfl
@[simp] theorem dfr16 : G.dfr 16 = false := by kernel_rfl
@[simp] theorem own16 : G.retOwn 16 = false := by kernel_rfl
@[simp] theorem keep16_5 : G.keep 16 5 = some ⟨[(1, none), (2, none), (6, some (1, 3)), (20, none), (21, none)], [(1002, [])]⟩ := by kernel_rfl
@[simp] theorem keep16_12 : G.keep 16 12 = some ⟨[(1, none), (2, none), (6, none), (8, some (4, 43)), (36, none), (37, none), (38, none)], [(1002, [])]⟩ := by kernel_rfl
@[simp] theorem live16_0 : G.live 16 0 = some ⟨[1, 2], []⟩ := by kernel_rfl
@[simp] theorem live16_1 : G.live 16 1 = some ⟨[1, 2, 15], []⟩ := by kernel_rfl
@[simp] theorem live16_2 : G.live 16 2 = some ⟨[4, 5], []⟩ := by kernel_rfl
@[simp] theorem live16_3 : G.live 16 3 = some ⟨[1, 2, 6], []⟩ := by kernel_rfl
@[simp] theorem live16_4 : G.live 16 4 = some ⟨[1, 2, 6, 20, 21], []⟩ := by kernel_rfl
@[simp] theorem live16_5 : G.live 16 5 = some ⟨[1, 2, 6, 20, 21, 22], []⟩ := by kernel_rfl
@[simp] theorem live16_6 : G.live 16 6 = some ⟨[1, 2, 6, 7, 20, 21], []⟩ := by kernel_rfl
@[simp] theorem live16_7 : G.live 16 7 = some ⟨[1, 2, 6, 20, 21], []⟩ := by kernel_rfl
@[simp] theorem live16_8 : G.live 16 8 = some ⟨[1, 2, 6, 20, 21], []⟩ := by kernel_rfl
@[simp] theorem live16_9 : G.live 16 9 = some ⟨[1, 2, 6], []⟩ := by kernel_rfl
@[simp] theorem live16_10 : G.live 16 10 = some ⟨[1, 2, 6, 8], []⟩ := by kernel_rfl
@[simp] theorem live16_11 : G.live 16 11 = some ⟨[1, 2, 6, 8, 36, 37, 38], []⟩ := by kernel_rfl
@[simp] theorem live16_12 : G.live 16 12 = some ⟨[1, 2, 6, 8, 36, 37, 38, 39], []⟩ := by kernel_rfl
@[simp] theorem live16_13 : G.live 16 13 = some ⟨[1, 2, 6, 8, 9, 10, 36, 37, 38], []⟩ := by kernel_rfl
@[simp] theorem live16_14 : G.live 16 14 = some ⟨[1, 2, 6, 8, 10, 36, 37, 38, 59], []⟩ := by kernel_rfl
@[simp] theorem live16_15 : G.live 16 15 = some ⟨[4, 5], []⟩ := by kernel_rfl
@[simp] theorem live16_16 : G.live 16 16 = some ⟨[1, 2, 6, 8, 10, 36, 37, 38], []⟩ := by kernel_rfl
@[simp] theorem live16_17 : G.live 16 17 = some ⟨[1, 2, 6, 8, 36, 37, 38], []⟩ := by kernel_rfl
@[simp] theorem live16_18 : G.live 16 18 = some ⟨[1, 2, 6, 8, 36, 37, 38], []⟩ := by kernel_rfl
@[simp] theorem live16_19 : G.live 16 19 = some ⟨[4, 5], []⟩ := by kernel_rfl
@[simp] theorem plan16_14 : G.plan 16 14 = some [.n 0, .n 1, .n 2, .n 3, .n 4, .n 5, .n 6, .n 7, .n 8, .n 9, .n 10, .n 11, .n 12, .n 13, .n 14, .n 15, .n 16] := by kernel_rfl
@[simp] theorem E17 : G.E 17 = true := by kernel_rfl
@[simp] theorem ext17 : G.ext 17 = none := by kernel_rfl
@[simp] theorem dfr17 : G.dfr 17 = false := by kernel_rfl
@[simp] theorem own17 : G.retOwn 17 = false := by kernel_rfl
@[simp] theorem keep17_4 : G.keep 17 4 = some ⟨[(0, none), (1, none), (5, none)], []⟩ := by kernel_rfl
@[simp] theorem live17_0 : G.live 17 0 = some ⟨[0, 1], []⟩ := by kernel_rfl
@[simp] theorem live17_1 : G.live 17 1 = some ⟨[0, 1, 10], []⟩ := by kernel_rfl
@[simp] theorem live17_2 : G.live 17 2 = some ⟨[4], []⟩ := by kernel_rfl
@[simp] theorem live17_3 : G.live 17 3 = some ⟨[0, 1, 5], []⟩ := by kernel_rfl
@[simp] theorem live17_4 : G.live 17 4 = some ⟨[0, 1, 5, 14], []⟩ := by kernel_rfl
@[simp] theorem live17_6 : G.live 17 6 = some ⟨[0, 1, 5, 25], []⟩ := by kernel_rfl
@[simp] theorem live17_7 : G.live 17 7 = some ⟨[4], []⟩ := by kernel_rfl
@[simp] theorem live17_5 : G.live 17 5 = some ⟨[0, 1, 5], []⟩ := by kernel_rfl
@[simp] theorem live17_8 : G.live 17 8 = some ⟨[4], []⟩ := by kernel_rfl
@[simp] theorem plan17_6 : G.plan 17 6 = some [.n 0, .n 1, .n 2, .n 3, .n 4, .n 5, .n 6, .n 7, .n 8] := by kernel_rfl
@[simp] theorem E18 : G.E 18 = true := by kernel_rfl
@[simp] theorem ext18 : G.ext 18 = none := by kernel_rfl
@[simp] theorem dfr18 : G.dfr 18 = false := by kernel_rfl
@[simp] theorem own18 : G.retOwn 18 = false := by kernel_rfl
@[simp] theorem keep18_2 : G.keep 18 2 = some ⟨[(0, none), (3, none)], []⟩ := by kernel_rfl
@[simp] theorem live18_0 : G.live 18 0 = some ⟨[0], []⟩ := by kernel_rfl
@[simp] theorem live18_1 : G.live 18 1 = some ⟨[0, 3], []⟩ := by kernel_rfl
@[simp] theorem live18_2 : G.live 18 2 = some ⟨[0, 3, 11], []⟩ := by kernel_rfl
@[simp] theorem live18_4 : G.live 18 4 = some ⟨[0, 3, 20], []⟩ := by kernel_rfl
@[simp] theorem live18_5 : G.live 18 5 = some ⟨[2], []⟩ := by kernel_rfl
@[simp] theorem live18_3 : G.live 18 3 = some ⟨[0, 3], []⟩ := by kernel_rfl
@[simp] theorem live18_6 : G.live 18 6 = some ⟨[2], []⟩ := by kernel_rfl
@[simp] theorem E19 : G.E 19 = true := by kernel_rfl
@[simp] theorem ext19 : G.ext 19 = none := by kernel_rfl
@[simp] theorem dfr19 : G.dfr 19 = false := by kernel_rfl
@[simp] theorem own19 : G.retOwn 19 = false := by kernel_rfl
@[simp] theorem live19_0 : G.live 19 0 = some ⟨[1], []⟩ := by kernel_rfl
@[simp] theorem live19_1 : G.live 19 1 = some ⟨[2], []⟩ := by kernel_rfl
@[simp] theorem E20 : G.E 20 = true := by kernel_rfl
@[simp] theorem ext20 : G.ext 20 = none := by kernel_rfl
@[simp] theorem dfr20 : G.dfr 20 = false := by kernel_rfl
@[simp] theorem own20 : G.retOwn 20 = false := by kernel_rfl
@[simp] theorem live20_0 : G.live 20 0 = some ⟨[0, 1], []⟩ := by kernel_rfl
@[simp] theorem live20_1 : G.live 20 1 = some ⟨[4], []⟩ := by kernel_rfl
@[simp] theorem E21 : G.E 21 = true := by kernel_rfl
@[simp] theorem ext21 : G.ext 21 = none := by kernel_rfl
@[simp] theorem dfr21 : G.dfr 21 = true := by kernel_rfl
@[simp] theorem own21 : G.retOwn 21 = false := by kernel_rfl
@[simp] theorem live21_0 : G.live 21 0 = some ⟨[0, 2, 3], []⟩ := by kernel_rfl
@[simp] theorem live21_1 : G.live 21 1 = some ⟨[0, 2, 3], []⟩ := by kernel_rfl
@[simp] theorem live21_2 : G.live 21 2 = some ⟨[0, 2, 3], []⟩ := by kernel_rfl
@[simp] theorem live21_3 : G.live 21 3 = some ⟨[2, 3], []⟩ := by kernel_rfl
@[simp] theorem live21_4 : G.live 21 4 = some ⟨[2, 3], []⟩ := by kernel_rfl
@[simp] theorem E22 : G.E 22 = true := by kernel_rfl
@[simp] theorem ext22 : G.ext 22 = none := by kernel_rfl
@[simp] theorem dfr22 : G.dfr 22 = false := by kernel_rfl
@[simp] theorem own22 : G.retOwn 22 = false := by kernel_rfl
@[simp] theorem live22_0 : G.live 22 0 = some ⟨[0], []⟩ := by kernel_rfl
@[simp] theorem live22_1 : G.live 22 1 = some ⟨[2], []⟩ := by kernel_rfl
@[simp] theorem E23 : G.E 23 = true := by kernel_rfl
@[simp] theorem ext23 : G.ext 23 = none := by kernel_rfl
@[simp] theorem dfr23 : G.dfr 23 = false := by kernel_rfl
@[simp] theorem own23 : G.retOwn 23 = false := by kernel_rfl
@[simp] theorem live23_0 : G.live 23 0 = some ⟨[0, 1], []⟩ := by kernel_rfl
@[simp] theorem live23_1 : G.live 23 1 = some ⟨[0, 1, 5, 6], []⟩ := by kernel_rfl
@[simp] theorem live23_2 : G.live 23 2 = some ⟨[0, 1, 5, 7], []⟩ := by kernel_rfl
@[simp] theorem live23_3 : G.live 23 3 = some ⟨[0, 1, 7, 37], []⟩ := by kernel_rfl
@[simp] theorem live23_4 : G.live 23 4 = some ⟨[4], []⟩ := by kernel_rfl
@[simp] theorem live23_5 : G.live 23 5 = some ⟨[4], []⟩ := by kernel_rfl
@[simp] theorem plan23_1 : G.plan 23 1 = some [.n 0, .n 1, .n 2, .n 3, .n 4, .n 5, .sw 6 7 [5, 4, 3, 2, 1, 0], .e 8 [5, 4, 3], .e 9 []] := by kernel_rfl
@[simp] theorem plan23_2 : G.plan 23 2 = some [.n 0, .n 1, .n 2, .n 3, .n 5, .n 6, .n 7, .n 8, .n 10, .n 11, .n 12, .n 13, .e 4 [13, 12, 11, 10, 8, 7, 6, 5], .e 9 [13, 12, 11, 10], .e 14 [2, 0], .n 15, .e 16 [7, 5, 2, 0], .n 17] := by kernel_rfl
@[simp] theorem E24 : G.E 24 = true := by kernel_rfl
@[simp] theorem ext24 : G.ext 24 = none := by kernel_rfl
@[simp] theorem dfr24 : G.dfr 24 = false := by kernel_rfl
@[simp] theorem own24 : G.retOwn 24 = false := by kernel_rfl
@[simp] theorem keep24_4 : G.keep 24 4 = some ⟨[(0, none), (1, none), (12, none), (13, none)], []⟩ := by kernel_rfl
@[simp] theorem live24_0 : G.live 24 0 = some ⟨[0, 1], []⟩ := by kernel_rfl
@[simp] theorem live24_1 : G.live 24 1 = some ⟨[0, 1, 10], []⟩ := by kernel_rfl
@[simp] theorem live24_2 : G.live 24 2 = some ⟨[4], []⟩ := by kernel_rfl
@[simp] theorem live24_3 : G.live 24 3 = some ⟨[0, 1, 12, 13], []⟩ := by kernel_rfl
@[simp] theorem live24_4 : G.live 24 4 = some ⟨[0, 1, 12, 13, 14], []⟩ := by kernel_rfl
@[simp] theorem live24_5 : G.live 24 5 = some ⟨[0, 1, 5, 12, 13], []⟩ := by kernel_rfl
@[simp] theorem live24_6 : G.live 24 6 = some ⟨[0, 1, 12, 13, 24], []⟩ := by kernel_rfl
@[simp] theorem live24_7 : G.live 24 7 = some ⟨[4], []⟩ := by kernel_rfl
@[simp] theorem live24_8 : G.live 24 8 = some ⟨[0, 1, 12, 13], []⟩ := by kernel_rfl
@[simp] theorem live24_9 : G.live 24 9 = some ⟨[4], []⟩ := by kernel_rfl
@[simp] theorem plan24_6 : G.plan 24 6 = some [.n 0, .n 1, .n 2, .n 3, .n 4, .n 5, .n 6, .n 7, .n 8] := by kernel_rfl
@[simp] theorem E25 : G.E 25 = true := by kernel_rfl
@[simp] theorem ext25 : G.ext 25 = none := by kernel_rfl
@[simp] theorem dfr25 : G.dfr 25 = false := by kernel_rfl
@[simp] theorem own25 : G.retOwn 25 = true := by kernel_rfl
@[simp] theorem keep25_3 : G.keep 25 3 = some ⟨[(3, some (2, 59)), (6, none), (7, none), (8, none)], []⟩ := by kernel_rfl
@[simp] theorem live25_0 : G.live 25 0 = some ⟨[0], []⟩ := by kernel_rfl
@[simp] theorem live25_1 : G.live 25 1 = some ⟨[0, 3], []⟩ := by kernel_rfl
@[simp] theorem live25_2 : G.live 25 2 = some ⟨[3, 6, 7, 8], []⟩ := by kernel_rfl
@[simp] theorem live25_3 : G.live 25 3 = some ⟨[3, 6, 7, 8, 9], []⟩ := by kernel_rfl
@[simp] theorem live25_4 : G.live 25 4 = some ⟨[3, 4, 5, 6, 7, 8], []⟩ := by kernel_rfl
@[simp] theorem live25_5 : G.live 25 5 = some ⟨[3, 6, 7, 8], []⟩ := by kernel_rfl
@[simp] theorem live25_6 : G.live 25 6 = some ⟨[3, 6, 7, 8], []⟩ := by kernel_rfl
@[simp] theorem live25_7 : G.live 25 7 = some ⟨[2], []⟩ := by kernel_rfl
@[simp] theorem E26 : G.E 26 = true := by kernel_rfl
@[simp] theorem ext26 : G.ext 26 = none := by kernel_rfl
@[simp] theorem dfr26 : G.dfr 26 = false := by kernel_rfl
@[simp] theorem own26 : G.retOwn 26 = false := by kernel_rfl
@[simp] theorem live26_0 : G.live 26 0 = some ⟨[0, 1, 4], []⟩ := by kernel_rfl
@[simp] theorem live26_1 : G.live 26 1 = some ⟨[], []⟩ := by kernel_rfl
@[simp] theorem E27 : G.E 27 = true := by kernel_rfl
@[simp] theorem ext27 : G.ext 27 = none := by kernel_rfl
@[simp] theorem dfr27 : G.dfr 27 = false := by kernel_rfl
@[simp] theorem own27 : G.retOwn 27 = false := by kernel_rfl
@[simp] theorem live27_0 : G.live 27 0 = some ⟨[2, 3], []⟩ := by kernel_rfl
@[simp] theorem live27_1 : G.live 27 1 = some ⟨[4], []⟩ := by kernel_rfl
@[simp] theorem plan27_1 : G.plan 27 1 = some [.n 0, .n 1, .n 2, .n 3, .n 5, .n 6, .n 7, .n 8, .e 4 [8, 7, 6, 5], .e 9 [], .n 10, .e 11 [2, 0], .n 12] := by kernel_rfl
@[simp] theorem E28 : G.E 28 = true := by kernel_rfl
@[simp] theorem ext28 : G.ext 28 = none := by kernel_rfl
@[simp] theorem dfr28 : G.dfr 28 = false := by kernel_rfl
@[simp] theorem own28 : G.retOwn 28 = false := by kernel_rfl
@[simp] theorem live28_0 : G.live 28 0 = some ⟨[0], []⟩ := by kernel_rfl
@[simp] theorem live28_1 : G.live 28 1 = some ⟨[], []⟩ := by kernel_rfl
@[simp] theorem E29 : G.E 29 = true := by kernel_rfl
@[simp] theorem ext29 : G.ext 29 = none := by kernel_rfl
@[simp] theorem dfr29 : G.dfr 29 = false := by kernel_rfl
@[simp] theorem own29 : G.retOwn 29 = false := by kernel_rfl
@[simp] theorem live29_0 : G.live 29 0 = some ⟨[0], []⟩ := by kernel_rfl
@[simp] theorem live29_1 : G.live 29 1 = some ⟨[2], []⟩ := by kernel_rfl
@[simp] theorem E30 : G.E 30 = true := by kernel_rfl
@[simp] theorem ext30 : G.ext 30 = none := by kernel_rfl
@[simp] theorem dfr30 : G.dfr 30 = false := by kernel_rfl
@[simp] theorem own30 : G.retOwn 30 = false := by kernel_rfl
@[simp] theorem live30_0 : G.live 30 0 = some ⟨[0], []⟩ := by kernel_rfl
@[simp] theorem live30_1 : G.live 30 1 = some ⟨[0, 3], []⟩ := by kernel_rfl
@[simp] theorem live30_2 : G.live 30 2 = some ⟨[0, 3], []⟩ := by kernel_rfl
@[simp] theorem live30_3 : G.live 30 3 = some ⟨[0], []⟩ := by kernel_rfl
@[simp] theorem live30_4 : G.live 30 4 = some ⟨[2], []⟩ := by kernel_rfl
@[simp] theorem E31 : G.E 31 = true := by kernel_rfl
@[simp] theorem ext31 : G.ext 31 = none := by kernel_rfl
@[simp] theorem dfr31 : G.dfr 31 = false := by kernel_rfl
@[simp] theorem own31 : G.retOwn 31 = false := by kernel_rfl
@[simp] theorem live31_0 : G.live 31 0 = some ⟨[0], []⟩ := by kernel_rfl
@[simp] theorem live31_1 : G.live 31 1 = some ⟨[0, 4], []⟩ := by kernel_rfl
@[simp] theorem live31_2 : G.live 31 2 = some ⟨[0, 4, 8], []⟩ := by kernel_rfl
@[simp] theorem live31_3 : G.live 31 3 = some ⟨[2, 3], []⟩ := by kernel_rfl
@[simp] theorem live31_4 : G.live 31 4 = some ⟨[2, 3], []⟩ := by kernel_rfl
@[simp] theorem E32 : G.E 32 = true := by kernel_rfl
@[simp] theorem ext32 : G.ext 32 = none := by kernel_rfl
@[simp] theorem dfr32 : G.dfr 32 = false := by kernel_rfl
@[simp] theorem own32 : G.retOwn 32 = false := by kernel_rfl
@[simp] theorem keep32_3 : G.keep 32 3 = some ⟨[(0, none), (3, none), (9, none), (10, none), (11, none)], []⟩ := by kernel_rfl
@[simp] theorem keep32_11 : G.keep 32 11 = some ⟨[(6, some (4, 43)), (25, none), (26, none), (27, none)], []⟩ := by kernel_rfl
@[simp] theorem live32_0 : G.live 32 0 = some ⟨[0], []⟩ := by kernel_rfl
@[simp] theorem live32_1 : G.live 32 1 = some ⟨[0, 3], []⟩ := by kernel_rfl
@[simp] theorem live32_2 : G.live 32 2 = some ⟨[0, 3, 9, 10, 11], []⟩ := by kernel_rfl
@[simp] theorem live32_3 : G.live 32 3 = some ⟨[0, 3, 9, 10, 11, 12], []⟩ := by kernel_rfl
@[simp] theorem live32_4 : G.live 32 4 = some ⟨[0, 3, 5, 9, 10, 11], []⟩ := by kernel_rfl
@[simp] theorem live32_5 : G.live 32 5 = some ⟨[0, 3, 9, 10, 11], []⟩ := by kernel_rfl
@[simp] theorem live32_6 : G.live 32 6 = some ⟨[0, 3, 9, 10, 11, 20], []⟩ := by kernel_rfl
@[simp] theorem live32_7 : G.live 32 7 = some ⟨[0, 3, 9, 10, 11], []⟩ := by kernel_rfl
@[simp] theorem live32_8 : G.live 32 8 = some ⟨[0, 3, 9, 10, 11], []⟩ := by kernel_rfl
@[simp] theorem live32_9 : G.live 32 9 = some ⟨[0, 6], []⟩ := by kernel_rfl
@[simp] theorem live32_10 : G.live 32 10 = some ⟨[6, 25, 26, 27], []⟩ := by kernel_rfl
@[simp] theorem live32_11 : G.live 32 11 = some ⟨[6, 25, 26, 27, 28], []⟩ := by kernel_rfl
@[simp] theorem live32_12 : G.live 32 12 = some ⟨[6, 8, 25, 26, 27], []⟩ := by kernel_rfl
@[simp] theorem live32_13 : G.live 32 13 = some ⟨[6, 25, 26, 27], []⟩ := by kernel_rfl
@[simp] theorem live32_14 : G.live 32 14 = some ⟨[6, 25, 26, 27], []⟩ := by kernel_rfl
@[simp] theorem live32_15 : G.live 32 15 = some ⟨[2], []⟩ := by kernel_rfl
@[simp] theorem E33 : G.E 33 = true := by kernel_rfl
@[simp] theorem ext33 : G.ext 33 = none := by kernel_rfl
@[simp] theorem dfr33 : G.dfr 33 = false := by kernel_rfl
@[simp] theorem own33 : G.retOwn 33 = false := by kernel_rfl
@[simp] theorem live33_0 : G.live 33 0 = some ⟨[0, 1, 4], []⟩ := by kernel_rfl
@[simp] theorem live33_1 : G.live 33 1 = some ⟨[], []⟩ := by kernel_rfl
@[simp] theorem E34 : G.E 34 = true := by kernel_rfl
@[simp] theorem ext34 : G.ext 34 = none := by kernel_rfl
@[simp] theorem dfr34 : G.dfr 34 = false := by kernel_rfl
@[simp] theorem own34 : G.retOwn 34 = false := by kernel_rfl
@[simp] theorem live34_0 : G.live 34 0 = some ⟨[0, 1, 2], []⟩ := by kernel_rfl
@[simp] theorem live34_1 : G.live 34 1 = some ⟨[5], []⟩ := by kernel_rfl
@[simp] theorem plan34_1 : G.plan 34 1 = some [.n 0, .n 1, .n 2, .n 3, .n 4, .n 5, .n 6, .n 7, .e 8 [], .n 9] := by kernel_rfl
@[simp] theorem E35 : G.E 35 = true := by kernel_rfl
@[simp] theorem ext35 : G.ext 35 = none := by kernel_rfl
@[simp] theorem dfr35 : G.dfr 35 = false := by kernel_rfl
@[simp] theorem own35 : G.retOwn 35 = false := by kernel_rfl
@[simp] theorem live35_0 : G.live 35 0 = some ⟨[0, 1], []⟩ := by kernel_rfl
@[simp] theorem live35_1 : G.live 35 1 = some ⟨[4], []⟩ := by kernel_rfl
@[simp] theorem E36 : G.E 36 = true := by kernel_rfl
@[simp] theorem ext36 : G.ext 36 = none := by kernel_rfl
@[simp] theorem dfr36 : G.dfr 36 = false := by kernel_rfl
@[simp] theorem own36 : G.retOwn 36 = false := by kernel_rfl
@[simp] theorem keep36_2 : G.keep 36 2 = some ⟨[(0, none), (1, none), (7, none), (8, none)], []⟩ := by kernel_rfl
@[simp] theorem live36_0 : G.live 36 0 = some ⟨[0, 1], []⟩ := by kernel_rfl
@[simp] theorem live36_1 : G.live 36 1 = some ⟨[0, 1, 7, 8], []⟩ := by kernel_rfl
@[simp] theorem live36_2 : G.live 36 2 = some ⟨[0, 1, 7, 8, 9], []⟩ := by kernel_rfl
@[simp] theorem live36_3 : G.live 36 3 = some ⟨[0, 1, 5, 7, 8], []⟩ := by kernel_rfl
@[simp] theorem live36_4 : G.live 36 4 = some ⟨[0, 1, 5, 7, 8, 16], []⟩ := by kernel_rfl
@[simp] theorem live36_5 : G.live 36 5 = some ⟨[4], []⟩ := by kernel_rfl
@[simp] theorem live36_6 : G.live 36 6 = some ⟨[0, 1, 7, 8], []⟩ := by kernel_rfl
@[simp] theorem live36_7 : G.live 36 7 = some ⟨[4], []⟩ := by kernel_rfl
@[simp] theorem E37 : G.E 37 = true := by kernel_rfl
@[simp] theorem ext37 : G.ext 37 = none := by kernel_rfl
@[simp] theorem dfr37 : G.dfr 37 = false := by kernel_rfl
@[simp] theorem own37 : G.retOwn 37 = false := by kernel_rfl
@[simp] theorem live37_0 : G.live 37 0 = some ⟨[0, 1, 3], []⟩ := by kernel_rfl
@[simp] theorem live37_1 : G.live 37 1 = some ⟨[0, 1, 9], []⟩ := by kernel_rfl
@[simp] theorem live37_2 : G.live 37 2 = some ⟨[], []⟩ := by kernel_rfl
@[simp] theorem E38 : G.E 38 = true := by kernel_rfl
@[simp] theorem ext38 : G.ext 38 = none := by kernel_rfl
@[simp] theorem dfr38 : G.dfr 38 = false := by kernel_rfl
@[simp] theorem own38 : G.retOwn 38 = false := by kernel_rfl
@[simp] theorem keep38_5 : G.keep 38 5 = some ⟨[(0, none), (1, none), (4, none), (5, none), (6, none), (7, none)], [(1004, []), (1005, [(2, 1, 3)])]⟩ := by kernel_rfl
@[simp] theorem live38_0 : G.live 38 0 = some ⟨[0, 1, 4], []⟩ := by kernel_rfl
@[simp] theorem live38_1 : G.live 38 1 = some ⟨[0, 1, 4], []⟩ := by kernel_rfl
@[simp] theorem live38_2 : G.live 38 2 = some ⟨[0, 1, 4, 5], []⟩ := by kernel_rfl
@[simp] theorem live38_3 : G.live 38 3 = some ⟨[0, 1, 4, 5, 6], []⟩ := by kernel_rfl
@[simp] theorem live38_4 : G.live 38 4 = some ⟨[0, 1, 4, 5, 6, 7], []⟩ := by kernel_rfl
@[simp] theorem live38_5 : G.live 38 5 = some ⟨[0, 1, 4, 5, 6, 7, 31], []⟩ := by kernel_rfl
@[simp] theorem live38_7 : G.live 38 7 = some ⟨[0, 1, 4, 5, 6, 7, 39], []⟩ := by kernel_rfl
@[simp] theorem live38_8 : G.live 38 8 = some ⟨[0, 1, 4, 5, 6, 7], []⟩ := by kernel_rfl
@[simp] theorem live38_9 : G.live 38 9 = some ⟨[0, 1, 4, 5, 6, 7, 8], []⟩ := by kernel_rfl
@[simp] theorem live38_10 : G.live 38 10 = some ⟨[0, 1, 4, 5, 7, 8], []⟩ := by kernel_rfl
@[simp] theorem live38_11 : G.live 38 11 = some ⟨[0, 1, 4, 5, 6, 7], []⟩ := by kernel_rfl
@[simp] theorem live38_12 : G.live 38 12 = some ⟨[0, 1, 4, 5, 6, 7], []⟩ := by kernel_rfl
@[simp] theorem live38_13 : G.live 38 13 = some ⟨[0, 1, 4, 5, 6, 7], []⟩ := by kernel_rfl
@[simp] theorem live38_14 : G.live 38 14 = some ⟨[0, 1, 4, 5, 6, 7, 9], []⟩ := by kernel_rfl
@[simp] theorem live38_15 : G.live 38 15 = some ⟨[0, 1, 4, 5, 6, 7], []⟩ := by kernel_rfl
@[simp] theorem live38_6 : G.live 38 6 = some ⟨[0, 1, 4, 5, 6, 7], []⟩ := by kernel_rfl
@[simp] theorem live38_16 : G.live 38 16 = some ⟨[4, 5], []⟩ := by kernel_rfl
@[simp] theorem live38_17 : G.live 38 17 = some ⟨[4], []⟩ := by kernel_rfl
@[simp] theorem plan38_15 : G.plan 38 15 = some [.n 0, .n 1, .n 2, .n 3, .n 4, .n 5, .n 6, .n 7, .e 8 [6, 5, 4], .n 9, .e 10 []] := by kernel_rfl
@[simp] theorem E39 : G.E 39 = true := by kernel_rfl
@[simp] theorem ext39 : G.ext 39 = none := by kernel_rfl
@[simp] theorem dfr39 : G.dfr 39 = false := by kernel_rfl
@[simp] theorem own39 : G.retOwn 39 = false := by kernel_rfl
@[simp] theorem live39_0 : G.live 39 0 = some ⟨[3], []⟩ := by kernel_rfl
@[simp] theorem live39_1 : G.live 39 1 = some ⟨[], []⟩ := by kernel_rfl
@[simp] theorem E40 : G.E 40 = true := by kernel_rfl
@[simp] theorem ext40 : G.ext 40 = none := by kernel_rfl
@[simp] theorem dfr40 : G.dfr 40 = false := by kernel_rfl
@[simp] theorem own40 : G.retOwn 40 = false := by kernel_rfl
@[simp] theorem live40_0 : G.live 40 0 = some ⟨[0, 1], []⟩ := by kernel_rfl
@[simp] theorem live40_1 : G.live 40 1 = some ⟨[4], []⟩ := by kernel_rfl
@[simp] theorem E41 : G.E 41 = true := by kernel_rfl
@[simp] theorem ext41 : G.ext 41 = none := by kernel_rfl
@[simp] theorem dfr41 : G.dfr 41 = false := by kernel_rfl
@[simp] theorem own41 : G.retOwn 41 = false := by kernel_rfl
@[simp] theorem live41_0 : G.live 41 0 = some ⟨[0], []⟩ := by kernel_rfl
@[simp] theorem live41_1 : G.live 41 1 = some ⟨[2], []⟩ := by kernel_rfl
@[simp] theorem E42 : G.E 42 = true := by kernel_rfl
@[simp] theorem ext42 : G.ext 42 = none := by kernel_rfl
@[simp] theorem dfr42 : G.dfr 42 = false := by kernel_rfl
@[simp] theorem own42 : G.retOwn 42 = false := by kernel_rfl
@[simp] theorem keep42_3 : G.keep 42 3 = some ⟨[(3, none), (6, none), (7, none), (8, none)], []⟩ := by kernel_rfl
@[simp] theorem live42_0 : G.live 42 0 = some ⟨[0], []⟩ := by kernel_rfl
@[simp] theorem live42_1 : G.live 42 1 = some ⟨[0, 3], []⟩ := by kernel_rfl
@[simp] theorem live42_2 : G.live 42 2 = some ⟨[3, 6, 7, 8], []⟩ := by kernel_rfl
@[simp] theorem live42_3 : G.live 42 3 = some ⟨[3, 6, 7, 8, 9], []⟩ := by kernel_rfl
@[simp] theorem live42_4 : G.live 42 4 = some ⟨[3, 5, 6, 7, 8], []⟩ := by kernel_rfl
@[simp] theorem live42_5 : G.live 42 5 = some ⟨[3, 5, 6, 7, 8, 14], []⟩ := by kernel_rfl
@[simp] theorem live42_6 : G.live 42 6 = some ⟨[2], []⟩ := by kernel_rfl
@[simp] theorem live42_7 : G.live 42 7 = some ⟨[3, 6, 7, 8], []⟩ := by kernel_rfl
@[simp] theorem live42_8 : G.live 42 8 = some ⟨[2], []⟩ := by kernel_rfl
@[simp] theorem E43 : G.E 43 = true := by kernel_rfl
@[simp] theorem ext43 : G.ext 43 = none := by kernel_rfl
@[simp] theorem dfr43 : G.dfr 43 = false := by kernel_rfl
@[simp] theorem own43 : G.retOwn 43 = false := by kernel_rfl
@[simp] theorem live43_0 : G.live 43 0 = some ⟨[0, 1], []⟩ := by kernel_rfl
@[simp] theorem live43_1 : G.live 43 1 = some ⟨[0, 1, 5], []⟩ := by kernel_rfl
@[simp] theorem live43_2 : G.live 43 2 = some ⟨[0, 1, 5, 6], []⟩ := by kernel_rfl
@[simp] theorem live43_3 : G.live 43 3 = some ⟨[0, 1, 6, 11], []⟩ := by kernel_rfl
@[simp] theorem live43_4 : G.live 43 4 = some ⟨[12], []⟩ := by kernel_rfl
@[simp] theorem live43_5 : G.live 43 5 = some ⟨[4], []⟩ := by kernel_rfl
@[simp] theorem live43_6 : G.live 43 6 = some ⟨[4], []⟩ := by kernel_rfl
@[simp] theorem live43_7 : G.live 43 7 = some ⟨[0, 1, 13], []⟩ := by kernel_rfl
@[simp] theorem live43_8 : G.live 43 8 = some ⟨[4], []⟩ := by kernel_rfl
@[simp] theorem live43_9 : G.live 43 9 = some ⟨[0, 1, 16], []⟩ := by kernel_rfl
@[simp] theorem live43_10 : G.live 43 10 = some ⟨[4], []⟩ := by kernel_rfl
@[simp] theorem live43_11 : G.live 43 11 = some ⟨[19], []⟩ := by kernel_rfl
@[simp] theorem live43_12 : G.live 43 12 = some ⟨[4], []⟩ := by kernel_rfl
@[simp] theorem live43_13 : G.live 43 13 = some ⟨[4], []⟩ := by kernel_rfl
@[simp] theorem E44 : G.E 44 = true := by kernel_rfl
@[simp] theorem ext44 : G.ext 44 = none := by kernel_rfl
@[simp] theorem dfr44 : G.dfr 44 = false := by kernel_rfl
@[simp] theorem own44 : G.retOwn 44 = false := by kernel_rfl
@[simp] theorem live44_0 : G.live 44 0 = some ⟨[0, 1], []⟩ := by kernel_rfl
@[simp] theorem live44_1 : G.live 44 1 = some ⟨[0, 1, 5], []⟩ := by kernel_rfl
@[simp] theorem live44_2 : G.live 44 2 = some ⟨[0, 1, 5, 6], []⟩ := by kernel_rfl
@[simp] theorem live44_3 : G.live 44 3 = some ⟨[0, 1, 6, 11], []⟩ := by kernel_rfl
@[simp] theorem live44_4 : G.live 44 4 = some ⟨[12], []⟩ := by kernel_rfl
@[simp] theorem live44_5 : G.live 44 5 = some ⟨[4], []⟩ := by kernel_rfl
@[simp] theorem live44_6 : G.live 44 6 = some ⟨[4], []⟩ := by kernel_rfl
@[simp] theorem live44_7 : G.live 44 7 = some ⟨[0, 1, 13], []⟩ := by kernel_rfl
@[simp] theorem live44_8 : G.live 44 8 = some ⟨[4], []⟩ := by kernel_rfl
@[simp] theorem live44_9 : G.live 44 9 = some ⟨[0, 1, 16], []⟩ := by kernel_rfl
@[simp] theorem live44_10 : G.live 44 10 = some ⟨[4], []⟩ := by kernel_rfl
@[simp] theorem live44_11 : G.live 44 11 = some ⟨[19], []⟩ := by kernel_rfl
@[simp] theorem live44_12 : G.live 44 12 = some ⟨[4], []⟩ := by kernel_rfl
@[simp] theorem live44_13 : G.live 44 13 = some ⟨[4], []⟩ := by kernel_rfl
@[simp] theorem E45 : G.E 45 = true := by kernel_rfl
@[simp] theorem ext45 : G.ext 45 = none := by kernel_rfl
@[simp] theorem dfr45 : G.dfr 45 = false := by kernel_rfl
@[simp] theorem own45 : G.retOwn 45 = false := by kernel_rfl
@[simp] theorem live45_0 : G.live 45 0 = some ⟨[0, 1], []⟩ := by kernel_rfl
@[simp] theorem live45_1 : G.live 45 1 = some ⟨[0, 1, 5], []⟩ := by kernel_rfl
@[simp] theorem live45_2 : G.live 45 2 = some ⟨[0, 1, 5, 6], []⟩ := by kernel_rfl
@[simp] theorem live45_3 : G.live 45 3 = some ⟨[0, 1, 6, 11], []⟩ := by kernel_rfl
@[simp] theorem live45_4 : G.live 45 4 = some ⟨[12], []⟩ := by kernel_rfl
@[simp] theorem live45_5 : G.live 45 5 = some ⟨[4], []⟩ := by kernel_rfl
@[simp] theorem live45_6 : G.live 45 6 = some ⟨[4], []⟩ := by kernel_rfl
@[simp] theorem live45_7 : G.live 45 7 = some ⟨[0, 1, 13], []⟩ := by kernel_rfl
@[simp] theorem live45_8 : G.live 45 8 = some ⟨[4], []⟩ := by kernel_rfl
@[simp] theorem live45_9 : G.live 45 9 = some ⟨[0, 1, 16], []⟩ := by kernel_rfl
@[simp] theorem live45_10 : G.live 45 10 = some ⟨[4], []⟩ := by kernel_rfl
@[simp] theorem live45_11 : G.live 45 11 = some ⟨[19], []⟩ := by kernel_rfl
@[simp] theorem live45_12 : G.live 45 12 = some ⟨[4], []⟩ := by kernel_rfl
@[simp] theorem live45_13 : G.live 45 13 = some ⟨[4], []⟩ := by kernel_rfl
@[simp] theorem E46 : G.E 46 = true := by kernel_rfl
@[simp] theorem ext46 : G.ext 46 = none := by kernel_rfl
@[simp] theorem dfr46 : G.dfr 46 = false := by kernel_rfl
@[simp] theorem own46 : G.retOwn 46 = false := by kernel_rfl
@[simp] theorem keep46_2 : G.keep 46 2 = some ⟨[(0, none), (1, none), (2, none), (11, none), (12, none), (13, none)], []⟩ := by kernel_rfl
@[simp] theorem live46_0 : G.live 46 0 = some ⟨[0, 1, 2], []⟩ := by kernel_rfl
@[simp] theorem live46_1 : G.live 46 1 = some ⟨[0, 1, 2, 11, 12, 13], []⟩ := by kernel_rfl
@[simp] theorem live46_2 : G.live 46 2 = some ⟨[0, 1, 2, 11, 12, 13, 14], []⟩ := by kernel_rfl
@[simp] theorem live46_3 : G.live 46 3 = some ⟨[0, 1, 2, 7, 8, 11, 12, 13], []⟩ := by kernel_rfl
@[simp] theorem live46_4 : G.live 46 4 = some ⟨[0, 1, 2, 7, 8, 11, 12, 13, 21], []⟩ := by kernel_rfl
@[simp] theorem live46_5 : G.live 46 5 = some ⟨[6], []⟩ := by kernel_rfl
@[simp] theorem live46_6 : G.live 46 6 = some ⟨[0, 1, 2, 8, 9, 11, 12, 13], []⟩ := by kernel_rfl
@[simp] theorem live46_7 : G.live 46 7 = some ⟨[0, 1, 2, 10, 11, 12, 13], []⟩ := by kernel_rfl
@[simp] theorem live46_8 : G.live 46 8 = some ⟨[0, 1, 2, 10, 11, 12, 13, 31], []⟩ := by kernel_rfl
@[simp] theorem live46_9 : G.live 46 9 = some ⟨[6], []⟩ := by kernel_rfl
@[simp] theorem live46_10 : G.live 46 10 = some ⟨[0, 1, 2, 11, 12, 13], []⟩ := by kernel_rfl
@[simp] theorem live46_11 : G.live 46 11 = some ⟨[38], []⟩ := by kernel_rfl
@[simp] theorem live46_12 : G.live 46 12 = some ⟨[6], []⟩ := by kernel_rfl
@[simp] theorem live46_13 : G.live 46 13 = some ⟨[6], []⟩ := by kernel_rfl
@[simp] theorem E47 : G.E 47 = true := by kernel_rfl
@[simp] theorem ext47 : G.ext 47 = none := by kernel_rfl
@[simp] theorem dfr47 : G.dfr 47 = false := by kernel_rfl
@[simp] theorem own47 : G.retOwn 47 = false := by kernel_rfl
@[simp] theorem keep47_4 : G.keep 47 4 = some ⟨[(0, none), (3, some (1, 53)), (4, none), (10, none), (11, none), (12, none)], []⟩ := by kernel_rfl
@[simp] theorem live47_0 : G.live 47 0 = some ⟨[0], []⟩ := by kernel_rfl
@[simp] theorem live47_1 : G.live 47 1 = some ⟨[0, 3], []⟩ := by kernel_rfl
@[simp] theorem live47_2 : G.live 47 2 = some ⟨[0, 3, 4], []⟩ := by kernel_rfl
@[simp] theorem live47_3 : G.live 47 3 = some ⟨[0, 3, 4, 10, 11, 12], []⟩ := by kernel_rfl
@[simp] theorem live47_4 : G.live 47 4 = some ⟨[0, 3, 4, 10, 11, 12, 13], []⟩ := by kernel_rfl
@[simp] theorem live47_5 : G.live 47 5 = some ⟨[0, 3, 4, 5, 6, 10, 11, 12], []⟩ := by kernel_rfl
@[simp] theorem live47_6 : G.live 47 6 = some ⟨[0, 3, 4, 5, 6, 10, 11, 12, 20], []⟩ := by kernel_rfl
@[simp] theorem live47_7 : G.live 47 7 = some ⟨[0, 3, 4, 6, 10, 11, 12], []⟩ := by kernel_rfl
@[simp] theorem live47_8 : G.live 47 8 = some ⟨[0, 3, 4, 10, 11, 12], []⟩ := by kernel_rfl
@[simp] theorem live47_9 : G.live 47 9 = some ⟨[0, 3, 4, 10, 11, 12], []⟩ := by kernel_rfl
@[simp] theorem live47_10 : G.live 47 10 = some ⟨[2], []⟩ := by kernel_rfl
@[simp] theorem E48 : G.E 48 = true := by kernel_rfl
@[simp] theorem ext48 : G.ext 48 = none := by kernel_rfl
@[simp] theorem dfr48 : G.dfr 48 = false := by kernel_rfl
@[simp] theorem own48 : G.retOwn 48 = false := by kernel_rfl
@[simp] theorem keep48_2 : G.keep 48 2 = some ⟨[(0, some (2, 59)), (1, none), (2, none), (3, none), (4, none), (10, none), (11, none)], []⟩ := by kernel_rfl
@[simp] theorem live48_0 : G.live 48 0 = some ⟨[0, 1, 2, 3, 4, 10], []⟩ := by kernel_rfl
@[simp] theorem live48_1 : G.live 48 1 = some ⟨[0, 1, 2, 3, 4, 10, 11], []⟩ := by kernel_rfl
@[simp] theorem live48_2 : G.live 48 2 = some ⟨[0, 1, 2, 3, 4, 10, 11, 12], []⟩ := by kernel_rfl
@[simp] theorem live48_3 : G.live 48 3 = some ⟨[0, 1, 2, 3, 4, 10, 11, 12, 25], []⟩ := by kernel_rfl
@[simp] theorem live48_4 : G.live 48 4 = some ⟨[], []⟩ := by kernel_rfl
@[simp] theorem live48_5 : G.live 48 5 = some ⟨[0, 1, 2, 3, 4, 10, 11, 12, 32], []⟩ := by kernel_rfl
@[simp] theorem live48_6 : G.live 48 6 = some ⟨[], []⟩ := by kernel_rfl
@[simp] theorem live48_7 : G.live 48 7 = some ⟨[0, 1, 2, 3, 4, 10, 11, 12, 39], []⟩ := by kernel_rfl
@[simp] theorem live48_8 : G.live 48 8 = some ⟨[0, 1, 2, 3, 4, 10, 11, 12], []⟩ := by kernel_rfl
@[simp] theorem live48_9 : G.live 48 9 = some ⟨[0, 1, 2, 3, 4, 10, 11, 12], []⟩ := by kernel_rfl
@[simp] theorem live48_10 : G.live 48 10 = some ⟨[0, 1, 2, 3, 4, 10, 11, 12, 13, 14], []⟩ := by kernel_rfl
@[simp] theorem live48_11 : G.live 48 11 = some ⟨[0, 1, 2, 3, 4, 10, 11, 12, 13, 14, 56], []⟩ := by kernel_rfl
@[simp] theorem live48_12 : G.live 48 12 = some ⟨[0, 1, 2, 3, 4, 10, 11, 12, 13], []⟩ := by kernel_rfl
@[simp] theorem live48_13 : G.live 48 13 = some ⟨[0, 1, 2, 3, 4, 10, 11, 12, 13], []⟩ := by kernel_rfl
@[simp] theorem live48_14 : G.live 48 14 = some ⟨[0, 1, 2, 3, 4, 10, 11, 12, 13, 14], []⟩ := by kernel_rfl
@[simp] theorem live48_15 : G.live 48 15 = some ⟨[0, 1, 2, 3, 4, 10, 11, 12, 13, 75], []⟩ := by kernel_rfl
@[simp] theorem live48_16 : G.live 48 16 = some ⟨[0, 1, 2, 3, 4, 10, 11, 12, 13, 80], []⟩ := by kernel_rfl
@[simp] theorem live48_17 : G.live 48 17 = some ⟨[0, 1, 2, 3, 4, 10, 11, 12, 13, 97], []⟩ := by kernel_rfl
@[simp] theorem live48_18 : G.live 48 18 = some ⟨[0, 2, 3, 4, 10, 11, 15], []⟩ := by kernel_rfl
@[simp] theorem live48_19 : G.live 48 19 = some ⟨[0, 1, 2, 3, 4, 10, 11], []⟩ := by kernel_rfl
@[simp] theorem live48_20 : G.live 48 20 = some ⟨[0, 1, 2, 3, 4, 12, 16, 17], []⟩ := by kernel_rfl
@[simp] theorem live48_21 : G.live 48 21 = some ⟨[0, 1, 2, 3, 4, 11, 12, 16], []⟩ := by kernel_rfl
@[simp] theorem live48_22 : G.live 48 22 = some ⟨[0, 1, 2, 3, 4, 11, 12, 16, 18, 19], []⟩ := by kernel_rfl
@[simp] theorem live48_23 : G.live 48 23 = some ⟨[0, 1, 2, 3, 4, 11, 16, 18, 19, 20], []⟩ := by kernel_rfl
@[simp] theorem live48_24 : G.live 48 24 = some ⟨[0, 1, 2, 3, 4, 11, 16, 18, 19, 20, 125], []⟩ := by kernel_rfl
@[simp] theorem live48_25 : G.live 48 25 = some ⟨[0, 1, 2, 3, 4, 10, 11, 16], []⟩ := by kernel_rfl
@[simp] theorem live48_26 : G.live 48 26 = some ⟨[0, 2, 3, 4, 10, 11, 16], []⟩ := by kernel_rfl
@[simp] theorem live48_27 : G.live 48 27 = some ⟨[0, 1, 2, 3, 4, 10, 11], []⟩ := by kernel_rfl
@[simp] theorem live48_28 : G.live 48 28 = some ⟨[0, 1, 2, 3, 4, 10, 11, 16], []⟩ := by kernel_rfl
@[simp] theorem live48_29 : G.live 48 29 = some ⟨[0, 1, 3, 4, 10, 11, 16], []⟩ := by kernel_rfl
@[simp] theorem live48_30 : G.live 48 30 = some ⟨[0, 1, 2, 3, 4, 10, 11], []⟩ := by kernel_rfl
@[simp] theorem plan48_17 : G.plan 48 17 = some [.n 0, .n 1, .n 2, .n 3, .n 4, .n 5, .n 6, .n 7, .n 8, .n 9, .n 10, .n 11, .n 12, .e 13 [5], .n 14, .n 15, .n 16] := by kernel_rfl
@[simp] theorem E49 : G.E 49 = true := by kernel_rfl
@[simp] theorem ext49 : G.ext 49 = none := by kernel_rfl
@[simp] theorem dfr49 : G.dfr 49 = false := by kernel_rfl
@[simp] theorem own49 : G.retOwn 49 = false := by kernel_rfl
@[simp] theorem live49_0 : G.live 49 0 = some ⟨[0], []⟩ := by kernel_rfl
@[simp] theorem live49_1 : G.live 49 1 = some ⟨[2], []⟩ := by kernel_rfl
@[simp] theorem live49_2 : G.live 49 2 = some ⟨[2], []⟩ := by kernel_rfl
@[simp] theorem E50 : G.E 50 = true := by kernel_rfl
@[simp] theorem ext50 : G.ext 50 = none := by kernel_rfl
@[simp] theorem dfr50 : G.dfr 50 = false := by kernel_rfl
@[simp] theorem own50 : G.retOwn 50 = false := by kernel_rfl
@[simp] theorem live50_0 : G.live 50 0 = some ⟨[0, 1], []⟩ := by kernel_rfl
@[simp] theorem live50_1 : G.live 50 1 = some ⟨[0, 1, 5], []⟩ := by kernel_rfl
@[simp] theorem live50_2 : G.live 50 2 = some ⟨[0, 1, 5, 6], []⟩ := by kernel_rfl
@[simp] theorem live50_3 : G.live 50 3 = some ⟨[0, 1, 6, 11], []⟩ := by kernel_rfl
@[simp] theorem live50_4 : G.live 50 4 = some ⟨[12], []⟩ := by kernel_rfl
@[simp] theorem live50_5 : G.live 50 5 = some ⟨[4], []⟩ := by kernel_rfl
@[simp] theorem live50_6 : G.live 50 6 = some ⟨[4], []⟩ := by kernel_rfl
@[simp] theorem live50_7 : G.live 50 7 = some ⟨[0, 1, 13], []⟩ := by kernel_rfl
@[simp] theorem live50_8 : G.live 50 8 = some ⟨[4], []⟩ := by kernel_rfl
@[simp] theorem live50_9 : G.live 50 9 = some ⟨[0, 1, 16], []⟩ := by kernel_rfl
@[simp] theorem live50_10 : G.live 50 10 = some ⟨[4], []⟩ := by kernel_rfl
@[simp] theorem live50_11 : G.live 50 11 = some ⟨[19], []⟩ := by kernel_rfl
@[simp] theorem live50_12 : G.live 50 12 = some ⟨[4], []⟩ := by kernel_rfl
@[simp] theorem live50_13 : G.live 50 13 = some ⟨[4], []⟩ := by kernel_rfl
@[simp] theorem E51 : G.E 51 = true := by kernel_rfl
@[simp] theorem ext51 : G.ext 51 = none := by kernel_rfl
@[simp] theorem dfr51 : G.dfr 51 = false := by kernel_rfl
@[simp] theorem own51 : G.retOwn 51 = false := by kernel_rfl
@[simp] theorem keep51_0 : G.keep 51 0 = some ⟨[(0, none), (1, none)], []⟩ := by kernel_rfl
@[simp] theorem live51_0 : G.live 51 0 = some ⟨[0, 1, 4], []⟩ := by kernel_rfl
@[simp] theorem live51_1 : G.live 51 1 = some ⟨[0, 1, 4, 17], []⟩ := by kernel_rfl
@[simp] theorem live51_2 : G.live 51 2 = some ⟨[0, 4], []⟩ := by kernel_rfl
@[simp] theorem live51_3 : G.live 51 3 = some ⟨[0, 1], []⟩ := by kernel_rfl
@[simp] theorem E52 : G.E 52 = true := by kernel_rfl
@[simp] theorem ext52 : G.ext 52 = none := by kernel_rfl
@[simp] theorem dfr52 : G.dfr 52 = false := by kernel_rfl
@[simp] theorem own52 : G.retOwn 52 = false := by kernel_rfl
@[simp] theorem keep52_2 : G.keep 52 2 = some ⟨[(0, none), (1, none), (2, none), (7, none)], []⟩ := by kernel_rfl
@[simp] theorem live52_0 : G.live 52 0 = some ⟨[0, 1, 2], []⟩ := by kernel_rfl
@[simp] theorem live52_1 : G.live 52 1 = some ⟨[0, 1, 2, 7], []⟩ := by kernel_rfl
@[simp] theorem live52_2 : G.live 52 2 = some ⟨[0, 1, 2, 7, 8], []⟩ := by kernel_rfl
@[simp] theorem live52_3 : G.live 52 3 = some ⟨[0, 1, 2, 7, 8, 21], []⟩ := by kernel_rfl
@[simp] theorem live52_4 : G.live 52 4 = some ⟨[0, 1, 2, 7, 8, 9], []⟩ := by kernel_rfl
@[simp] theorem live52_5 : G.live 52 5 = some ⟨[0, 1, 2, 7, 8, 9, 10], []⟩ := by kernel_rfl
@[simp] theorem live52_6 : G.live 52 6 = some ⟨[0, 1, 2, 7, 9, 10, 33], []⟩ := by kernel_rfl
@[simp] theorem live52_7 : G.live 52 7 = some ⟨[0, 1, 2, 7, 9], []⟩ := by kernel_rfl
@[simp] theorem live52_8 : G.live 52 8 = some ⟨[0, 1, 2, 7, 9, 39], []⟩ := by kernel_rfl
@[simp] theorem live52_9 : G.live 52 9 = some ⟨[0, 1, 2, 9], []⟩ := by kernel_rfl
@[simp] theorem live52_10 : G.live 52 10 = some ⟨[0, 1, 2, 7], []⟩ := by kernel_rfl
@[simp] theorem live52_11 : G.live 52 11 = some ⟨[6], []⟩ := by kernel_rfl
@[simp] theorem E53 : G.E 53 = true := by kernel_rfl
@[simp] theorem ext53 : G.ext 53 = none := by kernel_rfl
@[simp] theorem dfr53 : G.dfr 53 = false := by kernel_rfl
@[simp] theorem own53 : G.retOwn 53 = true := by kernel_rfl
@[simp] theorem live53_0 : G.live 53 0 = some ⟨[0, 1], []⟩ := by kernel_rfl
@[simp] theorem live53_1 : G.live 53 1 = some ⟨[0, 1, 6], []⟩ := by kernel_rfl
@[simp] theorem live53_2 : G.live 53 2 = some ⟨[0, 1], []⟩ := by kernel_rfl
@[simp] theorem live53_3 : G.live 53 3 = some ⟨[0, 1], []⟩ := by kernel_rfl
@[simp] theorem live53_4 : G.live 53 4 = some ⟨[0, 1, 16], []⟩ := by kernel_rfl
@[simp] theorem live53_5 : G.live 53 5 = some ⟨[0], []⟩ := by kernel_rfl
@[simp] theorem live53_6 : G.live 53 6 = some ⟨[4], []⟩ := by kernel_rfl
@[simp] theorem E54 : G.E 54 = true := by kernel_rfl
@[simp] theorem ext54 : G.ext 54 = none := by kernel_rfl
@[simp] theorem dfr54 : G.dfr 54 = false := by kernel_rfl
@[simp] theorem own54 : G.retOwn 54 = false := by kernel_rfl
@[simp] theorem keep54_2 : G.keep 54 2 = some ⟨[(0, some (1, 3)), (1, none), (2, none), (3, none), (4, none), (10, none), (11, none)], []⟩ := by kernel_rfl
@[simp] theorem live54_0 : G.live 54 0 = some ⟨[0, 1, 2, 3, 4, 10], []⟩ := by kernel_rfl
@[simp] theorem live54_1 : G.live 54 1 = some ⟨[0, 1, 2, 3, 4, 10, 11], []⟩ := by kernel_rfl
@[simp] theorem live54_2 : G.live 54 2 = some ⟨[0, 1, 2, 3, 4, 10, 11, 12], []⟩ := by kernel_rfl
@[simp] theorem live54_3 : G.live 54 3 = some ⟨[0, 1, 2, 3, 4, 10, 11, 12, 25], []⟩ := by kernel_rfl
@[simp] theorem live54_4 : G.live 54 4 = some ⟨[], []⟩ := by kernel_rfl
@[simp] theorem live54_5 : G.live 54 5 = some ⟨[0, 1, 2, 3, 4, 10, 11, 12, 32], []⟩ := by kernel_rfl
@[simp] theorem live54_6 : G.live 54 6 = some ⟨[], []⟩ := by kernel_rfl
@[simp] theorem live54_7 : G.live 54 7 = some ⟨[0, 1, 2, 3, 4, 10, 11, 12, 39], []⟩ := by kernel_rfl
@[simp] theorem live54_8 : G.live 54 8 = some ⟨[0, 1, 2, 3, 4, 10, 11, 12], []⟩ := by kernel_rfl
@[simp] theorem live54_9 : G.live 54 9 = some ⟨[0, 1, 2, 3, 4, 10, 11, 12], []⟩ := by kernel_rfl
@[simp] theorem live54_10 : G.live 54 10 = some ⟨[0, 1, 2, 3, 4, 10, 11, 12, 13, 14], []⟩ := by kernel_rfl
@[simp] theorem live54_11 : G.live 54 11 = some ⟨[0, 1, 2, 3, 4, 10, 11, 12, 13, 14, 56], []⟩ := by kernel_rfl
@[simp] theorem live54_12 : G.live 54 12 = some ⟨[0, 1, 2, 3, 4, 10, 11, 12, 13], []⟩ := by kernel_rfl
@[simp] theorem live54_13 : G.live 54 13 = some ⟨[0, 1, 2, 3, 4, 10, 11, 12, 13], []⟩ := by kernel_rfl
@[simp] theorem live54_14 : G.live 54 14 = some ⟨[0, 1, 2, 3, 4, 10, 11, 12, 13, 14], []⟩ := by kernel_rfl
@[simp] theorem live54_15 : G.live 54 15 = some ⟨[0, 1, 2, 3, 4, 10, 11, 12, 13, 75], []⟩ := by kernel_rfl
@[simp] theorem live54_16 : G.live 54 16 = some ⟨[0, 1, 2, 3, 4, 10, 11, 12, 13, 80], []⟩ := by kernel_rfl
@[simp] theorem live54_17 : G.live 54 17 = some ⟨[0, 1, 2, 3, 4, 10, 11, 12, 13, 97], []⟩ := by kernel_rfl
@[simp] theorem live54_18 : G.live 54 18 = some ⟨[0, 2, 3, 4, 10, 11, 15], []⟩ := by kernel_rfl
@[simp] theorem live54_19 : G.live 54 19 = some ⟨[0, 1, 2, 3, 4, 10, 11], []⟩ := by kernel_rfl
@[simp] theorem live54_20 : G.live 54 20 = some ⟨[0, 1, 2, 3, 4, 12, 16, 17], []⟩ := by kernel_rfl
@[simp] theorem live54_21 : G.live 54 21 = some ⟨[0, 1, 2, 3, 4, 11, 12, 16], []⟩ := by kernel_rfl
@[simp] theorem live54_22 : G.live 54 22 = some ⟨[0, 1, 2, 3, 4, 11, 12, 16, 18, 19], []⟩ := by kernel_rfl
@[simp] theorem live54_23 : G.live 54 23 = some ⟨[0, 1, 2, 3, 4, 11, 16, 18, 19, 20], []⟩ := by kernel_rfl
@[simp] theorem live54_24 : G.live 54 24 = some ⟨[0, 1, 2, 3, 4, 11, 16, 18, 19, 20, 125], []⟩ := by kernel_rfl
@[simp] theorem live54_25 : G.live 54 25 = some ⟨[0, 1, 2, 3, 4, 10, 11, 16], []⟩ := by kernel_rfl
@[simp] theorem live54_26 : G.live 54 26 = some ⟨[0, 2, 3, 4, 10, 11, 16], []⟩ := by kernel_rfl
@[simp] theorem live54_27 : G.live 54 27 = some ⟨[0, 1, 2, 3, 4, 10, 11], []⟩ := by kernel_rfl
@[simp] theorem live54_28 : G.live 54 28 = some ⟨[0, 1, 2, 3, 4, 10, 11, 16], []⟩ := by kernel_rfl
@[simp] theorem live54_29 : G.live 54 29 = some ⟨[0, 1, 3, 4, 10, 11, 16], []⟩ := by kernel_rfl
@[simp] theorem live54_30 : G.live 54 30 = some ⟨[0, 1, 2, 3, 4, 10, 11], []⟩ := by kernel_rfl
@[simp] theorem plan54_17 : G.plan 54 17 = some [.n 0, .n 1, .n 2, .n 3, .n 4, .n 5, .n 6, .n 7, .n 8, .n 9, .n 10, .n 11, .n 12, .e 13 [5], .n 14, .n 15, .n 16] := by kernel_rfl
@[simp] theorem E55 : G.E 55 = true := by kernel_rfl
@[simp] theorem ext55 : G.ext 55 = none := by kernel_rfl
@[simp] theorem dfr55 : G.dfr 55 = false := by kernel_rfl
@[simp] theorem own55 : G.retOwn 55 = false := by kernel_rfl
@[simp] theorem live55_0 : G.live 55 0 = some ⟨[0, 1], []⟩ := by kernel_rfl
@[simp] theorem live55_1 : G.live 55 1 = some ⟨[4], []⟩ := by kernel_rfl
@[simp] theorem E56 : G.E 56 = true := by kernel_rfl
@[simp] theorem ext56 : G.ext 56 = none := by kernel_rfl
@[simp] theorem dfr56 : G.dfr 56 = false := by kernel_rfl
@[simp] theorem own56 : G.retOwn 56 = false := by kernel_rfl
@[simp] theorem live56_0 : G.live 56 0 = some ⟨[1], []⟩ := by kernel_rfl
@[simp] theorem live56_1 : G.live 56 1 = some ⟨[1, 3], []⟩ := by kernel_rfl
@[simp] theorem live56_2 : G.live 56 2 = some ⟨[1, 3, 6], []⟩ := by kernel_rfl
@[simp] theorem live56_3 : G.live 56 3 = some ⟨[1, 3, 6, 7], []⟩ := by kernel_rfl
@[simp] theorem live56_4 : G.live 56 4 = some ⟨[1, 3, 6, 9], []⟩ := by kernel_rfl
@[simp] theorem live56_5 : G.live 56 5 = some ⟨[1, 3, 6, 11], []⟩ := by kernel_rfl
@[simp] theorem live56_6 : G.live 56 6 = some ⟨[1, 3, 6, 13], []⟩ := by kernel_rfl
@[simp] theorem live56_7 : G.live 56 7 = some ⟨[1, 3, 6, 15], []⟩ := by kernel_rfl
@[simp] theorem live56_8 : G.live 56 8 = some ⟨[1, 3, 15], []⟩ := by kernel_rfl
@[simp] theorem live56_9 : G.live 56 9 = some ⟨[1, 3], []⟩ := by kernel_rfl
@[simp] theorem live56_10 : G.live 56 10 = some ⟨[2], []⟩ := by kernel_rfl
@[simp] theorem live56_11 : G.live 56 11 = some ⟨[1, 3], []⟩ := by kernel_rfl
@[simp] theorem live56_12 : G.live 56 12 = some ⟨[2], []⟩ := by kernel_rfl
@[simp] theorem live56_13 : G.live 56 13 = some ⟨[1, 3], []⟩ := by kernel_rfl
@[simp] theorem live56_14 : G.live 56 14 = some ⟨[2], []⟩ := by kernel_rfl
@[simp] theorem live56_15 : G.live 56 15 = some ⟨[2], []⟩ := by kernel_rfl
@[simp] theorem live56_16 : G.live 56 16 = some ⟨[2], []⟩ := by kernel_rfl
@[simp] theorem plan56_10 : G.plan 56 10 = some [.n 0, .n 1, .e 2 [0], .n 3, .n 4, .n 5, .n 6, .n 7, .n 8, .n 9] := by kernel_rfl
@[simp] theorem plan56_12 : G.plan 56 12 = some [.n 0, .n 1, .e 2 [0], .n 3, .n 4, .n 5, .n 6, .n 7, .n 8, .n 9] := by kernel_rfl
@[simp] theorem plan56_14 : G.plan 56 14 = some [.n 0, .n 1, .e 2 [0], .n 3, .n 4, .n 5, .n 6, .n 7, .n 8, .n 9] := by kernel_rfl
@[simp] theorem plan56_15 : G.plan 56 15 = some [.n 0, .n 1, .e 2 [0], .n 3, .n 4, .n 5, .n 6, .n 7, .n 8, .n 9] := by kernel_rfl
@[simp] theorem E57 : G.E 57 = true := by kernel_rfl
@[simp] theorem ext57 : G.ext 57 = none := by kernel_rfl
@[simp] theorem dfr57 : G.dfr 57 = false := by kernel_rfl
@[simp] theorem own57 : G.retOwn 57 = false := by kernel_rfl
@[simp] theorem keep57_2 : G.keep 57 2 = some ⟨[(0, none), (1, none), (7, none), (8, none)], []⟩ := by kernel_rfl
@[simp] theorem live57_0 : G.live 57 0 = some ⟨[0, 1], []⟩ := by kernel_rfl
@[simp] theorem live57_1 : G.live 57 1 = some ⟨[0, 1, 7, 8], []⟩ := by kernel_rfl
@[simp] theorem live57_2 : G.live 57 2 = some ⟨[0, 1, 7, 8, 9], []⟩ := by kernel_rfl
@[simp] theorem live57_3 : G.live 57 3 = some ⟨[0, 1, 5, 7, 8], []⟩ := by kernel_rfl
@[simp] theorem live57_4 : G.live 57 4 = some ⟨[0, 1, 5, 7, 8, 16], []⟩ := by kernel_rfl
@[simp] theorem live57_5 : G.live 57 5 = some ⟨[4], []⟩ := by kernel_rfl
@[simp] theorem live57_6 : G.live 57 6 = some ⟨[0, 1, 7, 8], []⟩ := by kernel_rfl
@[simp] theorem live57_7 : G.live 57 7 = some ⟨[4], []⟩ := by kernel_rfl
@[simp] theorem E58 : G.E 58 = true := by kernel_rfl
@[simp] theorem ext58 : G.ext 58 = none := by kernel_rfl
@[simp] theorem dfr58 : G.dfr 58 = false := by kernel_rfl
@[simp] theorem own58 : G.retOwn 58 = false := by kernel_rfl
@[simp] theorem live58_0 : G.live 58 0 = some ⟨[0], []⟩ := by kernel_rfl
@[simp] theorem live58_1 : G.live 58 1 = some ⟨[2], []⟩ := by kernel_rfl
@[simp] theorem E59 : G.E 59 = true := by kernel_rfl
@[simp] theorem ext59 : G.ext 59 = none := by kernel_rfl
@[simp] theorem dfr59 : G.dfr 59 = false := by kernel_rfl
@[simp] theorem own59 : G.retOwn 59 = false := by kernel_rfl
@[simp] theorem live59_0 : G.live 59 0 = some ⟨[0], []⟩ := by kernel_rfl
@[simp] theorem live59_1 : G.live 59 1 = some ⟨[2], []⟩ := by kernel_rfl
@[simp] theorem E60 : G.E 60 = true := by kernel_rfl
@[simp] theorem ext60 : G.ext 60 = none := by kernel_rfl
@[simp] theorem dfr60 : G.dfr 60 = false := by kernel_rfl
@[simp] theorem own60 : G.retOwn 60 = false := by kernel_rfl
@[simp] theorem live60_0 : G.live 60 0 = some ⟨[0], []⟩ := by kernel_rfl
@[simp] theorem live60_1 : G.live 60 1 = some ⟨[2], []⟩ := by kernel_rfl
@[simp] theorem E61 : G.E 61 = true := by kernel_rfl
@[simp] theorem ext61 : G.ext 61 = none := by kernel_rfl
@[simp] theorem dfr61 : G.dfr 61 = false := by kernel_rfl
@[simp] theorem own61 : G.retOwn 61 = false := by kernel_rfl
@[simp] theorem live61_0 : G.live 61 0 = some ⟨[0, 1, 10], []⟩ := by kernel_rfl
@[simp] theorem live61_1 : G.live 61 1 = some ⟨[0, 1, 5, 10], []⟩ := by kernel_rfl
@[simp] theorem live61_2 : G.live 61 2 = some ⟨[5, 9, 10], []⟩ := by kernel_rfl
@[simp] theorem live61_3 : G.live 61 3 = some ⟨[5, 6, 9, 10], []⟩ := by kernel_rfl
@[simp] theorem live61_4 : G.live 61 4 = some ⟨[5, 9, 10], []⟩ := by kernel_rfl
@[simp] theorem live61_5 : G.live 61 5 = some ⟨[4], []⟩ := by kernel_rfl
@[simp] theorem E62 : G.E 62 = true := by kernel_rfl
@[simp] theorem ext62 : G.ext 62 = none := by kernel_rfl
@[simp] theorem dfr62 : G.dfr 62 = false := by kernel_rfl
@[simp] theorem own62 : G.retOwn 62 = false := by kernel_rfl
@[simp] theorem live62_0 : G.live 62 0 = some ⟨[0, 1], []⟩ := by kernel_rfl
@[simp] theorem live62_1 : G.live 62 1 = some ⟨[0, 1, 8], []⟩ := by kernel_rfl
@[simp] theorem live62_2 : G.live 62 2 = some ⟨[4], []⟩ := by kernel_rfl
@[simp] theorem live62_3 : G.live 62 3 = some ⟨[4], []⟩ := by kernel_rfl
@[simp] theorem E63 : G.E 63 = true := by kernel_rfl
@[simp] theorem ext63 : G.ext 63 = none := by kernel_rfl
@[simp] theorem dfr63 : G.dfr 63 = false := by kernel_rfl
@[simp] theorem own63 : G.retOwn 63 = false := by kernel_rfl
@[simp] theorem live63_0 : G.live 63 0 = some ⟨[0, 1], []⟩ := by kernel_rfl
@[simp] theorem live63_1 : G.live 63 1 = some ⟨[0, 1, 8], []⟩ := by kernel_rfl
@[simp] theorem live63_2 : G.live 63 2 = some ⟨[4], []⟩ := by kernel_rfl
@[simp] theorem live63_3 : G.live 63 3 = some ⟨[4], []⟩ := by kernel_rfl
@[simp] theorem E64 : G.E 64 = true := by kernel_rfl
@[simp] theorem ext64 : G.ext 64 = none := by kernel_rfl
@[simp] theorem dfr64 : G.dfr 64 = false := by kernel_rfl
@[simp] theorem own64 : G.retOwn 64 = false := by kernel_rfl
@[simp] theorem keep64_1 : G.keep 64 1 = some ⟨[(0, some (2, 59)), (1, none), (2, none), (3, none), (8, none)], []⟩ := by kernel_rfl
@[simp] theorem keep64_4 : G.keep 64 4 = some ⟨[(0, some (2, 59)), (1, none), (2, none), (3, none), (8, none), (9, none)], []⟩ := by kernel_rfl
@[simp] theorem live64_0 : G.live 64 0 = some ⟨[0, 1, 2, 3, 8], []⟩ := by kernel_rfl
@[simp] theorem live64_1 : G.live 64 1 = some ⟨[0, 1, 2, 3, 8, 14], []⟩ := by kernel_rfl
@[simp] theorem live64_3 : G.live 64 3 = some ⟨[0, 1, 2, 3, 8, 9], []⟩ := by kernel_rfl
@[simp] theorem live64_4 : G.live 64 4 = some ⟨[0, 1, 2, 3, 8, 9, 34], []⟩ := by kernel_rfl
@[simp] theorem live64_6 : G.live 64 6 = some ⟨[0, 1, 2, 3, 8, 9], []⟩ := by kernel_rfl
@[simp] theorem live64_5 : G.live 64 5 = some ⟨[0, 1, 2, 3, 8, 9], []⟩ := by kernel_rfl
@[simp] theorem live64_2 : G.live 64 2 = some ⟨[0, 1, 2, 3, 8], []⟩ := by kernel_rfl
@[simp] theorem plan64_4 : G.plan 64 4 = some [.n 0, .n 1, .n 2, .n 3, .n 4, .n 5, .n 6, .n 7, .n 8, .n 9, .n 10, .n 11, .n 12, .n 13, .e 14 [10], .n 15, .n 16] := by kernel_rfl
@[simp] theorem plan64_6 : G.plan 64 6 = some [.n 0, .n 1, .n 2, .n 3, .n 4, .n 5, .n 6, .n 7, .n 8, .n 9, .n 10, .n 11, .n 12, .n 13, .n 14, .e 15 [4, 3, 2], .n 16, .e 17 []] := by kernel_rfl
@[simp] theorem E65 : G.E 65 = true := by kernel_rfl
@[simp] theorem ext65 : G.ext 65 = none := by kernel_rfl
@[simp] theorem dfr65 : G.dfr 65 = false := by kernel_rfl
@[simp] theorem own65 : G.retOwn 65 = false := by kernel_rfl
@[simp] theorem keep65_4 : G.keep 65 4 = some ⟨[(0, some (2, 59)), (3, none), (8, none), (9, none), (10, none), (11, none)], []⟩ := by kernel_rfl
@[simp] theorem keep65_8 : G.keep 65 8 = some ⟨[(0, some (2, 59)), (3, none), (8, none), (9, none), (12, none)], []⟩ := by kernel_rfl
@[simp] theorem live65_0 : G.live 65 0 = some ⟨[0, 1, 2, 3, 8], []⟩ := by kernel_rfl
@[simp] theorem live65_1 : G.live 65 1 = some ⟨[0, 1, 2, 3, 8, 9], []⟩ := by kernel_rfl
@[simp] theorem live65_2 : G.live 65 2 = some ⟨[0, 3, 8, 9, 10], []⟩ := by kernel_rfl
@[simp] theorem live65_3 : G.live 65 3 = some ⟨[0, 3, 8, 9, 10, 11], []⟩ := by kernel_rfl
@[simp] theorem live65_4 : G.live 65 4 = some ⟨[0, 3, 8, 9, 10, 11, 21], []⟩ := by kernel_rfl
@[simp] theorem live65_6 : G.live 65 6 = some ⟨[0, 3, 8, 9, 10, 11], []⟩ := by kernel_rfl
@[simp] theorem live65_5 : G.live 65 5 = some ⟨[0, 3, 8, 9, 10, 11], []⟩ := by kernel_rfl
@[simp] theorem live65_7 : G.live 65 7 = some ⟨[0, 3, 8, 9, 12], []⟩ := by kernel_rfl
@[simp] theorem live65_8 : G.live 65 8 = some ⟨[0, 3, 8, 9, 12, 33], []⟩ := by kernel_rfl
@[simp] theorem live65_10 : G.live 65 10 = some ⟨[0, 3, 8, 9, 12], []⟩ := by kernel_rfl
@[simp] theorem live65_11 : G.live 65 11 = some ⟨[0, 3, 8, 9, 12], []⟩ := by kernel_rfl
@[simp] theorem live65_9 : G.live 65 9 = some ⟨[0, 3, 8, 9, 12], []⟩ := by kernel_rfl
@[simp] theorem plan65_10 : G.plan 65 10 = some [.n 0, .n 1, .n 2, .n 3, .n 4, .n 5, .n 6, .n 7, .n 8, .n 9, .n 10, .n 11, .n 12, .n 13, .n 14, .n 15, .n 16, .e 17 [5, 4, 3, 2], .n 18, .e 19 []] := by kernel_rfl
@[simp] theorem E66 : G.E 66 = true := by kernel_rfl
@[simp] theorem ext66 : G.ext 66 = none := by kernel_rfl
@[simp] theorem dfr66 : G.dfr 66 = false := by kernel_rfl
@[simp] theorem own66 : G.retOwn 66 = false := by kernel_rfl
@[simp] theorem keep66_5 : G.keep 66 5 = some ⟨[(0, some (2, 59)), (1, none), (8, none), (9, none), (10, none), (11, none)], [(1009, [])]⟩ := by kernel_rfl
@[simp] theorem live66_0 : G.live 66 0 = some ⟨[0, 1, 8], []⟩ := by kernel_rfl
@[simp] theorem live66_1 : G.live 66 1 = some ⟨[0, 1, 8, 17], []⟩ := by kernel_rfl
@[simp] theorem live66_2 : G.live 66 2 = some ⟨[0, 1, 8, 9], []⟩ := by kernel_rfl
@[simp] theorem live66_3 : G.live 66 3 = some ⟨[0, 1, 8, 9, 10], []⟩ := by kernel_rfl
@[simp] theorem live66_4 : G.live 66 4 = some ⟨[0, 1, 8, 9, 10, 11], []⟩ := by kernel_rfl
@[simp] theorem live66_5 : G.live 66 5 = some ⟨[0, 1, 8, 9, 10, 11, 35], []⟩ := by kernel_rfl
@[simp] theorem live66_7 : G.live 66 7 = some ⟨[0, 1, 8, 9, 10, 11, 12], []⟩ := by kernel_rfl
@[simp] theorem live66_8 : G.live 66 8 = some ⟨[0, 1, 8, 9, 10, 11, 12, 45], []⟩ := by kernel_rfl
@[simp] theorem live66_9 : G.live 66 9 = some ⟨[0, 1, 8, 9, 10, 11, 12], []⟩ := by kernel_rfl
@[simp] theorem live66_10 : G.live 66 10 = some ⟨[0, 1, 8, 9, 10, 11], []⟩ := by kernel_rfl
@[simp] theorem live66_6 : G.live 66 6 = some ⟨[0, 1, 8, 9, 10, 11], []⟩ := by kernel_rfl
@[simp] theorem plan66_10 : G.plan 66 10 = some [.n 0, .n 1, .n 2, .n 3, .n 4, .n 5, .n 6, .n 7, .n 8, .n 9, .n 10, .n 11, .n 12, .n 13, .n 14, .n 15, .n 16, .e 17 [5, 4, 3, 2], .n 18, .e 19 []] := by kernel_rfl
@[simp] theorem E67 : G.E 67 = true := by kernel_rfl
@[simp] theorem ext67 : G.ext 67 = none := by kernel_rfl
@[simp] theorem dfr67 : G.dfr 67 = false := by kernel_rfl
@[simp] theorem own67 : G.retOwn 67 = false := by kernel_rfl
@[simp] theorem live67_0 : G.live 67 0 = some ⟨[0, 1, 2, 3], []⟩ := by kernel_rfl
@[simp] theorem live67_1 : G.live 67 1 = some ⟨[0, 1, 3, 10], []⟩ := by kernel_rfl
@[simp] theorem live67_2 : G.live 67 2 = some ⟨[0, 1, 3, 10, 11], []⟩ := by kernel_rfl
@[simp] theorem live67_3 : G.live 67 3 = some ⟨[0, 1, 3, 10, 11, 12], []⟩ := by kernel_rfl
@[simp] theorem live67_4 : G.live 67 4 = some ⟨[0, 1, 3, 10, 11, 12, 13], []⟩ := by kernel_rfl
@[simp] theorem live67_5 : G.live 67 5 = some ⟨[0, 3, 10, 11, 12, 13, 14], []⟩ := by kernel_rfl
@[simp] theorem live67_6 : G.live 67 6 = some ⟨[0, 3, 10, 11, 12, 13, 14, 34], []⟩ := by kernel_rfl
@[simp] theorem live67_7 : G.live 67 7 = some ⟨[0, 3, 11, 12, 13, 14, 36], []⟩ := by kernel_rfl
@[simp] theorem live67_8 : G.live 67 8 = some ⟨[0, 3, 11, 12, 13, 14], []⟩ := by kernel_rfl
@[simp] theorem live67_9 : G.live 67 9 = some ⟨[0, 3, 11, 12, 13, 14], []⟩ := by kernel_rfl
@[simp] theorem live67_10 : G.live 67 10 = some ⟨[0, 3, 11, 12, 13, 14], []⟩ := by kernel_rfl
@[simp] theorem live67_11 : G.live 67 11 = some ⟨[11, 13], []⟩ := by kernel_rfl
@[simp] theorem live67_12 : G.live 67 12 = some ⟨[13, 55], []⟩ := by kernel_rfl
@[simp] theorem live67_14 : G.live 67 14 = some ⟨[13, 55, 57], []⟩ := by kernel_rfl
@[simp] theorem live67_15 : G.live 67 15 = some ⟨[8, 9], []⟩ := by kernel_rfl
@[simp] theorem live67_16 : G.live 67 16 = some ⟨[13, 60], []⟩ := by kernel_rfl
@[simp] theorem live67_17 : G.live 67 17 = some ⟨[8, 9], []⟩ := by kernel_rfl
@[simp] theorem live67_13 : G.live 67 13 = some ⟨[8, 9], []⟩ := by kernel_rfl
@[simp] theorem E68 : G.E 68 = true := by kernel_rfl
@[simp] theorem ext68 : G.ext 68 = none := by kernel_rfl
@[simp] theorem dfr68 : G.dfr 68 = false := by kernel_rfl
@[simp] theorem own68 : G.retOwn 68 = false := by kernel_rfl
@[simp] theorem keep68_2 : G.keep 68 2 = some ⟨[(0, some (2, 59)), (8, none), (9, none)], []⟩ := by kernel_rfl
@[simp] theorem live68_0 : G.live 68 0 = some ⟨[0, 2, 8], []⟩ := by kernel_rfl
@[simp] theorem live68_1 : G.live 68 1 = some ⟨[0, 8, 9], []⟩ := by kernel_rfl
@[simp] theorem live68_2 : G.live 68 2 = some ⟨[0, 8, 9, 15], []⟩ := by kernel_rfl
@[simp] theorem live68_3 : G.live 68 3 = some ⟨[0, 8, 9], []⟩ := by kernel_rfl
@[simp] theorem live68_4 : G.live 68 4 = some ⟨[0, 8, 9], []⟩ := by kernel_rfl
@[simp] theorem live68_5 : G.live 68 5 = some ⟨[0, 8, 9], []⟩ := by kernel_rfl
@[simp] theorem plan68_3 : G.plan 68 3 = some [.n 0, .n 1, .n 2, .n 3, .n 4, .n 5, .n 6, .n 7, .n 8, .n 9, .n 10, .n 11, .n 12, .e 13 [3, 2], .n 14, .e 15 []] := by kernel_rfl
@[simp] theorem E69 : G.E 69 = true := by kernel_rfl
@[simp] theorem ext69 : G.ext 69 = none := by kernel_rfl
@[simp] theorem dfr69 : G.dfr 69 = false := by kernel_rfl
@[simp] theorem own69 : G.retOwn 69 = false := by kernel_rfl
@[simp] theorem keep69_3 : G.keep 69 3 = some ⟨[(0, some (2, 59)), (1, none), (2, none), (3, none), (9, none), (10, none)], []⟩ := by kernel_rfl
@[simp] theorem keep69_5 : G.keep 69 5 = some ⟨[(0, none), (1, none), (2, none), (3, none), (9, none), (10, none)], []⟩ := by kernel_rfl
@[simp] theorem keep69_14 : G.keep 69 14 = some ⟨[(0, some (2, 59)), (1, none), (2, none), (3, none), (9, none), (10, none), (11, none)], []⟩ := by kernel_rfl
@[simp] theorem keep69_20 : G.keep 69 20 = some ⟨[(0, some (2, 59)), (1, none), (2, none), (3, none), (9, none), (10, none), (12, none)], []⟩ := by kernel_rfl
@[simp] theorem live69_0 : G.live 69 0 = some ⟨[0, 1, 2, 3], []⟩ := by kernel_rfl
@[simp] theorem live69_1 : G.live 69 1 = some ⟨[0, 1, 2, 3, 9], []⟩ := by kernel_rfl
@[simp] theorem live69_2 : G.live 69 2 = some ⟨[0, 1, 2, 3, 9, 10], []⟩ := by kernel_rfl
@[simp] theorem live69_3 : G.live 69 3 = some ⟨[0, 1, 2, 3, 9, 10, 16], []⟩ := by kernel_rfl
@[simp] theorem live69_5 : G.live 69 5 = some ⟨[0, 1, 2, 3, 9, 10, 36], []⟩ := by kernel_rfl
@[simp] theorem live69_6 : G.live 69 6 = some ⟨[0, 1, 2, 3, 9, 10], []⟩ := by kernel_rfl
@[simp] theorem live69_7 : G.live 69 7 = some ⟨[0, 1, 2, 3, 9, 10, 41], []⟩ := by kernel_rfl
@[simp] theorem live69_8 : G.live 69 8 = some ⟨[8], []⟩ := by kernel_rfl
@[simp] theorem live69_9 : G.live 69 9 = some ⟨[0, 1, 2, 3, 9, 10, 45], []⟩ := by kernel_rfl
@[simp] theorem live69_10 : G.live 69 10 = some ⟨[8], []⟩ := by kernel_rfl
@[simp] theorem live69_11 : G.live 69 11 = some ⟨[0, 1, 2, 3, 9, 10], []⟩ := by kernel_rfl
@[simp] theorem live69_12 : G.live 69 12 = some ⟨[0, 1, 2, 3, 9, 10, 65], []⟩ := by kernel_rfl
@[simp] theorem live69_13 : G.live 69 13 = some ⟨[0, 1, 2, 3, 9, 10, 11], []⟩ := by kernel_rfl
@[simp] theorem live69_14 : G.live 69 14 = some ⟨[0, 1, 2, 3, 9, 10, 11, 69], []⟩ := by kernel_rfl
@[simp] theorem live69_16 : G.live 69 16 = some ⟨[0, 1, 2, 3, 9, 10, 11, 84], []⟩ := by kernel_rfl
@[simp] theorem live69_17 : G.live 69 17 = some ⟨[0, 1, 2, 3, 9, 10, 11], []⟩ := by kernel_rfl
@[simp] theorem live69_15 : G.live 69 15 = some ⟨[0, 1, 2, 3, 9, 10, 11], []⟩ := by kernel_rfl
@[simp] theorem live69_18 : G.live 69 18 = some ⟨[0, 1, 2, 3, 9, 10, 104], []⟩ := by kernel_rfl
@[simp] theorem live69_19 : G.live 69 19 = some ⟨[0, 1, 2, 3, 9, 10, 12], []⟩ := by kernel_rfl
@[simp] theorem live69_20 : G.live 69 20 = some ⟨[0, 1, 2, 3, 9, 10, 12, 109], []⟩ := by kernel_rfl
@[simp] theorem live69_22 : G.live 69 22 = some ⟨[0, 1, 2, 3, 9, 10, 12, 124], []⟩ := by kernel_rfl
@[simp] theorem live69_23 : G.live 69 23 = some ⟨[0, 1, 2, 3, 9, 10, 12], []⟩ := by kernel_rfl
@[simp] theorem live69_21 : G.live 69 21 = some ⟨[0, 1, 2, 3, 9, 10, 12], []⟩ := by kernel_rfl
@[simp] theorem live69_4 : G.live 69 4 = some ⟨[0, 1, 2, 3, 9, 10], []⟩ := by kernel_rfl
@[simp] theorem live69_24 : G.live 69 24 = some ⟨[8], []⟩ := by kernel_rfl
@[simp] theorem plan69_5 : G.plan 69 5 = some [.n 0, .n 1, .n 2, .n 3, .n 4, .n 5, .n 6, .n 7, .n 8, .n 9, .n 10, .n 11, .n 12, .n 13, .e 14 [10], .n 15, .n 16, .n 17] := by kernel_rfl
@[simp] theorem plan69_11 : G.plan 69 11 = some [.n 0, .n 1, .n 2, .n 3, .n 4, .n 5, .n 6, .n 7, .n 8, .n 9, .n 10, .n 11, .n 12, .n 13, .n 14, .e 15 [4, 3, 2], .n 16, .e 17 []] := by kernel_rfl
@[simp] theorem plan69_16 : G.plan 69 16 = some [.n 0, .n 1, .n 2, .n 3, .n 4, .n 5, .n 6, .n 7, .n 8, .n 9, .e 10 [6], .n 11, .n 12] := by kernel_rfl
@[simp] theorem plan69_17 : G.plan 69 17 = some [.n 0, .n 1, .n 2, .n 3, .n 4, .n 5, .n 6, .n 7, .n 8, .n 9, .n 10, .n 11, .n 12, .n 13, .n 14, .e 15 [4, 3, 2], .n 16, .e 17 []] := by kernel_rfl
@[simp] theorem plan69_22 : G.plan 69 22 = some [.n 0, .n 1, .n 2, .n 3, .n 4, .n 5, .n 6, .n 7, .n 8, .n 9, .e 10 [6], .n 11, .n 12] := by kernel_rfl
@[simp] theorem plan69_23 : G.plan 69 23 = some [.n 0, .n 1, .n 2, .n 3, .n 4, .n 5, .n 6, .n 7, .n 8, .n 9, .n 10, .n 11, .n 12, .n 13, .n 14, .e 15 [4, 3, 2], .n 16, .e 17 []] := by kernel_rfl
@[simp] theorem E70 : G.E 70 = true := by kernel_rfl
@[simp] theorem ext70 : G.ext 70 = none := by kernel_rfl
@[simp] theorem dfr70 : G.dfr 70 = false := by kernel_rfl
@[simp] theorem own70 : G.retOwn 70 = false := by kernel_rfl
@[simp] theorem keep70_3 : G.keep 70 3 = some ⟨[(0, some (2, 59)), (1, none), (4, none), (11, none), (12, none)], []⟩ := by kernel_rfl
@[simp] theorem keep70_5 : G.keep 70 5 = some ⟨[(0, none), (1, none), (4, none), (11, none), (12, none)], []⟩ := by kernel_rfl
@[simp] theorem live70_0 : G.live 70 0 = some ⟨[0, 1, 2, 3, 4], []⟩ := by kernel_rfl
@[simp] theorem live70_1 : G.live 70 1 = some ⟨[0, 1, 2, 4], []⟩ := by kernel_rfl
@[simp] theorem live70_2 : G.live 70 2 = some ⟨[0, 1, 4, 11, 12], []⟩ := by kernel_rfl
@[simp] theorem live70_3 : G.live 70 3 = some ⟨[0, 1, 4, 11, 12, 47], []⟩ := by kernel_rfl
@[simp] theorem live70_4 : G.live 70 4 = some ⟨[0, 1, 4, 11, 12], []⟩ := by kernel_rfl
@[simp] theorem live70_5 : G.live 70 5 = some ⟨[0, 1, 4, 11, 12, 65], []⟩ := by kernel_rfl
@[simp] theorem live70_6 : G.live 70 6 = some ⟨[0, 1, 4, 11, 12], []⟩ := by kernel_rfl
@[simp] theorem live70_7 : G.live 70 7 = some ⟨[0, 1, 4, 11, 12, 70], []⟩ := by kernel_rfl
@[simp] theorem live70_8 : G.live 70 8 = some ⟨[0, 1, 4, 11, 12], []⟩ := by kernel_rfl
@[simp] theorem live70_9 : G.live 70 9 = some ⟨[0, 1, 4, 11, 12], []⟩ := by kernel_rfl
@[simp] theorem live70_10 : G.live 70 10 = some ⟨[0, 1, 4, 11, 12], []⟩ := by kernel_rfl
@[simp] theorem live70_11 : G.live 70 11 = some ⟨[10], []⟩ := by kernel_rfl
@[simp] theorem plan70_1 : G.plan 70 1 = some [.n 0, .n 1, .n 2, .n 3, .n 4, .n 5, .n 6, .n 7, .n 8, .n 9, .n 10, .n 11, .n 12, .e 13 [3, 2], .n 14, .e 15 []] := by kernel_rfl
@[simp] theorem plan70_3 : G.plan 70 3 = some [.n 0, .n 1, .n 2, .n 3, .n 4, .n 5, .n 6, .n 7, .n 8, .n 9, .n 10, .n 11, .n 12, .e 13 [], .n 14, .n 15, .n 16] := by kernel_rfl
@[simp] theorem plan70_5 : G.plan 70 5 = some [.n 0, .n 1, .n 2, .n 3, .n 4, .n 5, .n 6, .n 7, .n 8, .n 9, .n 10, .n 11, .n 12, .e 13 [], .n 14, .n 15] := by kernel_rfl
@[simp] theorem plan70_8 : G.plan 70 8 = some [.n 0, .n 1, .n 2, .n 3, .n 4, .n 5, .n 6, .n 7, .n 8, .n 9, .n 10, .n 11, .n 12, .e 13 [3, 2], .n 14, .e 15 []] := by kernel_rfl
@[simp] theorem E71 : G.E 71 = true := by kernel_rfl
@[simp] theorem ext71 : G.ext 71 = none := by kernel_rfl
@[simp] theorem dfr71 : G.dfr 71 = false := by kernel_rfl
@[simp] theorem own71 : G.retOwn 71 = false := by kernel_rfl
@[simp] theorem keep71_3 : G.keep 71 3 = some ⟨[(0, none), (1, none), (4, none), (12, none), (13, none)], []⟩ := by kernel_rfl
@[simp] theorem keep71_5 : G.keep 71 5 = some ⟨[(0, none), (1, none), (4, none), (12, none), (13, none)], []⟩ := by kernel_rfl
@[simp] theorem keep71_13 : G.keep 71 13 = some ⟨[(0, some (2, 59)), (1, none), (4, none), (12, none), (13, none)], []⟩ := by kernel_rfl
@[simp] theorem keep71_15 : G.keep 71 15 = some ⟨[(0, none), (1, none), (4, none), (12, none), (13, none)], []⟩ := by kernel_rfl
@[simp] theorem live71_0 : G.live 71 0 = some ⟨[0, 1, 2, 3, 4], []⟩ := by kernel_rfl
@[simp] theorem live71_1 : G.live 71 1 = some ⟨[0, 1, 2, 4], []⟩ := by kernel_rfl
@[simp] theorem live71_2 : G.live 71 2 = some ⟨[0, 1, 4, 12, 13], []⟩ := by kernel_rfl
@[simp] theorem live71_3 : G.live 71 3 = some ⟨[0, 1, 4, 12, 13, 47], []⟩ := by kernel_rfl
@[simp] theorem live71_4 : G.live 71 4 = some ⟨[0, 1, 4, 12, 13], []⟩ := by kernel_rfl
@[simp] theorem live71_5 : G.live 71 5 = some ⟨[0, 1, 4, 12, 13, 66], []⟩ := by kernel_rfl
@[simp] theorem live71_6 : G.live 71 6 = some ⟨[0, 1, 4, 12, 13], []⟩ := by kernel_rfl
@[simp] theorem live71_7 : G.live 71 7 = some ⟨[0, 1, 4, 12, 13, 71], []⟩ := by kernel_rfl
@[simp] theorem live71_8 : G.live 71 8 = some ⟨[13], []⟩ := by kernel_rfl
@[simp] theorem live71_9 : G.live 71 9 = some ⟨[10, 11], []⟩ := by kernel_rfl
@[simp] theorem live71_10 : G.live 71 10 = some ⟨[0, 1, 4, 12, 13], []⟩ := by kernel_rfl
@[simp] theorem live71_11 : G.live 71 11 = some ⟨[0, 1, 4, 12, 13], []⟩ := by kernel_rfl
@[simp] theorem live71_12 : G.live 71 12 = some ⟨[0, 1, 4, 12, 13], []⟩ := by kernel_rfl
@[simp] theorem live71_13 : G.live 71 13 = some ⟨[0, 1, 4, 12, 13, 120], []⟩ := by kernel_rfl
@[simp] theorem live71_14 : G.live 71 14 = some ⟨[0, 1, 4, 12, 13], []⟩ := by kernel_rfl
@[simp] theorem live71_15 : G.live 71 15 = some ⟨[0, 1, 4, 12, 13, 139], []⟩ := by kernel_rfl
@[simp] theorem live71_16 : G.live 71 16 = some ⟨[0, 1, 4, 12, 13], []⟩ := by kernel_rfl
@[simp] theorem live71_17 : G.live 71 17 = some ⟨[0, 1, 4, 12, 13, 144], []⟩ := by kernel_rfl
@[simp] theorem live71_18 : G.live 71 18 = some ⟨[0, 1, 4, 12, 13], []⟩ := by kernel_rfl
@[simp] theorem live71_19 : G.live 71 19 = some ⟨[0, 1, 4, 12, 13], []⟩ := by kernel_rfl
@[simp] theorem live71_20 : G.live 71 20 = some ⟨[0, 1, 4, 12, 13], []⟩ := by kernel_rfl
@[simp] theorem live71_21 : G.live 71 21 = some ⟨[13], []⟩ := by kernel_rfl
@[simp] theorem live71_22 : G.live 71 22 = some ⟨[10, 11], []⟩ := by kernel_rfl
@[simp] theorem plan71_1 : G.plan 71 1 = some [.n 0, .n 1, .n 2, .n 3, .n 4, .n 5, .n 6, .n 7, .n 8, .n 9, .n 10, .n 11, .n 12, .e 13 [3, 2], .n 14, .e 15 []] := by kernel_rfl
@[simp] theorem plan71_3 : G.plan 71 3 = some [.n 0, .n 1, .n 2, .n 3, .n 4, .n 5, .n 6, .n 7, .n 8, .n 9, .n 10, .n 11, .n 12, .e 13 [], .n 14, .n 15] := by kernel_rfl
@[simp] theorem plan71_5 : G.plan 71 5 = some [.n 0, .n 1, .n 2, .n 3, .n 4, .n 5, .n 6, .n 7, .n 8, .n 9, .n 10, .n 11, .n 12, .e 13 [], .n 14, .n 15, .n 16] := by kernel_rfl
@[simp] theorem plan71_8 : G.plan 71 8 = some [.n 0, .n 1, .n 2, .n 3, .n 4, .n 5, .n 6, .n 7, .n 8, .n 9, .n 10, .n 11, .n 12, .e 13 [3, 2], .n 14, .e 15 []] := by kernel_rfl
@[simp] theorem plan71_10 : G.plan 71 10 = some [.n 0, .n 1, .n 2, .n 3, .n 4, .n 5, .n 6, .n 7, .n 8, .n 9, .n 10, .n 11, .n 12, .e 13 [3, 2], .n 14, .e 15 []] := by kernel_rfl
@[simp] theorem plan71_13 : G.plan 71 13 = some [.n 0, .n 1, .n 2, .n 3, .n 4, .n 5, .n 6, .n 7, .n 8, .n 9, .n 10, .n 11, .n 12, .e 13 [], .n 14, .n 15] := by kernel_rfl
@[simp] theorem plan71_15 : G.plan 71 15 = some [.n 0, .n 1, .n 2, .n 3, .n 4, .n 5, .n 6, .n 7, .n 8, .n 9, .n 10, .n 11, .n 12, .e 13 [], .n 14, .n 15, .n 16] := by kernel_rfl
@[simp] theorem plan71_18 : G.plan 71 18 = some [.n 0, .n 1, .n 2, .n 3, .n 4, .n 5, .n 6, .n 7, .n 8, .n 9, .n 10, .n 11, .n 12, .e 13 [3, 2], .n 14, .e 15 []] := by kernel_rfl
@[simp] theorem plan71_21 : G.plan 71 21 = some [.n 0, .n 1, .n 2, .n 3, .n 4, .n 5, .n 6, .n 7, .n 8, .n 9, .n 10, .n 11, .n 12, .e 13 [3, 2], .n 14, .e 15 []] := by kernel_rfl
@[simp] theorem E72 : G.E 72 = true := by kernel_rfl
@[simp] theorem ext72 : G.ext 72 = none := by kernel_rfl
@[simp] theorem dfr72 : G.dfr 72 = false := by kernel_rfl
@[simp] theorem own72 : G.retOwn 72 = false := by kernel_rfl
@[simp] theorem live72_0 : G.live 72 0 = some ⟨[0, 2], []⟩ := by kernel_rfl
@[simp] theorem live72_1 : G.live 72 1 = some ⟨[0, 2, 4], []⟩ := by kernel_rfl
@[simp] theorem live72_2 : G.live 72 2 = some ⟨[0], []⟩ := by kernel_rfl
@[simp] theorem live72_3 : G.live 72 3 = some ⟨[0, 2], []⟩ := by kernel_rfl
@[simp] theorem live72_4 : G.live 72 4 = some ⟨[0, 2, 8], []⟩ := by kernel_rfl
@[simp] theorem live72_5 : G.live 72 5 = some ⟨[0, 2], []⟩ := by kernel_rfl
@[simp] theorem live72_6 : G.live 72 6 = some ⟨[0, 2], []⟩ := by kernel_rfl
@[simp] theorem live72_7 : G.live 72 7 = some ⟨[2], []⟩ := by kernel_rfl
@[simp] theorem E73 : G.E 73 = true := by kernel_rfl
@[simp] theorem ext73 : G.ext 73 = none := by kernel_rfl
@[simp] theorem dfr73 : G.dfr 73 = false := by kernel_rfl
@[simp] theorem own73 : G.retOwn 73 = false := by kernel_rfl
@[simp] theorem live73_0 : G.live 73 0 = some ⟨[0, 2], []⟩ := by kernel_rfl
@[simp] theorem live73_1 : G.live 73 1 = some ⟨[0, 2, 4], []⟩ := by kernel_rfl
@[simp] theorem live73_2 : G.live 73 2 = some ⟨[0], []⟩ := by kernel_rfl
@[simp] theorem live73_3 : G.live 73 3 = some ⟨[0, 2], []⟩ := by kernel_rfl
@[simp] theorem live73_4 : G.live 73 4 = some ⟨[0, 2, 8], []⟩ := by kernel_rfl
@[simp] theorem live73_5 : G.live 73 5 = some ⟨[0, 2], []⟩ := by kernel_rfl
@[simp] theorem live73_6 : G.live 73 6 = some ⟨[0, 2], []⟩ := by kernel_rfl
@[simp] theorem live73_7 : G.live 73 7 = some ⟨[0, 2, 14], []⟩ := by kernel_rfl
@[simp] theorem live73_8 : G.live 73 8 = some ⟨[0, 2], []⟩ := by kernel_rfl
@[simp] theorem live73_9 : G.live 73 9 = some ⟨[0, 2], []⟩ := by kernel_rfl
@[simp] theorem live73_10 : G.live 73 10 = some ⟨[2], []⟩ := by kernel_rfl
@[simp] theorem E74 : G.E 74 = true := by kernel_rfl
@[simp] theorem ext74 : G.ext 74 = none := by kernel_rfl
@[simp] theorem dfr74 : G.dfr 74 = false := by kernel_rfl
@[simp] theorem own74 : G.retOwn 74 = false := by kernel_rfl
@[simp] theorem live74_0 : G.live 74 0 = some ⟨[0], []⟩ := by kernel_rfl
@[simp] theorem live74_1 : G.live 74 1 = some ⟨[2], []⟩ := by kernel_rfl
@[simp] theorem E75 : G.E 75 = true := by kernel_rfl
@[simp] theorem ext75 : G.ext 75 = none := by kernel_rfl
@[simp] theorem dfr75 : G.dfr 75 = false := by kernel_rfl
@[simp] theorem own75 : G.retOwn 75 = false := by kernel_rfl
@[simp] theorem keep75_1 : G.keep 75 1 = some ⟨[(0, some (1, 3)), (1, none), (2, none), (3, none), (8, none)], []⟩ := by kernel_rfl
@[simp] theorem keep75_4 : G.keep 75 4 = some ⟨[(0, some (1, 3)), (1, none), (2, none), (3, none), (8, none), (9, none)], []⟩ := by kernel_rfl
@[simp] theorem live75_0 : G.live 75 0 = some ⟨[0, 1, 2, 3, 8], []⟩ := by kernel_rfl
@[simp] theorem live75_1 : G.live 75 1 = some ⟨[0, 1, 2, 3, 8, 14], []⟩ := by kernel_rfl
@[simp] theorem live75_3 : G.live 75 3 = some ⟨[0, 1, 2, 3, 8, 9], []⟩ := by kernel_rfl
@[simp] theorem live75_4 : G.live 75 4 = some ⟨[0, 1, 2, 3, 8, 9, 34], []⟩ := by kernel_rfl
@[simp] theorem live75_6 : G.live 75 6 = some ⟨[0, 1, 2, 3, 8, 9], []⟩ := by kernel_rfl
@[simp] theorem live75_5 : G.live 75 5 = some ⟨[0, 1, 2, 3, 8, 9], []⟩ := by kernel_rfl
@[simp] theorem live75_2 : G.live 75 2 = some ⟨[0, 1, 2, 3, 8], []⟩ := by kernel_rfl
@[simp] theorem plan75_4 : G.plan 75 4 = some [.n 0, .n 1, .n 2, .n 3, .n 4, .n 5, .n 6, .n 7, .n 8, .n 9, .n 10, .n 11, .n 12, .n 13, .e 14 [10], .n 15, .n 16] := by kernel_rfl
@[simp] theorem plan75_6 : G.plan 75 6 = some [.n 0, .n 1, .n 2, .n 3, .n 4, .n 5, .n 6, .n 7, .n 8, .n 9, .n 10, .n 11, .n 12, .n 13, .n 14, .e 15 [4, 3, 2], .n 16, .e 17 []] := by kernel_rfl
@[simp] theorem E76 : G.E 76 = true := by kernel_rfl
@[simp] theorem ext76 : G.ext 76 = none := by kernel_rfl
@[simp] theorem dfr76 : G.dfr 76 = false := by kernel_rfl
@[simp] theorem own76 : G.retOwn 76 = false := by kernel_rfl
@[simp] theorem keep76_4 : G.keep 76 4 = some ⟨[(0, some (1, 3)), (3, none), (8, none), (9, none), (10, none), (11, none)], []⟩ := by kernel_rfl
@[simp] theorem keep76_8 : G.keep 76 8 = some ⟨[(0, some (1, 3)), (3, none), (8, none), (9, none), (12, none)], []⟩ := by kernel_rfl
@[simp] theorem live76_0 : G.live 76 0 = some ⟨[0, 1, 2, 3, 8], []⟩ := by kernel_rfl
@[simp] theorem live76_1 : G.live 76 1 = some ⟨[0, 1, 2, 3, 8, 9], []⟩ := by kernel_rfl
@[simp] theorem live76_2 : G.live 76 2 = some ⟨[0, 3, 8, 9, 10], []⟩ := by kernel_rfl
@[simp] theorem live76_3 : G.live 76 3 = some ⟨[0, 3, 8, 9, 10, 11], []⟩ := by kernel_rfl
@[simp] theorem live76_4 : G.live 76 4 = some ⟨[0, 3, 8, 9, 10, 11, 21], []⟩ := by kernel_rfl
@[simp] theorem live76_6 : G.live 76 6 = some ⟨[0, 3, 8, 9, 10, 11], []⟩ := by kernel_rfl
@[simp] theorem live76_5 : G.live 76 5 = some ⟨[0, 3, 8, 9, 10, 11], []⟩ := by kernel_rfl
@[simp] theorem live76_7 : G.live 76 7 = some ⟨[0, 3, 8, 9, 12], []⟩ := by kernel_rfl
@[simp] theorem live76_8 : G.live 76 8 = some ⟨[0, 3, 8, 9, 12, 33], []⟩ := by kernel_rfl
@[simp] theorem live76_10 : G.live 76 10 = some ⟨[0, 3, 8, 9, 12], []⟩ := by kernel_rfl
@[simp] theorem live76_11 : G.live 76 11 = some ⟨[0, 3, 8, 9, 12], []⟩ := by kernel_rfl
@[simp] theorem live76_9 : G.live 76 9 = some ⟨[0, 3, 8, 9, 12], []⟩ := by kernel_rfl
@[simp] theorem plan76_10 : G.plan 76 10 = some [.n 0, .n 1, .n 2, .n 3, .n 4, .n 5, .n 6, .n 7, .n 8, .n 9, .n 10, .n 11, .n 12, .n 13, .n 14, .n 15, .n 16, .e 17 [5, 4, 3, 2], .n 18, .e 19 []] := by kernel_rfl
@[simp] theorem E77 : G.E 77 = true := by kernel_rfl
@[simp] theorem ext77 : G.ext 77 = none := by kernel_rfl
@[simp] theorem dfr77 : G.dfr 77 = false := by kernel_rfl
@[simp] theorem own77 : G.retOwn 77 = false := by kernel_rfl
@[simp] theorem keep77_5 : G.keep 77 5 = some ⟨[(0, some (1, 3)), (1, none), (8, none), (9, none), (10, none), (11, none)], [(1009, [])]⟩ := by kernel_rfl
@[simp] theorem live77_0 : G.live 77 0 = some ⟨[0, 1, 8], []⟩ := by kernel_rfl
@[simp] theorem live77_1 : G.live 77 1 = some ⟨[0, 1, 8, 17], []⟩ := by kernel_rfl
@[simp] theorem live77_2 : G.live 77 2 = some ⟨[0, 1, 8, 9], []⟩ := by kernel_rfl
@[simp] theorem live77_3 : G.live 77 3 = some ⟨[0, 1, 8, 9, 10], []⟩ := by kernel_rfl
@[simp] theorem live77_4 : G.live 77 4 = some ⟨[0, 1, 8, 9, 10, 11], []⟩ := by kernel_rfl
@[simp] theorem live77_5 : G.live 77 5 = some ⟨[0, 1, 8, 9, 10, 11, 35], []⟩ := by kernel_rfl
@[simp] theorem live77_7 : G.live 77 7 = some ⟨[0, 1, 8, 9, 10, 11, 12], []⟩ := by kernel_rfl
@[simp] theorem live77_8 : G.live 77 8 = some ⟨[0, 1, 8, 9, 10, 11, 12, 45], []⟩ := by kernel_rfl
@[simp] theorem live77_9 : G.live 77 9 = some ⟨[0, 1, 8, 9, 10, 11, 12], []⟩ := by kernel_rfl
@[simp] theorem live77_10 : G.live 77 10 = some ⟨[0, 1, 8, 9, 10, 11], []⟩ := by kernel_rfl
@[simp] theorem live77_6 : G.live 77 6 = some ⟨[0, 1, 8, 9, 10, 11], []⟩ := by kernel_rfl
@[simp] theorem plan77_10 : G.plan 77 10 = some [.n 0, .n 1, .n 2, .n 3, .n 4, .n 5, .n 6, .n 7, .n 8, .n 9, .n 10, .n 11, .n 12, .n 13, .n 14, .n 15, .n 16, .e 17 [5, 4, 3, 2], .n 18, .e 19 []] := by kernel_rfl
@[simp] theorem E78 : G.E 78 = true := by kernel_rfl
@[simp] theorem ext78 : G.ext 78 = none := by kernel_rfl
@[simp] theorem dfr78 : G.dfr 78 = false := by kernel_rfl
@[simp] theorem own78 : G.retOwn 78 = false := by kernel_rfl
@[simp] theorem live78_0 : G.live 78 0 = some ⟨[0, 1, 2, 3], []⟩ := by kernel_rfl
@[simp] theorem live78_1 : G.live 78 1 = some ⟨[0, 1, 3, 10], []⟩ := by kernel_rfl
@[simp] theorem live78_2 : G.live 78 2 = some ⟨[0, 1, 3, 10, 11], []⟩ := by kernel_rfl
@[simp] theorem live78_3 : G.live 78 3 = some ⟨[0, 1, 3, 10, 11, 12], []⟩ := by kernel_rfl
@[simp] theorem live78_4 : G.live 78 4 = some ⟨[0, 1, 3, 10, 11, 12, 13], []⟩ := by kernel_rfl
@[simp] theorem live78_5 : G.live 78 5 = some ⟨[0, 3, 10, 11, 12, 13, 14], []⟩ := by kernel_rfl
@[simp] theorem live78_6 : G.live 78 6 = some ⟨[0, 3, 10, 11, 12, 13, 14, 34], []⟩ := by kernel_rfl
@[simp] theorem live78_7 : G.live 78 7 = some ⟨[0, 3, 11, 12, 13, 14, 36], []⟩ := by kernel_rfl
@[simp] theorem live78_8 : G.live 78 8 = some ⟨[0, 3, 11, 12, 13, 14], []⟩ := by kernel_rfl
@[simp] theorem live78_9 : G.live 78 9 = some ⟨[0, 3, 11, 12, 13, 14], []⟩ := by kernel_rfl
@[simp] theorem live78_10 : G.live 78 10 = some ⟨[0, 3, 11, 12, 13, 14], []⟩ := by kernel_rfl
@[simp] theorem live78_11 : G.live 78 11 = some ⟨[11, 13], []⟩ := by kernel_rfl
@[simp] theorem live78_12 : G.live 78 12 = some ⟨[13, 55], []⟩ := by kernel_rfl
@[simp] theorem live78_14 : G.live 78 14 = some ⟨[13, 55, 57], []⟩ := by kernel_rfl
@[simp] theorem live78_15 : G.live 78 15 = some ⟨[8, 9], []⟩ := by kernel_rfl
@[simp] theorem live78_16 : G.live 78 16 = some ⟨[13, 60], []⟩ := by kernel_rfl
@[simp] theorem live78_17 : G.live 78 17 = some ⟨[8, 9], []⟩ := by kernel_rfl
@[simp] theorem live78_13 : G.live 78 13 = some ⟨[8, 9], []⟩ := by kernel_rfl
@[simp] theorem E79 : G.E 79 = true := by kernel_rfl
@[simp] theorem ext79 : G.ext 79 = none := by kernel_rfl
@[simp] theorem dfr79 : G.dfr 79 = false := by kernel_rfl
@[simp] theorem own79 : G.retOwn 79 = false := by kernel_rfl
@[simp] theorem keep79_2 : G.keep 79 2 = some ⟨[(0, some (1, 3)), (8, none), (9, none)], []⟩ := by kernel_rfl
@[simp] theorem live79_0 : G.live 79 0 = some ⟨[0, 2, 8], []⟩ := by kernel_rfl
@[simp] theorem live79_1 : G.live 79 1 = some ⟨[0, 8, 9], []⟩ := by kernel_rfl
@[simp] theorem live79_2 : G.live 79 2 = some ⟨[0, 8, 9, 15], []⟩ := by kernel_rfl
@[simp] theorem live79_3 : G.live 79 3 = some ⟨[0, 8, 9], []⟩ := by kernel_rfl
@[simp] theorem live79_4 : G.live 79 4 = some ⟨[0, 8, 9], []⟩ := by kernel_rfl
@[simp] theorem live79_5 : G.live 79 5 = some ⟨[0, 8, 9], []⟩ := by kernel_rfl
@[simp] theorem plan79_3 : G.plan 79 3 = some [.n 0, .n 1, .n 2, .n 3, .n 4, .n 5, .n 6, .n 7, .n 8, .n 9, .n 10, .n 11, .n 12, .e 13 [3, 2], .n 14, .e 15 []] := by kernel_rfl
@[simp] theorem E80 : G.E 80 = true := by kernel_rfl
@[simp] theorem ext80 : G.ext 80 = none := by kernel_rfl
@[simp] theorem dfr80 : G.dfr 80 = false := by kernel_rfl
@[simp] theorem own80 : G.retOwn 80 = false := by kernel_rfl
@[simp] theorem keep80_3 : G.keep 80 3 = some ⟨[(0, some (1, 3)), (1, none), (2, none), (3, none), (9, none), (10, none)], []⟩ := by kernel_rfl
@[simp] theorem keep80_5 : G.keep 80 5 = some ⟨[(0, none), (1, none), (2, none), (3, none), (9, none), (10, none)], []⟩ := by kernel_rfl
@[simp] theorem keep80_14 : G.keep 80 14 = some ⟨[(0, some (1, 3)), (1, none), (2, none), (3, none), (9, none), (10, none), (11, none)], []⟩ := by kernel_rfl
@[simp] theorem keep80_20 : G.keep 80 20 = some ⟨[(0, some (1, 3)), (1, none), (2, none), (3, none), (9, none), (10, none), (12, none)], []⟩ := by kernel_rfl
@[simp] theorem live80_0 : G.live 80 0 = some ⟨[0, 1, 2, 3], []⟩ := by kernel_rfl
@[simp] theorem live80_1 : G.live 80 1 = some ⟨[0, 1, 2, 3, 9], []⟩ := by kernel_rfl
@[simp] theorem live80_2 : G.live 80 2 = some ⟨[0, 1, 2, 3, 9, 10], []⟩ := by kernel_rfl
@[simp] theorem live80_3 : G.live 80 3 = some ⟨[0, 1, 2, 3, 9, 10, 16], []⟩ := by kernel_rfl
@[simp] theorem live80_5 : G.live 80 5 = some ⟨[0, 1, 2, 3, 9, 10, 36], []⟩ := by kernel_rfl
@[simp] theorem live80_6 : G.live 80 6 = some ⟨[0, 1, 2, 3, 9, 10], []⟩ := by kernel_rfl
@[simp] theorem live80_7 : G.live 80 7 = some ⟨[0, 1, 2, 3, 9, 10, 41], []⟩ := by kernel_rfl
@[simp] theorem live80_8 : G.live 80 8 = some ⟨[8], []⟩ := by kernel_rfl
@[simp] theorem live80_9 : G.live 80 9 = some ⟨[0, 1, 2, 3, 9, 10, 45], []⟩ := by kernel_rfl
@[simp] theorem live80_10 : G.live 80 10 = some ⟨[8], []⟩ := by kernel_rfl
@[simp] theorem live80_11 : G.live 80 11 = some ⟨[0, 1, 2, 3, 9, 10], []⟩ := by kernel_rfl
@[simp] theorem live80_12 : G.live 80 12 = some ⟨[0, 1, 2, 3, 9, 10, 65], []⟩ := by kernel_rfl
@[simp] theorem live80_13 : G.live 80 13 = some ⟨[0, 1, 2, 3, 9, 10, 11], []⟩ := by kernel_rfl
@[simp] theorem live80_14 : G.live 80 14 = some ⟨[0, 1, 2, 3, 9, 10, 11, 69], []⟩ := by kernel_rfl
@[simp] theorem live80_16 : G.live 80 16 = some ⟨[0, 1, 2, 3, 9, 10, 11, 84], []⟩ := by kernel_rfl
@[simp] theorem live80_17 : G.live 80 17 = some ⟨[0, 1, 2, 3, 9, 10, 11], []⟩ := by kernel_rfl
@[simp] theorem live80_15 : G.live 80 15 = some ⟨[0, 1, 2, 3, 9, 10, 11], []⟩ := by kernel_rfl
@[simp] theorem live80_18 : G.live 80 18 = some ⟨[0, 1, 2, 3, 9, 10, 104], []⟩ := by kernel_rfl
@[simp] theorem live80_19 : G.live 80 19 = some ⟨[0, 1, 2, 3, 9, 10, 12], []⟩ := by kernel_rfl
@[simp] theorem live80_20 : G.live 80 20 = some ⟨[0, 1, 2, 3, 9, 10, 12, 109], []⟩ := by kernel_rfl
@[simp] theorem live80_22 : G.live 80 22 = some ⟨[0, 1, 2, 3, 9, 10, 12, 124], []⟩ := by kernel_rfl
@[simp] theorem live80_23 : G.live 80 23 = some ⟨[0, 1, 2, 3, 9, 10, 12], []⟩ := by kernel_rfl
@[simp] theorem live80_21 : G.live 80 21 = some ⟨[0, 1, 2, 3, 9, 10, 12], []⟩ := by kernel_rfl
@[simp] theorem live80_4 : G.live 80 4 = some ⟨[0, 1, 2, 3, 9, 10], []⟩ := by kernel_rfl
@[simp] theorem live80_24 : G.live 80 24 = some ⟨[8], []⟩ := by kernel_rfl
@[simp] theorem plan80_5 : G.plan 80 5 = some [.n 0, .n 1, .n 2, .n 3, .n 4, .n 5, .n 6, .n 7, .n 8, .n 9, .n 10, .n 11, .n 12, .n 13, .e 14 [10], .n 15, .n 16, .n 17] := by kernel_rfl
@[simp] theorem plan80_11 : G.plan 80 11 = some [.n 0, .n 1, .n 2, .n 3, .n 4, .n 5, .n 6, .n 7, .n 8, .n 9, .n 10, .n 11, .n 12, .n 13, .n 14, .e 15 [4, 3, 2], .n 16, .e 17 []] := by kernel_rfl
@[simp] theorem plan80_16 : G.plan 80 16 = some [.n 0, .n 1, .n 2, .n 3, .n 4, .n 5, .n 6, .n 7, .n 8, .n 9, .e 10 [6], .n 11, .n 12] := by kernel_rfl
@[simp] theorem plan80_17 : G.plan 80 17 = some [.n 0, .n 1, .n 2, .n 3, .n 4, .n 5, .n 6, .n 7, .n 8, .n 9, .n 10, .n 11, .n 12, .n 13, .n 14, .e 15 [4, 3, 2], .n 16, .e 17 []] := by kernel_rfl
@[simp] theorem plan80_22 : G.plan 80 22 = some [.n 0, .n 1, .n 2, .n 3, .n 4, .n 5, .n 6, .n 7, .n 8, .n 9, .e 10 [6], .n 11, .n 12] := by kernel_rfl
@[simp] theorem plan80_23 : G.plan 80 23 = some [.n 0, .n 1, .n 2, .n 3, .n 4, .n 5, .n 6, .n 7, .n 8, .n 9, .n 10, .n 11, .n 12, .n 13, .n 14, .e 15 [4, 3, 2], .n 16, .e 17 []] := by kernel_rfl
@[simp] theorem E81 : G.E 81 = true := by kernel_rfl
@[simp] theorem ext81 : G.ext 81 = none := by kernel_rfl
@[simp] theorem dfr81 : G.dfr 81 = false := by kernel_rfl
@[simp] theorem own81 : G.retOwn 81 = false := by kernel_rfl
@[simp] theorem keep81_3 : G.keep 81 3 = some ⟨[(0, some (1, 3)), (1, none), (4, none), (11, none), (12, none)], []⟩ := by kernel_rfl
@[simp] theorem keep81_5 : G.keep 81 5 = some ⟨[(0, none), (1, none), (4, none), (11, none), (12, none)], []⟩ := by kernel_rfl
@[simp] theorem live81_0 : G.live 81 0 = some ⟨[0, 1, 2, 3, 4], []⟩ := by kernel_rfl
@[simp] theorem live81_1 : G.live 81 1 = some ⟨[0, 1, 2, 4], []⟩ := by kernel_rfl
@[simp] theorem live81_2 : G.live 81 2 = some ⟨[0, 1, 4, 11, 12], []⟩ := by kernel_rfl
@[simp] theorem live81_3 : G.live 81 3 = some ⟨[0, 1, 4, 11, 12, 47], []⟩ := by kernel_rfl
@[simp] theorem live81_4 : G.live 81 4 = some ⟨[0, 1, 4, 11, 12], []⟩ := by kernel_rfl
@[simp] theorem live81_5 : G.live 81 5 = some ⟨[0, 1, 4, 11, 12, 65], []⟩ := by kernel_rfl
@[simp] theorem live81_6 : G.live 81 6 = some ⟨[0, 1, 4, 11, 12], []⟩ := by kernel_rfl
@[simp] theorem live81_7 : G.live 81 7 = some ⟨[0, 1, 4, 11, 12, 70], []⟩ := by kernel_rfl
@[simp] theorem live81_8 : G.live 81 8 = some ⟨[0, 1, 4, 11, 12], []⟩ := by kernel_rfl
@[simp] theorem live81_9 : G.live 81 9 = some ⟨[0, 1, 4, 11, 12], []⟩ := by kernel_rfl
@[simp] theorem live81_10 : G.live 81 10 = some ⟨[0, 1, 4, 11, 12], []⟩ := by kernel_rfl
@[simp] theorem live81_11 : G.live 81 11 = some ⟨[10], []⟩ := by kernel_rfl
@[simp] theorem plan81_1 : G.plan 81 1 = some [.n 0, .n 1, .n 2, .n 3, .n 4, .n 5, .n 6, .n 7, .n 8, .n 9, .n 10, .n 11, .n 12, .e 13 [3, 2], .n 14, .e 15 []] := by kernel_rfl
@[simp] theorem plan81_3 : G.plan 81 3 = some [.n 0, .n 1, .n 2, .n 3, .n 4, .n 5, .n 6, .n 7, .n 8, .n 9, .n 10, .n 11, .n 12, .e 13 [], .n 14, .n 15, .n 16] := by kernel_rfl
@[simp] theorem plan81_5 : G.plan 81 5 = some [.n 0, .n 1, .n 2, .n 3, .n 4, .n 5, .n 6, .n 7, .n 8, .n 9, .n 10, .n 11, .n 12, .e 13 [], .n 14, .n 15] := by kernel_rfl
@[simp] theorem plan81_8 : G.plan 81 8 = some [.n 0, .n 1, .n 2, .n 3, .n 4, .n 5, .n 6, .n 7, .n 8, .n 9, .n 10, .n 11, .n 12, .e 13 [3, 2], .n 14, .e 15 []] := by kernel_rfl
@[simp] theorem E82 : G.E 82 = true := by kernel_rfl
@[simp] theorem ext82 : G.ext 82 = none := by kernel_rfl
@[simp] theorem dfr82 : G.dfr 82 = false := by kernel_rfl
@[simp] theorem own82 : G.retOwn 82 = false := by kernel_rfl
@[simp] theorem keep82_3 : G.keep 82 3 = some ⟨[(0, none), (1, none), (4, none), (12, none), (13, none)], []⟩ := by kernel_rfl
@[simp] theorem keep82_5 : G.keep 82 5 = some ⟨[(0, none), (1, none), (4, none), (12, none), (13, none)], []⟩ := by kernel_rfl
@[simp] theorem keep82_13 : G.keep 82 13 = some ⟨[(0, some (1, 3)), (1, none), (4, none), (12, none), (13, none)], []⟩ := by kernel_rfl
@[simp] theorem keep82_15 : G.keep 82 15 = some ⟨[(0, none), (1, none), (4, none), (12, none), (13, none)], []⟩ := by kernel_rfl
@[simp] theorem live82_0 : G.live 82 0 = some ⟨[0, 1, 2, 3, 4], []⟩ := by kernel_rfl
@[simp] theorem live82_1 : G.live 82 1 = some ⟨[0, 1, 2, 4], []⟩ := by kernel_rfl
@[simp] theorem live82_2 : G.live 82 2 = some ⟨[0, 1, 4, 12, 13], []⟩ := by kernel_rfl
@[simp] theorem live82_3 : G.live 82 3 = some ⟨[0, 1, 4, 12, 13, 47], []⟩ := by kernel_rfl
@[simp] theorem live82_4 : G.live 82 4 = some ⟨[0, 1, 4, 12, 13], []⟩ := by kernel_rfl
@[simp] theorem live82_5 : G.live 82 5 = some ⟨[0, 1, 4, 12, 13, 66], []⟩ := by kernel_rfl
@[simp] theorem live82_6 : G.live 82 6 = some ⟨[0, 1, 4, 12, 13], []⟩ := by kernel_rfl
@[simp] theorem live82_7 : G.live 82 7 = some ⟨[0, 1, 4, 12, 13, 71], []⟩ := by kernel_rfl
@[simp] theorem live82_8 : G.live 82 8 = some ⟨[13], []⟩ := by kernel_rfl
@[simp] theorem live82_9 : G.live 82 9 = some ⟨[10, 11], []⟩ := by kernel_rfl
@[simp] theorem live82_10 : G.live 82 10 = some ⟨[0, 1, 4, 12, 13], []⟩ := by kernel_rfl
@[simp] theorem live82_11 : G.live 82 11 = some ⟨[0, 1, 4, 12, 13], []⟩ := by kernel_rfl
@[simp] theorem live82_12 : G.live 82 12 = some ⟨[0, 1, 4, 12, 13], []⟩ := by kernel_rfl
@[simp] theorem live82_13 : G.live 82 13 = some ⟨[0, 1, 4, 12, 13, 120], []⟩ := by kernel_rfl
@[simp] theorem live82_14 : G.live 82 14 = some ⟨[0, 1, 4, 12, 13], []⟩ := by kernel_rfl
@[simp] theorem live82_15 : G.live 82 15 = some ⟨[0, 1, 4, 12, 13, 139], []⟩ := by kernel_rfl
@[simp] theorem live82_16 : G.live 82 16 = some ⟨[0, 1, 4, 12, 13], []⟩ := by kernel_rfl
@[simp] theorem live82_17 : G.live 82 17 = some ⟨[0, 1, 4, 12, 13, 144], []⟩ := by kernel_rfl
@[simp] theorem live82_18 : G.live 82 18 = some ⟨[0, 1, 4, 12, 13], []⟩ := by kernel_rfl
@[simp] theorem live82_19 : G.live 82 19 = some ⟨[0, 1, 4, 12, 13], []⟩ := by kernel_rfl
@[simp] theorem live82_20 : G.live 82 20 = some ⟨[0, 1, 4, 12, 13], []⟩ := by kernel_rfl
@[simp] theorem live82_21 : G.live 82 21 = some ⟨[13], []⟩ := by kernel_rfl
@[simp] theorem live82_22 : G.live 82 22 = some ⟨[10, 11], []⟩ := by kernel_rfl
@[simp] theorem plan82_1 : G.plan 82 1 = some [.n 0, .n 1, .n 2, .n 3, .n 4, .n 5, .n 6, .n 7, .n 8, .n 9, .n 10, .n 11, .n 12, .e 13 [3, 2], .n 14, .e 15 []] := by kernel_rfl
@[simp] theorem plan82_3 : G.plan 82 3 = some [.n 0, .n 1, .n 2, .n 3, .n 4, .n 5, .n 6, .n 7, .n 8, .n 9, .n 10, .n 11, .n 12, .e 13 [], .n 14, .n 15] := by kernel_rfl
@[simp] theorem plan82_5 : G.plan 82 5 = some [.n 0, .n 1, .n 2, .n 3, .n 4, .n 5, .n 6, .n 7, .n 8, .n 9, .n 10, .n 11, .n 12, .e 13 [], .n 14, .n 15, .n 16] := by kernel_rfl
@[simp] theorem plan82_8 : G.plan 82 8 = some [.n 0, .n 1, .n 2, .n 3, .n 4, .n 5, .n 6, .n 7, .n 8, .n 9, .n 10, .n 11, .n 12, .e 13 [3, 2], .n 14, .e 15 []] := by kernel_rfl
@[simp] theorem plan82_10 : G.plan 82 10 = some [.n 0, .n 1, .n 2, .n 3, .n 4, .n 5, .n 6, .n 7, .n 8, .n 9, .n 10, .n 11, .n 12, .e 13 [3, 2], .n 14, .e 15 []] := by kernel_rfl
@[simp] theorem plan82_13 : G.plan 82 13 = some [.n 0, .n 1, .n 2, .n 3, .n 4, .n 5, .n 6, .n 7, .n 8, .n 9, .n 10, .n 11, .n 12, .e 13 [], .n 14, .n 15] := by kernel_rfl
@[simp] theorem plan82_15 : G.plan 82 15 = some [.n 0, .n 1, .n 2, .n 3, .n 4, .n 5, .n 6, .n 7, .n 8, .n 9, .n 10, .n 11, .n 12, .e 13 [], .n 14, .n 15, .n 16] := by kernel_rfl
@[simp] theorem plan82_18 : G.plan 82 18 = some [.n 0, .n 1, .n 2, .n 3, .n 4, .n 5, .n 6, .n 7, .n 8, .n 9, .n 10, .n 11, .n 12, .e 13 [3, 2], .n 14, .e 15 []] := by kernel_rfl
@[simp] theorem plan82_21 : G.plan 82 21 = some [.n 0, .n 1, .n 2, .n 3, .n 4, .n 5, .n 6, .n 7, .n 8, .n 9, .n 10, .n 11, .n 12, .e 13 [3, 2], .n 14, .e 15 []] := by kernel_rfl
@[simp] theorem E84 : G.E 84 = true := by kernel_rfl
@[simp] theorem ext84 : G.ext 84 = none := by kernel_rfl
@[simp] theorem dfr84 : G.dfr 84 = false := by kernel_rfl
@[simp] theorem own84 : G.retOwn 84 = false := by kernel_rfl
@[simp] theorem live84_0 : G.live 84 0 = some ⟨[1, 2], []⟩ := by kernel_rfl
@[simp] theorem live84_1 : G.live 84 1 = some ⟨[2], []⟩ := by kernel_rfl
@[simp] theorem E85 : G.E 85 = true := by kernel_rfl
@[simp] theorem ext85 : G.ext 85 = none := by kernel_rfl
@[simp] theorem dfr85 : G.dfr 85 = false := by kernel_rfl
@[simp] theorem own85 : G.retOwn 85 = false := by kernel_rfl
@[simp] theorem live85_0 : G.live 85 0 = some ⟨[2, 3], []⟩ := by kernel_rfl
@[simp] theorem live85_1 : G.live 85 1 = some ⟨[4], []⟩ := by kernel_rfl
@[simp] theorem E86 : G.E 86 = true := by kernel_rfl
@[simp] theorem ext86 : G.ext 86 = none := by kernel_rfl
@[simp] theorem dfr86 : G.dfr 86 = false := by kernel_rfl
@[simp] theorem own86 : G.retOwn 86 = false := by kernel_rfl
@[simp] theorem live86_0 : G.live 86 0 = some ⟨[0, 1], []⟩ := by kernel_rfl
@[simp] theorem live86_1 : G.live 86 1 = some ⟨[4], []⟩ := by kernel_rfl
@[simp] theorem E87 : G.E 87 = true := by kernel_rfl
@[simp] theorem ext87 : G.ext 87 = none := by kernel_rfl
@[simp] theorem dfr87 : G.dfr 87 = false := by kernel_rfl
@[simp] theorem own87 : G.retOwn 87 = false := by kernel_rfl
@[simp] theorem live87_0 : G.live 87 0 = some ⟨[0], []⟩ := by kernel_rfl
@[simp] theorem live87_1 : G.live 87 1 = some ⟨[0, 4], []⟩ := by kernel_rfl
@[simp] theorem live87_2 : G.live 87 2 = some ⟨[2], []⟩ := by kernel_rfl
@[simp] theorem live87_3 : G.live 87 3 = some ⟨[2], []⟩ := by kernel_rfl
@[simp] theorem E88 : G.E 88 = true := by kernel_rfl
@[simp] theorem ext88 : G.ext 88 = none := by kernel_rfl
@[simp] theorem dfr88 : G.dfr 88 = false := by kernel_rfl
@[simp] theorem own88 : G.retOwn 88 = false := by kernel_rfl
@[simp] theorem keep88_1 : G.keep 88 1 = some ⟨[(0, some (2, 59)), (2, none), (3, none), (4, none), (10, none)], []⟩ := by kernel_rfl
@[simp] theorem live88_0 : G.live 88 0 = some ⟨[0, 2, 3, 4, 10], []⟩ := by kernel_rfl
@[simp] theorem live88_1 : G.live 88 1 = some ⟨[0, 2, 3, 4, 10, 11], []⟩ := by kernel_rfl
@[simp] theorem live88_2 : G.live 88 2 = some ⟨[0, 2, 3, 4, 10, 11, 18], []⟩ := by kernel_rfl
@[simp] theorem live88_3 : G.live 88 3 = some ⟨[0, 2, 3, 4, 10, 11, 40], []⟩ := by kernel_rfl
@[simp] theorem live88_4 : G.live 88 4 = some ⟨[0, 2, 3, 4, 10, 11], []⟩ := by kernel_rfl
@[simp] theorem live88_5 : G.live 88 5 = some ⟨[0, 2, 3, 4, 10, 11, 58], []⟩ := by kernel_rfl
@[simp] theorem live88_6 : G.live 88 6 = some ⟨[0, 2, 3, 4, 11], []⟩ := by kernel_rfl
@[simp] theorem live88_7 : G.live 88 7 = some ⟨[0, 2, 3, 4, 10], []⟩ := by kernel_rfl
@[simp] theorem plan88_3 : G.plan 88 3 = some [.n 0, .n 1, .n 2, .n 3, .n 4, .n 5, .n 6, .n 7, .n 8, .n 9, .n 10, .n 11, .n 12, .n 13, .n 14, .n 15, .n 16, .n 17, .n 18, .e 19 [15, 14, 13, 8, 7, 0], .n 20, .n 21] := by kernel_rfl
@[simp] theorem plan88_5 : G.plan 88 5 = some [.n 0, .n 1, .n 2, .n 3, .n 4, .n 5, .n 6, .n 7, .n 8, .n 9, .n 10, .n 11, .n 12, .e 13 [9, 8, 3, 2], .n 14, .n 15] := by kernel_rfl
@[simp] theorem plan88_6 : G.plan 88 6 = some [.n 0, .n 1, .n 2, .n 3, .n 4, .n 5, .n 6, .n 7, .n 8, .n 9, .n 10, .n 11, .n 12, .n 13, .n 14, .n 15, .n 16, .n 17, .n 18, .n 19, .n 20, .e 21 [16, 15, 7, 6, 5, 4], .n 22, .e 23 []] := by kernel_rfl
@[simp] theorem E89 : G.E 89 = true := by kernel_rfl
@[simp] theorem ext89 : G.ext 89 = none := by kernel_rfl
@[simp] theorem dfr89 : G.dfr 89 = false := by kernel_rfl
@[simp] theorem own89 : G.retOwn 89 = false := by kernel_rfl
@[simp] theorem live89_0 : G.live 89 0 = some ⟨[0], []⟩ := by kernel_rfl
@[simp] theorem live89_1 : G.live 89 1 = some ⟨[2], []⟩ := by kernel_rfl
@[simp] theorem E90 : G.E 90 = true := by kernel_rfl
@[simp] theorem ext90 : G.ext 90 = none := by kernel_rfl
@[simp] theorem dfr90 : G.dfr 90 = false := by kernel_rfl
@[simp] theorem own90 : G.retOwn 90 = false := by kernel_rfl
@[simp] theorem live90_0 : G.live 90 0 = some ⟨[0], []⟩ := by kernel_rfl
@[simp] theorem live90_1 : G.live 90 1 = some ⟨[0], []⟩ := by kernel_rfl
@[simp] theorem live90_2 : G.live 90 2 = some ⟨[0], []⟩ := by kernel_rfl
@[simp] theorem live90_3 : G.live 90 3 = some ⟨[0], []⟩ := by kernel_rfl
@[simp] theorem live90_4 : G.live 90 4 = some ⟨[2], []⟩ := by kernel_rfl
@[simp] theorem plan90_1 : G.plan 90 1 = some [.n 0, .n 1, .n 2, .n 3, .n 4, .n 5, .n 6, .n 7, .n 8, .e 9 []] := by kernel_rfl
@[simp] theorem plan90_2 : G.plan 90 2 = some [.n 0, .n 1, .n 2, .n 3, .n 4, .n 5, .n 6, .n 7, .n 8, .e 9 []] := by kernel_rfl
@[simp] theorem plan90_3 : G.plan 90 3 = some [.n 0, .n 1, .n 2, .n 3, .n 4, .n 5, .n 6, .n 7, .n 8, .e 9 []] := by kernel_rfl
@[simp] theorem E91 : G.E 91 = true := by kernel_rfl
@[simp] theorem ext91 : G.ext 91 = none := by kernel_rfl
@[simp] theorem dfr91 : G.dfr 91 = false := by kernel_rfl
@[simp] theorem own91 : G.retOwn 91 = false := by kernel_rfl
@[simp] theorem live91_0 : G.live 91 0 = some ⟨[0, 1, 2, 3], []⟩ := by kernel_rfl
@[simp] theorem live91_1 : G.live 91 1 = some ⟨[8], []⟩ := by kernel_rfl
@[simp] theorem E92 : G.E 92 = true := by kernel_rfl
@[simp] theorem ext92 : G.ext 92 = none := by kernel_rfl
@[simp] theorem dfr92 : G.dfr 92 = false := by kernel_rfl
@[simp] theorem own92 : G.retOwn 92 = false := by kernel_rfl
@[simp] theorem live92_0 : G.live 92 0 = some ⟨[0, 1, 2, 3, 4, 5], []⟩ := by kernel_rfl
@[simp] theorem live92_1 : G.live 92 1 = some ⟨[0, 1, 2, 3, 4, 5], []⟩ := by kernel_rfl
@[simp] theorem live92_2 : G.live 92 2 = some ⟨[0, 1, 2, 4, 5], []⟩ := by kernel_rfl
@[simp] theorem live92_3 : G.live 92 3 = some ⟨[2], []⟩ := by kernel_rfl
@[simp] theorem live92_4 : G.live 92 4 = some ⟨[12], []⟩ := by kernel_rfl
@[simp] theorem E93 : G.E 93 = true := by kernel_rfl
@[simp] theorem ext93 : G.ext 93 = none := by kernel_rfl
@[simp] theorem dfr93 : G.dfr 93 = false := by kernel_rfl
@[simp] theorem own93 : G.retOwn 93 = false := by kernel_rfl
@[simp] theorem keep93_1 : G.keep 93 1 = some ⟨[(0, some (1, 3)), (2, none), (3, none), (4, none), (10, none)], []⟩ := by kernel_rfl
@[simp] theorem live93_0 : G.live 93 0 = some ⟨[0, 2, 3, 4, 10], []⟩ := by kernel_rfl
@[simp] theorem live93_1 : G.live 93 1 = some ⟨[0, 2, 3, 4, 10, 11], []⟩ := by kernel_rfl
@[simp] theorem live93_2 : G.live 93 2 = some ⟨[0, 2, 3, 4, 10, 11, 18], []⟩ := by kernel_rfl
@[simp] theorem live93_3 : G.live 93 3 = some ⟨[0, 2, 3, 4, 10, 11, 40], []⟩ := by kernel_rfl
@[simp] theorem live93_4 : G.live 93 4 = some ⟨[0, 2, 3, 4, 10, 11], []⟩ := by kernel_rfl
@[simp] theorem live93_5 : G.live 93 5 = some ⟨[0, 2, 3, 4, 10, 11, 58], []⟩ := by kernel_rfl
@[simp] theorem live93_6 : G.live 93 6 = some ⟨[0, 2, 3, 4, 11], []⟩ := by kernel_rfl
@[simp] theorem live93_7 : G.live 93 7 = some ⟨[0, 2, 3, 4, 10], []⟩ := by kernel_rfl
@[simp] theorem plan93_3 : G.plan 93 3 = some [.n 0, .n 1, .n 2, .n 3, .n 4, .n 5, .n 6, .n 7, .n 8, .n 9, .n 10, .n 11, .n 12, .n 13, .n 14, .n 15, .n 16, .n 17, .n 18, .e 19 [15, 14, 13, 8, 7, 0], .n 20, .n 21] := by kernel_rfl
@[simp] theorem plan93_5 : G.plan 93 5 = some [.n 0, .n 1, .n 2, .n 3, .n 4, .n 5, .n 6, .n 7, .n 8, .n 9, .n 10, .n 11, .n 12, .e 13 [9, 8, 3, 2], .n 14, .n 15] := by kernel_rfl
@[simp] theorem plan93_6 : G.plan 93 6 = some [.n 0, .n 1, .n 2, .n 3, .n 4, .n 5, .n 6, .n 7, .n 8, .n 9, .n 10, .n 11, .n 12, .n 13, .n 14, .n 15, .n 16, .n 17, .n 18, .n 19, .n 20, .e 21 [16, 15, 7, 6, 5, 4], .n 22, .e 23 []] := by kernel_rfl
@[simp] theorem E94 : G.E 94 = true := by kernel_rfl
@[simp] theorem ext94 : G.ext 94 = none := by kernel_rfl
@[simp] theorem dfr94 : G.dfr 94 = false := by kernel_rfl
@[simp] theorem own94 : G.retOwn 94 = false := by kernel_rfl
@[simp] theorem live94_0 : G.live 94 0 = some ⟨[0, 1, 2, 3], []⟩ := by kernel_rfl
@[simp] theorem live94_1 : G.live 94 1 = some ⟨[8], []⟩ := by kernel_rfl
@[simp] theorem E95 : G.E 95 = true := by kernel_rfl
@[simp] theorem ext95 : G.ext 95 = none := by kernel_rfl
@[simp] theorem dfr95 : G.dfr 95 = false := by kernel_rfl
@[simp] theorem own95 : G.retOwn 95 = false := by kernel_rfl
@[simp] theorem live95_0 : G.live 95 0 = some ⟨[0, 1, 2, 3, 4, 5], []⟩ := by kernel_rfl
@[simp] theorem live95_1 : G.live 95 1 = some ⟨[0, 1, 2, 3, 4, 5], []⟩ := by kernel_rfl
@[simp] theorem live95_2 : G.live 95 2 = some ⟨[0, 1, 2, 4, 5], []⟩ := by kernel_rfl
@[simp] theorem live95_3 : G.live 95 3 = some ⟨[2], []⟩ := by kernel_rfl
@[simp] theorem live95_4 : G.live 95 4 = some ⟨[12], []⟩ := by kernel_rfl
@[simp] theorem E96 : G.E 96 = true := by kernel_rfl
@[simp] theorem ext96 : G.ext 96 = none := by kernel_rfl
@[simp] theorem dfr96 : G.dfr 96 = false := by kernel_rfl
@[simp] theorem own96 : G.retOwn 96 = false := by kernel_rfl
@[simp] theorem keep96_2 : G.keep 96 2 = some ⟨[(0, none), (1, none), (21, none), (22, none), (23, none)], []⟩ := by kernel_rfl
@[simp] theorem live96_0 : G.live 96 0 = some ⟨[0, 1, 2, 17], []⟩ := by kernel_rfl
@[simp] theorem live96_1 : G.live 96 1 = some ⟨[0, 1, 21, 22, 23], []⟩ := by kernel_rfl
@[simp] theorem live96_2 : G.live 96 2 = some ⟨[0, 1, 21, 22, 23, 24], []⟩ := by kernel_rfl
@[simp] theorem live96_3 : G.live 96 3 = some ⟨[0, 1, 5, 21, 22, 23], []⟩ := by kernel_rfl
@[simp] theorem live96_4 : G.live 96 4 = some ⟨[0, 1, 21, 22, 23, 36], []⟩ := by kernel_rfl
@[simp] theorem live96_5 : G.live 96 5 = some ⟨[0, 1, 21, 22, 23], []⟩ := by kernel_rfl
@[simp] theorem E97 : G.E 97 = true := by kernel_rfl
@[simp] theorem ext97 : G.ext 97 = none := by kernel_rfl
@[simp] theorem dfr97 : G.dfr 97 = false := by kernel_rfl
@[simp] theorem own97 : G.retOwn 97 = false := by kernel_rfl
@[simp] theorem live97_0 : G.live 97 0 = some ⟨[0, 1, 2, 3, 4], []⟩ := by kernel_rfl
@[simp] theorem live97_1 : G.live 97 1 = some ⟨[1, 2, 3, 22], []⟩ := by kernel_rfl
@[simp] theorem live97_2 : G.live 97 2 = some ⟨[1, 2], []⟩ := by kernel_rfl
@[simp] theorem live97_3 : G.live 97 3 = some ⟨[10, 11], []⟩ := by kernel_rfl
@[simp] theorem live97_4 : G.live 97 4 = some ⟨[10, 11], []⟩ := by kernel_rfl
@[simp] theorem plan97_1 : G.plan 97 1 = some [.n 0, .n 1, .n 2, .n 3, .n 4, .n 5, .n 6, .n 7, .n 8, .e 9 [], .n 10] := by kernel_rfl
@[simp] theorem E98 : G.E 98 = true := by kernel_rfl
@[simp] theorem ext98 : G.ext 98 = none := by kernel_rfl
@[simp] theorem dfr98 : G.dfr 98 = false := by kernel_rfl
@[simp] theorem own98 : G.retOwn 98 = false := by kernel_rfl
@[simp] theorem live98_0 : G.live 98 0 = some ⟨[0, 1, 2, 3, 4], []⟩ := by kernel_rfl
@[simp] theorem live98_1 : G.live 98 1 = some ⟨[1, 2, 3, 22], []⟩ := by kernel_rfl
@[simp] theorem live98_2 : G.live 98 2 = some ⟨[1, 2], []⟩ := by kernel_rfl
@[simp] theorem live98_3 : G.live 98 3 = some ⟨[10, 11], []⟩ := by kernel_rfl
@[simp] theorem live98_4 : G.live 98 4 = some ⟨[10, 11], []⟩ := by kernel_rfl
@[simp] theorem plan98_1 : G.plan 98 1 = some [.n 0, .n 1, .n 2, .n 3, .n 4, .n 5, .n 6, .n 7, .n 8, .e 9 [], .n 10] := by kernel_rfl
@[simp] theorem E116 : G.E 116 = true := by kernel_rfl
@[simp] theorem ext116 : G.ext 116 = none := by kernel_rfl
@[simp] theorem dfr116 : G.dfr 116 = false := by kernel_rfl
@[simp] theorem own116 : G.retOwn 116 = false := by kernel_rfl
@[simp] theorem live116_0 : G.live 116 0 = some ⟨[0, 1, 2], []⟩ := by kernel_rfl
@[simp] theorem live116_1 : G.live 116 1 = some ⟨[6], []⟩ := by kernel_rfl
@[simp] theorem plan116_1 : G.plan 116 1 = some [.n 0, .n 1, .n 2, .n 3, .n 4, .n 5, .n 6, .n 7, .e 8 [], .n 9, .n 10] := by kernel_rfl
@[simp] theorem E117 : G.E 117 = true := by kernel_rfl
@[simp] theorem ext117 : G.ext 117 = none := by kernel_rfl
@[simp] theorem dfr117 : G.dfr 117 = false := by kernel_rfl
@[simp] theorem own117 : G.retOwn 117 = false := by kernel_rfl
@[simp] theorem live117_0 : G.live 117 0 = some ⟨[0], []⟩ := by kernel_rfl
@[simp] theorem live117_1 : G.live 117 1 = some ⟨[0, 3], []⟩ := by kernel_rfl
@[simp] theorem live117_2 : G.live 117 2 = some ⟨[3], []⟩ := by kernel_rfl
@[simp] theorem live117_3 : G.live 117 3 = some ⟨[2], []⟩ := by kernel_rfl
@[simp] theorem plan117_1 : G.plan 117 1 = some [.n 0, .n 1, .n 2, .n 3, .n 4, .n 5, .n 6, .n 7, .n 8, .n 9, .e 10 [9, 8, 7, 6, 5, 4, 3, 2, 1, 0], .e 11 []] := by kernel_rfl
@[simp] theorem plan117_2 : G.plan 117 2 = some [.n 0, .n 1, .n 2, .n 3, .n 4, .n 5, .n 6, .n 7, .n 8, .e 9 [5, 4, 0], .n 10, .e 11 []] := by kernel_rfl
@[simp] theorem E118 : G.E 118 = true := by kernel_rfl
@[simp] theorem ext118 : G.ext 118 = none := by kernel_rfl
@[simp] theorem dfr118 : G.dfr 118 = false := by kernel_rfl
@[simp] theorem own118 : G.retOwn 118 = false := by kernel_rfl
@[simp] theorem live118_0 : G.live 118 0 = some ⟨[], []⟩ := by kernel_rfl
@[simp] theorem plan118_0 : G.plan 118 0 = some [.n 0, .n 1, .n 2, .n 3, .n 4, .n 5, .n 6, .e 7 [0], .n 8, .e 9 []] := by kernel_rfl
@[simp] theorem E119 : G.E 119 = true := by kernel_rfl
@[simp] theorem ext119 : G.ext 119 = none := by kernel_rfl
@[simp] theorem dfr119 : G.dfr 119 = false := by kernel_rfl
@[simp] theorem own119 : G.retOwn 119 = false := by kernel_rfl
@[simp] theorem live119_0 : G.live 119 0 = some ⟨[], []⟩ := by kernel_rfl
@[simp] theorem plan119_0 : G.plan 119 0 = some [.n 0, .n 1, .n 2, .n 3, .n 4, .n 5, .n 6, .n 7, .n 8, .n 9, .n 10, .n 11, .n 12, .e 13 [3, 2], .n 14, .e 15 []] := by kernel_rfl
end Go.Proofs.Ytcgkneolohcdeaa


/- What the functions come to: nodes. -/
namespace Go.Proofs.Ytcgkneolohcdeaa
open Go Abs
set_option linter.unusedSimpArgs false
set_option linter.unusedVariables false
structure Nd where
  kind : Int
  num : Int
  text : List UInt8
  kids : Int
  deriving DecidableEq
def Nd.v (n : Nd) : AV := .agg [.int .i64 n.kind, .int .i64 n.num, .str n.text, .int .i64 n.kids]
def nds (l : List Nd) : AV := .list 4 (l.map Nd.v)

noncomputable abbrev cl : CallFn := callL G prim0
noncomputable abbrev lp : LoopFn := loopL G prim0

/-- A function's body, gone through. -/
theorem fn_intro {g : FuncId} {fn : Func} {c : Code} {args : List AV} {hp : Heap} {r : ARes × Heap} (hf : Try.prog.funcs[g]? = some fn) (hb : fn.body = some c) (hd : G.dfr g = false) (hg : g < RB) (hp0 : prim0 g = none)
    (h : endX G g (hp.map (·.1)) fn.results.toList (codeX G cl lp g c { sl := zipIx args 0, hp }) = some r) : cl g args hp = some r :=
  call_intro hg hp0 (by rw [runFn_body hd hf hb]; exact h)

theorem need_t : cl 39 [.bool true] [] = some (.ret (.tup []), []) := call_intro (by decide) rfl (by kernel_rfl)
theorem need_f : cl 39 [.bool false] [] = some (.pan (.iface 74 (.agg [])), []) := call_intro (by decide) rfl (by kernel_rfl)

theorem bare_eq (n : Nd) : cl 84 [n.v] [] = some (.ret (.agg [.int .i64 n.kind, .int .i64 0, .str [], .int .i64 n.kids]), []) := by
  refine fn_intro Try.func84 rfl (by simp) (by decide) rfl ?_
  simp only [Try.f84]
  simp [Nd.v]
  exact end_is (.inr rfl) (by simp [resL]; rfl) rfl rfl

theorem bare_call {d : Option Nat} {st : ASt} {k n c : Int} {t : List UInt8} : callV G cl d (.fn (.func 84) [] []) [.agg [.int .i64 k, .int .i64 n, .str t, .int .i64 c]] st = some (.val (.agg [.int .i64 k, .int .i64 0, .str [], .int .i64 c]) st) :=
  callV_ret E84 (by decide) ext84 rfl rfl (bare_eq ⟨k, n, t, c⟩) rfl
attribute [simp] eqAggA eqFieldsA Try.stoodInHeld43 Try.eqGuardType43

/-- Whether a node's fields may be. -/
def fitsS (n : Nd) : Bool :=
  if n.kind = 1 then decide (wAndNot .i64 n.num 1 = 0) && decide (n.text = []) && decide (n.kids = 0)
  else if n.kind = 0 then decide (n.num = 0) && decide (n.text = []) && decide (n.kids = 0)
  else if n.kind = 2 then decide (n.text = []) && decide (n.kids = 0)
  else if n.kind = 3 then decide (n.num = 0) && decide (n.kids = 0)
  else if n.kind = 4 ∨ n.kind = 5 then decide (n.num = 0) && decide (n.text = []) && decide (0 ≤ n.kids)
  else false

set_option maxHeartbeats 8000000 in
theorem fits_eq (n : Nd) : cl 56 [n.v] [] = some (.ret (.bool (fitsS n)), []) := by
  obtain ⟨k, nu, t, c⟩ := n
  refine fn_intro Try.func56 rfl (by simp) (by decide) rfl ?_
  simp only [Try.f56, Nd.v]
  by_cases h1 : k = 1
  · simp [h1, bare_call, fitsS]; exact end_is (.inr rfl) (by simp; rfl) rfl rfl
  by_cases h2 : k = 0
  · simp [h2, bare_call, fitsS]; exact end_is (.inr rfl) (by simp; rfl) rfl rfl
  by_cases h3 : k = 2
  · simp [h3, bare_call, fitsS]; exact end_is (.inr rfl) (by simp; rfl) rfl rfl
  by_cases h4 : k = 3
  · simp [h4, bare_call, fitsS]; exact end_is (.inr rfl) (by simp; rfl) rfl rfl
  by_cases h5 : k = 4
  · simp [h5, bare_call, fitsS]; exact end_is (.inr rfl) (by simp; rfl) rfl rfl
  by_cases h6 : k = 5
  · simp [h6, bare_call, fitsS]; exact end_is (.inr rfl) (by simp; rfl) rfl rfl
  simp [h1, h2, h3, h4, h5, h6, fitsS]
  exact end_is (.inr rfl) (by simp; rfl) rfl rfl
theorem fits_call {d : Option Nat} {st : ASt} {k n c : Int} {t : List UInt8} : callV G cl d (.fn (.func 56) [] []) [.agg [.int .i64 k, .int .i64 n, .str t, .int .i64 c]] st = some (.val (.bool (fitsS ⟨k, n, t, c⟩)) st) :=
  callV_ret E56 (by decide) ext56 rfl rfl (fits_eq ⟨k, n, t, c⟩) rfl
theorem need_call_t {d : Option Nat} {st : ASt} : callV G cl d (.fn (.func 39) [] []) [.bool true] st = some (.val (.tup []) st) := callV_ret E39 (by decide) ext39 rfl rfl need_t rfl
theorem need_call_f {d : Option Nat} {st : ASt} : callV G cl d (.fn (.func 39) [] []) [.bool false] st = some (.pan (.iface 74 (.agg [])) st) := callV_pan E39 (by decide) ext39 rfl rfl need_f rfl
end Go.Proofs.Ytcgkneolohcdeaa


/- What the functions come to: nodes, by the document. -/
namespace Go.Proofs.Ytcgkneolohcdeaa
open Go Abs
set_option linter.unusedSimpArgs false
set_option linter.unusedVariables false

/-- A round, and the loop's head behind it. -/
noncomputable def rX (f : FuncId) (c : Code) : Option (AX × ASt) → Option (AX × ASt)
  | some (.normal, s) => (canon G f c s).map fun s => (.normal, s)
  | r => r
@[simp] theorem rX_n {f c s} : rX f c (some (.normal, s)) = (canon G f c s).map fun s => (.normal, s) := rfl
@[simp] theorem rX_e {f c i s} : rX f c (some (.exit i, s)) = some (.exit i, s) := rfl
@[simp] theorem rX_r {f c s} : rX f c (some (.ret, s)) = some (.ret, s) := rfl
@[simp] theorem rX_p {f c v s} : rX f c (some (.pan v, s)) = some (.pan v, s) := rfl
theorem loop_next {f : FuncId} {c : Code} {st st' : ASt} {r : AX × ASt} (h : rX f c (codeX G cl lp f c st) = some (.normal, st')) (hr : lp f c st' = some r) : lp f c st = some r := by
  refine loop_intro ?_
  unfold loopStep
  cases hx : codeX G cl lp f c st with
  | none => rw [hx] at h; cases h
  | some y =>
    obtain ⟨x, s⟩ := y
    rw [hx] at h
    cases x with
    | normal =>
      obtain ⟨s2, h1, h2⟩ := Option.map_eq_some_iff.1 h
      cases h2
      simp only [Option.bind_some, h1]; exact hr
    | _ => cases h
theorem loop_out {f : FuncId} {c : Code} {st s : ASt} {x : AX} (h : rX f c (codeX G cl lp f c st) = some (x, s)) (hx : x ≠ .normal) : lp f c st = some (x, s) := by
  refine loop_intro ?_
  unfold loopStep
  cases hy : codeX G cl lp f c st with
  | none => rw [hy] at h; cases h
  | some y =>
    obtain ⟨x', s'⟩ := y
    rw [hy] at h
    cases x' with
    | normal =>
      obtain ⟨s2, h1, h2⟩ := Option.map_eq_some_iff.1 h
      cases h2; exact absurd rfl hx
    | _ => exact h
/-- The code of a function's first loop; of the next. -/
def loopsOf : Code → List Code
  | .seq a b => loopsOf a ++ loopsOf b
  | .cond _ a b => loopsOf a ++ loopsOf b
  | .block _ b => loopsOf b
  | .loop b => b :: loopsOf b
  | _ => []
noncomputable def lc (f : Func) (k : Nat) : Code := ((loopsOf (f.body.getD .skip))[k]?).getD .skip

theorem i64_wrap {a : Int} (h1 : -9223372036854775808 ≤ a) (h2 : a ≤ 9223372036854775807) : IntKind.i64.wrap a = a := by rw [IntKind.wrap_i64]; omega

/-- A loop over the numbers below n, that may be left early. -/
theorem for_loop {f : FuncId} {c : Code} {n : Nat} {σ : Nat → ASt} {P : Nat → Prop} {Q : AX → ASt → Prop}
    (hstep : ∀ i, i < n → P i → (rX f c (codeX G cl lp f c (σ i)) = some (.normal, σ (i + 1)) ∧ P (i + 1)) ∨ ∃ x s, rX f c (codeX G cl lp f c (σ i)) = some (x, s) ∧ x ≠ .normal ∧ Q x s)
    (hend : P n → ∃ x s, rX f c (codeX G cl lp f c (σ n)) = some (x, s) ∧ x ≠ .normal ∧ Q x s) : ∀ i, i ≤ n → P i → ∃ x s, lp f c (σ i) = some (x, s) ∧ Q x s := by
  intro i hi
  generalize hk : n - i = k
  induction k generalizing i with
  | zero =>
    intro hp
    obtain rfl : i = n := by omega
    obtain ⟨x, s, h1, h2, h3⟩ := hend hp
    exact ⟨x, s, loop_out h1 h2, h3⟩
  | succ k ih =>
    intro hp
    rcases hstep i (by omega) hp with ⟨h1, h2⟩ | ⟨x, s, h1, h2, h3⟩
    · obtain ⟨x, s, h3, h4⟩ := ih (i + 1) (by omega) (by omega) h2
      exact ⟨x, s, loop_next h1 h3, h4⟩
    · exact ⟨x, s, loop_out h1 h2, h3⟩
attribute [simp] canonK_p

/-! Few -/
def fewS (l : List Nd) : Bool := decide (l.length ≤ 130) && (l.take 131).all fun n => decide (n.text.length ≤ 130)
theorem few_loop (l : List Nd) : ∃ x s, lp 18 (lc Try.f18 0) { sl := [(0, nds l), (3, .int .i64 0)], hp := [] } = some (x, s) ∧
    ((x = .ret ∧ s = { sl := [(2, .bool false)], hp := [] } ∧ fewS l = false) ∨ (x = .exit 0 ∧ (∃ sl, s = { sl := (0, nds l) :: sl, hp := [] }) ∧ (l.take 131).all (fun n => decide (n.text.length ≤ 130)) = true)) := by
  have := for_loop (f := 18) (c := lc Try.f18 0) (n := min l.length 131) (σ := fun i => { sl := [(0, nds l), (3, .int .i64 (i : Int))], hp := [] }) (P := fun i => (l.take i).all (fun n => decide (n.text.length ≤ 130)) = true)
    (Q := fun x s => (x = .ret ∧ s = { sl := [(2, .bool false)], hp := [] } ∧ fewS l = false) ∨ (x = .exit 0 ∧ (∃ sl, s = { sl := (0, nds l) :: sl, hp := [] }) ∧ (l.take 131).all (fun n => decide (n.text.length ≤ 130)) = true))
    (fun i hi hp => ?_) (fun hp => ?_) 0 (by omega) (by simp)
  · exact this
  · have h1 : i < l.length := by omega
    obtain ⟨n, hn⟩ : ∃ n, l[i]? = some n := ⟨l[i], List.getElem?_eq_getElem h1⟩
    have h1' : (i : Int) < l.length := by omega
    have h2' : (i : Int) ≤ 130 := by omega
    have hw : IntKind.i64.wrap ((i : Int) + 1) = (i : Int) + 1 := i64_wrap (by omega) (by omega)
    by_cases ht : n.text.length ≤ 130
    · left
      have h3' : ¬ (130 < (n.text.length : Int)) := by omega
      refine ⟨by simp [lc, loopsOf, Try.f18, nds, h1', h2', hn, Nd.v, h3', hw], ?_⟩
      rw [List.take_add_one, hn]
      simp only [List.all_append, hp, Option.toList_some, List.all_cons, List.all_nil, Bool.and_true, Bool.true_and]
      simpa using ht
    · right
      have h3' : 130 < (n.text.length : Int) := by omega
      refine ⟨.ret, _, by simp [lc, loopsOf, Try.f18, nds, h1', h2', hn, Nd.v, h3', hw], by simp, .inl ⟨rfl, rfl, ?_⟩⟩
      have : n ∈ l.take 131 := List.mem_of_getElem? (i := i) (by rw [List.getElem?_take, if_pos (by omega)]; exact hn)
      unfold fewS
      rw [Bool.and_eq_false_iff]; right
      rw [List.all_eq_false]
      exact ⟨n, this, by simpa using ht⟩
  · have hall : (l.take 131).all (fun n => decide (n.text.length ≤ 130)) = true := by
      rcases Nat.le_total l.length 131 with h | h
      · rw [Nat.min_eq_left h, List.take_of_length_le (Nat.le_refl _)] at hp
        rw [List.take_of_length_le h]; exact hp
      · rwa [Nat.min_eq_right h] at hp
    rcases Nat.lt_or_ge l.length 131 with h | h
    · have e : min l.length 131 = l.length := by omega
      exact ⟨.exit 0, ⟨[(0, nds l), (3, .int .i64 (min l.length 131 : Nat)), (11, .bool false)], []⟩, by simp [lc, loopsOf, Try.f18, nds, e], by simp, .inr ⟨rfl, ⟨_, rfl⟩, hall⟩⟩
    · have e : min l.length 131 = 131 := by omega
      by_cases h2 : l.length = 131
      · exact ⟨.exit 0, ⟨[(0, nds l), (3, .int .i64 (min l.length 131 : Nat)), (11, .bool false)], []⟩, by simp [lc, loopsOf, Try.f18, nds, e, h2], by simp, .inr ⟨rfl, ⟨_, rfl⟩, hall⟩⟩
      · have h3 : (131 : Int) < l.length := by omega
        exact ⟨.exit 0, ⟨[(0, nds l), (3, .int .i64 (min l.length 131 : Nat)), (11, .bool false)], []⟩, by simp [lc, loopsOf, Try.f18, nds, e, h3], by simp, .inr ⟨rfl, ⟨_, rfl⟩, hall⟩⟩

theorem few_eq (l : List Nd) : cl 18 [nds l] [] = some (.ret (.bool (fewS l)), []) := by
  obtain ⟨x, s, h, hx⟩ := few_loop l
  refine fn_intro Try.func18 rfl (by simp) (by decide) rfl ?_
  simp only [lc, loopsOf, Try.f18, nds, Option.getD_some] at h
  simp [loopsOf] at h
  rcases hx with ⟨rfl, rfl, hf⟩ | ⟨rfl, ⟨sl, rfl⟩, hall⟩
  · simp [Try.f18, nds, h]
    exact end_is (.inr rfl) (by simp; rfl) rfl (by simp [hf])
  · by_cases hl : l.length ≤ 130
    · have hl' : (l.length : Int) ≤ 130 := by omega
      simp [Try.f18, nds, h, hl']
      exact end_is (.inr rfl) (by simp; rfl) rfl (by simp [fewS, hl]; simpa using hall)
    · have hl' : ¬ (l.length : Int) ≤ 130 := by omega
      simp [Try.f18, nds, h, hl']
      exact end_is (.inr rfl) (by simp; rfl) rfl (by simp [fewS, hl])
end Go.Proofs.Ytcgkneolohcdeaa


/- What the functions come to: rows of nodes that are the same; texts that are too long. -/
namespace Go.Proofs.Ytcgkneolohcdeaa
open Go Abs
set_option linter.unusedSimpArgs false
set_option linter.unusedVariables false

theorem nd_ne {n m : Nd} (h : n ≠ m) : ¬ n.kind = m.kind ∨ (n.kind = m.kind ∧ ¬ n.num = m.num) ∨ (n.kind = m.kind ∧ n.num = m.num ∧ ¬ n.text = m.text) ∨ (n.kind = m.kind ∧ n.num = m.num ∧ n.text = m.text ∧ ¬ n.kids = m.kids) := by
  obtain ⟨a, b, c, d⟩ := n; obtain ⟨a', b', c', d'⟩ := m
  simp only [ne_eq, Nd.mk.injEq, not_and] at h ⊢
  by_cases h1 : a = a' <;> by_cases h2 : b = b' <;> by_cases h3 : c = c' <;> simp_all

theorem take_eq_of {α : Type} {l m : List α} {i : Nat} (h : l.take i = m.take i) {x y : α} (hx : l[i]? = some x) (hy : m[i]? = some y) : l.take (i + 1) = m.take (i + 1) ↔ x = y := by
  rw [List.take_add_one, List.take_add_one, hx, hy, h]
  simp

set_option maxHeartbeats 8000000 in
theorem same18_loop (a b : List Nd) (hl : a.length = b.length) (hb : a.length ≤ 9223372036854775806) : ∃ x s, lp 17 (lc Try.f17 0) { sl := [(0, nds a), (1, nds b), (5, .int .i64 0)], hp := [] } = some (x, s) ∧
    ((x = .ret ∧ s = { sl := [(4, .bool false)], hp := [] } ∧ a ≠ b) ∨ (x = .exit 0 ∧ (∃ sl, s = { sl, hp := [] }) ∧ a = b)) := by
  refine for_loop (f := 17) (c := lc Try.f17 0) (n := a.length) (σ := fun i => { sl := [(0, nds a), (1, nds b), (5, .int .i64 (i : Int))], hp := [] }) (P := fun i => a.take i = b.take i)
    (Q := fun x s => (x = .ret ∧ s = { sl := [(4, .bool false)], hp := [] } ∧ a ≠ b) ∨ (x = .exit 0 ∧ (∃ sl, s = { sl, hp := [] }) ∧ a = b))
    (fun i hi hp => ?_) (fun hp => ?_) 0 (by omega) (by simp)
  · obtain ⟨n, hn⟩ : ∃ n, a[i]? = some n := ⟨a[i], List.getElem?_eq_getElem hi⟩
    obtain ⟨m, hm⟩ : ∃ m, b[i]? = some m := ⟨b[i], List.getElem?_eq_getElem (by omega)⟩
    have h1 : (i : Int) < a.length := by omega
    have hw : IntKind.i64.wrap ((i : Int) + 1) = (i : Int) + 1 := i64_wrap (by omega) (by omega)
    by_cases hnm : n = m
    · subst hnm
      left
      refine ⟨?_, (take_eq_of hp hn hm).2 rfl⟩
      simp [lc, loopsOf, Try.f17, nds, h1, hn, hm, Nd.v, hw]
    · right
      have hne : a ≠ b := fun e => hnm (by subst e; rw [hn] at hm; exact Option.some.inj hm)
      have : rX 17 (lc Try.f17 0) (codeX G cl lp 17 (lc Try.f17 0) { sl := [(0, nds a), (1, nds b), (5, .int .i64 (i : Int))], hp := [] }) = some (.ret, { sl := [(4, .bool false)], hp := [] }) := by
        rcases nd_ne hnm with q | ⟨q1, q⟩ | ⟨q1, q2, q⟩ | ⟨q1, q2, q3, q⟩
        · simp [lc, loopsOf, Try.f17, nds, h1, hn, hm, Nd.v, hw, q]
        · simp [lc, loopsOf, Try.f17, nds, h1, hn, hm, Nd.v, hw, q1, q]
        · simp [lc, loopsOf, Try.f17, nds, h1, hn, hm, Nd.v, hw, q1, q2, q]
        · simp [lc, loopsOf, Try.f17, nds, h1, hn, hm, Nd.v, hw, q1, q2, q3, q]
      exact ⟨.ret, _, this, by simp, .inl ⟨rfl, rfl, hne⟩⟩
  · have e : a = b := by rw [List.take_of_length_le (Nat.le_refl _), List.take_of_length_le (by omega)] at hp; exact hp
    exact ⟨.exit 0, ⟨[(0, nds a), (1, nds b), (5, .int .i64 a.length), (14, .bool false)], []⟩, by simp [lc, loopsOf, Try.f17, nds], by simp, .inr ⟨rfl, ⟨_, rfl⟩, e⟩⟩
theorem same18_eq (a b : List Nd) (hb : a.length ≤ 9223372036854775806) : cl 17 [nds a, nds b] [] = some (.ret (.bool (decide (a = b))), []) := by
  refine fn_intro Try.func17 rfl (by simp) (by decide) rfl ?_
  by_cases hl : a.length = b.length
  · obtain ⟨x, s, h, hx⟩ := same18_loop a b hl hb
    simp [lc, loopsOf, Try.f17, nds, Option.getD_some] at h
    rcases hx with ⟨rfl, rfl, hf⟩ | ⟨rfl, ⟨sl, rfl⟩, hall⟩
    · simp [Try.f17, nds, h, hl]
      exact end_is (.inr rfl) (by simp; rfl) rfl (by simp [hf])
    · simp [Try.f17, nds, h, hl]
      exact end_is (.inr rfl) (by simp; rfl) rfl (by simp [hall])
  · have hl' : ¬ (a.length : Int) = b.length := by omega
    have hne : a ≠ b := fun e => hl (by rw [e])
    simp [Try.f17, nds, hl']
    exact end_is (.inr rfl) (by simp; rfl) rfl (by simp [hne])
end Go.Proofs.Ytcgkneolohcdeaa


/- What the functions come to: slices.Equal, ContainsFunc over nodes. -/
namespace Go.Proofs.Ytcgkneolohcdeaa
open Go Abs
set_option linter.unusedSimpArgs false
set_option linter.unusedVariables false

/-! Texts that are too long -/
theorem long_eq (n : Nd) : cl 19 [n.v] [] = some (.ret (.bool (decide (120 < n.text.length))), []) := by
  obtain ⟨k, nu, t, c⟩ := n
  refine fn_intro Try.func19 rfl (by simp) (by decide) rfl ?_
  simp [Try.f19, Nd.v]
  exact end_is (.inr rfl) (by simp; rfl) rfl (by simp; omega)
theorem long_call {d : Option Nat} {st : ASt} {k n c : Int} {t : List UInt8} : callV G cl d (.fn (.func 19) [] []) [.agg [.int .i64 k, .int .i64 n, .str t, .int .i64 c]] st = some (.val (.bool (decide (120 < t.length))) st) :=
  callV_ret E19 (by decide) ext19 rfl rfl (long_eq ⟨k, n, t, c⟩) rfl

set_option maxHeartbeats 8000000 in
theorem index81_loop (l : List Nd) (hb : l.length ≤ 9223372036854775806) : ∃ x s, lp 36 (lc Try.f36 0) { sl := [(0, nds l), (1, .fn (.func 19) [] []), (7, .int .i64 l.length), (8, .int .i64 0)], hp := [] } = some (x, s) ∧
    ((x = .ret ∧ (∃ j : Nat, s = { sl := [(4, .int .i64 j)], hp := [] }) ∧ l.any (fun n => decide (120 < n.text.length)) = true) ∨ (x = .exit 0 ∧ (∃ sl, s = { sl, hp := [] }) ∧ l.any (fun n => decide (120 < n.text.length)) = false)) := by
  refine for_loop (f := 36) (c := lc Try.f36 0) (n := l.length) (σ := fun i => { sl := [(0, nds l), (1, .fn (.func 19) [] []), (7, .int .i64 l.length), (8, .int .i64 (i : Int))], hp := [] }) (P := fun i => (l.take i).any (fun n => decide (120 < n.text.length)) = false)
    (Q := fun x s => (x = .ret ∧ (∃ j : Nat, s = { sl := [(4, .int .i64 j)], hp := [] }) ∧ l.any (fun n => decide (120 < n.text.length)) = true) ∨ (x = .exit 0 ∧ (∃ sl, s = { sl, hp := [] }) ∧ l.any (fun n => decide (120 < n.text.length)) = false))
    (fun i hi hp => ?_) (fun hp => ?_) 0 (by omega) (by simp)
  · obtain ⟨n, hn⟩ : ∃ n, l[i]? = some n := ⟨l[i], List.getElem?_eq_getElem hi⟩
    have h1 : (i : Int) < l.length := by omega
    have hw : IntKind.i64.wrap ((i : Int) + 1) = (i : Int) + 1 := i64_wrap (by omega) (by omega)
    by_cases ht : 120 < n.text.length
    · right
      exact ⟨.ret, ⟨[(4, .int .i64 i)], []⟩, by simp [lc, loopsOf, Try.f36, nds, h1, hn, Nd.v, hw, long_call, ht], by simp, .inl ⟨rfl, ⟨i, rfl⟩, List.any_eq_true.2 ⟨n, List.mem_of_getElem? hn, by simpa using ht⟩⟩⟩
    · left
      refine ⟨by simp [lc, loopsOf, Try.f36, nds, h1, hn, Nd.v, hw, long_call, ht], ?_⟩
      rw [List.take_add_one, hn, List.any_append, hp]; simpa using ht
  · rw [List.take_of_length_le (Nat.le_refl _)] at hp
    exact ⟨.exit 0, ⟨[(0, nds l), (1, .fn (.func 19) [] []), (7, .int .i64 l.length), (8, .int .i64 l.length), (9, .bool false)], []⟩, by simp [lc, loopsOf, Try.f36, nds], by simp, .inr ⟨rfl, ⟨_, rfl⟩, hp⟩⟩
theorem index81_eq (l : List Nd) (hb : l.length ≤ 9223372036854775806) : ∃ j : Int, cl 36 [nds l, .fn (.func 19) [] []] [] = some (.ret (.int .i64 j), []) ∧ (0 ≤ j ↔ l.any (fun n => decide (120 < n.text.length)) = true) := by
  obtain ⟨x, s, h, hx⟩ := index81_loop l hb
  simp [lc, loopsOf, Try.f36, nds, Option.getD_some] at h
  rcases hx with ⟨rfl, ⟨j, rfl⟩, hf⟩ | ⟨rfl, ⟨sl, rfl⟩, hf⟩
  · refine ⟨j, fn_intro Try.func36 rfl (by simp) (by decide) rfl ?_, by simp [hf]⟩
    simp [Try.f36, nds, h]
    exact end_is (.inr rfl) (by simp; rfl) rfl rfl
  · refine ⟨-1, fn_intro Try.func36 rfl (by simp) (by decide) rfl ?_, by simp [hf]⟩
    simp [Try.f36, nds, h]
    exact end_is (.inr rfl) (by simp; rfl) rfl rfl
def longS (l : List Nd) : Bool := l.any fun n => decide (120 < n.text.length)
theorem contains49_eq (l : List Nd) (hb : l.length ≤ 9223372036854775806) : cl 20 [nds l, .fn (.func 19) [] []] [] = some (.ret (.bool (longS l)), []) := by
  obtain ⟨j, h, hj⟩ := index81_eq l hb
  have hc : ∀ {d : Option Nat} {st : ASt}, callV G cl d (.fn (.func 36) [] []) [nds l, .fn (.func 19) [] []] st = some (.val (.int .i64 j) st) := fun {d st} => callV_ret E36 (by decide) ext36 rfl rfl h rfl
  refine fn_intro Try.func20 rfl (by simp) (by decide) rfl ?_
  simp [Try.f20, hc]
  refine end_is (.inr rfl) (by simp; rfl) rfl ?_
  simp only [resOf_one, AV.bool.injEq]
  rw [Bool.eq_iff_iff, decide_eq_true_eq, hj]; rfl
theorem contains49_call {l : List Nd} (hb : l.length ≤ 9223372036854775806) {d : Option Nat} {st : ASt} : callV G cl d (.fn (.func 20) [] []) [nds l, .fn (.func 19) [] []] st = some (.val (.bool (longS l)) st) :=
  callV_ret E20 (by decide) ext20 rfl rfl (contains49_eq l hb) rfl
end Go.Proofs.Ytcgkneolohcdeaa


/- What the functions come to: a value, gone through. -/
namespace Go.Proofs.Ytcgkneolohcdeaa
open Go Abs
set_option linter.unusedSimpArgs false
set_option linter.unusedVariables false

structure Span where
  stop : Nat
  deep : Nat
  kids : List Nat
def intsL (l : List Nat) : List AV := l.map fun (k : Nat) => AV.int .i64 (k : Int)
def spanV (s : Span) : AV := .agg [.int .i64 s.stop, .int .i64 s.deep, .list 1 (intsL s.kids)]
def oddV : AV := .iface 74 (.agg [])
def valσ (l : List Nd) (at_ : Nat) (s : Span) (last : List UInt8) (i : Nat) (mv : Bool) : ASt :=
  ⟨[(0, nds l), (1, .int .i64 at_), (4, .ptr 1004 0 0), (5, .ptr 1005 0 0), (6, .str last), (7, .int .i64 i)],
   [(1004, .box 49 (.agg [.int .i64 0, .int .i64 0, .nils])), (1005, .box 49 (.agg [.int .i64 s.stop, .int .i64 s.deep, .own 200502])), (200502, .row 1 (intsL s.kids) false ⟨mv, 3⟩)]⟩

-- What a loop's head is unfolded by, where there is memory.
attribute [local simp] canonK canonAll canonSlot canonCell canonBox ownStep restrictTo pureCells pureRows reachL AObj.names List.range_succ appendA spanV intsL valσ nds Nd.v

theorem max_cast (a b : Nat) : ((max a b : Nat) : Int) = max (a : Int) b := by omega

set_option maxHeartbeats 8000000 in
theorem value_plain (l : List Nd) (at_ : Nat) (n : Nd) (hn : l[at_]? = some n) (hk : n.kind ≠ 5) (s : Span) (last : List UInt8) (i : Nat) (mv : Bool) (hi : (i : Int) < n.kids) (hkb : n.kids ≤ 9223372036854775807) (hc : s.kids.length ≤ 1000)
    (kid : Span) (hcall : ∀ d st, callV G cl d (.fn (.func 38) [] []) [nds l, .int .i64 s.stop] st = some (.val (spanV kid) st)) :
    rX 38 (lc Try.f38 0) (codeX G cl lp 38 (lc Try.f38 0) (valσ l at_ s last i mv)) = some (.normal, valσ l at_ ⟨kid.stop, max s.deep kid.deep, s.kids ++ [s.stop]⟩ last (i + 1) true) := by
  have h1 : (at_ : Int) < l.length := by have := (List.getElem?_eq_some_iff.1 hn).1; omega
  have hL : s.kids.length + 1 ≤ LIM := by unfold LIM; omega
  have hw : IntKind.i64.wrap ((i : Int) + 1) = (i : Int) + 1 := i64_wrap (by omega) (by have := hi; omega)
  simp [lc, loopsOf, Try.f38]
  simp at hcall
  simp [h1, hn, hi, hk, hcall, hL, hw, max_cast]
set_option maxHeartbeats 8000000 in
theorem value_plain_pan (l : List Nd) (at_ : Nat) (n : Nd) (hn : l[at_]? = some n) (hk : n.kind ≠ 5) (s : Span) (last : List UInt8) (i : Nat) (mv : Bool) (hi : (i : Int) < n.kids) (hc : s.kids.length ≤ 1000)
    (hcall : ∀ d st, callV G cl d (.fn (.func 38) [] []) [nds l, .int .i64 s.stop] st = some (.pan oddV st)) :
    ∃ s', rX 38 (lc Try.f38 0) (codeX G cl lp 38 (lc Try.f38 0) (valσ l at_ s last i mv)) = some (.pan oddV, s') := by
  have h1 : (at_ : Int) < l.length := by have := (List.getElem?_eq_some_iff.1 hn).1; omega
  have hL : s.kids.length + 1 ≤ LIM := by unfold LIM; omega
  simp [lc, loopsOf, Try.f38]
  simp at hcall
  simp [h1, hn, hi, hk, hcall, hL]
set_option maxHeartbeats 8000000 in
theorem value_map (l : List Nd) (at_ : Nat) (n : Nd) (hn : l[at_]? = some n) (hk : n.kind = 5) (s : Span) (last : List UInt8) (i : Nat) (mv : Bool) (hi : (i : Int) < n.kids) (hkb : n.kids ≤ 9223372036854775807) (hc : s.kids.length ≤ 1000)
    (m : Nd) (hm : l[s.stop]? = some m) (hmk : m.kind = 3) (hmf : fitsS m = true) (hml : i = 0 ∨ ltB last m.text = true) (hsb : s.stop ≤ 1000)
    (kid : Span) (hcall : ∀ d st, callV G cl d (.fn (.func 38) [] []) [nds l, .int .i64 ((s.stop + 1 : Nat) : Int)] st = some (.val (spanV kid) st)) :
    rX 38 (lc Try.f38 0) (codeX G cl lp 38 (lc Try.f38 0) (valσ l at_ s last i mv)) = some (.normal, valσ l at_ ⟨kid.stop, max s.deep kid.deep, s.kids ++ [s.stop + 1]⟩ m.text (i + 1) true) := by
  have h1 : (at_ : Int) < l.length := by have := (List.getElem?_eq_some_iff.1 hn).1; omega
  have h2 : (s.stop : Int) < l.length := by have := (List.getElem?_eq_some_iff.1 hm).1; omega
  have hL : s.kids.length + 1 ≤ LIM := by unfold LIM; omega
  have hw : IntKind.i64.wrap ((i : Int) + 1) = (i : Int) + 1 := i64_wrap (by omega) (by have := hi; omega)
  have hw2 : IntKind.i64.wrap ((s.stop : Int) + 1) = (s.stop : Int) + 1 := i64_wrap (by omega) (by omega)
  have hmf' : fitsS ⟨3, m.num, m.text, m.kids⟩ = true := by rw [← hmk]; exact hmf
  simp [lc, loopsOf, Try.f38]
  simp at hcall
  rcases hml with hml | hml
  · subst hml
    simp only [Int.natCast_zero, Int.zero_add] at hi hw
    simp [h1, h2, hn, hm, hmk, hmf', hi, hk, hcall, hL, hw, hw2, max_cast, need_call_t, fits_call]
  · simp [h1, h2, hn, hm, hmk, hmf', hml, hi, hk, hcall, hL, hw, hw2, max_cast, need_call_t, fits_call]
set_option maxHeartbeats 8000000 in
theorem value_map_pan (l : List Nd) (at_ : Nat) (n : Nd) (hn : l[at_]? = some n) (hk : n.kind = 5) (s : Span) (last : List UInt8) (i : Nat) (mv : Bool) (hi : (i : Int) < n.kids) (hc : s.kids.length ≤ 1000)
    (m : Nd) (hm : l[s.stop]? = some m) (hmk : m.kind = 3) (hmf : fitsS m = true) (hml : i = 0 ∨ ltB last m.text = true) (hsb : s.stop ≤ 1000)
    (hcall : ∀ d st, callV G cl d (.fn (.func 38) [] []) [nds l, .int .i64 ((s.stop + 1 : Nat) : Int)] st = some (.pan oddV st)) :
    ∃ s', rX 38 (lc Try.f38 0) (codeX G cl lp 38 (lc Try.f38 0) (valσ l at_ s last i mv)) = some (.pan oddV, s') := by
  have h1 : (at_ : Int) < l.length := by have := (List.getElem?_eq_some_iff.1 hn).1; omega
  have h2 : (s.stop : Int) < l.length := by have := (List.getElem?_eq_some_iff.1 hm).1; omega
  have hL : s.kids.length + 1 ≤ LIM := by unfold LIM; omega
  have hw2 : IntKind.i64.wrap ((s.stop : Int) + 1) = (s.stop : Int) + 1 := i64_wrap (by omega) (by omega)
  have hmf' : fitsS ⟨3, m.num, m.text, m.kids⟩ = true := by rw [← hmk]; exact hmf
  simp [lc, loopsOf, Try.f38]
  simp at hcall
  rcases hml with hml | hml
  · subst hml
    simp only [Int.natCast_zero] at hi
    simp [h1, h2, hn, hm, hmk, hmf', hi, hk, hcall, hL, hw2, need_call_t, fits_call]
  · simp [h1, h2, hn, hm, hmk, hmf', hml, hi, hk, hcall, hL, hw2, need_call_t, fits_call]
set_option maxHeartbeats 8000000 in
theorem value_map_end (l : List Nd) (at_ : Nat) (n : Nd) (hn : l[at_]? = some n) (hk : n.kind = 5) (s : Span) (last : List UInt8) (i : Nat) (mv : Bool) (hi : (i : Int) < n.kids) (hm : l[s.stop]? = none) :
    ∃ s', rX 38 (lc Try.f38 0) (codeX G cl lp 38 (lc Try.f38 0) (valσ l at_ s last i mv)) = some (.pan oddV, s') := by
  have h1 : (at_ : Int) < l.length := by have := (List.getElem?_eq_some_iff.1 hn).1; omega
  have h2 : ¬ (s.stop : Int) < l.length := by have := List.getElem?_eq_none_iff.1 hm; omega
  simp [lc, loopsOf, Try.f38]
  simp [h1, h2, hn, hi, hk, need_call_f, oddV]
set_option maxHeartbeats 8000000 in
theorem value_map_bad (l : List Nd) (at_ : Nat) (n : Nd) (hn : l[at_]? = some n) (hk : n.kind = 5) (s : Span) (last : List UInt8) (i : Nat) (mv : Bool) (hi : (i : Int) < n.kids)
    (m : Nd) (hm : l[s.stop]? = some m) (hbad : m.kind ≠ 3 ∨ (m.kind = 3 ∧ fitsS m = false) ∨ (m.kind = 3 ∧ fitsS m = true ∧ i ≠ 0 ∧ ltB last m.text = false)) :
    ∃ s', rX 38 (lc Try.f38 0) (codeX G cl lp 38 (lc Try.f38 0) (valσ l at_ s last i mv)) = some (.pan oddV, s') := by
  have h1 : (at_ : Int) < l.length := by have := (List.getElem?_eq_some_iff.1 hn).1; omega
  have h2 : (s.stop : Int) < l.length := by have := (List.getElem?_eq_some_iff.1 hm).1; omega
  simp [lc, loopsOf, Try.f38]
  rcases hbad with q | ⟨q1, q⟩ | ⟨q1, q2, q3, q4⟩
  · simp [h1, h2, hn, hm, q, hi, hk, need_call_t, need_call_f, fits_call, oddV]
  · have hmf' : fitsS ⟨3, m.num, m.text, m.kids⟩ = false := by rw [← q1]; exact q
    simp [h1, h2, hn, hm, q1, hmf', hi, hk, need_call_t, need_call_f, fits_call, oddV]
  · have hmf' : fitsS ⟨3, m.num, m.text, m.kids⟩ = true := by rw [← q1]; exact q2
    simp [h1, h2, hn, hm, q1, hmf', q3, q4, hi, hk, need_call_t, need_call_f, fits_call, oddV]
def valE (l : List Nd) (at_ : Nat) (s : Span) (last : List UInt8) (i : Nat) (mv : Bool) : ASt :=
  ⟨[(0, nds l), (1, .int .i64 at_), (4, .ptr 1004 0 0), (5, .ptr 1005 0 0), (6, .str last), (7, .int .i64 i), (31, .bool false)], (valσ l at_ s last i mv).hp⟩
theorem value_exit (l : List Nd) (at_ : Nat) (n : Nd) (hn : l[at_]? = some n) (s : Span) (last : List UInt8) (i : Nat) (mv : Bool) (hi : ¬ (i : Int) < n.kids) :
    rX 38 (lc Try.f38 0) (codeX G cl lp 38 (lc Try.f38 0) (valσ l at_ s last i mv)) = some (.exit 0, valE l at_ s last i mv) := by
  have h1 : (at_ : Int) < l.length := by have := (List.getElem?_eq_some_iff.1 hn).1; omega
  simp [lc, loopsOf, Try.f38]
  simp [h1, hn, hi, valE]
end Go.Proofs.Ytcgkneolohcdeaa


/- What the functions come to: tree.value. -/
namespace Go.Proofs.Ytcgkneolohcdeaa
open Go Abs
set_option linter.unusedSimpArgs false
set_option linter.unusedVariables false

/-- Where a kid begins; of a map behind its key. -/
def keyS (l : List Nd) (isMap : Bool) (i : Nat) (stop : Nat) (last : List UInt8) : Option (Nat × List UInt8) :=
  if isMap then (match l[stop]? with
    | some k => if k.kind = 3 ∧ fitsS k = true ∧ (i = 0 ∨ ltB last k.text = true) then some (stop + 1, k.text) else none
    | none => none)
  else some (stop, last)
def kidsS (val : Nat → Option Span) (l : List Nd) (isMap : Bool) : Nat → Nat → Span → List UInt8 → Option Span
  | 0, _, s, _ => some s
  | c + 1, i, s, last => (keyS l isMap i s.stop last).bind fun p => (val p.1).bind fun kid => kidsS val l isMap c (i + 1) ⟨kid.stop, max s.deep kid.deep, s.kids ++ [p.1]⟩ p.2
/-- The value at a place, gone through. -/
def valS (l : List Nd) : Nat → Nat → Option Span
  | 0, _ => none
  | k + 1, at_ => (l[at_]?).bind fun n => if fitsS n then (kidsS (valS l k) l (decide (n.kind = 5)) n.kids.toNat 0 ⟨at_ + 1, 0, []⟩ []).map fun s => { s with deep := s.deep + 1 } else none

theorem keyS_ge {l : List Nd} {b i stop last p} (h : keyS l b i stop last = some p) : stop ≤ p.1 := by
  unfold keyS at h
  split at h
  · split at h
    · split at h
      · cases h; simp
      · cases h
    · cases h
  · cases h; simp
theorem kidsS_spec {val : Nat → Option Span} {l : List Nd} {b : Bool} {A : Nat} (hv : ∀ st s, val st = some s → st < s.stop ∧ s.stop ≤ l.length ∧ s.deep + st ≤ s.stop) : ∀ {c i s last r}, kidsS val l b c i s last = some r → s.stop ≤ l.length → A ≤ s.stop → s.deep + A ≤ s.stop → s.stop ≤ r.stop ∧ r.stop ≤ l.length ∧ r.deep + A ≤ r.stop := by
  intro c
  induction c with
  | zero => intro i s last r h h1 h2 h3; cases h; exact ⟨Nat.le_refl _, h1, h3⟩
  | succ c ih =>
    intro i s last r h h1 h2 h3
    simp only [kidsS] at h
    rw [Option.bind_eq_some_iff] at h; obtain ⟨p, hp, h⟩ := h
    rw [Option.bind_eq_some_iff] at h; obtain ⟨kid, hk, h⟩ := h
    obtain ⟨g1, g2, g3⟩ := hv _ _ hk
    have := keyS_ge hp
    obtain ⟨k1, k2, k3⟩ := ih h g2 (by simp only; omega) (by simp only; omega)
    simp only at k1
    exact ⟨by omega, k2, k3⟩
theorem valS_spec {l : List Nd} : ∀ {k at_ s}, valS l k at_ = some s → at_ < s.stop ∧ s.stop ≤ l.length ∧ s.deep + at_ ≤ s.stop := by
  intro k
  induction k with
  | zero => intro at_ s h; cases h
  | succ k ih =>
    intro at_ s h
    simp only [valS] at h
    rw [Option.bind_eq_some_iff] at h; obtain ⟨n, hn, h⟩ := h
    split at h
    · obtain ⟨r, hr, rfl⟩ := Option.map_eq_some_iff.1 h
      have hlt := (List.getElem?_eq_some_iff.1 hn).1
      obtain ⟨h1, h2, h3⟩ := kidsS_spec (A := at_ + 1) (fun st s hs => ih hs) hr (by simp only; omega) (by simp) (by simp)
      simp only at h1 ⊢
      exact ⟨by omega, h2, by omega⟩
    · cases h

/-- What 'value' is told as. -/
def valR : Option Span → ARes
  | some s => .ret (spanV s)
  | none => .pan oddV

theorem value_loop (l : List Nd) (hl : l.length ≤ 900) (k at_ : Nat) (n : Nd) (hn : l[at_]? = some n) (hkb : n.kids ≤ 9223372036854775807)
    (ih : ∀ st, at_ < st → cl 38 [nds l, .int .i64 (st : Int)] [] = some (valR (valS l k st), [])) : ∀ (c i : Nat) (s : Span) (last : List UInt8) (mv : Bool), i + c = n.kids.toNat → at_ < s.stop → s.stop ≤ l.length → s.kids.length ≤ s.stop →
    match kidsS (valS l k) l (decide (n.kind = 5)) c i s last with
    | some sp => ∃ mv' last' i', lp 38 (lc Try.f38 0) (valσ l at_ s last i mv) = some (.exit 0, valE l at_ sp last' i' mv')
    | none => ∃ s', lp 38 (lc Try.f38 0) (valσ l at_ s last i mv) = some (.pan oddV, s') := by
  have call : ∀ st : Nat, at_ < st → ∀ d (w : ASt), callV G cl d (.fn (.func 38) [] []) [nds l, .int .i64 (st : Int)] w = some (pureR w (valR (valS l k st))) := by
    intro st hst d w
    refine callV_pure E38 (by decide) ext38 rfl rfl (ih st hst) ?_
    cases valS l k st <;> rfl
  intro c
  induction c with
  | zero =>
    intro i s last mv hi h1 h2 h3
    exact ⟨mv, last, i, loop_out (value_exit l at_ n hn s last i mv (by omega)) (by simp)⟩
  | succ c ihc =>
    intro i s last mv hi h1 h2 h3
    have hi' : (i : Int) < n.kids := by omega
    have hL : s.kids.length ≤ 1000 := by omega
    simp only [kidsS]
    by_cases hk : n.kind = 5
    · simp only [hk, decide_true] at ihc ⊢
      cases hm : l[s.stop]? with
      | none =>
        simp only [keyS, hm, if_true, Option.bind_none]
        obtain ⟨s', h⟩ := value_map_end l at_ n hn hk s last i mv hi' hm
        exact ⟨s', loop_out h (by simp)⟩
      | some m =>
        simp only [keyS, hm, if_true]
        by_cases hc : m.kind = 3 ∧ fitsS m = true ∧ (i = 0 ∨ ltB last m.text = true)
        · obtain ⟨c1, c2, c3⟩ := hc
          rw [if_pos ⟨c1, c2, c3⟩]
          simp only [Option.bind_some]
          have hcall := call (s.stop + 1) (by omega)
          cases hv : valS l k (s.stop + 1) with
          | none =>
            rw [hv] at hcall
            obtain ⟨s', h⟩ := value_map_pan l at_ n hn hk s last i mv hi' hL m hm c1 c2 c3 (by omega) (fun d st => hcall d st)
            exact ⟨s', loop_out h (by simp)⟩
          | some kid =>
            rw [hv] at hcall
            have h := value_map l at_ n hn hk s last i mv hi' hkb hL m hm c1 c2 c3 (by omega) kid (fun d st => hcall d st)
            obtain ⟨g1, g2, g3⟩ := valS_spec hv
            have := ihc (i + 1) ⟨kid.stop, max s.deep kid.deep, s.kids ++ [s.stop + 1]⟩ m.text true (by omega) (by simp only; omega) g2 (by simp; omega)
            simp only [Option.bind_some]
            split at this
            · rename_i sp hsp
              obtain ⟨mv', last', i', hr⟩ := this
              exact ⟨mv', last', i', loop_next h hr⟩
            · rename_i hsp
              obtain ⟨s', hr⟩ := this
              exact ⟨s', loop_next h hr⟩
        · rw [if_neg hc]
          simp only [Option.bind_none]
          have hbad : m.kind ≠ 3 ∨ (m.kind = 3 ∧ fitsS m = false) ∨ (m.kind = 3 ∧ fitsS m = true ∧ i ≠ 0 ∧ ltB last m.text = false) := by
            by_cases q1 : m.kind = 3
            · cases q2 : fitsS m with
              | false => exact .inr (.inl ⟨q1, rfl⟩)
              | true =>
                by_cases q3 : i = 0
                · exact absurd ⟨q1, q2, .inl q3⟩ hc
                · cases q4 : ltB last m.text with
                  | true => exact absurd ⟨q1, q2, .inr q4⟩ hc
                  | false => exact .inr (.inr ⟨q1, rfl, q3, rfl⟩)
            · exact .inl q1
          obtain ⟨s', h⟩ := value_map_bad l at_ n hn hk s last i mv hi' m hm hbad
          exact ⟨s', loop_out h (by simp)⟩
    · simp only [hk, decide_false] at ihc ⊢
      simp only [keyS, Bool.false_eq_true, if_false, Option.bind_some]
      have hcall := call s.stop h1
      cases hv : valS l k s.stop with
      | none =>
        rw [hv] at hcall
        obtain ⟨s', h⟩ := value_plain_pan l at_ n hn hk s last i mv hi' hL (fun d st => hcall d st)
        exact ⟨s', loop_out h (by simp)⟩
      | some kid =>
        rw [hv] at hcall
        have h := value_plain l at_ n hn hk s last i mv hi' hkb hL kid (fun d st => hcall d st)
        obtain ⟨g1, g2, g3⟩ := valS_spec hv
        have := ihc (i + 1) ⟨kid.stop, max s.deep kid.deep, s.kids ++ [s.stop]⟩ last true (by omega) (by simp only; omega) g2 (by simp; omega)
        simp only [Option.bind_some]
        split at this
        · rename_i sp hsp
          obtain ⟨mv', last', i', hr⟩ := this
          exact ⟨mv', last', i', loop_next h hr⟩
        · rename_i hsp
          obtain ⟨s', hr⟩ := this
          exact ⟨s', loop_next h hr⟩

-- What a loop's head is unfolded by, where there is memory.
attribute [local simp] canonK canonAll canonSlot canonCell canonBox ownStep restrictTo pureCells pureRows reachL AObj.names List.range_succ appendA spanV intsL valσ nds Nd.v

def Nd.inR (n : Nd) : Prop := -9223372036854775808 ≤ n.num ∧ n.num ≤ 9223372036854775807 ∧ -9223372036854775808 ≤ n.kids ∧ n.kids ≤ 9223372036854775807

set_option maxHeartbeats 8000000 in
theorem value_beyond (l : List Nd) (at_ : Nat) (h : l[at_]? = none) : cl 38 [nds l, .int .i64 (at_ : Int)] [] = some (.pan oddV, []) := by
  have h1 : ¬ (at_ : Int) < l.length := by have := List.getElem?_eq_none_iff.1 h; omega
  refine fn_intro Try.func38 rfl (by simp) (by decide) rfl ?_
  simp [Try.f38, h1, need_call_f]
  exact end_pan rfl
set_option maxHeartbeats 8000000 in
theorem value_bad (l : List Nd) (at_ : Nat) (n : Nd) (hn : l[at_]? = some n) (hf : fitsS n = false) : cl 38 [nds l, .int .i64 (at_ : Int)] [] = some (.pan oddV, []) := by
  have h1 : (at_ : Int) < l.length := by have := (List.getElem?_eq_some_iff.1 hn).1; omega
  refine fn_intro Try.func38 rfl (by simp) (by decide) rfl ?_
  simp [Try.f38, h1, hn, hf, need_call_f, fits_call]
  exact end_pan rfl
set_option maxHeartbeats 8000000 in
theorem value_eq (l : List Nd) (hl : l.length ≤ 900) (hr : ∀ n ∈ l, n.inR) : ∀ (k at_ : Nat), l.length < at_ + k → cl 38 [nds l, .int .i64 (at_ : Int)] [] = some (valR (valS l k at_), []) := by
  intro k
  induction k with
  | zero =>
    intro at_ h
    exact value_beyond l at_ (List.getElem?_eq_none_iff.2 (by omega))
  | succ k ih =>
    intro at_ h
    simp only [valS]
    cases hn : l[at_]? with
    | none => exact value_beyond l at_ hn
    | some n =>
      simp only [Option.bind_some]
      cases hf : fitsS n with
      | false => exact value_bad l at_ n hn hf
      | true =>
        have hlt := (List.getElem?_eq_some_iff.1 hn).1
        have hnr := hr n (List.mem_of_getElem? hn)
        have h1 : (at_ : Int) < l.length := by omega
        have hw : IntKind.i64.wrap ((at_ : Int) + 1) = (at_ : Int) + 1 := i64_wrap (by omega) (by omega)
        have hloop := value_loop l hl k at_ n hn hnr.2.2.2 (fun st hst => ih st (by omega)) n.kids.toNat 0 ⟨at_ + 1, 0, []⟩ [] false (by omega) (by simp) (by simp only; omega) (by simp)
        have hbd : ∀ r, kidsS (valS l k) l (decide (n.kind = 5)) n.kids.toNat 0 ⟨at_ + 1, 0, []⟩ [] = some r → r.deep ≤ 900 := fun r hr => by
          obtain ⟨_, q1, q2⟩ := kidsS_spec (A := at_ + 1) (fun st s hs => valS_spec hs) hr (by simp only; omega) (by simp) (by simp)
          omega
        refine fn_intro Try.func38 rfl (by simp) (by decide) rfl ?_
        cases hks : kidsS (valS l k) l (decide (n.kind = 5)) n.kids.toNat 0 ⟨at_ + 1, 0, []⟩ [] with
        | none =>
          rw [hks] at hloop
          obtain ⟨s', hx⟩ := hloop
          simp [lc, loopsOf, Try.f38] at hx
          simp [Try.f38, h1, hn, hf, need_call_t, fits_call, hw, hx, valR]
          exact end_pan rfl
        | some sp =>
          rw [hks] at hloop
          obtain ⟨mv', last', i', hx⟩ := hloop
          have hd := hbd sp hks
          simp [lc, loopsOf, Try.f38] at hx
          have hw2 : IntKind.i64.wrap ((sp.deep : Int) + 1) = (sp.deep : Int) + 1 := i64_wrap (by omega) (by omega)
          simp [Try.f38, h1, hn, hf, need_call_t, fits_call, hw, hx, valR, valE, hw2]
          exact end_rv (.inr rfl) (by simp [resL]; rfl) (by simp) (by simp) rfl
end Go.Proofs.Ytcgkneolohcdeaa


/- The arguments, as they lie in memory. -/
namespace Go.Proofs.Ytcgkneolohcdeaa
open Go Abs Go.RowKit
set_option linter.unusedSimpArgs false
set_option linter.unusedVariables false

section
variable {H : Type} {enc : TypeId × Value → H} {W : World}

theorem Nd.inR_of {k : Int} (h : (Lit.int .i64 k).wf = true) : -9223372036854775808 ≤ k ∧ k ≤ 9223372036854775807 := by
  simp only [Lit.wf, Bool.and_eq_true, decide_eq_true_eq] at h
  exact h

theorem list4 {α : Type} {cs : List α} (h : cs.length = 4) : ∃ a b c d, cs = [a, b, c, d] := by
  match cs, h with
  | [a, b, c, d], _ => exact ⟨a, b, c, d, rfl⟩

theorem node_open {n : Nat} {cs : List Value} {x : DataW H × List MemPlace} (h : DataW.trod enc Try.prog W 0 (fun _ => true) true n 43 cs = some x) :
    ∃ (m : Nd) (s : ByteArray), cs = [.int .i64 m.kind, .int .i64 m.num, .string s, .int .i64 m.kids] ∧ m.text = s.data.toList ∧ m.inR := by
  obtain ⟨y0, y1, y2, y3, n', _, hl, h0, h1, h2, h3⟩ := Joins.trod_struct4 Try.underlying43 h
  rw [show Try.prog.cellsOf 43 = 4 from by kernel_rfl] at hl
  obtain ⟨a, b, c, d, rfl⟩ := list4 hl
  obtain ⟨k0, e0, _, w0⟩ := DataW.trod_int Try.underlying41 h0
  obtain ⟨k1, e1, _, w1⟩ := DataW.trod_int Try.underlying2 h1
  obtain ⟨s, e2, _, _⟩ := DataW.trod_string Try.underlying9 h2
  obtain ⟨k3, e3, _, w3⟩ := DataW.trod_int Try.underlying3 h3
  simp at e0 e1 e2 e3
  subst e0 e1 e2 e3
  exact ⟨⟨k0, k1, s.data.toList, k3⟩, s, rfl, rfl, (Nd.inR_of w1).1, (Nd.inR_of w1).2, (Nd.inR_of w3).1, (Nd.inR_of w3).2⟩

/-- What the memory at the call's beginning holds stays. -/
def allS (W : World) : Stab := fun b _ => b < W.heap.size

theorem spot_none {w : World} {a : Addr} {v : Value} (h : w.cell? a = some v) : a.spot = none ∧ a.block < w.heap.size := by
  unfold World.cell? at h
  split at h
  · rename_i c t fr hb
    split at h
    · cases h
    · rename_i hs
      refine ⟨by cases hsp : a.spot <;> simp_all, (Array.getElem?_eq_some_iff.1 hb).1⟩
  · cases h

theorem nodes_open {n : Nat} {cs : List Value} {x : DataW H × List MemPlace} (h : DataW.trod enc Try.prog W 0 (fun _ => true) true n 22 cs = some x) :
    ∃ (v : Value) (l : List Nd), cs = [v] ∧ (∀ m ∈ l, m.inR) ∧ PR (allS W) W (nds l) v := by
  rcases Deep.open_slice Try.underlying22 h with ⟨rfl, _⟩ | ⟨a, len, cap, m, n', D, Pl, rfl, _, hlc, hcm, hm, _, hel⟩
  · exact ⟨_, [], rfl, fun m hm => by simp at hm, .empty 4 none 0 (fun e => by omega)⟩
  · simp only [if_true] at hm
    subst hm
    have hc46 : Try.prog.cellsOf 43 = 4 := by kernel_rfl
    have each : ∀ i, i < len → ∃ q : Nd × ByteArray, q.1.text = q.2.data.toList ∧ q.1.inR ∧ ∀ j c, [Value.int .i64 q.1.kind, .int .i64 q.1.num, .string q.2, .int .i64 q.1.kids][j]? = some c → W.cell? ((a.add (i * 4)).add j) = some c := by
      intro i hi
      obtain ⟨cs', h1, h2⟩ := hel i (by omega)
      rw [hc46] at h1
      obtain ⟨q, s, rfl, h3, h4⟩ := node_open h2
      obtain ⟨_, _, h5⟩ := World.cells?_some h1
      refine ⟨(q, s), h3, h4, fun j c hj => ?_⟩
      have hj4 : j < 4 := by have := (List.getElem?_eq_some_iff.1 hj).1; simpa using this
      rw [h5 j hj4]; exact hj
    by_cases hlen : len = 0
    · subst hlen
      exact ⟨_, [], rfl, fun m hm => by simp at hm, .empty 4 (some a) _ (fun e => by omega)⟩
    · have hsp : a.spot = none ∧ a.block < W.heap.size := by
        obtain ⟨q, _, _, h3⟩ := each 0 (by omega)
        have := h3 0 _ rfl
        simp only [Nat.zero_mul, Addr.add, if_true] at this
        exact spot_none this
      obtain ⟨b, off, sp⟩ := a
      simp only at hsp
      obtain ⟨rfl, hb⟩ := hsp
      let N : Nat → Nd × ByteArray := fun i => if hi : i < len then (each i hi).choose else (⟨0, 0, [], 0⟩, ByteArray.empty)
      have hN : ∀ i, (hi : i < len) → (N i).1.text = (N i).2.data.toList ∧ (N i).1.inR ∧ ∀ j c, [Value.int .i64 (N i).1.kind, .int .i64 (N i).1.num, .string (N i).2, .int .i64 (N i).1.kids][j]? = some c → W.cell? (((⟨b, off, none⟩ : Addr).add (i * 4)).add j) = some c := by
        intro i hi
        simp only [N, dif_pos hi]
        exact (each i hi).choose_spec
      refine ⟨_, (List.range len).map fun i => (N i).1, rfl, fun m hm => ?_, ?_⟩
      · obtain ⟨i, hi, rfl⟩ := List.mem_map.1 hm
        exact (hN i (List.mem_range.1 hi)).2.1
      · have hget : ∀ (i : Nat) e, (((List.range len).map fun i => (N i).1).map Nd.v)[i]? = some e → i < len ∧ e = (N i).1.v := by
          intro i e he
          simp only [List.getElem?_map] at he
          obtain ⟨q, hq, rfl⟩ := Option.map_eq_some_iff.1 he
          obtain ⟨r, hr, rfl⟩ := Option.map_eq_some_iff.1 hq
          obtain ⟨hi, rfl⟩ := List.getElem?_eq_some_iff.1 hr
          simp only [List.length_range] at hi
          simp [hi]
        have hcell : ∀ (i j : Nat) e c, (((List.range len).map fun i => (N i).1).map Nd.v)[i]? = some e → e.cells[j]? = some c →
            ∃ u, [Value.int .i64 (N i).1.kind, .int .i64 (N i).1.num, .string (N i).2, .int .i64 (N i).1.kids][j]? = some u ∧ PR (allS W) W c u ∧ scalarV u = true := by
          intro i j e c he hj
          obtain ⟨hi, rfl⟩ := hget i e he
          obtain ⟨t1, _, _⟩ := hN i hi
          simp only [Nd.v, AV.cells] at hj
          match j, hj with
          | 0, hj => cases hj; exact ⟨_, rfl, .int _ _, rfl⟩
          | 1, hj => cases hj; exact ⟨_, rfl, .int _ _, rfl⟩
          | 2, hj => cases hj; exact ⟨_, rfl, t1 ▸ .str _, rfl⟩
          | 3, hj => cases hj; exact ⟨_, rfl, .int _ _, rfl⟩
          | j + 4, hj => simp at hj
        have := PR.list (S := allS W) (w := W) (((List.range len).map fun i => (N i).1).map Nd.v) b off m 4
          (fun i j => ([Value.int .i64 (N i).1.kind, .int .i64 (N i).1.num, .string (N i).2, .int .i64 (N i).1.kids][j]?).getD default) (by omega) (by simpa using hlc)
          (fun e he => by obtain ⟨q, _, rfl⟩ := List.mem_map.1 he; rfl) (fun i j e c he hj => hb)
          (fun i j e c he hj => by
            obtain ⟨hi, _⟩ := hget i e he
            obtain ⟨u, hu, _, _⟩ := hcell i j e c he hj
            rw [hu]
            have := (hN i hi).2.2 j u hu
            rwa [Deep.add_add, show (⟨b, off, none⟩ : Addr) = at0 b off from rfl, at0_add, ← Nat.add_assoc] at this)
          (fun i j e c he hj => by obtain ⟨u, hu, _, hs⟩ := hcell i j e c he hj; rw [hu]; exact hs)
          (fun i j e c he hj => by obtain ⟨u, hu, hp, _⟩ := hcell i j e c he hj; rw [hu]; exact hp)
        simp only [List.length_map, List.length_range] at this
        exact this
end
end Go.Proofs.Ytcgkneolohcdeaa


/- A law's row, out of its equation. -/
namespace Go.Proofs.Ytcgkneolohcdeaa
open Go Abs Go.ChangeShapes Go.WideShapes Go.ChangeAt Go.RowKit
set_option linter.unusedVariables false

theorem own : ownKnob Try.prog.godebug = none := by kernel_rfl
theorem laidOut : laidOutB Try.prog = true := by kernel_rfl

/-- A law that is told to be true is true of whatever lies in memory. -/
theorem law_run {g : FuncId} {args : List AV} (hg : g < RB) (hE : G.E g = true) (h : cl g args [] = some (.ret (.bool true), [])) (W : World) (vs : Array Value) (hl : args.length = vs.size)
    (hv : ∀ (j : Nat) c v, args[j]? = some c → vs[j]? = some v → PR (allS W) W c v) (hgl : GlobOK (allS W) W := by (intro g v h; cases h)) : Calls Try.prog g vs W fun e W' => e = .returned (.bool true) ∧ Below W.heap.size W W' := by
  have hs := callL_ok GS primOK hg hE h
  refine (CallsIn.calls (hs (allS W) (fun _ => none) W vs ⟨fun n q hq => (by cases hq), hgl⟩ ⟨fun n o ho => (by cases ho), fun n _ => rfl, fun n m b sz sz' k k' hq => (by cases hq)⟩ (fun b o hb => hb) hl (fun j c v hc hv' =>   .pure (hv j c v hc hv'))) (fun k d hd => by cases hd)).mono fun e W' ⟨S', ρ', hout, hans⟩ => ?_
  cases e with
  | panicked ch => exact hans.elim
  | outgrown => exact hans.elim
  | returned u =>
  have hu : VR S' ρ' W' (.bool true) u := hans
  cases vr_bool hu
  refine ⟨rfl, ?_⟩
  have f := hout.fr
  exact ⟨f.os, f.tape, f.output, f.size, fun k hk => f.keep k hk (fun hF => by obtain ⟨n, sz, k', hq⟩ := hF; cases hq)⟩

theorem nodes_Trod {H : Type} {enc : TypeId × Value → H} {W : World} {a : Option Addr} {len cap : Nat} {d : DataW H} {p : List MemPlace} (h : DataW.Trod enc Try.prog W 0 (fun _ => true) true 22 (.slice a len cap) d p) :
    ∃ l : List Nd, (∀ m ∈ l, m.inR) ∧ PR (allS W) W (nds l) (.slice a len cap) := by
  obtain ⟨n, hn⟩ := h
  obtain ⟨v, l, hv, h1, h2⟩ := nodes_open hn
  have : v = .slice a len cap := by
    have e : (Value.slice a len cap).cells.toList = [.slice a len cap] := rfl
    rw [e] at hv
    exact (List.cons.inj hv).1.symm
  subst this
  exact ⟨l, h1, h2⟩

section
variable {S : Stab} {W : World} {a b c d : AV} {v u x y : Value}
theorem args3 (h1 : PR S W a v) (h2 : PR S W b u) (h3 : PR S W c x) : ∀ (j : Nat) e z, [a, b, c][j]? = some e → #[v, u, x][j]? = some z → PR S W e z := by
  intro j e z hc hx
  match j, hc with
  | 0, hc => cases hc; cases hx; exact h1
  | 1, hc => cases hc; cases hx; exact h2
  | 2, hc => cases hc; cases hx; exact h3
  | j + 3, hc => simp at hc
end
end Go.Proofs.Ytcgkneolohcdeaa


/- What the functions come to: tree.whole. -/
namespace Go.Proofs.Ytcgkneolohcdeaa
open Go Abs
set_option linter.unusedSimpArgs false
set_option linter.unusedVariables false

def zeroSpan : AV := .agg [.int .i64 0, .int .i64 0, .nils]
def st50 (l : List Nd) : ASt := ⟨[(0, nds l), (2, .ptr 1002 0 0), (3, .ptr 1003 0 0)], [(1003, .box 4 (.bool false)), (1002, .box 49 zeroSpan)]⟩
def st50b (l : List Nd) : ASt := ⟨(4, .fn (.func 37) [] [.ptr 1002 0 0, .ptr 1003 0 0]) :: (st50 l).sl, (st50 l).hp⟩
def st50c (l : List Nd) : ASt := ⟨[(4, .fn (.func 37) [] [.ptr 0 0 0, .ptr 1 0 0]), (0, nds l), (2, .ptr 0 0 0), (3, .ptr 1 0 0)], [(0, .box 49 zeroSpan), (1, .box 4 (.bool false))]⟩
def restOf (c : Code) : Code := match splitD c with | some q => q.2.2.2 | none => .skip

def sp3 (x y : Int) (ks : List AV) : AV := .agg [.int .i64 x, .int .i64 y, .list 1 ks]
theorem clo_ok (sl : Slots) (x y : Int) (ks : List AV) : callB G (runClosure G .nili) (some 40000) (.fn (.func 37) [] [.ptr 0 0 0, .ptr 1 0 0]) [] ⟨sl, [(0, .box 49 (sp3 x y ks)), (1, .box 4 (.bool true))]⟩ =
    some (.val (.tup []) ⟨sl, [(0, .box 49 (sp3 x y ks)), (1, .box 4 (.bool true)), (0, .box 49 (sp3 x y ks)), (1, .box 4 (.bool true))]⟩, []) := by kernel_rfl
theorem clo_pan1 (sl : Slots) (x y : Int) (ks : List AV) : callB G (runClosure G oddV) (some 40000) (.fn (.func 37) [] [.ptr 0 0 0, .ptr 1 0 0]) [] ⟨sl, [(0, .box 49 (sp3 x y ks)), (1, .box 4 (.bool false))]⟩ =
    some (.val (.tup []) ⟨sl, [(0, .box 49 zeroSpan), (1, .box 4 (.bool false)), (0, .box 49 (sp3 x y ks)), (1, .box 4 (.bool false))]⟩, []) := by kernel_rfl
theorem clo_pan0 (sl : Slots) : callB G (runClosure G oddV) (some 40000) (.fn (.func 37) [] [.ptr 0 0 0, .ptr 1 0 0]) [] ⟨sl, [(0, .box 49 zeroSpan), (1, .box 4 (.bool false))]⟩ =
    some (.val (.tup []) ⟨sl, [(0, .box 49 zeroSpan), (1, .box 4 (.bool false)), (0, .box 49 zeroSpan), (1, .box 4 (.bool false))]⟩, []) := by kernel_rfl

def sA (c : Code) : Code := match splitD c with | some q => q.1 | none => .skip
def sO (c : Code) : Array Oper := match splitD c with | some q => q.2.1 | none => #[]
def sF (c : Code) : Operand := match splitD c with | some q => q.2.2.1 | none => .func 0
noncomputable abbrev b50 : Code := Try.f21.body.getD .skip
/-- The rest goes well. -/
theorem whole_ok (l : List Nd) (x y : Int) (ks : List AV) (h : codeX G cl lp 21 (restOf (Try.f21.body.getD .skip)) (st50c l) = some (.ret, ⟨[(2, .ptr 0 0 0), (3, .ptr 1 0 0)], [(0, .box 49 (sp3 x y ks)), (1, .box 4 (.bool true))]⟩)) :
    cl 21 [nds l] [] = some (.ret (.tup [sp3 x y ks, .bool true]), []) :=
  call_intro (by decide) rfl (runD_of (fn := Try.f21) (A := sA b50) (ops := sO b50) (f := sF b50) (rest := restOf b50) (s0 := st50 l) (s1 := st50b l) (ns := [1002, 1003]) (x2 := .ret) (rv := .nili) (vs := [sp3 x y ks, .bool true]) (by simp) Try.func21 (by kernel_rfl) (by kernel_rfl) (by kernel_rfl) (by kernel_rfl) (by kernel_rfl) h (by kernel_rfl) rfl (clo_ok _ x y ks) (by kernel_rfl) (by kernel_rfl))
theorem whole_pan0 (l : List Nd) (sl : Slots) (h : codeX G cl lp 21 (restOf (Try.f21.body.getD .skip)) (st50c l) = some (.pan oddV, ⟨[(0, nds l), (2, .ptr 0 0 0), (3, .ptr 1 0 0)], [(0, .box 49 zeroSpan), (1, .box 4 (.bool false))]⟩)) :
    cl 21 [nds l] [] = some (.ret (.tup [zeroSpan, .bool false]), []) :=
  call_intro (by decide) rfl (runD_of (fn := Try.f21) (A := sA b50) (ops := sO b50) (f := sF b50) (rest := restOf b50) (s0 := st50 l) (s1 := st50b l) (ns := [1002, 1003]) (x2 := .pan oddV) (rv := oddV) (vs := [zeroSpan, .bool false]) (by simp) Try.func21 (by kernel_rfl) (by kernel_rfl) (by kernel_rfl) (by kernel_rfl) (by kernel_rfl) h (by kernel_rfl) (by kernel_rfl) (clo_pan0 _) (by kernel_rfl) (by kernel_rfl))
theorem whole_pan1 (l : List Nd) (x y : Int) (ks : List AV) (h : codeX G cl lp 21 (restOf (Try.f21.body.getD .skip)) (st50c l) = some (.pan oddV, ⟨[(2, .ptr 0 0 0), (3, .ptr 1 0 0)], [(0, .box 49 (sp3 x y ks)), (1, .box 4 (.bool false))]⟩)) :
    cl 21 [nds l] [] = some (.ret (.tup [zeroSpan, .bool false]), []) :=
  call_intro (by decide) rfl (runD_of (fn := Try.f21) (A := sA b50) (ops := sO b50) (f := sF b50) (rest := restOf b50) (s0 := st50 l) (s1 := st50b l) (ns := [1002, 1003]) (x2 := .pan oddV) (rv := oddV) (vs := [zeroSpan, .bool false]) (by simp) Try.func21 (by kernel_rfl) (by kernel_rfl) (by kernel_rfl) (by kernel_rfl) (by kernel_rfl) h (by kernel_rfl) (by kernel_rfl) (clo_pan1 _ x y ks) (by kernel_rfl) (by kernel_rfl))

/-- All of it is one value. -/
def wholeS (l : List Nd) : Option Span := (valS l (l.length + 1) 0).bind fun s => if s.stop = l.length then some s else none
def wholeR (l : List Nd) : AV := match wholeS l with | some s => .tup [spanV s, .bool true] | none => .tup [zeroSpan, .bool false]
theorem whole_eq (l : List Nd) (hl : l.length ≤ 900) (hr : ∀ n ∈ l, n.inR) : cl 21 [nds l] [] = some (.ret (wholeR l), []) := by
  have hv : ∀ d (w : ASt), callV G cl d (.fn (.func 38) [] []) [.list 4 (l.map Nd.v), .int .i64 0] w = some (pureR w (valR (valS l (l.length + 1) 0))) := by
    intro d w
    refine callV_pure E38 (by decide) ext38 rfl rfl (value_eq l hl hr (l.length + 1) 0 (by omega)) ?_
    cases valS l (l.length + 1) 0 <;> rfl
  unfold wholeR wholeS
  cases hs : valS l (l.length + 1) 0 with
  | none =>
    refine whole_pan0 l [] ?_
    simp [restOf, Try.f21, splitD, st50c, nds, hv, hs, valR, oddV]
  | some s =>
    simp only [Option.bind_some]
    by_cases he : s.stop = l.length
    · rw [if_pos he]
      have he' : (s.stop : Int) = l.length := by omega
      refine whole_ok l s.stop s.deep (intsL s.kids) ?_
      simp [restOf, Try.f21, splitD, st50c, nds, hv, hs, valR, zeroSpan, spanV, he', need_call_t, sp3]
    · rw [if_neg he]
      have he' : ¬ (s.stop : Int) = l.length := by omega
      refine whole_pan1 l s.stop s.deep (intsL s.kids) ?_
      simp [restOf, Try.f21, splitD, st50c, nds, hv, hs, valR, zeroSpan, spanV, he', need_call_f, sp3, oddV]
end Go.Proofs.Ytcgkneolohcdeaa


/- What the functions come to: tree.Check, tree.Depth. -/
namespace Go.Proofs.Ytcgkneolohcdeaa
open Go Abs
set_option linter.unusedSimpArgs false
set_option linter.unusedVariables false

/-- The error's number. -/
def checkS (l : List Nd) : Int :=
  if 120 < l.length ∨ longS l = true then 4 else match wholeS l with
    | none => 1
    | some s => if 32 < s.deep then 3 else 0

theorem whole_call {l : List Nd} (hl : l.length ≤ 900) (hr : ∀ n ∈ l, n.inR) {d : Option Nat} {st : ASt} : callV G cl d (.fn (.func 21) [] []) [nds l] st = some (.val (wholeR l) st) := by
  refine callV_ret E21 (by decide) ext21 rfl rfl (whole_eq l hl hr) ?_
  unfold wholeR; cases wholeS l <;> rfl

set_option maxHeartbeats 8000000 in
theorem check_eq (l : List Nd) (hb : l.length ≤ 9223372036854775806) (hr : ∀ n ∈ l, n.inR) : cl 8 [nds l] [] = some (.ret (.int .i64 (checkS l)), []) := by
  have hc := fun d st => contains49_call (l := l) hb (d := d) (st := st)
  refine fn_intro Try.func8 rfl (by simp) (by decide) rfl ?_
  simp only [nds] at hc
  by_cases h1 : 120 < l.length
  · have h1' : (120 : Int) < l.length := by omega
    simp [Try.f8, nds, h1']
    exact end_is (.inr rfl) (by simp; rfl) rfl (by simp [checkS, h1])
  have h1' : ¬ (120 : Int) < l.length := by omega
  cases h2 : longS l with
  | true =>
    simp [Try.f8, nds, h1', hc, h2]
    exact end_is (.inr rfl) (by simp; rfl) rfl (by simp [checkS, h2])
  | false =>
    have hw := fun d st => whole_call (l := l) (by omega) hr (d := d) (st := st)
    simp only [nds] at hw
    cases h3 : wholeS l with
    | none =>
      simp [Try.f8, nds, h1', hc, h2, hw, wholeR, h3, zeroSpan]
      exact end_is (.inr rfl) (by simp; rfl) rfl (by simp [checkS, h1, h2, h3])
    | some s =>
      by_cases h4 : 32 < s.deep
      · have h4' : (32 : Int) < s.deep := by omega
        simp [Try.f8, nds, h1', hc, h2, hw, wholeR, h3, spanV, h4']
        exact end_is (.inr rfl) (by simp; rfl) rfl (by simp [checkS, h1, h2, h3, h4])
      · have h4' : ¬ (32 : Int) < s.deep := by omega
        simp [Try.f8, nds, h1', hc, h2, hw, wholeR, h3, spanV, h4']
        exact end_is (.inr rfl) (by simp; rfl) rfl (by simp [checkS, h1, h2, h3, h4])
theorem check_call {l : List Nd} (hb : l.length ≤ 9223372036854775806) (hr : ∀ n ∈ l, n.inR) {d : Option Nat} {st : ASt} : callV G cl d (.fn (.func 8) [] []) [nds l] st = some (.val (.int .i64 (checkS l)) st) :=
  callV_ret E8 (by decide) ext8 rfl rfl (check_eq l hb hr) rfl

theorem checkS_ok {l : List Nd} (h : checkS l = 0) : l.length ≤ 120 ∧ longS l = false ∧ ∃ s, wholeS l = some s ∧ s.deep ≤ 32 := by
  unfold checkS at h
  split at h
  · cases h
  · rename_i hc
    simp only [not_or, Bool.not_eq_true] at hc
    split at h
    · cases h
    · rename_i s hs
      split at h
      · cases h
      · exact ⟨by omega, hc.2, s, hs, by omega⟩
theorem wholeS_some {l : List Nd} {s : Span} (h : wholeS l = some s) : valS l (l.length + 1) 0 = some s ∧ s.stop = l.length := by
  unfold wholeS at h
  rw [Option.bind_eq_some_iff] at h
  obtain ⟨t, h1, h2⟩ := h
  split at h2
  · cases h2; exact ⟨h1, by assumption⟩
  · cases h2

end Go.Proofs.Ytcgkneolohcdeaa


/- What the functions come to: the document's value, gone through. -/
namespace Go.Proofs.Ytcgkneolohcdeaa
open Go Abs
set_option linter.unusedSimpArgs false
set_option linter.unusedVariables false

/-- Numbers, in a row that may be nil. -/
def rowV (l : List Nat) : AV := if l = [] then .nils else .list 1 (intsL l)
@[simp high] theorem rowV_rv {hp l} : (rowV l).rv hp = rowV l := by unfold rowV; split <;> rfl
@[simp high] theorem rowV_names {l} : (rowV l).names = [] := by unfold rowV; split <;> rfl
@[simp high] theorem rowV_rows {l} : (rowV l).rows = [] := by unfold rowV; split <;> rfl
@[simp high] theorem rowV_ren {m l} : (rowV l).ren m = rowV l := by unfold rowV; split <;> rfl
@[simp high] theorem rowV_kill {n l} : (rowV l).kill n = rowV l := by unfold rowV; split <;> rfl
@[simp high] theorem rowV_cells {l} : (rowV l).cells = [rowV l] := by unfold rowV; split <;> rfl
@[simp high] theorem rowV_ok {l} : okCell (rowV l) = true := by unfold rowV; split <;> rfl
@[simp high] theorem rowV_known {l} : (rowV l).known = true := by unfold rowV; split <;> rfl
@[simp high] theorem rowV_beq {l} : AV.beq (rowV l) (rowV l) = true := by
  refine beq_self ?_
  unfold rowV
  split
  · rfl
  · exact plainBL_map (fun a => rfl) l
@[simp high] theorem rowV_src {hp l} : srcEls hp 1 (rowV l) = some (intsL l) := by
  unfold rowV
  split
  · rename_i h; subst h; rfl
  · simp
@[simp] theorem plainBL_ints {l : List Nat} : AV.plainBL (intsL l) = true := plainBL_map (fun a => rfl) l

def seenV (stop deep : Int) (bad : Bool) (kids keys : List Nat) : AV := .agg [.int .i64 stop, .int .i64 deep, .bool bad, rowV kids, rowV keys]
@[simp] theorem nds_beq {l : List Nd} : AV.beqL (l.map Nd.v) (l.map Nd.v) = true := beqL_self (plainBL_map (fun _ => rfl) l)
-- What a loop's head is unfolded by, where there is memory.
attribute [local simp] canonK canonAll canonSlot canonCell canonBox ownStep restrictTo pureCells pureRows reachL AObj.names List.range_succ appendA nds Nd.v  seenV bsvV

end Go.Proofs.Ytcgkneolohcdeaa


/- What the functions come to: the document's value; nodes that may be, either way. -/
namespace Go.Proofs.Ytcgkneolohcdeaa
open Go Abs
set_option linter.unusedSimpArgs false
set_option linter.unusedVariables false

theorem andNot1 {a : Int} (h1 : -9223372036854775808 ≤ a) (h2 : a ≤ 9223372036854775807) : wAndNot .i64 a 1 = 0 ↔ a = 0 ∨ a = 1 := by
  have hbits : IntKind.i64.bits = 64 := rfl
  unfold wAndNot
  rw [hbits]
  have key : ∀ x : BitVec 64, x &&& ~~~(1#64) = 0#64 → x.toNat ≤ 1 := by
    intro x hx
    have e : x = (x &&& 1#64) ||| (x &&& ~~~(1#64)) := by
      ext i hi
      simp only [BitVec.getElem_or, BitVec.getElem_and, BitVec.getElem_not]
      cases x[i] <;> cases (1#64)[i] <;> rfl
    rw [hx, BitVec.or_zero] at e
    have : x.toNat = x.toNat &&& 1 := by
      conv => lhs; rw [e]
      simp
    rw [Nat.and_one_is_mod] at this
    omega
  constructor
  · intro h
    have hlt := (BitVec.ofInt 64 a &&& ~~~BitVec.ofInt 64 1).isLt
    rw [IntKind.wrap_i64] at h
    have h0 : (BitVec.ofInt 64 a &&& ~~~BitVec.ofInt 64 1).toNat = 0 := by omega
    have hz : BitVec.ofInt 64 a &&& ~~~(1#64) = 0#64 := by
      apply BitVec.eq_of_toNat_eq
      simpa using h0
    have := key _ hz
    rw [BitVec.toNat_ofInt] at this
    omega
  · rintro (rfl | rfl) <;> rfl

def mapAt (l : List Nd) (a : Nat) : Bool := match l[a]? with | some n => decide (n.kind = 5) | none => false
attribute [local simp] canonK canonAll canonSlot canonCell canonBox ownStep restrictTo pureCells pureRows reachL AObj.names List.range_succ appendA nds Nd.v  seenV bsvV

end Go.Proofs.Ytcgkneolohcdeaa


/- Values within values: where one is, the same nodes elsewhere are one, too; no program is looked at here. -/
namespace Go.Proofs.Ytcgkneolohcdeaa
open Go Abs
set_option linter.unusedSimpArgs false
set_option linter.unusedVariables false

theorem kidsS_mono {val val' : Nat → Option Span} {l : List Nd} {b : Bool} (h : ∀ st s, val st = some s → val' st = some s) : ∀ {c i s last r}, kidsS val l b c i s last = some r → kidsS val' l b c i s last = some r := by
  intro c
  induction c with
  | zero => intro i s last r hr; exact hr
  | succ c ih =>
    intro i s last r hr
    simp only [kidsS] at hr ⊢
    rw [Option.bind_eq_some_iff] at hr; obtain ⟨p, hp, hr⟩ := hr
    rw [Option.bind_eq_some_iff] at hr; obtain ⟨kid, hk, hr⟩ := hr
    rw [hp, Option.bind_some, h _ _ hk, Option.bind_some]
    exact ih hr
theorem valS_succ {l : List Nd} : ∀ {k a s}, valS l k a = some s → valS l (k + 1) a = some s := by
  intro k
  induction k with
  | zero => intro a s h; cases h
  | succ k ih =>
    intro a s h
    rw [valS] at h ⊢
    rw [Option.bind_eq_some_iff] at h; obtain ⟨n, hn, h⟩ := h
    rw [hn, Option.bind_some]
    split at h
    · rename_i hf
      rw [if_pos hf]
      obtain ⟨r, hr, rfl⟩ := Option.map_eq_some_iff.1 h
      rw [kidsS_mono (fun st s => ih) hr]; rfl
    · cases h
theorem valS_mono {l : List Nd} {k k' a : Nat} {s : Span} (h : valS l k a = some s) (hk : k ≤ k') : valS l k' a = some s := by
  induction hk with
  | refl => exact h
  | step _ ih => exact valS_succ ih

/-- Elsewhere: what began at a begins at b. -/
def Span.at_ (a b : Nat) (s : Span) : Span := ⟨b + (s.stop - a), s.deep, s.kids.map fun x => b + (x - a)⟩

theorem keyS_moved {l l' : List Nd} {a b n : Nat} (h : ∀ i, i < n → l'[b + i]? = l[a + i]?) {m : Bool} {i stop : Nat} {last : List UInt8} {p : Nat × List UInt8} (hp : keyS l m i stop last = some p) (ha : a ≤ stop) (hn : p.1 ≤ a + n) :
    keyS l' m i (b + (stop - a)) last = some (b + (p.1 - a), p.2) := by
  unfold keyS at hp ⊢
  cases m with
  | false => simp only [Bool.false_eq_true, if_false] at hp ⊢; cases hp; rfl
  | true =>
    simp only [if_true] at hp ⊢
    split at hp
    · rename_i k hk
      split at hp
      · rename_i hc
        cases hp
        simp only at hn
        have := h (stop - a) (by omega)
        rw [this, show a + (stop - a) = stop by omega, hk]
        simp only
        rw [if_pos hc, show b + (stop - a) + 1 = b + (stop + 1 - a) by omega]
      · cases hp
    · cases hp
theorem kidsS_moved {val val' : Nat → Option Span} {l l' : List Nd} {a b n : Nat} (h : ∀ i, i < n → l'[b + i]? = l[a + i]?) (hsp : ∀ st s, val st = some s → st < s.stop)
    (hv : ∀ st s, a ≤ st → val st = some s → s.stop ≤ a + n → val' (b + (st - a)) = some (s.at_ st (b + (st - a)))) {m : Bool} : ∀ {c i s last r}, kidsS val l m c i s last = some r → a ≤ s.stop → r.stop ≤ a + n →
    s.stop ≤ r.stop ∧ kidsS val' l' m c i (s.at_ a b) last = some (r.at_ a b) := by
  intro c
  induction c with
  | zero => intro i s last r hr h1 h2; cases hr; exact ⟨Nat.le_refl _, rfl⟩
  | succ c ih =>
    intro i s last r hr h1 h2
    simp only [kidsS] at hr ⊢
    rw [Option.bind_eq_some_iff] at hr; obtain ⟨p, hp, hr⟩ := hr
    rw [Option.bind_eq_some_iff] at hr; obtain ⟨kid, hk, hr⟩ := hr
    have hge := keyS_ge hp
    have hlt := hsp _ _ hk
    obtain ⟨h3, h4⟩ := ih hr (by simp only; omega) h2
    simp only at h3
    refine ⟨by omega, ?_⟩
    have hky := keyS_moved h hp h1 (by omega)
    have hkid := hv p.1 kid (by omega) hk (by omega)
    simp only [Span.at_] at hky hkid h4 ⊢
    rw [hky, Option.bind_some]
    simp only
    rw [hkid, Option.bind_some]
    simp only
    rw [← h4]
    simp only [List.map_append, List.map_cons, List.map_nil]
    rw [show b + (p.1 - a) + (kid.stop - p.1) = b + (kid.stop - a) by omega]
/-- THE SAME NODES ELSEWHERE are the same value. -/
theorem valS_moved {l l' : List Nd} : ∀ {k a b n s}, (∀ i, i < n → l'[b + i]? = l[a + i]?) → valS l k a = some s → s.stop ≤ a + n → valS l' k b = some (s.at_ a b) := by
  intro k
  induction k with
  | zero => intro a b n s h hs; cases hs
  | succ k ih =>
    intro a b n s h hs hn
    have hsp := (valS_spec hs).1
    rw [valS] at hs ⊢
    rw [Option.bind_eq_some_iff] at hs; obtain ⟨d, hd, hs⟩ := hs
    have h0 := h 0 (by omega)
    simp only [Nat.add_zero] at h0
    rw [h0, hd, Option.bind_some]
    split at hs
    · rename_i hf
      rw [if_pos hf]
      obtain ⟨r, hr, rfl⟩ := Option.map_eq_some_iff.1 hs
      simp only at hn hsp
      obtain ⟨_, h2⟩ := kidsS_moved (a := a) (b := b) (n := n) h (fun st s h => (valS_spec h).1) (fun st s' h1 h2 h3 => ih (n := a + n - st) (fun i hi => by
        have := h (st - a + i) (by omega)
        rw [show b + (st - a) + i = b + (st - a + i) by omega, this, show a + (st - a + i) = st + i by omega]) h2 (by omega)) hr (by simp only; omega) hn
      have e : (⟨a + 1, 0, []⟩ : Span).at_ a b = ⟨b + 1, 0, []⟩ := by simp [Span.at_]
      rw [e] at h2
      rw [h2]; rfl
    · cases hs

theorem kidsS_enough {val val' : Nat → Option Span} {l : List Nd} {b : Bool} {A : Nat} (hsp : ∀ st s, val st = some s → st < s.stop) (h : ∀ st s, A ≤ st → val st = some s → val' st = some s) : ∀ {c i s last r}, kidsS val l b c i s last = some r → A ≤ s.stop → kidsS val' l b c i s last = some r := by
  intro c
  induction c with
  | zero => intro i s last r hr _; exact hr
  | succ c ih =>
    intro i s last r hr hA
    simp only [kidsS] at hr ⊢
    rw [Option.bind_eq_some_iff] at hr; obtain ⟨p, hp, hr⟩ := hr
    rw [Option.bind_eq_some_iff] at hr; obtain ⟨kid, hk, hr⟩ := hr
    have := keyS_ge hp
    have := hsp _ _ hk
    rw [hp, Option.bind_some, h _ _ (by omega) hk, Option.bind_some]
    exact ih hr (by simp only; omega)
/-- As many rounds as there are nodes are enough. -/
theorem valS_enough {l : List Nd} : ∀ {k k' a s}, valS l k a = some s → l.length < a + k' → valS l k' a = some s := by
  intro k
  induction k with
  | zero => intro k' a s h; cases h
  | succ k ih =>
    intro k' a s h hk
    have hlt : a < l.length := by have := valS_spec h; omega
    obtain ⟨k', rfl⟩ : ∃ j, k' = j + 1 := ⟨k' - 1, by omega⟩
    rw [valS] at h ⊢
    rw [Option.bind_eq_some_iff] at h; obtain ⟨n, hn, h⟩ := h
    rw [hn, Option.bind_some]
    split at h
    · rename_i hf
      rw [if_pos hf]
      obtain ⟨r, hr, rfl⟩ := Option.map_eq_some_iff.1 h
      rw [kidsS_enough (A := a + 1) (fun st s hs => (valS_spec hs).1) (fun st s h1 h2 => ih h2 (by omega)) hr (by simp)]; rfl
    · cases h

/-- A text, alone, is a value. -/
theorem valS_leaf {l : List Nd} {a k : Nat} {n : Nd} (hn : l[a]? = some n) (hf : fitsS n = true) (hk : n.kind = 3) : valS l (k + 1) a = some ⟨a + 1, 1, []⟩ := by
  have h0 : n.kids = 0 := by
    unfold fitsS at hf
    simp only [hk] at hf
    simp at hf
    exact hf.2
  rw [valS, hn, Option.bind_some, if_pos hf, h0]
  rfl

theorem kidsS_inner {val : Nat → Option Span} {l : List Nd} {a : Nat} {m : Bool} (Q : Nat → Nat → Prop) (hsp : ∀ st s, val st = some s → st < s.stop)
    (hv : ∀ st s, val st = some s → st ≤ a → a < s.stop → Q s.stop s.deep) (hkey : ∀ n, l[a]? = some n → fitsS n = true → n.kind = 3 → Q (a + 1) 1) : ∀ {c i s last r}, kidsS val l m c i s last = some r → s.stop ≤ a → a < r.stop → ∃ x d, Q x d ∧ x ≤ r.stop ∧ d ≤ max 1 r.deep := by
  intro c
  induction c with
  | zero => intro i s last r hr h1 h2; cases hr; omega
  | succ c ih =>
    intro i s last r hr h1 h2
    simp only [kidsS] at hr
    rw [Option.bind_eq_some_iff] at hr; obtain ⟨p, hp, hr⟩ := hr
    rw [Option.bind_eq_some_iff] at hr; obtain ⟨kid, hk, hr⟩ := hr
    have hstop : ∀ {c i s last r}, kidsS val l m c i s last = some r → s.stop ≤ r.stop ∧ s.deep ≤ r.deep := by
      intro c
      induction c with
      | zero => intro i s last r hr; cases hr; exact ⟨Nat.le_refl _, Nat.le_refl _⟩
      | succ c ih =>
        intro i s last r hr
        simp only [kidsS] at hr
        rw [Option.bind_eq_some_iff] at hr; obtain ⟨p, hp, hr⟩ := hr
        rw [Option.bind_eq_some_iff] at hr; obtain ⟨kid, hk, hr⟩ := hr
        have := keyS_ge hp
        have := hsp _ _ hk
        have := ih hr
        simp only at this
        omega
    have hge := keyS_ge hp
    have hlt := hsp _ _ hk
    have hst := hstop hr
    simp only at hst
    by_cases h3 : kid.stop ≤ a
    · exact ih hr h3 h2
    · by_cases h4 : p.1 ≤ a
      · exact ⟨_, _, hv _ _ hk h4 (by omega), by omega, by omega⟩
      · -- a key
        have : m = true ∧ p.1 = s.stop + 1 ∧ ∃ n, l[s.stop]? = some n ∧ n.kind = 3 ∧ fitsS n = true := by
          unfold keyS at hp
          split at hp
          · rename_i hm
            split at hp
            · rename_i n hn
              split at hp
              · rename_i hc
                cases hp
                exact ⟨hm, rfl, n, hn, hc.1, hc.2.1⟩
              · cases hp
            · cases hp
          · cases hp; omega
        obtain ⟨_, h5, n, h6, h7, h8⟩ := this
        obtain rfl : s.stop = a := by omega
        exact ⟨_, _, hkey n h6 h8 h7, by omega, by omega⟩
/-- WITHIN A VALUE each node is the beginning of one. -/
theorem valS_inner {l : List Nd} {a : Nat} : ∀ {k b s}, valS l k b = some s → b ≤ a → a < s.stop → ∃ s', valS l k a = some s' ∧ s'.stop ≤ s.stop ∧ s'.deep ≤ s.deep := by
  intro k
  induction k with
  | zero => intro b s h; cases h
  | succ k ih =>
    intro b s h h1 h2
    by_cases hab : a = b
    · subst hab; exact ⟨s, h, Nat.le_refl _, Nat.le_refl _⟩
    · have h' := h
      rw [valS, Option.bind_eq_some_iff] at h'
      obtain ⟨n, hn, h'⟩ := h'
      split at h'
      · obtain ⟨r, hr, rfl⟩ := Option.map_eq_some_iff.1 h'
        simp only at h2 ⊢
        obtain ⟨x, d, ⟨s', hq, hx, hd⟩, h3, h4⟩ := kidsS_inner (a := a) (fun x d => ∃ s', valS l (k + 1) a = some s' ∧ s'.stop ≤ x ∧ s'.deep ≤ d) (fun st s hs => (valS_spec hs).1)
          (fun st s hs h5 h6 => by
            obtain ⟨s', h7, h8, h9⟩ := ih hs h5 h6
            exact ⟨s', valS_succ h7, h8, h9⟩)
          (fun n hn hf hk => ⟨_, valS_leaf hn hf hk, Nat.le_refl _, Nat.le_refl _⟩) hr (by simp only; omega) h2
        exact ⟨s', hq, by omega, by omega⟩
      · cases h'

/-- The nodes of a value that was gone through. -/
def cutS (l : List Nd) (a stop : Nat) : List Nd := (l.take stop).drop a
theorem cutS_length {l : List Nd} {a e : Nat} (h : e ≤ l.length) : (cutS l a e).length = e - a := by unfold cutS; simp; omega
theorem cutS_get {l : List Nd} {a e i : Nat} (h : i < e - a) : (cutS l a e)[0 + i]? = l[a + i]? := by
  unfold cutS
  rw [List.getElem?_drop, List.getElem?_take, if_pos (by omega), Nat.zero_add]
theorem cutS_mem {l : List Nd} {a e : Nat} {n : Nd} (h : n ∈ cutS l a e) : n ∈ l := List.mem_of_mem_take (List.mem_of_mem_drop h)
/-- A value, cut out, is one, as deep. -/
theorem cutS_whole {l : List Nd} {k a : Nat} {s : Span} (h : valS l k a = some s) : wholeS (cutS l a s.stop) = some (s.at_ a 0) := by
  obtain ⟨h1, h2, h3⟩ := valS_spec h
  have hl := cutS_length (l := l) (a := a) h2
  have hm := valS_moved (l' := cutS l a s.stop) (b := 0) (n := s.stop - a) (fun i hi => cutS_get hi) h (by omega)
  unfold wholeS
  -- enough rounds
  have : valS (cutS l a s.stop) ((cutS l a s.stop).length + 1) 0 = some (s.at_ a 0) := by
    exact valS_enough hm (by omega)
  rw [this, Option.bind_some, if_pos (by rw [hl]; simp [Span.at_])]
theorem cutS_check {l : List Nd} {k a : Nat} {s : Span} (h : valS l k a = some s) (hc : checkS l = 0) (hd : s.deep ≤ 32) : checkS (cutS l a s.stop) = 0 := by
  obtain ⟨h1, h2, _⟩ := checkS_ok hc
  obtain ⟨_, g2, _⟩ := valS_spec h
  unfold checkS
  rw [cutS_whole h, cutS_length g2]
  have hlg : longS (cutS l a s.stop) = false := by
    unfold longS at h2 ⊢
    rw [List.any_eq_false] at h2 ⊢
    exact fun n hn => h2 n (cutS_mem hn)
  rw [if_neg (by rw [hlg]; simp; omega)]
  exact if_neg (show ¬ 32 < (s.at_ a 0).deep from by simp only [Span.at_]; omega)
theorem checkS_inner {l : List Nd} (hc : checkS l = 0) {a : Nat} (ha : a < l.length) : ∃ s, valS l (l.length + 1) a = some s ∧ s.stop ≤ l.length ∧ s.deep ≤ 32 := by
  obtain ⟨h1, h2, s, h3, h4⟩ := checkS_ok hc
  obtain ⟨h5, h6⟩ := wholeS_some h3
  obtain ⟨s', h7, h8, h9⟩ := valS_inner h5 (Nat.zero_le a) (by omega)
  exact ⟨s', h7, by omega, by omega⟩
end Go.Proofs.Ytcgkneolohcdeaa


/- What the functions come to: tree.there, tree.Sub, tree.Kids, and the document's. -/
namespace Go.Proofs.Ytcgkneolohcdeaa
open Go Abs
set_option linter.unusedSimpArgs false
set_option linter.unusedVariables false

def thereS (l : List Nd) (a : Int) : Bool := decide (checkS l = 0) && (decide (0 ≤ a) && decide (a < l.length))
set_option maxHeartbeats 8000000 in
theorem there_eq (l : List Nd) (hb : l.length ≤ 9223372036854775806) (hr : ∀ n ∈ l, n.inR) (a : Int) : cl 86 [nds l, .int .i64 a] [] = some (.ret (.bool (thereS l a)), []) := by
  have hc := fun d st => check_call (l := l) hb hr (d := d) (st := st)
  simp only [nds] at hc
  refine fn_intro Try.func86 rfl (by simp) (by decide) rfl ?_
  by_cases h : checkS l = 0
  · by_cases h2 : 0 ≤ a
    · simp [Try.f86, nds, hc, h, h2]
      exact end_is (.inr rfl) (by simp; rfl) rfl (by simp [thereS, h, h2])
    · simp [Try.f86, nds, hc, h, h2]
      exact end_is (.inr rfl) (by simp; rfl) rfl (by simp [thereS, h, h2])
  · simp [Try.f86, nds, hc, h]
    exact end_is (.inr rfl) (by simp; rfl) rfl (by simp [thereS, h])
theorem there_call {l : List Nd} (hb : l.length ≤ 9223372036854775806) (hr : ∀ n ∈ l, n.inR) {a : Int} {d : Option Nat} {st : ASt} : callV G cl d (.fn (.func 86) [] []) [nds l, .int .i64 a] st = some (.val (.bool (thereS l a)) st) :=
  callV_ret E86 (by decide) ext86 rfl rfl (there_eq l hb hr a) rfl
theorem thereS_nat {l : List Nd} {a : Int} (h : thereS l a = true) : checkS l = 0 ∧ ∃ k : Nat, a = k ∧ k < l.length := by
  unfold thereS at h
  simp only [Bool.and_eq_true, decide_eq_true_eq] at h
  exact ⟨h.1, a.toNat, by omega, by omega⟩

/-! Cloned, where there is something. -/
set_option maxHeartbeats 8000000 in
theorem clone54_eq (n : Nd) (l : List Nd) (hb : l.length + 1 ≤ 1000) : cl 87 [nds (n :: l)] [] = some (.ret (nds (n :: l)), []) := by
  have hL : l.length + 1 ≤ LIM := by unfold LIM; omega
  refine fn_intro Try.func87 rfl (by simp) (by decide) rfl ?_
  simp [Try.f87, nds, binO, binv, eqv, appendA, hL]
  exact end_rv (.inr rfl) (by simp [resL]; rfl) rfl (by simp) rfl
theorem clone54_call {l : List Nd} (h : l ≠ []) (hb : l.length ≤ 1000) {d : Option Nat} {st : ASt} : callV G cl d (.fn (.func 87) [] []) [nds l] st = some (.val (nds l) st) := by
  cases l with
  | nil => exact absurd rfl h
  | cons n l => exact callV_ret E87 (by decide) ext87 rfl rfl (clone54_eq n l hb) rfl

theorem val_call {l : List Nd} {a : Nat} {s : Span} (hl : l.length ≤ 900) (hr : ∀ n ∈ l, n.inR) (h : valS l (l.length + 1) a = some s) (d : Option Nat) (w : ASt) : callV G cl d (.fn (.func 38) [] []) [nds l, .int .i64 (a : Int)] w = some (.val (spanV s) w) := by
  refine callV_ret E38 (by decide) ext38 rfl rfl ?_ rfl
  have := value_eq l hl hr (l.length + 1) a (by omega)
  rw [h] at this; exact this
/-- The nodes of the value at a place, if there is one. -/
def subS (l : List Nd) (a : Int) : Option (List Nd) := if thereS l a then (valS l (l.length + 1) a.toNat).map fun s => cutS l a.toNat s.stop else none
def rowO : Option (List Nd) → AV
  | some m => nds m
  | none => .nils
theorem nds_cut (l : List Nd) (a e : Nat) : nds (cutS l a e) = .list 4 (((l.map Nd.v).take e).drop a) := by simp [nds, cutS]
theorem cutS_ne {l : List Nd} {a e : Nat} (h1 : a < e) (h2 : e ≤ l.length) : cutS l a e ≠ [] := by
  intro h
  have := cutS_length (l := l) (a := a) h2
  rw [h] at this; simp at this; omega

set_option maxHeartbeats 8000000 in
theorem sub_eq (l : List Nd) (hb : l.length ≤ 9223372036854775806) (hr : ∀ n ∈ l, n.inR) (a : Int) : cl 63 [nds l, .int .i64 a] [] = some (.ret (rowO (subS l a)), []) := by
  have hc := fun d st => there_call (l := l) hb hr (a := a) (d := d) (st := st)
  refine fn_intro Try.func63 rfl (by simp) (by decide) rfl ?_
  cases h : thereS l a with
  | false =>
    simp [Try.f63, hc, h]
    exact end_is (.inr rfl) (by simp; rfl) rfl (by simp [subS, h, rowO])
  | true =>
    obtain ⟨h0, k, rfl, h1⟩ := thereS_nat h
    obtain ⟨s, h2, h3, h4⟩ := checkS_inner h0 h1
    obtain ⟨h5, _, _⟩ := checkS_ok h0
    obtain ⟨g1, _, _⟩ := valS_spec h2
    have hv := val_call (by omega) hr h2
    have hcl := fun d st => clone54_call (l := cutS l k s.stop) (cutS_ne g1 h3) (by rw [cutS_length h3]; omega) (d := d) (st := st)
    rw [nds_cut] at hcl
    have hk : (k : Int) ≤ s.stop := by omega
    have hk2 : (s.stop : Int) ≤ l.length := by omega
    simp only [nds] at hc hv
    have e1 : k ≤ s.stop := by omega
    simp [Try.f63, nds, hc, h, hv, spanV, e1, h3, hcl]
    exact end_is (.inr rfl) (by simp; rfl) rfl (by simp [subS, h, h2, rowO, nds_cut])

theorem sub_call {l : List Nd} (hb : l.length ≤ 9223372036854775806) (hr : ∀ n ∈ l, n.inR) {a : Int} {d : Option Nat} {st : ASt} : callV G cl d (.fn (.func 63) [] []) [nds l, .int .i64 a] st = some (.val (rowO (subS l a)) st) :=
  callV_ret E63 (by decide) ext63 rfl rfl (sub_eq l hb hr a) (by cases subS l a <;> rfl)

/-- Where the kids of the value at a place begin, if there is one. -/
def kidsAt (l : List Nd) (a : Int) : Option (List Nat) := if thereS l a then (valS l (l.length + 1) a.toNat).map (·.kids) else none
def intsO : Option (List Nat) → AV
  | some m => .list 1 (intsL m)
  | none => .nils
set_option maxHeartbeats 8000000 in
theorem kids_eq (l : List Nd) (hb : l.length ≤ 9223372036854775806) (hr : ∀ n ∈ l, n.inR) (a : Int) : cl 62 [nds l, .int .i64 a] [] = some (.ret (intsO (kidsAt l a)), []) := by
  have hc := fun d st => there_call (l := l) hb hr (a := a) (d := d) (st := st)
  refine fn_intro Try.func62 rfl (by simp) (by decide) rfl ?_
  cases h : thereS l a with
  | false =>
    simp [Try.f62, hc, h]
    exact end_is (.inr rfl) (by simp; rfl) rfl (by simp [kidsAt, h, intsO])
  | true =>
    obtain ⟨h0, k, rfl, h1⟩ := thereS_nat h
    obtain ⟨s, h2, h3, h4⟩ := checkS_inner h0 h1
    obtain ⟨h5, _, _⟩ := checkS_ok h0
    have hv := val_call (by omega) hr h2
    simp [Try.f62, hc, h, hv, spanV]
    exact end_is (.inr rfl) (by simp; rfl) rfl (by simp [kidsAt, h, h2, intsO])
theorem kids_call {l : List Nd} (hb : l.length ≤ 9223372036854775806) (hr : ∀ n ∈ l, n.inR) {a : Int} {d : Option Nat} {st : ASt} : callV G cl d (.fn (.func 62) [] []) [nds l, .int .i64 a] st = some (.val (intsO (kidsAt l a)) st) :=
  callV_ret E62 (by decide) ext62 rfl rfl (kids_eq l hb hr a) (by cases kidsAt l a <;> rfl)

/-! Ints -/
end Go.Proofs.Ytcgkneolohcdeaa


/- What the functions come to: a map's keys, gone through by a function: tree.members, tree.Keys. -/
namespace Go.Proofs.Ytcgkneolohcdeaa
open Go Abs
set_option linter.unusedSimpArgs false
set_option linter.unusedVariables false

/-- A call that is handed memory, told by its answer. -/
theorem callB_of {d : Option Nat} {g : FuncId} {first caps args pre : List AV} {st st1 st3 : ASt} {ns : List Nat} {y : ARes × Heap} (hE : G.E g = true) (hg : g < RB) (hpre : prepL G g st.hp (first ++ args ++ caps) 0 = pre)
    (hst : st.fix (prepRows G g (first ++ args ++ caps) 0) = st1) (hns : reachL 40 st1.hp (AV.namesL pre) [] = ns) (hall : (ns.all fun n => (aget st1.hp n).isSome) = true)
    (hc : cl g (AV.renL (toMap ns) pre) (subHeap ns st1.hp) = some y) (ha : afterCall d ns st1 y.2 = some st3) : callB G cl d (.fn (.func g) first caps) args st = some (answered (backMap ns d y.2) st3 y.1, movedOf ns y.2) := by
  simp only [callB, hpre, hst, hns, hE, hg, hall, decide_true, Bool.and_true, if_true, hc, Option.bind_some, ha, Option.map_some]
theorem callV_of {d : Option Nat} {g : FuncId} {first caps args pre : List AV} {st st1 st3 : ASt} {ns : List Nat} {y : ARes × Heap} (hE : G.E g = true) (hg : g < RB) (hx : G.ext g = none) (hpre : prepL G g st.hp (first ++ args ++ caps) 0 = pre)
    (hst : st.fix (prepRows G g (first ++ args ++ caps) 0) = st1) (hns : reachL 40 st1.hp (AV.namesL pre) [] = ns) (hall : (ns.all fun n => (aget st1.hp n).isSome) = true)
    (hc : cl g (AV.renL (toMap ns) pre) (subHeap ns st1.hp) = some y) (ha : afterCall d ns st1 y.2 = some st3) {r : AR} (hr : answered (backMap ns d y.2) st3 y.1 = r) : callV G cl d (.fn (.func g) first caps) args st = some r := by
  unfold callV extA
  simp only [hx, Option.bind_none]
  unfold callA
  rw [callB_of hE hg hpre hst hns hall hc ha, Option.map_some, hr]
/-- A round that is called, told by its answer. -/
theorem callV_yld {d : Option Nat} {id j : Nat} {args pre : List AV} {st st1 st3 : ASt} {ns : List Nat} {y : ARes × Heap} (hpre : AV.rvL st.hp args = pre)
    (hst : st.fix (AV.rowsL args) = st1) (hns : reachL 40 st1.hp (id :: AV.namesL pre) [] = ns) (hall : (ns.all fun n => (aget st1.hp n).isSome) = true) (hj : aget (toMap ns) id = some j)
    (hc : cl (RB + j) (AV.renL (toMap ns) pre) (subHeap ns st1.hp) = some y) (ha : afterCall d ns st1 y.2 = some st3) {r : AR} (hr : answered (backMap ns d y.2) st3 y.1 = r) : callV G cl d (.yld id) args st = some r := by
  unfold callV extA
  simp only []
  unfold callA callB
  simp only [hpre, hst, hns, hall, if_true, hj, Option.bind_some, hc, ha, Option.map_some, hr]

/-- The first loop over a function in some code. -/
def rfsOf : Code → List (Operand × Array Nat × Code × Code)
  | .seq a b => rfsOf a ++ rfsOf b
  | .cond _ a b => rfsOf a ++ rfsOf b
  | .block _ b => rfsOf b
  | .rangeFunc g ps asg body => [(g, ps, asg, body)]
  | _ => []
noncomputable def rcOf (g : FuncId) (f : Func) (st : LoopState) (p : Option Code) : LRec :=
  match rfsOf (f.body.getD .skip) with
  | (_, ps, asg, body) :: _ => ⟨g, G.ntm g, ps, asg, body, st, p⟩
  | [] => default

def strsL (l : List (List UInt8)) : List AV := l.map .str
noncomputable abbrev rec28 : LRec := rcOf 61 Try.f61 .ready none
theorem rok28 : G.roundOK rec28 = true := by kernel_rfl
noncomputable def hp28 (l : List Nd) (a : Int) (out : List (List UInt8)) (mv : Bool) : Heap :=
  [(0, .loop rec28 [(5, .ptr 1 0 0), (9, .fn (.func 96) [] [.ptr 2 0 0, .ptr 3 0 0]), (10, .undef)]), (1, .box 39 (.own 4)), (2, .box 22 (nds l)), (3, .box 3 (.int .i64 a)), (4, .row 1 (strsL out) false ⟨mv, 9⟩)]
set_option maxHeartbeats 8000000 in
theorem round28_0 (l : List Nd) (a p : Int) (k : List UInt8) : cl RB [.str k, .int .i64 p] [(0, .loop rec28 [(5, .ptr 1 0 0), (9, .fn (.func 96) [] [.ptr 2 0 0, .ptr 3 0 0]), (10, .undef)]), (1, .box 39 .nils), (2, .box 22 (nds l)), (3, .box 3 (.int .i64 a))] =
    some (.ret (.bool true), [(0, .loop rec28 [(5, .ptr 1 0 0), (9, .fn (.func 96) [] [.ptr 2 0 0, .ptr 3 0 0]), (10, .undef)]), (1, .box 39 (.own 1015)), (2, .box 22 (nds l)), (3, .box 3 (.int .i64 a)), (1015, .row 1 [.str k] false ⟨false, 9⟩)]) := by
  have : RB = RB + 0 := rfl
  rw [this]
  exact round_intro (by kernel_rfl)
set_option maxHeartbeats 8000000 in
theorem round28_1 (l : List Nd) (a p : Int) (k : List UInt8) (out : List (List UInt8)) (ho : out.length ≤ 1000) : cl RB [.str k, .int .i64 p] (hp28 l a out false) = some (.ret (.bool true), hp28 l a (out ++ [k]) true) := by
  have : RB = RB + 0 := rfl
  rw [this]
  have hL : out.length + 1 ≤ LIM := by unfold LIM; omega
  have hr := rok28
  refine round_intro ?_
  unfold runRound
  unfold rec28 rcOf at hr
  simp [hp28, rec28, rcOf, rfsOf, Try.f61] at hr ⊢
  simp [hr, appendA, strsL, hL]
  rfl

/-! Seen from the function that goes through them. -/
noncomputable def hpA (l : List Nd) (a : Int) : Heap := [(0, .loop rec28 [(5, .ptr 3 0 0), (9, .fn (.func 96) [] [.ptr 1 0 0, .ptr 2 0 0]), (10, .undef)]), (1, .box 22 (nds l)), (2, .box 3 (.int .i64 a)), (3, .box 39 .nils)]
noncomputable def hpB (l : List Nd) (a : Int) (out : List (List UInt8)) (mv : Bool) : Heap := [(0, .loop rec28 [(5, .ptr 3 0 0), (9, .fn (.func 96) [] [.ptr 1 0 0, .ptr 2 0 0]), (10, .undef)]), (1, .box 22 (nds l)), (2, .box 3 (.int .i64 a)), (3, .box 39 (.own 1016000035)), (1016000035, .row 1 (strsL out) false ⟨mv, 9⟩)]
noncomputable def hpA' (l : List Nd) (a : Int) (k : List UInt8) : Heap :=
  [(0, .loop rec28 [(5, .ptr 3 0 0), (9, .fn (.func 96) [] [.ptr 1 0 0, .ptr 2 0 0]), (10, .undef)]), (3, .box 39 (.own 1016000035)), (1, .box 22 (nds l)), (2, .box 3 (.int .i64 a)), (1016000035, .row 1 [.str k] false ⟨false, 9⟩)] ++ hpA l a
noncomputable def hpB' (l : List Nd) (a : Int) (out : List (List UInt8)) (k : List UInt8) (mv : Bool) : Heap :=
  [(0, .loop rec28 [(5, .ptr 3 0 0), (9, .fn (.func 96) [] [.ptr 1 0 0, .ptr 2 0 0]), (10, .undef)]), (3, .box 39 (.own 1016000035)), (1, .box 22 (nds l)), (2, .box 3 (.int .i64 a)), (1016000035, .row 1 (strsL (out ++ [k])) false ⟨true, 9⟩)] ++
  [(0, .loop rec28 [(5, .ptr 3 0 0), (9, .fn (.func 96) [] [.ptr 1 0 0, .ptr 2 0 0]), (10, .undef)]), (1, .box 22 (nds l)), (2, .box 3 (.int .i64 a)), (3, .box 39 .undef), (1016000035, .row 1 (strsL out) false ⟨mv, 9⟩)]
theorem yield_A (l : List Nd) (a p : Int) (k : List UInt8) (sl : Slots) : callV G cl (some 35) (.yld 0) [.str k, .int .i64 p] ⟨sl, hpA l a⟩ = some (.val (.bool true) ⟨sl, hpA' l a k⟩) :=
  callV_yld (st1 := ⟨sl, hpA l a⟩) (ns := [0, 3, 1, 2]) (j := 0) (pre := [.str k, .int .i64 p]) rfl rfl rfl rfl rfl (by exact round28_0 l a p k) (by kernel_rfl) rfl
theorem yield_B (l : List Nd) (a p : Int) (k : List UInt8) (out : List (List UInt8)) (ho : out.length ≤ 1000) (mv : Bool) (sl : Slots) : callV G cl (some 35) (.yld 0) [.str k, .int .i64 p] ⟨sl, hpB l a out mv⟩ = some (.val (.bool true) ⟨sl.map fun p => (p.1, p.2.kill 1016000035), hpB' l a out k mv⟩) := by
  cases mv <;>
  exact callV_yld (st1 := ⟨sl, hpB l a out _⟩) (ns := [0, 3, 1, 2, 1016000035]) (j := 0) (pre := [.str k, .int .i64 p]) rfl rfl rfl rfl rfl (by exact round28_1 l a p k out ho) (by kernel_rfl) rfl

def sl85 (kids : List Nat) (i : Nat) : Slots := [(0, .yld 0), (1, .ptr 1 0 0), (21, .list 1 (intsL kids)), (22, .int .i64 kids.length), (23, .int .i64 i)]
-- What a loop's head is unfolded by, where there is memory.
attribute [local simp] canonK canonAll canonSlot canonCell canonBox ownStep restrictTo pureCells pureRows reachL AObj.names List.range_succ appendA
set_option maxHeartbeats 8000000 in
theorem round85_A (l : List Nd) (a : Int) (ks : List Nat) (q : Nat) (hk : (q :: ks).length ≤ 1000) (hq0 : 0 < q) (hq1 : q ≤ 1000) (n : Nd) (hn : l[q - 1]? = some n) :
    rX 96 (lc Try.f96 0) (codeX G cl lp 96 (lc Try.f96 0) ⟨sl85 (q :: ks) 0, hpA l a⟩) = some (.normal, ⟨sl85 (q :: ks) 1, hpB l a [n.text] false⟩) := by
  have hw : IntKind.i64.wrap ((q : Int) - 1) = ((q - 1 : Nat) : Int) := by rw [i64_wrap (by omega) (by omega)]; omega
  have hy := fun sl => yield_A l a q n.text sl
  have hw1 : IntKind.i64.wrap 1 = 1 := rfl
  have hpos : (0 : Int) < (ks.length : Int) + 1 := by omega
  simp only [hpA] at hy
  simp [lc, loopsOf, Try.f96, sl85, hpA]
  simp [intsL, nds, Nd.v, hw, hn, hpos]
  simp only [nds] at hy
  simp [hy, hpA', hpA, nds]
  exact ⟨rfl, rfl⟩
set_option maxHeartbeats 8000000 in
theorem round85_B (l : List Nd) (a : Int) (kids : List Nat) (hk : kids.length ≤ 1000) (i q : Nat) (hi : kids[i]? = some q) (hq0 : 0 < q) (hq1 : q ≤ 1000) (n : Nd) (hn : l[q - 1]? = some n) (out : List (List UInt8)) (ho : out.length ≤ 1000) (mv : Bool) :
    rX 96 (lc Try.f96 0) (codeX G cl lp 96 (lc Try.f96 0) ⟨sl85 kids i, hpB l a out mv⟩) = some (.normal, ⟨sl85 kids (i + 1), hpB l a (out ++ [n.text]) true⟩) := by
  have hlt : i < kids.length := (List.getElem?_eq_some_iff.1 hi).1
  have hw : IntKind.i64.wrap ((q : Int) - 1) = ((q - 1 : Nat) : Int) := by rw [i64_wrap (by omega) (by omega)]; omega
  have hw1 : IntKind.i64.wrap ((i : Int) + 1) = (i : Int) + 1 := i64_wrap (by omega) (by omega)
  have hy := fun sl => yield_B l a q n.text out ho mv sl
  simp only [hpB, nds] at hy
  simp [lc, loopsOf, Try.f96, sl85, hpB]
  have e : kids[i] = q := (List.getElem?_eq_some_iff.1 hi).2
  simp [intsL, nds, Nd.v, hw, hn, hlt, e, hw1]
  simp [hy, hpB', nds]
  exact ⟨hw1, rfl⟩
theorem exit85 (l : List Nd) (a : Int) (kids : List Nat) (i : Nat) (hi : kids.length ≤ i) (hp : Heap) :
    rX 96 (lc Try.f96 0) (codeX G cl lp 96 (lc Try.f96 0) ⟨sl85 kids i, hp⟩) = some (.exit 0, ⟨sl85 kids i ++ [(24, .bool false)], hp⟩) := by
  have h1 : ¬ i < kids.length := by omega
  simp [lc, loopsOf, Try.f96, sl85, h1]

/-- The texts ahead of the places. -/
def textsS (l : List Nd) (kids : List Nat) : List (List UInt8) := kids.map fun q => ((l[q - 1]?).map (·.text)).getD []
def goodK (l : List Nd) (kids : List Nat) : Prop := kids.length ≤ 1000 ∧ ∀ q ∈ kids, 0 < q ∧ q ≤ 1000 ∧ q - 1 < l.length
theorem loop85_B (l : List Nd) (a : Int) (kids : List Nat) (hk : goodK l kids) : ∀ (c i : Nat) (mv : Bool), i + c = kids.length → ∃ mv' sl, lp 96 (lc Try.f96 0) ⟨sl85 kids i, hpB l a (textsS l (kids.take i)) mv⟩ = some (.exit 0, ⟨sl, hpB l a (textsS l kids) mv'⟩) := by
  intro c
  induction c with
  | zero =>
    intro i mv hi
    refine ⟨mv, sl85 kids i ++ [(24, .bool false)], loop_out ?_ (by simp)⟩
    rw [List.take_of_length_le (by omega)]
    exact exit85 l a kids i (by omega) _
  | succ c ih =>
    intro i mv hi
    have hlt : i < kids.length := by omega
    have hq : kids[i]? = some kids[i] := List.getElem?_eq_getElem hlt
    obtain ⟨q1, q2, q3⟩ := hk.2 kids[i] (List.getElem_mem hlt)
    have hn : l[kids[i] - 1]? = some l[kids[i] - 1] := List.getElem?_eq_getElem q3
    have h := round85_B l a kids hk.1 i kids[i] hq q1 q2 _ hn (textsS l (kids.take i)) (by simp [textsS]; have := hk.1; omega) mv
    have e : textsS l (kids.take i) ++ [l[kids[i] - 1].text] = textsS l (kids.take (i + 1)) := by
      rw [List.take_add_one, hq]
      simp only [textsS, Option.toList_some, List.map_append, List.map_cons, List.map_nil, hn, Option.map_some, Option.getD_some]
    rw [e] at h
    obtain ⟨mv', sl, hx⟩ := ih (i + 1) true (by omega)
    exact ⟨mv', sl, loop_next h hx⟩
theorem loop85 (l : List Nd) (a : Int) (kids : List Nat) (hk : goodK l kids) : ∃ mv sl, lp 96 (lc Try.f96 0) ⟨sl85 kids 0, hpA l a⟩ = some (.exit 0, ⟨sl, if kids = [] then hpA l a else hpB l a (textsS l kids) mv⟩) := by
  cases kids with
  | nil =>
    refine ⟨false, sl85 [] 0 ++ [(24, .bool false)], loop_out ?_ (by simp)⟩
    exact exit85 l a [] 0 (by simp) _
  | cons q ks =>
    obtain ⟨q1, q2, q3⟩ := hk.2 q (by simp)
    have hn : l[q - 1]? = some l[q - 1] := List.getElem?_eq_getElem q3
    have h := round85_A l a ks q hk.1 q1 q2 _ hn
    obtain ⟨mv', sl, hx⟩ := loop85_B l a (q :: ks) hk ks.length 1 false (by simp; omega)
    have e : textsS l ((q :: ks).take 1) = [l[q - 1].text] := by simp [textsS, hn]
    rw [e] at hx
    exact ⟨mv', sl, by rw [if_neg (by simp)]; exact loop_next h hx⟩

theorem there_c {l : List Nd} (hb : l.length ≤ 9223372036854775806) (hr : ∀ n ∈ l, n.inR) {a : Int} {d : Option Nat} {st : ASt} : callV G cl d (.fn (.func 86) [] []) [.list 4 (l.map Nd.v), .int .i64 a] st = some (.val (.bool (thereS l a)) st) := there_call hb hr
theorem kidsS_pos {val : Nat → Option Span} {l : List Nd} {m : Bool} (hsp : ∀ st s, val st = some s → st < s.stop ∧ s.stop ≤ l.length) : ∀ {c i s last r}, kidsS val l m c i s last = some r → 0 < s.stop → (∀ q ∈ s.kids, 0 < q ∧ q < l.length) → ∀ q ∈ r.kids, 0 < q ∧ q < l.length := by
  intro c
  induction c with
  | zero => intro i s last r hr h1 h2; cases hr; exact h2
  | succ c ih =>
    intro i s last r hr h1 h2
    simp only [kidsS] at hr
    rw [Option.bind_eq_some_iff] at hr; obtain ⟨p, hp, hr⟩ := hr
    rw [Option.bind_eq_some_iff] at hr; obtain ⟨kid, hk, hr⟩ := hr
    have hge := keyS_ge hp
    have hlt := hsp _ _ hk
    refine ih hr (by simp only; omega) (fun q hq => ?_)
    rcases List.mem_append.1 hq with h | h
    · exact h2 q h
    · obtain rfl : q = p.1 := by simpa using h
      omega
theorem valS_goodK {l : List Nd} (hl : l.length ≤ 900) {k a : Nat} {s : Span} (h : valS l k a = some s) : goodK l s.kids := by
  cases k with
  | zero => cases h
  | succ k =>
    rw [valS, Option.bind_eq_some_iff] at h
    obtain ⟨n, hn, h⟩ := h
    split at h
    · obtain ⟨r, hr, rfl⟩ := Option.map_eq_some_iff.1 h
      refine ⟨?_, fun q hq => ?_⟩
      · have : ∀ {c i s last r}, kidsS (valS l k) l (decide (n.kind = 5)) c i s last = some r → s.kids.length ≤ s.stop → r.kids.length ≤ r.stop := by
          intro c
          induction c with
          | zero => intro i s last r hr h; cases hr; exact h
          | succ c ih =>
            intro i s last r hr h
            simp only [kidsS] at hr
            rw [Option.bind_eq_some_iff] at hr; obtain ⟨p, hp, hr⟩ := hr
            rw [Option.bind_eq_some_iff] at hr; obtain ⟨kid, hk, hr⟩ := hr
            have hge := keyS_ge hp
            have hlt := valS_spec hk
            exact ih hr (by simp; omega)
        have h1 := this hr (by simp)
        have h2 := (kidsS_spec (A := 0) (fun st s hs => by have := valS_spec hs; omega) hr (by simp only; have := (List.getElem?_eq_some_iff.1 hn).1; omega) (by simp) (by simp)).2.1
        simp only; omega
      · have := kidsS_pos (fun st s hs => by have := valS_spec hs; omega) hr (by simp) (by simp) q hq
        omega
    · cases h

/-- A map's keys, if there is one at a place. -/
def keysAt (l : List Nd) (a : Int) : List (List UInt8) :=
  if thereS l a && mapAt l a.toNat then textsS l (((valS l (l.length + 1) a.toNat).map (·.kids)).getD []) else []

theorem oren_loop {m : List (Nat × Nat)} {r : LRec} {sl : Slots} : AObj.ren m (.loop r sl) = .loop r (sl.map fun p => (p.1, p.2.ren m)) := rfl
def heap85 (l : List Nd) (a : Int) (h : Heap) : Prop := (keysAt l a = [] ∧ h = hpA l a) ∨ (keysAt l a ≠ [] ∧ ∃ mv, h = hpB l a (keysAt l a) mv)
theorem end85 {l : List Nd} {a : Int} {sl : Slots} {h : Heap} {x : AX} (hx : x = .normal ∨ x = .ret) (hh : heap85 l a h) : endX G 96 [0, 1, 2, 3] [] (some (x, ⟨sl, h⟩)) = some (.ret (.tup []), h) := by
  rcases hh with ⟨h1, rfl⟩ | ⟨h1, mv, rfl⟩
  · rcases hx with rfl | rfl <;> kernel_rfl
  · rcases hx with rfl | rfl <;> kernel_rfl
set_option maxHeartbeats 8000000 in
theorem members_eq (l : List Nd) (hb : l.length ≤ 9223372036854775806) (hr : ∀ n ∈ l, n.inR) (a : Int) : ∃ h, cl 96 [.yld 0, .ptr 1 0 0, .ptr 2 0 0] (hpA l a) = some (.ret (.tup []), h) ∧ heap85 l a h := by
  have hc := fun d st => there_c (l := l) hb hr (a := a) (d := d) (st := st)
  cases h : thereS l a with
  | false =>
    have hh : heap85 l a (hpA l a) := .inl ⟨by simp [keysAt, h], rfl⟩
    refine ⟨_, fn_intro Try.func96 rfl (by simp) (by decide) rfl ?_, hh⟩
    simp [Try.f96, hpA, nds, hc, h]
    exact end85 (.inr rfl) hh
  | true =>
    obtain ⟨h0, k, rfl, h1⟩ := thereS_nat h
    obtain ⟨s, h2, h3, h4⟩ := checkS_inner h0 h1
    obtain ⟨h5, _, _⟩ := checkS_ok h0
    have hv := val_call (by omega) hr h2
    simp only [nds] at hv
    obtain ⟨n, hn⟩ : ∃ n, l[k]? = some n := ⟨l[k], List.getElem?_eq_getElem h1⟩
    have e : l[k] = n := (List.getElem?_eq_some_iff.1 hn).2
    by_cases hk : n.kind = 5
    · have hm : mapAt l k = true := by unfold mapAt; rw [hn]; simp [hk]
      have hks : keysAt l k = textsS l s.kids := by simp [keysAt, h, hm, h2]
      obtain ⟨mv, sl, hlp⟩ := loop85 l k s.kids (valS_goodK (by omega) h2)
      have hh : heap85 l k (if s.kids = [] then hpA l k else hpB l k (textsS l s.kids) mv) := by
        unfold heap85
        rw [hks]
        by_cases hz : s.kids = []
        · rw [if_pos hz]; exact .inl ⟨by simp [textsS, hz], rfl⟩
        · rw [if_neg hz]; exact .inr ⟨by simp [textsS, hz], mv, rfl⟩
      refine ⟨_, fn_intro Try.func96 rfl (by simp) (by decide) rfl ?_, hh⟩
      simp [lc, loopsOf, Try.f96, sl85, intsL, hpA, nds] at hlp
      simp [Try.f96, hpA, nds, hc, h, h1, e, hk, hv, spanV, Nd.v, intsL, oren_loop]
      rw [hlp]
      exact end85 (.inl rfl) hh
    · have hm : mapAt l k = false := by unfold mapAt; rw [hn]; simp [hk]
      have hh : heap85 l k (hpA l k) := .inl ⟨by simp [keysAt, hm], rfl⟩
      refine ⟨_, fn_intro Try.func96 rfl (by simp) (by decide) rfl ?_, hh⟩
      simp [Try.f96, hpA, nds, hc, h, h1, e, hk, Nd.v]
      exact end85 (.inr rfl) hh
end Go.Proofs.Ytcgkneolohcdeaa


/- What the functions come to: tree.Keys. -/
namespace Go.Proofs.Ytcgkneolohcdeaa
open Go Abs
set_option linter.unusedSimpArgs false
set_option linter.unusedVariables false

/-- A loop over a function, told by the call of that function. -/
theorem rf_of {f : FuncId} {g : Operand} {ps : Array Nat} {asg body : Code} {st s : ASt} {v : AV} {M : List Nat} {r : LRec} {sl : Slots} {x : AX} {L d : Nat} (hL : L = 20000 + firstRegion body) (hd : d = 30000 + firstRegion body)
    (h1 : (aget st.hp L).isSome = false) (h2 : G.roundOK ⟨f, G.ntm f, ps, asg, body, .ready, none⟩ = true) (h3 : isFn (st.ev g) = true)
    (hc : callB G cl (some d) (st.ev g) [.yld L] { st with hp := (L, .loop ⟨f, G.ntm f, ps, asg, body, .ready, none⟩ st.sl) :: st.hp } = some (.val v s, M))
    (h4 : M.contains L = false) (h5 : aget s.hp L = some (.loop r sl)) (h6 : r.state ≠ .busy) (h7 : jumpX r.pending = some x) :
    codeX G cl lp f (.rangeFunc g ps asg body) st = some (x, { s with hp := hput L (.loop { r with state := .exhausted } sl) s.hp }) := by
  subst hL hd
  unfold codeX
  simp only [h1, h2, h3, Bool.not_true, Bool.or_false, Bool.false_eq_true, if_false, hc, Option.bind_some, h4, h5, h6, h7, Option.map_some]

theorem members_fn (l : List Nd) (a : Int) : cl 85 [nds l, .int .i64 a] [] = some (.ret (.fn (.func 96) [] [.ptr 1002 0 0, .ptr 1003 0 0]), [(1002, .box 22 (nds l)), (1003, .box 3 (.int .i64 a))]) :=
  call_intro (by decide) rfl (by kernel_rfl)
theorem members28 (l : List Nd) (a : Int) (sl : Slots) : callV G cl (some 9) (.fn (.func 85) [] []) [nds l, .int .i64 a] ⟨sl, [(1005, .box 39 .nils)]⟩ =
    some (.val (.fn (.func 96) [] [.ptr 1003000009 0 0, .ptr 1004000009 0 0]) ⟨sl, [(1003000009, .box 22 (nds l)), (1004000009, .box 3 (.int .i64 a)), (1005, .box 39 .nils)]⟩) :=
  callV_of (pre := [nds l, .int .i64 a]) (st1 := ⟨sl, [(1005, .box 39 .nils)]⟩) (ns := []) E85 (by decide) ext85 rfl rfl rfl rfl (by exact members_fn l a) (by kernel_rfl) rfl

def sl28 : Slots := [(5, .ptr 1005 0 0), (9, .fn (.func 96) [] [.ptr 1003000009 0 0, .ptr 1004000009 0 0]), (10, .undef)]
noncomputable def hp28o (l : List Nd) (a : Int) : Heap := [(20004, .loop rec28 sl28), (1003000009, .box 22 (nds l)), (1004000009, .box 3 (.int .i64 a)), (1005, .box 39 .nils)]
noncomputable def after28 (l : List Nd) (a : Int) (h : Heap) : Heap := ((afterCall (some 30004) [20004, 1003000009, 1004000009, 1005] ⟨sl28, hp28o l a⟩ h).getD default).hp
noncomputable def done28 (l : List Nd) (a : Int) (h : Heap) : Heap := hput 20004 (.loop (rcOf 61 Try.f61 .exhausted none) sl28) (after28 l a h)
theorem range28_A (l : List Nd) (a : Int) (h : cl 96 [.yld 0, .ptr 1 0 0, .ptr 2 0 0] (hpA l a) = some (.ret (.tup []), hpA l a)) :
    callB G cl (some 30004) (.fn (.func 96) [] [.ptr 1003000009 0 0, .ptr 1004000009 0 0]) [.yld 20004] ⟨sl28, hp28o l a⟩ = some (.val (.tup []) ⟨sl28, after28 l a (hpA l a)⟩, []) :=
  callB_of (pre := [.yld 20004, .ptr 1003000009 0 0, .ptr 1004000009 0 0]) (st1 := ⟨sl28, hp28o l a⟩) (ns := [20004, 1003000009, 1004000009, 1005]) E96 (by decide) rfl rfl rfl rfl (by exact h) (by kernel_rfl)
noncomputable def after28B (l : List Nd) (a : Int) (out : List (List UInt8)) (mv : Bool) : Heap :=
  [(20004, .loop rec28 sl28), (1003000009, .box 22 (nds l)), (1004000009, .box 3 (.int .i64 a)), (1005, .box 39 (.own 1016000036030004)), (1016000036030004, .row 1 (strsL out) false ⟨mv, 9⟩)] ++ hp28o l a
theorem nn28 : newName 30004 1016000035 = 1016000036030004 := by decide
theorem after28B_eq (l : List Nd) (a : Int) (out : List (List UInt8)) (mv : Bool) : afterCall (some 30004) [20004, 1003000009, 1004000009, 1005] ⟨sl28, hp28o l a⟩ (hpB l a out mv) = some ⟨sl28, after28B l a out mv⟩ := by
  cases mv <;> simp [afterCall, hpB, hp28o, backName, backMap, afterHeap, movedOf, killAll, zipIx, nn28, AObj.moved, AObj.isRow, AObj.ormv, nds, sl28, after28B, oren_loop]
theorem range28_B (l : List Nd) (a : Int) (out : List (List UInt8)) (mv : Bool) (h : cl 96 [.yld 0, .ptr 1 0 0, .ptr 2 0 0] (hpA l a) = some (.ret (.tup []), hpB l a out mv)) :
    callB G cl (some 30004) (.fn (.func 96) [] [.ptr 1003000009 0 0, .ptr 1004000009 0 0]) [.yld 20004] ⟨sl28, hp28o l a⟩ = some (.val (.tup []) ⟨sl28, after28B l a out mv⟩, []) := by
  have := callB_of (d := some 30004) (first := []) (caps := [.ptr 1003000009 0 0, .ptr 1004000009 0 0]) (args := [.yld 20004]) (st := ⟨sl28, hp28o l a⟩) (y := (.ret (.tup []), hpB l a out mv)) (pre := [.yld 20004, .ptr 1003000009 0 0, .ptr 1004000009 0 0]) (st1 := ⟨sl28, hp28o l a⟩) (ns := [20004, 1003000009, 1004000009, 1005]) E96 (by decide) rfl rfl rfl rfl (by exact h) (after28B_eq l a out mv)
  rw [this]
  cases mv <;> simp [answered, movedOf, hpB, zipIx, AObj.moved]
def strsV (l : List (List UInt8)) : AV := if l = [] then .nils else .list 1 (strsL l)
noncomputable def rf28 : Code := match rfsOf (Try.f61.body.getD .skip) with | (g, ps, asg, body) :: _ => .rangeFunc g ps asg body | [] => .skip
noncomputable abbrev at28 (l : List Nd) (a : Int) : ASt := ⟨sl28, [(1003000009, .box 22 (nds l)), (1004000009, .box 3 (.int .i64 a)), (1005, .box 39 .nils)]⟩
theorem st28_A (l : List Nd) (a : Int) (h : cl 96 [.yld 0, .ptr 1 0 0, .ptr 2 0 0] (hpA l a) = some (.ret (.tup []), hpA l a)) : codeX G cl lp 61 rf28 (at28 l a) = some (.normal, ⟨sl28, done28 l a (hpA l a)⟩) := by
  have := rf_of (f := 61) (g := .tmp 9) (ps := rec28.ps) (asg := rec28.assign) (body := rec28.body) (st := at28 l a) (L := 20004) (d := 30004) (r := rec28) (sl := sl28) (x := .normal) (s := ⟨sl28, after28 l a (hpA l a)⟩) (v := .tup []) (M := [])
    (by kernel_rfl) (by kernel_rfl) rfl rok28 rfl (by exact range28_A l a h) rfl (by kernel_rfl) (by simp [rec28, rcOf, rfsOf, Try.f61]) (by kernel_rfl)
  exact this
noncomputable def done28B (l : List Nd) (a : Int) (out : List (List UInt8)) (mv : Bool) : Heap := hput 20004 (.loop (rcOf 61 Try.f61 .exhausted none) sl28) (after28B l a out mv)
theorem st28_B (l : List Nd) (a : Int) (out : List (List UInt8)) (mv : Bool) (h : cl 96 [.yld 0, .ptr 1 0 0, .ptr 2 0 0] (hpA l a) = some (.ret (.tup []), hpB l a out mv)) : codeX G cl lp 61 rf28 (at28 l a) = some (.normal, ⟨sl28, done28B l a out mv⟩) := by
  have := rf_of (f := 61) (g := .tmp 9) (ps := rec28.ps) (asg := rec28.assign) (body := rec28.body) (st := at28 l a) (L := 20004) (d := 30004) (r := rec28) (sl := sl28) (x := .normal) (s := ⟨sl28, after28B l a out mv⟩) (v := .tup []) (M := [])
    (by kernel_rfl) (by kernel_rfl) rfl rok28 rfl (by exact range28_B l a out mv h) rfl (by kernel_rfl) (by simp [rec28, rcOf, rfsOf, Try.f61]) (by kernel_rfl)
  exact this
set_option maxHeartbeats 8000000 in
theorem keys_eq (l : List Nd) (hb : l.length ≤ 9223372036854775806) (hr : ∀ n ∈ l, n.inR) (a : Int) : cl 61 [nds l, .int .i64 a] [] = some (.ret (strsV (keysAt l a)), []) := by
  obtain ⟨h, h1, h2⟩ := members_eq l hb hr a
  have hm := members28 l a
  refine fn_intro Try.func61 rfl (by simp) (by decide) rfl ?_
  rcases h2 with ⟨h3, rfl⟩ | ⟨h3, mv, rfl⟩
  · have hs := st28_A l a h1
    simp [rf28, rfsOf, Try.f61] at hs
    simp only [nds, sl28, at28] at hs hm
    have e : sl28 = [(5, .ptr 1005 0 0), (9, .fn (.func 96) [] [.ptr 1003000009 0 0, .ptr 1004000009 0 0]), (10, .undef)] := rfl
    have hb1 : aget (done28 l a (hpA l a)) 1005 = some (.box 39 .nils) := by kernel_rfl
    simp [Try.f61, nds, hm, hs, allocX, newObj, hb1]
    exact end_rv (.inr rfl) (by simp; rfl) (by simp) (by rw [h3]; rfl) (by unfold strsV; split <;> rfl)
  · have hs := st28_B l a _ mv h1
    simp [rf28, rfsOf, Try.f61] at hs
    simp only [nds, sl28, at28] at hs hm
    have hb1 : aget (done28B l a (keysAt l a) mv) 1005 = some (.box 39 (.own 1016000036030004)) := by kernel_rfl
    have hb2 : aget (done28B l a (keysAt l a) mv) 1016000036030004 = some (.row 1 (strsL (keysAt l a)) false ⟨mv, 9⟩) := by kernel_rfl
    simp [Try.f61, nds, hm, hs, allocX, newObj, hb1]
    exact end_rv (.inr rfl) (by simp; rfl) (by simp) (by simp [hb2, strsV, h3]) (by unfold strsV; split <;> rfl)
end Go.Proofs.Ytcgkneolohcdeaa


/- What TreeChecks comes to. -/
namespace Go.Proofs.Ytcgkneolohcdeaa
open Go Abs
set_option linter.unusedSimpArgs false
set_option linter.unusedVariables false

theorem few_call {l : List Nd} {d : Option Nat} {st : ASt} : callV G cl d (.fn (.func 18) [] []) [nds l] st = some (.val (.bool (fewS l)) st) :=
  callV_ret E18 (by decide) ext18 rfl rfl (few_eq l) rfl
theorem fewS_len {l : List Nd} (h : fewS l = true) : l.length ≤ 130 := by
  unfold fewS at h
  simp only [Bool.and_eq_true, decide_eq_true_eq] at h
  exact h.1

end Go.Proofs.Ytcgkneolohcdeaa


/- What TreeCovers comes to. -/
namespace Go.Proofs.Ytcgkneolohcdeaa
open Go Abs
set_option linter.unusedSimpArgs false
set_option linter.unusedVariables false

theorem keys_call {l : List Nd} (hb : l.length ≤ 9223372036854775806) (hr : ∀ n ∈ l, n.inR) {a : Int} {d : Option Nat} {st : ASt} : callV G cl d (.fn (.func 61) [] []) [nds l, .int .i64 a] st = some (.val (strsV (keysAt l a)) st) :=
  callV_ret E61 (by decide) ext61 rfl rfl (keys_eq l hb hr a) (by unfold strsV; split <;> rfl)

@[simp] theorem plainBL_strs {l : List (List UInt8)} : AV.plainBL (strsL l) = true := plainBL_map (fun a => rfl) l

theorem there_in {l : List Nd} (hc : checkS l = 0) {p : Nat} (hp : p < l.length) : thereS l (p : Int) = true := by
  unfold thereS; simp [hc, hp]
theorem sub_at {l : List Nd} (hr : ∀ n ∈ l, n.inR) (hc : checkS l = 0) {k p : Nat} {kid : Span} (hk : k ≤ l.length + 1) (h : valS l k p = some kid) : subS l (p : Int) = some (cutS l p kid.stop) := by
  have h2 := valS_spec h
  unfold subS
  rw [there_in hc (by omega), if_pos rfl, Int.toNat_natCast, valS_mono h hk]; rfl
theorem sub_at_call {l : List Nd} (hr : ∀ n ∈ l, n.inR) (hc : checkS l = 0) {k p : Nat} {kid : Span} (hk : k ≤ l.length + 1) (h : valS l k p = some kid) (d : Option Nat) (st : ASt) :
    callV G cl d (.fn (.func 63) [] []) [nds l, .int .i64 (p : Int)] st = some (.val (nds (cutS l p kid.stop)) st) := by
  have := sub_call (l := l) (by have := (checkS_ok hc).1; omega) hr (a := (p : Int)) (d := d) (st := st)
  rw [sub_at hr hc hk h] at this; exact this

theorem valS_map {l : List Nd} {k a : Nat} {s : Span} (h : valS l (k + 1) a = some s) : ∃ n r, l[a]? = some n ∧ fitsS n = true ∧ kidsS (valS l k) l (mapAt l a) n.kids.toNat 0 ⟨a + 1, 0, []⟩ [] = some r ∧ s = { r with deep := r.deep + 1 } := by
  rw [valS, Option.bind_eq_some_iff] at h
  obtain ⟨n, hn, h⟩ := h
  split at h
  · rename_i hf
    obtain ⟨r, hr, rfl⟩ := Option.map_eq_some_iff.1 h
    refine ⟨n, r, hn, hf, ?_, rfl⟩
    unfold mapAt
    rw [hn]; exact hr
  · cases h
end Go.Proofs.Ytcgkneolohcdeaa


/- What the functions come to: texts that are the same; the document's Keys and Member. -/
namespace Go.Proofs.Ytcgkneolohcdeaa
open Go Abs
set_option linter.unusedSimpArgs false
set_option linter.unusedVariables false

@[simp high] theorem rowV_len {hp : Heap} {e : TypeId} {l : List Nat} : lenD hp (some (.slice e)) (rowV l) = some (.int .i64 l.length) := by
  unfold rowV
  split
  · rename_i h; subst h; rfl
  · simp [intsL]

/-! Texts -/
@[simp] theorem strsL_nil : strsL [] = [] := rfl
/-! The document's Keys -/
attribute [local simp] canonK canonAll canonSlot canonCell canonBox ownStep restrictTo pureCells pureRows reachL AObj.names List.range_succ appendA seenV
/-! The document's Member -/
theorem kidsS_lt {l : List Nd} {k a : Nat} {s : Span} (h : valS l k a = some s) {q : Nat} (hq : q ∈ s.kids) : q < l.length := by
  cases k with
  | zero => cases h
  | succ k =>
    obtain ⟨n, r, hn, hf, hr, rfl⟩ := valS_map h
    exact (kidsS_pos (fun st s hs => by have := valS_spec hs; omega) hr (by simp) (by simp) q hq).2
end Go.Proofs.Ytcgkneolohcdeaa

