/- The seat's types and functions, as equations. -/
import Derived.Test.YtonaejfpiihfhaaTab
import Derived.Test.YtonaejfpiihfhaaAbs31
namespace Go.Proofs.Ytonaejfpiihfhaa
open Go Abs
set_option linter.unusedSimpArgs false

@[simp] theorem GP : G.P = Try.prog := rfl
@[simp] theorem cells0 : Try.prog.cellsOf 0 = 1 := by kernel_rfl
@[simp] theorem info0 : Try.prog.info? 0 = some Try.t0 := by kernel_rfl
@[simp] theorem agg0 : isAggT Try.prog 0 = false := by kernel_rfl
attribute [simp] Try.underlying0
@[simp] theorem bytes0 : Try.t0.bytes = 0 := rfl
@[simp] theorem cells1 : Try.prog.cellsOf 1 = 1 := by kernel_rfl
@[simp] theorem info1 : Try.prog.info? 1 = some Try.t1 := by kernel_rfl
@[simp] theorem agg1 : isAggT Try.prog 1 = false := by kernel_rfl
attribute [simp] Try.underlying1
@[simp] theorem bytes1 : Try.t1.bytes = 8 := rfl
@[simp] theorem zero1 : Try.t1.zero = some .nilFunc := rfl
@[simp] theorem cells2 : Try.prog.cellsOf 2 = 1 := by kernel_rfl
@[simp] theorem info2 : Try.prog.info? 2 = some Try.t2 := by kernel_rfl
@[simp] theorem agg2 : isAggT Try.prog 2 = false := by kernel_rfl
attribute [simp] Try.underlying2
@[simp] theorem bytes2 : Try.t2.bytes = 8 := rfl
@[simp] theorem zero2 : Try.t2.zero = some (.int .i64 0) := rfl
@[simp] theorem cells3 : Try.prog.cellsOf 3 = 1 := by kernel_rfl
@[simp] theorem info3 : Try.prog.info? 3 = some Try.t3 := by kernel_rfl
@[simp] theorem agg3 : isAggT Try.prog 3 = false := by kernel_rfl
attribute [simp] Try.underlying3
@[simp] theorem bytes3 : Try.t3.bytes = 8 := rfl
@[simp] theorem zero3 : Try.t3.zero = some (.int .i64 0) := rfl
@[simp] theorem cells4 : Try.prog.cellsOf 4 = 1 := by kernel_rfl
@[simp] theorem info4 : Try.prog.info? 4 = some Try.t4 := by kernel_rfl
@[simp] theorem agg4 : isAggT Try.prog 4 = false := by kernel_rfl
attribute [simp] Try.underlying4
@[simp] theorem bytes4 : Try.t4.bytes = 1 := rfl
@[simp] theorem zero4 : Try.t4.zero = some (.bool false) := rfl
@[simp] theorem cells5 : Try.prog.cellsOf 5 = 1 := by kernel_rfl
@[simp] theorem info5 : Try.prog.info? 5 = some Try.t5 := by kernel_rfl
@[simp] theorem agg5 : isAggT Try.prog 5 = false := by kernel_rfl
attribute [simp] Try.underlying5
@[simp] theorem bytes5 : Try.t5.bytes = 1 := rfl
@[simp] theorem zero5 : Try.t5.zero = some (.int .u8 0) := rfl
@[simp] theorem cells6 : Try.prog.cellsOf 6 = 1 := by kernel_rfl
@[simp] theorem info6 : Try.prog.info? 6 = some Try.t6 := by kernel_rfl
@[simp] theorem agg6 : isAggT Try.prog 6 = false := by kernel_rfl
attribute [simp] Try.underlying6
@[simp] theorem bytes6 : Try.t6.bytes = 1 := rfl
@[simp] theorem zero6 : Try.t6.zero = some (.int .u8 0) := rfl
@[simp] theorem cells7 : Try.prog.cellsOf 7 = 4 := by kernel_rfl
@[simp] theorem info7 : Try.prog.info? 7 = some Try.t7 := by kernel_rfl
@[simp] theorem agg7 : isAggT Try.prog 7 = true := by kernel_rfl
attribute [simp] Try.underlying7
@[simp] theorem bytes7 : Try.t7.bytes = 24 := rfl
@[simp] theorem zero7 : Try.t7.zero = some (.agg #[(.int .i64 0), (.int .i64 0), (.bool false), (.int .u8 0)]) := rfl
@[simp] theorem cells8 : Try.prog.cellsOf 8 = 4 := by kernel_rfl
@[simp] theorem info8 : Try.prog.info? 8 = some Try.t8 := by kernel_rfl
@[simp] theorem agg8 : isAggT Try.prog 8 = true := by kernel_rfl
attribute [simp] Try.underlying8
@[simp] theorem bytes8 : Try.t8.bytes = 24 := rfl
@[simp] theorem zero8 : Try.t8.zero = some (.agg #[(.int .i64 0), (.int .i64 0), (.bool false), (.int .u8 0)]) := rfl
@[simp] theorem cells9 : Try.prog.cellsOf 9 = 1 := by kernel_rfl
@[simp] theorem info9 : Try.prog.info? 9 = some Try.t9 := by kernel_rfl
@[simp] theorem agg9 : isAggT Try.prog 9 = false := by kernel_rfl
attribute [simp] Try.underlying9
@[simp] theorem bytes9 : Try.t9.bytes = 16 := rfl
@[simp] theorem zero9 : Try.t9.zero = some (.string ⟨#[]⟩) := rfl
@[simp] theorem cells10 : Try.prog.cellsOf 10 = 1 := by kernel_rfl
@[simp] theorem info10 : Try.prog.info? 10 = some Try.t10 := by kernel_rfl
@[simp] theorem agg10 : isAggT Try.prog 10 = false := by kernel_rfl
attribute [simp] Try.underlying10
@[simp] theorem bytes10 : Try.t10.bytes = 16 := rfl
@[simp] theorem zero10 : Try.t10.zero = some (.string ⟨#[]⟩) := rfl
@[simp] theorem cells11 : Try.prog.cellsOf 11 = 1 := by kernel_rfl
@[simp] theorem info11 : Try.prog.info? 11 = some Try.t11 := by kernel_rfl
@[simp] theorem agg11 : isAggT Try.prog 11 = false := by kernel_rfl
attribute [simp] Try.underlying11
@[simp] theorem bytes11 : Try.t11.bytes = 16 := rfl
@[simp] theorem zero11 : Try.t11.zero = some (.string ⟨#[]⟩) := rfl
@[simp] theorem cells12 : Try.prog.cellsOf 12 = 1 := by kernel_rfl
@[simp] theorem info12 : Try.prog.info? 12 = some Try.t12 := by kernel_rfl
@[simp] theorem agg12 : isAggT Try.prog 12 = false := by kernel_rfl
attribute [simp] Try.underlying12
@[simp] theorem bytes12 : Try.t12.bytes = 8 := rfl
@[simp] theorem zero12 : Try.t12.zero = some (.int .u64 0) := rfl
@[simp] theorem cells13 : Try.prog.cellsOf 13 = 2 := by kernel_rfl
@[simp] theorem info13 : Try.prog.info? 13 = some Try.t13 := by kernel_rfl
@[simp] theorem agg13 : isAggT Try.prog 13 = true := by kernel_rfl
attribute [simp] Try.underlying13
@[simp] theorem bytes13 : Try.t13.bytes = 24 := rfl
@[simp] theorem zero13 : Try.t13.zero = some (.agg #[(.string ⟨#[]⟩), (.int .u64 0)]) := rfl
@[simp] theorem cells14 : Try.prog.cellsOf 14 = 2 := by kernel_rfl
@[simp] theorem info14 : Try.prog.info? 14 = some Try.t14 := by kernel_rfl
@[simp] theorem agg14 : isAggT Try.prog 14 = true := by kernel_rfl
attribute [simp] Try.underlying14
@[simp] theorem bytes14 : Try.t14.bytes = 24 := rfl
@[simp] theorem zero14 : Try.t14.zero = some (.agg #[(.string ⟨#[]⟩), (.int .u64 0)]) := rfl
@[simp] theorem cells15 : Try.prog.cellsOf 15 = 1 := by kernel_rfl
@[simp] theorem info15 : Try.prog.info? 15 = some Try.t15 := by kernel_rfl
@[simp] theorem agg15 : isAggT Try.prog 15 = false := by kernel_rfl
attribute [simp] Try.underlying15
@[simp] theorem bytes15 : Try.t15.bytes = 8 := rfl
@[simp] theorem zero15 : Try.t15.zero = some (.pointer none) := rfl
@[simp] theorem cells16 : Try.prog.cellsOf 16 = 1 := by kernel_rfl
@[simp] theorem info16 : Try.prog.info? 16 = some Try.t16 := by kernel_rfl
@[simp] theorem agg16 : isAggT Try.prog 16 = false := by kernel_rfl
attribute [simp] Try.underlying16
@[simp] theorem bytes16 : Try.t16.bytes = 8 := rfl
@[simp] theorem zero16 : Try.t16.zero = some (.pointer none) := rfl
@[simp] theorem cells17 : Try.prog.cellsOf 17 = 1 := by kernel_rfl
@[simp] theorem info17 : Try.prog.info? 17 = some Try.t17 := by kernel_rfl
@[simp] theorem agg17 : isAggT Try.prog 17 = false := by kernel_rfl
attribute [simp] Try.underlying17
@[simp] theorem bytes17 : Try.t17.bytes = 8 := rfl
@[simp] theorem zero17 : Try.t17.zero = some (.pointer none) := rfl
@[simp] theorem cells18 : Try.prog.cellsOf 18 = 1 := by kernel_rfl
@[simp] theorem info18 : Try.prog.info? 18 = some Try.t18 := by kernel_rfl
@[simp] theorem agg18 : isAggT Try.prog 18 = true := by kernel_rfl
attribute [simp] Try.underlying18
@[simp] theorem bytes18 : Try.t18.bytes = 8 := rfl
@[simp] theorem zero18 : Try.t18.zero = some (.agg #[(.pointer none)]) := rfl
@[simp] theorem cells19 : Try.prog.cellsOf 19 = 1 := by kernel_rfl
@[simp] theorem info19 : Try.prog.info? 19 = some Try.t19 := by kernel_rfl
@[simp] theorem agg19 : isAggT Try.prog 19 = true := by kernel_rfl
attribute [simp] Try.underlying19
@[simp] theorem bytes19 : Try.t19.bytes = 8 := rfl
@[simp] theorem zero19 : Try.t19.zero = some (.agg #[(.pointer none)]) := rfl
@[simp] theorem cells20 : Try.prog.cellsOf 20 = 1 := by kernel_rfl
@[simp] theorem info20 : Try.prog.info? 20 = some Try.t20 := by kernel_rfl
@[simp] theorem agg20 : isAggT Try.prog 20 = false := by kernel_rfl
attribute [simp] Try.underlying20
@[simp] theorem bytes20 : Try.t20.bytes = 16 := rfl
@[simp] theorem zero20 : Try.t20.zero = some .nilIface := rfl
@[simp] theorem cells21 : Try.prog.cellsOf 21 = 1 := by kernel_rfl
@[simp] theorem info21 : Try.prog.info? 21 = some Try.t21 := by kernel_rfl
@[simp] theorem agg21 : isAggT Try.prog 21 = false := by kernel_rfl
attribute [simp] Try.underlying21
@[simp] theorem bytes21 : Try.t21.bytes = 4 := rfl
@[simp] theorem zero21 : Try.t21.zero = some (.int .i32 0) := rfl
@[simp] theorem cells22 : Try.prog.cellsOf 22 = 1 := by kernel_rfl
@[simp] theorem info22 : Try.prog.info? 22 = some Try.t22 := by kernel_rfl
@[simp] theorem agg22 : isAggT Try.prog 22 = false := by kernel_rfl
attribute [simp] Try.underlying22
@[simp] theorem bytes22 : Try.t22.bytes = 24 := rfl
@[simp] theorem zero22 : Try.t22.zero = some (.slice none 0 0) := rfl
@[simp] theorem cells23 : Try.prog.cellsOf 23 = 1 := by kernel_rfl
@[simp] theorem info23 : Try.prog.info? 23 = some Try.t23 := by kernel_rfl
@[simp] theorem agg23 : isAggT Try.prog 23 = false := by kernel_rfl
attribute [simp] Try.underlying23
@[simp] theorem bytes23 : Try.t23.bytes = 8 := rfl
@[simp] theorem zero23 : Try.t23.zero = some .nilFunc := rfl
@[simp] theorem cells24 : Try.prog.cellsOf 24 = 1 := by kernel_rfl
@[simp] theorem info24 : Try.prog.info? 24 = some Try.t24 := by kernel_rfl
@[simp] theorem agg24 : isAggT Try.prog 24 = false := by kernel_rfl
attribute [simp] Try.underlying24
@[simp] theorem bytes24 : Try.t24.bytes = 8 := rfl
@[simp] theorem zero24 : Try.t24.zero = some .nilFunc := rfl
@[simp] theorem cells25 : Try.prog.cellsOf 25 = 1 := by kernel_rfl
@[simp] theorem info25 : Try.prog.info? 25 = some Try.t25 := by kernel_rfl
@[simp] theorem agg25 : isAggT Try.prog 25 = false := by kernel_rfl
attribute [simp] Try.underlying25
@[simp] theorem bytes25 : Try.t25.bytes = 8 := rfl
@[simp] theorem zero25 : Try.t25.zero = some (.int .i64 0) := rfl
@[simp] theorem cells26 : Try.prog.cellsOf 26 = 1 := by kernel_rfl
@[simp] theorem info26 : Try.prog.info? 26 = some Try.t26 := by kernel_rfl
@[simp] theorem agg26 : isAggT Try.prog 26 = false := by kernel_rfl
attribute [simp] Try.underlying26
@[simp] theorem bytes26 : Try.t26.bytes = 8 := rfl
@[simp] theorem zero26 : Try.t26.zero = some .nilFunc := rfl
@[simp] theorem cells27 : Try.prog.cellsOf 27 = 1 := by kernel_rfl
@[simp] theorem info27 : Try.prog.info? 27 = some Try.t27 := by kernel_rfl
@[simp] theorem agg27 : isAggT Try.prog 27 = false := by kernel_rfl
attribute [simp] Try.underlying27
@[simp] theorem bytes27 : Try.t27.bytes = 8 := rfl
@[simp] theorem zero27 : Try.t27.zero = some .nilFunc := rfl
@[simp] theorem cells28 : Try.prog.cellsOf 28 = 1 := by kernel_rfl
@[simp] theorem info28 : Try.prog.info? 28 = some Try.t28 := by kernel_rfl
@[simp] theorem agg28 : isAggT Try.prog 28 = false := by kernel_rfl
attribute [simp] Try.underlying28
@[simp] theorem bytes28 : Try.t28.bytes = 8 := rfl
@[simp] theorem zero28 : Try.t28.zero = some .nilFunc := rfl
@[simp] theorem cells29 : Try.prog.cellsOf 29 = 1 := by kernel_rfl
@[simp] theorem info29 : Try.prog.info? 29 = some Try.t29 := by kernel_rfl
@[simp] theorem agg29 : isAggT Try.prog 29 = false := by kernel_rfl
attribute [simp] Try.underlying29
@[simp] theorem bytes29 : Try.t29.bytes = 8 := rfl
@[simp] theorem zero29 : Try.t29.zero = some .nilFunc := rfl
@[simp] theorem cells30 : Try.prog.cellsOf 30 = 1 := by kernel_rfl
@[simp] theorem info30 : Try.prog.info? 30 = some Try.t30 := by kernel_rfl
@[simp] theorem agg30 : isAggT Try.prog 30 = false := by kernel_rfl
attribute [simp] Try.underlying30
@[simp] theorem bytes30 : Try.t30.bytes = 8 := rfl
@[simp] theorem zero30 : Try.t30.zero = some .nilFunc := rfl
@[simp] theorem cells31 : Try.prog.cellsOf 31 = 1 := by kernel_rfl
@[simp] theorem info31 : Try.prog.info? 31 = some Try.t31 := by kernel_rfl
@[simp] theorem agg31 : isAggT Try.prog 31 = false := by kernel_rfl
attribute [simp] Try.underlying31
@[simp] theorem bytes31 : Try.t31.bytes = 24 := rfl
@[simp] theorem zero31 : Try.t31.zero = some (.slice none 0 0) := rfl
@[simp] theorem cells32 : Try.prog.cellsOf 32 = 1 := by kernel_rfl
@[simp] theorem info32 : Try.prog.info? 32 = some Try.t32 := by kernel_rfl
@[simp] theorem agg32 : isAggT Try.prog 32 = false := by kernel_rfl
attribute [simp] Try.underlying32
@[simp] theorem bytes32 : Try.t32.bytes = 8 := rfl
@[simp] theorem zero32 : Try.t32.zero = some .nilFunc := rfl
@[simp] theorem cells33 : Try.prog.cellsOf 33 = 1 := by kernel_rfl
@[simp] theorem info33 : Try.prog.info? 33 = some Try.t33 := by kernel_rfl
@[simp] theorem agg33 : isAggT Try.prog 33 = false := by kernel_rfl
attribute [simp] Try.underlying33
@[simp] theorem bytes33 : Try.t33.bytes = 8 := rfl
@[simp] theorem zero33 : Try.t33.zero = some .nilFunc := rfl
@[simp] theorem cells34 : Try.prog.cellsOf 34 = 1 := by kernel_rfl
@[simp] theorem info34 : Try.prog.info? 34 = some Try.t34 := by kernel_rfl
@[simp] theorem agg34 : isAggT Try.prog 34 = false := by kernel_rfl
attribute [simp] Try.underlying34
@[simp] theorem bytes34 : Try.t34.bytes = 24 := rfl
@[simp] theorem zero34 : Try.t34.zero = some (.slice none 0 0) := rfl
@[simp] theorem cells35 : Try.prog.cellsOf 35 = 1 := by kernel_rfl
@[simp] theorem info35 : Try.prog.info? 35 = some Try.t35 := by kernel_rfl
@[simp] theorem agg35 : isAggT Try.prog 35 = false := by kernel_rfl
attribute [simp] Try.underlying35
@[simp] theorem bytes35 : Try.t35.bytes = 8 := rfl
@[simp] theorem zero35 : Try.t35.zero = some .nilFunc := rfl
@[simp] theorem cells36 : Try.prog.cellsOf 36 = 1 := by kernel_rfl
@[simp] theorem info36 : Try.prog.info? 36 = some Try.t36 := by kernel_rfl
@[simp] theorem agg36 : isAggT Try.prog 36 = false := by kernel_rfl
attribute [simp] Try.underlying36
@[simp] theorem bytes36 : Try.t36.bytes = 0 := rfl
@[simp] theorem cells37 : Try.prog.cellsOf 37 = 1 := by kernel_rfl
@[simp] theorem info37 : Try.prog.info? 37 = some Try.t37 := by kernel_rfl
@[simp] theorem agg37 : isAggT Try.prog 37 = false := by kernel_rfl
attribute [simp] Try.underlying37
@[simp] theorem bytes37 : Try.t37.bytes = 8 := rfl
@[simp] theorem zero37 : Try.t37.zero = some .nilFunc := rfl
@[simp] theorem cells38 : Try.prog.cellsOf 38 = 1 := by kernel_rfl
@[simp] theorem info38 : Try.prog.info? 38 = some Try.t38 := by kernel_rfl
@[simp] theorem agg38 : isAggT Try.prog 38 = false := by kernel_rfl
attribute [simp] Try.underlying38
@[simp] theorem bytes38 : Try.t38.bytes = 8 := rfl
@[simp] theorem zero38 : Try.t38.zero = some .nilFunc := rfl
@[simp] theorem cells39 : Try.prog.cellsOf 39 = 1 := by kernel_rfl
@[simp] theorem info39 : Try.prog.info? 39 = some Try.t39 := by kernel_rfl
@[simp] theorem agg39 : isAggT Try.prog 39 = false := by kernel_rfl
attribute [simp] Try.underlying39
@[simp] theorem bytes39 : Try.t39.bytes = 24 := rfl
@[simp] theorem zero39 : Try.t39.zero = some (.slice none 0 0) := rfl
@[simp] theorem cells40 : Try.prog.cellsOf 40 = 1 := by kernel_rfl
@[simp] theorem info40 : Try.prog.info? 40 = some Try.t40 := by kernel_rfl
@[simp] theorem agg40 : isAggT Try.prog 40 = false := by kernel_rfl
attribute [simp] Try.underlying40
@[simp] theorem bytes40 : Try.t40.bytes = 8 := rfl
@[simp] theorem zero40 : Try.t40.zero = some .nilFunc := rfl
@[simp] theorem cells41 : Try.prog.cellsOf 41 = 1 := by kernel_rfl
@[simp] theorem info41 : Try.prog.info? 41 = some Try.t41 := by kernel_rfl
@[simp] theorem agg41 : isAggT Try.prog 41 = false := by kernel_rfl
attribute [simp] Try.underlying41
@[simp] theorem bytes41 : Try.t41.bytes = 0 := rfl
@[simp] theorem cells42 : Try.prog.cellsOf 42 = 1 := by kernel_rfl
@[simp] theorem info42 : Try.prog.info? 42 = some Try.t42 := by kernel_rfl
@[simp] theorem agg42 : isAggT Try.prog 42 = false := by kernel_rfl
attribute [simp] Try.underlying42
@[simp] theorem bytes42 : Try.t42.bytes = 8 := rfl
@[simp] theorem zero42 : Try.t42.zero = some .nilFunc := rfl
@[simp] theorem cells43 : Try.prog.cellsOf 43 = 1 := by kernel_rfl
@[simp] theorem info43 : Try.prog.info? 43 = some Try.t43 := by kernel_rfl
@[simp] theorem agg43 : isAggT Try.prog 43 = false := by kernel_rfl
attribute [simp] Try.underlying43
@[simp] theorem bytes43 : Try.t43.bytes = 8 := rfl
@[simp] theorem zero43 : Try.t43.zero = some .nilFunc := rfl
@[simp] theorem cells44 : Try.prog.cellsOf 44 = 1 := by kernel_rfl
@[simp] theorem info44 : Try.prog.info? 44 = some Try.t44 := by kernel_rfl
@[simp] theorem agg44 : isAggT Try.prog 44 = false := by kernel_rfl
attribute [simp] Try.underlying44
@[simp] theorem bytes44 : Try.t44.bytes = 8 := rfl
@[simp] theorem zero44 : Try.t44.zero = some (.int .i64 0) := rfl
@[simp] theorem cells45 : Try.prog.cellsOf 45 = 4 := by kernel_rfl
@[simp] theorem info45 : Try.prog.info? 45 = some Try.t45 := by kernel_rfl
@[simp] theorem agg45 : isAggT Try.prog 45 = true := by kernel_rfl
attribute [simp] Try.underlying45
@[simp] theorem bytes45 : Try.t45.bytes = 40 := rfl
@[simp] theorem zero45 : Try.t45.zero = some (.agg #[(.int .i64 0), (.int .i64 0), (.string ⟨#[]⟩), (.int .i64 0)]) := rfl
@[simp] theorem cells46 : Try.prog.cellsOf 46 = 4 := by kernel_rfl
@[simp] theorem info46 : Try.prog.info? 46 = some Try.t46 := by kernel_rfl
@[simp] theorem agg46 : isAggT Try.prog 46 = true := by kernel_rfl
attribute [simp] Try.underlying46
@[simp] theorem bytes46 : Try.t46.bytes = 40 := rfl
@[simp] theorem zero46 : Try.t46.zero = some (.agg #[(.int .i64 0), (.int .i64 0), (.string ⟨#[]⟩), (.int .i64 0)]) := rfl
@[simp] theorem cells47 : Try.prog.cellsOf 47 = 1 := by kernel_rfl
@[simp] theorem info47 : Try.prog.info? 47 = some Try.t47 := by kernel_rfl
@[simp] theorem agg47 : isAggT Try.prog 47 = false := by kernel_rfl
attribute [simp] Try.underlying47
@[simp] theorem bytes47 : Try.t47.bytes = 8 := rfl
@[simp] theorem zero47 : Try.t47.zero = some .nilFunc := rfl
@[simp] theorem cells48 : Try.prog.cellsOf 48 = 1 := by kernel_rfl
@[simp] theorem info48 : Try.prog.info? 48 = some Try.t48 := by kernel_rfl
@[simp] theorem agg48 : isAggT Try.prog 48 = false := by kernel_rfl
attribute [simp] Try.underlying48
@[simp] theorem bytes48 : Try.t48.bytes = 0 := rfl
@[simp] theorem cells49 : Try.prog.cellsOf 49 = 1 := by kernel_rfl
@[simp] theorem info49 : Try.prog.info? 49 = some Try.t49 := by kernel_rfl
@[simp] theorem agg49 : isAggT Try.prog 49 = false := by kernel_rfl
attribute [simp] Try.underlying49
@[simp] theorem bytes49 : Try.t49.bytes = 8 := rfl
@[simp] theorem zero49 : Try.t49.zero = some .nilFunc := rfl
@[simp] theorem cells50 : Try.prog.cellsOf 50 = 1 := by kernel_rfl
@[simp] theorem info50 : Try.prog.info? 50 = some Try.t50 := by kernel_rfl
@[simp] theorem agg50 : isAggT Try.prog 50 = false := by kernel_rfl
attribute [simp] Try.underlying50
@[simp] theorem bytes50 : Try.t50.bytes = 8 := rfl
@[simp] theorem zero50 : Try.t50.zero = some .nilFunc := rfl
@[simp] theorem cells51 : Try.prog.cellsOf 51 = 1 := by kernel_rfl
@[simp] theorem info51 : Try.prog.info? 51 = some Try.t51 := by kernel_rfl
@[simp] theorem agg51 : isAggT Try.prog 51 = false := by kernel_rfl
attribute [simp] Try.underlying51
@[simp] theorem bytes51 : Try.t51.bytes = 8 := rfl
@[simp] theorem zero51 : Try.t51.zero = some .nilFunc := rfl
@[simp] theorem cells52 : Try.prog.cellsOf 52 = 1 := by kernel_rfl
@[simp] theorem info52 : Try.prog.info? 52 = some Try.t52 := by kernel_rfl
@[simp] theorem agg52 : isAggT Try.prog 52 = false := by kernel_rfl
attribute [simp] Try.underlying52
@[simp] theorem bytes52 : Try.t52.bytes = 8 := rfl
@[simp] theorem zero52 : Try.t52.zero = some .nilFunc := rfl
@[simp] theorem cells53 : Try.prog.cellsOf 53 = 1 := by kernel_rfl
@[simp] theorem info53 : Try.prog.info? 53 = some Try.t53 := by kernel_rfl
@[simp] theorem agg53 : isAggT Try.prog 53 = false := by kernel_rfl
attribute [simp] Try.underlying53
@[simp] theorem bytes53 : Try.t53.bytes = 0 := rfl
@[simp] theorem cells54 : Try.prog.cellsOf 54 = 1 := by kernel_rfl
@[simp] theorem info54 : Try.prog.info? 54 = some Try.t54 := by kernel_rfl
@[simp] theorem agg54 : isAggT Try.prog 54 = false := by kernel_rfl
attribute [simp] Try.underlying54
@[simp] theorem bytes54 : Try.t54.bytes = 8 := rfl
@[simp] theorem zero54 : Try.t54.zero = some .nilFunc := rfl
@[simp] theorem cells55 : Try.prog.cellsOf 55 = 1 := by kernel_rfl
@[simp] theorem info55 : Try.prog.info? 55 = some Try.t55 := by kernel_rfl
@[simp] theorem agg55 : isAggT Try.prog 55 = false := by kernel_rfl
attribute [simp] Try.underlying55
@[simp] theorem bytes55 : Try.t55.bytes = 0 := rfl
@[simp] theorem cells56 : Try.prog.cellsOf 56 = 1 := by kernel_rfl
@[simp] theorem info56 : Try.prog.info? 56 = some Try.t56 := by kernel_rfl
@[simp] theorem agg56 : isAggT Try.prog 56 = false := by kernel_rfl
attribute [simp] Try.underlying56
@[simp] theorem bytes56 : Try.t56.bytes = 8 := rfl
@[simp] theorem zero56 : Try.t56.zero = some .nilFunc := rfl
@[simp] theorem cells57 : Try.prog.cellsOf 57 = 1 := by kernel_rfl
@[simp] theorem info57 : Try.prog.info? 57 = some Try.t57 := by kernel_rfl
@[simp] theorem agg57 : isAggT Try.prog 57 = false := by kernel_rfl
attribute [simp] Try.underlying57
@[simp] theorem bytes57 : Try.t57.bytes = 8 := rfl
@[simp] theorem zero57 : Try.t57.zero = some .nilFunc := rfl
@[simp] theorem cells58 : Try.prog.cellsOf 58 = 1 := by kernel_rfl
@[simp] theorem info58 : Try.prog.info? 58 = some Try.t58 := by kernel_rfl
@[simp] theorem agg58 : isAggT Try.prog 58 = false := by kernel_rfl
attribute [simp] Try.underlying58
@[simp] theorem bytes58 : Try.t58.bytes = 8 := rfl
@[simp] theorem zero58 : Try.t58.zero = some .nilFunc := rfl
@[simp] theorem cells59 : Try.prog.cellsOf 59 = 1 := by kernel_rfl
@[simp] theorem info59 : Try.prog.info? 59 = some Try.t59 := by kernel_rfl
@[simp] theorem agg59 : isAggT Try.prog 59 = false := by kernel_rfl
attribute [simp] Try.underlying59
@[simp] theorem bytes59 : Try.t59.bytes = 8 := rfl
@[simp] theorem zero59 : Try.t59.zero = some .nilFunc := rfl
@[simp] theorem cells60 : Try.prog.cellsOf 60 = 1 := by kernel_rfl
@[simp] theorem info60 : Try.prog.info? 60 = some Try.t60 := by kernel_rfl
@[simp] theorem agg60 : isAggT Try.prog 60 = false := by kernel_rfl
attribute [simp] Try.underlying60
@[simp] theorem bytes60 : Try.t60.bytes = 2 := rfl
@[simp] theorem zero60 : Try.t60.zero = some (.int .u16 0) := rfl
@[simp] theorem cells61 : Try.prog.cellsOf 61 = 1 := by kernel_rfl
@[simp] theorem info61 : Try.prog.info? 61 = some Try.t61 := by kernel_rfl
@[simp] theorem agg61 : isAggT Try.prog 61 = false := by kernel_rfl
attribute [simp] Try.underlying61
@[simp] theorem bytes61 : Try.t61.bytes = 8 := rfl
@[simp] theorem zero61 : Try.t61.zero = some .nilFunc := rfl
@[simp] theorem cells62 : Try.prog.cellsOf 62 = 1 := by kernel_rfl
@[simp] theorem info62 : Try.prog.info? 62 = some Try.t62 := by kernel_rfl
@[simp] theorem agg62 : isAggT Try.prog 62 = false := by kernel_rfl
attribute [simp] Try.underlying62
@[simp] theorem bytes62 : Try.t62.bytes = 8 := rfl
@[simp] theorem zero62 : Try.t62.zero = some .nilFunc := rfl
@[simp] theorem cells63 : Try.prog.cellsOf 63 = 5 := by kernel_rfl
@[simp] theorem info63 : Try.prog.info? 63 = some Try.t63 := by kernel_rfl
@[simp] theorem agg63 : isAggT Try.prog 63 = true := by kernel_rfl
attribute [simp] Try.underlying63
@[simp] theorem bytes63 : Try.t63.bytes = 72 := rfl
@[simp] theorem zero63 : Try.t63.zero = some (.agg #[(.int .i64 0), (.int .i64 0), (.bool false), (.slice none 0 0), (.slice none 0 0)]) := rfl
@[simp] theorem cells64 : Try.prog.cellsOf 64 = 5 := by kernel_rfl
@[simp] theorem info64 : Try.prog.info? 64 = some Try.t64 := by kernel_rfl
@[simp] theorem agg64 : isAggT Try.prog 64 = true := by kernel_rfl
attribute [simp] Try.underlying64
@[simp] theorem bytes64 : Try.t64.bytes = 72 := rfl
@[simp] theorem zero64 : Try.t64.zero = some (.agg #[(.int .i64 0), (.int .i64 0), (.bool false), (.slice none 0 0), (.slice none 0 0)]) := rfl
@[simp] theorem cells65 : Try.prog.cellsOf 65 = 1 := by kernel_rfl
@[simp] theorem info65 : Try.prog.info? 65 = some Try.t65 := by kernel_rfl
@[simp] theorem agg65 : isAggT Try.prog 65 = false := by kernel_rfl
attribute [simp] Try.underlying65
@[simp] theorem bytes65 : Try.t65.bytes = 8 := rfl
@[simp] theorem zero65 : Try.t65.zero = some .nilFunc := rfl
@[simp] theorem cells66 : Try.prog.cellsOf 66 = 1 := by kernel_rfl
@[simp] theorem info66 : Try.prog.info? 66 = some Try.t66 := by kernel_rfl
@[simp] theorem agg66 : isAggT Try.prog 66 = false := by kernel_rfl
attribute [simp] Try.underlying66
@[simp] theorem bytes66 : Try.t66.bytes = 8 := rfl
@[simp] theorem zero66 : Try.t66.zero = some .nilFunc := rfl
@[simp] theorem cells67 : Try.prog.cellsOf 67 = 1 := by kernel_rfl
@[simp] theorem info67 : Try.prog.info? 67 = some Try.t67 := by kernel_rfl
@[simp] theorem agg67 : isAggT Try.prog 67 = false := by kernel_rfl
attribute [simp] Try.underlying67
@[simp] theorem bytes67 : Try.t67.bytes = 8 := rfl
@[simp] theorem zero67 : Try.t67.zero = some .nilFunc := rfl
@[simp] theorem cells68 : Try.prog.cellsOf 68 = 3 := by kernel_rfl
@[simp] theorem info68 : Try.prog.info? 68 = some Try.t68 := by kernel_rfl
@[simp] theorem agg68 : isAggT Try.prog 68 = true := by kernel_rfl
attribute [simp] Try.underlying68
@[simp] theorem bytes68 : Try.t68.bytes = 40 := rfl
@[simp] theorem zero68 : Try.t68.zero = some (.agg #[(.int .i64 0), (.int .i64 0), (.slice none 0 0)]) := rfl
@[simp] theorem cells69 : Try.prog.cellsOf 69 = 3 := by kernel_rfl
@[simp] theorem info69 : Try.prog.info? 69 = some Try.t69 := by kernel_rfl
@[simp] theorem agg69 : isAggT Try.prog 69 = true := by kernel_rfl
attribute [simp] Try.underlying69
@[simp] theorem bytes69 : Try.t69.bytes = 40 := rfl
@[simp] theorem zero69 : Try.t69.zero = some (.agg #[(.int .i64 0), (.int .i64 0), (.slice none 0 0)]) := rfl
@[simp] theorem cells70 : Try.prog.cellsOf 70 = 1 := by kernel_rfl
@[simp] theorem info70 : Try.prog.info? 70 = some Try.t70 := by kernel_rfl
@[simp] theorem agg70 : isAggT Try.prog 70 = false := by kernel_rfl
attribute [simp] Try.underlying70
@[simp] theorem bytes70 : Try.t70.bytes = 0 := rfl
@[simp] theorem cells71 : Try.prog.cellsOf 71 = 1 := by kernel_rfl
@[simp] theorem info71 : Try.prog.info? 71 = some Try.t71 := by kernel_rfl
@[simp] theorem agg71 : isAggT Try.prog 71 = false := by kernel_rfl
attribute [simp] Try.underlying71
@[simp] theorem bytes71 : Try.t71.bytes = 8 := rfl
@[simp] theorem zero71 : Try.t71.zero = some .nilFunc := rfl
@[simp] theorem cells72 : Try.prog.cellsOf 72 = 1 := by kernel_rfl
@[simp] theorem info72 : Try.prog.info? 72 = some Try.t72 := by kernel_rfl
@[simp] theorem agg72 : isAggT Try.prog 72 = false := by kernel_rfl
attribute [simp] Try.underlying72
@[simp] theorem bytes72 : Try.t72.bytes = 8 := rfl
@[simp] theorem zero72 : Try.t72.zero = some .nilFunc := rfl
@[simp] theorem cells73 : Try.prog.cellsOf 73 = 1 := by kernel_rfl
@[simp] theorem info73 : Try.prog.info? 73 = some Try.t73 := by kernel_rfl
@[simp] theorem agg73 : isAggT Try.prog 73 = false := by kernel_rfl
attribute [simp] Try.underlying73
@[simp] theorem bytes73 : Try.t73.bytes = 8 := rfl
@[simp] theorem zero73 : Try.t73.zero = some .nilFunc := rfl
@[simp] theorem cells74 : Try.prog.cellsOf 74 = 1 := by kernel_rfl
@[simp] theorem info74 : Try.prog.info? 74 = some Try.t74 := by kernel_rfl
@[simp] theorem agg74 : isAggT Try.prog 74 = false := by kernel_rfl
attribute [simp] Try.underlying74
@[simp] theorem bytes74 : Try.t74.bytes = 8 := rfl
@[simp] theorem zero74 : Try.t74.zero = some .nilFunc := rfl
@[simp] theorem cells75 : Try.prog.cellsOf 75 = 1 := by kernel_rfl
@[simp] theorem info75 : Try.prog.info? 75 = some Try.t75 := by kernel_rfl
@[simp] theorem agg75 : isAggT Try.prog 75 = false := by kernel_rfl
attribute [simp] Try.underlying75
@[simp] theorem bytes75 : Try.t75.bytes = 8 := rfl
@[simp] theorem zero75 : Try.t75.zero = some .nilFunc := rfl
@[simp] theorem cells76 : Try.prog.cellsOf 76 = 1 := by kernel_rfl
@[simp] theorem info76 : Try.prog.info? 76 = some Try.t76 := by kernel_rfl
@[simp] theorem agg76 : isAggT Try.prog 76 = false := by kernel_rfl
attribute [simp] Try.underlying76
@[simp] theorem bytes76 : Try.t76.bytes = 8 := rfl
@[simp] theorem zero76 : Try.t76.zero = some .nilFunc := rfl
@[simp] theorem cells77 : Try.prog.cellsOf 77 = 1 := by kernel_rfl
@[simp] theorem info77 : Try.prog.info? 77 = some Try.t77 := by kernel_rfl
@[simp] theorem agg77 : isAggT Try.prog 77 = false := by kernel_rfl
attribute [simp] Try.underlying77
@[simp] theorem bytes77 : Try.t77.bytes = 8 := rfl
@[simp] theorem zero77 : Try.t77.zero = some .nilFunc := rfl
@[simp] theorem cells78 : Try.prog.cellsOf 78 = 1 := by kernel_rfl
@[simp] theorem info78 : Try.prog.info? 78 = some Try.t78 := by kernel_rfl
@[simp] theorem agg78 : isAggT Try.prog 78 = false := by kernel_rfl
attribute [simp] Try.underlying78
@[simp] theorem bytes78 : Try.t78.bytes = 8 := rfl
@[simp] theorem zero78 : Try.t78.zero = some .nilFunc := rfl
@[simp] theorem cells79 : Try.prog.cellsOf 79 = 1 := by kernel_rfl
@[simp] theorem info79 : Try.prog.info? 79 = some Try.t79 := by kernel_rfl
@[simp] theorem agg79 : isAggT Try.prog 79 = false := by kernel_rfl
attribute [simp] Try.underlying79
@[simp] theorem bytes79 : Try.t79.bytes = 8 := rfl
@[simp] theorem zero79 : Try.t79.zero = some .nilFunc := rfl
@[simp] theorem cells80 : Try.prog.cellsOf 80 = 1 := by kernel_rfl
@[simp] theorem info80 : Try.prog.info? 80 = some Try.t80 := by kernel_rfl
@[simp] theorem agg80 : isAggT Try.prog 80 = false := by kernel_rfl
attribute [simp] Try.underlying80
@[simp] theorem bytes80 : Try.t80.bytes = 8 := rfl
@[simp] theorem zero80 : Try.t80.zero = some .nilFunc := rfl
@[simp] theorem cells81 : Try.prog.cellsOf 81 = 1 := by kernel_rfl
@[simp] theorem info81 : Try.prog.info? 81 = some Try.t81 := by kernel_rfl
@[simp] theorem agg81 : isAggT Try.prog 81 = false := by kernel_rfl
attribute [simp] Try.underlying81
@[simp] theorem bytes81 : Try.t81.bytes = 24 := rfl
@[simp] theorem zero81 : Try.t81.zero = some (.slice none 0 0) := rfl
@[simp] theorem cells82 : Try.prog.cellsOf 82 = 1 := by kernel_rfl
@[simp] theorem info82 : Try.prog.info? 82 = some Try.t82 := by kernel_rfl
@[simp] theorem agg82 : isAggT Try.prog 82 = false := by kernel_rfl
attribute [simp] Try.underlying82
@[simp] theorem bytes82 : Try.t82.bytes = 8 := rfl
@[simp] theorem zero82 : Try.t82.zero = some (.pointer none) := rfl
@[simp] theorem cells83 : Try.prog.cellsOf 83 = 1 := by kernel_rfl
@[simp] theorem info83 : Try.prog.info? 83 = some Try.t83 := by kernel_rfl
@[simp] theorem agg83 : isAggT Try.prog 83 = false := by kernel_rfl
attribute [simp] Try.underlying83
@[simp] theorem bytes83 : Try.t83.bytes = 8 := rfl
@[simp] theorem zero83 : Try.t83.zero = some (.pointer none) := rfl
@[simp] theorem cells84 : Try.prog.cellsOf 84 = 2 := by kernel_rfl
@[simp] theorem info84 : Try.prog.info? 84 = some Try.t84 := by kernel_rfl
@[simp] theorem agg84 : isAggT Try.prog 84 = true := by kernel_rfl
attribute [simp] Try.underlying84
@[simp] theorem bytes84 : Try.t84.bytes = 32 := rfl
@[simp] theorem zero84 : Try.t84.zero = some (.agg #[(.pointer none), (.slice none 0 0)]) := rfl
@[simp] theorem cells85 : Try.prog.cellsOf 85 = 2 := by kernel_rfl
@[simp] theorem info85 : Try.prog.info? 85 = some Try.t85 := by kernel_rfl
@[simp] theorem agg85 : isAggT Try.prog 85 = true := by kernel_rfl
attribute [simp] Try.underlying85
@[simp] theorem bytes85 : Try.t85.bytes = 32 := rfl
@[simp] theorem zero85 : Try.t85.zero = some (.agg #[(.pointer none), (.slice none 0 0)]) := rfl
@[simp] theorem cells86 : Try.prog.cellsOf 86 = 3 := by kernel_rfl
@[simp] theorem info86 : Try.prog.info? 86 = some Try.t86 := by kernel_rfl
@[simp] theorem agg86 : isAggT Try.prog 86 = true := by kernel_rfl
attribute [simp] Try.underlying86
@[simp] theorem bytes86 : Try.t86.bytes = 56 := rfl
@[simp] theorem zero86 : Try.t86.zero = some (.agg #[(.pointer none), (.slice none 0 0), (.slice none 0 0)]) := rfl
@[simp] theorem cells87 : Try.prog.cellsOf 87 = 3 := by kernel_rfl
@[simp] theorem info87 : Try.prog.info? 87 = some Try.t87 := by kernel_rfl
@[simp] theorem agg87 : isAggT Try.prog 87 = true := by kernel_rfl
attribute [simp] Try.underlying87
@[simp] theorem bytes87 : Try.t87.bytes = 56 := rfl
@[simp] theorem zero87 : Try.t87.zero = some (.agg #[(.pointer none), (.slice none 0 0), (.slice none 0 0)]) := rfl
@[simp] theorem cells88 : Try.prog.cellsOf 88 = 1 := by kernel_rfl
@[simp] theorem info88 : Try.prog.info? 88 = some Try.t88 := by kernel_rfl
@[simp] theorem agg88 : isAggT Try.prog 88 = false := by kernel_rfl
attribute [simp] Try.underlying88
@[simp] theorem bytes88 : Try.t88.bytes = 8 := rfl
@[simp] theorem zero88 : Try.t88.zero = some .nilFunc := rfl
@[simp] theorem cells89 : Try.prog.cellsOf 89 = 1 := by kernel_rfl
@[simp] theorem info89 : Try.prog.info? 89 = some Try.t89 := by kernel_rfl
@[simp] theorem agg89 : isAggT Try.prog 89 = false := by kernel_rfl
attribute [simp] Try.underlying89
@[simp] theorem bytes89 : Try.t89.bytes = 8 := rfl
@[simp] theorem zero89 : Try.t89.zero = some .nilFunc := rfl
@[simp] theorem cells90 : Try.prog.cellsOf 90 = 1 := by kernel_rfl
@[simp] theorem info90 : Try.prog.info? 90 = some Try.t90 := by kernel_rfl
@[simp] theorem agg90 : isAggT Try.prog 90 = false := by kernel_rfl
attribute [simp] Try.underlying90
@[simp] theorem bytes90 : Try.t90.bytes = 8 := rfl
@[simp] theorem zero90 : Try.t90.zero = some .nilFunc := rfl
@[simp] theorem cells91 : Try.prog.cellsOf 91 = 1 := by kernel_rfl
@[simp] theorem info91 : Try.prog.info? 91 = some Try.t91 := by kernel_rfl
@[simp] theorem agg91 : isAggT Try.prog 91 = false := by kernel_rfl
attribute [simp] Try.underlying91
@[simp] theorem bytes91 : Try.t91.bytes = 8 := rfl
@[simp] theorem zero91 : Try.t91.zero = some .nilFunc := rfl
@[simp] theorem cells92 : Try.prog.cellsOf 92 = 1 := by kernel_rfl
@[simp] theorem info92 : Try.prog.info? 92 = some Try.t92 := by kernel_rfl
@[simp] theorem agg92 : isAggT Try.prog 92 = false := by kernel_rfl
attribute [simp] Try.underlying92
@[simp] theorem bytes92 : Try.t92.bytes = 8 := rfl
@[simp] theorem zero92 : Try.t92.zero = some .nilFunc := rfl
@[simp] theorem cells93 : Try.prog.cellsOf 93 = 1 := by kernel_rfl
@[simp] theorem info93 : Try.prog.info? 93 = some Try.t93 := by kernel_rfl
@[simp] theorem agg93 : isAggT Try.prog 93 = false := by kernel_rfl
attribute [simp] Try.underlying93
@[simp] theorem bytes93 : Try.t93.bytes = 16 := rfl
@[simp] theorem zero93 : Try.t93.zero = some .nilIface := rfl
@[simp] theorem cells94 : Try.prog.cellsOf 94 = 1 := by kernel_rfl
@[simp] theorem info94 : Try.prog.info? 94 = some Try.t94 := by kernel_rfl
@[simp] theorem agg94 : isAggT Try.prog 94 = false := by kernel_rfl
attribute [simp] Try.underlying94
@[simp] theorem bytes94 : Try.t94.bytes = 16 := rfl
@[simp] theorem zero94 : Try.t94.zero = some .nilIface := rfl
@[simp] theorem cells95 : Try.prog.cellsOf 95 = 1 := by kernel_rfl
@[simp] theorem info95 : Try.prog.info? 95 = some Try.t95 := by kernel_rfl
@[simp] theorem agg95 : isAggT Try.prog 95 = false := by kernel_rfl
attribute [simp] Try.underlying95
@[simp] theorem bytes95 : Try.t95.bytes = 8 := rfl
@[simp] theorem zero95 : Try.t95.zero = some .nilFunc := rfl
@[simp] theorem cells96 : Try.prog.cellsOf 96 = 1 := by kernel_rfl
@[simp] theorem info96 : Try.prog.info? 96 = some Try.t96 := by kernel_rfl
@[simp] theorem agg96 : isAggT Try.prog 96 = false := by kernel_rfl
attribute [simp] Try.underlying96
@[simp] theorem bytes96 : Try.t96.bytes = 8 := rfl
@[simp] theorem zero96 : Try.t96.zero = some .nilFunc := rfl
@[simp] theorem cells97 : Try.prog.cellsOf 97 = 1 := by kernel_rfl
@[simp] theorem info97 : Try.prog.info? 97 = some Try.t97 := by kernel_rfl
@[simp] theorem agg97 : isAggT Try.prog 97 = false := by kernel_rfl
attribute [simp] Try.underlying97
@[simp] theorem bytes97 : Try.t97.bytes = 0 := rfl
@[simp] theorem cells98 : Try.prog.cellsOf 98 = 1 := by kernel_rfl
@[simp] theorem info98 : Try.prog.info? 98 = some Try.t98 := by kernel_rfl
@[simp] theorem agg98 : isAggT Try.prog 98 = false := by kernel_rfl
attribute [simp] Try.underlying98
@[simp] theorem bytes98 : Try.t98.bytes = 8 := rfl
@[simp] theorem zero98 : Try.t98.zero = some .nilFunc := rfl
@[simp] theorem cells99 : Try.prog.cellsOf 99 = 1 := by kernel_rfl
@[simp] theorem info99 : Try.prog.info? 99 = some Try.t99 := by kernel_rfl
@[simp] theorem agg99 : isAggT Try.prog 99 = false := by kernel_rfl
attribute [simp] Try.underlying99
@[simp] theorem bytes99 : Try.t99.bytes = 8 := rfl
@[simp] theorem zero99 : Try.t99.zero = some (.pointer none) := rfl
@[simp] theorem cells100 : Try.prog.cellsOf 100 = 1 := by kernel_rfl
@[simp] theorem info100 : Try.prog.info? 100 = some Try.t100 := by kernel_rfl
@[simp] theorem agg100 : isAggT Try.prog 100 = false := by kernel_rfl
attribute [simp] Try.underlying100
@[simp] theorem bytes100 : Try.t100.bytes = 8 := rfl
@[simp] theorem zero100 : Try.t100.zero = some .nilFunc := rfl
@[simp] theorem cells101 : Try.prog.cellsOf 101 = 1 := by kernel_rfl
@[simp] theorem info101 : Try.prog.info? 101 = some Try.t101 := by kernel_rfl
@[simp] theorem agg101 : isAggT Try.prog 101 = false := by kernel_rfl
attribute [simp] Try.underlying101
@[simp] theorem bytes101 : Try.t101.bytes = 8 := rfl
@[simp] theorem zero101 : Try.t101.zero = some .nilFunc := rfl
@[simp] theorem cells102 : Try.prog.cellsOf 102 = 3 := by kernel_rfl
@[simp] theorem info102 : Try.prog.info? 102 = some Try.t102 := by kernel_rfl
@[simp] theorem agg102 : isAggT Try.prog 102 = true := by kernel_rfl
attribute [simp] Try.underlying102
@[simp] theorem bytes102 : Try.t102.bytes = 40 := rfl
@[simp] theorem zero102 : Try.t102.zero = some (.agg #[(.slice none 0 0), (.int .i64 0), (.bool false)]) := rfl
@[simp] theorem cells103 : Try.prog.cellsOf 103 = 3 := by kernel_rfl
@[simp] theorem info103 : Try.prog.info? 103 = some Try.t103 := by kernel_rfl
@[simp] theorem agg103 : isAggT Try.prog 103 = true := by kernel_rfl
attribute [simp] Try.underlying103
@[simp] theorem bytes103 : Try.t103.bytes = 40 := rfl
@[simp] theorem zero103 : Try.t103.zero = some (.agg #[(.slice none 0 0), (.int .i64 0), (.bool false)]) := rfl
@[simp] theorem cells104 : Try.prog.cellsOf 104 = 1 := by kernel_rfl
@[simp] theorem info104 : Try.prog.info? 104 = some Try.t104 := by kernel_rfl
@[simp] theorem agg104 : isAggT Try.prog 104 = false := by kernel_rfl
attribute [simp] Try.underlying104
@[simp] theorem bytes104 : Try.t104.bytes = 8 := rfl
@[simp] theorem zero104 : Try.t104.zero = some .nilFunc := rfl
@[simp] theorem cells105 : Try.prog.cellsOf 105 = 1 := by kernel_rfl
@[simp] theorem info105 : Try.prog.info? 105 = some Try.t105 := by kernel_rfl
@[simp] theorem agg105 : isAggT Try.prog 105 = true := by kernel_rfl
attribute [simp] Try.underlying105
@[simp] theorem bytes105 : Try.t105.bytes = 16 := rfl
@[simp] theorem zero105 : Try.t105.zero = some (.agg #[(.string ⟨#[]⟩)]) := rfl
@[simp] theorem cells106 : Try.prog.cellsOf 106 = 1 := by kernel_rfl
@[simp] theorem info106 : Try.prog.info? 106 = some Try.t106 := by kernel_rfl
@[simp] theorem agg106 : isAggT Try.prog 106 = true := by kernel_rfl
attribute [simp] Try.underlying106
@[simp] theorem bytes106 : Try.t106.bytes = 16 := rfl
@[simp] theorem zero106 : Try.t106.zero = some (.agg #[(.string ⟨#[]⟩)]) := rfl
@[simp] theorem cells107 : Try.prog.cellsOf 107 = 1 := by kernel_rfl
@[simp] theorem info107 : Try.prog.info? 107 = some Try.t107 := by kernel_rfl
@[simp] theorem agg107 : isAggT Try.prog 107 = false := by kernel_rfl
attribute [simp] Try.underlying107
@[simp] theorem bytes107 : Try.t107.bytes = 8 := rfl
@[simp] theorem zero107 : Try.t107.zero = some .nilFunc := rfl
@[simp] theorem cells108 : Try.prog.cellsOf 108 = 1 := by kernel_rfl
@[simp] theorem info108 : Try.prog.info? 108 = some Try.t108 := by kernel_rfl
@[simp] theorem agg108 : isAggT Try.prog 108 = false := by kernel_rfl
attribute [simp] Try.underlying108
@[simp] theorem bytes108 : Try.t108.bytes = 8 := rfl
@[simp] theorem zero108 : Try.t108.zero = some .nilFunc := rfl
@[simp] theorem cells109 : Try.prog.cellsOf 109 = 1 := by kernel_rfl
@[simp] theorem info109 : Try.prog.info? 109 = some Try.t109 := by kernel_rfl
@[simp] theorem agg109 : isAggT Try.prog 109 = false := by kernel_rfl
attribute [simp] Try.underlying109
@[simp] theorem bytes109 : Try.t109.bytes = 8 := rfl
@[simp] theorem zero109 : Try.t109.zero = some .nilFunc := rfl
@[simp] theorem cells110 : Try.prog.cellsOf 110 = 1 := by kernel_rfl
@[simp] theorem info110 : Try.prog.info? 110 = some Try.t110 := by kernel_rfl
@[simp] theorem agg110 : isAggT Try.prog 110 = false := by kernel_rfl
attribute [simp] Try.underlying110
@[simp] theorem bytes110 : Try.t110.bytes = 24 := rfl
@[simp] theorem zero110 : Try.t110.zero = some (.slice none 0 0) := rfl
@[simp] theorem cells111 : Try.prog.cellsOf 111 = 1 := by kernel_rfl
@[simp] theorem info111 : Try.prog.info? 111 = some Try.t111 := by kernel_rfl
@[simp] theorem agg111 : isAggT Try.prog 111 = false := by kernel_rfl
attribute [simp] Try.underlying111
@[simp] theorem bytes111 : Try.t111.bytes = 8 := rfl
@[simp] theorem zero111 : Try.t111.zero = some .nilFunc := rfl
@[simp] theorem cells112 : Try.prog.cellsOf 112 = 1 := by kernel_rfl
@[simp] theorem info112 : Try.prog.info? 112 = some Try.t112 := by kernel_rfl
@[simp] theorem agg112 : isAggT Try.prog 112 = false := by kernel_rfl
attribute [simp] Try.underlying112
@[simp] theorem bytes112 : Try.t112.bytes = 8 := rfl
@[simp] theorem zero112 : Try.t112.zero = some .nilFunc := rfl
@[simp] theorem cells113 : Try.prog.cellsOf 113 = 0 := by kernel_rfl
@[simp] theorem info113 : Try.prog.info? 113 = some Try.t113 := by kernel_rfl
@[simp] theorem agg113 : isAggT Try.prog 113 = true := by kernel_rfl
attribute [simp] Try.underlying113
@[simp] theorem bytes113 : Try.t113.bytes = 0 := rfl
@[simp] theorem zero113 : Try.t113.zero = some (.agg #[]) := rfl
@[simp] theorem cells114 : Try.prog.cellsOf 114 = 0 := by kernel_rfl
@[simp] theorem info114 : Try.prog.info? 114 = some Try.t114 := by kernel_rfl
@[simp] theorem agg114 : isAggT Try.prog 114 = true := by kernel_rfl
attribute [simp] Try.underlying114
@[simp] theorem bytes114 : Try.t114.bytes = 0 := rfl
@[simp] theorem zero114 : Try.t114.zero = some (.agg #[]) := rfl
@[simp] theorem cells115 : Try.prog.cellsOf 115 = 1 := by kernel_rfl
@[simp] theorem info115 : Try.prog.info? 115 = some Try.t115 := by kernel_rfl
@[simp] theorem agg115 : isAggT Try.prog 115 = false := by kernel_rfl
attribute [simp] Try.underlying115
@[simp] theorem bytes115 : Try.t115.bytes = 0 := rfl
@[simp] theorem cells116 : Try.prog.cellsOf 116 = 1 := by kernel_rfl
@[simp] theorem info116 : Try.prog.info? 116 = some Try.t116 := by kernel_rfl
@[simp] theorem agg116 : isAggT Try.prog 116 = false := by kernel_rfl
attribute [simp] Try.underlying116
@[simp] theorem bytes116 : Try.t116.bytes = 8 := rfl
@[simp] theorem zero116 : Try.t116.zero = some .nilFunc := rfl
@[simp] theorem cells117 : Try.prog.cellsOf 117 = 1 := by kernel_rfl
@[simp] theorem info117 : Try.prog.info? 117 = some Try.t117 := by kernel_rfl
@[simp] theorem agg117 : isAggT Try.prog 117 = false := by kernel_rfl
attribute [simp] Try.underlying117
@[simp] theorem bytes117 : Try.t117.bytes = 8 := rfl
@[simp] theorem zero117 : Try.t117.zero = some .nilFunc := rfl
@[simp] theorem cells118 : Try.prog.cellsOf 118 = 1 := by kernel_rfl
@[simp] theorem info118 : Try.prog.info? 118 = some Try.t118 := by kernel_rfl
@[simp] theorem agg118 : isAggT Try.prog 118 = false := by kernel_rfl
attribute [simp] Try.underlying118
@[simp] theorem bytes118 : Try.t118.bytes = 8 := rfl
@[simp] theorem zero118 : Try.t118.zero = some .nilFunc := rfl
@[simp] theorem cells119 : Try.prog.cellsOf 119 = 1 := by kernel_rfl
@[simp] theorem info119 : Try.prog.info? 119 = some Try.t119 := by kernel_rfl
@[simp] theorem agg119 : isAggT Try.prog 119 = false := by kernel_rfl
attribute [simp] Try.underlying119
@[simp] theorem bytes119 : Try.t119.bytes = 8 := rfl
@[simp] theorem zero119 : Try.t119.zero = some (.int .u64 0) := rfl
@[simp] theorem cells120 : Try.prog.cellsOf 120 = 6 := by kernel_rfl
@[simp] theorem info120 : Try.prog.info? 120 = some Try.t120 := by kernel_rfl
@[simp] theorem agg120 : isAggT Try.prog 120 = true := by kernel_rfl
attribute [simp] Try.underlying120
@[simp] theorem bytes120 : Try.t120.bytes = 48 := rfl
@[simp] theorem zero120 : Try.t120.zero = some (.agg #[.nilFunc, .nilFunc, .nilFunc, .nilFunc, .nilFunc, .nilFunc]) := rfl
@[simp] theorem cells121 : Try.prog.cellsOf 121 = 1 := by kernel_rfl
@[simp] theorem info121 : Try.prog.info? 121 = some Try.t121 := by kernel_rfl
@[simp] theorem agg121 : isAggT Try.prog 121 = false := by kernel_rfl
attribute [simp] Try.underlying121
@[simp] theorem bytes121 : Try.t121.bytes = 8 := rfl
@[simp] theorem zero121 : Try.t121.zero = some (.pointer none) := rfl
@[simp] theorem cells122 : Try.prog.cellsOf 122 = 1 := by kernel_rfl
@[simp] theorem info122 : Try.prog.info? 122 = some Try.t122 := by kernel_rfl
@[simp] theorem agg122 : isAggT Try.prog 122 = false := by kernel_rfl
attribute [simp] Try.underlying122
@[simp] theorem bytes122 : Try.t122.bytes = 8 := rfl
@[simp] theorem zero122 : Try.t122.zero = some .nilFunc := rfl
@[simp] theorem cells123 : Try.prog.cellsOf 123 = 1 := by kernel_rfl
@[simp] theorem info123 : Try.prog.info? 123 = some Try.t123 := by kernel_rfl
@[simp] theorem agg123 : isAggT Try.prog 123 = false := by kernel_rfl
attribute [simp] Try.underlying123
@[simp] theorem bytes123 : Try.t123.bytes = 0 := rfl
@[simp] theorem cells124 : Try.prog.cellsOf 124 = 1 := by kernel_rfl
@[simp] theorem info124 : Try.prog.info? 124 = some Try.t124 := by kernel_rfl
@[simp] theorem agg124 : isAggT Try.prog 124 = false := by kernel_rfl
attribute [simp] Try.underlying124
@[simp] theorem bytes124 : Try.t124.bytes = 8 := rfl
@[simp] theorem zero124 : Try.t124.zero = some .nilFunc := rfl
@[simp] theorem cells125 : Try.prog.cellsOf 125 = 0 := by kernel_rfl
@[simp] theorem info125 : Try.prog.info? 125 = some Try.t125 := by kernel_rfl
@[simp] theorem agg125 : isAggT Try.prog 125 = true := by kernel_rfl
attribute [simp] Try.underlying125
@[simp] theorem bytes125 : Try.t125.bytes = 0 := rfl
@[simp] theorem zero125 : Try.t125.zero = some (.agg #[]) := rfl
@[simp] theorem cells126 : Try.prog.cellsOf 126 = 1 := by kernel_rfl
@[simp] theorem info126 : Try.prog.info? 126 = some Try.t126 := by kernel_rfl
@[simp] theorem agg126 : isAggT Try.prog 126 = false := by kernel_rfl
attribute [simp] Try.underlying126
@[simp] theorem bytes126 : Try.t126.bytes = 0 := rfl
@[simp] theorem cells127 : Try.prog.cellsOf 127 = 1 := by kernel_rfl
@[simp] theorem info127 : Try.prog.info? 127 = some Try.t127 := by kernel_rfl
@[simp] theorem agg127 : isAggT Try.prog 127 = false := by kernel_rfl
attribute [simp] Try.underlying127
@[simp] theorem bytes127 : Try.t127.bytes = 8 := rfl
@[simp] theorem zero127 : Try.t127.zero = some (.int .u64 0) := rfl
@[simp] theorem cells128 : Try.prog.cellsOf 128 = 1 := by kernel_rfl
@[simp] theorem info128 : Try.prog.info? 128 = some Try.t128 := by kernel_rfl
@[simp] theorem agg128 : isAggT Try.prog 128 = false := by kernel_rfl
attribute [simp] Try.underlying128
@[simp] theorem bytes128 : Try.t128.bytes = 8 := rfl
@[simp] theorem zero128 : Try.t128.zero = some .nilFunc := rfl
@[simp] theorem cells129 : Try.prog.cellsOf 129 = 1 := by kernel_rfl
@[simp] theorem info129 : Try.prog.info? 129 = some Try.t129 := by kernel_rfl
@[simp] theorem agg129 : isAggT Try.prog 129 = false := by kernel_rfl
attribute [simp] Try.underlying129
@[simp] theorem bytes129 : Try.t129.bytes = 8 := rfl
@[simp] theorem zero129 : Try.t129.zero = some .nilFunc := rfl
@[simp] theorem cells130 : Try.prog.cellsOf 130 = 1 := by kernel_rfl
@[simp] theorem info130 : Try.prog.info? 130 = some Try.t130 := by kernel_rfl
@[simp] theorem agg130 : isAggT Try.prog 130 = false := by kernel_rfl
attribute [simp] Try.underlying130
@[simp] theorem bytes130 : Try.t130.bytes = 8 := rfl
@[simp] theorem zero130 : Try.t130.zero = some .nilFunc := rfl
@[simp] theorem cells131 : Try.prog.cellsOf 131 = 1 := by kernel_rfl
@[simp] theorem info131 : Try.prog.info? 131 = some Try.t131 := by kernel_rfl
@[simp] theorem agg131 : isAggT Try.prog 131 = false := by kernel_rfl
attribute [simp] Try.underlying131
@[simp] theorem bytes131 : Try.t131.bytes = 8 := rfl
@[simp] theorem zero131 : Try.t131.zero = some .nilFunc := rfl
@[simp] theorem cells132 : Try.prog.cellsOf 132 = 1 := by kernel_rfl
@[simp] theorem info132 : Try.prog.info? 132 = some Try.t132 := by kernel_rfl
@[simp] theorem agg132 : isAggT Try.prog 132 = false := by kernel_rfl
attribute [simp] Try.underlying132
@[simp] theorem bytes132 : Try.t132.bytes = 8 := rfl
@[simp] theorem zero132 : Try.t132.zero = some .nilFunc := rfl
@[simp] theorem cells133 : Try.prog.cellsOf 133 = 1 := by kernel_rfl
@[simp] theorem info133 : Try.prog.info? 133 = some Try.t133 := by kernel_rfl
@[simp] theorem agg133 : isAggT Try.prog 133 = false := by kernel_rfl
attribute [simp] Try.underlying133
@[simp] theorem bytes133 : Try.t133.bytes = 8 := rfl
@[simp] theorem zero133 : Try.t133.zero = some .nilFunc := rfl
@[simp] theorem cells134 : Try.prog.cellsOf 134 = 1 := by kernel_rfl
@[simp] theorem info134 : Try.prog.info? 134 = some Try.t134 := by kernel_rfl
@[simp] theorem agg134 : isAggT Try.prog 134 = false := by kernel_rfl
attribute [simp] Try.underlying134
@[simp] theorem bytes134 : Try.t134.bytes = 8 := rfl
@[simp] theorem zero134 : Try.t134.zero = some .nilFunc := rfl
@[simp] theorem cells135 : Try.prog.cellsOf 135 = 1 := by kernel_rfl
@[simp] theorem info135 : Try.prog.info? 135 = some Try.t135 := by kernel_rfl
@[simp] theorem agg135 : isAggT Try.prog 135 = false := by kernel_rfl
attribute [simp] Try.underlying135
@[simp] theorem bytes135 : Try.t135.bytes = 8 := rfl
@[simp] theorem zero135 : Try.t135.zero = some .nilFunc := rfl
@[simp] theorem cells136 : Try.prog.cellsOf 136 = 1 := by kernel_rfl
@[simp] theorem info136 : Try.prog.info? 136 = some Try.t136 := by kernel_rfl
@[simp] theorem agg136 : isAggT Try.prog 136 = false := by kernel_rfl
attribute [simp] Try.underlying136
@[simp] theorem bytes136 : Try.t136.bytes = 24 := rfl
@[simp] theorem zero136 : Try.t136.zero = some (.slice none 0 0) := rfl
@[simp] theorem cells137 : Try.prog.cellsOf 137 = 1 := by kernel_rfl
@[simp] theorem info137 : Try.prog.info? 137 = some Try.t137 := by kernel_rfl
@[simp] theorem agg137 : isAggT Try.prog 137 = false := by kernel_rfl
attribute [simp] Try.underlying137
@[simp] theorem bytes137 : Try.t137.bytes = 8 := rfl
@[simp] theorem zero137 : Try.t137.zero = some .nilFunc := rfl
@[simp] theorem cells138 : Try.prog.cellsOf 138 = 1 := by kernel_rfl
@[simp] theorem info138 : Try.prog.info? 138 = some Try.t138 := by kernel_rfl
@[simp] theorem agg138 : isAggT Try.prog 138 = false := by kernel_rfl
attribute [simp] Try.underlying138
@[simp] theorem bytes138 : Try.t138.bytes = 8 := rfl
@[simp] theorem zero138 : Try.t138.zero = some .nilFunc := rfl
@[simp] theorem cells139 : Try.prog.cellsOf 139 = 1 := by kernel_rfl
@[simp] theorem info139 : Try.prog.info? 139 = some Try.t139 := by kernel_rfl
@[simp] theorem agg139 : isAggT Try.prog 139 = false := by kernel_rfl
attribute [simp] Try.underlying139
@[simp] theorem bytes139 : Try.t139.bytes = 8 := rfl
@[simp] theorem zero139 : Try.t139.zero = some .nilFunc := rfl
@[simp] theorem cells140 : Try.prog.cellsOf 140 = 1 := by kernel_rfl
@[simp] theorem info140 : Try.prog.info? 140 = some Try.t140 := by kernel_rfl
@[simp] theorem agg140 : isAggT Try.prog 140 = false := by kernel_rfl
attribute [simp] Try.underlying140
@[simp] theorem bytes140 : Try.t140.bytes = 8 := rfl
@[simp] theorem zero140 : Try.t140.zero = some .nilFunc := rfl
@[simp] theorem cells141 : Try.prog.cellsOf 141 = 1 := by kernel_rfl
@[simp] theorem info141 : Try.prog.info? 141 = some Try.t141 := by kernel_rfl
@[simp] theorem agg141 : isAggT Try.prog 141 = false := by kernel_rfl
attribute [simp] Try.underlying141
@[simp] theorem bytes141 : Try.t141.bytes = 8 := rfl
@[simp] theorem zero141 : Try.t141.zero = some (.int .i64 0) := rfl
@[simp] theorem cells142 : Try.prog.cellsOf 142 = 1 := by kernel_rfl
@[simp] theorem info142 : Try.prog.info? 142 = some Try.t142 := by kernel_rfl
@[simp] theorem agg142 : isAggT Try.prog 142 = false := by kernel_rfl
attribute [simp] Try.underlying142
@[simp] theorem bytes142 : Try.t142.bytes = 0 := rfl
@[simp] theorem cells143 : Try.prog.cellsOf 143 = 1 := by kernel_rfl
@[simp] theorem info143 : Try.prog.info? 143 = some Try.t143 := by kernel_rfl
@[simp] theorem agg143 : isAggT Try.prog 143 = false := by kernel_rfl
attribute [simp] Try.underlying143
@[simp] theorem bytes143 : Try.t143.bytes = 8 := rfl
@[simp] theorem zero143 : Try.t143.zero = some .nilFunc := rfl
@[simp] theorem cells144 : Try.prog.cellsOf 144 = 1 := by kernel_rfl
@[simp] theorem info144 : Try.prog.info? 144 = some Try.t144 := by kernel_rfl
@[simp] theorem agg144 : isAggT Try.prog 144 = false := by kernel_rfl
attribute [simp] Try.underlying144
@[simp] theorem bytes144 : Try.t144.bytes = 8 := rfl
@[simp] theorem zero144 : Try.t144.zero = some .nilFunc := rfl
@[simp] theorem cells145 : Try.prog.cellsOf 145 = 1 := by kernel_rfl
@[simp] theorem info145 : Try.prog.info? 145 = some Try.t145 := by kernel_rfl
@[simp] theorem agg145 : isAggT Try.prog 145 = false := by kernel_rfl
attribute [simp] Try.underlying145
@[simp] theorem bytes145 : Try.t145.bytes = 8 := rfl
@[simp] theorem zero145 : Try.t145.zero = some .nilFunc := rfl
@[simp] theorem cells146 : Try.prog.cellsOf 146 = 1 := by kernel_rfl
@[simp] theorem info146 : Try.prog.info? 146 = some Try.t146 := by kernel_rfl
@[simp] theorem agg146 : isAggT Try.prog 146 = false := by kernel_rfl
attribute [simp] Try.underlying146
@[simp] theorem bytes146 : Try.t146.bytes = 0 := rfl
@[simp] theorem cells147 : Try.prog.cellsOf 147 = 1 := by kernel_rfl
@[simp] theorem info147 : Try.prog.info? 147 = some Try.t147 := by kernel_rfl
@[simp] theorem agg147 : isAggT Try.prog 147 = false := by kernel_rfl
attribute [simp] Try.underlying147
@[simp] theorem bytes147 : Try.t147.bytes = 8 := rfl
@[simp] theorem zero147 : Try.t147.zero = some .nilFunc := rfl
@[simp] theorem cells148 : Try.prog.cellsOf 148 = 1 := by kernel_rfl
@[simp] theorem info148 : Try.prog.info? 148 = some Try.t148 := by kernel_rfl
@[simp] theorem agg148 : isAggT Try.prog 148 = false := by kernel_rfl
attribute [simp] Try.underlying148
@[simp] theorem bytes148 : Try.t148.bytes = 8 := rfl
@[simp] theorem zero148 : Try.t148.zero = some .nilFunc := rfl
@[simp] theorem cells149 : Try.prog.cellsOf 149 = 1 := by kernel_rfl
@[simp] theorem info149 : Try.prog.info? 149 = some Try.t149 := by kernel_rfl
@[simp] theorem agg149 : isAggT Try.prog 149 = false := by kernel_rfl
attribute [simp] Try.underlying149
@[simp] theorem bytes149 : Try.t149.bytes = 4 := rfl
@[simp] theorem zero149 : Try.t149.zero = some (.int .u32 0) := rfl
@[simp] theorem cells150 : Try.prog.cellsOf 150 = 1 := by kernel_rfl
@[simp] theorem info150 : Try.prog.info? 150 = some Try.t150 := by kernel_rfl
@[simp] theorem agg150 : isAggT Try.prog 150 = false := by kernel_rfl
attribute [simp] Try.underlying150
@[simp] theorem bytes150 : Try.t150.bytes = 8 := rfl
@[simp] theorem zero150 : Try.t150.zero = some .nilFunc := rfl
@[simp] theorem cells151 : Try.prog.cellsOf 151 = 1 := by kernel_rfl
@[simp] theorem info151 : Try.prog.info? 151 = some Try.t151 := by kernel_rfl
@[simp] theorem agg151 : isAggT Try.prog 151 = false := by kernel_rfl
attribute [simp] Try.underlying151
@[simp] theorem bytes151 : Try.t151.bytes = 8 := rfl
@[simp] theorem zero151 : Try.t151.zero = some .nilFunc := rfl
@[simp] theorem cells152 : Try.prog.cellsOf 152 = 1 := by kernel_rfl
@[simp] theorem info152 : Try.prog.info? 152 = some Try.t152 := by kernel_rfl
@[simp] theorem agg152 : isAggT Try.prog 152 = false := by kernel_rfl
attribute [simp] Try.underlying152
@[simp] theorem bytes152 : Try.t152.bytes = 8 := rfl
@[simp] theorem zero152 : Try.t152.zero = some (.pointer none) := rfl
@[simp] theorem cells153 : Try.prog.cellsOf 153 = 1 := by kernel_rfl
@[simp] theorem info153 : Try.prog.info? 153 = some Try.t153 := by kernel_rfl
@[simp] theorem agg153 : isAggT Try.prog 153 = false := by kernel_rfl
attribute [simp] Try.underlying153
@[simp] theorem bytes153 : Try.t153.bytes = 8 := rfl
@[simp] theorem zero153 : Try.t153.zero = some .nilFunc := rfl
@[simp] theorem cells154 : Try.prog.cellsOf 154 = 1 := by kernel_rfl
@[simp] theorem info154 : Try.prog.info? 154 = some Try.t154 := by kernel_rfl
@[simp] theorem agg154 : isAggT Try.prog 154 = false := by kernel_rfl
attribute [simp] Try.underlying154
@[simp] theorem bytes154 : Try.t154.bytes = 8 := rfl
@[simp] theorem zero154 : Try.t154.zero = some .nilFunc := rfl
@[simp] theorem cells155 : Try.prog.cellsOf 155 = 1 := by kernel_rfl
@[simp] theorem info155 : Try.prog.info? 155 = some Try.t155 := by kernel_rfl
@[simp] theorem agg155 : isAggT Try.prog 155 = false := by kernel_rfl
attribute [simp] Try.underlying155
@[simp] theorem bytes155 : Try.t155.bytes = 8 := rfl
@[simp] theorem zero155 : Try.t155.zero = some .nilFunc := rfl
@[simp] theorem cells156 : Try.prog.cellsOf 156 = 1 := by kernel_rfl
@[simp] theorem info156 : Try.prog.info? 156 = some Try.t156 := by kernel_rfl
@[simp] theorem agg156 : isAggT Try.prog 156 = false := by kernel_rfl
attribute [simp] Try.underlying156
@[simp] theorem bytes156 : Try.t156.bytes = 8 := rfl
@[simp] theorem zero156 : Try.t156.zero = some .nilFunc := rfl
@[simp] theorem cells157 : Try.prog.cellsOf 157 = 1 := by kernel_rfl
@[simp] theorem info157 : Try.prog.info? 157 = some Try.t157 := by kernel_rfl
@[simp] theorem agg157 : isAggT Try.prog 157 = false := by kernel_rfl
attribute [simp] Try.underlying157
@[simp] theorem bytes157 : Try.t157.bytes = 8 := rfl
@[simp] theorem zero157 : Try.t157.zero = some .nilFunc := rfl
@[simp] theorem cells158 : Try.prog.cellsOf 158 = 1 := by kernel_rfl
@[simp] theorem info158 : Try.prog.info? 158 = some Try.t158 := by kernel_rfl
@[simp] theorem agg158 : isAggT Try.prog 158 = false := by kernel_rfl
attribute [simp] Try.underlying158
@[simp] theorem bytes158 : Try.t158.bytes = 8 := rfl
@[simp] theorem zero158 : Try.t158.zero = some (.int .u64 0) := rfl
@[simp] theorem cells159 : Try.prog.cellsOf 159 = 1 := by kernel_rfl
@[simp] theorem info159 : Try.prog.info? 159 = some Try.t159 := by kernel_rfl
@[simp] theorem agg159 : isAggT Try.prog 159 = false := by kernel_rfl
attribute [simp] Try.underlying159
@[simp] theorem bytes159 : Try.t159.bytes = 8 := rfl
@[simp] theorem zero159 : Try.t159.zero = some .nilFunc := rfl
@[simp] theorem cells160 : Try.prog.cellsOf 160 = 1 := by kernel_rfl
@[simp] theorem info160 : Try.prog.info? 160 = some Try.t160 := by kernel_rfl
@[simp] theorem agg160 : isAggT Try.prog 160 = false := by kernel_rfl
attribute [simp] Try.underlying160
@[simp] theorem bytes160 : Try.t160.bytes = 8 := rfl
@[simp] theorem zero160 : Try.t160.zero = some .nilFunc := rfl
@[simp] theorem cells161 : Try.prog.cellsOf 161 = 1 := by kernel_rfl
@[simp] theorem info161 : Try.prog.info? 161 = some Try.t161 := by kernel_rfl
@[simp] theorem agg161 : isAggT Try.prog 161 = false := by kernel_rfl
attribute [simp] Try.underlying161
@[simp] theorem bytes161 : Try.t161.bytes = 8 := rfl
@[simp] theorem zero161 : Try.t161.zero = some .nilFunc := rfl
@[simp] theorem cells162 : Try.prog.cellsOf 162 = 1 := by kernel_rfl
@[simp] theorem info162 : Try.prog.info? 162 = some Try.t162 := by kernel_rfl
@[simp] theorem agg162 : isAggT Try.prog 162 = false := by kernel_rfl
attribute [simp] Try.underlying162
@[simp] theorem bytes162 : Try.t162.bytes = 8 := rfl
@[simp] theorem zero162 : Try.t162.zero = some (.pointer none) := rfl
@[simp] theorem cells163 : Try.prog.cellsOf 163 = 1 := by kernel_rfl
@[simp] theorem info163 : Try.prog.info? 163 = some Try.t163 := by kernel_rfl
@[simp] theorem agg163 : isAggT Try.prog 163 = false := by kernel_rfl
attribute [simp] Try.underlying163
@[simp] theorem bytes163 : Try.t163.bytes = 8 := rfl
@[simp] theorem zero163 : Try.t163.zero = some .nilFunc := rfl
@[simp] theorem cells164 : Try.prog.cellsOf 164 = 1 := by kernel_rfl
@[simp] theorem info164 : Try.prog.info? 164 = some Try.t164 := by kernel_rfl
@[simp] theorem agg164 : isAggT Try.prog 164 = false := by kernel_rfl
attribute [simp] Try.underlying164
@[simp] theorem bytes164 : Try.t164.bytes = 8 := rfl
@[simp] theorem zero164 : Try.t164.zero = some .nilFunc := rfl
@[simp] theorem cells165 : Try.prog.cellsOf 165 = 1 := by kernel_rfl
@[simp] theorem info165 : Try.prog.info? 165 = some Try.t165 := by kernel_rfl
@[simp] theorem agg165 : isAggT Try.prog 165 = false := by kernel_rfl
attribute [simp] Try.underlying165
@[simp] theorem bytes165 : Try.t165.bytes = 8 := rfl
@[simp] theorem zero165 : Try.t165.zero = some (.pointer none) := rfl
@[simp] theorem cells166 : Try.prog.cellsOf 166 = 1 := by kernel_rfl
@[simp] theorem info166 : Try.prog.info? 166 = some Try.t166 := by kernel_rfl
@[simp] theorem agg166 : isAggT Try.prog 166 = false := by kernel_rfl
attribute [simp] Try.underlying166
@[simp] theorem bytes166 : Try.t166.bytes = 0 := rfl
@[simp] theorem cells167 : Try.prog.cellsOf 167 = 1 := by kernel_rfl
@[simp] theorem info167 : Try.prog.info? 167 = some Try.t167 := by kernel_rfl
@[simp] theorem agg167 : isAggT Try.prog 167 = false := by kernel_rfl
attribute [simp] Try.underlying167
@[simp] theorem bytes167 : Try.t167.bytes = 8 := rfl
@[simp] theorem zero167 : Try.t167.zero = some .nilFunc := rfl
@[simp] theorem cells168 : Try.prog.cellsOf 168 = 4 := by kernel_rfl
@[simp] theorem info168 : Try.prog.info? 168 = some Try.t168 := by kernel_rfl
@[simp] theorem agg168 : isAggT Try.prog 168 = true := by kernel_rfl
attribute [simp] Try.underlying168
@[simp] theorem bytes168 : Try.t168.bytes = 40 := rfl
@[simp] theorem zero168 : Try.t168.zero = some (.agg #[(.pointer none), (.pointer none), (.pointer none), (.string ⟨#[]⟩)]) := rfl
@[simp] theorem cells169 : Try.prog.cellsOf 169 = 4 := by kernel_rfl
@[simp] theorem info169 : Try.prog.info? 169 = some Try.t169 := by kernel_rfl
@[simp] theorem agg169 : isAggT Try.prog 169 = true := by kernel_rfl
attribute [simp] Try.underlying169
@[simp] theorem bytes169 : Try.t169.bytes = 40 := rfl
@[simp] theorem zero169 : Try.t169.zero = some (.agg #[(.pointer none), (.pointer none), (.pointer none), (.string ⟨#[]⟩)]) := rfl
@[simp] theorem cells170 : Try.prog.cellsOf 170 = 0 := by kernel_rfl
@[simp] theorem info170 : Try.prog.info? 170 = some Try.t170 := by kernel_rfl
@[simp] theorem agg170 : isAggT Try.prog 170 = true := by kernel_rfl
attribute [simp] Try.underlying170
@[simp] theorem bytes170 : Try.t170.bytes = 0 := rfl
@[simp] theorem zero170 : Try.t170.zero = some (.agg #[]) := rfl
@[simp] theorem cells171 : Try.prog.cellsOf 171 = 0 := by kernel_rfl
@[simp] theorem info171 : Try.prog.info? 171 = some Try.t171 := by kernel_rfl
@[simp] theorem agg171 : isAggT Try.prog 171 = true := by kernel_rfl
attribute [simp] Try.underlying171
@[simp] theorem bytes171 : Try.t171.bytes = 0 := rfl
@[simp] theorem zero171 : Try.t171.zero = some (.agg #[]) := rfl
@[simp] theorem cells172 : Try.prog.cellsOf 172 = 0 := by kernel_rfl
@[simp] theorem info172 : Try.prog.info? 172 = some Try.t172 := by kernel_rfl
@[simp] theorem agg172 : isAggT Try.prog 172 = true := by kernel_rfl
attribute [simp] Try.underlying172
@[simp] theorem bytes172 : Try.t172.bytes = 0 := rfl
@[simp] theorem zero172 : Try.t172.zero = some (.agg #[]) := rfl
@[simp] theorem cells173 : Try.prog.cellsOf 173 = 1 := by kernel_rfl
@[simp] theorem info173 : Try.prog.info? 173 = some Try.t173 := by kernel_rfl
@[simp] theorem agg173 : isAggT Try.prog 173 = false := by kernel_rfl
attribute [simp] Try.underlying173
@[simp] theorem bytes173 : Try.t173.bytes = 8 := rfl
@[simp] theorem zero173 : Try.t173.zero = some .nilFunc := rfl
@[simp] theorem cells174 : Try.prog.cellsOf 174 = 1 := by kernel_rfl
@[simp] theorem info174 : Try.prog.info? 174 = some Try.t174 := by kernel_rfl
@[simp] theorem agg174 : isAggT Try.prog 174 = false := by kernel_rfl
attribute [simp] Try.underlying174
@[simp] theorem bytes174 : Try.t174.bytes = 1 := rfl
@[simp] theorem zero174 : Try.t174.zero = some (.int .u8 0) := rfl
@[simp] theorem cells175 : Try.prog.cellsOf 175 = 1 := by kernel_rfl
@[simp] theorem info175 : Try.prog.info? 175 = some Try.t175 := by kernel_rfl
@[simp] theorem agg175 : isAggT Try.prog 175 = false := by kernel_rfl
attribute [simp] Try.underlying175
@[simp] theorem bytes175 : Try.t175.bytes = 1 := rfl
@[simp] theorem zero175 : Try.t175.zero = some (.int .u8 0) := rfl
@[simp] theorem cells176 : Try.prog.cellsOf 176 = 1 := by kernel_rfl
@[simp] theorem info176 : Try.prog.info? 176 = some Try.t176 := by kernel_rfl
@[simp] theorem agg176 : isAggT Try.prog 176 = false := by kernel_rfl
attribute [simp] Try.underlying176
@[simp] theorem bytes176 : Try.t176.bytes = 8 := rfl
@[simp] theorem zero176 : Try.t176.zero = some .nilFunc := rfl
@[simp] theorem cells177 : Try.prog.cellsOf 177 = 1 := by kernel_rfl
@[simp] theorem info177 : Try.prog.info? 177 = some Try.t177 := by kernel_rfl
@[simp] theorem agg177 : isAggT Try.prog 177 = false := by kernel_rfl
attribute [simp] Try.underlying177
@[simp] theorem bytes177 : Try.t177.bytes = 4 := rfl
@[simp] theorem zero177 : Try.t177.zero = some (.int .i32 0) := rfl
@[simp] theorem cells178 : Try.prog.cellsOf 178 = 1 := by kernel_rfl
@[simp] theorem info178 : Try.prog.info? 178 = some Try.t178 := by kernel_rfl
@[simp] theorem agg178 : isAggT Try.prog 178 = false := by kernel_rfl
attribute [simp] Try.underlying178
@[simp] theorem bytes178 : Try.t178.bytes = 4 := rfl
@[simp] theorem zero178 : Try.t178.zero = some (.int .i32 0) := rfl
@[simp] theorem cells179 : Try.prog.cellsOf 179 = 11 := by kernel_rfl
@[simp] theorem info179 : Try.prog.info? 179 = some Try.t179 := by kernel_rfl
@[simp] theorem agg179 : isAggT Try.prog 179 = true := by kernel_rfl
attribute [simp] Try.underlying179
@[simp] theorem bytes179 : Try.t179.bytes = 48 := rfl
@[simp] theorem zero179 : Try.t179.zero = some (.agg #[(.int .u64 0), (.int .u64 0), (.int .u32 0), (.int .u8 0), (.int .u8 0), (.int .u8 0), (.int .u8 0), .nilFunc, (.pointer none), (.int .i32 0), (.int .i32 0)]) := rfl
@[simp] theorem cells180 : Try.prog.cellsOf 180 = 11 := by kernel_rfl
@[simp] theorem info180 : Try.prog.info? 180 = some Try.t180 := by kernel_rfl
@[simp] theorem agg180 : isAggT Try.prog 180 = true := by kernel_rfl
attribute [simp] Try.underlying180
@[simp] theorem bytes180 : Try.t180.bytes = 48 := rfl
@[simp] theorem zero180 : Try.t180.zero = some (.agg #[(.int .u64 0), (.int .u64 0), (.int .u32 0), (.int .u8 0), (.int .u8 0), (.int .u8 0), (.int .u8 0), .nilFunc, (.pointer none), (.int .i32 0), (.int .i32 0)]) := rfl
@[simp] theorem E2 : G.E 2 = true := by kernel_rfl
@[simp] theorem ext2 : G.ext 2 = none := by kernel_rfl
@[simp] theorem dfr2 : G.dfr 2 = false := by kernel_rfl
@[simp] theorem own2 : G.retOwn 2 = false := by kernel_rfl
@[simp] theorem live2_0 : G.live 2 0 = some [] := by kernel_rfl
@[simp] theorem E3 : G.E 3 = true := by kernel_rfl
@[simp] theorem ext3 : G.ext 3 = none := by kernel_rfl
@[simp] theorem dfr3 : G.dfr 3 = false := by kernel_rfl
@[simp] theorem own3 : G.retOwn 3 = false := by kernel_rfl
@[simp] theorem live3_0 : G.live 3 0 = some [0, 1] := by kernel_rfl
@[simp] theorem live3_1 : G.live 3 1 = some [0, 1, 5] := by kernel_rfl
@[simp] theorem live3_2 : G.live 3 2 = some [0, 1, 5, 12] := by kernel_rfl
@[simp] theorem live3_3 : G.live 3 3 = some [4] := by kernel_rfl
@[simp] theorem live3_4 : G.live 3 4 = some [0, 1, 5, 6] := by kernel_rfl
@[simp] theorem live3_5 : G.live 3 5 = some [0, 1, 5, 20] := by kernel_rfl
@[simp] theorem live3_6 : G.live 3 6 = some [4] := by kernel_rfl
@[simp] theorem live3_7 : G.live 3 7 = some [0, 1, 5, 7] := by kernel_rfl
@[simp] theorem live3_8 : G.live 3 8 = some [0, 1, 5, 7, 8] := by kernel_rfl
@[simp] theorem live3_9 : G.live 3 9 = some [0, 1, 5, 7, 8, 9] := by kernel_rfl
@[simp] theorem live3_10 : G.live 3 10 = some [4] := by kernel_rfl
@[simp] theorem E4 : G.E 4 = true := by kernel_rfl
@[simp] theorem ext4 : G.ext 4 = none := by kernel_rfl
@[simp] theorem dfr4 : G.dfr 4 = false := by kernel_rfl
@[simp] theorem own4 : G.retOwn 4 = false := by kernel_rfl
@[simp] theorem live4_0 : G.live 4 0 = some [0, 1, 2] := by kernel_rfl
@[simp] theorem live4_1 : G.live 4 1 = some [0, 1, 2, 7] := by kernel_rfl
@[simp] theorem live4_2 : G.live 4 2 = some [0, 1, 2, 7, 19] := by kernel_rfl
@[simp] theorem live4_3 : G.live 4 3 = some [6] := by kernel_rfl
@[simp] theorem live4_4 : G.live 4 4 = some [0, 1, 2, 7, 8] := by kernel_rfl
@[simp] theorem live4_5 : G.live 4 5 = some [0, 1, 2, 7, 28] := by kernel_rfl
@[simp] theorem live4_6 : G.live 4 6 = some [6] := by kernel_rfl
@[simp] theorem live4_7 : G.live 4 7 = some [0, 1, 2, 7, 9] := by kernel_rfl
@[simp] theorem live4_8 : G.live 4 8 = some [0, 1, 2, 7, 9, 10] := by kernel_rfl
@[simp] theorem live4_9 : G.live 4 9 = some [0, 2, 7, 9, 10, 11] := by kernel_rfl
@[simp] theorem live4_10 : G.live 4 10 = some [0, 2, 7, 9, 10, 11, 12, 13] := by kernel_rfl
@[simp] theorem live4_11 : G.live 4 11 = some [7, 9, 10, 11, 12, 13, 14, 15] := by kernel_rfl
@[simp] theorem live4_12 : G.live 4 12 = some [7, 9, 10, 11, 13, 15, 16] := by kernel_rfl
@[simp] theorem live4_13 : G.live 4 13 = some [6] := by kernel_rfl
@[simp] theorem E5 : G.E 5 = true := by kernel_rfl
@[simp] theorem ext5 : G.ext 5 = none := by kernel_rfl
@[simp] theorem dfr5 : G.dfr 5 = false := by kernel_rfl
@[simp] theorem own5 : G.retOwn 5 = false := by kernel_rfl
@[simp] theorem keep5_13 : G.keep 5 13 = some ⟨[(0, none), (1, none), (5, none), (7, none), (9, none), (10, none), (11, none)], []⟩ := by kernel_rfl
@[simp] theorem keep5_17 : G.keep 5 17 = some ⟨[(0, none), (1, none), (5, none), (7, none), (9, none), (10, none), (12, none)], []⟩ := by kernel_rfl
@[simp] theorem keep5_23 : G.keep 5 23 = some ⟨[(0, none), (1, none), (5, none), (10, none), (13, none), (14, none), (15, none)], []⟩ := by kernel_rfl
@[simp] theorem live5_0 : G.live 5 0 = some [0, 1] := by kernel_rfl
@[simp] theorem live5_1 : G.live 5 1 = some [0, 1, 5] := by kernel_rfl
@[simp] theorem live5_2 : G.live 5 2 = some [0, 1, 5, 20] := by kernel_rfl
@[simp] theorem live5_3 : G.live 5 3 = some [4] := by kernel_rfl
@[simp] theorem live5_4 : G.live 5 4 = some [0, 1, 5, 6] := by kernel_rfl
@[simp] theorem live5_5 : G.live 5 5 = some [0, 1, 5, 25] := by kernel_rfl
@[simp] theorem live5_6 : G.live 5 6 = some [4] := by kernel_rfl
@[simp] theorem live5_7 : G.live 5 7 = some [0, 1, 5, 7, 8] := by kernel_rfl
@[simp] theorem live5_8 : G.live 5 8 = some [0, 1, 5, 7, 8, 9] := by kernel_rfl
@[simp] theorem live5_9 : G.live 5 9 = some [0, 1, 5, 7, 9, 51] := by kernel_rfl
@[simp] theorem live5_10 : G.live 5 10 = some [4] := by kernel_rfl
@[simp] theorem live5_11 : G.live 5 11 = some [0, 1, 5, 7, 9, 10] := by kernel_rfl
@[simp] theorem live5_12 : G.live 5 12 = some [0, 1, 5, 7, 9, 10, 11] := by kernel_rfl
@[simp] theorem live5_13 : G.live 5 13 = some [0, 1, 5, 7, 9, 10, 11, 55] := by kernel_rfl
@[simp] theorem live5_15 : G.live 5 15 = some [0, 1, 5, 7, 9, 10, 11] := by kernel_rfl
@[simp] theorem live5_14 : G.live 5 14 = some [0, 1, 5, 7, 9, 10, 11] := by kernel_rfl
@[simp] theorem live5_16 : G.live 5 16 = some [0, 1, 5, 7, 9, 10, 12] := by kernel_rfl
@[simp] theorem live5_17 : G.live 5 17 = some [0, 1, 5, 7, 9, 10, 12, 73] := by kernel_rfl
@[simp] theorem live5_19 : G.live 5 19 = some [0, 1, 5, 7, 9, 10, 12, 87] := by kernel_rfl
@[simp] theorem live5_20 : G.live 5 20 = some [4] := by kernel_rfl
@[simp] theorem live5_18 : G.live 5 18 = some [0, 1, 5, 7, 9, 10, 12] := by kernel_rfl
@[simp] theorem live5_21 : G.live 5 21 = some [0, 1, 5, 10, 13, 14] := by kernel_rfl
@[simp] theorem live5_22 : G.live 5 22 = some [0, 1, 5, 10, 13, 14, 15] := by kernel_rfl
@[simp] theorem live5_23 : G.live 5 23 = some [0, 1, 5, 10, 13, 14, 15, 104] := by kernel_rfl
@[simp] theorem live5_25 : G.live 5 25 = some [0, 1, 5, 10, 13, 14, 15, 16, 17] := by kernel_rfl
@[simp] theorem live5_26 : G.live 5 26 = some [0, 1, 5, 10, 13, 14, 15, 126] := by kernel_rfl
@[simp] theorem live5_27 : G.live 5 27 = some [4] := by kernel_rfl
@[simp] theorem live5_24 : G.live 5 24 = some [0, 1, 5, 10, 13, 14, 15] := by kernel_rfl
@[simp] theorem live5_28 : G.live 5 28 = some [4] := by kernel_rfl
@[simp] theorem plan5_19 : G.plan 5 19 = some [.n 0, .n 1, .n 2, .n 3, .n 4, .n 6, .n 7, .n 8, .n 9, .e 5 [9, 8, 7, 6], .e 10 [2, 1], .n 11] := by kernel_rfl
@[simp] theorem E6 : G.E 6 = true := by kernel_rfl
@[simp] theorem ext6 : G.ext 6 = none := by kernel_rfl
@[simp] theorem dfr6 : G.dfr 6 = false := by kernel_rfl
@[simp] theorem own6 : G.retOwn 6 = false := by kernel_rfl
@[simp] theorem keep6_14 : G.keep 6 14 = some ⟨[(0, none), (1, none), (5, none), (7, none), (8, none), (9, none), (10, none), (11, none)], []⟩ := by kernel_rfl
@[simp] theorem live6_0 : G.live 6 0 = some [0, 1] := by kernel_rfl
@[simp] theorem live6_1 : G.live 6 1 = some [0, 1, 5] := by kernel_rfl
@[simp] theorem live6_2 : G.live 6 2 = some [0, 1, 5, 14] := by kernel_rfl
@[simp] theorem live6_3 : G.live 6 3 = some [4] := by kernel_rfl
@[simp] theorem live6_4 : G.live 6 4 = some [0, 1, 5, 6] := by kernel_rfl
@[simp] theorem live6_5 : G.live 6 5 = some [0, 1, 5, 33] := by kernel_rfl
@[simp] theorem live6_6 : G.live 6 6 = some [4] := by kernel_rfl
@[simp] theorem live6_7 : G.live 6 7 = some [0, 1, 5, 7] := by kernel_rfl
@[simp] theorem live6_8 : G.live 6 8 = some [0, 1, 5, 7, 8] := by kernel_rfl
@[simp] theorem live6_9 : G.live 6 9 = some [0, 1, 5, 7, 8, 9] := by kernel_rfl
@[simp] theorem live6_10 : G.live 6 10 = some [0, 1, 5, 7, 8, 9, 75] := by kernel_rfl
@[simp] theorem live6_11 : G.live 6 11 = some [4] := by kernel_rfl
@[simp] theorem live6_12 : G.live 6 12 = some [0, 1, 5, 7, 8, 9, 10] := by kernel_rfl
@[simp] theorem live6_13 : G.live 6 13 = some [0, 1, 5, 7, 8, 9, 10, 11] := by kernel_rfl
@[simp] theorem live6_14 : G.live 6 14 = some [0, 1, 5, 7, 8, 9, 10, 11, 81] := by kernel_rfl
@[simp] theorem live6_16 : G.live 6 16 = some [0, 1, 5, 7, 8, 9, 10, 11, 86] := by kernel_rfl
@[simp] theorem live6_17 : G.live 6 17 = some [0, 1, 5, 7, 8, 9, 10, 11, 112] := by kernel_rfl
@[simp] theorem live6_18 : G.live 6 18 = some [4] := by kernel_rfl
@[simp] theorem live6_19 : G.live 6 19 = some [0, 1, 5, 7, 8, 9, 10, 11] := by kernel_rfl
@[simp] theorem live6_20 : G.live 6 20 = some [0, 1, 5, 7, 8, 9, 10, 11, 120] := by kernel_rfl
@[simp] theorem live6_21 : G.live 6 21 = some [4] := by kernel_rfl
@[simp] theorem live6_22 : G.live 6 22 = some [0, 1, 5, 7, 8, 9, 10, 11] := by kernel_rfl
@[simp] theorem live6_15 : G.live 6 15 = some [0, 1, 5, 7, 8, 9, 10, 11] := by kernel_rfl
@[simp] theorem live6_23 : G.live 6 23 = some [4] := by kernel_rfl
@[simp] theorem plan6_17 : G.plan 6 17 = some [.n 0, .n 1, .n 2, .n 3, .n 4, .n 5, .n 6, .n 7, .n 8, .n 9, .n 10, .n 11, .n 12, .n 13, .n 14, .n 15, .n 16, .n 17, .n 18, .n 19, .n 20, .n 21, .n 22, .n 23, .n 24, .n 25] := by kernel_rfl
@[simp] theorem E7 : G.E 7 = true := by kernel_rfl
@[simp] theorem ext7 : G.ext 7 = none := by kernel_rfl
@[simp] theorem dfr7 : G.dfr 7 = false := by kernel_rfl
@[simp] theorem own7 : G.retOwn 7 = false := by kernel_rfl
@[simp] theorem keep7_10 : G.keep 7 10 = some ⟨[(0, none), (3, none), (5, none), (6, none), (7, none)], []⟩ := by kernel_rfl
@[simp] theorem live7_0 : G.live 7 0 = some [0] := by kernel_rfl
@[simp] theorem live7_1 : G.live 7 1 = some [0, 3] := by kernel_rfl
@[simp] theorem live7_2 : G.live 7 2 = some [0, 3, 14] := by kernel_rfl
@[simp] theorem live7_3 : G.live 7 3 = some [2] := by kernel_rfl
@[simp] theorem live7_4 : G.live 7 4 = some [0, 3, 4] := by kernel_rfl
@[simp] theorem live7_5 : G.live 7 5 = some [0, 3, 4, 23] := by kernel_rfl
@[simp] theorem live7_6 : G.live 7 6 = some [2] := by kernel_rfl
@[simp] theorem live7_7 : G.live 7 7 = some [0, 3, 5] := by kernel_rfl
@[simp] theorem live7_8 : G.live 7 8 = some [0, 3, 5, 6] := by kernel_rfl
@[simp] theorem live7_9 : G.live 7 9 = some [0, 3, 5, 6, 7] := by kernel_rfl
@[simp] theorem live7_10 : G.live 7 10 = some [0, 3, 5, 6, 7, 39] := by kernel_rfl
@[simp] theorem live7_12 : G.live 7 12 = some [0, 3, 5, 6, 7] := by kernel_rfl
@[simp] theorem live7_11 : G.live 7 11 = some [0, 3, 5, 6, 7] := by kernel_rfl
@[simp] theorem live7_13 : G.live 7 13 = some [0, 3, 5, 8, 9] := by kernel_rfl
@[simp] theorem live7_14 : G.live 7 14 = some [0, 3, 5, 8, 9, 10, 11] := by kernel_rfl
@[simp] theorem live7_15 : G.live 7 15 = some [2] := by kernel_rfl
@[simp] theorem E8 : G.E 8 = true := by kernel_rfl
@[simp] theorem ext8 : G.ext 8 = none := by kernel_rfl
@[simp] theorem dfr8 : G.dfr 8 = false := by kernel_rfl
@[simp] theorem own8 : G.retOwn 8 = false := by kernel_rfl
@[simp] theorem keep8_8 : G.keep 8 8 = some ⟨[(0, none), (1, none), (5, none), (7, none)], []⟩ := by kernel_rfl
@[simp] theorem live8_0 : G.live 8 0 = some [0, 1] := by kernel_rfl
@[simp] theorem live8_1 : G.live 8 1 = some [0, 1, 5] := by kernel_rfl
@[simp] theorem live8_2 : G.live 8 2 = some [0, 1, 5, 15] := by kernel_rfl
@[simp] theorem live8_3 : G.live 8 3 = some [4] := by kernel_rfl
@[simp] theorem live8_4 : G.live 8 4 = some [0, 1, 5, 6] := by kernel_rfl
@[simp] theorem live8_5 : G.live 8 5 = some [0, 1, 5, 24] := by kernel_rfl
@[simp] theorem live8_6 : G.live 8 6 = some [4] := by kernel_rfl
@[simp] theorem live8_7 : G.live 8 7 = some [0, 1, 5, 7] := by kernel_rfl
@[simp] theorem live8_8 : G.live 8 8 = some [0, 1, 5, 7, 29] := by kernel_rfl
@[simp] theorem live8_10 : G.live 8 10 = some [0, 1, 5, 7, 37] := by kernel_rfl
@[simp] theorem live8_11 : G.live 8 11 = some [4] := by kernel_rfl
@[simp] theorem live8_9 : G.live 8 9 = some [0, 1, 5, 7] := by kernel_rfl
@[simp] theorem live8_12 : G.live 8 12 = some [0, 1, 5, 8, 9] := by kernel_rfl
@[simp] theorem live8_13 : G.live 8 13 = some [1, 5, 8, 9, 10, 11] := by kernel_rfl
@[simp] theorem live8_14 : G.live 8 14 = some [1, 5, 8, 9, 10, 11, 12] := by kernel_rfl
@[simp] theorem live8_15 : G.live 8 15 = some [4] := by kernel_rfl
@[simp] theorem E9 : G.E 9 = true := by kernel_rfl
@[simp] theorem ext9 : G.ext 9 = none := by kernel_rfl
@[simp] theorem dfr9 : G.dfr 9 = false := by kernel_rfl
@[simp] theorem own9 : G.retOwn 9 = false := by kernel_rfl
@[simp] theorem live9_0 : G.live 9 0 = some [0] := by kernel_rfl
@[simp] theorem live9_1 : G.live 9 1 = some [0, 3] := by kernel_rfl
@[simp] theorem live9_2 : G.live 9 2 = some [0, 3, 21] := by kernel_rfl
@[simp] theorem live9_3 : G.live 9 3 = some [2] := by kernel_rfl
@[simp] theorem live9_4 : G.live 9 4 = some [0, 3, 24] := by kernel_rfl
@[simp] theorem live9_5 : G.live 9 5 = some [2] := by kernel_rfl
@[simp] theorem live9_6 : G.live 9 6 = some [0, 3, 4, 5] := by kernel_rfl
@[simp] theorem live9_7 : G.live 9 7 = some [0, 3, 4, 5, 6, 7] := by kernel_rfl
@[simp] theorem live9_8 : G.live 9 8 = some [0, 3, 4, 5, 6, 7, 8, 9, 10] := by kernel_rfl
@[simp] theorem live9_9 : G.live 9 9 = some [0, 3, 4, 5, 6, 7, 8, 9, 10, 11, 12, 13] := by kernel_rfl
@[simp] theorem live9_10 : G.live 9 10 = some [0, 3, 4, 5, 6, 7, 8, 9, 10, 11, 12, 13, 14, 15] := by kernel_rfl
@[simp] theorem live9_11 : G.live 9 11 = some [3, 4, 5, 6, 7, 8, 9, 10, 11, 12, 13, 14, 15, 16, 17] := by kernel_rfl
@[simp] theorem live9_12 : G.live 9 12 = some [3, 5, 7, 8, 9, 10, 11, 12, 13, 15, 17, 18] := by kernel_rfl
@[simp] theorem live9_13 : G.live 9 13 = some [2] := by kernel_rfl
@[simp] theorem E10 : G.E 10 = true := by kernel_rfl
@[simp] theorem ext10 : G.ext 10 = none := by kernel_rfl
@[simp] theorem dfr10 : G.dfr 10 = false := by kernel_rfl
@[simp] theorem own10 : G.retOwn 10 = false := by kernel_rfl
@[simp] theorem keep10_8 : G.keep 10 8 = some ⟨[(0, none), (1, none), (2, none), (7, none), (9, none)], []⟩ := by kernel_rfl
@[simp] theorem live10_0 : G.live 10 0 = some [0, 1, 2] := by kernel_rfl
@[simp] theorem live10_1 : G.live 10 1 = some [0, 1, 2, 7] := by kernel_rfl
@[simp] theorem live10_2 : G.live 10 2 = some [0, 1, 2, 7, 25] := by kernel_rfl
@[simp] theorem live10_3 : G.live 10 3 = some [6] := by kernel_rfl
@[simp] theorem live10_4 : G.live 10 4 = some [0, 1, 2, 7, 8] := by kernel_rfl
@[simp] theorem live10_5 : G.live 10 5 = some [0, 1, 2, 7, 39] := by kernel_rfl
@[simp] theorem live10_6 : G.live 10 6 = some [6] := by kernel_rfl
@[simp] theorem live10_7 : G.live 10 7 = some [0, 1, 2, 7, 9] := by kernel_rfl
@[simp] theorem live10_8 : G.live 10 8 = some [0, 1, 2, 7, 9, 44] := by kernel_rfl
@[simp] theorem live10_10 : G.live 10 10 = some [0, 1, 2, 7, 9, 52] := by kernel_rfl
@[simp] theorem live10_11 : G.live 10 11 = some [6] := by kernel_rfl
@[simp] theorem live10_9 : G.live 10 9 = some [0, 1, 2, 7, 9] := by kernel_rfl
@[simp] theorem live10_12 : G.live 10 12 = some [0, 1, 2, 7, 10, 11] := by kernel_rfl
@[simp] theorem live10_13 : G.live 10 13 = some [0, 1, 2, 7, 10, 11, 12, 13] := by kernel_rfl
@[simp] theorem live10_14 : G.live 10 14 = some [1, 2, 7, 83] := by kernel_rfl
@[simp] theorem live10_15 : G.live 10 15 = some [6] := by kernel_rfl
@[simp] theorem live10_16 : G.live 10 16 = some [1, 2, 7, 14, 15] := by kernel_rfl
@[simp] theorem live10_17 : G.live 10 17 = some [1, 7, 15, 16] := by kernel_rfl
@[simp] theorem live10_18 : G.live 10 18 = some [1, 7, 98] := by kernel_rfl
@[simp] theorem live10_19 : G.live 10 19 = some [6] := by kernel_rfl
@[simp] theorem live10_20 : G.live 10 20 = some [1, 7, 17, 18] := by kernel_rfl
@[simp] theorem live10_21 : G.live 10 21 = some [1, 7, 17, 18, 19, 20] := by kernel_rfl
@[simp] theorem live10_22 : G.live 10 22 = some [1, 7, 17, 18, 116] := by kernel_rfl
@[simp] theorem live10_23 : G.live 10 23 = some [6] := by kernel_rfl
@[simp] theorem live10_24 : G.live 10 24 = some [1, 7, 17, 18, 118] := by kernel_rfl
@[simp] theorem live10_25 : G.live 10 25 = some [6] := by kernel_rfl
@[simp] theorem live10_26 : G.live 10 26 = some [1, 7, 21, 22] := by kernel_rfl
@[simp] theorem live10_27 : G.live 10 27 = some [6] := by kernel_rfl
@[simp] theorem E11 : G.E 11 = true := by kernel_rfl
@[simp] theorem ext11 : G.ext 11 = none := by kernel_rfl
@[simp] theorem dfr11 : G.dfr 11 = false := by kernel_rfl
@[simp] theorem own11 : G.retOwn 11 = false := by kernel_rfl
@[simp] theorem live11_0 : G.live 11 0 = some [0, 1, 2] := by kernel_rfl
@[simp] theorem live11_1 : G.live 11 1 = some [0, 1, 2, 7] := by kernel_rfl
@[simp] theorem live11_2 : G.live 11 2 = some [0, 1, 2, 7, 21] := by kernel_rfl
@[simp] theorem live11_3 : G.live 11 3 = some [6] := by kernel_rfl
@[simp] theorem live11_4 : G.live 11 4 = some [0, 1, 2, 7, 8] := by kernel_rfl
@[simp] theorem live11_5 : G.live 11 5 = some [0, 1, 2, 7, 34] := by kernel_rfl
@[simp] theorem live11_6 : G.live 11 6 = some [6] := by kernel_rfl
@[simp] theorem live11_7 : G.live 11 7 = some [1, 2, 7, 9, 10] := by kernel_rfl
@[simp] theorem live11_8 : G.live 11 8 = some [2, 7, 9, 10, 11, 12] := by kernel_rfl
@[simp] theorem live11_9 : G.live 11 9 = some [2, 7, 9, 11, 51] := by kernel_rfl
@[simp] theorem live11_10 : G.live 11 10 = some [6] := by kernel_rfl
@[simp] theorem live11_11 : G.live 11 11 = some [2, 7, 9, 11, 13, 14, 15] := by kernel_rfl
@[simp] theorem live11_12 : G.live 11 12 = some [2, 7, 9, 11, 13, 14, 15, 16, 17, 18] := by kernel_rfl
@[simp] theorem live11_13 : G.live 11 13 = some [6] := by kernel_rfl
@[simp] theorem E12 : G.E 12 = true := by kernel_rfl
@[simp] theorem ext12 : G.ext 12 = none := by kernel_rfl
@[simp] theorem dfr12 : G.dfr 12 = false := by kernel_rfl
@[simp] theorem own12 : G.retOwn 12 = false := by kernel_rfl
@[simp] theorem live12_0 : G.live 12 0 = some [0, 1, 2] := by kernel_rfl
@[simp] theorem live12_1 : G.live 12 1 = some [0, 1, 2, 7] := by kernel_rfl
@[simp] theorem live12_2 : G.live 12 2 = some [0, 1, 2, 7, 20] := by kernel_rfl
@[simp] theorem live12_3 : G.live 12 3 = some [6] := by kernel_rfl
@[simp] theorem live12_4 : G.live 12 4 = some [0, 1, 2, 7, 8] := by kernel_rfl
@[simp] theorem live12_5 : G.live 12 5 = some [1, 2, 7, 8, 9, 10] := by kernel_rfl
@[simp] theorem live12_6 : G.live 12 6 = some [1, 2, 7, 9, 38] := by kernel_rfl
@[simp] theorem live12_7 : G.live 12 7 = some [6] := by kernel_rfl
@[simp] theorem live12_8 : G.live 12 8 = some [1, 2, 7, 9, 12] := by kernel_rfl
@[simp] theorem live12_9 : G.live 12 9 = some [2, 7, 9, 12, 15] := by kernel_rfl
@[simp] theorem live12_10 : G.live 12 10 = some [2, 7, 12, 15, 17] := by kernel_rfl
@[simp] theorem live12_11 : G.live 12 11 = some [6] := by kernel_rfl
@[simp] theorem E13 : G.E 13 = true := by kernel_rfl
@[simp] theorem ext13 : G.ext 13 = none := by kernel_rfl
@[simp] theorem dfr13 : G.dfr 13 = false := by kernel_rfl
@[simp] theorem own13 : G.retOwn 13 = false := by kernel_rfl
@[simp] theorem live13_0 : G.live 13 0 = some [0, 1] := by kernel_rfl
@[simp] theorem live13_1 : G.live 13 1 = some [0, 1, 5] := by kernel_rfl
@[simp] theorem live13_2 : G.live 13 2 = some [0, 1, 5, 14] := by kernel_rfl
@[simp] theorem live13_3 : G.live 13 3 = some [4] := by kernel_rfl
@[simp] theorem live13_4 : G.live 13 4 = some [0, 1, 5, 6] := by kernel_rfl
@[simp] theorem live13_5 : G.live 13 5 = some [0, 1, 5, 22] := by kernel_rfl
@[simp] theorem live13_6 : G.live 13 6 = some [4] := by kernel_rfl
@[simp] theorem live13_7 : G.live 13 7 = some [0, 1, 5, 7, 8] := by kernel_rfl
@[simp] theorem live13_8 : G.live 13 8 = some [0, 1, 5, 7, 8, 9, 10] := by kernel_rfl
@[simp] theorem live13_9 : G.live 13 9 = some [0, 1, 5, 7, 9, 39] := by kernel_rfl
@[simp] theorem live13_10 : G.live 13 10 = some [4] := by kernel_rfl
@[simp] theorem live13_11 : G.live 13 11 = some [5, 7, 9, 11] := by kernel_rfl
@[simp] theorem live13_12 : G.live 13 12 = some [4] := by kernel_rfl
@[simp] theorem E14 : G.E 14 = true := by kernel_rfl
@[simp] theorem ext14 : G.ext 14 = none := by kernel_rfl
@[simp] theorem dfr14 : G.dfr 14 = false := by kernel_rfl
@[simp] theorem own14 : G.retOwn 14 = false := by kernel_rfl
@[simp] theorem live14_0 : G.live 14 0 = some [] := by kernel_rfl
@[simp] theorem live14_1 : G.live 14 1 = some [1] := by kernel_rfl
@[simp] theorem live14_2 : G.live 14 2 = some [1, 2] := by kernel_rfl
@[simp] theorem live14_3 : G.live 14 3 = some [1, 3, 4] := by kernel_rfl
@[simp] theorem live14_4 : G.live 14 4 = some [1, 3, 4, 5, 6] := by kernel_rfl
@[simp] theorem live14_5 : G.live 14 5 = some [1, 3, 4, 5, 6, 8] := by kernel_rfl
@[simp] theorem live14_6 : G.live 14 6 = some [1, 3, 4, 5, 6, 8, 9, 10] := by kernel_rfl
@[simp] theorem live14_7 : G.live 14 7 = some [1, 3, 4, 5, 6, 8, 9, 10, 12] := by kernel_rfl
@[simp] theorem live14_8 : G.live 14 8 = some [1, 3, 5, 8, 9, 10, 12, 67] := by kernel_rfl
@[simp] theorem live14_9 : G.live 14 9 = some [0] := by kernel_rfl
@[simp] theorem live14_10 : G.live 14 10 = some [1, 3, 5, 8, 9, 10, 12, 13] := by kernel_rfl
@[simp] theorem live14_11 : G.live 14 11 = some [1, 3, 5, 8, 9, 10, 12, 13, 14] := by kernel_rfl
@[simp] theorem live14_12 : G.live 14 12 = some [0] := by kernel_rfl
@[simp] theorem E15 : G.E 15 = true := by kernel_rfl
@[simp] theorem ext15 : G.ext 15 = none := by kernel_rfl
@[simp] theorem dfr15 : G.dfr 15 = false := by kernel_rfl
@[simp] theorem own15 : G.retOwn 15 = false := by kernel_rfl
@[simp] theorem keep15_2 : G.keep 15 2 = some ⟨[(0, none), (3, none)], []⟩ := by kernel_rfl
@[simp] theorem live15_0 : G.live 15 0 = some [0] := by kernel_rfl
@[simp] theorem live15_1 : G.live 15 1 = some [0, 3] := by kernel_rfl
@[simp] theorem live15_2 : G.live 15 2 = some [0, 3, 11] := by kernel_rfl
@[simp] theorem live15_4 : G.live 15 4 = some [0, 3, 20] := by kernel_rfl
@[simp] theorem live15_5 : G.live 15 5 = some [2] := by kernel_rfl
@[simp] theorem live15_3 : G.live 15 3 = some [0, 3] := by kernel_rfl
@[simp] theorem live15_6 : G.live 15 6 = some [2] := by kernel_rfl
@[simp] theorem E16 : G.E 16 = true := by kernel_rfl
@[simp] theorem ext16 : G.ext 16 = none := by kernel_rfl
@[simp] theorem dfr16 : G.dfr 16 = false := by kernel_rfl
@[simp] theorem own16 : G.retOwn 16 = false := by kernel_rfl
@[simp] theorem keep16_4 : G.keep 16 4 = some ⟨[(0, none), (3, none)], []⟩ := by kernel_rfl
@[simp] theorem live16_0 : G.live 16 0 = some [0] := by kernel_rfl
@[simp] theorem live16_1 : G.live 16 1 = some [0, 7] := by kernel_rfl
@[simp] theorem live16_2 : G.live 16 2 = some [2] := by kernel_rfl
@[simp] theorem live16_3 : G.live 16 3 = some [0, 3] := by kernel_rfl
@[simp] theorem live16_4 : G.live 16 4 = some [0, 3, 11] := by kernel_rfl
@[simp] theorem live16_6 : G.live 16 6 = some [0, 3, 20] := by kernel_rfl
@[simp] theorem live16_7 : G.live 16 7 = some [2] := by kernel_rfl
@[simp] theorem live16_5 : G.live 16 5 = some [0, 3] := by kernel_rfl
@[simp] theorem live16_8 : G.live 16 8 = some [0, 4] := by kernel_rfl
@[simp] theorem live16_9 : G.live 16 9 = some [4, 31] := by kernel_rfl
@[simp] theorem live16_10 : G.live 16 10 = some [2] := by kernel_rfl
@[simp] theorem live16_11 : G.live 16 11 = some [34] := by kernel_rfl
@[simp] theorem live16_12 : G.live 16 12 = some [2] := by kernel_rfl
@[simp] theorem live16_13 : G.live 16 13 = some [2] := by kernel_rfl
@[simp] theorem E17 : G.E 17 = true := by kernel_rfl
@[simp] theorem ext17 : G.ext 17 = none := by kernel_rfl
@[simp] theorem dfr17 : G.dfr 17 = false := by kernel_rfl
@[simp] theorem own17 : G.retOwn 17 = false := by kernel_rfl
@[simp] theorem live17_0 : G.live 17 0 = some [0] := by kernel_rfl
@[simp] theorem live17_1 : G.live 17 1 = some [0, 5] := by kernel_rfl
@[simp] theorem live17_2 : G.live 17 2 = some [2] := by kernel_rfl
@[simp] theorem live17_3 : G.live 17 3 = some [2] := by kernel_rfl
@[simp] theorem E18 : G.E 18 = true := by kernel_rfl
@[simp] theorem ext18 : G.ext 18 = none := by kernel_rfl
@[simp] theorem dfr18 : G.dfr 18 = false := by kernel_rfl
@[simp] theorem own18 : G.retOwn 18 = false := by kernel_rfl
@[simp] theorem keep18_4 : G.keep 18 4 = some ⟨[(0, none), (1, none), (5, none)], []⟩ := by kernel_rfl
@[simp] theorem live18_0 : G.live 18 0 = some [0, 1] := by kernel_rfl
@[simp] theorem live18_1 : G.live 18 1 = some [0, 1, 10] := by kernel_rfl
@[simp] theorem live18_2 : G.live 18 2 = some [4] := by kernel_rfl
@[simp] theorem live18_3 : G.live 18 3 = some [0, 1, 5] := by kernel_rfl
@[simp] theorem live18_4 : G.live 18 4 = some [0, 1, 5, 14] := by kernel_rfl
@[simp] theorem live18_6 : G.live 18 6 = some [0, 1, 5, 25] := by kernel_rfl
@[simp] theorem live18_7 : G.live 18 7 = some [4] := by kernel_rfl
@[simp] theorem live18_5 : G.live 18 5 = some [0, 1, 5] := by kernel_rfl
@[simp] theorem live18_8 : G.live 18 8 = some [4] := by kernel_rfl
@[simp] theorem plan18_6 : G.plan 18 6 = some [.n 0, .n 1, .n 2, .n 3, .n 4, .n 5, .n 6, .n 7, .n 8] := by kernel_rfl
@[simp] theorem E19 : G.E 19 = true := by kernel_rfl
@[simp] theorem ext19 : G.ext 19 = none := by kernel_rfl
@[simp] theorem dfr19 : G.dfr 19 = false := by kernel_rfl
@[simp] theorem own19 : G.retOwn 19 = false := by kernel_rfl
@[simp] theorem live19_0 : G.live 19 0 = some [0] := by kernel_rfl
@[simp] theorem live19_1 : G.live 19 1 = some [0, 3] := by kernel_rfl
@[simp] theorem live19_2 : G.live 19 2 = some [0, 13] := by kernel_rfl
@[simp] theorem live19_3 : G.live 19 3 = some [2] := by kernel_rfl
@[simp] theorem live19_4 : G.live 19 4 = some [4, 5] := by kernel_rfl
@[simp] theorem live19_5 : G.live 19 5 = some [4, 19] := by kernel_rfl
@[simp] theorem live19_6 : G.live 19 6 = some [2] := by kernel_rfl
@[simp] theorem live19_7 : G.live 19 7 = some [22] := by kernel_rfl
@[simp] theorem live19_8 : G.live 19 8 = some [2] := by kernel_rfl
@[simp] theorem live19_9 : G.live 19 9 = some [2] := by kernel_rfl
@[simp] theorem E20 : G.E 20 = true := by kernel_rfl
@[simp] theorem ext20 : G.ext 20 = none := by kernel_rfl
@[simp] theorem dfr20 : G.dfr 20 = false := by kernel_rfl
@[simp] theorem own20 : G.retOwn 20 = false := by kernel_rfl
@[simp] theorem live20_0 : G.live 20 0 = some [0] := by kernel_rfl
@[simp] theorem live20_1 : G.live 20 1 = some [0, 5] := by kernel_rfl
@[simp] theorem live20_2 : G.live 20 2 = some [2] := by kernel_rfl
@[simp] theorem live20_3 : G.live 20 3 = some [2] := by kernel_rfl
@[simp] theorem E21 : G.E 21 = true := by kernel_rfl
@[simp] theorem ext21 : G.ext 21 = none := by kernel_rfl
@[simp] theorem dfr21 : G.dfr 21 = false := by kernel_rfl
@[simp] theorem own21 : G.retOwn 21 = false := by kernel_rfl
@[simp] theorem live21_0 : G.live 21 0 = some [0, 1] := by kernel_rfl
@[simp] theorem live21_1 : G.live 21 1 = some [4] := by kernel_rfl
@[simp] theorem E22 : G.E 22 = true := by kernel_rfl
@[simp] theorem ext22 : G.ext 22 = none := by kernel_rfl
@[simp] theorem dfr22 : G.dfr 22 = false := by kernel_rfl
@[simp] theorem own22 : G.retOwn 22 = false := by kernel_rfl
@[simp] theorem live22_0 : G.live 22 0 = some [0, 1] := by kernel_rfl
@[simp] theorem live22_1 : G.live 22 1 = some [0, 1, 8] := by kernel_rfl
@[simp] theorem live22_2 : G.live 22 2 = some [4] := by kernel_rfl
@[simp] theorem live22_3 : G.live 22 3 = some [4] := by kernel_rfl
@[simp] theorem E23 : G.E 23 = true := by kernel_rfl
@[simp] theorem ext23 : G.ext 23 = none := by kernel_rfl
@[simp] theorem dfr23 : G.dfr 23 = false := by kernel_rfl
@[simp] theorem own23 : G.retOwn 23 = false := by kernel_rfl
@[simp] theorem live23_0 : G.live 23 0 = some [0, 1] := by kernel_rfl
@[simp] theorem live23_1 : G.live 23 1 = some [0, 1, 17] := by kernel_rfl
@[simp] theorem live23_2 : G.live 23 2 = some [4] := by kernel_rfl
@[simp] theorem live23_3 : G.live 23 3 = some [4] := by kernel_rfl
@[simp] theorem E24 : G.E 24 = true := by kernel_rfl
@[simp] theorem ext24 : G.ext 24 = none := by kernel_rfl
@[simp] theorem dfr24 : G.dfr 24 = false := by kernel_rfl
@[simp] theorem own24 : G.retOwn 24 = false := by kernel_rfl
@[simp] theorem keep24_4 : G.keep 24 4 = some ⟨[(0, none), (1, none), (5, none)], []⟩ := by kernel_rfl
@[simp] theorem live24_0 : G.live 24 0 = some [0, 1] := by kernel_rfl
@[simp] theorem live24_1 : G.live 24 1 = some [0, 1, 10] := by kernel_rfl
@[simp] theorem live24_2 : G.live 24 2 = some [4] := by kernel_rfl
@[simp] theorem live24_3 : G.live 24 3 = some [0, 1, 5] := by kernel_rfl
@[simp] theorem live24_4 : G.live 24 4 = some [0, 1, 5, 14] := by kernel_rfl
@[simp] theorem live24_6 : G.live 24 6 = some [0, 1, 5, 25] := by kernel_rfl
@[simp] theorem live24_7 : G.live 24 7 = some [4] := by kernel_rfl
@[simp] theorem live24_5 : G.live 24 5 = some [0, 1, 5] := by kernel_rfl
@[simp] theorem live24_8 : G.live 24 8 = some [4] := by kernel_rfl
@[simp] theorem plan24_6 : G.plan 24 6 = some [.n 0, .n 1, .n 2, .n 3, .n 4, .n 5, .n 6, .n 7, .n 8] := by kernel_rfl
@[simp] theorem E25 : G.E 25 = true := by kernel_rfl
@[simp] theorem ext25 : G.ext 25 = none := by kernel_rfl
@[simp] theorem dfr25 : G.dfr 25 = false := by kernel_rfl
@[simp] theorem own25 : G.retOwn 25 = false := by kernel_rfl
@[simp] theorem live25_0 : G.live 25 0 = some [0, 1] := by kernel_rfl
@[simp] theorem live25_1 : G.live 25 1 = some [0, 1, 8] := by kernel_rfl
@[simp] theorem live25_2 : G.live 25 2 = some [4] := by kernel_rfl
@[simp] theorem live25_3 : G.live 25 3 = some [4] := by kernel_rfl
@[simp] theorem E26 : G.E 26 = true := by kernel_rfl
@[simp] theorem ext26 : G.ext 26 = none := by kernel_rfl
@[simp] theorem dfr26 : G.dfr 26 = false := by kernel_rfl
@[simp] theorem own26 : G.retOwn 26 = false := by kernel_rfl
@[simp] theorem live26_0 : G.live 26 0 = some [0, 1] := by kernel_rfl
@[simp] theorem live26_1 : G.live 26 1 = some [0, 1, 7] := by kernel_rfl
@[simp] theorem live26_2 : G.live 26 2 = some [4] := by kernel_rfl
@[simp] theorem live26_3 : G.live 26 3 = some [4] := by kernel_rfl
@[simp] theorem E27 : G.E 27 = true := by kernel_rfl
@[simp] theorem ext27 : G.ext 27 = none := by kernel_rfl
@[simp] theorem dfr27 : G.dfr 27 = false := by kernel_rfl
@[simp] theorem own27 : G.retOwn 27 = false := by kernel_rfl
@[simp] theorem keep27_4 : G.keep 27 4 = some ⟨[(0, none), (1, none), (5, none)], []⟩ := by kernel_rfl
@[simp] theorem live27_0 : G.live 27 0 = some [0, 1] := by kernel_rfl
@[simp] theorem live27_1 : G.live 27 1 = some [0, 1, 10] := by kernel_rfl
@[simp] theorem live27_2 : G.live 27 2 = some [4] := by kernel_rfl
@[simp] theorem live27_3 : G.live 27 3 = some [0, 1, 5] := by kernel_rfl
@[simp] theorem live27_4 : G.live 27 4 = some [0, 1, 5, 14] := by kernel_rfl
@[simp] theorem live27_6 : G.live 27 6 = some [0, 1, 5, 25] := by kernel_rfl
@[simp] theorem live27_7 : G.live 27 7 = some [4] := by kernel_rfl
@[simp] theorem live27_5 : G.live 27 5 = some [0, 1, 5] := by kernel_rfl
@[simp] theorem live27_8 : G.live 27 8 = some [4] := by kernel_rfl
@[simp] theorem plan27_6 : G.plan 27 6 = some [.n 0, .n 1, .n 2, .n 3, .n 4, .n 5, .n 6, .n 7, .n 8] := by kernel_rfl
@[simp] theorem E28 : G.E 28 = true := by kernel_rfl
@[simp] theorem ext28 : G.ext 28 = none := by kernel_rfl
@[simp] theorem dfr28 : G.dfr 28 = false := by kernel_rfl
@[simp] theorem own28 : G.retOwn 28 = false := by kernel_rfl
@[simp] theorem live28_0 : G.live 28 0 = some [0, 1, 10] := by kernel_rfl
@[simp] theorem live28_1 : G.live 28 1 = some [0, 1, 5, 10] := by kernel_rfl
@[simp] theorem live28_2 : G.live 28 2 = some [5, 9, 10] := by kernel_rfl
@[simp] theorem live28_3 : G.live 28 3 = some [5, 6, 9, 10] := by kernel_rfl
@[simp] theorem live28_4 : G.live 28 4 = some [5, 9, 10] := by kernel_rfl
@[simp] theorem live28_5 : G.live 28 5 = some [4] := by kernel_rfl
@[simp] theorem E29 : G.E 29 = true := by kernel_rfl
@[simp] theorem ext29 : G.ext 29 = none := by kernel_rfl
@[simp] theorem dfr29 : G.dfr 29 = false := by kernel_rfl
@[simp] theorem own29 : G.retOwn 29 = false := by kernel_rfl
@[simp] theorem keep29_6 : G.keep 29 6 = some ⟨[(0, none), (5, some 1), (6, none), (7, none)], [(1006, [])]⟩ := by kernel_rfl
@[simp] theorem live29_0 : G.live 29 0 = some [0, 1] := by kernel_rfl
@[simp] theorem live29_1 : G.live 29 1 = some [0, 1, 5] := by kernel_rfl
@[simp] theorem live29_2 : G.live 29 2 = some [0, 1, 5, 10] := by kernel_rfl
@[simp] theorem live29_3 : G.live 29 3 = some [4] := by kernel_rfl
@[simp] theorem live29_4 : G.live 29 4 = some [0, 5, 6] := by kernel_rfl
@[simp] theorem live29_5 : G.live 29 5 = some [0, 5, 6, 7] := by kernel_rfl
@[simp] theorem live29_6 : G.live 29 6 = some [0, 5, 6, 7, 18] := by kernel_rfl
@[simp] theorem live29_8 : G.live 29 8 = some [0, 5, 6, 7] := by kernel_rfl
@[simp] theorem live29_7 : G.live 29 7 = some [0, 5, 6, 7] := by kernel_rfl
@[simp] theorem live29_9 : G.live 29 9 = some [4] := by kernel_rfl
@[simp] theorem E30 : G.E 30 = true := by kernel_rfl
@[simp] theorem ext30 : G.ext 30 = none := by kernel_rfl
@[simp] theorem dfr30 : G.dfr 30 = false := by kernel_rfl
@[simp] theorem own30 : G.retOwn 30 = false := by kernel_rfl
@[simp] theorem live30_0 : G.live 30 0 = some [2, 3, 4, 5, 10, 11] := by kernel_rfl
@[simp] theorem live30_1 : G.live 30 1 = some [2, 3, 4, 5, 9, 10, 11] := by kernel_rfl
@[simp] theorem live30_2 : G.live 30 2 = some [2, 3, 4, 5, 6, 9, 10, 11] := by kernel_rfl
@[simp] theorem live30_3 : G.live 30 3 = some [2, 3, 4, 5, 6, 7, 9, 10, 11] := by kernel_rfl
@[simp] theorem live30_4 : G.live 30 4 = some [2, 3, 4, 5, 7, 9, 10, 11, 14] := by kernel_rfl
@[simp] theorem live30_5 : G.live 30 5 = some [4, 5] := by kernel_rfl
@[simp] theorem live30_6 : G.live 30 6 = some [4, 5] := by kernel_rfl
@[simp] theorem E31 : G.E 31 = true := by kernel_rfl
@[simp] theorem ext31 : G.ext 31 = none := by kernel_rfl
@[simp] theorem dfr31 : G.dfr 31 = false := by kernel_rfl
@[simp] theorem own31 : G.retOwn 31 = false := by kernel_rfl
@[simp] theorem keep31_3 : G.keep 31 3 = some ⟨[(0, none), (1, none), (6, none), (7, none)], []⟩ := by kernel_rfl
@[simp] theorem live31_0 : G.live 31 0 = some [0, 1] := by kernel_rfl
@[simp] theorem live31_1 : G.live 31 1 = some [0, 1, 6] := by kernel_rfl
@[simp] theorem live31_2 : G.live 31 2 = some [0, 1, 6, 7] := by kernel_rfl
@[simp] theorem live31_3 : G.live 31 3 = some [0, 1, 6, 7, 13] := by kernel_rfl
@[simp] theorem live31_5 : G.live 31 5 = some [0, 1, 6, 7, 21] := by kernel_rfl
@[simp] theorem live31_6 : G.live 31 6 = some [4, 5] := by kernel_rfl
@[simp] theorem live31_4 : G.live 31 4 = some [0, 1, 6, 7] := by kernel_rfl
@[simp] theorem live31_7 : G.live 31 7 = some [4, 5] := by kernel_rfl
@[simp] theorem E32 : G.E 32 = true := by kernel_rfl
@[simp] theorem ext32 : G.ext 32 = none := by kernel_rfl
@[simp] theorem dfr32 : G.dfr 32 = false := by kernel_rfl
@[simp] theorem own32 : G.retOwn 32 = false := by kernel_rfl
@[simp] theorem keep32_2 : G.keep 32 2 = some ⟨[(0, none), (1, none), (5, none)], []⟩ := by kernel_rfl
@[simp] theorem keep32_8 : G.keep 32 8 = some ⟨[(0, none), (1, none), (7, none)], []⟩ := by kernel_rfl
@[simp] theorem live32_0 : G.live 32 0 = some [0, 1] := by kernel_rfl
@[simp] theorem live32_1 : G.live 32 1 = some [0, 1, 5] := by kernel_rfl
@[simp] theorem live32_2 : G.live 32 2 = some [0, 1, 5, 15] := by kernel_rfl
@[simp] theorem live32_4 : G.live 32 4 = some [0, 1, 5, 6] := by kernel_rfl
@[simp] theorem live32_5 : G.live 32 5 = some [0, 1, 5, 24] := by kernel_rfl
@[simp] theorem live32_6 : G.live 32 6 = some [4] := by kernel_rfl
@[simp] theorem live32_3 : G.live 32 3 = some [0, 1, 5] := by kernel_rfl
@[simp] theorem live32_7 : G.live 32 7 = some [0, 1, 7] := by kernel_rfl
@[simp] theorem live32_8 : G.live 32 8 = some [0, 1, 7, 32] := by kernel_rfl
@[simp] theorem live32_10 : G.live 32 10 = some [0, 1, 7, 40] := by kernel_rfl
@[simp] theorem live32_11 : G.live 32 11 = some [4] := by kernel_rfl
@[simp] theorem live32_9 : G.live 32 9 = some [0, 1, 7] := by kernel_rfl
@[simp] theorem live32_12 : G.live 32 12 = some [4] := by kernel_rfl
@[simp] theorem E33 : G.E 33 = true := by kernel_rfl
@[simp] theorem ext33 : G.ext 33 = none := by kernel_rfl
@[simp] theorem dfr33 : G.dfr 33 = false := by kernel_rfl
@[simp] theorem own33 : G.retOwn 33 = false := by kernel_rfl
@[simp] theorem live33_0 : G.live 33 0 = some [0] := by kernel_rfl
@[simp] theorem live33_1 : G.live 33 1 = some [0, 4] := by kernel_rfl
@[simp] theorem live33_2 : G.live 33 2 = some [2, 3] := by kernel_rfl
@[simp] theorem E34 : G.E 34 = true := by kernel_rfl
@[simp] theorem ext34 : G.ext 34 = none := by kernel_rfl
@[simp] theorem dfr34 : G.dfr 34 = false := by kernel_rfl
@[simp] theorem own34 : G.retOwn 34 = false := by kernel_rfl
@[simp] theorem keep34_5 : G.keep 34 5 = some ⟨[(1, none), (2, none), (6, some 1), (20, none), (21, none)], [(1002, [])]⟩ := by kernel_rfl
@[simp] theorem keep34_12 : G.keep 34 12 = some ⟨[(1, none), (2, none), (6, none), (8, some 4), (36, none), (37, none), (38, none)], [(1002, [])]⟩ := by kernel_rfl
@[simp] theorem live34_0 : G.live 34 0 = some [1, 2] := by kernel_rfl
@[simp] theorem live34_1 : G.live 34 1 = some [1, 2, 15] := by kernel_rfl
@[simp] theorem live34_2 : G.live 34 2 = some [4, 5] := by kernel_rfl
@[simp] theorem live34_3 : G.live 34 3 = some [1, 2, 6] := by kernel_rfl
@[simp] theorem live34_4 : G.live 34 4 = some [1, 2, 6, 20, 21] := by kernel_rfl
@[simp] theorem live34_5 : G.live 34 5 = some [1, 2, 6, 20, 21, 22] := by kernel_rfl
@[simp] theorem live34_6 : G.live 34 6 = some [1, 2, 6, 7, 20, 21] := by kernel_rfl
@[simp] theorem live34_7 : G.live 34 7 = some [1, 2, 6, 20, 21] := by kernel_rfl
@[simp] theorem live34_8 : G.live 34 8 = some [1, 2, 6, 20, 21] := by kernel_rfl
@[simp] theorem live34_9 : G.live 34 9 = some [1, 2, 6] := by kernel_rfl
@[simp] theorem live34_10 : G.live 34 10 = some [1, 2, 6, 8] := by kernel_rfl
@[simp] theorem live34_11 : G.live 34 11 = some [1, 2, 6, 8, 36, 37, 38] := by kernel_rfl
@[simp] theorem live34_12 : G.live 34 12 = some [1, 2, 6, 8, 36, 37, 38, 39] := by kernel_rfl
@[simp] theorem live34_13 : G.live 34 13 = some [1, 2, 6, 8, 9, 10, 36, 37, 38] := by kernel_rfl
@[simp] theorem live34_14 : G.live 34 14 = some [1, 2, 6, 8, 10, 36, 37, 38, 59] := by kernel_rfl
@[simp] theorem live34_15 : G.live 34 15 = some [4, 5] := by kernel_rfl
@[simp] theorem live34_16 : G.live 34 16 = some [1, 2, 6, 8, 10, 36, 37, 38] := by kernel_rfl
@[simp] theorem live34_17 : G.live 34 17 = some [1, 2, 6, 8, 36, 37, 38] := by kernel_rfl
@[simp] theorem live34_18 : G.live 34 18 = some [1, 2, 6, 8, 36, 37, 38] := by kernel_rfl
@[simp] theorem live34_19 : G.live 34 19 = some [4, 5] := by kernel_rfl
@[simp] theorem plan34_14 : G.plan 34 14 = some [.n 0, .n 1, .n 2, .n 3, .n 4, .n 5, .n 6, .n 7, .n 8, .n 9, .n 10, .n 11, .n 12, .n 13, .n 14, .n 15, .n 16] := by kernel_rfl
@[simp] theorem E35 : G.E 35 = true := by kernel_rfl
@[simp] theorem ext35 : G.ext 35 = none := by kernel_rfl
@[simp] theorem dfr35 : G.dfr 35 = false := by kernel_rfl
@[simp] theorem own35 : G.retOwn 35 = false := by kernel_rfl
@[simp] theorem live35_0 : G.live 35 0 = some [] := by kernel_rfl
@[simp] theorem live35_1 : G.live 35 1 = some [1, 2] := by kernel_rfl
@[simp] theorem live35_2 : G.live 35 2 = some [1, 2, 3, 4] := by kernel_rfl
@[simp] theorem live35_3 : G.live 35 3 = some [1, 2, 3, 4, 5] := by kernel_rfl
@[simp] theorem live35_4 : G.live 35 4 = some [1, 2, 3, 4, 5, 7, 8] := by kernel_rfl
@[simp] theorem live35_5 : G.live 35 5 = some [1, 2, 3, 4, 5, 8, 9, 10] := by kernel_rfl
@[simp] theorem live35_6 : G.live 35 6 = some [1, 2, 3, 4, 5, 8, 9, 10, 11, 12, 13] := by kernel_rfl
@[simp] theorem live35_7 : G.live 35 7 = some [1, 2, 3, 4, 5, 8, 9, 10, 11, 12, 13, 15] := by kernel_rfl
@[simp] theorem live35_8 : G.live 35 8 = some [1, 2, 3, 4, 5, 8, 9, 10, 11, 12, 13, 15, 16, 17] := by kernel_rfl
@[simp] theorem live35_9 : G.live 35 9 = some [0] := by kernel_rfl
@[simp] theorem E36 : G.E 36 = true := by kernel_rfl
@[simp] theorem ext36 : G.ext 36 = none := by kernel_rfl
@[simp] theorem dfr36 : G.dfr 36 = false := by kernel_rfl
@[simp] theorem own36 : G.retOwn 36 = false := by kernel_rfl
@[simp] theorem live36_0 : G.live 36 0 = some [0] := by kernel_rfl
@[simp] theorem live36_1 : G.live 36 1 = some [0, 4] := by kernel_rfl
@[simp] theorem live36_2 : G.live 36 2 = some [0, 4, 9] := by kernel_rfl
@[simp] theorem live36_3 : G.live 36 3 = some [2, 3] := by kernel_rfl
@[simp] theorem live36_4 : G.live 36 4 = some [5] := by kernel_rfl
@[simp] theorem live36_5 : G.live 36 5 = some [5] := by kernel_rfl
@[simp] theorem live36_6 : G.live 36 6 = some [2, 3] := by kernel_rfl
@[simp] theorem E37 : G.E 37 = true := by kernel_rfl
@[simp] theorem ext37 : G.ext 37 = none := by kernel_rfl
@[simp] theorem dfr37 : G.dfr 37 = false := by kernel_rfl
@[simp] theorem own37 : G.retOwn 37 = false := by kernel_rfl
@[simp] theorem live37_0 : G.live 37 0 = some [0] := by kernel_rfl
@[simp] theorem live37_1 : G.live 37 1 = some [0, 4] := by kernel_rfl
@[simp] theorem live37_2 : G.live 37 2 = some [0, 4, 8] := by kernel_rfl
@[simp] theorem live37_3 : G.live 37 3 = some [2, 3] := by kernel_rfl
@[simp] theorem live37_4 : G.live 37 4 = some [2, 3] := by kernel_rfl
@[simp] theorem E38 : G.E 38 = true := by kernel_rfl
@[simp] theorem ext38 : G.ext 38 = none := by kernel_rfl
@[simp] theorem dfr38 : G.dfr 38 = false := by kernel_rfl
@[simp] theorem own38 : G.retOwn 38 = false := by kernel_rfl
@[simp] theorem keep38_3 : G.keep 38 3 = some ⟨[(0, none), (3, none), (4, none)], []⟩ := by kernel_rfl
@[simp] theorem live38_0 : G.live 38 0 = some [0] := by kernel_rfl
@[simp] theorem live38_1 : G.live 38 1 = some [0, 3] := by kernel_rfl
@[simp] theorem live38_2 : G.live 38 2 = some [0, 3, 4] := by kernel_rfl
@[simp] theorem live38_3 : G.live 38 3 = some [0, 3, 4, 8] := by kernel_rfl
@[simp] theorem live38_5 : G.live 38 5 = some [0, 3, 4] := by kernel_rfl
@[simp] theorem live38_4 : G.live 38 4 = some [0, 3, 4] := by kernel_rfl
@[simp] theorem live38_6 : G.live 38 6 = some [2] := by kernel_rfl
@[simp] theorem plan38_5 : G.plan 38 5 = some [.n 0, .n 3, .n 4, .n 5, .n 6, .e 1 [6, 5, 4, 3, 0], .n 2, .e 7 [2, 0], .n 8, .e 9 []] := by kernel_rfl
@[simp] theorem E39 : G.E 39 = true := by kernel_rfl
@[simp] theorem ext39 : G.ext 39 = none := by kernel_rfl
@[simp] theorem dfr39 : G.dfr 39 = false := by kernel_rfl
@[simp] theorem own39 : G.retOwn 39 = false := by kernel_rfl
@[simp] theorem keep39_3 : G.keep 39 3 = some ⟨[(3, none), (8, none), (9, none), (10, none)], []⟩ := by kernel_rfl
@[simp] theorem live39_0 : G.live 39 0 = some [0] := by kernel_rfl
@[simp] theorem live39_1 : G.live 39 1 = some [0, 3] := by kernel_rfl
@[simp] theorem live39_2 : G.live 39 2 = some [3, 8, 9, 10] := by kernel_rfl
@[simp] theorem live39_3 : G.live 39 3 = some [3, 8, 9, 10, 11] := by kernel_rfl
@[simp] theorem live39_4 : G.live 39 4 = some [3, 5, 8, 9, 10] := by kernel_rfl
@[simp] theorem live39_5 : G.live 39 5 = some [3, 5, 8, 9, 10] := by kernel_rfl
@[simp] theorem live39_6 : G.live 39 6 = some [3, 8, 9, 10] := by kernel_rfl
@[simp] theorem live39_7 : G.live 39 7 = some [3, 8, 9, 10] := by kernel_rfl
@[simp] theorem live39_8 : G.live 39 8 = some [2] := by kernel_rfl
@[simp] theorem E40 : G.E 40 = true := by kernel_rfl
@[simp] theorem ext40 : G.ext 40 = none := by kernel_rfl
@[simp] theorem dfr40 : G.dfr 40 = false := by kernel_rfl
@[simp] theorem own40 : G.retOwn 40 = false := by kernel_rfl
@[simp] theorem live40_0 : G.live 40 0 = some [0] := by kernel_rfl
@[simp] theorem live40_1 : G.live 40 1 = some [0, 4] := by kernel_rfl
@[simp] theorem live40_2 : G.live 40 2 = some [4, 5, 6] := by kernel_rfl
@[simp] theorem live40_3 : G.live 40 3 = some [4, 23] := by kernel_rfl
@[simp] theorem live40_4 : G.live 40 4 = some [2, 3] := by kernel_rfl
@[simp] theorem live40_5 : G.live 40 5 = some [2, 3] := by kernel_rfl
@[simp] theorem E41 : G.E 41 = true := by kernel_rfl
@[simp] theorem ext41 : G.ext 41 = none := by kernel_rfl
@[simp] theorem dfr41 : G.dfr 41 = false := by kernel_rfl
@[simp] theorem own41 : G.retOwn 41 = false := by kernel_rfl
@[simp] theorem live41_0 : G.live 41 0 = some [0] := by kernel_rfl
@[simp] theorem live41_1 : G.live 41 1 = some [0, 4] := by kernel_rfl
@[simp] theorem live41_2 : G.live 41 2 = some [4, 21] := by kernel_rfl
@[simp] theorem live41_3 : G.live 41 3 = some [2, 3] := by kernel_rfl
@[simp] theorem live41_4 : G.live 41 4 = some [2, 3] := by kernel_rfl
@[simp] theorem E42 : G.E 42 = true := by kernel_rfl
@[simp] theorem ext42 : G.ext 42 = none := by kernel_rfl
@[simp] theorem dfr42 : G.dfr 42 = false := by kernel_rfl
@[simp] theorem own42 : G.retOwn 42 = false := by kernel_rfl
@[simp] theorem live42_0 : G.live 42 0 = some [0] := by kernel_rfl
@[simp] theorem live42_1 : G.live 42 1 = some [0, 5, 6] := by kernel_rfl
@[simp] theorem live42_2 : G.live 42 2 = some [0, 5, 13] := by kernel_rfl
@[simp] theorem live42_3 : G.live 42 3 = some [2, 3, 4] := by kernel_rfl
@[simp] theorem live42_4 : G.live 42 4 = some [2, 3, 4] := by kernel_rfl
@[simp] theorem E43 : G.E 43 = true := by kernel_rfl
@[simp] theorem ext43 : G.ext 43 = none := by kernel_rfl
@[simp] theorem dfr43 : G.dfr 43 = false := by kernel_rfl
@[simp] theorem own43 : G.retOwn 43 = false := by kernel_rfl
@[simp] theorem live43_0 : G.live 43 0 = some [0] := by kernel_rfl
@[simp] theorem live43_1 : G.live 43 1 = some [0, 5] := by kernel_rfl
@[simp] theorem live43_2 : G.live 43 2 = some [0, 5, 9] := by kernel_rfl
@[simp] theorem live43_3 : G.live 43 3 = some [2, 3, 4] := by kernel_rfl
@[simp] theorem live43_4 : G.live 43 4 = some [2, 3, 4] := by kernel_rfl
@[simp] theorem plan43_4 : G.plan 43 4 = some [.n 0, .n 1, .n 2, .n 4, .n 5, .n 6, .n 7, .e 3 [7, 6, 5, 4], .n 8, .n 9, .n 10] := by kernel_rfl
@[simp] theorem E44 : G.E 44 = true := by kernel_rfl
@[simp] theorem ext44 : G.ext 44 = none := by kernel_rfl
@[simp] theorem dfr44 : G.dfr 44 = false := by kernel_rfl
@[simp] theorem own44 : G.retOwn 44 = false := by kernel_rfl
@[simp] theorem live44_0 : G.live 44 0 = some [0] := by kernel_rfl
@[simp] theorem live44_1 : G.live 44 1 = some [0, 4] := by kernel_rfl
@[simp] theorem live44_2 : G.live 44 2 = some [4, 6] := by kernel_rfl
@[simp] theorem live44_3 : G.live 44 3 = some [4, 14] := by kernel_rfl
@[simp] theorem live44_4 : G.live 44 4 = some [2, 3] := by kernel_rfl
@[simp] theorem live44_5 : G.live 44 5 = some [2, 3] := by kernel_rfl
@[simp] theorem E45 : G.E 45 = true := by kernel_rfl
@[simp] theorem ext45 : G.ext 45 = none := by kernel_rfl
@[simp] theorem dfr45 : G.dfr 45 = false := by kernel_rfl
@[simp] theorem own45 : G.retOwn 45 = false := by kernel_rfl
@[simp] theorem keep45_3 : G.keep 45 3 = some ⟨[(0, none), (4, some 1), (5, none)], []⟩ := by kernel_rfl
@[simp] theorem live45_0 : G.live 45 0 = some [0] := by kernel_rfl
@[simp] theorem live45_1 : G.live 45 1 = some [0, 4] := by kernel_rfl
@[simp] theorem live45_2 : G.live 45 2 = some [0, 4, 5] := by kernel_rfl
@[simp] theorem live45_3 : G.live 45 3 = some [0, 4, 5, 10] := by kernel_rfl
@[simp] theorem live45_4 : G.live 45 4 = some [0, 4, 5, 6] := by kernel_rfl
@[simp] theorem live45_5 : G.live 45 5 = some [0, 4, 6, 22] := by kernel_rfl
@[simp] theorem live45_6 : G.live 45 6 = some [2, 3] := by kernel_rfl
@[simp] theorem live45_7 : G.live 45 7 = some [0, 4, 6] := by kernel_rfl
@[simp] theorem live45_8 : G.live 45 8 = some [0, 4, 5] := by kernel_rfl
@[simp] theorem live45_9 : G.live 45 9 = some [2, 3] := by kernel_rfl
@[simp] theorem E46 : G.E 46 = true := by kernel_rfl
@[simp] theorem ext46 : G.ext 46 = none := by kernel_rfl
@[simp] theorem dfr46 : G.dfr 46 = false := by kernel_rfl
@[simp] theorem own46 : G.retOwn 46 = false := by kernel_rfl
@[simp] theorem live46_0 : G.live 46 0 = some [0, 1] := by kernel_rfl
@[simp] theorem live46_1 : G.live 46 1 = some [0, 1, 9] := by kernel_rfl
@[simp] theorem live46_2 : G.live 46 2 = some [4] := by kernel_rfl
@[simp] theorem live46_3 : G.live 46 3 = some [4] := by kernel_rfl
@[simp] theorem E47 : G.E 47 = true := by kernel_rfl
@[simp] theorem ext47 : G.ext 47 = none := by kernel_rfl
@[simp] theorem dfr47 : G.dfr 47 = false := by kernel_rfl
@[simp] theorem own47 : G.retOwn 47 = false := by kernel_rfl
@[simp] theorem keep47_5 : G.keep 47 5 = some ⟨[(0, none), (1, none), (4, none), (5, none), (6, none)], [(1004, []), (1005, [])]⟩ := by kernel_rfl
@[simp] theorem live47_0 : G.live 47 0 = some [0, 1, 4] := by kernel_rfl
@[simp] theorem live47_1 : G.live 47 1 = some [0, 1, 4, 24] := by kernel_rfl
@[simp] theorem live47_2 : G.live 47 2 = some [4] := by kernel_rfl
@[simp] theorem live47_3 : G.live 47 3 = some [0, 1, 4, 5] := by kernel_rfl
@[simp] theorem live47_4 : G.live 47 4 = some [0, 1, 4, 5, 6] := by kernel_rfl
@[simp] theorem live47_5 : G.live 47 5 = some [0, 1, 4, 5, 6, 40] := by kernel_rfl
@[simp] theorem live47_7 : G.live 47 7 = some [0, 1, 4, 5, 6, 48] := by kernel_rfl
@[simp] theorem live47_8 : G.live 47 8 = some [0, 1, 4, 5, 6, 7] := by kernel_rfl
@[simp] theorem live47_9 : G.live 47 9 = some [0, 1, 4, 5, 6, 7, 92] := by kernel_rfl
@[simp] theorem live47_10 : G.live 47 10 = some [4] := by kernel_rfl
@[simp] theorem live47_11 : G.live 47 11 = some [0, 1, 4, 5, 6, 7] := by kernel_rfl
@[simp] theorem live47_12 : G.live 47 12 = some [0, 1, 4, 5, 6] := by kernel_rfl
@[simp] theorem live47_13 : G.live 47 13 = some [0, 1, 4, 5, 6, 8] := by kernel_rfl
@[simp] theorem live47_14 : G.live 47 14 = some [0, 1, 4, 5, 6, 8] := by kernel_rfl
@[simp] theorem live47_15 : G.live 47 15 = some [0, 1, 4, 5, 6, 8] := by kernel_rfl
@[simp] theorem live47_16 : G.live 47 16 = some [0, 1, 4, 5, 6, 8] := by kernel_rfl
@[simp] theorem live47_17 : G.live 47 17 = some [0, 1, 4, 5, 6] := by kernel_rfl
@[simp] theorem live47_6 : G.live 47 6 = some [0, 1, 4, 5, 6] := by kernel_rfl
@[simp] theorem live47_18 : G.live 47 18 = some [4, 5] := by kernel_rfl
@[simp] theorem live47_19 : G.live 47 19 = some [4] := by kernel_rfl
@[simp] theorem plan47_9 : G.plan 47 9 = some [.n 0, .n 1, .n 2, .n 3, .n 4, .n 5, .n 6, .n 7, .n 8, .n 9, .n 10, .n 11, .n 12, .n 13, .n 14, .n 15, .n 16, .e 17 [9, 8, 7, 6, 5, 2, 1, 0], .n 18, .n 19, .n 20, .n 21, .n 22, .n 23, .n 24, .n 25, .n 26, .n 27, .n 28, .n 29, .n 30, .n 31, .n 32, .n 33, .n 34, .n 35, .n 36, .n 37, .n 38, .n 39, .n 40, .n 41] := by kernel_rfl
@[simp] theorem plan47_14 : G.plan 47 14 = some [.n 1, .n 2, .n 4, .n 5, .n 6, .e 0 [6, 5, 4, 2, 1], .e 3 [6, 5, 4], .e 7 [], .n 8, .e 9 []] := by kernel_rfl
@[simp] theorem E48 : G.E 48 = true := by kernel_rfl
@[simp] theorem ext48 : G.ext 48 = none := by kernel_rfl
@[simp] theorem dfr48 : G.dfr 48 = false := by kernel_rfl
@[simp] theorem own48 : G.retOwn 48 = false := by kernel_rfl
@[simp] theorem live48_0 : G.live 48 0 = some [1] := by kernel_rfl
@[simp] theorem live48_1 : G.live 48 1 = some [2] := by kernel_rfl
@[simp] theorem E49 : G.E 49 = true := by kernel_rfl
@[simp] theorem ext49 : G.ext 49 = none := by kernel_rfl
@[simp] theorem dfr49 : G.dfr 49 = false := by kernel_rfl
@[simp] theorem own49 : G.retOwn 49 = false := by kernel_rfl
@[simp] theorem live49_0 : G.live 49 0 = some [0, 1] := by kernel_rfl
@[simp] theorem live49_1 : G.live 49 1 = some [4] := by kernel_rfl
@[simp] theorem E50 : G.E 50 = true := by kernel_rfl
@[simp] theorem ext50 : G.ext 50 = none := by kernel_rfl
@[simp] theorem dfr50 : G.dfr 50 = true := by kernel_rfl
@[simp] theorem own50 : G.retOwn 50 = false := by kernel_rfl
@[simp] theorem live50_0 : G.live 50 0 = some [0, 2, 3] := by kernel_rfl
@[simp] theorem live50_1 : G.live 50 1 = some [0, 2, 3] := by kernel_rfl
@[simp] theorem live50_2 : G.live 50 2 = some [0, 2, 3] := by kernel_rfl
@[simp] theorem live50_3 : G.live 50 3 = some [2, 3] := by kernel_rfl
@[simp] theorem live50_4 : G.live 50 4 = some [2, 3] := by kernel_rfl
@[simp] theorem E51 : G.E 51 = true := by kernel_rfl
@[simp] theorem ext51 : G.ext 51 = none := by kernel_rfl
@[simp] theorem dfr51 : G.dfr 51 = false := by kernel_rfl
@[simp] theorem own51 : G.retOwn 51 = false := by kernel_rfl
@[simp] theorem keep51_5 : G.keep 51 5 = some ⟨[(0, none), (1, none), (4, none), (5, none), (6, none), (7, none)], [(1004, []), (1005, [(2, 1)])]⟩ := by kernel_rfl
@[simp] theorem live51_0 : G.live 51 0 = some [0, 1, 4] := by kernel_rfl
@[simp] theorem live51_1 : G.live 51 1 = some [0, 1, 4] := by kernel_rfl
@[simp] theorem live51_2 : G.live 51 2 = some [0, 1, 4, 5] := by kernel_rfl
@[simp] theorem live51_3 : G.live 51 3 = some [0, 1, 4, 5, 6] := by kernel_rfl
@[simp] theorem live51_4 : G.live 51 4 = some [0, 1, 4, 5, 6, 7] := by kernel_rfl
@[simp] theorem live51_5 : G.live 51 5 = some [0, 1, 4, 5, 6, 7, 31] := by kernel_rfl
@[simp] theorem live51_7 : G.live 51 7 = some [0, 1, 4, 5, 6, 7, 39] := by kernel_rfl
@[simp] theorem live51_8 : G.live 51 8 = some [0, 1, 4, 5, 6, 7] := by kernel_rfl
@[simp] theorem live51_9 : G.live 51 9 = some [0, 1, 4, 5, 6, 7, 8] := by kernel_rfl
@[simp] theorem live51_10 : G.live 51 10 = some [0, 1, 4, 5, 7, 8] := by kernel_rfl
@[simp] theorem live51_11 : G.live 51 11 = some [0, 1, 4, 5, 6, 7] := by kernel_rfl
@[simp] theorem live51_12 : G.live 51 12 = some [0, 1, 4, 5, 6, 7] := by kernel_rfl
@[simp] theorem live51_13 : G.live 51 13 = some [0, 1, 4, 5, 6, 7] := by kernel_rfl
@[simp] theorem live51_14 : G.live 51 14 = some [0, 1, 4, 5, 6, 7, 9] := by kernel_rfl
@[simp] theorem live51_15 : G.live 51 15 = some [0, 1, 4, 5, 6, 7] := by kernel_rfl
@[simp] theorem live51_6 : G.live 51 6 = some [0, 1, 4, 5, 6, 7] := by kernel_rfl
@[simp] theorem live51_16 : G.live 51 16 = some [4, 5] := by kernel_rfl
@[simp] theorem live51_17 : G.live 51 17 = some [4] := by kernel_rfl
@[simp] theorem plan51_15 : G.plan 51 15 = some [.n 0, .n 1, .n 2, .n 3, .n 4, .n 5, .n 6, .n 7, .e 8 [6, 5, 4], .n 9, .e 10 []] := by kernel_rfl
@[simp] theorem E52 : G.E 52 = true := by kernel_rfl
@[simp] theorem ext52 : G.ext 52 = none := by kernel_rfl
@[simp] theorem dfr52 : G.dfr 52 = false := by kernel_rfl
@[simp] theorem own52 : G.retOwn 52 = false := by kernel_rfl
@[simp] theorem keep52_4 : G.keep 52 4 = some ⟨[(0, none), (1, none), (12, none), (13, none)], []⟩ := by kernel_rfl
@[simp] theorem live52_0 : G.live 52 0 = some [0, 1] := by kernel_rfl
@[simp] theorem live52_1 : G.live 52 1 = some [0, 1, 10] := by kernel_rfl
@[simp] theorem live52_2 : G.live 52 2 = some [4] := by kernel_rfl
@[simp] theorem live52_3 : G.live 52 3 = some [0, 1, 12, 13] := by kernel_rfl
@[simp] theorem live52_4 : G.live 52 4 = some [0, 1, 12, 13, 14] := by kernel_rfl
@[simp] theorem live52_5 : G.live 52 5 = some [0, 1, 5, 12, 13] := by kernel_rfl
@[simp] theorem live52_6 : G.live 52 6 = some [0, 1, 12, 13, 24] := by kernel_rfl
@[simp] theorem live52_7 : G.live 52 7 = some [4] := by kernel_rfl
@[simp] theorem live52_8 : G.live 52 8 = some [0, 1, 12, 13] := by kernel_rfl
@[simp] theorem live52_9 : G.live 52 9 = some [4] := by kernel_rfl
@[simp] theorem plan52_6 : G.plan 52 6 = some [.n 0, .n 1, .n 2, .n 3, .n 4, .n 5, .n 6, .n 7, .n 8] := by kernel_rfl
@[simp] theorem E53 : G.E 53 = true := by kernel_rfl
@[simp] theorem ext53 : G.ext 53 = none := by kernel_rfl
@[simp] theorem dfr53 : G.dfr 53 = false := by kernel_rfl
@[simp] theorem own53 : G.retOwn 53 = false := by kernel_rfl
@[simp] theorem live53_0 : G.live 53 0 = some [0, 1] := by kernel_rfl
@[simp] theorem live53_1 : G.live 53 1 = some [4] := by kernel_rfl
@[simp] theorem E54 : G.E 54 = true := by kernel_rfl
@[simp] theorem ext54 : G.ext 54 = none := by kernel_rfl
@[simp] theorem dfr54 : G.dfr 54 = false := by kernel_rfl
@[simp] theorem own54 : G.retOwn 54 = false := by kernel_rfl
@[simp] theorem live54_0 : G.live 54 0 = some [0] := by kernel_rfl
@[simp] theorem live54_1 : G.live 54 1 = some [0, 4] := by kernel_rfl
@[simp] theorem live54_2 : G.live 54 2 = some [2] := by kernel_rfl
@[simp] theorem live54_3 : G.live 54 3 = some [2] := by kernel_rfl
@[simp] theorem E55 : G.E 55 = true := by kernel_rfl
@[simp] theorem ext55 : G.ext 55 = none := by kernel_rfl
@[simp] theorem dfr55 : G.dfr 55 = false := by kernel_rfl
@[simp] theorem own55 : G.retOwn 55 = false := by kernel_rfl
@[simp] theorem live55_0 : G.live 55 0 = some [2, 3] := by kernel_rfl
@[simp] theorem live55_1 : G.live 55 1 = some [4] := by kernel_rfl
@[simp] theorem E56 : G.E 56 = true := by kernel_rfl
@[simp] theorem ext56 : G.ext 56 = none := by kernel_rfl
@[simp] theorem dfr56 : G.dfr 56 = false := by kernel_rfl
@[simp] theorem own56 : G.retOwn 56 = false := by kernel_rfl
@[simp] theorem live56_0 : G.live 56 0 = some [0] := by kernel_rfl
@[simp] theorem live56_1 : G.live 56 1 = some [0, 4] := by kernel_rfl
@[simp] theorem live56_2 : G.live 56 2 = some [0, 4, 8] := by kernel_rfl
@[simp] theorem live56_3 : G.live 56 3 = some [2, 3] := by kernel_rfl
@[simp] theorem live56_4 : G.live 56 4 = some [2, 3] := by kernel_rfl
@[simp] theorem E57 : G.E 57 = true := by kernel_rfl
@[simp] theorem ext57 : G.ext 57 = none := by kernel_rfl
@[simp] theorem dfr57 : G.dfr 57 = false := by kernel_rfl
@[simp] theorem own57 : G.retOwn 57 = false := by kernel_rfl
@[simp] theorem keep57_3 : G.keep 57 3 = some ⟨[(0, none), (3, none), (9, none), (10, none), (11, none)], []⟩ := by kernel_rfl
@[simp] theorem keep57_11 : G.keep 57 11 = some ⟨[(6, some 4), (25, none), (26, none), (27, none)], []⟩ := by kernel_rfl
@[simp] theorem live57_0 : G.live 57 0 = some [0] := by kernel_rfl
@[simp] theorem live57_1 : G.live 57 1 = some [0, 3] := by kernel_rfl
@[simp] theorem live57_2 : G.live 57 2 = some [0, 3, 9, 10, 11] := by kernel_rfl
@[simp] theorem live57_3 : G.live 57 3 = some [0, 3, 9, 10, 11, 12] := by kernel_rfl
@[simp] theorem live57_4 : G.live 57 4 = some [0, 3, 5, 9, 10, 11] := by kernel_rfl
@[simp] theorem live57_5 : G.live 57 5 = some [0, 3, 9, 10, 11] := by kernel_rfl
@[simp] theorem live57_6 : G.live 57 6 = some [0, 3, 9, 10, 11, 20] := by kernel_rfl
@[simp] theorem live57_7 : G.live 57 7 = some [0, 3, 9, 10, 11] := by kernel_rfl
@[simp] theorem live57_8 : G.live 57 8 = some [0, 3, 9, 10, 11] := by kernel_rfl
@[simp] theorem live57_9 : G.live 57 9 = some [0, 6] := by kernel_rfl
@[simp] theorem live57_10 : G.live 57 10 = some [6, 25, 26, 27] := by kernel_rfl
@[simp] theorem live57_11 : G.live 57 11 = some [6, 25, 26, 27, 28] := by kernel_rfl
@[simp] theorem live57_12 : G.live 57 12 = some [6, 8, 25, 26, 27] := by kernel_rfl
@[simp] theorem live57_13 : G.live 57 13 = some [6, 25, 26, 27] := by kernel_rfl
@[simp] theorem live57_14 : G.live 57 14 = some [6, 25, 26, 27] := by kernel_rfl
@[simp] theorem live57_15 : G.live 57 15 = some [2] := by kernel_rfl
@[simp] theorem E58 : G.E 58 = true := by kernel_rfl
@[simp] theorem ext58 : G.ext 58 = none := by kernel_rfl
@[simp] theorem dfr58 : G.dfr 58 = false := by kernel_rfl
@[simp] theorem own58 : G.retOwn 58 = false := by kernel_rfl
@[simp] theorem live58_0 : G.live 58 0 = some [0, 1, 4] := by kernel_rfl
@[simp] theorem live58_1 : G.live 58 1 = some [] := by kernel_rfl
@[simp] theorem E59 : G.E 59 = true := by kernel_rfl
@[simp] theorem ext59 : G.ext 59 = none := by kernel_rfl
@[simp] theorem dfr59 : G.dfr 59 = false := by kernel_rfl
@[simp] theorem own59 : G.retOwn 59 = false := by kernel_rfl
@[simp] theorem live59_0 : G.live 59 0 = some [0, 1, 2] := by kernel_rfl
@[simp] theorem live59_1 : G.live 59 1 = some [5] := by kernel_rfl
@[simp] theorem plan59_1 : G.plan 59 1 = some [.n 0, .n 1, .n 2, .n 3, .n 4, .n 5, .n 6, .n 7, .e 8 [], .n 9] := by kernel_rfl
@[simp] theorem E60 : G.E 60 = true := by kernel_rfl
@[simp] theorem ext60 : G.ext 60 = none := by kernel_rfl
@[simp] theorem dfr60 : G.dfr 60 = false := by kernel_rfl
@[simp] theorem own60 : G.retOwn 60 = false := by kernel_rfl
@[simp] theorem live60_0 : G.live 60 0 = some [0, 1] := by kernel_rfl
@[simp] theorem live60_1 : G.live 60 1 = some [4] := by kernel_rfl
@[simp] theorem E61 : G.E 61 = true := by kernel_rfl
@[simp] theorem ext61 : G.ext 61 = none := by kernel_rfl
@[simp] theorem dfr61 : G.dfr 61 = false := by kernel_rfl
@[simp] theorem own61 : G.retOwn 61 = false := by kernel_rfl
@[simp] theorem live61_0 : G.live 61 0 = some [0, 1, 4] := by kernel_rfl
@[simp] theorem live61_1 : G.live 61 1 = some [0, 1, 4] := by kernel_rfl
@[simp] theorem live61_2 : G.live 61 2 = some [] := by kernel_rfl
@[simp] theorem E62 : G.E 62 = true := by kernel_rfl
@[simp] theorem ext62 : G.ext 62 = none := by kernel_rfl
@[simp] theorem dfr62 : G.dfr 62 = false := by kernel_rfl
@[simp] theorem own62 : G.retOwn 62 = false := by kernel_rfl
@[simp] theorem live62_0 : G.live 62 0 = some [0] := by kernel_rfl
@[simp] theorem live62_1 : G.live 62 1 = some [2] := by kernel_rfl
@[simp] theorem plan62_1 : G.plan 62 1 = some [.n 0, .n 1, .n 2, .n 3, .n 5, .n 6, .n 7, .n 8, .n 9, .e 4 [9, 8, 7, 6, 5, 0], .e 10 [6, 5, 1, 0], .n 11] := by kernel_rfl
@[simp] theorem E63 : G.E 63 = true := by kernel_rfl
@[simp] theorem ext63 : G.ext 63 = none := by kernel_rfl
@[simp] theorem dfr63 : G.dfr 63 = false := by kernel_rfl
@[simp] theorem own63 : G.retOwn 63 = false := by kernel_rfl
@[simp] theorem keep63_13 : G.keep 63 13 = some ⟨[(0, none), (5, none), (6, none), (7, none), (8, none)], [(1005, []), (1006, [])]⟩ := by kernel_rfl
@[simp] theorem live63_0 : G.live 63 0 = some [0, 1] := by kernel_rfl
@[simp] theorem live63_1 : G.live 63 1 = some [0, 1, 5] := by kernel_rfl
@[simp] theorem live63_2 : G.live 63 2 = some [0, 5, 6] := by kernel_rfl
@[simp] theorem live63_3 : G.live 63 3 = some [0, 5, 6, 7] := by kernel_rfl
@[simp] theorem live63_4 : G.live 63 4 = some [0, 5, 6, 7, 22] := by kernel_rfl
@[simp] theorem live63_5 : G.live 63 5 = some [4] := by kernel_rfl
@[simp] theorem live63_6 : G.live 63 6 = some [0, 5, 6, 7, 30] := by kernel_rfl
@[simp] theorem live63_7 : G.live 63 7 = some [4] := by kernel_rfl
@[simp] theorem live63_8 : G.live 63 8 = some [0, 5, 6, 7, 38] := by kernel_rfl
@[simp] theorem live63_9 : G.live 63 9 = some [4] := by kernel_rfl
@[simp] theorem live63_10 : G.live 63 10 = some [0, 5, 6, 7, 46] := by kernel_rfl
@[simp] theorem live63_11 : G.live 63 11 = some [4] := by kernel_rfl
@[simp] theorem live63_12 : G.live 63 12 = some [0, 5, 6, 7, 8] := by kernel_rfl
@[simp] theorem live63_13 : G.live 63 13 = some [0, 5, 6, 7, 8, 52] := by kernel_rfl
@[simp] theorem live63_15 : G.live 63 15 = some [0, 5, 6, 7, 8, 57] := by kernel_rfl
@[simp] theorem live63_16 : G.live 63 16 = some [0, 5, 6, 7, 8] := by kernel_rfl
@[simp] theorem live63_17 : G.live 63 17 = some [0, 5, 6, 7, 8] := by kernel_rfl
@[simp] theorem live63_14 : G.live 63 14 = some [0, 5, 6, 7, 8] := by kernel_rfl
@[simp] theorem live63_18 : G.live 63 18 = some [4] := by kernel_rfl
@[simp] theorem plan63_16 : G.plan 63 16 = some [.n 0, .n 3, .n 4, .n 5, .n 6, .n 7, .n 8, .n 9, .n 10, .n 11, .e 1 [11, 10, 9, 8, 7, 6, 5, 4, 3, 0], .n 2, .e 12 [2, 8, 7, 6, 5, 4, 3, 0], .n 13, .e 14 []] := by kernel_rfl
@[simp] theorem E64 : G.E 64 = true := by kernel_rfl
@[simp] theorem ext64 : G.ext 64 = none := by kernel_rfl
@[simp] theorem dfr64 : G.dfr 64 = false := by kernel_rfl
@[simp] theorem own64 : G.retOwn 64 = false := by kernel_rfl
@[simp] theorem live64_0 : G.live 64 0 = some [0] := by kernel_rfl
@[simp] theorem live64_1 : G.live 64 1 = some [2] := by kernel_rfl
@[simp] theorem E65 : G.E 65 = true := by kernel_rfl
@[simp] theorem ext65 : G.ext 65 = none := by kernel_rfl
@[simp] theorem dfr65 : G.dfr 65 = false := by kernel_rfl
@[simp] theorem own65 : G.retOwn 65 = false := by kernel_rfl
@[simp] theorem keep65_3 : G.keep 65 3 = some ⟨[(0, none), (3, none), (4, none)], []⟩ := by kernel_rfl
@[simp] theorem live65_0 : G.live 65 0 = some [0] := by kernel_rfl
@[simp] theorem live65_1 : G.live 65 1 = some [0, 3] := by kernel_rfl
@[simp] theorem live65_2 : G.live 65 2 = some [0, 3, 4] := by kernel_rfl
@[simp] theorem live65_3 : G.live 65 3 = some [0, 3, 4, 8] := by kernel_rfl
@[simp] theorem live65_5 : G.live 65 5 = some [0, 3, 4] := by kernel_rfl
@[simp] theorem live65_6 : G.live 65 6 = some [0, 3, 4, 21] := by kernel_rfl
@[simp] theorem live65_7 : G.live 65 7 = some [0, 3, 4] := by kernel_rfl
@[simp] theorem live65_4 : G.live 65 4 = some [0, 3, 4] := by kernel_rfl
@[simp] theorem live65_8 : G.live 65 8 = some [2] := by kernel_rfl
@[simp] theorem E66 : G.E 66 = true := by kernel_rfl
@[simp] theorem ext66 : G.ext 66 = none := by kernel_rfl
@[simp] theorem dfr66 : G.dfr 66 = false := by kernel_rfl
@[simp] theorem own66 : G.retOwn 66 = false := by kernel_rfl
@[simp] theorem live66_0 : G.live 66 0 = some [0, 1] := by kernel_rfl
@[simp] theorem live66_1 : G.live 66 1 = some [0, 1] := by kernel_rfl
@[simp] theorem live66_2 : G.live 66 2 = some [] := by kernel_rfl
@[simp] theorem live66_3 : G.live 66 3 = some [4] := by kernel_rfl
@[simp] theorem E67 : G.E 67 = true := by kernel_rfl
@[simp] theorem ext67 : G.ext 67 = none := by kernel_rfl
@[simp] theorem dfr67 : G.dfr 67 = false := by kernel_rfl
@[simp] theorem own67 : G.retOwn 67 = false := by kernel_rfl
@[simp] theorem keep67_1 : G.keep 67 1 = some ⟨[(0, none), (1, none), (6, none), (7, none)], []⟩ := by kernel_rfl
@[simp] theorem live67_0 : G.live 67 0 = some [0, 1, 6, 7] := by kernel_rfl
@[simp] theorem live67_1 : G.live 67 1 = some [0, 1, 6, 7, 8] := by kernel_rfl
@[simp] theorem live67_2 : G.live 67 2 = some [0, 1, 4, 6, 7] := by kernel_rfl
@[simp] theorem live67_3 : G.live 67 3 = some [0, 1, 4, 6, 7] := by kernel_rfl
@[simp] theorem live67_4 : G.live 67 4 = some [0, 1, 6, 7, 20] := by kernel_rfl
@[simp] theorem live67_5 : G.live 67 5 = some [0, 1, 6, 7] := by kernel_rfl
@[simp] theorem live67_6 : G.live 67 6 = some [0, 1, 6, 7] := by kernel_rfl
@[simp] theorem live67_7 : G.live 67 7 = some [] := by kernel_rfl
@[simp] theorem plan67_3 : G.plan 67 3 = some [.n 0, .n 1, .n 2, .n 3, .n 4, .n 5, .e 6 []] := by kernel_rfl
@[simp] theorem E68 : G.E 68 = true := by kernel_rfl
@[simp] theorem ext68 : G.ext 68 = none := by kernel_rfl
@[simp] theorem dfr68 : G.dfr 68 = true := by kernel_rfl
@[simp] theorem own68 : G.retOwn 68 = false := by kernel_rfl
@[simp] theorem live68_0 : G.live 68 0 = some [0, 1, 4, 5] := by kernel_rfl
@[simp] theorem live68_1 : G.live 68 1 = some [0, 1, 4, 5] := by kernel_rfl
@[simp] theorem live68_2 : G.live 68 2 = some [1, 4, 5, 6] := by kernel_rfl
@[simp] theorem live68_3 : G.live 68 3 = some [4, 5, 6] := by kernel_rfl
@[simp] theorem live68_4 : G.live 68 4 = some [4, 5] := by kernel_rfl
@[simp] theorem E69 : G.E 69 = true := by kernel_rfl
@[simp] theorem ext69 : G.ext 69 = none := by kernel_rfl
@[simp] theorem dfr69 : G.dfr 69 = false := by kernel_rfl
@[simp] theorem own69 : G.retOwn 69 = false := by kernel_rfl
@[simp] theorem live69_0 : G.live 69 0 = some [] := by kernel_rfl
@[simp] theorem E70 : G.E 70 = true := by kernel_rfl
@[simp] theorem ext70 : G.ext 70 = none := by kernel_rfl
@[simp] theorem dfr70 : G.dfr 70 = false := by kernel_rfl
@[simp] theorem own70 : G.retOwn 70 = false := by kernel_rfl
@[simp] theorem keep70_15 : G.keep 70 15 = some ⟨[(0, none), (4, none), (5, some 4)], [(1004, [])]⟩ := by kernel_rfl
@[simp] theorem keep70_20 : G.keep 70 20 = some ⟨[(0, none), (4, none), (5, some 4), (7, none)], [(1004, [])]⟩ := by kernel_rfl
@[simp] theorem live70_0 : G.live 70 0 = some [0] := by kernel_rfl
@[simp] theorem live70_1 : G.live 70 1 = some [0, 3] := by kernel_rfl
@[simp] theorem live70_2 : G.live 70 2 = some [0, 3] := by kernel_rfl
@[simp] theorem live70_3 : G.live 70 3 = some [0, 4] := by kernel_rfl
@[simp] theorem live70_4 : G.live 70 4 = some [0, 4, 5] := by kernel_rfl
@[simp] theorem live70_5 : G.live 70 5 = some [0, 4, 5, 24] := by kernel_rfl
@[simp] theorem live70_6 : G.live 70 6 = some [0, 4, 5, 24, 25] := by kernel_rfl
@[simp] theorem live70_7 : G.live 70 7 = some [4, 5, 6] := by kernel_rfl
@[simp] theorem live70_8 : G.live 70 8 = some [4, 5, 6] := by kernel_rfl
@[simp] theorem live70_9 : G.live 70 9 = some [4, 5] := by kernel_rfl
@[simp] theorem live70_10 : G.live 70 10 = some [0, 4, 5, 24, 36] := by kernel_rfl
@[simp] theorem live70_11 : G.live 70 11 = some [4, 5] := by kernel_rfl
@[simp] theorem live70_12 : G.live 70 12 = some [0, 4, 5, 24, 44] := by kernel_rfl
@[simp] theorem live70_13 : G.live 70 13 = some [4, 5] := by kernel_rfl
@[simp] theorem live70_14 : G.live 70 14 = some [0, 4, 5, 24, 49] := by kernel_rfl
@[simp] theorem live70_15 : G.live 70 15 = some [0, 4, 5, 52] := by kernel_rfl
@[simp] theorem live70_16 : G.live 70 16 = some [0, 4, 5] := by kernel_rfl
@[simp] theorem live70_17 : G.live 70 17 = some [0, 4, 5] := by kernel_rfl
@[simp] theorem live70_18 : G.live 70 18 = some [0, 4, 5, 61] := by kernel_rfl
@[simp] theorem live70_19 : G.live 70 19 = some [0, 4, 5, 7] := by kernel_rfl
@[simp] theorem live70_20 : G.live 70 20 = some [0, 4, 5, 7, 64] := by kernel_rfl
@[simp] theorem live70_22 : G.live 70 22 = some [0, 4, 5, 7] := by kernel_rfl
@[simp] theorem live70_23 : G.live 70 23 = some [0, 4, 5, 7, 8] := by kernel_rfl
@[simp] theorem live70_24 : G.live 70 24 = some [0, 4, 5, 8] := by kernel_rfl
@[simp] theorem live70_25 : G.live 70 25 = some [0, 4, 5, 7, 8] := by kernel_rfl
@[simp] theorem live70_26 : G.live 70 26 = some [0, 4, 5, 7] := by kernel_rfl
@[simp] theorem live70_27 : G.live 70 27 = some [0, 4, 5, 7] := by kernel_rfl
@[simp] theorem live70_21 : G.live 70 21 = some [0, 4, 5, 7] := by kernel_rfl
@[simp] theorem live70_28 : G.live 70 28 = some [2] := by kernel_rfl
@[simp] theorem E71 : G.E 71 = true := by kernel_rfl
@[simp] theorem ext71 : G.ext 71 = none := by kernel_rfl
@[simp] theorem dfr71 : G.dfr 71 = false := by kernel_rfl
@[simp] theorem own71 : G.retOwn 71 = false := by kernel_rfl
@[simp] theorem keep71_19 : G.keep 71 19 = some ⟨[(0, none), (1, none), (2, none), (6, none), (7, none), (8, some 4), (9, none)], [(1006, [])]⟩ := by kernel_rfl
@[simp] theorem live71_0 : G.live 71 0 = some [0, 1, 2, 6] := by kernel_rfl
@[simp] theorem live71_1 : G.live 71 1 = some [0, 1, 2, 6, 31] := by kernel_rfl
@[simp] theorem live71_2 : G.live 71 2 = some [6] := by kernel_rfl
@[simp] theorem live71_3 : G.live 71 3 = some [0, 1, 2, 6, 7] := by kernel_rfl
@[simp] theorem live71_4 : G.live 71 4 = some [0, 1, 2, 6, 7] := by kernel_rfl
@[simp] theorem live71_5 : G.live 71 5 = some [0, 1, 2, 6, 7, 41] := by kernel_rfl
@[simp] theorem live71_6 : G.live 71 6 = some [6] := by kernel_rfl
@[simp] theorem live71_7 : G.live 71 7 = some [0, 1, 2, 6, 7, 47] := by kernel_rfl
@[simp] theorem live71_8 : G.live 71 8 = some [6] := by kernel_rfl
@[simp] theorem live71_9 : G.live 71 9 = some [0, 1, 2, 6, 7, 52] := by kernel_rfl
@[simp] theorem live71_10 : G.live 71 10 = some [0, 1, 6, 7, 62] := by kernel_rfl
@[simp] theorem live71_11 : G.live 71 11 = some [6] := by kernel_rfl
@[simp] theorem live71_12 : G.live 71 12 = some [6] := by kernel_rfl
@[simp] theorem live71_13 : G.live 71 13 = some [0, 1, 2, 6, 7, 75] := by kernel_rfl
@[simp] theorem live71_14 : G.live 71 14 = some [0, 1, 6, 7, 80] := by kernel_rfl
@[simp] theorem live71_15 : G.live 71 15 = some [6] := by kernel_rfl
@[simp] theorem live71_16 : G.live 71 16 = some [6] := by kernel_rfl
@[simp] theorem live71_17 : G.live 71 17 = some [0, 1, 2, 6, 7, 8] := by kernel_rfl
@[simp] theorem live71_18 : G.live 71 18 = some [0, 1, 2, 6, 7, 8, 9] := by kernel_rfl
@[simp] theorem live71_19 : G.live 71 19 = some [0, 1, 2, 6, 7, 8, 9, 108] := by kernel_rfl
@[simp] theorem live71_20 : G.live 71 20 = some [0, 1, 2, 6, 7, 8, 9, 110] := by kernel_rfl
@[simp] theorem live71_21 : G.live 71 21 = some [0, 1, 2, 6, 7, 8, 9, 10] := by kernel_rfl
@[simp] theorem live71_22 : G.live 71 22 = some [0, 2, 6, 7, 8, 10, 138] := by kernel_rfl
@[simp] theorem live71_23 : G.live 71 23 = some [6] := by kernel_rfl
@[simp] theorem live71_24 : G.live 71 24 = some [0, 2, 6, 7, 8, 9, 10] := by kernel_rfl
@[simp] theorem live71_25 : G.live 71 25 = some [0, 2, 6, 7, 8, 9, 10] := by kernel_rfl
@[simp] theorem live71_26 : G.live 71 26 = some [0, 1, 2, 6, 7, 8, 9] := by kernel_rfl
@[simp] theorem live71_27 : G.live 71 27 = some [0, 2, 6, 7, 8, 9, 11] := by kernel_rfl
@[simp] theorem live71_28 : G.live 71 28 = some [0, 2, 6, 7, 8, 9, 11, 157] := by kernel_rfl
@[simp] theorem live71_29 : G.live 71 29 = some [6] := by kernel_rfl
@[simp] theorem live71_30 : G.live 71 30 = some [0, 2, 6, 7, 8, 9, 11] := by kernel_rfl
@[simp] theorem live71_31 : G.live 71 31 = some [0, 2, 6, 7, 8, 9, 11] := by kernel_rfl
@[simp] theorem live71_32 : G.live 71 32 = some [0, 1, 2, 6, 7, 8, 9] := by kernel_rfl
@[simp] theorem live71_33 : G.live 71 33 = some [1, 6, 8, 175] := by kernel_rfl
@[simp] theorem live71_34 : G.live 71 34 = some [6] := by kernel_rfl
@[simp] theorem live71_35 : G.live 71 35 = some [6] := by kernel_rfl
@[simp] theorem E72 : G.E 72 = true := by kernel_rfl
@[simp] theorem ext72 : G.ext 72 = none := by kernel_rfl
@[simp] theorem dfr72 : G.dfr 72 = false := by kernel_rfl
@[simp] theorem own72 : G.retOwn 72 = false := by kernel_rfl
@[simp] theorem live72_0 : G.live 72 0 = some [] := by kernel_rfl
@[simp] theorem E73 : G.E 73 = true := by kernel_rfl
@[simp] theorem ext73 : G.ext 73 = none := by kernel_rfl
@[simp] theorem dfr73 : G.dfr 73 = false := by kernel_rfl
@[simp] theorem own73 : G.retOwn 73 = false := by kernel_rfl
@[simp] theorem keep73_0 : G.keep 73 0 = some ⟨[(0, none), (1, none)], []⟩ := by kernel_rfl
@[simp] theorem live73_0 : G.live 73 0 = some [0, 1, 7] := by kernel_rfl
@[simp] theorem live73_1 : G.live 73 1 = some [0, 1] := by kernel_rfl
@[simp] theorem live73_2 : G.live 73 2 = some [0, 1] := by kernel_rfl
@[simp] theorem plan73_2 : G.plan 73 2 = some [.n 0, .n 1, .e 2 [0], .n 3, .e 4 [], .e 5 []] := by kernel_rfl
@[simp] theorem E74 : G.E 74 = true := by kernel_rfl
@[simp] theorem ext74 : G.ext 74 = none := by kernel_rfl
@[simp] theorem dfr74 : G.dfr 74 = false := by kernel_rfl
@[simp] theorem own74 : G.retOwn 74 = false := by kernel_rfl
@[simp] theorem live74_0 : G.live 74 0 = some [3] := by kernel_rfl
@[simp] theorem live74_1 : G.live 74 1 = some [] := by kernel_rfl
@[simp] theorem E75 : G.E 75 = true := by kernel_rfl
@[simp] theorem ext75 : G.ext 75 = none := by kernel_rfl
@[simp] theorem dfr75 : G.dfr 75 = false := by kernel_rfl
@[simp] theorem own75 : G.retOwn 75 = false := by kernel_rfl
@[simp] theorem live75_0 : G.live 75 0 = some [0, 1] := by kernel_rfl
@[simp] theorem live75_1 : G.live 75 1 = some [0, 1, 12] := by kernel_rfl
@[simp] theorem live75_2 : G.live 75 2 = some [0, 1] := by kernel_rfl
@[simp] theorem live75_3 : G.live 75 3 = some [0, 1, 5] := by kernel_rfl
@[simp] theorem live75_4 : G.live 75 4 = some [5] := by kernel_rfl
@[simp] theorem live75_5 : G.live 75 5 = some [4] := by kernel_rfl
@[simp] theorem E76 : G.E 76 = true := by kernel_rfl
@[simp] theorem ext76 : G.ext 76 = none := by kernel_rfl
@[simp] theorem dfr76 : G.dfr 76 = false := by kernel_rfl
@[simp] theorem own76 : G.retOwn 76 = false := by kernel_rfl
@[simp] theorem live76_0 : G.live 76 0 = some [0, 8, 9] := by kernel_rfl
@[simp] theorem live76_1 : G.live 76 1 = some [0, 3, 8, 9] := by kernel_rfl
@[simp] theorem live76_2 : G.live 76 2 = some [3, 7, 8, 9] := by kernel_rfl
@[simp] theorem live76_3 : G.live 76 3 = some [3, 4, 7, 8, 9] := by kernel_rfl
@[simp] theorem live76_4 : G.live 76 4 = some [3, 4, 5, 7, 8, 9] := by kernel_rfl
@[simp] theorem live76_5 : G.live 76 5 = some [3, 4, 5, 7, 8, 9, 15] := by kernel_rfl
@[simp] theorem live76_6 : G.live 76 6 = some [3, 4, 7, 8, 9] := by kernel_rfl
@[simp] theorem live76_7 : G.live 76 7 = some [3, 7, 8, 9] := by kernel_rfl
@[simp] theorem live76_8 : G.live 76 8 = some [2] := by kernel_rfl
@[simp] theorem E77 : G.E 77 = true := by kernel_rfl
@[simp] theorem ext77 : G.ext 77 = none := by kernel_rfl
@[simp] theorem dfr77 : G.dfr 77 = false := by kernel_rfl
@[simp] theorem own77 : G.retOwn 77 = false := by kernel_rfl
@[simp] theorem keep77_2 : G.keep 77 2 = some ⟨[(0, none), (1, none), (4, none), (5, none)], [(1004, [])]⟩ := by kernel_rfl
@[simp] theorem live77_0 : G.live 77 0 = some [0, 1, 4] := by kernel_rfl
@[simp] theorem live77_1 : G.live 77 1 = some [0, 1, 4, 5] := by kernel_rfl
@[simp] theorem live77_2 : G.live 77 2 = some [0, 1, 4, 5, 10] := by kernel_rfl
@[simp] theorem live77_3 : G.live 77 3 = some [0, 1, 4, 5, 21] := by kernel_rfl
@[simp] theorem live77_4 : G.live 77 4 = some [4] := by kernel_rfl
@[simp] theorem live77_5 : G.live 77 5 = some [0, 1, 4, 5, 38] := by kernel_rfl
@[simp] theorem live77_6 : G.live 77 6 = some [4] := by kernel_rfl
@[simp] theorem live77_7 : G.live 77 7 = some [0, 1, 4, 5] := by kernel_rfl
@[simp] theorem live77_8 : G.live 77 8 = some [0, 1, 4, 5, 50] := by kernel_rfl
@[simp] theorem live77_9 : G.live 77 9 = some [0, 1, 4, 5] := by kernel_rfl
@[simp] theorem live77_10 : G.live 77 10 = some [0, 1, 4, 5] := by kernel_rfl
@[simp] theorem live77_11 : G.live 77 11 = some [4] := by kernel_rfl
@[simp] theorem E78 : G.E 78 = true := by kernel_rfl
@[simp] theorem ext78 : G.ext 78 = none := by kernel_rfl
@[simp] theorem dfr78 : G.dfr 78 = false := by kernel_rfl
@[simp] theorem own78 : G.retOwn 78 = false := by kernel_rfl
@[simp] theorem live78_0 : G.live 78 0 = some [0] := by kernel_rfl
@[simp] theorem live78_1 : G.live 78 1 = some [2] := by kernel_rfl
@[simp] theorem E79 : G.E 79 = true := by kernel_rfl
@[simp] theorem ext79 : G.ext 79 = none := by kernel_rfl
@[simp] theorem dfr79 : G.dfr 79 = false := by kernel_rfl
@[simp] theorem own79 : G.retOwn 79 = false := by kernel_rfl
@[simp] theorem live79_0 : G.live 79 0 = some [0, 1] := by kernel_rfl
@[simp] theorem live79_1 : G.live 79 1 = some [0, 1, 5, 6] := by kernel_rfl
@[simp] theorem live79_2 : G.live 79 2 = some [0, 1, 5, 7] := by kernel_rfl
@[simp] theorem live79_3 : G.live 79 3 = some [0, 1, 7, 37] := by kernel_rfl
@[simp] theorem live79_4 : G.live 79 4 = some [4] := by kernel_rfl
@[simp] theorem live79_5 : G.live 79 5 = some [4] := by kernel_rfl
@[simp] theorem plan79_2 : G.plan 79 2 = some [.n 0, .n 1, .n 2, .n 3, .n 5, .n 6, .n 7, .n 8, .n 10, .n 11, .n 12, .n 13, .e 4 [13, 12, 11, 10, 8, 7, 6, 5], .e 9 [13, 12, 11, 10], .e 14 [2, 0], .n 15, .e 16 [7, 5, 2, 0], .n 17] := by kernel_rfl
@[simp] theorem E80 : G.E 80 = true := by kernel_rfl
@[simp] theorem ext80 : G.ext 80 = none := by kernel_rfl
@[simp] theorem dfr80 : G.dfr 80 = false := by kernel_rfl
@[simp] theorem own80 : G.retOwn 80 = false := by kernel_rfl
@[simp] theorem live80_0 : G.live 80 0 = some [1] := by kernel_rfl
@[simp] theorem live80_1 : G.live 80 1 = some [1, 3] := by kernel_rfl
@[simp] theorem live80_2 : G.live 80 2 = some [1, 3, 4] := by kernel_rfl
@[simp] theorem live80_3 : G.live 80 3 = some [1, 3, 4, 5] := by kernel_rfl
@[simp] theorem live80_4 : G.live 80 4 = some [2] := by kernel_rfl
@[simp] theorem E81 : G.E 81 = true := by kernel_rfl
@[simp] theorem ext81 : G.ext 81 = none := by kernel_rfl
@[simp] theorem dfr81 : G.dfr 81 = false := by kernel_rfl
@[simp] theorem own81 : G.retOwn 81 = false := by kernel_rfl
@[simp] theorem keep81_2 : G.keep 81 2 = some ⟨[(0, none), (1, none), (7, none), (8, none)], []⟩ := by kernel_rfl
@[simp] theorem live81_0 : G.live 81 0 = some [0, 1] := by kernel_rfl
@[simp] theorem live81_1 : G.live 81 1 = some [0, 1, 7, 8] := by kernel_rfl
@[simp] theorem live81_2 : G.live 81 2 = some [0, 1, 7, 8, 9] := by kernel_rfl
@[simp] theorem live81_3 : G.live 81 3 = some [0, 1, 5, 7, 8] := by kernel_rfl
@[simp] theorem live81_4 : G.live 81 4 = some [0, 1, 5, 7, 8, 16] := by kernel_rfl
@[simp] theorem live81_5 : G.live 81 5 = some [4] := by kernel_rfl
@[simp] theorem live81_6 : G.live 81 6 = some [0, 1, 7, 8] := by kernel_rfl
@[simp] theorem live81_7 : G.live 81 7 = some [4] := by kernel_rfl
@[simp] theorem E82 : G.E 82 = true := by kernel_rfl
@[simp] theorem ext82 : G.ext 82 = none := by kernel_rfl
@[simp] theorem dfr82 : G.dfr 82 = false := by kernel_rfl
@[simp] theorem own82 : G.retOwn 82 = false := by kernel_rfl
@[simp] theorem live82_0 : G.live 82 0 = some [0, 1, 3] := by kernel_rfl
@[simp] theorem live82_1 : G.live 82 1 = some [0, 1, 9] := by kernel_rfl
@[simp] theorem live82_2 : G.live 82 2 = some [] := by kernel_rfl
@[simp] theorem E83 : G.E 83 = true := by kernel_rfl
@[simp] theorem ext83 : G.ext 83 = none := by kernel_rfl
@[simp] theorem dfr83 : G.dfr 83 = false := by kernel_rfl
@[simp] theorem own83 : G.retOwn 83 = false := by kernel_rfl
@[simp] theorem live83_0 : G.live 83 0 = some [3] := by kernel_rfl
@[simp] theorem live83_1 : G.live 83 1 = some [] := by kernel_rfl
@[simp] theorem E84 : G.E 84 = true := by kernel_rfl
@[simp] theorem ext84 : G.ext 84 = none := by kernel_rfl
@[simp] theorem dfr84 : G.dfr 84 = false := by kernel_rfl
@[simp] theorem own84 : G.retOwn 84 = false := by kernel_rfl
@[simp] theorem live84_0 : G.live 84 0 = some [1] := by kernel_rfl
@[simp] theorem live84_1 : G.live 84 1 = some [1, 3] := by kernel_rfl
@[simp] theorem live84_2 : G.live 84 2 = some [1, 3, 6] := by kernel_rfl
@[simp] theorem live84_3 : G.live 84 3 = some [1, 3, 6, 7] := by kernel_rfl
@[simp] theorem live84_4 : G.live 84 4 = some [1, 3, 6, 9] := by kernel_rfl
@[simp] theorem live84_5 : G.live 84 5 = some [1, 3, 6, 11] := by kernel_rfl
@[simp] theorem live84_6 : G.live 84 6 = some [1, 3, 6, 13] := by kernel_rfl
@[simp] theorem live84_7 : G.live 84 7 = some [1, 3, 6, 15] := by kernel_rfl
@[simp] theorem live84_8 : G.live 84 8 = some [1, 3, 15] := by kernel_rfl
@[simp] theorem live84_9 : G.live 84 9 = some [1, 3] := by kernel_rfl
@[simp] theorem live84_10 : G.live 84 10 = some [2] := by kernel_rfl
@[simp] theorem live84_11 : G.live 84 11 = some [1, 3] := by kernel_rfl
@[simp] theorem live84_12 : G.live 84 12 = some [2] := by kernel_rfl
@[simp] theorem live84_13 : G.live 84 13 = some [1, 3] := by kernel_rfl
@[simp] theorem live84_14 : G.live 84 14 = some [2] := by kernel_rfl
@[simp] theorem live84_15 : G.live 84 15 = some [2] := by kernel_rfl
@[simp] theorem live84_16 : G.live 84 16 = some [2] := by kernel_rfl
@[simp] theorem plan84_10 : G.plan 84 10 = some [.n 0, .n 1, .e 2 [0], .n 3, .n 4, .n 5, .n 6, .n 7, .n 8, .n 9] := by kernel_rfl
@[simp] theorem plan84_12 : G.plan 84 12 = some [.n 0, .n 1, .e 2 [0], .n 3, .n 4, .n 5, .n 6, .n 7, .n 8, .n 9] := by kernel_rfl
@[simp] theorem plan84_14 : G.plan 84 14 = some [.n 0, .n 1, .e 2 [0], .n 3, .n 4, .n 5, .n 6, .n 7, .n 8, .n 9] := by kernel_rfl
@[simp] theorem plan84_15 : G.plan 84 15 = some [.n 0, .n 1, .e 2 [0], .n 3, .n 4, .n 5, .n 6, .n 7, .n 8, .n 9] := by kernel_rfl
@[simp] theorem E85 : G.E 85 = true := by kernel_rfl
@[simp] theorem ext85 : G.ext 85 = none := by kernel_rfl
@[simp] theorem dfr85 : G.dfr 85 = false := by kernel_rfl
@[simp] theorem own85 : G.retOwn 85 = false := by kernel_rfl
@[simp] theorem keep85_2 : G.keep 85 2 = some ⟨[(0, none), (1, none), (21, none), (22, none), (23, none)], []⟩ := by kernel_rfl
@[simp] theorem live85_0 : G.live 85 0 = some [0, 1, 2, 17] := by kernel_rfl
@[simp] theorem live85_1 : G.live 85 1 = some [0, 1, 21, 22, 23] := by kernel_rfl
@[simp] theorem live85_2 : G.live 85 2 = some [0, 1, 21, 22, 23, 24] := by kernel_rfl
@[simp] theorem live85_3 : G.live 85 3 = some [0, 1, 5, 21, 22, 23] := by kernel_rfl
@[simp] theorem live85_4 : G.live 85 4 = some [0, 1, 21, 22, 23, 36] := by kernel_rfl
@[simp] theorem live85_5 : G.live 85 5 = some [0, 1, 21, 22, 23] := by kernel_rfl
@[simp] theorem E86 : G.E 86 = true := by kernel_rfl
@[simp] theorem ext86 : G.ext 86 = none := by kernel_rfl
@[simp] theorem dfr86 : G.dfr 86 = false := by kernel_rfl
@[simp] theorem own86 : G.retOwn 86 = true := by kernel_rfl
@[simp] theorem live86_0 : G.live 86 0 = some [0, 1] := by kernel_rfl
@[simp] theorem live86_1 : G.live 86 1 = some [0, 1, 6] := by kernel_rfl
@[simp] theorem live86_2 : G.live 86 2 = some [0, 1] := by kernel_rfl
@[simp] theorem live86_3 : G.live 86 3 = some [0, 1] := by kernel_rfl
@[simp] theorem live86_4 : G.live 86 4 = some [0, 1, 16] := by kernel_rfl
@[simp] theorem live86_5 : G.live 86 5 = some [0] := by kernel_rfl
@[simp] theorem live86_6 : G.live 86 6 = some [4] := by kernel_rfl
@[simp] theorem E87 : G.E 87 = true := by kernel_rfl
@[simp] theorem ext87 : G.ext 87 = none := by kernel_rfl
@[simp] theorem dfr87 : G.dfr 87 = false := by kernel_rfl
@[simp] theorem own87 : G.retOwn 87 = false := by kernel_rfl
@[simp] theorem keep87_2 : G.keep 87 2 = some ⟨[(0, some 1), (1, none), (2, none), (3, none), (4, none), (10, none), (11, none)], []⟩ := by kernel_rfl
@[simp] theorem live87_0 : G.live 87 0 = some [0, 1, 2, 3, 4, 10] := by kernel_rfl
@[simp] theorem live87_1 : G.live 87 1 = some [0, 1, 2, 3, 4, 10, 11] := by kernel_rfl
@[simp] theorem live87_2 : G.live 87 2 = some [0, 1, 2, 3, 4, 10, 11, 12] := by kernel_rfl
@[simp] theorem live87_3 : G.live 87 3 = some [0, 1, 2, 3, 4, 10, 11, 12, 25] := by kernel_rfl
@[simp] theorem live87_4 : G.live 87 4 = some [] := by kernel_rfl
@[simp] theorem live87_5 : G.live 87 5 = some [0, 1, 2, 3, 4, 10, 11, 12, 32] := by kernel_rfl
@[simp] theorem live87_6 : G.live 87 6 = some [] := by kernel_rfl
@[simp] theorem live87_7 : G.live 87 7 = some [0, 1, 2, 3, 4, 10, 11, 12, 39] := by kernel_rfl
@[simp] theorem live87_8 : G.live 87 8 = some [0, 1, 2, 3, 4, 10, 11, 12] := by kernel_rfl
@[simp] theorem live87_9 : G.live 87 9 = some [0, 1, 2, 3, 4, 10, 11, 12] := by kernel_rfl
@[simp] theorem live87_10 : G.live 87 10 = some [0, 1, 2, 3, 4, 10, 11, 12, 13, 14] := by kernel_rfl
@[simp] theorem live87_11 : G.live 87 11 = some [0, 1, 2, 3, 4, 10, 11, 12, 13, 14, 56] := by kernel_rfl
@[simp] theorem live87_12 : G.live 87 12 = some [0, 1, 2, 3, 4, 10, 11, 12, 13] := by kernel_rfl
@[simp] theorem live87_13 : G.live 87 13 = some [0, 1, 2, 3, 4, 10, 11, 12, 13] := by kernel_rfl
@[simp] theorem live87_14 : G.live 87 14 = some [0, 1, 2, 3, 4, 10, 11, 12, 13, 14] := by kernel_rfl
@[simp] theorem live87_15 : G.live 87 15 = some [0, 1, 2, 3, 4, 10, 11, 12, 13, 75] := by kernel_rfl
@[simp] theorem live87_16 : G.live 87 16 = some [0, 1, 2, 3, 4, 10, 11, 12, 13, 80] := by kernel_rfl
@[simp] theorem live87_17 : G.live 87 17 = some [0, 1, 2, 3, 4, 10, 11, 12, 13, 97] := by kernel_rfl
@[simp] theorem live87_18 : G.live 87 18 = some [0, 2, 3, 4, 10, 11, 15] := by kernel_rfl
@[simp] theorem live87_19 : G.live 87 19 = some [0, 1, 2, 3, 4, 10, 11] := by kernel_rfl
@[simp] theorem live87_20 : G.live 87 20 = some [0, 1, 2, 3, 4, 12, 16, 17] := by kernel_rfl
@[simp] theorem live87_21 : G.live 87 21 = some [0, 1, 2, 3, 4, 11, 12, 16] := by kernel_rfl
@[simp] theorem live87_22 : G.live 87 22 = some [0, 1, 2, 3, 4, 11, 12, 16, 18, 19] := by kernel_rfl
@[simp] theorem live87_23 : G.live 87 23 = some [0, 1, 2, 3, 4, 11, 16, 18, 19, 20] := by kernel_rfl
@[simp] theorem live87_24 : G.live 87 24 = some [0, 1, 2, 3, 4, 11, 16, 18, 19, 20, 125] := by kernel_rfl
@[simp] theorem live87_25 : G.live 87 25 = some [0, 1, 2, 3, 4, 10, 11, 16] := by kernel_rfl
@[simp] theorem live87_26 : G.live 87 26 = some [0, 2, 3, 4, 10, 11, 16] := by kernel_rfl
@[simp] theorem live87_27 : G.live 87 27 = some [0, 1, 2, 3, 4, 10, 11] := by kernel_rfl
@[simp] theorem live87_28 : G.live 87 28 = some [0, 1, 2, 3, 4, 10, 11, 16] := by kernel_rfl
@[simp] theorem live87_29 : G.live 87 29 = some [0, 1, 3, 4, 10, 11, 16] := by kernel_rfl
@[simp] theorem live87_30 : G.live 87 30 = some [0, 1, 2, 3, 4, 10, 11] := by kernel_rfl
@[simp] theorem plan87_17 : G.plan 87 17 = some [.n 0, .n 1, .n 2, .n 3, .n 4, .n 5, .n 6, .n 7, .n 8, .n 9, .n 10, .n 11, .n 12, .e 13 [5], .n 14, .n 15, .n 16] := by kernel_rfl
@[simp] theorem E88 : G.E 88 = true := by kernel_rfl
@[simp] theorem ext88 : G.ext 88 = none := by kernel_rfl
@[simp] theorem dfr88 : G.dfr 88 = false := by kernel_rfl
@[simp] theorem own88 : G.retOwn 88 = false := by kernel_rfl
@[simp] theorem live88_0 : G.live 88 0 = some [0] := by kernel_rfl
@[simp] theorem live88_1 : G.live 88 1 = some [2] := by kernel_rfl
@[simp] theorem live88_2 : G.live 88 2 = some [2] := by kernel_rfl
@[simp] theorem E89 : G.E 89 = true := by kernel_rfl
@[simp] theorem ext89 : G.ext 89 = none := by kernel_rfl
@[simp] theorem dfr89 : G.dfr 89 = false := by kernel_rfl
@[simp] theorem own89 : G.retOwn 89 = false := by kernel_rfl
@[simp] theorem live89_0 : G.live 89 0 = some [0, 1] := by kernel_rfl
@[simp] theorem live89_1 : G.live 89 1 = some [4] := by kernel_rfl
@[simp] theorem E90 : G.E 90 = true := by kernel_rfl
@[simp] theorem ext90 : G.ext 90 = none := by kernel_rfl
@[simp] theorem dfr90 : G.dfr 90 = false := by kernel_rfl
@[simp] theorem own90 : G.retOwn 90 = false := by kernel_rfl
@[simp] theorem E91 : G.E 91 = true := by kernel_rfl
@[simp] theorem ext91 : G.ext 91 = none := by kernel_rfl
@[simp] theorem dfr91 : G.dfr 91 = false := by kernel_rfl
@[simp] theorem own91 : G.retOwn 91 = false := by kernel_rfl
@[simp] theorem live91_0 : G.live 91 0 = some [] := by kernel_rfl
@[simp] theorem plan91_0 : G.plan 91 0 = some [.n 0, .n 1, .n 2, .n 3, .n 4, .n 5, .n 6, .n 7, .n 8, .n 9, .n 10, .e 11 [7, 6, 5, 4, 3, 2, 1, 0], .e 12 [8, 7, 6, 5, 4, 3]] := by kernel_rfl
@[simp] theorem E92 : G.E 92 = true := by kernel_rfl
@[simp] theorem ext92 : G.ext 92 = none := by kernel_rfl
@[simp] theorem dfr92 : G.dfr 92 = false := by kernel_rfl
@[simp] theorem own92 : G.retOwn 92 = false := by kernel_rfl
@[simp] theorem live92_0 : G.live 92 0 = some [] := by kernel_rfl
@[simp] theorem plan92_0 : G.plan 92 0 = some [.n 0, .n 1, .n 2, .n 3, .n 4, .n 5, .n 6, .n 7, .n 8, .n 9, .n 10, .e 11 [7, 6, 5, 4, 3, 2, 1, 0], .n 12, .e 13 [9, 8, 7, 6, 5, 4, 3, 2, 1, 0], .e 14 [10, 9, 8, 7, 6, 5, 4, 3]] := by kernel_rfl
@[simp] theorem E93 : G.E 93 = true := by kernel_rfl
@[simp] theorem ext93 : G.ext 93 = none := by kernel_rfl
@[simp] theorem dfr93 : G.dfr 93 = false := by kernel_rfl
@[simp] theorem own93 : G.retOwn 93 = false := by kernel_rfl
@[simp] theorem live93_0 : G.live 93 0 = some [] := by kernel_rfl
@[simp] theorem E94 : G.E 94 = true := by kernel_rfl
@[simp] theorem ext94 : G.ext 94 = none := by kernel_rfl
@[simp] theorem dfr94 : G.dfr 94 = false := by kernel_rfl
@[simp] theorem own94 : G.retOwn 94 = false := by kernel_rfl
@[simp] theorem keep94_1 : G.keep 94 1 = some ⟨[(0, none), (11, none), (12, none), (13, none)], []⟩ := by kernel_rfl
@[simp] theorem live94_0 : G.live 94 0 = some [0, 11, 12, 13] := by kernel_rfl
@[simp] theorem live94_1 : G.live 94 1 = some [0, 11, 12, 13, 14] := by kernel_rfl
@[simp] theorem live94_2 : G.live 94 2 = some [0, 5, 11, 12, 13] := by kernel_rfl
@[simp] theorem live94_3 : G.live 94 3 = some [0, 11, 12, 13] := by kernel_rfl
@[simp] theorem live94_4 : G.live 94 4 = some [0, 11, 12, 13] := by kernel_rfl
@[simp] theorem live94_5 : G.live 94 5 = some [] := by kernel_rfl
@[simp] theorem E95 : G.E 95 = true := by kernel_rfl
@[simp] theorem ext95 : G.ext 95 = none := by kernel_rfl
@[simp] theorem dfr95 : G.dfr 95 = false := by kernel_rfl
@[simp] theorem own95 : G.retOwn 95 = false := by kernel_rfl
@[simp] theorem keep95_1 : G.keep 95 1 = some ⟨[(0, none), (11, none), (12, none), (13, none)], []⟩ := by kernel_rfl
@[simp] theorem live95_0 : G.live 95 0 = some [0, 11, 12, 13] := by kernel_rfl
@[simp] theorem live95_1 : G.live 95 1 = some [0, 11, 12, 13, 14] := by kernel_rfl
@[simp] theorem live95_2 : G.live 95 2 = some [0, 5, 11, 12, 13] := by kernel_rfl
@[simp] theorem live95_3 : G.live 95 3 = some [0, 5, 11, 12, 13] := by kernel_rfl
@[simp] theorem live95_4 : G.live 95 4 = some [0, 5, 11, 12, 13] := by kernel_rfl
@[simp] theorem live95_5 : G.live 95 5 = some [0, 11, 12, 13] := by kernel_rfl
@[simp] theorem live95_6 : G.live 95 6 = some [0, 11, 12, 13] := by kernel_rfl
@[simp] theorem live95_7 : G.live 95 7 = some [] := by kernel_rfl
@[simp] theorem E96 : G.E 96 = true := by kernel_rfl
@[simp] theorem ext96 : G.ext 96 = none := by kernel_rfl
@[simp] theorem dfr96 : G.dfr 96 = false := by kernel_rfl
@[simp] theorem own96 : G.retOwn 96 = false := by kernel_rfl
@[simp] theorem live96_0 : G.live 96 0 = some [0] := by kernel_rfl
@[simp] theorem live96_1 : G.live 96 1 = some [2] := by kernel_rfl
@[simp] theorem E97 : G.E 97 = true := by kernel_rfl
@[simp] theorem ext97 : G.ext 97 = none := by kernel_rfl
@[simp] theorem dfr97 : G.dfr 97 = false := by kernel_rfl
@[simp] theorem own97 : G.retOwn 97 = false := by kernel_rfl
@[simp] theorem live97_0 : G.live 97 0 = some [0, 6] := by kernel_rfl
@[simp] theorem live97_1 : G.live 97 1 = some [] := by kernel_rfl
@[simp] theorem live97_2 : G.live 97 2 = some [19] := by kernel_rfl
@[simp] theorem E98 : G.E 98 = true := by kernel_rfl
@[simp] theorem ext98 : G.ext 98 = none := by kernel_rfl
@[simp] theorem dfr98 : G.dfr 98 = false := by kernel_rfl
@[simp] theorem own98 : G.retOwn 98 = false := by kernel_rfl
@[simp] theorem live98_0 : G.live 98 0 = some [0, 1] := by kernel_rfl
@[simp] theorem live98_1 : G.live 98 1 = some [0, 1] := by kernel_rfl
@[simp] theorem live98_2 : G.live 98 2 = some [1] := by kernel_rfl
@[simp] theorem live98_3 : G.live 98 3 = some [4, 5] := by kernel_rfl
@[simp] theorem E99 : G.E 99 = true := by kernel_rfl
@[simp] theorem ext99 : G.ext 99 = none := by kernel_rfl
@[simp] theorem dfr99 : G.dfr 99 = false := by kernel_rfl
@[simp] theorem own99 : G.retOwn 99 = false := by kernel_rfl
@[simp] theorem live99_0 : G.live 99 0 = some [0, 1, 3] := by kernel_rfl
@[simp] theorem live99_1 : G.live 99 1 = some [0, 1, 9] := by kernel_rfl
@[simp] theorem live99_2 : G.live 99 2 = some [] := by kernel_rfl
@[simp] theorem E100 : G.E 100 = true := by kernel_rfl
@[simp] theorem ext100 : G.ext 100 = none := by kernel_rfl
@[simp] theorem dfr100 : G.dfr 100 = false := by kernel_rfl
@[simp] theorem own100 : G.retOwn 100 = false := by kernel_rfl
@[simp] theorem keep100_3 : G.keep 100 3 = some ⟨[(0, none), (3, none), (6, none), (7, none)], []⟩ := by kernel_rfl
@[simp] theorem live100_0 : G.live 100 0 = some [0] := by kernel_rfl
@[simp] theorem live100_1 : G.live 100 1 = some [0, 3] := by kernel_rfl
@[simp] theorem live100_2 : G.live 100 2 = some [0, 3, 6, 7] := by kernel_rfl
@[simp] theorem live100_3 : G.live 100 3 = some [0, 3, 6, 7, 8] := by kernel_rfl
@[simp] theorem live100_4 : G.live 100 4 = some [0, 3, 4, 6, 7] := by kernel_rfl
@[simp] theorem live100_5 : G.live 100 5 = some [0, 3, 6, 7] := by kernel_rfl
@[simp] theorem live100_6 : G.live 100 6 = some [0, 3, 6, 7] := by kernel_rfl
@[simp] theorem live100_7 : G.live 100 7 = some [2] := by kernel_rfl
@[simp] theorem E101 : G.E 101 = true := by kernel_rfl
@[simp] theorem ext101 : G.ext 101 = none := by kernel_rfl
@[simp] theorem dfr101 : G.dfr 101 = false := by kernel_rfl
@[simp] theorem own101 : G.retOwn 101 = false := by kernel_rfl
@[simp] theorem live101_0 : G.live 101 0 = some [0] := by kernel_rfl
@[simp] theorem live101_1 : G.live 101 1 = some [0] := by kernel_rfl
@[simp] theorem live101_2 : G.live 101 2 = some [0, 14] := by kernel_rfl
@[simp] theorem live101_3 : G.live 101 3 = some [2] := by kernel_rfl
@[simp] theorem live101_4 : G.live 101 4 = some [] := by kernel_rfl
@[simp] theorem live101_5 : G.live 101 5 = some [2] := by kernel_rfl
@[simp] theorem E102 : G.E 102 = true := by kernel_rfl
@[simp] theorem ext102 : G.ext 102 = none := by kernel_rfl
@[simp] theorem dfr102 : G.dfr 102 = false := by kernel_rfl
@[simp] theorem own102 : G.retOwn 102 = false := by kernel_rfl
@[simp] theorem keep102_3 : G.keep 102 3 = some ⟨[(0, none), (3, none), (4, none)], []⟩ := by kernel_rfl
@[simp] theorem live102_0 : G.live 102 0 = some [0] := by kernel_rfl
@[simp] theorem live102_1 : G.live 102 1 = some [0, 3] := by kernel_rfl
@[simp] theorem live102_2 : G.live 102 2 = some [0, 3, 4] := by kernel_rfl
@[simp] theorem live102_3 : G.live 102 3 = some [0, 3, 4, 8] := by kernel_rfl
@[simp] theorem live102_5 : G.live 102 5 = some [0, 3, 4] := by kernel_rfl
@[simp] theorem live102_4 : G.live 102 4 = some [0, 3, 4] := by kernel_rfl
@[simp] theorem live102_6 : G.live 102 6 = some [2] := by kernel_rfl
@[simp] theorem E103 : G.E 103 = true := by kernel_rfl
@[simp] theorem ext103 : G.ext 103 = none := by kernel_rfl
@[simp] theorem dfr103 : G.dfr 103 = false := by kernel_rfl
@[simp] theorem own103 : G.retOwn 103 = false := by kernel_rfl
@[simp] theorem live103_0 : G.live 103 0 = some [1] := by kernel_rfl
@[simp] theorem live103_1 : G.live 103 1 = some [2] := by kernel_rfl
@[simp] theorem E104 : G.E 104 = true := by kernel_rfl
@[simp] theorem ext104 : G.ext 104 = none := by kernel_rfl
@[simp] theorem dfr104 : G.dfr 104 = false := by kernel_rfl
@[simp] theorem own104 : G.retOwn 104 = false := by kernel_rfl
@[simp] theorem live104_0 : G.live 104 0 = some [0, 1] := by kernel_rfl
@[simp] theorem live104_1 : G.live 104 1 = some [4] := by kernel_rfl
@[simp] theorem E105 : G.E 105 = true := by kernel_rfl
@[simp] theorem ext105 : G.ext 105 = none := by kernel_rfl
@[simp] theorem dfr105 : G.dfr 105 = false := by kernel_rfl
@[simp] theorem own105 : G.retOwn 105 = false := by kernel_rfl
@[simp] theorem live105_0 : G.live 105 0 = some [0] := by kernel_rfl
@[simp] theorem live105_1 : G.live 105 1 = some [2] := by kernel_rfl
@[simp] theorem E106 : G.E 106 = true := by kernel_rfl
@[simp] theorem ext106 : G.ext 106 = none := by kernel_rfl
@[simp] theorem dfr106 : G.dfr 106 = false := by kernel_rfl
@[simp] theorem own106 : G.retOwn 106 = false := by kernel_rfl
@[simp] theorem keep106_3 : G.keep 106 3 = some ⟨[(3, none), (6, none), (7, none), (8, none)], []⟩ := by kernel_rfl
@[simp] theorem live106_0 : G.live 106 0 = some [0] := by kernel_rfl
@[simp] theorem live106_1 : G.live 106 1 = some [0, 3] := by kernel_rfl
@[simp] theorem live106_2 : G.live 106 2 = some [3, 6, 7, 8] := by kernel_rfl
@[simp] theorem live106_3 : G.live 106 3 = some [3, 6, 7, 8, 9] := by kernel_rfl
@[simp] theorem live106_4 : G.live 106 4 = some [3, 5, 6, 7, 8] := by kernel_rfl
@[simp] theorem live106_5 : G.live 106 5 = some [3, 5, 6, 7, 8, 14] := by kernel_rfl
@[simp] theorem live106_6 : G.live 106 6 = some [2] := by kernel_rfl
@[simp] theorem live106_7 : G.live 106 7 = some [3, 6, 7, 8] := by kernel_rfl
@[simp] theorem live106_8 : G.live 106 8 = some [2] := by kernel_rfl
@[simp] theorem E107 : G.E 107 = true := by kernel_rfl
@[simp] theorem ext107 : G.ext 107 = none := by kernel_rfl
@[simp] theorem dfr107 : G.dfr 107 = false := by kernel_rfl
@[simp] theorem own107 : G.retOwn 107 = false := by kernel_rfl
@[simp] theorem live107_0 : G.live 107 0 = some [0, 1] := by kernel_rfl
@[simp] theorem live107_1 : G.live 107 1 = some [0, 1, 5] := by kernel_rfl
@[simp] theorem live107_2 : G.live 107 2 = some [0, 1, 5, 6] := by kernel_rfl
@[simp] theorem live107_3 : G.live 107 3 = some [0, 1, 6, 11] := by kernel_rfl
@[simp] theorem live107_4 : G.live 107 4 = some [12] := by kernel_rfl
@[simp] theorem live107_5 : G.live 107 5 = some [4] := by kernel_rfl
@[simp] theorem live107_6 : G.live 107 6 = some [4] := by kernel_rfl
@[simp] theorem live107_7 : G.live 107 7 = some [0, 1, 13] := by kernel_rfl
@[simp] theorem live107_8 : G.live 107 8 = some [4] := by kernel_rfl
@[simp] theorem live107_9 : G.live 107 9 = some [0, 1, 16] := by kernel_rfl
@[simp] theorem live107_10 : G.live 107 10 = some [4] := by kernel_rfl
@[simp] theorem live107_11 : G.live 107 11 = some [19] := by kernel_rfl
@[simp] theorem live107_12 : G.live 107 12 = some [4] := by kernel_rfl
@[simp] theorem live107_13 : G.live 107 13 = some [4] := by kernel_rfl
@[simp] theorem E108 : G.E 108 = true := by kernel_rfl
@[simp] theorem ext108 : G.ext 108 = none := by kernel_rfl
@[simp] theorem dfr108 : G.dfr 108 = false := by kernel_rfl
@[simp] theorem own108 : G.retOwn 108 = false := by kernel_rfl
@[simp] theorem live108_0 : G.live 108 0 = some [0, 1] := by kernel_rfl
@[simp] theorem live108_1 : G.live 108 1 = some [0, 1, 5] := by kernel_rfl
@[simp] theorem live108_2 : G.live 108 2 = some [0, 1, 5, 6] := by kernel_rfl
@[simp] theorem live108_3 : G.live 108 3 = some [0, 1, 6, 11] := by kernel_rfl
@[simp] theorem live108_4 : G.live 108 4 = some [12] := by kernel_rfl
@[simp] theorem live108_5 : G.live 108 5 = some [4] := by kernel_rfl
@[simp] theorem live108_6 : G.live 108 6 = some [4] := by kernel_rfl
@[simp] theorem live108_7 : G.live 108 7 = some [0, 1, 13] := by kernel_rfl
@[simp] theorem live108_8 : G.live 108 8 = some [4] := by kernel_rfl
@[simp] theorem live108_9 : G.live 108 9 = some [0, 1, 16] := by kernel_rfl
@[simp] theorem live108_10 : G.live 108 10 = some [4] := by kernel_rfl
@[simp] theorem live108_11 : G.live 108 11 = some [19] := by kernel_rfl
@[simp] theorem live108_12 : G.live 108 12 = some [4] := by kernel_rfl
@[simp] theorem live108_13 : G.live 108 13 = some [4] := by kernel_rfl
@[simp] theorem E109 : G.E 109 = true := by kernel_rfl
@[simp] theorem ext109 : G.ext 109 = none := by kernel_rfl
@[simp] theorem dfr109 : G.dfr 109 = false := by kernel_rfl
@[simp] theorem own109 : G.retOwn 109 = false := by kernel_rfl
@[simp] theorem live109_0 : G.live 109 0 = some [0, 1] := by kernel_rfl
@[simp] theorem live109_1 : G.live 109 1 = some [0, 1, 5] := by kernel_rfl
@[simp] theorem live109_2 : G.live 109 2 = some [0, 1, 5, 6] := by kernel_rfl
@[simp] theorem live109_3 : G.live 109 3 = some [0, 1, 6, 11] := by kernel_rfl
@[simp] theorem live109_4 : G.live 109 4 = some [12] := by kernel_rfl
@[simp] theorem live109_5 : G.live 109 5 = some [4] := by kernel_rfl
@[simp] theorem live109_6 : G.live 109 6 = some [4] := by kernel_rfl
@[simp] theorem live109_7 : G.live 109 7 = some [0, 1, 13] := by kernel_rfl
@[simp] theorem live109_8 : G.live 109 8 = some [4] := by kernel_rfl
@[simp] theorem live109_9 : G.live 109 9 = some [0, 1, 16] := by kernel_rfl
@[simp] theorem live109_10 : G.live 109 10 = some [4] := by kernel_rfl
@[simp] theorem live109_11 : G.live 109 11 = some [19] := by kernel_rfl
@[simp] theorem live109_12 : G.live 109 12 = some [4] := by kernel_rfl
@[simp] theorem live109_13 : G.live 109 13 = some [4] := by kernel_rfl
@[simp] theorem E110 : G.E 110 = true := by kernel_rfl
@[simp] theorem ext110 : G.ext 110 = none := by kernel_rfl
@[simp] theorem dfr110 : G.dfr 110 = false := by kernel_rfl
@[simp] theorem own110 : G.retOwn 110 = false := by kernel_rfl
@[simp] theorem keep110_2 : G.keep 110 2 = some ⟨[(0, none), (1, none), (2, none), (11, none), (12, none), (13, none)], []⟩ := by kernel_rfl
@[simp] theorem live110_0 : G.live 110 0 = some [0, 1, 2] := by kernel_rfl
@[simp] theorem live110_1 : G.live 110 1 = some [0, 1, 2, 11, 12, 13] := by kernel_rfl
@[simp] theorem live110_2 : G.live 110 2 = some [0, 1, 2, 11, 12, 13, 14] := by kernel_rfl
@[simp] theorem live110_3 : G.live 110 3 = some [0, 1, 2, 7, 8, 11, 12, 13] := by kernel_rfl
@[simp] theorem live110_4 : G.live 110 4 = some [0, 1, 2, 7, 8, 11, 12, 13, 21] := by kernel_rfl
@[simp] theorem live110_5 : G.live 110 5 = some [6] := by kernel_rfl
@[simp] theorem live110_6 : G.live 110 6 = some [0, 1, 2, 8, 9, 11, 12, 13] := by kernel_rfl
@[simp] theorem live110_7 : G.live 110 7 = some [0, 1, 2, 10, 11, 12, 13] := by kernel_rfl
@[simp] theorem live110_8 : G.live 110 8 = some [0, 1, 2, 10, 11, 12, 13, 31] := by kernel_rfl
@[simp] theorem live110_9 : G.live 110 9 = some [6] := by kernel_rfl
@[simp] theorem live110_10 : G.live 110 10 = some [0, 1, 2, 11, 12, 13] := by kernel_rfl
@[simp] theorem live110_11 : G.live 110 11 = some [38] := by kernel_rfl
@[simp] theorem live110_12 : G.live 110 12 = some [6] := by kernel_rfl
@[simp] theorem live110_13 : G.live 110 13 = some [6] := by kernel_rfl
@[simp] theorem E111 : G.E 111 = true := by kernel_rfl
@[simp] theorem ext111 : G.ext 111 = none := by kernel_rfl
@[simp] theorem dfr111 : G.dfr 111 = false := by kernel_rfl
@[simp] theorem own111 : G.retOwn 111 = false := by kernel_rfl
@[simp] theorem keep111_4 : G.keep 111 4 = some ⟨[(0, none), (3, some 1), (4, none), (10, none), (11, none), (12, none)], []⟩ := by kernel_rfl
@[simp] theorem live111_0 : G.live 111 0 = some [0] := by kernel_rfl
@[simp] theorem live111_1 : G.live 111 1 = some [0, 3] := by kernel_rfl
@[simp] theorem live111_2 : G.live 111 2 = some [0, 3, 4] := by kernel_rfl
@[simp] theorem live111_3 : G.live 111 3 = some [0, 3, 4, 10, 11, 12] := by kernel_rfl
@[simp] theorem live111_4 : G.live 111 4 = some [0, 3, 4, 10, 11, 12, 13] := by kernel_rfl
@[simp] theorem live111_5 : G.live 111 5 = some [0, 3, 4, 5, 6, 10, 11, 12] := by kernel_rfl
@[simp] theorem live111_6 : G.live 111 6 = some [0, 3, 4, 5, 6, 10, 11, 12, 20] := by kernel_rfl
@[simp] theorem live111_7 : G.live 111 7 = some [0, 3, 4, 6, 10, 11, 12] := by kernel_rfl
@[simp] theorem live111_8 : G.live 111 8 = some [0, 3, 4, 10, 11, 12] := by kernel_rfl
@[simp] theorem live111_9 : G.live 111 9 = some [0, 3, 4, 10, 11, 12] := by kernel_rfl
@[simp] theorem live111_10 : G.live 111 10 = some [2] := by kernel_rfl
@[simp] theorem E112 : G.E 112 = true := by kernel_rfl
@[simp] theorem ext112 : G.ext 112 = none := by kernel_rfl
@[simp] theorem dfr112 : G.dfr 112 = false := by kernel_rfl
@[simp] theorem own112 : G.retOwn 112 = false := by kernel_rfl
@[simp] theorem live112_0 : G.live 112 0 = some [1, 2] := by kernel_rfl
@[simp] theorem live112_1 : G.live 112 1 = some [2] := by kernel_rfl
@[simp] theorem E113 : G.E 113 = true := by kernel_rfl
@[simp] theorem ext113 : G.ext 113 = none := by kernel_rfl
@[simp] theorem dfr113 : G.dfr 113 = false := by kernel_rfl
@[simp] theorem own113 : G.retOwn 113 = false := by kernel_rfl
@[simp] theorem keep113_1 : G.keep 113 1 = some ⟨[(0, some 1), (1, none), (2, none), (3, none), (8, none)], []⟩ := by kernel_rfl
@[simp] theorem keep113_4 : G.keep 113 4 = some ⟨[(0, some 1), (1, none), (2, none), (3, none), (8, none), (9, none)], []⟩ := by kernel_rfl
@[simp] theorem live113_0 : G.live 113 0 = some [0, 1, 2, 3, 8] := by kernel_rfl
@[simp] theorem live113_1 : G.live 113 1 = some [0, 1, 2, 3, 8, 14] := by kernel_rfl
@[simp] theorem live113_3 : G.live 113 3 = some [0, 1, 2, 3, 8, 9] := by kernel_rfl
@[simp] theorem live113_4 : G.live 113 4 = some [0, 1, 2, 3, 8, 9, 34] := by kernel_rfl
@[simp] theorem live113_6 : G.live 113 6 = some [0, 1, 2, 3, 8, 9] := by kernel_rfl
@[simp] theorem live113_5 : G.live 113 5 = some [0, 1, 2, 3, 8, 9] := by kernel_rfl
@[simp] theorem live113_2 : G.live 113 2 = some [0, 1, 2, 3, 8] := by kernel_rfl
@[simp] theorem plan113_4 : G.plan 113 4 = some [.n 0, .n 1, .n 2, .n 3, .n 4, .n 5, .n 6, .n 7, .n 8, .n 9, .n 10, .n 11, .n 12, .n 13, .e 14 [10], .n 15, .n 16] := by kernel_rfl
@[simp] theorem plan113_6 : G.plan 113 6 = some [.n 0, .n 1, .n 2, .n 3, .n 4, .n 5, .n 6, .n 7, .n 8, .n 9, .n 10, .n 11, .n 12, .n 13, .n 14, .e 15 [4, 3, 2], .n 16, .e 17 []] := by kernel_rfl
@[simp] theorem E114 : G.E 114 = true := by kernel_rfl
@[simp] theorem ext114 : G.ext 114 = none := by kernel_rfl
@[simp] theorem dfr114 : G.dfr 114 = false := by kernel_rfl
@[simp] theorem own114 : G.retOwn 114 = false := by kernel_rfl
@[simp] theorem keep114_4 : G.keep 114 4 = some ⟨[(0, some 1), (3, none), (8, none), (9, none), (10, none), (11, none)], []⟩ := by kernel_rfl
@[simp] theorem keep114_8 : G.keep 114 8 = some ⟨[(0, some 1), (3, none), (8, none), (9, none), (12, none)], []⟩ := by kernel_rfl
@[simp] theorem live114_0 : G.live 114 0 = some [0, 1, 2, 3, 8] := by kernel_rfl
@[simp] theorem live114_1 : G.live 114 1 = some [0, 1, 2, 3, 8, 9] := by kernel_rfl
@[simp] theorem live114_2 : G.live 114 2 = some [0, 3, 8, 9, 10] := by kernel_rfl
@[simp] theorem live114_3 : G.live 114 3 = some [0, 3, 8, 9, 10, 11] := by kernel_rfl
@[simp] theorem live114_4 : G.live 114 4 = some [0, 3, 8, 9, 10, 11, 21] := by kernel_rfl
@[simp] theorem live114_6 : G.live 114 6 = some [0, 3, 8, 9, 10, 11] := by kernel_rfl
@[simp] theorem live114_5 : G.live 114 5 = some [0, 3, 8, 9, 10, 11] := by kernel_rfl
@[simp] theorem live114_7 : G.live 114 7 = some [0, 3, 8, 9, 12] := by kernel_rfl
@[simp] theorem live114_8 : G.live 114 8 = some [0, 3, 8, 9, 12, 33] := by kernel_rfl
@[simp] theorem live114_10 : G.live 114 10 = some [0, 3, 8, 9, 12] := by kernel_rfl
@[simp] theorem live114_11 : G.live 114 11 = some [0, 3, 8, 9, 12] := by kernel_rfl
@[simp] theorem live114_9 : G.live 114 9 = some [0, 3, 8, 9, 12] := by kernel_rfl
@[simp] theorem plan114_10 : G.plan 114 10 = some [.n 0, .n 1, .n 2, .n 3, .n 4, .n 5, .n 6, .n 7, .n 8, .n 9, .n 10, .n 11, .n 12, .n 13, .n 14, .n 15, .n 16, .e 17 [5, 4, 3, 2], .n 18, .e 19 []] := by kernel_rfl
@[simp] theorem E115 : G.E 115 = true := by kernel_rfl
@[simp] theorem ext115 : G.ext 115 = none := by kernel_rfl
@[simp] theorem dfr115 : G.dfr 115 = false := by kernel_rfl
@[simp] theorem own115 : G.retOwn 115 = false := by kernel_rfl
@[simp] theorem keep115_5 : G.keep 115 5 = some ⟨[(0, some 1), (1, none), (8, none), (9, none), (10, none), (11, none)], [(1009, [])]⟩ := by kernel_rfl
@[simp] theorem live115_0 : G.live 115 0 = some [0, 1, 8] := by kernel_rfl
@[simp] theorem live115_1 : G.live 115 1 = some [0, 1, 8, 17] := by kernel_rfl
@[simp] theorem live115_2 : G.live 115 2 = some [0, 1, 8, 9] := by kernel_rfl
@[simp] theorem live115_3 : G.live 115 3 = some [0, 1, 8, 9, 10] := by kernel_rfl
@[simp] theorem live115_4 : G.live 115 4 = some [0, 1, 8, 9, 10, 11] := by kernel_rfl
@[simp] theorem live115_5 : G.live 115 5 = some [0, 1, 8, 9, 10, 11, 35] := by kernel_rfl
@[simp] theorem live115_7 : G.live 115 7 = some [0, 1, 8, 9, 10, 11, 12] := by kernel_rfl
@[simp] theorem live115_8 : G.live 115 8 = some [0, 1, 8, 9, 10, 11, 12, 45] := by kernel_rfl
@[simp] theorem live115_9 : G.live 115 9 = some [0, 1, 8, 9, 10, 11, 12] := by kernel_rfl
@[simp] theorem live115_10 : G.live 115 10 = some [0, 1, 8, 9, 10, 11] := by kernel_rfl
@[simp] theorem live115_6 : G.live 115 6 = some [0, 1, 8, 9, 10, 11] := by kernel_rfl
@[simp] theorem plan115_10 : G.plan 115 10 = some [.n 0, .n 1, .n 2, .n 3, .n 4, .n 5, .n 6, .n 7, .n 8, .n 9, .n 10, .n 11, .n 12, .n 13, .n 14, .n 15, .n 16, .e 17 [5, 4, 3, 2], .n 18, .e 19 []] := by kernel_rfl
@[simp] theorem E116 : G.E 116 = true := by kernel_rfl
@[simp] theorem ext116 : G.ext 116 = none := by kernel_rfl
@[simp] theorem dfr116 : G.dfr 116 = false := by kernel_rfl
@[simp] theorem own116 : G.retOwn 116 = false := by kernel_rfl
@[simp] theorem live116_0 : G.live 116 0 = some [0, 1, 2, 3] := by kernel_rfl
@[simp] theorem live116_1 : G.live 116 1 = some [0, 1, 3, 10] := by kernel_rfl
@[simp] theorem live116_2 : G.live 116 2 = some [0, 1, 3, 10, 11] := by kernel_rfl
@[simp] theorem live116_3 : G.live 116 3 = some [0, 1, 3, 10, 11, 12] := by kernel_rfl
@[simp] theorem live116_4 : G.live 116 4 = some [0, 1, 3, 10, 11, 12, 13] := by kernel_rfl
@[simp] theorem live116_5 : G.live 116 5 = some [0, 3, 10, 11, 12, 13, 14] := by kernel_rfl
@[simp] theorem live116_6 : G.live 116 6 = some [0, 3, 10, 11, 12, 13, 14, 34] := by kernel_rfl
@[simp] theorem live116_7 : G.live 116 7 = some [0, 3, 11, 12, 13, 14, 36] := by kernel_rfl
@[simp] theorem live116_8 : G.live 116 8 = some [0, 3, 11, 12, 13, 14] := by kernel_rfl
@[simp] theorem live116_9 : G.live 116 9 = some [0, 3, 11, 12, 13, 14] := by kernel_rfl
@[simp] theorem live116_10 : G.live 116 10 = some [0, 3, 11, 12, 13, 14] := by kernel_rfl
@[simp] theorem live116_11 : G.live 116 11 = some [11, 13] := by kernel_rfl
@[simp] theorem live116_12 : G.live 116 12 = some [13, 55] := by kernel_rfl
@[simp] theorem live116_14 : G.live 116 14 = some [13, 55, 57] := by kernel_rfl
@[simp] theorem live116_15 : G.live 116 15 = some [8, 9] := by kernel_rfl
@[simp] theorem live116_16 : G.live 116 16 = some [13, 60] := by kernel_rfl
@[simp] theorem live116_17 : G.live 116 17 = some [8, 9] := by kernel_rfl
@[simp] theorem live116_13 : G.live 116 13 = some [8, 9] := by kernel_rfl
@[simp] theorem E117 : G.E 117 = true := by kernel_rfl
@[simp] theorem ext117 : G.ext 117 = none := by kernel_rfl
@[simp] theorem dfr117 : G.dfr 117 = false := by kernel_rfl
@[simp] theorem own117 : G.retOwn 117 = false := by kernel_rfl
@[simp] theorem keep117_2 : G.keep 117 2 = some ⟨[(0, some 1), (8, none), (9, none)], []⟩ := by kernel_rfl
@[simp] theorem live117_0 : G.live 117 0 = some [0, 2, 8] := by kernel_rfl
@[simp] theorem live117_1 : G.live 117 1 = some [0, 8, 9] := by kernel_rfl
@[simp] theorem live117_2 : G.live 117 2 = some [0, 8, 9, 15] := by kernel_rfl
@[simp] theorem live117_3 : G.live 117 3 = some [0, 8, 9] := by kernel_rfl
@[simp] theorem live117_4 : G.live 117 4 = some [0, 8, 9] := by kernel_rfl
@[simp] theorem live117_5 : G.live 117 5 = some [0, 8, 9] := by kernel_rfl
@[simp] theorem plan117_3 : G.plan 117 3 = some [.n 0, .n 1, .n 2, .n 3, .n 4, .n 5, .n 6, .n 7, .n 8, .n 9, .n 10, .n 11, .n 12, .e 13 [3, 2], .n 14, .e 15 []] := by kernel_rfl
@[simp] theorem E118 : G.E 118 = true := by kernel_rfl
@[simp] theorem ext118 : G.ext 118 = none := by kernel_rfl
@[simp] theorem dfr118 : G.dfr 118 = false := by kernel_rfl
@[simp] theorem own118 : G.retOwn 118 = false := by kernel_rfl
@[simp] theorem keep118_3 : G.keep 118 3 = some ⟨[(0, some 1), (1, none), (2, none), (3, none), (9, none), (10, none)], []⟩ := by kernel_rfl
@[simp] theorem keep118_5 : G.keep 118 5 = some ⟨[(0, none), (1, none), (2, none), (3, none), (9, none), (10, none)], []⟩ := by kernel_rfl
@[simp] theorem keep118_14 : G.keep 118 14 = some ⟨[(0, some 1), (1, none), (2, none), (3, none), (9, none), (10, none), (11, none)], []⟩ := by kernel_rfl
@[simp] theorem keep118_20 : G.keep 118 20 = some ⟨[(0, some 1), (1, none), (2, none), (3, none), (9, none), (10, none), (12, none)], []⟩ := by kernel_rfl
@[simp] theorem live118_0 : G.live 118 0 = some [0, 1, 2, 3] := by kernel_rfl
@[simp] theorem live118_1 : G.live 118 1 = some [0, 1, 2, 3, 9] := by kernel_rfl
@[simp] theorem live118_2 : G.live 118 2 = some [0, 1, 2, 3, 9, 10] := by kernel_rfl
@[simp] theorem live118_3 : G.live 118 3 = some [0, 1, 2, 3, 9, 10, 16] := by kernel_rfl
@[simp] theorem live118_5 : G.live 118 5 = some [0, 1, 2, 3, 9, 10, 36] := by kernel_rfl
@[simp] theorem live118_6 : G.live 118 6 = some [0, 1, 2, 3, 9, 10] := by kernel_rfl
@[simp] theorem live118_7 : G.live 118 7 = some [0, 1, 2, 3, 9, 10, 41] := by kernel_rfl
@[simp] theorem live118_8 : G.live 118 8 = some [8] := by kernel_rfl
@[simp] theorem live118_9 : G.live 118 9 = some [0, 1, 2, 3, 9, 10, 45] := by kernel_rfl
@[simp] theorem live118_10 : G.live 118 10 = some [8] := by kernel_rfl
@[simp] theorem live118_11 : G.live 118 11 = some [0, 1, 2, 3, 9, 10] := by kernel_rfl
@[simp] theorem live118_12 : G.live 118 12 = some [0, 1, 2, 3, 9, 10, 65] := by kernel_rfl
@[simp] theorem live118_13 : G.live 118 13 = some [0, 1, 2, 3, 9, 10, 11] := by kernel_rfl
@[simp] theorem live118_14 : G.live 118 14 = some [0, 1, 2, 3, 9, 10, 11, 69] := by kernel_rfl
@[simp] theorem live118_16 : G.live 118 16 = some [0, 1, 2, 3, 9, 10, 11, 84] := by kernel_rfl
@[simp] theorem live118_17 : G.live 118 17 = some [0, 1, 2, 3, 9, 10, 11] := by kernel_rfl
@[simp] theorem live118_15 : G.live 118 15 = some [0, 1, 2, 3, 9, 10, 11] := by kernel_rfl
@[simp] theorem live118_18 : G.live 118 18 = some [0, 1, 2, 3, 9, 10, 104] := by kernel_rfl
@[simp] theorem live118_19 : G.live 118 19 = some [0, 1, 2, 3, 9, 10, 12] := by kernel_rfl
@[simp] theorem live118_20 : G.live 118 20 = some [0, 1, 2, 3, 9, 10, 12, 109] := by kernel_rfl
@[simp] theorem live118_22 : G.live 118 22 = some [0, 1, 2, 3, 9, 10, 12, 124] := by kernel_rfl
@[simp] theorem live118_23 : G.live 118 23 = some [0, 1, 2, 3, 9, 10, 12] := by kernel_rfl
@[simp] theorem live118_21 : G.live 118 21 = some [0, 1, 2, 3, 9, 10, 12] := by kernel_rfl
@[simp] theorem live118_4 : G.live 118 4 = some [0, 1, 2, 3, 9, 10] := by kernel_rfl
@[simp] theorem live118_24 : G.live 118 24 = some [8] := by kernel_rfl
@[simp] theorem plan118_5 : G.plan 118 5 = some [.n 0, .n 1, .n 2, .n 3, .n 4, .n 5, .n 6, .n 7, .n 8, .n 9, .n 10, .n 11, .n 12, .n 13, .e 14 [10], .n 15, .n 16, .n 17] := by kernel_rfl
@[simp] theorem plan118_11 : G.plan 118 11 = some [.n 0, .n 1, .n 2, .n 3, .n 4, .n 5, .n 6, .n 7, .n 8, .n 9, .n 10, .n 11, .n 12, .n 13, .n 14, .e 15 [4, 3, 2], .n 16, .e 17 []] := by kernel_rfl
@[simp] theorem plan118_16 : G.plan 118 16 = some [.n 0, .n 1, .n 2, .n 3, .n 4, .n 5, .n 6, .n 7, .n 8, .n 9, .e 10 [6], .n 11, .n 12] := by kernel_rfl
@[simp] theorem plan118_17 : G.plan 118 17 = some [.n 0, .n 1, .n 2, .n 3, .n 4, .n 5, .n 6, .n 7, .n 8, .n 9, .n 10, .n 11, .n 12, .n 13, .n 14, .e 15 [4, 3, 2], .n 16, .e 17 []] := by kernel_rfl
@[simp] theorem plan118_22 : G.plan 118 22 = some [.n 0, .n 1, .n 2, .n 3, .n 4, .n 5, .n 6, .n 7, .n 8, .n 9, .e 10 [6], .n 11, .n 12] := by kernel_rfl
@[simp] theorem plan118_23 : G.plan 118 23 = some [.n 0, .n 1, .n 2, .n 3, .n 4, .n 5, .n 6, .n 7, .n 8, .n 9, .n 10, .n 11, .n 12, .n 13, .n 14, .e 15 [4, 3, 2], .n 16, .e 17 []] := by kernel_rfl
@[simp] theorem E119 : G.E 119 = true := by kernel_rfl
@[simp] theorem ext119 : G.ext 119 = none := by kernel_rfl
@[simp] theorem dfr119 : G.dfr 119 = false := by kernel_rfl
@[simp] theorem own119 : G.retOwn 119 = false := by kernel_rfl
@[simp] theorem keep119_3 : G.keep 119 3 = some ⟨[(0, some 1), (1, none), (4, none), (11, none), (12, none)], []⟩ := by kernel_rfl
@[simp] theorem keep119_5 : G.keep 119 5 = some ⟨[(0, none), (1, none), (4, none), (11, none), (12, none)], []⟩ := by kernel_rfl
@[simp] theorem live119_0 : G.live 119 0 = some [0, 1, 2, 3, 4] := by kernel_rfl
@[simp] theorem live119_1 : G.live 119 1 = some [0, 1, 2, 4] := by kernel_rfl
@[simp] theorem live119_2 : G.live 119 2 = some [0, 1, 4, 11, 12] := by kernel_rfl
@[simp] theorem live119_3 : G.live 119 3 = some [0, 1, 4, 11, 12, 47] := by kernel_rfl
@[simp] theorem live119_4 : G.live 119 4 = some [0, 1, 4, 11, 12] := by kernel_rfl
@[simp] theorem live119_5 : G.live 119 5 = some [0, 1, 4, 11, 12, 65] := by kernel_rfl
@[simp] theorem live119_6 : G.live 119 6 = some [0, 1, 4, 11, 12] := by kernel_rfl
@[simp] theorem live119_7 : G.live 119 7 = some [0, 1, 4, 11, 12, 70] := by kernel_rfl
@[simp] theorem live119_8 : G.live 119 8 = some [0, 1, 4, 11, 12] := by kernel_rfl
@[simp] theorem live119_9 : G.live 119 9 = some [0, 1, 4, 11, 12] := by kernel_rfl
@[simp] theorem live119_10 : G.live 119 10 = some [0, 1, 4, 11, 12] := by kernel_rfl
@[simp] theorem live119_11 : G.live 119 11 = some [10] := by kernel_rfl
@[simp] theorem plan119_1 : G.plan 119 1 = some [.n 0, .n 1, .n 2, .n 3, .n 4, .n 5, .n 6, .n 7, .n 8, .n 9, .n 10, .n 11, .n 12, .e 13 [3, 2], .n 14, .e 15 []] := by kernel_rfl
@[simp] theorem plan119_3 : G.plan 119 3 = some [.n 0, .n 1, .n 2, .n 3, .n 4, .n 5, .n 6, .n 7, .n 8, .n 9, .n 10, .n 11, .n 12, .e 13 [], .n 14, .n 15, .n 16] := by kernel_rfl
@[simp] theorem plan119_5 : G.plan 119 5 = some [.n 0, .n 1, .n 2, .n 3, .n 4, .n 5, .n 6, .n 7, .n 8, .n 9, .n 10, .n 11, .n 12, .e 13 [], .n 14, .n 15] := by kernel_rfl
@[simp] theorem plan119_8 : G.plan 119 8 = some [.n 0, .n 1, .n 2, .n 3, .n 4, .n 5, .n 6, .n 7, .n 8, .n 9, .n 10, .n 11, .n 12, .e 13 [3, 2], .n 14, .e 15 []] := by kernel_rfl
@[simp] theorem E120 : G.E 120 = true := by kernel_rfl
@[simp] theorem ext120 : G.ext 120 = none := by kernel_rfl
@[simp] theorem dfr120 : G.dfr 120 = false := by kernel_rfl
@[simp] theorem own120 : G.retOwn 120 = false := by kernel_rfl
@[simp] theorem keep120_3 : G.keep 120 3 = some ⟨[(0, none), (1, none), (4, none), (12, none), (13, none)], []⟩ := by kernel_rfl
@[simp] theorem keep120_5 : G.keep 120 5 = some ⟨[(0, none), (1, none), (4, none), (12, none), (13, none)], []⟩ := by kernel_rfl
@[simp] theorem keep120_13 : G.keep 120 13 = some ⟨[(0, some 1), (1, none), (4, none), (12, none), (13, none)], []⟩ := by kernel_rfl
@[simp] theorem keep120_15 : G.keep 120 15 = some ⟨[(0, none), (1, none), (4, none), (12, none), (13, none)], []⟩ := by kernel_rfl
@[simp] theorem live120_0 : G.live 120 0 = some [0, 1, 2, 3, 4] := by kernel_rfl
@[simp] theorem live120_1 : G.live 120 1 = some [0, 1, 2, 4] := by kernel_rfl
@[simp] theorem live120_2 : G.live 120 2 = some [0, 1, 4, 12, 13] := by kernel_rfl
@[simp] theorem live120_3 : G.live 120 3 = some [0, 1, 4, 12, 13, 47] := by kernel_rfl
@[simp] theorem live120_4 : G.live 120 4 = some [0, 1, 4, 12, 13] := by kernel_rfl
@[simp] theorem live120_5 : G.live 120 5 = some [0, 1, 4, 12, 13, 66] := by kernel_rfl
@[simp] theorem live120_6 : G.live 120 6 = some [0, 1, 4, 12, 13] := by kernel_rfl
@[simp] theorem live120_7 : G.live 120 7 = some [0, 1, 4, 12, 13, 71] := by kernel_rfl
@[simp] theorem live120_8 : G.live 120 8 = some [13] := by kernel_rfl
@[simp] theorem live120_9 : G.live 120 9 = some [10, 11] := by kernel_rfl
@[simp] theorem live120_10 : G.live 120 10 = some [0, 1, 4, 12, 13] := by kernel_rfl
@[simp] theorem live120_11 : G.live 120 11 = some [0, 1, 4, 12, 13] := by kernel_rfl
@[simp] theorem live120_12 : G.live 120 12 = some [0, 1, 4, 12, 13] := by kernel_rfl
@[simp] theorem live120_13 : G.live 120 13 = some [0, 1, 4, 12, 13, 120] := by kernel_rfl
@[simp] theorem live120_14 : G.live 120 14 = some [0, 1, 4, 12, 13] := by kernel_rfl
@[simp] theorem live120_15 : G.live 120 15 = some [0, 1, 4, 12, 13, 139] := by kernel_rfl
@[simp] theorem live120_16 : G.live 120 16 = some [0, 1, 4, 12, 13] := by kernel_rfl
@[simp] theorem live120_17 : G.live 120 17 = some [0, 1, 4, 12, 13, 144] := by kernel_rfl
@[simp] theorem live120_18 : G.live 120 18 = some [0, 1, 4, 12, 13] := by kernel_rfl
@[simp] theorem live120_19 : G.live 120 19 = some [0, 1, 4, 12, 13] := by kernel_rfl
@[simp] theorem live120_20 : G.live 120 20 = some [0, 1, 4, 12, 13] := by kernel_rfl
@[simp] theorem live120_21 : G.live 120 21 = some [13] := by kernel_rfl
@[simp] theorem live120_22 : G.live 120 22 = some [10, 11] := by kernel_rfl
@[simp] theorem plan120_1 : G.plan 120 1 = some [.n 0, .n 1, .n 2, .n 3, .n 4, .n 5, .n 6, .n 7, .n 8, .n 9, .n 10, .n 11, .n 12, .e 13 [3, 2], .n 14, .e 15 []] := by kernel_rfl
@[simp] theorem plan120_3 : G.plan 120 3 = some [.n 0, .n 1, .n 2, .n 3, .n 4, .n 5, .n 6, .n 7, .n 8, .n 9, .n 10, .n 11, .n 12, .e 13 [], .n 14, .n 15] := by kernel_rfl
@[simp] theorem plan120_5 : G.plan 120 5 = some [.n 0, .n 1, .n 2, .n 3, .n 4, .n 5, .n 6, .n 7, .n 8, .n 9, .n 10, .n 11, .n 12, .e 13 [], .n 14, .n 15, .n 16] := by kernel_rfl
@[simp] theorem plan120_8 : G.plan 120 8 = some [.n 0, .n 1, .n 2, .n 3, .n 4, .n 5, .n 6, .n 7, .n 8, .n 9, .n 10, .n 11, .n 12, .e 13 [3, 2], .n 14, .e 15 []] := by kernel_rfl
@[simp] theorem plan120_10 : G.plan 120 10 = some [.n 0, .n 1, .n 2, .n 3, .n 4, .n 5, .n 6, .n 7, .n 8, .n 9, .n 10, .n 11, .n 12, .e 13 [3, 2], .n 14, .e 15 []] := by kernel_rfl
@[simp] theorem plan120_13 : G.plan 120 13 = some [.n 0, .n 1, .n 2, .n 3, .n 4, .n 5, .n 6, .n 7, .n 8, .n 9, .n 10, .n 11, .n 12, .e 13 [], .n 14, .n 15] := by kernel_rfl
@[simp] theorem plan120_15 : G.plan 120 15 = some [.n 0, .n 1, .n 2, .n 3, .n 4, .n 5, .n 6, .n 7, .n 8, .n 9, .n 10, .n 11, .n 12, .e 13 [], .n 14, .n 15, .n 16] := by kernel_rfl
@[simp] theorem plan120_18 : G.plan 120 18 = some [.n 0, .n 1, .n 2, .n 3, .n 4, .n 5, .n 6, .n 7, .n 8, .n 9, .n 10, .n 11, .n 12, .e 13 [3, 2], .n 14, .e 15 []] := by kernel_rfl
@[simp] theorem plan120_21 : G.plan 120 21 = some [.n 0, .n 1, .n 2, .n 3, .n 4, .n 5, .n 6, .n 7, .n 8, .n 9, .n 10, .n 11, .n 12, .e 13 [3, 2], .n 14, .e 15 []] := by kernel_rfl
@[simp] theorem E121 : G.E 121 = true := by kernel_rfl
@[simp] theorem ext121 : G.ext 121 = none := by kernel_rfl
@[simp] theorem dfr121 : G.dfr 121 = false := by kernel_rfl
@[simp] theorem own121 : G.retOwn 121 = false := by kernel_rfl
@[simp] theorem live121_0 : G.live 121 0 = some [0, 2] := by kernel_rfl
@[simp] theorem live121_1 : G.live 121 1 = some [0, 2, 4] := by kernel_rfl
@[simp] theorem live121_2 : G.live 121 2 = some [0] := by kernel_rfl
@[simp] theorem live121_3 : G.live 121 3 = some [0, 2] := by kernel_rfl
@[simp] theorem live121_4 : G.live 121 4 = some [0, 2, 8] := by kernel_rfl
@[simp] theorem live121_5 : G.live 121 5 = some [0, 2] := by kernel_rfl
@[simp] theorem live121_6 : G.live 121 6 = some [0, 2] := by kernel_rfl
@[simp] theorem live121_7 : G.live 121 7 = some [2] := by kernel_rfl
@[simp] theorem E122 : G.E 122 = true := by kernel_rfl
@[simp] theorem ext122 : G.ext 122 = none := by kernel_rfl
@[simp] theorem dfr122 : G.dfr 122 = false := by kernel_rfl
@[simp] theorem own122 : G.retOwn 122 = false := by kernel_rfl
@[simp] theorem live122_0 : G.live 122 0 = some [0, 2] := by kernel_rfl
@[simp] theorem live122_1 : G.live 122 1 = some [0, 2, 4] := by kernel_rfl
@[simp] theorem live122_2 : G.live 122 2 = some [0] := by kernel_rfl
@[simp] theorem live122_3 : G.live 122 3 = some [0, 2] := by kernel_rfl
@[simp] theorem live122_4 : G.live 122 4 = some [0, 2, 8] := by kernel_rfl
@[simp] theorem live122_5 : G.live 122 5 = some [0, 2] := by kernel_rfl
@[simp] theorem live122_6 : G.live 122 6 = some [0, 2] := by kernel_rfl
@[simp] theorem live122_7 : G.live 122 7 = some [0, 2, 14] := by kernel_rfl
@[simp] theorem live122_8 : G.live 122 8 = some [0, 2] := by kernel_rfl
@[simp] theorem live122_9 : G.live 122 9 = some [0, 2] := by kernel_rfl
@[simp] theorem live122_10 : G.live 122 10 = some [2] := by kernel_rfl
@[simp] theorem E124 : G.E 124 = true := by kernel_rfl
@[simp] theorem ext124 : G.ext 124 = none := by kernel_rfl
@[simp] theorem dfr124 : G.dfr 124 = false := by kernel_rfl
@[simp] theorem own124 : G.retOwn 124 = false := by kernel_rfl
@[simp] theorem keep124_3 : G.keep 124 3 = some ⟨[(0, none), (5, some 1), (11, none), (12, none)], []⟩ := by kernel_rfl
@[simp] theorem keep124_8 : G.keep 124 8 = some ⟨[(5, some 1), (7, none), (8, none)], []⟩ := by kernel_rfl
@[simp] theorem live124_0 : G.live 124 0 = some [0, 1] := by kernel_rfl
@[simp] theorem live124_1 : G.live 124 1 = some [0, 1, 5] := by kernel_rfl
@[simp] theorem live124_2 : G.live 124 2 = some [0, 5, 11, 12] := by kernel_rfl
@[simp] theorem live124_3 : G.live 124 3 = some [0, 5, 11, 12, 13] := by kernel_rfl
@[simp] theorem live124_4 : G.live 124 4 = some [0, 5, 6, 11, 12] := by kernel_rfl
@[simp] theorem live124_5 : G.live 124 5 = some [0, 5, 11, 12] := by kernel_rfl
@[simp] theorem live124_6 : G.live 124 6 = some [0, 5, 11, 12] := by kernel_rfl
@[simp] theorem live124_7 : G.live 124 7 = some [5, 7, 8] := by kernel_rfl
@[simp] theorem live124_8 : G.live 124 8 = some [5, 7, 8, 29] := by kernel_rfl
@[simp] theorem live124_10 : G.live 124 10 = some [5, 7, 8] := by kernel_rfl
@[simp] theorem live124_9 : G.live 124 9 = some [5, 7, 8] := by kernel_rfl
@[simp] theorem live124_11 : G.live 124 11 = some [4] := by kernel_rfl
@[simp] theorem plan124_10 : G.plan 124 10 = some [.n 0, .n 1, .n 2, .n 3, .n 4, .n 5, .n 6, .n 7, .n 8, .n 9, .n 10, .n 11, .n 12, .e 13 [3, 2], .n 14, .e 15 []] := by kernel_rfl
@[simp] theorem E125 : G.E 125 = true := by kernel_rfl
@[simp] theorem ext125 : G.ext 125 = none := by kernel_rfl
@[simp] theorem dfr125 : G.dfr 125 = false := by kernel_rfl
@[simp] theorem own125 : G.retOwn 125 = false := by kernel_rfl
@[simp] theorem keep125_3 : G.keep 125 3 = some ⟨[(0, none), (1, none), (5, none), (6, none)], []⟩ := by kernel_rfl
@[simp] theorem live125_0 : G.live 125 0 = some [0, 1] := by kernel_rfl
@[simp] theorem live125_1 : G.live 125 1 = some [0, 1, 5] := by kernel_rfl
@[simp] theorem live125_2 : G.live 125 2 = some [0, 1, 5, 6] := by kernel_rfl
@[simp] theorem live125_3 : G.live 125 3 = some [0, 1, 5, 6, 13] := by kernel_rfl
@[simp] theorem live125_5 : G.live 125 5 = some [0, 1, 5, 6] := by kernel_rfl
@[simp] theorem live125_6 : G.live 125 6 = some [0, 1, 5, 6] := by kernel_rfl
@[simp] theorem live125_4 : G.live 125 4 = some [0, 1, 5, 6] := by kernel_rfl
@[simp] theorem live125_7 : G.live 125 7 = some [4] := by kernel_rfl
@[simp] theorem E127 : G.E 127 = true := by kernel_rfl
@[simp] theorem ext127 : G.ext 127 = none := by kernel_rfl
@[simp] theorem dfr127 : G.dfr 127 = false := by kernel_rfl
@[simp] theorem own127 : G.retOwn 127 = false := by kernel_rfl
@[simp] theorem keep127_0 : G.keep 127 0 = some ⟨[(0, none), (1, none)], []⟩ := by kernel_rfl
@[simp] theorem live127_0 : G.live 127 0 = some [0, 1] := by kernel_rfl
@[simp] theorem live127_1 : G.live 127 1 = some [0, 1, 3, 4] := by kernel_rfl
@[simp] theorem live127_2 : G.live 127 2 = some [0, 1, 3, 4] := by kernel_rfl
@[simp] theorem live127_3 : G.live 127 3 = some [0, 1, 3, 4, 25] := by kernel_rfl
@[simp] theorem live127_4 : G.live 127 4 = some [0, 1, 3, 4] := by kernel_rfl
@[simp] theorem live127_5 : G.live 127 5 = some [0, 1, 32] := by kernel_rfl
@[simp] theorem plan127_1 : G.plan 127 1 = some [.n 0, .n 1, .n 2, .n 3, .n 4, .n 5, .n 6, .n 7, .n 8, .n 9, .n 10, .n 11] := by kernel_rfl
@[simp] theorem E128 : G.E 128 = true := by kernel_rfl
@[simp] theorem ext128 : G.ext 128 = none := by kernel_rfl
@[simp] theorem dfr128 : G.dfr 128 = false := by kernel_rfl
@[simp] theorem own128 : G.retOwn 128 = false := by kernel_rfl
@[simp] theorem keep128_2 : G.keep 128 2 = some ⟨[(0, none), (1, none), (7, none), (8, none)], []⟩ := by kernel_rfl
@[simp] theorem live128_0 : G.live 128 0 = some [0, 1] := by kernel_rfl
@[simp] theorem live128_1 : G.live 128 1 = some [0, 1, 7, 8] := by kernel_rfl
@[simp] theorem live128_2 : G.live 128 2 = some [0, 1, 7, 8, 9] := by kernel_rfl
@[simp] theorem live128_3 : G.live 128 3 = some [0, 1, 5, 7, 8] := by kernel_rfl
@[simp] theorem live128_4 : G.live 128 4 = some [0, 1, 5, 7, 8, 16] := by kernel_rfl
@[simp] theorem live128_5 : G.live 128 5 = some [4] := by kernel_rfl
@[simp] theorem live128_6 : G.live 128 6 = some [0, 1, 7, 8] := by kernel_rfl
@[simp] theorem live128_7 : G.live 128 7 = some [4] := by kernel_rfl
@[simp] theorem E129 : G.E 129 = true := by kernel_rfl
@[simp] theorem ext129 : G.ext 129 = none := by kernel_rfl
@[simp] theorem dfr129 : G.dfr 129 = false := by kernel_rfl
@[simp] theorem own129 : G.retOwn 129 = false := by kernel_rfl
@[simp] theorem live129_0 : G.live 129 0 = some [0] := by kernel_rfl
@[simp] theorem live129_1 : G.live 129 1 = some [2] := by kernel_rfl
@[simp] theorem E130 : G.E 130 = true := by kernel_rfl
@[simp] theorem ext130 : G.ext 130 = none := by kernel_rfl
@[simp] theorem dfr130 : G.dfr 130 = false := by kernel_rfl
@[simp] theorem own130 : G.retOwn 130 = false := by kernel_rfl
@[simp] theorem live130_0 : G.live 130 0 = some [0] := by kernel_rfl
@[simp] theorem live130_1 : G.live 130 1 = some [2] := by kernel_rfl
@[simp] theorem E131 : G.E 131 = true := by kernel_rfl
@[simp] theorem ext131 : G.ext 131 = none := by kernel_rfl
@[simp] theorem dfr131 : G.dfr 131 = false := by kernel_rfl
@[simp] theorem own131 : G.retOwn 131 = false := by kernel_rfl
@[simp] theorem live131_0 : G.live 131 0 = some [0] := by kernel_rfl
@[simp] theorem live131_1 : G.live 131 1 = some [2] := by kernel_rfl
@[simp] theorem E132 : G.E 132 = true := by kernel_rfl
@[simp] theorem ext132 : G.ext 132 = none := by kernel_rfl
@[simp] theorem dfr132 : G.dfr 132 = false := by kernel_rfl
@[simp] theorem own132 : G.retOwn 132 = false := by kernel_rfl
@[simp] theorem keep132_1 : G.keep 132 1 = some ⟨[(0, some 1), (2, none), (3, none), (4, none), (10, none)], []⟩ := by kernel_rfl
@[simp] theorem live132_0 : G.live 132 0 = some [0, 2, 3, 4, 10] := by kernel_rfl
@[simp] theorem live132_1 : G.live 132 1 = some [0, 2, 3, 4, 10, 11] := by kernel_rfl
@[simp] theorem live132_2 : G.live 132 2 = some [0, 2, 3, 4, 10, 11, 18] := by kernel_rfl
@[simp] theorem live132_3 : G.live 132 3 = some [0, 2, 3, 4, 10, 11, 40] := by kernel_rfl
@[simp] theorem live132_4 : G.live 132 4 = some [0, 2, 3, 4, 10, 11] := by kernel_rfl
@[simp] theorem live132_5 : G.live 132 5 = some [0, 2, 3, 4, 10, 11, 58] := by kernel_rfl
@[simp] theorem live132_6 : G.live 132 6 = some [0, 2, 3, 4, 11] := by kernel_rfl
@[simp] theorem live132_7 : G.live 132 7 = some [0, 2, 3, 4, 10] := by kernel_rfl
@[simp] theorem plan132_3 : G.plan 132 3 = some [.n 0, .n 1, .n 2, .n 3, .n 4, .n 5, .n 6, .n 7, .n 8, .n 9, .n 10, .n 11, .n 12, .n 13, .n 14, .n 15, .n 16, .n 17, .n 18, .e 19 [15, 14, 13, 8, 7, 0], .n 20, .n 21] := by kernel_rfl
@[simp] theorem plan132_5 : G.plan 132 5 = some [.n 0, .n 1, .n 2, .n 3, .n 4, .n 5, .n 6, .n 7, .n 8, .n 9, .n 10, .n 11, .n 12, .e 13 [9, 8, 3, 2], .n 14, .n 15] := by kernel_rfl
@[simp] theorem plan132_6 : G.plan 132 6 = some [.n 0, .n 1, .n 2, .n 3, .n 4, .n 5, .n 6, .n 7, .n 8, .n 9, .n 10, .n 11, .n 12, .n 13, .n 14, .n 15, .n 16, .n 17, .n 18, .n 19, .n 20, .e 21 [16, 15, 7, 6, 5, 4], .n 22, .e 23 []] := by kernel_rfl
@[simp] theorem E133 : G.E 133 = true := by kernel_rfl
@[simp] theorem ext133 : G.ext 133 = none := by kernel_rfl
@[simp] theorem dfr133 : G.dfr 133 = false := by kernel_rfl
@[simp] theorem own133 : G.retOwn 133 = false := by kernel_rfl
@[simp] theorem live133_0 : G.live 133 0 = some [0] := by kernel_rfl
@[simp] theorem live133_1 : G.live 133 1 = some [2] := by kernel_rfl
@[simp] theorem E134 : G.E 134 = true := by kernel_rfl
@[simp] theorem ext134 : G.ext 134 = none := by kernel_rfl
@[simp] theorem dfr134 : G.dfr 134 = false := by kernel_rfl
@[simp] theorem own134 : G.retOwn 134 = false := by kernel_rfl
@[simp] theorem live134_0 : G.live 134 0 = some [0] := by kernel_rfl
@[simp] theorem live134_1 : G.live 134 1 = some [0] := by kernel_rfl
@[simp] theorem live134_2 : G.live 134 2 = some [0] := by kernel_rfl
@[simp] theorem live134_3 : G.live 134 3 = some [0] := by kernel_rfl
@[simp] theorem live134_4 : G.live 134 4 = some [2] := by kernel_rfl
@[simp] theorem plan134_1 : G.plan 134 1 = some [.n 0, .n 1, .n 2, .n 3, .n 4, .n 5, .n 6, .n 7, .n 8, .e 9 []] := by kernel_rfl
@[simp] theorem plan134_2 : G.plan 134 2 = some [.n 0, .n 1, .n 2, .n 3, .n 4, .n 5, .n 6, .n 7, .n 8, .e 9 []] := by kernel_rfl
@[simp] theorem plan134_3 : G.plan 134 3 = some [.n 0, .n 1, .n 2, .n 3, .n 4, .n 5, .n 6, .n 7, .n 8, .e 9 []] := by kernel_rfl
@[simp] theorem E135 : G.E 135 = true := by kernel_rfl
@[simp] theorem ext135 : G.ext 135 = none := by kernel_rfl
@[simp] theorem dfr135 : G.dfr 135 = false := by kernel_rfl
@[simp] theorem own135 : G.retOwn 135 = false := by kernel_rfl
@[simp] theorem live135_0 : G.live 135 0 = some [0, 1, 2, 3] := by kernel_rfl
@[simp] theorem live135_1 : G.live 135 1 = some [8] := by kernel_rfl
@[simp] theorem E136 : G.E 136 = true := by kernel_rfl
@[simp] theorem ext136 : G.ext 136 = none := by kernel_rfl
@[simp] theorem dfr136 : G.dfr 136 = false := by kernel_rfl
@[simp] theorem own136 : G.retOwn 136 = false := by kernel_rfl
@[simp] theorem live136_0 : G.live 136 0 = some [0, 1, 2, 3, 4, 5] := by kernel_rfl
@[simp] theorem live136_1 : G.live 136 1 = some [0, 1, 2, 3, 4, 5] := by kernel_rfl
@[simp] theorem live136_2 : G.live 136 2 = some [0, 1, 2, 4, 5] := by kernel_rfl
@[simp] theorem live136_3 : G.live 136 3 = some [2] := by kernel_rfl
@[simp] theorem live136_4 : G.live 136 4 = some [12] := by kernel_rfl
@[simp] theorem E137 : G.E 137 = true := by kernel_rfl
@[simp] theorem ext137 : G.ext 137 = none := by kernel_rfl
@[simp] theorem dfr137 : G.dfr 137 = false := by kernel_rfl
@[simp] theorem own137 : G.retOwn 137 = false := by kernel_rfl
@[simp] theorem live137_0 : G.live 137 0 = some [0] := by kernel_rfl
@[simp] theorem live137_1 : G.live 137 1 = some [2] := by kernel_rfl
@[simp] theorem E138 : G.E 138 = true := by kernel_rfl
@[simp] theorem ext138 : G.ext 138 = none := by kernel_rfl
@[simp] theorem dfr138 : G.dfr 138 = false := by kernel_rfl
@[simp] theorem own138 : G.retOwn 138 = false := by kernel_rfl
@[simp] theorem live138_0 : G.live 138 0 = some [0, 1, 2, 3, 4] := by kernel_rfl
@[simp] theorem live138_1 : G.live 138 1 = some [1, 2, 3, 22] := by kernel_rfl
@[simp] theorem live138_2 : G.live 138 2 = some [1, 2] := by kernel_rfl
@[simp] theorem live138_3 : G.live 138 3 = some [10, 11] := by kernel_rfl
@[simp] theorem live138_4 : G.live 138 4 = some [10, 11] := by kernel_rfl
@[simp] theorem plan138_1 : G.plan 138 1 = some [.n 0, .n 1, .n 2, .n 3, .n 4, .n 5, .n 6, .n 7, .n 8, .e 9 [], .n 10] := by kernel_rfl
end Go.Proofs.Ytonaejfpiihfhaa
