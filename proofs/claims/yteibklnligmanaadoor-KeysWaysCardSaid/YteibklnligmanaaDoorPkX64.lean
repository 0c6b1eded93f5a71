/- What the row of this claim leans on: own texts, merged. -/
import Derived.Test.YteibklnligmanaaDoorProg
import Derived.WalkKit
import Derived.Shelf.RegionOpenPlain
import Derived.Lib.Walk
import Derived.TacticsInMore
import Derived.Shelf.RegionOpen
import Derived.Lib.SliceRun
import Derived.ArgAppend
import Derived.BigRegionIn
import Derived.OwnWalkIn
import Derived.Laws.Externs
import Derived.Lib.Overlaps
import Derived.Lib.AppendZerosOnto
import Derived.Test.YteibklnligmanaaDoorPkX63

/- The seat's types and functions, as equations. -/
namespace Go.Proofs.YteibklnligmanaaDoor
open Go Abs
set_option linter.unusedSimpArgs false

@[simp] theorem GP : G.P = Tryd.prog := rfl
@[simp] theorem cells0 : Tryd.prog.cellsOf 0 = 1 := by kernel_rfl
@[simp] theorem info0 : Tryd.prog.info? 0 = some Tryd.t0 := by kernel_rfl
@[simp] theorem agg0 : isAggT Tryd.prog 0 = false := by kernel_rfl
attribute [simp] Tryd.underlying0
@[simp] theorem bytes0 : Tryd.t0.bytes = 0 := rfl
@[simp] theorem cells1 : Tryd.prog.cellsOf 1 = 1 := by kernel_rfl
@[simp] theorem info1 : Tryd.prog.info? 1 = some Tryd.t1 := by kernel_rfl
@[simp] theorem agg1 : isAggT Tryd.prog 1 = false := by kernel_rfl
attribute [simp] Tryd.underlying1
@[simp] theorem bytes1 : Tryd.t1.bytes = 8 := rfl
@[simp] theorem zero1 : Tryd.t1.zero = some .nilFunc := rfl
@[simp] theorem cells2 : Tryd.prog.cellsOf 2 = 1 := by kernel_rfl
@[simp] theorem info2 : Tryd.prog.info? 2 = some Tryd.t2 := by kernel_rfl
@[simp] theorem agg2 : isAggT Tryd.prog 2 = false := by kernel_rfl
attribute [simp] Tryd.underlying2
@[simp] theorem bytes2 : Tryd.t2.bytes = 8 := rfl
@[simp] theorem zero2 : Tryd.t2.zero = some (.int .i64 0) := rfl
@[simp] theorem cells3 : Tryd.prog.cellsOf 3 = 1 := by kernel_rfl
@[simp] theorem info3 : Tryd.prog.info? 3 = some Tryd.t3 := by kernel_rfl
@[simp] theorem agg3 : isAggT Tryd.prog 3 = false := by kernel_rfl
attribute [simp] Tryd.underlying3
@[simp] theorem bytes3 : Tryd.t3.bytes = 8 := rfl
@[simp] theorem zero3 : Tryd.t3.zero = some (.int .i64 0) := rfl
@[simp] theorem cells4 : Tryd.prog.cellsOf 4 = 1 := by kernel_rfl
@[simp] theorem info4 : Tryd.prog.info? 4 = some Tryd.t4 := by kernel_rfl
@[simp] theorem agg4 : isAggT Tryd.prog 4 = false := by kernel_rfl
attribute [simp] Tryd.underlying4
@[simp] theorem bytes4 : Tryd.t4.bytes = 1 := rfl
@[simp] theorem zero4 : Tryd.t4.zero = some (.bool false) := rfl
@[simp] theorem cells5 : Tryd.prog.cellsOf 5 = 1 := by kernel_rfl
@[simp] theorem info5 : Tryd.prog.info? 5 = some Tryd.t5 := by kernel_rfl
@[simp] theorem agg5 : isAggT Tryd.prog 5 = false := by kernel_rfl
attribute [simp] Tryd.underlying5
@[simp] theorem bytes5 : Tryd.t5.bytes = 1 := rfl
@[simp] theorem zero5 : Tryd.t5.zero = some (.int .u8 0) := rfl
@[simp] theorem cells6 : Tryd.prog.cellsOf 6 = 1 := by kernel_rfl
@[simp] theorem info6 : Tryd.prog.info? 6 = some Tryd.t6 := by kernel_rfl
@[simp] theorem agg6 : isAggT Tryd.prog 6 = false := by kernel_rfl
attribute [simp] Tryd.underlying6
@[simp] theorem bytes6 : Tryd.t6.bytes = 1 := rfl
@[simp] theorem zero6 : Tryd.t6.zero = some (.int .u8 0) := rfl
@[simp] theorem cells7 : Tryd.prog.cellsOf 7 = 4 := by kernel_rfl
@[simp] theorem info7 : Tryd.prog.info? 7 = some Tryd.t7 := by kernel_rfl
@[simp] theorem agg7 : isAggT Tryd.prog 7 = true := by kernel_rfl
attribute [simp] Tryd.underlying7
@[simp] theorem bytes7 : Tryd.t7.bytes = 24 := rfl
@[simp] theorem zero7 : Tryd.t7.zero = some (.agg #[(.int .i64 0), (.int .i64 0), (.bool false), (.int .u8 0)]) := rfl
@[simp] theorem cells8 : Tryd.prog.cellsOf 8 = 4 := by kernel_rfl
@[simp] theorem info8 : Tryd.prog.info? 8 = some Tryd.t8 := by kernel_rfl
@[simp] theorem agg8 : isAggT Tryd.prog 8 = true := by kernel_rfl
attribute [simp] Tryd.underlying8
@[simp] theorem bytes8 : Tryd.t8.bytes = 24 := rfl
@[simp] theorem zero8 : Tryd.t8.zero = some (.agg #[(.int .i64 0), (.int .i64 0), (.bool false), (.int .u8 0)]) := rfl
@[simp] theorem cells9 : Tryd.prog.cellsOf 9 = 1 := by kernel_rfl
@[simp] theorem info9 : Tryd.prog.info? 9 = some Tryd.t9 := by kernel_rfl
@[simp] theorem agg9 : isAggT Tryd.prog 9 = false := by kernel_rfl
attribute [simp] Tryd.underlying9
@[simp] theorem bytes9 : Tryd.t9.bytes = 16 := rfl
@[simp] theorem zero9 : Tryd.t9.zero = some (.string ⟨#[]⟩) := rfl
@[simp] theorem cells10 : Tryd.prog.cellsOf 10 = 1 := by kernel_rfl
@[simp] theorem info10 : Tryd.prog.info? 10 = some Tryd.t10 := by kernel_rfl
@[simp] theorem agg10 : isAggT Tryd.prog 10 = false := by kernel_rfl
attribute [simp] Tryd.underlying10
@[simp] theorem bytes10 : Tryd.t10.bytes = 16 := rfl
@[simp] theorem zero10 : Tryd.t10.zero = some (.string ⟨#[]⟩) := rfl
@[simp] theorem cells11 : Tryd.prog.cellsOf 11 = 1 := by kernel_rfl
@[simp] theorem info11 : Tryd.prog.info? 11 = some Tryd.t11 := by kernel_rfl
@[simp] theorem agg11 : isAggT Tryd.prog 11 = false := by kernel_rfl
attribute [simp] Tryd.underlying11
@[simp] theorem bytes11 : Tryd.t11.bytes = 16 := rfl
@[simp] theorem zero11 : Tryd.t11.zero = some (.string ⟨#[]⟩) := rfl
@[simp] theorem cells12 : Tryd.prog.cellsOf 12 = 1 := by kernel_rfl
@[simp] theorem info12 : Tryd.prog.info? 12 = some Tryd.t12 := by kernel_rfl
@[simp] theorem agg12 : isAggT Tryd.prog 12 = false := by kernel_rfl
attribute [simp] Tryd.underlying12
@[simp] theorem bytes12 : Tryd.t12.bytes = 8 := rfl
@[simp] theorem zero12 : Tryd.t12.zero = some (.int .u64 0) := rfl
@[simp] theorem cells13 : Tryd.prog.cellsOf 13 = 2 := by kernel_rfl
@[simp] theorem info13 : Tryd.prog.info? 13 = some Tryd.t13 := by kernel_rfl
@[simp] theorem agg13 : isAggT Tryd.prog 13 = true := by kernel_rfl
attribute [simp] Tryd.underlying13
@[simp] theorem bytes13 : Tryd.t13.bytes = 24 := rfl
@[simp] theorem zero13 : Tryd.t13.zero = some (.agg #[(.string ⟨#[]⟩), (.int .u64 0)]) := rfl
@[simp] theorem cells14 : Tryd.prog.cellsOf 14 = 2 := by kernel_rfl
@[simp] theorem info14 : Tryd.prog.info? 14 = some Tryd.t14 := by kernel_rfl
@[simp] theorem agg14 : isAggT Tryd.prog 14 = true := by kernel_rfl
attribute [simp] Tryd.underlying14
@[simp] theorem bytes14 : Tryd.t14.bytes = 24 := rfl
@[simp] theorem zero14 : Tryd.t14.zero = some (.agg #[(.string ⟨#[]⟩), (.int .u64 0)]) := rfl
@[simp] theorem cells15 : Tryd.prog.cellsOf 15 = 1 := by kernel_rfl
@[simp] theorem info15 : Tryd.prog.info? 15 = some Tryd.t15 := by kernel_rfl
@[simp] theorem agg15 : isAggT Tryd.prog 15 = false := by kernel_rfl
attribute [simp] Tryd.underlying15
@[simp] theorem bytes15 : Tryd.t15.bytes = 8 := rfl
@[simp] theorem zero15 : Tryd.t15.zero = some (.pointer none) := rfl
@[simp] theorem cells16 : Tryd.prog.cellsOf 16 = 1 := by kernel_rfl
@[simp] theorem info16 : Tryd.prog.info? 16 = some Tryd.t16 := by kernel_rfl
@[simp] theorem agg16 : isAggT Tryd.prog 16 = false := by kernel_rfl
attribute [simp] Tryd.underlying16
@[simp] theorem bytes16 : Tryd.t16.bytes = 8 := rfl
@[simp] theorem zero16 : Tryd.t16.zero = some (.pointer none) := rfl
@[simp] theorem cells17 : Tryd.prog.cellsOf 17 = 1 := by kernel_rfl
@[simp] theorem info17 : Tryd.prog.info? 17 = some Tryd.t17 := by kernel_rfl
@[simp] theorem agg17 : isAggT Tryd.prog 17 = false := by kernel_rfl
attribute [simp] Tryd.underlying17
@[simp] theorem bytes17 : Tryd.t17.bytes = 8 := rfl
@[simp] theorem zero17 : Tryd.t17.zero = some (.pointer none) := rfl
@[simp] theorem cells18 : Tryd.prog.cellsOf 18 = 1 := by kernel_rfl
@[simp] theorem info18 : Tryd.prog.info? 18 = some Tryd.t18 := by kernel_rfl
@[simp] theorem agg18 : isAggT Tryd.prog 18 = true := by kernel_rfl
attribute [simp] Tryd.underlying18
@[simp] theorem bytes18 : Tryd.t18.bytes = 8 := rfl
@[simp] theorem zero18 : Tryd.t18.zero = some (.agg #[(.pointer none)]) := rfl
@[simp] theorem cells19 : Tryd.prog.cellsOf 19 = 1 := by kernel_rfl
@[simp] theorem info19 : Tryd.prog.info? 19 = some Tryd.t19 := by kernel_rfl
@[simp] theorem agg19 : isAggT Tryd.prog 19 = true := by kernel_rfl
attribute [simp] Tryd.underlying19
@[simp] theorem bytes19 : Tryd.t19.bytes = 8 := rfl
@[simp] theorem zero19 : Tryd.t19.zero = some (.agg #[(.pointer none)]) := rfl
@[simp] theorem cells20 : Tryd.prog.cellsOf 20 = 1 := by kernel_rfl
@[simp] theorem info20 : Tryd.prog.info? 20 = some Tryd.t20 := by kernel_rfl
@[simp] theorem agg20 : isAggT Tryd.prog 20 = false := by kernel_rfl
attribute [simp] Tryd.underlying20
@[simp] theorem bytes20 : Tryd.t20.bytes = 16 := rfl
@[simp] theorem zero20 : Tryd.t20.zero = some .nilIface := rfl
@[simp] theorem cells21 : Tryd.prog.cellsOf 21 = 1 := by kernel_rfl
@[simp] theorem info21 : Tryd.prog.info? 21 = some Tryd.t21 := by kernel_rfl
@[simp] theorem agg21 : isAggT Tryd.prog 21 = false := by kernel_rfl
attribute [simp] Tryd.underlying21
@[simp] theorem bytes21 : Tryd.t21.bytes = 4 := rfl
@[simp] theorem zero21 : Tryd.t21.zero = some (.int .i32 0) := rfl
@[simp] theorem cells22 : Tryd.prog.cellsOf 22 = 1 := by kernel_rfl
@[simp] theorem info22 : Tryd.prog.info? 22 = some Tryd.t22 := by kernel_rfl
@[simp] theorem agg22 : isAggT Tryd.prog 22 = false := by kernel_rfl
attribute [simp] Tryd.underlying22
@[simp] theorem bytes22 : Tryd.t22.bytes = 24 := rfl
@[simp] theorem zero22 : Tryd.t22.zero = some (.slice none 0 0) := rfl
@[simp] theorem cells23 : Tryd.prog.cellsOf 23 = 3 := by kernel_rfl
@[simp] theorem info23 : Tryd.prog.info? 23 = some Tryd.t23 := by kernel_rfl
@[simp] theorem agg23 : isAggT Tryd.prog 23 = true := by kernel_rfl
attribute [simp] Tryd.underlying23
@[simp] theorem bytes23 : Tryd.t23.bytes = 56 := rfl
@[simp] theorem zero23 : Tryd.t23.zero = some (.agg #[(.string ⟨#[]⟩), (.slice none 0 0), (.string ⟨#[]⟩)]) := rfl
@[simp] theorem cells24 : Tryd.prog.cellsOf 24 = 3 := by kernel_rfl
@[simp] theorem info24 : Tryd.prog.info? 24 = some Tryd.t24 := by kernel_rfl
@[simp] theorem agg24 : isAggT Tryd.prog 24 = true := by kernel_rfl
attribute [simp] Tryd.underlying24
@[simp] theorem bytes24 : Tryd.t24.bytes = 56 := rfl
@[simp] theorem zero24 : Tryd.t24.zero = some (.agg #[(.string ⟨#[]⟩), (.slice none 0 0), (.string ⟨#[]⟩)]) := rfl
@[simp] theorem cells25 : Tryd.prog.cellsOf 25 = 1 := by kernel_rfl
@[simp] theorem info25 : Tryd.prog.info? 25 = some Tryd.t25 := by kernel_rfl
@[simp] theorem agg25 : isAggT Tryd.prog 25 = false := by kernel_rfl
attribute [simp] Tryd.underlying25
@[simp] theorem bytes25 : Tryd.t25.bytes = 8 := rfl
@[simp] theorem zero25 : Tryd.t25.zero = some (.int .u64 0) := rfl
@[simp] theorem cells26 : Tryd.prog.cellsOf 26 = 1 := by kernel_rfl
@[simp] theorem info26 : Tryd.prog.info? 26 = some Tryd.t26 := by kernel_rfl
@[simp] theorem agg26 : isAggT Tryd.prog 26 = false := by kernel_rfl
attribute [simp] Tryd.underlying26
@[simp] theorem bytes26 : Tryd.t26.bytes = 8 := rfl
@[simp] theorem zero26 : Tryd.t26.zero = some .nilFunc := rfl
@[simp] theorem cells27 : Tryd.prog.cellsOf 27 = 1 := by kernel_rfl
@[simp] theorem info27 : Tryd.prog.info? 27 = some Tryd.t27 := by kernel_rfl
@[simp] theorem agg27 : isAggT Tryd.prog 27 = false := by kernel_rfl
attribute [simp] Tryd.underlying27
@[simp] theorem bytes27 : Tryd.t27.bytes = 8 := rfl
@[simp] theorem zero27 : Tryd.t27.zero = some .nilFunc := rfl
@[simp] theorem cells28 : Tryd.prog.cellsOf 28 = 1 := by kernel_rfl
@[simp] theorem info28 : Tryd.prog.info? 28 = some Tryd.t28 := by kernel_rfl
@[simp] theorem agg28 : isAggT Tryd.prog 28 = false := by kernel_rfl
attribute [simp] Tryd.underlying28
@[simp] theorem bytes28 : Tryd.t28.bytes = 8 := rfl
@[simp] theorem zero28 : Tryd.t28.zero = some (.int .i64 0) := rfl
@[simp] theorem cells29 : Tryd.prog.cellsOf 29 = 1 := by kernel_rfl
@[simp] theorem info29 : Tryd.prog.info? 29 = some Tryd.t29 := by kernel_rfl
@[simp] theorem agg29 : isAggT Tryd.prog 29 = false := by kernel_rfl
attribute [simp] Tryd.underlying29
@[simp] theorem bytes29 : Tryd.t29.bytes = 0 := rfl
@[simp] theorem cells30 : Tryd.prog.cellsOf 30 = 1 := by kernel_rfl
@[simp] theorem info30 : Tryd.prog.info? 30 = some Tryd.t30 := by kernel_rfl
@[simp] theorem agg30 : isAggT Tryd.prog 30 = false := by kernel_rfl
attribute [simp] Tryd.underlying30
@[simp] theorem bytes30 : Tryd.t30.bytes = 8 := rfl
@[simp] theorem zero30 : Tryd.t30.zero = some .nilFunc := rfl
@[simp] theorem cells31 : Tryd.prog.cellsOf 31 = 3 := by kernel_rfl
@[simp] theorem info31 : Tryd.prog.info? 31 = some Tryd.t31 := by kernel_rfl
@[simp] theorem agg31 : isAggT Tryd.prog 31 = true := by kernel_rfl
attribute [simp] Tryd.underlying31
@[simp] theorem bytes31 : Tryd.t31.bytes = 56 := rfl
@[simp] theorem zero31 : Tryd.t31.zero = some (.agg #[(.string ⟨#[]⟩), (.slice none 0 0), (.string ⟨#[]⟩)]) := rfl
@[simp] theorem cells32 : Tryd.prog.cellsOf 32 = 1 := by kernel_rfl
@[simp] theorem info32 : Tryd.prog.info? 32 = some Tryd.t32 := by kernel_rfl
@[simp] theorem agg32 : isAggT Tryd.prog 32 = false := by kernel_rfl
attribute [simp] Tryd.underlying32
@[simp] theorem bytes32 : Tryd.t32.bytes = 0 := rfl
@[simp] theorem cells33 : Tryd.prog.cellsOf 33 = 1 := by kernel_rfl
@[simp] theorem info33 : Tryd.prog.info? 33 = some Tryd.t33 := by kernel_rfl
@[simp] theorem agg33 : isAggT Tryd.prog 33 = false := by kernel_rfl
attribute [simp] Tryd.underlying33
@[simp] theorem bytes33 : Tryd.t33.bytes = 8 := rfl
@[simp] theorem zero33 : Tryd.t33.zero = some .nilFunc := rfl
@[simp] theorem cells34 : Tryd.prog.cellsOf 34 = 1 := by kernel_rfl
@[simp] theorem info34 : Tryd.prog.info? 34 = some Tryd.t34 := by kernel_rfl
@[simp] theorem agg34 : isAggT Tryd.prog 34 = false := by kernel_rfl
attribute [simp] Tryd.underlying34
@[simp] theorem bytes34 : Tryd.t34.bytes = 8 := rfl
@[simp] theorem zero34 : Tryd.t34.zero = some .nilFunc := rfl
@[simp] theorem cells35 : Tryd.prog.cellsOf 35 = 1 := by kernel_rfl
@[simp] theorem info35 : Tryd.prog.info? 35 = some Tryd.t35 := by kernel_rfl
@[simp] theorem agg35 : isAggT Tryd.prog 35 = false := by kernel_rfl
attribute [simp] Tryd.underlying35
@[simp] theorem bytes35 : Tryd.t35.bytes = 8 := rfl
@[simp] theorem zero35 : Tryd.t35.zero = some .nilFunc := rfl
@[simp] theorem cells36 : Tryd.prog.cellsOf 36 = 1 := by kernel_rfl
@[simp] theorem info36 : Tryd.prog.info? 36 = some Tryd.t36 := by kernel_rfl
@[simp] theorem agg36 : isAggT Tryd.prog 36 = false := by kernel_rfl
attribute [simp] Tryd.underlying36
@[simp] theorem bytes36 : Tryd.t36.bytes = 8 := rfl
@[simp] theorem zero36 : Tryd.t36.zero = some .nilFunc := rfl
@[simp] theorem cells37 : Tryd.prog.cellsOf 37 = 1 := by kernel_rfl
@[simp] theorem info37 : Tryd.prog.info? 37 = some Tryd.t37 := by kernel_rfl
@[simp] theorem agg37 : isAggT Tryd.prog 37 = false := by kernel_rfl
attribute [simp] Tryd.underlying37
@[simp] theorem bytes37 : Tryd.t37.bytes = 8 := rfl
@[simp] theorem zero37 : Tryd.t37.zero = some .nilFunc := rfl
@[simp] theorem cells38 : Tryd.prog.cellsOf 38 = 1 := by kernel_rfl
@[simp] theorem info38 : Tryd.prog.info? 38 = some Tryd.t38 := by kernel_rfl
@[simp] theorem agg38 : isAggT Tryd.prog 38 = false := by kernel_rfl
attribute [simp] Tryd.underlying38
@[simp] theorem bytes38 : Tryd.t38.bytes = 8 := rfl
@[simp] theorem zero38 : Tryd.t38.zero = some .nilFunc := rfl
@[simp] theorem cells39 : Tryd.prog.cellsOf 39 = 1 := by kernel_rfl
@[simp] theorem info39 : Tryd.prog.info? 39 = some Tryd.t39 := by kernel_rfl
@[simp] theorem agg39 : isAggT Tryd.prog 39 = false := by kernel_rfl
attribute [simp] Tryd.underlying39
@[simp] theorem bytes39 : Tryd.t39.bytes = 8 := rfl
@[simp] theorem zero39 : Tryd.t39.zero = some .nilFunc := rfl
@[simp] theorem cells40 : Tryd.prog.cellsOf 40 = 1 := by kernel_rfl
@[simp] theorem info40 : Tryd.prog.info? 40 = some Tryd.t40 := by kernel_rfl
@[simp] theorem agg40 : isAggT Tryd.prog 40 = false := by kernel_rfl
attribute [simp] Tryd.underlying40
@[simp] theorem bytes40 : Tryd.t40.bytes = 8 := rfl
@[simp] theorem zero40 : Tryd.t40.zero = some .nilFunc := rfl
@[simp] theorem cells41 : Tryd.prog.cellsOf 41 = 1 := by kernel_rfl
@[simp] theorem info41 : Tryd.prog.info? 41 = some Tryd.t41 := by kernel_rfl
@[simp] theorem agg41 : isAggT Tryd.prog 41 = false := by kernel_rfl
attribute [simp] Tryd.underlying41
@[simp] theorem bytes41 : Tryd.t41.bytes = 8 := rfl
@[simp] theorem zero41 : Tryd.t41.zero = some .nilFunc := rfl
@[simp] theorem cells42 : Tryd.prog.cellsOf 42 = 1 := by kernel_rfl
@[simp] theorem info42 : Tryd.prog.info? 42 = some Tryd.t42 := by kernel_rfl
@[simp] theorem agg42 : isAggT Tryd.prog 42 = false := by kernel_rfl
attribute [simp] Tryd.underlying42
@[simp] theorem bytes42 : Tryd.t42.bytes = 8 := rfl
@[simp] theorem zero42 : Tryd.t42.zero = some .nilFunc := rfl
@[simp] theorem cells43 : Tryd.prog.cellsOf 43 = 1 := by kernel_rfl
@[simp] theorem info43 : Tryd.prog.info? 43 = some Tryd.t43 := by kernel_rfl
@[simp] theorem agg43 : isAggT Tryd.prog 43 = false := by kernel_rfl
attribute [simp] Tryd.underlying43
@[simp] theorem bytes43 : Tryd.t43.bytes = 8 := rfl
@[simp] theorem zero43 : Tryd.t43.zero = some .nilFunc := rfl
@[simp] theorem cells44 : Tryd.prog.cellsOf 44 = 1 := by kernel_rfl
@[simp] theorem info44 : Tryd.prog.info? 44 = some Tryd.t44 := by kernel_rfl
@[simp] theorem agg44 : isAggT Tryd.prog 44 = false := by kernel_rfl
attribute [simp] Tryd.underlying44
@[simp] theorem bytes44 : Tryd.t44.bytes = 8 := rfl
@[simp] theorem zero44 : Tryd.t44.zero = some .nilFunc := rfl
@[simp] theorem cells45 : Tryd.prog.cellsOf 45 = 1 := by kernel_rfl
@[simp] theorem info45 : Tryd.prog.info? 45 = some Tryd.t45 := by kernel_rfl
@[simp] theorem agg45 : isAggT Tryd.prog 45 = false := by kernel_rfl
attribute [simp] Tryd.underlying45
@[simp] theorem bytes45 : Tryd.t45.bytes = 8 := rfl
@[simp] theorem zero45 : Tryd.t45.zero = some .nilFunc := rfl
@[simp] theorem cells46 : Tryd.prog.cellsOf 46 = 1 := by kernel_rfl
@[simp] theorem info46 : Tryd.prog.info? 46 = some Tryd.t46 := by kernel_rfl
@[simp] theorem agg46 : isAggT Tryd.prog 46 = false := by kernel_rfl
attribute [simp] Tryd.underlying46
@[simp] theorem bytes46 : Tryd.t46.bytes = 0 := rfl
@[simp] theorem cells47 : Tryd.prog.cellsOf 47 = 1 := by kernel_rfl
@[simp] theorem info47 : Tryd.prog.info? 47 = some Tryd.t47 := by kernel_rfl
@[simp] theorem agg47 : isAggT Tryd.prog 47 = false := by kernel_rfl
attribute [simp] Tryd.underlying47
@[simp] theorem bytes47 : Tryd.t47.bytes = 8 := rfl
@[simp] theorem zero47 : Tryd.t47.zero = some .nilFunc := rfl
@[simp] theorem cells48 : Tryd.prog.cellsOf 48 = 1 := by kernel_rfl
@[simp] theorem info48 : Tryd.prog.info? 48 = some Tryd.t48 := by kernel_rfl
@[simp] theorem agg48 : isAggT Tryd.prog 48 = false := by kernel_rfl
attribute [simp] Tryd.underlying48
@[simp] theorem bytes48 : Tryd.t48.bytes = 8 := rfl
@[simp] theorem zero48 : Tryd.t48.zero = some .nilFunc := rfl
@[simp] theorem cells49 : Tryd.prog.cellsOf 49 = 1 := by kernel_rfl
@[simp] theorem info49 : Tryd.prog.info? 49 = some Tryd.t49 := by kernel_rfl
@[simp] theorem agg49 : isAggT Tryd.prog 49 = false := by kernel_rfl
attribute [simp] Tryd.underlying49
@[simp] theorem bytes49 : Tryd.t49.bytes = 24 := rfl
@[simp] theorem zero49 : Tryd.t49.zero = some (.slice none 0 0) := rfl
@[simp] theorem cells50 : Tryd.prog.cellsOf 50 = 1 := by kernel_rfl
@[simp] theorem info50 : Tryd.prog.info? 50 = some Tryd.t50 := by kernel_rfl
@[simp] theorem agg50 : isAggT Tryd.prog 50 = false := by kernel_rfl
attribute [simp] Tryd.underlying50
@[simp] theorem bytes50 : Tryd.t50.bytes = 8 := rfl
@[simp] theorem zero50 : Tryd.t50.zero = some .nilFunc := rfl
@[simp] theorem cells51 : Tryd.prog.cellsOf 51 = 1 := by kernel_rfl
@[simp] theorem info51 : Tryd.prog.info? 51 = some Tryd.t51 := by kernel_rfl
@[simp] theorem agg51 : isAggT Tryd.prog 51 = false := by kernel_rfl
attribute [simp] Tryd.underlying51
@[simp] theorem bytes51 : Tryd.t51.bytes = 8 := rfl
@[simp] theorem zero51 : Tryd.t51.zero = some .nilFunc := rfl
@[simp] theorem cells52 : Tryd.prog.cellsOf 52 = 1 := by kernel_rfl
@[simp] theorem info52 : Tryd.prog.info? 52 = some Tryd.t52 := by kernel_rfl
@[simp] theorem agg52 : isAggT Tryd.prog 52 = false := by kernel_rfl
attribute [simp] Tryd.underlying52
@[simp] theorem bytes52 : Tryd.t52.bytes = 8 := rfl
@[simp] theorem zero52 : Tryd.t52.zero = some .nilFunc := rfl
@[simp] theorem cells53 : Tryd.prog.cellsOf 53 = 1 := by kernel_rfl
@[simp] theorem info53 : Tryd.prog.info? 53 = some Tryd.t53 := by kernel_rfl
@[simp] theorem agg53 : isAggT Tryd.prog 53 = false := by kernel_rfl
attribute [simp] Tryd.underlying53
@[simp] theorem bytes53 : Tryd.t53.bytes = 8 := rfl
@[simp] theorem zero53 : Tryd.t53.zero = some .nilFunc := rfl
@[simp] theorem cells54 : Tryd.prog.cellsOf 54 = 1 := by kernel_rfl
@[simp] theorem info54 : Tryd.prog.info? 54 = some Tryd.t54 := by kernel_rfl
@[simp] theorem agg54 : isAggT Tryd.prog 54 = false := by kernel_rfl
attribute [simp] Tryd.underlying54
@[simp] theorem bytes54 : Tryd.t54.bytes = 8 := rfl
@[simp] theorem zero54 : Tryd.t54.zero = some .nilFunc := rfl
@[simp] theorem cells55 : Tryd.prog.cellsOf 55 = 1 := by kernel_rfl
@[simp] theorem info55 : Tryd.prog.info? 55 = some Tryd.t55 := by kernel_rfl
@[simp] theorem agg55 : isAggT Tryd.prog 55 = false := by kernel_rfl
attribute [simp] Tryd.underlying55
@[simp] theorem bytes55 : Tryd.t55.bytes = 0 := rfl
@[simp] theorem cells56 : Tryd.prog.cellsOf 56 = 1 := by kernel_rfl
@[simp] theorem info56 : Tryd.prog.info? 56 = some Tryd.t56 := by kernel_rfl
@[simp] theorem agg56 : isAggT Tryd.prog 56 = false := by kernel_rfl
attribute [simp] Tryd.underlying56
@[simp] theorem bytes56 : Tryd.t56.bytes = 8 := rfl
@[simp] theorem zero56 : Tryd.t56.zero = some .nilFunc := rfl
@[simp] theorem cells57 : Tryd.prog.cellsOf 57 = 1 := by kernel_rfl
@[simp] theorem info57 : Tryd.prog.info? 57 = some Tryd.t57 := by kernel_rfl
@[simp] theorem agg57 : isAggT Tryd.prog 57 = false := by kernel_rfl
attribute [simp] Tryd.underlying57
@[simp] theorem bytes57 : Tryd.t57.bytes = 8 := rfl
@[simp] theorem zero57 : Tryd.t57.zero = some .nilFunc := rfl
@[simp] theorem cells58 : Tryd.prog.cellsOf 58 = 1 := by kernel_rfl
@[simp] theorem info58 : Tryd.prog.info? 58 = some Tryd.t58 := by kernel_rfl
@[simp] theorem agg58 : isAggT Tryd.prog 58 = false := by kernel_rfl
attribute [simp] Tryd.underlying58
@[simp] theorem bytes58 : Tryd.t58.bytes = 0 := rfl
@[simp] theorem cells59 : Tryd.prog.cellsOf 59 = 1 := by kernel_rfl
@[simp] theorem info59 : Tryd.prog.info? 59 = some Tryd.t59 := by kernel_rfl
@[simp] theorem agg59 : isAggT Tryd.prog 59 = false := by kernel_rfl
attribute [simp] Tryd.underlying59
@[simp] theorem bytes59 : Tryd.t59.bytes = 8 := rfl
@[simp] theorem zero59 : Tryd.t59.zero = some .nilFunc := rfl
@[simp] theorem cells60 : Tryd.prog.cellsOf 60 = 1 := by kernel_rfl
@[simp] theorem info60 : Tryd.prog.info? 60 = some Tryd.t60 := by kernel_rfl
@[simp] theorem agg60 : isAggT Tryd.prog 60 = false := by kernel_rfl
attribute [simp] Tryd.underlying60
@[simp] theorem bytes60 : Tryd.t60.bytes = 8 := rfl
@[simp] theorem zero60 : Tryd.t60.zero = some (.pointer none) := rfl
@[simp] theorem cells61 : Tryd.prog.cellsOf 61 = 1 := by kernel_rfl
@[simp] theorem info61 : Tryd.prog.info? 61 = some Tryd.t61 := by kernel_rfl
@[simp] theorem agg61 : isAggT Tryd.prog 61 = true := by kernel_rfl
attribute [simp] Tryd.underlying61
@[simp] theorem bytes61 : Tryd.t61.bytes = 16 := rfl
@[simp] theorem zero61 : Tryd.t61.zero = some (.agg #[(.string ⟨#[]⟩)]) := rfl
@[simp] theorem cells62 : Tryd.prog.cellsOf 62 = 1 := by kernel_rfl
@[simp] theorem info62 : Tryd.prog.info? 62 = some Tryd.t62 := by kernel_rfl
@[simp] theorem agg62 : isAggT Tryd.prog 62 = true := by kernel_rfl
attribute [simp] Tryd.underlying62
@[simp] theorem bytes62 : Tryd.t62.bytes = 16 := rfl
@[simp] theorem zero62 : Tryd.t62.zero = some (.agg #[(.string ⟨#[]⟩)]) := rfl
@[simp] theorem cells63 : Tryd.prog.cellsOf 63 = 1 := by kernel_rfl
@[simp] theorem info63 : Tryd.prog.info? 63 = some Tryd.t63 := by kernel_rfl
@[simp] theorem agg63 : isAggT Tryd.prog 63 = false := by kernel_rfl
attribute [simp] Tryd.underlying63
@[simp] theorem bytes63 : Tryd.t63.bytes = 8 := rfl
@[simp] theorem zero63 : Tryd.t63.zero = some .nilFunc := rfl
@[simp] theorem cells64 : Tryd.prog.cellsOf 64 = 1 := by kernel_rfl
@[simp] theorem info64 : Tryd.prog.info? 64 = some Tryd.t64 := by kernel_rfl
@[simp] theorem agg64 : isAggT Tryd.prog 64 = false := by kernel_rfl
attribute [simp] Tryd.underlying64
@[simp] theorem bytes64 : Tryd.t64.bytes = 8 := rfl
@[simp] theorem zero64 : Tryd.t64.zero = some .nilFunc := rfl
@[simp] theorem cells65 : Tryd.prog.cellsOf 65 = 1 := by kernel_rfl
@[simp] theorem info65 : Tryd.prog.info? 65 = some Tryd.t65 := by kernel_rfl
@[simp] theorem agg65 : isAggT Tryd.prog 65 = false := by kernel_rfl
attribute [simp] Tryd.underlying65
@[simp] theorem bytes65 : Tryd.t65.bytes = 8 := rfl
@[simp] theorem zero65 : Tryd.t65.zero = some .nilFunc := rfl
@[simp] theorem cells66 : Tryd.prog.cellsOf 66 = 1 := by kernel_rfl
@[simp] theorem info66 : Tryd.prog.info? 66 = some Tryd.t66 := by kernel_rfl
@[simp] theorem agg66 : isAggT Tryd.prog 66 = false := by kernel_rfl
attribute [simp] Tryd.underlying66
@[simp] theorem bytes66 : Tryd.t66.bytes = 8 := rfl
@[simp] theorem zero66 : Tryd.t66.zero = some .nilFunc := rfl
@[simp] theorem cells67 : Tryd.prog.cellsOf 67 = 1 := by kernel_rfl
@[simp] theorem info67 : Tryd.prog.info? 67 = some Tryd.t67 := by kernel_rfl
@[simp] theorem agg67 : isAggT Tryd.prog 67 = false := by kernel_rfl
attribute [simp] Tryd.underlying67
@[simp] theorem bytes67 : Tryd.t67.bytes = 8 := rfl
@[simp] theorem zero67 : Tryd.t67.zero = some .nilFunc := rfl
@[simp] theorem cells68 : Tryd.prog.cellsOf 68 = 1 := by kernel_rfl
@[simp] theorem info68 : Tryd.prog.info? 68 = some Tryd.t68 := by kernel_rfl
@[simp] theorem agg68 : isAggT Tryd.prog 68 = false := by kernel_rfl
attribute [simp] Tryd.underlying68
@[simp] theorem bytes68 : Tryd.t68.bytes = 8 := rfl
@[simp] theorem zero68 : Tryd.t68.zero = some .nilFunc := rfl
@[simp] theorem cells69 : Tryd.prog.cellsOf 69 = 1 := by kernel_rfl
@[simp] theorem info69 : Tryd.prog.info? 69 = some Tryd.t69 := by kernel_rfl
@[simp] theorem agg69 : isAggT Tryd.prog 69 = false := by kernel_rfl
attribute [simp] Tryd.underlying69
@[simp] theorem bytes69 : Tryd.t69.bytes = 8 := rfl
@[simp] theorem zero69 : Tryd.t69.zero = some (.pointer none) := rfl
@[simp] theorem cells70 : Tryd.prog.cellsOf 70 = 1 := by kernel_rfl
@[simp] theorem info70 : Tryd.prog.info? 70 = some Tryd.t70 := by kernel_rfl
@[simp] theorem agg70 : isAggT Tryd.prog 70 = false := by kernel_rfl
attribute [simp] Tryd.underlying70
@[simp] theorem bytes70 : Tryd.t70.bytes = 8 := rfl
@[simp] theorem zero70 : Tryd.t70.zero = some (.pointer none) := rfl
@[simp] theorem cells71 : Tryd.prog.cellsOf 71 = 2 := by kernel_rfl
@[simp] theorem info71 : Tryd.prog.info? 71 = some Tryd.t71 := by kernel_rfl
@[simp] theorem agg71 : isAggT Tryd.prog 71 = true := by kernel_rfl
attribute [simp] Tryd.underlying71
@[simp] theorem bytes71 : Tryd.t71.bytes = 32 := rfl
@[simp] theorem zero71 : Tryd.t71.zero = some (.agg #[(.pointer none), (.slice none 0 0)]) := rfl
@[simp] theorem cells72 : Tryd.prog.cellsOf 72 = 2 := by kernel_rfl
@[simp] theorem info72 : Tryd.prog.info? 72 = some Tryd.t72 := by kernel_rfl
@[simp] theorem agg72 : isAggT Tryd.prog 72 = true := by kernel_rfl
attribute [simp] Tryd.underlying72
@[simp] theorem bytes72 : Tryd.t72.bytes = 32 := rfl
@[simp] theorem zero72 : Tryd.t72.zero = some (.agg #[(.pointer none), (.slice none 0 0)]) := rfl
@[simp] theorem cells73 : Tryd.prog.cellsOf 73 = 1 := by kernel_rfl
@[simp] theorem info73 : Tryd.prog.info? 73 = some Tryd.t73 := by kernel_rfl
@[simp] theorem agg73 : isAggT Tryd.prog 73 = false := by kernel_rfl
attribute [simp] Tryd.underlying73
@[simp] theorem bytes73 : Tryd.t73.bytes = 24 := rfl
@[simp] theorem zero73 : Tryd.t73.zero = some (.slice none 0 0) := rfl
@[simp] theorem cells74 : Tryd.prog.cellsOf 74 = 3 := by kernel_rfl
@[simp] theorem info74 : Tryd.prog.info? 74 = some Tryd.t74 := by kernel_rfl
@[simp] theorem agg74 : isAggT Tryd.prog 74 = true := by kernel_rfl
attribute [simp] Tryd.underlying74
@[simp] theorem bytes74 : Tryd.t74.bytes = 56 := rfl
@[simp] theorem zero74 : Tryd.t74.zero = some (.agg #[(.pointer none), (.slice none 0 0), (.slice none 0 0)]) := rfl
@[simp] theorem cells75 : Tryd.prog.cellsOf 75 = 3 := by kernel_rfl
@[simp] theorem info75 : Tryd.prog.info? 75 = some Tryd.t75 := by kernel_rfl
@[simp] theorem agg75 : isAggT Tryd.prog 75 = true := by kernel_rfl
attribute [simp] Tryd.underlying75
@[simp] theorem bytes75 : Tryd.t75.bytes = 56 := rfl
@[simp] theorem zero75 : Tryd.t75.zero = some (.agg #[(.pointer none), (.slice none 0 0), (.slice none 0 0)]) := rfl
@[simp] theorem cells76 : Tryd.prog.cellsOf 76 = 1 := by kernel_rfl
@[simp] theorem info76 : Tryd.prog.info? 76 = some Tryd.t76 := by kernel_rfl
@[simp] theorem agg76 : isAggT Tryd.prog 76 = false := by kernel_rfl
attribute [simp] Tryd.underlying76
@[simp] theorem bytes76 : Tryd.t76.bytes = 16 := rfl
@[simp] theorem zero76 : Tryd.t76.zero = some .nilIface := rfl
@[simp] theorem cells77 : Tryd.prog.cellsOf 77 = 1 := by kernel_rfl
@[simp] theorem info77 : Tryd.prog.info? 77 = some Tryd.t77 := by kernel_rfl
@[simp] theorem agg77 : isAggT Tryd.prog 77 = false := by kernel_rfl
attribute [simp] Tryd.underlying77
@[simp] theorem bytes77 : Tryd.t77.bytes = 16 := rfl
@[simp] theorem zero77 : Tryd.t77.zero = some .nilIface := rfl
@[simp] theorem cells78 : Tryd.prog.cellsOf 78 = 1 := by kernel_rfl
@[simp] theorem info78 : Tryd.prog.info? 78 = some Tryd.t78 := by kernel_rfl
@[simp] theorem agg78 : isAggT Tryd.prog 78 = false := by kernel_rfl
attribute [simp] Tryd.underlying78
@[simp] theorem bytes78 : Tryd.t78.bytes = 8 := rfl
@[simp] theorem zero78 : Tryd.t78.zero = some .nilFunc := rfl
@[simp] theorem cells79 : Tryd.prog.cellsOf 79 = 1 := by kernel_rfl
@[simp] theorem info79 : Tryd.prog.info? 79 = some Tryd.t79 := by kernel_rfl
@[simp] theorem agg79 : isAggT Tryd.prog 79 = false := by kernel_rfl
attribute [simp] Tryd.underlying79
@[simp] theorem bytes79 : Tryd.t79.bytes = 8 := rfl
@[simp] theorem zero79 : Tryd.t79.zero = some .nilFunc := rfl
@[simp] theorem cells80 : Tryd.prog.cellsOf 80 = 2 := by kernel_rfl
@[simp] theorem info80 : Tryd.prog.info? 80 = some Tryd.t80 := by kernel_rfl
@[simp] theorem agg80 : isAggT Tryd.prog 80 = true := by kernel_rfl
attribute [simp] Tryd.underlying80
@[simp] theorem bytes80 : Tryd.t80.bytes = 24 := rfl
@[simp] theorem zero80 : Tryd.t80.zero = some (.agg #[(.string ⟨#[]⟩), (.int .i64 0)]) := rfl
@[simp] theorem cells81 : Tryd.prog.cellsOf 81 = 2 := by kernel_rfl
@[simp] theorem info81 : Tryd.prog.info? 81 = some Tryd.t81 := by kernel_rfl
@[simp] theorem agg81 : isAggT Tryd.prog 81 = true := by kernel_rfl
attribute [simp] Tryd.underlying81
@[simp] theorem bytes81 : Tryd.t81.bytes = 24 := rfl
@[simp] theorem zero81 : Tryd.t81.zero = some (.agg #[(.string ⟨#[]⟩), (.int .i64 0)]) := rfl
@[simp] theorem cells82 : Tryd.prog.cellsOf 82 = 4 := by kernel_rfl
@[simp] theorem info82 : Tryd.prog.info? 82 = some Tryd.t82 := by kernel_rfl
@[simp] theorem agg82 : isAggT Tryd.prog 82 = true := by kernel_rfl
attribute [simp] Tryd.underlying82
@[simp] theorem bytes82 : Tryd.t82.bytes = 48 := rfl
@[simp] theorem zero82 : Tryd.t82.zero = some (.agg #[(.string ⟨#[]⟩), (.int .i64 0), (.string ⟨#[]⟩), (.int .i64 0)]) := rfl
@[simp] theorem cells83 : Tryd.prog.cellsOf 83 = 1 := by kernel_rfl
@[simp] theorem info83 : Tryd.prog.info? 83 = some Tryd.t83 := by kernel_rfl
@[simp] theorem agg83 : isAggT Tryd.prog 83 = false := by kernel_rfl
attribute [simp] Tryd.underlying83
@[simp] theorem bytes83 : Tryd.t83.bytes = 8 := rfl
@[simp] theorem cells84 : Tryd.prog.cellsOf 84 = 1 := by kernel_rfl
@[simp] theorem info84 : Tryd.prog.info? 84 = some Tryd.t84 := by kernel_rfl
@[simp] theorem agg84 : isAggT Tryd.prog 84 = false := by kernel_rfl
attribute [simp] Tryd.underlying84
@[simp] theorem bytes84 : Tryd.t84.bytes = 8 := rfl
@[simp] theorem zero84 : Tryd.t84.zero = some .nilFunc := rfl
@[simp] theorem cells85 : Tryd.prog.cellsOf 85 = 1 := by kernel_rfl
@[simp] theorem info85 : Tryd.prog.info? 85 = some Tryd.t85 := by kernel_rfl
@[simp] theorem agg85 : isAggT Tryd.prog 85 = false := by kernel_rfl
attribute [simp] Tryd.underlying85
@[simp] theorem bytes85 : Tryd.t85.bytes = 24 := rfl
@[simp] theorem zero85 : Tryd.t85.zero = some (.slice none 0 0) := rfl
@[simp] theorem cells86 : Tryd.prog.cellsOf 86 = 1 := by kernel_rfl
@[simp] theorem info86 : Tryd.prog.info? 86 = some Tryd.t86 := by kernel_rfl
@[simp] theorem agg86 : isAggT Tryd.prog 86 = false := by kernel_rfl
attribute [simp] Tryd.underlying86
@[simp] theorem bytes86 : Tryd.t86.bytes = 8 := rfl
@[simp] theorem zero86 : Tryd.t86.zero = some .nilFunc := rfl
@[simp] theorem cells87 : Tryd.prog.cellsOf 87 = 1 := by kernel_rfl
@[simp] theorem info87 : Tryd.prog.info? 87 = some Tryd.t87 := by kernel_rfl
@[simp] theorem agg87 : isAggT Tryd.prog 87 = false := by kernel_rfl
attribute [simp] Tryd.underlying87
@[simp] theorem bytes87 : Tryd.t87.bytes = 8 := rfl
@[simp] theorem zero87 : Tryd.t87.zero = some .nilFunc := rfl
@[simp] theorem cells88 : Tryd.prog.cellsOf 88 = 1 := by kernel_rfl
@[simp] theorem info88 : Tryd.prog.info? 88 = some Tryd.t88 := by kernel_rfl
@[simp] theorem agg88 : isAggT Tryd.prog 88 = false := by kernel_rfl
attribute [simp] Tryd.underlying88
@[simp] theorem bytes88 : Tryd.t88.bytes = 8 := rfl
@[simp] theorem zero88 : Tryd.t88.zero = some .nilFunc := rfl
@[simp] theorem cells89 : Tryd.prog.cellsOf 89 = 1 := by kernel_rfl
@[simp] theorem info89 : Tryd.prog.info? 89 = some Tryd.t89 := by kernel_rfl
@[simp] theorem agg89 : isAggT Tryd.prog 89 = false := by kernel_rfl
attribute [simp] Tryd.underlying89
@[simp] theorem bytes89 : Tryd.t89.bytes = 8 := rfl
@[simp] theorem zero89 : Tryd.t89.zero = some .nilFunc := rfl
@[simp] theorem cells90 : Tryd.prog.cellsOf 90 = 0 := by kernel_rfl
@[simp] theorem info90 : Tryd.prog.info? 90 = some Tryd.t90 := by kernel_rfl
@[simp] theorem agg90 : isAggT Tryd.prog 90 = true := by kernel_rfl
attribute [simp] Tryd.underlying90
@[simp] theorem bytes90 : Tryd.t90.bytes = 0 := rfl
@[simp] theorem zero90 : Tryd.t90.zero = some (.agg #[]) := rfl
@[simp] theorem cells91 : Tryd.prog.cellsOf 91 = 0 := by kernel_rfl
@[simp] theorem info91 : Tryd.prog.info? 91 = some Tryd.t91 := by kernel_rfl
@[simp] theorem agg91 : isAggT Tryd.prog 91 = true := by kernel_rfl
attribute [simp] Tryd.underlying91
@[simp] theorem bytes91 : Tryd.t91.bytes = 0 := rfl
@[simp] theorem zero91 : Tryd.t91.zero = some (.agg #[]) := rfl
@[simp] theorem cells92 : Tryd.prog.cellsOf 92 = 1 := by kernel_rfl
@[simp] theorem info92 : Tryd.prog.info? 92 = some Tryd.t92 := by kernel_rfl
@[simp] theorem agg92 : isAggT Tryd.prog 92 = false := by kernel_rfl
attribute [simp] Tryd.underlying92
@[simp] theorem bytes92 : Tryd.t92.bytes = 0 := rfl
@[simp] theorem cells93 : Tryd.prog.cellsOf 93 = 1 := by kernel_rfl
@[simp] theorem info93 : Tryd.prog.info? 93 = some Tryd.t93 := by kernel_rfl
@[simp] theorem agg93 : isAggT Tryd.prog 93 = false := by kernel_rfl
attribute [simp] Tryd.underlying93
@[simp] theorem bytes93 : Tryd.t93.bytes = 8 := rfl
@[simp] theorem zero93 : Tryd.t93.zero = some .nilFunc := rfl
@[simp] theorem cells94 : Tryd.prog.cellsOf 94 = 1 := by kernel_rfl
@[simp] theorem info94 : Tryd.prog.info? 94 = some Tryd.t94 := by kernel_rfl
@[simp] theorem agg94 : isAggT Tryd.prog 94 = false := by kernel_rfl
attribute [simp] Tryd.underlying94
@[simp] theorem bytes94 : Tryd.t94.bytes = 8 := rfl
@[simp] theorem zero94 : Tryd.t94.zero = some .nilFunc := rfl
@[simp] theorem cells95 : Tryd.prog.cellsOf 95 = 1 := by kernel_rfl
@[simp] theorem info95 : Tryd.prog.info? 95 = some Tryd.t95 := by kernel_rfl
@[simp] theorem agg95 : isAggT Tryd.prog 95 = false := by kernel_rfl
attribute [simp] Tryd.underlying95
@[simp] theorem bytes95 : Tryd.t95.bytes = 8 := rfl
@[simp] theorem zero95 : Tryd.t95.zero = some .nilFunc := rfl
@[simp] theorem cells96 : Tryd.prog.cellsOf 96 = 1 := by kernel_rfl
@[simp] theorem info96 : Tryd.prog.info? 96 = some Tryd.t96 := by kernel_rfl
@[simp] theorem agg96 : isAggT Tryd.prog 96 = false := by kernel_rfl
attribute [simp] Tryd.underlying96
@[simp] theorem bytes96 : Tryd.t96.bytes = 0 := rfl
@[simp] theorem cells97 : Tryd.prog.cellsOf 97 = 1 := by kernel_rfl
@[simp] theorem info97 : Tryd.prog.info? 97 = some Tryd.t97 := by kernel_rfl
@[simp] theorem agg97 : isAggT Tryd.prog 97 = false := by kernel_rfl
attribute [simp] Tryd.underlying97
@[simp] theorem bytes97 : Tryd.t97.bytes = 8 := rfl
@[simp] theorem zero97 : Tryd.t97.zero = some .nilFunc := rfl
@[simp] theorem cells98 : Tryd.prog.cellsOf 98 = 1 := by kernel_rfl
@[simp] theorem info98 : Tryd.prog.info? 98 = some Tryd.t98 := by kernel_rfl
@[simp] theorem agg98 : isAggT Tryd.prog 98 = false := by kernel_rfl
attribute [simp] Tryd.underlying98
@[simp] theorem bytes98 : Tryd.t98.bytes = 8 := rfl
@[simp] theorem zero98 : Tryd.t98.zero = some (.pointer none) := rfl
@[simp] theorem cells99 : Tryd.prog.cellsOf 99 = 1 := by kernel_rfl
@[simp] theorem info99 : Tryd.prog.info? 99 = some Tryd.t99 := by kernel_rfl
@[simp] theorem agg99 : isAggT Tryd.prog 99 = false := by kernel_rfl
attribute [simp] Tryd.underlying99
@[simp] theorem bytes99 : Tryd.t99.bytes = 8 := rfl
@[simp] theorem zero99 : Tryd.t99.zero = some .nilFunc := rfl
@[simp] theorem cells100 : Tryd.prog.cellsOf 100 = 1 := by kernel_rfl
@[simp] theorem info100 : Tryd.prog.info? 100 = some Tryd.t100 := by kernel_rfl
@[simp] theorem agg100 : isAggT Tryd.prog 100 = false := by kernel_rfl
attribute [simp] Tryd.underlying100
@[simp] theorem bytes100 : Tryd.t100.bytes = 8 := rfl
@[simp] theorem zero100 : Tryd.t100.zero = some .nilFunc := rfl
@[simp] theorem cells101 : Tryd.prog.cellsOf 101 = 1 := by kernel_rfl
@[simp] theorem info101 : Tryd.prog.info? 101 = some Tryd.t101 := by kernel_rfl
@[simp] theorem agg101 : isAggT Tryd.prog 101 = false := by kernel_rfl
attribute [simp] Tryd.underlying101
@[simp] theorem bytes101 : Tryd.t101.bytes = 24 := rfl
@[simp] theorem zero101 : Tryd.t101.zero = some (.slice none 0 0) := rfl
@[simp] theorem cells102 : Tryd.prog.cellsOf 102 = 1 := by kernel_rfl
@[simp] theorem info102 : Tryd.prog.info? 102 = some Tryd.t102 := by kernel_rfl
@[simp] theorem agg102 : isAggT Tryd.prog 102 = false := by kernel_rfl
attribute [simp] Tryd.underlying102
@[simp] theorem bytes102 : Tryd.t102.bytes = 8 := rfl
@[simp] theorem zero102 : Tryd.t102.zero = some .nilFunc := rfl
@[simp] theorem cells103 : Tryd.prog.cellsOf 103 = 1 := by kernel_rfl
@[simp] theorem info103 : Tryd.prog.info? 103 = some Tryd.t103 := by kernel_rfl
@[simp] theorem agg103 : isAggT Tryd.prog 103 = false := by kernel_rfl
attribute [simp] Tryd.underlying103
@[simp] theorem bytes103 : Tryd.t103.bytes = 8 := rfl
@[simp] theorem zero103 : Tryd.t103.zero = some .nilFunc := rfl
@[simp] theorem cells104 : Tryd.prog.cellsOf 104 = 1 := by kernel_rfl
@[simp] theorem info104 : Tryd.prog.info? 104 = some Tryd.t104 := by kernel_rfl
@[simp] theorem agg104 : isAggT Tryd.prog 104 = false := by kernel_rfl
attribute [simp] Tryd.underlying104
@[simp] theorem bytes104 : Tryd.t104.bytes = 8 := rfl
@[simp] theorem zero104 : Tryd.t104.zero = some .nilFunc := rfl
@[simp] theorem cells105 : Tryd.prog.cellsOf 105 = 1 := by kernel_rfl
@[simp] theorem info105 : Tryd.prog.info? 105 = some Tryd.t105 := by kernel_rfl
@[simp] theorem agg105 : isAggT Tryd.prog 105 = false := by kernel_rfl
attribute [simp] Tryd.underlying105
@[simp] theorem bytes105 : Tryd.t105.bytes = 8 := rfl
@[simp] theorem zero105 : Tryd.t105.zero = some (.pointer none) := rfl
@[simp] theorem cells106 : Tryd.prog.cellsOf 106 = 1 := by kernel_rfl
@[simp] theorem info106 : Tryd.prog.info? 106 = some Tryd.t106 := by kernel_rfl
@[simp] theorem agg106 : isAggT Tryd.prog 106 = false := by kernel_rfl
attribute [simp] Tryd.underlying106
@[simp] theorem bytes106 : Tryd.t106.bytes = 8 := rfl
@[simp] theorem zero106 : Tryd.t106.zero = some .nilFunc := rfl
@[simp] theorem cells107 : Tryd.prog.cellsOf 107 = 1 := by kernel_rfl
@[simp] theorem info107 : Tryd.prog.info? 107 = some Tryd.t107 := by kernel_rfl
@[simp] theorem agg107 : isAggT Tryd.prog 107 = false := by kernel_rfl
attribute [simp] Tryd.underlying107
@[simp] theorem bytes107 : Tryd.t107.bytes = 0 := rfl
@[simp] theorem cells108 : Tryd.prog.cellsOf 108 = 1 := by kernel_rfl
@[simp] theorem info108 : Tryd.prog.info? 108 = some Tryd.t108 := by kernel_rfl
@[simp] theorem agg108 : isAggT Tryd.prog 108 = false := by kernel_rfl
attribute [simp] Tryd.underlying108
@[simp] theorem bytes108 : Tryd.t108.bytes = 8 := rfl
@[simp] theorem zero108 : Tryd.t108.zero = some .nilFunc := rfl
@[simp] theorem cells109 : Tryd.prog.cellsOf 109 = 1 := by kernel_rfl
@[simp] theorem info109 : Tryd.prog.info? 109 = some Tryd.t109 := by kernel_rfl
@[simp] theorem agg109 : isAggT Tryd.prog 109 = false := by kernel_rfl
attribute [simp] Tryd.underlying109
@[simp] theorem bytes109 : Tryd.t109.bytes = 8 := rfl
@[simp] theorem zero109 : Tryd.t109.zero = some .nilFunc := rfl
@[simp] theorem cells110 : Tryd.prog.cellsOf 110 = 1 := by kernel_rfl
@[simp] theorem info110 : Tryd.prog.info? 110 = some Tryd.t110 := by kernel_rfl
@[simp] theorem agg110 : isAggT Tryd.prog 110 = false := by kernel_rfl
attribute [simp] Tryd.underlying110
@[simp] theorem bytes110 : Tryd.t110.bytes = 8 := rfl
@[simp] theorem zero110 : Tryd.t110.zero = some (.pointer none) := rfl
@[simp] theorem cells111 : Tryd.prog.cellsOf 111 = 1 := by kernel_rfl
@[simp] theorem info111 : Tryd.prog.info? 111 = some Tryd.t111 := by kernel_rfl
@[simp] theorem agg111 : isAggT Tryd.prog 111 = false := by kernel_rfl
attribute [simp] Tryd.underlying111
@[simp] theorem bytes111 : Tryd.t111.bytes = 8 := rfl
@[simp] theorem zero111 : Tryd.t111.zero = some .nilFunc := rfl
@[simp] theorem cells112 : Tryd.prog.cellsOf 112 = 1 := by kernel_rfl
@[simp] theorem info112 : Tryd.prog.info? 112 = some Tryd.t112 := by kernel_rfl
@[simp] theorem agg112 : isAggT Tryd.prog 112 = false := by kernel_rfl
attribute [simp] Tryd.underlying112
@[simp] theorem bytes112 : Tryd.t112.bytes = 8 := rfl
@[simp] theorem zero112 : Tryd.t112.zero = some .nilFunc := rfl
@[simp] theorem cells113 : Tryd.prog.cellsOf 113 = 1 := by kernel_rfl
@[simp] theorem info113 : Tryd.prog.info? 113 = some Tryd.t113 := by kernel_rfl
@[simp] theorem agg113 : isAggT Tryd.prog 113 = false := by kernel_rfl
attribute [simp] Tryd.underlying113
@[simp] theorem bytes113 : Tryd.t113.bytes = 8 := rfl
@[simp] theorem zero113 : Tryd.t113.zero = some .nilFunc := rfl
@[simp] theorem cells114 : Tryd.prog.cellsOf 114 = 1 := by kernel_rfl
@[simp] theorem info114 : Tryd.prog.info? 114 = some Tryd.t114 := by kernel_rfl
@[simp] theorem agg114 : isAggT Tryd.prog 114 = false := by kernel_rfl
attribute [simp] Tryd.underlying114
@[simp] theorem bytes114 : Tryd.t114.bytes = 8 := rfl
@[simp] theorem zero114 : Tryd.t114.zero = some .nilFunc := rfl
@[simp] theorem cells115 : Tryd.prog.cellsOf 115 = 1 := by kernel_rfl
@[simp] theorem info115 : Tryd.prog.info? 115 = some Tryd.t115 := by kernel_rfl
@[simp] theorem agg115 : isAggT Tryd.prog 115 = false := by kernel_rfl
attribute [simp] Tryd.underlying115
@[simp] theorem bytes115 : Tryd.t115.bytes = 4 := rfl
@[simp] theorem zero115 : Tryd.t115.zero = some (.int .u32 0) := rfl
@[simp] theorem cells116 : Tryd.prog.cellsOf 116 = 1 := by kernel_rfl
@[simp] theorem info116 : Tryd.prog.info? 116 = some Tryd.t116 := by kernel_rfl
@[simp] theorem agg116 : isAggT Tryd.prog 116 = false := by kernel_rfl
attribute [simp] Tryd.underlying116
@[simp] theorem bytes116 : Tryd.t116.bytes = 24 := rfl
@[simp] theorem zero116 : Tryd.t116.zero = some (.slice none 0 0) := rfl
@[simp] theorem cells117 : Tryd.prog.cellsOf 117 = 1 := by kernel_rfl
@[simp] theorem info117 : Tryd.prog.info? 117 = some Tryd.t117 := by kernel_rfl
@[simp] theorem agg117 : isAggT Tryd.prog 117 = false := by kernel_rfl
attribute [simp] Tryd.underlying117
@[simp] theorem bytes117 : Tryd.t117.bytes = 8 := rfl
@[simp] theorem zero117 : Tryd.t117.zero = some .nilFunc := rfl
@[simp] theorem cells118 : Tryd.prog.cellsOf 118 = 1 := by kernel_rfl
@[simp] theorem info118 : Tryd.prog.info? 118 = some Tryd.t118 := by kernel_rfl
@[simp] theorem agg118 : isAggT Tryd.prog 118 = false := by kernel_rfl
attribute [simp] Tryd.underlying118
@[simp] theorem bytes118 : Tryd.t118.bytes = 8 := rfl
@[simp] theorem zero118 : Tryd.t118.zero = some .nilFunc := rfl
@[simp] theorem cells119 : Tryd.prog.cellsOf 119 = 1 := by kernel_rfl
@[simp] theorem info119 : Tryd.prog.info? 119 = some Tryd.t119 := by kernel_rfl
@[simp] theorem agg119 : isAggT Tryd.prog 119 = false := by kernel_rfl
attribute [simp] Tryd.underlying119
@[simp] theorem bytes119 : Tryd.t119.bytes = 8 := rfl
@[simp] theorem zero119 : Tryd.t119.zero = some .nilFunc := rfl
@[simp] theorem cells120 : Tryd.prog.cellsOf 120 = 8 := by kernel_rfl
@[simp] theorem info120 : Tryd.prog.info? 120 = some Tryd.t120 := by kernel_rfl
@[simp] theorem agg120 : isAggT Tryd.prog 120 = true := by kernel_rfl
attribute [simp] Tryd.underlying120
@[simp] theorem bytes120 : Tryd.t120.bytes = 32 := rfl
@[simp] theorem zero120 : Tryd.t120.zero = some (.agg #[(.int .u32 0), (.int .u32 0), (.int .u32 0), (.int .u32 0), (.int .u32 0), (.int .u32 0), (.int .u32 0), (.int .u32 0)]) := rfl
@[simp] theorem cells121 : Tryd.prog.cellsOf 121 = 10 := by kernel_rfl
@[simp] theorem info121 : Tryd.prog.info? 121 = some Tryd.t121 := by kernel_rfl
@[simp] theorem agg121 : isAggT Tryd.prog 121 = true := by kernel_rfl
attribute [simp] Tryd.underlying121
@[simp] theorem bytes121 : Tryd.t121.bytes = 56 := rfl
@[simp] theorem zero121 : Tryd.t121.zero = some (.agg #[(.int .u32 0), (.int .u32 0), (.int .u32 0), (.int .u32 0), (.int .u32 0), (.int .u32 0), (.int .u32 0), (.int .u32 0), (.string ⟨#[]⟩), (.int .i64 0)]) := rfl
@[simp] theorem cells122 : Tryd.prog.cellsOf 122 = 10 := by kernel_rfl
@[simp] theorem info122 : Tryd.prog.info? 122 = some Tryd.t122 := by kernel_rfl
@[simp] theorem agg122 : isAggT Tryd.prog 122 = true := by kernel_rfl
attribute [simp] Tryd.underlying122
@[simp] theorem bytes122 : Tryd.t122.bytes = 56 := rfl
@[simp] theorem zero122 : Tryd.t122.zero = some (.agg #[(.int .u32 0), (.int .u32 0), (.int .u32 0), (.int .u32 0), (.int .u32 0), (.int .u32 0), (.int .u32 0), (.int .u32 0), (.string ⟨#[]⟩), (.int .i64 0)]) := rfl
@[simp] theorem cells123 : Tryd.prog.cellsOf 123 = 1 := by kernel_rfl
@[simp] theorem info123 : Tryd.prog.info? 123 = some Tryd.t123 := by kernel_rfl
@[simp] theorem agg123 : isAggT Tryd.prog 123 = false := by kernel_rfl
attribute [simp] Tryd.underlying123
@[simp] theorem bytes123 : Tryd.t123.bytes = 8 := rfl
@[simp] theorem zero123 : Tryd.t123.zero = some .nilFunc := rfl
@[simp] theorem cells124 : Tryd.prog.cellsOf 124 = 1 := by kernel_rfl
@[simp] theorem info124 : Tryd.prog.info? 124 = some Tryd.t124 := by kernel_rfl
@[simp] theorem agg124 : isAggT Tryd.prog 124 = false := by kernel_rfl
attribute [simp] Tryd.underlying124
@[simp] theorem bytes124 : Tryd.t124.bytes = 8 := rfl
@[simp] theorem zero124 : Tryd.t124.zero = some .nilFunc := rfl
@[simp] theorem cells125 : Tryd.prog.cellsOf 125 = 1 := by kernel_rfl
@[simp] theorem info125 : Tryd.prog.info? 125 = some Tryd.t125 := by kernel_rfl
@[simp] theorem agg125 : isAggT Tryd.prog 125 = false := by kernel_rfl
attribute [simp] Tryd.underlying125
@[simp] theorem bytes125 : Tryd.t125.bytes = 8 := rfl
@[simp] theorem zero125 : Tryd.t125.zero = some .nilFunc := rfl
@[simp] theorem cells126 : Tryd.prog.cellsOf 126 = 1 := by kernel_rfl
@[simp] theorem info126 : Tryd.prog.info? 126 = some Tryd.t126 := by kernel_rfl
@[simp] theorem agg126 : isAggT Tryd.prog 126 = false := by kernel_rfl
attribute [simp] Tryd.underlying126
@[simp] theorem bytes126 : Tryd.t126.bytes = 8 := rfl
@[simp] theorem zero126 : Tryd.t126.zero = some .nilFunc := rfl
@[simp] theorem cells127 : Tryd.prog.cellsOf 127 = 1 := by kernel_rfl
@[simp] theorem info127 : Tryd.prog.info? 127 = some Tryd.t127 := by kernel_rfl
@[simp] theorem agg127 : isAggT Tryd.prog 127 = false := by kernel_rfl
attribute [simp] Tryd.underlying127
@[simp] theorem bytes127 : Tryd.t127.bytes = 8 := rfl
@[simp] theorem zero127 : Tryd.t127.zero = some .nilFunc := rfl
@[simp] theorem cells128 : Tryd.prog.cellsOf 128 = 1 := by kernel_rfl
@[simp] theorem info128 : Tryd.prog.info? 128 = some Tryd.t128 := by kernel_rfl
@[simp] theorem agg128 : isAggT Tryd.prog 128 = false := by kernel_rfl
attribute [simp] Tryd.underlying128
@[simp] theorem bytes128 : Tryd.t128.bytes = 8 := rfl
@[simp] theorem zero128 : Tryd.t128.zero = some .nilFunc := rfl
@[simp] theorem cells129 : Tryd.prog.cellsOf 129 = 1 := by kernel_rfl
@[simp] theorem info129 : Tryd.prog.info? 129 = some Tryd.t129 := by kernel_rfl
@[simp] theorem agg129 : isAggT Tryd.prog 129 = false := by kernel_rfl
attribute [simp] Tryd.underlying129
@[simp] theorem bytes129 : Tryd.t129.bytes = 8 := rfl
@[simp] theorem zero129 : Tryd.t129.zero = some .nilFunc := rfl
@[simp] theorem cells130 : Tryd.prog.cellsOf 130 = 1 := by kernel_rfl
@[simp] theorem info130 : Tryd.prog.info? 130 = some Tryd.t130 := by kernel_rfl
@[simp] theorem agg130 : isAggT Tryd.prog 130 = false := by kernel_rfl
attribute [simp] Tryd.underlying130
@[simp] theorem bytes130 : Tryd.t130.bytes = 8 := rfl
@[simp] theorem zero130 : Tryd.t130.zero = some .nilFunc := rfl
@[simp] theorem cells131 : Tryd.prog.cellsOf 131 = 1 := by kernel_rfl
@[simp] theorem info131 : Tryd.prog.info? 131 = some Tryd.t131 := by kernel_rfl
@[simp] theorem agg131 : isAggT Tryd.prog 131 = false := by kernel_rfl
attribute [simp] Tryd.underlying131
@[simp] theorem bytes131 : Tryd.t131.bytes = 8 := rfl
@[simp] theorem zero131 : Tryd.t131.zero = some .nilFunc := rfl
@[simp] theorem cells132 : Tryd.prog.cellsOf 132 = 1 := by kernel_rfl
@[simp] theorem info132 : Tryd.prog.info? 132 = some Tryd.t132 := by kernel_rfl
@[simp] theorem agg132 : isAggT Tryd.prog 132 = false := by kernel_rfl
attribute [simp] Tryd.underlying132
@[simp] theorem bytes132 : Tryd.t132.bytes = 8 := rfl
@[simp] theorem zero132 : Tryd.t132.zero = some (.int .u64 0) := rfl
@[simp] theorem cells133 : Tryd.prog.cellsOf 133 = 1 := by kernel_rfl
@[simp] theorem info133 : Tryd.prog.info? 133 = some Tryd.t133 := by kernel_rfl
@[simp] theorem agg133 : isAggT Tryd.prog 133 = false := by kernel_rfl
attribute [simp] Tryd.underlying133
@[simp] theorem bytes133 : Tryd.t133.bytes = 0 := rfl
@[simp] theorem cells134 : Tryd.prog.cellsOf 134 = 1 := by kernel_rfl
@[simp] theorem info134 : Tryd.prog.info? 134 = some Tryd.t134 := by kernel_rfl
@[simp] theorem agg134 : isAggT Tryd.prog 134 = false := by kernel_rfl
attribute [simp] Tryd.underlying134
@[simp] theorem bytes134 : Tryd.t134.bytes = 8 := rfl
@[simp] theorem zero134 : Tryd.t134.zero = some .nilFunc := rfl
@[simp] theorem cells135 : Tryd.prog.cellsOf 135 = 1 := by kernel_rfl
@[simp] theorem info135 : Tryd.prog.info? 135 = some Tryd.t135 := by kernel_rfl
@[simp] theorem agg135 : isAggT Tryd.prog 135 = false := by kernel_rfl
attribute [simp] Tryd.underlying135
@[simp] theorem bytes135 : Tryd.t135.bytes = 8 := rfl
@[simp] theorem zero135 : Tryd.t135.zero = some .nilFunc := rfl
@[simp] theorem cells136 : Tryd.prog.cellsOf 136 = 1 := by kernel_rfl
@[simp] theorem info136 : Tryd.prog.info? 136 = some Tryd.t136 := by kernel_rfl
@[simp] theorem agg136 : isAggT Tryd.prog 136 = false := by kernel_rfl
attribute [simp] Tryd.underlying136
@[simp] theorem bytes136 : Tryd.t136.bytes = 8 := rfl
@[simp] theorem zero136 : Tryd.t136.zero = some .nilFunc := rfl
@[simp] theorem cells137 : Tryd.prog.cellsOf 137 = 16 := by kernel_rfl
@[simp] theorem info137 : Tryd.prog.info? 137 = some Tryd.t137 := by kernel_rfl
@[simp] theorem agg137 : isAggT Tryd.prog 137 = true := by kernel_rfl
attribute [simp] Tryd.underlying137
@[simp] theorem bytes137 : Tryd.t137.bytes = 64 := rfl
@[simp] theorem zero137 : Tryd.t137.zero = some (.agg #[(.int .u32 0), (.int .u32 0), (.int .u32 0), (.int .u32 0), (.int .u32 0), (.int .u32 0), (.int .u32 0), (.int .u32 0), (.int .u32 0), (.int .u32 0), (.int .u32 0), (.int .u32 0), (.int .u32 0), (.int .u32 0), (.int .u32 0), (.int .u32 0)]) := rfl
@[simp] theorem cells138 : Tryd.prog.cellsOf 138 = 64 := by kernel_rfl
@[simp] theorem info138 : Tryd.prog.info? 138 = some Tryd.t138 := by kernel_rfl
@[simp] theorem agg138 : isAggT Tryd.prog 138 = true := by kernel_rfl
attribute [simp] Tryd.underlying138
@[simp] theorem bytes138 : Tryd.t138.bytes = 256 := rfl
@[simp] theorem zero138 : Tryd.t138.zero = some (.agg #[(.int .u32 0), (.int .u32 0), (.int .u32 0), (.int .u32 0), (.int .u32 0), (.int .u32 0), (.int .u32 0), (.int .u32 0), (.int .u32 0), (.int .u32 0), (.int .u32 0), (.int .u32 0), (.int .u32 0), (.int .u32 0), (.int .u32 0), (.int .u32 0), (.int .u32 0), (.int .u32 0), (.int .u32 0), (.int .u32 0), (.int .u32 0), (.int .u32 0), (.int .u32 0), (.int .u32 0), (.int .u32 0), (.int .u32 0), (.int .u32 0), (.int .u32 0), (.int .u32 0), (.int .u32 0), (.int .u32 0), (.int .u32 0), (.int .u32 0), (.int .u32 0), (.int .u32 0), (.int .u32 0), (.int .u32 0), (.int .u32 0), (.int .u32 0), (.int .u32 0), (.int .u32 0), (.int .u32 0), (.int .u32 0), (.int .u32 0), (.int .u32 0), (.int .u32 0), (.int .u32 0), (.int .u32 0), (.int .u32 0), (.int .u32 0), (.int .u32 0), (.int .u32 0), (.int .u32 0), (.int .u32 0), (.int .u32 0), (.int .u32 0), (.int .u32 0), (.int .u32 0), (.int .u32 0), (.int .u32 0), (.int .u32 0), (.int .u32 0), (.int .u32 0), (.int .u32 0)]) := rfl
@[simp] theorem cells139 : Tryd.prog.cellsOf 139 = 1 := by kernel_rfl
@[simp] theorem info139 : Tryd.prog.info? 139 = some Tryd.t139 := by kernel_rfl
@[simp] theorem agg139 : isAggT Tryd.prog 139 = false := by kernel_rfl
attribute [simp] Tryd.underlying139
@[simp] theorem bytes139 : Tryd.t139.bytes = 0 := rfl
@[simp] theorem cells140 : Tryd.prog.cellsOf 140 = 1 := by kernel_rfl
@[simp] theorem info140 : Tryd.prog.info? 140 = some Tryd.t140 := by kernel_rfl
@[simp] theorem agg140 : isAggT Tryd.prog 140 = false := by kernel_rfl
attribute [simp] Tryd.underlying140
@[simp] theorem bytes140 : Tryd.t140.bytes = 8 := rfl
@[simp] theorem zero140 : Tryd.t140.zero = some .nilFunc := rfl
@[simp] theorem cells141 : Tryd.prog.cellsOf 141 = 1 := by kernel_rfl
@[simp] theorem info141 : Tryd.prog.info? 141 = some Tryd.t141 := by kernel_rfl
@[simp] theorem agg141 : isAggT Tryd.prog 141 = false := by kernel_rfl
attribute [simp] Tryd.underlying141
@[simp] theorem bytes141 : Tryd.t141.bytes = 0 := rfl
@[simp] theorem cells142 : Tryd.prog.cellsOf 142 = 1 := by kernel_rfl
@[simp] theorem info142 : Tryd.prog.info? 142 = some Tryd.t142 := by kernel_rfl
@[simp] theorem agg142 : isAggT Tryd.prog 142 = false := by kernel_rfl
attribute [simp] Tryd.underlying142
@[simp] theorem bytes142 : Tryd.t142.bytes = 8 := rfl
@[simp] theorem zero142 : Tryd.t142.zero = some .nilFunc := rfl
@[simp] theorem cells143 : Tryd.prog.cellsOf 143 = 1 := by kernel_rfl
@[simp] theorem info143 : Tryd.prog.info? 143 = some Tryd.t143 := by kernel_rfl
@[simp] theorem agg143 : isAggT Tryd.prog 143 = false := by kernel_rfl
attribute [simp] Tryd.underlying143
@[simp] theorem bytes143 : Tryd.t143.bytes = 8 := rfl
@[simp] theorem zero143 : Tryd.t143.zero = some .nilFunc := rfl
@[simp] theorem cells144 : Tryd.prog.cellsOf 144 = 4 := by kernel_rfl
@[simp] theorem info144 : Tryd.prog.info? 144 = some Tryd.t144 := by kernel_rfl
@[simp] theorem agg144 : isAggT Tryd.prog 144 = true := by kernel_rfl
attribute [simp] Tryd.underlying144
@[simp] theorem bytes144 : Tryd.t144.bytes = 40 := rfl
@[simp] theorem zero144 : Tryd.t144.zero = some (.agg #[(.pointer none), (.pointer none), (.pointer none), (.string ⟨#[]⟩)]) := rfl
@[simp] theorem cells145 : Tryd.prog.cellsOf 145 = 4 := by kernel_rfl
@[simp] theorem info145 : Tryd.prog.info? 145 = some Tryd.t145 := by kernel_rfl
@[simp] theorem agg145 : isAggT Tryd.prog 145 = true := by kernel_rfl
attribute [simp] Tryd.underlying145
@[simp] theorem bytes145 : Tryd.t145.bytes = 40 := rfl
@[simp] theorem zero145 : Tryd.t145.zero = some (.agg #[(.pointer none), (.pointer none), (.pointer none), (.string ⟨#[]⟩)]) := rfl
@[simp] theorem cells146 : Tryd.prog.cellsOf 146 = 0 := by kernel_rfl
@[simp] theorem info146 : Tryd.prog.info? 146 = some Tryd.t146 := by kernel_rfl
@[simp] theorem agg146 : isAggT Tryd.prog 146 = true := by kernel_rfl
attribute [simp] Tryd.underlying146
@[simp] theorem bytes146 : Tryd.t146.bytes = 0 := rfl
@[simp] theorem zero146 : Tryd.t146.zero = some (.agg #[]) := rfl
@[simp] theorem cells147 : Tryd.prog.cellsOf 147 = 0 := by kernel_rfl
@[simp] theorem info147 : Tryd.prog.info? 147 = some Tryd.t147 := by kernel_rfl
@[simp] theorem agg147 : isAggT Tryd.prog 147 = true := by kernel_rfl
attribute [simp] Tryd.underlying147
@[simp] theorem bytes147 : Tryd.t147.bytes = 0 := rfl
@[simp] theorem zero147 : Tryd.t147.zero = some (.agg #[]) := rfl
@[simp] theorem cells148 : Tryd.prog.cellsOf 148 = 0 := by kernel_rfl
@[simp] theorem info148 : Tryd.prog.info? 148 = some Tryd.t148 := by kernel_rfl
@[simp] theorem agg148 : isAggT Tryd.prog 148 = true := by kernel_rfl
attribute [simp] Tryd.underlying148
@[simp] theorem bytes148 : Tryd.t148.bytes = 0 := rfl
@[simp] theorem zero148 : Tryd.t148.zero = some (.agg #[]) := rfl
@[simp] theorem cells149 : Tryd.prog.cellsOf 149 = 1 := by kernel_rfl
@[simp] theorem info149 : Tryd.prog.info? 149 = some Tryd.t149 := by kernel_rfl
@[simp] theorem agg149 : isAggT Tryd.prog 149 = false := by kernel_rfl
attribute [simp] Tryd.underlying149
@[simp] theorem bytes149 : Tryd.t149.bytes = 1 := rfl
@[simp] theorem zero149 : Tryd.t149.zero = some (.int .u8 0) := rfl
@[simp] theorem cells150 : Tryd.prog.cellsOf 150 = 1 := by kernel_rfl
@[simp] theorem info150 : Tryd.prog.info? 150 = some Tryd.t150 := by kernel_rfl
@[simp] theorem agg150 : isAggT Tryd.prog 150 = false := by kernel_rfl
attribute [simp] Tryd.underlying150
@[simp] theorem bytes150 : Tryd.t150.bytes = 1 := rfl
@[simp] theorem zero150 : Tryd.t150.zero = some (.int .u8 0) := rfl
@[simp] theorem cells151 : Tryd.prog.cellsOf 151 = 1 := by kernel_rfl
@[simp] theorem info151 : Tryd.prog.info? 151 = some Tryd.t151 := by kernel_rfl
@[simp] theorem agg151 : isAggT Tryd.prog 151 = false := by kernel_rfl
attribute [simp] Tryd.underlying151
@[simp] theorem bytes151 : Tryd.t151.bytes = 8 := rfl
@[simp] theorem zero151 : Tryd.t151.zero = some .nilFunc := rfl
@[simp] theorem cells152 : Tryd.prog.cellsOf 152 = 1 := by kernel_rfl
@[simp] theorem info152 : Tryd.prog.info? 152 = some Tryd.t152 := by kernel_rfl
@[simp] theorem agg152 : isAggT Tryd.prog 152 = false := by kernel_rfl
attribute [simp] Tryd.underlying152
@[simp] theorem bytes152 : Tryd.t152.bytes = 4 := rfl
@[simp] theorem zero152 : Tryd.t152.zero = some (.int .i32 0) := rfl
@[simp] theorem cells153 : Tryd.prog.cellsOf 153 = 1 := by kernel_rfl
@[simp] theorem info153 : Tryd.prog.info? 153 = some Tryd.t153 := by kernel_rfl
@[simp] theorem agg153 : isAggT Tryd.prog 153 = false := by kernel_rfl
attribute [simp] Tryd.underlying153
@[simp] theorem bytes153 : Tryd.t153.bytes = 4 := rfl
@[simp] theorem zero153 : Tryd.t153.zero = some (.int .i32 0) := rfl
@[simp] theorem cells154 : Tryd.prog.cellsOf 154 = 11 := by kernel_rfl
@[simp] theorem info154 : Tryd.prog.info? 154 = some Tryd.t154 := by kernel_rfl
@[simp] theorem agg154 : isAggT Tryd.prog 154 = true := by kernel_rfl
attribute [simp] Tryd.underlying154
@[simp] theorem bytes154 : Tryd.t154.bytes = 48 := rfl
@[simp] theorem zero154 : Tryd.t154.zero = some (.agg #[(.int .u64 0), (.int .u64 0), (.int .u32 0), (.int .u8 0), (.int .u8 0), (.int .u8 0), (.int .u8 0), .nilFunc, (.pointer none), (.int .i32 0), (.int .i32 0)]) := rfl
@[simp] theorem cells155 : Tryd.prog.cellsOf 155 = 11 := by kernel_rfl
@[simp] theorem info155 : Tryd.prog.info? 155 = some Tryd.t155 := by kernel_rfl
@[simp] theorem agg155 : isAggT Tryd.prog 155 = true := by kernel_rfl
attribute [simp] Tryd.underlying155
@[simp] theorem bytes155 : Tryd.t155.bytes = 48 := rfl
@[simp] theorem zero155 : Tryd.t155.zero = some (.agg #[(.int .u64 0), (.int .u64 0), (.int .u32 0), (.int .u8 0), (.int .u8 0), (.int .u8 0), (.int .u8 0), .nilFunc, (.pointer none), (.int .i32 0), (.int .i32 0)]) := rfl
@[simp] theorem cells156 : Tryd.prog.cellsOf 156 = 1 := by kernel_rfl
@[simp] theorem info156 : Tryd.prog.info? 156 = some Tryd.t156 := by kernel_rfl
@[simp] theorem agg156 : isAggT Tryd.prog 156 = false := by kernel_rfl
attribute [simp] Tryd.underlying156
@[simp] theorem bytes156 : Tryd.t156.bytes = 8 := rfl
@[simp] theorem zero156 : Tryd.t156.zero = some (.int .i64 0) := rfl
@[simp] theorem cells157 : Tryd.prog.cellsOf 157 = 4 := by kernel_rfl
@[simp] theorem info157 : Tryd.prog.info? 157 = some Tryd.t157 := by kernel_rfl
@[simp] theorem agg157 : isAggT Tryd.prog 157 = true := by kernel_rfl
attribute [simp] Tryd.underlying157
@[simp] theorem bytes157 : Tryd.t157.bytes = 40 := rfl
@[simp] theorem zero157 : Tryd.t157.zero = some (.agg #[(.int .i64 0), (.int .i64 0), (.string ⟨#[]⟩), (.int .i64 0)]) := rfl
@[simp] theorem cells158 : Tryd.prog.cellsOf 158 = 4 := by kernel_rfl
@[simp] theorem info158 : Tryd.prog.info? 158 = some Tryd.t158 := by kernel_rfl
@[simp] theorem agg158 : isAggT Tryd.prog 158 = true := by kernel_rfl
attribute [simp] Tryd.underlying158
@[simp] theorem bytes158 : Tryd.t158.bytes = 40 := rfl
@[simp] theorem zero158 : Tryd.t158.zero = some (.agg #[(.int .i64 0), (.int .i64 0), (.string ⟨#[]⟩), (.int .i64 0)]) := rfl
@[simp] theorem E2 : G.E 2 = true := by kernel_rfl
@[simp] theorem ext2 : G.ext 2 = none := by kernel_rfl
@[simp] theorem dfr2 : G.dfr 2 = false := by kernel_rfl
@[simp] theorem own2 : G.retOwn 2 = false := by kernel_rfl
@[simp] theorem live2_0 : G.live 2 0 = some ⟨[], []⟩ := by kernel_rfl
@[simp] theorem E3 : G.E 3 = true := by kernel_rfl
@[simp] theorem ext3 : G.ext 3 = none := by kernel_rfl
@[simp] theorem dfr3 : G.dfr 3 = false := by kernel_rfl
@[simp] theorem own3 : G.retOwn 3 = false := by kernel_rfl
@[simp] theorem live3_0 : G.live 3 0 = some ⟨[2, 3, 4, 5, 6, 7], []⟩ := by kernel_rfl
@[simp] theorem live3_1 : G.live 3 1 = some ⟨[2, 3, 4, 5, 6, 7, 13], []⟩ := by kernel_rfl
@[simp] theorem live3_2 : G.live 3 2 = some ⟨[2, 3, 4, 5, 6, 7, 13, 35], []⟩ := by kernel_rfl
@[simp] theorem live3_3 : G.live 3 3 = some ⟨[12], []⟩ := by kernel_rfl
@[simp] theorem live3_4 : G.live 3 4 = some ⟨[2, 3, 4, 5, 6, 7, 13, 14], []⟩ := by kernel_rfl
@[simp] theorem live3_5 : G.live 3 5 = some ⟨[2, 3, 4, 5, 6, 7, 13, 53], []⟩ := by kernel_rfl
@[simp] theorem live3_6 : G.live 3 6 = some ⟨[12], []⟩ := by kernel_rfl
@[simp] theorem live3_7 : G.live 3 7 = some ⟨[2, 3, 4, 5, 6, 7, 13, 15, 16], []⟩ := by kernel_rfl
@[simp] theorem live3_8 : G.live 3 8 = some ⟨[3, 4, 5, 6, 7, 13, 15, 16, 17, 18], []⟩ := by kernel_rfl
@[simp] theorem live3_9 : G.live 3 9 = some ⟨[3, 4, 5, 6, 7, 13, 15, 16, 17, 18, 19, 20], []⟩ := by kernel_rfl
@[simp] theorem live3_10 : G.live 3 10 = some ⟨[3, 4, 5, 6, 7, 13, 15, 16, 17, 18, 19, 20, 21, 22], []⟩ := by kernel_rfl
@[simp] theorem live3_11 : G.live 3 11 = some ⟨[3, 4, 5, 6, 7, 13, 15, 16, 17, 18, 19, 20, 21, 22, 23, 24], []⟩ := by kernel_rfl
@[simp] theorem live3_12 : G.live 3 12 = some ⟨[3, 4, 5, 6, 7, 13, 15, 16, 17, 18, 19, 20, 21, 22, 23, 24, 25, 26], []⟩ := by kernel_rfl
@[simp] theorem live3_13 : G.live 3 13 = some ⟨[3, 4, 5, 6, 7, 13, 15, 16, 17, 18, 19, 20, 21, 22, 23, 24, 25, 26, 27, 28], []⟩ := by kernel_rfl
@[simp] theorem live3_14 : G.live 3 14 = some ⟨[5, 6, 7, 13, 15, 16, 17, 18, 19, 20, 21, 22, 23, 24, 25, 26, 27, 28, 29, 30], []⟩ := by kernel_rfl
@[simp] theorem live3_15 : G.live 3 15 = some ⟨[5, 6, 7, 13, 16, 18, 20, 22, 24, 26, 28, 30, 137], []⟩ := by kernel_rfl
@[simp] theorem live3_16 : G.live 3 16 = some ⟨[12], []⟩ := by kernel_rfl
@[simp] theorem live3_17 : G.live 3 17 = some ⟨[5, 6, 7, 13, 16, 18, 20, 22, 24, 26, 28, 30, 31], []⟩ := by kernel_rfl
@[simp] theorem live3_18 : G.live 3 18 = some ⟨[5, 6, 7, 13, 16, 18, 20, 22, 24, 26, 28, 30, 31, 32], []⟩ := by kernel_rfl
@[simp] theorem live3_19 : G.live 3 19 = some ⟨[12], []⟩ := by kernel_rfl
@[simp] theorem plan3_15 : G.plan 3 15 = some [.n 0, .n 2, .e 1 [2], .e 3 [], .n 4, .n 5, .n 6, .n 8, .e 7 [8, 0], .e 9 [0], .n 10, .n 11, .n 12, .n 13, .n 15, .e 14 [15, 6, 4, 2, 0], .e 16 [6, 4, 2, 0], .n 17, .n 18, .n 19, .n 20, .n 22, .e 21 [22, 13, 11, 10, 8, 6, 5, 4, 2, 0], .e 23 [13, 11, 10, 8, 6, 5, 4, 2, 0], .n 24, .n 25] := by kernel_rfl
@[simp] theorem plan3_18 : G.plan 3 18 = some [.n 0, .n 2, .e 1 [2], .e 3 [], .e 4 [], .n 5] := by kernel_rfl
@[simp] theorem E4 : G.E 4 = true := by kernel_rfl
@[simp] theorem ext4 : G.ext 4 = none := by kernel_rfl
@[simp] theorem dfr4 : G.dfr 4 = false := by kernel_rfl
@[simp] theorem own4 : G.retOwn 4 = false := by kernel_rfl
@[simp] theorem live4_0 : G.live 4 0 = some ⟨[0, 1, 2, 3, 4], []⟩ := by kernel_rfl
@[simp] theorem live4_1 : G.live 4 1 = some ⟨[0, 1, 2, 3, 4, 11], []⟩ := by kernel_rfl
@[simp] theorem live4_2 : G.live 4 2 = some ⟨[0, 1, 2, 3, 4, 11, 25], []⟩ := by kernel_rfl
@[simp] theorem live4_3 : G.live 4 3 = some ⟨[10], []⟩ := by kernel_rfl
@[simp] theorem live4_4 : G.live 4 4 = some ⟨[0, 1, 2, 3, 4, 11, 47], []⟩ := by kernel_rfl
@[simp] theorem live4_5 : G.live 4 5 = some ⟨[10], []⟩ := by kernel_rfl
@[simp] theorem live4_6 : G.live 4 6 = some ⟨[0, 1, 2, 3, 4, 11, 12], []⟩ := by kernel_rfl
@[simp] theorem live4_7 : G.live 4 7 = some ⟨[0, 1, 2, 3, 4, 11, 13, 14], []⟩ := by kernel_rfl
@[simp] theorem live4_8 : G.live 4 8 = some ⟨[0, 1, 2, 3, 4, 11, 13, 14, 15, 16], []⟩ := by kernel_rfl
@[simp] theorem live4_9 : G.live 4 9 = some ⟨[0, 1, 2, 3, 4, 11, 13, 14, 15, 16, 17, 18], []⟩ := by kernel_rfl
@[simp] theorem live4_10 : G.live 4 10 = some ⟨[0, 1, 2, 3, 4, 11, 13, 14, 16, 17, 18, 19, 20], []⟩ := by kernel_rfl
@[simp] theorem live4_11 : G.live 4 11 = some ⟨[2, 3, 4, 11, 13, 14, 16, 17, 18, 19, 20, 21, 22], []⟩ := by kernel_rfl
@[simp] theorem live4_12 : G.live 4 12 = some ⟨[2, 3, 4, 11, 13, 17, 19, 21, 103], []⟩ := by kernel_rfl
@[simp] theorem live4_13 : G.live 4 13 = some ⟨[10], []⟩ := by kernel_rfl
@[simp] theorem live4_14 : G.live 4 14 = some ⟨[10], []⟩ := by kernel_rfl
@[simp] theorem E5 : G.E 5 = true := by kernel_rfl
@[simp] theorem ext5 : G.ext 5 = none := by kernel_rfl
@[simp] theorem dfr5 : G.dfr 5 = false := by kernel_rfl
@[simp] theorem own5 : G.retOwn 5 = false := by kernel_rfl
@[simp] theorem live5_0 : G.live 5 0 = some ⟨[0, 1], []⟩ := by kernel_rfl
@[simp] theorem live5_1 : G.live 5 1 = some ⟨[0, 1, 5], []⟩ := by kernel_rfl
@[simp] theorem live5_2 : G.live 5 2 = some ⟨[0, 1, 5, 10], []⟩ := by kernel_rfl
@[simp] theorem live5_3 : G.live 5 3 = some ⟨[4], []⟩ := by kernel_rfl
@[simp] theorem live5_4 : G.live 5 4 = some ⟨[0, 1, 5, 6], []⟩ := by kernel_rfl
@[simp] theorem live5_5 : G.live 5 5 = some ⟨[0, 1, 5, 6, 7], []⟩ := by kernel_rfl
@[simp] theorem live5_6 : G.live 5 6 = some ⟨[4], []⟩ := by kernel_rfl
@[simp] theorem E6 : G.E 6 = true := by kernel_rfl
@[simp] theorem ext6 : G.ext 6 = none := by kernel_rfl
@[simp] theorem dfr6 : G.dfr 6 = false := by kernel_rfl
@[simp] theorem own6 : G.retOwn 6 = false := by kernel_rfl
@[simp] theorem live6_0 : G.live 6 0 = some ⟨[2, 3], []⟩ := by kernel_rfl
@[simp] theorem live6_1 : G.live 6 1 = some ⟨[2, 3, 5], []⟩ := by kernel_rfl
@[simp] theorem live6_2 : G.live 6 2 = some ⟨[2, 3, 5, 13], []⟩ := by kernel_rfl
@[simp] theorem live6_3 : G.live 6 3 = some ⟨[4], []⟩ := by kernel_rfl
@[simp] theorem live6_4 : G.live 6 4 = some ⟨[2, 3, 5, 6], []⟩ := by kernel_rfl
@[simp] theorem live6_5 : G.live 6 5 = some ⟨[2, 3, 5, 21], []⟩ := by kernel_rfl
@[simp] theorem live6_6 : G.live 6 6 = some ⟨[4], []⟩ := by kernel_rfl
@[simp] theorem live6_7 : G.live 6 7 = some ⟨[2, 3, 5, 7], []⟩ := by kernel_rfl
@[simp] theorem live6_8 : G.live 6 8 = some ⟨[2, 3, 5, 7, 8, 9], []⟩ := by kernel_rfl
@[simp] theorem live6_9 : G.live 6 9 = some ⟨[2, 3, 5, 7, 9, 10], []⟩ := by kernel_rfl
@[simp] theorem live6_10 : G.live 6 10 = some ⟨[4], []⟩ := by kernel_rfl
@[simp] theorem plan6_10 : G.plan 6 10 = some [.n 0, .n 1, .n 2, .n 4, .n 7, .e 3 [7, 4], .e 5 [7], .n 6, .n 8, .n 9, .n 10, .n 11, .n 12, .n 13, .n 14, .n 15, .n 16, .n 17] := by kernel_rfl
@[simp] theorem E7 : G.E 7 = true := by kernel_rfl
@[simp] theorem ext7 : G.ext 7 = none := by kernel_rfl
@[simp] theorem dfr7 : G.dfr 7 = false := by kernel_rfl
@[simp] theorem own7 : G.retOwn 7 = false := by kernel_rfl
@[simp] theorem live7_0 : G.live 7 0 = some ⟨[], []⟩ := by kernel_rfl
@[simp] theorem live7_1 : G.live 7 1 = some ⟨[1], []⟩ := by kernel_rfl
@[simp] theorem live7_2 : G.live 7 2 = some ⟨[1, 2, 3], []⟩ := by kernel_rfl
@[simp] theorem live7_3 : G.live 7 3 = some ⟨[1, 3, 4, 5], []⟩ := by kernel_rfl
@[simp] theorem live7_4 : G.live 7 4 = some ⟨[1, 3, 4, 5, 6, 7], []⟩ := by kernel_rfl
@[simp] theorem live7_5 : G.live 7 5 = some ⟨[1, 3, 5, 6, 7, 8, 9], []⟩ := by kernel_rfl
@[simp] theorem live7_6 : G.live 7 6 = some ⟨[1, 3, 5, 6, 7, 8, 9, 11], []⟩ := by kernel_rfl
@[simp] theorem live7_7 : G.live 7 7 = some ⟨[0], []⟩ := by kernel_rfl
@[simp] theorem plan7_7 : G.plan 7 7 = some [.n 0, .n 1, .n 2, .n 3, .n 4, .n 5, .n 6, .n 7, .n 8, .n 9, .n 10, .n 11, .n 12, .n 13, .n 14, .n 15, .n 16, .n 17, .n 18, .n 19, .n 20, .n 21, .n 22, .n 23, .n 24, .n 25, .n 26, .n 27, .n 28, .n 29, .n 30, .n 31, .n 32, .n 33, .n 34, .n 35, .n 37, .n 38, .e 36 [38, 37, 32, 31, 28, 27, 26, 25, 23, 22, 21, 20, 19, 18, 17, 16, 15, 14, 13, 12, 11, 10, 9, 8, 7, 6, 5, 4, 3, 2, 1, 0], .n 39, .n 40, .n 41, .n 42, .n 43, .e 44 [38, 37, 34, 33, 32, 31, 30, 29, 28, 27, 26, 25, 24, 23, 22, 21, 20, 19, 18, 17, 16, 15, 14, 13, 12, 11, 10, 9, 8, 7, 6, 5, 4, 3, 2, 1, 0], .n 45, .n 46, .n 47, .n 48, .e 49 [40, 39, 38, 37, 35, 34, 33, 32, 31, 30, 29, 28, 27, 26, 25, 24, 23, 22, 21, 20, 19, 18, 17, 16, 15, 14, 13, 12, 11, 10, 9, 8, 7, 6, 5, 4, 3, 2, 1, 0], .n 50, .n 51, .n 52, .n 53, .n 55, .e 54 [55, 45, 43, 42, 41, 40, 39, 38, 37, 35, 34, 33, 32, 31, 30, 29, 28, 27, 26, 25, 24, 23, 22, 21, 20, 19, 18, 17, 16, 15, 14, 13, 12, 11, 10, 9, 8, 7, 6, 5, 4, 3, 2, 1, 0], .e 56 [45, 43, 42, 41, 40, 39, 38, 37, 35, 34, 33, 32, 31, 30, 29, 28, 27, 26, 25, 24, 23, 22, 21, 20, 19, 18, 17, 16, 15, 14, 13, 12, 11, 10, 9, 8, 7, 6, 5, 4, 3, 2, 1, 0], .n 57, .n 58, .n 59] := by kernel_rfl
@[simp] theorem E8 : G.E 8 = true := by kernel_rfl
@[simp] theorem ext8 : G.ext 8 = none := by kernel_rfl
@[simp] theorem dfr8 : G.dfr 8 = false := by kernel_rfl
@[simp] theorem own8 : G.retOwn 8 = false := by kernel_rfl
@[simp] theorem keep8_2 : G.keep 8 2 = some ⟨[(1, none), (3, none)], [(1001, [])]⟩ := by kernel_rfl
@[simp] theorem live8_0 : G.live 8 0 = some ⟨[1], []⟩ := by kernel_rfl
@[simp] theorem live8_1 : G.live 8 1 = some ⟨[1, 3], []⟩ := by kernel_rfl
@[simp] theorem live8_2 : G.live 8 2 = some ⟨[1, 3, 12], []⟩ := by kernel_rfl
@[simp] theorem live8_4 : G.live 8 4 = some ⟨[1, 3, 21], []⟩ := by kernel_rfl
@[simp] theorem live8_5 : G.live 8 5 = some ⟨[2], []⟩ := by kernel_rfl
@[simp] theorem live8_3 : G.live 8 3 = some ⟨[1, 3], []⟩ := by kernel_rfl
@[simp] theorem live8_6 : G.live 8 6 = some ⟨[2], []⟩ := by kernel_rfl
@[simp] theorem E9 : G.E 9 = true := by kernel_rfl
@[simp] theorem ext9 : G.ext 9 = none := by kernel_rfl
@[simp] theorem dfr9 : G.dfr 9 = false := by kernel_rfl
@[simp] theorem own9 : G.retOwn 9 = false := by kernel_rfl
@[simp] theorem live9_0 : G.live 9 0 = some ⟨[1, 2, 4], []⟩ := by kernel_rfl
@[simp] theorem live9_1 : G.live 9 1 = some ⟨[1, 2, 4, 7], []⟩ := by kernel_rfl
@[simp] theorem live9_2 : G.live 9 2 = some ⟨[4, 5], []⟩ := by kernel_rfl
@[simp] theorem live9_3 : G.live 9 3 = some ⟨[4, 5], []⟩ := by kernel_rfl
@[simp] theorem plan9_3 : G.plan 9 3 = some [.n 0, .n 1, .n 2, .n 3, .e 4 [1, 0], .n 5, .e 6 [], .n 7, .n 8, .e 9 [], .n 10] := by kernel_rfl
@[simp] theorem E10 : G.E 10 = true := by kernel_rfl
@[simp] theorem ext10 : G.ext 10 = none := by kernel_rfl
@[simp] theorem dfr10 : G.dfr 10 = false := by kernel_rfl
@[simp] theorem own10 : G.retOwn 10 = false := by kernel_rfl
@[simp] theorem live10_0 : G.live 10 0 = some ⟨[1, 2, 4], []⟩ := by kernel_rfl
@[simp] theorem live10_1 : G.live 10 1 = some ⟨[1, 2, 4, 7], []⟩ := by kernel_rfl
@[simp] theorem live10_2 : G.live 10 2 = some ⟨[4, 5], []⟩ := by kernel_rfl
@[simp] theorem live10_3 : G.live 10 3 = some ⟨[4, 5], []⟩ := by kernel_rfl
@[simp] theorem plan10_3 : G.plan 10 3 = some [.n 0, .n 1, .n 2, .e 3 [0], .n 4, .e 5 [], .n 6, .n 7, .e 8 [], .n 9] := by kernel_rfl
@[simp] theorem E11 : G.E 11 = true := by kernel_rfl
@[simp] theorem ext11 : G.ext 11 = none := by kernel_rfl
@[simp] theorem dfr11 : G.dfr 11 = false := by kernel_rfl
@[simp] theorem own11 : G.retOwn 11 = false := by kernel_rfl
@[simp] theorem live11_0 : G.live 11 0 = some ⟨[1, 2], []⟩ := by kernel_rfl
@[simp] theorem live11_1 : G.live 11 1 = some ⟨[2], []⟩ := by kernel_rfl
@[simp] theorem E12 : G.E 12 = true := by kernel_rfl
@[simp] theorem ext12 : G.ext 12 = none := by kernel_rfl
@[simp] theorem dfr12 : G.dfr 12 = false := by kernel_rfl
@[simp] theorem own12 : G.retOwn 12 = false := by kernel_rfl
@[simp] theorem live12_0 : G.live 12 0 = some ⟨[1, 2, 4], []⟩ := by kernel_rfl
@[simp] theorem live12_1 : G.live 12 1 = some ⟨[4, 5], []⟩ := by kernel_rfl
@[simp] theorem E13 : G.E 13 = true := by kernel_rfl
@[simp] theorem ext13 : G.ext 13 = none := by kernel_rfl
@[simp] theorem dfr13 : G.dfr 13 = false := by kernel_rfl
@[simp] theorem own13 : G.retOwn 13 = false := by kernel_rfl
@[simp] theorem live13_0 : G.live 13 0 = some ⟨[1, 2, 3, 6], []⟩ := by kernel_rfl
@[simp] theorem live13_1 : G.live 13 1 = some ⟨[1, 2, 3, 6, 24], []⟩ := by kernel_rfl
@[simp] theorem live13_2 : G.live 13 2 = some ⟨[6, 7], []⟩ := by kernel_rfl
@[simp] theorem live13_3 : G.live 13 3 = some ⟨[1, 2, 3, 6, 8], []⟩ := by kernel_rfl
@[simp] theorem live13_4 : G.live 13 4 = some ⟨[1, 2, 3, 6, 8], []⟩ := by kernel_rfl
@[simp] theorem live13_5 : G.live 13 5 = some ⟨[1, 2, 3, 6, 8], []⟩ := by kernel_rfl
@[simp] theorem live13_6 : G.live 13 6 = some ⟨[1, 2, 3, 6, 8, 9], []⟩ := by kernel_rfl
@[simp] theorem live13_7 : G.live 13 7 = some ⟨[1, 2, 3, 6, 8, 9], []⟩ := by kernel_rfl
@[simp] theorem live13_8 : G.live 13 8 = some ⟨[1, 3, 6, 8, 9], []⟩ := by kernel_rfl
@[simp] theorem live13_9 : G.live 13 9 = some ⟨[1, 6, 9, 10], []⟩ := by kernel_rfl
@[simp] theorem live13_10 : G.live 13 10 = some ⟨[6, 7], []⟩ := by kernel_rfl
@[simp] theorem plan13_9 : G.plan 13 9 = some [.n 0, .n 1, .n 2, .e 3 [1, 0], .e 4 [], .n 5, .n 6, .n 7, .n 8, .n 9] := by kernel_rfl
@[simp] theorem E14 : G.E 14 = true := by kernel_rfl
@[simp] theorem ext14 : G.ext 14 = none := by kernel_rfl
@[simp] theorem dfr14 : G.dfr 14 = false := by kernel_rfl
@[simp] theorem own14 : G.retOwn 14 = false := by kernel_rfl
@[simp] theorem live14_0 : G.live 14 0 = some ⟨[1, 2, 4], []⟩ := by kernel_rfl
@[simp] theorem live14_1 : G.live 14 1 = some ⟨[4, 5], []⟩ := by kernel_rfl
@[simp] theorem E15 : G.E 15 = true := by kernel_rfl
@[simp] theorem ext15 : G.ext 15 = none := by kernel_rfl
@[simp] theorem dfr15 : G.dfr 15 = false := by kernel_rfl
@[simp] theorem own15 : G.retOwn 15 = false := by kernel_rfl
@[simp] theorem live15_0 : G.live 15 0 = some ⟨[1, 2, 3, 6], []⟩ := by kernel_rfl
@[simp] theorem live15_1 : G.live 15 1 = some ⟨[6, 7], []⟩ := by kernel_rfl
@[simp] theorem E16 : G.E 16 = true := by kernel_rfl
@[simp] theorem ext16 : G.ext 16 = none := by kernel_rfl
@[simp] theorem dfr16 : G.dfr 16 = false := by kernel_rfl
@[simp] theorem own16 : G.retOwn 16 = false := by kernel_rfl
@[simp] theorem live16_0 : G.live 16 0 = some ⟨[2, 3], []⟩ := by kernel_rfl
@[simp] theorem live16_1 : G.live 16 1 = some ⟨[4], []⟩ := by kernel_rfl
@[simp] theorem E17 : G.E 17 = true := by kernel_rfl
@[simp] theorem ext17 : G.ext 17 = none := by kernel_rfl
@[simp] theorem dfr17 : G.dfr 17 = false := by kernel_rfl
@[simp] theorem own17 : G.retOwn 17 = false := by kernel_rfl
@[simp] theorem live17_0 : G.live 17 0 = some ⟨[0], []⟩ := by kernel_rfl
@[simp] theorem live17_1 : G.live 17 1 = some ⟨[2], []⟩ := by kernel_rfl
@[simp] theorem E18 : G.E 18 = true := by kernel_rfl
@[simp] theorem ext18 : G.ext 18 = none := by kernel_rfl
@[simp] theorem dfr18 : G.dfr 18 = false := by kernel_rfl
@[simp] theorem own18 : G.retOwn 18 = false := by kernel_rfl
@[simp] theorem live18_0 : G.live 18 0 = some ⟨[0], []⟩ := by kernel_rfl
@[simp] theorem live18_1 : G.live 18 1 = some ⟨[2], []⟩ := by kernel_rfl
@[simp] theorem E19 : G.E 19 = true := by kernel_rfl
@[simp] theorem ext19 : G.ext 19 = none := by kernel_rfl
@[simp] theorem dfr19 : G.dfr 19 = false := by kernel_rfl
@[simp] theorem own19 : G.retOwn 19 = false := by kernel_rfl
@[simp] theorem live19_0 : G.live 19 0 = some ⟨[2, 3], []⟩ := by kernel_rfl
@[simp] theorem live19_1 : G.live 19 1 = some ⟨[4], []⟩ := by kernel_rfl
@[simp] theorem E20 : G.E 20 = true := by kernel_rfl
@[simp] theorem ext20 : G.ext 20 = none := by kernel_rfl
@[simp] theorem dfr20 : G.dfr 20 = false := by kernel_rfl
@[simp] theorem own20 : G.retOwn 20 = false := by kernel_rfl
@[simp] theorem live20_0 : G.live 20 0 = some ⟨[0, 2], []⟩ := by kernel_rfl
@[simp] theorem live20_1 : G.live 20 1 = some ⟨[2], []⟩ := by kernel_rfl
@[simp] theorem E21 : G.E 21 = true := by kernel_rfl
@[simp] theorem ext21 : G.ext 21 = none := by kernel_rfl
@[simp] theorem dfr21 : G.dfr 21 = false := by kernel_rfl
@[simp] theorem own21 : G.retOwn 21 = false := by kernel_rfl
@[simp] theorem keep21_4 : G.keep 21 4 = some ⟨[(0, none), (1, none), (5, none)], []⟩ := by kernel_rfl
@[simp] theorem live21_0 : G.live 21 0 = some ⟨[0, 1], []⟩ := by kernel_rfl
@[simp] theorem live21_1 : G.live 21 1 = some ⟨[0, 1, 10], []⟩ := by kernel_rfl
@[simp] theorem live21_2 : G.live 21 2 = some ⟨[4], []⟩ := by kernel_rfl
@[simp] theorem live21_3 : G.live 21 3 = some ⟨[0, 1, 5], []⟩ := by kernel_rfl
@[simp] theorem live21_4 : G.live 21 4 = some ⟨[0, 1, 5, 14], []⟩ := by kernel_rfl
@[simp] theorem live21_6 : G.live 21 6 = some ⟨[0, 1, 5, 25], []⟩ := by kernel_rfl
@[simp] theorem live21_7 : G.live 21 7 = some ⟨[4], []⟩ := by kernel_rfl
@[simp] theorem live21_5 : G.live 21 5 = some ⟨[0, 1, 5], []⟩ := by kernel_rfl
@[simp] theorem live21_8 : G.live 21 8 = some ⟨[4], []⟩ := by kernel_rfl
@[simp] theorem plan21_6 : G.plan 21 6 = some [.n 0, .n 1, .n 2, .n 3, .n 4, .n 5, .n 6, .n 7, .n 8] := by kernel_rfl
@[simp] theorem E22 : G.E 22 = true := by kernel_rfl
@[simp] theorem ext22 : G.ext 22 = none := by kernel_rfl
@[simp] theorem dfr22 : G.dfr 22 = false := by kernel_rfl
@[simp] theorem own22 : G.retOwn 22 = false := by kernel_rfl
@[simp] theorem live22_0 : G.live 22 0 = some ⟨[0], []⟩ := by kernel_rfl
@[simp] theorem live22_1 : G.live 22 1 = some ⟨[0, 4], [(1004, (0, (1, 9)))]⟩ := by kernel_rfl
@[simp] theorem live22_2 : G.live 22 2 = some ⟨[4, 6], []⟩ := by kernel_rfl
@[simp] theorem live22_3 : G.live 22 3 = some ⟨[4, 14], []⟩ := by kernel_rfl
@[simp] theorem live22_4 : G.live 22 4 = some ⟨[2, 3], []⟩ := by kernel_rfl
@[simp] theorem live22_5 : G.live 22 5 = some ⟨[2, 3], []⟩ := by kernel_rfl
@[simp] theorem E23 : G.E 23 = true := by kernel_rfl
@[simp] theorem ext23 : G.ext 23 = none := by kernel_rfl
@[simp] theorem dfr23 : G.dfr 23 = false := by kernel_rfl
@[simp] theorem own23 : G.retOwn 23 = false := by kernel_rfl
@[simp] theorem live23_0 : G.live 23 0 = some ⟨[1], []⟩ := by kernel_rfl
@[simp] theorem live23_1 : G.live 23 1 = some ⟨[2], []⟩ := by kernel_rfl
@[simp] theorem plan23_1 : G.plan 23 1 = some [.n 0, .n 1, .n 3, .n 4, .n 5, .e 2 [5, 4, 3], .e 6 [], .e 7 [3, 0], .n 8] := by kernel_rfl
@[simp] theorem E24 : G.E 24 = true := by kernel_rfl
@[simp] theorem ext24 : G.ext 24 = none := by kernel_rfl
@[simp] theorem dfr24 : G.dfr 24 = false := by kernel_rfl
@[simp] theorem own24 : G.retOwn 24 = false := by kernel_rfl
@[simp] theorem keep24_3 : G.keep 24 3 = some ⟨[(3, none), (8, none), (9, none), (10, none)], []⟩ := by kernel_rfl
@[simp] theorem live24_0 : G.live 24 0 = some ⟨[0], []⟩ := by kernel_rfl
@[simp] theorem live24_1 : G.live 24 1 = some ⟨[0, 3], [(1007, (1, (1, 5)))]⟩ := by kernel_rfl
@[simp] theorem live24_2 : G.live 24 2 = some ⟨[3, 8, 9, 10], []⟩ := by kernel_rfl
@[simp] theorem live24_3 : G.live 24 3 = some ⟨[3, 8, 9, 10, 11], []⟩ := by kernel_rfl
@[simp] theorem live24_4 : G.live 24 4 = some ⟨[3, 5, 8, 9, 10], []⟩ := by kernel_rfl
@[simp] theorem live24_5 : G.live 24 5 = some ⟨[3, 5, 8, 9, 10], []⟩ := by kernel_rfl
@[simp] theorem live24_6 : G.live 24 6 = some ⟨[3, 8, 9, 10], []⟩ := by kernel_rfl
@[simp] theorem live24_7 : G.live 24 7 = some ⟨[3, 8, 9, 10], []⟩ := by kernel_rfl
@[simp] theorem live24_8 : G.live 24 8 = some ⟨[2], []⟩ := by kernel_rfl
@[simp] theorem E25 : G.E 25 = true := by kernel_rfl
@[simp] theorem ext25 : G.ext 25 = none := by kernel_rfl
@[simp] theorem dfr25 : G.dfr 25 = false := by kernel_rfl
@[simp] theorem own25 : G.retOwn 25 = false := by kernel_rfl
@[simp] theorem live25_0 : G.live 25 0 = some ⟨[0, 1, 2, 6], []⟩ := by kernel_rfl
@[simp] theorem live25_1 : G.live 25 1 = some ⟨[6, 7], []⟩ := by kernel_rfl
@[simp] theorem E26 : G.E 26 = true := by kernel_rfl
@[simp] theorem ext26 : G.ext 26 = none := by kernel_rfl
@[simp] theorem dfr26 : G.dfr 26 = false := by kernel_rfl
@[simp] theorem own26 : G.retOwn 26 = false := by kernel_rfl
@[simp] theorem live26_0 : G.live 26 0 = some ⟨[1, 2, 3, 6], []⟩ := by kernel_rfl
@[simp] theorem live26_1 : G.live 26 1 = some ⟨[1, 2, 3, 6, 8], []⟩ := by kernel_rfl
@[simp] theorem live26_2 : G.live 26 2 = some ⟨[1, 2, 3, 6, 32], []⟩ := by kernel_rfl
@[simp] theorem live26_3 : G.live 26 3 = some ⟨[6, 7], []⟩ := by kernel_rfl
@[simp] theorem live26_4 : G.live 26 4 = some ⟨[1, 2, 3, 6, 9, 10], []⟩ := by kernel_rfl
@[simp] theorem live26_5 : G.live 26 5 = some ⟨[1, 2, 3, 6, 9, 10, 46], []⟩ := by kernel_rfl
@[simp] theorem live26_6 : G.live 26 6 = some ⟨[6, 7], []⟩ := by kernel_rfl
@[simp] theorem live26_7 : G.live 26 7 = some ⟨[6, 7], []⟩ := by kernel_rfl
@[simp] theorem plan26_4 : G.plan 26 4 = some [.n 0, .n 1, .n 2, .n 4, .n 5, .e 3 [5, 4, 1, 0], .e 6 [1, 0], .e 7 [], .n 8, .n 9, .n 10, .n 11, .n 12] := by kernel_rfl
@[simp] theorem E27 : G.E 27 = true := by kernel_rfl
@[simp] theorem ext27 : G.ext 27 = none := by kernel_rfl
@[simp] theorem dfr27 : G.dfr 27 = false := by kernel_rfl
@[simp] theorem own27 : G.retOwn 27 = false := by kernel_rfl
@[simp] theorem keep27_3 : G.keep 27 3 = some ⟨[(0, none), (5, some (1, 5)), (11, none), (12, none)], []⟩ := by kernel_rfl
@[simp] theorem keep27_8 : G.keep 27 8 = some ⟨[(5, some (1, 5)), (7, none), (8, none)], []⟩ := by kernel_rfl
@[simp] theorem live27_0 : G.live 27 0 = some ⟨[0, 1], []⟩ := by kernel_rfl
@[simp] theorem live27_1 : G.live 27 1 = some ⟨[0, 1, 5], []⟩ := by kernel_rfl
@[simp] theorem live27_2 : G.live 27 2 = some ⟨[0, 5, 11, 12], []⟩ := by kernel_rfl
@[simp] theorem live27_3 : G.live 27 3 = some ⟨[0, 5, 11, 12, 13], []⟩ := by kernel_rfl
@[simp] theorem live27_4 : G.live 27 4 = some ⟨[0, 5, 6, 11, 12], []⟩ := by kernel_rfl
@[simp] theorem live27_5 : G.live 27 5 = some ⟨[0, 5, 11, 12], []⟩ := by kernel_rfl
@[simp] theorem live27_6 : G.live 27 6 = some ⟨[0, 5, 11, 12], []⟩ := by kernel_rfl
@[simp] theorem live27_7 : G.live 27 7 = some ⟨[5, 7, 8], []⟩ := by kernel_rfl
@[simp] theorem live27_8 : G.live 27 8 = some ⟨[5, 7, 8, 29], []⟩ := by kernel_rfl
@[simp] theorem live27_10 : G.live 27 10 = some ⟨[5, 7, 8], []⟩ := by kernel_rfl
@[simp] theorem live27_9 : G.live 27 9 = some ⟨[5, 7, 8], []⟩ := by kernel_rfl
@[simp] theorem live27_11 : G.live 27 11 = some ⟨[4], []⟩ := by kernel_rfl
@[simp] theorem plan27_10 : G.plan 27 10 = some [.n 0, .n 1, .n 2, .n 3, .n 4, .n 5, .n 6, .n 7, .n 8, .n 9, .n 10, .n 11, .n 12, .e 13 [3, 2], .n 14, .e 15 []] := by kernel_rfl
@[simp] theorem E28 : G.E 28 = true := by kernel_rfl
@[simp] theorem ext28 : G.ext 28 = none := by kernel_rfl
@[simp] theorem dfr28 : G.dfr 28 = false := by kernel_rfl
@[simp] theorem own28 : G.retOwn 28 = false := by kernel_rfl
@[simp] theorem keep28_3 : G.keep 28 3 = some ⟨[(0, none), (1, none), (5, none), (6, none)], []⟩ := by kernel_rfl
@[simp] theorem live28_0 : G.live 28 0 = some ⟨[0, 1], []⟩ := by kernel_rfl
@[simp] theorem live28_1 : G.live 28 1 = some ⟨[0, 1, 5], []⟩ := by kernel_rfl
@[simp] theorem live28_2 : G.live 28 2 = some ⟨[0, 1, 5, 6], []⟩ := by kernel_rfl
@[simp] theorem live28_3 : G.live 28 3 = some ⟨[0, 1, 5, 6, 13], []⟩ := by kernel_rfl
@[simp] theorem live28_5 : G.live 28 5 = some ⟨[0, 1, 5, 6], []⟩ := by kernel_rfl
@[simp] theorem live28_6 : G.live 28 6 = some ⟨[0, 1, 5, 6], []⟩ := by kernel_rfl
@[simp] theorem live28_4 : G.live 28 4 = some ⟨[0, 1, 5, 6], []⟩ := by kernel_rfl
@[simp] theorem live28_7 : G.live 28 7 = some ⟨[4], []⟩ := by kernel_rfl
@[simp] theorem E29 : G.E 29 = true := by kernel_rfl
@[simp] theorem ext29 : G.ext 29 = none := by kernel_rfl
@[simp] theorem dfr29 : G.dfr 29 = false := by kernel_rfl
@[simp] theorem own29 : G.retOwn 29 = false := by kernel_rfl
@[simp] theorem live29_0 : G.live 29 0 = some ⟨[0, 1, 2], []⟩ := by kernel_rfl
@[simp] theorem live29_1 : G.live 29 1 = some ⟨[6], []⟩ := by kernel_rfl
@[simp] theorem E30 : G.E 30 = true := by kernel_rfl
@[simp] theorem ext30 : G.ext 30 = none := by kernel_rfl
@[simp] theorem dfr30 : G.dfr 30 = false := by kernel_rfl
@[simp] theorem own30 : G.retOwn 30 = false := by kernel_rfl
@[simp] theorem keep30_6 : G.keep 30 6 = some ⟨[(0, none), (1, none), (2, none), (8, none), (9, none), (10, none)], []⟩ := by kernel_rfl
@[simp] theorem live30_0 : G.live 30 0 = some ⟨[0, 1, 2], []⟩ := by kernel_rfl
@[simp] theorem live30_1 : G.live 30 1 = some ⟨[0, 1, 2, 16], []⟩ := by kernel_rfl
@[simp] theorem live30_2 : G.live 30 2 = some ⟨[6, 7], []⟩ := by kernel_rfl
@[simp] theorem live30_3 : G.live 30 3 = some ⟨[0, 1, 2, 8], []⟩ := by kernel_rfl
@[simp] theorem live30_4 : G.live 30 4 = some ⟨[0, 1, 2, 8, 9], []⟩ := by kernel_rfl
@[simp] theorem live30_5 : G.live 30 5 = some ⟨[0, 1, 2, 8, 9, 10], []⟩ := by kernel_rfl
@[simp] theorem live30_6 : G.live 30 6 = some ⟨[0, 1, 2, 8, 9, 10, 20], []⟩ := by kernel_rfl
@[simp] theorem live30_8 : G.live 30 8 = some ⟨[0, 1, 2, 8, 9, 10], []⟩ := by kernel_rfl
@[simp] theorem live30_9 : G.live 30 9 = some ⟨[0, 1, 2, 8, 9, 10], []⟩ := by kernel_rfl
@[simp] theorem live30_7 : G.live 30 7 = some ⟨[0, 1, 2, 8, 9, 10], []⟩ := by kernel_rfl
@[simp] theorem live30_10 : G.live 30 10 = some ⟨[6, 7], []⟩ := by kernel_rfl
@[simp] theorem E31 : G.E 31 = true := by kernel_rfl
@[simp] theorem ext31 : G.ext 31 = none := by kernel_rfl
@[simp] theorem dfr31 : G.dfr 31 = false := by kernel_rfl
@[simp] theorem own31 : G.retOwn 31 = false := by kernel_rfl
@[simp] theorem keep31_3 : G.keep 31 3 = some ⟨[(0, none), (3, none), (4, none)], []⟩ := by kernel_rfl
@[simp] theorem live31_0 : G.live 31 0 = some ⟨[0], []⟩ := by kernel_rfl
@[simp] theorem live31_1 : G.live 31 1 = some ⟨[0, 3], []⟩ := by kernel_rfl
@[simp] theorem live31_2 : G.live 31 2 = some ⟨[0, 3, 4], []⟩ := by kernel_rfl
@[simp] theorem live31_3 : G.live 31 3 = some ⟨[0, 3, 4, 8], []⟩ := by kernel_rfl
@[simp] theorem live31_5 : G.live 31 5 = some ⟨[0, 3, 4], []⟩ := by kernel_rfl
@[simp] theorem live31_4 : G.live 31 4 = some ⟨[0, 3, 4], []⟩ := by kernel_rfl
@[simp] theorem live31_6 : G.live 31 6 = some ⟨[2], []⟩ := by kernel_rfl
@[simp] theorem plan31_5 : G.plan 31 5 = some [.n 0, .n 1, .n 2, .n 3, .n 4, .n 5, .n 6, .n 9, .n 10, .n 11, .n 12, .e 7 [12, 11, 10, 9, 3, 2, 1, 0], .n 8, .n 13, .e 14 []] := by kernel_rfl
@[simp] theorem E32 : G.E 32 = true := by kernel_rfl
@[simp] theorem ext32 : G.ext 32 = none := by kernel_rfl
@[simp] theorem dfr32 : G.dfr 32 = false := by kernel_rfl
@[simp] theorem own32 : G.retOwn 32 = false := by kernel_rfl
@[simp] theorem keep32_4 : G.keep 32 4 = some ⟨[(0, none), (1, none), (12, none), (13, none)], []⟩ := by kernel_rfl
@[simp] theorem live32_0 : G.live 32 0 = some ⟨[0, 1], []⟩ := by kernel_rfl
@[simp] theorem live32_1 : G.live 32 1 = some ⟨[0, 1, 10], []⟩ := by kernel_rfl
@[simp] theorem live32_2 : G.live 32 2 = some ⟨[4], []⟩ := by kernel_rfl
@[simp] theorem live32_3 : G.live 32 3 = some ⟨[0, 1, 12, 13], []⟩ := by kernel_rfl
@[simp] theorem live32_4 : G.live 32 4 = some ⟨[0, 1, 12, 13, 14], []⟩ := by kernel_rfl
@[simp] theorem live32_5 : G.live 32 5 = some ⟨[0, 1, 5, 12, 13], []⟩ := by kernel_rfl
@[simp] theorem live32_6 : G.live 32 6 = some ⟨[0, 1, 12, 13, 24], []⟩ := by kernel_rfl
@[simp] theorem live32_7 : G.live 32 7 = some ⟨[4], []⟩ := by kernel_rfl
@[simp] theorem live32_8 : G.live 32 8 = some ⟨[0, 1, 12, 13], []⟩ := by kernel_rfl
@[simp] theorem live32_9 : G.live 32 9 = some ⟨[4], []⟩ := by kernel_rfl
@[simp] theorem plan32_6 : G.plan 32 6 = some [.n 0, .n 1, .n 2, .n 3, .n 4, .n 5, .n 6, .n 7, .n 8] := by kernel_rfl
@[simp] theorem E33 : G.E 33 = true := by kernel_rfl
@[simp] theorem ext33 : G.ext 33 = none := by kernel_rfl
@[simp] theorem dfr33 : G.dfr 33 = false := by kernel_rfl
@[simp] theorem own33 : G.retOwn 33 = false := by kernel_rfl
@[simp] theorem live33_0 : G.live 33 0 = some ⟨[0, 1], []⟩ := by kernel_rfl
@[simp] theorem live33_1 : G.live 33 1 = some ⟨[4], []⟩ := by kernel_rfl
@[simp] theorem E34 : G.E 34 = true := by kernel_rfl
@[simp] theorem ext34 : G.ext 34 = none := by kernel_rfl
@[simp] theorem dfr34 : G.dfr 34 = true := by kernel_rfl
@[simp] theorem own34 : G.retOwn 34 = false := by kernel_rfl
@[simp] theorem live34_0 : G.live 34 0 = some ⟨[0, 1, 4, 5], []⟩ := by kernel_rfl
@[simp] theorem live34_1 : G.live 34 1 = some ⟨[0, 1, 4, 5], []⟩ := by kernel_rfl
@[simp] theorem live34_2 : G.live 34 2 = some ⟨[1, 4, 5, 6], []⟩ := by kernel_rfl
@[simp] theorem live34_3 : G.live 34 3 = some ⟨[4, 5, 6], []⟩ := by kernel_rfl
@[simp] theorem live34_4 : G.live 34 4 = some ⟨[4, 5], []⟩ := by kernel_rfl
@[simp] theorem E35 : G.E 35 = true := by kernel_rfl
@[simp] theorem ext35 : G.ext 35 = none := by kernel_rfl
@[simp] theorem dfr35 : G.dfr 35 = false := by kernel_rfl
@[simp] theorem own35 : G.retOwn 35 = false := by kernel_rfl
@[simp] theorem keep35_0 : G.keep 35 0 = some ⟨[(0, none), (1, none)], []⟩ := by kernel_rfl
@[simp] theorem live35_0 : G.live 35 0 = some ⟨[0, 1, 7], []⟩ := by kernel_rfl
@[simp] theorem live35_1 : G.live 35 1 = some ⟨[0, 1], []⟩ := by kernel_rfl
@[simp] theorem live35_2 : G.live 35 2 = some ⟨[0, 1], []⟩ := by kernel_rfl
@[simp] theorem plan35_2 : G.plan 35 2 = some [.n 0, .n 1, .e 2 [0], .n 3, .e 4 [], .e 5 []] := by kernel_rfl
@[simp] theorem E36 : G.E 36 = true := by kernel_rfl
@[simp] theorem ext36 : G.ext 36 = none := by kernel_rfl
@[simp] theorem dfr36 : G.dfr 36 = false := by kernel_rfl
@[simp] theorem own36 : G.retOwn 36 = false := by kernel_rfl
@[simp] theorem live36_0 : G.live 36 0 = some ⟨[3], []⟩ := by kernel_rfl
@[simp] theorem live36_1 : G.live 36 1 = some ⟨[], []⟩ := by kernel_rfl
@[simp] theorem E37 : G.E 37 = true := by kernel_rfl
@[simp] theorem ext37 : G.ext 37 = none := by kernel_rfl
@[simp] theorem dfr37 : G.dfr 37 = false := by kernel_rfl
@[simp] theorem own37 : G.retOwn 37 = false := by kernel_rfl
@[simp] theorem live37_0 : G.live 37 0 = some ⟨[0, 1], []⟩ := by kernel_rfl
@[simp] theorem live37_1 : G.live 37 1 = some ⟨[0, 1, 12], []⟩ := by kernel_rfl
@[simp] theorem live37_2 : G.live 37 2 = some ⟨[0, 1], []⟩ := by kernel_rfl
@[simp] theorem live37_3 : G.live 37 3 = some ⟨[0, 1, 5], []⟩ := by kernel_rfl
@[simp] theorem live37_4 : G.live 37 4 = some ⟨[5], []⟩ := by kernel_rfl
@[simp] theorem live37_5 : G.live 37 5 = some ⟨[4], []⟩ := by kernel_rfl
@[simp] theorem E38 : G.E 38 = true := by kernel_rfl
@[simp] theorem ext38 : G.ext 38 = none := by kernel_rfl
@[simp] theorem dfr38 : G.dfr 38 = false := by kernel_rfl
@[simp] theorem own38 : G.retOwn 38 = false := by kernel_rfl
@[simp] theorem live38_0 : G.live 38 0 = some ⟨[0, 8, 9], []⟩ := by kernel_rfl
@[simp] theorem live38_1 : G.live 38 1 = some ⟨[0, 3, 8, 9], [(1003, (0, (1, 5)))]⟩ := by kernel_rfl
@[simp] theorem live38_2 : G.live 38 2 = some ⟨[3, 7, 8, 9], []⟩ := by kernel_rfl
@[simp] theorem live38_3 : G.live 38 3 = some ⟨[3, 4, 7, 8, 9], []⟩ := by kernel_rfl
@[simp] theorem live38_4 : G.live 38 4 = some ⟨[3, 4, 5, 7, 8, 9], []⟩ := by kernel_rfl
@[simp] theorem live38_5 : G.live 38 5 = some ⟨[3, 4, 5, 7, 8, 9, 15], []⟩ := by kernel_rfl
@[simp] theorem live38_6 : G.live 38 6 = some ⟨[3, 4, 7, 8, 9], []⟩ := by kernel_rfl
@[simp] theorem live38_7 : G.live 38 7 = some ⟨[3, 7, 8, 9], []⟩ := by kernel_rfl
@[simp] theorem live38_8 : G.live 38 8 = some ⟨[2], []⟩ := by kernel_rfl
@[simp] theorem E39 : G.E 39 = true := by kernel_rfl
@[simp] theorem ext39 : G.ext 39 = none := by kernel_rfl
@[simp] theorem dfr39 : G.dfr 39 = false := by kernel_rfl
@[simp] theorem own39 : G.retOwn 39 = true := by kernel_rfl
@[simp] theorem live39_0 : G.live 39 0 = some ⟨[0, 1, 2], []⟩ := by kernel_rfl
@[simp] theorem live39_1 : G.live 39 1 = some ⟨[0, 1, 2], []⟩ := by kernel_rfl
@[simp] theorem live39_2 : G.live 39 2 = some ⟨[0, 1, 2, 7], []⟩ := by kernel_rfl
@[simp] theorem live39_3 : G.live 39 3 = some ⟨[0, 1, 2, 7, 16], []⟩ := by kernel_rfl
@[simp] theorem live39_4 : G.live 39 4 = some ⟨[6], []⟩ := by kernel_rfl
@[simp] theorem live39_5 : G.live 39 5 = some ⟨[0, 1, 2, 7, 8], []⟩ := by kernel_rfl
@[simp] theorem live39_6 : G.live 39 6 = some ⟨[0, 1, 2, 7, 8, 22], []⟩ := by kernel_rfl
@[simp] theorem live39_7 : G.live 39 7 = some ⟨[6], []⟩ := by kernel_rfl
@[simp] theorem live39_8 : G.live 39 8 = some ⟨[0, 1, 2, 7, 8, 31], []⟩ := by kernel_rfl
@[simp] theorem live39_9 : G.live 39 9 = some ⟨[0, 1, 2, 7, 9], []⟩ := by kernel_rfl
@[simp] theorem live39_10 : G.live 39 10 = some ⟨[0, 1, 7, 9], []⟩ := by kernel_rfl
@[simp] theorem live39_11 : G.live 39 11 = some ⟨[9], []⟩ := by kernel_rfl
@[simp] theorem live39_12 : G.live 39 12 = some ⟨[6], []⟩ := by kernel_rfl
@[simp] theorem live39_13 : G.live 39 13 = some ⟨[0, 1, 2, 7, 8], []⟩ := by kernel_rfl
@[simp] theorem live39_14 : G.live 39 14 = some ⟨[0, 1, 2, 7, 8, 68], []⟩ := by kernel_rfl
@[simp] theorem live39_15 : G.live 39 15 = some ⟨[0, 1, 2], []⟩ := by kernel_rfl
@[simp] theorem live39_16 : G.live 39 16 = some ⟨[0], []⟩ := by kernel_rfl
@[simp] theorem live39_17 : G.live 39 17 = some ⟨[6], []⟩ := by kernel_rfl
@[simp] theorem live39_18 : G.live 39 18 = some ⟨[0, 1, 7], []⟩ := by kernel_rfl
@[simp] theorem live39_19 : G.live 39 19 = some ⟨[0], []⟩ := by kernel_rfl
@[simp] theorem live39_20 : G.live 39 20 = some ⟨[6], []⟩ := by kernel_rfl
@[simp] theorem plan39_11 : G.plan 39 11 = some [.n 0, .n 1, .n 2, .n 3, .n 4, .n 5, .n 6, .n 7, .e 8 []] := by kernel_rfl
@[simp] theorem plan39_15 : G.plan 39 15 = some [.n 0, .n 1, .n 2, .n 3, .n 4, .n 5, .n 6, .n 7, .e 8 []] := by kernel_rfl
@[simp] theorem E40 : G.E 40 = true := by kernel_rfl
@[simp] theorem ext40 : G.ext 40 = none := by kernel_rfl
@[simp] theorem dfr40 : G.dfr 40 = false := by kernel_rfl
@[simp] theorem own40 : G.retOwn 40 = true := by kernel_rfl
@[simp] theorem live40_0 : G.live 40 0 = some ⟨[0], []⟩ := by kernel_rfl
@[simp] theorem live40_1 : G.live 40 1 = some ⟨[0, 4], []⟩ := by kernel_rfl
@[simp] theorem live40_2 : G.live 40 2 = some ⟨[2], []⟩ := by kernel_rfl
@[simp] theorem live40_3 : G.live 40 3 = some ⟨[2], []⟩ := by kernel_rfl
@[simp] theorem E41 : G.E 41 = true := by kernel_rfl
@[simp] theorem ext41 : G.ext 41 = none := by kernel_rfl
@[simp] theorem dfr41 : G.dfr 41 = false := by kernel_rfl
@[simp] theorem own41 : G.retOwn 41 = false := by kernel_rfl
@[simp] theorem live41_0 : G.live 41 0 = some ⟨[0, 1], []⟩ := by kernel_rfl
@[simp] theorem live41_1 : G.live 41 1 = some ⟨[0, 1], []⟩ := by kernel_rfl
@[simp] theorem live41_2 : G.live 41 2 = some ⟨[], []⟩ := by kernel_rfl
@[simp] theorem live41_3 : G.live 41 3 = some ⟨[4], []⟩ := by kernel_rfl
@[simp] theorem E42 : G.E 42 = true := by kernel_rfl
@[simp] theorem ext42 : G.ext 42 = none := by kernel_rfl
@[simp] theorem dfr42 : G.dfr 42 = false := by kernel_rfl
@[simp] theorem own42 : G.retOwn 42 = false := by kernel_rfl
@[simp] theorem keep42_1 : G.keep 42 1 = some ⟨[(0, none), (1, none), (6, none), (7, none)], []⟩ := by kernel_rfl
@[simp] theorem live42_0 : G.live 42 0 = some ⟨[0, 1, 6, 7], []⟩ := by kernel_rfl
@[simp] theorem live42_1 : G.live 42 1 = some ⟨[0, 1, 6, 7, 8], []⟩ := by kernel_rfl
@[simp] theorem live42_2 : G.live 42 2 = some ⟨[0, 1, 4, 6, 7], []⟩ := by kernel_rfl
@[simp] theorem live42_3 : G.live 42 3 = some ⟨[0, 1, 4, 6, 7], []⟩ := by kernel_rfl
@[simp] theorem live42_4 : G.live 42 4 = some ⟨[0, 1, 6, 7, 20], []⟩ := by kernel_rfl
@[simp] theorem live42_5 : G.live 42 5 = some ⟨[0, 1, 6, 7], []⟩ := by kernel_rfl
@[simp] theorem live42_6 : G.live 42 6 = some ⟨[0, 1, 6, 7], []⟩ := by kernel_rfl
@[simp] theorem live42_7 : G.live 42 7 = some ⟨[], []⟩ := by kernel_rfl
@[simp] theorem plan42_3 : G.plan 42 3 = some [.n 0, .n 1, .n 2, .n 3, .n 4, .n 5, .e 6 []] := by kernel_rfl
@[simp] theorem E43 : G.E 43 = true := by kernel_rfl
@[simp] theorem ext43 : G.ext 43 = none := by kernel_rfl
@[simp] theorem dfr43 : G.dfr 43 = false := by kernel_rfl
@[simp] theorem own43 : G.retOwn 43 = false := by kernel_rfl
@[simp] theorem live43_0 : G.live 43 0 = some ⟨[0], []⟩ := by kernel_rfl
@[simp] theorem live43_1 : G.live 43 1 = some ⟨[2], []⟩ := by kernel_rfl
@[simp] theorem plan43_1 : G.plan 43 1 = some [.n 0, .n 1, .n 2, .n 3, .n 5, .n 6, .n 7, .n 8, .n 9, .e 4 [9, 8, 7, 6, 5, 0], .e 10 [6, 5, 1, 0], .n 11] := by kernel_rfl
@[simp] theorem E44 : G.E 44 = true := by kernel_rfl
@[simp] theorem ext44 : G.ext 44 = none := by kernel_rfl
@[simp] theorem dfr44 : G.dfr 44 = false := by kernel_rfl
@[simp] theorem own44 : G.retOwn 44 = false := by kernel_rfl
@[simp] theorem live44_0 : G.live 44 0 = some ⟨[0, 3], []⟩ := by kernel_rfl
@[simp] theorem live44_1 : G.live 44 1 = some ⟨[4], []⟩ := by kernel_rfl
@[simp] theorem E45 : G.E 45 = true := by kernel_rfl
@[simp] theorem ext45 : G.ext 45 = none := by kernel_rfl
@[simp] theorem dfr45 : G.dfr 45 = false := by kernel_rfl
@[simp] theorem own45 : G.retOwn 45 = false := by kernel_rfl
@[simp] theorem live45_0 : G.live 45 0 = some ⟨[0, 1, 2], []⟩ := by kernel_rfl
@[simp] theorem live45_1 : G.live 45 1 = some ⟨[6, 7], []⟩ := by kernel_rfl
@[simp] theorem E46 : G.E 46 = true := by kernel_rfl
@[simp] theorem ext46 : G.ext 46 = none := by kernel_rfl
@[simp] theorem dfr46 : G.dfr 46 = false := by kernel_rfl
@[simp] theorem own46 : G.retOwn 46 = false := by kernel_rfl
@[simp] theorem keep46_3 : G.keep 46 3 = some ⟨[(0, none), (3, none), (9, none), (10, none), (11, none)], []⟩ := by kernel_rfl
@[simp] theorem keep46_11 : G.keep 46 11 = some ⟨[(6, some (1, 9)), (25, none), (26, none), (27, none)], []⟩ := by kernel_rfl
@[simp] theorem live46_0 : G.live 46 0 = some ⟨[0], []⟩ := by kernel_rfl
@[simp] theorem live46_1 : G.live 46 1 = some ⟨[0, 3], []⟩ := by kernel_rfl
@[simp] theorem live46_2 : G.live 46 2 = some ⟨[0, 3, 9, 10, 11], []⟩ := by kernel_rfl
@[simp] theorem live46_3 : G.live 46 3 = some ⟨[0, 3, 9, 10, 11, 12], []⟩ := by kernel_rfl
@[simp] theorem live46_4 : G.live 46 4 = some ⟨[0, 3, 5, 9, 10, 11], []⟩ := by kernel_rfl
@[simp] theorem live46_5 : G.live 46 5 = some ⟨[0, 3, 9, 10, 11], []⟩ := by kernel_rfl
@[simp] theorem live46_6 : G.live 46 6 = some ⟨[0, 3, 9, 10, 11, 20], []⟩ := by kernel_rfl
@[simp] theorem live46_7 : G.live 46 7 = some ⟨[0, 3, 9, 10, 11], []⟩ := by kernel_rfl
@[simp] theorem live46_8 : G.live 46 8 = some ⟨[0, 3, 9, 10, 11], []⟩ := by kernel_rfl
@[simp] theorem live46_9 : G.live 46 9 = some ⟨[0, 6], []⟩ := by kernel_rfl
@[simp] theorem live46_10 : G.live 46 10 = some ⟨[6, 25, 26, 27], []⟩ := by kernel_rfl
@[simp] theorem live46_11 : G.live 46 11 = some ⟨[6, 25, 26, 27, 28], []⟩ := by kernel_rfl
@[simp] theorem live46_12 : G.live 46 12 = some ⟨[6, 8, 25, 26, 27], []⟩ := by kernel_rfl
@[simp] theorem live46_13 : G.live 46 13 = some ⟨[6, 25, 26, 27], []⟩ := by kernel_rfl
@[simp] theorem live46_14 : G.live 46 14 = some ⟨[6, 25, 26, 27], []⟩ := by kernel_rfl
@[simp] theorem live46_15 : G.live 46 15 = some ⟨[2], []⟩ := by kernel_rfl
@[simp] theorem E47 : G.E 47 = true := by kernel_rfl
@[simp] theorem ext47 : G.ext 47 = none := by kernel_rfl
@[simp] theorem dfr47 : G.dfr 47 = false := by kernel_rfl
@[simp] theorem own47 : G.retOwn 47 = false := by kernel_rfl
@[simp] theorem live47_0 : G.live 47 0 = some ⟨[0], []⟩ := by kernel_rfl
@[simp] theorem live47_1 : G.live 47 1 = some ⟨[2], []⟩ := by kernel_rfl
@[simp] theorem E48 : G.E 48 = true := by kernel_rfl
@[simp] theorem ext48 : G.ext 48 = none := by kernel_rfl
@[simp] theorem dfr48 : G.dfr 48 = false := by kernel_rfl
@[simp] theorem own48 : G.retOwn 48 = false := by kernel_rfl
@[simp] theorem keep48_3 : G.keep 48 3 = some ⟨[(0, none), (1, none)], []⟩ := by kernel_rfl
@[simp] theorem live48_0 : G.live 48 0 = some ⟨[0, 1], []⟩ := by kernel_rfl
@[simp] theorem live48_1 : G.live 48 1 = some ⟨[0, 1, 7], []⟩ := by kernel_rfl
@[simp] theorem live48_2 : G.live 48 2 = some ⟨[0, 1], []⟩ := by kernel_rfl
@[simp] theorem live48_3 : G.live 48 3 = some ⟨[0, 1, 12], []⟩ := by kernel_rfl
@[simp] theorem live48_4 : G.live 48 4 = some ⟨[0, 1], []⟩ := by kernel_rfl
@[simp] theorem live48_5 : G.live 48 5 = some ⟨[4], []⟩ := by kernel_rfl
@[simp] theorem E49 : G.E 49 = true := by kernel_rfl
@[simp] theorem ext49 : G.ext 49 = none := by kernel_rfl
@[simp] theorem dfr49 : G.dfr 49 = false := by kernel_rfl
@[simp] theorem own49 : G.retOwn 49 = false := by kernel_rfl
@[simp] theorem keep49_3 : G.keep 49 3 = some ⟨[(5, none), (6, none), (14, none), (15, none), (16, none)], []⟩ := by kernel_rfl
@[simp] theorem live49_0 : G.live 49 0 = some ⟨[0, 1], []⟩ := by kernel_rfl
@[simp] theorem live49_1 : G.live 49 1 = some ⟨[1, 5, 6], []⟩ := by kernel_rfl
@[simp] theorem live49_2 : G.live 49 2 = some ⟨[5, 6, 14, 15, 16], []⟩ := by kernel_rfl
@[simp] theorem live49_3 : G.live 49 3 = some ⟨[5, 6, 14, 15, 16, 17], []⟩ := by kernel_rfl
@[simp] theorem live49_4 : G.live 49 4 = some ⟨[5, 6, 8, 14, 15, 16], []⟩ := by kernel_rfl
@[simp] theorem live49_5 : G.live 49 5 = some ⟨[5, 6, 14, 15, 16], []⟩ := by kernel_rfl
@[simp] theorem live49_6 : G.live 49 6 = some ⟨[5, 6, 14, 15, 16], []⟩ := by kernel_rfl
@[simp] theorem live49_7 : G.live 49 7 = some ⟨[4], []⟩ := by kernel_rfl
@[simp] theorem E50 : G.E 50 = true := by kernel_rfl
@[simp] theorem ext50 : G.ext 50 = none := by kernel_rfl
@[simp] theorem dfr50 : G.dfr 50 = false := by kernel_rfl
@[simp] theorem own50 : G.retOwn 50 = false := by kernel_rfl
@[simp] theorem live50_0 : G.live 50 0 = some ⟨[0, 1, 3], []⟩ := by kernel_rfl
@[simp] theorem live50_1 : G.live 50 1 = some ⟨[0, 1, 9], []⟩ := by kernel_rfl
@[simp] theorem live50_2 : G.live 50 2 = some ⟨[], []⟩ := by kernel_rfl
@[simp] theorem E51 : G.E 51 = true := by kernel_rfl
@[simp] theorem ext51 : G.ext 51 = none := by kernel_rfl
@[simp] theorem dfr51 : G.dfr 51 = false := by kernel_rfl
@[simp] theorem own51 : G.retOwn 51 = false := by kernel_rfl
@[simp] theorem live51_0 : G.live 51 0 = some ⟨[1], []⟩ := by kernel_rfl
@[simp] theorem live51_1 : G.live 51 1 = some ⟨[2], []⟩ := by kernel_rfl
@[simp] theorem E53 : G.E 53 = true := by kernel_rfl
@[simp] theorem ext53 : G.ext 53 = none := by kernel_rfl
@[simp] theorem dfr53 : G.dfr 53 = false := by kernel_rfl
@[simp] theorem own53 : G.retOwn 53 = false := by kernel_rfl
@[simp] theorem live53_0 : G.live 53 0 = some ⟨[], []⟩ := by kernel_rfl
@[simp] theorem E54 : G.E 54 = true := by kernel_rfl
@[simp] theorem ext54 : G.ext 54 = none := by kernel_rfl
@[simp] theorem dfr54 : G.dfr 54 = false := by kernel_rfl
@[simp] theorem own54 : G.retOwn 54 = false := by kernel_rfl
@[simp] theorem live54_0 : G.live 54 0 = some ⟨[0, 6], []⟩ := by kernel_rfl
@[simp] theorem live54_1 : G.live 54 1 = some ⟨[], []⟩ := by kernel_rfl
@[simp] theorem live54_2 : G.live 54 2 = some ⟨[19], []⟩ := by kernel_rfl
@[simp] theorem E55 : G.E 55 = true := by kernel_rfl
@[simp] theorem ext55 : G.ext 55 = none := by kernel_rfl
@[simp] theorem dfr55 : G.dfr 55 = false := by kernel_rfl
@[simp] theorem own55 : G.retOwn 55 = false := by kernel_rfl
@[simp] theorem live55_0 : G.live 55 0 = some ⟨[0, 1], []⟩ := by kernel_rfl
@[simp] theorem live55_1 : G.live 55 1 = some ⟨[0, 1], []⟩ := by kernel_rfl
@[simp] theorem live55_2 : G.live 55 2 = some ⟨[1], []⟩ := by kernel_rfl
@[simp] theorem live55_3 : G.live 55 3 = some ⟨[4, 5], []⟩ := by kernel_rfl
@[simp] theorem E56 : G.E 56 = true := by kernel_rfl
@[simp] theorem ext56 : G.ext 56 = none := by kernel_rfl
@[simp] theorem dfr56 : G.dfr 56 = false := by kernel_rfl
@[simp] theorem own56 : G.retOwn 56 = false := by kernel_rfl
@[simp] theorem keep56_2 : G.keep 56 2 = some ⟨[(0, none), (3, none), (7, none), (8, none)], [(1003, [])]⟩ := by kernel_rfl
@[simp] theorem live56_0 : G.live 56 0 = some ⟨[0, 3], []⟩ := by kernel_rfl
@[simp] theorem live56_1 : G.live 56 1 = some ⟨[0, 3, 7, 8], []⟩ := by kernel_rfl
@[simp] theorem live56_2 : G.live 56 2 = some ⟨[0, 3, 7, 8, 9], []⟩ := by kernel_rfl
@[simp] theorem live56_3 : G.live 56 3 = some ⟨[0, 3, 5, 7, 8], []⟩ := by kernel_rfl
@[simp] theorem live56_4 : G.live 56 4 = some ⟨[0, 3, 5, 7, 8, 16], []⟩ := by kernel_rfl
@[simp] theorem live56_5 : G.live 56 5 = some ⟨[4], []⟩ := by kernel_rfl
@[simp] theorem live56_6 : G.live 56 6 = some ⟨[0, 3, 7, 8], []⟩ := by kernel_rfl
@[simp] theorem live56_7 : G.live 56 7 = some ⟨[4], []⟩ := by kernel_rfl
@[simp] theorem plan56_4 : G.plan 56 4 = some [.n 0, .n 1, .n 2, .n 3, .n 4, .n 5] := by kernel_rfl
@[simp] theorem E57 : G.E 57 = true := by kernel_rfl
@[simp] theorem ext57 : G.ext 57 = none := by kernel_rfl
@[simp] theorem dfr57 : G.dfr 57 = false := by kernel_rfl
@[simp] theorem own57 : G.retOwn 57 = false := by kernel_rfl
@[simp] theorem live57_0 : G.live 57 0 = some ⟨[0, 1, 5, 19], []⟩ := by kernel_rfl
@[simp] theorem live57_1 : G.live 57 1 = some ⟨[0, 1, 5, 15, 19], []⟩ := by kernel_rfl
@[simp] theorem live57_2 : G.live 57 2 = some ⟨[6, 7], []⟩ := by kernel_rfl
@[simp] theorem live57_3 : G.live 57 3 = some ⟨[0, 1, 5, 8, 19], []⟩ := by kernel_rfl
@[simp] theorem live57_4 : G.live 57 4 = some ⟨[5, 8, 18, 19], []⟩ := by kernel_rfl
@[simp] theorem live57_5 : G.live 57 5 = some ⟨[5, 8, 9, 18, 19], []⟩ := by kernel_rfl
@[simp] theorem live57_6 : G.live 57 6 = some ⟨[5, 8, 9, 18, 19, 22], []⟩ := by kernel_rfl
@[simp] theorem live57_7 : G.live 57 7 = some ⟨[5, 8, 18, 19], []⟩ := by kernel_rfl
@[simp] theorem live57_8 : G.live 57 8 = some ⟨[6, 7], []⟩ := by kernel_rfl
@[simp] theorem plan57_6 : G.plan 57 6 = some [.n 1, .e 0 [1], .n 2] := by kernel_rfl
@[simp] theorem plan57_8 : G.plan 57 8 = some [.n 1, .e 0 [1], .e 2 [], .n 3, .n 4] := by kernel_rfl
@[simp] theorem E58 : G.E 58 = true := by kernel_rfl
@[simp] theorem ext58 : G.ext 58 = none := by kernel_rfl
@[simp] theorem dfr58 : G.dfr 58 = false := by kernel_rfl
@[simp] theorem own58 : G.retOwn 58 = false := by kernel_rfl
@[simp] theorem keep58_3 : G.keep 58 3 = some ⟨[(3, none), (6, none), (7, none), (8, none)], [(1003, [(1, 1, 5)])]⟩ := by kernel_rfl
@[simp] theorem live58_0 : G.live 58 0 = some ⟨[0], []⟩ := by kernel_rfl
@[simp] theorem live58_1 : G.live 58 1 = some ⟨[0, 3], []⟩ := by kernel_rfl
@[simp] theorem live58_2 : G.live 58 2 = some ⟨[3, 6, 7, 8], []⟩ := by kernel_rfl
@[simp] theorem live58_3 : G.live 58 3 = some ⟨[3, 6, 7, 8, 9], []⟩ := by kernel_rfl
@[simp] theorem live58_4 : G.live 58 4 = some ⟨[3, 5, 6, 7, 8], []⟩ := by kernel_rfl
@[simp] theorem live58_5 : G.live 58 5 = some ⟨[3, 5, 6, 7, 8], []⟩ := by kernel_rfl
@[simp] theorem live58_6 : G.live 58 6 = some ⟨[3, 6, 7, 8], []⟩ := by kernel_rfl
@[simp] theorem live58_7 : G.live 58 7 = some ⟨[3, 6, 7, 8], []⟩ := by kernel_rfl
@[simp] theorem live58_8 : G.live 58 8 = some ⟨[2], []⟩ := by kernel_rfl
@[simp] theorem E59 : G.E 59 = true := by kernel_rfl
@[simp] theorem ext59 : G.ext 59 = none := by kernel_rfl
@[simp] theorem dfr59 : G.dfr 59 = false := by kernel_rfl
@[simp] theorem own59 : G.retOwn 59 = true := by kernel_rfl
@[simp] theorem live59_0 : G.live 59 0 = some ⟨[0, 1], []⟩ := by kernel_rfl
@[simp] theorem live59_1 : G.live 59 1 = some ⟨[0, 1, 6], []⟩ := by kernel_rfl
@[simp] theorem live59_2 : G.live 59 2 = some ⟨[0, 1], []⟩ := by kernel_rfl
@[simp] theorem live59_3 : G.live 59 3 = some ⟨[0, 1], []⟩ := by kernel_rfl
@[simp] theorem live59_4 : G.live 59 4 = some ⟨[0, 1, 16], []⟩ := by kernel_rfl
@[simp] theorem live59_5 : G.live 59 5 = some ⟨[0], []⟩ := by kernel_rfl
@[simp] theorem live59_6 : G.live 59 6 = some ⟨[4], []⟩ := by kernel_rfl
@[simp] theorem E60 : G.E 60 = true := by kernel_rfl
@[simp] theorem ext60 : G.ext 60 = none := by kernel_rfl
@[simp] theorem dfr60 : G.dfr 60 = false := by kernel_rfl
@[simp] theorem own60 : G.retOwn 60 = false := by kernel_rfl
@[simp] theorem keep60_4 : G.keep 60 4 = some ⟨[(0, none), (3, none), (4, none)], []⟩ := by kernel_rfl
@[simp] theorem keep60_9 : G.keep 60 9 = some ⟨[(3, none), (5, none), (6, none)], []⟩ := by kernel_rfl
@[simp] theorem live60_0 : G.live 60 0 = some ⟨[0], []⟩ := by kernel_rfl
@[simp] theorem live60_1 : G.live 60 1 = some ⟨[0], []⟩ := by kernel_rfl
@[simp] theorem live60_2 : G.live 60 2 = some ⟨[0, 3], []⟩ := by kernel_rfl
@[simp] theorem live60_3 : G.live 60 3 = some ⟨[0, 3, 4], []⟩ := by kernel_rfl
@[simp] theorem live60_4 : G.live 60 4 = some ⟨[0, 3, 4, 16], []⟩ := by kernel_rfl
@[simp] theorem live60_6 : G.live 60 6 = some ⟨[0, 3, 4], []⟩ := by kernel_rfl
@[simp] theorem live60_5 : G.live 60 5 = some ⟨[0, 3, 4], []⟩ := by kernel_rfl
@[simp] theorem live60_7 : G.live 60 7 = some ⟨[3, 5], []⟩ := by kernel_rfl
@[simp] theorem live60_8 : G.live 60 8 = some ⟨[3, 5, 6], []⟩ := by kernel_rfl
@[simp] theorem live60_9 : G.live 60 9 = some ⟨[3, 5, 6, 27], []⟩ := by kernel_rfl
@[simp] theorem live60_11 : G.live 60 11 = some ⟨[3, 5, 6], []⟩ := by kernel_rfl
@[simp] theorem live60_10 : G.live 60 10 = some ⟨[3, 5, 6], []⟩ := by kernel_rfl
@[simp] theorem live60_12 : G.live 60 12 = some ⟨[2], []⟩ := by kernel_rfl
@[simp] theorem E61 : G.E 61 = true := by kernel_rfl
@[simp] theorem ext61 : G.ext 61 = none := by kernel_rfl
@[simp] theorem dfr61 : G.dfr 61 = false := by kernel_rfl
@[simp] theorem own61 : G.retOwn 61 = false := by kernel_rfl
@[simp] theorem keep61_3 : G.keep 61 3 = some ⟨[(1, none), (5, some (1, 5)), (6, none)], []⟩ := by kernel_rfl
@[simp] theorem live61_0 : G.live 61 0 = some ⟨[0, 1], []⟩ := by kernel_rfl
@[simp] theorem live61_1 : G.live 61 1 = some ⟨[1, 5], []⟩ := by kernel_rfl
@[simp] theorem live61_2 : G.live 61 2 = some ⟨[1, 5, 6], []⟩ := by kernel_rfl
@[simp] theorem live61_3 : G.live 61 3 = some ⟨[1, 5, 6, 12], []⟩ := by kernel_rfl
@[simp] theorem live61_5 : G.live 61 5 = some ⟨[1, 5, 6], []⟩ := by kernel_rfl
@[simp] theorem live61_4 : G.live 61 4 = some ⟨[1, 5, 6], []⟩ := by kernel_rfl
@[simp] theorem live61_6 : G.live 61 6 = some ⟨[4], []⟩ := by kernel_rfl
@[simp] theorem E62 : G.E 62 = true := by kernel_rfl
@[simp] theorem ext62 : G.ext 62 = none := by kernel_rfl
@[simp] theorem dfr62 : G.dfr 62 = false := by kernel_rfl
@[simp] theorem own62 : G.retOwn 62 = false := by kernel_rfl
@[simp] theorem live62_0 : G.live 62 0 = some ⟨[1], []⟩ := by kernel_rfl
@[simp] theorem live62_1 : G.live 62 1 = some ⟨[1, 7], []⟩ := by kernel_rfl
@[simp] theorem live62_2 : G.live 62 2 = some ⟨[1], []⟩ := by kernel_rfl
@[simp] theorem live62_3 : G.live 62 3 = some ⟨[1], []⟩ := by kernel_rfl
@[simp] theorem live62_4 : G.live 62 4 = some ⟨[1, 4], []⟩ := by kernel_rfl
@[simp] theorem live62_5 : G.live 62 5 = some ⟨[1, 4], []⟩ := by kernel_rfl
@[simp] theorem live62_6 : G.live 62 6 = some ⟨[2, 3], []⟩ := by kernel_rfl
@[simp] theorem plan62_3 : G.plan 62 3 = some [.n 0, .n 1, .n 2, .n 3, .e 4 [0], .n 5, .e 6 []] := by kernel_rfl
@[simp] theorem plan62_5 : G.plan 62 5 = some [.n 0, .n 1, .e 2 [1, 0], .e 3 [0], .e 4 []] := by kernel_rfl
@[simp] theorem E63 : G.E 63 = true := by kernel_rfl
@[simp] theorem ext63 : G.ext 63 = none := by kernel_rfl
@[simp] theorem dfr63 : G.dfr 63 = false := by kernel_rfl
@[simp] theorem own63 : G.retOwn 63 = false := by kernel_rfl
@[simp] theorem live63_0 : G.live 63 0 = some ⟨[1, 2, 28, 29], []⟩ := by kernel_rfl
@[simp] theorem live63_1 : G.live 63 1 = some ⟨[1, 2, 28, 29], []⟩ := by kernel_rfl
@[simp] theorem live63_2 : G.live 63 2 = some ⟨[2, 28, 29], []⟩ := by kernel_rfl
@[simp] theorem live63_3 : G.live 63 3 = some ⟨[2, 27, 28, 29], []⟩ := by kernel_rfl
@[simp] theorem live63_4 : G.live 63 4 = some ⟨[2, 4, 27, 28, 29], []⟩ := by kernel_rfl
@[simp] theorem live63_5 : G.live 63 5 = some ⟨[2, 4, 5, 27, 28, 29], []⟩ := by kernel_rfl
@[simp] theorem live63_6 : G.live 63 6 = some ⟨[2, 5, 27, 28, 29], []⟩ := by kernel_rfl
@[simp] theorem live63_7 : G.live 63 7 = some ⟨[2, 27, 28, 29], []⟩ := by kernel_rfl
@[simp] theorem plan63_6 : G.plan 63 6 = some [.n 0, .n 1, .n 2, .n 3, .n 4, .n 5, .e 6 [1, 0], .n 7, .n 8, .e 9 []] := by kernel_rfl
@[simp] theorem E64 : G.E 64 = true := by kernel_rfl
@[simp] theorem ext64 : G.ext 64 = none := by kernel_rfl
@[simp] theorem dfr64 : G.dfr 64 = false := by kernel_rfl
@[simp] theorem own64 : G.retOwn 64 = false := by kernel_rfl
@[simp] theorem keep64_0 : G.keep 64 0 = some ⟨[(0, none), (1, none)], []⟩ := by kernel_rfl
@[simp] theorem live64_0 : G.live 64 0 = some ⟨[0, 1], []⟩ := by kernel_rfl
@[simp] theorem live64_1 : G.live 64 1 = some ⟨[0, 1, 3, 4], []⟩ := by kernel_rfl
@[simp] theorem live64_2 : G.live 64 2 = some ⟨[0, 1, 3, 4], []⟩ := by kernel_rfl
@[simp] theorem live64_3 : G.live 64 3 = some ⟨[0, 1, 3, 4, 25], []⟩ := by kernel_rfl
@[simp] theorem live64_4 : G.live 64 4 = some ⟨[0, 1, 3, 4], []⟩ := by kernel_rfl
@[simp] theorem live64_5 : G.live 64 5 = some ⟨[0, 1, 32], []⟩ := by kernel_rfl
@[simp] theorem plan64_1 : G.plan 64 1 = some [.n 0, .n 1, .n 2, .n 3, .n 4, .n 5, .n 6, .n 7, .n 8, .n 9, .n 10, .n 11] := by kernel_rfl
@[simp] theorem E65 : G.E 65 = true := by kernel_rfl
@[simp] theorem ext65 : G.ext 65 = none := by kernel_rfl
@[simp] theorem dfr65 : G.dfr 65 = false := by kernel_rfl
@[simp] theorem own65 : G.retOwn 65 = false := by kernel_rfl
@[simp] theorem live65_0 : G.live 65 0 = some ⟨[0, 1], []⟩ := by kernel_rfl
@[simp] theorem live65_1 : G.live 65 1 = some ⟨[0], []⟩ := by kernel_rfl
@[simp] theorem live65_2 : G.live 65 2 = some ⟨[], []⟩ := by kernel_rfl
@[simp] theorem E67 : G.E 67 = true := by kernel_rfl
@[simp] theorem ext67 : G.ext 67 = none := by kernel_rfl
@[simp] theorem dfr67 : G.dfr 67 = false := by kernel_rfl
@[simp] theorem own67 : G.retOwn 67 = false := by kernel_rfl
@[simp] theorem live67_0 : G.live 67 0 = some ⟨[2, 3], []⟩ := by kernel_rfl
@[simp] theorem live67_1 : G.live 67 1 = some ⟨[4], []⟩ := by kernel_rfl
@[simp] theorem E68 : G.E 68 = true := by kernel_rfl
@[simp] theorem ext68 : G.ext 68 = none := by kernel_rfl
@[simp] theorem dfr68 : G.dfr 68 = false := by kernel_rfl
@[simp] theorem own68 : G.retOwn 68 = false := by kernel_rfl
@[simp] theorem live68_0 : G.live 68 0 = some ⟨[0], []⟩ := by kernel_rfl
@[simp] theorem live68_1 : G.live 68 1 = some ⟨[2], []⟩ := by kernel_rfl
@[simp] theorem E69 : G.E 69 = true := by kernel_rfl
@[simp] theorem ext69 : G.ext 69 = none := by kernel_rfl
@[simp] theorem dfr69 : G.dfr 69 = false := by kernel_rfl
@[simp] theorem own69 : G.retOwn 69 = false := by kernel_rfl
@[simp] theorem keep69_4 : G.keep 69 4 = some ⟨[(0, none), (3, none)], []⟩ := by kernel_rfl
@[simp] theorem live69_0 : G.live 69 0 = some ⟨[0], []⟩ := by kernel_rfl
@[simp] theorem live69_1 : G.live 69 1 = some ⟨[0, 5], []⟩ := by kernel_rfl
@[simp] theorem live69_2 : G.live 69 2 = some ⟨[2], []⟩ := by kernel_rfl
@[simp] theorem live69_3 : G.live 69 3 = some ⟨[0, 3], []⟩ := by kernel_rfl
@[simp] theorem live69_4 : G.live 69 4 = some ⟨[0, 3, 14], []⟩ := by kernel_rfl
@[simp] theorem live69_5 : G.live 69 5 = some ⟨[0, 3], []⟩ := by kernel_rfl
@[simp] theorem live69_6 : G.live 69 6 = some ⟨[2], []⟩ := by kernel_rfl
@[simp] theorem E70 : G.E 70 = true := by kernel_rfl
@[simp] theorem ext70 : G.ext 70 = none := by kernel_rfl
@[simp] theorem dfr70 : G.dfr 70 = false := by kernel_rfl
@[simp] theorem own70 : G.retOwn 70 = false := by kernel_rfl
@[simp] theorem keep70_3 : G.keep 70 3 = some ⟨[(0, none), (1, none), (5, some (1, 115)), (6, none)], []⟩ := by kernel_rfl
@[simp] theorem keep70_10 : G.keep 70 10 = some ⟨[(0, none), (5, none), (7, none), (8, none), (9, none)], []⟩ := by kernel_rfl
@[simp] theorem keep70_19 : G.keep 70 19 = some ⟨[(0, none), (8, none), (14, some (1, 115)), (15, none)], []⟩ := by kernel_rfl
@[simp] theorem live70_0 : G.live 70 0 = some ⟨[0, 1], []⟩ := by kernel_rfl
@[simp] theorem live70_1 : G.live 70 1 = some ⟨[0, 1, 5], []⟩ := by kernel_rfl
@[simp] theorem live70_2 : G.live 70 2 = some ⟨[0, 1, 5, 6], []⟩ := by kernel_rfl
@[simp] theorem live70_3 : G.live 70 3 = some ⟨[0, 1, 5, 6, 17], []⟩ := by kernel_rfl
@[simp] theorem live70_5 : G.live 70 5 = some ⟨[0, 1, 5, 6], []⟩ := by kernel_rfl
@[simp] theorem live70_4 : G.live 70 4 = some ⟨[0, 1, 5, 6], []⟩ := by kernel_rfl
@[simp] theorem live70_6 : G.live 70 6 = some ⟨[0, 5], []⟩ := by kernel_rfl
@[simp] theorem live70_7 : G.live 70 7 = some ⟨[0, 5, 7], []⟩ := by kernel_rfl
@[simp] theorem live70_8 : G.live 70 8 = some ⟨[0, 5, 7, 8], []⟩ := by kernel_rfl
@[simp] theorem live70_9 : G.live 70 9 = some ⟨[0, 5, 7, 8, 9], []⟩ := by kernel_rfl
@[simp] theorem live70_10 : G.live 70 10 = some ⟨[0, 5, 7, 8, 9, 37], []⟩ := by kernel_rfl
@[simp] theorem live70_12 : G.live 70 12 = some ⟨[0, 5, 7, 8, 9, 10], []⟩ := by kernel_rfl
@[simp] theorem live70_13 : G.live 70 13 = some ⟨[0, 5, 7, 8, 9, 10, 11], []⟩ := by kernel_rfl
@[simp] theorem live70_14 : G.live 70 14 = some ⟨[0, 5, 7, 8, 9, 10, 12], []⟩ := by kernel_rfl
@[simp] theorem live70_15 : G.live 70 15 = some ⟨[0, 5, 7, 8, 9, 12, 13], []⟩ := by kernel_rfl
@[simp] theorem live70_16 : G.live 70 16 = some ⟨[0, 5, 7, 8, 9], []⟩ := by kernel_rfl
@[simp] theorem live70_11 : G.live 70 11 = some ⟨[0, 5, 7, 8, 9], []⟩ := by kernel_rfl
@[simp] theorem live70_17 : G.live 70 17 = some ⟨[0, 8, 14], []⟩ := by kernel_rfl
@[simp] theorem live70_18 : G.live 70 18 = some ⟨[0, 8, 14, 15], []⟩ := by kernel_rfl
@[simp] theorem live70_19 : G.live 70 19 = some ⟨[0, 8, 14, 15, 137], []⟩ := by kernel_rfl
@[simp] theorem live70_21 : G.live 70 21 = some ⟨[0, 8, 14, 15], []⟩ := by kernel_rfl
@[simp] theorem live70_20 : G.live 70 20 = some ⟨[0, 8, 14, 15], []⟩ := by kernel_rfl
@[simp] theorem live70_22 : G.live 70 22 = some ⟨[4], []⟩ := by kernel_rfl
@[simp] theorem plan70_14 : G.plan 70 14 = some [.n 0, .n 1, .n 2, .n 3, .n 5, .n 8, .n 12, .n 13, .n 14, .n 15, .n 16, .n 17, .n 18, .n 19, .n 20, .n 21, .n 22, .n 23, .n 25, .n 26, .n 27, .n 28, .n 30, .n 31, .n 32, .n 33, .e 4 [33, 32, 31, 30, 28, 27, 26, 25, 23, 22, 21, 20, 19, 18, 17, 16, 15, 14, 13, 12, 8, 5, 2, 1, 0], .e 6 [33, 32, 31, 30, 28, 27, 26, 25, 23, 22, 21, 20, 19, 18, 17, 16, 15, 14, 13, 12, 8, 2, 1, 0], .n 7, .e 9 [7, 33, 32, 31, 30, 28, 27, 26, 25, 23, 22, 21, 20, 19, 18, 17, 16, 15, 14, 13, 12, 2, 1, 0], .n 10, .n 11, .n 24, .n 29, .n 34, .n 35] := by kernel_rfl
@[simp] theorem plan70_15 : G.plan 70 15 = some [.n 0, .n 2, .n 5, .n 8, .n 9, .n 10, .n 11, .n 12, .n 13, .n 14, .n 15, .n 16, .n 17, .n 18, .n 19, .n 20, .n 21, .n 22, .n 23, .n 24, .n 25, .n 26, .e 1 [26, 25, 24, 23, 22, 21, 20, 19, 18, 17, 16, 15, 14, 13, 12, 11, 10, 9, 8, 5, 2], .e 3 [26, 25, 24, 23, 22, 21, 20, 19, 18, 17, 16, 15, 14, 13, 12, 11, 10, 9, 8, 5], .n 4, .e 6 [4, 26, 25, 24, 23, 22, 21, 20, 19, 18, 17, 16, 15, 14, 13, 12, 11, 10, 9, 8], .n 7, .n 27, .n 28] := by kernel_rfl
@[simp] theorem plan70_16 : G.plan 70 16 = some [.n 0, .n 1, .n 2, .n 3, .n 4, .n 5, .n 6, .n 7, .n 8, .n 9, .n 10, .n 11, .n 12, .n 13, .n 14, .n 15, .n 16, .n 17, .n 18, .n 19, .n 20, .n 21, .n 22, .n 23, .n 24, .n 25, .n 26, .e 27 []] := by kernel_rfl
@[simp] theorem plan70_21 : G.plan 70 21 = some [.n 0, .n 1, .n 2, .n 3, .n 4, .n 5, .n 6, .n 7, .n 8, .n 9, .n 10, .e 11 [7, 6, 5, 3, 2, 1], .e 12 []] := by kernel_rfl
@[simp] theorem E71 : G.E 71 = true := by kernel_rfl
@[simp] theorem ext71 : G.ext 71 = none := by kernel_rfl
@[simp] theorem dfr71 : G.dfr 71 = false := by kernel_rfl
@[simp] theorem own71 : G.retOwn 71 = false := by kernel_rfl
@[simp] theorem live71_0 : G.live 71 0 = some ⟨[0], []⟩ := by kernel_rfl
@[simp] theorem live71_1 : G.live 71 1 = some ⟨[0, 3], []⟩ := by kernel_rfl
@[simp] theorem live71_2 : G.live 71 2 = some ⟨[3], []⟩ := by kernel_rfl
@[simp] theorem live71_3 : G.live 71 3 = some ⟨[2], []⟩ := by kernel_rfl
@[simp] theorem E72 : G.E 72 = true := by kernel_rfl
@[simp] theorem ext72 : G.ext 72 = none := by kernel_rfl
@[simp] theorem dfr72 : G.dfr 72 = false := by kernel_rfl
@[simp] theorem own72 : G.retOwn 72 = false := by kernel_rfl
@[simp] theorem keep72_38 : G.keep 72 38 = some ⟨[(7, none), (8, none), (9, none)], [(1009, [(1, 1, 5)])]⟩ := by kernel_rfl
@[simp] theorem live72_0 : G.live 72 0 = some ⟨[0, 1], []⟩ := by kernel_rfl
@[simp] theorem live72_1 : G.live 72 1 = some ⟨[0, 1, 11], []⟩ := by kernel_rfl
@[simp] theorem live72_2 : G.live 72 2 = some ⟨[0, 1, 11, 12], []⟩ := by kernel_rfl
@[simp] theorem live72_3 : G.live 72 3 = some ⟨[4], []⟩ := by kernel_rfl
@[simp] theorem live72_4 : G.live 72 4 = some ⟨[0, 1, 14], []⟩ := by kernel_rfl
@[simp] theorem live72_5 : G.live 72 5 = some ⟨[4], []⟩ := by kernel_rfl
@[simp] theorem live72_6 : G.live 72 6 = some ⟨[0, 1, 18], []⟩ := by kernel_rfl
@[simp] theorem live72_7 : G.live 72 7 = some ⟨[0, 1], []⟩ := by kernel_rfl
@[simp] theorem live72_8 : G.live 72 8 = some ⟨[0, 5, 6], []⟩ := by kernel_rfl
@[simp] theorem live72_9 : G.live 72 9 = some ⟨[0, 6, 34], []⟩ := by kernel_rfl
@[simp] theorem live72_10 : G.live 72 10 = some ⟨[0, 6], []⟩ := by kernel_rfl
@[simp] theorem live72_11 : G.live 72 11 = some ⟨[0, 7], []⟩ := by kernel_rfl
@[simp] theorem live72_12 : G.live 72 12 = some ⟨[0, 7, 40], []⟩ := by kernel_rfl
@[simp] theorem live72_13 : G.live 72 13 = some ⟨[4], []⟩ := by kernel_rfl
@[simp] theorem live72_14 : G.live 72 14 = some ⟨[0, 7, 42], []⟩ := by kernel_rfl
@[simp] theorem live72_15 : G.live 72 15 = some ⟨[0, 7, 42, 43], []⟩ := by kernel_rfl
@[simp] theorem live72_16 : G.live 72 16 = some ⟨[0, 7, 42, 43], []⟩ := by kernel_rfl
@[simp] theorem live72_17 : G.live 72 17 = some ⟨[0, 7, 42, 43], []⟩ := by kernel_rfl
@[simp] theorem live72_18 : G.live 72 18 = some ⟨[0, 7, 42, 43], []⟩ := by kernel_rfl
@[simp] theorem live72_19 : G.live 72 19 = some ⟨[0, 7, 43], []⟩ := by kernel_rfl
@[simp] theorem live72_20 : G.live 72 20 = some ⟨[0, 7, 49], []⟩ := by kernel_rfl
@[simp] theorem live72_21 : G.live 72 21 = some ⟨[4], []⟩ := by kernel_rfl
@[simp] theorem live72_22 : G.live 72 22 = some ⟨[0, 7, 58], []⟩ := by kernel_rfl
@[simp] theorem live72_23 : G.live 72 23 = some ⟨[4], []⟩ := by kernel_rfl
@[simp] theorem live72_24 : G.live 72 24 = some ⟨[0, 7, 67], []⟩ := by kernel_rfl
@[simp] theorem live72_25 : G.live 72 25 = some ⟨[4], []⟩ := by kernel_rfl
@[simp] theorem live72_26 : G.live 72 26 = some ⟨[0, 7, 76], []⟩ := by kernel_rfl
@[simp] theorem live72_27 : G.live 72 27 = some ⟨[4], []⟩ := by kernel_rfl
@[simp] theorem live72_28 : G.live 72 28 = some ⟨[0, 7, 85], []⟩ := by kernel_rfl
@[simp] theorem live72_29 : G.live 72 29 = some ⟨[4], []⟩ := by kernel_rfl
@[simp] theorem live72_30 : G.live 72 30 = some ⟨[0, 7, 8], []⟩ := by kernel_rfl
@[simp] theorem live72_31 : G.live 72 31 = some ⟨[0, 7, 8, 96], []⟩ := by kernel_rfl
@[simp] theorem live72_32 : G.live 72 32 = some ⟨[0, 7, 8], []⟩ := by kernel_rfl
@[simp] theorem live72_33 : G.live 72 33 = some ⟨[0, 7, 8, 104], []⟩ := by kernel_rfl
@[simp] theorem live72_34 : G.live 72 34 = some ⟨[0, 7, 8], []⟩ := by kernel_rfl
@[simp] theorem live72_35 : G.live 72 35 = some ⟨[0, 7, 8, 9], []⟩ := by kernel_rfl
@[simp] theorem live72_36 : G.live 72 36 = some ⟨[0, 7, 8, 9], []⟩ := by kernel_rfl
@[simp] theorem live72_37 : G.live 72 37 = some ⟨[7, 8, 9], []⟩ := by kernel_rfl
@[simp] theorem live72_38 : G.live 72 38 = some ⟨[7, 8, 9, 113], []⟩ := by kernel_rfl
@[simp] theorem live72_39 : G.live 72 39 = some ⟨[7, 8, 9, 10], []⟩ := by kernel_rfl
@[simp] theorem live72_40 : G.live 72 40 = some ⟨[7, 8, 9], []⟩ := by kernel_rfl
@[simp] theorem live72_41 : G.live 72 41 = some ⟨[4], []⟩ := by kernel_rfl
@[simp] theorem E73 : G.E 73 = true := by kernel_rfl
@[simp] theorem ext73 : G.ext 73 = none := by kernel_rfl
@[simp] theorem dfr73 : G.dfr 73 = false := by kernel_rfl
@[simp] theorem own73 : G.retOwn 73 = false := by kernel_rfl
@[simp] theorem live73_0 : G.live 73 0 = some ⟨[], []⟩ := by kernel_rfl
@[simp] theorem live73_1 : G.live 73 1 = some ⟨[0], []⟩ := by kernel_rfl
@[simp] theorem E74 : G.E 74 = true := by kernel_rfl
@[simp] theorem ext74 : G.ext 74 = none := by kernel_rfl
@[simp] theorem dfr74 : G.dfr 74 = false := by kernel_rfl
@[simp] theorem own74 : G.retOwn 74 = false := by kernel_rfl
@[simp] theorem keep74_3 : G.keep 74 3 = some ⟨[(0, none), (1, none), (5, some (1, 5)), (14, none), (15, none)], []⟩ := by kernel_rfl
@[simp] theorem live74_0 : G.live 74 0 = some ⟨[0, 1], []⟩ := by kernel_rfl
@[simp] theorem live74_1 : G.live 74 1 = some ⟨[0, 1, 5], []⟩ := by kernel_rfl
@[simp] theorem live74_2 : G.live 74 2 = some ⟨[0, 1, 5, 14, 15], []⟩ := by kernel_rfl
@[simp] theorem live74_3 : G.live 74 3 = some ⟨[0, 1, 5, 14, 15, 16], []⟩ := by kernel_rfl
@[simp] theorem live74_4 : G.live 74 4 = some ⟨[0, 1, 5, 6, 14, 15], []⟩ := by kernel_rfl
@[simp] theorem live74_5 : G.live 74 5 = some ⟨[0, 1, 5, 14, 15], []⟩ := by kernel_rfl
@[simp] theorem live74_6 : G.live 74 6 = some ⟨[0, 1, 5, 14, 15], []⟩ := by kernel_rfl
@[simp] theorem live74_7 : G.live 74 7 = some ⟨[4], []⟩ := by kernel_rfl
@[simp] theorem plan74_5 : G.plan 74 5 = some [.n 0, .n 1, .n 2, .n 3, .n 4, .n 5, .n 6, .n 7, .n 8, .n 9, .e 10 []] := by kernel_rfl
@[simp] theorem E75 : G.E 75 = true := by kernel_rfl
@[simp] theorem ext75 : G.ext 75 = none := by kernel_rfl
@[simp] theorem dfr75 : G.dfr 75 = false := by kernel_rfl
@[simp] theorem own75 : G.retOwn 75 = false := by kernel_rfl
@[simp] theorem live75_0 : G.live 75 0 = some ⟨[0, 1], []⟩ := by kernel_rfl
@[simp] theorem live75_1 : G.live 75 1 = some ⟨[3], []⟩ := by kernel_rfl
@[simp] theorem plan75_1 : G.plan 75 1 = some [.n 0, .n 3, .e 1 [3, 0], .e 2 [3], .e 4 [], .n 5, .e 6 [], .n 7] := by kernel_rfl
@[simp] theorem E76 : G.E 76 = true := by kernel_rfl
@[simp] theorem ext76 : G.ext 76 = none := by kernel_rfl
@[simp] theorem dfr76 : G.dfr 76 = false := by kernel_rfl
@[simp] theorem own76 : G.retOwn 76 = false := by kernel_rfl
@[simp] theorem keep76_5 : G.keep 76 5 = some ⟨[(4, none), (19, none), (20, none)], []⟩ := by kernel_rfl
@[simp] theorem live76_0 : G.live 76 0 = some ⟨[0], []⟩ := by kernel_rfl
@[simp] theorem live76_1 : G.live 76 1 = some ⟨[0, 3], []⟩ := by kernel_rfl
@[simp] theorem live76_2 : G.live 76 2 = some ⟨[3], []⟩ := by kernel_rfl
@[simp] theorem live76_3 : G.live 76 3 = some ⟨[3, 4], []⟩ := by kernel_rfl
@[simp] theorem live76_4 : G.live 76 4 = some ⟨[4, 19, 20], []⟩ := by kernel_rfl
@[simp] theorem live76_5 : G.live 76 5 = some ⟨[4, 19, 20, 21], []⟩ := by kernel_rfl
@[simp] theorem live76_6 : G.live 76 6 = some ⟨[4, 6, 19, 20], []⟩ := by kernel_rfl
@[simp] theorem live76_7 : G.live 76 7 = some ⟨[4, 19, 20], []⟩ := by kernel_rfl
@[simp] theorem live76_8 : G.live 76 8 = some ⟨[4, 19, 20], []⟩ := by kernel_rfl
@[simp] theorem live76_9 : G.live 76 9 = some ⟨[2], []⟩ := by kernel_rfl
@[simp] theorem E77 : G.E 77 = true := by kernel_rfl
@[simp] theorem ext77 : G.ext 77 = none := by kernel_rfl
@[simp] theorem dfr77 : G.dfr 77 = false := by kernel_rfl
@[simp] theorem own77 : G.retOwn 77 = false := by kernel_rfl
@[simp] theorem live77_0 : G.live 77 0 = some ⟨[1], []⟩ := by kernel_rfl
@[simp] theorem live77_1 : G.live 77 1 = some ⟨[2], []⟩ := by kernel_rfl
@[simp] theorem E78 : G.E 78 = true := by kernel_rfl
@[simp] theorem ext78 : G.ext 78 = none := by kernel_rfl
@[simp] theorem dfr78 : G.dfr 78 = false := by kernel_rfl
@[simp] theorem own78 : G.retOwn 78 = false := by kernel_rfl
@[simp] theorem keep78_3 : G.keep 78 3 = some ⟨[(1, none), (2, none), (4, none), (5, none), (17, none)], [(1002, []), (1004, []), (1005, [])]⟩ := by kernel_rfl
@[simp] theorem keep78_9 : G.keep 78 9 = some ⟨[(2, none), (4, none), (5, none), (7, none), (33, none), (34, none)], [(1002, []), (1004, []), (1005, []), (1007, [])]⟩ := by kernel_rfl
@[simp] theorem keep78_27 : G.keep 78 27 = some ⟨[(2, none), (4, none), (7, none), (162, none)], [(1002, []), (1004, []), (1007, [])]⟩ := by kernel_rfl
@[simp] theorem live78_0 : G.live 78 0 = some ⟨[1, 2, 4], []⟩ := by kernel_rfl
@[simp] theorem live78_1 : G.live 78 1 = some ⟨[1, 2, 4, 5], []⟩ := by kernel_rfl
@[simp] theorem live78_2 : G.live 78 2 = some ⟨[1, 2, 4, 5, 17], []⟩ := by kernel_rfl
@[simp] theorem live78_3 : G.live 78 3 = some ⟨[1, 2, 4, 5, 17, 18], []⟩ := by kernel_rfl
@[simp] theorem live78_4 : G.live 78 4 = some ⟨[1, 2, 4, 5, 6, 17], []⟩ := by kernel_rfl
@[simp] theorem live78_5 : G.live 78 5 = some ⟨[1, 2, 4, 5, 17], []⟩ := by kernel_rfl
@[simp] theorem live78_6 : G.live 78 6 = some ⟨[1, 2, 4, 5, 17], []⟩ := by kernel_rfl
@[simp] theorem live78_7 : G.live 78 7 = some ⟨[2, 4, 5, 7], []⟩ := by kernel_rfl
@[simp] theorem live78_8 : G.live 78 8 = some ⟨[2, 4, 5, 7, 33, 34], []⟩ := by kernel_rfl
@[simp] theorem live78_9 : G.live 78 9 = some ⟨[2, 4, 5, 7, 33, 34, 35], []⟩ := by kernel_rfl
@[simp] theorem live78_10 : G.live 78 10 = some ⟨[2, 4, 5, 7, 8, 9, 33, 34], []⟩ := by kernel_rfl
@[simp] theorem live78_11 : G.live 78 11 = some ⟨[2, 4, 5, 7, 8, 9, 33, 34, 39], []⟩ := by kernel_rfl
@[simp] theorem live78_12 : G.live 78 12 = some ⟨[2, 4, 5, 7, 8, 9, 10, 11, 33, 34], []⟩ := by kernel_rfl
@[simp] theorem live78_13 : G.live 78 13 = some ⟨[2, 4, 5, 7, 8, 9, 11, 33, 34], []⟩ := by kernel_rfl
@[simp] theorem live78_14 : G.live 78 14 = some ⟨[2, 4, 5, 7, 8, 9, 11, 33, 34], []⟩ := by kernel_rfl
@[simp] theorem live78_15 : G.live 78 15 = some ⟨[2, 4, 5, 7, 8, 9, 33, 34], []⟩ := by kernel_rfl
@[simp] theorem live78_16 : G.live 78 16 = some ⟨[2, 4, 5, 7, 8, 9, 12, 13, 33, 34], []⟩ := by kernel_rfl
@[simp] theorem live78_17 : G.live 78 17 = some ⟨[2, 4, 5, 7, 12, 13, 14, 33, 34], []⟩ := by kernel_rfl
@[simp] theorem live78_18 : G.live 78 18 = some ⟨[2, 4, 5, 7, 12, 13, 14, 33, 34], []⟩ := by kernel_rfl
@[simp] theorem live78_19 : G.live 78 19 = some ⟨[2, 4, 5, 7, 12, 14, 33, 34], []⟩ := by kernel_rfl
@[simp] theorem live78_20 : G.live 78 20 = some ⟨[2, 4, 5, 7, 12, 14, 15, 33, 34], []⟩ := by kernel_rfl
@[simp] theorem live78_21 : G.live 78 21 = some ⟨[2, 4, 5, 7, 14, 15, 33, 34], []⟩ := by kernel_rfl
@[simp] theorem live78_22 : G.live 78 22 = some ⟨[2, 4, 5, 7, 14, 15, 33, 34], []⟩ := by kernel_rfl
@[simp] theorem live78_23 : G.live 78 23 = some ⟨[2, 4, 5, 7, 14, 15, 33, 34], []⟩ := by kernel_rfl
@[simp] theorem live78_24 : G.live 78 24 = some ⟨[2, 4, 5, 7, 33, 34], []⟩ := by kernel_rfl
@[simp] theorem live78_25 : G.live 78 25 = some ⟨[2, 4, 5, 7, 33, 34], []⟩ := by kernel_rfl
@[simp] theorem live78_26 : G.live 78 26 = some ⟨[2, 4, 7, 162], []⟩ := by kernel_rfl
@[simp] theorem live78_27 : G.live 78 27 = some ⟨[2, 4, 7, 162, 163], []⟩ := by kernel_rfl
@[simp] theorem live78_28 : G.live 78 28 = some ⟨[2, 4, 7, 16, 162], []⟩ := by kernel_rfl
@[simp] theorem live78_29 : G.live 78 29 = some ⟨[2, 4, 7, 162], []⟩ := by kernel_rfl
@[simp] theorem live78_30 : G.live 78 30 = some ⟨[2, 4, 7, 162], []⟩ := by kernel_rfl
@[simp] theorem live78_31 : G.live 78 31 = some ⟨[4], []⟩ := by kernel_rfl
@[simp] theorem plan78_12 : G.plan 78 12 = some [.n 0, .n 1, .n 2, .n 3, .n 4, .n 5, .n 6, .n 7, .n 8, .n 9, .n 10, .n 11] := by kernel_rfl
@[simp] theorem plan78_13 : G.plan 78 13 = some [.n 0, .n 1, .n 2, .n 3, .n 4, .n 6, .n 9, .n 10, .e 5 [10, 9, 6, 3, 2, 1, 0], .e 7 [10, 9, 3, 2, 1, 0], .n 8, .n 11, .n 12, .n 13, .e 14 []] := by kernel_rfl
@[simp] theorem plan78_14 : G.plan 78 14 = some [.n 0, .n 1, .n 2, .n 3, .n 4, .n 5, .n 6, .n 7, .n 8, .n 9, .n 10, .e 11 []] := by kernel_rfl
@[simp] theorem plan78_15 : G.plan 78 15 = some [.n 0, .n 1, .n 2, .n 3, .n 4, .n 6, .n 9, .n 10, .e 5 [10, 9, 6, 3, 2, 1, 0], .e 7 [10, 9, 3, 2, 1, 0], .n 8, .n 11, .n 12, .n 13, .e 14 []] := by kernel_rfl
@[simp] theorem plan78_16 : G.plan 78 16 = some [.n 0, .n 1, .n 2, .n 3, .n 4, .n 5] := by kernel_rfl
@[simp] theorem plan78_17 : G.plan 78 17 = some [.n 0, .n 1, .n 2, .n 3, .n 4, .n 5, .n 6, .n 7, .n 8, .n 9] := by kernel_rfl
@[simp] theorem plan78_22 : G.plan 78 22 = some [.n 0, .e 1 [0], .e 2 []] := by kernel_rfl
@[simp] theorem plan78_29 : G.plan 78 29 = some [.n 0, .n 1, .n 2, .n 3, .n 4, .n 5, .n 6, .n 7, .e 8 []] := by kernel_rfl
@[simp] theorem E79 : G.E 79 = true := by kernel_rfl
@[simp] theorem ext79 : G.ext 79 = none := by kernel_rfl
@[simp] theorem dfr79 : G.dfr 79 = false := by kernel_rfl
@[simp] theorem own79 : G.retOwn 79 = false := by kernel_rfl
@[simp] theorem keep79_1 : G.keep 79 1 = some ⟨[(0, some (1, 9)), (2, none), (3, none)], []⟩ := by kernel_rfl
@[simp] theorem live79_0 : G.live 79 0 = some ⟨[0, 2, 3], []⟩ := by kernel_rfl
@[simp] theorem live79_1 : G.live 79 1 = some ⟨[0, 2, 3, 9], []⟩ := by kernel_rfl
@[simp] theorem live79_3 : G.live 79 3 = some ⟨[0, 2, 3], []⟩ := by kernel_rfl
@[simp] theorem live79_2 : G.live 79 2 = some ⟨[0, 2, 3], []⟩ := by kernel_rfl
@[simp] theorem plan79_3 : G.plan 79 3 = some [.n 0, .n 1, .n 2, .n 3, .n 4, .n 5, .n 6, .n 7, .n 8, .n 9, .n 10, .n 11, .n 12, .e 13 [3, 2], .n 14, .e 15 []] := by kernel_rfl
@[simp] theorem E80 : G.E 80 = true := by kernel_rfl
@[simp] theorem ext80 : G.ext 80 = none := by kernel_rfl
@[simp] theorem dfr80 : G.dfr 80 = false := by kernel_rfl
@[simp] theorem own80 : G.retOwn 80 = false := by kernel_rfl
@[simp] theorem keep80_2 : G.keep 80 2 = some ⟨[(0, none), (1, none), (2, none), (4, none), (5, none)], []⟩ := by kernel_rfl
@[simp] theorem live80_0 : G.live 80 0 = some ⟨[0, 1, 2, 4], []⟩ := by kernel_rfl
@[simp] theorem live80_1 : G.live 80 1 = some ⟨[0, 1, 2, 4, 5], []⟩ := by kernel_rfl
@[simp] theorem live80_2 : G.live 80 2 = some ⟨[0, 1, 2, 4, 5, 7], []⟩ := by kernel_rfl
@[simp] theorem live80_4 : G.live 80 4 = some ⟨[0, 1, 2, 4, 5], []⟩ := by kernel_rfl
@[simp] theorem live80_5 : G.live 80 5 = some ⟨[0, 1, 2, 4, 5, 22], []⟩ := by kernel_rfl
@[simp] theorem live80_3 : G.live 80 3 = some ⟨[0, 1, 2, 4, 5], []⟩ := by kernel_rfl
@[simp] theorem E81 : G.E 81 = true := by kernel_rfl
@[simp] theorem ext81 : G.ext 81 = none := by kernel_rfl
@[simp] theorem dfr81 : G.dfr 81 = false := by kernel_rfl
@[simp] theorem own81 : G.retOwn 81 = false := by kernel_rfl
@[simp] theorem keep81_3 : G.keep 81 3 = some ⟨[(0, none), (3, none), (4, none)], []⟩ := by kernel_rfl
@[simp] theorem live81_0 : G.live 81 0 = some ⟨[0], []⟩ := by kernel_rfl
@[simp] theorem live81_1 : G.live 81 1 = some ⟨[0, 3], []⟩ := by kernel_rfl
@[simp] theorem live81_2 : G.live 81 2 = some ⟨[0, 3, 4], []⟩ := by kernel_rfl
@[simp] theorem live81_3 : G.live 81 3 = some ⟨[0, 3, 4, 8], []⟩ := by kernel_rfl
@[simp] theorem live81_5 : G.live 81 5 = some ⟨[0, 3, 4], []⟩ := by kernel_rfl
@[simp] theorem live81_4 : G.live 81 4 = some ⟨[0, 3, 4], []⟩ := by kernel_rfl
@[simp] theorem live81_6 : G.live 81 6 = some ⟨[2], []⟩ := by kernel_rfl
@[simp] theorem E82 : G.E 82 = true := by kernel_rfl
@[simp] theorem ext82 : G.ext 82 = none := by kernel_rfl
@[simp] theorem dfr82 : G.dfr 82 = false := by kernel_rfl
@[simp] theorem own82 : G.retOwn 82 = false := by kernel_rfl
@[simp] theorem keep82_2 : G.keep 82 2 = some ⟨[(0, some (1, 115)), (3, none)], []⟩ := by kernel_rfl
@[simp] theorem live82_0 : G.live 82 0 = some ⟨[0], []⟩ := by kernel_rfl
@[simp] theorem live82_1 : G.live 82 1 = some ⟨[0, 3], []⟩ := by kernel_rfl
@[simp] theorem live82_2 : G.live 82 2 = some ⟨[0, 3, 9], []⟩ := by kernel_rfl
@[simp] theorem live82_4 : G.live 82 4 = some ⟨[0, 3, 4], []⟩ := by kernel_rfl
@[simp] theorem live82_5 : G.live 82 5 = some ⟨[0, 3, 4, 5], []⟩ := by kernel_rfl
@[simp] theorem live82_6 : G.live 82 6 = some ⟨[0, 3, 5, 6], []⟩ := by kernel_rfl
@[simp] theorem live82_7 : G.live 82 7 = some ⟨[0, 3, 6, 7], []⟩ := by kernel_rfl
@[simp] theorem live82_8 : G.live 82 8 = some ⟨[0, 3], []⟩ := by kernel_rfl
@[simp] theorem live82_3 : G.live 82 3 = some ⟨[0, 3], []⟩ := by kernel_rfl
@[simp] theorem live82_9 : G.live 82 9 = some ⟨[2], []⟩ := by kernel_rfl
@[simp] theorem plan82_8 : G.plan 82 8 = some [.n 0, .n 1, .n 2, .n 3, .n 4, .n 5, .n 6, .n 7, .n 8, .n 9, .n 10, .n 11, .n 12, .n 13, .n 14, .n 15, .n 16, .e 17 [12, 11, 10, 9, 8, 7, 6, 5, 4, 3, 2, 1], .e 18 []] := by kernel_rfl
@[simp] theorem E83 : G.E 83 = true := by kernel_rfl
@[simp] theorem ext83 : G.ext 83 = none := by kernel_rfl
@[simp] theorem dfr83 : G.dfr 83 = false := by kernel_rfl
@[simp] theorem own83 : G.retOwn 83 = false := by kernel_rfl
@[simp] theorem live83_0 : G.live 83 0 = some ⟨[], []⟩ := by kernel_rfl
@[simp] theorem live83_1 : G.live 83 1 = some ⟨[0], []⟩ := by kernel_rfl
@[simp] theorem E84 : G.E 84 = true := by kernel_rfl
@[simp] theorem ext84 : G.ext 84 = none := by kernel_rfl
@[simp] theorem dfr84 : G.dfr 84 = false := by kernel_rfl
@[simp] theorem own84 : G.retOwn 84 = false := by kernel_rfl
@[simp] theorem live84_0 : G.live 84 0 = some ⟨[0, 1], []⟩ := by kernel_rfl
@[simp] theorem live84_1 : G.live 84 1 = some ⟨[4], []⟩ := by kernel_rfl
@[simp] theorem E85 : G.E 85 = true := by kernel_rfl
@[simp] theorem ext85 : G.ext 85 = none := by kernel_rfl
@[simp] theorem dfr85 : G.dfr 85 = false := by kernel_rfl
@[simp] theorem own85 : G.retOwn 85 = false := by kernel_rfl
@[simp] theorem live85_0 : G.live 85 0 = some ⟨[0, 1], []⟩ := by kernel_rfl
@[simp] theorem live85_1 : G.live 85 1 = some ⟨[6, 7], []⟩ := by kernel_rfl
@[simp] theorem live85_2 : G.live 85 2 = some ⟨[4, 5], []⟩ := by kernel_rfl
@[simp] theorem live85_3 : G.live 85 3 = some ⟨[8, 9], []⟩ := by kernel_rfl
@[simp] theorem live85_4 : G.live 85 4 = some ⟨[4, 5], []⟩ := by kernel_rfl
@[simp] theorem E86 : G.E 86 = true := by kernel_rfl
@[simp] theorem ext86 : G.ext 86 = none := by kernel_rfl
@[simp] theorem dfr86 : G.dfr 86 = false := by kernel_rfl
@[simp] theorem own86 : G.retOwn 86 = false := by kernel_rfl
@[simp] theorem live86_0 : G.live 86 0 = some ⟨[0, 1], []⟩ := by kernel_rfl
@[simp] theorem live86_1 : G.live 86 1 = some ⟨[4], []⟩ := by kernel_rfl
@[simp] theorem E87 : G.E 87 = true := by kernel_rfl
@[simp] theorem ext87 : G.ext 87 = none := by kernel_rfl
@[simp] theorem dfr87 : G.dfr 87 = false := by kernel_rfl
@[simp] theorem own87 : G.retOwn 87 = false := by kernel_rfl
@[simp] theorem live87_0 : G.live 87 0 = some ⟨[0, 1], []⟩ := by kernel_rfl
@[simp] theorem live87_1 : G.live 87 1 = some ⟨[0, 1, 7], []⟩ := by kernel_rfl
@[simp] theorem live87_2 : G.live 87 2 = some ⟨[0, 1], []⟩ := by kernel_rfl
@[simp] theorem live87_3 : G.live 87 3 = some ⟨[0, 1, 21], []⟩ := by kernel_rfl
@[simp] theorem live87_4 : G.live 87 4 = some ⟨[], []⟩ := by kernel_rfl
@[simp] theorem plan87_3 : G.plan 87 3 = some [.n 0, .n 1, .n 2, .n 3, .n 5, .n 6, .n 7, .n 8, .n 9, .n 11, .e 4 [11, 9, 8, 7, 6, 5, 0], .n 10, .n 12] := by kernel_rfl
@[simp] theorem E88 : G.E 88 = true := by kernel_rfl
@[simp] theorem ext88 : G.ext 88 = none := by kernel_rfl
@[simp] theorem dfr88 : G.dfr 88 = false := by kernel_rfl
@[simp] theorem own88 : G.retOwn 88 = false := by kernel_rfl
@[simp] theorem live88_0 : G.live 88 0 = some ⟨[0], []⟩ := by kernel_rfl
@[simp] theorem live88_1 : G.live 88 1 = some ⟨[3], []⟩ := by kernel_rfl
@[simp] theorem live88_2 : G.live 88 2 = some ⟨[2], []⟩ := by kernel_rfl
@[simp] theorem E89 : G.E 89 = true := by kernel_rfl
@[simp] theorem ext89 : G.ext 89 = none := by kernel_rfl
@[simp] theorem dfr89 : G.dfr 89 = false := by kernel_rfl
@[simp] theorem own89 : G.retOwn 89 = false := by kernel_rfl
@[simp] theorem live89_0 : G.live 89 0 = some ⟨[0], []⟩ := by kernel_rfl
@[simp] theorem live89_1 : G.live 89 1 = some ⟨[0, 5], []⟩ := by kernel_rfl
@[simp] theorem live89_2 : G.live 89 2 = some ⟨[2], []⟩ := by kernel_rfl
@[simp] theorem live89_3 : G.live 89 3 = some ⟨[0, 3], []⟩ := by kernel_rfl
@[simp] theorem live89_4 : G.live 89 4 = some ⟨[2], []⟩ := by kernel_rfl
@[simp] theorem E90 : G.E 90 = true := by kernel_rfl
@[simp] theorem ext90 : G.ext 90 = none := by kernel_rfl
@[simp] theorem dfr90 : G.dfr 90 = false := by kernel_rfl
@[simp] theorem own90 : G.retOwn 90 = false := by kernel_rfl
@[simp] theorem keep90_0 : G.keep 90 0 = some ⟨[(0, none), (1, none)], []⟩ := by kernel_rfl
@[simp] theorem live90_0 : G.live 90 0 = some ⟨[0, 1, 6], []⟩ := by kernel_rfl
@[simp] theorem live90_1 : G.live 90 1 = some ⟨[0, 1, 3], []⟩ := by kernel_rfl
@[simp] theorem live90_2 : G.live 90 2 = some ⟨[0, 1, 3], []⟩ := by kernel_rfl
@[simp] theorem live90_3 : G.live 90 3 = some ⟨[0, 1, 15], []⟩ := by kernel_rfl
@[simp] theorem E91 : G.E 91 = true := by kernel_rfl
@[simp] theorem ext91 : G.ext 91 = none := by kernel_rfl
@[simp] theorem dfr91 : G.dfr 91 = false := by kernel_rfl
@[simp] theorem own91 : G.retOwn 91 = false := by kernel_rfl
@[simp] theorem keep91_3 : G.keep 91 3 = some ⟨[(0, none), (3, none), (6, none), (7, none)], []⟩ := by kernel_rfl
@[simp] theorem live91_0 : G.live 91 0 = some ⟨[0], []⟩ := by kernel_rfl
@[simp] theorem live91_1 : G.live 91 1 = some ⟨[0, 3], []⟩ := by kernel_rfl
@[simp] theorem live91_2 : G.live 91 2 = some ⟨[0, 3, 6, 7], []⟩ := by kernel_rfl
@[simp] theorem live91_3 : G.live 91 3 = some ⟨[0, 3, 6, 7, 8], []⟩ := by kernel_rfl
@[simp] theorem live91_4 : G.live 91 4 = some ⟨[0, 3, 4, 6, 7], []⟩ := by kernel_rfl
@[simp] theorem live91_5 : G.live 91 5 = some ⟨[0, 3, 6, 7], []⟩ := by kernel_rfl
@[simp] theorem live91_6 : G.live 91 6 = some ⟨[0, 3, 6, 7], []⟩ := by kernel_rfl
@[simp] theorem live91_7 : G.live 91 7 = some ⟨[2], []⟩ := by kernel_rfl
@[simp] theorem E92 : G.E 92 = true := by kernel_rfl
@[simp] theorem ext92 : G.ext 92 = none := by kernel_rfl
@[simp] theorem dfr92 : G.dfr 92 = false := by kernel_rfl
@[simp] theorem own92 : G.retOwn 92 = false := by kernel_rfl
@[simp] theorem live92_0 : G.live 92 0 = some ⟨[0, 1], []⟩ := by kernel_rfl
@[simp] theorem live92_1 : G.live 92 1 = some ⟨[4], []⟩ := by kernel_rfl
@[simp] theorem E93 : G.E 93 = true := by kernel_rfl
@[simp] theorem ext93 : G.ext 93 = none := by kernel_rfl
@[simp] theorem dfr93 : G.dfr 93 = false := by kernel_rfl
@[simp] theorem own93 : G.retOwn 93 = false := by kernel_rfl
@[simp] theorem keep93_5 : G.keep 93 5 = some ⟨[(0, none), (1, none), (5, none)], []⟩ := by kernel_rfl
@[simp] theorem live93_0 : G.live 93 0 = some ⟨[0, 1], []⟩ := by kernel_rfl
@[simp] theorem live93_1 : G.live 93 1 = some ⟨[0, 1], []⟩ := by kernel_rfl
@[simp] theorem live93_2 : G.live 93 2 = some ⟨[0, 1, 9], []⟩ := by kernel_rfl
@[simp] theorem live93_3 : G.live 93 3 = some ⟨[0, 1], []⟩ := by kernel_rfl
@[simp] theorem live93_4 : G.live 93 4 = some ⟨[0, 1, 5], []⟩ := by kernel_rfl
@[simp] theorem live93_5 : G.live 93 5 = some ⟨[0, 1, 5, 14], []⟩ := by kernel_rfl
@[simp] theorem live93_7 : G.live 93 7 = some ⟨[0, 1, 5], []⟩ := by kernel_rfl
@[simp] theorem live93_6 : G.live 93 6 = some ⟨[0, 1, 5], []⟩ := by kernel_rfl
@[simp] theorem live93_8 : G.live 93 8 = some ⟨[4], []⟩ := by kernel_rfl
@[simp] theorem E94 : G.E 94 = true := by kernel_rfl
@[simp] theorem ext94 : G.ext 94 = none := by kernel_rfl
@[simp] theorem dfr94 : G.dfr 94 = false := by kernel_rfl
@[simp] theorem own94 : G.retOwn 94 = false := by kernel_rfl
@[simp] theorem live94_0 : G.live 94 0 = some ⟨[0, 1], []⟩ := by kernel_rfl
@[simp] theorem live94_1 : G.live 94 1 = some ⟨[6], []⟩ := by kernel_rfl
@[simp] theorem live94_2 : G.live 94 2 = some ⟨[4, 5], []⟩ := by kernel_rfl
@[simp] theorem E95 : G.E 95 = true := by kernel_rfl
@[simp] theorem ext95 : G.ext 95 = none := by kernel_rfl
@[simp] theorem dfr95 : G.dfr 95 = false := by kernel_rfl
@[simp] theorem own95 : G.retOwn 95 = false := by kernel_rfl
@[simp] theorem live95_0 : G.live 95 0 = some ⟨[0, 1], []⟩ := by kernel_rfl
@[simp] theorem live95_1 : G.live 95 1 = some ⟨[0, 1, 6], []⟩ := by kernel_rfl
@[simp] theorem live95_2 : G.live 95 2 = some ⟨[0, 1, 6, 7], []⟩ := by kernel_rfl
@[simp] theorem live95_3 : G.live 95 3 = some ⟨[0, 1, 6, 7, 8], []⟩ := by kernel_rfl
@[simp] theorem live95_4 : G.live 95 4 = some ⟨[0, 1, 6, 7, 8, 9], []⟩ := by kernel_rfl
@[simp] theorem live95_5 : G.live 95 5 = some ⟨[0, 1, 6, 7, 8, 9, 10], []⟩ := by kernel_rfl
@[simp] theorem live95_6 : G.live 95 6 = some ⟨[0, 1, 6, 7, 9, 11], []⟩ := by kernel_rfl
@[simp] theorem live95_7 : G.live 95 7 = some ⟨[0, 1, 6, 7, 9, 11, 12], []⟩ := by kernel_rfl
@[simp] theorem live95_8 : G.live 95 8 = some ⟨[0, 1, 6, 7, 9, 12, 13], []⟩ := by kernel_rfl
@[simp] theorem live95_9 : G.live 95 9 = some ⟨[0, 1, 7, 9, 12, 13], []⟩ := by kernel_rfl
@[simp] theorem live95_10 : G.live 95 10 = some ⟨[0, 1, 4], []⟩ := by kernel_rfl
@[simp] theorem live95_11 : G.live 95 11 = some ⟨[4, 5], []⟩ := by kernel_rfl
@[simp] theorem E96 : G.E 96 = true := by kernel_rfl
@[simp] theorem ext96 : G.ext 96 = none := by kernel_rfl
@[simp] theorem dfr96 : G.dfr 96 = false := by kernel_rfl
@[simp] theorem own96 : G.retOwn 96 = false := by kernel_rfl
@[simp] theorem live96_0 : G.live 96 0 = some ⟨[0, 1], []⟩ := by kernel_rfl
@[simp] theorem live96_1 : G.live 96 1 = some ⟨[4], []⟩ := by kernel_rfl
@[simp] theorem E97 : G.E 97 = true := by kernel_rfl
@[simp] theorem ext97 : G.ext 97 = none := by kernel_rfl
@[simp] theorem dfr97 : G.dfr 97 = false := by kernel_rfl
@[simp] theorem own97 : G.retOwn 97 = false := by kernel_rfl
@[simp] theorem live97_0 : G.live 97 0 = some ⟨[0, 4], []⟩ := by kernel_rfl
@[simp] theorem live97_1 : G.live 97 1 = some ⟨[0, 4], []⟩ := by kernel_rfl
@[simp] theorem live97_2 : G.live 97 2 = some ⟨[], []⟩ := by kernel_rfl
@[simp] theorem plan97_0 : G.plan 97 0 = some [.n 0, .n 1, .n 2, .n 3, .n 6, .n 9, .n 10, .n 11, .n 12, .n 13, .e 4 [13, 12, 11, 10, 9, 6, 0], .n 5, .n 7, .e 8 [13, 12, 11, 10, 9, 3, 2, 1, 0], .e 14 [10, 9, 3, 2, 1, 0], .n 15] := by kernel_rfl
@[simp] theorem E98 : G.E 98 = true := by kernel_rfl
@[simp] theorem ext98 : G.ext 98 = none := by kernel_rfl
@[simp] theorem dfr98 : G.dfr 98 = false := by kernel_rfl
@[simp] theorem own98 : G.retOwn 98 = false := by kernel_rfl
@[simp] theorem live98_0 : G.live 98 0 = some ⟨[0, 1], []⟩ := by kernel_rfl
@[simp] theorem live98_1 : G.live 98 1 = some ⟨[0, 5], []⟩ := by kernel_rfl
@[simp] theorem live98_2 : G.live 98 2 = some ⟨[4], []⟩ := by kernel_rfl
@[simp] theorem E125 : G.E 125 = true := by kernel_rfl
@[simp] theorem ext125 : G.ext 125 = none := by kernel_rfl
@[simp] theorem dfr125 : G.dfr 125 = false := by kernel_rfl
@[simp] theorem own125 : G.retOwn 125 = false := by kernel_rfl
@[simp] theorem live125_0 : G.live 125 0 = some ⟨[], []⟩ := by kernel_rfl
@[simp] theorem live125_1 : G.live 125 1 = some ⟨[], []⟩ := by kernel_rfl
@[simp] theorem live125_2 : G.live 125 2 = some ⟨[], []⟩ := by kernel_rfl
@[simp] theorem live125_3 : G.live 125 3 = some ⟨[], []⟩ := by kernel_rfl
@[simp] theorem live125_4 : G.live 125 4 = some ⟨[], []⟩ := by kernel_rfl
@[simp] theorem live125_5 : G.live 125 5 = some ⟨[], []⟩ := by kernel_rfl
end Go.Proofs.YteibklnligmanaaDoor


/- What the functions come to: nodes. -/
namespace Go.Proofs.YteibklnligmanaaDoor
open Go Abs
set_option linter.unusedSimpArgs false
set_option linter.unusedVariables false
structure Nd where
  kind : Int
  num : Int
  text : List UInt8
  kids : Int
  deriving DecidableEq
def Nd.v (n : Nd) : AV := .agg [.int .i64 n.kind, .int .i64 n.num, .str n.text, .int .i64 n.kids]
def nds (l : List Nd) : AV := .list 4 (l.map Nd.v)

@[simp] theorem G_wd : G.wd = false := rfl
noncomputable abbrev cl : CallFn := callL G prim0
noncomputable abbrev lp : LoopFn := loopL G prim0

/-- A function's body, gone through. -/
theorem fn_intro {g : FuncId} {fn : Func} {c : Code} {args : List AV} {hp : Heap} {r : ARes × Heap} (hf : Tryd.prog.funcs[g]? = some fn) (hb : fn.body = some c) (hd : G.dfr g = false) (hg : g < RB) (hp0 : prim0 g = none)
    (h : endX G g (hp.map (·.1)) fn.results.toList (codeX G cl lp g c { sl := zipIx args 0, hp }) = some r) : cl g args hp = some r :=
  call_intro hg hp0 (by rw [runFn_body hd hf hb]; exact h)

attribute [simp] eqAggA eqFieldsA Tryd.stoodInHeld158 Tryd.eqGuardType158

end Go.Proofs.YteibklnligmanaaDoor


/- What the functions come to: nodes, by the document. -/
namespace Go.Proofs.YteibklnligmanaaDoor
open Go Abs
set_option linter.unusedSimpArgs false
set_option linter.unusedVariables false

/-- A round, and the loop's head behind it. -/
noncomputable def rX (f : FuncId) (c : Code) : Option (AX × ASt) → Option (AX × ASt)
  | some (.normal, s) => (canon G f c s).map fun s => (.normal, s)
  | r => r
@[simp] theorem rX_n {f c s} : rX f c (some (.normal, s)) = (canon G f c s).map fun s => (.normal, s) := rfl
@[simp] theorem rX_e {f c i s} : rX f c (some (.exit i, s)) = some (.exit i, s) := rfl
@[simp] theorem rX_r {f c s} : rX f c (some (.ret, s)) = some (.ret, s) := rfl
@[simp] theorem rX_p {f c v s} : rX f c (some (.pan v, s)) = some (.pan v, s) := rfl
theorem mapHead_no {f : FuncId} {c : Code} {q : Nat × Nat × Nat × Nat × Code × Code} (h : mapHead c = some q) (st : ASt) : codeX G cl lp f c st = none := by
  have reg : ∀ {id ops cnd rest q}, mapRegion id ops cnd rest = some q → codeX G cl lp f (.region id ops false) st = none := by
    intro id ops cnd rest q h
    unfold mapRegion at h
    split at h
    · rename_i he
      obtain ⟨l⟩ := ops
      simp only at he
      subst he
      have ho : ∀ (P : Program) (ev : Operand → AV) (hp : Heap) (o : Operand), opv P ev hp (.next o false) = none := fun _ _ _ _ => rfl
      simp [aopsL, guardA, aop, calledA, invokedA, aopB, ho]
      try (cases G.live f id <;> rfl)
    · cases h
  unfold mapHead at h
  split at h
  · simp only [cx_seq, reg h]; rfl
  · simp only [cx_seq, reg h]; rfl
  · cases h
theorem loop_no {f : FuncId} {c : Code} {st s : ASt} {x : AX} (h : rX f c (codeX G cl lp f c st) = some (x, s)) : mapHead c = none := by
  cases hm : mapHead c with
  | none => rfl
  | some q => rw [mapHead_no hm] at h; cases h
theorem loop_next {f : FuncId} {c : Code} {st st' : ASt} {r : AX × ASt} (h : rX f c (codeX G cl lp f c st) = some (.normal, st')) (hr : lp f c st' = some r) : lp f c st = some r := by
  refine loop_intro ?_
  unfold loopStep
  rw [loop_no h]
  show loopStep0 G _ _ f c st = _
  unfold loopStep0
  cases hx : codeX G cl lp f c st with
  | none => rw [hx] at h; cases h
  | some y =>
    obtain ⟨x, s⟩ := y
    rw [hx] at h
    cases x with
    | normal =>
      obtain ⟨s2, h1, h2⟩ := Option.map_eq_some_iff.1 h
      cases h2
      simp only [Option.bind_some, h1]; exact hr
    | _ => cases h
theorem loop_out {f : FuncId} {c : Code} {st s : ASt} {x : AX} (h : rX f c (codeX G cl lp f c st) = some (x, s)) (hx : x ≠ .normal) : lp f c st = some (x, s) := by
  refine loop_intro ?_
  unfold loopStep
  rw [loop_no h]
  show loopStep0 G _ _ f c st = _
  unfold loopStep0
  cases hy : codeX G cl lp f c st with
  | none => rw [hy] at h; cases h
  | some y =>
    obtain ⟨x', s'⟩ := y
    rw [hy] at h
    cases x' with
    | normal =>
      obtain ⟨s2, h1, h2⟩ := Option.map_eq_some_iff.1 h
      cases h2; exact absurd rfl hx
    | _ => exact h
/-- The code of a function's first loop; of the next. -/
def loopsOf : Code → List Code
  | .seq a b => loopsOf a ++ loopsOf b
  | .cond _ a b => loopsOf a ++ loopsOf b
  | .block _ b => loopsOf b
  | .loop b => b :: loopsOf b
  | _ => []
noncomputable def lc (f : Func) (k : Nat) : Code := ((loopsOf (f.body.getD .skip))[k]?).getD .skip

theorem i64_wrap {a : Int} (h1 : -9223372036854775808 ≤ a) (h2 : a ≤ 9223372036854775807) : IntKind.i64.wrap a = a := by rw [IntKind.wrap_i64]; omega

attribute [simp] canonK_p

/-! Few -/
end Go.Proofs.YteibklnligmanaaDoor


/- What the functions come to: a value, gone through. -/
namespace Go.Proofs.YteibklnligmanaaDoor
open Go Abs
set_option linter.unusedSimpArgs false
set_option linter.unusedVariables false

structure Span where
  stop : Nat
  deep : Nat
  kids : List Nat
def intsL (l : List Nat) : List AV := l.map fun (k : Nat) => AV.int .i64 (k : Int)
def spanV (s : Span) : AV := .agg [.int .i64 s.stop, .int .i64 s.deep, .list 1 (intsL s.kids)]
attribute [local simp] canonK canonAll canonSlot canonCell canonBox ownStep restrictTo pureCells pureRows reachL AObj.names List.range_succ appendA spanV intsL  nds Nd.v

end Go.Proofs.YteibklnligmanaaDoor


/- What the functions come to: the document's value, gone through. -/
namespace Go.Proofs.YteibklnligmanaaDoor
open Go Abs
set_option linter.unusedSimpArgs false
set_option linter.unusedVariables false

/-- Numbers, in a row that may be nil. -/
def rowV (l : List Nat) : AV := if l = [] then .nils else .list 1 (intsL l)
@[simp high] theorem rowV_rv {hp l} : (rowV l).rv hp = rowV l := by unfold rowV; split <;> rfl
@[simp high] theorem rowV_names {l} : (rowV l).names = [] := by unfold rowV; split <;> rfl
@[simp high] theorem rowV_rows {l} : (rowV l).rows = [] := by unfold rowV; split <;> rfl
@[simp high] theorem rowV_ren {m l} : (rowV l).ren m = rowV l := by unfold rowV; split <;> rfl
@[simp high] theorem rowV_kill {n l} : (rowV l).kill n = rowV l := by unfold rowV; split <;> rfl
@[simp high] theorem rowV_cells {l} : (rowV l).cells = [rowV l] := by unfold rowV; split <;> rfl
@[simp high] theorem rowV_ok {l} : okCell (rowV l) = true := by unfold rowV; split <;> rfl
@[simp high] theorem rowV_known {l} : (rowV l).known = true := by unfold rowV; split <;> rfl
@[simp high] theorem rowV_beq {l} : AV.beq (rowV l) (rowV l) = true := by
  refine beq_self ?_
  unfold rowV
  split
  · rfl
  · exact plainBL_map (fun a => rfl) l
@[simp high] theorem rowV_src {hp l} : srcEls hp 1 (rowV l) = some (intsL l) := by
  unfold rowV
  split
  · rename_i h; subst h; rfl
  · simp
@[simp] theorem plainBL_ints {l : List Nat} : AV.plainBL (intsL l) = true := plainBL_map (fun a => rfl) l

def seenV (stop deep : Int) (bad : Bool) (kids keys : List Nat) : AV := .agg [.int .i64 stop, .int .i64 deep, .bool bad, rowV kids, rowV keys]
@[simp] theorem nds_beq {l : List Nd} : AV.beqL (l.map Nd.v) (l.map Nd.v) = true := beqL_self (plainBL_map (fun _ => rfl) l)
-- What a loop's head is unfolded by, where there is memory.
attribute [local simp] canonK canonAll canonSlot canonCell canonBox ownStep restrictTo pureCells pureRows reachL AObj.names List.range_succ appendA nds Nd.v  seenV bsvV

end Go.Proofs.YteibklnligmanaaDoor


/- Values within values: where one is, the same nodes elsewhere are one, too; no program is looked at here. -/
namespace Go.Proofs.YteibklnligmanaaDoor
open Go Abs
set_option linter.unusedSimpArgs false
set_option linter.unusedVariables false

/-- Elsewhere: what began at a begins at b. -/
def Span.at_ (a b : Nat) (s : Span) : Span := ⟨b + (s.stop - a), s.deep, s.kids.map fun x => b + (x - a)⟩

end Go.Proofs.YteibklnligmanaaDoor


/- What the functions come to: a map's keys, gone through by a function: tree.members, tree.Keys. -/
namespace Go.Proofs.YteibklnligmanaaDoor
open Go Abs
set_option linter.unusedSimpArgs false
set_option linter.unusedVariables false

/-- A call that is handed memory, told by its answer. -/
theorem callB_of {d : Option Nat} {g : FuncId} {first caps args pre : List AV} {st st1 st3 : ASt} {ns : List Nat} {y : ARes × Heap} (hE : G.E g = true) (hg : g < RB) (hpre : prepL G g st.hp (first ++ args ++ caps) 0 = pre)
    (hst : st.fix (prepRows G g (first ++ args ++ caps) 0) = st1) (hns : reachL 40 st1.hp (AV.namesL pre) [] = ns) (hall : (ns.all fun n => (aget st1.hp n).isSome) = true)
    (hc : cl g (AV.renL (toMap ns) pre) (subHeap ns st1.hp) = some y) (ha : afterCall d ns st1 y.2 = some st3) : callB G cl d (.fn (.func g) first caps) args st = some (answered (backMap ns d y.2) st3 y.1, movedOf ns y.2) := by
  simp only [callB, hpre, hst, hns, hE, hg, hall, decide_true, Bool.and_true, if_true, hc, Option.bind_some, ha, Option.map_some]
theorem callV_of {d : Option Nat} {g : FuncId} {first caps args pre : List AV} {st st1 st3 : ASt} {ns : List Nat} {y : ARes × Heap} (hE : G.E g = true) (hg : g < RB) (hx : G.ext g = none) (hpre : prepL G g st.hp (first ++ args ++ caps) 0 = pre)
    (hst : st.fix (prepRows G g (first ++ args ++ caps) 0) = st1) (hns : reachL 40 st1.hp (AV.namesL pre) [] = ns) (hall : (ns.all fun n => (aget st1.hp n).isSome) = true)
    (hc : cl g (AV.renL (toMap ns) pre) (subHeap ns st1.hp) = some y) (ha : afterCall d ns st1 y.2 = some st3) {r : AR} (hr : answered (backMap ns d y.2) st3 y.1 = r) : callV G cl d (.fn (.func g) first caps) args st = some r := by
  unfold callV extA
  simp only [hx, Option.bind_none]
  unfold callA
  rw [callB_of hE hg hpre hst hns hall hc ha, Option.map_some, hr]
/-- The first loop over a function in some code. -/
def rfsOf : Code → List (Operand × Array Nat × Code × Code)
  | .seq a b => rfsOf a ++ rfsOf b
  | .cond _ a b => rfsOf a ++ rfsOf b
  | .block _ b => rfsOf b
  | .rangeFunc g ps asg body => [(g, ps, asg, body)]
  | _ => []
def strsL (l : List (List UInt8)) : List AV := l.map .str
/-! Seen from the function that goes through them. -/
attribute [local simp] canonK canonAll canonSlot canonCell canonBox ownStep restrictTo pureCells pureRows reachL AObj.names List.range_succ appendA
theorem oren_loop {m : List (Nat × Nat)} {r : LRec} {sl : Slots} : AObj.ren m (.loop r sl) = .loop r (sl.map fun p => (p.1, p.2.ren m)) := rfl
end Go.Proofs.YteibklnligmanaaDoor


/- What TreeCovers comes to. -/
namespace Go.Proofs.YteibklnligmanaaDoor
open Go Abs
set_option linter.unusedSimpArgs false
set_option linter.unusedVariables false

@[simp] theorem plainBL_strs {l : List (List UInt8)} : AV.plainBL (strsL l) = true := plainBL_map (fun a => rfl) l

end Go.Proofs.YteibklnligmanaaDoor


/- What the functions come to: texts that are the same; the document's Keys and Member. -/
namespace Go.Proofs.YteibklnligmanaaDoor
open Go Abs
set_option linter.unusedSimpArgs false
set_option linter.unusedVariables false

@[simp high] theorem rowV_len {hp : Heap} {e : TypeId} {l : List Nat} : lenD hp (some (.slice e)) (rowV l) = some (.int .i64 l.length) := by
  unfold rowV
  split
  · rename_i h; subst h; rfl
  · simp [intsL]

/-! Texts -/
@[simp] theorem strsL_nil : strsL [] = [] := rfl
/-! The document's Keys -/
attribute [local simp] canonK canonAll canonSlot canonCell canonBox ownStep restrictTo pureCells pureRows reachL AObj.names List.range_succ appendA seenV
/-! The document's Member -/
end Go.Proofs.YteibklnligmanaaDoor


/- What the functions come to: tree.Member. -/
namespace Go.Proofs.YteibklnligmanaaDoor
open Go Abs
set_option linter.unusedSimpArgs false
set_option linter.unusedVariables false

/-! Seen from the function that goes through them. -/
attribute [local simp] canonK canonAll canonSlot canonCell canonBox ownStep restrictTo pureCells pureRows reachL AObj.names List.range_succ appendA
/-! Seen from tree.Member -/
@[simp] theorem nds_rv {hp} {l : List Nd} : (nds l).rv hp = nds l := rfl
@[simp] theorem nds_names {l : List Nd} : (nds l).names = [] := rfl
@[simp] theorem nds_rows {l : List Nd} : (nds l).rows = [] := rfl
@[simp] theorem nds_cells {l : List Nd} : (nds l).cells = [nds l] := rfl
@[simp] theorem nds_okc {l : List Nd} : okCell (nds l) = true := rfl
@[simp] theorem nds_kno {l : List Nd} : (nds l).known = true := rfl
@[simp] theorem nds_isA {l : List Nd} : (nds l).isA = false := rfl
@[simp] theorem nds_pur {l : List Nd} : (nds l).pureB = true := pur_list
@[simp] theorem src_nds {hp} {l : List Nd} : srcEls hp 4 (nds l) = some (l.map Nd.v) := by simp [nds]
@[simp] theorem nds_ren {m} {l : List Nd} : (nds l).ren m = nds l := rfl
@[simp] theorem nds_kill {n} {l : List Nd} : (nds l).kill n = nds l := rfl
@[simp] theorem nds_len {hp} {e : TypeId} {l : List Nd} : lenD hp (some (.slice e)) (nds l) = some (.int .i64 l.length) := by simp [nds]
@[simp] theorem nds_plain {l : List Nd} : (nds l).plainB = true := by unfold nds; exact plainBL_map (fun _ => rfl) l
end Go.Proofs.YteibklnligmanaaDoor


/- What the functions come to: slices.Concat, tree.checked, tree.List. -/
namespace Go.Proofs.YteibklnligmanaaDoor
open Go Abs
set_option linter.unusedSimpArgs false
set_option linter.unusedVariables false

def ndsL (kids : List (List Nd)) : List AV := kids.map nds
@[simp] theorem ndsL_length {kids} : (ndsL kids).length = kids.length := by simp [ndsL]
@[simp] theorem ndsL_plain {kids : List (List Nd)} : AV.plainBL (ndsL kids) = true := plainBL_map (fun a => by simp only [nds, AV.plainB]; exact plainBL_map (fun _ => rfl) a) kids
/-! Grow -/
/-! Concat -/
attribute [local simp] canonK canonAll canonSlot canonCell canonBox ownStep restrictTo pureCells pureRows reachL AObj.names List.range_succ appendA
theorem prepL_rv {g : FuncId} {hp : Heap} (hin : ∀ j, G.inplace g j = false) : ∀ {l : List AV} {j : Nat}, prepL G g hp l j = AV.rvL hp l
  | [], _ => rfl
  | a :: l, j => by simp only [prepL, hin, Bool.false_eq_true, if_false, prepL_rv hin (l := l), rvL_cons]
theorem prepRows_rv {g : FuncId} (hin : ∀ j, G.inplace g j = false) : ∀ {l : List AV} {j : Nat}, prepRows G g l j = AV.rowsL l
  | [], _ => rfl
  | a :: l, j => by simp only [prepRows, hin, Bool.false_eq_true, if_false, prepRows_rv hin (l := l), rowsL_cons]
theorem inp_false {g : FuncId} (h : inpT.contains g = false) (j : Nat) : G.inplace g j = false := by
  show (inpT.contains g && _) = false
  rw [h, Bool.false_and]
/-- A call that is handed rows, told as lists. -/
theorem callV_rv {d : Option Nat} {g : FuncId} {first caps args all pre : List AV} {st : ASt} {v : AV} (hE : G.E g = true) (hg : g < RB) (hx : G.ext g = none) (hin : inpT.contains g = false) (ha : first ++ args ++ caps = all)
    (hpre : AV.rvL st.hp all = pre) (hn : AV.namesL pre = []) (hc : cl g pre [] = some (.ret v, [])) (hv : v.names = []) : callV G cl d (.fn (.func g) first caps) args st = some (.val v (st.fix (AV.rowsL all))) := by
  subst ha
  refine callV_of (pre := pre) (st1 := st.fix (AV.rowsL (first ++ args ++ caps))) (ns := []) (y := (.ret v, [])) hE hg hx ?_ ?_ ?_ rfl ?_ (st3 := st.fix (AV.rowsL (first ++ args ++ caps))) ?_ ?_
  · rw [prepL_rv (inp_false hin), hpre]
  · rw [prepRows_rv (inp_false hin)]
  · rw [hn]; rfl
  · rw [nameless_ren.nameless_renL hn]; exact hc
  · rfl
  · simp only [answered, nameless_ren hv]

end Go.Proofs.YteibklnligmanaaDoor


/- What the functions come to: the writer's bytes. -/
namespace Go.Proofs.YteibklnligmanaaDoor
open Go Abs
set_option linter.unusedSimpArgs false
set_option linter.unusedVariables false

def bysL (l : List UInt8) : List AV := l.map bV
@[simp] theorem bysL_length {l : List UInt8} : (bysL l).length = l.length := by simp [bysL]
theorem bysL_snoc {l : List UInt8} {b : UInt8} : bysL (l ++ [b]) = bysL l ++ [.int .u8 b.toNat] := by simp [bysL, bV]
/-- The nodes that a writer has, if any. -/
def ndo : Option (List Nd) → AV
  | some l => nds l
  | none => .nils
@[simp] theorem ndo_rv {hp o} : (ndo o).rv hp = ndo o := by cases o <;> rfl
@[simp] theorem ndo_names {o} : (ndo o).names = [] := by cases o <;> rfl
@[simp] theorem ndo_rows {o} : (ndo o).rows = [] := by cases o <;> rfl
@[simp] theorem ndo_cells {o} : (ndo o).cells = [ndo o] := by cases o <;> rfl
@[simp] theorem ndo_okc {o} : okCell (ndo o) = true := by cases o <;> rfl
@[simp] theorem ndo_kno {o} : (ndo o).known = true := by cases o <;> rfl
@[simp] theorem ndo_isA {o} : (ndo o).isA = false := by cases o <;> rfl
@[simp] theorem ndo_pur {o} : (ndo o).pureB = true := by cases o; rfl; exact nds_pur
@[simp] theorem ndo_ren {m o} : (ndo o).ren m = ndo o := by cases o <;> rfl
@[simp] theorem ndo_kill {n o} : (ndo o).kill n = ndo o := by cases o <;> rfl
/-- A writer into which something was written. -/
def wBox (i k : Nat) (l : Option (List Nd)) : AObj := .box 75 (.agg [.ptr i 0 0, .own k, ndo l])
def wRow (bs : List UInt8) (mv : Bool) : AObj := .row 1 (bysL bs) false ⟨mv, 5⟩
def hpW (l : Option (List Nd)) (bs : List UInt8) (mv : Bool) : Heap := [(0, wBox 0 1 l), (1, wRow bs mv)]
attribute [local simp] canonK canonAll canonSlot canonCell canonBox ownStep restrictTo pureCells pureRows reachL AObj.names List.range_succ appendA
@[simp] theorem noesc {d v st} : callV G cl d (.fn (.func 66) [] []) [v] st = some (.val v st) := rfl
@[simp] theorem lies85 : liesAt Tryd.prog Tryd.prog.depth 75 1 0 72 1 = true := by kernel_rfl
@[simp] theorem neq83 : binO Tryd.prog .neq 70 false false (.ptr 0 0 0) (.ptr 0 0 0) = some (.bool false) := by kernel_rfl
set_option maxHeartbeats 8000000 in
theorem copyCheck_1 (l : Option (List Nd)) (bs : List UInt8) : cl 54 [.ptr 0 0 0] (hpW l bs false) = some (.ret (.tup []), hpW l bs false) := by
  refine fn_intro Tryd.func54 rfl (by simp) (by decide) rfl ?_
  simp [Tryd.f54, hpW, wBox, wRow]
  cases l <;> rfl
/-- A writer that has room, into which nothing was written. -/
def hpG (l : Option (List Nd)) : Heap := [(0, .box 75 (.agg [.nilp, .own 1, ndo l])), (1, wRow [] false)]
set_option maxHeartbeats 8000000 in
theorem copyCheck_G (l : Option (List Nd)) : cl 54 [.ptr 0 0 0] (hpG l) = some (.ret (.tup []), hpW l [] false) := by
  refine fn_intro Tryd.func54 rfl (by simp) (by decide) rfl ?_
  simp [Tryd.f54, hpG]
  cases l <;> rfl
@[simp] theorem intsL_len {L : List Nat} : (intsL L).length = L.length := by simp [intsL]
/-- A value that hangs on no memory. -/
structure Plain (x : AV) : Prop where
  rv : ∀ hp, x.rv hp = x
  names : x.names = []
  rows : x.rows = []
  ren : ∀ m, x.ren m = x
theorem plain_int {k n} : Plain (.int k n) := ⟨fun _ => rfl, rfl, rfl, fun _ => rfl⟩
theorem plain_str {s} : Plain (.str s) := ⟨fun _ => rfl, rfl, rfl, fun _ => rfl⟩
theorem plain_nili : Plain .nili := ⟨fun _ => rfl, rfl, rfl, fun _ => rfl⟩
theorem plain_unit : Plain (.tup []) := ⟨fun _ => rfl, rfl, rfl, fun _ => rfl⟩
theorem plains {g : FuncId} {rest : List AV} (h : ∀ x ∈ rest, Plain x) : (∀ hp j, prepL G g hp rest j = rest) ∧ (∀ j, prepRows G g rest j = []) ∧ AV.namesL rest = [] ∧ ∀ m, AV.renL m rest = rest := by
  induction rest with
  | nil => exact ⟨fun _ _ => rfl, fun _ => rfl, rfl, fun _ => rfl⟩
  | cons a r ih =>
    obtain ⟨h1, h2, h3, h4⟩ := ih fun x hx => h x (List.mem_cons_of_mem _ hx)
    have ha := h a (by simp)
    refine ⟨fun hp j => ?_, fun j => ?_, ?_, fun m => ?_⟩
    · simp [prepL, h1, ha.rv]
    · simp [prepRows, h2, ha.rows]
    · simp [AV.namesL, h3, ha.names]
    · simp [AV.renL, h4, ha.ren]
theorem aget_mapv {f : AObj → AObj} {hp : Heap} {n : Nat} : aget (hp.map fun p => (p.1, f p.2)) n = (aget hp n).map f := by
  induction hp with
  | nil => rfl
  | cons a r ih => obtain ⟨a1, a2⟩ := a; simp only [List.map_cons, aget_cons', ih]; split <;> rfl
theorem callW {g : FuncId} {i k : Nat} {d : Option Nat} {l : Option (List Nd)} {bs bs' : List UInt8} {mv mv' : Bool} {rest : List AV} {v : AV} {sl : Slots} {hp : Heap} (hE : G.E g = true) (hg : g < RB) (hx : G.ext g = none) (hik : i ≠ k) (hrest : ∀ x ∈ rest, Plain x) (hv : Plain v)
    (h0 : aget hp i = some (wBox i k l)) (h1 : aget hp k = some (wRow bs mv)) (hc : cl g (.ptr 0 0 0 :: rest) (hpW l bs false) = some (.ret v, hpW l bs' mv')) :
    callV G cl d (.fn (.func g) [] []) (.ptr i 0 0 :: rest) ⟨sl, hp⟩ =
      some (.val v ⟨if mv' then sl.map (fun p => (p.1, p.2.kill k)) else sl, [(i, wBox i k l), (k, wRow bs' (mv' || mv))] ++ (if mv' then hp.map (fun p => (p.1, p.2.kill k)) else hp)⟩) := by
  obtain ⟨p1, p2, p3, p4⟩ := plains (g := g) hrest
  have hki : k ≠ i := fun e => hik e.symm
  have hkl : aget (hp.map fun p => (p.1, p.2.kill k)) k = some (wRow bs mv) := by rw [aget_mapv, h1]; rfl
  refine callV_of (pre := .ptr i 0 0 :: rest) (st1 := ⟨sl, hp⟩) (ns := [i, k]) (y := (.ret v, hpW l bs' mv')) (st3 := ⟨if mv' then sl.map (fun p => (p.1, p.2.kill k)) else sl, [(i, wBox i k l), (k, wRow bs' (mv' || mv))] ++ (if mv' then hp.map (fun p => (p.1, p.2.kill k)) else hp)⟩) hE hg hx ?_ ?_ ?_ ?_ ?_ ?_ ?_
  · simp [prepL, p1]
  · simp [prepRows, p2, ASt.fix, hfix]
  · simp [AV.namesL, p3, reachL, h0, h1, wBox, wRow, hik, hki]
  · simp [h0, h1]
  · simp [AV.renL, p4, subHeap, zipIx, toMap, h0, h1, wBox, wRow, hik, hki, AObj.unmv]
    exact hc
  · cases mv' <;> simp [afterCall, afterHeap, zipIx, movedOf, killAll, backMap, backName, hpW, wBox, wRow, AObj.moved, AObj.isRow, AObj.ormv, h0, h1, hik, hki, hkl, ASt.killn]
  · simp [answered, hv.ren]
theorem callG {g : FuncId} {i k : Nat} {d : Option Nat} {l : Option (List Nd)} {bs' : List UInt8} {mv mv' : Bool} {rest : List AV} {v : AV} {sl : Slots} {hp : Heap} (hE : G.E g = true) (hg : g < RB) (hx : G.ext g = none) (hik : i ≠ k) (hrest : ∀ x ∈ rest, Plain x) (hv : Plain v)
    (h0 : aget hp i = some (.box 75 (.agg [.nilp, .own k, ndo l]))) (h1 : aget hp k = some (wRow [] mv)) (hc : cl g (.ptr 0 0 0 :: rest) (hpG l) = some (.ret v, hpW l bs' mv')) :
    callV G cl d (.fn (.func g) [] []) (.ptr i 0 0 :: rest) ⟨sl, hp⟩ =
      some (.val v ⟨if mv' then sl.map (fun p => (p.1, p.2.kill k)) else sl, [(i, wBox i k l), (k, wRow bs' (mv' || mv))] ++ (if mv' then hp.map (fun p => (p.1, p.2.kill k)) else hp)⟩) := by
  obtain ⟨p1, p2, p3, p4⟩ := plains (g := g) hrest
  have hki : k ≠ i := fun e => hik e.symm
  have hkl : aget (hp.map fun p => (p.1, p.2.kill k)) k = some (wRow [] mv) := by rw [aget_mapv, h1]; rfl
  refine callV_of (pre := .ptr i 0 0 :: rest) (st1 := ⟨sl, hp⟩) (ns := [i, k]) (y := (.ret v, hpW l bs' mv')) (st3 := ⟨if mv' then sl.map (fun p => (p.1, p.2.kill k)) else sl, [(i, wBox i k l), (k, wRow bs' (mv' || mv))] ++ (if mv' then hp.map (fun p => (p.1, p.2.kill k)) else hp)⟩) hE hg hx ?_ ?_ ?_ ?_ ?_ ?_ ?_
  · simp [prepL, p1]
  · simp [prepRows, p2, ASt.fix, hfix]
  · simp [AV.namesL, p3, reachL, h0, h1, wBox, wRow, hik, hki]
  · simp [h0, h1]
  · simp [AV.renL, p4, subHeap, zipIx, toMap, h0, h1, wBox, wRow, hik, hki, AObj.unmv]
    exact hc
  · cases mv' <;> simp [afterCall, afterHeap, zipIx, movedOf, killAll, backMap, backName, hpW, wBox, wRow, AObj.moved, AObj.isRow, AObj.ormv, h0, h1, hik, hki, hkl, ASt.killn]
  · simp [answered, hv.ren]

theorem bv_plain {b : UInt8} : Plain (bV b) := plain_int
theorem copy_W {i k d l bs mv sl hp} (hik : i ≠ k) (h0 : aget hp i = some (wBox i k l)) (h1 : aget hp k = some (wRow bs mv)) : callV G cl d (.fn (.func 54) [] []) [.ptr i 0 0] ⟨sl, hp⟩ = some (.val (.tup []) ⟨sl, [(i, wBox i k l), (k, wRow bs mv)] ++ hp⟩) := by
  have := callW (d := d) (sl := sl) (g := 54) (rest := []) rfl (by decide) rfl hik (by simp) plain_unit h0 h1 (copyCheck_1 l bs)
  simpa using this
theorem copy_G {i k d l mv sl hp} (hik : i ≠ k) (h0 : aget hp i = some (.box 75 (.agg [.nilp, .own k, ndo l]))) (h1 : aget hp k = some (wRow [] mv)) : callV G cl d (.fn (.func 54) [] []) [.ptr i 0 0] ⟨sl, hp⟩ = some (.val (.tup []) ⟨sl, [(i, wBox i k l), (k, wRow [] mv)] ++ hp⟩) := by
  have := callG (d := d) (sl := sl) (g := 54) (rest := []) rfl (by decide) rfl hik (by simp) plain_unit h0 h1 (copyCheck_G l)
  simpa using this
set_option maxHeartbeats 8000000 in
theorem writeByte_1 (l : Option (List Nd)) (bs : List UInt8) (b : UInt8) (hb : bs.length ≤ 4000000) : cl 41 [.ptr 0 0 0, bV b] (hpW l bs false) = some (.ret .nili, hpW l (bs ++ [b]) true) := by
  refine fn_intro Tryd.func41 rfl (by simp) (by decide) rfl ?_
  have hL : bs.length + 1 ≤ LIM := by unfold LIM; omega
  have h := fun d sl => copy_W (d := d) (l := l) (bs := bs) (mv := false) (sl := sl) (hp := hpW l bs false) (i := 0) (k := 1) (by decide) rfl rfl
  simp only [hpW, wBox, wRow] at h
  simp [Tryd.f41, hpW, wBox, wRow, h, bV, hL, bysL_snoc]
  cases l <;> rfl
set_option maxHeartbeats 8000000 in
theorem writeByte_G (l : Option (List Nd)) (b : UInt8) : cl 41 [.ptr 0 0 0, bV b] (hpG l) = some (.ret .nili, hpW l [b] true) := by
  refine fn_intro Tryd.func41 rfl (by simp) (by decide) rfl ?_
  have h := fun d sl => copy_G (d := d) (l := l) (mv := false) (sl := sl) (hp := hpG l) (i := 0) (k := 1) (by decide) rfl rfl
  simp only [hpG, wBox, wRow] at h
  have h1 : 1 ≤ LIM := by unfold LIM; omega
  simp [Tryd.f41, hpG, wBox, wRow, h, bV, h1]
  cases l <;> rfl
theorem byte_W {i k d l bs mv sl hp} {b : UInt8} (hb : bs.length ≤ 4000000) (hik : i ≠ k) (h0 : aget hp i = some (wBox i k l)) (h1 : aget hp k = some (wRow bs mv)) : callV G cl d (.fn (.func 41) [] []) [.ptr i 0 0, bV b] ⟨sl, hp⟩ =
    some (.val .nili ⟨sl.map (fun p => (p.1, p.2.kill k)), [(i, wBox i k l), (k, wRow (bs ++ [b]) true)] ++ hp.map (fun p => (p.1, p.2.kill k))⟩) := by
  have := callW (d := d) (sl := sl) (g := 41) (rest := [bV b]) rfl (by decide) rfl hik (by simpa using bv_plain) plain_nili h0 h1 (writeByte_1 l bs b hb)
  simpa using this
theorem byte_G {i k d l mv sl hp} {b : UInt8} (hik : i ≠ k) (h0 : aget hp i = some (.box 75 (.agg [.nilp, .own k, ndo l]))) (h1 : aget hp k = some (wRow [] mv)) : callV G cl d (.fn (.func 41) [] []) [.ptr i 0 0, bV b] ⟨sl, hp⟩ =
    some (.val .nili ⟨sl.map (fun p => (p.1, p.2.kill k)), [(i, wBox i k l), (k, wRow [b] true)] ++ hp.map (fun p => (p.1, p.2.kill k))⟩) := by
  have := callG (d := d) (sl := sl) (g := 41) (rest := [bV b]) rfl (by decide) rfl hik (by simpa using bv_plain) plain_nili h0 h1 (writeByte_G l b)
  simpa using this
/-- WriteString. -/
theorem bysL_app {l m : List UInt8} : bysL (l ++ m) = bysL l ++ List.map (fun b : UInt8 => AV.int .u8 b.toNat) m := by simp [bysL, bV]
set_option maxHeartbeats 8000000 in
theorem writeString_1 (l : Option (List Nd)) (bs t : List UInt8) (hb : bs.length + t.length ≤ 4000000) : cl 55 [.ptr 0 0 0, .str t] (hpW l bs false) = some (.ret (.tup [.int .i64 t.length, .nili]), hpW l (bs ++ t) true) := by
  refine fn_intro Tryd.func55 rfl (by simp) (by decide) rfl ?_
  have hL : bs.length + t.length ≤ LIM := by unfold LIM; omega
  have h := fun d sl => copy_W (d := d) (l := l) (bs := bs) (mv := false) (sl := sl) (hp := hpW l bs false) (i := 0) (k := 1) (by decide) rfl rfl
  simp only [hpW, wBox, wRow] at h
  simp [Tryd.f55, hpW, wBox, wRow, h, hL, bysL_app]
  cases l <;> rfl
theorem plain_wrote {n : Int} : Plain (.tup [.int .i64 n, .nili]) := ⟨fun _ => rfl, rfl, rfl, fun _ => rfl⟩
theorem string_W' {i k d l bs mv sl hp} {t : List UInt8} (hb : bs.length + t.length ≤ 4000000) (hik : i ≠ k) (h0 : aget hp i = some (wBox i k l)) (h1 : aget hp k = some (wRow bs mv)) : callV G cl d (.fn (.func 55) [] []) [.ptr i 0 0, .str t] ⟨sl, hp⟩ =
    some (.val (.tup [.int .i64 t.length, .nili]) ⟨sl.map (fun p => (p.1, p.2.kill k)), [(i, wBox i k l), (k, wRow (bs ++ t) true)] ++ hp.map (fun p => (p.1, p.2.kill k))⟩) := by
  have := callW (d := d) (sl := sl) (g := 55) (rest := [.str t]) rfl (by decide) rfl hik (by simpa using plain_str) plain_wrote h0 h1 (writeString_1 l bs t hb)
  simpa using this
/-- A text's bytes, without its kind. -/
def txtB : List UInt8 → List UInt8
  | [] => [0, 0]
  | b :: r => if b = 0 then b :: 255 :: txtB r else b :: txtB r
def txt0 : List UInt8 → List UInt8
  | [] => []
  | b :: r => if b = 0 then b :: 255 :: txt0 r else b :: txt0 r
theorem txtB_eq (s : List UInt8) : txtB s = txt0 s ++ [0, 0] := by
  induction s with
  | nil => rfl
  | cons b r ih => simp only [txtB, txt0]; split <;> simp [ih]
theorem txt0_length (s : List UInt8) : (txt0 s).length ≤ 2 * s.length := by
  induction s with
  | nil => simp [txt0]
  | cons b r ih => simp only [txt0]; split <;> simp <;> omega
theorem txt0_app (s t : List UInt8) : txt0 (s ++ t) = txt0 s ++ txt0 t := by
  induction s with
  | nil => rfl
  | cons b r ih => simp only [List.cons_append, txt0]; split <;> simp [ih]
theorem str_at {s : List UInt8} {i : Nat} {b : UInt8} (h : s[i]? = some b) : indexv Tryd.prog 9 (.str s) (.int .i64 i) = some (.int .u8 b.toNat) := by
  simp [indexv, h]
def sl67 (s : List UInt8) (i : Nat) : Slots := [(0, .ptr 0 0 0), (1, .str s), (6, .int .i64 s.length), (7, .int .i64 i)]
set_option maxHeartbeats 8000000 in
theorem round67 (l : Option (List Nd)) (s bs : List UInt8) (hs : s.length ≤ 1000000) (hb : bs.length ≤ 3000000) (i : Nat) (b : UInt8) (hi : s[i]? = some b) (mv : Bool) :
    rX 42 (lc Tryd.f42 0) (codeX G cl lp 42 (lc Tryd.f42 0) ⟨sl67 s i, hpW l bs mv⟩) = some (.normal, ⟨sl67 s (i + 1), hpW l (bs ++ txt0 [b]) true⟩) := by
  have hlt : i < s.length := (List.getElem?_eq_some_iff.1 hi).1
  have hw1 : IntKind.i64.wrap ((i : Int) + 1) = ((i + 1 : Nat) : Int) := by rw [i64_wrap (by omega) (by omega)]; omega
  have e : s[i] = b := (List.getElem?_eq_some_iff.1 hi).2
  have h1 := fun d sl hp (h0 : aget hp 0 = some (wBox 0 1 l)) (h1 : aget hp 1 = some (wRow bs mv)) => byte_W (d := d) (sl := sl) (hp := hp) (b := b) (by omega) (by decide) h0 h1
  have h2 := fun d sl hp mv (h0 : aget hp 0 = some (wBox 0 1 l)) (h1 : aget hp 1 = some (wRow (bs ++ [b]) mv)) => byte_W (d := d) (sl := sl) (hp := hp) (b := 255) (by simp; omega) (by decide) h0 h1
  simp only [show bV 255 = .int .u8 255 from rfl] at h2
  simp only [bV, wBox, wRow] at h1 h2
  have hx := str_at hi
  by_cases h0 : b.toNat = 0
  · have hz : b = 0 := by rw [← UInt8.toNat_inj]; exact h0
    have ht : txt0 [b] = [b, 255] := by simp [txt0, hz]
    rw [ht]
    simp only [h0, Int.natCast_zero] at h1 hx
    simp [lc, loopsOf, Tryd.f42, sl67, hpW, hlt, e, h1, h2, hw1, hx, wBox, wRow]
    done
  · have hz : ¬ b = 0 := fun h => h0 (by rw [h]; rfl)
    have ht : txt0 [b] = [b] := by simp [txt0, hz]
    rw [ht]
    simp [lc, loopsOf, Tryd.f42, sl67, hpW, hlt, e, h1, h2, hw1, hx, h0, wBox, wRow]
    done
theorem exit67 (l : Option (List Nd)) (s bs : List UInt8) (i : Nat) (hi : s.length ≤ i) (mv : Bool) : rX 42 (lc Tryd.f42 0) (codeX G cl lp 42 (lc Tryd.f42 0) ⟨sl67 s i, hpW l bs mv⟩) = some (.exit 0, ⟨sl67 s i ++ [(8, .bool false)], hpW l bs mv⟩) := by
  have : ¬ i < s.length := by omega
  simp [lc, loopsOf, Tryd.f42, sl67, hpW, this, wBox, wRow]
  done
theorem loop67 (l : Option (List Nd)) (s : List UInt8) (hs : s.length ≤ 1000000) (bs : List UInt8) : ∀ (c i : Nat) (mv : Bool), i + c = s.length → bs.length + 2 * s.length ≤ 3000000 →
    ∃ mv' sl, lp 42 (lc Tryd.f42 0) ⟨sl67 s i, hpW l (bs ++ txt0 (s.take i)) mv⟩ = some (.exit 0, ⟨(0, .ptr 0 0 0) :: sl, hpW l (bs ++ txt0 s) mv'⟩) := by
  intro c
  induction c with
  | zero =>
    intro i mv hi hb
    rw [List.take_of_length_le (by omega)]
    exact ⟨mv, _, loop_out (exit67 l s _ i (by omega) mv) (by simp)⟩
  | succ c ih =>
    intro i mv hi hb
    have hlt : i < s.length := by omega
    have hq : s[i]? = some s[i] := List.getElem?_eq_getElem hlt
    have hl := txt0_length (s.take i)
    rw [List.length_take] at hl
    have h := round67 l s (bs ++ txt0 (s.take i)) hs (by simp; omega) i _ hq mv
    have e : bs ++ txt0 (s.take i) ++ txt0 [s[i]] = bs ++ txt0 (s.take (i + 1)) := by
      rw [List.take_add_one, hq, List.append_assoc, ← txt0_app]; rfl
    rw [e] at h
    obtain ⟨mv', sl, hx⟩ := ih (i + 1) true (by omega) hb
    exact ⟨mv', sl, loop_next h hx⟩
set_option maxHeartbeats 8000000 in
theorem text_1 (l : Option (List Nd)) (s bs : List UInt8) (hs : s.length ≤ 1000000) (hb : bs.length + 2 * s.length ≤ 3000000) : cl 42 [.ptr 0 0 0, .str s] (hpW l bs false) = some (.ret (.tup []), hpW l (bs ++ txtB s) true) := by
  refine fn_intro Tryd.func42 rfl (by simp) (by decide) rfl ?_
  obtain ⟨mv', sl, hlp⟩ := loop67 l s hs bs s.length 0 false (by omega) hb
  have hl := txt0_length s
  have h1 := fun d sl hp mv (h0 : aget hp 0 = some (wBox 0 1 l)) (h1 : aget hp 1 = some (wRow (bs ++ txt0 s) mv)) => string_W' (d := d) (sl := sl) (hp := hp) (t := [0, 0]) (by simp; omega) (by decide) h0 h1
  simp [txt0, sl67, hpW, wBox, wRow, lc, loopsOf, Tryd.f42] at hlp
  simp only [wBox, wRow] at h1
  rw [txtB_eq]
  simp [Tryd.f42, hpW, wBox, wRow, hlp, h1]
  cases l <;> rfl
theorem text_W {i k d l bs mv sl hp} {s : List UInt8} (hs : s.length ≤ 1000000) (hb : bs.length + 2 * s.length ≤ 3000000) (hik : i ≠ k) (h0 : aget hp i = some (wBox i k l)) (h1 : aget hp k = some (wRow bs mv)) : callV G cl d (.fn (.func 42) [] []) [.ptr i 0 0, .str s] ⟨sl, hp⟩ =
    some (.val (.tup []) ⟨sl.map (fun p => (p.1, p.2.kill k)), [(i, wBox i k l), (k, wRow (bs ++ txtB s) true)] ++ hp.map (fun p => (p.1, p.2.kill k))⟩) := by
  have := callW (d := d) (sl := sl) (g := 42) (rest := [.str s]) rfl (by decide) rfl hik (by simpa using plain_str) plain_unit h0 h1 (text_1 l s bs hs hb)
  simpa using this
end Go.Proofs.YteibklnligmanaaDoor


/- What the functions come to: numbers as bytes. -/
namespace Go.Proofs.YteibklnligmanaaDoor
open Go Abs
set_option linter.unusedSimpArgs false
set_option linter.unusedVariables false

def lowB (n : Int) (i : Nat) : UInt8 := UInt8.ofNat (IntKind.u8.wrap (n.fdiv (2 ^ (8 * i)))).toNat
theorem u8_range {n : Int} : 0 ≤ IntKind.u8.wrap n ∧ IntKind.u8.wrap n < 256 := by
  rw [show IntKind.u8.wrap n = n % 256 from by simp [IntKind.wrap, IntKind.bits, IntKind.signed]]; omega
theorem lowV {n : Int} {i : Nat} : AV.int .u8 (IntKind.u8.wrap (n.fdiv (2 ^ (8 * i)))) = .int .u8 (lowB n i).toNat := by
  obtain ⟨h0, h1⟩ := u8_range (n := n.fdiv (2 ^ (8 * i)))
  rw [lowB, toNat_ofNat h0 h1]
def lows (n : Int) (i : Nat) : List UInt8 := (List.range i).map (lowB n)
@[simp] theorem lows_length {n : Int} {i : Nat} : (lows n i).length = i := by simp [lows]
def bigB (n : Int) : List UInt8 := [lowB n 7, lowB n 6, lowB n 5, lowB n 4, lowB n 3, lowB n 2, lowB n 1, lowB n 0]
attribute [local simp] canonK canonAll canonSlot canonCell canonBox ownStep restrictTo pureCells pureRows reachL AObj.names List.range_succ appendA
def st124 (n : Int) (es : List UInt8) (i : Nat) (mv : Bool) : ASt := ⟨[(0, .int .u64 n), (5, .own 5005), (11, .int .i64 8), (12, .int .i64 i)], [(5005, wRow es mv)]⟩
set_option maxHeartbeats 8000000 in
theorem big_round (n : Int) (es : List UInt8) (i : Nat) (hi : i < 8) (mv : Bool) (hes : es.length ≤ 8) :
    rX 27 (lc Tryd.f27 0) (codeX G cl lp 27 (lc Tryd.f27 0) (st124 n es i mv)) = some (.normal, st124 n (es ++ [lowB n i]) (i + 1) true) := by
  have hw1 : IntKind.i64.wrap ((i : Int) + 1) = ((i + 1 : Nat) : Int) := by rw [i64_wrap (by omega) (by omega)]; omega
  have hw2 : IntKind.i64.wrap (8 * (i : Int)) = ((8 * i : Nat) : Int) := by rw [i64_wrap (by omega) (by omega)]; omega
  have hlt : (i : Int) < 8 := by omega
  have hm : min (8 * i) 64 = 8 * i := by omega
  have hl := lowV (n := n) (i := i)
  have hL : es.length + 1 ≤ LIM := by unfold LIM; omega
  have h1 : ¬ (8 * (i : Int) < 0) := by omega
  have h2 : (8 * (i : Int)).toNat = 8 * i := by omega
  have h3 : IntKind.u64.bits = 64 := rfl
  simp [lc, loopsOf, Tryd.f27, st124, wRow, hlt, hw1, hw2, h1, h2, h3, hm, hl, hL, bysL_snoc]
  done
set_option maxHeartbeats 8000000 in
theorem big_exit (n : Int) (es : List UInt8) (mv : Bool) : rX 27 (lc Tryd.f27 0) (codeX G cl lp 27 (lc Tryd.f27 0) (st124 n es 8 mv)) = some (.exit 0, ⟨[(0, .int .u64 n), (5, .own 5005), (11, .int .i64 8), (12, .int .i64 8), (13, .bool false)], [(5005, wRow es mv)]⟩) := by
  simp [lc, loopsOf, Tryd.f27, st124, wRow]
  done
theorem big_loop (n : Int) : ∀ (c i : Nat) (mv : Bool), i + c = 8 → ∃ mv', lp 27 (lc Tryd.f27 0) (st124 n (lows n i) i mv) = some (.exit 0, ⟨[(0, .int .u64 n), (5, .own 5005), (11, .int .i64 8), (12, .int .i64 8), (13, .bool false)], [(5005, wRow (lows n 8) mv')]⟩) := by
  intro c
  induction c with
  | zero => intro i mv hi; obtain rfl : i = 8 := by omega
            exact ⟨mv, loop_out (big_exit n _ mv) (by simp)⟩
  | succ c ih =>
    intro i mv hi
    obtain ⟨mv', h⟩ := ih (i + 1) true (by omega)
    have hr := big_round n (lows n i) i (by omega) mv (by simp [lows]; omega)
    have e : lows n i ++ [lowB n i] = lows n (i + 1) := by simp [lows, List.range_succ]
    rw [e] at hr
    exact ⟨mv', loop_next hr h⟩
@[simp] theorem bysL_nil : bysL [] = [] := rfl
@[simp] theorem bysL_at {es : List UInt8} {i : Nat} {h : i < (bysL es).length} : (bysL es)[i] = .int .u8 ((es[i]'(by simpa using h)).toNat : Int) := by simp [bysL, bV]
theorem bysL_set {es : List UInt8} {i : Nat} {x : UInt8} : (bysL es).set i (.int .u8 x.toNat) = bysL (es.set i x) := by simp [bysL, bV, List.map_set]
def st124b (es : List UInt8) (i j : Nat) (mv : Bool) : ASt := ⟨[(5, .own 5005), (7, .int .i64 i), (8, .int .i64 j)], [(5005, wRow es mv)]⟩
set_option maxHeartbeats 8000000 in
theorem big_turn (es : List UInt8) (he : es.length ≤ 8) (i j : Nat) (hij : i < j) (x y : UInt8) (hx : es[i]? = some x) (hy : es[j]? = some y) (mv : Bool) :
    rX 27 (lc Tryd.f27 1) (codeX G cl lp 27 (lc Tryd.f27 1) (st124b es i j mv)) = some (.normal, st124b ((es.set i y).set j x) (i + 1) (j - 1) mv) := by
  have hi := (List.getElem?_eq_some_iff.1 hx).1
  have hj := (List.getElem?_eq_some_iff.1 hy).1
  have hw1 : IntKind.i64.wrap ((i : Int) + 1) = ((i + 1 : Nat) : Int) := by rw [i64_wrap (by omega) (by omega)]; omega
  have hw2 : IntKind.i64.wrap ((j : Int) - 1) = ((j - 1 : Nat) : Int) := by rw [i64_wrap (by omega) (by omega)]; omega
  have hlt : (i : Int) < j := by omega
  have ex : es[i] = x := (List.getElem?_eq_some_iff.1 hx).2
  have ey : es[j] = y := (List.getElem?_eq_some_iff.1 hy).2
  simp [lc, loopsOf, Tryd.f27, st124b, wRow, hlt, hw1, hw2, hi, hj, ex, ey, bysL_set]
  done
set_option maxHeartbeats 8000000 in
theorem big_exit2 (es : List UInt8) (mv : Bool) : rX 27 (lc Tryd.f27 1) (codeX G cl lp 27 (lc Tryd.f27 1) (st124b es 4 3 mv)) = some (.exit 2, ⟨[(5, .own 5005), (7, .int .i64 4), (8, .int .i64 3), (29, .bool false)], [(5005, wRow es mv)]⟩) := by
  simp [lc, loopsOf, Tryd.f27, st124b, wRow]
  done
theorem big_loop2 (n : Int) (mv : Bool) : lp 27 (lc Tryd.f27 1) (st124b (lows n 8) 0 7 mv) = some (.exit 2, ⟨[(5, .own 5005), (7, .int .i64 4), (8, .int .i64 3), (29, .bool false)], [(5005, wRow (bigB n) mv)]⟩) :=
  loop_next (big_turn _ (by simp [lows]) 0 7 (by omega) _ _ rfl rfl mv) (loop_next (big_turn _ (by simp [lows]) 1 6 (by omega) _ _ rfl rfl mv) (loop_next (big_turn _ (by simp [lows]) 2 5 (by omega) _ _ rfl rfl mv) (loop_next (big_turn _ (by simp [lows]) 3 4 (by omega) _ _ rfl rfl mv)
    (loop_out (big_exit2 _ mv) (by simp)))))
theorem bytesOf_bysL (es : List UInt8) : bytesOf? (bysL es) = some es := by
  induction es with
  | nil => rfl
  | cons b r ih => simp only [bysL, List.map_cons, bV, bytesOf?] at ih ⊢; rw [ih]; simp
set_option maxHeartbeats 8000000 in
theorem octtext_eq (es : List UInt8) : cl 47 [.list 1 (bysL es)] [] = some (.ret (.str es), []) := by
  refine fn_intro Tryd.func47 rfl (by simp) (by decide) rfl ?_
  have h := bytesOf_bysL es
  simp [Tryd.f47, h]
  exact end_is (.inr rfl) (by simp; rfl) rfl rfl
set_option maxHeartbeats 8000000 in
theorem big_eq (n : Int) : cl 27 [.int .u64 n, .int .i64 8] [] = some (.ret (.str (bigB n)), []) := by
  refine fn_intro Tryd.func27 rfl (by simp) (by decide) rfl ?_
  obtain ⟨mv, h1⟩ := big_loop n 8 0 false rfl
  have h2 := big_loop2 n mv
  have h3 : ∀ d sl, callV G cl d (.fn (.func 47) [] []) [.own 5005] ⟨sl, [(5005, .row 1 (bysL (bigB n)) false ⟨mv, 5⟩)]⟩ = some (.val (.str (bigB n)) (ASt.fix ⟨sl, [(5005, .row 1 (bysL (bigB n)) false ⟨mv, 5⟩)]⟩ [5005])) := fun d sl =>
    callV_rv (pre := [.list 1 (bysL (bigB n))]) E47 (by decide) ext47 rfl rfl rfl rfl (octtext_eq _) rfl
  have h4 : min (max (8 : Int) 0) 8 = 8 := rfl
  have h5 : IntKind.i64.wrap 7 = 7 := rfl
  rw [show lows n 0 = [] from rfl] at h1
  simp [st124, st124b, wRow, lc, loopsOf, Tryd.f27] at h1 h2
  simp [Tryd.f27, h1, h2, h3, h4, h5]
  exact end_is (.inr rfl) (by simp; rfl) rfl rfl
theorem big_call {d : Option Nat} {st : ASt} {n : Int} : callV G cl d (.fn (.func 27) [] []) [.int .u64 n, .int .i64 8] st = some (.val (.str (bigB n)) st) :=
  callV_ret E27 (by decide) ext27 rfl rfl (big_eq n) rfl
end Go.Proofs.YteibklnligmanaaDoor


/- What the functions come to: code.Put, code.Join. -/
namespace Go.Proofs.YteibklnligmanaaDoor
open Go Abs
set_option linter.unusedSimpArgs false
set_option linter.unusedVariables false
attribute [local simp] canonK canonAll canonSlot canonCell canonBox ownStep restrictTo pureCells pureRows reachL AObj.names List.range_succ appendA
def hpS (p : AV) (l : Option (List Nd)) : Heap := [(0, .box 75 (.agg [p, .undef, ndo l])), (1, wRow [] true)]
theorem string_W1 (l : Option (List Nd)) (bs : List UInt8) (hb : bs.length ≤ 4000000) : cl 43 [.ptr 0 0 0] (hpW l bs false) = some (.ret (.str bs), hpS (.ptr 0 0 0) l) := by
  refine call_prim (p := strP 5) (by decide) (by rfl) ?_
  have hL : bs.length ≤ LIM := by unfold LIM; omega
  have h := bytesR_map bs
  simp only [bysL, hpW, wBox, wRow, hpS]
  simp [strP, cellAt, AV.cells, hL, h, ASt.killn, hput, hmod]
  done
theorem string_G1 (l : Option (List Nd)) : cl 43 [.ptr 0 0 0] (hpG l) = some (.ret (.str []), hpS .nilp l) := by
  refine call_prim (p := strP 5) (by decide) (by rfl) ?_
  have hL : 0 ≤ LIM := by unfold LIM; omega
  simp only [bysL, hpG, wRow, hpS]
  simp [strP, cellAt, AV.cells, bytesR?, ASt.killn, hput, hmod]
  done
theorem string_W {i k : Nat} {d : Option Nat} {l : Option (List Nd)} {bs : List UInt8} {mv : Bool} {sl : Slots} {hp : Heap} (hb : bs.length ≤ 4000000) (hik : i ≠ k) (h0 : aget hp i = some (wBox i k l)) (h1 : aget hp k = some (wRow bs mv)) :
    callV G cl d (.fn (.func 43) [] []) [.ptr i 0 0] ⟨sl, hp⟩ = some (.val (.str bs) ⟨sl.map (fun p => (p.1, p.2.kill k)), [(i, .box 75 (.agg [.ptr i 0 0, .undef, ndo l])), (k, wRow [] true)] ++ hp.map (fun p => (p.1, p.2.kill k))⟩) := by
  have hki : k ≠ i := fun e => hik e.symm
  have hkl : aget (hp.map fun p => (p.1, p.2.kill k)) k = some (wRow bs mv) := by rw [aget_mapv, h1]; rfl
  refine callV_of (pre := [.ptr i 0 0]) (st1 := ⟨sl, hp⟩) (ns := [i, k]) (y := (.ret (.str bs), hpS (.ptr 0 0 0) l)) (st3 := ⟨sl.map (fun p => (p.1, p.2.kill k)), [(i, .box 75 (.agg [.ptr i 0 0, .undef, ndo l])), (k, wRow [] true)] ++ hp.map (fun p => (p.1, p.2.kill k))⟩) E43 (by decide) rfl ?_ ?_ ?_ ?_ ?_ ?_ ?_
  · simp [prepL]
  · simp [prepRows, ASt.fix, hfix]
  · simp [AV.namesL, reachL, h0, h1, wBox, wRow, hik, hki]
  · simp [h0, h1]
  · simp [AV.renL, subHeap, zipIx, toMap, h0, h1, wBox, wRow, hik, hki, AObj.unmv]
    exact string_W1 l bs hb
  · simp [afterCall, afterHeap, zipIx, movedOf, killAll, backMap, backName, hpS, wBox, wRow, AObj.moved, AObj.isRow, AObj.ormv, h0, h1, hik, hki, hkl, ASt.killn]
  · simp [answered]
theorem string_G {i k : Nat} {d : Option Nat} {l : Option (List Nd)} {mv : Bool} {sl : Slots} {hp : Heap} (hik : i ≠ k) (h0 : aget hp i = some (.box 75 (.agg [.nilp, .own k, ndo l]))) (h1 : aget hp k = some (wRow [] mv)) :
    callV G cl d (.fn (.func 43) [] []) [.ptr i 0 0] ⟨sl, hp⟩ = some (.val (.str []) ⟨sl.map (fun p => (p.1, p.2.kill k)), [(i, .box 75 (.agg [.nilp, .undef, ndo l])), (k, wRow [] true)] ++ hp.map (fun p => (p.1, p.2.kill k))⟩) := by
  have hki : k ≠ i := fun e => hik e.symm
  have hkl : aget (hp.map fun p => (p.1, p.2.kill k)) k = some (wRow [] mv) := by rw [aget_mapv, h1]; rfl
  refine callV_of (pre := [.ptr i 0 0]) (st1 := ⟨sl, hp⟩) (ns := [i, k]) (y := (.ret (.str []), hpS .nilp l)) (st3 := ⟨sl.map (fun p => (p.1, p.2.kill k)), [(i, .box 75 (.agg [.nilp, .undef, ndo l])), (k, wRow [] true)] ++ hp.map (fun p => (p.1, p.2.kill k))⟩) E43 (by decide) rfl ?_ ?_ ?_ ?_ ?_ ?_ ?_
  · simp [prepL]
  · simp [prepRows, ASt.fix, hfix]
  · simp [AV.namesL, reachL, h0, h1, wBox, wRow, hik, hki]
  · simp [h0, h1]
  · simp [AV.renL, subHeap, zipIx, toMap, h0, h1, wBox, wRow, hik, hki, AObj.unmv]
    exact string_G1 l
  · simp [afterCall, afterHeap, zipIx, movedOf, killAll, backMap, backName, hpS, wBox, wRow, AObj.moved, AObj.isRow, AObj.ormv, h0, h1, hik, hki, hkl, ASt.killn]
  · simp [answered]

theorem ndo_none : ndo none = .nils := rfl
/-- Texts as bytes. -/
def oneB (s : List UInt8) : List UInt8 := 4 :: txtB s
def joinB (t : List (List UInt8)) : List UInt8 := (t.map oneB).flatten
def sl39 (t : List (List UInt8)) (i : Nat) : Slots := [(3, .ptr 1007 0 0), (8, .list 1 (strsL t)), (9, .int .i64 t.length), (10, .int .i64 i)]
def hp39 (bs : List UInt8) (mv : Bool) : Heap := [(1007, wBox 1007 200701 none), (200701, wRow bs mv)]
def hp39G (mv : Bool) : Heap := [(1007, .box 75 (.agg [.nilp, .own 200701, .nils])), (200701, wRow [] mv)]
@[simp] theorem strsL_len {t : List (List UInt8)} : (strsL t).length = t.length := by simp [strsL]
set_option maxHeartbeats 8000000 in
theorem join_round (t : List (List UInt8)) (ht : t.length ≤ 1000) (i : Nat) (s : List UInt8) (hi : t[i]? = some s) (hs : s.length ≤ 100000) (bs : List UInt8) (hb : bs.length ≤ 2000000) (mv : Bool) :
    rX 24 (lc Tryd.f24 0) (codeX G cl lp 24 (lc Tryd.f24 0) ⟨sl39 t i, hp39 bs mv⟩) = some (.normal, ⟨sl39 t (i + 1), hp39 (bs ++ oneB s) true⟩) := by
  have hlt : i < t.length := (List.getElem?_eq_some_iff.1 hi).1
  have e : t[i] = s := (List.getElem?_eq_some_iff.1 hi).2
  have hw1 : IntKind.i64.wrap ((i : Int) + 1) = ((i + 1 : Nat) : Int) := by rw [i64_wrap (by omega) (by omega)]; omega
  have h1 := fun d sl hp (h0 : aget hp 1007 = some (wBox 1007 200701 none)) (h1 : aget hp 200701 = some (wRow bs mv)) => byte_W (d := d) (sl := sl) (hp := hp) (b := 4) (by omega) (by decide) h0 h1
  have h2 := fun d sl hp mv (h0 : aget hp 1007 = some (wBox 1007 200701 none)) (h1 : aget hp 200701 = some (wRow (bs ++ [4]) mv)) => text_W (d := d) (sl := sl) (hp := hp) (s := s) (by omega) (by simp; omega) (by decide) h0 h1
  simp only [show bV 4 = .int .u8 4 from rfl] at h1
  simp only [wBox, wRow, ndo_none] at h1 h2
  have e' : (strsL t)[i]? = some (.str s) := by simp [strsL, hi]
  have ea : bs ++ oneB s = bs ++ [4] ++ txtB s := by simp [oneB]
  rw [ea]
  simp [lc, loopsOf, Tryd.f24, sl39, hp39, wBox, wRow, ndo_none, hlt, e', e, h1, h2, hw1]
  simp [strsL, e, h1, h2, hw1]
  done
set_option maxHeartbeats 8000000 in
theorem join_round0 (t : List (List UInt8)) (ht : t.length ≤ 1000) (s : List UInt8) (hi : t[0]? = some s) (hs : s.length ≤ 100000) (mv : Bool) :
    rX 24 (lc Tryd.f24 0) (codeX G cl lp 24 (lc Tryd.f24 0) ⟨sl39 t 0, hp39G mv⟩) = some (.normal, ⟨sl39 t 1, hp39 (oneB s) true⟩) := by
  have hlt : 0 < t.length := (List.getElem?_eq_some_iff.1 hi).1
  have e : t[0] = s := (List.getElem?_eq_some_iff.1 hi).2
  have h1 := fun d sl hp mv (h0 : aget hp 1007 = some (.box 75 (.agg [.nilp, .own 200701, ndo none]))) (h1 : aget hp 200701 = some (wRow [] mv)) => byte_G (d := d) (sl := sl) (hp := hp) (b := 4) (by decide) h0 h1
  have h2 := fun d sl hp mv (h0 : aget hp 1007 = some (wBox 1007 200701 none)) (h1 : aget hp 200701 = some (wRow ([4]) mv)) => text_W (d := d) (sl := sl) (hp := hp) (s := s) (by omega) (by simp; omega) (by decide) h0 h1
  simp only [show bV 4 = .int .u8 4 from rfl] at h1
  simp only [wBox, wRow, ndo_none, bysL_nil] at h1 h2
  have e' : (strsL t)[0]? = some (.str s) := by simp [strsL, hi]
  have ea : oneB s = [4] ++ txtB s := by simp [oneB]
  rw [ea]
  simp [lc, loopsOf, Tryd.f24, sl39, hp39, hp39G, wBox, wRow, ndo_none, hlt, e', e, h1, h2]
  simp [strsL, e, h1, h2]
  rfl
theorem join_exit (t : List (List UInt8)) (hp : Heap) (hh : (∃ mv, hp = hp39G mv) ∨ ∃ bs mv, hp = hp39 bs mv) : rX 24 (lc Tryd.f24 0) (codeX G cl lp 24 (lc Tryd.f24 0) ⟨sl39 t t.length, hp⟩) = some (.exit 0, ⟨sl39 t t.length ++ [(11, .bool false)], hp⟩) := by
  rcases hh with ⟨mv, rfl⟩ | ⟨bs, mv, rfl⟩ <;> simp [lc, loopsOf, Tryd.f24, sl39, hp39, hp39G, wBox, wRow, ndo_none]
theorem join_loop (t : List (List UInt8)) (ht : t.length ≤ 1000) (hs : ∀ s ∈ t, s.length ≤ 100000) (hb : (joinB t).length ≤ 2000000) : ∀ (c i : Nat) (mv : Bool), i + c = t.length →
    ∃ mv' sl, lp 24 (lc Tryd.f24 0) ⟨sl39 t i, hp39 (joinB (t.take i)) mv⟩ = some (.exit 0, ⟨(3, .ptr 1007 0 0) :: sl, hp39 (joinB t) mv'⟩) := by
  intro c
  induction c with
  | zero =>
    intro i mv hi
    obtain rfl : i = t.length := by omega
    rw [List.take_of_length_le (Nat.le_refl _)]
    exact ⟨mv, _, loop_out (join_exit t _ (.inr ⟨_, _, rfl⟩)) (by simp)⟩
  | succ c ih =>
    intro i mv hi
    have hlt : i < t.length := by omega
    have hq : t[i]? = some t[i] := List.getElem?_eq_getElem hlt
    have e : joinB (t.take i) ++ oneB t[i] = joinB (t.take (i + 1)) := by
      unfold joinB; rw [List.take_add_one, hq, Option.toList_some, List.map_append, List.flatten_append]; simp only [List.map_cons, List.map_nil, List.flatten_cons, List.flatten_nil, List.append_nil]
    have hle : (joinB (t.take i)).length ≤ (joinB t).length := by
      unfold joinB
      conv => rhs; rw [← List.take_append_drop i t]
      rw [List.map_append, List.flatten_append, List.length_append]; omega
    have h := join_round t ht i _ hq (hs _ (List.getElem_mem hlt)) (joinB (t.take i)) (by omega) mv
    rw [e] at h
    obtain ⟨mv', sl, hx⟩ := ih (i + 1) true (by omega)
    exact ⟨mv', sl, loop_next h hx⟩
theorem join_loop0 (t : List (List UInt8)) (ht : t.length ≤ 1000) (hs : ∀ s ∈ t, s.length ≤ 100000) (hb : (joinB t).length ≤ 2000000) (mv : Bool) :
    ∃ mv' sl, lp 24 (lc Tryd.f24 0) ⟨sl39 t 0, hp39G mv⟩ = some (.exit 0, ⟨(3, .ptr 1007 0 0) :: sl, if t = [] then hp39G mv else hp39 (joinB t) mv'⟩) := by
  cases t with
  | nil => exact ⟨mv, _, loop_out (join_exit [] _ (.inl ⟨mv, rfl⟩)) (by simp)⟩
  | cons s t =>
    have h := join_round0 (s :: t) ht s rfl (hs s (by simp)) mv
    obtain ⟨mv', sl, hx⟩ := join_loop (s :: t) ht hs hb t.length 1 true (by simp; omega)
    rw [show joinB ((s :: t).take 1) = oneB s from by simp [joinB]] at hx
    exact ⟨mv', sl, by rw [if_neg (by simp)]; exact loop_next h hx⟩
set_option maxHeartbeats 8000000 in
theorem join_eq (t : List (List UInt8)) (ht : t.length ≤ 1000) (hs : ∀ s ∈ t, s.length ≤ 100000) (hb : (joinB t).length ≤ 2000000) : cl 24 [.list 1 (strsL t)] [] = some (.ret (.str (joinB t)), []) := by
  refine fn_intro Tryd.func24 rfl (by simp) (by decide) rfl ?_
  obtain ⟨mv', sl, hlp⟩ := join_loop0 t ht hs hb false
  by_cases h0 : t = []
  · have h62 := fun d sl hp mv (h0 : aget hp 1007 = some (.box 75 (.agg [.nilp, .own 200701, ndo none]))) (h1 : aget hp 200701 = some (wRow [] mv)) => string_G (d := d) (sl := sl) (by decide) h0 h1
    simp only [wBox, wRow, ndo_none, bysL_nil] at h62
    subst h0
    simp [sl39, hp39G, wBox, wRow, ndo_none, lc, loopsOf, Tryd.f24] at hlp
    simp [Tryd.f24, hlp, h62]
    exact end_is (.inr rfl) (by simp; rfl) rfl rfl
  · have h62 := fun d sl hp mv (h0 : aget hp 1007 = some (wBox 1007 200701 none)) (h1 : aget hp 200701 = some (wRow (joinB t) mv)) => string_W (d := d) (sl := sl) (by omega) (by decide) h0 h1
    simp only [wBox, wRow, ndo_none, bysL_nil] at h62
    rw [if_neg h0] at hlp
    simp [sl39, hp39, hp39G, wBox, wRow, ndo_none, lc, loopsOf, Tryd.f24] at hlp
    simp [Tryd.f24, hlp, h62]
    exact end_is (.inr rfl) (by simp; rfl) rfl rfl
end Go.Proofs.YteibklnligmanaaDoor


/- What the functions come to: the document's bytes. -/
namespace Go.Proofs.YteibklnligmanaaDoor
open Go Abs
set_option linter.unusedSimpArgs false
set_option linter.unusedVariables false
attribute [local simp] canonK canonAll canonSlot canonCell canonBox ownStep restrictTo pureCells pureRows reachL AObj.names List.range_succ appendA
theorem u64w (n : Int) : IntKind.u64.wrap n = n % 18446744073709551616 := by simp [IntKind.wrap, IntKind.bits, IntKind.signed]
/-! Numbers -/
end Go.Proofs.YteibklnligmanaaDoor


/- What the functions come to: the document's value as bytes. -/
namespace Go.Proofs.YteibklnligmanaaDoor
open Go Abs
set_option linter.unusedSimpArgs false
set_option linter.unusedVariables false
attribute [local simp] canonK canonAll canonSlot canonCell canonBox ownStep restrictTo pureCells pureRows reachL AObj.names List.range_succ appendA
@[simp] theorem intsL_ix {L : List Nat} {i : Nat} {h : i < (intsL L).length} : (intsL L)[i] = .int .i64 ((L[i]'(by simpa using h) : Nat) : Int) := by simp [intsL]
@[simp] theorem intsL_bq {l : List Nat} : AV.beqL (intsL l) (intsL l) = true := beqL_self (plainBL_map (fun _ => rfl) l)
end Go.Proofs.YteibklnligmanaaDoor


/- What the functions come to: the document's Put, Join. -/
namespace Go.Proofs.YteibklnligmanaaDoor
open Go Abs
set_option linter.unusedSimpArgs false
set_option linter.unusedVariables false
attribute [local simp] canonK canonAll canonSlot canonCell canonBox ownStep restrictTo pureCells pureRows reachL AObj.names List.range_succ appendA
@[simp] theorem strsL_ix {K : List (List UInt8)} {i : Nat} {h : i < (strsL K).length} : (strsL K)[i] = .str (K[i]'(by simpa [strsL] using h)) := by simp [strsL]
@[simp] theorem strsL_bq {l : List (List UInt8)} : AV.beqL (strsL l) (strsL l) = true := beqL_self (plainBL_map (fun _ => rfl) l)
end Go.Proofs.YteibklnligmanaaDoor


/- What the functions come to: numbers out of bytes. -/
namespace Go.Proofs.YteibklnligmanaaDoor
open Go Abs
set_option linter.unusedSimpArgs false
set_option linter.unusedVariables false
def accU (n : Int) (b : UInt8) : Int := wOr .u64 (IntKind.u64.wrap (n * 256)) b.toNat
def readU (s : List UInt8) : Int := s.foldl accU 0
def st100 (s : List UInt8) (n : Int) (i : Nat) : ASt := ⟨[(0, .str s), (3, .int .u64 n), (6, .int .i64 s.length), (7, .int .i64 i)], []⟩
set_option maxHeartbeats 8000000 in
theorem round100 (s : List UInt8) (hs : s.length ≤ 1000000) (n : Int) (i : Nat) (b : UInt8) (hi : s[i]? = some b) :
    rX 91 (lc Tryd.f91 0) (codeX G cl lp 91 (lc Tryd.f91 0) (st100 s n i)) = some (.normal, st100 s (accU n b) (i + 1)) := by
  have hlt : i < s.length := (List.getElem?_eq_some_iff.1 hi).1
  have e : s[i] = b := (List.getElem?_eq_some_iff.1 hi).2
  have hw1 : IntKind.i64.wrap ((i : Int) + 1) = ((i + 1 : Nat) : Int) := by rw [i64_wrap (by omega) (by omega)]; omega
  have hx : indexv Tryd.prog 9 (.str s) (.int .i64 i) = some (.int .u8 b.toNat) := str_at hi
  have hb : IntKind.u64.wrap (b.toNat : Int) = b.toNat := by rw [u64w]; have := b.toNat_lt; omega
  simp [lc, loopsOf, Tryd.f91, st100, hlt, hw1, hx, hb, accU]
  rfl
theorem exit100 (s : List UInt8) (n : Int) : rX 91 (lc Tryd.f91 0) (codeX G cl lp 91 (lc Tryd.f91 0) (st100 s n s.length)) = some (.exit 0, ⟨(st100 s n s.length).sl ++ [(8, .bool false)], []⟩) := by
  simp [lc, loopsOf, Tryd.f91, st100]
theorem loop100 (s : List UInt8) (hs : s.length ≤ 1000000) : ∀ (c i : Nat), i + c = s.length → lp 91 (lc Tryd.f91 0) (st100 s ((s.take i).foldl accU 0) i) = some (.exit 0, ⟨(st100 s (readU s) s.length).sl ++ [(8, .bool false)], []⟩) := by
  intro c
  induction c with
  | zero =>
    intro i hi
    obtain rfl : i = s.length := by omega
    rw [List.take_of_length_le (Nat.le_refl _)]
    exact loop_out (exit100 s _) (by simp)
  | succ c ih =>
    intro i hi
    have hlt : i < s.length := by omega
    have hq : s[i]? = some s[i] := List.getElem?_eq_getElem hlt
    have h := round100 s hs ((s.take i).foldl accU 0) i _ hq
    have e : accU ((s.take i).foldl accU 0) s[i] = (s.take (i + 1)).foldl accU 0 := by rw [List.take_add_one, hq, List.foldl_append]; rfl
    rw [e] at h
    exact loop_next h (ih (i + 1) (by omega))
set_option maxHeartbeats 8000000 in
theorem readBig_eq (s : List UInt8) (hs : s.length ≤ 1000000) : cl 91 [.str s] [] = some (.ret (.int .u64 (readU s)), []) := by
  refine fn_intro Tryd.func91 rfl (by simp) (by decide) rfl ?_
  have h := loop100 s hs s.length 0 (by omega)
  simp [st100, lc, loopsOf, Tryd.f91] at h
  simp [Tryd.f91, h]
  exact end_is (.inr rfl) (by simp; rfl) rfl rfl
theorem readBig_call {d : Option Nat} {st : ASt} {s : List UInt8} (hs : s.length ≤ 1000000) : callV G cl d (.fn (.func 91) [] []) [.str s] st = some (.val (.int .u64 (readU s)) st) := callV_ret E91 (by decide) ext91 rfl rfl (readBig_eq s hs) rfl
end Go.Proofs.YteibklnligmanaaDoor


/- Words of 32 bits: what the machine's operations on them come to; turning to the right. -/
namespace Go.Proofs.YteibklnligmanaaDoor
open Go Abs
set_option linter.unusedSimpArgs false
set_option linter.unusedVariables false
abbrev W32 := BitVec 32
/-- The number that a word is. -/
def wN (x : W32) : Int := (x.toNat : Int)
def wV (x : W32) : AV := .int .u32 (wN x)
theorem u32w (n : Int) : IntKind.u32.wrap n = n % 4294967296 := by simp [IntKind.wrap, IntKind.bits, IntKind.signed]
theorem w_add (x y : W32) : IntKind.u32.wrap ((x.toNat : Int) + y.toNat) = ((x + y).toNat : Int) := by
  rw [u32w, BitVec.toNat_add]; omega
theorem w_nat {n : Nat} (h : n < 4294967296) : IntKind.u32.wrap (n : Int) = n := by rw [u32w]; omega
theorem w_ofInt (x : W32) : BitVec.ofInt 32 (x.toNat : Int) = x := by
  apply BitVec.eq_of_toNat_eq
  simp
theorem w_xor (x y : W32) : wXor .u32 (x.toNat : Int) (y.toNat : Int) = ((x ^^^ y).toNat : Int) := by
  unfold wXor
  show IntKind.u32.wrap ((BitVec.ofInt 32 (x.toNat : Int) ^^^ BitVec.ofInt 32 (y.toNat : Int)).toNat : Int) = _
  rw [w_ofInt, w_ofInt, w_nat (x ^^^ y).isLt]
theorem w_and (x y : W32) : wAnd .u32 (x.toNat : Int) (y.toNat : Int) = ((x &&& y).toNat : Int) := by
  unfold wAnd
  show IntKind.u32.wrap ((BitVec.ofInt 32 (x.toNat : Int) &&& BitVec.ofInt 32 (y.toNat : Int)).toNat : Int) = _
  rw [w_ofInt, w_ofInt, w_nat (x &&& y).isLt]
theorem w_or (x y : W32) : wOr .u32 (x.toNat : Int) (y.toNat : Int) = ((x ||| y).toNat : Int) := by
  unfold wOr
  show IntKind.u32.wrap ((BitVec.ofInt 32 (x.toNat : Int) ||| BitVec.ofInt 32 (y.toNat : Int)).toNat : Int) = _
  rw [w_ofInt, w_ofInt, w_nat (x ||| y).isLt]
theorem w_not (x : W32) : wXor .u32 IntKind.u32.max (x.toNat : Int) = ((~~~x).toNat : Int) := by
  unfold wXor
  show IntKind.u32.wrap ((BitVec.ofInt 32 4294967295 ^^^ BitVec.ofInt 32 (x.toNat : Int)).toNat : Int) = _
  have e : BitVec.ofInt 32 4294967295 = BitVec.allOnes 32 := by decide
  rw [w_ofInt, e, BitVec.allOnes_xor, w_nat (~~~x).isLt]
theorem w_shr (x : W32) (n : Nat) : ((x.toNat : Int)).fdiv (2 ^ n) = ((x >>> n).toNat : Int) := by
  rw [BitVec.toNat_ushiftRight, Nat.shiftRight_eq_div_pow, Int.fdiv_eq_ediv_of_nonneg _ (by exact Int.pow_nonneg (by omega)), Int.natCast_ediv]
  congr 1
theorem w_shl (x : W32) (n : Nat) : IntKind.u32.wrap ((x.toNat : Int) * 2 ^ n) = ((x <<< n).toNat : Int) := by
  rw [u32w, BitVec.toNat_shiftLeft, Nat.shiftLeft_eq]
  rw [Int.natCast_emod, Int.natCast_mul]
  congr 1
theorem n_add (x y : W32) : IntKind.u32.wrap (wN x + wN y) = wN (x + y) := w_add x y
theorem n_add' (x y : W32) : (wN x + wN y) % 4294967296 = wN (x + y) := by rw [← u32w]; exact w_add x y
theorem n_xor (x y : W32) : wXor .u32 (wN x) (wN y) = wN (x ^^^ y) := w_xor x y
theorem n_and (x y : W32) : wAnd .u32 (wN x) (wN y) = wN (x &&& y) := w_and x y
theorem n_or (x y : W32) : wOr .u32 (wN x) (wN y) = wN (x ||| y) := w_or x y
theorem n_not (x : W32) : wXor .u32 (if IntKind.u32.signed = true then -1 else IntKind.u32.max) (wN x) = wN (~~~x) := w_not x
theorem n_shr (x : W32) (n : Nat) : (wN x).fdiv (2 ^ n) = wN (x >>> n) := w_shr x n
theorem n_shl (x : W32) (n : Nat) : IntKind.u32.wrap (wN x * 2 ^ n) = wN (x <<< n) := w_shl x n
/-- Turned to the right. -/
def rr (x : W32) (n : Nat) : W32 := x <<< (32 - n) ||| x >>> n
def rrs : List Nat := [2, 6, 7, 11, 13, 17, 18, 19, 22, 25]
theorem m_2 : wAnd .u64 (IntKind.u64.wrap (-2)) 31 = 30 := by decide
theorem m_6 : wAnd .u64 (IntKind.u64.wrap (-6)) 31 = 26 := by decide
theorem m_7 : wAnd .u64 (IntKind.u64.wrap (-7)) 31 = 25 := by decide
theorem m_11 : wAnd .u64 (IntKind.u64.wrap (-11)) 31 = 21 := by decide
theorem m_13 : wAnd .u64 (IntKind.u64.wrap (-13)) 31 = 19 := by decide
theorem m_17 : wAnd .u64 (IntKind.u64.wrap (-17)) 31 = 15 := by decide
theorem m_18 : wAnd .u64 (IntKind.u64.wrap (-18)) 31 = 14 := by decide
theorem m_19 : wAnd .u64 (IntKind.u64.wrap (-19)) 31 = 13 := by decide
theorem m_22 : wAnd .u64 (IntKind.u64.wrap (-22)) 31 = 10 := by decide
theorem m_25 : wAnd .u64 (IntKind.u64.wrap (-25)) 31 = 7 := by decide
theorem u32b : IntKind.u32.bits = 32 := rfl
theorem rot_key (x : W32) (m s : Nat) (hs : s = 32 - m) : wOr .u32 (IntKind.u32.wrap (wN x * 2 ^ s)) ((wN x).fdiv (2 ^ m)) = wN (rr x m) := by
  rw [n_shl, n_shr, n_or, hs]; rfl
set_option maxHeartbeats 8000000 in
theorem rotl_eq (x : W32) (n : Nat) (h : n ∈ rrs) : cl 98 [.int .u32 (wN x), .int .i64 (-(n : Int))] [] = some (.ret (.int .u32 (wN (rr x n))), []) := by
  refine fn_intro Tryd.func98 rfl (by simp) (by decide) rfl ?_
  simp only [rrs, List.mem_cons, List.not_mem_nil, or_false] at h
  rcases h with rfl | rfl | rfl | rfl | rfl | rfl | rfl | rfl | rfl | rfl
  · have k := rot_key x 2 30 rfl
    have e1 : (min ((30 : Int)).toNat 32 : Nat) = 30 := rfl
    have e2 : IntKind.u64.wrap (32 - 30) = 2 := by decide
    have e3 : (min ((2 : Int)).toNat 32 : Nat) = 2 := rfl
    simp [Tryd.f98, m_2, u32b, e1, e2, e3, -Int.reducePow]
    exact end_is (.inr rfl) (by simp; rfl) rfl (by simp only [resOf_one, AV.int.injEq, true_and]; first | exact k | simpa using k)
  · have k := rot_key x 6 26 rfl
    have e1 : (min ((26 : Int)).toNat 32 : Nat) = 26 := rfl
    have e2 : IntKind.u64.wrap (32 - 26) = 6 := by decide
    have e3 : (min ((6 : Int)).toNat 32 : Nat) = 6 := rfl
    simp [Tryd.f98, m_6, u32b, e1, e2, e3, -Int.reducePow]
    exact end_is (.inr rfl) (by simp; rfl) rfl (by simp only [resOf_one, AV.int.injEq, true_and]; first | exact k | simpa using k)
  · have k := rot_key x 7 25 rfl
    have e1 : (min ((25 : Int)).toNat 32 : Nat) = 25 := rfl
    have e2 : IntKind.u64.wrap (32 - 25) = 7 := by decide
    have e3 : (min ((7 : Int)).toNat 32 : Nat) = 7 := rfl
    simp [Tryd.f98, m_7, u32b, e1, e2, e3, -Int.reducePow]
    exact end_is (.inr rfl) (by simp; rfl) rfl (by simp only [resOf_one, AV.int.injEq, true_and]; first | exact k | simpa using k)
  · have k := rot_key x 11 21 rfl
    have e1 : (min ((21 : Int)).toNat 32 : Nat) = 21 := rfl
    have e2 : IntKind.u64.wrap (32 - 21) = 11 := by decide
    have e3 : (min ((11 : Int)).toNat 32 : Nat) = 11 := rfl
    simp [Tryd.f98, m_11, u32b, e1, e2, e3, -Int.reducePow]
    exact end_is (.inr rfl) (by simp; rfl) rfl (by simp only [resOf_one, AV.int.injEq, true_and]; first | exact k | simpa using k)
  · have k := rot_key x 13 19 rfl
    have e1 : (min ((19 : Int)).toNat 32 : Nat) = 19 := rfl
    have e2 : IntKind.u64.wrap (32 - 19) = 13 := by decide
    have e3 : (min ((13 : Int)).toNat 32 : Nat) = 13 := rfl
    simp [Tryd.f98, m_13, u32b, e1, e2, e3, -Int.reducePow]
    exact end_is (.inr rfl) (by simp; rfl) rfl (by simp only [resOf_one, AV.int.injEq, true_and]; first | exact k | simpa using k)
  · have k := rot_key x 17 15 rfl
    have e1 : (min ((15 : Int)).toNat 32 : Nat) = 15 := rfl
    have e2 : IntKind.u64.wrap (32 - 15) = 17 := by decide
    have e3 : (min ((17 : Int)).toNat 32 : Nat) = 17 := rfl
    simp [Tryd.f98, m_17, u32b, e1, e2, e3, -Int.reducePow]
    exact end_is (.inr rfl) (by simp; rfl) rfl (by simp only [resOf_one, AV.int.injEq, true_and]; first | exact k | simpa using k)
  · have k := rot_key x 18 14 rfl
    have e1 : (min ((14 : Int)).toNat 32 : Nat) = 14 := rfl
    have e2 : IntKind.u64.wrap (32 - 14) = 18 := by decide
    have e3 : (min ((18 : Int)).toNat 32 : Nat) = 18 := rfl
    simp [Tryd.f98, m_18, u32b, e1, e2, e3, -Int.reducePow]
    exact end_is (.inr rfl) (by simp; rfl) rfl (by simp only [resOf_one, AV.int.injEq, true_and]; first | exact k | simpa using k)
  · have k := rot_key x 19 13 rfl
    have e1 : (min ((13 : Int)).toNat 32 : Nat) = 13 := rfl
    have e2 : IntKind.u64.wrap (32 - 13) = 19 := by decide
    have e3 : (min ((19 : Int)).toNat 32 : Nat) = 19 := rfl
    simp [Tryd.f98, m_19, u32b, e1, e2, e3, -Int.reducePow]
    exact end_is (.inr rfl) (by simp; rfl) rfl (by simp only [resOf_one, AV.int.injEq, true_and]; first | exact k | simpa using k)
  · have k := rot_key x 22 10 rfl
    have e1 : (min ((10 : Int)).toNat 32 : Nat) = 10 := rfl
    have e2 : IntKind.u64.wrap (32 - 10) = 22 := by decide
    have e3 : (min ((22 : Int)).toNat 32 : Nat) = 22 := rfl
    simp [Tryd.f98, m_22, u32b, e1, e2, e3, -Int.reducePow]
    exact end_is (.inr rfl) (by simp; rfl) rfl (by simp only [resOf_one, AV.int.injEq, true_and]; first | exact k | simpa using k)
  · have k := rot_key x 25 7 rfl
    have e1 : (min ((7 : Int)).toNat 32 : Nat) = 7 := rfl
    have e2 : IntKind.u64.wrap (32 - 7) = 25 := by decide
    have e3 : (min ((25 : Int)).toNat 32 : Nat) = 25 := rfl
    simp [Tryd.f98, m_25, u32b, e1, e2, e3, -Int.reducePow]
    exact end_is (.inr rfl) (by simp; rfl) rfl (by simp only [resOf_one, AV.int.injEq, true_and]; first | exact k | simpa using k)
theorem rotl_call {x : W32} {n : Nat} (h : n ∈ rrs) {d : Option Nat} {st : ASt} : callV G cl d (.fn (.func 98) [] []) [.int .u32 (wN x), .int .i64 (-(n : Int))] st = some (.val (.int .u32 (wN (rr x n))) st) := callV_ret E98 (by decide) ext98 rfl rfl (rotl_eq x n h) rfl
set_option maxHeartbeats 8000000 in
theorem right_eq (x : W32) (n : Nat) (h : n ∈ rrs) : cl 92 [.int .u32 (wN x), .int .i64 n] [] = some (.ret (.int .u32 (wN (rr x n))), []) := by
  have hc := fun d st => rotl_call (x := x) h (d := d) (st := st)
  have hn : n < 33 := by simp only [rrs, List.mem_cons, List.not_mem_nil, or_false] at h; omega
  have hw : IntKind.i64.wrap (0 - (n : Int)) = -(n : Int) := by rw [i64_wrap (by omega) (by omega)]; omega
  have hw' : IntKind.i64.wrap (-(n : Int)) = -(n : Int) := by rw [i64_wrap (by omega) (by omega)]
  refine fn_intro Tryd.func92 rfl (by simp) (by decide) rfl ?_
  simp [Tryd.f92, hw, hw', hc]
  exact end_is (.inr rfl) (by simp; rfl) rfl rfl
theorem right_call {x : W32} {n : Nat} (h : n ∈ rrs) {d : Option Nat} {st : ASt} : callV G cl d (.fn (.func 92) [] []) [.int .u32 (wN x), .int .i64 n] st = some (.val (.int .u32 (wN (rr x n))) st) := callV_ret E92 (by decide) ext92 rfl rfl (right_eq x n h) rfl
end Go.Proofs.YteibklnligmanaaDoor


/- SHA-256: a block. -/
namespace Go.Proofs.YteibklnligmanaaDoor
open Go Abs
set_option linter.unusedSimpArgs false
set_option linter.unusedVariables false
attribute [local simp] canonK canonAll canonSlot canonCell canonBox ownStep restrictTo pureCells pureRows reachL AObj.names List.range_succ
@[simp] theorem aop_copy {G : Cfg} {call : CallFn} {d t p af g st x y} {t1 t2 : TypeId} : aop G call ⟨d, .call ⟨.builtin .copy, #[x, y], #[t1, t2]⟩, t, p, af, g⟩ st = (copyA G t1 (st.ev x) (st.ev y) st).map fun q => .val (.int .i64 q.1) q.2 := rfl
/-- Words as cells. -/
def wsV (l : List W32) : List AV := l.map wV
@[simp] theorem wsV_length {l : List W32} : (wsV l).length = l.length := by simp [wsV]
theorem wsV_get {l : List W32} {i : Nat} {x : W32} (h : l[i]? = some x) : (wsV l)[i]? = some (.int .u32 (wN x)) := by simp [wsV, h, wV]
theorem wsV_put {l : List W32} {i : Nat} (x : W32) (h : i < l.length) : (wsV l).take i ++ .int .u32 (wN x) :: (wsV l).drop (i + 1) = wsV (l.set i x) := by
  unfold wsV
  rw [List.map_set, List.set_eq_take_append_cons_drop, if_pos (by simpa using h)]
  simp [wV]
theorem namesL_ws : ∀ {l : List W32}, AV.namesL (wsV l) = []
  | [] => rfl
  | x :: l => by have := namesL_ws (l := l); simp [wsV, wV] at this ⊢; exact this
theorem wsV_rvL {hp : Heap} : ∀ {l : List W32}, AV.rvL hp (wsV l) = wsV l
  | [] => rfl
  | x :: l => by have := wsV_rvL (hp := hp) (l := l); simp [wsV, wV] at this ⊢; exact this
theorem wsV_renL {m} : ∀ {l : List W32}, AV.renL m (wsV l) = wsV l
  | [] => rfl
  | x :: l => by have := wsV_renL (m := m) (l := l); simp [wsV, wV] at this ⊢; exact this
theorem wsV_rowsL : ∀ {l : List W32}, AV.rowsL (wsV l) = []
  | [] => rfl
  | x :: l => by have := wsV_rowsL (l := l); simp [wsV, wV] at this ⊢; exact this
theorem wsV_pc {hp : Heap} {own : List Nat} : ∀ {l : List W32} {j : Nat}, pureCells hp own (wsV l) j = wsV l
  | [], _ => rfl
  | x :: l, j => by
    have := wsV_pc (hp := hp) (own := own) (l := l) (j := j + 1)
    simp only [wsV, List.map_cons, pureCells, wV] at this ⊢
    rw [this]; split <;> rfl
theorem wsV_pr {own : List Nat} : ∀ {l : List W32} {j : Nat}, pureRows own (wsV l) j = []
  | [], _ => rfl
  | x :: l, j => by
    have := wsV_pr (own := own) (l := l) (j := j + 1)
    simp only [wsV, List.map_cons, pureRows, wV] at this ⊢
    rw [this]; split <;> rfl
/-- Eight words. -/
structure V8 where
  a : W32
  b : W32
  c : W32
  d : W32
  e : W32
  f : W32
  g : W32
  h : W32
def V8.v (x : V8) : List AV := [.int .u32 (wN x.a), .int .u32 (wN x.b), .int .u32 (wN x.c), .int .u32 (wN x.d), .int .u32 (wN x.e), .int .u32 (wN x.f), .int .u32 (wN x.g), .int .u32 (wN x.h)]
def zw8 : List AV := List.replicate 8 (.int .u32 0)
/-- The word that four bytes are. -/
def wordB (s : List UInt8) (i : Nat) : W32 := BitVec.ofInt 32 (readU ((s.take (4 * i + 4)).drop (4 * i)))
def fillW (s : List UInt8) : Nat → List W32
  | 0 => List.replicate 16 0
  | i + 1 => (fillW s i).set i (wordB s i)
theorem fillW_len (s : List UInt8) : ∀ i, (fillW s i).length = 16
  | 0 => by simp [fillW]
  | i + 1 => by simp [fillW, fillW_len s i]
def stF (h : V8) (s : List UInt8) (i : Nat) : ASt := ⟨[(1, .str s), (2, .ptr 1002 0 0), (4, .ptr 1004 0 0), (5, .ptr 1005 0 0), (17, .int .i64 i)], [(1002, .box 120 (.agg h.v)), (1004, .box 120 (.agg zw8)), (1005, .box 137 (.agg (wsV (fillW s i))))]⟩
set_option maxHeartbeats 16000000 in
set_option maxRecDepth 100000 in
theorem fill_round (h : V8) (s : List UInt8) (hs : s.length = 64) (i : Nat) (hi : i < 16) : rX 78 (lc Tryd.f78 0) (codeX G cl lp 78 (lc Tryd.f78 0) (stF h s i)) = some (.normal, stF h s (i + 1)) := by
  have hlen := fillW_len s i
  obtain ⟨p, hp⟩ : ∃ p, p = 4 * i := ⟨_, rfl⟩
  obtain ⟨q, hq⟩ : ∃ q, q = 4 * i + 4 := ⟨_, rfl⟩
  obtain ⟨n, hn⟩ : ∃ n, n = i + 1 := ⟨_, rfl⟩
  have h1 : (i : Int) < 16 := by omega
  have h15 : i ≤ 15 := by omega
  have hw : IntKind.i64.wrap ((i : Int) + 1) = (n : Int) := by rw [i64_wrap (by omega) (by omega)]; omega
  have hw4 : IntKind.i64.wrap (4 * (i : Int)) = (p : Int) := by rw [i64_wrap (by omega) (by omega)]; omega
  have hw5 : IntKind.i64.wrap ((p : Int) + 4) = (q : Int) := by rw [i64_wrap (by omega) (by omega)]; omega
  have h2 : p ≤ q ∧ q ≤ s.length := by omega
  have hr := fun d st => readBig_call (s := (s.take q).drop p) (by simp; omega) (d := d) (st := st)
  have hc : IntKind.u32.wrap (readU ((s.take q).drop p)) = wN (wordB s i) := by
    unfold wordB wN
    rw [u32w, BitVec.toNat_ofInt, ← hq, ← hp]
    have := Int.emod_nonneg (readU ((s.take q).drop p)) (show (4294967296 : Int) ≠ 0 by omega)
    show _ = (((readU ((s.take q).drop p)) % 4294967296).toNat : Int)
    omega
  have hput := wsV_put (l := fillW s i) (i := i) (wordB s i) (by omega)
  have hnext : fillW s n = (fillW s i).set i (wordB s i) := by rw [hn, fillW]
  rw [← hn]
  unfold stF
  rw [hnext]
  generalize fillW s i = W at *
  generalize wordB s i = B at *
  generalize hX : (s.take q).drop p = X at *
  simp [lc, loopsOf, Tryd.f78, h1, h15, hw, hw4, hw5, h2, hX, hr, hc, hput, hlen, namesL_ws, wsV_rvL, wsV_renL, wsV_pc, wsV_pr, V8.v, zw8]
set_option maxHeartbeats 16000000 in
set_option maxRecDepth 100000 in
theorem fill_exit (h : V8) (s : List UInt8) : rX 78 (lc Tryd.f78 0) (codeX G cl lp 78 (lc Tryd.f78 0) (stF h s 16)) = some (.exit 0, ⟨[(1, .str s), (2, .ptr 1002 0 0), (4, .ptr 1004 0 0), (5, .ptr 1005 0 0), (17, .int .i64 16), (18, .bool false)], (stF h s 16).hp⟩) := by
  unfold stF
  simp [lc, loopsOf, Tryd.f78]
theorem fill_loop (h : V8) (s : List UInt8) (hs : s.length = 64) : ∀ (c i : Nat), i + c = 16 → lp 78 (lc Tryd.f78 0) (stF h s i) = some (.exit 0, ⟨[(1, .str s), (2, .ptr 1002 0 0), (4, .ptr 1004 0 0), (5, .ptr 1005 0 0), (17, .int .i64 16), (18, .bool false)], (stF h s 16).hp⟩) := by
  intro c
  induction c with
  | zero =>
    intro i hi
    obtain rfl : i = 16 := by omega
    exact loop_out (fill_exit h s) (by simp)
  | succ c ih => intro i hi; exact loop_next (fill_round h s hs i (by omega)) (ih (i + 1) (by omega))

/-! The rounds. -/
theorem r_2 (x : W32) (d : Option Nat) (st : ASt) : callV G cl d (.fn (.func 92) [] []) [.int .u32 (wN x), .int .i64 2] st = some (.val (.int .u32 (wN (rr x 2))) st) := right_call (n := 2) (by decide)
theorem r_6 (x : W32) (d : Option Nat) (st : ASt) : callV G cl d (.fn (.func 92) [] []) [.int .u32 (wN x), .int .i64 6] st = some (.val (.int .u32 (wN (rr x 6))) st) := right_call (n := 6) (by decide)
theorem r_7 (x : W32) (d : Option Nat) (st : ASt) : callV G cl d (.fn (.func 92) [] []) [.int .u32 (wN x), .int .i64 7] st = some (.val (.int .u32 (wN (rr x 7))) st) := right_call (n := 7) (by decide)
theorem r_11 (x : W32) (d : Option Nat) (st : ASt) : callV G cl d (.fn (.func 92) [] []) [.int .u32 (wN x), .int .i64 11] st = some (.val (.int .u32 (wN (rr x 11))) st) := right_call (n := 11) (by decide)
theorem r_13 (x : W32) (d : Option Nat) (st : ASt) : callV G cl d (.fn (.func 92) [] []) [.int .u32 (wN x), .int .i64 13] st = some (.val (.int .u32 (wN (rr x 13))) st) := right_call (n := 13) (by decide)
theorem r_17 (x : W32) (d : Option Nat) (st : ASt) : callV G cl d (.fn (.func 92) [] []) [.int .u32 (wN x), .int .i64 17] st = some (.val (.int .u32 (wN (rr x 17))) st) := right_call (n := 17) (by decide)
theorem r_18 (x : W32) (d : Option Nat) (st : ASt) : callV G cl d (.fn (.func 92) [] []) [.int .u32 (wN x), .int .i64 18] st = some (.val (.int .u32 (wN (rr x 18))) st) := right_call (n := 18) (by decide)
theorem r_19 (x : W32) (d : Option Nat) (st : ASt) : callV G cl d (.fn (.func 92) [] []) [.int .u32 (wN x), .int .i64 19] st = some (.val (.int .u32 (wN (rr x 19))) st) := right_call (n := 19) (by decide)
theorem r_22 (x : W32) (d : Option Nat) (st : ASt) : callV G cl d (.fn (.func 92) [] []) [.int .u32 (wN x), .int .i64 22] st = some (.val (.int .u32 (wN (rr x 22))) st) := right_call (n := 22) (by decide)
theorem r_25 (x : W32) (d : Option Nat) (st : ASt) : callV G cl d (.fn (.func 92) [] []) [.int .u32 (wN x), .int .i64 25] st = some (.val (.int .u32 (wN (rr x 25))) st) := right_call (n := 25) (by decide)
theorem arr_ix {P : Program} {t e : TypeId} {m : Nat} {k : IntKind} {cs : List AV} {i : Nat} {v : AV} (hu : P.underlying t = some (.array m e)) (hc : P.cellsOf e = 1) (h2 : (P.underlying e).isSome = true) (hag : isAggT P e = false) (hi : i < m) (hv : cs[i]? = some v) : indexv P t (.agg cs) (.int k i) = some v := by
  have h0 : (0 : Int) ≤ i ∧ (i : Int) < m := by omega
  simp only [indexv, hu, if_pos h0, partT, hc, h2, hag, partA]
  simpa using hv
def sg0 (x : W32) : W32 := rr x 7 ^^^ rr x 18 ^^^ x >>> 3
def sg1 (x : W32) : W32 := rr x 17 ^^^ rr x 19 ^^^ x >>> 10
def wd (w : List W32) (i : Nat) : W32 := (w[i % 16]?).getD 0
/-- The words behind a round's beginning. -/
def nextW (w : List W32) (i : Nat) : List W32 := if i < 16 then w else w.set (i % 16) (wd w i + sg0 (wd w (i + 1)) + wd w (i + 9) + sg1 (wd w (i + 14)))
def chB (e f g : W32) : W32 := e &&& f ||| ~~~e &&& g
def majB (a b c : W32) : W32 := a &&& b ||| a &&& c ||| b &&& c
def bs1 (e : W32) : W32 := rr e 6 ^^^ rr e 11 ^^^ rr e 25
def bs0 (a : W32) : W32 := rr a 2 ^^^ rr a 13 ^^^ rr a 22
def rnd (v : V8) (k w : W32) : V8 :=
  let t := v.h + k + w + bs1 v.e + chB v.e v.f v.g
  ⟨t + (bs0 v.a + majB v.a v.b v.c), v.a, v.b, v.c, v.d + t, v.e, v.f, v.g⟩
def ksL : List W32 := [1116352408, 1899447441, 3049323471, 3921009573, 961987163, 1508970993, 2453635748, 2870763221, 3624381080, 310598401, 607225278, 1426881987, 1925078388, 2162078206, 2614888103, 3248222580, 3835390401, 4022224774, 264347078, 604807628, 770255983, 1249150122, 1555081692, 1996064986, 2554220882, 2821834349, 2952996808, 3210313671, 3336571891, 3584528711, 113926993, 338241895, 666307205, 773529912, 1294757372, 1396182291, 1695183700, 1986661051, 2177026350, 2456956037, 2730485921, 2820302411, 3259730800, 3345764771, 3516065817, 3600352804, 4094571909, 275423344, 430227734, 506948616, 659060556, 883997877, 958139571, 1322822218, 1537002063, 1747873779, 1955562222, 2024104815, 2227730452, 2361852424, 2428436474, 2756734187, 3204031479, 3329325298]
def ksA : AV := .agg (wsV ksL)
def stR (h v : V8) (w : List W32) (i : Nat) : ASt := ⟨[(2, .ptr 1002 0 0), (4, .ptr 1004 0 0), (5, .ptr 1005 0 0), (7, .ptr 1007 0 0), (33, ksA), (34, .int .i64 i)], [(1002, .box 120 (.agg h.v)), (1004, .box 120 (.agg zw8)), (1005, .box 137 (.agg (wsV w))), (1007, .box 120 (.agg v.v))]⟩
set_option maxHeartbeats 64000000 in
set_option maxRecDepth 100000 in
theorem rnd_small (h v : V8) (w : List W32) (hw16 : w.length = 16) (i : Nat) (hi : i < 16) (k : W32) (hk : ksL[i]? = some k) : rX 78 (lc Tryd.f78 1) (codeX G cl lp 78 (lc Tryd.f78 1) (stR h v w i)) = some (.normal, stR h (rnd v k (wd w i)) w (i + 1)) := by
  obtain ⟨n, hn⟩ : ∃ n, n = i + 1 := ⟨_, rfl⟩
  have h1 : (i : Int) < 64 := by omega
  have h2 : ¬ (16 : Int) ≤ i := by omega
  have h16 : (i : Int) < 16 := by omega
  have h15 : i ≤ 15 := by omega
  have hw : IntKind.i64.wrap ((i : Int) + 1) = (n : Int) := by rw [i64_wrap (by omega) (by omega)]; omega
  have hm : (i : Int).tmod 16 = (i : Int) := by rw [Int.tmod_eq_emod_of_nonneg (by omega)]; omega
  have hx : (wsV w)[i]? = some (.int .u32 (wN (wd w i))) := by
    have : w[i]? = some (wd w i) := by unfold wd; rw [Nat.mod_eq_of_lt hi, List.getElem?_eq_getElem (by omega)]; rfl
    exact wsV_get this
  have hkk := wsV_get hk
  have hix := arr_ix (P := Tryd.prog) (t := 138) (k := .i64) Tryd.underlying138 (by kernel_rfl) (by simp) (by simp) (show i < 64 by omega) hkk
  rw [← hn]
  unfold stR ksA
  generalize wd w i = z at *
  obtain ⟨a, b, c, d, e, f, g, hh⟩ := v
  have hsn : ¬ 115 ∈ snapT := by decide
  have hkl : ksL.length = 64 := rfl
  generalize ksL = K at *
  simp [lc, loopsOf, Tryd.f78, h1, h2, h16, h15, hw, hm, hx, hix, hkl, r_2, r_6, r_11, r_13, r_22, r_25, n_add, n_add', n_xor, n_and, n_or, n_not, hsn, hw16, namesL_ws, wsV_rvL, wsV_renL, wsV_rowsL, wsV_pc, wsV_pr, V8.v, zw8, rnd, chB, majB, bs1, bs0]
theorem wd_get {w : List W32} (hw16 : w.length = 16) (j : Nat) : w[j % 16]? = some (wd w j) := by
  have : j % 16 < w.length := by omega
  unfold wd; rw [List.getElem?_eq_getElem this]; rfl
theorem tm16 {j : Nat} : ((j : Nat) : Int).tmod 16 = ((j % 16 : Nat) : Int) := by
  rw [Int.tmod_eq_emod_of_nonneg (by omega)]; omega
set_option maxHeartbeats 64000000 in
set_option maxRecDepth 100000 in
theorem rnd_big (h v : V8) (w : List W32) (hw16 : w.length = 16) (i : Nat) (hi : i < 64) (hlo : 16 ≤ i) (k : W32) (hk : ksL[i]? = some k) : rX 78 (lc Tryd.f78 1) (codeX G cl lp 78 (lc Tryd.f78 1) (stR h v w i)) = some (.normal, stR h (rnd v k (wd (nextW w i) i)) (nextW w i) (i + 1)) := by
  obtain ⟨n, hn⟩ : ∃ n, n = i + 1 := ⟨_, rfl⟩
  have h1 : (i : Int) < 64 := by omega
  have h2 : (16 : Int) ≤ i := by omega
  have h2' : 16 ≤ i := hlo
  have hw : IntKind.i64.wrap ((i : Int) + 1) = ((i + 1 : Nat) : Int) := by rw [i64_wrap (by omega) (by omega)]; omega
  have hw9 : IntKind.i64.wrap ((i : Int) + 9) = ((i + 9 : Nat) : Int) := by rw [i64_wrap (by omega) (by omega)]; omega
  have hw14 : IntKind.i64.wrap ((i : Int) + 14) = ((i + 14 : Nat) : Int) := by rw [i64_wrap (by omega) (by omega)]; omega
  have hm : (i : Int).tmod 16 = ((i % 16 : Nat) : Int) := tm16
  have hm1 : ((i + 1 : Nat) : Int).tmod 16 = (((i + 1) % 16 : Nat) : Int) := tm16
  have hm9 : ((i + 9 : Nat) : Int).tmod 16 = (((i + 9) % 16 : Nat) : Int) := tm16
  have hm14 : ((i + 14 : Nat) : Int).tmod 16 = (((i + 14) % 16 : Nat) : Int) := tm16
  have x0 := wsV_get (wd_get hw16 i)
  have x1 := wsV_get (wd_get hw16 (i + 1))
  have x9 := wsV_get (wd_get hw16 (i + 9))
  have x14 := wsV_get (wd_get hw16 (i + 14))
  have l0 : i % 16 < 16 := Nat.mod_lt _ (by omega)
  have l1 : (i + 1) % 16 < 16 := Nat.mod_lt _ (by omega)
  have l9 : (i + 9) % 16 < 16 := Nat.mod_lt _ (by omega)
  have l14 : (i + 14) % 16 < 16 := Nat.mod_lt _ (by omega)
  have hkk := wsV_get hk
  have hix := arr_ix (P := Tryd.prog) (t := 138) (k := .i64) Tryd.underlying138 (by kernel_rfl) (by simp) (by simp) hi hkk
  have e1 : nextW w i = w.set (i % 16) (wd w i + sg0 (wd w (i + 1)) + wd w (i + 9) + sg1 (wd w (i + 14))) := by unfold nextW; rw [if_neg (by omega)]
  have e2 : wd (nextW w i) i = wd w i + sg0 (wd w (i + 1)) + wd w (i + 9) + sg1 (wd w (i + 14)) := by
    rw [e1]; unfold wd; rw [List.getElem?_set_self (by omega)]; rfl
  have hput : ∀ x : W32, (wsV w).take (i % 16) ++ .int .u32 (wN x) :: (wsV w).drop (i % 16 + 1) = wsV (w.set (i % 16) x) := fun x => wsV_put x (by omega)
  have hput' : ∀ y x : W32, (wsV (w.set (i % 16) y)).take (i % 16) ++ .int .u32 (wN x) :: (wsV (w.set (i % 16) y)).drop (i % 16 + 1) = wsV (w.set (i % 16) x) := fun y x => by
    rw [wsV_put x (by rw [List.length_set]; omega), List.set_set]
  have hg0 : ∀ y : W32, (wsV (w.set (i % 16) y))[i % 16]? = some (.int .u32 (wN y)) := fun y => wsV_get (List.getElem?_set_self (by omega))
  have hg9 : ∀ y : W32, (wsV (w.set (i % 16) y))[(i + 9) % 16]? = some (.int .u32 (wN (wd w (i + 9)))) := fun y => wsV_get (by rw [List.getElem?_set_ne (by omega)]; exact wd_get hw16 _)
  have hlen : ∀ y : W32, (w.set (i % 16) y).length = 16 := fun y => by rw [List.length_set, hw16]
  rw [e2, e1, ← hn]
  rw [← hn] at hw hm1 x1 l1
  unfold stR ksA
  unfold sg0 sg1 at *
  generalize wd w i = z0 at *
  generalize wd w n = z1 at *
  generalize wd w (i + 9) = z9 at *
  generalize wd w (i + 14) = z14 at *
  generalize hp0 : i % 16 = p0 at *
  generalize hp1 : n % 16 = p1 at *
  generalize hp9 : (i + 9) % 16 = p9 at *
  generalize hp14 : (i + 14) % 16 = p14 at *
  generalize hn9 : i + 9 = n9 at hw9 hm9
  generalize hn14 : i + 14 = n14 at hw14 hm14
  obtain ⟨a, b, c, d, e, f, g, hh⟩ := v
  have hsn : ¬ 115 ∈ snapT := by decide
  have hkl : ksL.length = 64 := rfl
  generalize ksL = K at *
  have f0 : (p0 : Int) < 16 := by omega
  have f1 : (p1 : Int) < 16 := by omega
  have f9 : (p9 : Int) < 16 := by omega
  have f14 : (p14 : Int) < 16 := by omega
  have g0 : p0 ≤ 15 := by omega
  have y0 := (List.getElem?_eq_some_iff.1 x0).2
  have y1 := (List.getElem?_eq_some_iff.1 x1).2
  have y9 := (List.getElem?_eq_some_iff.1 x9).2
  have y14 := (List.getElem?_eq_some_iff.1 x14).2
  have k0 := fun y => (List.getElem?_eq_some_iff.1 (hg0 y)).2
  have k9 := fun y => (List.getElem?_eq_some_iff.1 (hg9 y)).2
  have b3 : (min 3 IntKind.u32.bits : Nat) = 3 := rfl
  have b10 : (min 10 IntKind.u32.bits : Nat) = 10 := rfl
  have s3 (x : W32) : (wN x).fdiv 8 = wN (x >>> 3) := n_shr x 3
  have s10 (x : W32) : (wN x).fdiv 1024 = wN (x >>> 10) := n_shr x 10
  simp [lc, loopsOf, Tryd.f78, h1, h2, h2', f0, f1, f9, f14, g0, l0, l1, l9, l14, hw, hw9, hw14, hm, hm1, hm9, hm14, x0, x1, x9, x14, y0, y1, y9, y14, hg0, hg9, k0, k9, hix, hkl, hput, hput', hlen, b3, b10, s3, s10, r_2, r_6, r_11, r_13, r_22, r_25, r_7, r_18, r_17, r_19, n_add, n_add', n_xor, n_and, n_or, n_not, hsn, hw16, namesL_ws, wsV_rvL, wsV_renL, wsV_rowsL, wsV_pc, wsV_pr, V8.v, zw8, rnd, chB, majB, bs1, bs0]
end Go.Proofs.YteibklnligmanaaDoor


/- SHA-256: a block, from its beginning to its end. -/
namespace Go.Proofs.YteibklnligmanaaDoor
open Go Abs
set_option linter.unusedSimpArgs false
set_option linter.unusedVariables false
attribute [local simp] canonK canonAll canonSlot canonCell canonBox ownStep restrictTo pureCells pureRows reachL AObj.names List.range_succ
def kAt (i : Nat) : W32 := (ksL[i]?).getD 0
theorem kAt_get {i : Nat} (h : i < 64) : ksL[i]? = some (kAt i) := by
  have : i < ksL.length := h
  unfold kAt; rw [List.getElem?_eq_getElem this]; rfl
theorem nextW_len {w : List W32} {i : Nat} (h : w.length = 16) : (nextW w i).length = 16 := by
  unfold nextW; split <;> simp [h]
theorem rnd_any (h v : V8) (w : List W32) (hw16 : w.length = 16) (i : Nat) (hi : i < 64) : rX 78 (lc Tryd.f78 1) (codeX G cl lp 78 (lc Tryd.f78 1) (stR h v w i)) = some (.normal, stR h (rnd v (kAt i) (wd (nextW w i) i)) (nextW w i) (i + 1)) := by
  by_cases hlo : 16 ≤ i
  · exact rnd_big h v w hw16 i hi hlo _ (kAt_get hi)
  · have e : nextW w i = w := by unfold nextW; rw [if_pos (by omega)]
    rw [e]
    exact rnd_small h v w hw16 i (by omega) _ (kAt_get hi)
/-- Rounds, one after another. -/
def rounds : Nat → Nat → V8 → List W32 → V8 × List W32
  | 0, _, v, w => (v, w)
  | c + 1, i, v, w => rounds c (i + 1) (rnd v (kAt i) (wd (nextW w i) i)) (nextW w i)
def stR' (h v : V8) (w : List W32) : ASt := ⟨[(2, .ptr 1002 0 0), (4, .ptr 1004 0 0), (5, .ptr 1005 0 0), (7, .ptr 1007 0 0), (33, ksA), (34, .int .i64 64), (35, .bool false)], (stR h v w 64).hp⟩
set_option maxHeartbeats 16000000 in
set_option maxRecDepth 100000 in
theorem rnd_exit (h v : V8) (w : List W32) : rX 78 (lc Tryd.f78 1) (codeX G cl lp 78 (lc Tryd.f78 1) (stR h v w 64)) = some (.exit 2, stR' h v w) := by
  unfold stR' stR
  simp [lc, loopsOf, Tryd.f78]
theorem rnd_loop (h : V8) : ∀ (c i : Nat) (v : V8) (w : List W32), w.length = 16 → i + c = 64 → lp 78 (lc Tryd.f78 1) (stR h v w i) = some (.exit 2, stR' h (rounds c i v w).1 (rounds c i v w).2) := by
  intro c
  induction c with
  | zero =>
    intro i v w hw hi
    obtain rfl : i = 64 := by omega
    exact loop_out (rnd_exit h v w) (by simp)
  | succ c ih => intro i v w hw hi; exact loop_next (rnd_any h v w hw i (by omega)) (ih (i + 1) _ _ (nextW_len hw) (by omega))
/-! The sums at the end. -/
def V8.l (x : V8) : List W32 := [x.a, x.b, x.c, x.d, x.e, x.f, x.g, x.h]
def addN (h l : List W32) : Nat → List W32
  | 0 => l
  | i + 1 => (addN h l i).set i (((addN h l i)[i]?).getD 0 + (h[i]?).getD 0)
theorem addN_len {h l : List W32} : ∀ i, (addN h l i).length = l.length
  | 0 => rfl
  | i + 1 => by simp [addN, addN_len i]
def stE (h : List W32) (l : List W32) (i : Nat) : ASt := ⟨[(2, .ptr 1002 0 0), (4, .ptr 1004 0 0), (7, .ptr 1007 0 0), (162, .int .i64 i)], [(1002, .box 120 (.agg (wsV h))), (1004, .box 120 (.agg zw8)), (1007, .box 120 (.agg (wsV l)))]⟩
set_option maxHeartbeats 16000000 in
set_option maxRecDepth 100000 in
theorem sum_round (h l : List W32) (hh : h.length = 8) (hl : l.length = 8) (i : Nat) (hi : i < 8) : rX 78 (lc Tryd.f78 2) (codeX G cl lp 78 (lc Tryd.f78 2) (stE h (addN h l i) i)) = some (.normal, stE h (addN h l (i + 1)) (i + 1)) := by
  have hlen : (addN h l i).length = 8 := by rw [addN_len, hl]
  obtain ⟨n, hn⟩ : ∃ n, n = i + 1 := ⟨_, rfl⟩
  have h1 : (i : Int) < 8 := by omega
  have h7 : i ≤ 7 := by omega
  have hw : IntKind.i64.wrap ((i : Int) + 1) = (n : Int) := by rw [i64_wrap (by omega) (by omega)]; omega
  have hx : (wsV h)[i]? = some (.int .u32 (wN ((h[i]?).getD 0))) := wsV_get (by rw [List.getElem?_eq_getElem (by omega)]; rfl)
  have hy : (wsV (addN h l i))[i]? = some (.int .u32 (wN (((addN h l i)[i]?).getD 0))) := wsV_get (by rw [List.getElem?_eq_getElem (by omega)]; rfl)
  have hx' := (List.getElem?_eq_some_iff.1 hx).2
  have hy' := (List.getElem?_eq_some_iff.1 hy).2
  have hput := wsV_put (l := addN h l i) (i := i) (((addN h l i)[i]?).getD 0 + (h[i]?).getD 0) (by omega)
  have hnext : addN h l n = (addN h l i).set i (((addN h l i)[i]?).getD 0 + (h[i]?).getD 0) := by rw [hn, addN]
  rw [← hn]
  unfold stE
  rw [hnext]
  generalize ((addN h l i)[i]?).getD 0 = A at *
  generalize (h[i]?).getD 0 = B at *
  generalize addN h l i = W at *
  simp [lc, loopsOf, Tryd.f78, h1, h7, hi, hw, hx, hy, hx', hy', hput, hlen, hh, n_add, n_add', namesL_ws, wsV_rvL, wsV_renL, wsV_rowsL, wsV_pc, wsV_pr, zw8]
set_option maxHeartbeats 16000000 in
set_option maxRecDepth 100000 in
theorem sum_exit (h l : List W32) : rX 78 (lc Tryd.f78 2) (codeX G cl lp 78 (lc Tryd.f78 2) (stE h l 8)) = some (.exit 4, ⟨[(2, .ptr 1002 0 0), (4, .ptr 1004 0 0), (7, .ptr 1007 0 0), (162, .int .i64 8), (163, .bool false)], (stE h l 8).hp⟩) := by
  unfold stE
  simp [lc, loopsOf, Tryd.f78]
theorem sum_loop (h l : List W32) (hh : h.length = 8) (hl : l.length = 8) : ∀ (c i : Nat), i + c = 8 → lp 78 (lc Tryd.f78 2) (stE h (addN h l i) i) = some (.exit 4, ⟨[(2, .ptr 1002 0 0), (4, .ptr 1004 0 0), (7, .ptr 1007 0 0), (162, .int .i64 8), (163, .bool false)], (stE h (addN h l 8) 8).hp⟩) := by
  intro c
  induction c with
  | zero =>
    intro i hi
    obtain rfl : i = 8 := by omega
    exact loop_out (sum_exit h _) (by simp)
  | succ c ih => intro i hi; exact loop_next (sum_round h l hh hl i (by omega)) (ih (i + 1) (by omega))
/-- The words behind a block. -/
def stepS (h : V8) (s : List UInt8) : V8 :=
  let v := (rounds 64 0 h (fillW s 16)).1
  ⟨v.a + h.a, v.b + h.b, v.c + h.c, v.d + h.d, v.e + h.e, v.f + h.f, v.g + h.g, v.h + h.h⟩
theorem stepS_v (h : V8) (s : List UInt8) : (stepS h s).l = addN h.l (rounds 64 0 h (fillW s 16)).1.l 8 := by
  simp [stepS, addN, V8.l]
theorem ev_g2 (st : ASt) : st.ev (.global 2) = .ep ksA 0 := rfl
set_option maxHeartbeats 16000000 in
set_option maxRecDepth 100000 in
theorem step_eq (h : V8) (s : List UInt8) (hs : s.length = 64) : cl 78 [.agg h.v, .str s] [] = some (.ret (.agg (stepS h s).v), []) := by
  refine fn_intro Tryd.func78 rfl (by simp) (by decide) rfl ?_
  have k0 := fill_loop h s hs 16 0 rfl
  have z16 : wsV (fillW s 0) = List.replicate 16 (.int .u32 0) := rfl
  have hF := fillW_len s 16
  have hS := stepS_v h s
  generalize stepS h s = Z at *
  have e0 : (stF h s 16).hp = [(1002, .box 120 (.agg h.v)), (1004, .box 120 (.agg zw8)), (1005, .box 137 (.agg (wsV (fillW s 16))))] := rfl
  rw [e0] at k0
  generalize fillW s 16 = F at *
  have k1 := rnd_loop h 64 0 h F hF rfl
  unfold stR' at k1
  generalize rounds 64 0 h F = R at *
  obtain ⟨⟨a', b', c', d', e', f', g', h'⟩, w'⟩ := R
  have k2 := sum_loop h.l (V8.l ⟨a', b', c', d', e', f', g', h'⟩) rfl rfl 8 0 rfl
  obtain ⟨a, b, c, d, e, f, g, hh⟩ := h
  obtain ⟨A, B, C, D, E, F', G', H⟩ := Z
  unfold stE at k2
  rw [← hS] at k2
  simp [lc, loopsOf, Tryd.f78, stF, z16, V8.v, zw8] at k0
  simp [lc, loopsOf, Tryd.f78, stR, V8.v, V8.l, zw8] at k1
  simp [lc, loopsOf, Tryd.f78, V8.v, V8.l, addN, wsV, wV, zw8] at k2
  have g2 := ev_g2
  have hkl : ksL.length = 64 := rfl
  unfold ksA at k1 g2
  generalize ksL = K at *
  have hkt : (wsV K).take 64 = wsV K := List.take_of_length_le (by rw [wsV_length]; omega)
  simp [Tryd.f78, V8.v, k0, g2, hkl, hkt, k1, k2, namesL_ws, wsV_rvL, wsV_renL, wsV_rowsL, wsV_pc, wsV_pr]
  exact end_is (.inr rfl) (by first | rfl | (simp; rfl)) rfl rfl
end Go.Proofs.YteibklnligmanaaDoor


/- The wide mode: whatever the shelf tells of calls may be used. -/
namespace Go.Proofs.YteibklnligmanaaDoor
open Go Abs
set_option linter.unusedSimpArgs false
set_option linter.unusedVariables false
noncomputable def GW : Cfg := { G with wd := true }
@[simp] theorem GW_P : GW.P = Tryd.prog := rfl
@[simp] theorem GW_wd : GW.wd = true := rfl
@[simp] theorem GW_E (g : FuncId) : GW.E g = G.E g := rfl
@[simp] theorem GW_keep (g : FuncId) (r : Nat) : GW.keep g r = G.keep g r := rfl
@[simp] theorem GW_plan (g : FuncId) (r : Nat) : GW.plan g r = G.plan g r := rfl
@[simp] theorem GW_live (g : FuncId) (r : Nat) : GW.live g r = G.live g r := rfl
@[simp] theorem GW_own (g : FuncId) : GW.retOwn g = G.retOwn g := rfl
@[simp] theorem GW_dfr (g : FuncId) : GW.dfr g = G.dfr g := rfl
@[simp] theorem GW_ext (g : FuncId) : GW.ext g = G.ext g := rfl
@[simp] theorem GW_ntm (g : FuncId) : GW.ntm g = G.ntm g := rfl
@[simp] theorem GW_inplace (g : FuncId) (i : Nat) : GW.inplace g i = G.inplace g i := rfl
@[simp] theorem GW_roundOK (r : LRec) : GW.roundOK r = G.roundOK r := rfl
theorem all_okW : ((List.range 126).all fun g => !GW.E g || fnOK GW g) = true := by kernel_rfl
theorem extOKW : ExtOK GW := by
  intro g p hp args v hv S ρ w vs hl hvs
  have hp : (if cmpT.contains g then some cmpStr else if escT.contains g then some idP else if ixbT.contains g then some ixbP else none) = some p := hp
  split at hp
  · rename_i hc
    simp [cmpT] at hc
  · split at hp
    · rename_i hc
      cases hp
      have hg : g = 66 := by simpa [escT] using hc
      subst hg
      exact idP_ok Tryd.func66 (by kernel_rfl) (by kernel_rfl) (by kernel_rfl) (by kernel_rfl) hv hl hvs
    · split at hp
      · rename_i hc
        simp [ixbT] at hc
      · cases hp
theorem EW_lt (g : FuncId) (h : GW.E g = true) : g < 126 := by
  have h : (hasBody[g]?).getD false = true := h
  rcases Nat.lt_or_ge g 126 with h1 | h1
  · exact h1
  · exfalso
    have hl : hasBody.length = 126 := by kernel_rfl
    rw [List.getElem?_eq_none_iff.2 (by omega)] at h
    cases h
theorem plansB_GW (f : FuncId) (c : Code) : plansB G0 f c = plansB GW f c := by
  induction c with
  | seq a b iha ihb => simp only [plansB, iha, ihb]
  | cond c a b iha ihb => simp only [plansB, iha, ihb]
  | block id b ih => simp only [plansB, ih]
  | scope b ih => simp only [plansB, ih]
  | loop b ih => simp only [plansB, ih]
  | rangeFunc g ps a b iha ihb => simp only [plansB, iha, ihb]
  | _ => rfl
theorem rOK_GW (r : LRec) : rOK G0 r = rOK GW r := by unfold rOK; simp only [plansB_GW]
theorem ext_ltW : ∀ g p, GW.ext g = some p → g < NF := by
  intro g p hp
  have hp : (if cmpT.contains g then some cmpStr else if escT.contains g then some idP else if ixbT.contains g then some ixbP else none) = some p := hp
  split at hp
  · rename_i hc
    simp [cmpT] at hc
  · split at hp
    · rename_i hc
      have hg : g = 66 := by simpa [escT] using hc
      subst hg; decide
    · split at hp
      · rename_i hc
        simp [ixbT] at hc
      · cases hp
theorem GSW : GSound GW := gsound 126 EW_lt all_okW follows (fun r h => by rw [← rOK_GW]; exact h) extOKW (by kernel_rfl) ext_ltW
end Go.Proofs.YteibklnligmanaaDoor


/- Methods of interface values: whom a name leads to, told by the method's row. -/
namespace Go.Proofs.YteibklnligmanaaDoor.Abs
open Go Go.RowKit
set_option linter.unusedSimpArgs false
set_option linter.unusedVariables false

/-- A method's row: whom it leads to, and whether it wants a pointer. -/
def methRow (P : Program) (t : TypeId) (n : String) : Option (FuncId × Bool) :=
  ((P.info? t).bind fun i => i.methods.find? (·.name == n)).bind fun m => if m.path = #[] then m.func else none

theorem methRow_run {P : Program} {t : TypeId} {n : String} {f : FuncId} {pt : Bool} (h : methRow P t n = some (f, pt)) (k : Nat) (v : Value) (w : World) :
    (method (k + 1) t v n).run P w = (receiverAt t (.val v) pt (some ((n.splitOn ".").getLastD n)) >>= fun r => pure (f, r)).run P w := by
  unfold methRow at h
  cases hi : P.info? t with
  | none => rw [hi] at h; cases h
  | some i =>
    rw [hi] at h
    simp only [Option.bind_some] at h
    cases hm : i.methods.find? (·.name == n) with
    | none => rw [hm] at h; cases h
    | some m =>
      rw [hm] at h
      simp only [Option.bind_some] at h
      split at h
      · rename_i hp
        simp only [method, typeInfo, Sem.run_bind, run_program, Result.andThen_ok, hi, Sem.run_pure, hm, hp, h, follow, bind_pure_comp]
        simp
      · cases h
theorem underlying_some {P : Program} {t : TypeId} {d : TypeDesc} (h : P.underlying t = some d) (w : World) : (underlying t).run P w = .ok d w := by
  simp [underlying, run_program, h]
theorem methSelf {P : Program} {t : TypeId} {n : String} {f : FuncId} (h : methRow P t n = some (f, true)) (hu : (P.underlying t).any (fun d => match d with | .pointer _ => true | _ => false) = true) (k : Nat) (v : Value) (w : World) :
    (method (k + 1) t v n).run P w = .ok (f, v) w := by
  rw [methRow_run h]
  cases hd : P.underlying t with
  | none => rw [hd] at hu; cases hu
  | some d =>
    rw [hd] at hu
    cases d with
    | pointer e => simp [receiverAt, underlying_some hd, Place.get]
    | _ => cases hu
theorem methVal {P : Program} {t : TypeId} {n : String} {f : FuncId} (h : methRow P t n = some (f, false)) (hu : (P.underlying t).any (fun d => match d with | .pointer _ => false | _ => true) = true) (k : Nat) (v : Value) (w : World) :
    (method (k + 1) t v n).run P w = .ok (f, v) w := by
  rw [methRow_run h]
  cases hd : P.underlying t with
  | none => rw [hd] at hu; cases hu
  | some d =>
    rw [hd] at hu
    cases d with
    | pointer e => cases hu
    | _ => simp [receiverAt, underlying_some hd, Place.get]
theorem methLoad {P : Program} {t te : TypeId} {n : String} {f : FuncId} (h : methRow P t n = some (f, false)) (hu : P.underlying t = some (.pointer te)) (k : Nat) (v u : Value) (w : World) (hl : (Instr.loadAt te v).run P w = .ok u w) :
    (method (k + 1) t v n).run P w = .ok (f, u) w := by
  rw [methRow_run h]
  have no : ∀ x : Value, (∀ a, x ≠ .pointer (some a)) → (Instr.loadAt te x).run P w ≠ .ok u w := by
    intro x hx
    unfold Instr.loadAt Instr.sureAddr
    split
    · exact absurd rfl (hx _)
    · simp [stuck]
  match v, hl with
  | .pointer (some a), hl =>
    have hc : ∀ ts t x y, Builtin.ssaWrapNilChk_ ts t #[.pointer (some a), .string x, .string y] = pure (.pointer (some a)) := fun _ _ _ _ => rfl
    have hl' : (loadVar te a).run P w = .ok u w := by simpa [Instr.loadAt, Instr.sureAddr] using hl
    simp [receiverAt, underlying_some hu, Place.get, hc, strVal, asAddr, hl']
  | .pointer none, hl => exact absurd hl (no _ (by simp))
  | .bool _, hl | .int _ _, hl | .float _ _, hl | .complex _ _ _, hl | .string _, hl | .slice _ _ _, hl | .map _, hl | .chan _, hl | .func _ _ _, hl | .nilFunc, hl | .iface _ _, hl | .nilIface, hl | .agg _, hl | .tuple _, hl => exact absurd hl (no _ (by simp))
theorem methFn {P : Program} {t : TypeId} {n : String} {f : FuncId} {pt : Bool} (h : methRow P t n = some (f, pt)) (k : Nat) (v : Value) (w w' : World) {g : FuncId} {r : Value} (hr : (method (k + 1) t v n).run P w = .ok (g, r) w') : g = f := by
  rw [methRow_run h] at hr
  simp only [Sem.run_bind] at hr
  cases hx : (receiverAt t (.val v) pt (some ((n.splitOn ".").getLastD n))).run P w with
  | ok x w1 => rw [hx] at hr; simp at hr; exact hr.1.1.symm
  | halt x w1 => rw [hx] at hr; simp at hr
theorem depth_pos (P : Program) : ∃ k, P.types.size + Made.depth = k + 1 := by
  have h : 0 < Made.depth := by decide
  exact ⟨P.types.size + (Made.depth - 1), by omega⟩
theorem methSelfD {P : Program} {t : TypeId} {n : String} {f : FuncId} (h : methRow P t n = some (f, true)) (hu : (P.underlying t).any (fun d => match d with | .pointer _ => true | _ => false) = true) (v : Value) (w : World) :
    (method (P.types.size + Made.depth) t v n).run P w = .ok (f, v) w := by
  obtain ⟨k, hk⟩ := depth_pos P; rw [hk]; exact methSelf h hu k v w
theorem methValD {P : Program} {t : TypeId} {n : String} {f : FuncId} (h : methRow P t n = some (f, false)) (hu : (P.underlying t).any (fun d => match d with | .pointer _ => false | _ => true) = true) (v : Value) (w : World) :
    (method (P.types.size + Made.depth) t v n).run P w = .ok (f, v) w := by
  obtain ⟨k, hk⟩ := depth_pos P; rw [hk]; exact methVal h hu k v w
theorem methLoadD {P : Program} {t te : TypeId} {n : String} {f : FuncId} (h : methRow P t n = some (f, false)) (hu : P.underlying t = some (.pointer te)) (v u : Value) (w : World) (hl : (Instr.loadAt te v).run P w = .ok u w) :
    (method (P.types.size + Made.depth) t v n).run P w = .ok (f, u) w := by
  obtain ⟨k, hk⟩ := depth_pos P; rw [hk]; exact methLoad h hu k v u w hl
theorem methFnD {P : Program} {t : TypeId} {n : String} {f : FuncId} {pt : Bool} (h : methRow P t n = some (f, pt)) (v : Value) (w w' : World) {g : FuncId} {r : Value} (hr : (method (P.types.size + Made.depth) t v n).run P w = .ok (g, r) w') : g = f := by
  obtain ⟨k, hk⟩ := depth_pos P; rw [hk] at hr; exact methFn h k v w w' hr
theorem mem_of_lookup {α β : Type} [BEq α] [LawfulBEq α] : ∀ {l : List (α × β)} {k : α} {v : β}, l.lookup k = some v → (k, v) ∈ l := by
  intro l
  induction l with
  | nil => intro k v h; cases h
  | cons x r ih =>
    obtain ⟨a, b⟩ := x
    intro k v h
    rw [List.lookup_cons] at h
    cases he : k == a with
    | true =>
      rw [he] at h; cases h
      have e : k = a := by simpa using he
      subst e
      simp
    | false => rw [he] at h; exact List.mem_cons_of_mem _ (ih h)
end Go.Proofs.YteibklnligmanaaDoor.Abs


/- strings.Builder's String, walked. -/
namespace Go.Proofs.YteibklnligmanaaDoor
open Go Abs Go.RowKit
set_option linter.unusedSimpArgs false
set_option linter.unusedVariables false

@[simp, go_sem] theorem FW_fn {r f} : (FW false r).fn f = (f < NF) := by simp [FW]
@[simp, go_sem] theorem FW_depth {b r} : (FW b r).depth = none := rfl
@[simp, go_sem] theorem FW_round {b r} : (FW b r).round = r := rfl
@[simp, go_sem] theorem NF_eq : NF = 126 := rfl
theorem cellsByte : Tryd.prog.cellsOf 5 = 1 := by kernel_rfl
set_option maxHeartbeats 2000000 in
set_option maxRecDepth 100000 in
theorem string_some (w : World) (b k : Nat) (l : List UInt8) (cap : Nat) (cells : Array Value) (fr : Nat × Nat) (hc : w.cell? (at0 b 1) = some (.slice (some (at0 k 0)) l.length cap)) (hk : w.heap[k]? = some (.cells cells 5 fr)) (h0 : l ≠ []) (hcap : l.length ≤ cap)
    (hl : ∀ (j : Nat) x, l[j]? = some x → w.cell? (at0 k j) = some (.int .u8 x.toNat)) (hsz : l.length ≤ cells.size) (h63 : l.length ≤ 9223372036854775807) :
    CallsIn (FW false none) 0 Tryd.prog 43 #[.pointer (some (at0 b 0))] w fun e w' => e = .returned (.string ⟨l.toArray⟩) ∧ w' = w.drew.freeze (at0 k 0) l.length := by
  have hl0 : l.length ≠ 0 := by simpa using h0
  have c1 : w.drew.cell? ⟨b, 1, none⟩ = some (.slice (some ⟨k, 0, none⟩) l.length cap) := hc
  have c0 : w.cell? ⟨b, 1, none⟩ = some (.slice (some ⟨k, 0, none⟩) l.length cap) := hc
  have hSD : ∀ W, (Builtin.unsafeSliceData_ #[49] 98 #[.slice (some ⟨k, 0, none⟩) l.length cap]).run Tryd.prog W = .ok (.pointer (some ⟨k, 0, none⟩)) W :=
    fun W => Lib.run_unsafeSliceData_row _ _ _ _ _ _ (by omega)
  have hUS : (Builtin.unsafeString_ #[98, 3] 9 #[.pointer (some ⟨k, 0, none⟩), .int .i64 l.length]).run Tryd.prog w.drew = .ok (.string ⟨l.toArray⟩) (w.drew.freeze ⟨k, 0, none⟩ l.length) := by
    refine Lib.run_unsafeString_row w.drew 98 3 9 5 (by kernel_rfl) cellsByte k cells.size (by have hg' : w.drew.heap[k]? = some (.cells cells 5 fr) := hk; simp [World.shape?, hg']) l h0 (by omega) (by omega) ?_
    intro j x hx
    have := hl j x hx
    simp only [Addr.add]
    split
    · rename_i e; subst e; exact this
    · simpa [at0] using this
  have mixed : Tryd.prog.follows .mixedOrders = true := by kernel_rfl
  show CallsIn (FW false none) 0 Tryd.prog 43 #[.pointer (some ⟨b, 0, none⟩)] w fun e w' => e = .returned (.string ⟨l.toArray⟩) ∧ w' = w.drew.freeze ⟨k, 0, none⟩ l.length
  gi_enter Tryd.func43, Tryd.ntmps43
  gi_wp2
  gi_region_o
  all_goals (gi_wp2; go_ret; exact ⟨rfl, rfl⟩)
theorem us_none (W : World) (q : Option Addr) : (Builtin.unsafeString_ #[98, 3] 9 #[.pointer q, .int .i64 0]).run Tryd.prog W = .ok (.string .empty) W := Lib.run_unsafeString_none W _ _ _ q
set_option maxHeartbeats 2000000 in
set_option maxRecDepth 100000 in
theorem string_none (w : World) (b : Nat) (hc : w.cell? (at0 b 1) = some (.slice none 0 0)) :
    CallsIn (FW false none) 0 Tryd.prog 43 #[.pointer (some (at0 b 0))] w fun e w' => e = .returned (.string ⟨#[]⟩) ∧ w' = w.drew := by
  have hUS := us_none
  have c1 : w.drew.cell? ⟨b, 1, none⟩ = some (.slice none 0 0) := hc
  have c0 : w.cell? ⟨b, 1, none⟩ = some (.slice none 0 0) := hc
  have hSD : ∀ W, (Builtin.unsafeSliceData_ #[49] 98 #[.slice none 0 0]).run Tryd.prog W = .ok (.pointer none) W := fun W => rfl
  have mixed : Tryd.prog.follows .mixedOrders = true := by kernel_rfl
  show CallsIn (FW false none) 0 Tryd.prog 43 #[.pointer (some ⟨b, 0, none⟩)] w fun e w' => e = .returned (.string ⟨#[]⟩) ∧ w' = w.drew
  gi_enter Tryd.func43, Tryd.ntmps43
  gi_wp2
  gi_region_o
  all_goals (gi_wp2; go_ret; exact ⟨rfl, rfl⟩)
set_option maxHeartbeats 2000000 in
set_option maxRecDepth 100000 in
theorem string_room (w : World) (b k cap : Nat) (hcap : cap ≠ 0) (hc : w.cell? (at0 b 1) = some (.slice (some (at0 k 0)) 0 cap)) :
    CallsIn (FW false none) 0 Tryd.prog 43 #[.pointer (some (at0 b 0))] w fun e w' => e = .returned (.string ⟨#[]⟩) ∧ w' = w.drew := by
  have hUS := us_none
  have c1 : w.drew.cell? ⟨b, 1, none⟩ = some (.slice (some ⟨k, 0, none⟩) 0 cap) := hc
  have c0 : w.cell? ⟨b, 1, none⟩ = some (.slice (some ⟨k, 0, none⟩) 0 cap) := hc
  have hSD : ∀ W, (Builtin.unsafeSliceData_ #[49] 98 #[.slice (some ⟨k, 0, none⟩) 0 cap]).run Tryd.prog W = .ok (.pointer (some ⟨k, 0, none⟩)) W :=
    fun W => Lib.run_unsafeSliceData_row _ _ _ _ _ _ hcap
  have mixed : Tryd.prog.follows .mixedOrders = true := by kernel_rfl
  show CallsIn (FW false none) 0 Tryd.prog 43 #[.pointer (some ⟨b, 0, none⟩)] w fun e w' => e = .returned (.string ⟨#[]⟩) ∧ w' = w.drew
  gi_enter Tryd.func43, Tryd.ntmps43
  gi_wp2
  gi_region_o
  all_goals (gi_wp2; go_ret; exact ⟨rfl, rfl⟩)
set_option maxHeartbeats 2000000 in
set_option maxRecDepth 100000 in
theorem string_noroom (w : World) (b k : Nat) (cells : Array Value) (t : TypeId) (fr : Nat × Nat) (hc : w.cell? (at0 b 1) = some (.slice (some (at0 k 0)) 0 0)) (hk : w.heap[k]? = some (.cells cells t fr)) :
    CallsIn (FW false none) 0 Tryd.prog 43 #[.pointer (some (at0 b 0))] w fun e w' => e = .returned (.string ⟨#[]⟩) ∧ w' = w.drew.alloc (.view ⟨k, 0, none⟩ 5) := by
  have hUS := us_none
  have hlt : b < w.heap.size := by
    have h := hc
    unfold World.cell? at h
    split at h
    · rename_i c t fr hb
      exact (Array.getElem?_eq_some_iff.1 hb).1
    · cases h
  have c1 : w.drew.cell? ⟨b, 1, none⟩ = some (.slice (some ⟨k, 0, none⟩) 0 0) := hc
  have c0 : w.cell? ⟨b, 1, none⟩ = some (.slice (some ⟨k, 0, none⟩) 0 0) := hc
  have hSD : (Builtin.unsafeSliceData_ #[49] 98 #[.slice (some ⟨k, 0, none⟩) 0 0]).run Tryd.prog w.drew = .ok (.pointer (some ⟨w.drew.heap.size, 0, none⟩)) (w.drew.alloc (.view ⟨k, 0, none⟩ 5)) :=
    Lib.run_unsafeSliceData_zero w.drew _ _ 5 (by kernel_rfl) ⟨k, 0, none⟩ 0 (t, cells.size) (by have hg' : w.drew.heap[k]? = some (.cells cells t fr) := hk; simp [World.shape?, hg'])
  have c2 : (w.drew.alloc (.view ⟨k, 0, none⟩ 5)).cell? ⟨b, 1, none⟩ = some (.slice (some ⟨k, 0, none⟩) 0 0) := by
    rw [World.cell?_alloc_lt _ _ _ (by exact hlt)]; exact hc
  have c3 : (w.alloc (.view ⟨k, 0, none⟩ 5)).drew.cell? ⟨b, 1, none⟩ = some (.slice (some ⟨k, 0, none⟩) 0 0) := c2
  have mixed : Tryd.prog.follows .mixedOrders = true := by kernel_rfl
  show CallsIn (FW false none) 0 Tryd.prog 43 #[.pointer (some ⟨b, 0, none⟩)] w fun e w' => e = .returned (.string ⟨#[]⟩) ∧ w' = w.drew.alloc (.view ⟨k, 0, none⟩ 5)
  gi_enter Tryd.func43, Tryd.ntmps43
  gi_wp2
  gi_region_o
  all_goals (gi_wp2; go_ret; exact ⟨rfl, rfl⟩)
theorem strRun : StrRun Tryd.prog 43 5 where
  some_ := string_some
  none_ := string_none
  zero_ := fun w b k cap cells t fr hc hk => by
    by_cases h : cap = 0
    · subst h
      exact (string_noroom w b k cells t fr hc hk).mono fun e w' ⟨h1, h2⟩ => ⟨h1, .inr ⟨_, h2⟩⟩
    · exact (string_room w b k cap h hc).mono fun e w' ⟨h1, h2⟩ => ⟨h1, .inl h2⟩
end Go.Proofs.YteibklnligmanaaDoor


/- The seat's tables are sound. -/
namespace Go.Proofs.YteibklnligmanaaDoor
open Go Abs
theorem extOK : ExtOK G := by
  intro g p hp args v hv S ρ w vs hl hvs
  have hp : (if cmpT.contains g then some cmpStr else if escT.contains g then some idP else if ixbT.contains g then some ixbP else none) = some p := hp
  split at hp
  · rename_i hc
    simp [cmpT] at hc
  · split at hp
    · rename_i hc
      cases hp
      have hg : g = 66 := by simpa [escT] using hc
      subst hg
      exact idP_ok Tryd.func66 (by kernel_rfl) (by kernel_rfl) (by kernel_rfl) (by kernel_rfl) hv hl hvs
    · split at hp
      · rename_i hc
        simp [ixbT] at hc
      · cases hp
theorem E_lt (g : FuncId) (h : G.E g = true) : g < 126 := by
  have h : (hasBody[g]?).getD false = true := h
  rcases Nat.lt_or_ge g 126 with h1 | h1
  · exact h1
  · exfalso
    have hl : hasBody.length = 126 := by kernel_rfl
    rw [List.getElem?_eq_none_iff.2 (by omega)] at h
    cases h
theorem plansB_G0 (f : FuncId) (c : Code) : plansB G0 f c = plansB G f c := by
  induction c with
  | seq a b iha ihb => simp only [plansB, iha, ihb]
  | cond c a b iha ihb => simp only [plansB, iha, ihb]
  | block id b ih => simp only [plansB, ih]
  | scope b ih => simp only [plansB, ih]
  | loop b ih => simp only [plansB, ih]
  | rangeFunc g ps a b iha ihb => simp only [plansB, iha, ihb]
  | _ => rfl
theorem rOK_G0 (r : LRec) : rOK G0 r = rOK G r := by unfold rOK; simp only [plansB_G0]
theorem ext_lt : ∀ g p, G.ext g = some p → g < NF := by
  intro g p hp
  have hp : (if cmpT.contains g then some cmpStr else if escT.contains g then some idP else if ixbT.contains g then some ixbP else none) = some p := hp
  split at hp
  · rename_i hc
    simp [cmpT] at hc
  · split at hp
    · rename_i hc
      have hg : g = 66 := by simpa [escT] using hc
      subst hg; decide
    · split at hp
      · rename_i hc
        simp [ixbT] at hc
      · cases hp
theorem GS : GSound G := gsound 126 E_lt all_ok follows (fun r h => by rw [← rOK_G0]; exact h) extOK (by kernel_rfl) ext_lt
end Go.Proofs.YteibklnligmanaaDoor


/- Memory: what Delete's and Insert's walks ask. -/
namespace Go.Proofs.YteibklnligmanaaDoor
open Go Abs Go.RowKit
set_option linter.unusedSimpArgs false
set_option linter.unusedVariables false

theorem setCell_keeps (w : World) (b o v) (a : Addr) (h : (w.cell? a).isSome = true ∧ w.frozen? a = false) : ((w.setCell (at0 b o) v).cell? a).isSome = true ∧ (w.setCell (at0 b o) v).frozen? a = false := by
  obtain ⟨u, hu⟩ := Option.isSome_iff_exists.1 h.1
  obtain ⟨v', hv⟩ := Go.RowKit.cell?_setCell_some (p := at0 b o) (x := v) hu
  exact ⟨by rw [hv]; rfl, by rw [World.frozen?_setCell]; exact h.2⟩
theorem setCells_keeps (b : Nat) (l : List Value) : ∀ (w : World) (o : Nat) (a : Addr), ((w.cell? a).isSome = true ∧ w.frozen? a = false) → ((w.setCells b o l).cell? a).isSome = true ∧ (w.setCells b o l).frozen? a = false := by
  induction l with
  | nil => intro w o a h; exact h
  | cons v l ih => intro w o a h; exact ih _ _ _ (setCell_keeps w b o v a h)
theorem one_of_scalar {v : Value} (h : scalarV v = true) : v.oneCell' = true := by cases v <;> first | rfl | cases h
end Go.Proofs.YteibklnligmanaaDoor


/- slices.Insert in the midst, walked: at rows of texts, and at rows of rows. -/
namespace Go.Proofs.YteibklnligmanaaDoor
open Go Abs Go.RowKit
set_option linter.unusedSimpArgs false
set_option linter.unusedVariables false

theorem run_overlaps_mine {P : Program} (w : World) (tS tR e : TypeId) (ht : P.underlying tS = some (.slice e)) (size : Nat) (hz : ∀ w, (Go.sizeOf e).run P w = .ok size w)
    (a b : Addr) (la ca lb cb : Nat) (hne : a.block ≠ b.block) (tA tB : TypeId) (kA kB : Nat)
    (hsa : w.shape? a.block = some (tA, kA)) (hkA : kA ≠ 0) (hsb : w.shape? b.block = some (tB, kB)) (hkB : kB ≠ 0)
    (hfb : w.frozen? b = false) (hfe : w.frozen? { block := b.block, off := kB } = false) :
    (Extern.SlicesOverlaps.overlaps #[tS, tS] #[tR] #[.slice (some a) la ca, .slice (some b) lb cb]).run P w = .ok (.bool false) w := by
  have hnb : (a.block != b.block) = true := by simpa using hne
  have hnb' : (a.block == b.block) = false := by simpa using hne
  change Sem.run P (α := Value) (do
    let some t := (#[tS, tS] : Array TypeId)[0]? | stuck "slices.overlaps: no parameter types"
    let .slice elem ← underlying t | stuck "slices.overlaps: slice type expected"
    let size ← sizeOf elem
    match (some a : Option Addr), (some b : Option Addr) with
    | some a, some b =>
      if la = 0 ∨ lb = 0 ∨ size = 0 then pure (Value.bool false)
      else if a.block != b.block && (← frozen a) && (← frozen b) then unsupported .addressObserved
      else do
        if a.block != b.block then do
          noView a; noView b
          if ← mayBeOne a b then return Value.bool ((← choose (.extern "sameAddr.stringBytes" 2)) == 1)
        pure (Value.bool (a.block == b.block && a.off < b.off + lb * size && b.off < a.off + la * size))
    | _, _ => pure (Value.bool false)) w = _
  by_cases h0 : la = 0 ∨ lb = 0 ∨ size = 0
  · simp [run_underlying ht, hz, h0]
  · cases kA with
    | zero => exact absurd rfl hkA
    | succ kA =>
      cases kB with
      | zero => exact absurd rfl hkB
      | succ kB =>
        cases hfa : w.frozen? a <;> cases hfz : w.frozen? { block := a.block, off := kA + 1 } <;>
          simp [run_underlying ht, hz, h0, hnb, hnb', frozen, noView, viewAt, mayBeOne, stringish, shape, Sem.run, hsa, hsb, hfa, hfb, hfe, hfz]

theorem step_builtin_in {F : Fence} {nn : Nat} {P : Program} {ops : Array Oper} {o : Oper} {a : Act} {w w' : World} {K : Act → World → Prop} {Q : Exit → Act → World → Prop} {E : Prop}
    (hg : o.guard = none) (d s : Operand) (t t' : TypeId) (hop : o.op = Op.call { callee := Callee.builtin Builtin.copy, args := #[d, s], argTypes := #[t, t'] }) (ud us v : Value) (hd : a.eval d = ud) (hs : a.eval s = us)
    (hrun : (Builtin.copy_ #[t, t'] o.type #[ud, us]).run P w = .ok v w') (hK : K (a.put o.dst v) w') :
    if Region.wanted o (yielded ops a.tmps) = true then Oper.wpIn F nn P o a w K Q else E := by
  have hw : Region.wanted o (yielded ops a.tmps) = true := by simp [Region.wanted, hg]
  rw [if_pos hw]
  unfold Oper.wpIn
  refine ⟨fun f hf => ?_, ?_⟩
  · simp [Oper.about, hop, resolve, Target.leads] at hf
  · simp [Oper.semAt, execOp, hop, resolve, invoke, builtin, hd, hs, hrun, Result.andThen]
    exact hK
theorem wpListIn_append_run {F : Fence} {n : Nat} {P : Program} (w : World) {ops : Array Oper} {rest : List Oper} {o : Oper} {a : Act} {Q : Exit → Act → World → Prop} (hgd : o.guard = none) (s x : Operand) (t tn : TypeId)
    (ho : o.op = .call { callee := .builtin .append, args := #[s, x], argTypes := #[t, tn] }) (vs vx : Value) (hs : a.eval s = vs) (hx : a.eval x = vx)
    (v' : Value) (w' : World) (hr : (Builtin.append_ #[t, tn] o.type #[vs, vx]).run P w = .ok v' w') (h : wpListIn F n P ops Q rest (a.put o.dst v') w') : wpListIn F n P ops Q (o :: rest) a w :=
  wpListIn_plain hgd fun _ hK => by
    unfold Oper.wpIn
    refine ⟨fun f hf => ?_, ?_⟩
    · simp [Oper.about, ho, resolve, Target.leads] at hf
    · simp [Oper.semAt, execOp, ho, resolve, invoke, builtin, hs, hx, hr, Result.andThen]
      exact hK _ _ h
theorem cell_shape {w : World} {b o : Nat} {v : Value} (h : w.cell? ⟨b, o, none⟩ = some v) : ∃ t k, w.shape? b = some (t, k) ∧ k ≠ 0 := by
  unfold World.cell? at h
  unfold World.shape?
  split at h
  · rename_i c t fr hb
    simp only at hb
    rw [hb]
    refine ⟨_, _, rfl, fun e => ?_⟩
    simp at h
    have := (Array.getElem?_eq_some_iff.1 h).1
    omega
  · cases h
theorem unmarked {w : World} {b : Nat} {cells : Array Value} {t : TypeId} {fr : Nat × Nat} (hb : w.heap[b]? = some (.cells cells t fr)) (h : fr.1 = fr.2) (o : Nat) : w.frozen? ⟨b, o, none⟩ = false := by
  unfold World.frozen?
  simp only [hb]
  obtain ⟨lo, hi⟩ := fr
  simp only at h ⊢
  subst h
  simp
theorem setCell_new (w : World) (t : TypeId) (c : Array Value) (o : Nat) (v : Value) : (w.alloc (.cells c t)).setCell ⟨w.heap.size, o, none⟩ v = w.alloc (.cells (c.setIfInBounds o v) t) := by
  unfold World.alloc World.setCell
  congr 1
  apply Array.ext_getElem?
  intro k
  simp only [Array.getElem?_modify, Array.getElem?_push]
  by_cases h : k = w.heap.size
  · subst h; simp
  · have h' : ¬ w.heap.size = k := fun e => h e.symm
    simp [h, h']
theorem setCells_new (w : World) (t : TypeId) : ∀ (l : List Value) (o : Nat) (c : Array Value), ∃ c', (w.alloc (.cells c t)).setCells w.heap.size o l = w.alloc (.cells c' t)
  | [], o, c => ⟨c, rfl⟩
  | v :: l, o, c => by
    obtain ⟨c', h⟩ := setCells_new w t l (o + 1) (c.setIfInBounds o v)
    exact ⟨c', by rw [World.setCells, setCell_new]; exact h⟩


set_option maxHeartbeats 8000000 in
set_option maxRecDepth 1000000 in
theorem insS39 (w : World) (blk off cap i vb voff vc : Nat) (d : List Value) (x : Value) (tA tB : TypeId) (kA kB : Nat) (hsa : w.shape? vb = some (tA, kA)) (hkA : kA ≠ 0) (hsb : w.shape? blk = some (tB, kB)) (hkB : kB ≠ 0)
    (hfe : w.frozen? ⟨blk, kB, none⟩ = false) (hH : ∀ (k : Nat) x, d[k]? = some x → w.cell? ⟨blk, off + k, none⟩ = some x) (hsp : ∀ k, k < cap → (w.cell? ⟨blk, off + k, none⟩).isSome = true ∧ w.frozen? ⟨blk, off + k, none⟩ = false)
    (hsc : ∀ x ∈ d, x.oneCell' = true) (hroom : d.length + 1 ≤ cap) (hm : d.length < 1000000) (hi : i < d.length) (hvb : vb ≠ blk) (hx : w.cell? ⟨vb, voff, none⟩ = some x) (h1x : x.oneCell' = true) :
    CallsIn (FW false none) 0 Tryd.prog 39 #[.slice (some ⟨blk, off, none⟩) d.length cap, .int .i64 i, .slice (some ⟨vb, voff, none⟩) 1 vc] w fun e w' => e = .returned (.slice (some ⟨blk, off, none⟩) (d.length + 1) cap) ∧
      w' = (w.drew.setCells blk (off + (i + 1)) (d.drop i)).setCells blk (off + i) [x] := by
  have mixed : Tryd.prog.follows .mixedOrders = true := by kernel_rfl
  obtain ⟨n, hn⟩ : ∃ n, n = d.length := ⟨_, rfl⟩
  rw [← hn] at hroom hm hi ⊢
  have hov : ∀ lb cb, (callFunc 52 #[.slice (some ⟨vb, voff, none⟩) 1 vc, .slice (some ⟨blk, off + (i + 1), none⟩) lb cb]).run Tryd.prog w = .ok (.value (.bool false)) w := fun lb cb => by
    rw [run_callFunc_extern Tryd.func52 (by kernel_rfl) (by kernel_rfl) (by kernel_rfl) (e := Extern.SlicesOverlaps.overlaps #[22, 22] #[4]) (by kernel_rfl),
      run_overlaps_mine w 22 4 9 Tryd.underlying22 1 Tryd.sizeOf9 ⟨vb, voff, none⟩ ⟨blk, off + (i + 1), none⟩ 1 vc lb cb hvb tA tB kA kB hsa hkA hsb hkB (hsp _ (by omega)).2 hfe]
    rfl
  have hsz : (Tryd.prog.info? 9).map (·.size) = some 1 := by kernel_rfl
  have hdl : (d.drop i).length = n - i := by rw [List.length_drop, hn]
  have hw1 : IntKind.i64.wrap ((i : Int) + 1) = (i : Int) + 1 := by rw [IntKind.wrap_i64]; omega
  have hcp1 : ∀ ty dc sc, (Builtin.copy_ #[22, 22] ty #[.slice (some ⟨blk, off + (i + 1), none⟩) (n + 1 - (i + 1)) dc, .slice (some ⟨blk, off + i, none⟩) (n + 1 - i) sc]).run Tryd.prog w.drew = .ok (goInt (d.drop i).length) (w.drew.setCells blk (off + (i + 1)) (d.drop i)) := fun ty dc sc =>
    run_copy_cells w.drew _ _ ty 9 blk (off + (i + 1)) (n + 1 - (i + 1)) dc ⟨blk, off + i, none⟩ (n + 1 - i) sc (d.drop i) Tryd.underlying22 hsz (by rw [hdl]; simp only [Nat.min_def]; split <;> omega)
      (fun j v hj => by rw [Addr.add_lit, Nat.add_assoc]; exact hH (i + j) v (by rwa [List.getElem?_drop] at hj))
      (fun j hj => by rw [Nat.add_assoc]; exact (hsp _ (by omega)).1) (fun j hj => by rw [Nat.add_assoc]; exact (hsp _ (by omega)).2) (fun v hv => hsc v (List.mem_of_mem_drop hv))
  obtain ⟨W1, hW1⟩ : ∃ W1, W1 = w.drew.setCells blk (off + (i + 1)) (d.drop i) := ⟨_, rfl⟩
  have hsp1 : ∀ k, k < cap → (W1.cell? ⟨blk, off + k, none⟩).isSome = true ∧ W1.frozen? ⟨blk, off + k, none⟩ = false := fun k hk => by
    rw [hW1]
    exact setCells_keeps _ _ _ _ _ (hsp k hk)
  have hcp2 : ∀ ty dc, (Builtin.copy_ #[22, 22] ty #[.slice (some ⟨blk, off + i, none⟩) (n + 1 - i) dc, .slice (some ⟨vb, voff, none⟩) 1 vc]).run Tryd.prog W1 = .ok (goInt [x].length) (W1.setCells blk (off + i) [x]) := fun ty dc =>
    run_copy_cells W1 _ _ ty 9 blk (off + i) (n + 1 - i) dc ⟨vb, voff, none⟩ 1 vc [x] Tryd.underlying22 hsz (by simp only [Nat.min_def, List.length_singleton]; split <;> omega)
      (fun j v hj => by
        obtain rfl : j = 0 := by have := (List.getElem?_eq_some_iff.1 hj).1; simp at this; exact this
        rw [Addr.add_lit, hW1, World.cell?_setCells_out blk _ _ _ _ (fun h _ => absurd h hvb)]
        cases hj; exact hx)
      (fun j hj => by rw [Nat.add_assoc]; simp at hj; exact (hsp1 _ (by omega)).1) (fun j hj => by rw [Nat.add_assoc]; simp at hj; exact (hsp1 _ (by omega)).2) (fun v hv => by simp at hv; rw [hv]; exact h1x)
  rw [← hW1] at hcp1
  have hW : Hid (W1 = w.drew.setCells blk (off + (i + 1)) (d.drop i)) := hW1
  rw [← hW1]
  clear hW1 hsp1 hsp hH hsc hdl hsa hsb hfe hx h1x
  have hz2 : ¬ ((i : Int) = (n : Int)) := by omega
  have hb1 : (0 : Int) ≤ (i : Int) + 1 := by omega
  have hin : i ≤ n := by omega
  have htn : ((i : Int) + 1).toNat = i + 1 := by omega
  have hb2 : ¬ (cap = i + 1) := by omega
  have hb3 : (i : Int) ≤ (n : Int) + 1 := by omega
  have hb4 : ¬ (cap = i) := by omega
  have hw2 : IntKind.i64.wrap ((n : Int) + 1) = (n : Int) + 1 := by rw [IntKind.wrap_i64]; omega
  clear hn
  gi_enter Tryd.func39, Tryd.ntmps39
  gi_wp2_with (simp only [hov])
  refine wpIn_region_any (by assumption) ?_
  change wpAnyIn _ _ _ _ _ _ _ _ _ (World.drew _)
  refine wpAnyIn_take (i := 0) (v := ?_) rfl rfl (by kernel_rfl) (by kernel_rfl) (by kernel_rfl) (fun _ _ _ h => h) ⟨Or.inl ⟨by rfl, ?_⟩, fun _ => rfl⟩ ?_
  rotate_left
  · intro w; go_simp; try with_reducible rfl
  refine wpAnyIn_take (i := 1) (v := ?_) rfl rfl (by kernel_rfl) (by kernel_rfl) (by kernel_rfl) (fun _ _ _ h => h) ⟨Or.inl ⟨by rfl, ?_⟩, fun _ => rfl⟩ ?_
  rotate_left
  · intro w; go_simp; try with_reducible rfl
  refine wpAnyIn_take (i := 2) (v := ?_) rfl rfl (by kernel_rfl) (by kernel_rfl) (by kernel_rfl) (fun _ _ _ h => h) ⟨Or.inl ⟨by rfl, ?_⟩, fun _ => rfl⟩ ?_
  rotate_left
  · intro w; go_simp; try with_reducible rfl
  refine wpAnyIn_take (i := 3) (v := ?_) rfl rfl (by kernel_rfl) (by kernel_rfl) (by kernel_rfl) (fun _ _ _ h => h) ⟨Or.inl ⟨by rfl, ?_⟩, fun _ => rfl⟩ ?_
  rotate_left
  · intro w; go_simp; try with_reducible rfl
  refine wpAnyIn_take (i := 5) (v := ?_) rfl rfl (by kernel_rfl) (by kernel_rfl) (by kernel_rfl) (fun _ _ _ h => h) ⟨Or.inl ⟨by rfl, ?_⟩, fun _ => rfl⟩ ?_
  rotate_left
  · intro w; go_simp; try with_reducible rfl
  refine wpAnyIn_take (i := 6) (v := ?_) rfl rfl (by kernel_rfl) (by kernel_rfl) (by kernel_rfl) (fun _ _ _ h => h) ⟨Or.inl ⟨by rfl, ?_⟩, fun _ => rfl⟩ ?_
  rotate_left
  · intro w; go_simp; try with_reducible rfl
  refine wpAnyIn_ready (rs := [4, 7]) (by kernel_rfl) (by simp) ?_
  refine AllReadyIn.cons rfl (fun K hK => ?_) (AllReadyIn.cons rfl (fun K hK => ?_) AllReadyIn.nil)
  · go_simp
    refine hK _ _ ?_
    clear hK K
    refine wpAnyIn_ready (rs := [7]) (by kernel_rfl) (by simp) ?_
    refine AllReadyIn.cons rfl (fun K hK => ?_) AllReadyIn.nil
    go_simp
    refine hK _ _ ?_
    clear hK K
    refine wpAnyIn_ready (rs := [8]) (by kernel_rfl) (by simp) ?_
    refine AllReadyIn.cons rfl (fun K hK => ?_) AllReadyIn.nil
    refine step_builtin_in rfl (.tmp 73) (.tmp 76) 22 22 rfl _ _ _ (by simp [Act.eval, Act.put]; rfl) (by simp [Act.eval, Act.put]; rfl) (hcp1 _ _ _) ?_
    refine hK _ _ ?_
    clear hK K
    refine wpAnyIn_done (by kernel_rfl) ?_ _
    gi_wp2
    go_ret
    exact ⟨rfl, rfl⟩
  · go_simp
    refine hK _ _ ?_
    clear hK K
    refine wpAnyIn_ready (rs := [4]) (by kernel_rfl) (by simp) ?_
    refine AllReadyIn.cons rfl (fun K hK => ?_) AllReadyIn.nil
    go_simp
    refine hK _ _ ?_
    clear hK K
    refine wpAnyIn_ready (rs := [8]) (by kernel_rfl) (by simp) ?_
    refine AllReadyIn.cons rfl (fun K hK => ?_) AllReadyIn.nil
    refine step_builtin_in rfl (.tmp 73) (.tmp 76) 22 22 rfl _ _ _ (by simp [Act.eval, Act.put]; rfl) (by simp [Act.eval, Act.put]; rfl) (hcp1 _ _ _) ?_
    refine hK _ _ ?_
    clear hK K
    refine wpAnyIn_done (by kernel_rfl) ?_ _
    gi_wp2
    go_ret
    exact ⟨rfl, rfl⟩


set_option maxHeartbeats 8000000 in
set_option maxRecDepth 1000000 in
theorem insG39 (w : World) (blk off cap i vb voff vc : Nat) (d : List Value) (x : Value) (hH : ∀ (k : Nat) x, d[k]? = some x → w.cell? ⟨blk, off + k, none⟩ = some x)
    (hsc : ∀ x ∈ d, x.oneCell' = true) (hcap : d.length ≤ cap) (hroom : cap < d.length + 1) (hm : d.length < 1000000) (hi : i < d.length) (hx : w.cell? ⟨vb, voff, none⟩ = some x) (h1x : x.oneCell' = true) :
    CallsIn (FW false none) 0 Tryd.prog 39 #[.slice (some ⟨blk, off, none⟩) d.length cap, .int .i64 i, .slice (some ⟨vb, voff, none⟩) 1 vc] w fun e w' =>
      ∃ (G : Nat) (ROW : Array Value), d.length + 1 ≤ G ∧ G ≤ ROW.size ∧ (∀ (j : Nat) v, (d.take i)[j]? = some v → ROW[j]? = some v) ∧ e = .returned (.slice (some ⟨w.heap.size, 0, none⟩) (d.length + 1) G) ∧
        w' = ((w.drew.alloc (.cells ROW 9)).setCells w.heap.size i [x]).drew.setCells w.heap.size (i + 1) (d.drop i) := by
  have mixed : Tryd.prog.follows .mixedOrders = true := by kernel_rfl
  obtain ⟨n, hn⟩ : ∃ n, n = d.length := ⟨_, rfl⟩
  rw [← hn] at hroom hm hi hcap ⊢
  have hbw : blk < w.heap.size := block_lt_of_cell (hH 0 _ (List.getElem?_eq_getElem (by omega)))
  have hvw : vb < w.heap.size := block_lt_of_cell hx
  have hsz : (Tryd.prog.info? 9).map (·.size) = some 1 := by kernel_rfl
  have hkk : (n : Int) + 1 - (i : Int) = ((n + 1 - i : Nat) : Int) := by omega
  have hik : i + (n + 1 - i) = n + 1 := by omega
  have hold : (Builtin.firstCells 1 i (.slice (some ⟨blk, off, none⟩) i cap)).run Tryd.prog w.drew = .ok (d.take i).toArray w.drew :=
    run_firstCells_some w.drew 1 i ⟨blk, off, none⟩ i cap (d.take i) (by rw [List.length_take]; omega) (fun j v hj => by
      rw [Addr.add_lit]
      rw [List.getElem?_take] at hj
      split at hj
      · exact hH j v hj
      · cases hj)
  obtain ⟨G, hG⟩ : ∃ G, G = grownCap w (n + 1) cap 9 := ⟨_, rfl⟩
  obtain ⟨ROW, hROW⟩ : ∃ ROW : Array Value, ROW = (d.take i).toArray ++ Builtin.zeroCells (Value.string ⟨#[]⟩).cells (n + 1 - i) ++ Builtin.zeroCells (Value.string ⟨#[]⟩).cells (G - (n + 1)) := ⟨_, rfl⟩
  have hrz : ∀ ty, (Builtin.append_ #[22, 3] ty #[.slice (some ⟨blk, off, none⟩) i cap, .int .i64 ((n : Int) + 1 - (i : Int))]).run Tryd.prog w =
      .ok (.slice (some ⟨w.heap.size, 0, none⟩) (n + 1) G) (w.drew.alloc (.cells ROW 9)) := fun ty => by
    have h := Lib.run_append_grow_zeros w 22 3 ty 9 _ (Value.string ⟨#[]⟩) .i64 .i64 Tryd.underlying22 Tryd.underlying3 (by kernel_rfl : Tryd.prog.info? 9 = some Tryd.t9) rfl (some ⟨blk, off, none⟩) i cap (d.take i) hold (n + 1 - i) (by omega) Nat.one_pos (by omega) (by omega) (by have e : Tryd.t9.bytes = 16 := rfl; rw [e]; omega) (by rw [hik]; exact growslice_fits hroom (by show (n + 1) * 16 ≤ _; omega))
    rw [hik, ← hG, ← hROW] at h
    rw [hkk]
    exact h
  have hGn : n + 1 ≤ G := by rw [hG]; exact grownCap_ge w _ _ _
  have hRs : G ≤ ROW.size := by
    rw [hROW]
    simp [Builtin.zeroCells, Value.cells]
    omega
  have hRt : ∀ (j : Nat) v, (d.take i)[j]? = some v → ROW[j]? = some v := by
    intro j v hj
    have hlt := (List.getElem?_eq_some_iff.1 hj).1
    rw [hROW, Array.append_assoc, Array.getElem?_append_left (by simpa using hlt)]
    simpa using hj
  obtain ⟨W1, hW1⟩ : ∃ W1, W1 = w.drew.alloc (.cells ROW 9) := ⟨_, rfl⟩
  rw [← hW1] at hrz
  have hN : ∀ j, j < G → (W1.cell? ⟨w.heap.size, j, none⟩).isSome = true := fun j hj => by
    rw [hW1, World.cell?_alloc_at (w := w.drew) ROW _ w.heap.size j rfl, Array.getElem?_eq_getElem (by omega)]; rfl
  have hNf : ∀ j, W1.frozen? ⟨w.heap.size, j, none⟩ = false := fun j => by rw [hW1]; exact World.frozen?_alloc_at (w := w.drew) ROW _ w.heap.size j rfl
  have hOb : ∀ j v, w.cell? ⟨blk, j, none⟩ = some v → W1.cell? ⟨blk, j, none⟩ = some v := fun j v h => by rw [hW1, World.cell?_alloc_past (w := w.drew) _ blk j hbw]; exact h
  have hOv : ∀ j v, w.cell? ⟨vb, j, none⟩ = some v → W1.cell? ⟨vb, j, none⟩ = some v := fun j v h => by rw [hW1, World.cell?_alloc_past (w := w.drew) _ vb j hvw]; exact h
  obtain ⟨W2, hW2⟩ : ∃ W2, W2 = W1.setCells w.heap.size i [x] := ⟨_, rfl⟩
  have hcpA : ∀ ty dc, (Builtin.copy_ #[22, 22] ty #[.slice (some ⟨w.heap.size, i, none⟩) (n + 1 - i) dc, .slice (some ⟨vb, voff, none⟩) 1 vc]).run Tryd.prog W1 = .ok (goInt 1) W2 := fun ty dc => by
    rw [hW2]
    exact run_copy_cells W1 _ _ ty 9 w.heap.size i (n + 1 - i) dc ⟨vb, voff, none⟩ 1 vc [x] Tryd.underlying22 hsz (by simp only [Nat.min_def, List.length_singleton]; split <;> omega)
      (fun j v hj => by
        obtain rfl : j = 0 := by have := (List.getElem?_eq_some_iff.1 hj).1; simp at this; exact this
        rw [Addr.add_lit]
        cases hj; exact hOv _ _ hx)
      (fun j hj => by simp at hj; exact hN _ (by omega)) (fun j hj => hNf _) (fun v hv => by simp at hv; rw [hv]; exact h1x)
  have hbN : blk ≠ w.heap.size := by omega
  have hdl : (d.drop i).length = n - i := by rw [List.length_drop, hn]
  obtain ⟨W3, hW3⟩ : ∃ W3, W3 = W2.drew.setCells w.heap.size (i + 1) (d.drop i) := ⟨_, rfl⟩
  have hcpB : ∀ ty dc sc, (Builtin.copy_ #[22, 22] ty #[.slice (some ⟨w.heap.size, i + 1, none⟩) (n + 1 - (i + 1)) dc, .slice (some ⟨blk, off + i, none⟩) (n - i) sc]).run Tryd.prog W2.drew = .ok (goInt (d.drop i).length) W3 := fun ty dc sc => by
    rw [hW3]
    exact run_copy_cells W2.drew _ _ ty 9 w.heap.size (i + 1) (n + 1 - (i + 1)) dc ⟨blk, off + i, none⟩ (n - i) sc (d.drop i) Tryd.underlying22 hsz (by rw [hdl]; simp only [Nat.min_def]; split <;> omega)
      (fun j v hj => by
        show W2.cell? _ = _
        rw [Addr.add_lit, hW2, World.cell?_setCells_out _ _ _ _ _ (fun h _ => absurd h hbN), Nat.add_assoc]
        exact hOb _ v (hH (i + j) v (by rwa [List.getElem?_drop] at hj)))
      (fun j hj => by
        rw [hdl] at hj
        show (W2.cell? _).isSome = true
        rw [hW2]
        exact (setCells_keeps _ _ _ _ _ ⟨hN _ (by omega), hNf _⟩).1)
      (fun j hj => by
        show W2.frozen? _ = false
        rw [hW2, World.frozen?_setCells]
        exact hNf _) (fun v hv => hsc v (List.mem_of_mem_drop hv))
  have hG63 : G ≤ 9223372036854775807 := by
    have := grownCap_le_maxLen w (n + 1) cap 9 (by unfold maxLen; omega)
    rw [← hG] at this
    unfold maxLen at this
    omega
  suffices h : CallsIn (FW false none) 0 Tryd.prog 39 #[.slice (some ⟨blk, off, none⟩) n cap, .int .i64 i, .slice (some ⟨vb, voff, none⟩) 1 vc] w fun e w' => e = .returned (.slice (some ⟨w.heap.size, 0, none⟩) (n + 1) G) ∧ w' = W3 from
    h.mono fun e w' ⟨he, hw⟩ => ⟨G, ROW, hGn, hRs, hRt, he, by rw [hw, hW3, hW2, hW1]⟩
  have hGi : ¬ (G = i) := by omega
  have hGim : ¬ (G = i + 1) := by omega
  have hci : ¬ (cap = i) := by omega
  have hw1 : IntKind.i64.wrap ((i : Int) + 1) = (i : Int) + 1 := by rw [IntKind.wrap_i64]; omega
  have hw2 : IntKind.i64.wrap ((n : Int) + 1) = (n : Int) + 1 := by rw [IntKind.wrap_i64]; omega
  have hw3 : IntKind.i64.wrap ((n : Int) + 1 - (i : Int)) = (n : Int) + 1 - (i : Int) := by rw [IntKind.wrap_i64]; omega
  have hb1 : (0 : Int) ≤ (i : Int) + 1 := by omega
  have hin : i ≤ n := by omega
  have htn : ((i : Int) + 1).toNat = i + 1 := by omega
  have hb3 : (i : Int) ≤ (n : Int) := by omega
  have hz2 : ¬ ((i : Int) = (n : Int)) := by omega
  have hz3 : (cap : Int) < (n : Int) + 1 := by omega
  have hic : i ≤ cap := by omega
  clear hkk hik hold hG hROW hN hNf hOb hOv hRs hRt hdl hW1 hW2 hW3 hH hsc hx h1x hbw hvw hn
  gi_enter Tryd.func39, Tryd.ntmps39
  gi_wp2_with (gi_at_builtin; refine wpListIn_append_run _ rfl _ _ _ _ rfl _ _ rfl rfl _ _ (hrz _) ?_)
  refine wpIn_region_any (by assumption) ?_
  change wpAnyIn _ _ _ _ _ _ _ _ _ (World.drew _)
  refine wpAnyIn_take (i := 0) (v := ?_) rfl rfl (by kernel_rfl) (by kernel_rfl) (by kernel_rfl) (fun _ _ _ h => h) ⟨Or.inl ⟨by rfl, ?_⟩, fun _ => rfl⟩ ?_
  rotate_left
  · intro w; go_simp; try with_reducible rfl
  refine wpAnyIn_take (i := 1) (v := ?_) rfl rfl (by kernel_rfl) (by kernel_rfl) (by kernel_rfl) (fun _ _ _ h => h) ⟨Or.inl ⟨by rfl, ?_⟩, fun _ => rfl⟩ ?_
  rotate_left
  · intro w; go_simp; try with_reducible rfl
  refine wpAnyIn_take (i := 2) (v := ?_) rfl rfl (by kernel_rfl) (by kernel_rfl) (by kernel_rfl) (fun _ _ _ h => h) ⟨Or.inl ⟨by rfl, ?_⟩, fun _ => rfl⟩ ?_
  rotate_left
  · intro w; go_simp; try with_reducible rfl
  refine wpAnyIn_take (i := 3) (v := ?_) rfl rfl (by kernel_rfl) (by kernel_rfl) (by kernel_rfl) (fun _ _ _ h => h) ⟨Or.inl ⟨by rfl, ?_⟩, fun _ => rfl⟩ ?_
  rotate_left
  · intro w; go_simp; try with_reducible rfl
  refine wpAnyIn_take (i := 5) (v := ?_) rfl rfl (by kernel_rfl) (by kernel_rfl) (by kernel_rfl) (fun _ _ _ h => h) ⟨Or.inl ⟨by rfl, ?_⟩, fun _ => rfl⟩ ?_
  rotate_left
  · intro w; go_simp; try with_reducible rfl
  refine wpAnyIn_take (i := 6) (v := ?_) rfl rfl (by kernel_rfl) (by kernel_rfl) (by kernel_rfl) (fun _ _ _ h => h) ⟨Or.inl ⟨by rfl, ?_⟩, fun _ => rfl⟩ ?_
  rotate_left
  · intro w; go_simp; try with_reducible rfl
  refine wpAnyIn_ready (rs := [4, 7]) (by kernel_rfl) (by simp) ?_
  refine AllReadyIn.cons rfl (fun K hK => ?_) (AllReadyIn.cons rfl (fun K hK => ?_) AllReadyIn.nil)
  · go_simp
    refine hK _ _ ?_
    clear hK K
    refine wpAnyIn_ready (rs := [7]) (by kernel_rfl) (by simp) ?_
    refine AllReadyIn.cons rfl (fun K hK => ?_) AllReadyIn.nil
    go_simp
    refine hK _ _ ?_
    clear hK K
    refine wpAnyIn_ready (rs := [8]) (by kernel_rfl) (by simp) ?_
    refine AllReadyIn.cons rfl (fun K hK => ?_) AllReadyIn.nil
    refine step_builtin_in rfl (.tmp 50) (.tmp 53) 22 22 rfl _ _ _ (by simp [Act.eval, Act.put]; rfl) (by simp [Act.eval, Act.put]; rfl) (hcpB _ _ _) ?_
    refine hK _ _ ?_
    clear hK K
    refine wpAnyIn_done (by kernel_rfl) ?_ _
    gi_wp2
    go_ret
    exact ⟨rfl, rfl⟩
  · go_simp
    refine hK _ _ ?_
    clear hK K
    refine wpAnyIn_ready (rs := [4]) (by kernel_rfl) (by simp) ?_
    refine AllReadyIn.cons rfl (fun K hK => ?_) AllReadyIn.nil
    go_simp
    refine hK _ _ ?_
    clear hK K
    refine wpAnyIn_ready (rs := [8]) (by kernel_rfl) (by simp) ?_
    refine AllReadyIn.cons rfl (fun K hK => ?_) AllReadyIn.nil
    refine step_builtin_in rfl (.tmp 50) (.tmp 53) 22 22 rfl _ _ _ (by simp [Act.eval, Act.put]; rfl) (by simp [Act.eval, Act.put]; rfl) (hcpB _ _ _) ?_
    refine hK _ _ ?_
    clear hK K
    refine wpAnyIn_done (by kernel_rfl) ?_ _
    gi_wp2
    go_ret
    exact ⟨rfl, rfl⟩


theorem insRun39 : InsRun Tryd.prog 39 9 := by
  refine ⟨fun w blk cap i vb voff vc d x cells t fr hb huf hm hcs hd hsc hcap hlim hi hvb hx hxs => ?_⟩
  have hcell : ∀ (k : Nat) v, d[k]? = some v → w.cell? ⟨blk, 0 + k, none⟩ = some v := fun k v hk => by
    rw [Nat.zero_add]
    exact (cell_block hb k).trans (hd k v hk)
  have hone : ∀ v ∈ d, v.oneCell' = true := fun v hv => one_of_scalar (hsc v hv)
  by_cases hroom : d.length + 1 ≤ cap
  · obtain ⟨tA, kA, hsa, hkA⟩ := cell_shape hx
    have hsb : w.shape? blk = some (t, cells.size) := by unfold World.shape?; rw [hb]
    refine (insS39 w blk 0 cap i vb voff vc d x tA t kA cells.size hsa hkA hsb (by omega) (unmarked hb hm _) hcell (fun k hk => ⟨?_, unmarked hb hm _⟩) hone hroom hlim hi hvb hx (one_of_scalar hxs)).mono fun e w' ⟨he, hw⟩ => .inl ⟨hroom, he, ?_⟩
    · rw [Nat.zero_add]
      have := cell_block (w := w) hb k
      simp only [at0] at this
      rw [this, Array.getElem?_eq_getElem (by omega)]; rfl
    · rw [hw, setCells_kit, setCells_kit, Nat.zero_add, Nat.zero_add]
  · refine (insG39 w blk 0 cap i vb voff vc d x hcell hone hcap (by omega) hlim hi hx (one_of_scalar hxs)).mono fun e w' ⟨G, ROW, hG, hR, hT, he, hw⟩ => .inr ?_
    obtain ⟨c1, h1⟩ := setCells_new w.drew 9 [x] i ROW
    obtain ⟨c2, h2⟩ := setCells_new w.drew.drew 9 (d.drop i) (i + 1) c1
    have hdl : (d.drop i).length = d.length - i := List.length_drop
    obtain ⟨e1, p1, p2, p3, p4⟩ := setCells_block w.heap.size [x] (w.drew.alloc (.cells ROW 9)) i ROW 9 (0, 0) (heap_new w.drew _) (by simp; omega)
    rw [← setCells_kit] at p1
    have q1 := (heap_new w.drew (.cells c1 9))
    rw [← h1] at q1
    obtain rfl : e1 = c1 := by have := p1.symm.trans q1; simpa using this
    obtain ⟨e2, r1, r2, r3, r4⟩ := setCells_block w.heap.size (d.drop i) (w.drew.drew.alloc (.cells e1 9)) (i + 1) e1 9 (0, 0) (heap_new w.drew.drew _) (by rw [hdl]; omega)
    rw [← setCells_kit] at r1
    have q2 := (heap_new w.drew.drew (.cells c2 9))
    rw [← h2] at q2
    obtain rfl : e2 = c2 := by have := r1.symm.trans q2; simpa using this
    refine ⟨G, e2, hG, by omega, he, fun q v hq => ?_, 2, ?_⟩
    · have htl : (d.take i).length = i := by rw [List.length_take]; omega
      by_cases c : q < i
      · rw [List.getElem?_append_left (by omega)] at hq
        rw [r3 q (.inl (by omega)), p3 q (.inl c)]
        exact hT q v hq
      · rw [List.getElem?_append_right (by omega), htl] at hq
        obtain ⟨q', hq'⟩ : ∃ q', q - i = q' := ⟨_, rfl⟩
        rw [hq'] at hq
        cases q' with
        | zero =>
          have e0 : q = i := by omega
          have h4 := p4 0 (by simp)
          rw [Nat.add_zero] at h4
          rw [e0, r3 i (.inl (by omega)), h4]
          exact hq
        | succ q' =>
          simp only [List.getElem?_cons_succ] at hq
          obtain rfl : q = (i + 1) + q' := by omega
          rw [r4 q' (List.getElem?_eq_some_iff.1 hq).1]
          exact hq
    · rw [hw]
      have e3 : ((w.drew.alloc (.cells ROW 9)).setCells w.heap.size i [x]).drew = w.drew.drew.alloc (.cells e1 9) := by rw [show (w.drew.alloc (.cells ROW 9)).setCells w.heap.size i [x] = _ from h1]; rfl
      rw [e3, show (w.drew.drew.alloc (.cells e1 9)).setCells w.heap.size (i + 1) (d.drop i) = _ from h2]
      rfl

end Go.Proofs.YteibklnligmanaaDoor


/- What is told by hand is sound. -/
namespace Go.Proofs.YteibklnligmanaaDoor
open Go Abs
theorem prim1OK : PrimSound G prim1 := by
  intro g p args hp r hE h1 h2
  have h1 : (if strT.contains g then some (strP 5) else if delT.contains g then some delP else if atoT.contains g then some (atoiP 0) else if fmtT.contains g then some fmtP else (insT.lookup g).map insP) = some p := h1
  split at h1
  · rename_i hc
    cases h1
    have hg : g = 43 := by simpa [strT] using hc
    subst hg
    exact strP_ok strRun h2
  split at h1
  · rename_i hc
    simp [delT] at hc
  split at h1
  · rename_i hc
    simp [atoT] at hc
  split at h1
  · rename_i hc
    simp [fmtT] at hc
  · obtain ⟨e, he, rfl⟩ := Option.map_eq_some_iff.1 h1
    have hm := mem_of_lookup he
    simp only [insT, List.mem_cons, List.not_mem_nil, or_false, Prod.mk.injEq] at hm
    rcases hm with ⟨rfl, rfl⟩
    · exact insP_ok insRun39 h2
end Go.Proofs.YteibklnligmanaaDoor


/- The seat's tables are sound: with what was gone through. -/
namespace Go.Proofs.YteibklnligmanaaDoor
open Go Abs
theorem primOK : PrimSound G prim0 := by
  intro g p args hp r hE h1 h2
  have h1 : (if worksT.contains g then some worksP else prim1 g) = some p := h1
  split at h1
  · rename_i hc
    simp [worksT] at hc
  · exact prim1OK g p args hp r hE h1 h2
end Go.Proofs.YteibklnligmanaaDoor

