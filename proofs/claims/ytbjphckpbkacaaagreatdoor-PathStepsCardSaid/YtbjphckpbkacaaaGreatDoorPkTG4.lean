/- What the row of this claim leans on: own texts, merged. -/
import Derived.Test.YtbjphckpbkacaaaGreatDoorProg
import Derived.WalkKit
import Derived.Shelf.RegionOpenPlain
import Derived.Lib.Walk
import Derived.TacticsInMore
import Derived.Shelf.RegionOpen
import Derived.Test.YtbjphckpbkacaaaGreatDoorPkTG3

/- The seat's types and functions, as equations. -/
namespace Go.Proofs.YtbjphckpbkacaaaGreatDoor
open Go Abs
set_option linter.unusedSimpArgs false

@[simp] theorem GP : G.P = Tryz.prog := rfl
@[simp] theorem cells0 : Tryz.prog.cellsOf 0 = 1 := by kernel_rfl
@[simp] theorem info0 : Tryz.prog.info? 0 = some Tryz.t0 := by kernel_rfl
@[simp] theorem agg0 : isAggT Tryz.prog 0 = false := by kernel_rfl
attribute [simp] Tryz.underlying0
@[simp] theorem bytes0 : Tryz.t0.bytes = 0 := rfl
@[simp] theorem cells1 : Tryz.prog.cellsOf 1 = 1 := by kernel_rfl
@[simp] theorem info1 : Tryz.prog.info? 1 = some Tryz.t1 := by kernel_rfl
@[simp] theorem agg1 : isAggT Tryz.prog 1 = false := by kernel_rfl
attribute [simp] Tryz.underlying1
@[simp] theorem bytes1 : Tryz.t1.bytes = 8 := rfl
@[simp] theorem zero1 : Tryz.t1.zero = some .nilFunc := rfl
@[simp] theorem cells2 : Tryz.prog.cellsOf 2 = 1 := by kernel_rfl
@[simp] theorem info2 : Tryz.prog.info? 2 = some Tryz.t2 := by kernel_rfl
@[simp] theorem agg2 : isAggT Tryz.prog 2 = false := by kernel_rfl
attribute [simp] Tryz.underlying2
@[simp] theorem bytes2 : Tryz.t2.bytes = 8 := rfl
@[simp] theorem zero2 : Tryz.t2.zero = some (.int .i64 0) := rfl
@[simp] theorem cells3 : Tryz.prog.cellsOf 3 = 1 := by kernel_rfl
@[simp] theorem info3 : Tryz.prog.info? 3 = some Tryz.t3 := by kernel_rfl
@[simp] theorem agg3 : isAggT Tryz.prog 3 = false := by kernel_rfl
attribute [simp] Tryz.underlying3
@[simp] theorem bytes3 : Tryz.t3.bytes = 8 := rfl
@[simp] theorem zero3 : Tryz.t3.zero = some (.int .i64 0) := rfl
@[simp] theorem cells4 : Tryz.prog.cellsOf 4 = 1 := by kernel_rfl
@[simp] theorem info4 : Tryz.prog.info? 4 = some Tryz.t4 := by kernel_rfl
@[simp] theorem agg4 : isAggT Tryz.prog 4 = false := by kernel_rfl
attribute [simp] Tryz.underlying4
@[simp] theorem bytes4 : Tryz.t4.bytes = 1 := rfl
@[simp] theorem zero4 : Tryz.t4.zero = some (.bool false) := rfl
@[simp] theorem cells5 : Tryz.prog.cellsOf 5 = 1 := by kernel_rfl
@[simp] theorem info5 : Tryz.prog.info? 5 = some Tryz.t5 := by kernel_rfl
@[simp] theorem agg5 : isAggT Tryz.prog 5 = false := by kernel_rfl
attribute [simp] Tryz.underlying5
@[simp] theorem bytes5 : Tryz.t5.bytes = 1 := rfl
@[simp] theorem zero5 : Tryz.t5.zero = some (.int .u8 0) := rfl
@[simp] theorem cells6 : Tryz.prog.cellsOf 6 = 1 := by kernel_rfl
@[simp] theorem info6 : Tryz.prog.info? 6 = some Tryz.t6 := by kernel_rfl
@[simp] theorem agg6 : isAggT Tryz.prog 6 = false := by kernel_rfl
attribute [simp] Tryz.underlying6
@[simp] theorem bytes6 : Tryz.t6.bytes = 1 := rfl
@[simp] theorem zero6 : Tryz.t6.zero = some (.int .u8 0) := rfl
@[simp] theorem cells7 : Tryz.prog.cellsOf 7 = 4 := by kernel_rfl
@[simp] theorem info7 : Tryz.prog.info? 7 = some Tryz.t7 := by kernel_rfl
@[simp] theorem agg7 : isAggT Tryz.prog 7 = true := by kernel_rfl
attribute [simp] Tryz.underlying7
@[simp] theorem bytes7 : Tryz.t7.bytes = 24 := rfl
@[simp] theorem zero7 : Tryz.t7.zero = some (.agg #[(.int .i64 0), (.int .i64 0), (.bool false), (.int .u8 0)]) := rfl
@[simp] theorem cells8 : Tryz.prog.cellsOf 8 = 4 := by kernel_rfl
@[simp] theorem info8 : Tryz.prog.info? 8 = some Tryz.t8 := by kernel_rfl
@[simp] theorem agg8 : isAggT Tryz.prog 8 = true := by kernel_rfl
attribute [simp] Tryz.underlying8
@[simp] theorem bytes8 : Tryz.t8.bytes = 24 := rfl
@[simp] theorem zero8 : Tryz.t8.zero = some (.agg #[(.int .i64 0), (.int .i64 0), (.bool false), (.int .u8 0)]) := rfl
@[simp] theorem cells9 : Tryz.prog.cellsOf 9 = 1 := by kernel_rfl
@[simp] theorem info9 : Tryz.prog.info? 9 = some Tryz.t9 := by kernel_rfl
@[simp] theorem agg9 : isAggT Tryz.prog 9 = false := by kernel_rfl
attribute [simp] Tryz.underlying9
@[simp] theorem bytes9 : Tryz.t9.bytes = 16 := rfl
@[simp] theorem zero9 : Tryz.t9.zero = some (.string ⟨#[]⟩) := rfl
@[simp] theorem cells10 : Tryz.prog.cellsOf 10 = 1 := by kernel_rfl
@[simp] theorem info10 : Tryz.prog.info? 10 = some Tryz.t10 := by kernel_rfl
@[simp] theorem agg10 : isAggT Tryz.prog 10 = false := by kernel_rfl
attribute [simp] Tryz.underlying10
@[simp] theorem bytes10 : Tryz.t10.bytes = 16 := rfl
@[simp] theorem zero10 : Tryz.t10.zero = some (.string ⟨#[]⟩) := rfl
@[simp] theorem cells11 : Tryz.prog.cellsOf 11 = 1 := by kernel_rfl
@[simp] theorem info11 : Tryz.prog.info? 11 = some Tryz.t11 := by kernel_rfl
@[simp] theorem agg11 : isAggT Tryz.prog 11 = false := by kernel_rfl
attribute [simp] Tryz.underlying11
@[simp] theorem bytes11 : Tryz.t11.bytes = 16 := rfl
@[simp] theorem zero11 : Tryz.t11.zero = some (.string ⟨#[]⟩) := rfl
@[simp] theorem cells12 : Tryz.prog.cellsOf 12 = 1 := by kernel_rfl
@[simp] theorem info12 : Tryz.prog.info? 12 = some Tryz.t12 := by kernel_rfl
@[simp] theorem agg12 : isAggT Tryz.prog 12 = false := by kernel_rfl
attribute [simp] Tryz.underlying12
@[simp] theorem bytes12 : Tryz.t12.bytes = 8 := rfl
@[simp] theorem zero12 : Tryz.t12.zero = some (.int .u64 0) := rfl
@[simp] theorem cells13 : Tryz.prog.cellsOf 13 = 2 := by kernel_rfl
@[simp] theorem info13 : Tryz.prog.info? 13 = some Tryz.t13 := by kernel_rfl
@[simp] theorem agg13 : isAggT Tryz.prog 13 = true := by kernel_rfl
attribute [simp] Tryz.underlying13
@[simp] theorem bytes13 : Tryz.t13.bytes = 24 := rfl
@[simp] theorem zero13 : Tryz.t13.zero = some (.agg #[(.string ⟨#[]⟩), (.int .u64 0)]) := rfl
@[simp] theorem cells14 : Tryz.prog.cellsOf 14 = 2 := by kernel_rfl
@[simp] theorem info14 : Tryz.prog.info? 14 = some Tryz.t14 := by kernel_rfl
@[simp] theorem agg14 : isAggT Tryz.prog 14 = true := by kernel_rfl
attribute [simp] Tryz.underlying14
@[simp] theorem bytes14 : Tryz.t14.bytes = 24 := rfl
@[simp] theorem zero14 : Tryz.t14.zero = some (.agg #[(.string ⟨#[]⟩), (.int .u64 0)]) := rfl
@[simp] theorem cells15 : Tryz.prog.cellsOf 15 = 1 := by kernel_rfl
@[simp] theorem info15 : Tryz.prog.info? 15 = some Tryz.t15 := by kernel_rfl
@[simp] theorem agg15 : isAggT Tryz.prog 15 = false := by kernel_rfl
attribute [simp] Tryz.underlying15
@[simp] theorem bytes15 : Tryz.t15.bytes = 8 := rfl
@[simp] theorem zero15 : Tryz.t15.zero = some (.pointer none) := rfl
@[simp] theorem cells16 : Tryz.prog.cellsOf 16 = 1 := by kernel_rfl
@[simp] theorem info16 : Tryz.prog.info? 16 = some Tryz.t16 := by kernel_rfl
@[simp] theorem agg16 : isAggT Tryz.prog 16 = false := by kernel_rfl
attribute [simp] Tryz.underlying16
@[simp] theorem bytes16 : Tryz.t16.bytes = 8 := rfl
@[simp] theorem zero16 : Tryz.t16.zero = some (.pointer none) := rfl
@[simp] theorem cells17 : Tryz.prog.cellsOf 17 = 1 := by kernel_rfl
@[simp] theorem info17 : Tryz.prog.info? 17 = some Tryz.t17 := by kernel_rfl
@[simp] theorem agg17 : isAggT Tryz.prog 17 = false := by kernel_rfl
attribute [simp] Tryz.underlying17
@[simp] theorem bytes17 : Tryz.t17.bytes = 8 := rfl
@[simp] theorem zero17 : Tryz.t17.zero = some (.pointer none) := rfl
@[simp] theorem cells18 : Tryz.prog.cellsOf 18 = 1 := by kernel_rfl
@[simp] theorem info18 : Tryz.prog.info? 18 = some Tryz.t18 := by kernel_rfl
@[simp] theorem agg18 : isAggT Tryz.prog 18 = true := by kernel_rfl
attribute [simp] Tryz.underlying18
@[simp] theorem bytes18 : Tryz.t18.bytes = 8 := rfl
@[simp] theorem zero18 : Tryz.t18.zero = some (.agg #[(.pointer none)]) := rfl
@[simp] theorem cells19 : Tryz.prog.cellsOf 19 = 1 := by kernel_rfl
@[simp] theorem info19 : Tryz.prog.info? 19 = some Tryz.t19 := by kernel_rfl
@[simp] theorem agg19 : isAggT Tryz.prog 19 = true := by kernel_rfl
attribute [simp] Tryz.underlying19
@[simp] theorem bytes19 : Tryz.t19.bytes = 8 := rfl
@[simp] theorem zero19 : Tryz.t19.zero = some (.agg #[(.pointer none)]) := rfl
@[simp] theorem cells20 : Tryz.prog.cellsOf 20 = 1 := by kernel_rfl
@[simp] theorem info20 : Tryz.prog.info? 20 = some Tryz.t20 := by kernel_rfl
@[simp] theorem agg20 : isAggT Tryz.prog 20 = false := by kernel_rfl
attribute [simp] Tryz.underlying20
@[simp] theorem bytes20 : Tryz.t20.bytes = 16 := rfl
@[simp] theorem zero20 : Tryz.t20.zero = some .nilIface := rfl
@[simp] theorem cells21 : Tryz.prog.cellsOf 21 = 1 := by kernel_rfl
@[simp] theorem info21 : Tryz.prog.info? 21 = some Tryz.t21 := by kernel_rfl
@[simp] theorem agg21 : isAggT Tryz.prog 21 = false := by kernel_rfl
attribute [simp] Tryz.underlying21
@[simp] theorem bytes21 : Tryz.t21.bytes = 4 := rfl
@[simp] theorem zero21 : Tryz.t21.zero = some (.int .i32 0) := rfl
@[simp] theorem cells22 : Tryz.prog.cellsOf 22 = 1 := by kernel_rfl
@[simp] theorem info22 : Tryz.prog.info? 22 = some Tryz.t22 := by kernel_rfl
@[simp] theorem agg22 : isAggT Tryz.prog 22 = false := by kernel_rfl
attribute [simp] Tryz.underlying22
@[simp] theorem bytes22 : Tryz.t22.bytes = 24 := rfl
@[simp] theorem zero22 : Tryz.t22.zero = some (.slice none 0 0) := rfl
@[simp] theorem cells23 : Tryz.prog.cellsOf 23 = 1 := by kernel_rfl
@[simp] theorem info23 : Tryz.prog.info? 23 = some Tryz.t23 := by kernel_rfl
@[simp] theorem agg23 : isAggT Tryz.prog 23 = false := by kernel_rfl
attribute [simp] Tryz.underlying23
@[simp] theorem bytes23 : Tryz.t23.bytes = 8 := rfl
@[simp] theorem zero23 : Tryz.t23.zero = some .nilFunc := rfl
@[simp] theorem cells24 : Tryz.prog.cellsOf 24 = 1 := by kernel_rfl
@[simp] theorem info24 : Tryz.prog.info? 24 = some Tryz.t24 := by kernel_rfl
@[simp] theorem agg24 : isAggT Tryz.prog 24 = false := by kernel_rfl
attribute [simp] Tryz.underlying24
@[simp] theorem bytes24 : Tryz.t24.bytes = 8 := rfl
@[simp] theorem zero24 : Tryz.t24.zero = some .nilFunc := rfl
@[simp] theorem cells25 : Tryz.prog.cellsOf 25 = 1 := by kernel_rfl
@[simp] theorem info25 : Tryz.prog.info? 25 = some Tryz.t25 := by kernel_rfl
@[simp] theorem agg25 : isAggT Tryz.prog 25 = false := by kernel_rfl
attribute [simp] Tryz.underlying25
@[simp] theorem bytes25 : Tryz.t25.bytes = 8 := rfl
@[simp] theorem zero25 : Tryz.t25.zero = some (.int .i64 0) := rfl
@[simp] theorem cells26 : Tryz.prog.cellsOf 26 = 1 := by kernel_rfl
@[simp] theorem info26 : Tryz.prog.info? 26 = some Tryz.t26 := by kernel_rfl
@[simp] theorem agg26 : isAggT Tryz.prog 26 = false := by kernel_rfl
attribute [simp] Tryz.underlying26
@[simp] theorem bytes26 : Tryz.t26.bytes = 0 := rfl
@[simp] theorem cells27 : Tryz.prog.cellsOf 27 = 1 := by kernel_rfl
@[simp] theorem info27 : Tryz.prog.info? 27 = some Tryz.t27 := by kernel_rfl
@[simp] theorem agg27 : isAggT Tryz.prog 27 = false := by kernel_rfl
attribute [simp] Tryz.underlying27
@[simp] theorem bytes27 : Tryz.t27.bytes = 8 := rfl
@[simp] theorem zero27 : Tryz.t27.zero = some .nilFunc := rfl
@[simp] theorem cells28 : Tryz.prog.cellsOf 28 = 1 := by kernel_rfl
@[simp] theorem info28 : Tryz.prog.info? 28 = some Tryz.t28 := by kernel_rfl
@[simp] theorem agg28 : isAggT Tryz.prog 28 = false := by kernel_rfl
attribute [simp] Tryz.underlying28
@[simp] theorem bytes28 : Tryz.t28.bytes = 24 := rfl
@[simp] theorem zero28 : Tryz.t28.zero = some (.slice none 0 0) := rfl
@[simp] theorem cells29 : Tryz.prog.cellsOf 29 = 1 := by kernel_rfl
@[simp] theorem info29 : Tryz.prog.info? 29 = some Tryz.t29 := by kernel_rfl
@[simp] theorem agg29 : isAggT Tryz.prog 29 = false := by kernel_rfl
attribute [simp] Tryz.underlying29
@[simp] theorem bytes29 : Tryz.t29.bytes = 0 := rfl
@[simp] theorem cells30 : Tryz.prog.cellsOf 30 = 1 := by kernel_rfl
@[simp] theorem info30 : Tryz.prog.info? 30 = some Tryz.t30 := by kernel_rfl
@[simp] theorem agg30 : isAggT Tryz.prog 30 = false := by kernel_rfl
attribute [simp] Tryz.underlying30
@[simp] theorem bytes30 : Tryz.t30.bytes = 8 := rfl
@[simp] theorem zero30 : Tryz.t30.zero = some .nilFunc := rfl
@[simp] theorem cells31 : Tryz.prog.cellsOf 31 = 1 := by kernel_rfl
@[simp] theorem info31 : Tryz.prog.info? 31 = some Tryz.t31 := by kernel_rfl
@[simp] theorem agg31 : isAggT Tryz.prog 31 = false := by kernel_rfl
attribute [simp] Tryz.underlying31
@[simp] theorem bytes31 : Tryz.t31.bytes = 0 := rfl
@[simp] theorem cells32 : Tryz.prog.cellsOf 32 = 1 := by kernel_rfl
@[simp] theorem info32 : Tryz.prog.info? 32 = some Tryz.t32 := by kernel_rfl
@[simp] theorem agg32 : isAggT Tryz.prog 32 = false := by kernel_rfl
attribute [simp] Tryz.underlying32
@[simp] theorem bytes32 : Tryz.t32.bytes = 8 := rfl
@[simp] theorem zero32 : Tryz.t32.zero = some .nilFunc := rfl
@[simp] theorem cells33 : Tryz.prog.cellsOf 33 = 1 := by kernel_rfl
@[simp] theorem info33 : Tryz.prog.info? 33 = some Tryz.t33 := by kernel_rfl
@[simp] theorem agg33 : isAggT Tryz.prog 33 = false := by kernel_rfl
attribute [simp] Tryz.underlying33
@[simp] theorem bytes33 : Tryz.t33.bytes = 8 := rfl
@[simp] theorem zero33 : Tryz.t33.zero = some .nilFunc := rfl
@[simp] theorem cells34 : Tryz.prog.cellsOf 34 = 1 := by kernel_rfl
@[simp] theorem info34 : Tryz.prog.info? 34 = some Tryz.t34 := by kernel_rfl
@[simp] theorem agg34 : isAggT Tryz.prog 34 = false := by kernel_rfl
attribute [simp] Tryz.underlying34
@[simp] theorem bytes34 : Tryz.t34.bytes = 8 := rfl
@[simp] theorem zero34 : Tryz.t34.zero = some .nilFunc := rfl
@[simp] theorem cells35 : Tryz.prog.cellsOf 35 = 1 := by kernel_rfl
@[simp] theorem info35 : Tryz.prog.info? 35 = some Tryz.t35 := by kernel_rfl
@[simp] theorem agg35 : isAggT Tryz.prog 35 = false := by kernel_rfl
attribute [simp] Tryz.underlying35
@[simp] theorem bytes35 : Tryz.t35.bytes = 8 := rfl
@[simp] theorem zero35 : Tryz.t35.zero = some .nilFunc := rfl
@[simp] theorem cells36 : Tryz.prog.cellsOf 36 = 1 := by kernel_rfl
@[simp] theorem info36 : Tryz.prog.info? 36 = some Tryz.t36 := by kernel_rfl
@[simp] theorem agg36 : isAggT Tryz.prog 36 = false := by kernel_rfl
attribute [simp] Tryz.underlying36
@[simp] theorem bytes36 : Tryz.t36.bytes = 8 := rfl
@[simp] theorem zero36 : Tryz.t36.zero = some .nilFunc := rfl
@[simp] theorem cells37 : Tryz.prog.cellsOf 37 = 1 := by kernel_rfl
@[simp] theorem info37 : Tryz.prog.info? 37 = some Tryz.t37 := by kernel_rfl
@[simp] theorem agg37 : isAggT Tryz.prog 37 = false := by kernel_rfl
attribute [simp] Tryz.underlying37
@[simp] theorem bytes37 : Tryz.t37.bytes = 24 := rfl
@[simp] theorem zero37 : Tryz.t37.zero = some (.slice none 0 0) := rfl
@[simp] theorem cells38 : Tryz.prog.cellsOf 38 = 1 := by kernel_rfl
@[simp] theorem info38 : Tryz.prog.info? 38 = some Tryz.t38 := by kernel_rfl
@[simp] theorem agg38 : isAggT Tryz.prog 38 = false := by kernel_rfl
attribute [simp] Tryz.underlying38
@[simp] theorem bytes38 : Tryz.t38.bytes = 8 := rfl
@[simp] theorem zero38 : Tryz.t38.zero = some .nilFunc := rfl
@[simp] theorem cells39 : Tryz.prog.cellsOf 39 = 1 := by kernel_rfl
@[simp] theorem info39 : Tryz.prog.info? 39 = some Tryz.t39 := by kernel_rfl
@[simp] theorem agg39 : isAggT Tryz.prog 39 = false := by kernel_rfl
attribute [simp] Tryz.underlying39
@[simp] theorem bytes39 : Tryz.t39.bytes = 0 := rfl
@[simp] theorem cells40 : Tryz.prog.cellsOf 40 = 1 := by kernel_rfl
@[simp] theorem info40 : Tryz.prog.info? 40 = some Tryz.t40 := by kernel_rfl
@[simp] theorem agg40 : isAggT Tryz.prog 40 = false := by kernel_rfl
attribute [simp] Tryz.underlying40
@[simp] theorem bytes40 : Tryz.t40.bytes = 8 := rfl
@[simp] theorem zero40 : Tryz.t40.zero = some .nilFunc := rfl
@[simp] theorem cells41 : Tryz.prog.cellsOf 41 = 1 := by kernel_rfl
@[simp] theorem info41 : Tryz.prog.info? 41 = some Tryz.t41 := by kernel_rfl
@[simp] theorem agg41 : isAggT Tryz.prog 41 = false := by kernel_rfl
attribute [simp] Tryz.underlying41
@[simp] theorem bytes41 : Tryz.t41.bytes = 8 := rfl
@[simp] theorem zero41 : Tryz.t41.zero = some .nilFunc := rfl
@[simp] theorem cells42 : Tryz.prog.cellsOf 42 = 2 := by kernel_rfl
@[simp] theorem info42 : Tryz.prog.info? 42 = some Tryz.t42 := by kernel_rfl
@[simp] theorem agg42 : isAggT Tryz.prog 42 = true := by kernel_rfl
attribute [simp] Tryz.underlying42
@[simp] theorem bytes42 : Tryz.t42.bytes = 24 := rfl
@[simp] theorem zero42 : Tryz.t42.zero = some (.agg #[(.string ⟨#[]⟩), (.int .i64 0)]) := rfl
@[simp] theorem cells43 : Tryz.prog.cellsOf 43 = 2 := by kernel_rfl
@[simp] theorem info43 : Tryz.prog.info? 43 = some Tryz.t43 := by kernel_rfl
@[simp] theorem agg43 : isAggT Tryz.prog 43 = true := by kernel_rfl
attribute [simp] Tryz.underlying43
@[simp] theorem bytes43 : Tryz.t43.bytes = 24 := rfl
@[simp] theorem zero43 : Tryz.t43.zero = some (.agg #[(.string ⟨#[]⟩), (.int .i64 0)]) := rfl
@[simp] theorem cells44 : Tryz.prog.cellsOf 44 = 1 := by kernel_rfl
@[simp] theorem info44 : Tryz.prog.info? 44 = some Tryz.t44 := by kernel_rfl
@[simp] theorem agg44 : isAggT Tryz.prog 44 = false := by kernel_rfl
attribute [simp] Tryz.underlying44
@[simp] theorem bytes44 : Tryz.t44.bytes = 8 := rfl
@[simp] theorem zero44 : Tryz.t44.zero = some .nilFunc := rfl
@[simp] theorem cells45 : Tryz.prog.cellsOf 45 = 1 := by kernel_rfl
@[simp] theorem info45 : Tryz.prog.info? 45 = some Tryz.t45 := by kernel_rfl
@[simp] theorem agg45 : isAggT Tryz.prog 45 = false := by kernel_rfl
attribute [simp] Tryz.underlying45
@[simp] theorem bytes45 : Tryz.t45.bytes = 8 := rfl
@[simp] theorem zero45 : Tryz.t45.zero = some .nilFunc := rfl
@[simp] theorem cells46 : Tryz.prog.cellsOf 46 = 1 := by kernel_rfl
@[simp] theorem info46 : Tryz.prog.info? 46 = some Tryz.t46 := by kernel_rfl
@[simp] theorem agg46 : isAggT Tryz.prog 46 = false := by kernel_rfl
attribute [simp] Tryz.underlying46
@[simp] theorem bytes46 : Tryz.t46.bytes = 8 := rfl
@[simp] theorem zero46 : Tryz.t46.zero = some .nilFunc := rfl
@[simp] theorem cells47 : Tryz.prog.cellsOf 47 = 1 := by kernel_rfl
@[simp] theorem info47 : Tryz.prog.info? 47 = some Tryz.t47 := by kernel_rfl
@[simp] theorem agg47 : isAggT Tryz.prog 47 = false := by kernel_rfl
attribute [simp] Tryz.underlying47
@[simp] theorem bytes47 : Tryz.t47.bytes = 0 := rfl
@[simp] theorem cells48 : Tryz.prog.cellsOf 48 = 1 := by kernel_rfl
@[simp] theorem info48 : Tryz.prog.info? 48 = some Tryz.t48 := by kernel_rfl
@[simp] theorem agg48 : isAggT Tryz.prog 48 = false := by kernel_rfl
attribute [simp] Tryz.underlying48
@[simp] theorem bytes48 : Tryz.t48.bytes = 8 := rfl
@[simp] theorem zero48 : Tryz.t48.zero = some .nilFunc := rfl
@[simp] theorem cells49 : Tryz.prog.cellsOf 49 = 1 := by kernel_rfl
@[simp] theorem info49 : Tryz.prog.info? 49 = some Tryz.t49 := by kernel_rfl
@[simp] theorem agg49 : isAggT Tryz.prog 49 = false := by kernel_rfl
attribute [simp] Tryz.underlying49
@[simp] theorem bytes49 : Tryz.t49.bytes = 24 := rfl
@[simp] theorem zero49 : Tryz.t49.zero = some (.slice none 0 0) := rfl
@[simp] theorem cells50 : Tryz.prog.cellsOf 50 = 1 := by kernel_rfl
@[simp] theorem info50 : Tryz.prog.info? 50 = some Tryz.t50 := by kernel_rfl
@[simp] theorem agg50 : isAggT Tryz.prog 50 = false := by kernel_rfl
attribute [simp] Tryz.underlying50
@[simp] theorem bytes50 : Tryz.t50.bytes = 0 := rfl
@[simp] theorem cells51 : Tryz.prog.cellsOf 51 = 1 := by kernel_rfl
@[simp] theorem info51 : Tryz.prog.info? 51 = some Tryz.t51 := by kernel_rfl
@[simp] theorem agg51 : isAggT Tryz.prog 51 = false := by kernel_rfl
attribute [simp] Tryz.underlying51
@[simp] theorem bytes51 : Tryz.t51.bytes = 8 := rfl
@[simp] theorem zero51 : Tryz.t51.zero = some .nilFunc := rfl
@[simp] theorem cells52 : Tryz.prog.cellsOf 52 = 1 := by kernel_rfl
@[simp] theorem info52 : Tryz.prog.info? 52 = some Tryz.t52 := by kernel_rfl
@[simp] theorem agg52 : isAggT Tryz.prog 52 = false := by kernel_rfl
attribute [simp] Tryz.underlying52
@[simp] theorem bytes52 : Tryz.t52.bytes = 8 := rfl
@[simp] theorem zero52 : Tryz.t52.zero = some (.int .i64 0) := rfl
@[simp] theorem cells53 : Tryz.prog.cellsOf 53 = 4 := by kernel_rfl
@[simp] theorem info53 : Tryz.prog.info? 53 = some Tryz.t53 := by kernel_rfl
@[simp] theorem agg53 : isAggT Tryz.prog 53 = true := by kernel_rfl
attribute [simp] Tryz.underlying53
@[simp] theorem bytes53 : Tryz.t53.bytes = 40 := rfl
@[simp] theorem zero53 : Tryz.t53.zero = some (.agg #[(.int .i64 0), (.int .i64 0), (.string ⟨#[]⟩), (.int .i64 0)]) := rfl
@[simp] theorem cells54 : Tryz.prog.cellsOf 54 = 4 := by kernel_rfl
@[simp] theorem info54 : Tryz.prog.info? 54 = some Tryz.t54 := by kernel_rfl
@[simp] theorem agg54 : isAggT Tryz.prog 54 = true := by kernel_rfl
attribute [simp] Tryz.underlying54
@[simp] theorem bytes54 : Tryz.t54.bytes = 40 := rfl
@[simp] theorem zero54 : Tryz.t54.zero = some (.agg #[(.int .i64 0), (.int .i64 0), (.string ⟨#[]⟩), (.int .i64 0)]) := rfl
@[simp] theorem cells55 : Tryz.prog.cellsOf 55 = 1 := by kernel_rfl
@[simp] theorem info55 : Tryz.prog.info? 55 = some Tryz.t55 := by kernel_rfl
@[simp] theorem agg55 : isAggT Tryz.prog 55 = false := by kernel_rfl
attribute [simp] Tryz.underlying55
@[simp] theorem bytes55 : Tryz.t55.bytes = 0 := rfl
@[simp] theorem cells56 : Tryz.prog.cellsOf 56 = 1 := by kernel_rfl
@[simp] theorem info56 : Tryz.prog.info? 56 = some Tryz.t56 := by kernel_rfl
@[simp] theorem agg56 : isAggT Tryz.prog 56 = false := by kernel_rfl
attribute [simp] Tryz.underlying56
@[simp] theorem bytes56 : Tryz.t56.bytes = 8 := rfl
@[simp] theorem zero56 : Tryz.t56.zero = some .nilFunc := rfl
@[simp] theorem cells57 : Tryz.prog.cellsOf 57 = 1 := by kernel_rfl
@[simp] theorem info57 : Tryz.prog.info? 57 = some Tryz.t57 := by kernel_rfl
@[simp] theorem agg57 : isAggT Tryz.prog 57 = false := by kernel_rfl
attribute [simp] Tryz.underlying57
@[simp] theorem bytes57 : Tryz.t57.bytes = 0 := rfl
@[simp] theorem cells58 : Tryz.prog.cellsOf 58 = 1 := by kernel_rfl
@[simp] theorem info58 : Tryz.prog.info? 58 = some Tryz.t58 := by kernel_rfl
@[simp] theorem agg58 : isAggT Tryz.prog 58 = false := by kernel_rfl
attribute [simp] Tryz.underlying58
@[simp] theorem bytes58 : Tryz.t58.bytes = 8 := rfl
@[simp] theorem zero58 : Tryz.t58.zero = some .nilFunc := rfl
@[simp] theorem cells59 : Tryz.prog.cellsOf 59 = 1 := by kernel_rfl
@[simp] theorem info59 : Tryz.prog.info? 59 = some Tryz.t59 := by kernel_rfl
@[simp] theorem agg59 : isAggT Tryz.prog 59 = false := by kernel_rfl
attribute [simp] Tryz.underlying59
@[simp] theorem bytes59 : Tryz.t59.bytes = 16 := rfl
@[simp] theorem zero59 : Tryz.t59.zero = some .nilIface := rfl
@[simp] theorem cells60 : Tryz.prog.cellsOf 60 = 1 := by kernel_rfl
@[simp] theorem info60 : Tryz.prog.info? 60 = some Tryz.t60 := by kernel_rfl
@[simp] theorem agg60 : isAggT Tryz.prog 60 = false := by kernel_rfl
attribute [simp] Tryz.underlying60
@[simp] theorem bytes60 : Tryz.t60.bytes = 16 := rfl
@[simp] theorem zero60 : Tryz.t60.zero = some .nilIface := rfl
@[simp] theorem cells61 : Tryz.prog.cellsOf 61 = 1 := by kernel_rfl
@[simp] theorem info61 : Tryz.prog.info? 61 = some Tryz.t61 := by kernel_rfl
@[simp] theorem agg61 : isAggT Tryz.prog 61 = false := by kernel_rfl
attribute [simp] Tryz.underlying61
@[simp] theorem bytes61 : Tryz.t61.bytes = 0 := rfl
@[simp] theorem cells62 : Tryz.prog.cellsOf 62 = 1 := by kernel_rfl
@[simp] theorem info62 : Tryz.prog.info? 62 = some Tryz.t62 := by kernel_rfl
@[simp] theorem agg62 : isAggT Tryz.prog 62 = false := by kernel_rfl
attribute [simp] Tryz.underlying62
@[simp] theorem bytes62 : Tryz.t62.bytes = 8 := rfl
@[simp] theorem zero62 : Tryz.t62.zero = some .nilFunc := rfl
@[simp] theorem cells63 : Tryz.prog.cellsOf 63 = 1 := by kernel_rfl
@[simp] theorem info63 : Tryz.prog.info? 63 = some Tryz.t63 := by kernel_rfl
@[simp] theorem agg63 : isAggT Tryz.prog 63 = false := by kernel_rfl
attribute [simp] Tryz.underlying63
@[simp] theorem bytes63 : Tryz.t63.bytes = 8 := rfl
@[simp] theorem zero63 : Tryz.t63.zero = some .nilFunc := rfl
@[simp] theorem cells64 : Tryz.prog.cellsOf 64 = 1 := by kernel_rfl
@[simp] theorem info64 : Tryz.prog.info? 64 = some Tryz.t64 := by kernel_rfl
@[simp] theorem agg64 : isAggT Tryz.prog 64 = false := by kernel_rfl
attribute [simp] Tryz.underlying64
@[simp] theorem bytes64 : Tryz.t64.bytes = 8 := rfl
@[simp] theorem zero64 : Tryz.t64.zero = some .nilFunc := rfl
@[simp] theorem cells65 : Tryz.prog.cellsOf 65 = 1 := by kernel_rfl
@[simp] theorem info65 : Tryz.prog.info? 65 = some Tryz.t65 := by kernel_rfl
@[simp] theorem agg65 : isAggT Tryz.prog 65 = false := by kernel_rfl
attribute [simp] Tryz.underlying65
@[simp] theorem bytes65 : Tryz.t65.bytes = 8 := rfl
@[simp] theorem zero65 : Tryz.t65.zero = some .nilFunc := rfl
@[simp] theorem cells66 : Tryz.prog.cellsOf 66 = 1 := by kernel_rfl
@[simp] theorem info66 : Tryz.prog.info? 66 = some Tryz.t66 := by kernel_rfl
@[simp] theorem agg66 : isAggT Tryz.prog 66 = false := by kernel_rfl
attribute [simp] Tryz.underlying66
@[simp] theorem bytes66 : Tryz.t66.bytes = 8 := rfl
@[simp] theorem zero66 : Tryz.t66.zero = some .nilFunc := rfl
@[simp] theorem cells67 : Tryz.prog.cellsOf 67 = 1 := by kernel_rfl
@[simp] theorem info67 : Tryz.prog.info? 67 = some Tryz.t67 := by kernel_rfl
@[simp] theorem agg67 : isAggT Tryz.prog 67 = false := by kernel_rfl
attribute [simp] Tryz.underlying67
@[simp] theorem bytes67 : Tryz.t67.bytes = 8 := rfl
@[simp] theorem zero67 : Tryz.t67.zero = some .nilFunc := rfl
@[simp] theorem cells68 : Tryz.prog.cellsOf 68 = 2 := by kernel_rfl
@[simp] theorem info68 : Tryz.prog.info? 68 = some Tryz.t68 := by kernel_rfl
@[simp] theorem agg68 : isAggT Tryz.prog 68 = true := by kernel_rfl
attribute [simp] Tryz.underlying68
@[simp] theorem bytes68 : Tryz.t68.bytes = 24 := rfl
@[simp] theorem zero68 : Tryz.t68.zero = some (.agg #[(.string ⟨#[]⟩), (.int .i64 0)]) := rfl
@[simp] theorem cells69 : Tryz.prog.cellsOf 69 = 1 := by kernel_rfl
@[simp] theorem info69 : Tryz.prog.info? 69 = some Tryz.t69 := by kernel_rfl
@[simp] theorem agg69 : isAggT Tryz.prog 69 = false := by kernel_rfl
attribute [simp] Tryz.underlying69
@[simp] theorem bytes69 : Tryz.t69.bytes = 8 := rfl
@[simp] theorem zero69 : Tryz.t69.zero = some .nilFunc := rfl
@[simp] theorem cells70 : Tryz.prog.cellsOf 70 = 1 := by kernel_rfl
@[simp] theorem info70 : Tryz.prog.info? 70 = some Tryz.t70 := by kernel_rfl
@[simp] theorem agg70 : isAggT Tryz.prog 70 = false := by kernel_rfl
attribute [simp] Tryz.underlying70
@[simp] theorem bytes70 : Tryz.t70.bytes = 8 := rfl
@[simp] theorem zero70 : Tryz.t70.zero = some (.pointer none) := rfl
@[simp] theorem cells71 : Tryz.prog.cellsOf 71 = 1 := by kernel_rfl
@[simp] theorem info71 : Tryz.prog.info? 71 = some Tryz.t71 := by kernel_rfl
@[simp] theorem agg71 : isAggT Tryz.prog 71 = false := by kernel_rfl
attribute [simp] Tryz.underlying71
@[simp] theorem bytes71 : Tryz.t71.bytes = 24 := rfl
@[simp] theorem zero71 : Tryz.t71.zero = some (.slice none 0 0) := rfl
@[simp] theorem cells72 : Tryz.prog.cellsOf 72 = 2 := by kernel_rfl
@[simp] theorem info72 : Tryz.prog.info? 72 = some Tryz.t72 := by kernel_rfl
@[simp] theorem agg72 : isAggT Tryz.prog 72 = true := by kernel_rfl
attribute [simp] Tryz.underlying72
@[simp] theorem bytes72 : Tryz.t72.bytes = 32 := rfl
@[simp] theorem zero72 : Tryz.t72.zero = some (.agg #[(.pointer none), (.slice none 0 0)]) := rfl
@[simp] theorem cells73 : Tryz.prog.cellsOf 73 = 2 := by kernel_rfl
@[simp] theorem info73 : Tryz.prog.info? 73 = some Tryz.t73 := by kernel_rfl
@[simp] theorem agg73 : isAggT Tryz.prog 73 = true := by kernel_rfl
attribute [simp] Tryz.underlying73
@[simp] theorem bytes73 : Tryz.t73.bytes = 32 := rfl
@[simp] theorem zero73 : Tryz.t73.zero = some (.agg #[(.pointer none), (.slice none 0 0)]) := rfl
@[simp] theorem cells74 : Tryz.prog.cellsOf 74 = 1 := by kernel_rfl
@[simp] theorem info74 : Tryz.prog.info? 74 = some Tryz.t74 := by kernel_rfl
@[simp] theorem agg74 : isAggT Tryz.prog 74 = false := by kernel_rfl
attribute [simp] Tryz.underlying74
@[simp] theorem bytes74 : Tryz.t74.bytes = 8 := rfl
@[simp] theorem zero74 : Tryz.t74.zero = some .nilFunc := rfl
@[simp] theorem cells75 : Tryz.prog.cellsOf 75 = 1 := by kernel_rfl
@[simp] theorem info75 : Tryz.prog.info? 75 = some Tryz.t75 := by kernel_rfl
@[simp] theorem agg75 : isAggT Tryz.prog 75 = false := by kernel_rfl
attribute [simp] Tryz.underlying75
@[simp] theorem bytes75 : Tryz.t75.bytes = 8 := rfl
@[simp] theorem zero75 : Tryz.t75.zero = some .nilFunc := rfl
@[simp] theorem cells76 : Tryz.prog.cellsOf 76 = 1 := by kernel_rfl
@[simp] theorem info76 : Tryz.prog.info? 76 = some Tryz.t76 := by kernel_rfl
@[simp] theorem agg76 : isAggT Tryz.prog 76 = false := by kernel_rfl
attribute [simp] Tryz.underlying76
@[simp] theorem bytes76 : Tryz.t76.bytes = 8 := rfl
@[simp] theorem zero76 : Tryz.t76.zero = some .nilFunc := rfl
@[simp] theorem cells77 : Tryz.prog.cellsOf 77 = 1 := by kernel_rfl
@[simp] theorem info77 : Tryz.prog.info? 77 = some Tryz.t77 := by kernel_rfl
@[simp] theorem agg77 : isAggT Tryz.prog 77 = false := by kernel_rfl
attribute [simp] Tryz.underlying77
@[simp] theorem bytes77 : Tryz.t77.bytes = 8 := rfl
@[simp] theorem zero77 : Tryz.t77.zero = some .nilFunc := rfl
@[simp] theorem cells78 : Tryz.prog.cellsOf 78 = 1 := by kernel_rfl
@[simp] theorem info78 : Tryz.prog.info? 78 = some Tryz.t78 := by kernel_rfl
@[simp] theorem agg78 : isAggT Tryz.prog 78 = false := by kernel_rfl
attribute [simp] Tryz.underlying78
@[simp] theorem bytes78 : Tryz.t78.bytes = 8 := rfl
@[simp] theorem zero78 : Tryz.t78.zero = some .nilFunc := rfl
@[simp] theorem cells79 : Tryz.prog.cellsOf 79 = 1 := by kernel_rfl
@[simp] theorem info79 : Tryz.prog.info? 79 = some Tryz.t79 := by kernel_rfl
@[simp] theorem agg79 : isAggT Tryz.prog 79 = false := by kernel_rfl
attribute [simp] Tryz.underlying79
@[simp] theorem bytes79 : Tryz.t79.bytes = 8 := rfl
@[simp] theorem zero79 : Tryz.t79.zero = some .nilFunc := rfl
@[simp] theorem cells80 : Tryz.prog.cellsOf 80 = 1 := by kernel_rfl
@[simp] theorem info80 : Tryz.prog.info? 80 = some Tryz.t80 := by kernel_rfl
@[simp] theorem agg80 : isAggT Tryz.prog 80 = false := by kernel_rfl
attribute [simp] Tryz.underlying80
@[simp] theorem bytes80 : Tryz.t80.bytes = 8 := rfl
@[simp] theorem zero80 : Tryz.t80.zero = some .nilFunc := rfl
@[simp] theorem cells81 : Tryz.prog.cellsOf 81 = 1 := by kernel_rfl
@[simp] theorem info81 : Tryz.prog.info? 81 = some Tryz.t81 := by kernel_rfl
@[simp] theorem agg81 : isAggT Tryz.prog 81 = false := by kernel_rfl
attribute [simp] Tryz.underlying81
@[simp] theorem bytes81 : Tryz.t81.bytes = 8 := rfl
@[simp] theorem zero81 : Tryz.t81.zero = some .nilFunc := rfl
@[simp] theorem cells82 : Tryz.prog.cellsOf 82 = 1 := by kernel_rfl
@[simp] theorem info82 : Tryz.prog.info? 82 = some Tryz.t82 := by kernel_rfl
@[simp] theorem agg82 : isAggT Tryz.prog 82 = false := by kernel_rfl
attribute [simp] Tryz.underlying82
@[simp] theorem bytes82 : Tryz.t82.bytes = 8 := rfl
@[simp] theorem zero82 : Tryz.t82.zero = some .nilFunc := rfl
@[simp] theorem cells83 : Tryz.prog.cellsOf 83 = 1 := by kernel_rfl
@[simp] theorem info83 : Tryz.prog.info? 83 = some Tryz.t83 := by kernel_rfl
@[simp] theorem agg83 : isAggT Tryz.prog 83 = false := by kernel_rfl
attribute [simp] Tryz.underlying83
@[simp] theorem bytes83 : Tryz.t83.bytes = 8 := rfl
@[simp] theorem zero83 : Tryz.t83.zero = some .nilFunc := rfl
@[simp] theorem cells84 : Tryz.prog.cellsOf 84 = 1 := by kernel_rfl
@[simp] theorem info84 : Tryz.prog.info? 84 = some Tryz.t84 := by kernel_rfl
@[simp] theorem agg84 : isAggT Tryz.prog 84 = false := by kernel_rfl
attribute [simp] Tryz.underlying84
@[simp] theorem bytes84 : Tryz.t84.bytes = 0 := rfl
@[simp] theorem cells85 : Tryz.prog.cellsOf 85 = 1 := by kernel_rfl
@[simp] theorem info85 : Tryz.prog.info? 85 = some Tryz.t85 := by kernel_rfl
@[simp] theorem agg85 : isAggT Tryz.prog 85 = false := by kernel_rfl
attribute [simp] Tryz.underlying85
@[simp] theorem bytes85 : Tryz.t85.bytes = 8 := rfl
@[simp] theorem zero85 : Tryz.t85.zero = some .nilFunc := rfl
@[simp] theorem cells86 : Tryz.prog.cellsOf 86 = 0 := by kernel_rfl
@[simp] theorem info86 : Tryz.prog.info? 86 = some Tryz.t86 := by kernel_rfl
@[simp] theorem agg86 : isAggT Tryz.prog 86 = true := by kernel_rfl
attribute [simp] Tryz.underlying86
@[simp] theorem bytes86 : Tryz.t86.bytes = 0 := rfl
@[simp] theorem zero86 : Tryz.t86.zero = some (.agg #[]) := rfl
@[simp] theorem cells87 : Tryz.prog.cellsOf 87 = 0 := by kernel_rfl
@[simp] theorem info87 : Tryz.prog.info? 87 = some Tryz.t87 := by kernel_rfl
@[simp] theorem agg87 : isAggT Tryz.prog 87 = true := by kernel_rfl
attribute [simp] Tryz.underlying87
@[simp] theorem bytes87 : Tryz.t87.bytes = 0 := rfl
@[simp] theorem zero87 : Tryz.t87.zero = some (.agg #[]) := rfl
@[simp] theorem cells88 : Tryz.prog.cellsOf 88 = 1 := by kernel_rfl
@[simp] theorem info88 : Tryz.prog.info? 88 = some Tryz.t88 := by kernel_rfl
@[simp] theorem agg88 : isAggT Tryz.prog 88 = false := by kernel_rfl
attribute [simp] Tryz.underlying88
@[simp] theorem bytes88 : Tryz.t88.bytes = 8 := rfl
@[simp] theorem zero88 : Tryz.t88.zero = some .nilFunc := rfl
@[simp] theorem cells89 : Tryz.prog.cellsOf 89 = 1 := by kernel_rfl
@[simp] theorem info89 : Tryz.prog.info? 89 = some Tryz.t89 := by kernel_rfl
@[simp] theorem agg89 : isAggT Tryz.prog 89 = false := by kernel_rfl
attribute [simp] Tryz.underlying89
@[simp] theorem bytes89 : Tryz.t89.bytes = 8 := rfl
@[simp] theorem zero89 : Tryz.t89.zero = some .nilFunc := rfl
@[simp] theorem cells90 : Tryz.prog.cellsOf 90 = 1 := by kernel_rfl
@[simp] theorem info90 : Tryz.prog.info? 90 = some Tryz.t90 := by kernel_rfl
@[simp] theorem agg90 : isAggT Tryz.prog 90 = false := by kernel_rfl
attribute [simp] Tryz.underlying90
@[simp] theorem bytes90 : Tryz.t90.bytes = 24 := rfl
@[simp] theorem zero90 : Tryz.t90.zero = some (.slice none 0 0) := rfl
@[simp] theorem cells91 : Tryz.prog.cellsOf 91 = 3 := by kernel_rfl
@[simp] theorem info91 : Tryz.prog.info? 91 = some Tryz.t91 := by kernel_rfl
@[simp] theorem agg91 : isAggT Tryz.prog 91 = true := by kernel_rfl
attribute [simp] Tryz.underlying91
@[simp] theorem bytes91 : Tryz.t91.bytes = 40 := rfl
@[simp] theorem zero91 : Tryz.t91.zero = some (.agg #[(.int .i64 0), (.int .i64 0), (.slice none 0 0)]) := rfl
@[simp] theorem cells92 : Tryz.prog.cellsOf 92 = 3 := by kernel_rfl
@[simp] theorem info92 : Tryz.prog.info? 92 = some Tryz.t92 := by kernel_rfl
@[simp] theorem agg92 : isAggT Tryz.prog 92 = true := by kernel_rfl
attribute [simp] Tryz.underlying92
@[simp] theorem bytes92 : Tryz.t92.bytes = 40 := rfl
@[simp] theorem zero92 : Tryz.t92.zero = some (.agg #[(.int .i64 0), (.int .i64 0), (.slice none 0 0)]) := rfl
@[simp] theorem cells93 : Tryz.prog.cellsOf 93 = 1 := by kernel_rfl
@[simp] theorem info93 : Tryz.prog.info? 93 = some Tryz.t93 := by kernel_rfl
@[simp] theorem agg93 : isAggT Tryz.prog 93 = false := by kernel_rfl
attribute [simp] Tryz.underlying93
@[simp] theorem bytes93 : Tryz.t93.bytes = 0 := rfl
@[simp] theorem cells94 : Tryz.prog.cellsOf 94 = 1 := by kernel_rfl
@[simp] theorem info94 : Tryz.prog.info? 94 = some Tryz.t94 := by kernel_rfl
@[simp] theorem agg94 : isAggT Tryz.prog 94 = false := by kernel_rfl
attribute [simp] Tryz.underlying94
@[simp] theorem bytes94 : Tryz.t94.bytes = 8 := rfl
@[simp] theorem zero94 : Tryz.t94.zero = some .nilFunc := rfl
@[simp] theorem cells95 : Tryz.prog.cellsOf 95 = 1 := by kernel_rfl
@[simp] theorem info95 : Tryz.prog.info? 95 = some Tryz.t95 := by kernel_rfl
@[simp] theorem agg95 : isAggT Tryz.prog 95 = true := by kernel_rfl
attribute [simp] Tryz.underlying95
@[simp] theorem bytes95 : Tryz.t95.bytes = 24 := rfl
@[simp] theorem zero95 : Tryz.t95.zero = some (.agg #[(.slice none 0 0)]) := rfl
@[simp] theorem cells96 : Tryz.prog.cellsOf 96 = 1 := by kernel_rfl
@[simp] theorem info96 : Tryz.prog.info? 96 = some Tryz.t96 := by kernel_rfl
@[simp] theorem agg96 : isAggT Tryz.prog 96 = true := by kernel_rfl
attribute [simp] Tryz.underlying96
@[simp] theorem bytes96 : Tryz.t96.bytes = 24 := rfl
@[simp] theorem zero96 : Tryz.t96.zero = some (.agg #[(.slice none 0 0)]) := rfl
@[simp] theorem cells97 : Tryz.prog.cellsOf 97 = 1 := by kernel_rfl
@[simp] theorem info97 : Tryz.prog.info? 97 = some Tryz.t97 := by kernel_rfl
@[simp] theorem agg97 : isAggT Tryz.prog 97 = false := by kernel_rfl
attribute [simp] Tryz.underlying97
@[simp] theorem bytes97 : Tryz.t97.bytes = 0 := rfl
@[simp] theorem cells98 : Tryz.prog.cellsOf 98 = 1 := by kernel_rfl
@[simp] theorem info98 : Tryz.prog.info? 98 = some Tryz.t98 := by kernel_rfl
@[simp] theorem agg98 : isAggT Tryz.prog 98 = false := by kernel_rfl
attribute [simp] Tryz.underlying98
@[simp] theorem bytes98 : Tryz.t98.bytes = 8 := rfl
@[simp] theorem zero98 : Tryz.t98.zero = some .nilFunc := rfl
@[simp] theorem cells99 : Tryz.prog.cellsOf 99 = 1 := by kernel_rfl
@[simp] theorem info99 : Tryz.prog.info? 99 = some Tryz.t99 := by kernel_rfl
@[simp] theorem agg99 : isAggT Tryz.prog 99 = false := by kernel_rfl
attribute [simp] Tryz.underlying99
@[simp] theorem bytes99 : Tryz.t99.bytes = 8 := rfl
@[simp] theorem zero99 : Tryz.t99.zero = some (.pointer none) := rfl
@[simp] theorem cells100 : Tryz.prog.cellsOf 100 = 1 := by kernel_rfl
@[simp] theorem info100 : Tryz.prog.info? 100 = some Tryz.t100 := by kernel_rfl
@[simp] theorem agg100 : isAggT Tryz.prog 100 = false := by kernel_rfl
attribute [simp] Tryz.underlying100
@[simp] theorem bytes100 : Tryz.t100.bytes = 8 := rfl
@[simp] theorem zero100 : Tryz.t100.zero = some .nilFunc := rfl
@[simp] theorem cells101 : Tryz.prog.cellsOf 101 = 1 := by kernel_rfl
@[simp] theorem info101 : Tryz.prog.info? 101 = some Tryz.t101 := by kernel_rfl
@[simp] theorem agg101 : isAggT Tryz.prog 101 = false := by kernel_rfl
attribute [simp] Tryz.underlying101
@[simp] theorem bytes101 : Tryz.t101.bytes = 8 := rfl
@[simp] theorem zero101 : Tryz.t101.zero = some (.pointer none) := rfl
@[simp] theorem cells102 : Tryz.prog.cellsOf 102 = 1 := by kernel_rfl
@[simp] theorem info102 : Tryz.prog.info? 102 = some Tryz.t102 := by kernel_rfl
@[simp] theorem agg102 : isAggT Tryz.prog 102 = false := by kernel_rfl
attribute [simp] Tryz.underlying102
@[simp] theorem bytes102 : Tryz.t102.bytes = 8 := rfl
@[simp] theorem zero102 : Tryz.t102.zero = some (.pointer none) := rfl
@[simp] theorem cells103 : Tryz.prog.cellsOf 103 = 2 := by kernel_rfl
@[simp] theorem info103 : Tryz.prog.info? 103 = some Tryz.t103 := by kernel_rfl
@[simp] theorem agg103 : isAggT Tryz.prog 103 = true := by kernel_rfl
attribute [simp] Tryz.underlying103
@[simp] theorem bytes103 : Tryz.t103.bytes = 24 := rfl
@[simp] theorem zero103 : Tryz.t103.zero = some (.agg #[(.int .i64 0), .nilIface]) := rfl
@[simp] theorem cells104 : Tryz.prog.cellsOf 104 = 2 := by kernel_rfl
@[simp] theorem info104 : Tryz.prog.info? 104 = some Tryz.t104 := by kernel_rfl
@[simp] theorem agg104 : isAggT Tryz.prog 104 = true := by kernel_rfl
attribute [simp] Tryz.underlying104
@[simp] theorem bytes104 : Tryz.t104.bytes = 24 := rfl
@[simp] theorem zero104 : Tryz.t104.zero = some (.agg #[(.int .i64 0), .nilIface]) := rfl
@[simp] theorem cells105 : Tryz.prog.cellsOf 105 = 1 := by kernel_rfl
@[simp] theorem info105 : Tryz.prog.info? 105 = some Tryz.t105 := by kernel_rfl
@[simp] theorem agg105 : isAggT Tryz.prog 105 = false := by kernel_rfl
attribute [simp] Tryz.underlying105
@[simp] theorem bytes105 : Tryz.t105.bytes = 8 := rfl
@[simp] theorem zero105 : Tryz.t105.zero = some .nilFunc := rfl
@[simp] theorem cells106 : Tryz.prog.cellsOf 106 = 1 := by kernel_rfl
@[simp] theorem info106 : Tryz.prog.info? 106 = some Tryz.t106 := by kernel_rfl
@[simp] theorem agg106 : isAggT Tryz.prog 106 = false := by kernel_rfl
attribute [simp] Tryz.underlying106
@[simp] theorem bytes106 : Tryz.t106.bytes = 8 := rfl
@[simp] theorem zero106 : Tryz.t106.zero = some .nilFunc := rfl
@[simp] theorem cells107 : Tryz.prog.cellsOf 107 = 1 := by kernel_rfl
@[simp] theorem info107 : Tryz.prog.info? 107 = some Tryz.t107 := by kernel_rfl
@[simp] theorem agg107 : isAggT Tryz.prog 107 = false := by kernel_rfl
attribute [simp] Tryz.underlying107
@[simp] theorem bytes107 : Tryz.t107.bytes = 8 := rfl
@[simp] theorem zero107 : Tryz.t107.zero = some .nilFunc := rfl
@[simp] theorem cells108 : Tryz.prog.cellsOf 108 = 1 := by kernel_rfl
@[simp] theorem info108 : Tryz.prog.info? 108 = some Tryz.t108 := by kernel_rfl
@[simp] theorem agg108 : isAggT Tryz.prog 108 = false := by kernel_rfl
attribute [simp] Tryz.underlying108
@[simp] theorem bytes108 : Tryz.t108.bytes = 8 := rfl
@[simp] theorem zero108 : Tryz.t108.zero = some (.pointer none) := rfl
@[simp] theorem cells109 : Tryz.prog.cellsOf 109 = 1 := by kernel_rfl
@[simp] theorem info109 : Tryz.prog.info? 109 = some Tryz.t109 := by kernel_rfl
@[simp] theorem agg109 : isAggT Tryz.prog 109 = false := by kernel_rfl
attribute [simp] Tryz.underlying109
@[simp] theorem bytes109 : Tryz.t109.bytes = 8 := rfl
@[simp] theorem zero109 : Tryz.t109.zero = some .nilFunc := rfl
@[simp] theorem cells110 : Tryz.prog.cellsOf 110 = 1 := by kernel_rfl
@[simp] theorem info110 : Tryz.prog.info? 110 = some Tryz.t110 := by kernel_rfl
@[simp] theorem agg110 : isAggT Tryz.prog 110 = false := by kernel_rfl
attribute [simp] Tryz.underlying110
@[simp] theorem bytes110 : Tryz.t110.bytes = 24 := rfl
@[simp] theorem zero110 : Tryz.t110.zero = some (.slice none 0 0) := rfl
@[simp] theorem cells111 : Tryz.prog.cellsOf 111 = 1 := by kernel_rfl
@[simp] theorem info111 : Tryz.prog.info? 111 = some Tryz.t111 := by kernel_rfl
@[simp] theorem agg111 : isAggT Tryz.prog 111 = false := by kernel_rfl
attribute [simp] Tryz.underlying111
@[simp] theorem bytes111 : Tryz.t111.bytes = 8 := rfl
@[simp] theorem zero111 : Tryz.t111.zero = some .nilFunc := rfl
@[simp] theorem cells112 : Tryz.prog.cellsOf 112 = 1 := by kernel_rfl
@[simp] theorem info112 : Tryz.prog.info? 112 = some Tryz.t112 := by kernel_rfl
@[simp] theorem agg112 : isAggT Tryz.prog 112 = false := by kernel_rfl
attribute [simp] Tryz.underlying112
@[simp] theorem bytes112 : Tryz.t112.bytes = 8 := rfl
@[simp] theorem zero112 : Tryz.t112.zero = some .nilFunc := rfl
@[simp] theorem cells113 : Tryz.prog.cellsOf 113 = 1 := by kernel_rfl
@[simp] theorem info113 : Tryz.prog.info? 113 = some Tryz.t113 := by kernel_rfl
@[simp] theorem agg113 : isAggT Tryz.prog 113 = false := by kernel_rfl
attribute [simp] Tryz.underlying113
@[simp] theorem bytes113 : Tryz.t113.bytes = 8 := rfl
@[simp] theorem zero113 : Tryz.t113.zero = some .nilFunc := rfl
@[simp] theorem cells114 : Tryz.prog.cellsOf 114 = 1 := by kernel_rfl
@[simp] theorem info114 : Tryz.prog.info? 114 = some Tryz.t114 := by kernel_rfl
@[simp] theorem agg114 : isAggT Tryz.prog 114 = false := by kernel_rfl
attribute [simp] Tryz.underlying114
@[simp] theorem bytes114 : Tryz.t114.bytes = 16 := rfl
@[simp] theorem zero114 : Tryz.t114.zero = some .nilIface := rfl
@[simp] theorem cells115 : Tryz.prog.cellsOf 115 = 1 := by kernel_rfl
@[simp] theorem info115 : Tryz.prog.info? 115 = some Tryz.t115 := by kernel_rfl
@[simp] theorem agg115 : isAggT Tryz.prog 115 = false := by kernel_rfl
attribute [simp] Tryz.underlying115
@[simp] theorem bytes115 : Tryz.t115.bytes = 16 := rfl
@[simp] theorem zero115 : Tryz.t115.zero = some .nilIface := rfl
@[simp] theorem cells116 : Tryz.prog.cellsOf 116 = 1 := by kernel_rfl
@[simp] theorem info116 : Tryz.prog.info? 116 = some Tryz.t116 := by kernel_rfl
@[simp] theorem agg116 : isAggT Tryz.prog 116 = false := by kernel_rfl
attribute [simp] Tryz.underlying116
@[simp] theorem bytes116 : Tryz.t116.bytes = 0 := rfl
@[simp] theorem cells117 : Tryz.prog.cellsOf 117 = 1 := by kernel_rfl
@[simp] theorem info117 : Tryz.prog.info? 117 = some Tryz.t117 := by kernel_rfl
@[simp] theorem agg117 : isAggT Tryz.prog 117 = false := by kernel_rfl
attribute [simp] Tryz.underlying117
@[simp] theorem bytes117 : Tryz.t117.bytes = 8 := rfl
@[simp] theorem zero117 : Tryz.t117.zero = some .nilFunc := rfl
@[simp] theorem cells118 : Tryz.prog.cellsOf 118 = 1 := by kernel_rfl
@[simp] theorem info118 : Tryz.prog.info? 118 = some Tryz.t118 := by kernel_rfl
@[simp] theorem agg118 : isAggT Tryz.prog 118 = false := by kernel_rfl
attribute [simp] Tryz.underlying118
@[simp] theorem bytes118 : Tryz.t118.bytes = 8 := rfl
@[simp] theorem zero118 : Tryz.t118.zero = some .nilFunc := rfl
@[simp] theorem cells119 : Tryz.prog.cellsOf 119 = 1 := by kernel_rfl
@[simp] theorem info119 : Tryz.prog.info? 119 = some Tryz.t119 := by kernel_rfl
@[simp] theorem agg119 : isAggT Tryz.prog 119 = false := by kernel_rfl
attribute [simp] Tryz.underlying119
@[simp] theorem bytes119 : Tryz.t119.bytes = 8 := rfl
@[simp] theorem zero119 : Tryz.t119.zero = some .nilFunc := rfl
@[simp] theorem cells120 : Tryz.prog.cellsOf 120 = 0 := by kernel_rfl
@[simp] theorem info120 : Tryz.prog.info? 120 = some Tryz.t120 := by kernel_rfl
@[simp] theorem agg120 : isAggT Tryz.prog 120 = true := by kernel_rfl
attribute [simp] Tryz.underlying120
@[simp] theorem bytes120 : Tryz.t120.bytes = 0 := rfl
@[simp] theorem zero120 : Tryz.t120.zero = some (.agg #[]) := rfl
@[simp] theorem cells121 : Tryz.prog.cellsOf 121 = 1 := by kernel_rfl
@[simp] theorem info121 : Tryz.prog.info? 121 = some Tryz.t121 := by kernel_rfl
@[simp] theorem agg121 : isAggT Tryz.prog 121 = false := by kernel_rfl
attribute [simp] Tryz.underlying121
@[simp] theorem bytes121 : Tryz.t121.bytes = 0 := rfl
@[simp] theorem cells122 : Tryz.prog.cellsOf 122 = 1 := by kernel_rfl
@[simp] theorem info122 : Tryz.prog.info? 122 = some Tryz.t122 := by kernel_rfl
@[simp] theorem agg122 : isAggT Tryz.prog 122 = false := by kernel_rfl
attribute [simp] Tryz.underlying122
@[simp] theorem bytes122 : Tryz.t122.bytes = 8 := rfl
@[simp] theorem zero122 : Tryz.t122.zero = some .nilFunc := rfl
@[simp] theorem cells123 : Tryz.prog.cellsOf 123 = 1 := by kernel_rfl
@[simp] theorem info123 : Tryz.prog.info? 123 = some Tryz.t123 := by kernel_rfl
@[simp] theorem agg123 : isAggT Tryz.prog 123 = false := by kernel_rfl
attribute [simp] Tryz.underlying123
@[simp] theorem bytes123 : Tryz.t123.bytes = 0 := rfl
@[simp] theorem cells124 : Tryz.prog.cellsOf 124 = 1 := by kernel_rfl
@[simp] theorem info124 : Tryz.prog.info? 124 = some Tryz.t124 := by kernel_rfl
@[simp] theorem agg124 : isAggT Tryz.prog 124 = false := by kernel_rfl
attribute [simp] Tryz.underlying124
@[simp] theorem bytes124 : Tryz.t124.bytes = 8 := rfl
@[simp] theorem zero124 : Tryz.t124.zero = some (.pointer none) := rfl
@[simp] theorem cells125 : Tryz.prog.cellsOf 125 = 3 := by kernel_rfl
@[simp] theorem info125 : Tryz.prog.info? 125 = some Tryz.t125 := by kernel_rfl
@[simp] theorem agg125 : isAggT Tryz.prog 125 = true := by kernel_rfl
attribute [simp] Tryz.underlying125
@[simp] theorem bytes125 : Tryz.t125.bytes = 32 := rfl
@[simp] theorem zero125 : Tryz.t125.zero = some (.agg #[(.string ⟨#[]⟩), (.int .i64 0), (.pointer none)]) := rfl
@[simp] theorem cells126 : Tryz.prog.cellsOf 126 = 3 := by kernel_rfl
@[simp] theorem info126 : Tryz.prog.info? 126 = some Tryz.t126 := by kernel_rfl
@[simp] theorem agg126 : isAggT Tryz.prog 126 = true := by kernel_rfl
attribute [simp] Tryz.underlying126
@[simp] theorem bytes126 : Tryz.t126.bytes = 32 := rfl
@[simp] theorem zero126 : Tryz.t126.zero = some (.agg #[(.string ⟨#[]⟩), (.int .i64 0), (.pointer none)]) := rfl
@[simp] theorem cells127 : Tryz.prog.cellsOf 127 = 1 := by kernel_rfl
@[simp] theorem info127 : Tryz.prog.info? 127 = some Tryz.t127 := by kernel_rfl
@[simp] theorem agg127 : isAggT Tryz.prog 127 = false := by kernel_rfl
attribute [simp] Tryz.underlying127
@[simp] theorem bytes127 : Tryz.t127.bytes = 8 := rfl
@[simp] theorem zero127 : Tryz.t127.zero = some .nilFunc := rfl
@[simp] theorem cells128 : Tryz.prog.cellsOf 128 = 1 := by kernel_rfl
@[simp] theorem info128 : Tryz.prog.info? 128 = some Tryz.t128 := by kernel_rfl
@[simp] theorem agg128 : isAggT Tryz.prog 128 = false := by kernel_rfl
attribute [simp] Tryz.underlying128
@[simp] theorem bytes128 : Tryz.t128.bytes = 8 := rfl
@[simp] theorem zero128 : Tryz.t128.zero = some .nilFunc := rfl
@[simp] theorem cells129 : Tryz.prog.cellsOf 129 = 1 := by kernel_rfl
@[simp] theorem info129 : Tryz.prog.info? 129 = some Tryz.t129 := by kernel_rfl
@[simp] theorem agg129 : isAggT Tryz.prog 129 = false := by kernel_rfl
attribute [simp] Tryz.underlying129
@[simp] theorem bytes129 : Tryz.t129.bytes = 8 := rfl
@[simp] theorem zero129 : Tryz.t129.zero = some (.pointer none) := rfl
@[simp] theorem cells130 : Tryz.prog.cellsOf 130 = 1 := by kernel_rfl
@[simp] theorem info130 : Tryz.prog.info? 130 = some Tryz.t130 := by kernel_rfl
@[simp] theorem agg130 : isAggT Tryz.prog 130 = false := by kernel_rfl
attribute [simp] Tryz.underlying130
@[simp] theorem bytes130 : Tryz.t130.bytes = 8 := rfl
@[simp] theorem zero130 : Tryz.t130.zero = some (.int .u64 0) := rfl
@[simp] theorem cells131 : Tryz.prog.cellsOf 131 = 3 := by kernel_rfl
@[simp] theorem info131 : Tryz.prog.info? 131 = some Tryz.t131 := by kernel_rfl
@[simp] theorem agg131 : isAggT Tryz.prog 131 = true := by kernel_rfl
attribute [simp] Tryz.underlying131
@[simp] theorem bytes131 : Tryz.t131.bytes = 24 := rfl
@[simp] theorem zero131 : Tryz.t131.zero = some (.agg #[(.pointer none), (.pointer none), (.int .u64 0)]) := rfl
@[simp] theorem cells132 : Tryz.prog.cellsOf 132 = 3 := by kernel_rfl
@[simp] theorem info132 : Tryz.prog.info? 132 = some Tryz.t132 := by kernel_rfl
@[simp] theorem agg132 : isAggT Tryz.prog 132 = true := by kernel_rfl
attribute [simp] Tryz.underlying132
@[simp] theorem bytes132 : Tryz.t132.bytes = 24 := rfl
@[simp] theorem zero132 : Tryz.t132.zero = some (.agg #[(.pointer none), (.pointer none), (.int .u64 0)]) := rfl
@[simp] theorem cells133 : Tryz.prog.cellsOf 133 = 1 := by kernel_rfl
@[simp] theorem info133 : Tryz.prog.info? 133 = some Tryz.t133 := by kernel_rfl
@[simp] theorem agg133 : isAggT Tryz.prog 133 = false := by kernel_rfl
attribute [simp] Tryz.underlying133
@[simp] theorem bytes133 : Tryz.t133.bytes = 8 := rfl
@[simp] theorem zero133 : Tryz.t133.zero = some .nilFunc := rfl
@[simp] theorem cells134 : Tryz.prog.cellsOf 134 = 1 := by kernel_rfl
@[simp] theorem info134 : Tryz.prog.info? 134 = some Tryz.t134 := by kernel_rfl
@[simp] theorem agg134 : isAggT Tryz.prog 134 = false := by kernel_rfl
attribute [simp] Tryz.underlying134
@[simp] theorem bytes134 : Tryz.t134.bytes = 16 := rfl
@[simp] theorem zero134 : Tryz.t134.zero = some .nilIface := rfl
@[simp] theorem cells135 : Tryz.prog.cellsOf 135 = 1 := by kernel_rfl
@[simp] theorem info135 : Tryz.prog.info? 135 = some Tryz.t135 := by kernel_rfl
@[simp] theorem agg135 : isAggT Tryz.prog 135 = false := by kernel_rfl
attribute [simp] Tryz.underlying135
@[simp] theorem bytes135 : Tryz.t135.bytes = 16 := rfl
@[simp] theorem zero135 : Tryz.t135.zero = some .nilIface := rfl
@[simp] theorem cells136 : Tryz.prog.cellsOf 136 = 1 := by kernel_rfl
@[simp] theorem info136 : Tryz.prog.info? 136 = some Tryz.t136 := by kernel_rfl
@[simp] theorem agg136 : isAggT Tryz.prog 136 = false := by kernel_rfl
attribute [simp] Tryz.underlying136
@[simp] theorem bytes136 : Tryz.t136.bytes = 8 := rfl
@[simp] theorem zero136 : Tryz.t136.zero = some .nilFunc := rfl
@[simp] theorem cells137 : Tryz.prog.cellsOf 137 = 1 := by kernel_rfl
@[simp] theorem info137 : Tryz.prog.info? 137 = some Tryz.t137 := by kernel_rfl
@[simp] theorem agg137 : isAggT Tryz.prog 137 = false := by kernel_rfl
attribute [simp] Tryz.underlying137
@[simp] theorem bytes137 : Tryz.t137.bytes = 1 := rfl
@[simp] theorem zero137 : Tryz.t137.zero = some (.int .u8 0) := rfl
@[simp] theorem cells138 : Tryz.prog.cellsOf 138 = 1 := by kernel_rfl
@[simp] theorem info138 : Tryz.prog.info? 138 = some Tryz.t138 := by kernel_rfl
@[simp] theorem agg138 : isAggT Tryz.prog 138 = false := by kernel_rfl
attribute [simp] Tryz.underlying138
@[simp] theorem bytes138 : Tryz.t138.bytes = 8 := rfl
@[simp] theorem zero138 : Tryz.t138.zero = some .nilFunc := rfl
@[simp] theorem cells139 : Tryz.prog.cellsOf 139 = 1 := by kernel_rfl
@[simp] theorem info139 : Tryz.prog.info? 139 = some Tryz.t139 := by kernel_rfl
@[simp] theorem agg139 : isAggT Tryz.prog 139 = false := by kernel_rfl
attribute [simp] Tryz.underlying139
@[simp] theorem bytes139 : Tryz.t139.bytes = 8 := rfl
@[simp] theorem zero139 : Tryz.t139.zero = some .nilFunc := rfl
@[simp] theorem cells140 : Tryz.prog.cellsOf 140 = 1 := by kernel_rfl
@[simp] theorem info140 : Tryz.prog.info? 140 = some Tryz.t140 := by kernel_rfl
@[simp] theorem agg140 : isAggT Tryz.prog 140 = false := by kernel_rfl
attribute [simp] Tryz.underlying140
@[simp] theorem bytes140 : Tryz.t140.bytes = 8 := rfl
@[simp] theorem zero140 : Tryz.t140.zero = some .nilFunc := rfl
@[simp] theorem cells141 : Tryz.prog.cellsOf 141 = 1 := by kernel_rfl
@[simp] theorem info141 : Tryz.prog.info? 141 = some Tryz.t141 := by kernel_rfl
@[simp] theorem agg141 : isAggT Tryz.prog 141 = false := by kernel_rfl
attribute [simp] Tryz.underlying141
@[simp] theorem bytes141 : Tryz.t141.bytes = 8 := rfl
@[simp] theorem zero141 : Tryz.t141.zero = some .nilFunc := rfl
@[simp] theorem cells142 : Tryz.prog.cellsOf 142 = 1 := by kernel_rfl
@[simp] theorem info142 : Tryz.prog.info? 142 = some Tryz.t142 := by kernel_rfl
@[simp] theorem agg142 : isAggT Tryz.prog 142 = false := by kernel_rfl
attribute [simp] Tryz.underlying142
@[simp] theorem bytes142 : Tryz.t142.bytes = 8 := rfl
@[simp] theorem zero142 : Tryz.t142.zero = some .nilFunc := rfl
@[simp] theorem cells143 : Tryz.prog.cellsOf 143 = 1 := by kernel_rfl
@[simp] theorem info143 : Tryz.prog.info? 143 = some Tryz.t143 := by kernel_rfl
@[simp] theorem agg143 : isAggT Tryz.prog 143 = false := by kernel_rfl
attribute [simp] Tryz.underlying143
@[simp] theorem bytes143 : Tryz.t143.bytes = 8 := rfl
@[simp] theorem zero143 : Tryz.t143.zero = some (.int .i64 0) := rfl
@[simp] theorem cells144 : Tryz.prog.cellsOf 144 = 1 := by kernel_rfl
@[simp] theorem info144 : Tryz.prog.info? 144 = some Tryz.t144 := by kernel_rfl
@[simp] theorem agg144 : isAggT Tryz.prog 144 = false := by kernel_rfl
attribute [simp] Tryz.underlying144
@[simp] theorem bytes144 : Tryz.t144.bytes = 0 := rfl
@[simp] theorem cells145 : Tryz.prog.cellsOf 145 = 1 := by kernel_rfl
@[simp] theorem info145 : Tryz.prog.info? 145 = some Tryz.t145 := by kernel_rfl
@[simp] theorem agg145 : isAggT Tryz.prog 145 = false := by kernel_rfl
attribute [simp] Tryz.underlying145
@[simp] theorem bytes145 : Tryz.t145.bytes = 8 := rfl
@[simp] theorem zero145 : Tryz.t145.zero = some .nilFunc := rfl
@[simp] theorem cells146 : Tryz.prog.cellsOf 146 = 1 := by kernel_rfl
@[simp] theorem info146 : Tryz.prog.info? 146 = some Tryz.t146 := by kernel_rfl
@[simp] theorem agg146 : isAggT Tryz.prog 146 = false := by kernel_rfl
attribute [simp] Tryz.underlying146
@[simp] theorem bytes146 : Tryz.t146.bytes = 8 := rfl
@[simp] theorem zero146 : Tryz.t146.zero = some (.pointer none) := rfl
@[simp] theorem cells147 : Tryz.prog.cellsOf 147 = 1 := by kernel_rfl
@[simp] theorem info147 : Tryz.prog.info? 147 = some Tryz.t147 := by kernel_rfl
@[simp] theorem agg147 : isAggT Tryz.prog 147 = false := by kernel_rfl
attribute [simp] Tryz.underlying147
@[simp] theorem bytes147 : Tryz.t147.bytes = 8 := rfl
@[simp] theorem zero147 : Tryz.t147.zero = some .nilFunc := rfl
@[simp] theorem cells148 : Tryz.prog.cellsOf 148 = 1 := by kernel_rfl
@[simp] theorem info148 : Tryz.prog.info? 148 = some Tryz.t148 := by kernel_rfl
@[simp] theorem agg148 : isAggT Tryz.prog 148 = false := by kernel_rfl
attribute [simp] Tryz.underlying148
@[simp] theorem bytes148 : Tryz.t148.bytes = 8 := rfl
@[simp] theorem zero148 : Tryz.t148.zero = some .nilFunc := rfl
@[simp] theorem cells149 : Tryz.prog.cellsOf 149 = 1 := by kernel_rfl
@[simp] theorem info149 : Tryz.prog.info? 149 = some Tryz.t149 := by kernel_rfl
@[simp] theorem agg149 : isAggT Tryz.prog 149 = false := by kernel_rfl
attribute [simp] Tryz.underlying149
@[simp] theorem bytes149 : Tryz.t149.bytes = 8 := rfl
@[simp] theorem zero149 : Tryz.t149.zero = some .nilFunc := rfl
@[simp] theorem cells150 : Tryz.prog.cellsOf 150 = 1 := by kernel_rfl
@[simp] theorem info150 : Tryz.prog.info? 150 = some Tryz.t150 := by kernel_rfl
@[simp] theorem agg150 : isAggT Tryz.prog 150 = false := by kernel_rfl
attribute [simp] Tryz.underlying150
@[simp] theorem bytes150 : Tryz.t150.bytes = 8 := rfl
@[simp] theorem zero150 : Tryz.t150.zero = some .nilFunc := rfl
@[simp] theorem cells151 : Tryz.prog.cellsOf 151 = 1 := by kernel_rfl
@[simp] theorem info151 : Tryz.prog.info? 151 = some Tryz.t151 := by kernel_rfl
@[simp] theorem agg151 : isAggT Tryz.prog 151 = false := by kernel_rfl
attribute [simp] Tryz.underlying151
@[simp] theorem bytes151 : Tryz.t151.bytes = 8 := rfl
@[simp] theorem zero151 : Tryz.t151.zero = some .nilFunc := rfl
@[simp] theorem cells152 : Tryz.prog.cellsOf 152 = 1 := by kernel_rfl
@[simp] theorem info152 : Tryz.prog.info? 152 = some Tryz.t152 := by kernel_rfl
@[simp] theorem agg152 : isAggT Tryz.prog 152 = false := by kernel_rfl
attribute [simp] Tryz.underlying152
@[simp] theorem bytes152 : Tryz.t152.bytes = 8 := rfl
@[simp] theorem zero152 : Tryz.t152.zero = some .nilFunc := rfl
@[simp] theorem cells153 : Tryz.prog.cellsOf 153 = 1 := by kernel_rfl
@[simp] theorem info153 : Tryz.prog.info? 153 = some Tryz.t153 := by kernel_rfl
@[simp] theorem agg153 : isAggT Tryz.prog 153 = false := by kernel_rfl
attribute [simp] Tryz.underlying153
@[simp] theorem bytes153 : Tryz.t153.bytes = 8 := rfl
@[simp] theorem zero153 : Tryz.t153.zero = some .nilFunc := rfl
@[simp] theorem cells154 : Tryz.prog.cellsOf 154 = 1 := by kernel_rfl
@[simp] theorem info154 : Tryz.prog.info? 154 = some Tryz.t154 := by kernel_rfl
@[simp] theorem agg154 : isAggT Tryz.prog 154 = true := by kernel_rfl
attribute [simp] Tryz.underlying154
@[simp] theorem bytes154 : Tryz.t154.bytes = 8 := rfl
@[simp] theorem zero154 : Tryz.t154.zero = some (.agg #[(.pointer none)]) := rfl
@[simp] theorem cells155 : Tryz.prog.cellsOf 155 = 1 := by kernel_rfl
@[simp] theorem info155 : Tryz.prog.info? 155 = some Tryz.t155 := by kernel_rfl
@[simp] theorem agg155 : isAggT Tryz.prog 155 = true := by kernel_rfl
attribute [simp] Tryz.underlying155
@[simp] theorem bytes155 : Tryz.t155.bytes = 8 := rfl
@[simp] theorem zero155 : Tryz.t155.zero = some (.agg #[(.pointer none)]) := rfl
@[simp] theorem cells156 : Tryz.prog.cellsOf 156 = 1 := by kernel_rfl
@[simp] theorem info156 : Tryz.prog.info? 156 = some Tryz.t156 := by kernel_rfl
@[simp] theorem agg156 : isAggT Tryz.prog 156 = false := by kernel_rfl
attribute [simp] Tryz.underlying156
@[simp] theorem bytes156 : Tryz.t156.bytes = 8 := rfl
@[simp] theorem zero156 : Tryz.t156.zero = some (.pointer none) := rfl
@[simp] theorem cells157 : Tryz.prog.cellsOf 157 = 1 := by kernel_rfl
@[simp] theorem info157 : Tryz.prog.info? 157 = some Tryz.t157 := by kernel_rfl
@[simp] theorem agg157 : isAggT Tryz.prog 157 = false := by kernel_rfl
attribute [simp] Tryz.underlying157
@[simp] theorem bytes157 : Tryz.t157.bytes = 8 := rfl
@[simp] theorem zero157 : Tryz.t157.zero = some .nilFunc := rfl
@[simp] theorem cells158 : Tryz.prog.cellsOf 158 = 1 := by kernel_rfl
@[simp] theorem info158 : Tryz.prog.info? 158 = some Tryz.t158 := by kernel_rfl
@[simp] theorem agg158 : isAggT Tryz.prog 158 = false := by kernel_rfl
attribute [simp] Tryz.underlying158
@[simp] theorem bytes158 : Tryz.t158.bytes = 8 := rfl
@[simp] theorem zero158 : Tryz.t158.zero = some .nilFunc := rfl
@[simp] theorem cells159 : Tryz.prog.cellsOf 159 = 1 := by kernel_rfl
@[simp] theorem info159 : Tryz.prog.info? 159 = some Tryz.t159 := by kernel_rfl
@[simp] theorem agg159 : isAggT Tryz.prog 159 = false := by kernel_rfl
attribute [simp] Tryz.underlying159
@[simp] theorem bytes159 : Tryz.t159.bytes = 8 := rfl
@[simp] theorem zero159 : Tryz.t159.zero = some .nilFunc := rfl
@[simp] theorem cells160 : Tryz.prog.cellsOf 160 = 1 := by kernel_rfl
@[simp] theorem info160 : Tryz.prog.info? 160 = some Tryz.t160 := by kernel_rfl
@[simp] theorem agg160 : isAggT Tryz.prog 160 = false := by kernel_rfl
attribute [simp] Tryz.underlying160
@[simp] theorem bytes160 : Tryz.t160.bytes = 16 := rfl
@[simp] theorem zero160 : Tryz.t160.zero = some .nilIface := rfl
@[simp] theorem cells161 : Tryz.prog.cellsOf 161 = 1 := by kernel_rfl
@[simp] theorem info161 : Tryz.prog.info? 161 = some Tryz.t161 := by kernel_rfl
@[simp] theorem agg161 : isAggT Tryz.prog 161 = false := by kernel_rfl
attribute [simp] Tryz.underlying161
@[simp] theorem bytes161 : Tryz.t161.bytes = 0 := rfl
@[simp] theorem cells162 : Tryz.prog.cellsOf 162 = 1 := by kernel_rfl
@[simp] theorem info162 : Tryz.prog.info? 162 = some Tryz.t162 := by kernel_rfl
@[simp] theorem agg162 : isAggT Tryz.prog 162 = false := by kernel_rfl
attribute [simp] Tryz.underlying162
@[simp] theorem bytes162 : Tryz.t162.bytes = 8 := rfl
@[simp] theorem zero162 : Tryz.t162.zero = some .nilFunc := rfl
@[simp] theorem cells163 : Tryz.prog.cellsOf 163 = 1 := by kernel_rfl
@[simp] theorem info163 : Tryz.prog.info? 163 = some Tryz.t163 := by kernel_rfl
@[simp] theorem agg163 : isAggT Tryz.prog 163 = false := by kernel_rfl
attribute [simp] Tryz.underlying163
@[simp] theorem bytes163 : Tryz.t163.bytes = 16 := rfl
@[simp] theorem zero163 : Tryz.t163.zero = some .nilIface := rfl
@[simp] theorem cells164 : Tryz.prog.cellsOf 164 = 1 := by kernel_rfl
@[simp] theorem info164 : Tryz.prog.info? 164 = some Tryz.t164 := by kernel_rfl
@[simp] theorem agg164 : isAggT Tryz.prog 164 = false := by kernel_rfl
attribute [simp] Tryz.underlying164
@[simp] theorem bytes164 : Tryz.t164.bytes = 8 := rfl
@[simp] theorem zero164 : Tryz.t164.zero = some .nilFunc := rfl
@[simp] theorem cells165 : Tryz.prog.cellsOf 165 = 1 := by kernel_rfl
@[simp] theorem info165 : Tryz.prog.info? 165 = some Tryz.t165 := by kernel_rfl
@[simp] theorem agg165 : isAggT Tryz.prog 165 = false := by kernel_rfl
attribute [simp] Tryz.underlying165
@[simp] theorem bytes165 : Tryz.t165.bytes = 16 := rfl
@[simp] theorem zero165 : Tryz.t165.zero = some .nilIface := rfl
@[simp] theorem cells166 : Tryz.prog.cellsOf 166 = 1 := by kernel_rfl
@[simp] theorem info166 : Tryz.prog.info? 166 = some Tryz.t166 := by kernel_rfl
@[simp] theorem agg166 : isAggT Tryz.prog 166 = false := by kernel_rfl
attribute [simp] Tryz.underlying166
@[simp] theorem bytes166 : Tryz.t166.bytes = 24 := rfl
@[simp] theorem zero166 : Tryz.t166.zero = some (.slice none 0 0) := rfl
@[simp] theorem cells167 : Tryz.prog.cellsOf 167 = 1 := by kernel_rfl
@[simp] theorem info167 : Tryz.prog.info? 167 = some Tryz.t167 := by kernel_rfl
@[simp] theorem agg167 : isAggT Tryz.prog 167 = false := by kernel_rfl
attribute [simp] Tryz.underlying167
@[simp] theorem bytes167 : Tryz.t167.bytes = 8 := rfl
@[simp] theorem zero167 : Tryz.t167.zero = some .nilFunc := rfl
@[simp] theorem cells168 : Tryz.prog.cellsOf 168 = 1 := by kernel_rfl
@[simp] theorem info168 : Tryz.prog.info? 168 = some Tryz.t168 := by kernel_rfl
@[simp] theorem agg168 : isAggT Tryz.prog 168 = false := by kernel_rfl
attribute [simp] Tryz.underlying168
@[simp] theorem bytes168 : Tryz.t168.bytes = 8 := rfl
@[simp] theorem zero168 : Tryz.t168.zero = some .nilFunc := rfl
@[simp] theorem cells169 : Tryz.prog.cellsOf 169 = 1 := by kernel_rfl
@[simp] theorem info169 : Tryz.prog.info? 169 = some Tryz.t169 := by kernel_rfl
@[simp] theorem agg169 : isAggT Tryz.prog 169 = false := by kernel_rfl
attribute [simp] Tryz.underlying169
@[simp] theorem bytes169 : Tryz.t169.bytes = 8 := rfl
@[simp] theorem zero169 : Tryz.t169.zero = some .nilFunc := rfl
@[simp] theorem cells170 : Tryz.prog.cellsOf 170 = 1 := by kernel_rfl
@[simp] theorem info170 : Tryz.prog.info? 170 = some Tryz.t170 := by kernel_rfl
@[simp] theorem agg170 : isAggT Tryz.prog 170 = false := by kernel_rfl
attribute [simp] Tryz.underlying170
@[simp] theorem bytes170 : Tryz.t170.bytes = 8 := rfl
@[simp] theorem zero170 : Tryz.t170.zero = some (.int .u64 0) := rfl
@[simp] theorem cells171 : Tryz.prog.cellsOf 171 = 1 := by kernel_rfl
@[simp] theorem info171 : Tryz.prog.info? 171 = some Tryz.t171 := by kernel_rfl
@[simp] theorem agg171 : isAggT Tryz.prog 171 = false := by kernel_rfl
attribute [simp] Tryz.underlying171
@[simp] theorem bytes171 : Tryz.t171.bytes = 8 := rfl
@[simp] theorem zero171 : Tryz.t171.zero = some (.int .u64 0) := rfl
@[simp] theorem cells172 : Tryz.prog.cellsOf 172 = 1 := by kernel_rfl
@[simp] theorem info172 : Tryz.prog.info? 172 = some Tryz.t172 := by kernel_rfl
@[simp] theorem agg172 : isAggT Tryz.prog 172 = false := by kernel_rfl
attribute [simp] Tryz.underlying172
@[simp] theorem bytes172 : Tryz.t172.bytes = 0 := rfl
@[simp] theorem cells173 : Tryz.prog.cellsOf 173 = 1 := by kernel_rfl
@[simp] theorem info173 : Tryz.prog.info? 173 = some Tryz.t173 := by kernel_rfl
@[simp] theorem agg173 : isAggT Tryz.prog 173 = false := by kernel_rfl
attribute [simp] Tryz.underlying173
@[simp] theorem bytes173 : Tryz.t173.bytes = 8 := rfl
@[simp] theorem zero173 : Tryz.t173.zero = some .nilFunc := rfl
@[simp] theorem cells174 : Tryz.prog.cellsOf 174 = 3 := by kernel_rfl
@[simp] theorem info174 : Tryz.prog.info? 174 = some Tryz.t174 := by kernel_rfl
@[simp] theorem agg174 : isAggT Tryz.prog 174 = true := by kernel_rfl
attribute [simp] Tryz.underlying174
@[simp] theorem bytes174 : Tryz.t174.bytes = 48 := rfl
@[simp] theorem zero174 : Tryz.t174.zero = some (.agg #[(.string ⟨#[]⟩), (.string ⟨#[]⟩), .nilIface]) := rfl
@[simp] theorem cells175 : Tryz.prog.cellsOf 175 = 3 := by kernel_rfl
@[simp] theorem info175 : Tryz.prog.info? 175 = some Tryz.t175 := by kernel_rfl
@[simp] theorem agg175 : isAggT Tryz.prog 175 = true := by kernel_rfl
attribute [simp] Tryz.underlying175
@[simp] theorem bytes175 : Tryz.t175.bytes = 48 := rfl
@[simp] theorem zero175 : Tryz.t175.zero = some (.agg #[(.string ⟨#[]⟩), (.string ⟨#[]⟩), .nilIface]) := rfl
@[simp] theorem cells176 : Tryz.prog.cellsOf 176 = 1 := by kernel_rfl
@[simp] theorem info176 : Tryz.prog.info? 176 = some Tryz.t176 := by kernel_rfl
@[simp] theorem agg176 : isAggT Tryz.prog 176 = false := by kernel_rfl
attribute [simp] Tryz.underlying176
@[simp] theorem bytes176 : Tryz.t176.bytes = 8 := rfl
@[simp] theorem zero176 : Tryz.t176.zero = some .nilFunc := rfl
@[simp] theorem cells177 : Tryz.prog.cellsOf 177 = 24 := by kernel_rfl
@[simp] theorem info177 : Tryz.prog.info? 177 = some Tryz.t177 := by kernel_rfl
@[simp] theorem agg177 : isAggT Tryz.prog 177 = true := by kernel_rfl
attribute [simp] Tryz.underlying177
@[simp] theorem bytes177 : Tryz.t177.bytes = 24 := rfl
@[simp] theorem zero177 : Tryz.t177.zero = some (.agg #[(.int .u8 0), (.int .u8 0), (.int .u8 0), (.int .u8 0), (.int .u8 0), (.int .u8 0), (.int .u8 0), (.int .u8 0), (.int .u8 0), (.int .u8 0), (.int .u8 0), (.int .u8 0), (.int .u8 0), (.int .u8 0), (.int .u8 0), (.int .u8 0), (.int .u8 0), (.int .u8 0), (.int .u8 0), (.int .u8 0), (.int .u8 0), (.int .u8 0), (.int .u8 0), (.int .u8 0)]) := rfl
@[simp] theorem cells178 : Tryz.prog.cellsOf 178 = 1 := by kernel_rfl
@[simp] theorem info178 : Tryz.prog.info? 178 = some Tryz.t178 := by kernel_rfl
@[simp] theorem agg178 : isAggT Tryz.prog 178 = false := by kernel_rfl
attribute [simp] Tryz.underlying178
@[simp] theorem bytes178 : Tryz.t178.bytes = 8 := rfl
@[simp] theorem zero178 : Tryz.t178.zero = some .nilFunc := rfl
@[simp] theorem cells179 : Tryz.prog.cellsOf 179 = 1 := by kernel_rfl
@[simp] theorem info179 : Tryz.prog.info? 179 = some Tryz.t179 := by kernel_rfl
@[simp] theorem agg179 : isAggT Tryz.prog 179 = false := by kernel_rfl
attribute [simp] Tryz.underlying179
@[simp] theorem bytes179 : Tryz.t179.bytes = 8 := rfl
@[simp] theorem zero179 : Tryz.t179.zero = some .nilFunc := rfl
@[simp] theorem cells180 : Tryz.prog.cellsOf 180 = 1 := by kernel_rfl
@[simp] theorem info180 : Tryz.prog.info? 180 = some Tryz.t180 := by kernel_rfl
@[simp] theorem agg180 : isAggT Tryz.prog 180 = false := by kernel_rfl
attribute [simp] Tryz.underlying180
@[simp] theorem bytes180 : Tryz.t180.bytes = 0 := rfl
@[simp] theorem cells181 : Tryz.prog.cellsOf 181 = 1 := by kernel_rfl
@[simp] theorem info181 : Tryz.prog.info? 181 = some Tryz.t181 := by kernel_rfl
@[simp] theorem agg181 : isAggT Tryz.prog 181 = false := by kernel_rfl
attribute [simp] Tryz.underlying181
@[simp] theorem bytes181 : Tryz.t181.bytes = 8 := rfl
@[simp] theorem zero181 : Tryz.t181.zero = some .nilFunc := rfl
@[simp] theorem cells182 : Tryz.prog.cellsOf 182 = 1 := by kernel_rfl
@[simp] theorem info182 : Tryz.prog.info? 182 = some Tryz.t182 := by kernel_rfl
@[simp] theorem agg182 : isAggT Tryz.prog 182 = false := by kernel_rfl
attribute [simp] Tryz.underlying182
@[simp] theorem bytes182 : Tryz.t182.bytes = 8 := rfl
@[simp] theorem zero182 : Tryz.t182.zero = some .nilFunc := rfl
@[simp] theorem cells183 : Tryz.prog.cellsOf 183 = 1 := by kernel_rfl
@[simp] theorem info183 : Tryz.prog.info? 183 = some Tryz.t183 := by kernel_rfl
@[simp] theorem agg183 : isAggT Tryz.prog 183 = false := by kernel_rfl
attribute [simp] Tryz.underlying183
@[simp] theorem bytes183 : Tryz.t183.bytes = 8 := rfl
@[simp] theorem zero183 : Tryz.t183.zero = some .nilFunc := rfl
@[simp] theorem cells184 : Tryz.prog.cellsOf 184 = 1 := by kernel_rfl
@[simp] theorem info184 : Tryz.prog.info? 184 = some Tryz.t184 := by kernel_rfl
@[simp] theorem agg184 : isAggT Tryz.prog 184 = false := by kernel_rfl
attribute [simp] Tryz.underlying184
@[simp] theorem bytes184 : Tryz.t184.bytes = 8 := rfl
@[simp] theorem zero184 : Tryz.t184.zero = some .nilFunc := rfl
@[simp] theorem cells185 : Tryz.prog.cellsOf 185 = 1 := by kernel_rfl
@[simp] theorem info185 : Tryz.prog.info? 185 = some Tryz.t185 := by kernel_rfl
@[simp] theorem agg185 : isAggT Tryz.prog 185 = false := by kernel_rfl
attribute [simp] Tryz.underlying185
@[simp] theorem bytes185 : Tryz.t185.bytes = 8 := rfl
@[simp] theorem cells186 : Tryz.prog.cellsOf 186 = 1 := by kernel_rfl
@[simp] theorem info186 : Tryz.prog.info? 186 = some Tryz.t186 := by kernel_rfl
@[simp] theorem agg186 : isAggT Tryz.prog 186 = false := by kernel_rfl
attribute [simp] Tryz.underlying186
@[simp] theorem bytes186 : Tryz.t186.bytes = 8 := rfl
@[simp] theorem zero186 : Tryz.t186.zero = some .nilFunc := rfl
@[simp] theorem cells187 : Tryz.prog.cellsOf 187 = 1 := by kernel_rfl
@[simp] theorem info187 : Tryz.prog.info? 187 = some Tryz.t187 := by kernel_rfl
@[simp] theorem agg187 : isAggT Tryz.prog 187 = false := by kernel_rfl
attribute [simp] Tryz.underlying187
@[simp] theorem bytes187 : Tryz.t187.bytes = 8 := rfl
@[simp] theorem cells188 : Tryz.prog.cellsOf 188 = 1 := by kernel_rfl
@[simp] theorem info188 : Tryz.prog.info? 188 = some Tryz.t188 := by kernel_rfl
@[simp] theorem agg188 : isAggT Tryz.prog 188 = false := by kernel_rfl
attribute [simp] Tryz.underlying188
@[simp] theorem bytes188 : Tryz.t188.bytes = 8 := rfl
@[simp] theorem zero188 : Tryz.t188.zero = some .nilFunc := rfl
@[simp] theorem cells189 : Tryz.prog.cellsOf 189 = 1 := by kernel_rfl
@[simp] theorem info189 : Tryz.prog.info? 189 = some Tryz.t189 := by kernel_rfl
@[simp] theorem agg189 : isAggT Tryz.prog 189 = false := by kernel_rfl
attribute [simp] Tryz.underlying189
@[simp] theorem bytes189 : Tryz.t189.bytes = 0 := rfl
@[simp] theorem cells190 : Tryz.prog.cellsOf 190 = 1 := by kernel_rfl
@[simp] theorem info190 : Tryz.prog.info? 190 = some Tryz.t190 := by kernel_rfl
@[simp] theorem agg190 : isAggT Tryz.prog 190 = false := by kernel_rfl
attribute [simp] Tryz.underlying190
@[simp] theorem bytes190 : Tryz.t190.bytes = 8 := rfl
@[simp] theorem zero190 : Tryz.t190.zero = some .nilFunc := rfl
@[simp] theorem cells191 : Tryz.prog.cellsOf 191 = 1 := by kernel_rfl
@[simp] theorem info191 : Tryz.prog.info? 191 = some Tryz.t191 := by kernel_rfl
@[simp] theorem agg191 : isAggT Tryz.prog 191 = false := by kernel_rfl
attribute [simp] Tryz.underlying191
@[simp] theorem bytes191 : Tryz.t191.bytes = 0 := rfl
@[simp] theorem cells192 : Tryz.prog.cellsOf 192 = 1 := by kernel_rfl
@[simp] theorem info192 : Tryz.prog.info? 192 = some Tryz.t192 := by kernel_rfl
@[simp] theorem agg192 : isAggT Tryz.prog 192 = false := by kernel_rfl
attribute [simp] Tryz.underlying192
@[simp] theorem bytes192 : Tryz.t192.bytes = 8 := rfl
@[simp] theorem zero192 : Tryz.t192.zero = some .nilFunc := rfl
@[simp] theorem cells193 : Tryz.prog.cellsOf 193 = 1 := by kernel_rfl
@[simp] theorem info193 : Tryz.prog.info? 193 = some Tryz.t193 := by kernel_rfl
@[simp] theorem agg193 : isAggT Tryz.prog 193 = false := by kernel_rfl
attribute [simp] Tryz.underlying193
@[simp] theorem bytes193 : Tryz.t193.bytes = 8 := rfl
@[simp] theorem zero193 : Tryz.t193.zero = some .nilFunc := rfl
@[simp] theorem cells194 : Tryz.prog.cellsOf 194 = 1 := by kernel_rfl
@[simp] theorem info194 : Tryz.prog.info? 194 = some Tryz.t194 := by kernel_rfl
@[simp] theorem agg194 : isAggT Tryz.prog 194 = false := by kernel_rfl
attribute [simp] Tryz.underlying194
@[simp] theorem bytes194 : Tryz.t194.bytes = 4 := rfl
@[simp] theorem zero194 : Tryz.t194.zero = some (.int .u32 0) := rfl
@[simp] theorem cells195 : Tryz.prog.cellsOf 195 = 1 := by kernel_rfl
@[simp] theorem info195 : Tryz.prog.info? 195 = some Tryz.t195 := by kernel_rfl
@[simp] theorem agg195 : isAggT Tryz.prog 195 = false := by kernel_rfl
attribute [simp] Tryz.underlying195
@[simp] theorem bytes195 : Tryz.t195.bytes = 0 := rfl
@[simp] theorem cells196 : Tryz.prog.cellsOf 196 = 1 := by kernel_rfl
@[simp] theorem info196 : Tryz.prog.info? 196 = some Tryz.t196 := by kernel_rfl
@[simp] theorem agg196 : isAggT Tryz.prog 196 = false := by kernel_rfl
attribute [simp] Tryz.underlying196
@[simp] theorem bytes196 : Tryz.t196.bytes = 8 := rfl
@[simp] theorem zero196 : Tryz.t196.zero = some .nilFunc := rfl
@[simp] theorem cells197 : Tryz.prog.cellsOf 197 = 1 := by kernel_rfl
@[simp] theorem info197 : Tryz.prog.info? 197 = some Tryz.t197 := by kernel_rfl
@[simp] theorem agg197 : isAggT Tryz.prog 197 = false := by kernel_rfl
attribute [simp] Tryz.underlying197
@[simp] theorem bytes197 : Tryz.t197.bytes = 8 := rfl
@[simp] theorem zero197 : Tryz.t197.zero = some .nilFunc := rfl
@[simp] theorem cells198 : Tryz.prog.cellsOf 198 = 1 := by kernel_rfl
@[simp] theorem info198 : Tryz.prog.info? 198 = some Tryz.t198 := by kernel_rfl
@[simp] theorem agg198 : isAggT Tryz.prog 198 = false := by kernel_rfl
attribute [simp] Tryz.underlying198
@[simp] theorem bytes198 : Tryz.t198.bytes = 8 := rfl
@[simp] theorem zero198 : Tryz.t198.zero = some (.pointer none) := rfl
@[simp] theorem cells199 : Tryz.prog.cellsOf 199 = 1 := by kernel_rfl
@[simp] theorem info199 : Tryz.prog.info? 199 = some Tryz.t199 := by kernel_rfl
@[simp] theorem agg199 : isAggT Tryz.prog 199 = true := by kernel_rfl
attribute [simp] Tryz.underlying199
@[simp] theorem bytes199 : Tryz.t199.bytes = 16 := rfl
@[simp] theorem zero199 : Tryz.t199.zero = some (.agg #[(.string ⟨#[]⟩)]) := rfl
@[simp] theorem cells200 : Tryz.prog.cellsOf 200 = 1 := by kernel_rfl
@[simp] theorem info200 : Tryz.prog.info? 200 = some Tryz.t200 := by kernel_rfl
@[simp] theorem agg200 : isAggT Tryz.prog 200 = true := by kernel_rfl
attribute [simp] Tryz.underlying200
@[simp] theorem bytes200 : Tryz.t200.bytes = 16 := rfl
@[simp] theorem zero200 : Tryz.t200.zero = some (.agg #[(.string ⟨#[]⟩)]) := rfl
@[simp] theorem cells201 : Tryz.prog.cellsOf 201 = 1 := by kernel_rfl
@[simp] theorem info201 : Tryz.prog.info? 201 = some Tryz.t201 := by kernel_rfl
@[simp] theorem agg201 : isAggT Tryz.prog 201 = false := by kernel_rfl
attribute [simp] Tryz.underlying201
@[simp] theorem bytes201 : Tryz.t201.bytes = 8 := rfl
@[simp] theorem zero201 : Tryz.t201.zero = some .nilFunc := rfl
@[simp] theorem cells202 : Tryz.prog.cellsOf 202 = 20 := by kernel_rfl
@[simp] theorem info202 : Tryz.prog.info? 202 = some Tryz.t202 := by kernel_rfl
@[simp] theorem agg202 : isAggT Tryz.prog 202 = true := by kernel_rfl
attribute [simp] Tryz.underlying202
@[simp] theorem bytes202 : Tryz.t202.bytes = 160 := rfl
@[simp] theorem zero202 : Tryz.t202.zero = some (.agg #[(.int .u64 0), (.int .u64 0), (.int .u64 0), (.int .u64 0), (.int .u64 0), (.int .u64 0), (.int .u64 0), (.int .u64 0), (.int .u64 0), (.int .u64 0), (.int .u64 0), (.int .u64 0), (.int .u64 0), (.int .u64 0), (.int .u64 0), (.int .u64 0), (.int .u64 0), (.int .u64 0), (.int .u64 0), (.int .u64 0)]) := rfl
@[simp] theorem cells203 : Tryz.prog.cellsOf 203 = 65 := by kernel_rfl
@[simp] theorem info203 : Tryz.prog.info? 203 = some Tryz.t203 := by kernel_rfl
@[simp] theorem agg203 : isAggT Tryz.prog 203 = true := by kernel_rfl
attribute [simp] Tryz.underlying203
@[simp] theorem bytes203 : Tryz.t203.bytes = 65 := rfl
@[simp] theorem zero203 : Tryz.t203.zero = some (.agg #[(.int .u8 0), (.int .u8 0), (.int .u8 0), (.int .u8 0), (.int .u8 0), (.int .u8 0), (.int .u8 0), (.int .u8 0), (.int .u8 0), (.int .u8 0), (.int .u8 0), (.int .u8 0), (.int .u8 0), (.int .u8 0), (.int .u8 0), (.int .u8 0), (.int .u8 0), (.int .u8 0), (.int .u8 0), (.int .u8 0), (.int .u8 0), (.int .u8 0), (.int .u8 0), (.int .u8 0), (.int .u8 0), (.int .u8 0), (.int .u8 0), (.int .u8 0), (.int .u8 0), (.int .u8 0), (.int .u8 0), (.int .u8 0), (.int .u8 0), (.int .u8 0), (.int .u8 0), (.int .u8 0), (.int .u8 0), (.int .u8 0), (.int .u8 0), (.int .u8 0), (.int .u8 0), (.int .u8 0), (.int .u8 0), (.int .u8 0), (.int .u8 0), (.int .u8 0), (.int .u8 0), (.int .u8 0), (.int .u8 0), (.int .u8 0), (.int .u8 0), (.int .u8 0), (.int .u8 0), (.int .u8 0), (.int .u8 0), (.int .u8 0), (.int .u8 0), (.int .u8 0), (.int .u8 0), (.int .u8 0), (.int .u8 0), (.int .u8 0), (.int .u8 0), (.int .u8 0), (.int .u8 0)]) := rfl
@[simp] theorem cells204 : Tryz.prog.cellsOf 204 = 1 := by kernel_rfl
@[simp] theorem info204 : Tryz.prog.info? 204 = some Tryz.t204 := by kernel_rfl
@[simp] theorem agg204 : isAggT Tryz.prog 204 = false := by kernel_rfl
attribute [simp] Tryz.underlying204
@[simp] theorem bytes204 : Tryz.t204.bytes = 8 := rfl
@[simp] theorem zero204 : Tryz.t204.zero = some .nilFunc := rfl
@[simp] theorem cells205 : Tryz.prog.cellsOf 205 = 1 := by kernel_rfl
@[simp] theorem info205 : Tryz.prog.info? 205 = some Tryz.t205 := by kernel_rfl
@[simp] theorem agg205 : isAggT Tryz.prog 205 = false := by kernel_rfl
attribute [simp] Tryz.underlying205
@[simp] theorem bytes205 : Tryz.t205.bytes = 8 := rfl
@[simp] theorem zero205 : Tryz.t205.zero = some .nilFunc := rfl
@[simp] theorem cells206 : Tryz.prog.cellsOf 206 = 1 := by kernel_rfl
@[simp] theorem info206 : Tryz.prog.info? 206 = some Tryz.t206 := by kernel_rfl
@[simp] theorem agg206 : isAggT Tryz.prog 206 = false := by kernel_rfl
attribute [simp] Tryz.underlying206
@[simp] theorem bytes206 : Tryz.t206.bytes = 0 := rfl
@[simp] theorem cells207 : Tryz.prog.cellsOf 207 = 1 := by kernel_rfl
@[simp] theorem info207 : Tryz.prog.info? 207 = some Tryz.t207 := by kernel_rfl
@[simp] theorem agg207 : isAggT Tryz.prog 207 = false := by kernel_rfl
attribute [simp] Tryz.underlying207
@[simp] theorem bytes207 : Tryz.t207.bytes = 8 := rfl
@[simp] theorem zero207 : Tryz.t207.zero = some .nilFunc := rfl
@[simp] theorem cells208 : Tryz.prog.cellsOf 208 = 1 := by kernel_rfl
@[simp] theorem info208 : Tryz.prog.info? 208 = some Tryz.t208 := by kernel_rfl
@[simp] theorem agg208 : isAggT Tryz.prog 208 = false := by kernel_rfl
attribute [simp] Tryz.underlying208
@[simp] theorem bytes208 : Tryz.t208.bytes = 8 := rfl
@[simp] theorem zero208 : Tryz.t208.zero = some .nilFunc := rfl
@[simp] theorem cells209 : Tryz.prog.cellsOf 209 = 256 := by kernel_rfl
@[simp] theorem info209 : Tryz.prog.info? 209 = some Tryz.t209 := by kernel_rfl
@[simp] theorem agg209 : isAggT Tryz.prog 209 = true := by kernel_rfl
attribute [simp] Tryz.underlying209
@[simp] theorem bytes209 : Tryz.t209.bytes = 256 := rfl
@[simp] theorem cells210 : Tryz.prog.cellsOf 210 = 256 := by kernel_rfl
@[simp] theorem info210 : Tryz.prog.info? 210 = some Tryz.t210 := by kernel_rfl
@[simp] theorem agg210 : isAggT Tryz.prog 210 = true := by kernel_rfl
attribute [simp] Tryz.underlying210
@[simp] theorem bytes210 : Tryz.t210.bytes = 256 := rfl
@[simp] theorem cells211 : Tryz.prog.cellsOf 211 = 1 := by kernel_rfl
@[simp] theorem info211 : Tryz.prog.info? 211 = some Tryz.t211 := by kernel_rfl
@[simp] theorem agg211 : isAggT Tryz.prog 211 = false := by kernel_rfl
attribute [simp] Tryz.underlying211
@[simp] theorem bytes211 : Tryz.t211.bytes = 0 := rfl
@[simp] theorem cells212 : Tryz.prog.cellsOf 212 = 1 := by kernel_rfl
@[simp] theorem info212 : Tryz.prog.info? 212 = some Tryz.t212 := by kernel_rfl
@[simp] theorem agg212 : isAggT Tryz.prog 212 = false := by kernel_rfl
attribute [simp] Tryz.underlying212
@[simp] theorem bytes212 : Tryz.t212.bytes = 8 := rfl
@[simp] theorem zero212 : Tryz.t212.zero = some .nilFunc := rfl
@[simp] theorem cells213 : Tryz.prog.cellsOf 213 = 1 := by kernel_rfl
@[simp] theorem info213 : Tryz.prog.info? 213 = some Tryz.t213 := by kernel_rfl
@[simp] theorem agg213 : isAggT Tryz.prog 213 = false := by kernel_rfl
attribute [simp] Tryz.underlying213
@[simp] theorem bytes213 : Tryz.t213.bytes = 8 := rfl
@[simp] theorem zero213 : Tryz.t213.zero = some .nilFunc := rfl
@[simp] theorem cells214 : Tryz.prog.cellsOf 214 = 1 := by kernel_rfl
@[simp] theorem info214 : Tryz.prog.info? 214 = some Tryz.t214 := by kernel_rfl
@[simp] theorem agg214 : isAggT Tryz.prog 214 = false := by kernel_rfl
attribute [simp] Tryz.underlying214
@[simp] theorem bytes214 : Tryz.t214.bytes = 8 := rfl
@[simp] theorem zero214 : Tryz.t214.zero = some (.pointer none) := rfl
@[simp] theorem cells215 : Tryz.prog.cellsOf 215 = 1 := by kernel_rfl
@[simp] theorem info215 : Tryz.prog.info? 215 = some Tryz.t215 := by kernel_rfl
@[simp] theorem agg215 : isAggT Tryz.prog 215 = false := by kernel_rfl
attribute [simp] Tryz.underlying215
@[simp] theorem bytes215 : Tryz.t215.bytes = 8 := rfl
@[simp] theorem zero215 : Tryz.t215.zero = some .nilFunc := rfl
@[simp] theorem cells216 : Tryz.prog.cellsOf 216 = 1 := by kernel_rfl
@[simp] theorem info216 : Tryz.prog.info? 216 = some Tryz.t216 := by kernel_rfl
@[simp] theorem agg216 : isAggT Tryz.prog 216 = false := by kernel_rfl
attribute [simp] Tryz.underlying216
@[simp] theorem bytes216 : Tryz.t216.bytes = 0 := rfl
@[simp] theorem cells217 : Tryz.prog.cellsOf 217 = 1 := by kernel_rfl
@[simp] theorem info217 : Tryz.prog.info? 217 = some Tryz.t217 := by kernel_rfl
@[simp] theorem agg217 : isAggT Tryz.prog 217 = false := by kernel_rfl
attribute [simp] Tryz.underlying217
@[simp] theorem bytes217 : Tryz.t217.bytes = 8 := rfl
@[simp] theorem cells218 : Tryz.prog.cellsOf 218 = 1 := by kernel_rfl
@[simp] theorem info218 : Tryz.prog.info? 218 = some Tryz.t218 := by kernel_rfl
@[simp] theorem agg218 : isAggT Tryz.prog 218 = false := by kernel_rfl
attribute [simp] Tryz.underlying218
@[simp] theorem bytes218 : Tryz.t218.bytes = 0 := rfl
@[simp] theorem cells219 : Tryz.prog.cellsOf 219 = 1 := by kernel_rfl
@[simp] theorem info219 : Tryz.prog.info? 219 = some Tryz.t219 := by kernel_rfl
@[simp] theorem agg219 : isAggT Tryz.prog 219 = false := by kernel_rfl
attribute [simp] Tryz.underlying219
@[simp] theorem bytes219 : Tryz.t219.bytes = 8 := rfl
@[simp] theorem zero219 : Tryz.t219.zero = some .nilFunc := rfl
@[simp] theorem cells220 : Tryz.prog.cellsOf 220 = 1 := by kernel_rfl
@[simp] theorem info220 : Tryz.prog.info? 220 = some Tryz.t220 := by kernel_rfl
@[simp] theorem agg220 : isAggT Tryz.prog 220 = false := by kernel_rfl
attribute [simp] Tryz.underlying220
@[simp] theorem bytes220 : Tryz.t220.bytes = 8 := rfl
@[simp] theorem zero220 : Tryz.t220.zero = some .nilFunc := rfl
@[simp] theorem cells221 : Tryz.prog.cellsOf 221 = 32 := by kernel_rfl
@[simp] theorem info221 : Tryz.prog.info? 221 = some Tryz.t221 := by kernel_rfl
@[simp] theorem agg221 : isAggT Tryz.prog 221 = true := by kernel_rfl
attribute [simp] Tryz.underlying221
@[simp] theorem bytes221 : Tryz.t221.bytes = 32 := rfl
@[simp] theorem zero221 : Tryz.t221.zero = some (.agg #[(.int .u8 0), (.int .u8 0), (.int .u8 0), (.int .u8 0), (.int .u8 0), (.int .u8 0), (.int .u8 0), (.int .u8 0), (.int .u8 0), (.int .u8 0), (.int .u8 0), (.int .u8 0), (.int .u8 0), (.int .u8 0), (.int .u8 0), (.int .u8 0), (.int .u8 0), (.int .u8 0), (.int .u8 0), (.int .u8 0), (.int .u8 0), (.int .u8 0), (.int .u8 0), (.int .u8 0), (.int .u8 0), (.int .u8 0), (.int .u8 0), (.int .u8 0), (.int .u8 0), (.int .u8 0), (.int .u8 0), (.int .u8 0)]) := rfl
@[simp] theorem cells222 : Tryz.prog.cellsOf 222 = 64 := by kernel_rfl
@[simp] theorem info222 : Tryz.prog.info? 222 = some Tryz.t222 := by kernel_rfl
@[simp] theorem agg222 : isAggT Tryz.prog 222 = true := by kernel_rfl
attribute [simp] Tryz.underlying222
@[simp] theorem bytes222 : Tryz.t222.bytes = 64 := rfl
@[simp] theorem zero222 : Tryz.t222.zero = some (.agg #[(.int .u8 0), (.int .u8 0), (.int .u8 0), (.int .u8 0), (.int .u8 0), (.int .u8 0), (.int .u8 0), (.int .u8 0), (.int .u8 0), (.int .u8 0), (.int .u8 0), (.int .u8 0), (.int .u8 0), (.int .u8 0), (.int .u8 0), (.int .u8 0), (.int .u8 0), (.int .u8 0), (.int .u8 0), (.int .u8 0), (.int .u8 0), (.int .u8 0), (.int .u8 0), (.int .u8 0), (.int .u8 0), (.int .u8 0), (.int .u8 0), (.int .u8 0), (.int .u8 0), (.int .u8 0), (.int .u8 0), (.int .u8 0), (.int .u8 0), (.int .u8 0), (.int .u8 0), (.int .u8 0), (.int .u8 0), (.int .u8 0), (.int .u8 0), (.int .u8 0), (.int .u8 0), (.int .u8 0), (.int .u8 0), (.int .u8 0), (.int .u8 0), (.int .u8 0), (.int .u8 0), (.int .u8 0), (.int .u8 0), (.int .u8 0), (.int .u8 0), (.int .u8 0), (.int .u8 0), (.int .u8 0), (.int .u8 0), (.int .u8 0), (.int .u8 0), (.int .u8 0), (.int .u8 0), (.int .u8 0), (.int .u8 0), (.int .u8 0), (.int .u8 0), (.int .u8 0)]) := rfl
@[simp] theorem cells223 : Tryz.prog.cellsOf 223 = 1 := by kernel_rfl
@[simp] theorem info223 : Tryz.prog.info? 223 = some Tryz.t223 := by kernel_rfl
@[simp] theorem agg223 : isAggT Tryz.prog 223 = false := by kernel_rfl
attribute [simp] Tryz.underlying223
@[simp] theorem bytes223 : Tryz.t223.bytes = 8 := rfl
@[simp] theorem zero223 : Tryz.t223.zero = some .nilFunc := rfl
@[simp] theorem cells224 : Tryz.prog.cellsOf 224 = 256 := by kernel_rfl
@[simp] theorem info224 : Tryz.prog.info? 224 = some Tryz.t224 := by kernel_rfl
@[simp] theorem agg224 : isAggT Tryz.prog 224 = true := by kernel_rfl
attribute [simp] Tryz.underlying224
@[simp] theorem bytes224 : Tryz.t224.bytes = 256 := rfl
@[simp] theorem cells225 : Tryz.prog.cellsOf 225 = 2 := by kernel_rfl
@[simp] theorem info225 : Tryz.prog.info? 225 = some Tryz.t225 := by kernel_rfl
@[simp] theorem agg225 : isAggT Tryz.prog 225 = true := by kernel_rfl
attribute [simp] Tryz.underlying225
@[simp] theorem bytes225 : Tryz.t225.bytes = 2 := rfl
@[simp] theorem zero225 : Tryz.t225.zero = some (.agg #[(.int .u8 0), (.int .u8 0)]) := rfl
@[simp] theorem cells226 : Tryz.prog.cellsOf 226 = 2 := by kernel_rfl
@[simp] theorem info226 : Tryz.prog.info? 226 = some Tryz.t226 := by kernel_rfl
@[simp] theorem agg226 : isAggT Tryz.prog 226 = true := by kernel_rfl
attribute [simp] Tryz.underlying226
@[simp] theorem bytes226 : Tryz.t226.bytes = 2 := rfl
@[simp] theorem zero226 : Tryz.t226.zero = some (.agg #[(.int .u8 0), (.int .u8 0)]) := rfl
@[simp] theorem cells227 : Tryz.prog.cellsOf 227 = 32 := by kernel_rfl
@[simp] theorem info227 : Tryz.prog.info? 227 = some Tryz.t227 := by kernel_rfl
@[simp] theorem agg227 : isAggT Tryz.prog 227 = true := by kernel_rfl
attribute [simp] Tryz.underlying227
@[simp] theorem bytes227 : Tryz.t227.bytes = 32 := rfl
@[simp] theorem zero227 : Tryz.t227.zero = some (.agg #[(.int .u8 0), (.int .u8 0), (.int .u8 0), (.int .u8 0), (.int .u8 0), (.int .u8 0), (.int .u8 0), (.int .u8 0), (.int .u8 0), (.int .u8 0), (.int .u8 0), (.int .u8 0), (.int .u8 0), (.int .u8 0), (.int .u8 0), (.int .u8 0), (.int .u8 0), (.int .u8 0), (.int .u8 0), (.int .u8 0), (.int .u8 0), (.int .u8 0), (.int .u8 0), (.int .u8 0), (.int .u8 0), (.int .u8 0), (.int .u8 0), (.int .u8 0), (.int .u8 0), (.int .u8 0), (.int .u8 0), (.int .u8 0)]) := rfl
@[simp] theorem cells228 : Tryz.prog.cellsOf 228 = 1 := by kernel_rfl
@[simp] theorem info228 : Tryz.prog.info? 228 = some Tryz.t228 := by kernel_rfl
@[simp] theorem agg228 : isAggT Tryz.prog 228 = false := by kernel_rfl
attribute [simp] Tryz.underlying228
@[simp] theorem bytes228 : Tryz.t228.bytes = 8 := rfl
@[simp] theorem zero228 : Tryz.t228.zero = some .nilFunc := rfl
@[simp] theorem cells229 : Tryz.prog.cellsOf 229 = 4 := by kernel_rfl
@[simp] theorem info229 : Tryz.prog.info? 229 = some Tryz.t229 := by kernel_rfl
@[simp] theorem agg229 : isAggT Tryz.prog 229 = true := by kernel_rfl
attribute [simp] Tryz.underlying229
@[simp] theorem bytes229 : Tryz.t229.bytes = 40 := rfl
@[simp] theorem zero229 : Tryz.t229.zero = some (.agg #[(.pointer none), (.pointer none), (.pointer none), (.string ⟨#[]⟩)]) := rfl
@[simp] theorem cells230 : Tryz.prog.cellsOf 230 = 4 := by kernel_rfl
@[simp] theorem info230 : Tryz.prog.info? 230 = some Tryz.t230 := by kernel_rfl
@[simp] theorem agg230 : isAggT Tryz.prog 230 = true := by kernel_rfl
attribute [simp] Tryz.underlying230
@[simp] theorem bytes230 : Tryz.t230.bytes = 40 := rfl
@[simp] theorem zero230 : Tryz.t230.zero = some (.agg #[(.pointer none), (.pointer none), (.pointer none), (.string ⟨#[]⟩)]) := rfl
@[simp] theorem cells231 : Tryz.prog.cellsOf 231 = 0 := by kernel_rfl
@[simp] theorem info231 : Tryz.prog.info? 231 = some Tryz.t231 := by kernel_rfl
@[simp] theorem agg231 : isAggT Tryz.prog 231 = true := by kernel_rfl
attribute [simp] Tryz.underlying231
@[simp] theorem bytes231 : Tryz.t231.bytes = 0 := rfl
@[simp] theorem zero231 : Tryz.t231.zero = some (.agg #[]) := rfl
@[simp] theorem cells232 : Tryz.prog.cellsOf 232 = 0 := by kernel_rfl
@[simp] theorem info232 : Tryz.prog.info? 232 = some Tryz.t232 := by kernel_rfl
@[simp] theorem agg232 : isAggT Tryz.prog 232 = true := by kernel_rfl
attribute [simp] Tryz.underlying232
@[simp] theorem bytes232 : Tryz.t232.bytes = 0 := rfl
@[simp] theorem zero232 : Tryz.t232.zero = some (.agg #[]) := rfl
@[simp] theorem cells233 : Tryz.prog.cellsOf 233 = 0 := by kernel_rfl
@[simp] theorem info233 : Tryz.prog.info? 233 = some Tryz.t233 := by kernel_rfl
@[simp] theorem agg233 : isAggT Tryz.prog 233 = true := by kernel_rfl
attribute [simp] Tryz.underlying233
@[simp] theorem bytes233 : Tryz.t233.bytes = 0 := rfl
@[simp] theorem zero233 : Tryz.t233.zero = some (.agg #[]) := rfl
@[simp] theorem cells234 : Tryz.prog.cellsOf 234 = 1 := by kernel_rfl
@[simp] theorem info234 : Tryz.prog.info? 234 = some Tryz.t234 := by kernel_rfl
@[simp] theorem agg234 : isAggT Tryz.prog 234 = false := by kernel_rfl
attribute [simp] Tryz.underlying234
@[simp] theorem bytes234 : Tryz.t234.bytes = 8 := rfl
@[simp] theorem zero234 : Tryz.t234.zero = some .nilFunc := rfl
@[simp] theorem cells235 : Tryz.prog.cellsOf 235 = 1 := by kernel_rfl
@[simp] theorem info235 : Tryz.prog.info? 235 = some Tryz.t235 := by kernel_rfl
@[simp] theorem agg235 : isAggT Tryz.prog 235 = false := by kernel_rfl
attribute [simp] Tryz.underlying235
@[simp] theorem bytes235 : Tryz.t235.bytes = 1 := rfl
@[simp] theorem zero235 : Tryz.t235.zero = some (.int .u8 0) := rfl
@[simp] theorem cells236 : Tryz.prog.cellsOf 236 = 1 := by kernel_rfl
@[simp] theorem info236 : Tryz.prog.info? 236 = some Tryz.t236 := by kernel_rfl
@[simp] theorem agg236 : isAggT Tryz.prog 236 = false := by kernel_rfl
attribute [simp] Tryz.underlying236
@[simp] theorem bytes236 : Tryz.t236.bytes = 8 := rfl
@[simp] theorem zero236 : Tryz.t236.zero = some .nilFunc := rfl
@[simp] theorem cells237 : Tryz.prog.cellsOf 237 = 1 := by kernel_rfl
@[simp] theorem info237 : Tryz.prog.info? 237 = some Tryz.t237 := by kernel_rfl
@[simp] theorem agg237 : isAggT Tryz.prog 237 = false := by kernel_rfl
attribute [simp] Tryz.underlying237
@[simp] theorem bytes237 : Tryz.t237.bytes = 4 := rfl
@[simp] theorem zero237 : Tryz.t237.zero = some (.int .i32 0) := rfl
@[simp] theorem cells238 : Tryz.prog.cellsOf 238 = 1 := by kernel_rfl
@[simp] theorem info238 : Tryz.prog.info? 238 = some Tryz.t238 := by kernel_rfl
@[simp] theorem agg238 : isAggT Tryz.prog 238 = false := by kernel_rfl
attribute [simp] Tryz.underlying238
@[simp] theorem bytes238 : Tryz.t238.bytes = 4 := rfl
@[simp] theorem zero238 : Tryz.t238.zero = some (.int .i32 0) := rfl
@[simp] theorem cells239 : Tryz.prog.cellsOf 239 = 11 := by kernel_rfl
@[simp] theorem info239 : Tryz.prog.info? 239 = some Tryz.t239 := by kernel_rfl
@[simp] theorem agg239 : isAggT Tryz.prog 239 = true := by kernel_rfl
attribute [simp] Tryz.underlying239
@[simp] theorem bytes239 : Tryz.t239.bytes = 48 := rfl
@[simp] theorem zero239 : Tryz.t239.zero = some (.agg #[(.int .u64 0), (.int .u64 0), (.int .u32 0), (.int .u8 0), (.int .u8 0), (.int .u8 0), (.int .u8 0), .nilFunc, (.pointer none), (.int .i32 0), (.int .i32 0)]) := rfl
@[simp] theorem cells240 : Tryz.prog.cellsOf 240 = 11 := by kernel_rfl
@[simp] theorem info240 : Tryz.prog.info? 240 = some Tryz.t240 := by kernel_rfl
@[simp] theorem agg240 : isAggT Tryz.prog 240 = true := by kernel_rfl
attribute [simp] Tryz.underlying240
@[simp] theorem bytes240 : Tryz.t240.bytes = 48 := rfl
@[simp] theorem zero240 : Tryz.t240.zero = some (.agg #[(.int .u64 0), (.int .u64 0), (.int .u32 0), (.int .u8 0), (.int .u8 0), (.int .u8 0), (.int .u8 0), .nilFunc, (.pointer none), (.int .i32 0), (.int .i32 0)]) := rfl
@[simp] theorem cells241 : Tryz.prog.cellsOf 241 = 1 := by kernel_rfl
@[simp] theorem info241 : Tryz.prog.info? 241 = some Tryz.t241 := by kernel_rfl
@[simp] theorem agg241 : isAggT Tryz.prog 241 = false := by kernel_rfl
attribute [simp] Tryz.underlying241
@[simp] theorem bytes241 : Tryz.t241.bytes = 8 := rfl
@[simp] theorem zero241 : Tryz.t241.zero = some .nilFunc := rfl
@[simp] theorem cells242 : Tryz.prog.cellsOf 242 = 1 := by kernel_rfl
@[simp] theorem info242 : Tryz.prog.info? 242 = some Tryz.t242 := by kernel_rfl
@[simp] theorem agg242 : isAggT Tryz.prog 242 = false := by kernel_rfl
attribute [simp] Tryz.underlying242
@[simp] theorem bytes242 : Tryz.t242.bytes = 8 := rfl
@[simp] theorem zero242 : Tryz.t242.zero = some .nilFunc := rfl
@[simp] theorem cells243 : Tryz.prog.cellsOf 243 = 1 := by kernel_rfl
@[simp] theorem info243 : Tryz.prog.info? 243 = some Tryz.t243 := by kernel_rfl
@[simp] theorem agg243 : isAggT Tryz.prog 243 = false := by kernel_rfl
attribute [simp] Tryz.underlying243
@[simp] theorem bytes243 : Tryz.t243.bytes = 0 := rfl
@[simp] theorem cells244 : Tryz.prog.cellsOf 244 = 1 := by kernel_rfl
@[simp] theorem info244 : Tryz.prog.info? 244 = some Tryz.t244 := by kernel_rfl
@[simp] theorem agg244 : isAggT Tryz.prog 244 = false := by kernel_rfl
attribute [simp] Tryz.underlying244
@[simp] theorem bytes244 : Tryz.t244.bytes = 8 := rfl
@[simp] theorem zero244 : Tryz.t244.zero = some .nilFunc := rfl
@[simp] theorem cells245 : Tryz.prog.cellsOf 245 = 1 := by kernel_rfl
@[simp] theorem info245 : Tryz.prog.info? 245 = some Tryz.t245 := by kernel_rfl
@[simp] theorem agg245 : isAggT Tryz.prog 245 = false := by kernel_rfl
attribute [simp] Tryz.underlying245
@[simp] theorem bytes245 : Tryz.t245.bytes = 8 := rfl
@[simp] theorem zero245 : Tryz.t245.zero = some .nilFunc := rfl
@[simp] theorem cells246 : Tryz.prog.cellsOf 246 = 1 := by kernel_rfl
@[simp] theorem info246 : Tryz.prog.info? 246 = some Tryz.t246 := by kernel_rfl
@[simp] theorem agg246 : isAggT Tryz.prog 246 = false := by kernel_rfl
attribute [simp] Tryz.underlying246
@[simp] theorem bytes246 : Tryz.t246.bytes = 8 := rfl
@[simp] theorem zero246 : Tryz.t246.zero = some .nilFunc := rfl
@[simp] theorem cells247 : Tryz.prog.cellsOf 247 = 1 := by kernel_rfl
@[simp] theorem info247 : Tryz.prog.info? 247 = some Tryz.t247 := by kernel_rfl
@[simp] theorem agg247 : isAggT Tryz.prog 247 = false := by kernel_rfl
attribute [simp] Tryz.underlying247
@[simp] theorem bytes247 : Tryz.t247.bytes = 8 := rfl
@[simp] theorem zero247 : Tryz.t247.zero = some .nilFunc := rfl
@[simp] theorem cells248 : Tryz.prog.cellsOf 248 = 1 := by kernel_rfl
@[simp] theorem info248 : Tryz.prog.info? 248 = some Tryz.t248 := by kernel_rfl
@[simp] theorem agg248 : isAggT Tryz.prog 248 = false := by kernel_rfl
attribute [simp] Tryz.underlying248
@[simp] theorem bytes248 : Tryz.t248.bytes = 8 := rfl
@[simp] theorem zero248 : Tryz.t248.zero = some .nilFunc := rfl
@[simp] theorem cells249 : Tryz.prog.cellsOf 249 = 1 := by kernel_rfl
@[simp] theorem info249 : Tryz.prog.info? 249 = some Tryz.t249 := by kernel_rfl
@[simp] theorem agg249 : isAggT Tryz.prog 249 = false := by kernel_rfl
attribute [simp] Tryz.underlying249
@[simp] theorem bytes249 : Tryz.t249.bytes = 8 := rfl
@[simp] theorem zero249 : Tryz.t249.zero = some .nilFunc := rfl
@[simp] theorem cells250 : Tryz.prog.cellsOf 250 = 1 := by kernel_rfl
@[simp] theorem info250 : Tryz.prog.info? 250 = some Tryz.t250 := by kernel_rfl
@[simp] theorem agg250 : isAggT Tryz.prog 250 = false := by kernel_rfl
attribute [simp] Tryz.underlying250
@[simp] theorem bytes250 : Tryz.t250.bytes = 8 := rfl
@[simp] theorem zero250 : Tryz.t250.zero = some .nilFunc := rfl
@[simp] theorem cells251 : Tryz.prog.cellsOf 251 = 1 := by kernel_rfl
@[simp] theorem info251 : Tryz.prog.info? 251 = some Tryz.t251 := by kernel_rfl
@[simp] theorem agg251 : isAggT Tryz.prog 251 = false := by kernel_rfl
attribute [simp] Tryz.underlying251
@[simp] theorem bytes251 : Tryz.t251.bytes = 8 := rfl
@[simp] theorem zero251 : Tryz.t251.zero = some .nilFunc := rfl
@[simp] theorem cells252 : Tryz.prog.cellsOf 252 = 1 := by kernel_rfl
@[simp] theorem info252 : Tryz.prog.info? 252 = some Tryz.t252 := by kernel_rfl
@[simp] theorem agg252 : isAggT Tryz.prog 252 = false := by kernel_rfl
attribute [simp] Tryz.underlying252
@[simp] theorem bytes252 : Tryz.t252.bytes = 8 := rfl
@[simp] theorem zero252 : Tryz.t252.zero = some .nilFunc := rfl
@[simp] theorem cells253 : Tryz.prog.cellsOf 253 = 1 := by kernel_rfl
@[simp] theorem info253 : Tryz.prog.info? 253 = some Tryz.t253 := by kernel_rfl
@[simp] theorem agg253 : isAggT Tryz.prog 253 = false := by kernel_rfl
attribute [simp] Tryz.underlying253
@[simp] theorem bytes253 : Tryz.t253.bytes = 8 := rfl
@[simp] theorem zero253 : Tryz.t253.zero = some .nilFunc := rfl
@[simp] theorem cells254 : Tryz.prog.cellsOf 254 = 1 := by kernel_rfl
@[simp] theorem info254 : Tryz.prog.info? 254 = some Tryz.t254 := by kernel_rfl
@[simp] theorem agg254 : isAggT Tryz.prog 254 = false := by kernel_rfl
attribute [simp] Tryz.underlying254
@[simp] theorem bytes254 : Tryz.t254.bytes = 8 := rfl
@[simp] theorem zero254 : Tryz.t254.zero = some .nilFunc := rfl
@[simp] theorem cells255 : Tryz.prog.cellsOf 255 = 2 := by kernel_rfl
@[simp] theorem info255 : Tryz.prog.info? 255 = some Tryz.t255 := by kernel_rfl
@[simp] theorem agg255 : isAggT Tryz.prog 255 = true := by kernel_rfl
attribute [simp] Tryz.underlying255
@[simp] theorem bytes255 : Tryz.t255.bytes = 24 := rfl
@[simp] theorem zero255 : Tryz.t255.zero = some (.agg #[(.string ⟨#[]⟩), (.int .u8 0)]) := rfl
@[simp] theorem cells256 : Tryz.prog.cellsOf 256 = 2 := by kernel_rfl
@[simp] theorem info256 : Tryz.prog.info? 256 = some Tryz.t256 := by kernel_rfl
@[simp] theorem agg256 : isAggT Tryz.prog 256 = true := by kernel_rfl
attribute [simp] Tryz.underlying256
@[simp] theorem bytes256 : Tryz.t256.bytes = 24 := rfl
@[simp] theorem zero256 : Tryz.t256.zero = some (.agg #[(.string ⟨#[]⟩), (.int .u8 0)]) := rfl
@[simp] theorem cells257 : Tryz.prog.cellsOf 257 = 1 := by kernel_rfl
@[simp] theorem info257 : Tryz.prog.info? 257 = some Tryz.t257 := by kernel_rfl
@[simp] theorem agg257 : isAggT Tryz.prog 257 = false := by kernel_rfl
attribute [simp] Tryz.underlying257
@[simp] theorem bytes257 : Tryz.t257.bytes = 8 := rfl
@[simp] theorem zero257 : Tryz.t257.zero = some (.pointer none) := rfl
@[simp] theorem cells258 : Tryz.prog.cellsOf 258 = 1 := by kernel_rfl
@[simp] theorem info258 : Tryz.prog.info? 258 = some Tryz.t258 := by kernel_rfl
@[simp] theorem agg258 : isAggT Tryz.prog 258 = false := by kernel_rfl
attribute [simp] Tryz.underlying258
@[simp] theorem bytes258 : Tryz.t258.bytes = 8 := rfl
@[simp] theorem zero258 : Tryz.t258.zero = some .nilFunc := rfl
@[simp] theorem cells259 : Tryz.prog.cellsOf 259 = 1 := by kernel_rfl
@[simp] theorem info259 : Tryz.prog.info? 259 = some Tryz.t259 := by kernel_rfl
@[simp] theorem agg259 : isAggT Tryz.prog 259 = false := by kernel_rfl
attribute [simp] Tryz.underlying259
@[simp] theorem bytes259 : Tryz.t259.bytes = 2 := rfl
@[simp] theorem zero259 : Tryz.t259.zero = some (.int .u16 0) := rfl
@[simp] theorem cells260 : Tryz.prog.cellsOf 260 = 5 := by kernel_rfl
@[simp] theorem info260 : Tryz.prog.info? 260 = some Tryz.t260 := by kernel_rfl
@[simp] theorem agg260 : isAggT Tryz.prog 260 = true := by kernel_rfl
attribute [simp] Tryz.underlying260
@[simp] theorem bytes260 : Tryz.t260.bytes = 16 := rfl
@[simp] theorem zero260 : Tryz.t260.zero = some (.agg #[(.int .i32 0), (.int .u16 0), (.int .u16 0), (.int .u32 0), (.int .u32 0)]) := rfl
@[simp] theorem cells261 : Tryz.prog.cellsOf 261 = 5 := by kernel_rfl
@[simp] theorem info261 : Tryz.prog.info? 261 = some Tryz.t261 := by kernel_rfl
@[simp] theorem agg261 : isAggT Tryz.prog 261 = true := by kernel_rfl
attribute [simp] Tryz.underlying261
@[simp] theorem bytes261 : Tryz.t261.bytes = 16 := rfl
@[simp] theorem zero261 : Tryz.t261.zero = some (.agg #[(.int .i32 0), (.int .u16 0), (.int .u16 0), (.int .u32 0), (.int .u32 0)]) := rfl
@[simp] theorem cells262 : Tryz.prog.cellsOf 262 = 1 := by kernel_rfl
@[simp] theorem info262 : Tryz.prog.info? 262 = some Tryz.t262 := by kernel_rfl
@[simp] theorem agg262 : isAggT Tryz.prog 262 = false := by kernel_rfl
attribute [simp] Tryz.underlying262
@[simp] theorem bytes262 : Tryz.t262.bytes = 24 := rfl
@[simp] theorem zero262 : Tryz.t262.zero = some (.slice none 0 0) := rfl
@[simp] theorem cells263 : Tryz.prog.cellsOf 263 = 1 := by kernel_rfl
@[simp] theorem info263 : Tryz.prog.info? 263 = some Tryz.t263 := by kernel_rfl
@[simp] theorem agg263 : isAggT Tryz.prog 263 = false := by kernel_rfl
attribute [simp] Tryz.underlying263
@[simp] theorem bytes263 : Tryz.t263.bytes = 4 := rfl
@[simp] theorem zero263 : Tryz.t263.zero = some (.int .i32 0) := rfl
@[simp] theorem cells264 : Tryz.prog.cellsOf 264 = 4 := by kernel_rfl
@[simp] theorem info264 : Tryz.prog.info? 264 = some Tryz.t264 := by kernel_rfl
@[simp] theorem agg264 : isAggT Tryz.prog 264 = true := by kernel_rfl
attribute [simp] Tryz.underlying264
@[simp] theorem bytes264 : Tryz.t264.bytes = 16 := rfl
@[simp] theorem zero264 : Tryz.t264.zero = some (.agg #[(.int .i32 0), (.int .i32 0), (.int .i32 0), (.int .i32 0)]) := rfl
@[simp] theorem cells265 : Tryz.prog.cellsOf 265 = 4 := by kernel_rfl
@[simp] theorem info265 : Tryz.prog.info? 265 = some Tryz.t265 := by kernel_rfl
@[simp] theorem agg265 : isAggT Tryz.prog 265 = true := by kernel_rfl
attribute [simp] Tryz.underlying265
@[simp] theorem bytes265 : Tryz.t265.bytes = 16 := rfl
@[simp] theorem zero265 : Tryz.t265.zero = some (.agg #[(.int .i32 0), (.int .i32 0), (.int .i32 0), (.int .i32 0)]) := rfl
@[simp] theorem cells266 : Tryz.prog.cellsOf 266 = 1 := by kernel_rfl
@[simp] theorem info266 : Tryz.prog.info? 266 = some Tryz.t266 := by kernel_rfl
@[simp] theorem agg266 : isAggT Tryz.prog 266 = false := by kernel_rfl
attribute [simp] Tryz.underlying266
@[simp] theorem bytes266 : Tryz.t266.bytes = 8 := rfl
@[simp] theorem zero266 : Tryz.t266.zero = some (.pointer none) := rfl
@[simp] theorem E2 : G.E 2 = true := by kernel_rfl
@[simp] theorem ext2 : G.ext 2 = none := by kernel_rfl
@[simp] theorem dfr2 : G.dfr 2 = false := by kernel_rfl
@[simp] theorem own2 : G.retOwn 2 = false := by kernel_rfl
@[simp] theorem live2_0 : G.live 2 0 = some ⟨[], []⟩ := by kernel_rfl
@[simp] theorem E3 : G.E 3 = true := by kernel_rfl
@[simp] theorem ext3 : G.ext 3 = none := by kernel_rfl
@[simp] theorem dfr3 : G.dfr 3 = false := by kernel_rfl
@[simp] theorem own3 : G.retOwn 3 = false := by kernel_rfl
@[simp] theorem live3_0 : G.live 3 0 = some ⟨[0, 1], []⟩ := by kernel_rfl
@[simp] theorem live3_1 : G.live 3 1 = some ⟨[0, 1, 5], []⟩ := by kernel_rfl
@[simp] theorem live3_2 : G.live 3 2 = some ⟨[0, 1, 5, 18], []⟩ := by kernel_rfl
@[simp] theorem live3_3 : G.live 3 3 = some ⟨[4], []⟩ := by kernel_rfl
@[simp] theorem live3_4 : G.live 3 4 = some ⟨[0, 1, 5, 6], []⟩ := by kernel_rfl
@[simp] theorem live3_5 : G.live 3 5 = some ⟨[0, 1, 5, 27], []⟩ := by kernel_rfl
@[simp] theorem live3_6 : G.live 3 6 = some ⟨[4], []⟩ := by kernel_rfl
@[simp] theorem live3_7 : G.live 3 7 = some ⟨[0, 1, 5, 7, 8], []⟩ := by kernel_rfl
@[simp] theorem live3_8 : G.live 3 8 = some ⟨[1, 5, 7, 8, 9, 10], []⟩ := by kernel_rfl
@[simp] theorem live3_9 : G.live 3 9 = some ⟨[1, 5, 7, 8, 9, 10, 11, 12], []⟩ := by kernel_rfl
@[simp] theorem live3_10 : G.live 3 10 = some ⟨[5, 7, 8, 9, 10, 11, 12, 13, 14], []⟩ := by kernel_rfl
@[simp] theorem live3_11 : G.live 3 11 = some ⟨[5, 8, 10, 11, 12, 13, 14, 15], []⟩ := by kernel_rfl
@[simp] theorem live3_12 : G.live 3 12 = some ⟨[4], []⟩ := by kernel_rfl
@[simp] theorem E4 : G.E 4 = true := by kernel_rfl
@[simp] theorem ext4 : G.ext 4 = none := by kernel_rfl
@[simp] theorem dfr4 : G.dfr 4 = false := by kernel_rfl
@[simp] theorem own4 : G.retOwn 4 = false := by kernel_rfl
@[simp] theorem live4_0 : G.live 4 0 = some ⟨[0, 1], []⟩ := by kernel_rfl
@[simp] theorem live4_1 : G.live 4 1 = some ⟨[0, 1, 5], []⟩ := by kernel_rfl
@[simp] theorem live4_2 : G.live 4 2 = some ⟨[0, 1, 5, 18], []⟩ := by kernel_rfl
@[simp] theorem live4_3 : G.live 4 3 = some ⟨[4], []⟩ := by kernel_rfl
@[simp] theorem live4_4 : G.live 4 4 = some ⟨[0, 1, 5, 6], []⟩ := by kernel_rfl
@[simp] theorem live4_5 : G.live 4 5 = some ⟨[0, 1, 5, 27], []⟩ := by kernel_rfl
@[simp] theorem live4_6 : G.live 4 6 = some ⟨[4], []⟩ := by kernel_rfl
@[simp] theorem live4_7 : G.live 4 7 = some ⟨[0, 1, 5, 7, 8], []⟩ := by kernel_rfl
@[simp] theorem live4_8 : G.live 4 8 = some ⟨[0, 1, 5, 7, 8, 9, 10], []⟩ := by kernel_rfl
@[simp] theorem live4_9 : G.live 4 9 = some ⟨[1, 5, 58], []⟩ := by kernel_rfl
@[simp] theorem live4_10 : G.live 4 10 = some ⟨[4], []⟩ := by kernel_rfl
@[simp] theorem live4_11 : G.live 4 11 = some ⟨[1, 5, 11, 12], []⟩ := by kernel_rfl
@[simp] theorem live4_12 : G.live 4 12 = some ⟨[1, 5, 11, 12, 13, 14], []⟩ := by kernel_rfl
@[simp] theorem live4_13 : G.live 4 13 = some ⟨[5, 11, 12, 14, 15], []⟩ := by kernel_rfl
@[simp] theorem live4_14 : G.live 4 14 = some ⟨[4], []⟩ := by kernel_rfl
@[simp] theorem E5 : G.E 5 = true := by kernel_rfl
@[simp] theorem ext5 : G.ext 5 = none := by kernel_rfl
@[simp] theorem dfr5 : G.dfr 5 = false := by kernel_rfl
@[simp] theorem own5 : G.retOwn 5 = false := by kernel_rfl
@[simp] theorem live5_0 : G.live 5 0 = some ⟨[0, 1, 2], []⟩ := by kernel_rfl
@[simp] theorem live5_1 : G.live 5 1 = some ⟨[0, 1, 2, 7], []⟩ := by kernel_rfl
@[simp] theorem live5_2 : G.live 5 2 = some ⟨[0, 1, 2, 7, 24], []⟩ := by kernel_rfl
@[simp] theorem live5_3 : G.live 5 3 = some ⟨[6], []⟩ := by kernel_rfl
@[simp] theorem live5_4 : G.live 5 4 = some ⟨[0, 1, 2, 7, 8], []⟩ := by kernel_rfl
@[simp] theorem live5_5 : G.live 5 5 = some ⟨[0, 1, 2, 7, 37], []⟩ := by kernel_rfl
@[simp] theorem live5_6 : G.live 5 6 = some ⟨[6], []⟩ := by kernel_rfl
@[simp] theorem live5_7 : G.live 5 7 = some ⟨[0, 1, 2, 7, 9, 10], []⟩ := by kernel_rfl
@[simp] theorem live5_8 : G.live 5 8 = some ⟨[0, 1, 2, 7, 9, 10, 11, 12], []⟩ := by kernel_rfl
@[simp] theorem live5_9 : G.live 5 9 = some ⟨[0, 1, 2, 7, 9, 10, 11, 12, 13, 14], []⟩ := by kernel_rfl
@[simp] theorem live5_10 : G.live 5 10 = some ⟨[0, 1, 2, 7, 9, 10, 11, 12, 13, 62], []⟩ := by kernel_rfl
@[simp] theorem live5_11 : G.live 5 11 = some ⟨[6], []⟩ := by kernel_rfl
@[simp] theorem live5_12 : G.live 5 12 = some ⟨[0, 1, 2, 7, 9, 10, 11, 12, 13, 75], []⟩ := by kernel_rfl
@[simp] theorem live5_13 : G.live 5 13 = some ⟨[6], []⟩ := by kernel_rfl
@[simp] theorem live5_14 : G.live 5 14 = some ⟨[0, 1, 2, 7, 9, 10, 11, 13, 83], []⟩ := by kernel_rfl
@[simp] theorem live5_15 : G.live 5 15 = some ⟨[6], []⟩ := by kernel_rfl
@[simp] theorem live5_16 : G.live 5 16 = some ⟨[0, 1, 2, 7, 9, 11, 13, 85], []⟩ := by kernel_rfl
@[simp] theorem live5_17 : G.live 5 17 = some ⟨[0, 1, 7, 11, 13, 15], []⟩ := by kernel_rfl
@[simp] theorem live5_18 : G.live 5 18 = some ⟨[0, 1, 7, 11, 15, 95], []⟩ := by kernel_rfl
@[simp] theorem live5_19 : G.live 5 19 = some ⟨[0, 1, 7, 11, 15], []⟩ := by kernel_rfl
@[simp] theorem live5_20 : G.live 5 20 = some ⟨[0, 7, 11, 15, 17], []⟩ := by kernel_rfl
@[simp] theorem live5_21 : G.live 5 21 = some ⟨[0, 7, 11, 15, 105], []⟩ := by kernel_rfl
@[simp] theorem live5_22 : G.live 5 22 = some ⟨[6], []⟩ := by kernel_rfl
@[simp] theorem live5_23 : G.live 5 23 = some ⟨[6], []⟩ := by kernel_rfl
@[simp] theorem live5_24 : G.live 5 24 = some ⟨[0, 1, 7, 18, 19], []⟩ := by kernel_rfl
@[simp] theorem live5_25 : G.live 5 25 = some ⟨[0, 1, 7, 18, 129], []⟩ := by kernel_rfl
@[simp] theorem live5_26 : G.live 5 26 = some ⟨[6], []⟩ := by kernel_rfl
@[simp] theorem live5_27 : G.live 5 27 = some ⟨[0, 7, 20, 21], []⟩ := by kernel_rfl
@[simp] theorem live5_28 : G.live 5 28 = some ⟨[6], []⟩ := by kernel_rfl
@[simp] theorem E6 : G.E 6 = true := by kernel_rfl
@[simp] theorem ext6 : G.ext 6 = none := by kernel_rfl
@[simp] theorem dfr6 : G.dfr 6 = false := by kernel_rfl
@[simp] theorem own6 : G.retOwn 6 = false := by kernel_rfl
@[simp] theorem live6_0 : G.live 6 0 = some ⟨[], []⟩ := by kernel_rfl
@[simp] theorem live6_1 : G.live 6 1 = some ⟨[1], []⟩ := by kernel_rfl
@[simp] theorem live6_2 : G.live 6 2 = some ⟨[1, 4, 5], []⟩ := by kernel_rfl
@[simp] theorem live6_3 : G.live 6 3 = some ⟨[1, 4, 5, 6, 7], []⟩ := by kernel_rfl
@[simp] theorem live6_4 : G.live 6 4 = some ⟨[1, 4, 5, 6, 7, 8, 9], []⟩ := by kernel_rfl
@[simp] theorem live6_5 : G.live 6 5 = some ⟨[1, 4, 5, 6, 7, 9, 10, 11], []⟩ := by kernel_rfl
@[simp] theorem live6_6 : G.live 6 6 = some ⟨[1, 4, 5, 6, 7, 9, 10, 11, 13], []⟩ := by kernel_rfl
@[simp] theorem live6_7 : G.live 6 7 = some ⟨[4, 5, 6, 7, 9, 10, 11, 13, 15], []⟩ := by kernel_rfl
@[simp] theorem live6_8 : G.live 6 8 = some ⟨[4, 5, 6, 7, 9, 10, 11, 13, 15, 16], []⟩ := by kernel_rfl
@[simp] theorem live6_9 : G.live 6 9 = some ⟨[4, 5, 6, 7, 9, 10, 11, 13, 15, 16, 19, 20], []⟩ := by kernel_rfl
@[simp] theorem live6_10 : G.live 6 10 = some ⟨[4, 5, 6, 7, 9, 10, 11, 13, 15, 16, 19, 20, 21, 22], []⟩ := by kernel_rfl
@[simp] theorem live6_11 : G.live 6 11 = some ⟨[0], []⟩ := by kernel_rfl
@[simp] theorem E7 : G.E 7 = true := by kernel_rfl
@[simp] theorem ext7 : G.ext 7 = none := by kernel_rfl
@[simp] theorem dfr7 : G.dfr 7 = false := by kernel_rfl
@[simp] theorem own7 : G.retOwn 7 = false := by kernel_rfl
@[simp] theorem keep7_2 : G.keep 7 2 = some ⟨[(0, none), (3, none)], []⟩ := by kernel_rfl
@[simp] theorem live7_0 : G.live 7 0 = some ⟨[0], []⟩ := by kernel_rfl
@[simp] theorem live7_1 : G.live 7 1 = some ⟨[0, 3], []⟩ := by kernel_rfl
@[simp] theorem live7_2 : G.live 7 2 = some ⟨[0, 3, 11], []⟩ := by kernel_rfl
@[simp] theorem live7_4 : G.live 7 4 = some ⟨[0, 3, 20], []⟩ := by kernel_rfl
@[simp] theorem live7_5 : G.live 7 5 = some ⟨[2], []⟩ := by kernel_rfl
@[simp] theorem live7_3 : G.live 7 3 = some ⟨[0, 3], []⟩ := by kernel_rfl
@[simp] theorem live7_6 : G.live 7 6 = some ⟨[2], []⟩ := by kernel_rfl
@[simp] theorem E8 : G.E 8 = true := by kernel_rfl
@[simp] theorem ext8 : G.ext 8 = none := by kernel_rfl
@[simp] theorem dfr8 : G.dfr 8 = false := by kernel_rfl
@[simp] theorem own8 : G.retOwn 8 = false := by kernel_rfl
@[simp] theorem keep8_5 : G.keep 8 5 = some ⟨[(4, some (2, 43)), (5, none)], []⟩ := by kernel_rfl
@[simp] theorem live8_0 : G.live 8 0 = some ⟨[0], []⟩ := by kernel_rfl
@[simp] theorem live8_1 : G.live 8 1 = some ⟨[0, 18], []⟩ := by kernel_rfl
@[simp] theorem live8_2 : G.live 8 2 = some ⟨[2, 3], []⟩ := by kernel_rfl
@[simp] theorem live8_3 : G.live 8 3 = some ⟨[0, 4], []⟩ := by kernel_rfl
@[simp] theorem live8_4 : G.live 8 4 = some ⟨[4, 5], []⟩ := by kernel_rfl
@[simp] theorem live8_5 : G.live 8 5 = some ⟨[4, 5, 21], []⟩ := by kernel_rfl
@[simp] theorem live8_6 : G.live 8 6 = some ⟨[4, 5, 6, 7], []⟩ := by kernel_rfl
@[simp] theorem live8_7 : G.live 8 7 = some ⟨[4, 5, 6, 27], []⟩ := by kernel_rfl
@[simp] theorem live8_8 : G.live 8 8 = some ⟨[4, 8, 9, 10], []⟩ := by kernel_rfl
@[simp] theorem live8_9 : G.live 8 9 = some ⟨[4, 8, 9, 10, 11, 12], []⟩ := by kernel_rfl
@[simp] theorem live8_10 : G.live 8 10 = some ⟨[4, 9, 11, 58], []⟩ := by kernel_rfl
@[simp] theorem live8_11 : G.live 8 11 = some ⟨[2, 3], []⟩ := by kernel_rfl
@[simp] theorem live8_12 : G.live 8 12 = some ⟨[4, 5], []⟩ := by kernel_rfl
@[simp] theorem live8_13 : G.live 8 13 = some ⟨[4, 5, 67], []⟩ := by kernel_rfl
@[simp] theorem live8_14 : G.live 8 14 = some ⟨[4, 13, 14], []⟩ := by kernel_rfl
@[simp] theorem live8_15 : G.live 8 15 = some ⟨[4, 13, 74], []⟩ := by kernel_rfl
@[simp] theorem live8_16 : G.live 8 16 = some ⟨[2, 3], []⟩ := by kernel_rfl
@[simp] theorem live8_17 : G.live 8 17 = some ⟨[4, 5], []⟩ := by kernel_rfl
@[simp] theorem live8_18 : G.live 8 18 = some ⟨[4, 5, 15], []⟩ := by kernel_rfl
@[simp] theorem live8_19 : G.live 8 19 = some ⟨[4, 5, 15, 79], []⟩ := by kernel_rfl
@[simp] theorem live8_20 : G.live 8 20 = some ⟨[2, 3], []⟩ := by kernel_rfl
@[simp] theorem live8_21 : G.live 8 21 = some ⟨[4, 5], []⟩ := by kernel_rfl
@[simp] theorem live8_22 : G.live 8 22 = some ⟨[2, 3], []⟩ := by kernel_rfl
@[simp] theorem plan8_21 : G.plan 8 21 = some [.n 0, .n 1, .n 5, .n 6, .n 7, .n 8, .e 2 [8, 7, 6, 5, 0], .n 3, .e 4 [8, 7, 6, 5], .e 9 [8, 7, 6, 5], .e 10 []] := by kernel_rfl
@[simp] theorem E9 : G.E 9 = true := by kernel_rfl
@[simp] theorem ext9 : G.ext 9 = none := by kernel_rfl
@[simp] theorem dfr9 : G.dfr 9 = false := by kernel_rfl
@[simp] theorem own9 : G.retOwn 9 = false := by kernel_rfl
@[simp] theorem keep9_5 : G.keep 9 5 = some ⟨[(0, none), (4, some (2, 68)), (5, none)], []⟩ := by kernel_rfl
@[simp] theorem keep9_8 : G.keep 9 8 = some ⟨[(0, none), (4, some (2, 68)), (5, none), (6, none)], []⟩ := by kernel_rfl
@[simp] theorem keep9_19 : G.keep 9 19 = some ⟨[(0, none), (4, some (2, 68)), (5, none), (7, none)], []⟩ := by kernel_rfl
@[simp] theorem live9_0 : G.live 9 0 = some ⟨[0], []⟩ := by kernel_rfl
@[simp] theorem live9_1 : G.live 9 1 = some ⟨[0, 4], []⟩ := by kernel_rfl
@[simp] theorem live9_2 : G.live 9 2 = some ⟨[0, 4, 10], []⟩ := by kernel_rfl
@[simp] theorem live9_3 : G.live 9 3 = some ⟨[2, 3], []⟩ := by kernel_rfl
@[simp] theorem live9_4 : G.live 9 4 = some ⟨[0, 4, 5], []⟩ := by kernel_rfl
@[simp] theorem live9_5 : G.live 9 5 = some ⟨[0, 4, 5, 14], []⟩ := by kernel_rfl
@[simp] theorem live9_6 : G.live 9 6 = some ⟨[0, 4, 5, 18], []⟩ := by kernel_rfl
@[simp] theorem live9_7 : G.live 9 7 = some ⟨[0, 4, 5, 6], []⟩ := by kernel_rfl
@[simp] theorem live9_8 : G.live 9 8 = some ⟨[0, 4, 5, 6, 29], []⟩ := by kernel_rfl
@[simp] theorem live9_9 : G.live 9 9 = some ⟨[0, 4, 5, 6], []⟩ := by kernel_rfl
@[simp] theorem live9_10 : G.live 9 10 = some ⟨[0, 4, 5, 6, 44], []⟩ := by kernel_rfl
@[simp] theorem live9_11 : G.live 9 11 = some ⟨[2, 3], []⟩ := by kernel_rfl
@[simp] theorem live9_12 : G.live 9 12 = some ⟨[0, 4, 6], []⟩ := by kernel_rfl
@[simp] theorem live9_13 : G.live 9 13 = some ⟨[0, 4, 5], []⟩ := by kernel_rfl
@[simp] theorem live9_14 : G.live 9 14 = some ⟨[0, 4, 5, 58], []⟩ := by kernel_rfl
@[simp] theorem live9_15 : G.live 9 15 = some ⟨[0, 4, 5, 62], []⟩ := by kernel_rfl
@[simp] theorem live9_16 : G.live 9 16 = some ⟨[2, 3], []⟩ := by kernel_rfl
@[simp] theorem live9_17 : G.live 9 17 = some ⟨[0, 4, 5], []⟩ := by kernel_rfl
@[simp] theorem live9_18 : G.live 9 18 = some ⟨[0, 4, 5, 7], []⟩ := by kernel_rfl
@[simp] theorem live9_19 : G.live 9 19 = some ⟨[0, 4, 5, 7, 75], []⟩ := by kernel_rfl
@[simp] theorem live9_20 : G.live 9 20 = some ⟨[0, 4, 5, 7], []⟩ := by kernel_rfl
@[simp] theorem live9_21 : G.live 9 21 = some ⟨[0, 4, 5, 7, 80], []⟩ := by kernel_rfl
@[simp] theorem live9_22 : G.live 9 22 = some ⟨[2, 3], []⟩ := by kernel_rfl
@[simp] theorem live9_23 : G.live 9 23 = some ⟨[0, 4, 7], []⟩ := by kernel_rfl
@[simp] theorem live9_24 : G.live 9 24 = some ⟨[0, 4, 5], []⟩ := by kernel_rfl
@[simp] theorem live9_25 : G.live 9 25 = some ⟨[2, 3], []⟩ := by kernel_rfl
@[simp] theorem E10 : G.E 10 = true := by kernel_rfl
@[simp] theorem ext10 : G.ext 10 = none := by kernel_rfl
@[simp] theorem dfr10 : G.dfr 10 = false := by kernel_rfl
@[simp] theorem own10 : G.retOwn 10 = false := by kernel_rfl
@[simp] theorem keep10_3 : G.keep 10 3 = some ⟨[(4, none), (9, none), (10, none), (11, none)], [(1004, [(1, 1, 5)])]⟩ := by kernel_rfl
@[simp] theorem live10_0 : G.live 10 0 = some ⟨[0], []⟩ := by kernel_rfl
@[simp] theorem live10_1 : G.live 10 1 = some ⟨[0, 4], []⟩ := by kernel_rfl
@[simp] theorem live10_2 : G.live 10 2 = some ⟨[4, 9, 10, 11], []⟩ := by kernel_rfl
@[simp] theorem live10_3 : G.live 10 3 = some ⟨[4, 9, 10, 11, 12], []⟩ := by kernel_rfl
@[simp] theorem live10_4 : G.live 10 4 = some ⟨[4, 5, 6, 9, 10, 11], []⟩ := by kernel_rfl
@[simp] theorem live10_5 : G.live 10 5 = some ⟨[4, 5, 6, 7, 8, 9, 10, 11], []⟩ := by kernel_rfl
@[simp] theorem live10_6 : G.live 10 6 = some ⟨[4, 7, 8, 9, 10, 11, 27], []⟩ := by kernel_rfl
@[simp] theorem live10_7 : G.live 10 7 = some ⟨[4, 7, 8, 9, 10, 11], []⟩ := by kernel_rfl
@[simp] theorem live10_8 : G.live 10 8 = some ⟨[4, 8, 9, 10, 11], []⟩ := by kernel_rfl
@[simp] theorem live10_9 : G.live 10 9 = some ⟨[4, 8, 9, 10, 11, 32], []⟩ := by kernel_rfl
@[simp] theorem live10_10 : G.live 10 10 = some ⟨[2, 3], []⟩ := by kernel_rfl
@[simp] theorem live10_11 : G.live 10 11 = some ⟨[4, 9, 10, 11, 34], []⟩ := by kernel_rfl
@[simp] theorem live10_12 : G.live 10 12 = some ⟨[2, 3], []⟩ := by kernel_rfl
@[simp] theorem live10_13 : G.live 10 13 = some ⟨[4, 9, 10, 11], []⟩ := by kernel_rfl
@[simp] theorem live10_14 : G.live 10 14 = some ⟨[2, 3], []⟩ := by kernel_rfl
@[simp] theorem E11 : G.E 11 = true := by kernel_rfl
@[simp] theorem ext11 : G.ext 11 = none := by kernel_rfl
@[simp] theorem dfr11 : G.dfr 11 = false := by kernel_rfl
@[simp] theorem own11 : G.retOwn 11 = false := by kernel_rfl
@[simp] theorem keep11_3 : G.keep 11 3 = some ⟨[(0, none), (4, none), (5, none)], []⟩ := by kernel_rfl
@[simp] theorem live11_0 : G.live 11 0 = some ⟨[0], []⟩ := by kernel_rfl
@[simp] theorem live11_1 : G.live 11 1 = some ⟨[0, 4], []⟩ := by kernel_rfl
@[simp] theorem live11_2 : G.live 11 2 = some ⟨[0, 4, 5], []⟩ := by kernel_rfl
@[simp] theorem live11_3 : G.live 11 3 = some ⟨[0, 4, 5, 14], []⟩ := by kernel_rfl
@[simp] theorem live11_5 : G.live 11 5 = some ⟨[0, 4, 5, 38], []⟩ := by kernel_rfl
@[simp] theorem live11_6 : G.live 11 6 = some ⟨[0, 4, 5], []⟩ := by kernel_rfl
@[simp] theorem live11_7 : G.live 11 7 = some ⟨[0, 4, 5, 63], []⟩ := by kernel_rfl
@[simp] theorem live11_8 : G.live 11 8 = some ⟨[2, 3], []⟩ := by kernel_rfl
@[simp] theorem live11_9 : G.live 11 9 = some ⟨[0, 4, 5, 65], []⟩ := by kernel_rfl
@[simp] theorem live11_10 : G.live 11 10 = some ⟨[0, 4, 5], []⟩ := by kernel_rfl
@[simp] theorem live11_11 : G.live 11 11 = some ⟨[0, 4, 5], []⟩ := by kernel_rfl
@[simp] theorem live11_4 : G.live 11 4 = some ⟨[0, 4, 5], []⟩ := by kernel_rfl
@[simp] theorem live11_12 : G.live 11 12 = some ⟨[4, 77], []⟩ := by kernel_rfl
@[simp] theorem live11_13 : G.live 11 13 = some ⟨[2, 3], []⟩ := by kernel_rfl
@[simp] theorem live11_14 : G.live 11 14 = some ⟨[2, 3], []⟩ := by kernel_rfl
@[simp] theorem E12 : G.E 12 = true := by kernel_rfl
@[simp] theorem ext12 : G.ext 12 = none := by kernel_rfl
@[simp] theorem dfr12 : G.dfr 12 = false := by kernel_rfl
@[simp] theorem own12 : G.retOwn 12 = false := by kernel_rfl
@[simp] theorem keep12_3 : G.keep 12 3 = some ⟨[(0, none), (3, some (2, 68)), (4, none)], []⟩ := by kernel_rfl
@[simp] theorem live12_0 : G.live 12 0 = some ⟨[0], []⟩ := by kernel_rfl
@[simp] theorem live12_1 : G.live 12 1 = some ⟨[0, 3], []⟩ := by kernel_rfl
@[simp] theorem live12_2 : G.live 12 2 = some ⟨[0, 3, 4], []⟩ := by kernel_rfl
@[simp] theorem live12_3 : G.live 12 3 = some ⟨[0, 3, 4, 8], []⟩ := by kernel_rfl
@[simp] theorem live12_5 : G.live 12 5 = some ⟨[0, 3, 4], []⟩ := by kernel_rfl
@[simp] theorem live12_4 : G.live 12 4 = some ⟨[0, 3, 4], []⟩ := by kernel_rfl
@[simp] theorem live12_6 : G.live 12 6 = some ⟨[2], []⟩ := by kernel_rfl
@[simp] theorem plan12_5 : G.plan 12 5 = some [.n 0, .n 1, .n 2, .n 3, .n 4, .n 5, .n 6, .n 7, .n 8, .n 9, .n 10, .n 11, .n 12, .e 13 [9, 8, 7, 6, 4, 3, 2, 1], .e 14 []] := by kernel_rfl
@[simp] theorem E13 : G.E 13 = true := by kernel_rfl
@[simp] theorem ext13 : G.ext 13 = none := by kernel_rfl
@[simp] theorem dfr13 : G.dfr 13 = false := by kernel_rfl
@[simp] theorem own13 : G.retOwn 13 = false := by kernel_rfl
@[simp] theorem keep13_4 : G.keep 13 4 = some ⟨[(0, none), (1, none), (5, none)], []⟩ := by kernel_rfl
@[simp] theorem live13_0 : G.live 13 0 = some ⟨[0, 1], []⟩ := by kernel_rfl
@[simp] theorem live13_1 : G.live 13 1 = some ⟨[0, 1, 10], []⟩ := by kernel_rfl
@[simp] theorem live13_2 : G.live 13 2 = some ⟨[4], []⟩ := by kernel_rfl
@[simp] theorem live13_3 : G.live 13 3 = some ⟨[0, 1, 5], []⟩ := by kernel_rfl
@[simp] theorem live13_4 : G.live 13 4 = some ⟨[0, 1, 5, 14], []⟩ := by kernel_rfl
@[simp] theorem live13_6 : G.live 13 6 = some ⟨[0, 1, 5, 25], []⟩ := by kernel_rfl
@[simp] theorem live13_7 : G.live 13 7 = some ⟨[4], []⟩ := by kernel_rfl
@[simp] theorem live13_5 : G.live 13 5 = some ⟨[0, 1, 5], []⟩ := by kernel_rfl
@[simp] theorem live13_8 : G.live 13 8 = some ⟨[4], []⟩ := by kernel_rfl
@[simp] theorem plan13_6 : G.plan 13 6 = some [.n 0, .n 1, .n 2, .n 3, .n 4, .n 5, .n 6, .n 7, .n 8] := by kernel_rfl
@[simp] theorem E14 : G.E 14 = true := by kernel_rfl
@[simp] theorem ext14 : G.ext 14 = none := by kernel_rfl
@[simp] theorem dfr14 : G.dfr 14 = false := by kernel_rfl
@[simp] theorem own14 : G.retOwn 14 = false := by kernel_rfl
@[simp] theorem keep14_2 : G.keep 14 2 = some ⟨[(0, none), (3, none)], []⟩ := by kernel_rfl
@[simp] theorem live14_0 : G.live 14 0 = some ⟨[0], []⟩ := by kernel_rfl
@[simp] theorem live14_1 : G.live 14 1 = some ⟨[0, 3], []⟩ := by kernel_rfl
@[simp] theorem live14_2 : G.live 14 2 = some ⟨[0, 3, 11], []⟩ := by kernel_rfl
@[simp] theorem live14_4 : G.live 14 4 = some ⟨[0, 3, 20], []⟩ := by kernel_rfl
@[simp] theorem live14_5 : G.live 14 5 = some ⟨[2], []⟩ := by kernel_rfl
@[simp] theorem live14_3 : G.live 14 3 = some ⟨[0, 3], []⟩ := by kernel_rfl
@[simp] theorem live14_6 : G.live 14 6 = some ⟨[2], []⟩ := by kernel_rfl
@[simp] theorem E15 : G.E 15 = true := by kernel_rfl
@[simp] theorem ext15 : G.ext 15 = none := by kernel_rfl
@[simp] theorem dfr15 : G.dfr 15 = false := by kernel_rfl
@[simp] theorem own15 : G.retOwn 15 = false := by kernel_rfl
@[simp] theorem keep15_5 : G.keep 15 5 = some ⟨[(0, none), (20, none), (21, none), (22, none)], []⟩ := by kernel_rfl
@[simp] theorem live15_0 : G.live 15 0 = some ⟨[0, 1], []⟩ := by kernel_rfl
@[simp] theorem live15_1 : G.live 15 1 = some ⟨[0, 6, 7], []⟩ := by kernel_rfl
@[simp] theorem live15_2 : G.live 15 2 = some ⟨[0, 6, 7, 18], []⟩ := by kernel_rfl
@[simp] theorem live15_3 : G.live 15 3 = some ⟨[4, 5], []⟩ := by kernel_rfl
@[simp] theorem live15_4 : G.live 15 4 = some ⟨[0, 20, 21, 22], []⟩ := by kernel_rfl
@[simp] theorem live15_5 : G.live 15 5 = some ⟨[0, 20, 21, 22, 23], []⟩ := by kernel_rfl
@[simp] theorem live15_6 : G.live 15 6 = some ⟨[0, 9, 20, 21, 22], []⟩ := by kernel_rfl
@[simp] theorem live15_7 : G.live 15 7 = some ⟨[0, 10, 20, 21, 22], []⟩ := by kernel_rfl
@[simp] theorem live15_8 : G.live 15 8 = some ⟨[0, 10, 20, 21, 22, 30], []⟩ := by kernel_rfl
@[simp] theorem live15_9 : G.live 15 9 = some ⟨[4, 5], []⟩ := by kernel_rfl
@[simp] theorem live15_10 : G.live 15 10 = some ⟨[0, 20, 21, 22], []⟩ := by kernel_rfl
@[simp] theorem live15_11 : G.live 15 11 = some ⟨[0, 20, 21, 22], []⟩ := by kernel_rfl
@[simp] theorem live15_12 : G.live 15 12 = some ⟨[4, 5], []⟩ := by kernel_rfl
@[simp] theorem E16 : G.E 16 = true := by kernel_rfl
@[simp] theorem ext16 : G.ext 16 = none := by kernel_rfl
@[simp] theorem dfr16 : G.dfr 16 = false := by kernel_rfl
@[simp] theorem own16 : G.retOwn 16 = false := by kernel_rfl
@[simp] theorem live16_0 : G.live 16 0 = some ⟨[0, 1], []⟩ := by kernel_rfl
@[simp] theorem live16_1 : G.live 16 1 = some ⟨[0, 6, 7], []⟩ := by kernel_rfl
@[simp] theorem live16_2 : G.live 16 2 = some ⟨[0, 6, 7, 16], []⟩ := by kernel_rfl
@[simp] theorem live16_3 : G.live 16 3 = some ⟨[4, 5], []⟩ := by kernel_rfl
@[simp] theorem live16_4 : G.live 16 4 = some ⟨[0, 6, 20], []⟩ := by kernel_rfl
@[simp] theorem live16_5 : G.live 16 5 = some ⟨[4, 5], []⟩ := by kernel_rfl
@[simp] theorem live16_6 : G.live 16 6 = some ⟨[8, 9], []⟩ := by kernel_rfl
@[simp] theorem live16_7 : G.live 16 7 = some ⟨[8, 33], []⟩ := by kernel_rfl
@[simp] theorem live16_8 : G.live 16 8 = some ⟨[4, 5], []⟩ := by kernel_rfl
@[simp] theorem live16_9 : G.live 16 9 = some ⟨[4, 5], []⟩ := by kernel_rfl
@[simp] theorem E17 : G.E 17 = true := by kernel_rfl
@[simp] theorem ext17 : G.ext 17 = none := by kernel_rfl
@[simp] theorem dfr17 : G.dfr 17 = false := by kernel_rfl
@[simp] theorem own17 : G.retOwn 17 = false := by kernel_rfl
@[simp] theorem live17_0 : G.live 17 0 = some ⟨[0], []⟩ := by kernel_rfl
@[simp] theorem live17_1 : G.live 17 1 = some ⟨[0, 3], []⟩ := by kernel_rfl
@[simp] theorem live17_2 : G.live 17 2 = some ⟨[0, 13], []⟩ := by kernel_rfl
@[simp] theorem live17_3 : G.live 17 3 = some ⟨[2], []⟩ := by kernel_rfl
@[simp] theorem live17_4 : G.live 17 4 = some ⟨[4, 5], []⟩ := by kernel_rfl
@[simp] theorem live17_5 : G.live 17 5 = some ⟨[4, 19], []⟩ := by kernel_rfl
@[simp] theorem live17_6 : G.live 17 6 = some ⟨[2], []⟩ := by kernel_rfl
@[simp] theorem live17_7 : G.live 17 7 = some ⟨[22], []⟩ := by kernel_rfl
@[simp] theorem live17_8 : G.live 17 8 = some ⟨[2], []⟩ := by kernel_rfl
@[simp] theorem live17_9 : G.live 17 9 = some ⟨[2], []⟩ := by kernel_rfl
@[simp] theorem E18 : G.E 18 = true := by kernel_rfl
@[simp] theorem ext18 : G.ext 18 = none := by kernel_rfl
@[simp] theorem dfr18 : G.dfr 18 = false := by kernel_rfl
@[simp] theorem own18 : G.retOwn 18 = false := by kernel_rfl
@[simp] theorem live18_0 : G.live 18 0 = some ⟨[0, 1, 2], []⟩ := by kernel_rfl
@[simp] theorem live18_1 : G.live 18 1 = some ⟨[0, 2, 8, 9], []⟩ := by kernel_rfl
@[simp] theorem live18_2 : G.live 18 2 = some ⟨[0, 2, 8, 9, 21], []⟩ := by kernel_rfl
@[simp] theorem live18_3 : G.live 18 3 = some ⟨[6, 7], []⟩ := by kernel_rfl
@[simp] theorem live18_4 : G.live 18 4 = some ⟨[0, 2, 8, 10], []⟩ := by kernel_rfl
@[simp] theorem live18_5 : G.live 18 5 = some ⟨[0, 2, 8, 10, 26], []⟩ := by kernel_rfl
@[simp] theorem live18_6 : G.live 18 6 = some ⟨[6, 7], []⟩ := by kernel_rfl
@[simp] theorem live18_7 : G.live 18 7 = some ⟨[0, 2, 8, 30], []⟩ := by kernel_rfl
@[simp] theorem live18_8 : G.live 18 8 = some ⟨[6, 7], []⟩ := by kernel_rfl
@[simp] theorem live18_9 : G.live 18 9 = some ⟨[11, 12], []⟩ := by kernel_rfl
@[simp] theorem live18_10 : G.live 18 10 = some ⟨[11, 43], []⟩ := by kernel_rfl
@[simp] theorem live18_11 : G.live 18 11 = some ⟨[6, 7], []⟩ := by kernel_rfl
@[simp] theorem live18_12 : G.live 18 12 = some ⟨[11, 13], []⟩ := by kernel_rfl
@[simp] theorem live18_13 : G.live 18 13 = some ⟨[11, 13, 47], []⟩ := by kernel_rfl
@[simp] theorem live18_14 : G.live 18 14 = some ⟨[6, 7], []⟩ := by kernel_rfl
@[simp] theorem live18_15 : G.live 18 15 = some ⟨[6, 7], []⟩ := by kernel_rfl
@[simp] theorem E19 : G.E 19 = true := by kernel_rfl
@[simp] theorem ext19 : G.ext 19 = none := by kernel_rfl
@[simp] theorem dfr19 : G.dfr 19 = false := by kernel_rfl
@[simp] theorem own19 : G.retOwn 19 = false := by kernel_rfl
@[simp] theorem live19_0 : G.live 19 0 = some ⟨[0, 1], []⟩ := by kernel_rfl
@[simp] theorem live19_1 : G.live 19 1 = some ⟨[4], []⟩ := by kernel_rfl
@[simp] theorem E20 : G.E 20 = true := by kernel_rfl
@[simp] theorem ext20 : G.ext 20 = none := by kernel_rfl
@[simp] theorem dfr20 : G.dfr 20 = false := by kernel_rfl
@[simp] theorem own20 : G.retOwn 20 = false := by kernel_rfl
@[simp] theorem live20_0 : G.live 20 0 = some ⟨[0], []⟩ := by kernel_rfl
@[simp] theorem live20_1 : G.live 20 1 = some ⟨[0, 12], []⟩ := by kernel_rfl
@[simp] theorem live20_2 : G.live 20 2 = some ⟨[2, 3, 4], []⟩ := by kernel_rfl
@[simp] theorem live20_3 : G.live 20 3 = some ⟨[0, 5, 6], []⟩ := by kernel_rfl
@[simp] theorem live20_4 : G.live 20 4 = some ⟨[0, 5, 6, 7], []⟩ := by kernel_rfl
@[simp] theorem live20_5 : G.live 20 5 = some ⟨[0, 5, 6, 7, 20], []⟩ := by kernel_rfl
@[simp] theorem live20_6 : G.live 20 6 = some ⟨[6, 7, 8], []⟩ := by kernel_rfl
@[simp] theorem live20_7 : G.live 20 7 = some ⟨[7, 8], []⟩ := by kernel_rfl
@[simp] theorem live20_8 : G.live 20 8 = some ⟨[2, 3, 4], []⟩ := by kernel_rfl
@[simp] theorem live20_9 : G.live 20 9 = some ⟨[0, 5, 9], []⟩ := by kernel_rfl
@[simp] theorem live20_10 : G.live 20 10 = some ⟨[0, 5, 9, 32], []⟩ := by kernel_rfl
@[simp] theorem live20_11 : G.live 20 11 = some ⟨[2, 3, 4], []⟩ := by kernel_rfl
@[simp] theorem live20_12 : G.live 20 12 = some ⟨[2, 3, 4], []⟩ := by kernel_rfl
@[simp] theorem plan20_8 : G.plan 20 8 = some [.n 0, .n 1, .n 2, .n 3, .n 4, .n 5, .n 6, .n 7] := by kernel_rfl
@[simp] theorem E21 : G.E 21 = true := by kernel_rfl
@[simp] theorem ext21 : G.ext 21 = none := by kernel_rfl
@[simp] theorem dfr21 : G.dfr 21 = false := by kernel_rfl
@[simp] theorem own21 : G.retOwn 21 = false := by kernel_rfl
@[simp] theorem live21_0 : G.live 21 0 = some ⟨[0, 1], []⟩ := by kernel_rfl
@[simp] theorem live21_1 : G.live 21 1 = some ⟨[0, 6, 7], []⟩ := by kernel_rfl
@[simp] theorem live21_2 : G.live 21 2 = some ⟨[0, 6, 7, 17], []⟩ := by kernel_rfl
@[simp] theorem live21_3 : G.live 21 3 = some ⟨[4, 5], []⟩ := by kernel_rfl
@[simp] theorem live21_4 : G.live 21 4 = some ⟨[0, 6, 8], []⟩ := by kernel_rfl
@[simp] theorem live21_5 : G.live 21 5 = some ⟨[0, 6, 8, 9], []⟩ := by kernel_rfl
@[simp] theorem live21_6 : G.live 21 6 = some ⟨[0, 6, 8, 9], []⟩ := by kernel_rfl
@[simp] theorem live21_7 : G.live 21 7 = some ⟨[8], []⟩ := by kernel_rfl
@[simp] theorem live21_8 : G.live 21 8 = some ⟨[4, 5], []⟩ := by kernel_rfl
@[simp] theorem plan21_7 : G.plan 21 7 = some [.n 0, .n 1, .n 3, .e 2 [3, 0], .e 4 []] := by kernel_rfl
@[simp] theorem E22 : G.E 22 = true := by kernel_rfl
@[simp] theorem ext22 : G.ext 22 = none := by kernel_rfl
@[simp] theorem dfr22 : G.dfr 22 = false := by kernel_rfl
@[simp] theorem own22 : G.retOwn 22 = false := by kernel_rfl
@[simp] theorem live22_0 : G.live 22 0 = some ⟨[0, 1], []⟩ := by kernel_rfl
@[simp] theorem live22_1 : G.live 22 1 = some ⟨[4, 5], []⟩ := by kernel_rfl
@[simp] theorem E23 : G.E 23 = true := by kernel_rfl
@[simp] theorem ext23 : G.ext 23 = none := by kernel_rfl
@[simp] theorem dfr23 : G.dfr 23 = false := by kernel_rfl
@[simp] theorem own23 : G.retOwn 23 = false := by kernel_rfl
@[simp] theorem live23_0 : G.live 23 0 = some ⟨[0, 1], []⟩ := by kernel_rfl
@[simp] theorem live23_1 : G.live 23 1 = some ⟨[4, 5, 6], []⟩ := by kernel_rfl
@[simp] theorem E24 : G.E 24 = true := by kernel_rfl
@[simp] theorem ext24 : G.ext 24 = none := by kernel_rfl
@[simp] theorem dfr24 : G.dfr 24 = false := by kernel_rfl
@[simp] theorem own24 : G.retOwn 24 = false := by kernel_rfl
@[simp] theorem live24_0 : G.live 24 0 = some ⟨[0], []⟩ := by kernel_rfl
@[simp] theorem live24_1 : G.live 24 1 = some ⟨[0, 4, 5], []⟩ := by kernel_rfl
@[simp] theorem live24_2 : G.live 24 2 = some ⟨[0, 4, 5, 12], []⟩ := by kernel_rfl
@[simp] theorem live24_3 : G.live 24 3 = some ⟨[2, 3], []⟩ := by kernel_rfl
@[simp] theorem live24_4 : G.live 24 4 = some ⟨[2, 3], []⟩ := by kernel_rfl
@[simp] theorem E25 : G.E 25 = true := by kernel_rfl
@[simp] theorem ext25 : G.ext 25 = none := by kernel_rfl
@[simp] theorem dfr25 : G.dfr 25 = false := by kernel_rfl
@[simp] theorem own25 : G.retOwn 25 = false := by kernel_rfl
@[simp] theorem live25_0 : G.live 25 0 = some ⟨[0], []⟩ := by kernel_rfl
@[simp] theorem live25_1 : G.live 25 1 = some ⟨[2], []⟩ := by kernel_rfl
@[simp] theorem E26 : G.E 26 = true := by kernel_rfl
@[simp] theorem ext26 : G.ext 26 = none := by kernel_rfl
@[simp] theorem dfr26 : G.dfr 26 = false := by kernel_rfl
@[simp] theorem own26 : G.retOwn 26 = false := by kernel_rfl
@[simp] theorem live26_0 : G.live 26 0 = some ⟨[0, 2], []⟩ := by kernel_rfl
@[simp] theorem live26_1 : G.live 26 1 = some ⟨[2], []⟩ := by kernel_rfl
@[simp] theorem E27 : G.E 27 = true := by kernel_rfl
@[simp] theorem ext27 : G.ext 27 = none := by kernel_rfl
@[simp] theorem dfr27 : G.dfr 27 = false := by kernel_rfl
@[simp] theorem own27 : G.retOwn 27 = false := by kernel_rfl
@[simp] theorem keep27_2 : G.keep 27 2 = some ⟨[(0, none), (3, none)], []⟩ := by kernel_rfl
@[simp] theorem live27_0 : G.live 27 0 = some ⟨[0], []⟩ := by kernel_rfl
@[simp] theorem live27_1 : G.live 27 1 = some ⟨[0, 3], []⟩ := by kernel_rfl
@[simp] theorem live27_2 : G.live 27 2 = some ⟨[0, 3, 13], []⟩ := by kernel_rfl
@[simp] theorem live27_3 : G.live 27 3 = some ⟨[0, 3], []⟩ := by kernel_rfl
@[simp] theorem live27_4 : G.live 27 4 = some ⟨[2], []⟩ := by kernel_rfl
@[simp] theorem E28 : G.E 28 = true := by kernel_rfl
@[simp] theorem ext28 : G.ext 28 = none := by kernel_rfl
@[simp] theorem dfr28 : G.dfr 28 = false := by kernel_rfl
@[simp] theorem own28 : G.retOwn 28 = false := by kernel_rfl
@[simp] theorem live28_0 : G.live 28 0 = some ⟨[0, 2], []⟩ := by kernel_rfl
@[simp] theorem live28_1 : G.live 28 1 = some ⟨[2], []⟩ := by kernel_rfl
@[simp] theorem E29 : G.E 29 = true := by kernel_rfl
@[simp] theorem ext29 : G.ext 29 = none := by kernel_rfl
@[simp] theorem dfr29 : G.dfr 29 = false := by kernel_rfl
@[simp] theorem own29 : G.retOwn 29 = false := by kernel_rfl
@[simp] theorem keep29_5 : G.keep 29 5 = some ⟨[(0, none), (3, none), (4, none)], []⟩ := by kernel_rfl
@[simp] theorem live29_0 : G.live 29 0 = some ⟨[0], []⟩ := by kernel_rfl
@[simp] theorem live29_1 : G.live 29 1 = some ⟨[0, 21], []⟩ := by kernel_rfl
@[simp] theorem live29_2 : G.live 29 2 = some ⟨[2], []⟩ := by kernel_rfl
@[simp] theorem live29_3 : G.live 29 3 = some ⟨[0, 3], []⟩ := by kernel_rfl
@[simp] theorem live29_4 : G.live 29 4 = some ⟨[0, 3, 4], []⟩ := by kernel_rfl
@[simp] theorem live29_5 : G.live 29 5 = some ⟨[0, 3, 4, 25], []⟩ := by kernel_rfl
@[simp] theorem live29_7 : G.live 29 7 = some ⟨[0, 3, 4, 37], []⟩ := by kernel_rfl
@[simp] theorem live29_8 : G.live 29 8 = some ⟨[2], []⟩ := by kernel_rfl
@[simp] theorem live29_9 : G.live 29 9 = some ⟨[0, 3, 4], []⟩ := by kernel_rfl
@[simp] theorem live29_6 : G.live 29 6 = some ⟨[0, 3, 4], []⟩ := by kernel_rfl
@[simp] theorem live29_10 : G.live 29 10 = some ⟨[2], []⟩ := by kernel_rfl
@[simp] theorem E30 : G.E 30 = true := by kernel_rfl
@[simp] theorem ext30 : G.ext 30 = none := by kernel_rfl
@[simp] theorem dfr30 : G.dfr 30 = false := by kernel_rfl
@[simp] theorem own30 : G.retOwn 30 = false := by kernel_rfl
@[simp] theorem live30_0 : G.live 30 0 = some ⟨[0], []⟩ := by kernel_rfl
@[simp] theorem live30_1 : G.live 30 1 = some ⟨[2], []⟩ := by kernel_rfl
@[simp] theorem E31 : G.E 31 = true := by kernel_rfl
@[simp] theorem ext31 : G.ext 31 = none := by kernel_rfl
@[simp] theorem dfr31 : G.dfr 31 = false := by kernel_rfl
@[simp] theorem own31 : G.retOwn 31 = false := by kernel_rfl
@[simp] theorem live31_0 : G.live 31 0 = some ⟨[1], []⟩ := by kernel_rfl
@[simp] theorem live31_1 : G.live 31 1 = some ⟨[1, 4], []⟩ := by kernel_rfl
@[simp] theorem live31_2 : G.live 31 2 = some ⟨[2, 3], []⟩ := by kernel_rfl
@[simp] theorem live31_3 : G.live 31 3 = some ⟨[1, 25], []⟩ := by kernel_rfl
@[simp] theorem live31_4 : G.live 31 4 = some ⟨[2, 3], []⟩ := by kernel_rfl
@[simp] theorem live31_5 : G.live 31 5 = some ⟨[2, 3], []⟩ := by kernel_rfl
@[simp] theorem plan31_1 : G.plan 31 1 = some [.n 0, .n 1, .n 2, .e 3 [0], .n 4, .n 5, .n 6, .n 7, .n 8, .n 9, .n 10, .n 11, .n 12, .n 13, .n 14, .n 15] := by kernel_rfl
@[simp] theorem plan31_3 : G.plan 31 3 = some [.n 0, .n 1, .n 2, .e 3 [0], .n 4, .n 5, .n 6, .n 7, .n 8, .n 9, .n 10, .n 11, .n 12, .n 14, .n 15, .e 13 [15, 14, 7, 6, 2, 1, 0], .n 16, .n 17, .n 18] := by kernel_rfl
@[simp] theorem E32 : G.E 32 = true := by kernel_rfl
@[simp] theorem ext32 : G.ext 32 = none := by kernel_rfl
@[simp] theorem dfr32 : G.dfr 32 = false := by kernel_rfl
@[simp] theorem own32 : G.retOwn 32 = false := by kernel_rfl
@[simp] theorem live32_0 : G.live 32 0 = some ⟨[0, 1], []⟩ := by kernel_rfl
@[simp] theorem live32_1 : G.live 32 1 = some ⟨[0, 1], []⟩ := by kernel_rfl
@[simp] theorem live32_2 : G.live 32 2 = some ⟨[], []⟩ := by kernel_rfl
@[simp] theorem live32_3 : G.live 32 3 = some ⟨[4], []⟩ := by kernel_rfl
@[simp] theorem E33 : G.E 33 = true := by kernel_rfl
@[simp] theorem ext33 : G.ext 33 = none := by kernel_rfl
@[simp] theorem dfr33 : G.dfr 33 = false := by kernel_rfl
@[simp] theorem own33 : G.retOwn 33 = false := by kernel_rfl
@[simp] theorem live33_0 : G.live 33 0 = some ⟨[0, 1], []⟩ := by kernel_rfl
@[simp] theorem live33_1 : G.live 33 1 = some ⟨[0, 1], []⟩ := by kernel_rfl
@[simp] theorem live33_2 : G.live 33 2 = some ⟨[1], []⟩ := by kernel_rfl
@[simp] theorem live33_3 : G.live 33 3 = some ⟨[4, 5], []⟩ := by kernel_rfl
@[simp] theorem E34 : G.E 34 = true := by kernel_rfl
@[simp] theorem ext34 : G.ext 34 = none := by kernel_rfl
@[simp] theorem dfr34 : G.dfr 34 = false := by kernel_rfl
@[simp] theorem own34 : G.retOwn 34 = false := by kernel_rfl
@[simp] theorem live34_0 : G.live 34 0 = some ⟨[0], []⟩ := by kernel_rfl
@[simp] theorem live34_1 : G.live 34 1 = some ⟨[2], []⟩ := by kernel_rfl
@[simp] theorem E35 : G.E 35 = true := by kernel_rfl
@[simp] theorem ext35 : G.ext 35 = none := by kernel_rfl
@[simp] theorem dfr35 : G.dfr 35 = false := by kernel_rfl
@[simp] theorem own35 : G.retOwn 35 = false := by kernel_rfl
@[simp] theorem live35_0 : G.live 35 0 = some ⟨[0], []⟩ := by kernel_rfl
@[simp] theorem live35_1 : G.live 35 1 = some ⟨[2], []⟩ := by kernel_rfl
@[simp] theorem plan35_1 : G.plan 35 1 = some [.n 0, .n 1, .n 2, .n 3, .n 5, .n 6, .n 7, .n 8, .n 9, .e 4 [9, 8, 7, 6, 5, 0], .e 10 [6, 5, 1, 0], .n 11] := by kernel_rfl
@[simp] theorem E36 : G.E 36 = true := by kernel_rfl
@[simp] theorem ext36 : G.ext 36 = none := by kernel_rfl
@[simp] theorem dfr36 : G.dfr 36 = false := by kernel_rfl
@[simp] theorem own36 : G.retOwn 36 = false := by kernel_rfl
@[simp] theorem live36_0 : G.live 36 0 = some ⟨[0], []⟩ := by kernel_rfl
@[simp] theorem live36_1 : G.live 36 1 = some ⟨[0, 9], []⟩ := by kernel_rfl
@[simp] theorem live36_2 : G.live 36 2 = some ⟨[2], []⟩ := by kernel_rfl
@[simp] theorem live36_3 : G.live 36 3 = some ⟨[0, 20], []⟩ := by kernel_rfl
@[simp] theorem live36_4 : G.live 36 4 = some ⟨[2], []⟩ := by kernel_rfl
@[simp] theorem live36_5 : G.live 36 5 = some ⟨[0, 3], []⟩ := by kernel_rfl
@[simp] theorem live36_6 : G.live 36 6 = some ⟨[0, 3, 30], []⟩ := by kernel_rfl
@[simp] theorem live36_7 : G.live 36 7 = some ⟨[0, 3], []⟩ := by kernel_rfl
@[simp] theorem live36_8 : G.live 36 8 = some ⟨[2], []⟩ := by kernel_rfl
@[simp] theorem plan36_8 : G.plan 36 8 = some [.n 0, .n 1, .n 3, .n 4, .n 5, .n 6, .n 7, .e 2 [7, 6, 5, 4, 3], .n 8, .n 9] := by kernel_rfl
@[simp] theorem E37 : G.E 37 = true := by kernel_rfl
@[simp] theorem ext37 : G.ext 37 = none := by kernel_rfl
@[simp] theorem dfr37 : G.dfr 37 = false := by kernel_rfl
@[simp] theorem own37 : G.retOwn 37 = false := by kernel_rfl
@[simp] theorem keep37_2 : G.keep 37 2 = some ⟨[(0, none), (3, none)], []⟩ := by kernel_rfl
@[simp] theorem live37_0 : G.live 37 0 = some ⟨[0], []⟩ := by kernel_rfl
@[simp] theorem live37_1 : G.live 37 1 = some ⟨[0, 3], []⟩ := by kernel_rfl
@[simp] theorem live37_2 : G.live 37 2 = some ⟨[0, 3, 7], []⟩ := by kernel_rfl
@[simp] theorem live37_4 : G.live 37 4 = some ⟨[0, 3, 14], []⟩ := by kernel_rfl
@[simp] theorem live37_5 : G.live 37 5 = some ⟨[2], []⟩ := by kernel_rfl
@[simp] theorem live37_3 : G.live 37 3 = some ⟨[0, 3], []⟩ := by kernel_rfl
@[simp] theorem live37_6 : G.live 37 6 = some ⟨[2], []⟩ := by kernel_rfl
@[simp] theorem E38 : G.E 38 = true := by kernel_rfl
@[simp] theorem ext38 : G.ext 38 = none := by kernel_rfl
@[simp] theorem dfr38 : G.dfr 38 = false := by kernel_rfl
@[simp] theorem own38 : G.retOwn 38 = false := by kernel_rfl
@[simp] theorem live38_0 : G.live 38 0 = some ⟨[0, 1], []⟩ := by kernel_rfl
@[simp] theorem live38_1 : G.live 38 1 = some ⟨[1, 6], []⟩ := by kernel_rfl
@[simp] theorem live38_2 : G.live 38 2 = some ⟨[1, 6, 10], []⟩ := by kernel_rfl
@[simp] theorem live38_3 : G.live 38 3 = some ⟨[4, 5], []⟩ := by kernel_rfl
@[simp] theorem live38_4 : G.live 38 4 = some ⟨[4, 5], []⟩ := by kernel_rfl
@[simp] theorem E39 : G.E 39 = true := by kernel_rfl
@[simp] theorem ext39 : G.ext 39 = none := by kernel_rfl
@[simp] theorem dfr39 : G.dfr 39 = false := by kernel_rfl
@[simp] theorem own39 : G.retOwn 39 = false := by kernel_rfl
@[simp] theorem live39_0 : G.live 39 0 = some ⟨[0, 3], []⟩ := by kernel_rfl
@[simp] theorem live39_1 : G.live 39 1 = some ⟨[0, 3, 5], []⟩ := by kernel_rfl
@[simp] theorem live39_2 : G.live 39 2 = some ⟨[0, 3, 5, 6], []⟩ := by kernel_rfl
@[simp] theorem live39_3 : G.live 39 3 = some ⟨[0, 3, 5, 6, 13], []⟩ := by kernel_rfl
@[simp] theorem live39_4 : G.live 39 4 = some ⟨[0, 3, 5, 6], []⟩ := by kernel_rfl
@[simp] theorem live39_5 : G.live 39 5 = some ⟨[5, 6, 38], []⟩ := by kernel_rfl
@[simp] theorem live39_6 : G.live 39 6 = some ⟨[4], []⟩ := by kernel_rfl
@[simp] theorem live39_7 : G.live 39 7 = some ⟨[4], []⟩ := by kernel_rfl
@[simp] theorem plan39_4 : G.plan 39 4 = some [.n 0, .n 2, .n 3, .e 1 [3, 2], .e 4 [], .n 5] := by kernel_rfl
@[simp] theorem E40 : G.E 40 = true := by kernel_rfl
@[simp] theorem ext40 : G.ext 40 = none := by kernel_rfl
@[simp] theorem dfr40 : G.dfr 40 = false := by kernel_rfl
@[simp] theorem own40 : G.retOwn 40 = false := by kernel_rfl
@[simp] theorem live40_0 : G.live 40 0 = some ⟨[0, 1], []⟩ := by kernel_rfl
@[simp] theorem live40_1 : G.live 40 1 = some ⟨[0, 1, 8], []⟩ := by kernel_rfl
@[simp] theorem live40_2 : G.live 40 2 = some ⟨[4], []⟩ := by kernel_rfl
@[simp] theorem live40_3 : G.live 40 3 = some ⟨[4], []⟩ := by kernel_rfl
@[simp] theorem E41 : G.E 41 = true := by kernel_rfl
@[simp] theorem ext41 : G.ext 41 = none := by kernel_rfl
@[simp] theorem dfr41 : G.dfr 41 = false := by kernel_rfl
@[simp] theorem own41 : G.retOwn 41 = false := by kernel_rfl
@[simp] theorem live41_0 : G.live 41 0 = some ⟨[0], []⟩ := by kernel_rfl
@[simp] theorem live41_1 : G.live 41 1 = some ⟨[0, 4], []⟩ := by kernel_rfl
@[simp] theorem live41_2 : G.live 41 2 = some ⟨[2], []⟩ := by kernel_rfl
@[simp] theorem live41_3 : G.live 41 3 = some ⟨[2], []⟩ := by kernel_rfl
@[simp] theorem E42 : G.E 42 = true := by kernel_rfl
@[simp] theorem ext42 : G.ext 42 = none := by kernel_rfl
@[simp] theorem dfr42 : G.dfr 42 = false := by kernel_rfl
@[simp] theorem own42 : G.retOwn 42 = false := by kernel_rfl
@[simp] theorem keep42_7 : G.keep 42 7 = some ⟨[(0, none), (1, none), (2, none), (8, none), (9, none), (10, none), (11, some (1, 37)), (42, none), (43, none), (44, none)], [(1009, [])]⟩ := by kernel_rfl
@[simp] theorem live42_0 : G.live 42 0 = some ⟨[0, 1, 2], []⟩ := by kernel_rfl
@[simp] theorem live42_1 : G.live 42 1 = some ⟨[0, 1, 2, 8, 9], []⟩ := by kernel_rfl
@[simp] theorem live42_2 : G.live 42 2 = some ⟨[0, 1, 2, 8, 9, 38], []⟩ := by kernel_rfl
@[simp] theorem live42_3 : G.live 42 3 = some ⟨[6, 7], []⟩ := by kernel_rfl
@[simp] theorem live42_4 : G.live 42 4 = some ⟨[0, 1, 2, 8, 9, 10], []⟩ := by kernel_rfl
@[simp] theorem live42_5 : G.live 42 5 = some ⟨[0, 1, 2, 8, 9, 10, 11], []⟩ := by kernel_rfl
@[simp] theorem live42_6 : G.live 42 6 = some ⟨[0, 1, 2, 8, 9, 10, 11, 42, 43, 44], []⟩ := by kernel_rfl
@[simp] theorem live42_7 : G.live 42 7 = some ⟨[0, 1, 2, 8, 9, 10, 11, 42, 43, 44, 45], []⟩ := by kernel_rfl
@[simp] theorem live42_8 : G.live 42 8 = some ⟨[0, 1, 2, 8, 9, 10, 11, 13, 42, 43, 44], []⟩ := by kernel_rfl
@[simp] theorem live42_9 : G.live 42 9 = some ⟨[0, 1, 2, 8, 9, 10, 11, 42, 43, 44], []⟩ := by kernel_rfl
@[simp] theorem live42_10 : G.live 42 10 = some ⟨[0, 1, 2, 8, 9, 10, 11, 42, 43, 44], []⟩ := by kernel_rfl
@[simp] theorem live42_11 : G.live 42 11 = some ⟨[1, 2, 8, 9, 10, 11, 14], []⟩ := by kernel_rfl
@[simp] theorem live42_12 : G.live 42 12 = some ⟨[1, 2, 8, 9, 10, 11, 14, 61], []⟩ := by kernel_rfl
@[simp] theorem live42_13 : G.live 42 13 = some ⟨[1, 2, 8, 9, 10, 11, 14], []⟩ := by kernel_rfl
@[simp] theorem live42_14 : G.live 42 14 = some ⟨[1, 2, 8, 9, 10, 11, 14, 67], []⟩ := by kernel_rfl
@[simp] theorem live42_15 : G.live 42 15 = some ⟨[1, 2, 8, 9, 10, 11, 14], []⟩ := by kernel_rfl
@[simp] theorem live42_16 : G.live 42 16 = some ⟨[1, 2, 8, 9, 10, 11, 14, 15], []⟩ := by kernel_rfl
@[simp] theorem live42_17 : G.live 42 17 = some ⟨[1, 2, 8, 9, 10, 11, 14, 15, 72], []⟩ := by kernel_rfl
@[simp] theorem live42_18 : G.live 42 18 = some ⟨[8, 10, 11, 15], []⟩ := by kernel_rfl
@[simp] theorem live42_19 : G.live 42 19 = some ⟨[1, 2, 8, 10, 11, 14, 15, 84], []⟩ := by kernel_rfl
@[simp] theorem live42_20 : G.live 42 20 = some ⟨[8, 10, 11, 15], []⟩ := by kernel_rfl
@[simp] theorem live42_21 : G.live 42 21 = some ⟨[8, 10, 11, 100], []⟩ := by kernel_rfl
@[simp] theorem live42_22 : G.live 42 22 = some ⟨[6, 7], []⟩ := by kernel_rfl
@[simp] theorem live42_23 : G.live 42 23 = some ⟨[6, 7], []⟩ := by kernel_rfl
@[simp] theorem plan42_1 : G.plan 42 1 = some [.n 0, .n 1, .n 2, .n 3, .n 4, .n 5, .n 6, .e 7 [6, 5, 4, 3, 2, 1, 0], .n 8, .e 9 []] := by kernel_rfl
@[simp] theorem plan42_20 : G.plan 42 20 = some [.n 0, .n 1, .n 2, .n 3, .n 4, .n 5, .n 6, .n 7, .n 8, .e 9 [1, 0], .n 10, .n 11, .n 12, .n 13, .e 14 [12], .n 15] := by kernel_rfl
@[simp] theorem E43 : G.E 43 = true := by kernel_rfl
@[simp] theorem ext43 : G.ext 43 = none := by kernel_rfl
@[simp] theorem dfr43 : G.dfr 43 = false := by kernel_rfl
@[simp] theorem own43 : G.retOwn 43 = false := by kernel_rfl
@[simp] theorem live43_0 : G.live 43 0 = some ⟨[1], []⟩ := by kernel_rfl
@[simp] theorem live43_1 : G.live 43 1 = some ⟨[2], []⟩ := by kernel_rfl
@[simp] theorem E44 : G.E 44 = true := by kernel_rfl
@[simp] theorem ext44 : G.ext 44 = none := by kernel_rfl
@[simp] theorem dfr44 : G.dfr 44 = false := by kernel_rfl
@[simp] theorem own44 : G.retOwn 44 = false := by kernel_rfl
@[simp] theorem live44_0 : G.live 44 0 = some ⟨[0, 1], []⟩ := by kernel_rfl
@[simp] theorem live44_1 : G.live 44 1 = some ⟨[4], []⟩ := by kernel_rfl
@[simp] theorem E45 : G.E 45 = true := by kernel_rfl
@[simp] theorem ext45 : G.ext 45 = none := by kernel_rfl
@[simp] theorem dfr45 : G.dfr 45 = true := by kernel_rfl
@[simp] theorem own45 : G.retOwn 45 = false := by kernel_rfl
@[simp] theorem live45_0 : G.live 45 0 = some ⟨[0, 2, 3], []⟩ := by kernel_rfl
@[simp] theorem live45_1 : G.live 45 1 = some ⟨[0, 2, 3], []⟩ := by kernel_rfl
@[simp] theorem live45_2 : G.live 45 2 = some ⟨[0, 2, 3], []⟩ := by kernel_rfl
@[simp] theorem live45_3 : G.live 45 3 = some ⟨[2, 3], []⟩ := by kernel_rfl
@[simp] theorem live45_4 : G.live 45 4 = some ⟨[2, 3], []⟩ := by kernel_rfl
@[simp] theorem E46 : G.E 46 = true := by kernel_rfl
@[simp] theorem ext46 : G.ext 46 = none := by kernel_rfl
@[simp] theorem dfr46 : G.dfr 46 = false := by kernel_rfl
@[simp] theorem own46 : G.retOwn 46 = false := by kernel_rfl
@[simp] theorem keep46_4 : G.keep 46 4 = some ⟨[(0, none), (1, none), (12, none), (13, none)], []⟩ := by kernel_rfl
@[simp] theorem live46_0 : G.live 46 0 = some ⟨[0, 1], []⟩ := by kernel_rfl
@[simp] theorem live46_1 : G.live 46 1 = some ⟨[0, 1, 10], []⟩ := by kernel_rfl
@[simp] theorem live46_2 : G.live 46 2 = some ⟨[4], []⟩ := by kernel_rfl
@[simp] theorem live46_3 : G.live 46 3 = some ⟨[0, 1, 12, 13], []⟩ := by kernel_rfl
@[simp] theorem live46_4 : G.live 46 4 = some ⟨[0, 1, 12, 13, 14], []⟩ := by kernel_rfl
@[simp] theorem live46_5 : G.live 46 5 = some ⟨[0, 1, 5, 12, 13], []⟩ := by kernel_rfl
@[simp] theorem live46_6 : G.live 46 6 = some ⟨[0, 1, 12, 13, 24], []⟩ := by kernel_rfl
@[simp] theorem live46_7 : G.live 46 7 = some ⟨[4], []⟩ := by kernel_rfl
@[simp] theorem live46_8 : G.live 46 8 = some ⟨[0, 1, 12, 13], []⟩ := by kernel_rfl
@[simp] theorem live46_9 : G.live 46 9 = some ⟨[4], []⟩ := by kernel_rfl
@[simp] theorem plan46_6 : G.plan 46 6 = some [.n 0, .n 1, .n 2, .n 3, .n 4, .n 5, .n 6, .n 7, .n 8] := by kernel_rfl
@[simp] theorem E47 : G.E 47 = true := by kernel_rfl
@[simp] theorem ext47 : G.ext 47 = none := by kernel_rfl
@[simp] theorem dfr47 : G.dfr 47 = true := by kernel_rfl
@[simp] theorem own47 : G.retOwn 47 = false := by kernel_rfl
@[simp] theorem live47_0 : G.live 47 0 = some ⟨[0, 2, 3], []⟩ := by kernel_rfl
@[simp] theorem live47_1 : G.live 47 1 = some ⟨[0, 2, 3], []⟩ := by kernel_rfl
@[simp] theorem live47_2 : G.live 47 2 = some ⟨[0, 2, 3, 4], []⟩ := by kernel_rfl
@[simp] theorem live47_3 : G.live 47 3 = some ⟨[0, 2, 3, 4], []⟩ := by kernel_rfl
@[simp] theorem live47_4 : G.live 47 4 = some ⟨[0, 2, 3, 4], []⟩ := by kernel_rfl
@[simp] theorem live47_5 : G.live 47 5 = some ⟨[2, 3, 4], []⟩ := by kernel_rfl
@[simp] theorem live47_6 : G.live 47 6 = some ⟨[2, 3, 4, 26], []⟩ := by kernel_rfl
@[simp] theorem live47_7 : G.live 47 7 = some ⟨[2, 3], []⟩ := by kernel_rfl
@[simp] theorem live47_8 : G.live 47 8 = some ⟨[2, 3], []⟩ := by kernel_rfl
@[simp] theorem plan47_7 : G.plan 47 7 = some [.n 0, .n 1, .n 2, .n 3, .n 4, .e 5 [4, 3, 2, 1, 0], .e 6 []] := by kernel_rfl
@[simp] theorem E48 : G.E 48 = true := by kernel_rfl
@[simp] theorem ext48 : G.ext 48 = none := by kernel_rfl
@[simp] theorem dfr48 : G.dfr 48 = false := by kernel_rfl
@[simp] theorem own48 : G.retOwn 48 = false := by kernel_rfl
@[simp] theorem live48_0 : G.live 48 0 = some ⟨[0, 1], []⟩ := by kernel_rfl
@[simp] theorem live48_1 : G.live 48 1 = some ⟨[0, 1, 9], []⟩ := by kernel_rfl
@[simp] theorem live48_2 : G.live 48 2 = some ⟨[4], []⟩ := by kernel_rfl
@[simp] theorem live48_3 : G.live 48 3 = some ⟨[0, 1, 11], []⟩ := by kernel_rfl
@[simp] theorem live48_4 : G.live 48 4 = some ⟨[0, 1], []⟩ := by kernel_rfl
@[simp] theorem live48_5 : G.live 48 5 = some ⟨[0, 1, 5], []⟩ := by kernel_rfl
@[simp] theorem live48_6 : G.live 48 6 = some ⟨[0, 1, 5, 6], []⟩ := by kernel_rfl
@[simp] theorem live48_7 : G.live 48 7 = some ⟨[0, 1, 5, 6, 23], []⟩ := by kernel_rfl
@[simp] theorem live48_8 : G.live 48 8 = some ⟨[0, 1, 5, 6], []⟩ := by kernel_rfl
@[simp] theorem live48_9 : G.live 48 9 = some ⟨[0, 1, 5, 7], []⟩ := by kernel_rfl
@[simp] theorem live48_10 : G.live 48 10 = some ⟨[0, 1, 5, 7, 35], []⟩ := by kernel_rfl
@[simp] theorem live48_11 : G.live 48 11 = some ⟨[0, 1, 5, 7], []⟩ := by kernel_rfl
@[simp] theorem live48_12 : G.live 48 12 = some ⟨[4], []⟩ := by kernel_rfl
@[simp] theorem E49 : G.E 49 = true := by kernel_rfl
@[simp] theorem ext49 : G.ext 49 = none := by kernel_rfl
@[simp] theorem dfr49 : G.dfr 49 = false := by kernel_rfl
@[simp] theorem own49 : G.retOwn 49 = false := by kernel_rfl
@[simp] theorem keep49_4 : G.keep 49 4 = some ⟨[(0, none), (1, none), (3, none), (29, none), (30, none), (31, none)], []⟩ := by kernel_rfl
@[simp] theorem live49_0 : G.live 49 0 = some ⟨[0, 1, 2, 3, 11], []⟩ := by kernel_rfl
@[simp] theorem live49_1 : G.live 49 1 = some ⟨[], []⟩ := by kernel_rfl
@[simp] theorem live49_2 : G.live 49 2 = some ⟨[0, 1, 3, 27], []⟩ := by kernel_rfl
@[simp] theorem live49_3 : G.live 49 3 = some ⟨[0, 1, 3, 29, 30, 31], []⟩ := by kernel_rfl
@[simp] theorem live49_4 : G.live 49 4 = some ⟨[0, 1, 3, 29, 30, 31, 32], []⟩ := by kernel_rfl
@[simp] theorem live49_5 : G.live 49 5 = some ⟨[0, 1, 3, 7, 29, 30, 31], []⟩ := by kernel_rfl
@[simp] theorem live49_6 : G.live 49 6 = some ⟨[0, 1, 3, 7, 29, 30, 31, 40], []⟩ := by kernel_rfl
@[simp] theorem live49_7 : G.live 49 7 = some ⟨[0, 1, 3, 29, 30, 31], []⟩ := by kernel_rfl
@[simp] theorem live49_8 : G.live 49 8 = some ⟨[0, 1, 3, 29, 30, 31], []⟩ := by kernel_rfl
@[simp] theorem live49_9 : G.live 49 9 = some ⟨[0, 1, 3, 8], []⟩ := by kernel_rfl
@[simp] theorem live49_10 : G.live 49 10 = some ⟨[0, 1, 3, 8, 54], []⟩ := by kernel_rfl
@[simp] theorem live49_11 : G.live 49 11 = some ⟨[], []⟩ := by kernel_rfl
@[simp] theorem plan49_7 : G.plan 49 7 = some [.n 0, .n 1, .n 2, .n 4, .e 3 [4, 0], .e 5 []] := by kernel_rfl
@[simp] theorem plan49_11 : G.plan 49 11 = some [.n 0, .n 1, .n 2, .n 4, .n 5, .e 3 [5, 4, 0], .e 6 []] := by kernel_rfl
@[simp] theorem E50 : G.E 50 = true := by kernel_rfl
@[simp] theorem ext50 : G.ext 50 = none := by kernel_rfl
@[simp] theorem dfr50 : G.dfr 50 = false := by kernel_rfl
@[simp] theorem own50 : G.retOwn 50 = false := by kernel_rfl
@[simp] theorem live50_0 : G.live 50 0 = some ⟨[0, 1], []⟩ := by kernel_rfl
@[simp] theorem live50_1 : G.live 50 1 = some ⟨[0, 1, 8], []⟩ := by kernel_rfl
@[simp] theorem live50_2 : G.live 50 2 = some ⟨[4], []⟩ := by kernel_rfl
@[simp] theorem live50_3 : G.live 50 3 = some ⟨[4], []⟩ := by kernel_rfl
@[simp] theorem E51 : G.E 51 = true := by kernel_rfl
@[simp] theorem ext51 : G.ext 51 = none := by kernel_rfl
@[simp] theorem dfr51 : G.dfr 51 = false := by kernel_rfl
@[simp] theorem own51 : G.retOwn 51 = false := by kernel_rfl
@[simp] theorem live51_0 : G.live 51 0 = some ⟨[0, 1], []⟩ := by kernel_rfl
@[simp] theorem live51_1 : G.live 51 1 = some ⟨[0, 1, 9], []⟩ := by kernel_rfl
@[simp] theorem live51_2 : G.live 51 2 = some ⟨[4, 5], []⟩ := by kernel_rfl
@[simp] theorem live51_3 : G.live 51 3 = some ⟨[4, 5], []⟩ := by kernel_rfl
@[simp] theorem E52 : G.E 52 = true := by kernel_rfl
@[simp] theorem ext52 : G.ext 52 = none := by kernel_rfl
@[simp] theorem dfr52 : G.dfr 52 = false := by kernel_rfl
@[simp] theorem own52 : G.retOwn 52 = false := by kernel_rfl
@[simp] theorem live52_0 : G.live 52 0 = some ⟨[0, 1], []⟩ := by kernel_rfl
@[simp] theorem live52_1 : G.live 52 1 = some ⟨[0, 1, 7], []⟩ := by kernel_rfl
@[simp] theorem live52_2 : G.live 52 2 = some ⟨[0, 1, 7, 12], []⟩ := by kernel_rfl
@[simp] theorem live52_3 : G.live 52 3 = some ⟨[4, 5, 6], []⟩ := by kernel_rfl
@[simp] theorem live52_4 : G.live 52 4 = some ⟨[4, 5, 6], []⟩ := by kernel_rfl
@[simp] theorem plan52_3 : G.plan 52 3 = some [.n 0, .n 1, .n 3, .n 4, .n 5, .n 6, .n 7, .n 8, .e 2 [8, 7, 6, 5, 4, 3], .n 9, .n 10, .n 11] := by kernel_rfl
@[simp] theorem E53 : G.E 53 = true := by kernel_rfl
@[simp] theorem ext53 : G.ext 53 = none := by kernel_rfl
@[simp] theorem dfr53 : G.dfr 53 = false := by kernel_rfl
@[simp] theorem own53 : G.retOwn 53 = false := by kernel_rfl
@[simp] theorem keep53_10 : G.keep 53 10 = some ⟨[(5, none), (6, none), (47, none), (48, none), (49, none)], []⟩ := by kernel_rfl
@[simp] theorem live53_0 : G.live 53 0 = some ⟨[0], []⟩ := by kernel_rfl
@[simp] theorem live53_1 : G.live 53 1 = some ⟨[0, 4], []⟩ := by kernel_rfl
@[simp] theorem live53_2 : G.live 53 2 = some ⟨[0, 30], []⟩ := by kernel_rfl
@[simp] theorem live53_3 : G.live 53 3 = some ⟨[0, 5], []⟩ := by kernel_rfl
@[simp] theorem live53_4 : G.live 53 4 = some ⟨[0, 5, 39], []⟩ := by kernel_rfl
@[simp] theorem live53_5 : G.live 53 5 = some ⟨[0, 5], []⟩ := by kernel_rfl
@[simp] theorem live53_6 : G.live 53 6 = some ⟨[0, 5, 44], []⟩ := by kernel_rfl
@[simp] theorem live53_7 : G.live 53 7 = some ⟨[2, 3], []⟩ := by kernel_rfl
@[simp] theorem live53_8 : G.live 53 8 = some ⟨[0, 5, 6], []⟩ := by kernel_rfl
@[simp] theorem live53_9 : G.live 53 9 = some ⟨[5, 6, 47, 48, 49], []⟩ := by kernel_rfl
@[simp] theorem live53_10 : G.live 53 10 = some ⟨[5, 6, 47, 48, 49, 50], []⟩ := by kernel_rfl
@[simp] theorem live53_11 : G.live 53 11 = some ⟨[5, 6, 8, 47, 48, 49], []⟩ := by kernel_rfl
@[simp] theorem live53_12 : G.live 53 12 = some ⟨[5, 6, 8, 47, 48, 49], []⟩ := by kernel_rfl
@[simp] theorem live53_13 : G.live 53 13 = some ⟨[5, 6, 8, 47, 48, 49, 56], []⟩ := by kernel_rfl
@[simp] theorem live53_14 : G.live 53 14 = some ⟨[2, 3], []⟩ := by kernel_rfl
@[simp] theorem live53_15 : G.live 53 15 = some ⟨[5, 6, 47, 48, 49], []⟩ := by kernel_rfl
@[simp] theorem live53_16 : G.live 53 16 = some ⟨[5, 6, 47, 48, 49], []⟩ := by kernel_rfl
@[simp] theorem live53_17 : G.live 53 17 = some ⟨[6, 66], []⟩ := by kernel_rfl
@[simp] theorem live53_18 : G.live 53 18 = some ⟨[6], []⟩ := by kernel_rfl
@[simp] theorem live53_19 : G.live 53 19 = some ⟨[2, 3], []⟩ := by kernel_rfl
@[simp] theorem live53_20 : G.live 53 20 = some ⟨[9, 10], []⟩ := by kernel_rfl
@[simp] theorem live53_21 : G.live 53 21 = some ⟨[2, 3], []⟩ := by kernel_rfl
@[simp] theorem E54 : G.E 54 = true := by kernel_rfl
@[simp] theorem ext54 : G.ext 54 = none := by kernel_rfl
@[simp] theorem dfr54 : G.dfr 54 = false := by kernel_rfl
@[simp] theorem own54 : G.retOwn 54 = false := by kernel_rfl
@[simp] theorem live54_0 : G.live 54 0 = some ⟨[0, 1, 2, 3, 4], []⟩ := by kernel_rfl
@[simp] theorem live54_1 : G.live 54 1 = some ⟨[0, 1, 2, 3, 4, 11], []⟩ := by kernel_rfl
@[simp] theorem live54_2 : G.live 54 2 = some ⟨[0, 1, 2, 3, 4, 11, 12], []⟩ := by kernel_rfl
@[simp] theorem live54_3 : G.live 54 3 = some ⟨[10], []⟩ := by kernel_rfl
@[simp] theorem live54_4 : G.live 54 4 = some ⟨[0, 1, 2, 3, 4, 11, 19], []⟩ := by kernel_rfl
@[simp] theorem live54_5 : G.live 54 5 = some ⟨[10], []⟩ := by kernel_rfl
@[simp] theorem live54_6 : G.live 54 6 = some ⟨[0, 1, 2, 3, 4, 11, 26], []⟩ := by kernel_rfl
@[simp] theorem live54_7 : G.live 54 7 = some ⟨[10], []⟩ := by kernel_rfl
@[simp] theorem live54_8 : G.live 54 8 = some ⟨[0, 1, 3, 4, 34], []⟩ := by kernel_rfl
@[simp] theorem live54_9 : G.live 54 9 = some ⟨[10], []⟩ := by kernel_rfl
@[simp] theorem live54_10 : G.live 54 10 = some ⟨[10], []⟩ := by kernel_rfl
@[simp] theorem E55 : G.E 55 = true := by kernel_rfl
@[simp] theorem ext55 : G.ext 55 = none := by kernel_rfl
@[simp] theorem dfr55 : G.dfr 55 = false := by kernel_rfl
@[simp] theorem own55 : G.retOwn 55 = false := by kernel_rfl
@[simp] theorem live55_0 : G.live 55 0 = some ⟨[0], []⟩ := by kernel_rfl
@[simp] theorem live55_1 : G.live 55 1 = some ⟨[2], []⟩ := by kernel_rfl
@[simp] theorem E56 : G.E 56 = true := by kernel_rfl
@[simp] theorem ext56 : G.ext 56 = none := by kernel_rfl
@[simp] theorem dfr56 : G.dfr 56 = false := by kernel_rfl
@[simp] theorem own56 : G.retOwn 56 = false := by kernel_rfl
@[simp] theorem live56_0 : G.live 56 0 = some ⟨[0], []⟩ := by kernel_rfl
@[simp] theorem live56_1 : G.live 56 1 = some ⟨[0, 3], []⟩ := by kernel_rfl
@[simp] theorem live56_2 : G.live 56 2 = some ⟨[0, 3], []⟩ := by kernel_rfl
@[simp] theorem live56_3 : G.live 56 3 = some ⟨[0, 3], []⟩ := by kernel_rfl
@[simp] theorem live56_4 : G.live 56 4 = some ⟨[3], []⟩ := by kernel_rfl
@[simp] theorem live56_5 : G.live 56 5 = some ⟨[2], []⟩ := by kernel_rfl
@[simp] theorem live56_6 : G.live 56 6 = some ⟨[2], []⟩ := by kernel_rfl
@[simp] theorem E57 : G.E 57 = true := by kernel_rfl
@[simp] theorem ext57 : G.ext 57 = none := by kernel_rfl
@[simp] theorem dfr57 : G.dfr 57 = false := by kernel_rfl
@[simp] theorem own57 : G.retOwn 57 = false := by kernel_rfl
@[simp] theorem live57_0 : G.live 57 0 = some ⟨[0, 6], []⟩ := by kernel_rfl
@[simp] theorem live57_1 : G.live 57 1 = some ⟨[], []⟩ := by kernel_rfl
@[simp] theorem live57_2 : G.live 57 2 = some ⟨[19], []⟩ := by kernel_rfl
@[simp] theorem E58 : G.E 58 = true := by kernel_rfl
@[simp] theorem ext58 : G.ext 58 = none := by kernel_rfl
@[simp] theorem dfr58 : G.dfr 58 = false := by kernel_rfl
@[simp] theorem own58 : G.retOwn 58 = false := by kernel_rfl
@[simp] theorem keep58_2 : G.keep 58 2 = some ⟨[(0, none), (1, none), (7, none), (8, none)], []⟩ := by kernel_rfl
@[simp] theorem live58_0 : G.live 58 0 = some ⟨[0, 1], []⟩ := by kernel_rfl
@[simp] theorem live58_1 : G.live 58 1 = some ⟨[0, 1, 7, 8], []⟩ := by kernel_rfl
@[simp] theorem live58_2 : G.live 58 2 = some ⟨[0, 1, 7, 8, 9], []⟩ := by kernel_rfl
@[simp] theorem live58_3 : G.live 58 3 = some ⟨[0, 1, 5, 7, 8], []⟩ := by kernel_rfl
@[simp] theorem live58_4 : G.live 58 4 = some ⟨[0, 1, 5, 7, 8, 16], []⟩ := by kernel_rfl
@[simp] theorem live58_5 : G.live 58 5 = some ⟨[4], []⟩ := by kernel_rfl
@[simp] theorem live58_6 : G.live 58 6 = some ⟨[0, 1, 7, 8], []⟩ := by kernel_rfl
@[simp] theorem live58_7 : G.live 58 7 = some ⟨[4], []⟩ := by kernel_rfl
@[simp] theorem E59 : G.E 59 = true := by kernel_rfl
@[simp] theorem ext59 : G.ext 59 = none := by kernel_rfl
@[simp] theorem dfr59 : G.dfr 59 = false := by kernel_rfl
@[simp] theorem own59 : G.retOwn 59 = true := by kernel_rfl
@[simp] theorem live59_0 : G.live 59 0 = some ⟨[0, 1, 10], []⟩ := by kernel_rfl
@[simp] theorem live59_1 : G.live 59 1 = some ⟨[0, 1, 5, 10], []⟩ := by kernel_rfl
@[simp] theorem live59_2 : G.live 59 2 = some ⟨[5, 9, 10], []⟩ := by kernel_rfl
@[simp] theorem live59_3 : G.live 59 3 = some ⟨[5, 6, 9, 10], []⟩ := by kernel_rfl
@[simp] theorem live59_4 : G.live 59 4 = some ⟨[5, 9, 10], []⟩ := by kernel_rfl
@[simp] theorem live59_5 : G.live 59 5 = some ⟨[4], []⟩ := by kernel_rfl
@[simp] theorem E60 : G.E 60 = true := by kernel_rfl
@[simp] theorem ext60 : G.ext 60 = none := by kernel_rfl
@[simp] theorem dfr60 : G.dfr 60 = false := by kernel_rfl
@[simp] theorem own60 : G.retOwn 60 = false := by kernel_rfl
@[simp] theorem live60_0 : G.live 60 0 = some ⟨[0, 1], []⟩ := by kernel_rfl
@[simp] theorem live60_1 : G.live 60 1 = some ⟨[4], []⟩ := by kernel_rfl
@[simp] theorem E61 : G.E 61 = true := by kernel_rfl
@[simp] theorem ext61 : G.ext 61 = none := by kernel_rfl
@[simp] theorem dfr61 : G.dfr 61 = false := by kernel_rfl
@[simp] theorem own61 : G.retOwn 61 = false := by kernel_rfl
@[simp] theorem keep61_5 : G.keep 61 5 = some ⟨[(0, none), (1, none), (4, none), (5, none), (6, none), (7, none)], [(1004, []), (1005, [(2, 1, 3)])]⟩ := by kernel_rfl
@[simp] theorem live61_0 : G.live 61 0 = some ⟨[0, 1, 4], []⟩ := by kernel_rfl
@[simp] theorem live61_1 : G.live 61 1 = some ⟨[0, 1, 4], []⟩ := by kernel_rfl
@[simp] theorem live61_2 : G.live 61 2 = some ⟨[0, 1, 4, 5], []⟩ := by kernel_rfl
@[simp] theorem live61_3 : G.live 61 3 = some ⟨[0, 1, 4, 5, 6], []⟩ := by kernel_rfl
@[simp] theorem live61_4 : G.live 61 4 = some ⟨[0, 1, 4, 5, 6, 7], []⟩ := by kernel_rfl
@[simp] theorem live61_5 : G.live 61 5 = some ⟨[0, 1, 4, 5, 6, 7, 31], []⟩ := by kernel_rfl
@[simp] theorem live61_7 : G.live 61 7 = some ⟨[0, 1, 4, 5, 6, 7, 39], []⟩ := by kernel_rfl
@[simp] theorem live61_8 : G.live 61 8 = some ⟨[0, 1, 4, 5, 6, 7], []⟩ := by kernel_rfl
@[simp] theorem live61_9 : G.live 61 9 = some ⟨[0, 1, 4, 5, 6, 7, 8], []⟩ := by kernel_rfl
@[simp] theorem live61_10 : G.live 61 10 = some ⟨[0, 1, 4, 5, 7, 8], []⟩ := by kernel_rfl
@[simp] theorem live61_11 : G.live 61 11 = some ⟨[0, 1, 4, 5, 6, 7], []⟩ := by kernel_rfl
@[simp] theorem live61_12 : G.live 61 12 = some ⟨[0, 1, 4, 5, 6, 7], []⟩ := by kernel_rfl
@[simp] theorem live61_13 : G.live 61 13 = some ⟨[0, 1, 4, 5, 6, 7], []⟩ := by kernel_rfl
@[simp] theorem live61_14 : G.live 61 14 = some ⟨[0, 1, 4, 5, 6, 7, 9], []⟩ := by kernel_rfl
@[simp] theorem live61_15 : G.live 61 15 = some ⟨[0, 1, 4, 5, 6, 7], []⟩ := by kernel_rfl
@[simp] theorem live61_6 : G.live 61 6 = some ⟨[0, 1, 4, 5, 6, 7], []⟩ := by kernel_rfl
@[simp] theorem live61_16 : G.live 61 16 = some ⟨[4, 5], []⟩ := by kernel_rfl
@[simp] theorem live61_17 : G.live 61 17 = some ⟨[4], []⟩ := by kernel_rfl
@[simp] theorem plan61_15 : G.plan 61 15 = some [.n 0, .n 1, .n 2, .n 3, .n 4, .n 5, .n 6, .n 7, .e 8 [6, 5, 4], .n 9, .e 10 []] := by kernel_rfl
@[simp] theorem E62 : G.E 62 = true := by kernel_rfl
@[simp] theorem ext62 : G.ext 62 = none := by kernel_rfl
@[simp] theorem dfr62 : G.dfr 62 = false := by kernel_rfl
@[simp] theorem own62 : G.retOwn 62 = false := by kernel_rfl
@[simp] theorem keep62_3 : G.keep 62 3 = some ⟨[(0, none), (1, none), (7, some (4, 54)), (15, none), (16, none), (17, none)], []⟩ := by kernel_rfl
@[simp] theorem live62_0 : G.live 62 0 = some ⟨[0, 1, 2], []⟩ := by kernel_rfl
@[simp] theorem live62_1 : G.live 62 1 = some ⟨[0, 1, 2, 7], []⟩ := by kernel_rfl
@[simp] theorem live62_2 : G.live 62 2 = some ⟨[0, 1, 7, 15, 16, 17], []⟩ := by kernel_rfl
@[simp] theorem live62_3 : G.live 62 3 = some ⟨[0, 1, 7, 15, 16, 17, 18], []⟩ := by kernel_rfl
@[simp] theorem live62_4 : G.live 62 4 = some ⟨[0, 1, 7, 8, 9, 15, 16, 17], []⟩ := by kernel_rfl
@[simp] theorem live62_5 : G.live 62 5 = some ⟨[0, 1, 7, 8, 9, 15, 16, 17, 23], []⟩ := by kernel_rfl
@[simp] theorem live62_6 : G.live 62 6 = some ⟨[0, 1, 7, 9, 15, 16, 17], []⟩ := by kernel_rfl
@[simp] theorem live62_7 : G.live 62 7 = some ⟨[0, 1, 7, 15, 16, 17], []⟩ := by kernel_rfl
@[simp] theorem live62_8 : G.live 62 8 = some ⟨[0, 1, 7, 15, 16, 17], []⟩ := by kernel_rfl
@[simp] theorem live62_9 : G.live 62 9 = some ⟨[6], []⟩ := by kernel_rfl
@[simp] theorem E63 : G.E 63 = true := by kernel_rfl
@[simp] theorem ext63 : G.ext 63 = none := by kernel_rfl
@[simp] theorem dfr63 : G.dfr 63 = false := by kernel_rfl
@[simp] theorem own63 : G.retOwn 63 = false := by kernel_rfl
@[simp] theorem keep63_2 : G.keep 63 2 = some ⟨[(0, none), (1, none), (7, none), (8, none)], []⟩ := by kernel_rfl
@[simp] theorem live63_0 : G.live 63 0 = some ⟨[0, 1], []⟩ := by kernel_rfl
@[simp] theorem live63_1 : G.live 63 1 = some ⟨[0, 1, 7, 8], []⟩ := by kernel_rfl
@[simp] theorem live63_2 : G.live 63 2 = some ⟨[0, 1, 7, 8, 9], []⟩ := by kernel_rfl
@[simp] theorem live63_3 : G.live 63 3 = some ⟨[0, 1, 5, 7, 8], []⟩ := by kernel_rfl
@[simp] theorem live63_4 : G.live 63 4 = some ⟨[0, 1, 5, 7, 8, 16], []⟩ := by kernel_rfl
@[simp] theorem live63_5 : G.live 63 5 = some ⟨[4], []⟩ := by kernel_rfl
@[simp] theorem live63_6 : G.live 63 6 = some ⟨[0, 1, 7, 8], []⟩ := by kernel_rfl
@[simp] theorem live63_7 : G.live 63 7 = some ⟨[4], []⟩ := by kernel_rfl
@[simp] theorem E64 : G.E 64 = true := by kernel_rfl
@[simp] theorem ext64 : G.ext 64 = none := by kernel_rfl
@[simp] theorem dfr64 : G.dfr 64 = false := by kernel_rfl
@[simp] theorem own64 : G.retOwn 64 = false := by kernel_rfl
@[simp] theorem live64_0 : G.live 64 0 = some ⟨[0, 1, 3], []⟩ := by kernel_rfl
@[simp] theorem live64_1 : G.live 64 1 = some ⟨[0, 1, 9], []⟩ := by kernel_rfl
@[simp] theorem live64_2 : G.live 64 2 = some ⟨[], []⟩ := by kernel_rfl
@[simp] theorem E65 : G.E 65 = true := by kernel_rfl
@[simp] theorem ext65 : G.ext 65 = none := by kernel_rfl
@[simp] theorem dfr65 : G.dfr 65 = false := by kernel_rfl
@[simp] theorem own65 : G.retOwn 65 = false := by kernel_rfl
@[simp] theorem live65_0 : G.live 65 0 = some ⟨[3], []⟩ := by kernel_rfl
@[simp] theorem live65_1 : G.live 65 1 = some ⟨[], []⟩ := by kernel_rfl
@[simp] theorem E66 : G.E 66 = true := by kernel_rfl
@[simp] theorem ext66 : G.ext 66 = none := by kernel_rfl
@[simp] theorem dfr66 : G.dfr 66 = false := by kernel_rfl
@[simp] theorem own66 : G.retOwn 66 = false := by kernel_rfl
@[simp] theorem live66_0 : G.live 66 0 = some ⟨[0, 1, 2, 3], []⟩ := by kernel_rfl
@[simp] theorem live66_1 : G.live 66 1 = some ⟨[0, 1, 2, 9], []⟩ := by kernel_rfl
@[simp] theorem live66_2 : G.live 66 2 = some ⟨[], []⟩ := by kernel_rfl
@[simp] theorem E67 : G.E 67 = true := by kernel_rfl
@[simp] theorem ext67 : G.ext 67 = none := by kernel_rfl
@[simp] theorem dfr67 : G.dfr 67 = false := by kernel_rfl
@[simp] theorem own67 : G.retOwn 67 = false := by kernel_rfl
@[simp] theorem live67_0 : G.live 67 0 = some ⟨[0], []⟩ := by kernel_rfl
@[simp] theorem live67_1 : G.live 67 1 = some ⟨[0, 4], []⟩ := by kernel_rfl
@[simp] theorem live67_2 : G.live 67 2 = some ⟨[0, 4, 5], []⟩ := by kernel_rfl
@[simp] theorem live67_3 : G.live 67 3 = some ⟨[0, 4, 7], []⟩ := by kernel_rfl
@[simp] theorem live67_4 : G.live 67 4 = some ⟨[0, 4, 9], []⟩ := by kernel_rfl
@[simp] theorem live67_5 : G.live 67 5 = some ⟨[0, 4, 11], []⟩ := by kernel_rfl
@[simp] theorem live67_6 : G.live 67 6 = some ⟨[0, 4, 13], []⟩ := by kernel_rfl
@[simp] theorem live67_7 : G.live 67 7 = some ⟨[0, 15], []⟩ := by kernel_rfl
@[simp] theorem live67_8 : G.live 67 8 = some ⟨[2], []⟩ := by kernel_rfl
@[simp] theorem live67_9 : G.live 67 9 = some ⟨[2], []⟩ := by kernel_rfl
@[simp] theorem live67_10 : G.live 67 10 = some ⟨[2], []⟩ := by kernel_rfl
@[simp] theorem live67_11 : G.live 67 11 = some ⟨[2], []⟩ := by kernel_rfl
@[simp] theorem live67_12 : G.live 67 12 = some ⟨[2], []⟩ := by kernel_rfl
@[simp] theorem E68 : G.E 68 = true := by kernel_rfl
@[simp] theorem ext68 : G.ext 68 = none := by kernel_rfl
@[simp] theorem dfr68 : G.dfr 68 = false := by kernel_rfl
@[simp] theorem own68 : G.retOwn 68 = false := by kernel_rfl
@[simp] theorem live68_0 : G.live 68 0 = some ⟨[0], []⟩ := by kernel_rfl
@[simp] theorem live68_1 : G.live 68 1 = some ⟨[0], []⟩ := by kernel_rfl
@[simp] theorem live68_2 : G.live 68 2 = some ⟨[0, 24], []⟩ := by kernel_rfl
@[simp] theorem live68_3 : G.live 68 3 = some ⟨[2], []⟩ := by kernel_rfl
@[simp] theorem live68_4 : G.live 68 4 = some ⟨[2], []⟩ := by kernel_rfl
@[simp] theorem plan68_1 : G.plan 68 1 = some [.n 0, .n 1, .n 2, .n 3, .n 4, .n 5, .n 6, .n 7, .n 8, .e 9 [5, 1, 0], .n 10, .n 11, .e 12 []] := by kernel_rfl
@[simp] theorem plan68_2 : G.plan 68 2 = some [.n 0, .n 1, .n 2, .n 3, .n 4, .n 5, .n 6, .n 7, .n 8, .n 9] := by kernel_rfl
@[simp] theorem plan68_4 : G.plan 68 4 = some [.n 0, .n 1, .n 2, .n 3, .n 4, .n 5, .n 6, .n 7, .n 8, .n 9] := by kernel_rfl
@[simp] theorem E69 : G.E 69 = true := by kernel_rfl
@[simp] theorem ext69 : G.ext 69 = none := by kernel_rfl
@[simp] theorem dfr69 : G.dfr 69 = false := by kernel_rfl
@[simp] theorem own69 : G.retOwn 69 = false := by kernel_rfl
@[simp] theorem live69_0 : G.live 69 0 = some ⟨[0, 5], []⟩ := by kernel_rfl
@[simp] theorem live69_1 : G.live 69 1 = some ⟨[], []⟩ := by kernel_rfl
@[simp] theorem E73 : G.E 73 = true := by kernel_rfl
@[simp] theorem ext73 : G.ext 73 = none := by kernel_rfl
@[simp] theorem dfr73 : G.dfr 73 = false := by kernel_rfl
@[simp] theorem own73 : G.retOwn 73 = false := by kernel_rfl
@[simp] theorem keep73_1 : G.keep 73 1 = some ⟨[(0, none), (1, none), (3, none), (6, none)], [(1006, [])]⟩ := by kernel_rfl
@[simp] theorem keep73_18 : G.keep 73 18 = some ⟨[(1, none), (3, none), (6, none), (48, none), (49, none), (50, none)], [(1006, [])]⟩ := by kernel_rfl
@[simp] theorem live73_0 : G.live 73 0 = some ⟨[0, 1, 3, 6], []⟩ := by kernel_rfl
@[simp] theorem live73_1 : G.live 73 1 = some ⟨[0, 1, 3, 6, 19], []⟩ := by kernel_rfl
@[simp] theorem live73_2 : G.live 73 2 = some ⟨[], []⟩ := by kernel_rfl
@[simp] theorem live73_3 : G.live 73 3 = some ⟨[8], []⟩ := by kernel_rfl
@[simp] theorem live73_4 : G.live 73 4 = some ⟨[0, 1, 3, 6, 9, 10], []⟩ := by kernel_rfl
@[simp] theorem live73_5 : G.live 73 5 = some ⟨[0, 1, 3, 6, 35], []⟩ := by kernel_rfl
@[simp] theorem live73_6 : G.live 73 6 = some ⟨[8], []⟩ := by kernel_rfl
@[simp] theorem live73_7 : G.live 73 7 = some ⟨[1, 3, 6, 36], []⟩ := by kernel_rfl
@[simp] theorem live73_10 : G.live 73 10 = some ⟨[1, 3, 6, 36, 38, 39], []⟩ := by kernel_rfl
@[simp] theorem live73_11 : G.live 73 11 = some ⟨[1, 3, 6, 11], []⟩ := by kernel_rfl
@[simp] theorem live73_12 : G.live 73 12 = some ⟨[0, 1, 3, 6], []⟩ := by kernel_rfl
@[simp] theorem live73_13 : G.live 73 13 = some ⟨[0, 1, 3, 6, 43], []⟩ := by kernel_rfl
@[simp] theorem live73_14 : G.live 73 14 = some ⟨[8], []⟩ := by kernel_rfl
@[simp] theorem live73_15 : G.live 73 15 = some ⟨[1, 3, 6, 36, 45, 46], []⟩ := by kernel_rfl
@[simp] theorem live73_16 : G.live 73 16 = some ⟨[1, 3, 6, 12], []⟩ := by kernel_rfl
@[simp] theorem live73_17 : G.live 73 17 = some ⟨[1, 3, 6, 48, 49, 50], []⟩ := by kernel_rfl
@[simp] theorem live73_18 : G.live 73 18 = some ⟨[1, 3, 6, 48, 49, 50, 51], []⟩ := by kernel_rfl
@[simp] theorem live73_19 : G.live 73 19 = some ⟨[1, 3, 6, 14, 48, 49, 50], []⟩ := by kernel_rfl
@[simp] theorem live73_20 : G.live 73 20 = some ⟨[1, 3, 6, 14, 48, 49, 50, 55], []⟩ := by kernel_rfl
@[simp] theorem live73_21 : G.live 73 21 = some ⟨[1, 3, 6, 48, 49, 50, 60], []⟩ := by kernel_rfl
@[simp] theorem live73_22 : G.live 73 22 = some ⟨[8], []⟩ := by kernel_rfl
@[simp] theorem live73_23 : G.live 73 23 = some ⟨[1, 3, 6, 48, 49, 50], []⟩ := by kernel_rfl
@[simp] theorem live73_24 : G.live 73 24 = some ⟨[8], []⟩ := by kernel_rfl
@[simp] theorem live73_8 : G.live 73 8 = some ⟨[], []⟩ := by kernel_rfl
@[simp] theorem live73_9 : G.live 73 9 = some ⟨[8], []⟩ := by kernel_rfl
@[simp] theorem E74 : G.E 74 = true := by kernel_rfl
@[simp] theorem ext74 : G.ext 74 = none := by kernel_rfl
@[simp] theorem dfr74 : G.dfr 74 = false := by kernel_rfl
@[simp] theorem own74 : G.retOwn 74 = false := by kernel_rfl
@[simp] theorem live74_0 : G.live 74 0 = some ⟨[0, 1], []⟩ := by kernel_rfl
@[simp] theorem live74_1 : G.live 74 1 = some ⟨[4], []⟩ := by kernel_rfl
@[simp] theorem E75 : G.E 75 = true := by kernel_rfl
@[simp] theorem ext75 : G.ext 75 = none := by kernel_rfl
@[simp] theorem dfr75 : G.dfr 75 = false := by kernel_rfl
@[simp] theorem own75 : G.retOwn 75 = false := by kernel_rfl
@[simp] theorem keep75_15 : G.keep 75 15 = some ⟨[(0, none), (1, none), (5, none), (6, none), (7, none), (8, none), (9, none), (10, none)], []⟩ := by kernel_rfl
@[simp] theorem live75_0 : G.live 75 0 = some ⟨[0, 1], []⟩ := by kernel_rfl
@[simp] theorem live75_1 : G.live 75 1 = some ⟨[0, 1, 5], []⟩ := by kernel_rfl
@[simp] theorem live75_2 : G.live 75 2 = some ⟨[0, 1, 5, 16], []⟩ := by kernel_rfl
@[simp] theorem live75_3 : G.live 75 3 = some ⟨[4], []⟩ := by kernel_rfl
@[simp] theorem live75_4 : G.live 75 4 = some ⟨[0, 1, 5, 24], []⟩ := by kernel_rfl
@[simp] theorem live75_5 : G.live 75 5 = some ⟨[4], []⟩ := by kernel_rfl
@[simp] theorem live75_6 : G.live 75 6 = some ⟨[0, 1, 5, 31], []⟩ := by kernel_rfl
@[simp] theorem live75_7 : G.live 75 7 = some ⟨[4], []⟩ := by kernel_rfl
@[simp] theorem live75_8 : G.live 75 8 = some ⟨[0, 1, 5, 36], []⟩ := by kernel_rfl
@[simp] theorem live75_9 : G.live 75 9 = some ⟨[4], []⟩ := by kernel_rfl
@[simp] theorem live75_10 : G.live 75 10 = some ⟨[0, 1, 5, 6], []⟩ := by kernel_rfl
@[simp] theorem live75_11 : G.live 75 11 = some ⟨[0, 1, 5, 6, 7], []⟩ := by kernel_rfl
@[simp] theorem live75_12 : G.live 75 12 = some ⟨[0, 1, 5, 6, 7, 8], []⟩ := by kernel_rfl
@[simp] theorem live75_13 : G.live 75 13 = some ⟨[0, 1, 5, 6, 7, 8, 9], []⟩ := by kernel_rfl
@[simp] theorem live75_14 : G.live 75 14 = some ⟨[0, 1, 5, 6, 7, 8, 9, 10], []⟩ := by kernel_rfl
@[simp] theorem live75_15 : G.live 75 15 = some ⟨[0, 1, 5, 6, 7, 8, 9, 10, 59], []⟩ := by kernel_rfl
@[simp] theorem live75_16 : G.live 75 16 = some ⟨[0, 1, 5, 6, 7, 8, 9, 10, 64], []⟩ := by kernel_rfl
@[simp] theorem live75_17 : G.live 75 17 = some ⟨[0, 1, 5, 6, 7, 8, 9, 10, 11], []⟩ := by kernel_rfl
@[simp] theorem live75_18 : G.live 75 18 = some ⟨[0, 1, 5, 6, 7, 8, 9, 10, 11, 73], []⟩ := by kernel_rfl
@[simp] theorem live75_19 : G.live 75 19 = some ⟨[4], []⟩ := by kernel_rfl
@[simp] theorem live75_20 : G.live 75 20 = some ⟨[0, 1, 5, 6, 7, 8, 9, 10], []⟩ := by kernel_rfl
@[simp] theorem live75_21 : G.live 75 21 = some ⟨[0, 1, 5, 6, 7, 8, 9, 10, 93], []⟩ := by kernel_rfl
@[simp] theorem live75_22 : G.live 75 22 = some ⟨[4], []⟩ := by kernel_rfl
@[simp] theorem live75_23 : G.live 75 23 = some ⟨[0, 1, 5, 6, 7, 8, 9, 10], []⟩ := by kernel_rfl
@[simp] theorem live75_24 : G.live 75 24 = some ⟨[0, 1, 5, 6, 7, 8, 9, 10], []⟩ := by kernel_rfl
@[simp] theorem live75_25 : G.live 75 25 = some ⟨[0, 1, 5, 6, 7, 8, 9, 10, 107], []⟩ := by kernel_rfl
@[simp] theorem live75_26 : G.live 75 26 = some ⟨[8, 12], []⟩ := by kernel_rfl
@[simp] theorem live75_27 : G.live 75 27 = some ⟨[8, 12, 114], []⟩ := by kernel_rfl
@[simp] theorem live75_28 : G.live 75 28 = some ⟨[4], []⟩ := by kernel_rfl
@[simp] theorem live75_29 : G.live 75 29 = some ⟨[4], []⟩ := by kernel_rfl
@[simp] theorem live75_30 : G.live 75 30 = some ⟨[0, 1, 5, 6, 7, 8, 9, 10, 132], []⟩ := by kernel_rfl
@[simp] theorem live75_31 : G.live 75 31 = some ⟨[8, 13], []⟩ := by kernel_rfl
@[simp] theorem live75_32 : G.live 75 32 = some ⟨[8, 13, 139], []⟩ := by kernel_rfl
@[simp] theorem live75_33 : G.live 75 33 = some ⟨[4], []⟩ := by kernel_rfl
@[simp] theorem live75_34 : G.live 75 34 = some ⟨[4], []⟩ := by kernel_rfl
@[simp] theorem live75_35 : G.live 75 35 = some ⟨[4], []⟩ := by kernel_rfl
@[simp] theorem E76 : G.E 76 = true := by kernel_rfl
@[simp] theorem ext76 : G.ext 76 = none := by kernel_rfl
@[simp] theorem dfr76 : G.dfr 76 = false := by kernel_rfl
@[simp] theorem own76 : G.retOwn 76 = false := by kernel_rfl
@[simp] theorem live76_0 : G.live 76 0 = some ⟨[0, 1, 2], []⟩ := by kernel_rfl
@[simp] theorem live76_1 : G.live 76 1 = some ⟨[0, 1, 2, 13], []⟩ := by kernel_rfl
@[simp] theorem live76_2 : G.live 76 2 = some ⟨[6, 7], []⟩ := by kernel_rfl
@[simp] theorem live76_3 : G.live 76 3 = some ⟨[0, 1, 2, 8], []⟩ := by kernel_rfl
@[simp] theorem live76_4 : G.live 76 4 = some ⟨[0, 1, 2, 8, 16], []⟩ := by kernel_rfl
@[simp] theorem live76_5 : G.live 76 5 = some ⟨[0, 1, 2, 8, 16, 17], []⟩ := by kernel_rfl
@[simp] theorem live76_6 : G.live 76 6 = some ⟨[0, 1, 2, 8], []⟩ := by kernel_rfl
@[simp] theorem live76_7 : G.live 76 7 = some ⟨[0, 1, 2, 8, 21], []⟩ := by kernel_rfl
@[simp] theorem live76_8 : G.live 76 8 = some ⟨[0, 1, 2], []⟩ := by kernel_rfl
@[simp] theorem live76_9 : G.live 76 9 = some ⟨[0, 1, 2, 8], []⟩ := by kernel_rfl
@[simp] theorem live76_10 : G.live 76 10 = some ⟨[0, 1, 2, 8], []⟩ := by kernel_rfl
@[simp] theorem live76_11 : G.live 76 11 = some ⟨[2, 7, 8, 9], []⟩ := by kernel_rfl
@[simp] theorem live76_12 : G.live 76 12 = some ⟨[2, 7, 8, 9, 38], []⟩ := by kernel_rfl
@[simp] theorem live76_13 : G.live 76 13 = some ⟨[6, 7], []⟩ := by kernel_rfl
@[simp] theorem live76_14 : G.live 76 14 = some ⟨[2, 8, 9, 41], []⟩ := by kernel_rfl
@[simp] theorem live76_15 : G.live 76 15 = some ⟨[2, 8, 9], []⟩ := by kernel_rfl
@[simp] theorem live76_16 : G.live 76 16 = some ⟨[8, 9, 10], []⟩ := by kernel_rfl
@[simp] theorem live76_17 : G.live 76 17 = some ⟨[8, 9, 10, 52], []⟩ := by kernel_rfl
@[simp] theorem live76_18 : G.live 76 18 = some ⟨[6, 7], []⟩ := by kernel_rfl
@[simp] theorem live76_19 : G.live 76 19 = some ⟨[8, 9, 10, 62], []⟩ := by kernel_rfl
@[simp] theorem live76_20 : G.live 76 20 = some ⟨[6, 7], []⟩ := by kernel_rfl
@[simp] theorem live76_21 : G.live 76 21 = some ⟨[8, 11], []⟩ := by kernel_rfl
@[simp] theorem live76_22 : G.live 76 22 = some ⟨[11, 69], []⟩ := by kernel_rfl
@[simp] theorem live76_23 : G.live 76 23 = some ⟨[11], []⟩ := by kernel_rfl
@[simp] theorem live76_24 : G.live 76 24 = some ⟨[6, 7], []⟩ := by kernel_rfl
@[simp] theorem E77 : G.E 77 = true := by kernel_rfl
@[simp] theorem ext77 : G.ext 77 = none := by kernel_rfl
@[simp] theorem dfr77 : G.dfr 77 = false := by kernel_rfl
@[simp] theorem own77 : G.retOwn 77 = false := by kernel_rfl
@[simp] theorem live77_0 : G.live 77 0 = some ⟨[0, 1], []⟩ := by kernel_rfl
@[simp] theorem live77_1 : G.live 77 1 = some ⟨[4], []⟩ := by kernel_rfl
@[simp] theorem plan77_1 : G.plan 77 1 = some [.n 0, .n 1, .n 3, .e 2 [3, 0], .n 4, .e 5 [], .n 6] := by kernel_rfl
@[simp] theorem E78 : G.E 78 = true := by kernel_rfl
@[simp] theorem ext78 : G.ext 78 = none := by kernel_rfl
@[simp] theorem dfr78 : G.dfr 78 = false := by kernel_rfl
@[simp] theorem own78 : G.retOwn 78 = false := by kernel_rfl
@[simp] theorem live78_0 : G.live 78 0 = some ⟨[0, 1], []⟩ := by kernel_rfl
@[simp] theorem live78_1 : G.live 78 1 = some ⟨[4], []⟩ := by kernel_rfl
@[simp] theorem plan78_1 : G.plan 78 1 = some [.n 0, .n 1, .n 3, .e 2 [3, 0], .n 4, .e 5 [], .n 6] := by kernel_rfl
@[simp] theorem E79 : G.E 79 = true := by kernel_rfl
@[simp] theorem ext79 : G.ext 79 = none := by kernel_rfl
@[simp] theorem dfr79 : G.dfr 79 = false := by kernel_rfl
@[simp] theorem own79 : G.retOwn 79 = false := by kernel_rfl
@[simp] theorem live79_0 : G.live 79 0 = some ⟨[0, 1, 2], []⟩ := by kernel_rfl
@[simp] theorem live79_1 : G.live 79 1 = some ⟨[6], []⟩ := by kernel_rfl
@[simp] theorem E80 : G.E 80 = true := by kernel_rfl
@[simp] theorem ext80 : G.ext 80 = none := by kernel_rfl
@[simp] theorem dfr80 : G.dfr 80 = false := by kernel_rfl
@[simp] theorem own80 : G.retOwn 80 = false := by kernel_rfl
@[simp] theorem live80_0 : G.live 80 0 = some ⟨[0, 1, 2], []⟩ := by kernel_rfl
@[simp] theorem live80_1 : G.live 80 1 = some ⟨[6], []⟩ := by kernel_rfl
@[simp] theorem E81 : G.E 81 = true := by kernel_rfl
@[simp] theorem ext81 : G.ext 81 = none := by kernel_rfl
@[simp] theorem dfr81 : G.dfr 81 = false := by kernel_rfl
@[simp] theorem own81 : G.retOwn 81 = false := by kernel_rfl
@[simp] theorem live81_0 : G.live 81 0 = some ⟨[0, 1], []⟩ := by kernel_rfl
@[simp] theorem live81_1 : G.live 81 1 = some ⟨[0, 1, 11], []⟩ := by kernel_rfl
@[simp] theorem live81_2 : G.live 81 2 = some ⟨[0, 17], []⟩ := by kernel_rfl
@[simp] theorem live81_3 : G.live 81 3 = some ⟨[4], []⟩ := by kernel_rfl
@[simp] theorem live81_4 : G.live 81 4 = some ⟨[0, 5], []⟩ := by kernel_rfl
@[simp] theorem live81_5 : G.live 81 5 = some ⟨[0, 5, 6], []⟩ := by kernel_rfl
@[simp] theorem live81_6 : G.live 81 6 = some ⟨[0, 5, 6, 23], []⟩ := by kernel_rfl
@[simp] theorem live81_7 : G.live 81 7 = some ⟨[0, 5, 6], []⟩ := by kernel_rfl
@[simp] theorem live81_8 : G.live 81 8 = some ⟨[0, 5, 6, 7], []⟩ := by kernel_rfl
@[simp] theorem live81_9 : G.live 81 9 = some ⟨[0, 5, 7], []⟩ := by kernel_rfl
@[simp] theorem live81_10 : G.live 81 10 = some ⟨[5, 7, 34], []⟩ := by kernel_rfl
@[simp] theorem live81_11 : G.live 81 11 = some ⟨[5, 7], []⟩ := by kernel_rfl
@[simp] theorem live81_12 : G.live 81 12 = some ⟨[4], []⟩ := by kernel_rfl
@[simp] theorem live81_13 : G.live 81 13 = some ⟨[4], []⟩ := by kernel_rfl
@[simp] theorem live81_14 : G.live 81 14 = some ⟨[9], []⟩ := by kernel_rfl
@[simp] theorem live81_15 : G.live 81 15 = some ⟨[4], []⟩ := by kernel_rfl
@[simp] theorem E83 : G.E 83 = true := by kernel_rfl
@[simp] theorem ext83 : G.ext 83 = none := by kernel_rfl
@[simp] theorem dfr83 : G.dfr 83 = false := by kernel_rfl
@[simp] theorem own83 : G.retOwn 83 = false := by kernel_rfl
@[simp] theorem live83_0 : G.live 83 0 = some ⟨[2, 3], []⟩ := by kernel_rfl
@[simp] theorem live83_1 : G.live 83 1 = some ⟨[4], []⟩ := by kernel_rfl
@[simp] theorem E84 : G.E 84 = true := by kernel_rfl
@[simp] theorem ext84 : G.ext 84 = none := by kernel_rfl
@[simp] theorem dfr84 : G.dfr 84 = false := by kernel_rfl
@[simp] theorem own84 : G.retOwn 84 = false := by kernel_rfl
@[simp] theorem live84_0 : G.live 84 0 = some ⟨[1], []⟩ := by kernel_rfl
@[simp] theorem live84_1 : G.live 84 1 = some ⟨[1, 3], []⟩ := by kernel_rfl
@[simp] theorem live84_2 : G.live 84 2 = some ⟨[1, 3, 6], []⟩ := by kernel_rfl
@[simp] theorem live84_3 : G.live 84 3 = some ⟨[1, 3, 6, 7], []⟩ := by kernel_rfl
@[simp] theorem live84_4 : G.live 84 4 = some ⟨[1, 3, 6, 9], []⟩ := by kernel_rfl
@[simp] theorem live84_5 : G.live 84 5 = some ⟨[1, 3, 6, 11], []⟩ := by kernel_rfl
@[simp] theorem live84_6 : G.live 84 6 = some ⟨[1, 3, 6, 13], []⟩ := by kernel_rfl
@[simp] theorem live84_7 : G.live 84 7 = some ⟨[1, 3, 6, 15], []⟩ := by kernel_rfl
@[simp] theorem live84_8 : G.live 84 8 = some ⟨[1, 3, 15], []⟩ := by kernel_rfl
@[simp] theorem live84_9 : G.live 84 9 = some ⟨[1, 3], []⟩ := by kernel_rfl
@[simp] theorem live84_10 : G.live 84 10 = some ⟨[2], []⟩ := by kernel_rfl
@[simp] theorem live84_11 : G.live 84 11 = some ⟨[1, 3], []⟩ := by kernel_rfl
@[simp] theorem live84_12 : G.live 84 12 = some ⟨[2], []⟩ := by kernel_rfl
@[simp] theorem live84_13 : G.live 84 13 = some ⟨[1, 3], []⟩ := by kernel_rfl
@[simp] theorem live84_14 : G.live 84 14 = some ⟨[2], []⟩ := by kernel_rfl
@[simp] theorem live84_15 : G.live 84 15 = some ⟨[2], []⟩ := by kernel_rfl
@[simp] theorem live84_16 : G.live 84 16 = some ⟨[2], []⟩ := by kernel_rfl
@[simp] theorem plan84_10 : G.plan 84 10 = some [.n 0, .n 1, .e 2 [0], .n 3, .n 4, .n 5, .n 6, .n 7, .n 8, .n 9] := by kernel_rfl
@[simp] theorem plan84_12 : G.plan 84 12 = some [.n 0, .n 1, .e 2 [0], .n 3, .n 4, .n 5, .n 6, .n 7, .n 8, .n 9] := by kernel_rfl
@[simp] theorem plan84_14 : G.plan 84 14 = some [.n 0, .n 1, .e 2 [0], .n 3, .n 4, .n 5, .n 6, .n 7, .n 8, .n 9] := by kernel_rfl
@[simp] theorem plan84_15 : G.plan 84 15 = some [.n 0, .n 1, .e 2 [0], .n 3, .n 4, .n 5, .n 6, .n 7, .n 8, .n 9] := by kernel_rfl
@[simp] theorem E85 : G.E 85 = true := by kernel_rfl
@[simp] theorem ext85 : G.ext 85 = none := by kernel_rfl
@[simp] theorem dfr85 : G.dfr 85 = false := by kernel_rfl
@[simp] theorem own85 : G.retOwn 85 = false := by kernel_rfl
@[simp] theorem live85_0 : G.live 85 0 = some ⟨[1], []⟩ := by kernel_rfl
@[simp] theorem live85_1 : G.live 85 1 = some ⟨[1, 3], []⟩ := by kernel_rfl
@[simp] theorem live85_2 : G.live 85 2 = some ⟨[3], []⟩ := by kernel_rfl
@[simp] theorem live85_3 : G.live 85 3 = some ⟨[2], []⟩ := by kernel_rfl
@[simp] theorem E86 : G.E 86 = true := by kernel_rfl
@[simp] theorem ext86 : G.ext 86 = none := by kernel_rfl
@[simp] theorem dfr86 : G.dfr 86 = false := by kernel_rfl
@[simp] theorem own86 : G.retOwn 86 = false := by kernel_rfl
@[simp] theorem live86_0 : G.live 86 0 = some ⟨[1], []⟩ := by kernel_rfl
@[simp] theorem live86_1 : G.live 86 1 = some ⟨[1, 3], []⟩ := by kernel_rfl
@[simp] theorem live86_2 : G.live 86 2 = some ⟨[3], []⟩ := by kernel_rfl
@[simp] theorem live86_3 : G.live 86 3 = some ⟨[2], []⟩ := by kernel_rfl
@[simp] theorem E87 : G.E 87 = true := by kernel_rfl
@[simp] theorem ext87 : G.ext 87 = none := by kernel_rfl
@[simp] theorem dfr87 : G.dfr 87 = false := by kernel_rfl
@[simp] theorem own87 : G.retOwn 87 = false := by kernel_rfl
@[simp] theorem keep87_2 : G.keep 87 2 = some ⟨[(0, none), (7, none)], []⟩ := by kernel_rfl
@[simp] theorem keep87_6 : G.keep 87 6 = some ⟨[(0, none), (3, none), (4, none), (26, none)], [(1004, [])]⟩ := by kernel_rfl
@[simp] theorem live87_0 : G.live 87 0 = some ⟨[0], []⟩ := by kernel_rfl
@[simp] theorem live87_1 : G.live 87 1 = some ⟨[0, 7], []⟩ := by kernel_rfl
@[simp] theorem live87_2 : G.live 87 2 = some ⟨[0, 7, 9], []⟩ := by kernel_rfl
@[simp] theorem live87_3 : G.live 87 3 = some ⟨[0, 3, 4, 7], []⟩ := by kernel_rfl
@[simp] theorem live87_4 : G.live 87 4 = some ⟨[0, 3, 4, 7, 24], []⟩ := by kernel_rfl
@[simp] theorem live87_5 : G.live 87 5 = some ⟨[0, 3, 4, 26], []⟩ := by kernel_rfl
@[simp] theorem live87_6 : G.live 87 6 = some ⟨[0, 3, 4, 26, 27, 28], []⟩ := by kernel_rfl
@[simp] theorem live87_7 : G.live 87 7 = some ⟨[0, 3, 4, 5, 26], []⟩ := by kernel_rfl
@[simp] theorem live87_8 : G.live 87 8 = some ⟨[0, 3, 4, 26], []⟩ := by kernel_rfl
@[simp] theorem live87_9 : G.live 87 9 = some ⟨[0, 3, 4, 26], []⟩ := by kernel_rfl
@[simp] theorem live87_10 : G.live 87 10 = some ⟨[2], []⟩ := by kernel_rfl
@[simp] theorem live87_11 : G.live 87 11 = some ⟨[2], []⟩ := by kernel_rfl
@[simp] theorem plan87_4 : G.plan 87 4 = some [.n 0, .n 1, .n 2, .n 3, .n 4, .n 5, .n 6, .n 7, .n 8, .n 9, .n 10, .n 11] := by kernel_rfl
@[simp] theorem plan87_8 : G.plan 87 8 = some [.n 0, .n 1, .n 2, .n 3, .n 4, .n 5, .n 6, .n 7, .n 8, .n 9, .n 10, .n 11, .n 12, .n 13, .e 14 [5, 1, 0], .e 15 [11, 6, 5, 2, 1]] := by kernel_rfl
@[simp] theorem E88 : G.E 88 = true := by kernel_rfl
@[simp] theorem ext88 : G.ext 88 = none := by kernel_rfl
@[simp] theorem dfr88 : G.dfr 88 = false := by kernel_rfl
@[simp] theorem own88 : G.retOwn 88 = false := by kernel_rfl
@[simp] theorem live88_0 : G.live 88 0 = some ⟨[0], []⟩ := by kernel_rfl
@[simp] theorem live88_1 : G.live 88 1 = some ⟨[0], []⟩ := by kernel_rfl
@[simp] theorem live88_2 : G.live 88 2 = some ⟨[0, 3, 4, 5], []⟩ := by kernel_rfl
@[simp] theorem live88_3 : G.live 88 3 = some ⟨[0, 3, 4], []⟩ := by kernel_rfl
@[simp] theorem live88_4 : G.live 88 4 = some ⟨[3], []⟩ := by kernel_rfl
@[simp] theorem live88_5 : G.live 88 5 = some ⟨[2], []⟩ := by kernel_rfl
@[simp] theorem plan88_2 : G.plan 88 2 = some [.n 0, .n 1, .n 2, .n 3, .n 4, .n 5, .n 6, .n 7, .e 8 [4, 0], .n 9, .n 10, .n 11, .n 12, .n 13, .n 14, .n 15] := by kernel_rfl
@[simp] theorem E89 : G.E 89 = true := by kernel_rfl
@[simp] theorem ext89 : G.ext 89 = none := by kernel_rfl
@[simp] theorem dfr89 : G.dfr 89 = false := by kernel_rfl
@[simp] theorem own89 : G.retOwn 89 = false := by kernel_rfl
@[simp] theorem live89_0 : G.live 89 0 = some ⟨[0], []⟩ := by kernel_rfl
@[simp] theorem live89_1 : G.live 89 1 = some ⟨[0, 3, 4, 5], []⟩ := by kernel_rfl
@[simp] theorem live89_2 : G.live 89 2 = some ⟨[0, 3, 4, 5, 44], []⟩ := by kernel_rfl
@[simp] theorem live89_3 : G.live 89 3 = some ⟨[0, 3, 4, 5], []⟩ := by kernel_rfl
@[simp] theorem live89_4 : G.live 89 4 = some ⟨[0, 3, 4], []⟩ := by kernel_rfl
@[simp] theorem live89_5 : G.live 89 5 = some ⟨[3], []⟩ := by kernel_rfl
@[simp] theorem live89_6 : G.live 89 6 = some ⟨[2], []⟩ := by kernel_rfl
@[simp] theorem plan89_1 : G.plan 89 1 = some [.n 0, .n 1, .n 2, .n 3, .n 4, .n 5, .n 6, .n 7, .e 8 [4, 0], .n 9, .n 10, .n 11, .n 12, .n 13, .n 14, .n 15] := by kernel_rfl
@[simp] theorem plan89_2 : G.plan 89 2 = some [.n 0, .n 1, .n 2, .n 3, .n 4, .n 5, .n 6, .n 7, .n 8, .n 9, .n 10, .e 11 [7, 3], .n 12, .n 13, .n 14, .n 15, .n 16, .n 17, .n 18, .n 19, .n 20, .n 21, .n 22, .e 23 [19, 18, 14, 9, 8, 7, 5, 4, 3, 1, 0], .n 24, .n 25] := by kernel_rfl
@[simp] theorem E90 : G.E 90 = true := by kernel_rfl
@[simp] theorem ext90 : G.ext 90 = none := by kernel_rfl
@[simp] theorem dfr90 : G.dfr 90 = false := by kernel_rfl
@[simp] theorem own90 : G.retOwn 90 = false := by kernel_rfl
@[simp] theorem live90_0 : G.live 90 0 = some ⟨[0, 1], []⟩ := by kernel_rfl
@[simp] theorem live90_1 : G.live 90 1 = some ⟨[0, 1], []⟩ := by kernel_rfl
@[simp] theorem live90_2 : G.live 90 2 = some ⟨[4], []⟩ := by kernel_rfl
@[simp] theorem E94 : G.E 94 = true := by kernel_rfl
@[simp] theorem ext94 : G.ext 94 = none := by kernel_rfl
@[simp] theorem dfr94 : G.dfr 94 = false := by kernel_rfl
@[simp] theorem own94 : G.retOwn 94 = false := by kernel_rfl
@[simp] theorem live94_0 : G.live 94 0 = some ⟨[0, 1], []⟩ := by kernel_rfl
@[simp] theorem live94_1 : G.live 94 1 = some ⟨[4], []⟩ := by kernel_rfl
@[simp] theorem E96 : G.E 96 = true := by kernel_rfl
@[simp] theorem ext96 : G.ext 96 = none := by kernel_rfl
@[simp] theorem dfr96 : G.dfr 96 = false := by kernel_rfl
@[simp] theorem own96 : G.retOwn 96 = false := by kernel_rfl
@[simp] theorem live96_0 : G.live 96 0 = some ⟨[0], []⟩ := by kernel_rfl
@[simp] theorem live96_1 : G.live 96 1 = some ⟨[2], []⟩ := by kernel_rfl
@[simp] theorem E97 : G.E 97 = true := by kernel_rfl
@[simp] theorem ext97 : G.ext 97 = none := by kernel_rfl
@[simp] theorem dfr97 : G.dfr 97 = false := by kernel_rfl
@[simp] theorem own97 : G.retOwn 97 = false := by kernel_rfl
@[simp] theorem keep97_5 : G.keep 97 5 = some ⟨[(0, none), (1, none), (5, none), (6, none), (7, none), (8, none), (9, none)], []⟩ := by kernel_rfl
@[simp] theorem keep97_11 : G.keep 97 11 = some ⟨[(0, none), (1, none), (5, none), (6, none), (7, none), (8, none), (10, none)], []⟩ := by kernel_rfl
@[simp] theorem live97_0 : G.live 97 0 = some ⟨[0, 1], []⟩ := by kernel_rfl
@[simp] theorem live97_1 : G.live 97 1 = some ⟨[0, 1, 5, 6], []⟩ := by kernel_rfl
@[simp] theorem live97_2 : G.live 97 2 = some ⟨[0, 1, 5, 6, 7], []⟩ := by kernel_rfl
@[simp] theorem live97_3 : G.live 97 3 = some ⟨[0, 1, 5, 6, 7, 8], []⟩ := by kernel_rfl
@[simp] theorem live97_4 : G.live 97 4 = some ⟨[0, 1, 5, 6, 7, 8, 9], []⟩ := by kernel_rfl
@[simp] theorem live97_5 : G.live 97 5 = some ⟨[0, 1, 5, 6, 7, 8, 9, 20], []⟩ := by kernel_rfl
@[simp] theorem live97_7 : G.live 97 7 = some ⟨[0, 1, 5, 6, 7, 8, 9], []⟩ := by kernel_rfl
@[simp] theorem live97_6 : G.live 97 6 = some ⟨[0, 1, 5, 6, 7, 8, 9], []⟩ := by kernel_rfl
@[simp] theorem live97_8 : G.live 97 8 = some ⟨[0, 1, 5, 6, 7, 8, 39], []⟩ := by kernel_rfl
@[simp] theorem live97_9 : G.live 97 9 = some ⟨[4], []⟩ := by kernel_rfl
@[simp] theorem live97_10 : G.live 97 10 = some ⟨[0, 1, 5, 6, 7, 8, 10], []⟩ := by kernel_rfl
@[simp] theorem live97_11 : G.live 97 11 = some ⟨[0, 1, 5, 6, 7, 8, 10, 44], []⟩ := by kernel_rfl
@[simp] theorem live97_12 : G.live 97 12 = some ⟨[0, 1, 5, 6, 7, 8, 10], []⟩ := by kernel_rfl
@[simp] theorem live97_13 : G.live 97 13 = some ⟨[0, 1, 5, 6, 7, 8, 10], []⟩ := by kernel_rfl
@[simp] theorem live97_14 : G.live 97 14 = some ⟨[0, 1, 5, 6, 7, 8, 10], []⟩ := by kernel_rfl
@[simp] theorem live97_15 : G.live 97 15 = some ⟨[0, 1, 5, 6, 7, 8, 10], []⟩ := by kernel_rfl
@[simp] theorem live97_16 : G.live 97 16 = some ⟨[0, 1, 5, 6, 7, 8, 10, 77], []⟩ := by kernel_rfl
@[simp] theorem live97_17 : G.live 97 17 = some ⟨[4], []⟩ := by kernel_rfl
@[simp] theorem live97_18 : G.live 97 18 = some ⟨[4], []⟩ := by kernel_rfl
@[simp] theorem E98 : G.E 98 = true := by kernel_rfl
@[simp] theorem ext98 : G.ext 98 = none := by kernel_rfl
@[simp] theorem dfr98 : G.dfr 98 = false := by kernel_rfl
@[simp] theorem own98 : G.retOwn 98 = false := by kernel_rfl
@[simp] theorem keep98_36 : G.keep 98 36 = some ⟨[(1, none), (8, none), (9, none), (10, none), (11, none), (12, none), (13, none), (99, none), (100, none), (101, none)], []⟩ := by kernel_rfl
@[simp] theorem live98_0 : G.live 98 0 = some ⟨[0, 1, 2], []⟩ := by kernel_rfl
@[simp] theorem live98_1 : G.live 98 1 = some ⟨[0, 1, 2, 19], []⟩ := by kernel_rfl
@[simp] theorem live98_2 : G.live 98 2 = some ⟨[6, 7], []⟩ := by kernel_rfl
@[simp] theorem live98_3 : G.live 98 3 = some ⟨[0, 1, 2, 8], []⟩ := by kernel_rfl
@[simp] theorem live98_4 : G.live 98 4 = some ⟨[0, 1, 2, 8, 9], []⟩ := by kernel_rfl
@[simp] theorem live98_6 : G.live 98 6 = some ⟨[0, 1, 2, 8, 9, 25], []⟩ := by kernel_rfl
@[simp] theorem live98_7 : G.live 98 7 = some ⟨[0, 2, 8, 9, 32], []⟩ := by kernel_rfl
@[simp] theorem live98_8 : G.live 98 8 = some ⟨[0, 1, 2, 8, 9], []⟩ := by kernel_rfl
@[simp] theorem live98_9 : G.live 98 9 = some ⟨[0, 1, 2, 8, 9, 37], []⟩ := by kernel_rfl
@[simp] theorem live98_12 : G.live 98 12 = some ⟨[0, 2, 8, 9, 40], []⟩ := by kernel_rfl
@[simp] theorem live98_13 : G.live 98 13 = some ⟨[0, 1, 2, 8, 9], []⟩ := by kernel_rfl
@[simp] theorem live98_14 : G.live 98 14 = some ⟨[0, 1, 2, 8, 9], []⟩ := by kernel_rfl
@[simp] theorem live98_15 : G.live 98 15 = some ⟨[0, 2, 8, 9, 52], []⟩ := by kernel_rfl
@[simp] theorem live98_16 : G.live 98 16 = some ⟨[0, 1, 2, 8, 9], []⟩ := by kernel_rfl
@[simp] theorem live98_17 : G.live 98 17 = some ⟨[0, 1, 2, 8, 9], []⟩ := by kernel_rfl
@[simp] theorem live98_18 : G.live 98 18 = some ⟨[0, 2, 8, 9, 64], []⟩ := by kernel_rfl
@[simp] theorem live98_19 : G.live 98 19 = some ⟨[0, 1, 2, 8, 9], []⟩ := by kernel_rfl
@[simp] theorem live98_20 : G.live 98 20 = some ⟨[0, 1, 2, 8, 9], []⟩ := by kernel_rfl
@[simp] theorem live98_10 : G.live 98 10 = some ⟨[0, 1, 2, 8, 9], []⟩ := by kernel_rfl
@[simp] theorem live98_11 : G.live 98 11 = some ⟨[0, 1, 2, 8, 9], []⟩ := by kernel_rfl
@[simp] theorem live98_5 : G.live 98 5 = some ⟨[6, 7], []⟩ := by kernel_rfl
@[simp] theorem live98_21 : G.live 98 21 = some ⟨[0, 1, 2, 8, 9, 77], []⟩ := by kernel_rfl
@[simp] theorem live98_22 : G.live 98 22 = some ⟨[0, 1, 2, 8, 9], []⟩ := by kernel_rfl
@[simp] theorem live98_23 : G.live 98 23 = some ⟨[0, 1, 2, 8, 9, 83], []⟩ := by kernel_rfl
@[simp] theorem live98_24 : G.live 98 24 = some ⟨[6, 7], []⟩ := by kernel_rfl
@[simp] theorem live98_25 : G.live 98 25 = some ⟨[0, 1, 2, 8, 9], []⟩ := by kernel_rfl
@[simp] theorem live98_26 : G.live 98 26 = some ⟨[0, 1, 2, 8, 9, 85], []⟩ := by kernel_rfl
@[simp] theorem live98_28 : G.live 98 28 = some ⟨[0, 1, 2, 8, 9, 85, 90], []⟩ := by kernel_rfl
@[simp] theorem live98_29 : G.live 98 29 = some ⟨[0, 1, 2, 8, 9, 10], []⟩ := by kernel_rfl
@[simp] theorem live98_30 : G.live 98 30 = some ⟨[0, 1, 2, 8, 9, 92], []⟩ := by kernel_rfl
@[simp] theorem live98_31 : G.live 98 31 = some ⟨[0, 1, 2, 8, 9, 10], []⟩ := by kernel_rfl
@[simp] theorem live98_27 : G.live 98 27 = some ⟨[0, 1, 2, 8, 9, 10], []⟩ := by kernel_rfl
@[simp] theorem live98_32 : G.live 98 32 = some ⟨[0, 1, 8, 9, 10, 11], []⟩ := by kernel_rfl
@[simp] theorem live98_33 : G.live 98 33 = some ⟨[0, 1, 8, 9, 10, 11, 12], []⟩ := by kernel_rfl
@[simp] theorem live98_34 : G.live 98 34 = some ⟨[0, 1, 8, 9, 10, 11, 12, 13], []⟩ := by kernel_rfl
@[simp] theorem live98_35 : G.live 98 35 = some ⟨[1, 8, 9, 10, 11, 12, 13, 99, 100, 101], []⟩ := by kernel_rfl
@[simp] theorem live98_36 : G.live 98 36 = some ⟨[1, 8, 9, 10, 11, 12, 13, 99, 100, 101, 102], []⟩ := by kernel_rfl
@[simp] theorem live98_37 : G.live 98 37 = some ⟨[1, 8, 9, 10, 11, 12, 13, 15, 99, 100, 101], []⟩ := by kernel_rfl
@[simp] theorem live98_38 : G.live 98 38 = some ⟨[1, 8, 9, 10, 11, 12, 13, 15, 99, 100, 101], []⟩ := by kernel_rfl
@[simp] theorem live98_40 : G.live 98 40 = some ⟨[1, 8, 9, 10, 11, 12, 13, 15, 99, 100, 101, 106], []⟩ := by kernel_rfl
@[simp] theorem live98_41 : G.live 98 41 = some ⟨[1, 8, 9, 10, 11, 12, 13, 99, 100, 101], []⟩ := by kernel_rfl
@[simp] theorem live98_42 : G.live 98 42 = some ⟨[1, 8, 9, 10, 11, 12, 13, 15, 99, 100, 101, 112], []⟩ := by kernel_rfl
@[simp] theorem live98_43 : G.live 98 43 = some ⟨[1, 8, 9, 10, 11, 12, 13, 16, 99, 100, 101], []⟩ := by kernel_rfl
@[simp] theorem live98_44 : G.live 98 44 = some ⟨[1, 8, 9, 10, 11, 12, 13, 15, 99, 100, 101, 121], []⟩ := by kernel_rfl
@[simp] theorem live98_45 : G.live 98 45 = some ⟨[1, 8, 9, 10, 11, 12, 13, 16, 99, 100, 101], []⟩ := by kernel_rfl
@[simp] theorem live98_39 : G.live 98 39 = some ⟨[6, 7], []⟩ := by kernel_rfl
@[simp] theorem live98_46 : G.live 98 46 = some ⟨[1, 8, 9, 10, 11, 12, 13, 16, 99, 100, 101, 137], []⟩ := by kernel_rfl
@[simp] theorem live98_47 : G.live 98 47 = some ⟨[6, 7], []⟩ := by kernel_rfl
@[simp] theorem live98_48 : G.live 98 48 = some ⟨[1, 8, 9, 10, 11, 12, 13, 16, 99, 100, 101, 141], []⟩ := by kernel_rfl
@[simp] theorem live98_49 : G.live 98 49 = some ⟨[6, 7], []⟩ := by kernel_rfl
@[simp] theorem live98_50 : G.live 98 50 = some ⟨[1, 8, 9, 10, 11, 12, 13, 16, 99, 100, 101], []⟩ := by kernel_rfl
@[simp] theorem live98_51 : G.live 98 51 = some ⟨[1, 8, 9, 10, 11, 12, 13, 17, 99, 100, 101], []⟩ := by kernel_rfl
@[simp] theorem live98_52 : G.live 98 52 = some ⟨[1, 8, 9, 10, 11, 12, 17, 99, 100, 101, 159], []⟩ := by kernel_rfl
@[simp] theorem live98_53 : G.live 98 53 = some ⟨[6, 7], []⟩ := by kernel_rfl
@[simp] theorem live98_54 : G.live 98 54 = some ⟨[1, 8, 9, 10, 11, 12, 13, 99, 100, 101], []⟩ := by kernel_rfl
@[simp] theorem live98_55 : G.live 98 55 = some ⟨[1, 8, 9, 10, 11, 12, 13, 99, 100, 101], []⟩ := by kernel_rfl
@[simp] theorem live98_56 : G.live 98 56 = some ⟨[13, 169], []⟩ := by kernel_rfl
@[simp] theorem live98_57 : G.live 98 57 = some ⟨[6, 7], []⟩ := by kernel_rfl
@[simp] theorem live98_58 : G.live 98 58 = some ⟨[6, 7], []⟩ := by kernel_rfl
@[simp] theorem E99 : G.E 99 = true := by kernel_rfl
@[simp] theorem ext99 : G.ext 99 = none := by kernel_rfl
@[simp] theorem dfr99 : G.dfr 99 = false := by kernel_rfl
@[simp] theorem own99 : G.retOwn 99 = false := by kernel_rfl
@[simp] theorem live99_0 : G.live 99 0 = some ⟨[0], []⟩ := by kernel_rfl
@[simp] theorem live99_1 : G.live 99 1 = some ⟨[0, 6], []⟩ := by kernel_rfl
@[simp] theorem live99_2 : G.live 99 2 = some ⟨[2], []⟩ := by kernel_rfl
@[simp] theorem live99_3 : G.live 99 3 = some ⟨[0, 3], []⟩ := by kernel_rfl
@[simp] theorem live99_4 : G.live 99 4 = some ⟨[3], []⟩ := by kernel_rfl
@[simp] theorem live99_5 : G.live 99 5 = some ⟨[2], []⟩ := by kernel_rfl
@[simp] theorem E100 : G.E 100 = true := by kernel_rfl
@[simp] theorem ext100 : G.ext 100 = none := by kernel_rfl
@[simp] theorem dfr100 : G.dfr 100 = false := by kernel_rfl
@[simp] theorem own100 : G.retOwn 100 = false := by kernel_rfl
@[simp] theorem live100_0 : G.live 100 0 = some ⟨[0], []⟩ := by kernel_rfl
@[simp] theorem live100_1 : G.live 100 1 = some ⟨[2], []⟩ := by kernel_rfl
@[simp] theorem E101 : G.E 101 = true := by kernel_rfl
@[simp] theorem ext101 : G.ext 101 = none := by kernel_rfl
@[simp] theorem dfr101 : G.dfr 101 = false := by kernel_rfl
@[simp] theorem own101 : G.retOwn 101 = false := by kernel_rfl
@[simp] theorem live101_0 : G.live 101 0 = some ⟨[0], []⟩ := by kernel_rfl
@[simp] theorem live101_1 : G.live 101 1 = some ⟨[0, 4], []⟩ := by kernel_rfl
@[simp] theorem live101_2 : G.live 101 2 = some ⟨[2], []⟩ := by kernel_rfl
@[simp] theorem live101_3 : G.live 101 3 = some ⟨[2], []⟩ := by kernel_rfl
@[simp] theorem E102 : G.E 102 = true := by kernel_rfl
@[simp] theorem ext102 : G.ext 102 = none := by kernel_rfl
@[simp] theorem dfr102 : G.dfr 102 = false := by kernel_rfl
@[simp] theorem own102 : G.retOwn 102 = false := by kernel_rfl
@[simp] theorem live102_0 : G.live 102 0 = some ⟨[0], []⟩ := by kernel_rfl
@[simp] theorem live102_1 : G.live 102 1 = some ⟨[0, 3], []⟩ := by kernel_rfl
@[simp] theorem live102_2 : G.live 102 2 = some ⟨[2], []⟩ := by kernel_rfl
@[simp] theorem E103 : G.E 103 = true := by kernel_rfl
@[simp] theorem ext103 : G.ext 103 = none := by kernel_rfl
@[simp] theorem dfr103 : G.dfr 103 = false := by kernel_rfl
@[simp] theorem own103 : G.retOwn 103 = false := by kernel_rfl
@[simp] theorem keep103_1 : G.keep 103 1 = some ⟨[(0, some (1, 5)), (1, none), (4, none)], []⟩ := by kernel_rfl
@[simp] theorem live103_0 : G.live 103 0 = some ⟨[0, 1, 4], []⟩ := by kernel_rfl
@[simp] theorem live103_1 : G.live 103 1 = some ⟨[0, 1, 4, 20], []⟩ := by kernel_rfl
@[simp] theorem live103_2 : G.live 103 2 = some ⟨[0, 1, 4, 5], []⟩ := by kernel_rfl
@[simp] theorem live103_3 : G.live 103 3 = some ⟨[0, 1, 4, 5], []⟩ := by kernel_rfl
@[simp] theorem live103_4 : G.live 103 4 = some ⟨[0, 1, 4, 6, 7], []⟩ := by kernel_rfl
@[simp] theorem live103_5 : G.live 103 5 = some ⟨[0, 1, 4, 6, 8, 9], []⟩ := by kernel_rfl
@[simp] theorem live103_6 : G.live 103 6 = some ⟨[0, 1, 4, 8, 9, 10, 11], []⟩ := by kernel_rfl
@[simp] theorem live103_7 : G.live 103 7 = some ⟨[0, 1, 4, 8, 10, 11], []⟩ := by kernel_rfl
@[simp] theorem live103_8 : G.live 103 8 = some ⟨[0, 1, 4, 10, 11], []⟩ := by kernel_rfl
@[simp] theorem live103_9 : G.live 103 9 = some ⟨[0, 1, 4, 10], []⟩ := by kernel_rfl
@[simp] theorem live103_10 : G.live 103 10 = some ⟨[0, 1, 4], []⟩ := by kernel_rfl
@[simp] theorem live103_11 : G.live 103 11 = some ⟨[0, 1, 4], []⟩ := by kernel_rfl
@[simp] theorem live103_12 : G.live 103 12 = some ⟨[0, 4, 12], []⟩ := by kernel_rfl
@[simp] theorem live103_13 : G.live 103 13 = some ⟨[0, 4, 12, 99], []⟩ := by kernel_rfl
@[simp] theorem live103_14 : G.live 103 14 = some ⟨[0, 4, 12, 13], []⟩ := by kernel_rfl
@[simp] theorem live103_15 : G.live 103 15 = some ⟨[0, 4, 12, 13], []⟩ := by kernel_rfl
@[simp] theorem live103_16 : G.live 103 16 = some ⟨[0, 4, 12, 14, 15], []⟩ := by kernel_rfl
@[simp] theorem live103_17 : G.live 103 17 = some ⟨[0, 4, 12, 14], []⟩ := by kernel_rfl
@[simp] theorem live103_18 : G.live 103 18 = some ⟨[0, 4, 12], []⟩ := by kernel_rfl
@[simp] theorem live103_19 : G.live 103 19 = some ⟨[0, 4, 12], []⟩ := by kernel_rfl
@[simp] theorem live103_20 : G.live 103 20 = some ⟨[0, 4, 12, 139], []⟩ := by kernel_rfl
@[simp] theorem live103_21 : G.live 103 21 = some ⟨[0, 4, 12, 16], []⟩ := by kernel_rfl
@[simp] theorem live103_22 : G.live 103 22 = some ⟨[0, 4, 12, 16], []⟩ := by kernel_rfl
@[simp] theorem live103_23 : G.live 103 23 = some ⟨[0, 4, 12], []⟩ := by kernel_rfl
@[simp] theorem live103_24 : G.live 103 24 = some ⟨[0, 4, 12], []⟩ := by kernel_rfl
@[simp] theorem live103_25 : G.live 103 25 = some ⟨[0, 12, 161], []⟩ := by kernel_rfl
@[simp] theorem live103_26 : G.live 103 26 = some ⟨[], []⟩ := by kernel_rfl
@[simp] theorem plan103_7 : G.plan 103 7 = some [.n 0, .n 1, .n 2, .n 3, .n 4, .n 5, .n 6, .n 7, .n 8, .n 9, .n 10, .n 11, .e 12 [10, 9, 5, 4, 3], .n 13, .e 14 []] := by kernel_rfl
@[simp] theorem plan103_8 : G.plan 103 8 = some [.n 0, .n 1, .n 2, .n 3, .n 4, .n 5, .n 6, .n 7, .n 8, .n 9, .n 10, .n 11, .e 12 [10, 9, 5, 4, 3], .n 13, .e 14 []] := by kernel_rfl
@[simp] theorem plan103_9 : G.plan 103 9 = some [.n 0, .n 1, .n 2, .n 3, .n 4, .n 5, .n 6, .n 7, .n 8, .n 9, .n 10, .n 11, .e 12 [10, 9, 5, 4, 3], .n 13, .e 14 []] := by kernel_rfl
@[simp] theorem plan103_10 : G.plan 103 10 = some [.n 0, .n 1, .n 2, .n 3, .n 4, .n 5, .n 6, .n 7, .n 8, .n 9, .n 10, .n 11, .e 12 [10, 9, 5, 4, 3], .n 13, .e 14 []] := by kernel_rfl
@[simp] theorem plan103_17 : G.plan 103 17 = some [.n 0, .n 1, .n 2, .n 3, .n 4, .n 5, .n 6, .n 7, .n 8, .n 9, .n 10, .n 11, .e 12 [10, 9, 5, 4, 3], .n 13, .e 14 []] := by kernel_rfl
@[simp] theorem plan103_18 : G.plan 103 18 = some [.n 0, .n 1, .n 2, .n 3, .n 4, .n 5, .n 6, .n 7, .n 8, .n 9, .n 10, .n 11, .e 12 [10, 9, 5, 4, 3], .n 13, .e 14 []] := by kernel_rfl
@[simp] theorem plan103_23 : G.plan 103 23 = some [.n 0, .n 1, .n 2, .n 3, .n 4, .n 5, .n 6, .n 7, .n 8, .n 9, .n 10, .n 11, .e 12 [10, 9, 5, 4, 3], .n 13, .e 14 []] := by kernel_rfl
@[simp] theorem E104 : G.E 104 = true := by kernel_rfl
@[simp] theorem ext104 : G.ext 104 = none := by kernel_rfl
@[simp] theorem dfr104 : G.dfr 104 = false := by kernel_rfl
@[simp] theorem own104 : G.retOwn 104 = false := by kernel_rfl
@[simp] theorem keep104_11 : G.keep 104 11 = some ⟨[(0, none), (1, none), (3, none), (4, none), (10, none), (11, none), (12, none), (13, none), (14, none), (15, none), (16, none)], [(1012, [])]⟩ := by kernel_rfl
@[simp] theorem keep104_18 : G.keep 104 18 = some ⟨[(0, none), (1, none), (3, none), (4, none), (10, none), (11, none), (12, none), (13, none), (17, none)], [(1012, [])]⟩ := by kernel_rfl
@[simp] theorem live104_0 : G.live 104 0 = some ⟨[0, 1, 2, 3, 4, 10, 11], []⟩ := by kernel_rfl
@[simp] theorem live104_1 : G.live 104 1 = some ⟨[0, 1, 2, 3, 4, 10, 11, 28], []⟩ := by kernel_rfl
@[simp] theorem live104_2 : G.live 104 2 = some ⟨[0, 1, 2, 3, 4, 10, 11], []⟩ := by kernel_rfl
@[simp] theorem live104_3 : G.live 104 3 = some ⟨[0, 1, 2, 3, 4, 10, 11, 12], []⟩ := by kernel_rfl
@[simp] theorem live104_4 : G.live 104 4 = some ⟨[0, 1, 2, 3, 4, 10, 11, 12, 13], []⟩ := by kernel_rfl
@[simp] theorem live104_5 : G.live 104 5 = some ⟨[0, 1, 2, 3, 4, 10, 11, 12, 13, 30], []⟩ := by kernel_rfl
@[simp] theorem live104_6 : G.live 104 6 = some ⟨[0, 1, 2, 3, 4, 10, 11, 12, 13], []⟩ := by kernel_rfl
@[simp] theorem live104_7 : G.live 104 7 = some ⟨[0, 1, 2, 3, 4, 10, 11, 12, 13, 34], []⟩ := by kernel_rfl
@[simp] theorem live104_8 : G.live 104 8 = some ⟨[0, 1, 2, 3, 4, 10, 11, 12, 13, 14], []⟩ := by kernel_rfl
@[simp] theorem live104_9 : G.live 104 9 = some ⟨[0, 1, 2, 3, 4, 10, 11, 12, 13, 14, 15], []⟩ := by kernel_rfl
@[simp] theorem live104_10 : G.live 104 10 = some ⟨[0, 1, 3, 4, 10, 11, 12, 13, 14, 15, 16], []⟩ := by kernel_rfl
@[simp] theorem live104_11 : G.live 104 11 = some ⟨[0, 1, 3, 4, 10, 11, 12, 13, 14, 15, 16, 46], []⟩ := by kernel_rfl
@[simp] theorem live104_12 : G.live 104 12 = some ⟨[0, 1, 3, 4, 10, 11, 12, 13, 14, 15, 16], []⟩ := by kernel_rfl
@[simp] theorem live104_13 : G.live 104 13 = some ⟨[0, 1, 3, 4, 10, 11, 12, 13, 14, 15, 16], []⟩ := by kernel_rfl
@[simp] theorem live104_14 : G.live 104 14 = some ⟨[0, 1, 3, 4, 10, 11, 12, 13, 14, 15, 16], []⟩ := by kernel_rfl
@[simp] theorem live104_15 : G.live 104 15 = some ⟨[0, 1, 3, 4, 10, 11, 12, 13], []⟩ := by kernel_rfl
@[simp] theorem live104_16 : G.live 104 16 = some ⟨[0, 3, 4, 10, 11, 12, 13], []⟩ := by kernel_rfl
@[simp] theorem live104_17 : G.live 104 17 = some ⟨[0, 1, 3, 4, 10, 11, 12, 13, 17], []⟩ := by kernel_rfl
@[simp] theorem live104_18 : G.live 104 18 = some ⟨[0, 1, 3, 4, 10, 11, 12, 13, 17, 68], []⟩ := by kernel_rfl
@[simp] theorem live104_19 : G.live 104 19 = some ⟨[0, 1, 3, 4, 10, 11, 12, 13, 17], []⟩ := by kernel_rfl
@[simp] theorem live104_20 : G.live 104 20 = some ⟨[0, 1, 3, 4, 10, 11, 12, 13, 17, 18], []⟩ := by kernel_rfl
@[simp] theorem live104_21 : G.live 104 21 = some ⟨[0, 3, 4, 10, 11, 12, 13, 17, 18], []⟩ := by kernel_rfl
@[simp] theorem live104_22 : G.live 104 22 = some ⟨[0, 1, 3, 4, 10, 11, 12, 13, 17], []⟩ := by kernel_rfl
@[simp] theorem live104_23 : G.live 104 23 = some ⟨[0, 1, 3, 4, 10, 11, 12, 13], []⟩ := by kernel_rfl
@[simp] theorem live104_24 : G.live 104 24 = some ⟨[0, 3, 4, 10, 11, 12, 13], []⟩ := by kernel_rfl
@[simp] theorem live104_25 : G.live 104 25 = some ⟨[0, 4, 10, 11, 12, 13, 89], []⟩ := by kernel_rfl
@[simp] theorem live104_26 : G.live 104 26 = some ⟨[0, 4, 10, 11, 12, 13], []⟩ := by kernel_rfl
@[simp] theorem live104_27 : G.live 104 27 = some ⟨[0, 4, 10, 11, 12, 13], []⟩ := by kernel_rfl
@[simp] theorem live104_28 : G.live 104 28 = some ⟨[0, 10, 11, 12, 13, 94], []⟩ := by kernel_rfl
@[simp] theorem live104_29 : G.live 104 29 = some ⟨[10, 11], []⟩ := by kernel_rfl
@[simp] theorem live104_30 : G.live 104 30 = some ⟨[10, 11], []⟩ := by kernel_rfl
@[simp] theorem E105 : G.E 105 = true := by kernel_rfl
@[simp] theorem ext105 : G.ext 105 = none := by kernel_rfl
@[simp] theorem dfr105 : G.dfr 105 = false := by kernel_rfl
@[simp] theorem own105 : G.retOwn 105 = false := by kernel_rfl
@[simp] theorem keep105_2 : G.keep 105 2 = some ⟨[(0, none), (1, none), (21, none), (22, none), (23, none)], []⟩ := by kernel_rfl
@[simp] theorem live105_0 : G.live 105 0 = some ⟨[0, 1, 2, 17], []⟩ := by kernel_rfl
@[simp] theorem live105_1 : G.live 105 1 = some ⟨[0, 1, 21, 22, 23], []⟩ := by kernel_rfl
@[simp] theorem live105_2 : G.live 105 2 = some ⟨[0, 1, 21, 22, 23, 24], []⟩ := by kernel_rfl
@[simp] theorem live105_3 : G.live 105 3 = some ⟨[0, 1, 5, 21, 22, 23], []⟩ := by kernel_rfl
@[simp] theorem live105_4 : G.live 105 4 = some ⟨[0, 1, 21, 22, 23, 36], []⟩ := by kernel_rfl
@[simp] theorem live105_5 : G.live 105 5 = some ⟨[0, 1, 21, 22, 23], []⟩ := by kernel_rfl
@[simp] theorem E106 : G.E 106 = true := by kernel_rfl
@[simp] theorem ext106 : G.ext 106 = none := by kernel_rfl
@[simp] theorem dfr106 : G.dfr 106 = false := by kernel_rfl
@[simp] theorem own106 : G.retOwn 106 = false := by kernel_rfl
@[simp] theorem live106_0 : G.live 106 0 = some ⟨[1, 2], []⟩ := by kernel_rfl
@[simp] theorem live106_1 : G.live 106 1 = some ⟨[2], []⟩ := by kernel_rfl
@[simp] theorem E107 : G.E 107 = true := by kernel_rfl
@[simp] theorem ext107 : G.ext 107 = none := by kernel_rfl
@[simp] theorem dfr107 : G.dfr 107 = false := by kernel_rfl
@[simp] theorem own107 : G.retOwn 107 = false := by kernel_rfl
@[simp] theorem keep107_2 : G.keep 107 2 = some ⟨[(0, none), (1, none), (2, none)], []⟩ := by kernel_rfl
@[simp] theorem live107_0 : G.live 107 0 = some ⟨[0, 1, 2], []⟩ := by kernel_rfl
@[simp] theorem live107_1 : G.live 107 1 = some ⟨[0, 1, 2, 15], []⟩ := by kernel_rfl
@[simp] theorem live107_2 : G.live 107 2 = some ⟨[0, 1, 2], []⟩ := by kernel_rfl
@[simp] theorem live107_3 : G.live 107 3 = some ⟨[0, 1, 2, 20], []⟩ := by kernel_rfl
@[simp] theorem live107_4 : G.live 107 4 = some ⟨[0, 1, 2], []⟩ := by kernel_rfl
@[simp] theorem E108 : G.E 108 = true := by kernel_rfl
@[simp] theorem ext108 : G.ext 108 = none := by kernel_rfl
@[simp] theorem dfr108 : G.dfr 108 = false := by kernel_rfl
@[simp] theorem own108 : G.retOwn 108 = false := by kernel_rfl
@[simp] theorem live108_0 : G.live 108 0 = some ⟨[0], []⟩ := by kernel_rfl
@[simp] theorem live108_1 : G.live 108 1 = some ⟨[], []⟩ := by kernel_rfl
@[simp] theorem plan108_0 : G.plan 108 0 = some [.n 0, .n 1, .e 2 [0], .e 3 [], .e 4 []] := by kernel_rfl
@[simp] theorem E109 : G.E 109 = true := by kernel_rfl
@[simp] theorem ext109 : G.ext 109 = none := by kernel_rfl
@[simp] theorem dfr109 : G.dfr 109 = false := by kernel_rfl
@[simp] theorem own109 : G.retOwn 109 = false := by kernel_rfl
@[simp] theorem live109_0 : G.live 109 0 = some ⟨[0, 1], []⟩ := by kernel_rfl
@[simp] theorem live109_1 : G.live 109 1 = some ⟨[0, 1, 2], []⟩ := by kernel_rfl
@[simp] theorem live109_2 : G.live 109 2 = some ⟨[0, 1, 2, 3], []⟩ := by kernel_rfl
@[simp] theorem live109_3 : G.live 109 3 = some ⟨[0, 1, 2, 3, 5], []⟩ := by kernel_rfl
@[simp] theorem live109_4 : G.live 109 4 = some ⟨[0, 1, 2, 3, 38], []⟩ := by kernel_rfl
@[simp] theorem live109_5 : G.live 109 5 = some ⟨[0, 1, 3], []⟩ := by kernel_rfl
@[simp] theorem live109_6 : G.live 109 6 = some ⟨[0, 1, 3], []⟩ := by kernel_rfl
@[simp] theorem live109_7 : G.live 109 7 = some ⟨[], []⟩ := by kernel_rfl
@[simp] theorem plan109_6 : G.plan 109 6 = some [.n 0, .n 1, .e 2 [0], .e 3 []] := by kernel_rfl
@[simp] theorem plan109_7 : G.plan 109 7 = some [.n 0, .n 1, .n 2, .e 3 [1, 0], .e 4 []] := by kernel_rfl
@[simp] theorem E110 : G.E 110 = true := by kernel_rfl
@[simp] theorem ext110 : G.ext 110 = none := by kernel_rfl
@[simp] theorem dfr110 : G.dfr 110 = false := by kernel_rfl
@[simp] theorem own110 : G.retOwn 110 = false := by kernel_rfl
@[simp] theorem live110_0 : G.live 110 0 = some ⟨[0, 1], []⟩ := by kernel_rfl
@[simp] theorem live110_1 : G.live 110 1 = some ⟨[0, 20], []⟩ := by kernel_rfl
@[simp] theorem live110_2 : G.live 110 2 = some ⟨[4], []⟩ := by kernel_rfl
@[simp] theorem live110_3 : G.live 110 3 = some ⟨[], []⟩ := by kernel_rfl
@[simp] theorem live110_4 : G.live 110 4 = some ⟨[4], []⟩ := by kernel_rfl
@[simp] theorem plan110_1 : G.plan 110 1 = some [.n 0, .n 2, .e 1 [2], .n 3, .n 4, .n 5, .n 6, .n 7, .n 8, .n 9, .n 10, .n 11, .n 12, .n 13, .n 14, .n 15] := by kernel_rfl
@[simp] theorem E111 : G.E 111 = true := by kernel_rfl
@[simp] theorem ext111 : G.ext 111 = none := by kernel_rfl
@[simp] theorem dfr111 : G.dfr 111 = false := by kernel_rfl
@[simp] theorem own111 : G.retOwn 111 = false := by kernel_rfl
@[simp] theorem keep111_3 : G.keep 111 3 = some ⟨[(0, none), (3, some (4, 54)), (4, none), (5, none)], []⟩ := by kernel_rfl
@[simp] theorem keep111_7 : G.keep 111 7 = some ⟨[(0, none), (3, some (4, 54)), (4, none), (5, none), (6, none), (7, none), (20, none)], []⟩ := by kernel_rfl
@[simp] theorem live111_0 : G.live 111 0 = some ⟨[0], []⟩ := by kernel_rfl
@[simp] theorem live111_1 : G.live 111 1 = some ⟨[0, 3], []⟩ := by kernel_rfl
@[simp] theorem live111_2 : G.live 111 2 = some ⟨[0, 3, 4, 5], []⟩ := by kernel_rfl
@[simp] theorem live111_3 : G.live 111 3 = some ⟨[0, 3, 4, 5, 16], []⟩ := by kernel_rfl
@[simp] theorem live111_5 : G.live 111 5 = some ⟨[0, 3, 4, 5, 6, 7], []⟩ := by kernel_rfl
@[simp] theorem live111_6 : G.live 111 6 = some ⟨[0, 3, 4, 5, 6, 7, 20], []⟩ := by kernel_rfl
@[simp] theorem live111_7 : G.live 111 7 = some ⟨[0, 3, 4, 5, 6, 7, 20, 22], []⟩ := by kernel_rfl
@[simp] theorem live111_8 : G.live 111 8 = some ⟨[0, 3, 4, 5, 6, 7, 8, 20], []⟩ := by kernel_rfl
@[simp] theorem live111_9 : G.live 111 9 = some ⟨[0, 3, 4, 5, 6, 7, 8, 20, 42], []⟩ := by kernel_rfl
@[simp] theorem live111_10 : G.live 111 10 = some ⟨[0, 3, 4, 5, 6, 7, 20], []⟩ := by kernel_rfl
@[simp] theorem live111_11 : G.live 111 11 = some ⟨[0, 3, 5, 6], []⟩ := by kernel_rfl
@[simp] theorem live111_12 : G.live 111 12 = some ⟨[0, 3, 5, 6], []⟩ := by kernel_rfl
@[simp] theorem live111_13 : G.live 111 13 = some ⟨[0, 3, 4, 5], []⟩ := by kernel_rfl
@[simp] theorem live111_4 : G.live 111 4 = some ⟨[0, 3, 4, 5], []⟩ := by kernel_rfl
@[simp] theorem live111_14 : G.live 111 14 = some ⟨[2], []⟩ := by kernel_rfl
@[simp] theorem E112 : G.E 112 = true := by kernel_rfl
@[simp] theorem ext112 : G.ext 112 = none := by kernel_rfl
@[simp] theorem dfr112 : G.dfr 112 = false := by kernel_rfl
@[simp] theorem own112 : G.retOwn 112 = false := by kernel_rfl
@[simp] theorem live112_0 : G.live 112 0 = some ⟨[0, 1, 2], []⟩ := by kernel_rfl
@[simp] theorem live112_1 : G.live 112 1 = some ⟨[6], []⟩ := by kernel_rfl
@[simp] theorem E113 : G.E 113 = true := by kernel_rfl
@[simp] theorem ext113 : G.ext 113 = none := by kernel_rfl
@[simp] theorem dfr113 : G.dfr 113 = false := by kernel_rfl
@[simp] theorem own113 : G.retOwn 113 = false := by kernel_rfl
@[simp] theorem keep113_5 : G.keep 113 5 = some ⟨[(0, none), (1, none), (7, some (1, 5)), (8, none)], []⟩ := by kernel_rfl
@[simp] theorem live113_0 : G.live 113 0 = some ⟨[0, 1], []⟩ := by kernel_rfl
@[simp] theorem live113_1 : G.live 113 1 = some ⟨[0, 1, 16], []⟩ := by kernel_rfl
@[simp] theorem live113_2 : G.live 113 2 = some ⟨[4, 5, 6], []⟩ := by kernel_rfl
@[simp] theorem live113_3 : G.live 113 3 = some ⟨[0, 1, 7], []⟩ := by kernel_rfl
@[simp] theorem live113_4 : G.live 113 4 = some ⟨[0, 1, 7, 8], []⟩ := by kernel_rfl
@[simp] theorem live113_5 : G.live 113 5 = some ⟨[0, 1, 7, 8, 23], []⟩ := by kernel_rfl
@[simp] theorem live113_7 : G.live 113 7 = some ⟨[0, 1, 7, 8, 9], []⟩ := by kernel_rfl
@[simp] theorem live113_9 : G.live 113 9 = some ⟨[0, 1, 7, 8, 9, 33], []⟩ := by kernel_rfl
@[simp] theorem live113_10 : G.live 113 10 = some ⟨[4, 5, 6], []⟩ := by kernel_rfl
@[simp] theorem live113_11 : G.live 113 11 = some ⟨[0, 1, 7, 8, 9, 40], []⟩ := by kernel_rfl
@[simp] theorem live113_12 : G.live 113 12 = some ⟨[4, 5, 6], []⟩ := by kernel_rfl
@[simp] theorem live113_13 : G.live 113 13 = some ⟨[0, 1, 7, 8, 9, 48], []⟩ := by kernel_rfl
@[simp] theorem live113_14 : G.live 113 14 = some ⟨[0, 1, 7, 8, 10, 11, 12], []⟩ := by kernel_rfl
@[simp] theorem live113_15 : G.live 113 15 = some ⟨[0, 1, 7, 8, 10, 11, 61], []⟩ := by kernel_rfl
@[simp] theorem live113_16 : G.live 113 16 = some ⟨[4, 5, 6], []⟩ := by kernel_rfl
@[simp] theorem live113_17 : G.live 113 17 = some ⟨[0, 1, 7, 8, 11], []⟩ := by kernel_rfl
@[simp] theorem live113_18 : G.live 113 18 = some ⟨[0, 1, 7, 8], []⟩ := by kernel_rfl
@[simp] theorem live113_8 : G.live 113 8 = some ⟨[0, 1, 7, 8], []⟩ := by kernel_rfl
@[simp] theorem live113_6 : G.live 113 6 = some ⟨[0, 1, 7, 8], []⟩ := by kernel_rfl
@[simp] theorem live113_19 : G.live 113 19 = some ⟨[4, 5, 6], []⟩ := by kernel_rfl
@[simp] theorem E114 : G.E 114 = true := by kernel_rfl
@[simp] theorem ext114 : G.ext 114 = none := by kernel_rfl
@[simp] theorem dfr114 : G.dfr 114 = false := by kernel_rfl
@[simp] theorem own114 : G.retOwn 114 = false := by kernel_rfl
@[simp] theorem keep114_8 : G.keep 114 8 = some ⟨[(0, none), (1, none), (7, none)], []⟩ := by kernel_rfl
@[simp] theorem live114_0 : G.live 114 0 = some ⟨[0, 1], []⟩ := by kernel_rfl
@[simp] theorem live114_1 : G.live 114 1 = some ⟨[0, 1, 7], []⟩ := by kernel_rfl
@[simp] theorem live114_2 : G.live 114 2 = some ⟨[0, 1, 7, 13], []⟩ := by kernel_rfl
@[simp] theorem live114_3 : G.live 114 3 = some ⟨[0, 1, 7], []⟩ := by kernel_rfl
@[simp] theorem live114_4 : G.live 114 4 = some ⟨[0, 1, 7, 16], []⟩ := by kernel_rfl
@[simp] theorem live114_5 : G.live 114 5 = some ⟨[4, 5, 6], []⟩ := by kernel_rfl
@[simp] theorem live114_6 : G.live 114 6 = some ⟨[0, 1, 7, 22], []⟩ := by kernel_rfl
@[simp] theorem live114_7 : G.live 114 7 = some ⟨[4, 5, 6], []⟩ := by kernel_rfl
@[simp] theorem live114_8 : G.live 114 8 = some ⟨[0, 1, 7, 30], []⟩ := by kernel_rfl
@[simp] theorem live114_9 : G.live 114 9 = some ⟨[0, 1, 7], []⟩ := by kernel_rfl
@[simp] theorem live114_10 : G.live 114 10 = some ⟨[1, 7, 8, 9], []⟩ := by kernel_rfl
@[simp] theorem live114_11 : G.live 114 11 = some ⟨[1, 7, 8, 42], []⟩ := by kernel_rfl
@[simp] theorem live114_12 : G.live 114 12 = some ⟨[4, 5, 6], []⟩ := by kernel_rfl
@[simp] theorem live114_13 : G.live 114 13 = some ⟨[4, 5, 6], []⟩ := by kernel_rfl
@[simp] theorem E115 : G.E 115 = true := by kernel_rfl
@[simp] theorem ext115 : G.ext 115 = none := by kernel_rfl
@[simp] theorem dfr115 : G.dfr 115 = false := by kernel_rfl
@[simp] theorem own115 : G.retOwn 115 = false := by kernel_rfl
@[simp] theorem live115_0 : G.live 115 0 = some ⟨[0, 1], []⟩ := by kernel_rfl
@[simp] theorem live115_1 : G.live 115 1 = some ⟨[0, 1, 12], []⟩ := by kernel_rfl
@[simp] theorem live115_2 : G.live 115 2 = some ⟨[4], []⟩ := by kernel_rfl
@[simp] theorem live115_3 : G.live 115 3 = some ⟨[0, 1, 21], []⟩ := by kernel_rfl
@[simp] theorem live115_4 : G.live 115 4 = some ⟨[4], []⟩ := by kernel_rfl
@[simp] theorem live115_5 : G.live 115 5 = some ⟨[0, 1, 5, 6], []⟩ := by kernel_rfl
@[simp] theorem live115_6 : G.live 115 6 = some ⟨[0, 1, 5, 31], []⟩ := by kernel_rfl
@[simp] theorem live115_7 : G.live 115 7 = some ⟨[4], []⟩ := by kernel_rfl
@[simp] theorem live115_8 : G.live 115 8 = some ⟨[4], []⟩ := by kernel_rfl
@[simp] theorem E117 : G.E 117 = true := by kernel_rfl
@[simp] theorem ext117 : G.ext 117 = none := by kernel_rfl
@[simp] theorem dfr117 : G.dfr 117 = false := by kernel_rfl
@[simp] theorem own117 : G.retOwn 117 = false := by kernel_rfl
@[simp] theorem keep117_3 : G.keep 117 3 = some ⟨[(0, none), (4, none), (5, none)], []⟩ := by kernel_rfl
@[simp] theorem keep117_8 : G.keep 117 8 = some ⟨[(4, none), (6, none), (7, none), (8, none)], []⟩ := by kernel_rfl
@[simp] theorem live117_0 : G.live 117 0 = some ⟨[0], []⟩ := by kernel_rfl
@[simp] theorem live117_1 : G.live 117 1 = some ⟨[0, 4], []⟩ := by kernel_rfl
@[simp] theorem live117_2 : G.live 117 2 = some ⟨[0, 4, 5], []⟩ := by kernel_rfl
@[simp] theorem live117_3 : G.live 117 3 = some ⟨[0, 4, 5, 12], []⟩ := by kernel_rfl
@[simp] theorem live117_5 : G.live 117 5 = some ⟨[0, 4, 5], []⟩ := by kernel_rfl
@[simp] theorem live117_4 : G.live 117 4 = some ⟨[0, 4, 5], []⟩ := by kernel_rfl
@[simp] theorem live117_6 : G.live 117 6 = some ⟨[0, 4, 6, 7], []⟩ := by kernel_rfl
@[simp] theorem live117_7 : G.live 117 7 = some ⟨[4, 6, 7, 8], []⟩ := by kernel_rfl
@[simp] theorem live117_8 : G.live 117 8 = some ⟨[4, 6, 7, 8, 25], []⟩ := by kernel_rfl
@[simp] theorem live117_10 : G.live 117 10 = some ⟨[4, 6, 7, 8, 30], []⟩ := by kernel_rfl
@[simp] theorem live117_11 : G.live 117 11 = some ⟨[4, 6, 7, 8], []⟩ := by kernel_rfl
@[simp] theorem live117_12 : G.live 117 12 = some ⟨[4, 6, 7, 8], []⟩ := by kernel_rfl
@[simp] theorem live117_9 : G.live 117 9 = some ⟨[4, 6, 7, 8], []⟩ := by kernel_rfl
@[simp] theorem live117_13 : G.live 117 13 = some ⟨[2, 3], []⟩ := by kernel_rfl
@[simp] theorem E118 : G.E 118 = true := by kernel_rfl
@[simp] theorem ext118 : G.ext 118 = none := by kernel_rfl
@[simp] theorem dfr118 : G.dfr 118 = false := by kernel_rfl
@[simp] theorem own118 : G.retOwn 118 = false := by kernel_rfl
@[simp] theorem live118_0 : G.live 118 0 = some ⟨[0], []⟩ := by kernel_rfl
@[simp] theorem live118_1 : G.live 118 1 = some ⟨[2], []⟩ := by kernel_rfl
@[simp] theorem E119 : G.E 119 = true := by kernel_rfl
@[simp] theorem ext119 : G.ext 119 = none := by kernel_rfl
@[simp] theorem dfr119 : G.dfr 119 = false := by kernel_rfl
@[simp] theorem own119 : G.retOwn 119 = false := by kernel_rfl
@[simp] theorem keep119_10 : G.keep 119 10 = some ⟨[(0, none), (3, none), (4, none), (5, none)], []⟩ := by kernel_rfl
@[simp] theorem live119_0 : G.live 119 0 = some ⟨[0], []⟩ := by kernel_rfl
@[simp] theorem live119_1 : G.live 119 1 = some ⟨[0, 3], []⟩ := by kernel_rfl
@[simp] theorem live119_2 : G.live 119 2 = some ⟨[0, 3, 4], []⟩ := by kernel_rfl
@[simp] theorem live119_3 : G.live 119 3 = some ⟨[0, 3, 4, 18], []⟩ := by kernel_rfl
@[simp] theorem live119_4 : G.live 119 4 = some ⟨[0, 3, 4], []⟩ := by kernel_rfl
@[simp] theorem live119_5 : G.live 119 5 = some ⟨[0, 3, 4, 5], []⟩ := by kernel_rfl
@[simp] theorem live119_6 : G.live 119 6 = some ⟨[0, 3, 4, 5, 46], []⟩ := by kernel_rfl
@[simp] theorem live119_7 : G.live 119 7 = some ⟨[0, 4], []⟩ := by kernel_rfl
@[simp] theorem live119_8 : G.live 119 8 = some ⟨[0, 3, 4], []⟩ := by kernel_rfl
@[simp] theorem live119_9 : G.live 119 9 = some ⟨[0, 3, 4, 5], []⟩ := by kernel_rfl
@[simp] theorem live119_10 : G.live 119 10 = some ⟨[0, 3, 4, 5, 54], []⟩ := by kernel_rfl
@[simp] theorem live119_12 : G.live 119 12 = some ⟨[0, 3, 4, 5, 83], []⟩ := by kernel_rfl
@[simp] theorem live119_13 : G.live 119 13 = some ⟨[0, 3, 4, 5], []⟩ := by kernel_rfl
@[simp] theorem live119_14 : G.live 119 14 = some ⟨[0, 3, 4, 5, 87], []⟩ := by kernel_rfl
@[simp] theorem live119_15 : G.live 119 15 = some ⟨[0, 4, 5, 89], []⟩ := by kernel_rfl
@[simp] theorem live119_16 : G.live 119 16 = some ⟨[2], []⟩ := by kernel_rfl
@[simp] theorem live119_17 : G.live 119 17 = some ⟨[0, 3, 4, 5], []⟩ := by kernel_rfl
@[simp] theorem live119_18 : G.live 119 18 = some ⟨[0, 4, 5, 91], []⟩ := by kernel_rfl
@[simp] theorem live119_19 : G.live 119 19 = some ⟨[2], []⟩ := by kernel_rfl
@[simp] theorem live119_20 : G.live 119 20 = some ⟨[0, 3, 4, 5], []⟩ := by kernel_rfl
@[simp] theorem live119_11 : G.live 119 11 = some ⟨[0, 3, 4, 5], []⟩ := by kernel_rfl
@[simp] theorem live119_21 : G.live 119 21 = some ⟨[2], []⟩ := by kernel_rfl
@[simp] theorem E120 : G.E 120 = true := by kernel_rfl
@[simp] theorem ext120 : G.ext 120 = none := by kernel_rfl
@[simp] theorem dfr120 : G.dfr 120 = false := by kernel_rfl
@[simp] theorem own120 : G.retOwn 120 = false := by kernel_rfl
@[simp] theorem live120_0 : G.live 120 0 = some ⟨[0], []⟩ := by kernel_rfl
@[simp] theorem live120_1 : G.live 120 1 = some ⟨[2], []⟩ := by kernel_rfl
@[simp] theorem E121 : G.E 121 = true := by kernel_rfl
@[simp] theorem ext121 : G.ext 121 = none := by kernel_rfl
@[simp] theorem dfr121 : G.dfr 121 = false := by kernel_rfl
@[simp] theorem own121 : G.retOwn 121 = false := by kernel_rfl
@[simp] theorem live121_0 : G.live 121 0 = some ⟨[0, 2], []⟩ := by kernel_rfl
@[simp] theorem live121_1 : G.live 121 1 = some ⟨[0, 2, 4], []⟩ := by kernel_rfl
@[simp] theorem live121_2 : G.live 121 2 = some ⟨[0], []⟩ := by kernel_rfl
@[simp] theorem live121_3 : G.live 121 3 = some ⟨[0, 2], []⟩ := by kernel_rfl
@[simp] theorem live121_4 : G.live 121 4 = some ⟨[0, 2, 8], []⟩ := by kernel_rfl
@[simp] theorem live121_5 : G.live 121 5 = some ⟨[0, 2], []⟩ := by kernel_rfl
@[simp] theorem live121_6 : G.live 121 6 = some ⟨[0, 2], []⟩ := by kernel_rfl
@[simp] theorem live121_7 : G.live 121 7 = some ⟨[0, 2, 14], []⟩ := by kernel_rfl
@[simp] theorem live121_8 : G.live 121 8 = some ⟨[0, 2], []⟩ := by kernel_rfl
@[simp] theorem live121_9 : G.live 121 9 = some ⟨[0, 2], []⟩ := by kernel_rfl
@[simp] theorem live121_10 : G.live 121 10 = some ⟨[2], []⟩ := by kernel_rfl
@[simp] theorem E122 : G.E 122 = true := by kernel_rfl
@[simp] theorem ext122 : G.ext 122 = none := by kernel_rfl
@[simp] theorem dfr122 : G.dfr 122 = false := by kernel_rfl
@[simp] theorem own122 : G.retOwn 122 = false := by kernel_rfl
@[simp] theorem live122_0 : G.live 122 0 = some ⟨[0], []⟩ := by kernel_rfl
@[simp] theorem live122_1 : G.live 122 1 = some ⟨[3], []⟩ := by kernel_rfl
@[simp] theorem live122_2 : G.live 122 2 = some ⟨[2], []⟩ := by kernel_rfl
@[simp] theorem live122_3 : G.live 122 3 = some ⟨[2], []⟩ := by kernel_rfl
@[simp] theorem E123 : G.E 123 = true := by kernel_rfl
@[simp] theorem ext123 : G.ext 123 = none := by kernel_rfl
@[simp] theorem dfr123 : G.dfr 123 = false := by kernel_rfl
@[simp] theorem own123 : G.retOwn 123 = false := by kernel_rfl
@[simp] theorem live123_0 : G.live 123 0 = some ⟨[0], []⟩ := by kernel_rfl
@[simp] theorem live123_1 : G.live 123 1 = some ⟨[2], []⟩ := by kernel_rfl
@[simp] theorem E124 : G.E 124 = true := by kernel_rfl
@[simp] theorem ext124 : G.ext 124 = none := by kernel_rfl
@[simp] theorem dfr124 : G.dfr 124 = false := by kernel_rfl
@[simp] theorem own124 : G.retOwn 124 = false := by kernel_rfl
@[simp] theorem live124_0 : G.live 124 0 = some ⟨[0], []⟩ := by kernel_rfl
@[simp] theorem live124_1 : G.live 124 1 = some ⟨[2], []⟩ := by kernel_rfl
@[simp] theorem live124_2 : G.live 124 2 = some ⟨[2], []⟩ := by kernel_rfl
@[simp] theorem E125 : G.E 125 = true := by kernel_rfl
@[simp] theorem ext125 : G.ext 125 = none := by kernel_rfl
@[simp] theorem dfr125 : G.dfr 125 = false := by kernel_rfl
@[simp] theorem own125 : G.retOwn 125 = false := by kernel_rfl
@[simp] theorem live125_0 : G.live 125 0 = some ⟨[0, 1], []⟩ := by kernel_rfl
@[simp] theorem live125_1 : G.live 125 1 = some ⟨[4], []⟩ := by kernel_rfl
@[simp] theorem E126 : G.E 126 = true := by kernel_rfl
@[simp] theorem ext126 : G.ext 126 = none := by kernel_rfl
@[simp] theorem dfr126 : G.dfr 126 = false := by kernel_rfl
@[simp] theorem own126 : G.retOwn 126 = false := by kernel_rfl
@[simp] theorem live126_0 : G.live 126 0 = some ⟨[0], []⟩ := by kernel_rfl
@[simp] theorem live126_1 : G.live 126 1 = some ⟨[0, 10], []⟩ := by kernel_rfl
@[simp] theorem live126_2 : G.live 126 2 = some ⟨[2, 3, 4], []⟩ := by kernel_rfl
@[simp] theorem live126_3 : G.live 126 3 = some ⟨[0, 5, 6], []⟩ := by kernel_rfl
@[simp] theorem live126_4 : G.live 126 4 = some ⟨[0, 5, 18], []⟩ := by kernel_rfl
@[simp] theorem live126_5 : G.live 126 5 = some ⟨[2, 3, 4], []⟩ := by kernel_rfl
@[simp] theorem live126_6 : G.live 126 6 = some ⟨[0, 27], []⟩ := by kernel_rfl
@[simp] theorem live126_7 : G.live 126 7 = some ⟨[2, 3, 4], []⟩ := by kernel_rfl
@[simp] theorem live126_8 : G.live 126 8 = some ⟨[7, 8], []⟩ := by kernel_rfl
@[simp] theorem live126_9 : G.live 126 9 = some ⟨[2, 3, 4], []⟩ := by kernel_rfl
@[simp] theorem plan126_3 : G.plan 126 3 = some [.n 0, .n 1, .n 2, .e 3 [], .n 4, .n 5, .n 6, .n 7, .n 8] := by kernel_rfl
@[simp] theorem plan126_9 : G.plan 126 9 = some [.n 0, .n 1, .n 2, .n 3, .n 4, .n 5, .n 6] := by kernel_rfl
@[simp] theorem E127 : G.E 127 = true := by kernel_rfl
@[simp] theorem ext127 : G.ext 127 = none := by kernel_rfl
@[simp] theorem dfr127 : G.dfr 127 = false := by kernel_rfl
@[simp] theorem own127 : G.retOwn 127 = false := by kernel_rfl
@[simp] theorem live127_0 : G.live 127 0 = some ⟨[0, 1, 2], []⟩ := by kernel_rfl
@[simp] theorem live127_1 : G.live 127 1 = some ⟨[0, 1, 2, 7, 8], []⟩ := by kernel_rfl
@[simp] theorem live127_2 : G.live 127 2 = some ⟨[0, 1, 2, 7, 8, 17], []⟩ := by kernel_rfl
@[simp] theorem live127_3 : G.live 127 3 = some ⟨[6, 7], []⟩ := by kernel_rfl
@[simp] theorem live127_4 : G.live 127 4 = some ⟨[6, 7], []⟩ := by kernel_rfl
@[simp] theorem E128 : G.E 128 = true := by kernel_rfl
@[simp] theorem ext128 : G.ext 128 = none := by kernel_rfl
@[simp] theorem dfr128 : G.dfr 128 = false := by kernel_rfl
@[simp] theorem own128 : G.retOwn 128 = false := by kernel_rfl
@[simp] theorem keep128_1 : G.keep 128 1 = some ⟨[(0, none), (1, none)], []⟩ := by kernel_rfl
@[simp] theorem live128_0 : G.live 128 0 = some ⟨[0, 1], []⟩ := by kernel_rfl
@[simp] theorem live128_1 : G.live 128 1 = some ⟨[0, 1, 13], []⟩ := by kernel_rfl
@[simp] theorem live128_2 : G.live 128 2 = some ⟨[0, 1], []⟩ := by kernel_rfl
@[simp] theorem live128_3 : G.live 128 3 = some ⟨[4], []⟩ := by kernel_rfl
@[simp] theorem E129 : G.E 129 = true := by kernel_rfl
@[simp] theorem ext129 : G.ext 129 = none := by kernel_rfl
@[simp] theorem dfr129 : G.dfr 129 = false := by kernel_rfl
@[simp] theorem own129 : G.retOwn 129 = false := by kernel_rfl
@[simp] theorem keep129_2 : G.keep 129 2 = some ⟨[(0, none), (2, none), (4, none)], [(1002, [])]⟩ := by kernel_rfl
@[simp] theorem live129_0 : G.live 129 0 = some ⟨[0, 2], []⟩ := by kernel_rfl
@[simp] theorem live129_1 : G.live 129 1 = some ⟨[0, 2, 4], []⟩ := by kernel_rfl
@[simp] theorem live129_2 : G.live 129 2 = some ⟨[0, 2, 4, 9], []⟩ := by kernel_rfl
@[simp] theorem live129_4 : G.live 129 4 = some ⟨[0, 2, 4, 5], []⟩ := by kernel_rfl
@[simp] theorem live129_5 : G.live 129 5 = some ⟨[0, 2, 4, 5, 16], []⟩ := by kernel_rfl
@[simp] theorem live129_6 : G.live 129 6 = some ⟨[2, 3], []⟩ := by kernel_rfl
@[simp] theorem live129_7 : G.live 129 7 = some ⟨[0, 2, 4], []⟩ := by kernel_rfl
@[simp] theorem live129_3 : G.live 129 3 = some ⟨[0, 2, 4], []⟩ := by kernel_rfl
@[simp] theorem live129_8 : G.live 129 8 = some ⟨[2, 3], []⟩ := by kernel_rfl
@[simp] theorem E130 : G.E 130 = true := by kernel_rfl
@[simp] theorem ext130 : G.ext 130 = none := by kernel_rfl
@[simp] theorem dfr130 : G.dfr 130 = false := by kernel_rfl
@[simp] theorem own130 : G.retOwn 130 = false := by kernel_rfl
@[simp] theorem keep130_1 : G.keep 130 1 = some ⟨[(0, none), (1, none)], []⟩ := by kernel_rfl
@[simp] theorem live130_0 : G.live 130 0 = some ⟨[0, 1], []⟩ := by kernel_rfl
@[simp] theorem live130_1 : G.live 130 1 = some ⟨[0, 1, 7], []⟩ := by kernel_rfl
@[simp] theorem live130_2 : G.live 130 2 = some ⟨[0, 1, 12], []⟩ := by kernel_rfl
@[simp] theorem live130_3 : G.live 130 3 = some ⟨[0, 1], []⟩ := by kernel_rfl
@[simp] theorem live130_4 : G.live 130 4 = some ⟨[4], []⟩ := by kernel_rfl
@[simp] theorem E131 : G.E 131 = true := by kernel_rfl
@[simp] theorem ext131 : G.ext 131 = none := by kernel_rfl
@[simp] theorem dfr131 : G.dfr 131 = false := by kernel_rfl
@[simp] theorem own131 : G.retOwn 131 = false := by kernel_rfl
@[simp] theorem keep131_1 : G.keep 131 1 = some ⟨[(0, none), (1, none)], []⟩ := by kernel_rfl
@[simp] theorem live131_0 : G.live 131 0 = some ⟨[0, 1], []⟩ := by kernel_rfl
@[simp] theorem live131_1 : G.live 131 1 = some ⟨[0, 1, 9], []⟩ := by kernel_rfl
@[simp] theorem live131_2 : G.live 131 2 = some ⟨[0, 1, 5, 6], []⟩ := by kernel_rfl
@[simp] theorem live131_3 : G.live 131 3 = some ⟨[0, 1, 6, 18], []⟩ := by kernel_rfl
@[simp] theorem live131_4 : G.live 131 4 = some ⟨[0, 1], []⟩ := by kernel_rfl
@[simp] theorem live131_5 : G.live 131 5 = some ⟨[4], []⟩ := by kernel_rfl
@[simp] theorem E132 : G.E 132 = true := by kernel_rfl
@[simp] theorem ext132 : G.ext 132 = none := by kernel_rfl
@[simp] theorem dfr132 : G.dfr 132 = false := by kernel_rfl
@[simp] theorem own132 : G.retOwn 132 = false := by kernel_rfl
@[simp] theorem live132_0 : G.live 132 0 = some ⟨[0], []⟩ := by kernel_rfl
@[simp] theorem live132_1 : G.live 132 1 = some ⟨[0, 4], []⟩ := by kernel_rfl
@[simp] theorem live132_2 : G.live 132 2 = some ⟨[2], []⟩ := by kernel_rfl
@[simp] theorem live132_3 : G.live 132 3 = some ⟨[2], []⟩ := by kernel_rfl
@[simp] theorem E133 : G.E 133 = true := by kernel_rfl
@[simp] theorem ext133 : G.ext 133 = none := by kernel_rfl
@[simp] theorem dfr133 : G.dfr 133 = false := by kernel_rfl
@[simp] theorem own133 : G.retOwn 133 = false := by kernel_rfl
@[simp] theorem live133_0 : G.live 133 0 = some ⟨[0], []⟩ := by kernel_rfl
@[simp] theorem live133_1 : G.live 133 1 = some ⟨[0, 4], []⟩ := by kernel_rfl
@[simp] theorem live133_2 : G.live 133 2 = some ⟨[2], []⟩ := by kernel_rfl
@[simp] theorem live133_3 : G.live 133 3 = some ⟨[2], []⟩ := by kernel_rfl
@[simp] theorem E134 : G.E 134 = true := by kernel_rfl
@[simp] theorem ext134 : G.ext 134 = none := by kernel_rfl
@[simp] theorem dfr134 : G.dfr 134 = false := by kernel_rfl
@[simp] theorem own134 : G.retOwn 134 = false := by kernel_rfl
@[simp] theorem live134_0 : G.live 134 0 = some ⟨[0, 1, 2], []⟩ := by kernel_rfl
@[simp] theorem live134_1 : G.live 134 1 = some ⟨[0, 1, 2, 8, 9], []⟩ := by kernel_rfl
@[simp] theorem live134_2 : G.live 134 2 = some ⟨[0, 1, 2, 8, 9, 18], []⟩ := by kernel_rfl
@[simp] theorem live134_3 : G.live 134 3 = some ⟨[6, 7], []⟩ := by kernel_rfl
@[simp] theorem live134_4 : G.live 134 4 = some ⟨[6, 7], []⟩ := by kernel_rfl
@[simp] theorem E135 : G.E 135 = true := by kernel_rfl
@[simp] theorem ext135 : G.ext 135 = none := by kernel_rfl
@[simp] theorem dfr135 : G.dfr 135 = false := by kernel_rfl
@[simp] theorem own135 : G.retOwn 135 = false := by kernel_rfl
@[simp] theorem live135_0 : G.live 135 0 = some ⟨[0, 1], []⟩ := by kernel_rfl
@[simp] theorem live135_1 : G.live 135 1 = some ⟨[4], []⟩ := by kernel_rfl
@[simp] theorem E136 : G.E 136 = true := by kernel_rfl
@[simp] theorem ext136 : G.ext 136 = none := by kernel_rfl
@[simp] theorem dfr136 : G.dfr 136 = false := by kernel_rfl
@[simp] theorem own136 : G.retOwn 136 = false := by kernel_rfl
@[simp] theorem live136_0 : G.live 136 0 = some ⟨[0], []⟩ := by kernel_rfl
@[simp] theorem live136_1 : G.live 136 1 = some ⟨[0, 10], []⟩ := by kernel_rfl
@[simp] theorem live136_2 : G.live 136 2 = some ⟨[2, 3], []⟩ := by kernel_rfl
@[simp] theorem live136_3 : G.live 136 3 = some ⟨[2, 3], []⟩ := by kernel_rfl
@[simp] theorem E137 : G.E 137 = true := by kernel_rfl
@[simp] theorem ext137 : G.ext 137 = none := by kernel_rfl
@[simp] theorem dfr137 : G.dfr 137 = false := by kernel_rfl
@[simp] theorem own137 : G.retOwn 137 = false := by kernel_rfl
@[simp] theorem live137_0 : G.live 137 0 = some ⟨[0, 1], []⟩ := by kernel_rfl
@[simp] theorem live137_1 : G.live 137 1 = some ⟨[4], []⟩ := by kernel_rfl
@[simp] theorem E138 : G.E 138 = true := by kernel_rfl
@[simp] theorem ext138 : G.ext 138 = none := by kernel_rfl
@[simp] theorem dfr138 : G.dfr 138 = false := by kernel_rfl
@[simp] theorem own138 : G.retOwn 138 = false := by kernel_rfl
@[simp] theorem live138_0 : G.live 138 0 = some ⟨[0], []⟩ := by kernel_rfl
@[simp] theorem live138_1 : G.live 138 1 = some ⟨[0, 4], []⟩ := by kernel_rfl
@[simp] theorem live138_2 : G.live 138 2 = some ⟨[0, 4, 16], []⟩ := by kernel_rfl
@[simp] theorem live138_3 : G.live 138 3 = some ⟨[2, 3], []⟩ := by kernel_rfl
@[simp] theorem live138_4 : G.live 138 4 = some ⟨[0, 4, 5], []⟩ := by kernel_rfl
@[simp] theorem live138_5 : G.live 138 5 = some ⟨[0, 4, 5, 6], []⟩ := by kernel_rfl
@[simp] theorem live138_6 : G.live 138 6 = some ⟨[0, 4, 5, 6, 23], []⟩ := by kernel_rfl
@[simp] theorem live138_7 : G.live 138 7 = some ⟨[0, 7], []⟩ := by kernel_rfl
@[simp] theorem live138_8 : G.live 138 8 = some ⟨[2, 3], []⟩ := by kernel_rfl
@[simp] theorem live138_9 : G.live 138 9 = some ⟨[0, 4, 5, 6, 8], []⟩ := by kernel_rfl
@[simp] theorem live138_10 : G.live 138 10 = some ⟨[0, 4, 5, 8, 9], []⟩ := by kernel_rfl
@[simp] theorem live138_11 : G.live 138 11 = some ⟨[0, 5, 8, 9, 45], []⟩ := by kernel_rfl
@[simp] theorem live138_12 : G.live 138 12 = some ⟨[2, 3], []⟩ := by kernel_rfl
@[simp] theorem live138_13 : G.live 138 13 = some ⟨[0, 5, 8, 9, 10], []⟩ := by kernel_rfl
@[simp] theorem live138_14 : G.live 138 14 = some ⟨[0, 5, 8, 10, 57], []⟩ := by kernel_rfl
@[simp] theorem live138_15 : G.live 138 15 = some ⟨[2, 3], []⟩ := by kernel_rfl
@[simp] theorem live138_16 : G.live 138 16 = some ⟨[0, 5, 8, 10, 59], []⟩ := by kernel_rfl
@[simp] theorem live138_17 : G.live 138 17 = some ⟨[2, 3], []⟩ := by kernel_rfl
@[simp] theorem live138_18 : G.live 138 18 = some ⟨[0, 5, 8, 10, 11], []⟩ := by kernel_rfl
@[simp] theorem live138_19 : G.live 138 19 = some ⟨[0, 5, 8, 10, 11, 75], []⟩ := by kernel_rfl
@[simp] theorem live138_20 : G.live 138 20 = some ⟨[2, 3], []⟩ := by kernel_rfl
@[simp] theorem live138_21 : G.live 138 21 = some ⟨[0, 5, 10, 11, 77], []⟩ := by kernel_rfl
@[simp] theorem live138_22 : G.live 138 22 = some ⟨[2, 3], []⟩ := by kernel_rfl
@[simp] theorem live138_23 : G.live 138 23 = some ⟨[5, 10, 11, 12], []⟩ := by kernel_rfl
@[simp] theorem live138_24 : G.live 138 24 = some ⟨[5, 10, 11, 12, 98], []⟩ := by kernel_rfl
@[simp] theorem live138_25 : G.live 138 25 = some ⟨[2, 3], []⟩ := by kernel_rfl
@[simp] theorem live138_26 : G.live 138 26 = some ⟨[2, 3], []⟩ := by kernel_rfl
@[simp] theorem E139 : G.E 139 = true := by kernel_rfl
@[simp] theorem ext139 : G.ext 139 = none := by kernel_rfl
@[simp] theorem dfr139 : G.dfr 139 = false := by kernel_rfl
@[simp] theorem own139 : G.retOwn 139 = false := by kernel_rfl
@[simp] theorem keep139_38 : G.keep 139 38 = some ⟨[(175, none)], []⟩ := by kernel_rfl
@[simp] theorem keep139_5 : G.keep 139 5 = some ⟨[(0, none), (7, none), (8, none), (9, none)], []⟩ := by kernel_rfl
@[simp] theorem keep139_12 : G.keep 139 12 = some ⟨[(0, none), (7, none), (8, none), (9, none), (12, none)], []⟩ := by kernel_rfl
@[simp] theorem keep139_25 : G.keep 139 25 = some ⟨[(0, none), (7, none), (8, none), (9, none), (14, none), (15, none)], []⟩ := by kernel_rfl
@[simp] theorem keep139_29 : G.keep 139 29 = some ⟨[(0, none), (7, none), (8, none), (9, none), (14, none), (15, none), (16, none)], []⟩ := by kernel_rfl
@[simp] theorem live139_0 : G.live 139 0 = some ⟨[0, 1], []⟩ := by kernel_rfl
@[simp] theorem live139_34 : G.live 139 34 = some ⟨[0, 1, 160], []⟩ := by kernel_rfl
@[simp] theorem live139_35 : G.live 139 35 = some ⟨[4], []⟩ := by kernel_rfl
@[simp] theorem live139_36 : G.live 139 36 = some ⟨[0, 1, 171], []⟩ := by kernel_rfl
@[simp] theorem live139_37 : G.live 139 37 = some ⟨[175], []⟩ := by kernel_rfl
@[simp] theorem live139_38 : G.live 139 38 = some ⟨[175, 176, 177], []⟩ := by kernel_rfl
@[simp] theorem live139_39 : G.live 139 39 = some ⟨[5, 6, 175], []⟩ := by kernel_rfl
@[simp] theorem live139_40 : G.live 139 40 = some ⟨[5, 175, 181], []⟩ := by kernel_rfl
@[simp] theorem live139_41 : G.live 139 41 = some ⟨[4], []⟩ := by kernel_rfl
@[simp] theorem live139_42 : G.live 139 42 = some ⟨[4], []⟩ := by kernel_rfl
@[simp] theorem live139_43 : G.live 139 43 = some ⟨[0, 1, 183], []⟩ := by kernel_rfl
@[simp] theorem live139_44 : G.live 139 44 = some ⟨[4], []⟩ := by kernel_rfl
@[simp] theorem live139_1 : G.live 139 1 = some ⟨[0, 7], []⟩ := by kernel_rfl
@[simp] theorem live139_2 : G.live 139 2 = some ⟨[0, 7, 8], []⟩ := by kernel_rfl
@[simp] theorem live139_3 : G.live 139 3 = some ⟨[0, 7, 8, 9], []⟩ := by kernel_rfl
@[simp] theorem live139_4 : G.live 139 4 = some ⟨[0, 7, 8, 9], []⟩ := by kernel_rfl
@[simp] theorem live139_5 : G.live 139 5 = some ⟨[0, 7, 8, 9, 26], []⟩ := by kernel_rfl
@[simp] theorem live139_6 : G.live 139 6 = some ⟨[0, 7, 8, 9, 33], []⟩ := by kernel_rfl
@[simp] theorem live139_7 : G.live 139 7 = some ⟨[0, 7, 8, 9, 11], []⟩ := by kernel_rfl
@[simp] theorem live139_8 : G.live 139 8 = some ⟨[0, 7, 8, 9, 11, 43], []⟩ := by kernel_rfl
@[simp] theorem live139_9 : G.live 139 9 = some ⟨[4], []⟩ := by kernel_rfl
@[simp] theorem live139_10 : G.live 139 10 = some ⟨[0, 7, 8, 9], []⟩ := by kernel_rfl
@[simp] theorem live139_11 : G.live 139 11 = some ⟨[0, 7, 8, 9, 12], []⟩ := by kernel_rfl
@[simp] theorem live139_12 : G.live 139 12 = some ⟨[0, 7, 8, 9, 12, 51], []⟩ := by kernel_rfl
@[simp] theorem live139_14 : G.live 139 14 = some ⟨[0, 7, 8, 9, 12, 64], []⟩ := by kernel_rfl
@[simp] theorem live139_13 : G.live 139 13 = some ⟨[0, 7, 8, 9, 12], []⟩ := by kernel_rfl
@[simp] theorem live139_15 : G.live 139 15 = some ⟨[4], []⟩ := by kernel_rfl
@[simp] theorem live139_16 : G.live 139 16 = some ⟨[0, 7, 8, 9, 10], []⟩ := by kernel_rfl
@[simp] theorem live139_17 : G.live 139 17 = some ⟨[0, 7, 8, 9, 10], []⟩ := by kernel_rfl
@[simp] theorem live139_18 : G.live 139 18 = some ⟨[0, 7, 8, 9, 98], []⟩ := by kernel_rfl
@[simp] theorem live139_19 : G.live 139 19 = some ⟨[4], []⟩ := by kernel_rfl
@[simp] theorem live139_20 : G.live 139 20 = some ⟨[8, 9, 13], []⟩ := by kernel_rfl
@[simp] theorem live139_21 : G.live 139 21 = some ⟨[8, 9, 13, 108], []⟩ := by kernel_rfl
@[simp] theorem live139_22 : G.live 139 22 = some ⟨[4], []⟩ := by kernel_rfl
@[simp] theorem live139_23 : G.live 139 23 = some ⟨[0, 7, 8, 9, 14], []⟩ := by kernel_rfl
@[simp] theorem live139_24 : G.live 139 24 = some ⟨[0, 7, 8, 9, 14, 15], []⟩ := by kernel_rfl
@[simp] theorem live139_25 : G.live 139 25 = some ⟨[0, 7, 8, 9, 14, 15, 124], []⟩ := by kernel_rfl
@[simp] theorem live139_27 : G.live 139 27 = some ⟨[0, 7, 8, 9, 14, 15, 139], []⟩ := by kernel_rfl
@[simp] theorem live139_28 : G.live 139 28 = some ⟨[0, 7, 8, 9, 14, 15, 16], []⟩ := by kernel_rfl
@[simp] theorem live139_29 : G.live 139 29 = some ⟨[0, 7, 8, 9, 14, 15, 16, 143], []⟩ := by kernel_rfl
@[simp] theorem live139_31 : G.live 139 31 = some ⟨[0, 7, 8, 9, 14, 15, 16, 156], []⟩ := by kernel_rfl
@[simp] theorem live139_30 : G.live 139 30 = some ⟨[0, 7, 8, 9, 14, 15, 16], []⟩ := by kernel_rfl
@[simp] theorem live139_32 : G.live 139 32 = some ⟨[4], []⟩ := by kernel_rfl
@[simp] theorem live139_26 : G.live 139 26 = some ⟨[0, 7, 8, 9, 14, 15], []⟩ := by kernel_rfl
@[simp] theorem live139_33 : G.live 139 33 = some ⟨[4], []⟩ := by kernel_rfl
@[simp] theorem plan139_6 : G.plan 139 6 = some [.n 0, .n 1, .n 2, .n 3, .n 4, .n 5, .n 6] := by kernel_rfl
@[simp] theorem plan139_7 : G.plan 139 7 = some [.n 0, .n 1, .n 2, .n 3, .n 4, .n 5, .n 6, .e 7 [], .n 8] := by kernel_rfl
@[simp] theorem plan139_14 : G.plan 139 14 = some [.n 0, .n 1, .n 2, .n 3, .n 4, .n 5, .n 6, .n 7, .n 8, .n 9, .n 10] := by kernel_rfl
@[simp] theorem plan139_31 : G.plan 139 31 = some [.n 0, .n 1, .n 2, .n 3, .n 4, .n 5, .n 6, .n 7, .n 8, .n 9, .n 10] := by kernel_rfl
@[simp] theorem E140 : G.E 140 = true := by kernel_rfl
@[simp] theorem ext140 : G.ext 140 = none := by kernel_rfl
@[simp] theorem dfr140 : G.dfr 140 = false := by kernel_rfl
@[simp] theorem own140 : G.retOwn 140 = false := by kernel_rfl
@[simp] theorem live140_0 : G.live 140 0 = some ⟨[0], []⟩ := by kernel_rfl
@[simp] theorem live140_1 : G.live 140 1 = some ⟨[0, 3], []⟩ := by kernel_rfl
@[simp] theorem live140_2 : G.live 140 2 = some ⟨[2], []⟩ := by kernel_rfl
@[simp] theorem live140_3 : G.live 140 3 = some ⟨[10], []⟩ := by kernel_rfl
@[simp] theorem live140_4 : G.live 140 4 = some ⟨[2], []⟩ := by kernel_rfl
@[simp] theorem live140_5 : G.live 140 5 = some ⟨[2], []⟩ := by kernel_rfl
@[simp] theorem E160 : G.E 160 = true := by kernel_rfl
@[simp] theorem ext160 : G.ext 160 = none := by kernel_rfl
@[simp] theorem dfr160 : G.dfr 160 = false := by kernel_rfl
@[simp] theorem own160 : G.retOwn 160 = true := by kernel_rfl
@[simp] theorem live160_0 : G.live 160 0 = some ⟨[1, 2, 3, 5], []⟩ := by kernel_rfl
@[simp] theorem live160_1 : G.live 160 1 = some ⟨[1, 2, 3, 5, 16], []⟩ := by kernel_rfl
@[simp] theorem live160_2 : G.live 160 2 = some ⟨[12, 13, 14], []⟩ := by kernel_rfl
@[simp] theorem live160_3 : G.live 160 3 = some ⟨[2, 3, 5, 18], []⟩ := by kernel_rfl
@[simp] theorem live160_4 : G.live 160 4 = some ⟨[2, 3, 5], []⟩ := by kernel_rfl
@[simp] theorem live160_5 : G.live 160 5 = some ⟨[12, 13, 14], []⟩ := by kernel_rfl
@[simp] theorem E161 : G.E 161 = true := by kernel_rfl
@[simp] theorem ext161 : G.ext 161 = none := by kernel_rfl
@[simp] theorem dfr161 : G.dfr 161 = false := by kernel_rfl
@[simp] theorem own161 : G.retOwn 161 = true := by kernel_rfl
@[simp] theorem live161_0 : G.live 161 0 = some ⟨[0, 1, 2], []⟩ := by kernel_rfl
@[simp] theorem live161_1 : G.live 161 1 = some ⟨[0, 1, 2], []⟩ := by kernel_rfl
@[simp] theorem live161_2 : G.live 161 2 = some ⟨[0, 1, 2, 16], []⟩ := by kernel_rfl
@[simp] theorem live161_3 : G.live 161 3 = some ⟨[6], []⟩ := by kernel_rfl
@[simp] theorem live161_4 : G.live 161 4 = some ⟨[0, 1, 2, 7], []⟩ := by kernel_rfl
@[simp] theorem live161_5 : G.live 161 5 = some ⟨[0, 7], []⟩ := by kernel_rfl
@[simp] theorem live161_6 : G.live 161 6 = some ⟨[0], []⟩ := by kernel_rfl
@[simp] theorem live161_7 : G.live 161 7 = some ⟨[6], []⟩ := by kernel_rfl
@[simp] theorem plan161_5 : G.plan 161 5 = some [.n 0, .n 1, .n 3, .n 4, .n 5, .e 2 [5, 4, 3], .e 6 [], .e 7 []] := by kernel_rfl
@[simp] theorem E162 : G.E 162 = true := by kernel_rfl
@[simp] theorem ext162 : G.ext 162 = none := by kernel_rfl
@[simp] theorem dfr162 : G.dfr 162 = false := by kernel_rfl
@[simp] theorem own162 : G.retOwn 162 = true := by kernel_rfl
@[simp] theorem live162_0 : G.live 162 0 = some ⟨[0, 1, 2], []⟩ := by kernel_rfl
@[simp] theorem live162_1 : G.live 162 1 = some ⟨[0, 1, 2], []⟩ := by kernel_rfl
@[simp] theorem live162_2 : G.live 162 2 = some ⟨[0, 1, 2, 16], []⟩ := by kernel_rfl
@[simp] theorem live162_3 : G.live 162 3 = some ⟨[6], []⟩ := by kernel_rfl
@[simp] theorem live162_4 : G.live 162 4 = some ⟨[0, 1, 2, 7], []⟩ := by kernel_rfl
@[simp] theorem live162_5 : G.live 162 5 = some ⟨[0, 7], []⟩ := by kernel_rfl
@[simp] theorem live162_6 : G.live 162 6 = some ⟨[0], []⟩ := by kernel_rfl
@[simp] theorem live162_7 : G.live 162 7 = some ⟨[6], []⟩ := by kernel_rfl
@[simp] theorem plan162_5 : G.plan 162 5 = some [.n 0, .n 1, .n 3, .n 4, .n 5, .e 2 [5, 4, 3], .e 6 [], .e 7 []] := by kernel_rfl
@[simp] theorem E163 : G.E 163 = true := by kernel_rfl
@[simp] theorem ext163 : G.ext 163 = none := by kernel_rfl
@[simp] theorem dfr163 : G.dfr 163 = false := by kernel_rfl
@[simp] theorem own163 : G.retOwn 163 = true := by kernel_rfl
@[simp] theorem live163_0 : G.live 163 0 = some ⟨[1, 2, 3, 5, 6, 10], []⟩ := by kernel_rfl
@[simp] theorem live163_2 : G.live 163 2 = some ⟨[1, 2, 3, 5, 6, 10, 20], []⟩ := by kernel_rfl
@[simp] theorem live163_3 : G.live 163 3 = some ⟨[2, 3], []⟩ := by kernel_rfl
@[simp] theorem live163_4 : G.live 163 4 = some ⟨[2, 3, 6, 10, 28], []⟩ := by kernel_rfl
@[simp] theorem live163_5 : G.live 163 5 = some ⟨[2, 3, 5, 6, 10], []⟩ := by kernel_rfl
@[simp] theorem live163_6 : G.live 163 6 = some ⟨[2, 3], []⟩ := by kernel_rfl
@[simp] theorem live163_7 : G.live 163 7 = some ⟨[2, 3, 6, 50], []⟩ := by kernel_rfl
@[simp] theorem live163_8 : G.live 163 8 = some ⟨[12, 13, 14], []⟩ := by kernel_rfl
@[simp] theorem live163_1 : G.live 163 1 = some ⟨[2, 3], []⟩ := by kernel_rfl
@[simp] theorem live163_9 : G.live 163 9 = some ⟨[12, 13, 14], []⟩ := by kernel_rfl
@[simp] theorem plan163_6 : G.plan 163 6 = some [.n 0, .n 1, .n 2, .n 3, .n 4, .n 6, .n 7, .n 8, .n 9, .n 10, .e 5 [10, 9, 8, 7, 6], .e 11 [2], .e 12 [8], .e 13 []] := by kernel_rfl
@[simp] theorem E164 : G.E 164 = true := by kernel_rfl
@[simp] theorem ext164 : G.ext 164 = none := by kernel_rfl
@[simp] theorem dfr164 : G.dfr 164 = false := by kernel_rfl
@[simp] theorem own164 : G.retOwn 164 = false := by kernel_rfl
@[simp] theorem keep164_3 : G.keep 164 3 = some ⟨[(0, none), (1, none), (6, none), (7, none), (8, none)], []⟩ := by kernel_rfl
@[simp] theorem live164_0 : G.live 164 0 = some ⟨[0, 1], []⟩ := by kernel_rfl
@[simp] theorem live164_1 : G.live 164 1 = some ⟨[0, 1, 6], []⟩ := by kernel_rfl
@[simp] theorem live164_2 : G.live 164 2 = some ⟨[0, 1, 6, 7, 8], []⟩ := by kernel_rfl
@[simp] theorem live164_3 : G.live 164 3 = some ⟨[0, 1, 6, 7, 8, 15], []⟩ := by kernel_rfl
@[simp] theorem live164_4 : G.live 164 4 = some ⟨[0, 1, 6, 7, 8, 9], []⟩ := by kernel_rfl
@[simp] theorem live164_5 : G.live 164 5 = some ⟨[0, 1, 6, 7, 8, 9, 27], []⟩ := by kernel_rfl
@[simp] theorem live164_6 : G.live 164 6 = some ⟨[0, 1, 6, 7, 8], []⟩ := by kernel_rfl
@[simp] theorem live164_7 : G.live 164 7 = some ⟨[0, 1, 6, 7, 8], []⟩ := by kernel_rfl
@[simp] theorem live164_8 : G.live 164 8 = some ⟨[4, 5], []⟩ := by kernel_rfl
@[simp] theorem E165 : G.E 165 = true := by kernel_rfl
@[simp] theorem ext165 : G.ext 165 = none := by kernel_rfl
@[simp] theorem dfr165 : G.dfr 165 = false := by kernel_rfl
@[simp] theorem own165 : G.retOwn 165 = true := by kernel_rfl
@[simp] theorem live165_0 : G.live 165 0 = some ⟨[0, 1, 2], []⟩ := by kernel_rfl
@[simp] theorem live165_1 : G.live 165 1 = some ⟨[0, 1, 2], []⟩ := by kernel_rfl
@[simp] theorem live165_2 : G.live 165 2 = some ⟨[0, 1, 2, 7], []⟩ := by kernel_rfl
@[simp] theorem live165_3 : G.live 165 3 = some ⟨[0, 1, 2, 7, 16], []⟩ := by kernel_rfl
@[simp] theorem live165_4 : G.live 165 4 = some ⟨[6], []⟩ := by kernel_rfl
@[simp] theorem live165_5 : G.live 165 5 = some ⟨[0, 1, 2, 7, 8], []⟩ := by kernel_rfl
@[simp] theorem live165_6 : G.live 165 6 = some ⟨[0, 1, 2, 7, 8, 22], []⟩ := by kernel_rfl
@[simp] theorem live165_7 : G.live 165 7 = some ⟨[6], []⟩ := by kernel_rfl
@[simp] theorem live165_8 : G.live 165 8 = some ⟨[0, 1, 2, 7, 8, 31], []⟩ := by kernel_rfl
@[simp] theorem live165_9 : G.live 165 9 = some ⟨[0, 1, 2, 7, 9], []⟩ := by kernel_rfl
@[simp] theorem live165_10 : G.live 165 10 = some ⟨[0, 1, 7, 9], []⟩ := by kernel_rfl
@[simp] theorem live165_11 : G.live 165 11 = some ⟨[9], []⟩ := by kernel_rfl
@[simp] theorem live165_12 : G.live 165 12 = some ⟨[6], []⟩ := by kernel_rfl
@[simp] theorem live165_13 : G.live 165 13 = some ⟨[0, 1, 2, 7, 8], []⟩ := by kernel_rfl
@[simp] theorem live165_14 : G.live 165 14 = some ⟨[0, 1, 2, 7, 8, 68], []⟩ := by kernel_rfl
@[simp] theorem live165_15 : G.live 165 15 = some ⟨[0, 1, 2], []⟩ := by kernel_rfl
@[simp] theorem live165_16 : G.live 165 16 = some ⟨[0], []⟩ := by kernel_rfl
@[simp] theorem live165_17 : G.live 165 17 = some ⟨[6], []⟩ := by kernel_rfl
@[simp] theorem live165_18 : G.live 165 18 = some ⟨[0, 1, 7], []⟩ := by kernel_rfl
@[simp] theorem live165_19 : G.live 165 19 = some ⟨[0], []⟩ := by kernel_rfl
@[simp] theorem live165_20 : G.live 165 20 = some ⟨[6], []⟩ := by kernel_rfl
@[simp] theorem plan165_11 : G.plan 165 11 = some [.n 0, .n 1, .n 2, .n 3, .n 4, .n 5, .n 6, .n 7, .e 8 []] := by kernel_rfl
@[simp] theorem plan165_15 : G.plan 165 15 = some [.n 0, .n 1, .n 2, .n 3, .n 4, .n 5, .n 6, .n 7, .e 8 []] := by kernel_rfl
@[simp] theorem E166 : G.E 166 = true := by kernel_rfl
@[simp] theorem ext166 : G.ext 166 = none := by kernel_rfl
@[simp] theorem dfr166 : G.dfr 166 = false := by kernel_rfl
@[simp] theorem own166 : G.retOwn 166 = true := by kernel_rfl
@[simp] theorem live166_0 : G.live 166 0 = some ⟨[0, 1, 2], []⟩ := by kernel_rfl
@[simp] theorem live166_1 : G.live 166 1 = some ⟨[0, 1, 2], []⟩ := by kernel_rfl
@[simp] theorem live166_2 : G.live 166 2 = some ⟨[0, 1, 2, 7], []⟩ := by kernel_rfl
@[simp] theorem live166_3 : G.live 166 3 = some ⟨[0, 1, 2, 7, 16], []⟩ := by kernel_rfl
@[simp] theorem live166_4 : G.live 166 4 = some ⟨[6], []⟩ := by kernel_rfl
@[simp] theorem live166_5 : G.live 166 5 = some ⟨[0, 1, 2, 7, 8], []⟩ := by kernel_rfl
@[simp] theorem live166_6 : G.live 166 6 = some ⟨[0, 1, 2, 7, 8, 22], []⟩ := by kernel_rfl
@[simp] theorem live166_7 : G.live 166 7 = some ⟨[6], []⟩ := by kernel_rfl
@[simp] theorem live166_8 : G.live 166 8 = some ⟨[0, 1, 2, 7, 8, 31], []⟩ := by kernel_rfl
@[simp] theorem live166_9 : G.live 166 9 = some ⟨[0, 1, 2, 7, 9], []⟩ := by kernel_rfl
@[simp] theorem live166_10 : G.live 166 10 = some ⟨[0, 1, 7, 9], []⟩ := by kernel_rfl
@[simp] theorem live166_11 : G.live 166 11 = some ⟨[9], []⟩ := by kernel_rfl
@[simp] theorem live166_12 : G.live 166 12 = some ⟨[6], []⟩ := by kernel_rfl
@[simp] theorem live166_13 : G.live 166 13 = some ⟨[0, 1, 2, 7, 8], []⟩ := by kernel_rfl
@[simp] theorem live166_14 : G.live 166 14 = some ⟨[0, 1, 2, 7, 8, 68], []⟩ := by kernel_rfl
@[simp] theorem live166_15 : G.live 166 15 = some ⟨[0, 1, 2], []⟩ := by kernel_rfl
@[simp] theorem live166_16 : G.live 166 16 = some ⟨[0], []⟩ := by kernel_rfl
@[simp] theorem live166_17 : G.live 166 17 = some ⟨[6], []⟩ := by kernel_rfl
@[simp] theorem live166_18 : G.live 166 18 = some ⟨[0, 1, 7], []⟩ := by kernel_rfl
@[simp] theorem live166_19 : G.live 166 19 = some ⟨[0], []⟩ := by kernel_rfl
@[simp] theorem live166_20 : G.live 166 20 = some ⟨[6], []⟩ := by kernel_rfl
@[simp] theorem plan166_11 : G.plan 166 11 = some [.n 0, .n 1, .n 2, .n 3, .n 4, .n 5, .n 6, .n 7, .e 8 []] := by kernel_rfl
@[simp] theorem plan166_15 : G.plan 166 15 = some [.n 0, .n 1, .n 2, .n 3, .n 4, .n 5, .n 6, .n 7, .e 8 []] := by kernel_rfl
@[simp] theorem E167 : G.E 167 = true := by kernel_rfl
@[simp] theorem ext167 : G.ext 167 = none := by kernel_rfl
@[simp] theorem dfr167 : G.dfr 167 = false := by kernel_rfl
@[simp] theorem own167 : G.retOwn 167 = false := by kernel_rfl
@[simp] theorem live167_0 : G.live 167 0 = some ⟨[0, 1], []⟩ := by kernel_rfl
@[simp] theorem live167_1 : G.live 167 1 = some ⟨[4], []⟩ := by kernel_rfl
@[simp] theorem E168 : G.E 168 = true := by kernel_rfl
@[simp] theorem ext168 : G.ext 168 = none := by kernel_rfl
@[simp] theorem dfr168 : G.dfr 168 = false := by kernel_rfl
@[simp] theorem own168 : G.retOwn 168 = false := by kernel_rfl
@[simp] theorem live168_0 : G.live 168 0 = some ⟨[0], []⟩ := by kernel_rfl
@[simp] theorem live168_1 : G.live 168 1 = some ⟨[2], []⟩ := by kernel_rfl
@[simp] theorem E170 : G.E 170 = true := by kernel_rfl
@[simp] theorem ext170 : G.ext 170 = none := by kernel_rfl
@[simp] theorem dfr170 : G.dfr 170 = false := by kernel_rfl
@[simp] theorem own170 : G.retOwn 170 = false := by kernel_rfl
@[simp] theorem live170_0 : G.live 170 0 = some ⟨[], []⟩ := by kernel_rfl
@[simp] theorem E172 : G.E 172 = true := by kernel_rfl
@[simp] theorem ext172 : G.ext 172 = none := by kernel_rfl
@[simp] theorem dfr172 : G.dfr 172 = false := by kernel_rfl
@[simp] theorem own172 : G.retOwn 172 = false := by kernel_rfl
@[simp] theorem live172_0 : G.live 172 0 = some ⟨[], []⟩ := by kernel_rfl
@[simp] theorem E173 : G.E 173 = true := by kernel_rfl
@[simp] theorem ext173 : G.ext 173 = none := by kernel_rfl
@[simp] theorem dfr173 : G.dfr 173 = false := by kernel_rfl
@[simp] theorem own173 : G.retOwn 173 = false := by kernel_rfl
@[simp] theorem live173_0 : G.live 173 0 = some ⟨[0], []⟩ := by kernel_rfl
@[simp] theorem live173_1 : G.live 173 1 = some ⟨[2], []⟩ := by kernel_rfl
@[simp] theorem E174 : G.E 174 = true := by kernel_rfl
@[simp] theorem ext174 : G.ext 174 = none := by kernel_rfl
@[simp] theorem dfr174 : G.dfr 174 = false := by kernel_rfl
@[simp] theorem own174 : G.retOwn 174 = false := by kernel_rfl
@[simp] theorem live174_0 : G.live 174 0 = some ⟨[0, 1], []⟩ := by kernel_rfl
@[simp] theorem live174_1 : G.live 174 1 = some ⟨[0], []⟩ := by kernel_rfl
@[simp] theorem live174_2 : G.live 174 2 = some ⟨[], []⟩ := by kernel_rfl
@[simp] theorem E175 : G.E 175 = true := by kernel_rfl
@[simp] theorem ext175 : G.ext 175 = none := by kernel_rfl
@[simp] theorem dfr175 : G.dfr 175 = false := by kernel_rfl
@[simp] theorem own175 : G.retOwn 175 = false := by kernel_rfl
@[simp] theorem live175_0 : G.live 175 0 = some ⟨[0, 1], []⟩ := by kernel_rfl
@[simp] theorem live175_1 : G.live 175 1 = some ⟨[0], []⟩ := by kernel_rfl
@[simp] theorem live175_2 : G.live 175 2 = some ⟨[], []⟩ := by kernel_rfl
@[simp] theorem E176 : G.E 176 = true := by kernel_rfl
@[simp] theorem ext176 : G.ext 176 = none := by kernel_rfl
@[simp] theorem dfr176 : G.dfr 176 = false := by kernel_rfl
@[simp] theorem own176 : G.retOwn 176 = false := by kernel_rfl
@[simp] theorem keep176_1 : G.keep 176 1 = some ⟨[(0, some (1, 9)), (2, none), (3, none)], []⟩ := by kernel_rfl
@[simp] theorem live176_0 : G.live 176 0 = some ⟨[0, 2, 3], []⟩ := by kernel_rfl
@[simp] theorem live176_1 : G.live 176 1 = some ⟨[0, 2, 3, 9], []⟩ := by kernel_rfl
@[simp] theorem live176_3 : G.live 176 3 = some ⟨[0, 2, 3], []⟩ := by kernel_rfl
@[simp] theorem live176_2 : G.live 176 2 = some ⟨[0, 2, 3], []⟩ := by kernel_rfl
@[simp] theorem plan176_3 : G.plan 176 3 = some [.n 0, .n 1, .n 2, .n 3, .n 4, .n 5, .n 6, .n 7, .n 8, .n 9, .n 10, .n 11, .n 12, .e 13 [3, 2], .n 14, .e 15 []] := by kernel_rfl
@[simp] theorem E177 : G.E 177 = true := by kernel_rfl
@[simp] theorem ext177 : G.ext 177 = none := by kernel_rfl
@[simp] theorem dfr177 : G.dfr 177 = false := by kernel_rfl
@[simp] theorem own177 : G.retOwn 177 = false := by kernel_rfl
@[simp] theorem keep177_1 : G.keep 177 1 = some ⟨[(0, some (1, 37)), (2, none), (3, none)], []⟩ := by kernel_rfl
@[simp] theorem live177_0 : G.live 177 0 = some ⟨[0, 2, 3], []⟩ := by kernel_rfl
@[simp] theorem live177_1 : G.live 177 1 = some ⟨[0, 2, 3, 9], []⟩ := by kernel_rfl
@[simp] theorem live177_3 : G.live 177 3 = some ⟨[0, 2, 3], []⟩ := by kernel_rfl
@[simp] theorem live177_2 : G.live 177 2 = some ⟨[0, 2, 3], []⟩ := by kernel_rfl
@[simp] theorem plan177_3 : G.plan 177 3 = some [.n 0, .n 1, .n 2, .n 3, .n 4, .n 5, .n 6, .n 7, .n 8, .n 9, .n 10, .n 11, .n 12, .e 13 [3, 2], .n 14, .e 15 []] := by kernel_rfl
@[simp] theorem E179 : G.E 179 = true := by kernel_rfl
@[simp] theorem ext179 : G.ext 179 = none := by kernel_rfl
@[simp] theorem dfr179 : G.dfr 179 = false := by kernel_rfl
@[simp] theorem own179 : G.retOwn 179 = false := by kernel_rfl
@[simp] theorem live179_0 : G.live 179 0 = some ⟨[0], []⟩ := by kernel_rfl
@[simp] theorem live179_1 : G.live 179 1 = some ⟨[2], []⟩ := by kernel_rfl
@[simp] theorem E185 : G.E 185 = true := by kernel_rfl
@[simp] theorem ext185 : G.ext 185 = none := by kernel_rfl
@[simp] theorem dfr185 : G.dfr 185 = false := by kernel_rfl
@[simp] theorem own185 : G.retOwn 185 = false := by kernel_rfl
@[simp] theorem live185_0 : G.live 185 0 = some ⟨[0], []⟩ := by kernel_rfl
@[simp] theorem live185_1 : G.live 185 1 = some ⟨[2], []⟩ := by kernel_rfl
@[simp] theorem E211 : G.E 211 = true := by kernel_rfl
@[simp] theorem ext211 : G.ext 211 = none := by kernel_rfl
@[simp] theorem dfr211 : G.dfr 211 = false := by kernel_rfl
@[simp] theorem own211 : G.retOwn 211 = false := by kernel_rfl
@[simp] theorem live211_0 : G.live 211 0 = some ⟨[], []⟩ := by kernel_rfl
@[simp] theorem live211_1 : G.live 211 1 = some ⟨[], []⟩ := by kernel_rfl
@[simp] theorem live211_2 : G.live 211 2 = some ⟨[], []⟩ := by kernel_rfl
@[simp] theorem live211_3 : G.live 211 3 = some ⟨[], []⟩ := by kernel_rfl
@[simp] theorem live211_4 : G.live 211 4 = some ⟨[], []⟩ := by kernel_rfl
@[simp] theorem live211_5 : G.live 211 5 = some ⟨[], []⟩ := by kernel_rfl
@[simp] theorem live211_6 : G.live 211 6 = some ⟨[], []⟩ := by kernel_rfl
@[simp] theorem live211_7 : G.live 211 7 = some ⟨[], []⟩ := by kernel_rfl
@[simp] theorem live211_8 : G.live 211 8 = some ⟨[], []⟩ := by kernel_rfl
@[simp] theorem live211_9 : G.live 211 9 = some ⟨[], []⟩ := by kernel_rfl
@[simp] theorem live211_10 : G.live 211 10 = some ⟨[], []⟩ := by kernel_rfl
@[simp] theorem live211_11 : G.live 211 11 = some ⟨[], []⟩ := by kernel_rfl
@[simp] theorem live211_12 : G.live 211 12 = some ⟨[], []⟩ := by kernel_rfl
@[simp] theorem live211_13 : G.live 211 13 = some ⟨[], []⟩ := by kernel_rfl
@[simp] theorem live211_14 : G.live 211 14 = some ⟨[], []⟩ := by kernel_rfl
@[simp] theorem live211_15 : G.live 211 15 = some ⟨[], []⟩ := by kernel_rfl
@[simp] theorem live211_16 : G.live 211 16 = some ⟨[], []⟩ := by kernel_rfl
@[simp] theorem live211_17 : G.live 211 17 = some ⟨[], []⟩ := by kernel_rfl
@[simp] theorem live211_18 : G.live 211 18 = some ⟨[], []⟩ := by kernel_rfl
@[simp] theorem live211_19 : G.live 211 19 = some ⟨[], []⟩ := by kernel_rfl
end Go.Proofs.YtbjphckpbkacaaaGreatDoor


/- What the functions come to: nodes. -/
namespace Go.Proofs.YtbjphckpbkacaaaGreatDoor
open Go Abs
set_option linter.unusedSimpArgs false
set_option linter.unusedVariables false
structure Nd where
  kind : Int
  num : Int
  text : List UInt8
  kids : Int
  deriving DecidableEq
def Nd.v (n : Nd) : AV := .agg [.int .i64 n.kind, .int .i64 n.num, .str n.text, .int .i64 n.kids]
def nds (l : List Nd) : AV := .list 4 (l.map Nd.v)

noncomputable abbrev cl : CallFn := callL G prim0
noncomputable abbrev lp : LoopFn := loopL G prim0

/-- A function's body, gone through. -/
theorem fn_intro {g : FuncId} {fn : Func} {c : Code} {args : List AV} {hp : Heap} {r : ARes × Heap} (hf : Tryz.prog.funcs[g]? = some fn) (hb : fn.body = some c) (hd : G.dfr g = false) (hg : g < RB) (hp0 : prim0 g = none)
    (h : endX G g (hp.map (·.1)) fn.results.toList (codeX G cl lp g c { sl := zipIx args 0, hp }) = some r) : cl g args hp = some r :=
  call_intro hg hp0 (by rw [runFn_body hd hf hb]; exact h)

attribute [simp] eqAggA eqFieldsA Tryz.stoodInHeld54 Tryz.eqGuardType54

end Go.Proofs.YtbjphckpbkacaaaGreatDoor


/- What the functions come to: nodes, by the document. -/
namespace Go.Proofs.YtbjphckpbkacaaaGreatDoor
open Go Abs
set_option linter.unusedSimpArgs false
set_option linter.unusedVariables false

/-- A round, and the loop's head behind it. -/
noncomputable def rX (f : FuncId) (c : Code) : Option (AX × ASt) → Option (AX × ASt)
  | some (.normal, s) => (canon G f c s).map fun s => (.normal, s)
  | r => r
@[simp] theorem rX_n {f c s} : rX f c (some (.normal, s)) = (canon G f c s).map fun s => (.normal, s) := rfl
@[simp] theorem rX_e {f c i s} : rX f c (some (.exit i, s)) = some (.exit i, s) := rfl
@[simp] theorem rX_r {f c s} : rX f c (some (.ret, s)) = some (.ret, s) := rfl
@[simp] theorem rX_p {f c v s} : rX f c (some (.pan v, s)) = some (.pan v, s) := rfl
theorem mapHead_no {f : FuncId} {c : Code} {q : Nat × Nat × Nat × Nat × Code × Code} (h : mapHead c = some q) (st : ASt) : codeX G cl lp f c st = none := by
  have reg : ∀ {id ops cnd rest q}, mapRegion id ops cnd rest = some q → codeX G cl lp f (.region id ops false) st = none := by
    intro id ops cnd rest q h
    unfold mapRegion at h
    split at h
    · rename_i he
      obtain ⟨l⟩ := ops
      simp only at he
      subst he
      have ho : ∀ (P : Program) (ev : Operand → AV) (hp : Heap) (o : Operand), opv P ev hp (.next o false) = none := fun _ _ _ _ => rfl
      simp [aopsL, guardA, aop, calledA, invokedA, aopB, ho]
      try (cases G.live f id <;> rfl)
    · cases h
  unfold mapHead at h
  split at h
  · simp only [cx_seq, reg h]; rfl
  · simp only [cx_seq, reg h]; rfl
  · cases h
theorem loop_no {f : FuncId} {c : Code} {st s : ASt} {x : AX} (h : rX f c (codeX G cl lp f c st) = some (x, s)) : mapHead c = none := by
  cases hm : mapHead c with
  | none => rfl
  | some q => rw [mapHead_no hm] at h; cases h
theorem loop_next {f : FuncId} {c : Code} {st st' : ASt} {r : AX × ASt} (h : rX f c (codeX G cl lp f c st) = some (.normal, st')) (hr : lp f c st' = some r) : lp f c st = some r := by
  refine loop_intro ?_
  unfold loopStep
  rw [loop_no h]
  show loopStep0 G _ _ f c st = _
  unfold loopStep0
  cases hx : codeX G cl lp f c st with
  | none => rw [hx] at h; cases h
  | some y =>
    obtain ⟨x, s⟩ := y
    rw [hx] at h
    cases x with
    | normal =>
      obtain ⟨s2, h1, h2⟩ := Option.map_eq_some_iff.1 h
      cases h2
      simp only [Option.bind_some, h1]; exact hr
    | _ => cases h
theorem loop_out {f : FuncId} {c : Code} {st s : ASt} {x : AX} (h : rX f c (codeX G cl lp f c st) = some (x, s)) (hx : x ≠ .normal) : lp f c st = some (x, s) := by
  refine loop_intro ?_
  unfold loopStep
  rw [loop_no h]
  show loopStep0 G _ _ f c st = _
  unfold loopStep0
  cases hy : codeX G cl lp f c st with
  | none => rw [hy] at h; cases h
  | some y =>
    obtain ⟨x', s'⟩ := y
    rw [hy] at h
    cases x' with
    | normal =>
      obtain ⟨s2, h1, h2⟩ := Option.map_eq_some_iff.1 h
      cases h2; exact absurd rfl hx
    | _ => exact h
/-- The code of a function's first loop; of the next. -/
def loopsOf : Code → List Code
  | .seq a b => loopsOf a ++ loopsOf b
  | .cond _ a b => loopsOf a ++ loopsOf b
  | .block _ b => loopsOf b
  | .loop b => b :: loopsOf b
  | _ => []
noncomputable def lc (f : Func) (k : Nat) : Code := ((loopsOf (f.body.getD .skip))[k]?).getD .skip

theorem i64_wrap {a : Int} (h1 : -9223372036854775808 ≤ a) (h2 : a ≤ 9223372036854775807) : IntKind.i64.wrap a = a := by rw [IntKind.wrap_i64]; omega

/-- A loop over the numbers below n, that may be left early. -/
theorem for_loop {f : FuncId} {c : Code} {n : Nat} {σ : Nat → ASt} {P : Nat → Prop} {Q : AX → ASt → Prop}
    (hstep : ∀ i, i < n → P i → (rX f c (codeX G cl lp f c (σ i)) = some (.normal, σ (i + 1)) ∧ P (i + 1)) ∨ ∃ x s, rX f c (codeX G cl lp f c (σ i)) = some (x, s) ∧ x ≠ .normal ∧ Q x s)
    (hend : P n → ∃ x s, rX f c (codeX G cl lp f c (σ n)) = some (x, s) ∧ x ≠ .normal ∧ Q x s) : ∀ i, i ≤ n → P i → ∃ x s, lp f c (σ i) = some (x, s) ∧ Q x s := by
  intro i hi
  generalize hk : n - i = k
  induction k generalizing i with
  | zero =>
    intro hp
    obtain rfl : i = n := by omega
    obtain ⟨x, s, h1, h2, h3⟩ := hend hp
    exact ⟨x, s, loop_out h1 h2, h3⟩
  | succ k ih =>
    intro hp
    rcases hstep i (by omega) hp with ⟨h1, h2⟩ | ⟨x, s, h1, h2, h3⟩
    · obtain ⟨x, s, h3, h4⟩ := ih (i + 1) (by omega) (by omega) h2
      exact ⟨x, s, loop_next h1 h3, h4⟩
    · exact ⟨x, s, loop_out h1 h2, h3⟩
attribute [simp] canonK_p

/-! Few -/
end Go.Proofs.YtbjphckpbkacaaaGreatDoor


/- What the functions come to: rows of nodes that are the same; texts that are too long. -/
namespace Go.Proofs.YtbjphckpbkacaaaGreatDoor
open Go Abs
set_option linter.unusedSimpArgs false
set_option linter.unusedVariables false

theorem take_eq_of {α : Type} {l m : List α} {i : Nat} (h : l.take i = m.take i) {x y : α} (hx : l[i]? = some x) (hy : m[i]? = some y) : l.take (i + 1) = m.take (i + 1) ↔ x = y := by
  rw [List.take_add_one, List.take_add_one, hx, hy, h]
  simp

end Go.Proofs.YtbjphckpbkacaaaGreatDoor


/- What the functions come to: a value, gone through. -/
namespace Go.Proofs.YtbjphckpbkacaaaGreatDoor
open Go Abs
set_option linter.unusedSimpArgs false
set_option linter.unusedVariables false

structure Span where
  stop : Nat
  deep : Nat
  kids : List Nat
def intsL (l : List Nat) : List AV := l.map fun (k : Nat) => AV.int .i64 (k : Int)
def spanV (s : Span) : AV := .agg [.int .i64 s.stop, .int .i64 s.deep, .list 1 (intsL s.kids)]
def valσ (l : List Nd) (at_ : Nat) (s : Span) (last : List UInt8) (i : Nat) (mv : Bool) : ASt :=
  ⟨[(0, nds l), (1, .int .i64 at_), (4, .ptr 1004 0 0), (5, .ptr 1005 0 0), (6, .str last), (7, .int .i64 i)],
   [(1004, .box 92 (.agg [.int .i64 0, .int .i64 0, .nils])), (1005, .box 92 (.agg [.int .i64 s.stop, .int .i64 s.deep, .own 200502])), (200502, .row 1 (intsL s.kids) false ⟨mv, 3⟩)]⟩

-- What a loop's head is unfolded by, where there is memory.
attribute [local simp] canonK canonAll canonSlot canonCell canonBox ownStep restrictTo pureCells pureRows reachL AObj.names List.range_succ appendA spanV intsL valσ nds Nd.v

end Go.Proofs.YtbjphckpbkacaaaGreatDoor


/- What the functions come to: the document's value, gone through. -/
namespace Go.Proofs.YtbjphckpbkacaaaGreatDoor
open Go Abs
set_option linter.unusedSimpArgs false
set_option linter.unusedVariables false

/-- Numbers, in a row that may be nil. -/
def rowV (l : List Nat) : AV := if l = [] then .nils else .list 1 (intsL l)
@[simp high] theorem rowV_rv {hp l} : (rowV l).rv hp = rowV l := by unfold rowV; split <;> rfl
@[simp high] theorem rowV_names {l} : (rowV l).names = [] := by unfold rowV; split <;> rfl
@[simp high] theorem rowV_rows {l} : (rowV l).rows = [] := by unfold rowV; split <;> rfl
@[simp high] theorem rowV_ren {m l} : (rowV l).ren m = rowV l := by unfold rowV; split <;> rfl
@[simp high] theorem rowV_kill {n l} : (rowV l).kill n = rowV l := by unfold rowV; split <;> rfl
@[simp high] theorem rowV_cells {l} : (rowV l).cells = [rowV l] := by unfold rowV; split <;> rfl
@[simp high] theorem rowV_ok {l} : okCell (rowV l) = true := by unfold rowV; split <;> rfl
@[simp high] theorem rowV_known {l} : (rowV l).known = true := by unfold rowV; split <;> rfl
@[simp high] theorem rowV_beq {l} : AV.beq (rowV l) (rowV l) = true := by
  refine beq_self ?_
  unfold rowV
  split
  · rfl
  · exact plainBL_map (fun a => rfl) l
@[simp high] theorem rowV_src {hp l} : srcEls hp 1 (rowV l) = some (intsL l) := by
  unfold rowV
  split
  · rename_i h; subst h; rfl
  · simp
@[simp] theorem plainBL_ints {l : List Nat} : AV.plainBL (intsL l) = true := plainBL_map (fun a => rfl) l

def seenV (stop deep : Int) (bad : Bool) (kids keys : List Nat) : AV := .agg [.int .i64 stop, .int .i64 deep, .bool bad, rowV kids, rowV keys]
@[simp] theorem nds_beq {l : List Nd} : AV.beqL (l.map Nd.v) (l.map Nd.v) = true := beqL_self (plainBL_map (fun _ => rfl) l)
-- What a loop's head is unfolded by, where there is memory.
attribute [local simp] canonK canonAll canonSlot canonCell canonBox ownStep restrictTo pureCells pureRows reachL AObj.names List.range_succ appendA nds Nd.v  seenV bsvV

end Go.Proofs.YtbjphckpbkacaaaGreatDoor


/- Methods of interface values: whom a name leads to, told by the method's row. -/
namespace Go.Proofs.YtbjphckpbkacaaaGreatDoor.Abs
open Go Go.RowKit
set_option linter.unusedSimpArgs false
set_option linter.unusedVariables false

/-- A method's row: whom it leads to, and whether it wants a pointer. -/
def methRow (P : Program) (t : TypeId) (n : String) : Option (FuncId × Bool) :=
  ((P.info? t).bind fun i => i.methods.find? (·.name == n)).bind fun m => if m.path = #[] then m.func else none

theorem methRow_run {P : Program} {t : TypeId} {n : String} {f : FuncId} {pt : Bool} (h : methRow P t n = some (f, pt)) (k : Nat) (v : Value) (w : World) :
    (method (k + 1) t v n).run P w = (receiverAt t (.val v) pt (some ((n.splitOn ".").getLastD n)) >>= fun r => pure (f, r)).run P w := by
  unfold methRow at h
  cases hi : P.info? t with
  | none => rw [hi] at h; cases h
  | some i =>
    rw [hi] at h
    simp only [Option.bind_some] at h
    cases hm : i.methods.find? (·.name == n) with
    | none => rw [hm] at h; cases h
    | some m =>
      rw [hm] at h
      simp only [Option.bind_some] at h
      split at h
      · rename_i hp
        simp only [method, typeInfo, Sem.run_bind, run_program, Result.andThen_ok, hi, Sem.run_pure, hm, hp, h, follow, bind_pure_comp]
        simp
      · cases h
theorem underlying_some {P : Program} {t : TypeId} {d : TypeDesc} (h : P.underlying t = some d) (w : World) : (underlying t).run P w = .ok d w := by
  simp [underlying, run_program, h]
theorem methSelf {P : Program} {t : TypeId} {n : String} {f : FuncId} (h : methRow P t n = some (f, true)) (hu : (P.underlying t).any (fun d => match d with | .pointer _ => true | _ => false) = true) (k : Nat) (v : Value) (w : World) :
    (method (k + 1) t v n).run P w = .ok (f, v) w := by
  rw [methRow_run h]
  cases hd : P.underlying t with
  | none => rw [hd] at hu; cases hu
  | some d =>
    rw [hd] at hu
    cases d with
    | pointer e => simp [receiverAt, underlying_some hd, Place.get]
    | _ => cases hu
theorem methVal {P : Program} {t : TypeId} {n : String} {f : FuncId} (h : methRow P t n = some (f, false)) (hu : (P.underlying t).any (fun d => match d with | .pointer _ => false | _ => true) = true) (k : Nat) (v : Value) (w : World) :
    (method (k + 1) t v n).run P w = .ok (f, v) w := by
  rw [methRow_run h]
  cases hd : P.underlying t with
  | none => rw [hd] at hu; cases hu
  | some d =>
    rw [hd] at hu
    cases d with
    | pointer e => cases hu
    | _ => simp [receiverAt, underlying_some hd, Place.get]
theorem methLoad {P : Program} {t te : TypeId} {n : String} {f : FuncId} (h : methRow P t n = some (f, false)) (hu : P.underlying t = some (.pointer te)) (k : Nat) (v u : Value) (w : World) (hl : (Instr.loadAt te v).run P w = .ok u w) :
    (method (k + 1) t v n).run P w = .ok (f, u) w := by
  rw [methRow_run h]
  have no : ∀ x : Value, (∀ a, x ≠ .pointer (some a)) → (Instr.loadAt te x).run P w ≠ .ok u w := by
    intro x hx
    unfold Instr.loadAt Instr.sureAddr
    split
    · exact absurd rfl (hx _)
    · simp [stuck]
  match v, hl with
  | .pointer (some a), hl =>
    have hc : ∀ ts t x y, Builtin.ssaWrapNilChk_ ts t #[.pointer (some a), .string x, .string y] = pure (.pointer (some a)) := fun _ _ _ _ => rfl
    have hl' : (loadVar te a).run P w = .ok u w := by simpa [Instr.loadAt, Instr.sureAddr] using hl
    simp [receiverAt, underlying_some hu, Place.get, hc, strVal, asAddr, hl']
  | .pointer none, hl => exact absurd hl (no _ (by simp))
  | .bool _, hl | .int _ _, hl | .float _ _, hl | .complex _ _ _, hl | .string _, hl | .slice _ _ _, hl | .map _, hl | .chan _, hl | .func _ _ _, hl | .nilFunc, hl | .iface _ _, hl | .nilIface, hl | .agg _, hl | .tuple _, hl => exact absurd hl (no _ (by simp))
theorem methFn {P : Program} {t : TypeId} {n : String} {f : FuncId} {pt : Bool} (h : methRow P t n = some (f, pt)) (k : Nat) (v : Value) (w w' : World) {g : FuncId} {r : Value} (hr : (method (k + 1) t v n).run P w = .ok (g, r) w') : g = f := by
  rw [methRow_run h] at hr
  simp only [Sem.run_bind] at hr
  cases hx : (receiverAt t (.val v) pt (some ((n.splitOn ".").getLastD n))).run P w with
  | ok x w1 => rw [hx] at hr; simp at hr; exact hr.1.1.symm
  | halt x w1 => rw [hx] at hr; simp at hr
theorem depth_pos (P : Program) : ∃ k, P.types.size + Made.depth = k + 1 := by
  have h : 0 < Made.depth := by decide
  exact ⟨P.types.size + (Made.depth - 1), by omega⟩
theorem methSelfD {P : Program} {t : TypeId} {n : String} {f : FuncId} (h : methRow P t n = some (f, true)) (hu : (P.underlying t).any (fun d => match d with | .pointer _ => true | _ => false) = true) (v : Value) (w : World) :
    (method (P.types.size + Made.depth) t v n).run P w = .ok (f, v) w := by
  obtain ⟨k, hk⟩ := depth_pos P; rw [hk]; exact methSelf h hu k v w
theorem methValD {P : Program} {t : TypeId} {n : String} {f : FuncId} (h : methRow P t n = some (f, false)) (hu : (P.underlying t).any (fun d => match d with | .pointer _ => false | _ => true) = true) (v : Value) (w : World) :
    (method (P.types.size + Made.depth) t v n).run P w = .ok (f, v) w := by
  obtain ⟨k, hk⟩ := depth_pos P; rw [hk]; exact methVal h hu k v w
theorem methLoadD {P : Program} {t te : TypeId} {n : String} {f : FuncId} (h : methRow P t n = some (f, false)) (hu : P.underlying t = some (.pointer te)) (v u : Value) (w : World) (hl : (Instr.loadAt te v).run P w = .ok u w) :
    (method (P.types.size + Made.depth) t v n).run P w = .ok (f, u) w := by
  obtain ⟨k, hk⟩ := depth_pos P; rw [hk]; exact methLoad h hu k v u w hl
theorem methFnD {P : Program} {t : TypeId} {n : String} {f : FuncId} {pt : Bool} (h : methRow P t n = some (f, pt)) (v : Value) (w w' : World) {g : FuncId} {r : Value} (hr : (method (P.types.size + Made.depth) t v n).run P w = .ok (g, r) w') : g = f := by
  obtain ⟨k, hk⟩ := depth_pos P; rw [hk] at hr; exact methFn h k v w w' hr
theorem mem_of_lookup {α β : Type} [BEq α] [LawfulBEq α] : ∀ {l : List (α × β)} {k : α} {v : β}, l.lookup k = some v → (k, v) ∈ l := by
  intro l
  induction l with
  | nil => intro k v h; cases h
  | cons x r ih =>
    obtain ⟨a, b⟩ := x
    intro k v h
    rw [List.lookup_cons] at h
    cases he : k == a with
    | true =>
      rw [he] at h; cases h
      have e : k = a := by simpa using he
      subst e
      simp
    | false => rw [he] at h; exact List.mem_cons_of_mem _ (ih h)
end Go.Proofs.YtbjphckpbkacaaaGreatDoor.Abs


/- strings.Builder's String, walked. -/
namespace Go.Proofs.YtbjphckpbkacaaaGreatDoor
open Go Abs Go.RowKit
set_option linter.unusedSimpArgs false
set_option linter.unusedVariables false

@[simp, go_sem] theorem FW_fn {r f} : (FW r).fn f = (f < NF) := rfl
@[simp, go_sem] theorem FW_depth {r} : (FW r).depth = none := rfl
@[simp, go_sem] theorem FW_round {r} : (FW r).round = r := rfl
@[simp, go_sem] theorem NF_eq : NF = 212 := rfl
theorem cellsByte : Tryz.prog.cellsOf 5 = 1 := by kernel_rfl
set_option maxHeartbeats 2000000 in
set_option maxRecDepth 100000 in
theorem string_some (w : World) (b k : Nat) (l : List UInt8) (cap : Nat) (cells : Array Value) (fr : Nat × Nat) (hc : w.cell? (at0 b 1) = some (.slice (some (at0 k 0)) l.length cap)) (hk : w.heap[k]? = some (.cells cells 5 fr)) (h0 : l ≠ []) (hcap : l.length ≤ cap)
    (hl : ∀ (j : Nat) x, l[j]? = some x → w.cell? (at0 k j) = some (.int .u8 x.toNat)) (hsz : l.length ≤ cells.size) (h63 : l.length ≤ 9223372036854775807) :
    CallsIn (FW none) 0 Tryz.prog 35 #[.pointer (some (at0 b 0))] w fun e w' => e = .returned (.string ⟨l.toArray⟩) ∧ w' = w.drew.freeze (at0 k 0) l.length := by
  have hl0 : l.length ≠ 0 := by simpa using h0
  have c1 : w.drew.cell? ⟨b, 1, none⟩ = some (.slice (some ⟨k, 0, none⟩) l.length cap) := hc
  have c0 : w.cell? ⟨b, 1, none⟩ = some (.slice (some ⟨k, 0, none⟩) l.length cap) := hc
  have hSD : ∀ W, (Builtin.unsafeSliceData_ #[71] 108 #[.slice (some ⟨k, 0, none⟩) l.length cap]).run Tryz.prog W = .ok (.pointer (some ⟨k, 0, none⟩)) W :=
    fun W => Lib.run_unsafeSliceData_row _ _ _ _ _ _ (by omega)
  have hUS : (Builtin.unsafeString_ #[108, 3] 9 #[.pointer (some ⟨k, 0, none⟩), .int .i64 l.length]).run Tryz.prog w.drew = .ok (.string ⟨l.toArray⟩) (w.drew.freeze ⟨k, 0, none⟩ l.length) := by
    refine Lib.run_unsafeString_row w.drew 108 3 9 5 (by kernel_rfl) cellsByte k cells.size (by have hg' : w.drew.heap[k]? = some (.cells cells 5 fr) := hk; simp [World.shape?, hg']) l h0 (by omega) (by omega) ?_
    intro j x hx
    have := hl j x hx
    simp only [Addr.add]
    split
    · rename_i e; subst e; exact this
    · simpa [at0] using this
  have mixed : Tryz.prog.follows .mixedOrders = true := by kernel_rfl
  show CallsIn (FW none) 0 Tryz.prog 35 #[.pointer (some ⟨b, 0, none⟩)] w fun e w' => e = .returned (.string ⟨l.toArray⟩) ∧ w' = w.drew.freeze ⟨k, 0, none⟩ l.length
  gi_enter Tryz.func35, Tryz.ntmps35
  gi_wp2
  gi_region_o
  all_goals (gi_wp2; go_ret; exact ⟨rfl, rfl⟩)
theorem us_none (W : World) (q : Option Addr) : (Builtin.unsafeString_ #[108, 3] 9 #[.pointer q, .int .i64 0]).run Tryz.prog W = .ok (.string .empty) W := Lib.run_unsafeString_none W _ _ _ q
set_option maxHeartbeats 2000000 in
set_option maxRecDepth 100000 in
theorem string_none (w : World) (b : Nat) (hc : w.cell? (at0 b 1) = some (.slice none 0 0)) :
    CallsIn (FW none) 0 Tryz.prog 35 #[.pointer (some (at0 b 0))] w fun e w' => e = .returned (.string ⟨#[]⟩) ∧ w' = w.drew := by
  have hUS := us_none
  have c1 : w.drew.cell? ⟨b, 1, none⟩ = some (.slice none 0 0) := hc
  have c0 : w.cell? ⟨b, 1, none⟩ = some (.slice none 0 0) := hc
  have hSD : ∀ W, (Builtin.unsafeSliceData_ #[71] 108 #[.slice none 0 0]).run Tryz.prog W = .ok (.pointer none) W := fun W => rfl
  have mixed : Tryz.prog.follows .mixedOrders = true := by kernel_rfl
  show CallsIn (FW none) 0 Tryz.prog 35 #[.pointer (some ⟨b, 0, none⟩)] w fun e w' => e = .returned (.string ⟨#[]⟩) ∧ w' = w.drew
  gi_enter Tryz.func35, Tryz.ntmps35
  gi_wp2
  gi_region_o
  all_goals (gi_wp2; go_ret; exact ⟨rfl, rfl⟩)
set_option maxHeartbeats 2000000 in
set_option maxRecDepth 100000 in
theorem string_room (w : World) (b k cap : Nat) (hcap : cap ≠ 0) (hc : w.cell? (at0 b 1) = some (.slice (some (at0 k 0)) 0 cap)) :
    CallsIn (FW none) 0 Tryz.prog 35 #[.pointer (some (at0 b 0))] w fun e w' => e = .returned (.string ⟨#[]⟩) ∧ w' = w.drew := by
  have hUS := us_none
  have c1 : w.drew.cell? ⟨b, 1, none⟩ = some (.slice (some ⟨k, 0, none⟩) 0 cap) := hc
  have c0 : w.cell? ⟨b, 1, none⟩ = some (.slice (some ⟨k, 0, none⟩) 0 cap) := hc
  have hSD : ∀ W, (Builtin.unsafeSliceData_ #[71] 108 #[.slice (some ⟨k, 0, none⟩) 0 cap]).run Tryz.prog W = .ok (.pointer (some ⟨k, 0, none⟩)) W :=
    fun W => Lib.run_unsafeSliceData_row _ _ _ _ _ _ hcap
  have mixed : Tryz.prog.follows .mixedOrders = true := by kernel_rfl
  show CallsIn (FW none) 0 Tryz.prog 35 #[.pointer (some ⟨b, 0, none⟩)] w fun e w' => e = .returned (.string ⟨#[]⟩) ∧ w' = w.drew
  gi_enter Tryz.func35, Tryz.ntmps35
  gi_wp2
  gi_region_o
  all_goals (gi_wp2; go_ret; exact ⟨rfl, rfl⟩)
set_option maxHeartbeats 2000000 in
set_option maxRecDepth 100000 in
theorem string_noroom (w : World) (b k : Nat) (cells : Array Value) (t : TypeId) (fr : Nat × Nat) (hc : w.cell? (at0 b 1) = some (.slice (some (at0 k 0)) 0 0)) (hk : w.heap[k]? = some (.cells cells t fr)) :
    CallsIn (FW none) 0 Tryz.prog 35 #[.pointer (some (at0 b 0))] w fun e w' => e = .returned (.string ⟨#[]⟩) ∧ w' = w.drew.alloc (.view ⟨k, 0, none⟩ 5) := by
  have hUS := us_none
  have hlt : b < w.heap.size := by
    have h := hc
    unfold World.cell? at h
    split at h
    · rename_i c t fr hb
      exact (Array.getElem?_eq_some_iff.1 hb).1
    · cases h
  have c1 : w.drew.cell? ⟨b, 1, none⟩ = some (.slice (some ⟨k, 0, none⟩) 0 0) := hc
  have c0 : w.cell? ⟨b, 1, none⟩ = some (.slice (some ⟨k, 0, none⟩) 0 0) := hc
  have hSD : (Builtin.unsafeSliceData_ #[71] 108 #[.slice (some ⟨k, 0, none⟩) 0 0]).run Tryz.prog w.drew = .ok (.pointer (some ⟨w.drew.heap.size, 0, none⟩)) (w.drew.alloc (.view ⟨k, 0, none⟩ 5)) :=
    Lib.run_unsafeSliceData_zero w.drew _ _ 5 (by kernel_rfl) ⟨k, 0, none⟩ 0 (t, cells.size) (by have hg' : w.drew.heap[k]? = some (.cells cells t fr) := hk; simp [World.shape?, hg'])
  have c2 : (w.drew.alloc (.view ⟨k, 0, none⟩ 5)).cell? ⟨b, 1, none⟩ = some (.slice (some ⟨k, 0, none⟩) 0 0) := by
    rw [World.cell?_alloc_lt _ _ _ (by exact hlt)]; exact hc
  have c3 : (w.alloc (.view ⟨k, 0, none⟩ 5)).drew.cell? ⟨b, 1, none⟩ = some (.slice (some ⟨k, 0, none⟩) 0 0) := c2
  have mixed : Tryz.prog.follows .mixedOrders = true := by kernel_rfl
  show CallsIn (FW none) 0 Tryz.prog 35 #[.pointer (some ⟨b, 0, none⟩)] w fun e w' => e = .returned (.string ⟨#[]⟩) ∧ w' = w.drew.alloc (.view ⟨k, 0, none⟩ 5)
  gi_enter Tryz.func35, Tryz.ntmps35
  gi_wp2
  gi_region_o
  all_goals (gi_wp2; go_ret; exact ⟨rfl, rfl⟩)
theorem strRun : StrRun Tryz.prog 35 5 where
  some_ := string_some
  none_ := string_none
  zero_ := fun w b k cap cells t fr hc hk => by
    by_cases h : cap = 0
    · subst h
      exact (string_noroom w b k cells t fr hc hk).mono fun e w' ⟨h1, h2⟩ => ⟨h1, .inr ⟨_, h2⟩⟩
    · exact (string_room w b k cap h hc).mono fun e w' ⟨h1, h2⟩ => ⟨h1, .inl h2⟩
end Go.Proofs.YtbjphckpbkacaaaGreatDoor

