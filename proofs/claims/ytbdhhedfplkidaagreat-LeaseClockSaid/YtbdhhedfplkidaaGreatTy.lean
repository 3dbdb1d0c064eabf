/- What the walk asks of the program's types: their zero values, sizes, fields, kinds. Written by gents.py off the loaded program. -/
import Derived.Test.YtbdhhedfplkidaaGreatE1
import Derived.KernelRfl
namespace Go.Proofs.YtbdhhedfplkidaaGreat
open Go

instance : TI 2 (Go.Value.int Go.IntKind.i64 0) 1 false := ⟨Tryz.zeroValue2, Tryz.sizeOf2, Tryz.isAgg2⟩
instance : TD 2 (Go.TypeDesc.int Go.IntKind.i64) := ⟨Tryz.underlying2⟩
instance : TB 2 Tryz.t2 (Go.Value.int Go.IntKind.i64 0) 1 8 := ⟨by kernel_rfl, rfl, rfl, rfl⟩
instance : TI 3 (Go.Value.int Go.IntKind.i64 0) 1 false := ⟨Tryz.zeroValue3, Tryz.sizeOf3, Tryz.isAgg3⟩
instance : TD 3 (Go.TypeDesc.int Go.IntKind.i64) := ⟨Tryz.underlying3⟩
instance : TB 3 Tryz.t3 (Go.Value.int Go.IntKind.i64 0) 1 8 := ⟨by kernel_rfl, rfl, rfl, rfl⟩
instance : TI 4 (Go.Value.bool Bool.false) 1 false := ⟨Tryz.zeroValue4, Tryz.sizeOf4, Tryz.isAgg4⟩
instance : TD 4 Go.TypeDesc.bool := ⟨Tryz.underlying4⟩
instance : TB 4 Tryz.t4 (Go.Value.bool Bool.false) 1 1 := ⟨by kernel_rfl, rfl, rfl, rfl⟩
instance : TI 5 (Go.Value.int Go.IntKind.u8 0) 1 false := ⟨Tryz.zeroValue5, Tryz.sizeOf5, Tryz.isAgg5⟩
instance : TD 5 (Go.TypeDesc.int Go.IntKind.u8) := ⟨Tryz.underlying5⟩
instance : TB 5 Tryz.t5 (Go.Value.int Go.IntKind.u8 0) 1 1 := ⟨by kernel_rfl, rfl, rfl, rfl⟩
instance : TI 6 (Go.Value.int Go.IntKind.u8 0) 1 false := ⟨Tryz.zeroValue6, Tryz.sizeOf6, Tryz.isAgg6⟩
instance : TD 6 (Go.TypeDesc.int Go.IntKind.u8) := ⟨Tryz.underlying6⟩
instance : TB 6 Tryz.t6 (Go.Value.int Go.IntKind.u8 0) 1 1 := ⟨by kernel_rfl, rfl, rfl, rfl⟩
instance : TI 7 (Go.Value.agg #[Go.Value.int Go.IntKind.i64 0, Go.Value.int Go.IntKind.i64 0, Go.Value.bool Bool.false, Go.Value.int Go.IntKind.u8 0]) 4 true := ⟨Tryz.zeroValue7, Tryz.sizeOf7, Tryz.isAgg7⟩
instance : TF 7 0 0 := mkTF Tryz.underlying7 rfl Tryz.sizeOf2 (by decide)
instance : TF 7 1 1 := mkTF Tryz.underlying7 rfl Tryz.sizeOf3 (by decide)
instance : TF 7 2 2 := mkTF Tryz.underlying7 rfl Tryz.sizeOf4 (by decide)
instance : TF 7 3 3 := mkTF Tryz.underlying7 rfl Tryz.sizeOf6 (by decide)
instance : TB 7 Tryz.t7 (Go.Value.agg #[Go.Value.int Go.IntKind.i64 0, Go.Value.int Go.IntKind.i64 0, Go.Value.bool Bool.false, Go.Value.int Go.IntKind.u8 0]) 4 24 := ⟨by kernel_rfl, rfl, rfl, rfl⟩
instance : TI 8 (Go.Value.agg #[Go.Value.int Go.IntKind.i64 0, Go.Value.int Go.IntKind.i64 0, Go.Value.bool Bool.false, Go.Value.int Go.IntKind.u8 0]) 4 true := ⟨Tryz.zeroValue8, Tryz.sizeOf8, Tryz.isAgg8⟩
instance : TF 8 0 0 := mkTF Tryz.underlying8 rfl Tryz.sizeOf2 (by decide)
instance : TF 8 1 1 := mkTF Tryz.underlying8 rfl Tryz.sizeOf3 (by decide)
instance : TF 8 2 2 := mkTF Tryz.underlying8 rfl Tryz.sizeOf4 (by decide)
instance : TF 8 3 3 := mkTF Tryz.underlying8 rfl Tryz.sizeOf6 (by decide)
instance : TB 8 Tryz.t8 (Go.Value.agg #[Go.Value.int Go.IntKind.i64 0, Go.Value.int Go.IntKind.i64 0, Go.Value.bool Bool.false, Go.Value.int Go.IntKind.u8 0]) 4 24 := ⟨by kernel_rfl, rfl, rfl, rfl⟩
instance : TI 9 (Go.Value.string { data := #[] }) 1 false := ⟨Tryz.zeroValue9, Tryz.sizeOf9, Tryz.isAgg9⟩
instance : TD 9 Go.TypeDesc.string := ⟨Tryz.underlying9⟩
instance : TB 9 Tryz.t9 (Go.Value.string { data := #[] }) 1 16 := ⟨by kernel_rfl, rfl, rfl, rfl⟩
instance : TI 10 (Go.Value.string { data := #[] }) 1 false := ⟨Tryz.zeroValue10, Tryz.sizeOf10, Tryz.isAgg10⟩
instance : TD 10 Go.TypeDesc.string := ⟨Tryz.underlying10⟩
instance : TB 10 Tryz.t10 (Go.Value.string { data := #[] }) 1 16 := ⟨by kernel_rfl, rfl, rfl, rfl⟩
instance : TI 11 (Go.Value.string { data := #[] }) 1 false := ⟨Tryz.zeroValue11, Tryz.sizeOf11, Tryz.isAgg11⟩
instance : TD 11 Go.TypeDesc.string := ⟨Tryz.underlying11⟩
instance : TB 11 Tryz.t11 (Go.Value.string { data := #[] }) 1 16 := ⟨by kernel_rfl, rfl, rfl, rfl⟩
instance : TI 12 (Go.Value.int Go.IntKind.u64 0) 1 false := ⟨Tryz.zeroValue12, Tryz.sizeOf12, Tryz.isAgg12⟩
instance : TD 12 (Go.TypeDesc.int Go.IntKind.u64) := ⟨Tryz.underlying12⟩
instance : TB 12 Tryz.t12 (Go.Value.int Go.IntKind.u64 0) 1 8 := ⟨by kernel_rfl, rfl, rfl, rfl⟩
instance : TI 13 (Go.Value.agg #[Go.Value.string { data := #[] }, Go.Value.int Go.IntKind.u64 0]) 2 true := ⟨Tryz.zeroValue13, Tryz.sizeOf13, Tryz.isAgg13⟩
instance : TF 13 0 0 := mkTF Tryz.underlying13 rfl Tryz.sizeOf9 (by decide)
instance : TF 13 1 1 := mkTF Tryz.underlying13 rfl Tryz.sizeOf12 (by decide)
instance : TB 13 Tryz.t13 (Go.Value.agg #[Go.Value.string { data := #[] }, Go.Value.int Go.IntKind.u64 0]) 2 24 := ⟨by kernel_rfl, rfl, rfl, rfl⟩
instance : TI 14 (Go.Value.agg #[Go.Value.string { data := #[] }, Go.Value.int Go.IntKind.u64 0]) 2 true := ⟨Tryz.zeroValue14, Tryz.sizeOf14, Tryz.isAgg14⟩
instance : TF 14 0 0 := mkTF Tryz.underlying14 rfl Tryz.sizeOf9 (by decide)
instance : TF 14 1 1 := mkTF Tryz.underlying14 rfl Tryz.sizeOf12 (by decide)
instance : TB 14 Tryz.t14 (Go.Value.agg #[Go.Value.string { data := #[] }, Go.Value.int Go.IntKind.u64 0]) 2 24 := ⟨by kernel_rfl, rfl, rfl, rfl⟩
instance : TI 15 (Go.Value.pointer Option.none) 1 false := ⟨Tryz.zeroValue15, Tryz.sizeOf15, Tryz.isAgg15⟩
instance : TD 15 (Go.TypeDesc.pointer 324) := ⟨Tryz.underlying15⟩
instance : TB 15 Tryz.t15 (Go.Value.pointer Option.none) 1 8 := ⟨by kernel_rfl, rfl, rfl, rfl⟩
instance : TI 16 (Go.Value.pointer Option.none) 1 false := ⟨Tryz.zeroValue16, Tryz.sizeOf16, Tryz.isAgg16⟩
instance : TD 16 (Go.TypeDesc.pointer 327) := ⟨Tryz.underlying16⟩
instance : TB 16 Tryz.t16 (Go.Value.pointer Option.none) 1 8 := ⟨by kernel_rfl, rfl, rfl, rfl⟩
instance : TI 17 (Go.Value.pointer Option.none) 1 false := ⟨Tryz.zeroValue17, Tryz.sizeOf17, Tryz.isAgg17⟩
instance : TD 17 (Go.TypeDesc.pointer 334) := ⟨Tryz.underlying17⟩
instance : TB 17 Tryz.t17 (Go.Value.pointer Option.none) 1 8 := ⟨by kernel_rfl, rfl, rfl, rfl⟩
instance : TI 18 (Go.Value.agg #[Go.Value.pointer Option.none]) 1 true := ⟨Tryz.zeroValue18, Tryz.sizeOf18, Tryz.isAgg18⟩
instance : TF 18 0 0 := mkTF Tryz.underlying18 rfl Tryz.sizeOf17 (by decide)
instance : TB 18 Tryz.t18 (Go.Value.agg #[Go.Value.pointer Option.none]) 1 8 := ⟨by kernel_rfl, rfl, rfl, rfl⟩
instance : TI 19 (Go.Value.agg #[Go.Value.pointer Option.none]) 1 true := ⟨Tryz.zeroValue19, Tryz.sizeOf19, Tryz.isAgg19⟩
instance : TF 19 0 0 := mkTF Tryz.underlying19 rfl Tryz.sizeOf17 (by decide)
instance : TB 19 Tryz.t19 (Go.Value.agg #[Go.Value.pointer Option.none]) 1 8 := ⟨by kernel_rfl, rfl, rfl, rfl⟩
instance : TI 20 Go.Value.nilIface 1 false := ⟨Tryz.zeroValue20, Tryz.sizeOf20, Tryz.isAgg20⟩
instance : TD 20 (Go.TypeDesc.interface #[]) := ⟨Tryz.underlying20⟩
instance : TB 20 Tryz.t20 Go.Value.nilIface 1 16 := ⟨by kernel_rfl, rfl, rfl, rfl⟩
instance : TI 21 (Go.Value.int Go.IntKind.i32 0) 1 false := ⟨Tryz.zeroValue21, Tryz.sizeOf21, Tryz.isAgg21⟩
instance : TD 21 (Go.TypeDesc.int Go.IntKind.i32) := ⟨Tryz.underlying21⟩
instance : TB 21 Tryz.t21 (Go.Value.int Go.IntKind.i32 0) 1 4 := ⟨by kernel_rfl, rfl, rfl, rfl⟩
instance : TI 22 (Go.Value.slice Option.none 0 0) 1 false := ⟨Tryz.zeroValue22, Tryz.sizeOf22, Tryz.isAgg22⟩
instance : TD 22 (Go.TypeDesc.slice 3) := ⟨Tryz.underlying22⟩
instance : TB 22 Tryz.t22 (Go.Value.slice Option.none 0 0) 1 24 := ⟨by kernel_rfl, rfl, rfl, rfl⟩
instance : TI 24 (Go.Value.pointer Option.none) 1 false := ⟨Tryz.zeroValue24, Tryz.sizeOf24, Tryz.isAgg24⟩
instance : TD 24 (Go.TypeDesc.pointer 165) := ⟨Tryz.underlying24⟩
instance : TB 24 Tryz.t24 (Go.Value.pointer Option.none) 1 8 := ⟨by kernel_rfl, rfl, rfl, rfl⟩
instance : TI 26 (Go.Value.int Go.IntKind.i64 0) 1 false := ⟨Tryz.zeroValue26, Tryz.sizeOf26, Tryz.isAgg26⟩
instance : TD 26 (Go.TypeDesc.int Go.IntKind.i64) := ⟨Tryz.underlying26⟩
instance : TB 26 Tryz.t26 (Go.Value.int Go.IntKind.i64 0) 1 8 := ⟨by kernel_rfl, rfl, rfl, rfl⟩
instance : TI 31 (Go.Value.pointer Option.none) 1 false := ⟨Tryz.zeroValue31, Tryz.sizeOf31, Tryz.isAgg31⟩
instance : TD 31 (Go.TypeDesc.pointer 44) := ⟨Tryz.underlying31⟩
instance : TB 31 Tryz.t31 (Go.Value.pointer Option.none) 1 8 := ⟨by kernel_rfl, rfl, rfl, rfl⟩
instance : TI 34 (Go.Value.map Option.none) 1 false := ⟨Tryz.zeroValue34, Tryz.sizeOf34, Tryz.isAgg34⟩
instance : TD 34 (Go.TypeDesc.map 35 9) := ⟨Tryz.underlying34⟩
instance : TB 34 Tryz.t34 (Go.Value.map Option.none) 1 8 := ⟨by kernel_rfl, rfl, rfl, rfl⟩
instance : TI 35 (Go.Value.int Go.IntKind.u64 0) 1 false := ⟨Tryz.zeroValue35, Tryz.sizeOf35, Tryz.isAgg35⟩
instance : TD 35 (Go.TypeDesc.int Go.IntKind.u64) := ⟨Tryz.underlying35⟩
instance : TB 35 Tryz.t35 (Go.Value.int Go.IntKind.u64 0) 1 8 := ⟨by kernel_rfl, rfl, rfl, rfl⟩
instance : TI 39 (Go.Value.pointer Option.none) 1 false := ⟨Tryz.zeroValue39, Tryz.sizeOf39, Tryz.isAgg39⟩
instance : TD 39 (Go.TypeDesc.pointer 183) := ⟨Tryz.underlying39⟩
instance : TB 39 Tryz.t39 (Go.Value.pointer Option.none) 1 8 := ⟨by kernel_rfl, rfl, rfl, rfl⟩
instance : TI 40 (Go.Value.pointer Option.none) 1 false := ⟨Tryz.zeroValue40, Tryz.sizeOf40, Tryz.isAgg40⟩
instance : TD 40 (Go.TypeDesc.pointer 238) := ⟨Tryz.underlying40⟩
instance : TB 40 Tryz.t40 (Go.Value.pointer Option.none) 1 8 := ⟨by kernel_rfl, rfl, rfl, rfl⟩
instance : TI 41 (Go.Value.pointer Option.none) 1 false := ⟨Tryz.zeroValue41, Tryz.sizeOf41, Tryz.isAgg41⟩
instance : TD 41 (Go.TypeDesc.pointer 153) := ⟨Tryz.underlying41⟩
instance : TB 41 Tryz.t41 (Go.Value.pointer Option.none) 1 8 := ⟨by kernel_rfl, rfl, rfl, rfl⟩
instance : TI 42 (Go.Value.pointer Option.none) 1 false := ⟨Tryz.zeroValue42, Tryz.sizeOf42, Tryz.isAgg42⟩
instance : TD 42 (Go.TypeDesc.pointer 192) := ⟨Tryz.underlying42⟩
instance : TB 42 Tryz.t42 (Go.Value.pointer Option.none) 1 8 := ⟨by kernel_rfl, rfl, rfl, rfl⟩
instance : TI 43 (Go.Value.agg #[Go.Value.pointer Option.none, Go.Value.pointer Option.none, Go.Value.pointer Option.none, Go.Value.pointer Option.none, Go.Value.int Go.IntKind.i64 0]) 5 true := ⟨Tryz.zeroValue43, Tryz.sizeOf43, Tryz.isAgg43⟩
instance : TF 43 0 0 := mkTF Tryz.underlying43 rfl Tryz.sizeOf39 (by decide)
instance : TF 43 1 1 := mkTF Tryz.underlying43 rfl Tryz.sizeOf40 (by decide)
instance : TF 43 2 2 := mkTF Tryz.underlying43 rfl Tryz.sizeOf41 (by decide)
instance : TF 43 3 3 := mkTF Tryz.underlying43 rfl Tryz.sizeOf42 (by decide)
instance : TF 43 4 4 := mkTF Tryz.underlying43 rfl Tryz.sizeOf3 (by decide)
instance : TB 43 Tryz.t43 (Go.Value.agg #[Go.Value.pointer Option.none, Go.Value.pointer Option.none, Go.Value.pointer Option.none, Go.Value.pointer Option.none, Go.Value.int Go.IntKind.i64 0]) 5 40 := ⟨by kernel_rfl, rfl, rfl, rfl⟩
instance : TI 44 (Go.Value.agg #[Go.Value.pointer Option.none, Go.Value.pointer Option.none, Go.Value.pointer Option.none, Go.Value.pointer Option.none, Go.Value.int Go.IntKind.i64 0]) 5 true := ⟨Tryz.zeroValue44, Tryz.sizeOf44, Tryz.isAgg44⟩
instance : TF 44 0 0 := mkTF Tryz.underlying44 rfl Tryz.sizeOf39 (by decide)
instance : TF 44 1 1 := mkTF Tryz.underlying44 rfl Tryz.sizeOf40 (by decide)
instance : TF 44 2 2 := mkTF Tryz.underlying44 rfl Tryz.sizeOf41 (by decide)
instance : TF 44 3 3 := mkTF Tryz.underlying44 rfl Tryz.sizeOf42 (by decide)
instance : TF 44 4 4 := mkTF Tryz.underlying44 rfl Tryz.sizeOf3 (by decide)
instance : TB 44 Tryz.t44 (Go.Value.agg #[Go.Value.pointer Option.none, Go.Value.pointer Option.none, Go.Value.pointer Option.none, Go.Value.pointer Option.none, Go.Value.int Go.IntKind.i64 0]) 5 40 := ⟨by kernel_rfl, rfl, rfl, rfl⟩
instance : TI 48 (Go.Value.slice Option.none 0 0) 1 false := ⟨Tryz.zeroValue48, Tryz.sizeOf48, Tryz.isAgg48⟩
instance : TD 48 (Go.TypeDesc.slice 55) := ⟨Tryz.underlying48⟩
instance : TB 48 Tryz.t48 (Go.Value.slice Option.none 0 0) 1 24 := ⟨by kernel_rfl, rfl, rfl, rfl⟩
instance : TI 54 (Go.Value.agg #[Go.Value.int Go.IntKind.u64 0, Go.Value.string { data := #[] }]) 2 true := ⟨Tryz.zeroValue54, Tryz.sizeOf54, Tryz.isAgg54⟩
instance : TF 54 0 0 := mkTF Tryz.underlying54 rfl Tryz.sizeOf35 (by decide)
instance : TF 54 1 1 := mkTF Tryz.underlying54 rfl Tryz.sizeOf9 (by decide)
instance : TB 54 Tryz.t54 (Go.Value.agg #[Go.Value.int Go.IntKind.u64 0, Go.Value.string { data := #[] }]) 2 24 := ⟨by kernel_rfl, rfl, rfl, rfl⟩
instance : TI 55 (Go.Value.agg #[Go.Value.int Go.IntKind.u64 0, Go.Value.string { data := #[] }]) 2 true := ⟨Tryz.zeroValue55, Tryz.sizeOf55, Tryz.isAgg55⟩
instance : TF 55 0 0 := mkTF Tryz.underlying55 rfl Tryz.sizeOf35 (by decide)
instance : TF 55 1 1 := mkTF Tryz.underlying55 rfl Tryz.sizeOf9 (by decide)
instance : TB 55 Tryz.t55 (Go.Value.agg #[Go.Value.int Go.IntKind.u64 0, Go.Value.string { data := #[] }]) 2 24 := ⟨by kernel_rfl, rfl, rfl, rfl⟩
instance : TI 59 (Go.Value.int Go.IntKind.u32 0) 1 false := ⟨Tryz.zeroValue59, Tryz.sizeOf59, Tryz.isAgg59⟩
instance : TD 59 (Go.TypeDesc.int Go.IntKind.u32) := ⟨Tryz.underlying59⟩
instance : TB 59 Tryz.t59 (Go.Value.int Go.IntKind.u32 0) 1 4 := ⟨by kernel_rfl, rfl, rfl, rfl⟩
instance : TI 60 (Go.Value.agg #[Go.Value.int Go.IntKind.i64 0, Go.Value.int Go.IntKind.i64 0, Go.Value.int Go.IntKind.i64 0, Go.Value.int Go.IntKind.u64 0]) 4 true := ⟨Tryz.zeroValue60, Tryz.sizeOf60, Tryz.isAgg60⟩
instance : TF 60 0 0 := mkTF Tryz.underlying60 rfl Tryz.sizeOf3 (by decide)
instance : TF 60 1 1 := mkTF Tryz.underlying60 rfl Tryz.sizeOf3 (by decide)
instance : TF 60 2 2 := mkTF Tryz.underlying60 rfl Tryz.sizeOf3 (by decide)
instance : TF 60 3 3 := mkTF Tryz.underlying60 rfl Tryz.sizeOf35 (by decide)
instance : TB 60 Tryz.t60 (Go.Value.agg #[Go.Value.int Go.IntKind.i64 0, Go.Value.int Go.IntKind.i64 0, Go.Value.int Go.IntKind.i64 0, Go.Value.int Go.IntKind.u64 0]) 4 32 := ⟨by kernel_rfl, rfl, rfl, rfl⟩
instance : TI 61 (Go.Value.agg #[Go.Value.int Go.IntKind.i64 0, Go.Value.int Go.IntKind.i64 0, Go.Value.int Go.IntKind.i64 0, Go.Value.int Go.IntKind.u64 0]) 4 true := ⟨Tryz.zeroValue61, Tryz.sizeOf61, Tryz.isAgg61⟩
instance : TF 61 0 0 := mkTF Tryz.underlying61 rfl Tryz.sizeOf3 (by decide)
instance : TF 61 1 1 := mkTF Tryz.underlying61 rfl Tryz.sizeOf3 (by decide)
instance : TF 61 2 2 := mkTF Tryz.underlying61 rfl Tryz.sizeOf3 (by decide)
instance : TF 61 3 3 := mkTF Tryz.underlying61 rfl Tryz.sizeOf35 (by decide)
instance : TB 61 Tryz.t61 (Go.Value.agg #[Go.Value.int Go.IntKind.i64 0, Go.Value.int Go.IntKind.i64 0, Go.Value.int Go.IntKind.i64 0, Go.Value.int Go.IntKind.u64 0]) 4 32 := ⟨by kernel_rfl, rfl, rfl, rfl⟩
instance : TI 67 (Go.Value.slice Option.none 0 0) 1 false := ⟨Tryz.zeroValue67, Tryz.sizeOf67, Tryz.isAgg67⟩
instance : TD 67 (Go.TypeDesc.slice 5) := ⟨Tryz.underlying67⟩
instance : TB 67 Tryz.t67 (Go.Value.slice Option.none 0 0) 1 24 := ⟨by kernel_rfl, rfl, rfl, rfl⟩
instance : TI 68 (Go.Value.agg #[Go.Value.int Go.IntKind.i64 0, Go.Value.int Go.IntKind.i64 0, Go.Value.int Go.IntKind.i64 0, Go.Value.int Go.IntKind.i64 0, Go.Value.int Go.IntKind.i64 0, Go.Value.int Go.IntKind.i64 0, Go.Value.int Go.IntKind.i64 0, Go.Value.int Go.IntKind.i64 0, Go.Value.int Go.IntKind.i64 0, Go.Value.int Go.IntKind.i64 0, Go.Value.int Go.IntKind.i64 0, Go.Value.int Go.IntKind.i64 0, Go.Value.int Go.IntKind.i64 0, Go.Value.int Go.IntKind.i64 0, Go.Value.int Go.IntKind.i64 0, Go.Value.int Go.IntKind.i64 0, Go.Value.int Go.IntKind.i64 0, Go.Value.int Go.IntKind.i64 0, Go.Value.int Go.IntKind.i64 0, Go.Value.int Go.IntKind.i64 0, Go.Value.int Go.IntKind.i64 0, Go.Value.int Go.IntKind.i64 0, Go.Value.int Go.IntKind.i64 0, Go.Value.int Go.IntKind.i64 0, Go.Value.int Go.IntKind.i64 0, Go.Value.int Go.IntKind.i64 0, Go.Value.int Go.IntKind.i64 0, Go.Value.int Go.IntKind.i64 0, Go.Value.int Go.IntKind.i64 0, Go.Value.int Go.IntKind.i64 0, Go.Value.int Go.IntKind.i64 0, Go.Value.int Go.IntKind.i64 0, Go.Value.int Go.IntKind.i64 0, Go.Value.int Go.IntKind.i64 0, Go.Value.int Go.IntKind.i64 0, Go.Value.int Go.IntKind.i64 0, Go.Value.int Go.IntKind.i64 0, Go.Value.int Go.IntKind.i64 0, Go.Value.int Go.IntKind.i64 0, Go.Value.int Go.IntKind.i64 0, Go.Value.int Go.IntKind.i64 0, Go.Value.int Go.IntKind.i64 0, Go.Value.int Go.IntKind.i64 0, Go.Value.int Go.IntKind.i64 0, Go.Value.int Go.IntKind.i64 0, Go.Value.int Go.IntKind.i64 0, Go.Value.int Go.IntKind.i64 0, Go.Value.int Go.IntKind.i64 0, Go.Value.int Go.IntKind.i64 0, Go.Value.int Go.IntKind.i64 0, Go.Value.int Go.IntKind.i64 0, Go.Value.int Go.IntKind.i64 0, Go.Value.int Go.IntKind.i64 0, Go.Value.int Go.IntKind.i64 0, Go.Value.int Go.IntKind.i64 0, Go.Value.int Go.IntKind.i64 0, Go.Value.int Go.IntKind.i64 0, Go.Value.int Go.IntKind.i64 0, Go.Value.int Go.IntKind.i64 0, Go.Value.int Go.IntKind.i64 0]) 60 true := ⟨Tryz.zeroValue68, Tryz.sizeOf68, Tryz.isAgg68⟩
instance : TD 68 (Go.TypeDesc.array 60 3) := ⟨Tryz.underlying68⟩
instance : TB 68 Tryz.t68 (Go.Value.agg #[Go.Value.int Go.IntKind.i64 0, Go.Value.int Go.IntKind.i64 0, Go.Value.int Go.IntKind.i64 0, Go.Value.int Go.IntKind.i64 0, Go.Value.int Go.IntKind.i64 0, Go.Value.int Go.IntKind.i64 0, Go.Value.int Go.IntKind.i64 0, Go.Value.int Go.IntKind.i64 0, Go.Value.int Go.IntKind.i64 0, Go.Value.int Go.IntKind.i64 0, Go.Value.int Go.IntKind.i64 0, Go.Value.int Go.IntKind.i64 0, Go.Value.int Go.IntKind.i64 0, Go.Value.int Go.IntKind.i64 0, Go.Value.int Go.IntKind.i64 0, Go.Value.int Go.IntKind.i64 0, Go.Value.int Go.IntKind.i64 0, Go.Value.int Go.IntKind.i64 0, Go.Value.int Go.IntKind.i64 0, Go.Value.int Go.IntKind.i64 0, Go.Value.int Go.IntKind.i64 0, Go.Value.int Go.IntKind.i64 0, Go.Value.int Go.IntKind.i64 0, Go.Value.int Go.IntKind.i64 0, Go.Value.int Go.IntKind.i64 0, Go.Value.int Go.IntKind.i64 0, Go.Value.int Go.IntKind.i64 0, Go.Value.int Go.IntKind.i64 0, Go.Value.int Go.IntKind.i64 0, Go.Value.int Go.IntKind.i64 0, Go.Value.int Go.IntKind.i64 0, Go.Value.int Go.IntKind.i64 0, Go.Value.int Go.IntKind.i64 0, Go.Value.int Go.IntKind.i64 0, Go.Value.int Go.IntKind.i64 0, Go.Value.int Go.IntKind.i64 0, Go.Value.int Go.IntKind.i64 0, Go.Value.int Go.IntKind.i64 0, Go.Value.int Go.IntKind.i64 0, Go.Value.int Go.IntKind.i64 0, Go.Value.int Go.IntKind.i64 0, Go.Value.int Go.IntKind.i64 0, Go.Value.int Go.IntKind.i64 0, Go.Value.int Go.IntKind.i64 0, Go.Value.int Go.IntKind.i64 0, Go.Value.int Go.IntKind.i64 0, Go.Value.int Go.IntKind.i64 0, Go.Value.int Go.IntKind.i64 0, Go.Value.int Go.IntKind.i64 0, Go.Value.int Go.IntKind.i64 0, Go.Value.int Go.IntKind.i64 0, Go.Value.int Go.IntKind.i64 0, Go.Value.int Go.IntKind.i64 0, Go.Value.int Go.IntKind.i64 0, Go.Value.int Go.IntKind.i64 0, Go.Value.int Go.IntKind.i64 0, Go.Value.int Go.IntKind.i64 0, Go.Value.int Go.IntKind.i64 0, Go.Value.int Go.IntKind.i64 0, Go.Value.int Go.IntKind.i64 0]) 60 480 := ⟨by kernel_rfl, rfl, rfl, rfl⟩
instance : TI 70 (Go.Value.map Option.none) 1 false := ⟨Tryz.zeroValue70, Tryz.sizeOf70, Tryz.isAgg70⟩
instance : TD 70 (Go.TypeDesc.map 5 3) := ⟨Tryz.underlying70⟩
instance : TB 70 Tryz.t70 (Go.Value.map Option.none) 1 8 := ⟨by kernel_rfl, rfl, rfl, rfl⟩
instance : TI 74 (Go.Value.slice Option.none 0 0) 1 false := ⟨Tryz.zeroValue74, Tryz.sizeOf74, Tryz.isAgg74⟩
instance : TD 74 (Go.TypeDesc.slice 79) := ⟨Tryz.underlying74⟩
instance : TB 74 Tryz.t74 (Go.Value.slice Option.none 0 0) 1 24 := ⟨by kernel_rfl, rfl, rfl, rfl⟩
instance : TI 79 (Go.Value.int Go.IntKind.u16 0) 1 false := ⟨Tryz.zeroValue79, Tryz.sizeOf79, Tryz.isAgg79⟩
instance : TD 79 (Go.TypeDesc.int Go.IntKind.u16) := ⟨Tryz.underlying79⟩
instance : TB 79 Tryz.t79 (Go.Value.int Go.IntKind.u16 0) 1 2 := ⟨by kernel_rfl, rfl, rfl, rfl⟩
instance : TI 92 (Go.Value.map Option.none) 1 false := ⟨Tryz.zeroValue92, Tryz.sizeOf92, Tryz.isAgg92⟩
instance : TD 92 (Go.TypeDesc.map 35 4) := ⟨Tryz.underlying92⟩
instance : TB 92 Tryz.t92 (Go.Value.map Option.none) 1 8 := ⟨by kernel_rfl, rfl, rfl, rfl⟩
instance : TI 106 (Go.Value.pointer Option.none) 1 false := ⟨Tryz.zeroValue106, Tryz.sizeOf106, Tryz.isAgg106⟩
instance : TD 106 (Go.TypeDesc.pointer 108) := ⟨Tryz.underlying106⟩
instance : TB 106 Tryz.t106 (Go.Value.pointer Option.none) 1 8 := ⟨by kernel_rfl, rfl, rfl, rfl⟩
instance : TI 107 (Go.Value.agg #[Go.Value.pointer Option.none, Go.Value.int Go.IntKind.i64 0, Go.Value.int Go.IntKind.i64 0]) 3 true := ⟨Tryz.zeroValue107, Tryz.sizeOf107, Tryz.isAgg107⟩
instance : TF 107 0 0 := mkTF Tryz.underlying107 rfl Tryz.sizeOf41 (by decide)
instance : TF 107 1 1 := mkTF Tryz.underlying107 rfl Tryz.sizeOf3 (by decide)
instance : TF 107 2 2 := mkTF Tryz.underlying107 rfl Tryz.sizeOf26 (by decide)
instance : TB 107 Tryz.t107 (Go.Value.agg #[Go.Value.pointer Option.none, Go.Value.int Go.IntKind.i64 0, Go.Value.int Go.IntKind.i64 0]) 3 24 := ⟨by kernel_rfl, rfl, rfl, rfl⟩
instance : TI 108 (Go.Value.agg #[Go.Value.pointer Option.none, Go.Value.int Go.IntKind.i64 0, Go.Value.int Go.IntKind.i64 0]) 3 true := ⟨Tryz.zeroValue108, Tryz.sizeOf108, Tryz.isAgg108⟩
instance : TF 108 0 0 := mkTF Tryz.underlying108 rfl Tryz.sizeOf41 (by decide)
instance : TF 108 1 1 := mkTF Tryz.underlying108 rfl Tryz.sizeOf3 (by decide)
instance : TF 108 2 2 := mkTF Tryz.underlying108 rfl Tryz.sizeOf26 (by decide)
instance : TB 108 Tryz.t108 (Go.Value.agg #[Go.Value.pointer Option.none, Go.Value.int Go.IntKind.i64 0, Go.Value.int Go.IntKind.i64 0]) 3 24 := ⟨by kernel_rfl, rfl, rfl, rfl⟩
instance : TI 111 (Go.Value.slice Option.none 0 0) 1 false := ⟨Tryz.zeroValue111, Tryz.sizeOf111, Tryz.isAgg111⟩
instance : TD 111 (Go.TypeDesc.slice 35) := ⟨Tryz.underlying111⟩
instance : TB 111 Tryz.t111 (Go.Value.slice Option.none 0 0) 1 24 := ⟨by kernel_rfl, rfl, rfl, rfl⟩
instance : TI 112 (Go.Value.slice Option.none 0 0) 1 false := ⟨Tryz.zeroValue112, Tryz.sizeOf112, Tryz.isAgg112⟩
instance : TD 112 (Go.TypeDesc.slice 9) := ⟨Tryz.underlying112⟩
instance : TB 112 Tryz.t112 (Go.Value.slice Option.none 0 0) 1 24 := ⟨by kernel_rfl, rfl, rfl, rfl⟩
instance : TI 113 (Go.Value.agg #[Go.Value.bool Bool.false, Go.Value.slice Option.none 0 0, Go.Value.slice Option.none 0 0, Go.Value.slice Option.none 0 0]) 4 true := ⟨Tryz.zeroValue113, Tryz.sizeOf113, Tryz.isAgg113⟩
instance : TF 113 0 0 := mkTF Tryz.underlying113 rfl Tryz.sizeOf4 (by decide)
instance : TF 113 1 1 := mkTF Tryz.underlying113 rfl Tryz.sizeOf111 (by decide)
instance : TF 113 2 2 := mkTF Tryz.underlying113 rfl Tryz.sizeOf112 (by decide)
instance : TF 113 3 3 := mkTF Tryz.underlying113 rfl Tryz.sizeOf22 (by decide)
instance : TB 113 Tryz.t113 (Go.Value.agg #[Go.Value.bool Bool.false, Go.Value.slice Option.none 0 0, Go.Value.slice Option.none 0 0, Go.Value.slice Option.none 0 0]) 4 80 := ⟨by kernel_rfl, rfl, rfl, rfl⟩
instance : TI 114 (Go.Value.agg #[Go.Value.bool Bool.false, Go.Value.slice Option.none 0 0, Go.Value.slice Option.none 0 0, Go.Value.slice Option.none 0 0]) 4 true := ⟨Tryz.zeroValue114, Tryz.sizeOf114, Tryz.isAgg114⟩
instance : TF 114 0 0 := mkTF Tryz.underlying114 rfl Tryz.sizeOf4 (by decide)
instance : TF 114 1 1 := mkTF Tryz.underlying114 rfl Tryz.sizeOf111 (by decide)
instance : TF 114 2 2 := mkTF Tryz.underlying114 rfl Tryz.sizeOf112 (by decide)
instance : TF 114 3 3 := mkTF Tryz.underlying114 rfl Tryz.sizeOf22 (by decide)
instance : TB 114 Tryz.t114 (Go.Value.agg #[Go.Value.bool Bool.false, Go.Value.slice Option.none 0 0, Go.Value.slice Option.none 0 0, Go.Value.slice Option.none 0 0]) 4 80 := ⟨by kernel_rfl, rfl, rfl, rfl⟩
instance : TI 115 (Go.Value.pointer Option.none) 1 false := ⟨Tryz.zeroValue115, Tryz.sizeOf115, Tryz.isAgg115⟩
instance : TD 115 (Go.TypeDesc.pointer 129) := ⟨Tryz.underlying115⟩
instance : TB 115 Tryz.t115 (Go.Value.pointer Option.none) 1 8 := ⟨by kernel_rfl, rfl, rfl, rfl⟩
instance : TI 117 (Go.Value.agg #[Go.Value.int Go.IntKind.i64 0, Go.Value.bool Bool.false, Go.Value.slice Option.none 0 0, Go.Value.slice Option.none 0 0, Go.Value.slice Option.none 0 0, Go.Value.int Go.IntKind.i64 0]) 6 true := ⟨Tryz.zeroValue117, Tryz.sizeOf117, Tryz.isAgg117⟩
instance : TF 117 0 0 := mkTF Tryz.underlying117 rfl Tryz.sizeOf3 (by decide)
instance : TF 117 1 1 := mkTF Tryz.underlying117 rfl Tryz.sizeOf114 (by decide)
instance : TF 117 2 5 := mkTF Tryz.underlying117 rfl Tryz.sizeOf3 (by decide)
instance : TB 117 Tryz.t117 (Go.Value.agg #[Go.Value.int Go.IntKind.i64 0, Go.Value.bool Bool.false, Go.Value.slice Option.none 0 0, Go.Value.slice Option.none 0 0, Go.Value.slice Option.none 0 0, Go.Value.int Go.IntKind.i64 0]) 6 96 := ⟨by kernel_rfl, rfl, rfl, rfl⟩
instance : TI 118 (Go.Value.agg #[Go.Value.int Go.IntKind.i64 0, Go.Value.bool Bool.false, Go.Value.slice Option.none 0 0, Go.Value.slice Option.none 0 0, Go.Value.slice Option.none 0 0, Go.Value.int Go.IntKind.i64 0]) 6 true := ⟨Tryz.zeroValue118, Tryz.sizeOf118, Tryz.isAgg118⟩
instance : TF 118 0 0 := mkTF Tryz.underlying118 rfl Tryz.sizeOf3 (by decide)
instance : TF 118 1 1 := mkTF Tryz.underlying118 rfl Tryz.sizeOf114 (by decide)
instance : TF 118 2 5 := mkTF Tryz.underlying118 rfl Tryz.sizeOf3 (by decide)
instance : TB 118 Tryz.t118 (Go.Value.agg #[Go.Value.int Go.IntKind.i64 0, Go.Value.bool Bool.false, Go.Value.slice Option.none 0 0, Go.Value.slice Option.none 0 0, Go.Value.slice Option.none 0 0, Go.Value.int Go.IntKind.i64 0]) 6 96 := ⟨by kernel_rfl, rfl, rfl, rfl⟩
instance : TI 127 (Go.Value.slice Option.none 0 0) 1 false := ⟨Tryz.zeroValue127, Tryz.sizeOf127, Tryz.isAgg127⟩
instance : TD 127 (Go.TypeDesc.slice 118) := ⟨Tryz.underlying127⟩
instance : TB 127 Tryz.t127 (Go.Value.slice Option.none 0 0) 1 24 := ⟨by kernel_rfl, rfl, rfl, rfl⟩
instance : TI 128 (Go.Value.agg #[Go.Value.slice Option.none 0 0]) 1 true := ⟨Tryz.zeroValue128, Tryz.sizeOf128, Tryz.isAgg128⟩
instance : TF 128 0 0 := mkTF Tryz.underlying128 rfl Tryz.sizeOf127 (by decide)
instance : TB 128 Tryz.t128 (Go.Value.agg #[Go.Value.slice Option.none 0 0]) 1 24 := ⟨by kernel_rfl, rfl, rfl, rfl⟩
instance : TI 129 (Go.Value.agg #[Go.Value.slice Option.none 0 0]) 1 true := ⟨Tryz.zeroValue129, Tryz.sizeOf129, Tryz.isAgg129⟩
instance : TF 129 0 0 := mkTF Tryz.underlying129 rfl Tryz.sizeOf127 (by decide)
instance : TB 129 Tryz.t129 (Go.Value.agg #[Go.Value.slice Option.none 0 0]) 1 24 := ⟨by kernel_rfl, rfl, rfl, rfl⟩
instance : TI 135 (Go.Value.pointer Option.none) 1 false := ⟨Tryz.zeroValue135, Tryz.sizeOf135, Tryz.isAgg135⟩
instance : TD 135 (Go.TypeDesc.pointer 138) := ⟨Tryz.underlying135⟩
instance : TB 135 Tryz.t135 (Go.Value.pointer Option.none) 1 8 := ⟨by kernel_rfl, rfl, rfl, rfl⟩
instance : TI 136 (Go.Value.slice Option.none 0 0) 1 false := ⟨Tryz.zeroValue136, Tryz.sizeOf136, Tryz.isAgg136⟩
instance : TD 136 (Go.TypeDesc.slice 141) := ⟨Tryz.underlying136⟩
instance : TB 136 Tryz.t136 (Go.Value.slice Option.none 0 0) 1 24 := ⟨by kernel_rfl, rfl, rfl, rfl⟩
instance : TI 137 (Go.Value.agg #[Go.Value.slice Option.none 0 0]) 1 true := ⟨Tryz.zeroValue137, Tryz.sizeOf137, Tryz.isAgg137⟩
instance : TF 137 0 0 := mkTF Tryz.underlying137 rfl Tryz.sizeOf136 (by decide)
instance : TB 137 Tryz.t137 (Go.Value.agg #[Go.Value.slice Option.none 0 0]) 1 24 := ⟨by kernel_rfl, rfl, rfl, rfl⟩
instance : TI 138 (Go.Value.agg #[Go.Value.slice Option.none 0 0]) 1 true := ⟨Tryz.zeroValue138, Tryz.sizeOf138, Tryz.isAgg138⟩
instance : TF 138 0 0 := mkTF Tryz.underlying138 rfl Tryz.sizeOf136 (by decide)
instance : TB 138 Tryz.t138 (Go.Value.agg #[Go.Value.slice Option.none 0 0]) 1 24 := ⟨by kernel_rfl, rfl, rfl, rfl⟩
instance : TI 140 (Go.Value.agg #[Go.Value.int Go.IntKind.i64 0, Go.Value.int Go.IntKind.i64 0]) 2 true := ⟨Tryz.zeroValue140, Tryz.sizeOf140, Tryz.isAgg140⟩
instance : TF 140 0 0 := mkTF Tryz.underlying140 rfl Tryz.sizeOf3 (by decide)
instance : TF 140 1 1 := mkTF Tryz.underlying140 rfl Tryz.sizeOf3 (by decide)
instance : TB 140 Tryz.t140 (Go.Value.agg #[Go.Value.int Go.IntKind.i64 0, Go.Value.int Go.IntKind.i64 0]) 2 16 := ⟨by kernel_rfl, rfl, rfl, rfl⟩
instance : TI 141 (Go.Value.agg #[Go.Value.int Go.IntKind.i64 0, Go.Value.int Go.IntKind.i64 0]) 2 true := ⟨Tryz.zeroValue141, Tryz.sizeOf141, Tryz.isAgg141⟩
instance : TF 141 0 0 := mkTF Tryz.underlying141 rfl Tryz.sizeOf3 (by decide)
instance : TF 141 1 1 := mkTF Tryz.underlying141 rfl Tryz.sizeOf3 (by decide)
instance : TB 141 Tryz.t141 (Go.Value.agg #[Go.Value.int Go.IntKind.i64 0, Go.Value.int Go.IntKind.i64 0]) 2 16 := ⟨by kernel_rfl, rfl, rfl, rfl⟩
instance : TI 149 (Go.Value.agg #[Go.Value.int Go.IntKind.i64 0, Go.Value.int Go.IntKind.i64 0, Go.Value.string { data := #[] }]) 3 true := ⟨Tryz.zeroValue149, Tryz.sizeOf149, Tryz.isAgg149⟩
instance : TF 149 0 0 := mkTF Tryz.underlying149 rfl Tryz.sizeOf3 (by decide)
instance : TF 149 1 1 := mkTF Tryz.underlying149 rfl Tryz.sizeOf3 (by decide)
instance : TF 149 2 2 := mkTF Tryz.underlying149 rfl Tryz.sizeOf9 (by decide)
instance : TB 149 Tryz.t149 (Go.Value.agg #[Go.Value.int Go.IntKind.i64 0, Go.Value.int Go.IntKind.i64 0, Go.Value.string { data := #[] }]) 3 32 := ⟨by kernel_rfl, rfl, rfl, rfl⟩
instance : TI 150 (Go.Value.agg #[Go.Value.int Go.IntKind.i64 0, Go.Value.int Go.IntKind.i64 0, Go.Value.string { data := #[] }]) 3 true := ⟨Tryz.zeroValue150, Tryz.sizeOf150, Tryz.isAgg150⟩
instance : TF 150 0 0 := mkTF Tryz.underlying150 rfl Tryz.sizeOf3 (by decide)
instance : TF 150 1 1 := mkTF Tryz.underlying150 rfl Tryz.sizeOf3 (by decide)
instance : TF 150 2 2 := mkTF Tryz.underlying150 rfl Tryz.sizeOf9 (by decide)
instance : TB 150 Tryz.t150 (Go.Value.agg #[Go.Value.int Go.IntKind.i64 0, Go.Value.int Go.IntKind.i64 0, Go.Value.string { data := #[] }]) 3 32 := ⟨by kernel_rfl, rfl, rfl, rfl⟩
instance : TI 151 (Go.Value.map Option.none) 1 false := ⟨Tryz.zeroValue151, Tryz.sizeOf151, Tryz.isAgg151⟩
instance : TD 151 (Go.TypeDesc.map 3 4) := ⟨Tryz.underlying151⟩
instance : TB 151 Tryz.t151 (Go.Value.map Option.none) 1 8 := ⟨by kernel_rfl, rfl, rfl, rfl⟩
instance : TI 152 (Go.Value.agg #[Go.Value.pointer Option.none, Go.Value.int Go.IntKind.i64 0, Go.Value.int Go.IntKind.i64 0, Go.Value.string { data := #[] }, Go.Value.map Option.none, Go.Value.map Option.none, Go.Value.bool Bool.false]) 7 true := ⟨Tryz.zeroValue152, Tryz.sizeOf152, Tryz.isAgg152⟩
instance : TF 152 0 0 := mkTF Tryz.underlying152 rfl Tryz.sizeOf39 (by decide)
instance : TF 152 1 1 := mkTF Tryz.underlying152 rfl Tryz.sizeOf150 (by decide)
instance : TF 152 2 4 := mkTF Tryz.underlying152 rfl Tryz.sizeOf151 (by decide)
instance : TF 152 3 5 := mkTF Tryz.underlying152 rfl Tryz.sizeOf151 (by decide)
instance : TF 152 4 6 := mkTF Tryz.underlying152 rfl Tryz.sizeOf4 (by decide)
instance : TB 152 Tryz.t152 (Go.Value.agg #[Go.Value.pointer Option.none, Go.Value.int Go.IntKind.i64 0, Go.Value.int Go.IntKind.i64 0, Go.Value.string { data := #[] }, Go.Value.map Option.none, Go.Value.map Option.none, Go.Value.bool Bool.false]) 7 64 := ⟨by kernel_rfl, rfl, rfl, rfl⟩
instance : TI 153 (Go.Value.agg #[Go.Value.pointer Option.none, Go.Value.int Go.IntKind.i64 0, Go.Value.int Go.IntKind.i64 0, Go.Value.string { data := #[] }, Go.Value.map Option.none, Go.Value.map Option.none, Go.Value.bool Bool.false]) 7 true := ⟨Tryz.zeroValue153, Tryz.sizeOf153, Tryz.isAgg153⟩
instance : TF 153 0 0 := mkTF Tryz.underlying153 rfl Tryz.sizeOf39 (by decide)
instance : TF 153 1 1 := mkTF Tryz.underlying153 rfl Tryz.sizeOf150 (by decide)
instance : TF 153 2 4 := mkTF Tryz.underlying153 rfl Tryz.sizeOf151 (by decide)
instance : TF 153 3 5 := mkTF Tryz.underlying153 rfl Tryz.sizeOf151 (by decide)
instance : TF 153 4 6 := mkTF Tryz.underlying153 rfl Tryz.sizeOf4 (by decide)
instance : TB 153 Tryz.t153 (Go.Value.agg #[Go.Value.pointer Option.none, Go.Value.int Go.IntKind.i64 0, Go.Value.int Go.IntKind.i64 0, Go.Value.string { data := #[] }, Go.Value.map Option.none, Go.Value.map Option.none, Go.Value.bool Bool.false]) 7 64 := ⟨by kernel_rfl, rfl, rfl, rfl⟩
instance : TI 157 (Go.Value.slice Option.none 0 0) 1 false := ⟨Tryz.zeroValue157, Tryz.sizeOf157, Tryz.isAgg157⟩
instance : TD 157 (Go.TypeDesc.slice 61) := ⟨Tryz.underlying157⟩
instance : TB 157 Tryz.t157 (Go.Value.slice Option.none 0 0) 1 24 := ⟨by kernel_rfl, rfl, rfl, rfl⟩
instance : TI 160 (Go.Value.map Option.none) 1 false := ⟨Tryz.zeroValue160, Tryz.sizeOf160, Tryz.isAgg160⟩
instance : TD 160 (Go.TypeDesc.map 3 61) := ⟨Tryz.underlying160⟩
instance : TB 160 Tryz.t160 (Go.Value.map Option.none) 1 8 := ⟨by kernel_rfl, rfl, rfl, rfl⟩
instance : TI 164 (Go.Value.agg #[Go.Value.pointer Option.none, Go.Value.int Go.IntKind.i64 0, Go.Value.int Go.IntKind.i64 0, Go.Value.bool Bool.false]) 4 true := ⟨Tryz.zeroValue164, Tryz.sizeOf164, Tryz.isAgg164⟩
instance : TF 164 0 0 := mkTF Tryz.underlying164 rfl Tryz.sizeOf41 (by decide)
instance : TF 164 1 1 := mkTF Tryz.underlying164 rfl Tryz.sizeOf3 (by decide)
instance : TF 164 2 2 := mkTF Tryz.underlying164 rfl Tryz.sizeOf26 (by decide)
instance : TF 164 3 3 := mkTF Tryz.underlying164 rfl Tryz.sizeOf4 (by decide)
instance : TB 164 Tryz.t164 (Go.Value.agg #[Go.Value.pointer Option.none, Go.Value.int Go.IntKind.i64 0, Go.Value.int Go.IntKind.i64 0, Go.Value.bool Bool.false]) 4 32 := ⟨by kernel_rfl, rfl, rfl, rfl⟩
instance : TI 165 (Go.Value.agg #[Go.Value.pointer Option.none, Go.Value.int Go.IntKind.i64 0, Go.Value.int Go.IntKind.i64 0, Go.Value.bool Bool.false]) 4 true := ⟨Tryz.zeroValue165, Tryz.sizeOf165, Tryz.isAgg165⟩
instance : TF 165 0 0 := mkTF Tryz.underlying165 rfl Tryz.sizeOf41 (by decide)
instance : TF 165 1 1 := mkTF Tryz.underlying165 rfl Tryz.sizeOf3 (by decide)
instance : TF 165 2 2 := mkTF Tryz.underlying165 rfl Tryz.sizeOf26 (by decide)
instance : TF 165 3 3 := mkTF Tryz.underlying165 rfl Tryz.sizeOf4 (by decide)
instance : TB 165 Tryz.t165 (Go.Value.agg #[Go.Value.pointer Option.none, Go.Value.int Go.IntKind.i64 0, Go.Value.int Go.IntKind.i64 0, Go.Value.bool Bool.false]) 4 32 := ⟨by kernel_rfl, rfl, rfl, rfl⟩
instance : TI 181 (Go.Value.map Option.none) 1 false := ⟨Tryz.zeroValue181, Tryz.sizeOf181, Tryz.isAgg181⟩
instance : TD 181 (Go.TypeDesc.map 3 9) := ⟨Tryz.underlying181⟩
instance : TB 181 Tryz.t181 (Go.Value.map Option.none) 1 8 := ⟨by kernel_rfl, rfl, rfl, rfl⟩
instance : TI 182 (Go.Value.agg #[Go.Value.slice Option.none 0 0, Go.Value.map Option.none, Go.Value.slice Option.none 0 0, Go.Value.int Go.IntKind.i64 0, Go.Value.bool Bool.false]) 5 true := ⟨Tryz.zeroValue182, Tryz.sizeOf182, Tryz.isAgg182⟩
instance : TF 182 0 0 := mkTF Tryz.underlying182 rfl Tryz.sizeOf112 (by decide)
instance : TF 182 1 1 := mkTF Tryz.underlying182 rfl Tryz.sizeOf181 (by decide)
instance : TF 182 2 2 := mkTF Tryz.underlying182 rfl Tryz.sizeOf22 (by decide)
instance : TF 182 3 3 := mkTF Tryz.underlying182 rfl Tryz.sizeOf3 (by decide)
instance : TF 182 4 4 := mkTF Tryz.underlying182 rfl Tryz.sizeOf4 (by decide)
instance : TB 182 Tryz.t182 (Go.Value.agg #[Go.Value.slice Option.none 0 0, Go.Value.map Option.none, Go.Value.slice Option.none 0 0, Go.Value.int Go.IntKind.i64 0, Go.Value.bool Bool.false]) 5 72 := ⟨by kernel_rfl, rfl, rfl, rfl⟩
instance : TI 183 (Go.Value.agg #[Go.Value.slice Option.none 0 0, Go.Value.map Option.none, Go.Value.slice Option.none 0 0, Go.Value.int Go.IntKind.i64 0, Go.Value.bool Bool.false]) 5 true := ⟨Tryz.zeroValue183, Tryz.sizeOf183, Tryz.isAgg183⟩
instance : TF 183 0 0 := mkTF Tryz.underlying183 rfl Tryz.sizeOf112 (by decide)
instance : TF 183 1 1 := mkTF Tryz.underlying183 rfl Tryz.sizeOf181 (by decide)
instance : TF 183 2 2 := mkTF Tryz.underlying183 rfl Tryz.sizeOf22 (by decide)
instance : TF 183 3 3 := mkTF Tryz.underlying183 rfl Tryz.sizeOf3 (by decide)
instance : TF 183 4 4 := mkTF Tryz.underlying183 rfl Tryz.sizeOf4 (by decide)
instance : TB 183 Tryz.t183 (Go.Value.agg #[Go.Value.slice Option.none 0 0, Go.Value.map Option.none, Go.Value.slice Option.none 0 0, Go.Value.int Go.IntKind.i64 0, Go.Value.bool Bool.false]) 5 72 := ⟨by kernel_rfl, rfl, rfl, rfl⟩
instance : TI 184 (Go.Value.int Go.IntKind.u64 0) 1 false := ⟨Tryz.zeroValue184, Tryz.sizeOf184, Tryz.isAgg184⟩
instance : TD 184 (Go.TypeDesc.int Go.IntKind.u64) := ⟨Tryz.underlying184⟩
instance : TB 184 Tryz.t184 (Go.Value.int Go.IntKind.u64 0) 1 8 := ⟨by kernel_rfl, rfl, rfl, rfl⟩
instance : TI 191 (Go.Value.agg #[Go.Value.pointer Option.none, Go.Value.int Go.IntKind.i64 0, Go.Value.int Go.IntKind.i64 0, Go.Value.string { data := #[] }, Go.Value.string { data := #[] }, Go.Value.string { data := #[] }, Go.Value.bool Bool.false]) 7 true := ⟨Tryz.zeroValue191, Tryz.sizeOf191, Tryz.isAgg191⟩
instance : TF 191 0 0 := mkTF Tryz.underlying191 rfl Tryz.sizeOf40 (by decide)
instance : TF 191 1 1 := mkTF Tryz.underlying191 rfl Tryz.sizeOf3 (by decide)
instance : TF 191 2 2 := mkTF Tryz.underlying191 rfl Tryz.sizeOf3 (by decide)
instance : TF 191 3 3 := mkTF Tryz.underlying191 rfl Tryz.sizeOf9 (by decide)
instance : TF 191 4 4 := mkTF Tryz.underlying191 rfl Tryz.sizeOf9 (by decide)
instance : TF 191 5 5 := mkTF Tryz.underlying191 rfl Tryz.sizeOf9 (by decide)
instance : TF 191 6 6 := mkTF Tryz.underlying191 rfl Tryz.sizeOf4 (by decide)
instance : TB 191 Tryz.t191 (Go.Value.agg #[Go.Value.pointer Option.none, Go.Value.int Go.IntKind.i64 0, Go.Value.int Go.IntKind.i64 0, Go.Value.string { data := #[] }, Go.Value.string { data := #[] }, Go.Value.string { data := #[] }, Go.Value.bool Bool.false]) 7 80 := ⟨by kernel_rfl, rfl, rfl, rfl⟩
instance : TI 192 (Go.Value.agg #[Go.Value.pointer Option.none, Go.Value.int Go.IntKind.i64 0, Go.Value.int Go.IntKind.i64 0, Go.Value.string { data := #[] }, Go.Value.string { data := #[] }, Go.Value.string { data := #[] }, Go.Value.bool Bool.false]) 7 true := ⟨Tryz.zeroValue192, Tryz.sizeOf192, Tryz.isAgg192⟩
instance : TF 192 0 0 := mkTF Tryz.underlying192 rfl Tryz.sizeOf40 (by decide)
instance : TF 192 1 1 := mkTF Tryz.underlying192 rfl Tryz.sizeOf3 (by decide)
instance : TF 192 2 2 := mkTF Tryz.underlying192 rfl Tryz.sizeOf3 (by decide)
instance : TF 192 3 3 := mkTF Tryz.underlying192 rfl Tryz.sizeOf9 (by decide)
instance : TF 192 4 4 := mkTF Tryz.underlying192 rfl Tryz.sizeOf9 (by decide)
instance : TF 192 5 5 := mkTF Tryz.underlying192 rfl Tryz.sizeOf9 (by decide)
instance : TF 192 6 6 := mkTF Tryz.underlying192 rfl Tryz.sizeOf4 (by decide)
instance : TB 192 Tryz.t192 (Go.Value.agg #[Go.Value.pointer Option.none, Go.Value.int Go.IntKind.i64 0, Go.Value.int Go.IntKind.i64 0, Go.Value.string { data := #[] }, Go.Value.string { data := #[] }, Go.Value.string { data := #[] }, Go.Value.bool Bool.false]) 7 80 := ⟨by kernel_rfl, rfl, rfl, rfl⟩
instance : TI 211 (Go.Value.agg #[Go.Value.int Go.IntKind.i64 0, Go.Value.int Go.IntKind.i64 0, Go.Value.int Go.IntKind.i64 0, Go.Value.int Go.IntKind.u64 0, Go.Value.int Go.IntKind.i64 0]) 5 true := ⟨Tryz.zeroValue211, Tryz.sizeOf211, Tryz.isAgg211⟩
instance : TF 211 0 0 := mkTF Tryz.underlying211 rfl Tryz.sizeOf61 (by decide)
instance : TF 211 1 4 := mkTF Tryz.underlying211 rfl Tryz.sizeOf26 (by decide)
instance : TB 211 Tryz.t211 (Go.Value.agg #[Go.Value.int Go.IntKind.i64 0, Go.Value.int Go.IntKind.i64 0, Go.Value.int Go.IntKind.i64 0, Go.Value.int Go.IntKind.u64 0, Go.Value.int Go.IntKind.i64 0]) 5 40 := ⟨by kernel_rfl, rfl, rfl, rfl⟩
instance : TI 212 (Go.Value.agg #[Go.Value.int Go.IntKind.i64 0, Go.Value.int Go.IntKind.i64 0, Go.Value.int Go.IntKind.i64 0, Go.Value.int Go.IntKind.u64 0, Go.Value.int Go.IntKind.i64 0]) 5 true := ⟨Tryz.zeroValue212, Tryz.sizeOf212, Tryz.isAgg212⟩
instance : TF 212 0 0 := mkTF Tryz.underlying212 rfl Tryz.sizeOf61 (by decide)
instance : TF 212 1 4 := mkTF Tryz.underlying212 rfl Tryz.sizeOf26 (by decide)
instance : TB 212 Tryz.t212 (Go.Value.agg #[Go.Value.int Go.IntKind.i64 0, Go.Value.int Go.IntKind.i64 0, Go.Value.int Go.IntKind.i64 0, Go.Value.int Go.IntKind.u64 0, Go.Value.int Go.IntKind.i64 0]) 5 40 := ⟨by kernel_rfl, rfl, rfl, rfl⟩
instance : TI 214 (Go.Value.pointer Option.none) 1 false := ⟨Tryz.zeroValue214, Tryz.sizeOf214, Tryz.isAgg214⟩
instance : TD 214 (Go.TypeDesc.pointer 216) := ⟨Tryz.underlying214⟩
instance : TB 214 Tryz.t214 (Go.Value.pointer Option.none) 1 8 := ⟨by kernel_rfl, rfl, rfl, rfl⟩
instance : TI 215 (Go.Value.agg #[Go.Value.string { data := #[] }, Go.Value.bool Bool.false]) 2 true := ⟨Tryz.zeroValue215, Tryz.sizeOf215, Tryz.isAgg215⟩
instance : TF 215 0 0 := mkTF Tryz.underlying215 rfl Tryz.sizeOf9 (by decide)
instance : TF 215 1 1 := mkTF Tryz.underlying215 rfl Tryz.sizeOf4 (by decide)
instance : TB 215 Tryz.t215 (Go.Value.agg #[Go.Value.string { data := #[] }, Go.Value.bool Bool.false]) 2 24 := ⟨by kernel_rfl, rfl, rfl, rfl⟩
instance : TI 216 (Go.Value.agg #[Go.Value.string { data := #[] }, Go.Value.bool Bool.false]) 2 true := ⟨Tryz.zeroValue216, Tryz.sizeOf216, Tryz.isAgg216⟩
instance : TF 216 0 0 := mkTF Tryz.underlying216 rfl Tryz.sizeOf9 (by decide)
instance : TF 216 1 1 := mkTF Tryz.underlying216 rfl Tryz.sizeOf4 (by decide)
instance : TB 216 Tryz.t216 (Go.Value.agg #[Go.Value.string { data := #[] }, Go.Value.bool Bool.false]) 2 24 := ⟨by kernel_rfl, rfl, rfl, rfl⟩
instance : TI 219 (Go.Value.agg #[Go.Value.int Go.IntKind.i64 0, Go.Value.int Go.IntKind.i64 0, Go.Value.int Go.IntKind.i64 0, Go.Value.int Go.IntKind.u64 0]) 4 true := ⟨Tryz.zeroValue219, Tryz.sizeOf219, Tryz.isAgg219⟩
instance : TF 219 0 0 := mkTF Tryz.underlying219 rfl Tryz.sizeOf61 (by decide)
instance : TB 219 Tryz.t219 (Go.Value.agg #[Go.Value.int Go.IntKind.i64 0, Go.Value.int Go.IntKind.i64 0, Go.Value.int Go.IntKind.i64 0, Go.Value.int Go.IntKind.u64 0]) 4 32 := ⟨by kernel_rfl, rfl, rfl, rfl⟩
instance : TI 220 (Go.Value.agg #[Go.Value.int Go.IntKind.i64 0, Go.Value.int Go.IntKind.i64 0, Go.Value.int Go.IntKind.i64 0, Go.Value.int Go.IntKind.u64 0]) 4 true := ⟨Tryz.zeroValue220, Tryz.sizeOf220, Tryz.isAgg220⟩
instance : TF 220 0 0 := mkTF Tryz.underlying220 rfl Tryz.sizeOf61 (by decide)
instance : TB 220 Tryz.t220 (Go.Value.agg #[Go.Value.int Go.IntKind.i64 0, Go.Value.int Go.IntKind.i64 0, Go.Value.int Go.IntKind.i64 0, Go.Value.int Go.IntKind.u64 0]) 4 32 := ⟨by kernel_rfl, rfl, rfl, rfl⟩
instance : TI 228 (Go.Value.pointer Option.none) 1 false := ⟨Tryz.zeroValue228, Tryz.sizeOf228, Tryz.isAgg228⟩
instance : TD 228 (Go.TypeDesc.pointer 230) := ⟨Tryz.underlying228⟩
instance : TB 228 Tryz.t228 (Go.Value.pointer Option.none) 1 8 := ⟨by kernel_rfl, rfl, rfl, rfl⟩
instance : TI 229 (Go.Value.agg #[Go.Value.pointer Option.none, Go.Value.slice Option.none 0 0]) 2 true := ⟨Tryz.zeroValue229, Tryz.sizeOf229, Tryz.isAgg229⟩
instance : TF 229 0 0 := mkTF Tryz.underlying229 rfl Tryz.sizeOf228 (by decide)
instance : TF 229 1 1 := mkTF Tryz.underlying229 rfl Tryz.sizeOf67 (by decide)
instance : TB 229 Tryz.t229 (Go.Value.agg #[Go.Value.pointer Option.none, Go.Value.slice Option.none 0 0]) 2 32 := ⟨by kernel_rfl, rfl, rfl, rfl⟩
instance : TI 230 (Go.Value.agg #[Go.Value.pointer Option.none, Go.Value.slice Option.none 0 0]) 2 true := ⟨Tryz.zeroValue230, Tryz.sizeOf230, Tryz.isAgg230⟩
instance : TF 230 0 0 := mkTF Tryz.underlying230 rfl Tryz.sizeOf228 (by decide)
instance : TF 230 1 1 := mkTF Tryz.underlying230 rfl Tryz.sizeOf67 (by decide)
instance : TB 230 Tryz.t230 (Go.Value.agg #[Go.Value.pointer Option.none, Go.Value.slice Option.none 0 0]) 2 32 := ⟨by kernel_rfl, rfl, rfl, rfl⟩
instance : TI 232 Go.Value.nilIface 1 false := ⟨Tryz.zeroValue232, Tryz.sizeOf232, Tryz.isAgg232⟩
instance : TD 232 (Go.TypeDesc.interface #[("Error", 190)]) := ⟨Tryz.underlying232⟩
instance : TB 232 Tryz.t232 Go.Value.nilIface 1 16 := ⟨by kernel_rfl, rfl, rfl, rfl⟩
instance : TI 233 Go.Value.nilIface 1 false := ⟨Tryz.zeroValue233, Tryz.sizeOf233, Tryz.isAgg233⟩
instance : TD 233 (Go.TypeDesc.interface #[("Error", 190)]) := ⟨Tryz.underlying233⟩
instance : TB 233 Tryz.t233 Go.Value.nilIface 1 16 := ⟨by kernel_rfl, rfl, rfl, rfl⟩
instance : TI 236 (Go.Value.slice Option.none 0 0) 1 false := ⟨Tryz.zeroValue236, Tryz.sizeOf236, Tryz.isAgg236⟩
instance : TD 236 (Go.TypeDesc.slice 274) := ⟨Tryz.underlying236⟩
instance : TB 236 Tryz.t236 (Go.Value.slice Option.none 0 0) 1 24 := ⟨by kernel_rfl, rfl, rfl, rfl⟩
instance : TI 237 (Go.Value.agg #[Go.Value.slice Option.none 0 0, Go.Value.slice Option.none 0 0, Go.Value.int Go.IntKind.i64 0, Go.Value.bool Bool.false]) 4 true := ⟨Tryz.zeroValue237, Tryz.sizeOf237, Tryz.isAgg237⟩
instance : TF 237 0 0 := mkTF Tryz.underlying237 rfl Tryz.sizeOf112 (by decide)
instance : TF 237 1 1 := mkTF Tryz.underlying237 rfl Tryz.sizeOf236 (by decide)
instance : TF 237 2 2 := mkTF Tryz.underlying237 rfl Tryz.sizeOf3 (by decide)
instance : TF 237 3 3 := mkTF Tryz.underlying237 rfl Tryz.sizeOf4 (by decide)
instance : TB 237 Tryz.t237 (Go.Value.agg #[Go.Value.slice Option.none 0 0, Go.Value.slice Option.none 0 0, Go.Value.int Go.IntKind.i64 0, Go.Value.bool Bool.false]) 4 64 := ⟨by kernel_rfl, rfl, rfl, rfl⟩
instance : TI 238 (Go.Value.agg #[Go.Value.slice Option.none 0 0, Go.Value.slice Option.none 0 0, Go.Value.int Go.IntKind.i64 0, Go.Value.bool Bool.false]) 4 true := ⟨Tryz.zeroValue238, Tryz.sizeOf238, Tryz.isAgg238⟩
instance : TF 238 0 0 := mkTF Tryz.underlying238 rfl Tryz.sizeOf112 (by decide)
instance : TF 238 1 1 := mkTF Tryz.underlying238 rfl Tryz.sizeOf236 (by decide)
instance : TF 238 2 2 := mkTF Tryz.underlying238 rfl Tryz.sizeOf3 (by decide)
instance : TF 238 3 3 := mkTF Tryz.underlying238 rfl Tryz.sizeOf4 (by decide)
instance : TB 238 Tryz.t238 (Go.Value.agg #[Go.Value.slice Option.none 0 0, Go.Value.slice Option.none 0 0, Go.Value.int Go.IntKind.i64 0, Go.Value.bool Bool.false]) 4 64 := ⟨by kernel_rfl, rfl, rfl, rfl⟩
instance : TI 247 (Go.Value.pointer Option.none) 1 false := ⟨Tryz.zeroValue247, Tryz.sizeOf247, Tryz.isAgg247⟩
instance : TD 247 (Go.TypeDesc.pointer 249) := ⟨Tryz.underlying247⟩
instance : TB 247 Tryz.t247 (Go.Value.pointer Option.none) 1 8 := ⟨by kernel_rfl, rfl, rfl, rfl⟩
instance : TI 248 (Go.Value.agg #[Go.Value.string { data := #[] }, Go.Value.bool Bool.false]) 2 true := ⟨Tryz.zeroValue248, Tryz.sizeOf248, Tryz.isAgg248⟩
instance : TF 248 0 0 := mkTF Tryz.underlying248 rfl Tryz.sizeOf9 (by decide)
instance : TF 248 1 1 := mkTF Tryz.underlying248 rfl Tryz.sizeOf4 (by decide)
instance : TB 248 Tryz.t248 (Go.Value.agg #[Go.Value.string { data := #[] }, Go.Value.bool Bool.false]) 2 24 := ⟨by kernel_rfl, rfl, rfl, rfl⟩
instance : TI 249 (Go.Value.agg #[Go.Value.string { data := #[] }, Go.Value.bool Bool.false]) 2 true := ⟨Tryz.zeroValue249, Tryz.sizeOf249, Tryz.isAgg249⟩
instance : TF 249 0 0 := mkTF Tryz.underlying249 rfl Tryz.sizeOf9 (by decide)
instance : TF 249 1 1 := mkTF Tryz.underlying249 rfl Tryz.sizeOf4 (by decide)
instance : TB 249 Tryz.t249 (Go.Value.agg #[Go.Value.string { data := #[] }, Go.Value.bool Bool.false]) 2 24 := ⟨by kernel_rfl, rfl, rfl, rfl⟩
instance : TI 257 Go.Value.nilIface 1 false := ⟨Tryz.zeroValue257, Tryz.sizeOf257, Tryz.isAgg257⟩
instance : TD 257 (Go.TypeDesc.interface #[("bailiwick/rec.right", 23)]) := ⟨Tryz.underlying257⟩
instance : TB 257 Tryz.t257 Go.Value.nilIface 1 16 := ⟨by kernel_rfl, rfl, rfl, rfl⟩
instance : TI 258 Go.Value.nilIface 1 false := ⟨Tryz.zeroValue258, Tryz.sizeOf258, Tryz.isAgg258⟩
instance : TD 258 (Go.TypeDesc.interface #[("bailiwick/rec.right", 23)]) := ⟨Tryz.underlying258⟩
instance : TB 258 Tryz.t258 Go.Value.nilIface 1 16 := ⟨by kernel_rfl, rfl, rfl, rfl⟩
instance : TI 270 (Go.Value.pointer Option.none) 1 false := ⟨Tryz.zeroValue270, Tryz.sizeOf270, Tryz.isAgg270⟩
instance : TD 270 (Go.TypeDesc.pointer 5) := ⟨Tryz.underlying270⟩
instance : TB 270 Tryz.t270 (Go.Value.pointer Option.none) 1 8 := ⟨by kernel_rfl, rfl, rfl, rfl⟩
instance : TI 273 (Go.Value.agg #[Go.Value.int Go.IntKind.i64 0, Go.Value.string { data := #[] }]) 2 true := ⟨Tryz.zeroValue273, Tryz.sizeOf273, Tryz.isAgg273⟩
instance : TF 273 0 0 := mkTF Tryz.underlying273 rfl Tryz.sizeOf3 (by decide)
instance : TF 273 1 1 := mkTF Tryz.underlying273 rfl Tryz.sizeOf9 (by decide)
instance : TB 273 Tryz.t273 (Go.Value.agg #[Go.Value.int Go.IntKind.i64 0, Go.Value.string { data := #[] }]) 2 24 := ⟨by kernel_rfl, rfl, rfl, rfl⟩
instance : TI 274 (Go.Value.agg #[Go.Value.int Go.IntKind.i64 0, Go.Value.string { data := #[] }]) 2 true := ⟨Tryz.zeroValue274, Tryz.sizeOf274, Tryz.isAgg274⟩
instance : TF 274 0 0 := mkTF Tryz.underlying274 rfl Tryz.sizeOf3 (by decide)
instance : TF 274 1 1 := mkTF Tryz.underlying274 rfl Tryz.sizeOf9 (by decide)
instance : TB 274 Tryz.t274 (Go.Value.agg #[Go.Value.int Go.IntKind.i64 0, Go.Value.string { data := #[] }]) 2 24 := ⟨by kernel_rfl, rfl, rfl, rfl⟩
instance : TI 278 (Go.Value.slice Option.none 0 0) 1 false := ⟨Tryz.zeroValue278, Tryz.sizeOf278, Tryz.isAgg278⟩
instance : TD 278 (Go.TypeDesc.slice 111) := ⟨Tryz.underlying278⟩
instance : TB 278 Tryz.t278 (Go.Value.slice Option.none 0 0) 1 24 := ⟨by kernel_rfl, rfl, rfl, rfl⟩
instance : TI 280 (Go.Value.slice Option.none 0 0) 1 false := ⟨Tryz.zeroValue280, Tryz.sizeOf280, Tryz.isAgg280⟩
instance : TD 280 (Go.TypeDesc.slice 112) := ⟨Tryz.underlying280⟩
instance : TB 280 Tryz.t280 (Go.Value.slice Option.none 0 0) 1 24 := ⟨by kernel_rfl, rfl, rfl, rfl⟩
instance : TI 281 (Go.Value.slice Option.none 0 0) 1 false := ⟨Tryz.zeroValue281, Tryz.sizeOf281, Tryz.isAgg281⟩
instance : TD 281 (Go.TypeDesc.slice 22) := ⟨Tryz.underlying281⟩
instance : TB 281 Tryz.t281 (Go.Value.slice Option.none 0 0) 1 24 := ⟨by kernel_rfl, rfl, rfl, rfl⟩
instance : TI 285 (Go.Value.pointer Option.none) 1 false := ⟨Tryz.zeroValue285, Tryz.sizeOf285, Tryz.isAgg285⟩
instance : TD 285 (Go.TypeDesc.pointer 287) := ⟨Tryz.underlying285⟩
instance : TB 285 Tryz.t285 (Go.Value.pointer Option.none) 1 8 := ⟨by kernel_rfl, rfl, rfl, rfl⟩
instance : TI 286 (Go.Value.agg #[Go.Value.string { data := #[] }]) 1 true := ⟨Tryz.zeroValue286, Tryz.sizeOf286, Tryz.isAgg286⟩
instance : TF 286 0 0 := mkTF Tryz.underlying286 rfl Tryz.sizeOf9 (by decide)
instance : TB 286 Tryz.t286 (Go.Value.agg #[Go.Value.string { data := #[] }]) 1 16 := ⟨by kernel_rfl, rfl, rfl, rfl⟩
instance : TI 287 (Go.Value.agg #[Go.Value.string { data := #[] }]) 1 true := ⟨Tryz.zeroValue287, Tryz.sizeOf287, Tryz.isAgg287⟩
instance : TF 287 0 0 := mkTF Tryz.underlying287 rfl Tryz.sizeOf9 (by decide)
instance : TB 287 Tryz.t287 (Go.Value.agg #[Go.Value.string { data := #[] }]) 1 16 := ⟨by kernel_rfl, rfl, rfl, rfl⟩
instance : TI 288 (Go.Value.agg #[Go.Value.int Go.IntKind.i64 0, Go.Value.int Go.IntKind.i64 0, Go.Value.int Go.IntKind.i64 0, Go.Value.int Go.IntKind.i64 0, Go.Value.int Go.IntKind.i64 0, Go.Value.int Go.IntKind.i64 0, Go.Value.int Go.IntKind.i64 0, Go.Value.int Go.IntKind.i64 0, Go.Value.int Go.IntKind.i64 0, Go.Value.bool Bool.false]) 10 true := ⟨Tryz.zeroValue288, Tryz.sizeOf288, Tryz.isAgg288⟩
instance : TF 288 0 0 := mkTF Tryz.underlying288 rfl Tryz.sizeOf3 (by decide)
instance : TF 288 1 1 := mkTF Tryz.underlying288 rfl Tryz.sizeOf3 (by decide)
instance : TF 288 2 2 := mkTF Tryz.underlying288 rfl Tryz.sizeOf3 (by decide)
instance : TF 288 3 3 := mkTF Tryz.underlying288 rfl Tryz.sizeOf3 (by decide)
instance : TF 288 4 4 := mkTF Tryz.underlying288 rfl Tryz.sizeOf3 (by decide)
instance : TF 288 5 5 := mkTF Tryz.underlying288 rfl Tryz.sizeOf3 (by decide)
instance : TF 288 6 6 := mkTF Tryz.underlying288 rfl Tryz.sizeOf3 (by decide)
instance : TF 288 7 7 := mkTF Tryz.underlying288 rfl Tryz.sizeOf3 (by decide)
instance : TF 288 8 8 := mkTF Tryz.underlying288 rfl Tryz.sizeOf3 (by decide)
instance : TF 288 9 9 := mkTF Tryz.underlying288 rfl Tryz.sizeOf4 (by decide)
instance : TB 288 Tryz.t288 (Go.Value.agg #[Go.Value.int Go.IntKind.i64 0, Go.Value.int Go.IntKind.i64 0, Go.Value.int Go.IntKind.i64 0, Go.Value.int Go.IntKind.i64 0, Go.Value.int Go.IntKind.i64 0, Go.Value.int Go.IntKind.i64 0, Go.Value.int Go.IntKind.i64 0, Go.Value.int Go.IntKind.i64 0, Go.Value.int Go.IntKind.i64 0, Go.Value.bool Bool.false]) 10 80 := ⟨by kernel_rfl, rfl, rfl, rfl⟩
instance : TI 289 (Go.Value.agg #[Go.Value.int Go.IntKind.i64 0, Go.Value.int Go.IntKind.i64 0, Go.Value.int Go.IntKind.i64 0, Go.Value.int Go.IntKind.i64 0, Go.Value.int Go.IntKind.i64 0, Go.Value.int Go.IntKind.i64 0, Go.Value.int Go.IntKind.i64 0, Go.Value.int Go.IntKind.i64 0, Go.Value.int Go.IntKind.i64 0, Go.Value.bool Bool.false]) 10 true := ⟨Tryz.zeroValue289, Tryz.sizeOf289, Tryz.isAgg289⟩
instance : TF 289 0 0 := mkTF Tryz.underlying289 rfl Tryz.sizeOf3 (by decide)
instance : TF 289 1 1 := mkTF Tryz.underlying289 rfl Tryz.sizeOf3 (by decide)
instance : TF 289 2 2 := mkTF Tryz.underlying289 rfl Tryz.sizeOf3 (by decide)
instance : TF 289 3 3 := mkTF Tryz.underlying289 rfl Tryz.sizeOf3 (by decide)
instance : TF 289 4 4 := mkTF Tryz.underlying289 rfl Tryz.sizeOf3 (by decide)
instance : TF 289 5 5 := mkTF Tryz.underlying289 rfl Tryz.sizeOf3 (by decide)
instance : TF 289 6 6 := mkTF Tryz.underlying289 rfl Tryz.sizeOf3 (by decide)
instance : TF 289 7 7 := mkTF Tryz.underlying289 rfl Tryz.sizeOf3 (by decide)
instance : TF 289 8 8 := mkTF Tryz.underlying289 rfl Tryz.sizeOf3 (by decide)
instance : TF 289 9 9 := mkTF Tryz.underlying289 rfl Tryz.sizeOf4 (by decide)
instance : TB 289 Tryz.t289 (Go.Value.agg #[Go.Value.int Go.IntKind.i64 0, Go.Value.int Go.IntKind.i64 0, Go.Value.int Go.IntKind.i64 0, Go.Value.int Go.IntKind.i64 0, Go.Value.int Go.IntKind.i64 0, Go.Value.int Go.IntKind.i64 0, Go.Value.int Go.IntKind.i64 0, Go.Value.int Go.IntKind.i64 0, Go.Value.int Go.IntKind.i64 0, Go.Value.bool Bool.false]) 10 80 := ⟨by kernel_rfl, rfl, rfl, rfl⟩
instance : TI 290 (Go.Value.agg #[Go.Value.int Go.IntKind.i64 0, Go.Value.int Go.IntKind.i64 0, Go.Value.int Go.IntKind.i64 0, Go.Value.int Go.IntKind.i64 0, Go.Value.int Go.IntKind.i64 0, Go.Value.int Go.IntKind.i64 0, Go.Value.int Go.IntKind.i64 0, Go.Value.int Go.IntKind.i64 0, Go.Value.int Go.IntKind.i64 0, Go.Value.bool Bool.false]) 10 true := ⟨Tryz.zeroValue290, Tryz.sizeOf290, Tryz.isAgg290⟩
instance : TF 290 0 0 := mkTF Tryz.underlying290 rfl Tryz.sizeOf289 (by decide)
instance : TB 290 Tryz.t290 (Go.Value.agg #[Go.Value.int Go.IntKind.i64 0, Go.Value.int Go.IntKind.i64 0, Go.Value.int Go.IntKind.i64 0, Go.Value.int Go.IntKind.i64 0, Go.Value.int Go.IntKind.i64 0, Go.Value.int Go.IntKind.i64 0, Go.Value.int Go.IntKind.i64 0, Go.Value.int Go.IntKind.i64 0, Go.Value.int Go.IntKind.i64 0, Go.Value.bool Bool.false]) 10 80 := ⟨by kernel_rfl, rfl, rfl, rfl⟩
instance : TI 291 (Go.Value.agg #[Go.Value.int Go.IntKind.i64 0, Go.Value.int Go.IntKind.i64 0, Go.Value.int Go.IntKind.i64 0, Go.Value.int Go.IntKind.i64 0, Go.Value.int Go.IntKind.i64 0, Go.Value.int Go.IntKind.i64 0, Go.Value.int Go.IntKind.i64 0, Go.Value.int Go.IntKind.i64 0, Go.Value.int Go.IntKind.i64 0, Go.Value.bool Bool.false]) 10 true := ⟨Tryz.zeroValue291, Tryz.sizeOf291, Tryz.isAgg291⟩
instance : TF 291 0 0 := mkTF Tryz.underlying291 rfl Tryz.sizeOf289 (by decide)
instance : TB 291 Tryz.t291 (Go.Value.agg #[Go.Value.int Go.IntKind.i64 0, Go.Value.int Go.IntKind.i64 0, Go.Value.int Go.IntKind.i64 0, Go.Value.int Go.IntKind.i64 0, Go.Value.int Go.IntKind.i64 0, Go.Value.int Go.IntKind.i64 0, Go.Value.int Go.IntKind.i64 0, Go.Value.int Go.IntKind.i64 0, Go.Value.int Go.IntKind.i64 0, Go.Value.bool Bool.false]) 10 80 := ⟨by kernel_rfl, rfl, rfl, rfl⟩
instance : TI 293 (Go.Value.agg #[Go.Value.int Go.IntKind.i64 0, Go.Value.string { data := #[] }, Go.Value.int Go.IntKind.i64 0, Go.Value.int Go.IntKind.i64 0]) 4 true := ⟨Tryz.zeroValue293, Tryz.sizeOf293, Tryz.isAgg293⟩
instance : TF 293 0 0 := mkTF Tryz.underlying293 rfl Tryz.sizeOf3 (by decide)
instance : TF 293 1 1 := mkTF Tryz.underlying293 rfl Tryz.sizeOf9 (by decide)
instance : TF 293 2 2 := mkTF Tryz.underlying293 rfl Tryz.sizeOf3 (by decide)
instance : TF 293 3 3 := mkTF Tryz.underlying293 rfl Tryz.sizeOf3 (by decide)
instance : TB 293 Tryz.t293 (Go.Value.agg #[Go.Value.int Go.IntKind.i64 0, Go.Value.string { data := #[] }, Go.Value.int Go.IntKind.i64 0, Go.Value.int Go.IntKind.i64 0]) 4 40 := ⟨by kernel_rfl, rfl, rfl, rfl⟩
instance : TI 294 (Go.Value.agg #[Go.Value.int Go.IntKind.i64 0, Go.Value.string { data := #[] }, Go.Value.int Go.IntKind.i64 0, Go.Value.int Go.IntKind.i64 0]) 4 true := ⟨Tryz.zeroValue294, Tryz.sizeOf294, Tryz.isAgg294⟩
instance : TF 294 0 0 := mkTF Tryz.underlying294 rfl Tryz.sizeOf3 (by decide)
instance : TF 294 1 1 := mkTF Tryz.underlying294 rfl Tryz.sizeOf9 (by decide)
instance : TF 294 2 2 := mkTF Tryz.underlying294 rfl Tryz.sizeOf3 (by decide)
instance : TF 294 3 3 := mkTF Tryz.underlying294 rfl Tryz.sizeOf3 (by decide)
instance : TB 294 Tryz.t294 (Go.Value.agg #[Go.Value.int Go.IntKind.i64 0, Go.Value.string { data := #[] }, Go.Value.int Go.IntKind.i64 0, Go.Value.int Go.IntKind.i64 0]) 4 40 := ⟨by kernel_rfl, rfl, rfl, rfl⟩
instance : TI 295 (Go.Value.agg #[Go.Value.int Go.IntKind.i64 0, Go.Value.string { data := #[] }, Go.Value.int Go.IntKind.i64 0, Go.Value.int Go.IntKind.i64 0]) 4 true := ⟨Tryz.zeroValue295, Tryz.sizeOf295, Tryz.isAgg295⟩
instance : TF 295 0 0 := mkTF Tryz.underlying295 rfl Tryz.sizeOf294 (by decide)
instance : TB 295 Tryz.t295 (Go.Value.agg #[Go.Value.int Go.IntKind.i64 0, Go.Value.string { data := #[] }, Go.Value.int Go.IntKind.i64 0, Go.Value.int Go.IntKind.i64 0]) 4 40 := ⟨by kernel_rfl, rfl, rfl, rfl⟩
instance : TI 296 (Go.Value.agg #[Go.Value.int Go.IntKind.i64 0, Go.Value.string { data := #[] }, Go.Value.int Go.IntKind.i64 0, Go.Value.int Go.IntKind.i64 0]) 4 true := ⟨Tryz.zeroValue296, Tryz.sizeOf296, Tryz.isAgg296⟩
instance : TF 296 0 0 := mkTF Tryz.underlying296 rfl Tryz.sizeOf294 (by decide)
instance : TB 296 Tryz.t296 (Go.Value.agg #[Go.Value.int Go.IntKind.i64 0, Go.Value.string { data := #[] }, Go.Value.int Go.IntKind.i64 0, Go.Value.int Go.IntKind.i64 0]) 4 40 := ⟨by kernel_rfl, rfl, rfl, rfl⟩
instance : TI 298 (Go.Value.int Go.IntKind.i64 0) 1 false := ⟨Tryz.zeroValue298, Tryz.sizeOf298, Tryz.isAgg298⟩
instance : TD 298 (Go.TypeDesc.int Go.IntKind.i64) := ⟨Tryz.underlying298⟩
instance : TB 298 Tryz.t298 (Go.Value.int Go.IntKind.i64 0) 1 8 := ⟨by kernel_rfl, rfl, rfl, rfl⟩
instance : TI 306 (Go.Value.pointer Option.none) 1 false := ⟨Tryz.zeroValue306, Tryz.sizeOf306, Tryz.isAgg306⟩
instance : TD 306 Go.TypeDesc.unsafePointer := ⟨Tryz.underlying306⟩
instance : TB 306 Tryz.t306 (Go.Value.pointer Option.none) 1 8 := ⟨by kernel_rfl, rfl, rfl, rfl⟩
instance : TI 312 (Go.Value.int Go.IntKind.u64 0) 1 false := ⟨Tryz.zeroValue312, Tryz.sizeOf312, Tryz.isAgg312⟩
instance : TD 312 (Go.TypeDesc.int Go.IntKind.u64) := ⟨Tryz.underlying312⟩
instance : TB 312 Tryz.t312 (Go.Value.int Go.IntKind.u64 0) 1 8 := ⟨by kernel_rfl, rfl, rfl, rfl⟩
instance : TI 316 (Go.Value.pointer Option.none) 1 false := ⟨Tryz.zeroValue316, Tryz.sizeOf316, Tryz.isAgg316⟩
instance : TD 316 (Go.TypeDesc.pointer 3) := ⟨Tryz.underlying316⟩
instance : TB 316 Tryz.t316 (Go.Value.pointer Option.none) 1 8 := ⟨by kernel_rfl, rfl, rfl, rfl⟩
instance : TI 320 (Go.Value.pointer Option.none) 1 false := ⟨Tryz.zeroValue320, Tryz.sizeOf320, Tryz.isAgg320⟩
instance : TD 320 (Go.TypeDesc.pointer 312) := ⟨Tryz.underlying320⟩
instance : TB 320 Tryz.t320 (Go.Value.pointer Option.none) 1 8 := ⟨by kernel_rfl, rfl, rfl, rfl⟩
instance : TI 323 (Go.Value.agg #[Go.Value.pointer Option.none, Go.Value.pointer Option.none, Go.Value.pointer Option.none, Go.Value.string { data := #[] }]) 4 true := ⟨Tryz.zeroValue323, Tryz.sizeOf323, Tryz.isAgg323⟩
instance : TF 323 0 0 := mkTF Tryz.underlying323 rfl Tryz.sizeOf17 (by decide)
instance : TF 323 1 1 := mkTF Tryz.underlying323 rfl Tryz.sizeOf17 (by decide)
instance : TF 323 2 2 := mkTF Tryz.underlying323 rfl Tryz.sizeOf17 (by decide)
instance : TF 323 3 3 := mkTF Tryz.underlying323 rfl Tryz.sizeOf9 (by decide)
instance : TB 323 Tryz.t323 (Go.Value.agg #[Go.Value.pointer Option.none, Go.Value.pointer Option.none, Go.Value.pointer Option.none, Go.Value.string { data := #[] }]) 4 40 := ⟨by kernel_rfl, rfl, rfl, rfl⟩
instance : TI 324 (Go.Value.agg #[Go.Value.pointer Option.none, Go.Value.pointer Option.none, Go.Value.pointer Option.none, Go.Value.string { data := #[] }]) 4 true := ⟨Tryz.zeroValue324, Tryz.sizeOf324, Tryz.isAgg324⟩
instance : TF 324 0 0 := mkTF Tryz.underlying324 rfl Tryz.sizeOf17 (by decide)
instance : TF 324 1 1 := mkTF Tryz.underlying324 rfl Tryz.sizeOf17 (by decide)
instance : TF 324 2 2 := mkTF Tryz.underlying324 rfl Tryz.sizeOf17 (by decide)
instance : TF 324 3 3 := mkTF Tryz.underlying324 rfl Tryz.sizeOf9 (by decide)
instance : TB 324 Tryz.t324 (Go.Value.agg #[Go.Value.pointer Option.none, Go.Value.pointer Option.none, Go.Value.pointer Option.none, Go.Value.string { data := #[] }]) 4 40 := ⟨by kernel_rfl, rfl, rfl, rfl⟩
instance : TI 325 (Go.Value.agg #[]) 0 true := ⟨Tryz.zeroValue325, Tryz.sizeOf325, Tryz.isAgg325⟩
instance : TD 325 (Go.TypeDesc.array 0 16) := ⟨Tryz.underlying325⟩
instance : TB 325 Tryz.t325 (Go.Value.agg #[]) 0 0 := ⟨by kernel_rfl, rfl, rfl, rfl⟩
instance : TI 326 (Go.Value.agg #[]) 0 true := ⟨Tryz.zeroValue326, Tryz.sizeOf326, Tryz.isAgg326⟩
instance : TB 326 Tryz.t326 (Go.Value.agg #[]) 0 0 := ⟨by kernel_rfl, rfl, rfl, rfl⟩
instance : TI 327 (Go.Value.agg #[]) 0 true := ⟨Tryz.zeroValue327, Tryz.sizeOf327, Tryz.isAgg327⟩
instance : TB 327 Tryz.t327 (Go.Value.agg #[]) 0 0 := ⟨by kernel_rfl, rfl, rfl, rfl⟩
instance : TI 328 (Go.Value.int Go.IntKind.u8 0) 1 false := ⟨Tryz.zeroValue328, Tryz.sizeOf328, Tryz.isAgg328⟩
instance : TD 328 (Go.TypeDesc.int Go.IntKind.u8) := ⟨Tryz.underlying328⟩
instance : TB 328 Tryz.t328 (Go.Value.int Go.IntKind.u8 0) 1 1 := ⟨by kernel_rfl, rfl, rfl, rfl⟩
instance : TI 329 (Go.Value.int Go.IntKind.u8 0) 1 false := ⟨Tryz.zeroValue329, Tryz.sizeOf329, Tryz.isAgg329⟩
instance : TD 329 (Go.TypeDesc.int Go.IntKind.u8) := ⟨Tryz.underlying329⟩
instance : TB 329 Tryz.t329 (Go.Value.int Go.IntKind.u8 0) 1 1 := ⟨by kernel_rfl, rfl, rfl, rfl⟩
instance : TI 331 (Go.Value.int Go.IntKind.i32 0) 1 false := ⟨Tryz.zeroValue331, Tryz.sizeOf331, Tryz.isAgg331⟩
instance : TD 331 (Go.TypeDesc.int Go.IntKind.i32) := ⟨Tryz.underlying331⟩
instance : TB 331 Tryz.t331 (Go.Value.int Go.IntKind.i32 0) 1 4 := ⟨by kernel_rfl, rfl, rfl, rfl⟩
instance : TI 332 (Go.Value.int Go.IntKind.i32 0) 1 false := ⟨Tryz.zeroValue332, Tryz.sizeOf332, Tryz.isAgg332⟩
instance : TD 332 (Go.TypeDesc.int Go.IntKind.i32) := ⟨Tryz.underlying332⟩
instance : TB 332 Tryz.t332 (Go.Value.int Go.IntKind.i32 0) 1 4 := ⟨by kernel_rfl, rfl, rfl, rfl⟩
instance : TI 333 (Go.Value.agg #[Go.Value.int Go.IntKind.u64 0, Go.Value.int Go.IntKind.u64 0, Go.Value.int Go.IntKind.u32 0, Go.Value.int Go.IntKind.u8 0, Go.Value.int Go.IntKind.u8 0, Go.Value.int Go.IntKind.u8 0, Go.Value.int Go.IntKind.u8 0, Go.Value.nilFunc, Go.Value.pointer Option.none, Go.Value.int Go.IntKind.i32 0, Go.Value.int Go.IntKind.i32 0]) 11 true := ⟨Tryz.zeroValue333, Tryz.sizeOf333, Tryz.isAgg333⟩
instance : TF 333 0 0 := mkTF Tryz.underlying333 rfl Tryz.sizeOf12 (by decide)
instance : TF 333 1 1 := mkTF Tryz.underlying333 rfl Tryz.sizeOf12 (by decide)
instance : TF 333 2 2 := mkTF Tryz.underlying333 rfl Tryz.sizeOf59 (by decide)
instance : TF 333 3 3 := mkTF Tryz.underlying333 rfl Tryz.sizeOf328 (by decide)
instance : TF 333 4 4 := mkTF Tryz.underlying333 rfl Tryz.sizeOf5 (by decide)
instance : TF 333 5 5 := mkTF Tryz.underlying333 rfl Tryz.sizeOf5 (by decide)
instance : TF 333 6 6 := mkTF Tryz.underlying333 rfl Tryz.sizeOf329 (by decide)
instance : TF 333 7 7 := mkTF Tryz.underlying333 rfl Tryz.sizeOf330 (by decide)
instance : TF 333 8 8 := mkTF Tryz.underlying333 rfl Tryz.sizeOf270 (by decide)
instance : TF 333 9 9 := mkTF Tryz.underlying333 rfl Tryz.sizeOf331 (by decide)
instance : TF 333 10 10 := mkTF Tryz.underlying333 rfl Tryz.sizeOf332 (by decide)
instance : TB 333 Tryz.t333 (Go.Value.agg #[Go.Value.int Go.IntKind.u64 0, Go.Value.int Go.IntKind.u64 0, Go.Value.int Go.IntKind.u32 0, Go.Value.int Go.IntKind.u8 0, Go.Value.int Go.IntKind.u8 0, Go.Value.int Go.IntKind.u8 0, Go.Value.int Go.IntKind.u8 0, Go.Value.nilFunc, Go.Value.pointer Option.none, Go.Value.int Go.IntKind.i32 0, Go.Value.int Go.IntKind.i32 0]) 11 48 := ⟨by kernel_rfl, rfl, rfl, rfl⟩
instance : TI 334 (Go.Value.agg #[Go.Value.int Go.IntKind.u64 0, Go.Value.int Go.IntKind.u64 0, Go.Value.int Go.IntKind.u32 0, Go.Value.int Go.IntKind.u8 0, Go.Value.int Go.IntKind.u8 0, Go.Value.int Go.IntKind.u8 0, Go.Value.int Go.IntKind.u8 0, Go.Value.nilFunc, Go.Value.pointer Option.none, Go.Value.int Go.IntKind.i32 0, Go.Value.int Go.IntKind.i32 0]) 11 true := ⟨Tryz.zeroValue334, Tryz.sizeOf334, Tryz.isAgg334⟩
instance : TF 334 0 0 := mkTF Tryz.underlying334 rfl Tryz.sizeOf12 (by decide)
instance : TF 334 1 1 := mkTF Tryz.underlying334 rfl Tryz.sizeOf12 (by decide)
instance : TF 334 2 2 := mkTF Tryz.underlying334 rfl Tryz.sizeOf59 (by decide)
instance : TF 334 3 3 := mkTF Tryz.underlying334 rfl Tryz.sizeOf328 (by decide)
instance : TF 334 4 4 := mkTF Tryz.underlying334 rfl Tryz.sizeOf5 (by decide)
instance : TF 334 5 5 := mkTF Tryz.underlying334 rfl Tryz.sizeOf5 (by decide)
instance : TF 334 6 6 := mkTF Tryz.underlying334 rfl Tryz.sizeOf329 (by decide)
instance : TF 334 7 7 := mkTF Tryz.underlying334 rfl Tryz.sizeOf330 (by decide)
instance : TF 334 8 8 := mkTF Tryz.underlying334 rfl Tryz.sizeOf270 (by decide)
instance : TF 334 9 9 := mkTF Tryz.underlying334 rfl Tryz.sizeOf331 (by decide)
instance : TF 334 10 10 := mkTF Tryz.underlying334 rfl Tryz.sizeOf332 (by decide)
instance : TB 334 Tryz.t334 (Go.Value.agg #[Go.Value.int Go.IntKind.u64 0, Go.Value.int Go.IntKind.u64 0, Go.Value.int Go.IntKind.u32 0, Go.Value.int Go.IntKind.u8 0, Go.Value.int Go.IntKind.u8 0, Go.Value.int Go.IntKind.u8 0, Go.Value.int Go.IntKind.u8 0, Go.Value.nilFunc, Go.Value.pointer Option.none, Go.Value.int Go.IntKind.i32 0, Go.Value.int Go.IntKind.i32 0]) 11 48 := ⟨by kernel_rfl, rfl, rfl, rfl⟩
instance : TI 341 (Go.Value.agg #[Go.Value.int Go.IntKind.i64 0, Go.Value.int Go.IntKind.u64 0, Go.Value.string { data := #[] }, Go.Value.int Go.IntKind.i64 0, Go.Value.int Go.IntKind.i64 0]) 5 true := ⟨Tryz.zeroValue341, Tryz.sizeOf341, Tryz.isAgg341⟩
instance : TF 341 0 0 := mkTF Tryz.underlying341 rfl Tryz.sizeOf3 (by decide)
instance : TF 341 1 1 := mkTF Tryz.underlying341 rfl Tryz.sizeOf35 (by decide)
instance : TF 341 2 2 := mkTF Tryz.underlying341 rfl Tryz.sizeOf9 (by decide)
instance : TF 341 3 3 := mkTF Tryz.underlying341 rfl Tryz.sizeOf3 (by decide)
instance : TF 341 4 4 := mkTF Tryz.underlying341 rfl Tryz.sizeOf3 (by decide)
instance : TB 341 Tryz.t341 (Go.Value.agg #[Go.Value.int Go.IntKind.i64 0, Go.Value.int Go.IntKind.u64 0, Go.Value.string { data := #[] }, Go.Value.int Go.IntKind.i64 0, Go.Value.int Go.IntKind.i64 0]) 5 48 := ⟨by kernel_rfl, rfl, rfl, rfl⟩
instance : TI 342 (Go.Value.agg #[Go.Value.int Go.IntKind.i64 0, Go.Value.int Go.IntKind.u64 0, Go.Value.string { data := #[] }, Go.Value.int Go.IntKind.i64 0, Go.Value.int Go.IntKind.i64 0]) 5 true := ⟨Tryz.zeroValue342, Tryz.sizeOf342, Tryz.isAgg342⟩
instance : TF 342 0 0 := mkTF Tryz.underlying342 rfl Tryz.sizeOf3 (by decide)
instance : TF 342 1 1 := mkTF Tryz.underlying342 rfl Tryz.sizeOf35 (by decide)
instance : TF 342 2 2 := mkTF Tryz.underlying342 rfl Tryz.sizeOf9 (by decide)
instance : TF 342 3 3 := mkTF Tryz.underlying342 rfl Tryz.sizeOf3 (by decide)
instance : TF 342 4 4 := mkTF Tryz.underlying342 rfl Tryz.sizeOf3 (by decide)
instance : TB 342 Tryz.t342 (Go.Value.agg #[Go.Value.int Go.IntKind.i64 0, Go.Value.int Go.IntKind.u64 0, Go.Value.string { data := #[] }, Go.Value.int Go.IntKind.i64 0, Go.Value.int Go.IntKind.i64 0]) 5 48 := ⟨by kernel_rfl, rfl, rfl, rfl⟩
end Go.Proofs.YtbdhhedfplkidaaGreat
