/- A part of the framework. -/
import Derived.Test.YtfhjmagknondfaaA4
import Derived.Test.YtfhjmagknondfaaProg
import Derived.KernelRfl
set_option linter.unusedVariables false
namespace Go.Ab
open Go Go.Ab Go.Proofs
@[simp] theorem mixed : Try.prog.follows .mixedOrders = true := by kernel_rfl
@[simp] theorem t1_has : hasT Try.prog 1 = true := by kernel_rfl
@[simp] theorem t1_agg : isAggB Try.prog 1 = false := by kernel_rfl
@[simp] theorem t1_sz : szOf Try.prog 1 = 1 := by kernel_rfl
@[simp] theorem t1_by : bytesOf Try.prog 1 = 8 := by kernel_rfl
@[simp] theorem t1_zero : zeroOf Try.prog 1 = some (.nilFunc) := by kernel_rfl
@[simp] theorem t1_el : elemOK Try.prog 1 = true := by kernel_rfl
@[simp] theorem t1_sl : elemOfS Try.prog 1 = none := by kernel_rfl
@[simp] theorem t1_str : isStr Try.prog 1 = false := by kernel_rfl
@[simp] theorem t1_sh : shapeOf Try.prog 8 1 = none := by kernel_rfl
@[simp] theorem t1_eg : eqG Try.prog 1 = false := by kernel_rfl
attribute [simp] Try.underlying1
@[simp] theorem t2_has : hasT Try.prog 2 = true := by kernel_rfl
@[simp] theorem t2_agg : isAggB Try.prog 2 = false := by kernel_rfl
@[simp] theorem t2_sz : szOf Try.prog 2 = 1 := by kernel_rfl
@[simp] theorem t2_by : bytesOf Try.prog 2 = 8 := by kernel_rfl
@[simp] theorem t2_zero : zeroOf Try.prog 2 = some (.int .i64 0) := by kernel_rfl
@[simp] theorem t2_el : elemOK Try.prog 2 = true := by kernel_rfl
@[simp] theorem t2_sl : elemOfS Try.prog 2 = none := by kernel_rfl
@[simp] theorem t2_str : isStr Try.prog 2 = false := by kernel_rfl
@[simp] theorem t2_sh : shapeOf Try.prog 8 2 = some [.int .i64] := by kernel_rfl
@[simp] theorem t2_eg : eqG Try.prog 2 = false := by kernel_rfl
attribute [simp] Try.underlying2
@[simp] theorem t3_has : hasT Try.prog 3 = true := by kernel_rfl
@[simp] theorem t3_agg : isAggB Try.prog 3 = false := by kernel_rfl
@[simp] theorem t3_sz : szOf Try.prog 3 = 1 := by kernel_rfl
@[simp] theorem t3_by : bytesOf Try.prog 3 = 8 := by kernel_rfl
@[simp] theorem t3_zero : zeroOf Try.prog 3 = some (.int .i64 0) := by kernel_rfl
@[simp] theorem t3_el : elemOK Try.prog 3 = true := by kernel_rfl
@[simp] theorem t3_sl : elemOfS Try.prog 3 = none := by kernel_rfl
@[simp] theorem t3_str : isStr Try.prog 3 = false := by kernel_rfl
@[simp] theorem t3_sh : shapeOf Try.prog 8 3 = some [.int .i64] := by kernel_rfl
@[simp] theorem t3_eg : eqG Try.prog 3 = false := by kernel_rfl
attribute [simp] Try.underlying3
@[simp] theorem t4_has : hasT Try.prog 4 = true := by kernel_rfl
@[simp] theorem t4_agg : isAggB Try.prog 4 = false := by kernel_rfl
@[simp] theorem t4_sz : szOf Try.prog 4 = 1 := by kernel_rfl
@[simp] theorem t4_by : bytesOf Try.prog 4 = 1 := by kernel_rfl
@[simp] theorem t4_zero : zeroOf Try.prog 4 = some (.bool false) := by kernel_rfl
@[simp] theorem t4_el : elemOK Try.prog 4 = true := by kernel_rfl
@[simp] theorem t4_sl : elemOfS Try.prog 4 = none := by kernel_rfl
@[simp] theorem t4_str : isStr Try.prog 4 = false := by kernel_rfl
@[simp] theorem t4_sh : shapeOf Try.prog 8 4 = some [.bool] := by kernel_rfl
@[simp] theorem t4_eg : eqG Try.prog 4 = false := by kernel_rfl
attribute [simp] Try.underlying4
@[simp] theorem t5_has : hasT Try.prog 5 = true := by kernel_rfl
@[simp] theorem t5_agg : isAggB Try.prog 5 = false := by kernel_rfl
@[simp] theorem t5_sz : szOf Try.prog 5 = 1 := by kernel_rfl
@[simp] theorem t5_by : bytesOf Try.prog 5 = 1 := by kernel_rfl
@[simp] theorem t5_zero : zeroOf Try.prog 5 = some (.int .u8 0) := by kernel_rfl
@[simp] theorem t5_el : elemOK Try.prog 5 = true := by kernel_rfl
@[simp] theorem t5_sl : elemOfS Try.prog 5 = none := by kernel_rfl
@[simp] theorem t5_str : isStr Try.prog 5 = false := by kernel_rfl
@[simp] theorem t5_sh : shapeOf Try.prog 8 5 = some [.int .u8] := by kernel_rfl
@[simp] theorem t5_eg : eqG Try.prog 5 = false := by kernel_rfl
attribute [simp] Try.underlying5
@[simp] theorem t9_has : hasT Try.prog 9 = true := by kernel_rfl
@[simp] theorem t9_agg : isAggB Try.prog 9 = false := by kernel_rfl
@[simp] theorem t9_sz : szOf Try.prog 9 = 1 := by kernel_rfl
@[simp] theorem t9_by : bytesOf Try.prog 9 = 16 := by kernel_rfl
@[simp] theorem t9_zero : zeroOf Try.prog 9 = some (.string ⟨#[]⟩) := by kernel_rfl
@[simp] theorem t9_el : elemOK Try.prog 9 = true := by kernel_rfl
@[simp] theorem t9_sl : elemOfS Try.prog 9 = none := by kernel_rfl
@[simp] theorem t9_str : isStr Try.prog 9 = true := by kernel_rfl
@[simp] theorem t9_sh : shapeOf Try.prog 8 9 = some [.str] := by kernel_rfl
@[simp] theorem t9_eg : eqG Try.prog 9 = false := by kernel_rfl
attribute [simp] Try.underlying9
@[simp] theorem t12_has : hasT Try.prog 12 = true := by kernel_rfl
@[simp] theorem t12_agg : isAggB Try.prog 12 = false := by kernel_rfl
@[simp] theorem t12_sz : szOf Try.prog 12 = 1 := by kernel_rfl
@[simp] theorem t12_by : bytesOf Try.prog 12 = 8 := by kernel_rfl
@[simp] theorem t12_zero : zeroOf Try.prog 12 = some (.int .u64 0) := by kernel_rfl
@[simp] theorem t12_el : elemOK Try.prog 12 = true := by kernel_rfl
@[simp] theorem t12_sl : elemOfS Try.prog 12 = none := by kernel_rfl
@[simp] theorem t12_str : isStr Try.prog 12 = false := by kernel_rfl
@[simp] theorem t12_sh : shapeOf Try.prog 8 12 = some [.int .u64] := by kernel_rfl
@[simp] theorem t12_eg : eqG Try.prog 12 = false := by kernel_rfl
attribute [simp] Try.underlying12
@[simp] theorem t21_has : hasT Try.prog 21 = true := by kernel_rfl
@[simp] theorem t21_agg : isAggB Try.prog 21 = false := by kernel_rfl
@[simp] theorem t21_sz : szOf Try.prog 21 = 1 := by kernel_rfl
@[simp] theorem t21_by : bytesOf Try.prog 21 = 4 := by kernel_rfl
@[simp] theorem t21_zero : zeroOf Try.prog 21 = some (.int .i32 0) := by kernel_rfl
@[simp] theorem t21_el : elemOK Try.prog 21 = true := by kernel_rfl
@[simp] theorem t21_sl : elemOfS Try.prog 21 = none := by kernel_rfl
@[simp] theorem t21_str : isStr Try.prog 21 = false := by kernel_rfl
@[simp] theorem t21_sh : shapeOf Try.prog 8 21 = some [.int .i32] := by kernel_rfl
@[simp] theorem t21_eg : eqG Try.prog 21 = false := by kernel_rfl
attribute [simp] Try.underlying21
@[simp] theorem t22_has : hasT Try.prog 22 = true := by kernel_rfl
@[simp] theorem t22_agg : isAggB Try.prog 22 = false := by kernel_rfl
@[simp] theorem t22_sz : szOf Try.prog 22 = 1 := by kernel_rfl
@[simp] theorem t22_by : bytesOf Try.prog 22 = 24 := by kernel_rfl
@[simp] theorem t22_zero : zeroOf Try.prog 22 = some (.slice none 0 0) := by kernel_rfl
@[simp] theorem t22_el : elemOK Try.prog 22 = true := by kernel_rfl
@[simp] theorem t22_sl : elemOfS Try.prog 22 = some 9 := by kernel_rfl
@[simp] theorem t22_str : isStr Try.prog 22 = false := by kernel_rfl
@[simp] theorem t22_sh : shapeOf Try.prog 8 22 = none := by kernel_rfl
@[simp] theorem t22_eg : eqG Try.prog 22 = false := by kernel_rfl
attribute [simp] Try.underlying22
@[simp] theorem t23_has : hasT Try.prog 23 = true := by kernel_rfl
@[simp] theorem t23_agg : isAggB Try.prog 23 = false := by kernel_rfl
@[simp] theorem t23_sz : szOf Try.prog 23 = 1 := by kernel_rfl
@[simp] theorem t23_by : bytesOf Try.prog 23 = 24 := by kernel_rfl
@[simp] theorem t23_zero : zeroOf Try.prog 23 = some (.slice none 0 0) := by kernel_rfl
@[simp] theorem t23_el : elemOK Try.prog 23 = true := by kernel_rfl
@[simp] theorem t23_sl : elemOfS Try.prog 23 = some 31 := by kernel_rfl
@[simp] theorem t23_str : isStr Try.prog 23 = false := by kernel_rfl
@[simp] theorem t23_sh : shapeOf Try.prog 8 23 = none := by kernel_rfl
@[simp] theorem t23_eg : eqG Try.prog 23 = false := by kernel_rfl
attribute [simp] Try.underlying23
@[simp] theorem t24_has : hasT Try.prog 24 = true := by kernel_rfl
@[simp] theorem t24_agg : isAggB Try.prog 24 = true := by kernel_rfl
@[simp] theorem t24_sz : szOf Try.prog 24 = 2 := by kernel_rfl
@[simp] theorem t24_by : bytesOf Try.prog 24 = 48 := by kernel_rfl
@[simp] theorem t24_zero : zeroOf Try.prog 24 = some (.agg #[.slice none 0 0, .slice none 0 0]) := by kernel_rfl
@[simp] theorem t24_el : elemOK Try.prog 24 = true := by kernel_rfl
@[simp] theorem t24_sl : elemOfS Try.prog 24 = none := by kernel_rfl
@[simp] theorem t24_str : isStr Try.prog 24 = false := by kernel_rfl
@[simp] theorem t24_pl : placesL Try.prog 24 = some [(0, 1), (1, 1)] := by kernel_rfl
@[simp] theorem t24_f0 : fieldOf Try.prog 24 0 = some (22, 0) := by kernel_rfl
@[simp] theorem t24_f1 : fieldOf Try.prog 24 1 = some (23, 1) := by kernel_rfl
@[simp] theorem t24_sh : shapeOf Try.prog 8 24 = none := by kernel_rfl
@[simp] theorem t24_eg : eqG Try.prog 24 = false := by kernel_rfl
attribute [simp] Try.underlying24
@[simp] theorem t25_has : hasT Try.prog 25 = true := by kernel_rfl
@[simp] theorem t25_agg : isAggB Try.prog 25 = true := by kernel_rfl
@[simp] theorem t25_sz : szOf Try.prog 25 = 2 := by kernel_rfl
@[simp] theorem t25_by : bytesOf Try.prog 25 = 48 := by kernel_rfl
@[simp] theorem t25_zero : zeroOf Try.prog 25 = some (.agg #[.slice none 0 0, .slice none 0 0]) := by kernel_rfl
@[simp] theorem t25_el : elemOK Try.prog 25 = true := by kernel_rfl
@[simp] theorem t25_sl : elemOfS Try.prog 25 = none := by kernel_rfl
@[simp] theorem t25_str : isStr Try.prog 25 = false := by kernel_rfl
@[simp] theorem t25_pl : placesL Try.prog 25 = some [(0, 1), (1, 1)] := by kernel_rfl
@[simp] theorem t25_f0 : fieldOf Try.prog 25 0 = some (22, 0) := by kernel_rfl
@[simp] theorem t25_f1 : fieldOf Try.prog 25 1 = some (23, 1) := by kernel_rfl
@[simp] theorem t25_sh : shapeOf Try.prog 8 25 = none := by kernel_rfl
@[simp] theorem t25_eg : eqG Try.prog 25 = false := by kernel_rfl
attribute [simp] Try.underlying25
@[simp] theorem t26_has : hasT Try.prog 26 = true := by kernel_rfl
@[simp] theorem t26_agg : isAggB Try.prog 26 = false := by kernel_rfl
@[simp] theorem t26_sz : szOf Try.prog 26 = 1 := by kernel_rfl
@[simp] theorem t26_by : bytesOf Try.prog 26 = 24 := by kernel_rfl
@[simp] theorem t26_zero : zeroOf Try.prog 26 = some (.slice none 0 0) := by kernel_rfl
@[simp] theorem t26_el : elemOK Try.prog 26 = true := by kernel_rfl
@[simp] theorem t26_sl : elemOfS Try.prog 26 = some 34 := by kernel_rfl
@[simp] theorem t26_str : isStr Try.prog 26 = false := by kernel_rfl
@[simp] theorem t26_sh : shapeOf Try.prog 8 26 = none := by kernel_rfl
@[simp] theorem t26_eg : eqG Try.prog 26 = false := by kernel_rfl
attribute [simp] Try.underlying26
@[simp] theorem t27_has : hasT Try.prog 27 = true := by kernel_rfl
@[simp] theorem t27_agg : isAggB Try.prog 27 = true := by kernel_rfl
@[simp] theorem t27_sz : szOf Try.prog 27 = 4 := by kernel_rfl
@[simp] theorem t27_by : bytesOf Try.prog 27 = 96 := by kernel_rfl
@[simp] theorem t27_zero : zeroOf Try.prog 27 = some (.agg #[.slice none 0 0, .slice none 0 0, .slice none 0 0, .slice none 0 0]) := by kernel_rfl
@[simp] theorem t27_el : elemOK Try.prog 27 = true := by kernel_rfl
@[simp] theorem t27_sl : elemOfS Try.prog 27 = none := by kernel_rfl
@[simp] theorem t27_str : isStr Try.prog 27 = false := by kernel_rfl
@[simp] theorem t27_pl : placesL Try.prog 27 = some [(0, 2), (2, 1), (3, 1)] := by kernel_rfl
@[simp] theorem t27_f0 : fieldOf Try.prog 27 0 = some (25, 0) := by kernel_rfl
@[simp] theorem t27_f1 : fieldOf Try.prog 27 1 = some (26, 2) := by kernel_rfl
@[simp] theorem t27_f2 : fieldOf Try.prog 27 2 = some (26, 3) := by kernel_rfl
@[simp] theorem t27_sh : shapeOf Try.prog 8 27 = none := by kernel_rfl
@[simp] theorem t27_eg : eqG Try.prog 27 = false := by kernel_rfl
attribute [simp] Try.underlying27
@[simp] theorem t28_has : hasT Try.prog 28 = true := by kernel_rfl
@[simp] theorem t28_agg : isAggB Try.prog 28 = true := by kernel_rfl
@[simp] theorem t28_sz : szOf Try.prog 28 = 4 := by kernel_rfl
@[simp] theorem t28_by : bytesOf Try.prog 28 = 96 := by kernel_rfl
@[simp] theorem t28_zero : zeroOf Try.prog 28 = some (.agg #[.slice none 0 0, .slice none 0 0, .slice none 0 0, .slice none 0 0]) := by kernel_rfl
@[simp] theorem t28_el : elemOK Try.prog 28 = true := by kernel_rfl
@[simp] theorem t28_sl : elemOfS Try.prog 28 = none := by kernel_rfl
@[simp] theorem t28_str : isStr Try.prog 28 = false := by kernel_rfl
@[simp] theorem t28_pl : placesL Try.prog 28 = some [(0, 2), (2, 1), (3, 1)] := by kernel_rfl
@[simp] theorem t28_f0 : fieldOf Try.prog 28 0 = some (25, 0) := by kernel_rfl
@[simp] theorem t28_f1 : fieldOf Try.prog 28 1 = some (26, 2) := by kernel_rfl
@[simp] theorem t28_f2 : fieldOf Try.prog 28 2 = some (26, 3) := by kernel_rfl
@[simp] theorem t28_sh : shapeOf Try.prog 8 28 = none := by kernel_rfl
@[simp] theorem t28_eg : eqG Try.prog 28 = false := by kernel_rfl
attribute [simp] Try.underlying28
@[simp] theorem t29_has : hasT Try.prog 29 = true := by kernel_rfl
@[simp] theorem t29_agg : isAggB Try.prog 29 = false := by kernel_rfl
@[simp] theorem t29_sz : szOf Try.prog 29 = 1 := by kernel_rfl
@[simp] theorem t29_by : bytesOf Try.prog 29 = 8 := by kernel_rfl
@[simp] theorem t29_zero : zeroOf Try.prog 29 = some (.nilFunc) := by kernel_rfl
@[simp] theorem t29_el : elemOK Try.prog 29 = true := by kernel_rfl
@[simp] theorem t29_sl : elemOfS Try.prog 29 = none := by kernel_rfl
@[simp] theorem t29_str : isStr Try.prog 29 = false := by kernel_rfl
@[simp] theorem t29_sh : shapeOf Try.prog 8 29 = none := by kernel_rfl
@[simp] theorem t29_eg : eqG Try.prog 29 = false := by kernel_rfl
attribute [simp] Try.underlying29
@[simp] theorem t30_has : hasT Try.prog 30 = true := by kernel_rfl
@[simp] theorem t30_agg : isAggB Try.prog 30 = false := by kernel_rfl
@[simp] theorem t30_sz : szOf Try.prog 30 = 1 := by kernel_rfl
@[simp] theorem t30_by : bytesOf Try.prog 30 = 8 := by kernel_rfl
@[simp] theorem t30_zero : zeroOf Try.prog 30 = some (.nilFunc) := by kernel_rfl
@[simp] theorem t30_el : elemOK Try.prog 30 = true := by kernel_rfl
@[simp] theorem t30_sl : elemOfS Try.prog 30 = none := by kernel_rfl
@[simp] theorem t30_str : isStr Try.prog 30 = false := by kernel_rfl
@[simp] theorem t30_sh : shapeOf Try.prog 8 30 = none := by kernel_rfl
@[simp] theorem t30_eg : eqG Try.prog 30 = false := by kernel_rfl
attribute [simp] Try.underlying30
@[simp] theorem t31_has : hasT Try.prog 31 = true := by kernel_rfl
@[simp] theorem t31_agg : isAggB Try.prog 31 = false := by kernel_rfl
@[simp] theorem t31_sz : szOf Try.prog 31 = 1 := by kernel_rfl
@[simp] theorem t31_by : bytesOf Try.prog 31 = 24 := by kernel_rfl
@[simp] theorem t31_zero : zeroOf Try.prog 31 = some (.slice none 0 0) := by kernel_rfl
@[simp] theorem t31_el : elemOK Try.prog 31 = true := by kernel_rfl
@[simp] theorem t31_sl : elemOfS Try.prog 31 = some 40 := by kernel_rfl
@[simp] theorem t31_str : isStr Try.prog 31 = false := by kernel_rfl
@[simp] theorem t31_sh : shapeOf Try.prog 8 31 = none := by kernel_rfl
@[simp] theorem t31_eg : eqG Try.prog 31 = false := by kernel_rfl
attribute [simp] Try.underlying31
@[simp] theorem t32_has : hasT Try.prog 32 = true := by kernel_rfl
@[simp] theorem t32_agg : isAggB Try.prog 32 = false := by kernel_rfl
@[simp] theorem t32_sz : szOf Try.prog 32 = 1 := by kernel_rfl
@[simp] theorem t32_by : bytesOf Try.prog 32 = 8 := by kernel_rfl
@[simp] theorem t32_zero : zeroOf Try.prog 32 = some (.nilFunc) := by kernel_rfl
@[simp] theorem t32_el : elemOK Try.prog 32 = true := by kernel_rfl
@[simp] theorem t32_sl : elemOfS Try.prog 32 = none := by kernel_rfl
@[simp] theorem t32_str : isStr Try.prog 32 = false := by kernel_rfl
@[simp] theorem t32_sh : shapeOf Try.prog 8 32 = none := by kernel_rfl
@[simp] theorem t32_eg : eqG Try.prog 32 = false := by kernel_rfl
attribute [simp] Try.underlying32
@[simp] theorem t33_has : hasT Try.prog 33 = true := by kernel_rfl
@[simp] theorem t33_agg : isAggB Try.prog 33 = true := by kernel_rfl
@[simp] theorem t33_sz : szOf Try.prog 33 = 2 := by kernel_rfl
@[simp] theorem t33_by : bytesOf Try.prog 33 = 24 := by kernel_rfl
@[simp] theorem t33_zero : zeroOf Try.prog 33 = some (.agg #[.string ⟨#[]⟩, .int .i64 0]) := by kernel_rfl
@[simp] theorem t33_el : elemOK Try.prog 33 = true := by kernel_rfl
@[simp] theorem t33_sl : elemOfS Try.prog 33 = none := by kernel_rfl
@[simp] theorem t33_str : isStr Try.prog 33 = false := by kernel_rfl
@[simp] theorem t33_pl : placesL Try.prog 33 = some [(0, 1), (1, 1)] := by kernel_rfl
@[simp] theorem t33_f0 : fieldOf Try.prog 33 0 = some (9, 0) := by kernel_rfl
@[simp] theorem t33_f1 : fieldOf Try.prog 33 1 = some (3, 1) := by kernel_rfl
@[simp] theorem t33_sh : shapeOf Try.prog 8 33 = some [.str, .int .i64] := by kernel_rfl
@[simp] theorem t33_eg : eqG Try.prog 33 = false := by kernel_rfl
attribute [simp] Try.underlying33
@[simp] theorem t34_has : hasT Try.prog 34 = true := by kernel_rfl
@[simp] theorem t34_agg : isAggB Try.prog 34 = true := by kernel_rfl
@[simp] theorem t34_sz : szOf Try.prog 34 = 2 := by kernel_rfl
@[simp] theorem t34_by : bytesOf Try.prog 34 = 24 := by kernel_rfl
@[simp] theorem t34_zero : zeroOf Try.prog 34 = some (.agg #[.string ⟨#[]⟩, .int .i64 0]) := by kernel_rfl
@[simp] theorem t34_el : elemOK Try.prog 34 = true := by kernel_rfl
@[simp] theorem t34_sl : elemOfS Try.prog 34 = none := by kernel_rfl
@[simp] theorem t34_str : isStr Try.prog 34 = false := by kernel_rfl
@[simp] theorem t34_pl : placesL Try.prog 34 = some [(0, 1), (1, 1)] := by kernel_rfl
@[simp] theorem t34_f0 : fieldOf Try.prog 34 0 = some (9, 0) := by kernel_rfl
@[simp] theorem t34_f1 : fieldOf Try.prog 34 1 = some (3, 1) := by kernel_rfl
@[simp] theorem t34_sh : shapeOf Try.prog 8 34 = some [.str, .int .i64] := by kernel_rfl
@[simp] theorem t34_eg : eqG Try.prog 34 = false := by kernel_rfl
attribute [simp] Try.underlying34
@[simp] theorem t35_has : hasT Try.prog 35 = true := by kernel_rfl
@[simp] theorem t35_agg : isAggB Try.prog 35 = false := by kernel_rfl
@[simp] theorem t35_sz : szOf Try.prog 35 = 1 := by kernel_rfl
@[simp] theorem t35_by : bytesOf Try.prog 35 = 8 := by kernel_rfl
@[simp] theorem t35_zero : zeroOf Try.prog 35 = some (.int .i64 0) := by kernel_rfl
@[simp] theorem t35_el : elemOK Try.prog 35 = true := by kernel_rfl
@[simp] theorem t35_sl : elemOfS Try.prog 35 = none := by kernel_rfl
@[simp] theorem t35_str : isStr Try.prog 35 = false := by kernel_rfl
@[simp] theorem t35_sh : shapeOf Try.prog 8 35 = some [.int .i64] := by kernel_rfl
@[simp] theorem t35_eg : eqG Try.prog 35 = false := by kernel_rfl
attribute [simp] Try.underlying35
@[simp] theorem t37_has : hasT Try.prog 37 = true := by kernel_rfl
@[simp] theorem t37_agg : isAggB Try.prog 37 = false := by kernel_rfl
@[simp] theorem t37_sz : szOf Try.prog 37 = 1 := by kernel_rfl
@[simp] theorem t37_by : bytesOf Try.prog 37 = 8 := by kernel_rfl
@[simp] theorem t37_zero : zeroOf Try.prog 37 = some (.nilFunc) := by kernel_rfl
@[simp] theorem t37_el : elemOK Try.prog 37 = true := by kernel_rfl
@[simp] theorem t37_sl : elemOfS Try.prog 37 = none := by kernel_rfl
@[simp] theorem t37_str : isStr Try.prog 37 = false := by kernel_rfl
@[simp] theorem t37_sh : shapeOf Try.prog 8 37 = none := by kernel_rfl
@[simp] theorem t37_eg : eqG Try.prog 37 = false := by kernel_rfl
attribute [simp] Try.underlying37
@[simp] theorem t38_has : hasT Try.prog 38 = true := by kernel_rfl
@[simp] theorem t38_agg : isAggB Try.prog 38 = false := by kernel_rfl
@[simp] theorem t38_sz : szOf Try.prog 38 = 1 := by kernel_rfl
@[simp] theorem t38_by : bytesOf Try.prog 38 = 8 := by kernel_rfl
@[simp] theorem t38_zero : zeroOf Try.prog 38 = some (.nilFunc) := by kernel_rfl
@[simp] theorem t38_el : elemOK Try.prog 38 = true := by kernel_rfl
@[simp] theorem t38_sl : elemOfS Try.prog 38 = none := by kernel_rfl
@[simp] theorem t38_str : isStr Try.prog 38 = false := by kernel_rfl
@[simp] theorem t38_sh : shapeOf Try.prog 8 38 = none := by kernel_rfl
@[simp] theorem t38_eg : eqG Try.prog 38 = false := by kernel_rfl
attribute [simp] Try.underlying38
@[simp] theorem t39_has : hasT Try.prog 39 = true := by kernel_rfl
@[simp] theorem t39_agg : isAggB Try.prog 39 = true := by kernel_rfl
@[simp] theorem t39_sz : szOf Try.prog 39 = 4 := by kernel_rfl
@[simp] theorem t39_by : bytesOf Try.prog 39 = 40 := by kernel_rfl
@[simp] theorem t39_zero : zeroOf Try.prog 39 = some (.agg #[.int .i64 0, .string ⟨#[]⟩, .int .i64 0, .int .i64 0]) := by kernel_rfl
@[simp] theorem t39_el : elemOK Try.prog 39 = true := by kernel_rfl
@[simp] theorem t39_sl : elemOfS Try.prog 39 = none := by kernel_rfl
@[simp] theorem t39_str : isStr Try.prog 39 = false := by kernel_rfl
@[simp] theorem t39_pl : placesL Try.prog 39 = some [(0, 1), (1, 1), (2, 1), (3, 1)] := by kernel_rfl
@[simp] theorem t39_f0 : fieldOf Try.prog 39 0 = some (3, 0) := by kernel_rfl
@[simp] theorem t39_f1 : fieldOf Try.prog 39 1 = some (9, 1) := by kernel_rfl
@[simp] theorem t39_f2 : fieldOf Try.prog 39 2 = some (3, 2) := by kernel_rfl
@[simp] theorem t39_f3 : fieldOf Try.prog 39 3 = some (3, 3) := by kernel_rfl
@[simp] theorem t39_sh : shapeOf Try.prog 8 39 = some [.int .i64, .str, .int .i64, .int .i64] := by kernel_rfl
@[simp] theorem t39_eg : eqG Try.prog 39 = false := by kernel_rfl
attribute [simp] Try.underlying39
@[simp] theorem t40_has : hasT Try.prog 40 = true := by kernel_rfl
@[simp] theorem t40_agg : isAggB Try.prog 40 = true := by kernel_rfl
@[simp] theorem t40_sz : szOf Try.prog 40 = 4 := by kernel_rfl
@[simp] theorem t40_by : bytesOf Try.prog 40 = 40 := by kernel_rfl
@[simp] theorem t40_zero : zeroOf Try.prog 40 = some (.agg #[.int .i64 0, .string ⟨#[]⟩, .int .i64 0, .int .i64 0]) := by kernel_rfl
@[simp] theorem t40_el : elemOK Try.prog 40 = true := by kernel_rfl
@[simp] theorem t40_sl : elemOfS Try.prog 40 = none := by kernel_rfl
@[simp] theorem t40_str : isStr Try.prog 40 = false := by kernel_rfl
@[simp] theorem t40_pl : placesL Try.prog 40 = some [(0, 1), (1, 1), (2, 1), (3, 1)] := by kernel_rfl
@[simp] theorem t40_f0 : fieldOf Try.prog 40 0 = some (3, 0) := by kernel_rfl
@[simp] theorem t40_f1 : fieldOf Try.prog 40 1 = some (9, 1) := by kernel_rfl
@[simp] theorem t40_f2 : fieldOf Try.prog 40 2 = some (3, 2) := by kernel_rfl
@[simp] theorem t40_f3 : fieldOf Try.prog 40 3 = some (3, 3) := by kernel_rfl
@[simp] theorem t40_sh : shapeOf Try.prog 8 40 = some [.int .i64, .str, .int .i64, .int .i64] := by kernel_rfl
@[simp] theorem t40_eg : eqG Try.prog 40 = false := by kernel_rfl
attribute [simp] Try.underlying40
@[simp] theorem t41_has : hasT Try.prog 41 = true := by kernel_rfl
@[simp] theorem t41_agg : isAggB Try.prog 41 = false := by kernel_rfl
@[simp] theorem t41_sz : szOf Try.prog 41 = 1 := by kernel_rfl
@[simp] theorem t41_by : bytesOf Try.prog 41 = 8 := by kernel_rfl
@[simp] theorem t41_zero : zeroOf Try.prog 41 = some (.nilFunc) := by kernel_rfl
@[simp] theorem t41_el : elemOK Try.prog 41 = true := by kernel_rfl
@[simp] theorem t41_sl : elemOfS Try.prog 41 = none := by kernel_rfl
@[simp] theorem t41_str : isStr Try.prog 41 = false := by kernel_rfl
@[simp] theorem t41_sh : shapeOf Try.prog 8 41 = none := by kernel_rfl
@[simp] theorem t41_eg : eqG Try.prog 41 = false := by kernel_rfl
attribute [simp] Try.underlying41
@[simp] theorem t42_has : hasT Try.prog 42 = true := by kernel_rfl
@[simp] theorem t42_agg : isAggB Try.prog 42 = false := by kernel_rfl
@[simp] theorem t42_sz : szOf Try.prog 42 = 1 := by kernel_rfl
@[simp] theorem t42_by : bytesOf Try.prog 42 = 8 := by kernel_rfl
@[simp] theorem t42_zero : zeroOf Try.prog 42 = some (.nilFunc) := by kernel_rfl
@[simp] theorem t42_el : elemOK Try.prog 42 = true := by kernel_rfl
@[simp] theorem t42_sl : elemOfS Try.prog 42 = none := by kernel_rfl
@[simp] theorem t42_str : isStr Try.prog 42 = false := by kernel_rfl
@[simp] theorem t42_sh : shapeOf Try.prog 8 42 = none := by kernel_rfl
@[simp] theorem t42_eg : eqG Try.prog 42 = false := by kernel_rfl
attribute [simp] Try.underlying42
@[simp] theorem t43_has : hasT Try.prog 43 = true := by kernel_rfl
@[simp] theorem t43_agg : isAggB Try.prog 43 = false := by kernel_rfl
@[simp] theorem t43_sz : szOf Try.prog 43 = 1 := by kernel_rfl
@[simp] theorem t43_by : bytesOf Try.prog 43 = 24 := by kernel_rfl
@[simp] theorem t43_zero : zeroOf Try.prog 43 = some (.slice none 0 0) := by kernel_rfl
@[simp] theorem t43_el : elemOK Try.prog 43 = true := by kernel_rfl
@[simp] theorem t43_sl : elemOfS Try.prog 43 = some 49 := by kernel_rfl
@[simp] theorem t43_str : isStr Try.prog 43 = false := by kernel_rfl
@[simp] theorem t43_sh : shapeOf Try.prog 8 43 = none := by kernel_rfl
@[simp] theorem t43_eg : eqG Try.prog 43 = false := by kernel_rfl
attribute [simp] Try.underlying43
@[simp] theorem t44_has : hasT Try.prog 44 = true := by kernel_rfl
@[simp] theorem t44_agg : isAggB Try.prog 44 = true := by kernel_rfl
@[simp] theorem t44_sz : szOf Try.prog 44 = 3 := by kernel_rfl
@[simp] theorem t44_by : bytesOf Try.prog 44 = 72 := by kernel_rfl
@[simp] theorem t44_zero : zeroOf Try.prog 44 = some (.agg #[.slice none 0 0, .slice none 0 0, .slice none 0 0]) := by kernel_rfl
@[simp] theorem t44_el : elemOK Try.prog 44 = true := by kernel_rfl
@[simp] theorem t44_sl : elemOfS Try.prog 44 = none := by kernel_rfl
@[simp] theorem t44_str : isStr Try.prog 44 = false := by kernel_rfl
@[simp] theorem t44_pl : placesL Try.prog 44 = some [(0, 2), (2, 1)] := by kernel_rfl
@[simp] theorem t44_f0 : fieldOf Try.prog 44 0 = some (25, 0) := by kernel_rfl
@[simp] theorem t44_f1 : fieldOf Try.prog 44 1 = some (43, 2) := by kernel_rfl
@[simp] theorem t44_sh : shapeOf Try.prog 8 44 = none := by kernel_rfl
@[simp] theorem t44_eg : eqG Try.prog 44 = false := by kernel_rfl
attribute [simp] Try.underlying44
@[simp] theorem t45_has : hasT Try.prog 45 = true := by kernel_rfl
@[simp] theorem t45_agg : isAggB Try.prog 45 = true := by kernel_rfl
@[simp] theorem t45_sz : szOf Try.prog 45 = 3 := by kernel_rfl
@[simp] theorem t45_by : bytesOf Try.prog 45 = 72 := by kernel_rfl
@[simp] theorem t45_zero : zeroOf Try.prog 45 = some (.agg #[.slice none 0 0, .slice none 0 0, .slice none 0 0]) := by kernel_rfl
@[simp] theorem t45_el : elemOK Try.prog 45 = true := by kernel_rfl
@[simp] theorem t45_sl : elemOfS Try.prog 45 = none := by kernel_rfl
@[simp] theorem t45_str : isStr Try.prog 45 = false := by kernel_rfl
@[simp] theorem t45_pl : placesL Try.prog 45 = some [(0, 2), (2, 1)] := by kernel_rfl
@[simp] theorem t45_f0 : fieldOf Try.prog 45 0 = some (25, 0) := by kernel_rfl
@[simp] theorem t45_f1 : fieldOf Try.prog 45 1 = some (43, 2) := by kernel_rfl
@[simp] theorem t45_sh : shapeOf Try.prog 8 45 = none := by kernel_rfl
@[simp] theorem t45_eg : eqG Try.prog 45 = false := by kernel_rfl
attribute [simp] Try.underlying45
@[simp] theorem t46_has : hasT Try.prog 46 = true := by kernel_rfl
@[simp] theorem t46_agg : isAggB Try.prog 46 = false := by kernel_rfl
@[simp] theorem t46_sz : szOf Try.prog 46 = 1 := by kernel_rfl
@[simp] theorem t46_by : bytesOf Try.prog 46 = 8 := by kernel_rfl
@[simp] theorem t46_zero : zeroOf Try.prog 46 = some (.nilFunc) := by kernel_rfl
@[simp] theorem t46_el : elemOK Try.prog 46 = true := by kernel_rfl
@[simp] theorem t46_sl : elemOfS Try.prog 46 = none := by kernel_rfl
@[simp] theorem t46_str : isStr Try.prog 46 = false := by kernel_rfl
@[simp] theorem t46_sh : shapeOf Try.prog 8 46 = none := by kernel_rfl
@[simp] theorem t46_eg : eqG Try.prog 46 = false := by kernel_rfl
attribute [simp] Try.underlying46
@[simp] theorem t47_has : hasT Try.prog 47 = true := by kernel_rfl
@[simp] theorem t47_agg : isAggB Try.prog 47 = false := by kernel_rfl
@[simp] theorem t47_sz : szOf Try.prog 47 = 1 := by kernel_rfl
@[simp] theorem t47_by : bytesOf Try.prog 47 = 8 := by kernel_rfl
@[simp] theorem t47_zero : zeroOf Try.prog 47 = some (.nilFunc) := by kernel_rfl
@[simp] theorem t47_el : elemOK Try.prog 47 = true := by kernel_rfl
@[simp] theorem t47_sl : elemOfS Try.prog 47 = none := by kernel_rfl
@[simp] theorem t47_str : isStr Try.prog 47 = false := by kernel_rfl
@[simp] theorem t47_sh : shapeOf Try.prog 8 47 = none := by kernel_rfl
@[simp] theorem t47_eg : eqG Try.prog 47 = false := by kernel_rfl
attribute [simp] Try.underlying47
@[simp] theorem t48_has : hasT Try.prog 48 = true := by kernel_rfl
@[simp] theorem t48_agg : isAggB Try.prog 48 = false := by kernel_rfl
@[simp] theorem t48_sz : szOf Try.prog 48 = 1 := by kernel_rfl
@[simp] theorem t48_by : bytesOf Try.prog 48 = 8 := by kernel_rfl
@[simp] theorem t48_zero : zeroOf Try.prog 48 = some (.nilFunc) := by kernel_rfl
@[simp] theorem t48_el : elemOK Try.prog 48 = true := by kernel_rfl
@[simp] theorem t48_sl : elemOfS Try.prog 48 = none := by kernel_rfl
@[simp] theorem t48_str : isStr Try.prog 48 = false := by kernel_rfl
@[simp] theorem t48_sh : shapeOf Try.prog 8 48 = none := by kernel_rfl
@[simp] theorem t48_eg : eqG Try.prog 48 = false := by kernel_rfl
attribute [simp] Try.underlying48
@[simp] theorem t49_has : hasT Try.prog 49 = true := by kernel_rfl
@[simp] theorem t49_agg : isAggB Try.prog 49 = false := by kernel_rfl
@[simp] theorem t49_sz : szOf Try.prog 49 = 1 := by kernel_rfl
@[simp] theorem t49_by : bytesOf Try.prog 49 = 24 := by kernel_rfl
@[simp] theorem t49_zero : zeroOf Try.prog 49 = some (.slice none 0 0) := by kernel_rfl
@[simp] theorem t49_el : elemOK Try.prog 49 = true := by kernel_rfl
@[simp] theorem t49_sl : elemOfS Try.prog 49 = some 55 := by kernel_rfl
@[simp] theorem t49_str : isStr Try.prog 49 = false := by kernel_rfl
@[simp] theorem t49_sh : shapeOf Try.prog 8 49 = none := by kernel_rfl
@[simp] theorem t49_eg : eqG Try.prog 49 = false := by kernel_rfl
attribute [simp] Try.underlying49
@[simp] theorem t51_has : hasT Try.prog 51 = true := by kernel_rfl
@[simp] theorem t51_agg : isAggB Try.prog 51 = false := by kernel_rfl
@[simp] theorem t51_sz : szOf Try.prog 51 = 1 := by kernel_rfl
@[simp] theorem t51_by : bytesOf Try.prog 51 = 8 := by kernel_rfl
@[simp] theorem t51_zero : zeroOf Try.prog 51 = some (.nilFunc) := by kernel_rfl
@[simp] theorem t51_el : elemOK Try.prog 51 = true := by kernel_rfl
@[simp] theorem t51_sl : elemOfS Try.prog 51 = none := by kernel_rfl
@[simp] theorem t51_str : isStr Try.prog 51 = false := by kernel_rfl
@[simp] theorem t51_sh : shapeOf Try.prog 8 51 = none := by kernel_rfl
@[simp] theorem t51_eg : eqG Try.prog 51 = false := by kernel_rfl
attribute [simp] Try.underlying51
@[simp] theorem t52_has : hasT Try.prog 52 = true := by kernel_rfl
@[simp] theorem t52_agg : isAggB Try.prog 52 = false := by kernel_rfl
@[simp] theorem t52_sz : szOf Try.prog 52 = 1 := by kernel_rfl
@[simp] theorem t52_by : bytesOf Try.prog 52 = 8 := by kernel_rfl
@[simp] theorem t52_zero : zeroOf Try.prog 52 = some (.nilFunc) := by kernel_rfl
@[simp] theorem t52_el : elemOK Try.prog 52 = true := by kernel_rfl
@[simp] theorem t52_sl : elemOfS Try.prog 52 = none := by kernel_rfl
@[simp] theorem t52_str : isStr Try.prog 52 = false := by kernel_rfl
@[simp] theorem t52_sh : shapeOf Try.prog 8 52 = none := by kernel_rfl
@[simp] theorem t52_eg : eqG Try.prog 52 = false := by kernel_rfl
attribute [simp] Try.underlying52
@[simp] theorem t53_has : hasT Try.prog 53 = true := by kernel_rfl
@[simp] theorem t53_agg : isAggB Try.prog 53 = false := by kernel_rfl
@[simp] theorem t53_sz : szOf Try.prog 53 = 1 := by kernel_rfl
@[simp] theorem t53_by : bytesOf Try.prog 53 = 8 := by kernel_rfl
@[simp] theorem t53_zero : zeroOf Try.prog 53 = some (.nilFunc) := by kernel_rfl
@[simp] theorem t53_el : elemOK Try.prog 53 = true := by kernel_rfl
@[simp] theorem t53_sl : elemOfS Try.prog 53 = none := by kernel_rfl
@[simp] theorem t53_str : isStr Try.prog 53 = false := by kernel_rfl
@[simp] theorem t53_sh : shapeOf Try.prog 8 53 = none := by kernel_rfl
@[simp] theorem t53_eg : eqG Try.prog 53 = false := by kernel_rfl
attribute [simp] Try.underlying53
@[simp] theorem t54_has : hasT Try.prog 54 = true := by kernel_rfl
@[simp] theorem t54_agg : isAggB Try.prog 54 = true := by kernel_rfl
@[simp] theorem t54_sz : szOf Try.prog 54 = 3 := by kernel_rfl
@[simp] theorem t54_by : bytesOf Try.prog 54 = 48 := by kernel_rfl
@[simp] theorem t54_zero : zeroOf Try.prog 54 = some (.agg #[.int .i64 0, .string ⟨#[]⟩, .slice none 0 0]) := by kernel_rfl
@[simp] theorem t54_el : elemOK Try.prog 54 = true := by kernel_rfl
@[simp] theorem t54_sl : elemOfS Try.prog 54 = none := by kernel_rfl
@[simp] theorem t54_str : isStr Try.prog 54 = false := by kernel_rfl
@[simp] theorem t54_pl : placesL Try.prog 54 = some [(0, 1), (1, 1), (2, 1)] := by kernel_rfl
@[simp] theorem t54_f0 : fieldOf Try.prog 54 0 = some (3, 0) := by kernel_rfl
@[simp] theorem t54_f1 : fieldOf Try.prog 54 1 = some (9, 1) := by kernel_rfl
@[simp] theorem t54_f2 : fieldOf Try.prog 54 2 = some (31, 2) := by kernel_rfl
@[simp] theorem t54_sh : shapeOf Try.prog 8 54 = none := by kernel_rfl
@[simp] theorem t54_eg : eqG Try.prog 54 = false := by kernel_rfl
attribute [simp] Try.underlying54
@[simp] theorem t55_has : hasT Try.prog 55 = true := by kernel_rfl
@[simp] theorem t55_agg : isAggB Try.prog 55 = true := by kernel_rfl
@[simp] theorem t55_sz : szOf Try.prog 55 = 3 := by kernel_rfl
@[simp] theorem t55_by : bytesOf Try.prog 55 = 48 := by kernel_rfl
@[simp] theorem t55_zero : zeroOf Try.prog 55 = some (.agg #[.int .i64 0, .string ⟨#[]⟩, .slice none 0 0]) := by kernel_rfl
@[simp] theorem t55_el : elemOK Try.prog 55 = true := by kernel_rfl
@[simp] theorem t55_sl : elemOfS Try.prog 55 = none := by kernel_rfl
@[simp] theorem t55_str : isStr Try.prog 55 = false := by kernel_rfl
@[simp] theorem t55_pl : placesL Try.prog 55 = some [(0, 1), (1, 1), (2, 1)] := by kernel_rfl
@[simp] theorem t55_f0 : fieldOf Try.prog 55 0 = some (3, 0) := by kernel_rfl
@[simp] theorem t55_f1 : fieldOf Try.prog 55 1 = some (9, 1) := by kernel_rfl
@[simp] theorem t55_f2 : fieldOf Try.prog 55 2 = some (31, 2) := by kernel_rfl
@[simp] theorem t55_sh : shapeOf Try.prog 8 55 = none := by kernel_rfl
@[simp] theorem t55_eg : eqG Try.prog 55 = false := by kernel_rfl
attribute [simp] Try.underlying55
@[simp] theorem t56_has : hasT Try.prog 56 = true := by kernel_rfl
@[simp] theorem t56_agg : isAggB Try.prog 56 = false := by kernel_rfl
@[simp] theorem t56_sz : szOf Try.prog 56 = 1 := by kernel_rfl
@[simp] theorem t56_by : bytesOf Try.prog 56 = 8 := by kernel_rfl
@[simp] theorem t56_zero : zeroOf Try.prog 56 = some (.nilFunc) := by kernel_rfl
@[simp] theorem t56_el : elemOK Try.prog 56 = true := by kernel_rfl
@[simp] theorem t56_sl : elemOfS Try.prog 56 = none := by kernel_rfl
@[simp] theorem t56_str : isStr Try.prog 56 = false := by kernel_rfl
@[simp] theorem t56_sh : shapeOf Try.prog 8 56 = none := by kernel_rfl
@[simp] theorem t56_eg : eqG Try.prog 56 = false := by kernel_rfl
attribute [simp] Try.underlying56
@[simp] theorem t57_has : hasT Try.prog 57 = true := by kernel_rfl
@[simp] theorem t57_agg : isAggB Try.prog 57 = false := by kernel_rfl
@[simp] theorem t57_sz : szOf Try.prog 57 = 1 := by kernel_rfl
@[simp] theorem t57_by : bytesOf Try.prog 57 = 8 := by kernel_rfl
@[simp] theorem t57_zero : zeroOf Try.prog 57 = some (.nilFunc) := by kernel_rfl
@[simp] theorem t57_el : elemOK Try.prog 57 = true := by kernel_rfl
@[simp] theorem t57_sl : elemOfS Try.prog 57 = none := by kernel_rfl
@[simp] theorem t57_str : isStr Try.prog 57 = false := by kernel_rfl
@[simp] theorem t57_sh : shapeOf Try.prog 8 57 = none := by kernel_rfl
@[simp] theorem t57_eg : eqG Try.prog 57 = false := by kernel_rfl
attribute [simp] Try.underlying57
@[simp] theorem t58_has : hasT Try.prog 58 = true := by kernel_rfl
@[simp] theorem t58_agg : isAggB Try.prog 58 = false := by kernel_rfl
@[simp] theorem t58_sz : szOf Try.prog 58 = 1 := by kernel_rfl
@[simp] theorem t58_by : bytesOf Try.prog 58 = 8 := by kernel_rfl
@[simp] theorem t58_zero : zeroOf Try.prog 58 = some (.nilFunc) := by kernel_rfl
@[simp] theorem t58_el : elemOK Try.prog 58 = true := by kernel_rfl
@[simp] theorem t58_sl : elemOfS Try.prog 58 = none := by kernel_rfl
@[simp] theorem t58_str : isStr Try.prog 58 = false := by kernel_rfl
@[simp] theorem t58_sh : shapeOf Try.prog 8 58 = none := by kernel_rfl
@[simp] theorem t58_eg : eqG Try.prog 58 = false := by kernel_rfl
attribute [simp] Try.underlying58
@[simp] theorem t60_has : hasT Try.prog 60 = true := by kernel_rfl
@[simp] theorem t60_agg : isAggB Try.prog 60 = false := by kernel_rfl
@[simp] theorem t60_sz : szOf Try.prog 60 = 1 := by kernel_rfl
@[simp] theorem t60_by : bytesOf Try.prog 60 = 8 := by kernel_rfl
@[simp] theorem t60_zero : zeroOf Try.prog 60 = some (.nilFunc) := by kernel_rfl
@[simp] theorem t60_el : elemOK Try.prog 60 = true := by kernel_rfl
@[simp] theorem t60_sl : elemOfS Try.prog 60 = none := by kernel_rfl
@[simp] theorem t60_str : isStr Try.prog 60 = false := by kernel_rfl
@[simp] theorem t60_sh : shapeOf Try.prog 8 60 = none := by kernel_rfl
@[simp] theorem t60_eg : eqG Try.prog 60 = false := by kernel_rfl
attribute [simp] Try.underlying60
@[simp] theorem t61_has : hasT Try.prog 61 = true := by kernel_rfl
@[simp] theorem t61_agg : isAggB Try.prog 61 = false := by kernel_rfl
@[simp] theorem t61_sz : szOf Try.prog 61 = 1 := by kernel_rfl
@[simp] theorem t61_by : bytesOf Try.prog 61 = 8 := by kernel_rfl
@[simp] theorem t61_zero : zeroOf Try.prog 61 = some (.nilFunc) := by kernel_rfl
@[simp] theorem t61_el : elemOK Try.prog 61 = true := by kernel_rfl
@[simp] theorem t61_sl : elemOfS Try.prog 61 = none := by kernel_rfl
@[simp] theorem t61_str : isStr Try.prog 61 = false := by kernel_rfl
@[simp] theorem t61_sh : shapeOf Try.prog 8 61 = none := by kernel_rfl
@[simp] theorem t61_eg : eqG Try.prog 61 = false := by kernel_rfl
attribute [simp] Try.underlying61
@[simp] theorem t63_has : hasT Try.prog 63 = true := by kernel_rfl
@[simp] theorem t63_agg : isAggB Try.prog 63 = false := by kernel_rfl
@[simp] theorem t63_sz : szOf Try.prog 63 = 1 := by kernel_rfl
@[simp] theorem t63_by : bytesOf Try.prog 63 = 8 := by kernel_rfl
@[simp] theorem t63_zero : zeroOf Try.prog 63 = some (.nilFunc) := by kernel_rfl
@[simp] theorem t63_el : elemOK Try.prog 63 = true := by kernel_rfl
@[simp] theorem t63_sl : elemOfS Try.prog 63 = none := by kernel_rfl
@[simp] theorem t63_str : isStr Try.prog 63 = false := by kernel_rfl
@[simp] theorem t63_sh : shapeOf Try.prog 8 63 = none := by kernel_rfl
@[simp] theorem t63_eg : eqG Try.prog 63 = false := by kernel_rfl
attribute [simp] Try.underlying63
@[simp] theorem t65_has : hasT Try.prog 65 = true := by kernel_rfl
@[simp] theorem t65_agg : isAggB Try.prog 65 = false := by kernel_rfl
@[simp] theorem t65_sz : szOf Try.prog 65 = 1 := by kernel_rfl
@[simp] theorem t65_by : bytesOf Try.prog 65 = 8 := by kernel_rfl
@[simp] theorem t65_zero : zeroOf Try.prog 65 = some (.nilFunc) := by kernel_rfl
@[simp] theorem t65_el : elemOK Try.prog 65 = true := by kernel_rfl
@[simp] theorem t65_sl : elemOfS Try.prog 65 = none := by kernel_rfl
@[simp] theorem t65_str : isStr Try.prog 65 = false := by kernel_rfl
@[simp] theorem t65_sh : shapeOf Try.prog 8 65 = none := by kernel_rfl
@[simp] theorem t65_eg : eqG Try.prog 65 = false := by kernel_rfl
attribute [simp] Try.underlying65
@[simp] theorem t66_has : hasT Try.prog 66 = true := by kernel_rfl
@[simp] theorem t66_agg : isAggB Try.prog 66 = false := by kernel_rfl
@[simp] theorem t66_sz : szOf Try.prog 66 = 1 := by kernel_rfl
@[simp] theorem t66_by : bytesOf Try.prog 66 = 8 := by kernel_rfl
@[simp] theorem t66_zero : zeroOf Try.prog 66 = some (.nilFunc) := by kernel_rfl
@[simp] theorem t66_el : elemOK Try.prog 66 = true := by kernel_rfl
@[simp] theorem t66_sl : elemOfS Try.prog 66 = none := by kernel_rfl
@[simp] theorem t66_str : isStr Try.prog 66 = false := by kernel_rfl
@[simp] theorem t66_sh : shapeOf Try.prog 8 66 = none := by kernel_rfl
@[simp] theorem t66_eg : eqG Try.prog 66 = false := by kernel_rfl
attribute [simp] Try.underlying66
@[simp] theorem t68_has : hasT Try.prog 68 = true := by kernel_rfl
@[simp] theorem t68_agg : isAggB Try.prog 68 = false := by kernel_rfl
@[simp] theorem t68_sz : szOf Try.prog 68 = 1 := by kernel_rfl
@[simp] theorem t68_by : bytesOf Try.prog 68 = 8 := by kernel_rfl
@[simp] theorem t68_zero : zeroOf Try.prog 68 = some (.nilFunc) := by kernel_rfl
@[simp] theorem t68_el : elemOK Try.prog 68 = true := by kernel_rfl
@[simp] theorem t68_sl : elemOfS Try.prog 68 = none := by kernel_rfl
@[simp] theorem t68_str : isStr Try.prog 68 = false := by kernel_rfl
@[simp] theorem t68_sh : shapeOf Try.prog 8 68 = none := by kernel_rfl
@[simp] theorem t68_eg : eqG Try.prog 68 = false := by kernel_rfl
attribute [simp] Try.underlying68
@[simp] theorem t69_has : hasT Try.prog 69 = true := by kernel_rfl
@[simp] theorem t69_agg : isAggB Try.prog 69 = false := by kernel_rfl
@[simp] theorem t69_sz : szOf Try.prog 69 = 1 := by kernel_rfl
@[simp] theorem t69_by : bytesOf Try.prog 69 = 8 := by kernel_rfl
@[simp] theorem t69_zero : zeroOf Try.prog 69 = some (.nilFunc) := by kernel_rfl
@[simp] theorem t69_el : elemOK Try.prog 69 = true := by kernel_rfl
@[simp] theorem t69_sl : elemOfS Try.prog 69 = none := by kernel_rfl
@[simp] theorem t69_str : isStr Try.prog 69 = false := by kernel_rfl
@[simp] theorem t69_sh : shapeOf Try.prog 8 69 = none := by kernel_rfl
@[simp] theorem t69_eg : eqG Try.prog 69 = false := by kernel_rfl
attribute [simp] Try.underlying69
@[simp] theorem t70_has : hasT Try.prog 70 = true := by kernel_rfl
@[simp] theorem t70_agg : isAggB Try.prog 70 = false := by kernel_rfl
@[simp] theorem t70_sz : szOf Try.prog 70 = 1 := by kernel_rfl
@[simp] theorem t70_by : bytesOf Try.prog 70 = 8 := by kernel_rfl
@[simp] theorem t70_zero : zeroOf Try.prog 70 = some (.nilFunc) := by kernel_rfl
@[simp] theorem t70_el : elemOK Try.prog 70 = true := by kernel_rfl
@[simp] theorem t70_sl : elemOfS Try.prog 70 = none := by kernel_rfl
@[simp] theorem t70_str : isStr Try.prog 70 = false := by kernel_rfl
@[simp] theorem t70_sh : shapeOf Try.prog 8 70 = none := by kernel_rfl
@[simp] theorem t70_eg : eqG Try.prog 70 = false := by kernel_rfl
attribute [simp] Try.underlying70
@[simp] theorem t71_has : hasT Try.prog 71 = true := by kernel_rfl
@[simp] theorem t71_agg : isAggB Try.prog 71 = false := by kernel_rfl
@[simp] theorem t71_sz : szOf Try.prog 71 = 1 := by kernel_rfl
@[simp] theorem t71_by : bytesOf Try.prog 71 = 8 := by kernel_rfl
@[simp] theorem t71_zero : zeroOf Try.prog 71 = some (.nilFunc) := by kernel_rfl
@[simp] theorem t71_el : elemOK Try.prog 71 = true := by kernel_rfl
@[simp] theorem t71_sl : elemOfS Try.prog 71 = none := by kernel_rfl
@[simp] theorem t71_str : isStr Try.prog 71 = false := by kernel_rfl
@[simp] theorem t71_sh : shapeOf Try.prog 8 71 = none := by kernel_rfl
@[simp] theorem t71_eg : eqG Try.prog 71 = false := by kernel_rfl
attribute [simp] Try.underlying71
@[simp] theorem t72_has : hasT Try.prog 72 = true := by kernel_rfl
@[simp] theorem t72_agg : isAggB Try.prog 72 = false := by kernel_rfl
@[simp] theorem t72_sz : szOf Try.prog 72 = 1 := by kernel_rfl
@[simp] theorem t72_by : bytesOf Try.prog 72 = 8 := by kernel_rfl
@[simp] theorem t72_zero : zeroOf Try.prog 72 = some (.nilFunc) := by kernel_rfl
@[simp] theorem t72_el : elemOK Try.prog 72 = true := by kernel_rfl
@[simp] theorem t72_sl : elemOfS Try.prog 72 = none := by kernel_rfl
@[simp] theorem t72_str : isStr Try.prog 72 = false := by kernel_rfl
@[simp] theorem t72_sh : shapeOf Try.prog 8 72 = none := by kernel_rfl
@[simp] theorem t72_eg : eqG Try.prog 72 = false := by kernel_rfl
attribute [simp] Try.underlying72
@[simp] theorem t73_has : hasT Try.prog 73 = true := by kernel_rfl
@[simp] theorem t73_agg : isAggB Try.prog 73 = false := by kernel_rfl
@[simp] theorem t73_sz : szOf Try.prog 73 = 1 := by kernel_rfl
@[simp] theorem t73_by : bytesOf Try.prog 73 = 8 := by kernel_rfl
@[simp] theorem t73_zero : zeroOf Try.prog 73 = some (.pointer none) := by kernel_rfl
@[simp] theorem t73_el : elemOK Try.prog 73 = true := by kernel_rfl
@[simp] theorem t73_sl : elemOfS Try.prog 73 = none := by kernel_rfl
@[simp] theorem t73_str : isStr Try.prog 73 = false := by kernel_rfl
@[simp] theorem t73_sh : shapeOf Try.prog 8 73 = none := by kernel_rfl
@[simp] theorem t73_eg : eqG Try.prog 73 = false := by kernel_rfl
attribute [simp] Try.underlying73
@[simp] theorem t74_has : hasT Try.prog 74 = true := by kernel_rfl
@[simp] theorem t74_agg : isAggB Try.prog 74 = false := by kernel_rfl
@[simp] theorem t74_sz : szOf Try.prog 74 = 1 := by kernel_rfl
@[simp] theorem t74_by : bytesOf Try.prog 74 = 8 := by kernel_rfl
@[simp] theorem t74_zero : zeroOf Try.prog 74 = some (.pointer none) := by kernel_rfl
@[simp] theorem t74_el : elemOK Try.prog 74 = true := by kernel_rfl
@[simp] theorem t74_sl : elemOfS Try.prog 74 = none := by kernel_rfl
@[simp] theorem t74_str : isStr Try.prog 74 = false := by kernel_rfl
@[simp] theorem t74_sh : shapeOf Try.prog 8 74 = none := by kernel_rfl
@[simp] theorem t74_eg : eqG Try.prog 74 = false := by kernel_rfl
attribute [simp] Try.underlying74
@[simp] theorem t75_has : hasT Try.prog 75 = true := by kernel_rfl
@[simp] theorem t75_agg : isAggB Try.prog 75 = false := by kernel_rfl
@[simp] theorem t75_sz : szOf Try.prog 75 = 1 := by kernel_rfl
@[simp] theorem t75_by : bytesOf Try.prog 75 = 8 := by kernel_rfl
@[simp] theorem t75_zero : zeroOf Try.prog 75 = some (.map none) := by kernel_rfl
@[simp] theorem t75_el : elemOK Try.prog 75 = true := by kernel_rfl
@[simp] theorem t75_sl : elemOfS Try.prog 75 = none := by kernel_rfl
@[simp] theorem t75_str : isStr Try.prog 75 = false := by kernel_rfl
@[simp] theorem t75_sh : shapeOf Try.prog 8 75 = none := by kernel_rfl
@[simp] theorem t75_eg : eqG Try.prog 75 = false := by kernel_rfl
attribute [simp] Try.underlying75
@[simp] theorem t76_has : hasT Try.prog 76 = true := by kernel_rfl
@[simp] theorem t76_agg : isAggB Try.prog 76 = true := by kernel_rfl
@[simp] theorem t76_sz : szOf Try.prog 76 = 5 := by kernel_rfl
@[simp] theorem t76_by : bytesOf Try.prog 76 = 72 := by kernel_rfl
@[simp] theorem t76_zero : zeroOf Try.prog 76 = some (.agg #[.slice none 0 0, .map none, .slice none 0 0, .int .i64 0, .int .i64 0]) := by kernel_rfl
@[simp] theorem t76_el : elemOK Try.prog 76 = true := by kernel_rfl
@[simp] theorem t76_sl : elemOfS Try.prog 76 = none := by kernel_rfl
@[simp] theorem t76_str : isStr Try.prog 76 = false := by kernel_rfl
@[simp] theorem t76_pl : placesL Try.prog 76 = some [(0, 1), (1, 1), (2, 1), (3, 1), (4, 1)] := by kernel_rfl
@[simp] theorem t76_f0 : fieldOf Try.prog 76 0 = some (26, 0) := by kernel_rfl
@[simp] theorem t76_f1 : fieldOf Try.prog 76 1 = some (75, 1) := by kernel_rfl
@[simp] theorem t76_f2 : fieldOf Try.prog 76 2 = some (49, 2) := by kernel_rfl
@[simp] theorem t76_f3 : fieldOf Try.prog 76 3 = some (3, 3) := by kernel_rfl
@[simp] theorem t76_f4 : fieldOf Try.prog 76 4 = some (3, 4) := by kernel_rfl
@[simp] theorem t76_sh : shapeOf Try.prog 8 76 = none := by kernel_rfl
@[simp] theorem t76_eg : eqG Try.prog 76 = false := by kernel_rfl
attribute [simp] Try.underlying76
@[simp] theorem t77_has : hasT Try.prog 77 = true := by kernel_rfl
@[simp] theorem t77_agg : isAggB Try.prog 77 = true := by kernel_rfl
@[simp] theorem t77_sz : szOf Try.prog 77 = 5 := by kernel_rfl
@[simp] theorem t77_by : bytesOf Try.prog 77 = 72 := by kernel_rfl
@[simp] theorem t77_zero : zeroOf Try.prog 77 = some (.agg #[.slice none 0 0, .map none, .slice none 0 0, .int .i64 0, .int .i64 0]) := by kernel_rfl
@[simp] theorem t77_el : elemOK Try.prog 77 = true := by kernel_rfl
@[simp] theorem t77_sl : elemOfS Try.prog 77 = none := by kernel_rfl
@[simp] theorem t77_str : isStr Try.prog 77 = false := by kernel_rfl
@[simp] theorem t77_pl : placesL Try.prog 77 = some [(0, 1), (1, 1), (2, 1), (3, 1), (4, 1)] := by kernel_rfl
@[simp] theorem t77_f0 : fieldOf Try.prog 77 0 = some (26, 0) := by kernel_rfl
@[simp] theorem t77_f1 : fieldOf Try.prog 77 1 = some (75, 1) := by kernel_rfl
@[simp] theorem t77_f2 : fieldOf Try.prog 77 2 = some (49, 2) := by kernel_rfl
@[simp] theorem t77_f3 : fieldOf Try.prog 77 3 = some (3, 3) := by kernel_rfl
@[simp] theorem t77_f4 : fieldOf Try.prog 77 4 = some (3, 4) := by kernel_rfl
@[simp] theorem t77_sh : shapeOf Try.prog 8 77 = none := by kernel_rfl
@[simp] theorem t77_eg : eqG Try.prog 77 = false := by kernel_rfl
attribute [simp] Try.underlying77
@[simp] theorem t78_has : hasT Try.prog 78 = true := by kernel_rfl
@[simp] theorem t78_agg : isAggB Try.prog 78 = false := by kernel_rfl
@[simp] theorem t78_sz : szOf Try.prog 78 = 1 := by kernel_rfl
@[simp] theorem t78_by : bytesOf Try.prog 78 = 24 := by kernel_rfl
@[simp] theorem t78_zero : zeroOf Try.prog 78 = some (.slice none 0 0) := by kernel_rfl
@[simp] theorem t78_el : elemOK Try.prog 78 = true := by kernel_rfl
@[simp] theorem t78_sl : elemOfS Try.prog 78 = some 100 := by kernel_rfl
@[simp] theorem t78_str : isStr Try.prog 78 = false := by kernel_rfl
@[simp] theorem t78_sh : shapeOf Try.prog 8 78 = none := by kernel_rfl
@[simp] theorem t78_eg : eqG Try.prog 78 = false := by kernel_rfl
attribute [simp] Try.underlying78
@[simp] theorem t79_has : hasT Try.prog 79 = true := by kernel_rfl
@[simp] theorem t79_agg : isAggB Try.prog 79 = true := by kernel_rfl
@[simp] theorem t79_sz : szOf Try.prog 79 = 7 := by kernel_rfl
@[simp] theorem t79_by : bytesOf Try.prog 79 = 104 := by kernel_rfl
@[simp] theorem t79_zero : zeroOf Try.prog 79 = some (.agg #[.pointer none, .slice none 0 0, .int .i64 0, .slice none 0 0, .int .i64 0, .int .i64 0, .slice none 0 0]) := by kernel_rfl
@[simp] theorem t79_el : elemOK Try.prog 79 = true := by kernel_rfl
@[simp] theorem t79_sl : elemOfS Try.prog 79 = none := by kernel_rfl
@[simp] theorem t79_str : isStr Try.prog 79 = false := by kernel_rfl
@[simp] theorem t79_pl : placesL Try.prog 79 = some [(0, 1), (1, 1), (2, 1), (3, 1), (4, 1), (5, 1), (6, 1)] := by kernel_rfl
@[simp] theorem t79_f0 : fieldOf Try.prog 79 0 = some (74, 0) := by kernel_rfl
@[simp] theorem t79_f1 : fieldOf Try.prog 79 1 = some (49, 1) := by kernel_rfl
@[simp] theorem t79_f2 : fieldOf Try.prog 79 2 = some (3, 2) := by kernel_rfl
@[simp] theorem t79_f3 : fieldOf Try.prog 79 3 = some (23, 3) := by kernel_rfl
@[simp] theorem t79_f4 : fieldOf Try.prog 79 4 = some (3, 4) := by kernel_rfl
@[simp] theorem t79_f5 : fieldOf Try.prog 79 5 = some (3, 5) := by kernel_rfl
@[simp] theorem t79_f6 : fieldOf Try.prog 79 6 = some (78, 6) := by kernel_rfl
@[simp] theorem t79_sh : shapeOf Try.prog 8 79 = none := by kernel_rfl
@[simp] theorem t79_eg : eqG Try.prog 79 = false := by kernel_rfl
attribute [simp] Try.underlying79
@[simp] theorem t80_has : hasT Try.prog 80 = true := by kernel_rfl
@[simp] theorem t80_agg : isAggB Try.prog 80 = true := by kernel_rfl
@[simp] theorem t80_sz : szOf Try.prog 80 = 7 := by kernel_rfl
@[simp] theorem t80_by : bytesOf Try.prog 80 = 104 := by kernel_rfl
@[simp] theorem t80_zero : zeroOf Try.prog 80 = some (.agg #[.pointer none, .slice none 0 0, .int .i64 0, .slice none 0 0, .int .i64 0, .int .i64 0, .slice none 0 0]) := by kernel_rfl
@[simp] theorem t80_el : elemOK Try.prog 80 = true := by kernel_rfl
@[simp] theorem t80_sl : elemOfS Try.prog 80 = none := by kernel_rfl
@[simp] theorem t80_str : isStr Try.prog 80 = false := by kernel_rfl
@[simp] theorem t80_pl : placesL Try.prog 80 = some [(0, 1), (1, 1), (2, 1), (3, 1), (4, 1), (5, 1), (6, 1)] := by kernel_rfl
@[simp] theorem t80_f0 : fieldOf Try.prog 80 0 = some (74, 0) := by kernel_rfl
@[simp] theorem t80_f1 : fieldOf Try.prog 80 1 = some (49, 1) := by kernel_rfl
@[simp] theorem t80_f2 : fieldOf Try.prog 80 2 = some (3, 2) := by kernel_rfl
@[simp] theorem t80_f3 : fieldOf Try.prog 80 3 = some (23, 3) := by kernel_rfl
@[simp] theorem t80_f4 : fieldOf Try.prog 80 4 = some (3, 4) := by kernel_rfl
@[simp] theorem t80_f5 : fieldOf Try.prog 80 5 = some (3, 5) := by kernel_rfl
@[simp] theorem t80_f6 : fieldOf Try.prog 80 6 = some (78, 6) := by kernel_rfl
@[simp] theorem t80_sh : shapeOf Try.prog 8 80 = none := by kernel_rfl
@[simp] theorem t80_eg : eqG Try.prog 80 = false := by kernel_rfl
attribute [simp] Try.underlying80
@[simp] theorem t81_has : hasT Try.prog 81 = true := by kernel_rfl
@[simp] theorem t81_agg : isAggB Try.prog 81 = false := by kernel_rfl
@[simp] theorem t81_sz : szOf Try.prog 81 = 1 := by kernel_rfl
@[simp] theorem t81_by : bytesOf Try.prog 81 = 8 := by kernel_rfl
@[simp] theorem t81_zero : zeroOf Try.prog 81 = some (.nilFunc) := by kernel_rfl
@[simp] theorem t81_el : elemOK Try.prog 81 = true := by kernel_rfl
@[simp] theorem t81_sl : elemOfS Try.prog 81 = none := by kernel_rfl
@[simp] theorem t81_str : isStr Try.prog 81 = false := by kernel_rfl
@[simp] theorem t81_sh : shapeOf Try.prog 8 81 = none := by kernel_rfl
@[simp] theorem t81_eg : eqG Try.prog 81 = false := by kernel_rfl
attribute [simp] Try.underlying81
@[simp] theorem t82_has : hasT Try.prog 82 = true := by kernel_rfl
@[simp] theorem t82_agg : isAggB Try.prog 82 = false := by kernel_rfl
@[simp] theorem t82_sz : szOf Try.prog 82 = 1 := by kernel_rfl
@[simp] theorem t82_by : bytesOf Try.prog 82 = 8 := by kernel_rfl
@[simp] theorem t82_zero : zeroOf Try.prog 82 = some (.nilFunc) := by kernel_rfl
@[simp] theorem t82_el : elemOK Try.prog 82 = true := by kernel_rfl
@[simp] theorem t82_sl : elemOfS Try.prog 82 = none := by kernel_rfl
@[simp] theorem t82_str : isStr Try.prog 82 = false := by kernel_rfl
@[simp] theorem t82_sh : shapeOf Try.prog 8 82 = none := by kernel_rfl
@[simp] theorem t82_eg : eqG Try.prog 82 = false := by kernel_rfl
attribute [simp] Try.underlying82
@[simp] theorem t83_has : hasT Try.prog 83 = true := by kernel_rfl
@[simp] theorem t83_agg : isAggB Try.prog 83 = false := by kernel_rfl
@[simp] theorem t83_sz : szOf Try.prog 83 = 1 := by kernel_rfl
@[simp] theorem t83_by : bytesOf Try.prog 83 = 8 := by kernel_rfl
@[simp] theorem t83_zero : zeroOf Try.prog 83 = some (.nilFunc) := by kernel_rfl
@[simp] theorem t83_el : elemOK Try.prog 83 = true := by kernel_rfl
@[simp] theorem t83_sl : elemOfS Try.prog 83 = none := by kernel_rfl
@[simp] theorem t83_str : isStr Try.prog 83 = false := by kernel_rfl
@[simp] theorem t83_sh : shapeOf Try.prog 8 83 = none := by kernel_rfl
@[simp] theorem t83_eg : eqG Try.prog 83 = false := by kernel_rfl
attribute [simp] Try.underlying83
@[simp] theorem t84_has : hasT Try.prog 84 = true := by kernel_rfl
@[simp] theorem t84_agg : isAggB Try.prog 84 = false := by kernel_rfl
@[simp] theorem t84_sz : szOf Try.prog 84 = 1 := by kernel_rfl
@[simp] theorem t84_by : bytesOf Try.prog 84 = 8 := by kernel_rfl
@[simp] theorem t84_zero : zeroOf Try.prog 84 = some (.nilFunc) := by kernel_rfl
@[simp] theorem t84_el : elemOK Try.prog 84 = true := by kernel_rfl
@[simp] theorem t84_sl : elemOfS Try.prog 84 = none := by kernel_rfl
@[simp] theorem t84_str : isStr Try.prog 84 = false := by kernel_rfl
@[simp] theorem t84_sh : shapeOf Try.prog 8 84 = none := by kernel_rfl
@[simp] theorem t84_eg : eqG Try.prog 84 = false := by kernel_rfl
attribute [simp] Try.underlying84
@[simp] theorem t85_has : hasT Try.prog 85 = true := by kernel_rfl
@[simp] theorem t85_agg : isAggB Try.prog 85 = false := by kernel_rfl
@[simp] theorem t85_sz : szOf Try.prog 85 = 1 := by kernel_rfl
@[simp] theorem t85_by : bytesOf Try.prog 85 = 8 := by kernel_rfl
@[simp] theorem t85_zero : zeroOf Try.prog 85 = some (.nilFunc) := by kernel_rfl
@[simp] theorem t85_el : elemOK Try.prog 85 = true := by kernel_rfl
@[simp] theorem t85_sl : elemOfS Try.prog 85 = none := by kernel_rfl
@[simp] theorem t85_str : isStr Try.prog 85 = false := by kernel_rfl
@[simp] theorem t85_sh : shapeOf Try.prog 8 85 = none := by kernel_rfl
@[simp] theorem t85_eg : eqG Try.prog 85 = false := by kernel_rfl
attribute [simp] Try.underlying85
@[simp] theorem t87_has : hasT Try.prog 87 = true := by kernel_rfl
@[simp] theorem t87_agg : isAggB Try.prog 87 = false := by kernel_rfl
@[simp] theorem t87_sz : szOf Try.prog 87 = 1 := by kernel_rfl
@[simp] theorem t87_by : bytesOf Try.prog 87 = 8 := by kernel_rfl
@[simp] theorem t87_zero : zeroOf Try.prog 87 = some (.nilFunc) := by kernel_rfl
@[simp] theorem t87_el : elemOK Try.prog 87 = true := by kernel_rfl
@[simp] theorem t87_sl : elemOfS Try.prog 87 = none := by kernel_rfl
@[simp] theorem t87_str : isStr Try.prog 87 = false := by kernel_rfl
@[simp] theorem t87_sh : shapeOf Try.prog 8 87 = none := by kernel_rfl
@[simp] theorem t87_eg : eqG Try.prog 87 = false := by kernel_rfl
attribute [simp] Try.underlying87
@[simp] theorem t88_has : hasT Try.prog 88 = true := by kernel_rfl
@[simp] theorem t88_agg : isAggB Try.prog 88 = false := by kernel_rfl
@[simp] theorem t88_sz : szOf Try.prog 88 = 1 := by kernel_rfl
@[simp] theorem t88_by : bytesOf Try.prog 88 = 8 := by kernel_rfl
@[simp] theorem t88_zero : zeroOf Try.prog 88 = some (.int .u64 0) := by kernel_rfl
@[simp] theorem t88_el : elemOK Try.prog 88 = true := by kernel_rfl
@[simp] theorem t88_sl : elemOfS Try.prog 88 = none := by kernel_rfl
@[simp] theorem t88_str : isStr Try.prog 88 = false := by kernel_rfl
@[simp] theorem t88_sh : shapeOf Try.prog 8 88 = some [.int .u64] := by kernel_rfl
@[simp] theorem t88_eg : eqG Try.prog 88 = false := by kernel_rfl
attribute [simp] Try.underlying88
@[simp] theorem t89_has : hasT Try.prog 89 = true := by kernel_rfl
@[simp] theorem t89_agg : isAggB Try.prog 89 = false := by kernel_rfl
@[simp] theorem t89_sz : szOf Try.prog 89 = 1 := by kernel_rfl
@[simp] theorem t89_by : bytesOf Try.prog 89 = 8 := by kernel_rfl
@[simp] theorem t89_zero : zeroOf Try.prog 89 = some (.nilFunc) := by kernel_rfl
@[simp] theorem t89_el : elemOK Try.prog 89 = true := by kernel_rfl
@[simp] theorem t89_sl : elemOfS Try.prog 89 = none := by kernel_rfl
@[simp] theorem t89_str : isStr Try.prog 89 = false := by kernel_rfl
@[simp] theorem t89_sh : shapeOf Try.prog 8 89 = none := by kernel_rfl
@[simp] theorem t89_eg : eqG Try.prog 89 = false := by kernel_rfl
attribute [simp] Try.underlying89
@[simp] theorem t90_has : hasT Try.prog 90 = true := by kernel_rfl
@[simp] theorem t90_agg : isAggB Try.prog 90 = false := by kernel_rfl
@[simp] theorem t90_sz : szOf Try.prog 90 = 1 := by kernel_rfl
@[simp] theorem t90_by : bytesOf Try.prog 90 = 8 := by kernel_rfl
@[simp] theorem t90_zero : zeroOf Try.prog 90 = some (.pointer none) := by kernel_rfl
@[simp] theorem t90_el : elemOK Try.prog 90 = true := by kernel_rfl
@[simp] theorem t90_sl : elemOfS Try.prog 90 = none := by kernel_rfl
@[simp] theorem t90_str : isStr Try.prog 90 = false := by kernel_rfl
@[simp] theorem t90_sh : shapeOf Try.prog 8 90 = none := by kernel_rfl
@[simp] theorem t90_eg : eqG Try.prog 90 = false := by kernel_rfl
attribute [simp] Try.underlying90
@[simp] theorem t91_has : hasT Try.prog 91 = true := by kernel_rfl
@[simp] theorem t91_agg : isAggB Try.prog 91 = true := by kernel_rfl
@[simp] theorem t91_sz : szOf Try.prog 91 = 4 := by kernel_rfl
@[simp] theorem t91_by : bytesOf Try.prog 91 = 64 := by kernel_rfl
@[simp] theorem t91_zero : zeroOf Try.prog 91 = some (.agg #[.slice none 0 0, .slice none 0 0, .int .i64 0, .int .i64 0]) := by kernel_rfl
@[simp] theorem t91_el : elemOK Try.prog 91 = true := by kernel_rfl
@[simp] theorem t91_sl : elemOfS Try.prog 91 = none := by kernel_rfl
@[simp] theorem t91_str : isStr Try.prog 91 = false := by kernel_rfl
@[simp] theorem t91_pl : placesL Try.prog 91 = some [(0, 1), (1, 1), (2, 1), (3, 1)] := by kernel_rfl
@[simp] theorem t91_f0 : fieldOf Try.prog 91 0 = some (26, 0) := by kernel_rfl
@[simp] theorem t91_f1 : fieldOf Try.prog 91 1 = some (31, 1) := by kernel_rfl
@[simp] theorem t91_f2 : fieldOf Try.prog 91 2 = some (3, 2) := by kernel_rfl
@[simp] theorem t91_f3 : fieldOf Try.prog 91 3 = some (3, 3) := by kernel_rfl
@[simp] theorem t91_sh : shapeOf Try.prog 8 91 = none := by kernel_rfl
@[simp] theorem t91_eg : eqG Try.prog 91 = false := by kernel_rfl
attribute [simp] Try.underlying91
@[simp] theorem t92_has : hasT Try.prog 92 = true := by kernel_rfl
@[simp] theorem t92_agg : isAggB Try.prog 92 = true := by kernel_rfl
@[simp] theorem t92_sz : szOf Try.prog 92 = 4 := by kernel_rfl
@[simp] theorem t92_by : bytesOf Try.prog 92 = 64 := by kernel_rfl
@[simp] theorem t92_zero : zeroOf Try.prog 92 = some (.agg #[.slice none 0 0, .slice none 0 0, .int .i64 0, .int .i64 0]) := by kernel_rfl
@[simp] theorem t92_el : elemOK Try.prog 92 = true := by kernel_rfl
@[simp] theorem t92_sl : elemOfS Try.prog 92 = none := by kernel_rfl
@[simp] theorem t92_str : isStr Try.prog 92 = false := by kernel_rfl
@[simp] theorem t92_pl : placesL Try.prog 92 = some [(0, 1), (1, 1), (2, 1), (3, 1)] := by kernel_rfl
@[simp] theorem t92_f0 : fieldOf Try.prog 92 0 = some (26, 0) := by kernel_rfl
@[simp] theorem t92_f1 : fieldOf Try.prog 92 1 = some (31, 1) := by kernel_rfl
@[simp] theorem t92_f2 : fieldOf Try.prog 92 2 = some (3, 2) := by kernel_rfl
@[simp] theorem t92_f3 : fieldOf Try.prog 92 3 = some (3, 3) := by kernel_rfl
@[simp] theorem t92_sh : shapeOf Try.prog 8 92 = none := by kernel_rfl
@[simp] theorem t92_eg : eqG Try.prog 92 = false := by kernel_rfl
attribute [simp] Try.underlying92
@[simp] theorem t93_has : hasT Try.prog 93 = true := by kernel_rfl
@[simp] theorem t93_agg : isAggB Try.prog 93 = false := by kernel_rfl
@[simp] theorem t93_sz : szOf Try.prog 93 = 1 := by kernel_rfl
@[simp] theorem t93_by : bytesOf Try.prog 93 = 8 := by kernel_rfl
@[simp] theorem t93_zero : zeroOf Try.prog 93 = some (.nilFunc) := by kernel_rfl
@[simp] theorem t93_el : elemOK Try.prog 93 = true := by kernel_rfl
@[simp] theorem t93_sl : elemOfS Try.prog 93 = none := by kernel_rfl
@[simp] theorem t93_str : isStr Try.prog 93 = false := by kernel_rfl
@[simp] theorem t93_sh : shapeOf Try.prog 8 93 = none := by kernel_rfl
@[simp] theorem t93_eg : eqG Try.prog 93 = false := by kernel_rfl
attribute [simp] Try.underlying93
@[simp] theorem t95_has : hasT Try.prog 95 = true := by kernel_rfl
@[simp] theorem t95_agg : isAggB Try.prog 95 = false := by kernel_rfl
@[simp] theorem t95_sz : szOf Try.prog 95 = 1 := by kernel_rfl
@[simp] theorem t95_by : bytesOf Try.prog 95 = 8 := by kernel_rfl
@[simp] theorem t95_zero : zeroOf Try.prog 95 = some (.nilFunc) := by kernel_rfl
@[simp] theorem t95_el : elemOK Try.prog 95 = true := by kernel_rfl
@[simp] theorem t95_sl : elemOfS Try.prog 95 = none := by kernel_rfl
@[simp] theorem t95_str : isStr Try.prog 95 = false := by kernel_rfl
@[simp] theorem t95_sh : shapeOf Try.prog 8 95 = none := by kernel_rfl
@[simp] theorem t95_eg : eqG Try.prog 95 = false := by kernel_rfl
attribute [simp] Try.underlying95
@[simp] theorem t96_has : hasT Try.prog 96 = true := by kernel_rfl
@[simp] theorem t96_agg : isAggB Try.prog 96 = false := by kernel_rfl
@[simp] theorem t96_sz : szOf Try.prog 96 = 1 := by kernel_rfl
@[simp] theorem t96_by : bytesOf Try.prog 96 = 8 := by kernel_rfl
@[simp] theorem t96_zero : zeroOf Try.prog 96 = some (.nilFunc) := by kernel_rfl
@[simp] theorem t96_el : elemOK Try.prog 96 = true := by kernel_rfl
@[simp] theorem t96_sl : elemOfS Try.prog 96 = none := by kernel_rfl
@[simp] theorem t96_str : isStr Try.prog 96 = false := by kernel_rfl
@[simp] theorem t96_sh : shapeOf Try.prog 8 96 = none := by kernel_rfl
@[simp] theorem t96_eg : eqG Try.prog 96 = false := by kernel_rfl
attribute [simp] Try.underlying96
@[simp] theorem t97_has : hasT Try.prog 97 = true := by kernel_rfl
@[simp] theorem t97_agg : isAggB Try.prog 97 = false := by kernel_rfl
@[simp] theorem t97_sz : szOf Try.prog 97 = 1 := by kernel_rfl
@[simp] theorem t97_by : bytesOf Try.prog 97 = 8 := by kernel_rfl
@[simp] theorem t97_zero : zeroOf Try.prog 97 = some (.nilFunc) := by kernel_rfl
@[simp] theorem t97_el : elemOK Try.prog 97 = true := by kernel_rfl
@[simp] theorem t97_sl : elemOfS Try.prog 97 = none := by kernel_rfl
@[simp] theorem t97_str : isStr Try.prog 97 = false := by kernel_rfl
@[simp] theorem t97_sh : shapeOf Try.prog 8 97 = none := by kernel_rfl
@[simp] theorem t97_eg : eqG Try.prog 97 = false := by kernel_rfl
attribute [simp] Try.underlying97
@[simp] theorem t98_has : hasT Try.prog 98 = true := by kernel_rfl
@[simp] theorem t98_agg : isAggB Try.prog 98 = false := by kernel_rfl
@[simp] theorem t98_sz : szOf Try.prog 98 = 1 := by kernel_rfl
@[simp] theorem t98_by : bytesOf Try.prog 98 = 8 := by kernel_rfl
@[simp] theorem t98_zero : zeroOf Try.prog 98 = some (.nilFunc) := by kernel_rfl
@[simp] theorem t98_el : elemOK Try.prog 98 = true := by kernel_rfl
@[simp] theorem t98_sl : elemOfS Try.prog 98 = none := by kernel_rfl
@[simp] theorem t98_str : isStr Try.prog 98 = false := by kernel_rfl
@[simp] theorem t98_sh : shapeOf Try.prog 8 98 = none := by kernel_rfl
@[simp] theorem t98_eg : eqG Try.prog 98 = false := by kernel_rfl
attribute [simp] Try.underlying98
@[simp] theorem t99_has : hasT Try.prog 99 = true := by kernel_rfl
@[simp] theorem t99_agg : isAggB Try.prog 99 = true := by kernel_rfl
@[simp] theorem t99_sz : szOf Try.prog 99 = 3 := by kernel_rfl
@[simp] theorem t99_by : bytesOf Try.prog 99 = 16 := by kernel_rfl
@[simp] theorem t99_zero : zeroOf Try.prog 99 = some (.agg #[.int .i64 0, .bool false, .bool false]) := by kernel_rfl
@[simp] theorem t99_el : elemOK Try.prog 99 = true := by kernel_rfl
@[simp] theorem t99_sl : elemOfS Try.prog 99 = none := by kernel_rfl
@[simp] theorem t99_str : isStr Try.prog 99 = false := by kernel_rfl
@[simp] theorem t99_pl : placesL Try.prog 99 = some [(0, 1), (1, 1), (2, 1)] := by kernel_rfl
@[simp] theorem t99_f0 : fieldOf Try.prog 99 0 = some (3, 0) := by kernel_rfl
@[simp] theorem t99_f1 : fieldOf Try.prog 99 1 = some (4, 1) := by kernel_rfl
@[simp] theorem t99_f2 : fieldOf Try.prog 99 2 = some (4, 2) := by kernel_rfl
@[simp] theorem t99_sh : shapeOf Try.prog 8 99 = some [.int .i64, .bool, .bool] := by kernel_rfl
@[simp] theorem t99_eg : eqG Try.prog 99 = false := by kernel_rfl
attribute [simp] Try.underlying99
@[simp] theorem t100_has : hasT Try.prog 100 = true := by kernel_rfl
@[simp] theorem t100_agg : isAggB Try.prog 100 = true := by kernel_rfl
@[simp] theorem t100_sz : szOf Try.prog 100 = 3 := by kernel_rfl
@[simp] theorem t100_by : bytesOf Try.prog 100 = 16 := by kernel_rfl
@[simp] theorem t100_zero : zeroOf Try.prog 100 = some (.agg #[.int .i64 0, .bool false, .bool false]) := by kernel_rfl
@[simp] theorem t100_el : elemOK Try.prog 100 = true := by kernel_rfl
@[simp] theorem t100_sl : elemOfS Try.prog 100 = none := by kernel_rfl
@[simp] theorem t100_str : isStr Try.prog 100 = false := by kernel_rfl
@[simp] theorem t100_pl : placesL Try.prog 100 = some [(0, 1), (1, 1), (2, 1)] := by kernel_rfl
@[simp] theorem t100_f0 : fieldOf Try.prog 100 0 = some (3, 0) := by kernel_rfl
@[simp] theorem t100_f1 : fieldOf Try.prog 100 1 = some (4, 1) := by kernel_rfl
@[simp] theorem t100_f2 : fieldOf Try.prog 100 2 = some (4, 2) := by kernel_rfl
@[simp] theorem t100_sh : shapeOf Try.prog 8 100 = some [.int .i64, .bool, .bool] := by kernel_rfl
@[simp] theorem t100_eg : eqG Try.prog 100 = false := by kernel_rfl
attribute [simp] Try.underlying100
@[simp] theorem t101_has : hasT Try.prog 101 = true := by kernel_rfl
@[simp] theorem t101_agg : isAggB Try.prog 101 = false := by kernel_rfl
@[simp] theorem t101_sz : szOf Try.prog 101 = 1 := by kernel_rfl
@[simp] theorem t101_by : bytesOf Try.prog 101 = 8 := by kernel_rfl
@[simp] theorem t101_zero : zeroOf Try.prog 101 = some (.nilFunc) := by kernel_rfl
@[simp] theorem t101_el : elemOK Try.prog 101 = true := by kernel_rfl
@[simp] theorem t101_sl : elemOfS Try.prog 101 = none := by kernel_rfl
@[simp] theorem t101_str : isStr Try.prog 101 = false := by kernel_rfl
@[simp] theorem t101_sh : shapeOf Try.prog 8 101 = none := by kernel_rfl
@[simp] theorem t101_eg : eqG Try.prog 101 = false := by kernel_rfl
attribute [simp] Try.underlying101
@[simp] theorem t103_has : hasT Try.prog 103 = true := by kernel_rfl
@[simp] theorem t103_agg : isAggB Try.prog 103 = false := by kernel_rfl
@[simp] theorem t103_sz : szOf Try.prog 103 = 1 := by kernel_rfl
@[simp] theorem t103_by : bytesOf Try.prog 103 = 8 := by kernel_rfl
@[simp] theorem t103_zero : zeroOf Try.prog 103 = some (.nilFunc) := by kernel_rfl
@[simp] theorem t103_el : elemOK Try.prog 103 = true := by kernel_rfl
@[simp] theorem t103_sl : elemOfS Try.prog 103 = none := by kernel_rfl
@[simp] theorem t103_str : isStr Try.prog 103 = false := by kernel_rfl
@[simp] theorem t103_sh : shapeOf Try.prog 8 103 = none := by kernel_rfl
@[simp] theorem t103_eg : eqG Try.prog 103 = false := by kernel_rfl
attribute [simp] Try.underlying103
@[simp] theorem t104_has : hasT Try.prog 104 = true := by kernel_rfl
@[simp] theorem t104_agg : isAggB Try.prog 104 = false := by kernel_rfl
@[simp] theorem t104_sz : szOf Try.prog 104 = 1 := by kernel_rfl
@[simp] theorem t104_by : bytesOf Try.prog 104 = 24 := by kernel_rfl
@[simp] theorem t104_zero : zeroOf Try.prog 104 = some (.slice none 0 0) := by kernel_rfl
@[simp] theorem t104_el : elemOK Try.prog 104 = true := by kernel_rfl
@[simp] theorem t104_sl : elemOfS Try.prog 104 = some 5 := by kernel_rfl
@[simp] theorem t104_str : isStr Try.prog 104 = false := by kernel_rfl
@[simp] theorem t104_sh : shapeOf Try.prog 8 104 = none := by kernel_rfl
@[simp] theorem t104_eg : eqG Try.prog 104 = false := by kernel_rfl
attribute [simp] Try.underlying104
@[simp] theorem t105_has : hasT Try.prog 105 = true := by kernel_rfl
@[simp] theorem t105_agg : isAggB Try.prog 105 = false := by kernel_rfl
@[simp] theorem t105_sz : szOf Try.prog 105 = 1 := by kernel_rfl
@[simp] theorem t105_by : bytesOf Try.prog 105 = 8 := by kernel_rfl
@[simp] theorem t105_zero : zeroOf Try.prog 105 = some (.nilFunc) := by kernel_rfl
@[simp] theorem t105_el : elemOK Try.prog 105 = true := by kernel_rfl
@[simp] theorem t105_sl : elemOfS Try.prog 105 = none := by kernel_rfl
@[simp] theorem t105_str : isStr Try.prog 105 = false := by kernel_rfl
@[simp] theorem t105_sh : shapeOf Try.prog 8 105 = none := by kernel_rfl
@[simp] theorem t105_eg : eqG Try.prog 105 = false := by kernel_rfl
attribute [simp] Try.underlying105
@[simp] theorem t106_has : hasT Try.prog 106 = true := by kernel_rfl
@[simp] theorem t106_agg : isAggB Try.prog 106 = false := by kernel_rfl
@[simp] theorem t106_sz : szOf Try.prog 106 = 1 := by kernel_rfl
@[simp] theorem t106_by : bytesOf Try.prog 106 = 8 := by kernel_rfl
@[simp] theorem t106_zero : zeroOf Try.prog 106 = some (.nilFunc) := by kernel_rfl
@[simp] theorem t106_el : elemOK Try.prog 106 = true := by kernel_rfl
@[simp] theorem t106_sl : elemOfS Try.prog 106 = none := by kernel_rfl
@[simp] theorem t106_str : isStr Try.prog 106 = false := by kernel_rfl
@[simp] theorem t106_sh : shapeOf Try.prog 8 106 = none := by kernel_rfl
@[simp] theorem t106_eg : eqG Try.prog 106 = false := by kernel_rfl
attribute [simp] Try.underlying106
@[simp] theorem t107_has : hasT Try.prog 107 = true := by kernel_rfl
@[simp] theorem t107_agg : isAggB Try.prog 107 = false := by kernel_rfl
@[simp] theorem t107_sz : szOf Try.prog 107 = 1 := by kernel_rfl
@[simp] theorem t107_by : bytesOf Try.prog 107 = 8 := by kernel_rfl
@[simp] theorem t107_zero : zeroOf Try.prog 107 = some (.nilFunc) := by kernel_rfl
@[simp] theorem t107_el : elemOK Try.prog 107 = true := by kernel_rfl
@[simp] theorem t107_sl : elemOfS Try.prog 107 = none := by kernel_rfl
@[simp] theorem t107_str : isStr Try.prog 107 = false := by kernel_rfl
@[simp] theorem t107_sh : shapeOf Try.prog 8 107 = none := by kernel_rfl
@[simp] theorem t107_eg : eqG Try.prog 107 = false := by kernel_rfl
attribute [simp] Try.underlying107
@[simp] theorem t108_has : hasT Try.prog 108 = true := by kernel_rfl
@[simp] theorem t108_agg : isAggB Try.prog 108 = false := by kernel_rfl
@[simp] theorem t108_sz : szOf Try.prog 108 = 1 := by kernel_rfl
@[simp] theorem t108_by : bytesOf Try.prog 108 = 8 := by kernel_rfl
@[simp] theorem t108_zero : zeroOf Try.prog 108 = some (.nilFunc) := by kernel_rfl
@[simp] theorem t108_el : elemOK Try.prog 108 = true := by kernel_rfl
@[simp] theorem t108_sl : elemOfS Try.prog 108 = none := by kernel_rfl
@[simp] theorem t108_str : isStr Try.prog 108 = false := by kernel_rfl
@[simp] theorem t108_sh : shapeOf Try.prog 8 108 = none := by kernel_rfl
@[simp] theorem t108_eg : eqG Try.prog 108 = false := by kernel_rfl
attribute [simp] Try.underlying108
@[simp] theorem t109_has : hasT Try.prog 109 = true := by kernel_rfl
@[simp] theorem t109_agg : isAggB Try.prog 109 = false := by kernel_rfl
@[simp] theorem t109_sz : szOf Try.prog 109 = 1 := by kernel_rfl
@[simp] theorem t109_by : bytesOf Try.prog 109 = 8 := by kernel_rfl
@[simp] theorem t109_zero : zeroOf Try.prog 109 = some (.nilFunc) := by kernel_rfl
@[simp] theorem t109_el : elemOK Try.prog 109 = true := by kernel_rfl
@[simp] theorem t109_sl : elemOfS Try.prog 109 = none := by kernel_rfl
@[simp] theorem t109_str : isStr Try.prog 109 = false := by kernel_rfl
@[simp] theorem t109_sh : shapeOf Try.prog 8 109 = none := by kernel_rfl
@[simp] theorem t109_eg : eqG Try.prog 109 = false := by kernel_rfl
attribute [simp] Try.underlying109
@[simp] theorem t110_has : hasT Try.prog 110 = true := by kernel_rfl
@[simp] theorem t110_agg : isAggB Try.prog 110 = false := by kernel_rfl
@[simp] theorem t110_sz : szOf Try.prog 110 = 1 := by kernel_rfl
@[simp] theorem t110_by : bytesOf Try.prog 110 = 8 := by kernel_rfl
@[simp] theorem t110_zero : zeroOf Try.prog 110 = some (.nilFunc) := by kernel_rfl
@[simp] theorem t110_el : elemOK Try.prog 110 = true := by kernel_rfl
@[simp] theorem t110_sl : elemOfS Try.prog 110 = none := by kernel_rfl
@[simp] theorem t110_str : isStr Try.prog 110 = false := by kernel_rfl
@[simp] theorem t110_sh : shapeOf Try.prog 8 110 = none := by kernel_rfl
@[simp] theorem t110_eg : eqG Try.prog 110 = false := by kernel_rfl
attribute [simp] Try.underlying110
@[simp] theorem t111_has : hasT Try.prog 111 = true := by kernel_rfl
@[simp] theorem t111_agg : isAggB Try.prog 111 = false := by kernel_rfl
@[simp] theorem t111_sz : szOf Try.prog 111 = 1 := by kernel_rfl
@[simp] theorem t111_by : bytesOf Try.prog 111 = 8 := by kernel_rfl
@[simp] theorem t111_zero : zeroOf Try.prog 111 = some (.nilFunc) := by kernel_rfl
@[simp] theorem t111_el : elemOK Try.prog 111 = true := by kernel_rfl
@[simp] theorem t111_sl : elemOfS Try.prog 111 = none := by kernel_rfl
@[simp] theorem t111_str : isStr Try.prog 111 = false := by kernel_rfl
@[simp] theorem t111_sh : shapeOf Try.prog 8 111 = none := by kernel_rfl
@[simp] theorem t111_eg : eqG Try.prog 111 = false := by kernel_rfl
attribute [simp] Try.underlying111
@[simp] theorem t113_has : hasT Try.prog 113 = true := by kernel_rfl
@[simp] theorem t113_agg : isAggB Try.prog 113 = false := by kernel_rfl
@[simp] theorem t113_sz : szOf Try.prog 113 = 1 := by kernel_rfl
@[simp] theorem t113_by : bytesOf Try.prog 113 = 8 := by kernel_rfl
@[simp] theorem t113_zero : zeroOf Try.prog 113 = some (.nilFunc) := by kernel_rfl
@[simp] theorem t113_el : elemOK Try.prog 113 = true := by kernel_rfl
@[simp] theorem t113_sl : elemOfS Try.prog 113 = none := by kernel_rfl
@[simp] theorem t113_str : isStr Try.prog 113 = false := by kernel_rfl
@[simp] theorem t113_sh : shapeOf Try.prog 8 113 = none := by kernel_rfl
@[simp] theorem t113_eg : eqG Try.prog 113 = false := by kernel_rfl
attribute [simp] Try.underlying113
@[simp] theorem t114_has : hasT Try.prog 114 = true := by kernel_rfl
@[simp] theorem t114_agg : isAggB Try.prog 114 = false := by kernel_rfl
@[simp] theorem t114_sz : szOf Try.prog 114 = 1 := by kernel_rfl
@[simp] theorem t114_by : bytesOf Try.prog 114 = 8 := by kernel_rfl
@[simp] theorem t114_zero : zeroOf Try.prog 114 = some (.nilFunc) := by kernel_rfl
@[simp] theorem t114_el : elemOK Try.prog 114 = true := by kernel_rfl
@[simp] theorem t114_sl : elemOfS Try.prog 114 = none := by kernel_rfl
@[simp] theorem t114_str : isStr Try.prog 114 = false := by kernel_rfl
@[simp] theorem t114_sh : shapeOf Try.prog 8 114 = none := by kernel_rfl
@[simp] theorem t114_eg : eqG Try.prog 114 = false := by kernel_rfl
attribute [simp] Try.underlying114
@[simp] theorem t115_has : hasT Try.prog 115 = true := by kernel_rfl
@[simp] theorem t115_agg : isAggB Try.prog 115 = false := by kernel_rfl
@[simp] theorem t115_sz : szOf Try.prog 115 = 1 := by kernel_rfl
@[simp] theorem t115_by : bytesOf Try.prog 115 = 8 := by kernel_rfl
@[simp] theorem t115_zero : zeroOf Try.prog 115 = some (.nilFunc) := by kernel_rfl
@[simp] theorem t115_el : elemOK Try.prog 115 = true := by kernel_rfl
@[simp] theorem t115_sl : elemOfS Try.prog 115 = none := by kernel_rfl
@[simp] theorem t115_str : isStr Try.prog 115 = false := by kernel_rfl
@[simp] theorem t115_sh : shapeOf Try.prog 8 115 = none := by kernel_rfl
@[simp] theorem t115_eg : eqG Try.prog 115 = false := by kernel_rfl
attribute [simp] Try.underlying115
@[simp] theorem t117_has : hasT Try.prog 117 = true := by kernel_rfl
@[simp] theorem t117_agg : isAggB Try.prog 117 = false := by kernel_rfl
@[simp] theorem t117_sz : szOf Try.prog 117 = 1 := by kernel_rfl
@[simp] theorem t117_by : bytesOf Try.prog 117 = 8 := by kernel_rfl
@[simp] theorem t117_zero : zeroOf Try.prog 117 = some (.nilFunc) := by kernel_rfl
@[simp] theorem t117_el : elemOK Try.prog 117 = true := by kernel_rfl
@[simp] theorem t117_sl : elemOfS Try.prog 117 = none := by kernel_rfl
@[simp] theorem t117_str : isStr Try.prog 117 = false := by kernel_rfl
@[simp] theorem t117_sh : shapeOf Try.prog 8 117 = none := by kernel_rfl
@[simp] theorem t117_eg : eqG Try.prog 117 = false := by kernel_rfl
attribute [simp] Try.underlying117
@[simp] theorem t118_has : hasT Try.prog 118 = true := by kernel_rfl
@[simp] theorem t118_agg : isAggB Try.prog 118 = false := by kernel_rfl
@[simp] theorem t118_sz : szOf Try.prog 118 = 1 := by kernel_rfl
@[simp] theorem t118_by : bytesOf Try.prog 118 = 8 := by kernel_rfl
@[simp] theorem t118_zero : zeroOf Try.prog 118 = some (.nilFunc) := by kernel_rfl
@[simp] theorem t118_el : elemOK Try.prog 118 = true := by kernel_rfl
@[simp] theorem t118_sl : elemOfS Try.prog 118 = none := by kernel_rfl
@[simp] theorem t118_str : isStr Try.prog 118 = false := by kernel_rfl
@[simp] theorem t118_sh : shapeOf Try.prog 8 118 = none := by kernel_rfl
@[simp] theorem t118_eg : eqG Try.prog 118 = false := by kernel_rfl
attribute [simp] Try.underlying118
@[simp] theorem t119_has : hasT Try.prog 119 = true := by kernel_rfl
@[simp] theorem t119_agg : isAggB Try.prog 119 = false := by kernel_rfl
@[simp] theorem t119_sz : szOf Try.prog 119 = 1 := by kernel_rfl
@[simp] theorem t119_by : bytesOf Try.prog 119 = 8 := by kernel_rfl
@[simp] theorem t119_zero : zeroOf Try.prog 119 = some (.nilFunc) := by kernel_rfl
@[simp] theorem t119_el : elemOK Try.prog 119 = true := by kernel_rfl
@[simp] theorem t119_sl : elemOfS Try.prog 119 = none := by kernel_rfl
@[simp] theorem t119_str : isStr Try.prog 119 = false := by kernel_rfl
@[simp] theorem t119_sh : shapeOf Try.prog 8 119 = none := by kernel_rfl
@[simp] theorem t119_eg : eqG Try.prog 119 = false := by kernel_rfl
attribute [simp] Try.underlying119
@[simp] theorem t120_has : hasT Try.prog 120 = true := by kernel_rfl
@[simp] theorem t120_agg : isAggB Try.prog 120 = false := by kernel_rfl
@[simp] theorem t120_sz : szOf Try.prog 120 = 1 := by kernel_rfl
@[simp] theorem t120_by : bytesOf Try.prog 120 = 8 := by kernel_rfl
@[simp] theorem t120_zero : zeroOf Try.prog 120 = some (.nilFunc) := by kernel_rfl
@[simp] theorem t120_el : elemOK Try.prog 120 = true := by kernel_rfl
@[simp] theorem t120_sl : elemOfS Try.prog 120 = none := by kernel_rfl
@[simp] theorem t120_str : isStr Try.prog 120 = false := by kernel_rfl
@[simp] theorem t120_sh : shapeOf Try.prog 8 120 = none := by kernel_rfl
@[simp] theorem t120_eg : eqG Try.prog 120 = false := by kernel_rfl
attribute [simp] Try.underlying120
@[simp] theorem t121_has : hasT Try.prog 121 = true := by kernel_rfl
@[simp] theorem t121_agg : isAggB Try.prog 121 = false := by kernel_rfl
@[simp] theorem t121_sz : szOf Try.prog 121 = 1 := by kernel_rfl
@[simp] theorem t121_by : bytesOf Try.prog 121 = 8 := by kernel_rfl
@[simp] theorem t121_zero : zeroOf Try.prog 121 = some (.nilFunc) := by kernel_rfl
@[simp] theorem t121_el : elemOK Try.prog 121 = true := by kernel_rfl
@[simp] theorem t121_sl : elemOfS Try.prog 121 = none := by kernel_rfl
@[simp] theorem t121_str : isStr Try.prog 121 = false := by kernel_rfl
@[simp] theorem t121_sh : shapeOf Try.prog 8 121 = none := by kernel_rfl
@[simp] theorem t121_eg : eqG Try.prog 121 = false := by kernel_rfl
attribute [simp] Try.underlying121
@[simp] theorem t122_has : hasT Try.prog 122 = true := by kernel_rfl
@[simp] theorem t122_agg : isAggB Try.prog 122 = false := by kernel_rfl
@[simp] theorem t122_sz : szOf Try.prog 122 = 1 := by kernel_rfl
@[simp] theorem t122_by : bytesOf Try.prog 122 = 8 := by kernel_rfl
@[simp] theorem t122_zero : zeroOf Try.prog 122 = some (.nilFunc) := by kernel_rfl
@[simp] theorem t122_el : elemOK Try.prog 122 = true := by kernel_rfl
@[simp] theorem t122_sl : elemOfS Try.prog 122 = none := by kernel_rfl
@[simp] theorem t122_str : isStr Try.prog 122 = false := by kernel_rfl
@[simp] theorem t122_sh : shapeOf Try.prog 8 122 = none := by kernel_rfl
@[simp] theorem t122_eg : eqG Try.prog 122 = false := by kernel_rfl
attribute [simp] Try.underlying122
@[simp] theorem t123_has : hasT Try.prog 123 = true := by kernel_rfl
@[simp] theorem t123_agg : isAggB Try.prog 123 = false := by kernel_rfl
@[simp] theorem t123_sz : szOf Try.prog 123 = 1 := by kernel_rfl
@[simp] theorem t123_by : bytesOf Try.prog 123 = 8 := by kernel_rfl
@[simp] theorem t123_zero : zeroOf Try.prog 123 = some (.pointer none) := by kernel_rfl
@[simp] theorem t123_el : elemOK Try.prog 123 = true := by kernel_rfl
@[simp] theorem t123_sl : elemOfS Try.prog 123 = none := by kernel_rfl
@[simp] theorem t123_str : isStr Try.prog 123 = false := by kernel_rfl
@[simp] theorem t123_sh : shapeOf Try.prog 8 123 = none := by kernel_rfl
@[simp] theorem t123_eg : eqG Try.prog 123 = false := by kernel_rfl
attribute [simp] Try.underlying123
@[simp] theorem t124_has : hasT Try.prog 124 = true := by kernel_rfl
@[simp] theorem t124_agg : isAggB Try.prog 124 = false := by kernel_rfl
@[simp] theorem t124_sz : szOf Try.prog 124 = 1 := by kernel_rfl
@[simp] theorem t124_by : bytesOf Try.prog 124 = 8 := by kernel_rfl
@[simp] theorem t124_zero : zeroOf Try.prog 124 = some (.nilFunc) := by kernel_rfl
@[simp] theorem t124_el : elemOK Try.prog 124 = true := by kernel_rfl
@[simp] theorem t124_sl : elemOfS Try.prog 124 = none := by kernel_rfl
@[simp] theorem t124_str : isStr Try.prog 124 = false := by kernel_rfl
@[simp] theorem t124_sh : shapeOf Try.prog 8 124 = none := by kernel_rfl
@[simp] theorem t124_eg : eqG Try.prog 124 = false := by kernel_rfl
attribute [simp] Try.underlying124
@[simp] theorem t125_has : hasT Try.prog 125 = true := by kernel_rfl
@[simp] theorem t125_agg : isAggB Try.prog 125 = false := by kernel_rfl
@[simp] theorem t125_sz : szOf Try.prog 125 = 1 := by kernel_rfl
@[simp] theorem t125_by : bytesOf Try.prog 125 = 8 := by kernel_rfl
@[simp] theorem t125_zero : zeroOf Try.prog 125 = some (.nilFunc) := by kernel_rfl
@[simp] theorem t125_el : elemOK Try.prog 125 = true := by kernel_rfl
@[simp] theorem t125_sl : elemOfS Try.prog 125 = none := by kernel_rfl
@[simp] theorem t125_str : isStr Try.prog 125 = false := by kernel_rfl
@[simp] theorem t125_sh : shapeOf Try.prog 8 125 = none := by kernel_rfl
@[simp] theorem t125_eg : eqG Try.prog 125 = false := by kernel_rfl
attribute [simp] Try.underlying125
@[simp] theorem t126_has : hasT Try.prog 126 = true := by kernel_rfl
@[simp] theorem t126_agg : isAggB Try.prog 126 = false := by kernel_rfl
@[simp] theorem t126_sz : szOf Try.prog 126 = 1 := by kernel_rfl
@[simp] theorem t126_by : bytesOf Try.prog 126 = 8 := by kernel_rfl
@[simp] theorem t126_zero : zeroOf Try.prog 126 = some (.nilFunc) := by kernel_rfl
@[simp] theorem t126_el : elemOK Try.prog 126 = true := by kernel_rfl
@[simp] theorem t126_sl : elemOfS Try.prog 126 = none := by kernel_rfl
@[simp] theorem t126_str : isStr Try.prog 126 = false := by kernel_rfl
@[simp] theorem t126_sh : shapeOf Try.prog 8 126 = none := by kernel_rfl
@[simp] theorem t126_eg : eqG Try.prog 126 = false := by kernel_rfl
attribute [simp] Try.underlying126
@[simp] theorem t127_has : hasT Try.prog 127 = true := by kernel_rfl
@[simp] theorem t127_agg : isAggB Try.prog 127 = false := by kernel_rfl
@[simp] theorem t127_sz : szOf Try.prog 127 = 1 := by kernel_rfl
@[simp] theorem t127_by : bytesOf Try.prog 127 = 8 := by kernel_rfl
@[simp] theorem t127_zero : zeroOf Try.prog 127 = some (.nilFunc) := by kernel_rfl
@[simp] theorem t127_el : elemOK Try.prog 127 = true := by kernel_rfl
@[simp] theorem t127_sl : elemOfS Try.prog 127 = none := by kernel_rfl
@[simp] theorem t127_str : isStr Try.prog 127 = false := by kernel_rfl
@[simp] theorem t127_sh : shapeOf Try.prog 8 127 = none := by kernel_rfl
@[simp] theorem t127_eg : eqG Try.prog 127 = false := by kernel_rfl
attribute [simp] Try.underlying127
@[simp] theorem t128_has : hasT Try.prog 128 = true := by kernel_rfl
@[simp] theorem t128_agg : isAggB Try.prog 128 = false := by kernel_rfl
@[simp] theorem t128_sz : szOf Try.prog 128 = 1 := by kernel_rfl
@[simp] theorem t128_by : bytesOf Try.prog 128 = 8 := by kernel_rfl
@[simp] theorem t128_zero : zeroOf Try.prog 128 = some (.nilFunc) := by kernel_rfl
@[simp] theorem t128_el : elemOK Try.prog 128 = true := by kernel_rfl
@[simp] theorem t128_sl : elemOfS Try.prog 128 = none := by kernel_rfl
@[simp] theorem t128_str : isStr Try.prog 128 = false := by kernel_rfl
@[simp] theorem t128_sh : shapeOf Try.prog 8 128 = none := by kernel_rfl
@[simp] theorem t128_eg : eqG Try.prog 128 = false := by kernel_rfl
attribute [simp] Try.underlying128
@[simp] theorem t134_has : hasT Try.prog 134 = true := by kernel_rfl
@[simp] theorem t134_agg : isAggB Try.prog 134 = false := by kernel_rfl
@[simp] theorem t134_sz : szOf Try.prog 134 = 1 := by kernel_rfl
@[simp] theorem t134_by : bytesOf Try.prog 134 = 8 := by kernel_rfl
@[simp] theorem t134_zero : zeroOf Try.prog 134 = some (.nilFunc) := by kernel_rfl
@[simp] theorem t134_el : elemOK Try.prog 134 = true := by kernel_rfl
@[simp] theorem t134_sl : elemOfS Try.prog 134 = none := by kernel_rfl
@[simp] theorem t134_str : isStr Try.prog 134 = false := by kernel_rfl
@[simp] theorem t134_sh : shapeOf Try.prog 8 134 = none := by kernel_rfl
@[simp] theorem t134_eg : eqG Try.prog 134 = false := by kernel_rfl
attribute [simp] Try.underlying134
@[simp] theorem t135_has : hasT Try.prog 135 = true := by kernel_rfl
@[simp] theorem t135_agg : isAggB Try.prog 135 = false := by kernel_rfl
@[simp] theorem t135_sz : szOf Try.prog 135 = 1 := by kernel_rfl
@[simp] theorem t135_by : bytesOf Try.prog 135 = 4 := by kernel_rfl
@[simp] theorem t135_zero : zeroOf Try.prog 135 = some (.int .u32 0) := by kernel_rfl
@[simp] theorem t135_el : elemOK Try.prog 135 = true := by kernel_rfl
@[simp] theorem t135_sl : elemOfS Try.prog 135 = none := by kernel_rfl
@[simp] theorem t135_str : isStr Try.prog 135 = false := by kernel_rfl
@[simp] theorem t135_sh : shapeOf Try.prog 8 135 = some [.int .u32] := by kernel_rfl
@[simp] theorem t135_eg : eqG Try.prog 135 = false := by kernel_rfl
attribute [simp] Try.underlying135
@[simp] theorem t139_has : hasT Try.prog 139 = true := by kernel_rfl
@[simp] theorem t139_agg : isAggB Try.prog 139 = false := by kernel_rfl
@[simp] theorem t139_sz : szOf Try.prog 139 = 1 := by kernel_rfl
@[simp] theorem t139_by : bytesOf Try.prog 139 = 8 := by kernel_rfl
@[simp] theorem t139_zero : zeroOf Try.prog 139 = some (.pointer none) := by kernel_rfl
@[simp] theorem t139_el : elemOK Try.prog 139 = true := by kernel_rfl
@[simp] theorem t139_sl : elemOfS Try.prog 139 = none := by kernel_rfl
@[simp] theorem t139_str : isStr Try.prog 139 = false := by kernel_rfl
@[simp] theorem t139_sh : shapeOf Try.prog 8 139 = none := by kernel_rfl
@[simp] theorem t139_eg : eqG Try.prog 139 = false := by kernel_rfl
attribute [simp] Try.underlying139
end Go.Ab
