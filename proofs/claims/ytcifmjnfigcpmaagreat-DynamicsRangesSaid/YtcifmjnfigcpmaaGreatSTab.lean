/-
  A part of the proof: STab.
-/
import Derived.Test.YtcifmjnfigcpmaaGreatBxF
import Derived.KernelRfl
import Derived.Test.YtcifmjnfigcpmaaGreatSProg
set_option linter.unusedSimpArgs false
set_option linter.unusedVariables false
set_option linter.unusedSectionVars false
namespace Go.Bx.S
open Go Go.Bx
set_option maxRecDepth 100000
def t0 : Table := []
def a0 : List Value := [(.agg #[(.int .i64 65536), (.int .i64 65536)]), (.agg #[(.int .i64 411774), (.int .i64 411775)])]
def v0 : Value := (.tuple #[(.agg #[(.int .i64 411774), (.int .i64 411775)]), (.bool true)])
theorem b0 : closedB A t0 60 23 a0 v0 = true := by kernel_rfl
def t1 : Table := (23, a0, v0) :: t0
def a1 : List Value := [(.int .i64 0)]
def v1 : Value := (.agg #[(.int .i64 0), (.int .i64 0), (.int .i64 0), (.int .i64 0), (.int .i64 0), (.int .i64 0), (.int .i64 0), (.int .i64 0), (.int .i64 0), (.int .i64 0), (.int .i64 0), (.int .i64 0), (.int .i64 0), (.int .i64 0), (.int .i64 0), (.int .i64 0), (.int .i64 0), (.int .i64 0), (.int .i64 0), (.int .i64 0), (.int .i64 0), (.int .i64 0)])
theorem b1 : closedB A t1 60 130 a1 v1 = true := by kernel_rfl
def t2 : Table := (130, a1, v1) :: t1
def a2 : List Value := [(.int .i64 0)]
def v2 : Value := (.agg #[(.int .i64 65536), (.int .i64 65536)])
theorem b2 : closedB A t2 60 121 a2 v2 = true := by kernel_rfl
def t3 : Table := (121, a2, v2) :: t2
def a3 : List Value := [(.int .i64 1024)]
def v3 : Value := (.agg #[(.int .i64 0), (.int .i64 105414357), (.int .i64 10349030), (.int .i64 1016013), (.int .i64 99746), (.int .i64 9792), (.int .i64 961), (.int .i64 94), (.int .i64 9), (.int .i64 0), (.int .i64 0), (.int .i64 0), (.int .i64 105414358), (.int .i64 10349031), (.int .i64 1016014), (.int .i64 99747), (.int .i64 9793), (.int .i64 962), (.int .i64 95), (.int .i64 10), (.int .i64 1), (.int .i64 1)])
theorem b3 : closedB A t3 60 130 a3 v3 = true := by kernel_rfl
def t4 : Table := (130, a3, v3) :: t3
def a4 : List Value := [(.int .i64 1024)]
def v4 : Value := (.agg #[(.int .i64 65220), (.int .i64 65221)])
theorem b4 : closedB A t4 60 121 a4 v4 = true := by kernel_rfl
def t5 : Table := (121, a4, v4) :: t4
def a5 : List Value := [(.agg #[(.int .i64 0), (.int .i64 1024)])]
def v5 : Value := (.agg #[(.int .i64 0), (.int .i64 6424)])
theorem b5 : closedB A t5 60 116 a5 v5 = true := by kernel_rfl
def t6 : Table := (116, a5, v5) :: t5
def a6 : List Value := [(.int .i64 2), (.agg #[(.int .i64 0), (.int .i64 1024)])]
def v6 : Value := (.agg #[(.int .i64 65220), (.int .i64 65536), (.int .i64 (-6424)), (.int .i64 0), (.int .i64 0), (.int .i64 0), (.int .i64 0), (.int .i64 6424), (.int .i64 65220), (.int .i64 65536), (.int .i64 0), (.int .i64 0), (.int .i64 0), (.int .i64 0), (.int .i64 0), (.int .i64 0), (.int .i64 65536), (.int .i64 65536)])
theorem b6 : closedB A t6 60 111 a6 v6 = true := by kernel_rfl
def t7 : Table := (111, a6, v6) :: t6
def a7 : List Value := [(.agg #[(.int .i64 65536), (.int .i64 65536), (.int .i64 0), (.int .i64 0), (.int .i64 0), (.int .i64 0)]), (.agg #[(.int .i64 65220), (.int .i64 65536), (.int .i64 0), (.int .i64 6424), (.int .i64 0), (.int .i64 0)])]
def v7 : Value := (.agg #[(.int .i64 65220), (.int .i64 65536)])
theorem b7 : closedB A t7 60 99 a7 v7 = true := by kernel_rfl
def t8 : Table := (99, a7, v7) :: t7
def a8 : List Value := [(.agg #[(.int .i64 65536), (.int .i64 65536), (.int .i64 0), (.int .i64 0), (.int .i64 0), (.int .i64 0)]), (.agg #[(.int .i64 (-6424)), (.int .i64 0), (.int .i64 65220), (.int .i64 65536), (.int .i64 0), (.int .i64 0)])]
def v8 : Value := (.agg #[(.int .i64 (-6424)), (.int .i64 0)])
theorem b8 : closedB A t8 60 99 a8 v8 = true := by kernel_rfl
def t9 : Table := (99, a8, v8) :: t8
def a9 : List Value := [(.agg #[(.int .i64 65536), (.int .i64 65536), (.int .i64 0), (.int .i64 0), (.int .i64 0), (.int .i64 0)]), (.agg #[(.int .i64 0), (.int .i64 0), (.int .i64 0), (.int .i64 0), (.int .i64 65536), (.int .i64 65536)])]
def v9 : Value := (.agg #[(.int .i64 0), (.int .i64 0)])
theorem b9 : closedB A t9 60 99 a9 v9 = true := by kernel_rfl
def t10 : Table := (99, a9, v9) :: t9
def a10 : List Value := [(.agg #[(.int .i64 0), (.int .i64 0), (.int .i64 65536), (.int .i64 65536), (.int .i64 0), (.int .i64 0)]), (.agg #[(.int .i64 65220), (.int .i64 65536), (.int .i64 0), (.int .i64 6424), (.int .i64 0), (.int .i64 0)])]
def v10 : Value := (.agg #[(.int .i64 0), (.int .i64 6424)])
theorem b10 : closedB A t10 60 99 a10 v10 = true := by kernel_rfl
def t11 : Table := (99, a10, v10) :: t10
def a11 : List Value := [(.agg #[(.int .i64 0), (.int .i64 0), (.int .i64 65536), (.int .i64 65536), (.int .i64 0), (.int .i64 0)]), (.agg #[(.int .i64 (-6424)), (.int .i64 0), (.int .i64 65220), (.int .i64 65536), (.int .i64 0), (.int .i64 0)])]
def v11 : Value := (.agg #[(.int .i64 65220), (.int .i64 65536)])
theorem b11 : closedB A t11 60 99 a11 v11 = true := by kernel_rfl
def t12 : Table := (99, a11, v11) :: t11
def a12 : List Value := [(.agg #[(.int .i64 0), (.int .i64 0), (.int .i64 65536), (.int .i64 65536), (.int .i64 0), (.int .i64 0)]), (.agg #[(.int .i64 0), (.int .i64 0), (.int .i64 0), (.int .i64 0), (.int .i64 65536), (.int .i64 65536)])]
def v12 : Value := (.agg #[(.int .i64 0), (.int .i64 0)])
theorem b12 : closedB A t12 60 99 a12 v12 = true := by kernel_rfl
def t13 : Table := (99, a12, v12) :: t12
def a13 : List Value := [(.agg #[(.int .i64 0), (.int .i64 0), (.int .i64 0), (.int .i64 0), (.int .i64 65536), (.int .i64 65536)]), (.agg #[(.int .i64 65220), (.int .i64 65536), (.int .i64 0), (.int .i64 6424), (.int .i64 0), (.int .i64 0)])]
def v13 : Value := (.agg #[(.int .i64 0), (.int .i64 0)])
theorem b13 : closedB A t13 60 99 a13 v13 = true := by kernel_rfl
def t14 : Table := (99, a13, v13) :: t13
def a14 : List Value := [(.agg #[(.int .i64 0), (.int .i64 0), (.int .i64 0), (.int .i64 0), (.int .i64 65536), (.int .i64 65536)]), (.agg #[(.int .i64 (-6424)), (.int .i64 0), (.int .i64 65220), (.int .i64 65536), (.int .i64 0), (.int .i64 0)])]
def v14 : Value := (.agg #[(.int .i64 0), (.int .i64 0)])
theorem b14 : closedB A t14 60 99 a14 v14 = true := by kernel_rfl
def t15 : Table := (99, a14, v14) :: t14
def a15 : List Value := [(.agg #[(.int .i64 0), (.int .i64 0), (.int .i64 0), (.int .i64 0), (.int .i64 65536), (.int .i64 65536)]), (.agg #[(.int .i64 0), (.int .i64 0), (.int .i64 0), (.int .i64 0), (.int .i64 65536), (.int .i64 65536)])]
def v15 : Value := (.agg #[(.int .i64 65536), (.int .i64 65536)])
theorem b15 : closedB A t15 60 99 a15 v15 = true := by kernel_rfl
def t16 : Table := (99, a15, v15) :: t15
def a16 : List Value := [(.agg #[(.int .i64 65536), (.int .i64 65536), (.int .i64 0), (.int .i64 0), (.int .i64 0), (.int .i64 0), (.int .i64 0), (.int .i64 0), (.int .i64 65536), (.int .i64 65536), (.int .i64 0), (.int .i64 0), (.int .i64 0), (.int .i64 0), (.int .i64 0), (.int .i64 0), (.int .i64 65536), (.int .i64 65536)]), (.agg #[(.int .i64 65220), (.int .i64 65536), (.int .i64 (-6424)), (.int .i64 0), (.int .i64 0), (.int .i64 0), (.int .i64 0), (.int .i64 6424), (.int .i64 65220), (.int .i64 65536), (.int .i64 0), (.int .i64 0), (.int .i64 0), (.int .i64 0), (.int .i64 0), (.int .i64 0), (.int .i64 65536), (.int .i64 65536)])]
def v16 : Value := (.agg #[(.int .i64 65220), (.int .i64 65536), (.int .i64 (-6424)), (.int .i64 0), (.int .i64 0), (.int .i64 0), (.int .i64 0), (.int .i64 6424), (.int .i64 65220), (.int .i64 65536), (.int .i64 0), (.int .i64 0), (.int .i64 0), (.int .i64 0), (.int .i64 0), (.int .i64 0), (.int .i64 65536), (.int .i64 65536)])
theorem b16 : closedB A t16 60 97 a16 v16 = true := by kernel_rfl
def t17 : Table := (97, a16, v16) :: t16
def a17 : List Value := [(.agg #[(.int .i64 65536), (.int .i64 65536), (.int .i64 0), (.int .i64 0), (.int .i64 0), (.int .i64 0)]), (.agg #[(.int .i64 0), (.int .i64 0), (.int .i64 0), (.int .i64 0), (.int .i64 0), (.int .i64 0)])]
def v17 : Value := (.agg #[(.int .i64 0), (.int .i64 0)])
theorem b17 : closedB A t17 60 99 a17 v17 = true := by kernel_rfl
def t18 : Table := (99, a17, v17) :: t17
def a18 : List Value := [(.agg #[(.int .i64 0), (.int .i64 0), (.int .i64 65536), (.int .i64 65536), (.int .i64 0), (.int .i64 0)]), (.agg #[(.int .i64 0), (.int .i64 0), (.int .i64 0), (.int .i64 0), (.int .i64 0), (.int .i64 0)])]
def v18 : Value := (.agg #[(.int .i64 0), (.int .i64 0)])
theorem b18 : closedB A t18 60 99 a18 v18 = true := by kernel_rfl
def t19 : Table := (99, a18, v18) :: t18
def a19 : List Value := [(.agg #[(.int .i64 0), (.int .i64 0), (.int .i64 0), (.int .i64 0), (.int .i64 65536), (.int .i64 65536)]), (.agg #[(.int .i64 0), (.int .i64 0), (.int .i64 0), (.int .i64 0), (.int .i64 0), (.int .i64 0)])]
def v19 : Value := (.agg #[(.int .i64 0), (.int .i64 0)])
theorem b19 : closedB A t19 60 99 a19 v19 = true := by kernel_rfl
def t20 : Table := (99, a19, v19) :: t19
def a20 : List Value := [(.agg #[(.int .i64 65536), (.int .i64 65536), (.int .i64 0), (.int .i64 0), (.int .i64 0), (.int .i64 0), (.int .i64 0), (.int .i64 0), (.int .i64 65536), (.int .i64 65536), (.int .i64 0), (.int .i64 0), (.int .i64 0), (.int .i64 0), (.int .i64 0), (.int .i64 0), (.int .i64 65536), (.int .i64 65536), (.int .i64 0), (.int .i64 0), (.int .i64 0), (.int .i64 0), (.int .i64 0), (.int .i64 0)]), (.agg #[(.int .i64 65220), (.int .i64 65536), (.int .i64 (-6424)), (.int .i64 0), (.int .i64 0), (.int .i64 0), (.int .i64 0), (.int .i64 6424), (.int .i64 65220), (.int .i64 65536), (.int .i64 0), (.int .i64 0), (.int .i64 0), (.int .i64 0), (.int .i64 0), (.int .i64 0), (.int .i64 65536), (.int .i64 65536), (.int .i64 0), (.int .i64 0), (.int .i64 0), (.int .i64 0), (.int .i64 0), (.int .i64 0)])]
def v20 : Value := (.agg #[(.int .i64 65220), (.int .i64 65536), (.int .i64 (-6424)), (.int .i64 0), (.int .i64 0), (.int .i64 0), (.int .i64 0), (.int .i64 6424), (.int .i64 65220), (.int .i64 65536), (.int .i64 0), (.int .i64 0), (.int .i64 0), (.int .i64 0), (.int .i64 0), (.int .i64 0), (.int .i64 65536), (.int .i64 65536), (.int .i64 0), (.int .i64 0), (.int .i64 0), (.int .i64 0), (.int .i64 0), (.int .i64 0)])
theorem b20 : closedB A t20 60 84 a20 v20 = true := by kernel_rfl
def t21 : Table := (84, a20, v20) :: t20
def a21 : List Value := [(.agg #[(.int .i64 65220), (.int .i64 65536), (.int .i64 (-6424)), (.int .i64 0), (.int .i64 0), (.int .i64 0)]), (.agg #[(.int .i64 65536), (.int .i64 65536), (.int .i64 0), (.int .i64 0), (.int .i64 0), (.int .i64 0)])]
def v21 : Value := (.agg #[(.int .i64 65220), (.int .i64 65536)])
theorem b21 : closedB A t21 60 99 a21 v21 = true := by kernel_rfl
def t22 : Table := (99, a21, v21) :: t21
def a22 : List Value := [(.agg #[(.int .i64 0), (.int .i64 6424), (.int .i64 65220), (.int .i64 65536), (.int .i64 0), (.int .i64 0)]), (.agg #[(.int .i64 65536), (.int .i64 65536), (.int .i64 0), (.int .i64 0), (.int .i64 0), (.int .i64 0)])]
def v22 : Value := (.agg #[(.int .i64 0), (.int .i64 6424)])
theorem b22 : closedB A t22 60 99 a22 v22 = true := by kernel_rfl
def t23 : Table := (99, a22, v22) :: t22
def a23 : List Value := [(.agg #[(.int .i64 0), (.int .i64 0), (.int .i64 0), (.int .i64 0), (.int .i64 65536), (.int .i64 65536)]), (.agg #[(.int .i64 65536), (.int .i64 65536), (.int .i64 0), (.int .i64 0), (.int .i64 0), (.int .i64 0)])]
def v23 : Value := (.agg #[(.int .i64 0), (.int .i64 0)])
theorem b23 : closedB A t23 60 99 a23 v23 = true := by kernel_rfl
def t24 : Table := (99, a23, v23) :: t23
def a24 : List Value := [(.agg #[(.int .i64 65220), (.int .i64 65536), (.int .i64 (-6424)), (.int .i64 0), (.int .i64 0), (.int .i64 0), (.int .i64 0), (.int .i64 6424), (.int .i64 65220), (.int .i64 65536), (.int .i64 0), (.int .i64 0), (.int .i64 0), (.int .i64 0), (.int .i64 0), (.int .i64 0), (.int .i64 65536), (.int .i64 65536), (.int .i64 0), (.int .i64 0), (.int .i64 0), (.int .i64 0), (.int .i64 0), (.int .i64 0)]), (.agg #[(.int .i64 65536), (.int .i64 65536), (.int .i64 0), (.int .i64 0), (.int .i64 0), (.int .i64 0)])]
def v24 : Value := (.agg #[(.int .i64 65220), (.int .i64 65536), (.int .i64 0), (.int .i64 6424), (.int .i64 0), (.int .i64 0)])
theorem b24 : closedB A t24 60 35 a24 v24 = true := by kernel_rfl
def t25 : Table := (35, a24, v24) :: t24
def a25 : List Value := [(.agg #[(.int .i64 0), (.int .i64 0)]), (.agg #[(.int .i64 0), (.int .i64 0)])]
def v25 : Value := (.tuple #[(.agg #[(.int .i64 0), (.int .i64 0)]), (.bool true)])
theorem b25 : closedB A t25 60 23 a25 v25 = true := by kernel_rfl
def t26 : Table := (23, a25, v25) :: t25
def a26 : List Value := [(.agg #[(.int .i64 65536), (.int .i64 65536)]), (.agg #[(.int .i64 0), (.int .i64 6424)])]
def v26 : Value := (.tuple #[(.agg #[(.int .i64 0), (.int .i64 6424)]), (.bool true)])
theorem b26 : closedB A t26 60 23 a26 v26 = true := by kernel_rfl
def t27 : Table := (23, a26, v26) :: t26
def a27 : List Value := [(.agg #[(.int .i64 65536), (.int .i64 65536)]), (.agg #[(.int .i64 65220), (.int .i64 65536)])]
def v27 : Value := (.tuple #[(.agg #[(.int .i64 65220), (.int .i64 65536)]), (.bool true)])
theorem b27 : closedB A t27 60 23 a27 v27 = true := by kernel_rfl
def t28 : Table := (23, a27, v27) :: t27
def a28 : List Value := [(.agg #[(.int .i64 0), (.int .i64 0)]), (.agg #[(.int .i64 0), (.int .i64 6424)])]
def v28 : Value := (.tuple #[(.agg #[(.int .i64 0), (.int .i64 0)]), (.bool true)])
theorem b28 : closedB A t28 60 23 a28 v28 = true := by kernel_rfl
def t29 : Table := (23, a28, v28) :: t28
def a29 : List Value := [(.agg #[(.int .i64 0), (.int .i64 0)]), (.agg #[(.int .i64 65220), (.int .i64 65536)])]
def v29 : Value := (.tuple #[(.agg #[(.int .i64 0), (.int .i64 0)]), (.bool true)])
theorem b29 : closedB A t29 60 23 a29 v29 = true := by kernel_rfl
def t30 : Table := (23, a29, v29) :: t29
def a30 : List Value := [(.agg #[(.int .i64 (-6424)), (.int .i64 0)]), (.agg #[(.int .i64 0), (.int .i64 0)])]
def v30 : Value := (.tuple #[(.agg #[(.int .i64 0), (.int .i64 0)]), (.bool true)])
theorem b30 : closedB A t30 60 23 a30 v30 = true := by kernel_rfl
def t31 : Table := (23, a30, v30) :: t30
def a31 : List Value := [(.agg #[(.int .i64 65220), (.int .i64 65536)]), (.agg #[(.int .i64 0), (.int .i64 0)])]
def v31 : Value := (.tuple #[(.agg #[(.int .i64 0), (.int .i64 0)]), (.bool true)])
theorem b31 : closedB A t31 60 23 a31 v31 = true := by kernel_rfl
def t32 : Table := (23, a31, v31) :: t31
def a32 : List Value := [(.agg #[(.int .i64 (-6424)), (.int .i64 0)]), (.agg #[(.int .i64 411774), (.int .i64 411775)])]
def v32 : Value := (.tuple #[(.agg #[(.int .i64 (-40364)), (.int .i64 0)]), (.bool true)])
theorem b32 : closedB A t32 60 23 a32 v32 = true := by kernel_rfl
def t33 : Table := (23, a32, v32) :: t32
def a33 : List Value := [(.agg #[(.int .i64 65220), (.int .i64 65536)]), (.agg #[(.int .i64 411774), (.int .i64 411775)])]
def v33 : Value := (.tuple #[(.agg #[(.int .i64 409788), (.int .i64 411775)]), (.bool true)])
theorem b33 : closedB A t33 60 23 a33 v33 = true := by kernel_rfl
def t34 : Table := (23, a33, v33) :: t33
def a34 : List Value := [(.agg #[(.int .i64 0), (.int .i64 0)]), (.agg #[(.int .i64 411774), (.int .i64 411775)])]
def v34 : Value := (.tuple #[(.agg #[(.int .i64 0), (.int .i64 0)]), (.bool true)])
theorem b34 : closedB A t34 60 23 a34 v34 = true := by kernel_rfl
def t35 : Table := (23, a34, v34) :: t34
def a35 : List Value := [(.agg #[(.int .i64 411774), (.int .i64 411775)]), (.agg #[(.int .i64 411774), (.int .i64 411775)])]
def v35 : Value := (.tuple #[(.agg #[(.int .i64 2587247), (.int .i64 2587260)]), (.bool true)])
theorem b35 : closedB A t35 60 23 a35 v35 = true := by kernel_rfl
def t36 : Table := (23, a35, v35) :: t35
def a36 : List Value := [(.agg #[(.int .i64 65536), (.int .i64 65536)]), (.agg #[(.int .i64 (-6424)), (.int .i64 0)])]
def v36 : Value := (.tuple #[(.agg #[(.int .i64 (-6424)), (.int .i64 0)]), (.bool true)])
theorem b36 : closedB A t36 60 23 a36 v36 = true := by kernel_rfl
def t37 : Table := (23, a36, v36) :: t36
def a37 : List Value := [(.agg #[(.int .i64 0), (.int .i64 0)]), (.agg #[(.int .i64 (-6424)), (.int .i64 0)])]
def v37 : Value := (.tuple #[(.agg #[(.int .i64 0), (.int .i64 0)]), (.bool true)])
theorem b37 : closedB A t37 60 23 a37 v37 = true := by kernel_rfl
def t38 : Table := (23, a37, v37) :: t37
def a38 : List Value := [(.agg #[(.int .i64 (-65536)), (.int .i64 (-65220))]), (.agg #[(.int .i64 2587247), (.int .i64 2587260)])]
def v38 : Value := (.tuple #[(.agg #[(.int .i64 (-2587260)), (.int .i64 (-2574771))]), (.bool true)])
theorem b38 : closedB A t38 60 23 a38 v38 = true := by kernel_rfl
def t39 : Table := (23, a38, v38) :: t38
def a39 : List Value := [(.agg #[(.int .i64 (-6424)), (.int .i64 0)]), (.agg #[(.int .i64 2587247), (.int .i64 2587260)])]
def v39 : Value := (.tuple #[(.agg #[(.int .i64 (-253610)), (.int .i64 0)]), (.bool true)])
theorem b39 : closedB A t39 60 23 a39 v39 = true := by kernel_rfl
def t40 : Table := (23, a39, v39) :: t39
def a40 : List Value := [(.agg #[(.int .i64 0), (.int .i64 0)]), (.agg #[(.int .i64 2587247), (.int .i64 2587260)])]
def v40 : Value := (.tuple #[(.agg #[(.int .i64 0), (.int .i64 0)]), (.bool true)])
theorem b40 : closedB A t40 60 23 a40 v40 = true := by kernel_rfl
def t41 : Table := (23, a40, v40) :: t40
def a41 : List Value := [(.agg #[(.int .i64 (-6424)), (.int .i64 0)]), (.agg #[(.int .i64 (-40364)), (.int .i64 0)])]
def v41 : Value := (.tuple #[(.agg #[(.int .i64 0), (.int .i64 3957)]), (.bool true)])
theorem b41 : closedB A t41 60 23 a41 v41 = true := by kernel_rfl
def t42 : Table := (23, a41, v41) :: t41
def a42 : List Value := [(.agg #[(.int .i64 65220), (.int .i64 65536)]), (.agg #[(.int .i64 409788), (.int .i64 411775)])]
def v42 : Value := (.tuple #[(.agg #[(.int .i64 407812), (.int .i64 411775)]), (.bool true)])
theorem b42 : closedB A t42 60 23 a42 v42 = true := by kernel_rfl
def t43 : Table := (23, a42, v42) :: t42
def a43 : List Value := [(.agg #[(.int .i64 (-6424)), (.int .i64 0)]), (.agg #[(.int .i64 (-2587260)), (.int .i64 (-2574771))])]
def v43 : Value := (.tuple #[(.agg #[(.int .i64 0), (.int .i64 253610)]), (.bool true)])
theorem b43 : closedB A t43 60 23 a43 v43 = true := by kernel_rfl
def t44 : Table := (23, a43, v43) :: t43
def a44 : List Value := [(.agg #[(.int .i64 65220), (.int .i64 65536)]), (.agg #[(.int .i64 (-253610)), (.int .i64 0)])]
def v44 : Value := (.tuple #[(.agg #[(.int .i64 (-253610)), (.int .i64 0)]), (.bool true)])
theorem b44 : closedB A t44 60 23 a44 v44 = true := by kernel_rfl
def t45 : Table := (23, a44, v44) :: t44
def a45 : List Value := [(.agg #[(.int .i64 (-3)), (.int .i64 2)]), (.agg #[(.int .i64 65536), (.int .i64 131072)])]
def v45 : Value := (.tuple #[(.agg #[(.int .i64 (-6)), (.int .i64 4)]), (.bool true)])
theorem b45 : closedB A t45 60 23 a45 v45 = true := by kernel_rfl
def t46 : Table := (23, a45, v45) :: t45
def a46 : List Value := []
def v46 : Value := (.bool true)
theorem b46 : closedB A t46 60 8 a46 v46 = true := by kernel_rfl
def t47 : Table := (8, a46, v46) :: t46
theorem goods {P : Program} (hA : Ok P A) (hm : P.follows .mixedOrders = true) : Bx.Good P t47 := by
  have g0 : Bx.Good P t0 := Bx.Good.nil
  have g1 : Bx.Good P t1 := g0.cons (g0.more hA hm 60 b0)
  have g2 : Bx.Good P t2 := g1.cons (g1.more hA hm 60 b1)
  have g3 : Bx.Good P t3 := g2.cons (g2.more hA hm 60 b2)
  have g4 : Bx.Good P t4 := g3.cons (g3.more hA hm 60 b3)
  have g5 : Bx.Good P t5 := g4.cons (g4.more hA hm 60 b4)
  have g6 : Bx.Good P t6 := g5.cons (g5.more hA hm 60 b5)
  have g7 : Bx.Good P t7 := g6.cons (g6.more hA hm 60 b6)
  have g8 : Bx.Good P t8 := g7.cons (g7.more hA hm 60 b7)
  have g9 : Bx.Good P t9 := g8.cons (g8.more hA hm 60 b8)
  have g10 : Bx.Good P t10 := g9.cons (g9.more hA hm 60 b9)
  have g11 : Bx.Good P t11 := g10.cons (g10.more hA hm 60 b10)
  have g12 : Bx.Good P t12 := g11.cons (g11.more hA hm 60 b11)
  have g13 : Bx.Good P t13 := g12.cons (g12.more hA hm 60 b12)
  have g14 : Bx.Good P t14 := g13.cons (g13.more hA hm 60 b13)
  have g15 : Bx.Good P t15 := g14.cons (g14.more hA hm 60 b14)
  have g16 : Bx.Good P t16 := g15.cons (g15.more hA hm 60 b15)
  have g17 : Bx.Good P t17 := g16.cons (g16.more hA hm 60 b16)
  have g18 : Bx.Good P t18 := g17.cons (g17.more hA hm 60 b17)
  have g19 : Bx.Good P t19 := g18.cons (g18.more hA hm 60 b18)
  have g20 : Bx.Good P t20 := g19.cons (g19.more hA hm 60 b19)
  have g21 : Bx.Good P t21 := g20.cons (g20.more hA hm 60 b20)
  have g22 : Bx.Good P t22 := g21.cons (g21.more hA hm 60 b21)
  have g23 : Bx.Good P t23 := g22.cons (g22.more hA hm 60 b22)
  have g24 : Bx.Good P t24 := g23.cons (g23.more hA hm 60 b23)
  have g25 : Bx.Good P t25 := g24.cons (g24.more hA hm 60 b24)
  have g26 : Bx.Good P t26 := g25.cons (g25.more hA hm 60 b25)
  have g27 : Bx.Good P t27 := g26.cons (g26.more hA hm 60 b26)
  have g28 : Bx.Good P t28 := g27.cons (g27.more hA hm 60 b27)
  have g29 : Bx.Good P t29 := g28.cons (g28.more hA hm 60 b28)
  have g30 : Bx.Good P t30 := g29.cons (g29.more hA hm 60 b29)
  have g31 : Bx.Good P t31 := g30.cons (g30.more hA hm 60 b30)
  have g32 : Bx.Good P t32 := g31.cons (g31.more hA hm 60 b31)
  have g33 : Bx.Good P t33 := g32.cons (g32.more hA hm 60 b32)
  have g34 : Bx.Good P t34 := g33.cons (g33.more hA hm 60 b33)
  have g35 : Bx.Good P t35 := g34.cons (g34.more hA hm 60 b34)
  have g36 : Bx.Good P t36 := g35.cons (g35.more hA hm 60 b35)
  have g37 : Bx.Good P t37 := g36.cons (g36.more hA hm 60 b36)
  have g38 : Bx.Good P t38 := g37.cons (g37.more hA hm 60 b37)
  have g39 : Bx.Good P t39 := g38.cons (g38.more hA hm 60 b38)
  have g40 : Bx.Good P t40 := g39.cons (g39.more hA hm 60 b39)
  have g41 : Bx.Good P t41 := g40.cons (g40.more hA hm 60 b40)
  have g42 : Bx.Good P t42 := g41.cons (g41.more hA hm 60 b41)
  have g43 : Bx.Good P t43 := g42.cons (g42.more hA hm 60 b42)
  have g44 : Bx.Good P t44 := g43.cons (g43.more hA hm 60 b43)
  have g45 : Bx.Good P t45 := g44.cons (g44.more hA hm 60 b44)
  have g46 : Bx.Good P t46 := g45.cons (g45.more hA hm 60 b45)
  have g47 : Bx.Good P t47 := g46.cons (g46.more hA hm 60 b46)
  exact g47
end Go.Bx.S

