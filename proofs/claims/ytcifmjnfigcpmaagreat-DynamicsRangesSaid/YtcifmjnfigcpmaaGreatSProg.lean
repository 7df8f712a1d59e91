/-
  The functions of the program, as the interpreter reads them (printed by a program of ours).
-/
import Derived.Test.YtcifmjnfigcpmaaGreatSProgA
set_option linter.unusedSimpArgs false
set_option linter.unusedVariables false
set_option linter.unusedSectionVars false
namespace Go.Bx.S
open Go Go.Bx
/-! armplan/robot.Check -/
def F_robot_Check.r0 : List AOper := [
  ⟨(some 1), .box T_api_Robot (.tmp 0), none, []⟩,
  ⟨(some 2), .mv (.const (.int .i64 0)), none, []⟩]
def F_robot_Check.r1 : List AOper := [
  ⟨(some 8), .fieldAddr 0 (.tmp 1), none, []⟩,
  ⟨(some 9), .load none (.tmp 8), none, []⟩,
  ⟨(some 10), .lenO false (.tmp 9), none, []⟩,
  ⟨(some 11), .bin .lss .no (.tmp 10) (.const (.int .i64 1)), none, []⟩,
  ⟨(some 12), .mv (.tmp 11), none, []⟩,
  ⟨(some 13), .fieldAddr 0 (.tmp 1), some ((some 12), false), []⟩,
  ⟨(some 14), .load none (.tmp 13), some ((some 12), false), []⟩,
  ⟨(some 15), .lenO false (.tmp 14), some ((some 12), false), []⟩,
  ⟨(some 16), .bin .gtr .no (.tmp 15) (.const (.int .i64 10)), some ((some 12), false), []⟩,
  ⟨(some 17), .pick (.tmp 12) (.const (.bool true)) (.tmp 16), none, []⟩]
def F_robot_Check.r2 : List AOper := [
  ⟨(some 2), .mv (.const (.int .i64 801)), none, []⟩]
def F_robot_Check.r3 : List AOper := [
  ⟨(some 18), .fieldAddr 0 (.tmp 1), none, []⟩,
  ⟨(some 19), .load none (.tmp 18), none, []⟩,
  ⟨(some 20), .lenO false (.tmp 19), none, []⟩,
  ⟨(some 21), .mv (.const (.int .i64 0)), none, []⟩]
def F_robot_Check.r4 : List AOper := [
  ⟨(some 22), .bin .lss .no (.tmp 21) (.tmp 20), none, []⟩]
def F_robot_Check.r5 : List AOper := [
  ⟨(some 23), .mv (.tmp 21), none, []⟩,
  ⟨(some 24), .idxAddr none 12 (.tmp 19) (.tmp 21), none, []⟩,
  ⟨(some 25), .load (some 12) (.tmp 24), none, []⟩,
  ⟨(some 4), .alloc T_api_Joint [(.string (ByteArray.mk #[])), (.int .i64 0), (.int .i64 0), (.int .i64 0), (.int .i64 0), (.int .i64 0), (.int .i64 0), (.int .i64 0), (.int .i64 0), (.int .i64 0), (.int .i64 0), (.int .i64 0)], none, []⟩,
  ⟨(some 3), .mv (.tmp 23), none, []⟩,
  ⟨none, .store 12 (.tmp 4) (.tmp 25), none, []⟩]
def F_robot_Check.r6 : List AOper := [
  ⟨(some 26), .fieldAddr 0 (.tmp 1), none, []⟩,
  ⟨(some 27), .load none (.tmp 26), none, []⟩,
  ⟨(some 28), .mv (.tmp 3), none, []⟩,
  ⟨(some 29), .slc 12 (.tmp 27) none (some (.tmp 28)), none, []⟩,
  ⟨(some 30), .load (some 12) (.tmp 4), none, []⟩,
  ⟨(some 31), .call (.func n_robot_checkJoint) [(.tmp 29), (.tmp 30)], none, []⟩,
  ⟨(some 5), .mv (.tmp 31), none, []⟩]
def F_robot_Check.r7 : List AOper := [
  ⟨(some 32), .mv (.tmp 5), none, []⟩,
  ⟨(some 33), .bin .neq .no (.tmp 32) (.const (.int .i64 0)), none, []⟩]
def F_robot_Check.r8 : List AOper := [
  ⟨(some 34), .mv (.tmp 5), none, []⟩,
  ⟨(some 2), .mv (.tmp 34), none, []⟩]
def F_robot_Check.r9 : List AOper := [
  ⟨(some 35), .bin .add .no (.tmp 21) (.const (.int .i64 1)), none, []⟩,
  ⟨(some 21), .mv (.tmp 35), none, []⟩]
def F_robot_Check.l0 : ACode := (.seq (.region F_robot_Check.r4) (.seq (.cond (.tmp 22) .skip (.exit 0)) (.seq (.block 1 (.seq (.region F_robot_Check.r5) (.seq (.dregion F_robot_Check.r6) (.seq (.region F_robot_Check.r7) (.cond (.tmp 33) (.seq (.region F_robot_Check.r8) .ret) .skip))))) (.region F_robot_Check.r9))))
def F_robot_Check.r10 : List AOper := [
  ⟨(some 36), .fieldAddr 1 (.tmp 1), none, []⟩,
  ⟨(some 37), .load none (.tmp 36), none, []⟩,
  ⟨(some 38), .lenO false (.tmp 37), none, []⟩,
  ⟨(some 39), .bin .gtr .no (.tmp 38) (.const (.int .i64 32)), none, []⟩]
def F_robot_Check.r11 : List AOper := [
  ⟨(some 2), .mv (.const (.int .i64 808)), none, []⟩]
def F_robot_Check.r12 : List AOper := [
  ⟨(some 40), .fieldAddr 1 (.tmp 1), none, []⟩,
  ⟨(some 41), .load none (.tmp 40), none, []⟩,
  ⟨(some 42), .lenO false (.tmp 41), none, []⟩,
  ⟨(some 43), .mv (.const (.int .i64 0)), none, []⟩]
def F_robot_Check.r13 : List AOper := [
  ⟨(some 44), .bin .lss .no (.tmp 43) (.tmp 42), none, []⟩]
def F_robot_Check.r14 : List AOper := [
  ⟨(some 45), .idxAddr none 5 (.tmp 41) (.tmp 43), none, []⟩,
  ⟨(some 46), .load (some 5) (.tmp 45), none, []⟩,
  ⟨(some 7), .alloc T_api_Mass [(.int .i64 0), (.int .i64 0), (.int .i64 0), (.int .i64 0), (.int .i64 0)], none, []⟩,
  ⟨none, .store 5 (.tmp 7) (.tmp 46), none, []⟩]
def F_robot_Check.r15 : List AOper := [
  ⟨(some 47), .fieldAddr 0 (.tmp 7), none, []⟩,
  ⟨(some 48), .load none (.tmp 47), none, []⟩,
  ⟨(some 49), .bin .lss .no (.tmp 48) (.const (.int .i64 0)), none, []⟩,
  ⟨(some 50), .mv (.tmp 49), none, []⟩,
  ⟨(some 51), .fieldAddr 0 (.tmp 7), some ((some 50), false), []⟩,
  ⟨(some 52), .load none (.tmp 51), some ((some 50), false), []⟩,
  ⟨(some 53), .fieldAddr 0 (.tmp 1), some ((some 50), false), []⟩,
  ⟨(some 54), .load none (.tmp 53), some ((some 50), false), []⟩,
  ⟨(some 55), .lenO false (.tmp 54), some ((some 50), false), []⟩,
  ⟨(some 56), .bin .geq .no (.tmp 52) (.tmp 55), some ((some 50), false), []⟩,
  ⟨(some 57), .pick (.tmp 50) (.const (.bool true)) (.tmp 56), none, []⟩,
  ⟨(some 58), .mv (.tmp 57), none, []⟩,
  ⟨(some 59), .fieldAddr 1 (.tmp 7), some ((some 58), false), []⟩,
  ⟨(some 60), .load none (.tmp 59), some ((some 58), false), []⟩,
  ⟨(some 61), .call (.func n_robot_between) [(.const (.int .i64 1)), (.tmp 60), (.const (.int .i64 65536))], some ((some 58), false), []⟩,
  ⟨(some 62), .un .not (.tmp 61), some ((some 58), false), []⟩,
  ⟨(some 63), .pick (.tmp 58) (.const (.bool true)) (.tmp 62), none, []⟩,
  ⟨(some 64), .mv (.tmp 63), none, []⟩,
  ⟨(some 65), .fieldAddr 2 (.tmp 7), some ((some 64), false), []⟩,
  ⟨(some 66), .load (some 3) (.tmp 65), some ((some 64), false), []⟩,
  ⟨(some 67), .call (.func n_robot_long) [(.tmp 66)], some ((some 64), false), []⟩,
  ⟨(some 68), .pick (.tmp 64) (.const (.bool true)) (.tmp 67), none, []⟩]
def F_robot_Check.r16 : List AOper := [
  ⟨(some 2), .mv (.const (.int .i64 808)), none, []⟩]
def F_robot_Check.r17 : List AOper := [
  ⟨(some 69), .bin .add .no (.tmp 43) (.const (.int .i64 1)), none, []⟩,
  ⟨(some 43), .mv (.tmp 69), none, []⟩]
def F_robot_Check.l1 : ACode := (.seq (.region F_robot_Check.r13) (.seq (.cond (.tmp 44) .skip (.exit 2)) (.seq (.block 3 (.seq (.region F_robot_Check.r14) (.seq (.region F_robot_Check.r15) (.cond (.tmp 68) (.seq (.region F_robot_Check.r16) .ret) .skip)))) (.region F_robot_Check.r17))))
def F_robot_Check.r18 : List AOper := [
  ⟨(some 2), .mv (.const (.int .i64 0)), none, []⟩]
def F_robot_Check : AFunc := ⟨(.seq (.region F_robot_Check.r0) (.seq (.seq (.region F_robot_Check.r1) (.cond (.tmp 17) (.seq (.region F_robot_Check.r2) .ret) .skip)) (.seq (.seq (.region F_robot_Check.r3) (.block 0 (.loop F_robot_Check.l0))) (.seq (.seq (.region F_robot_Check.r10) (.cond (.tmp 39) (.seq (.region F_robot_Check.r11) .ret) .skip)) (.seq (.seq (.region F_robot_Check.r12) (.block 2 (.loop F_robot_Check.l1))) (.seq (.region F_robot_Check.r18) .ret)))))),
  [.inl 2]⟩
/-! armplan/config.all[armplan/api.Joint,int64] -/
def F_config_all_api_Joint_int64.r0 : List AOper := [
  ⟨(some 6), .mv (.const (.bool false)), none, []⟩]
def F_config_all_api_Joint_int64.r1 : List AOper := [
  ⟨(some 7), .mv (.const (.int .i64 0)), none, []⟩]
def F_config_all_api_Joint_int64.r2 : List AOper := [
  ⟨(some 8), .mv (.tmp 0), none, []⟩,
  ⟨(some 9), .lenO false (.tmp 8), none, []⟩,
  ⟨(some 10), .mv (.tmp 1), none, []⟩,
  ⟨(some 11), .lenO false (.tmp 10), none, []⟩,
  ⟨(some 12), .bin .eql .no (.tmp 9) (.tmp 11), none, []⟩,
  ⟨(some 13), .mv (.tmp 12), none, []⟩,
  ⟨(some 14), .mv (.tmp 7), some ((some 13), true), []⟩,
  ⟨(some 15), .mv (.tmp 0), some ((some 13), true), []⟩,
  ⟨(some 16), .lenO false (.tmp 15), some ((some 13), true), []⟩,
  ⟨(some 17), .bin .lss .no (.tmp 14) (.tmp 16), some ((some 13), true), []⟩,
  ⟨(some 18), .pick (.tmp 13) (.tmp 17) (.const (.bool false)), none, []⟩]
def F_config_all_api_Joint_int64.r3 : List AOper := [
  ⟨(some 21), .mv (.tmp 2), none, []⟩,
  ⟨(some 22), .mv (.tmp 0), none, []⟩,
  ⟨(some 23), .mv (.tmp 7), none, []⟩,
  ⟨(some 24), .idxAddr none 12 (.tmp 22) (.tmp 23), none, []⟩,
  ⟨(some 25), .load (some 12) (.tmp 24), none, []⟩,
  ⟨(some 26), .mv (.tmp 1), none, []⟩,
  ⟨(some 27), .mv (.tmp 7), none, []⟩,
  ⟨(some 28), .idxAddr none 1 (.tmp 26) (.tmp 27), none, []⟩,
  ⟨(some 29), .load none (.tmp 28), none, []⟩,
  ⟨(some 30), .call (.tmp 21) [(.tmp 25), (.tmp 29)], none, []⟩,
  ⟨(some 31), .un .not (.tmp 30), none, []⟩]
def F_config_all_api_Joint_int64.r4 : List AOper := [
  ⟨(some 6), .mv (.const (.bool false)), none, []⟩]
def F_config_all_api_Joint_int64.r5 : List AOper := [
  ⟨(some 19), .mv (.tmp 7), none, []⟩,
  ⟨(some 20), .bin .add .no (.tmp 19) (.const (.int .i64 1)), none, []⟩,
  ⟨(some 7), .mv (.tmp 20), none, []⟩]
def F_config_all_api_Joint_int64.l0 : ACode := (.seq (.seq (.region F_config_all_api_Joint_int64.r2) (.cond (.tmp 18) .skip (.exit 0))) (.seq (.block 1 (.seq (.dregion F_config_all_api_Joint_int64.r3) (.cond (.tmp 31) (.seq (.region F_config_all_api_Joint_int64.r4) .ret) .skip))) (.region F_config_all_api_Joint_int64.r5)))
def F_config_all_api_Joint_int64.r6 : List AOper := [
  ⟨(some 32), .mv (.tmp 0), none, []⟩,
  ⟨(some 33), .lenO false (.tmp 32), none, []⟩,
  ⟨(some 34), .mv (.tmp 1), none, []⟩,
  ⟨(some 35), .lenO false (.tmp 34), none, []⟩,
  ⟨(some 36), .bin .eql .no (.tmp 33) (.tmp 35), none, []⟩,
  ⟨(some 6), .mv (.tmp 36), none, []⟩]
def F_config_all_api_Joint_int64 : AFunc := ⟨(.seq (.region F_config_all_api_Joint_int64.r0) (.seq (.seq (.region F_config_all_api_Joint_int64.r1) (.block 0 (.loop F_config_all_api_Joint_int64.l0))) (.seq (.region F_config_all_api_Joint_int64.r6) .ret))),
  [.inl 6]⟩
/-! armplan/config.Inside$1 -/
def F_config_Inside_1.r0 : List AOper := [
  ⟨(some 2), .box T_api_Joint (.tmp 0), none, []⟩,
  ⟨(some 4), .mv (.const (.bool false)), none, []⟩]
def F_config_Inside_1.r1 : List AOper := [
  ⟨(some 5), .load (some 12) (.tmp 2), none, []⟩,
  ⟨(some 6), .call (.func n_config_limits) [(.tmp 5)], none, []⟩,
  ⟨(some 7), .mv (.tmp 1), none, []⟩,
  ⟨(some 8), .call (.func n_interval_Has) [(.tmp 6), (.tmp 7)], none, []⟩,
  ⟨(some 4), .mv (.tmp 8), none, []⟩]
def F_config_Inside_1 : AFunc := ⟨(.seq (.region F_config_Inside_1.r0) (.seq (.region F_config_Inside_1.r1) .ret)),
  [.inl 4]⟩
/-! armplan/interval.Has -/
def F_interval_Has.r0 : List AOper := [
  ⟨(some 2), .box T_api_Interval (.tmp 0), none, []⟩,
  ⟨(some 4), .mv (.const (.bool false)), none, []⟩]
def F_interval_Has.r1 : List AOper := [
  ⟨(some 5), .load (some 2) (.tmp 2), none, []⟩,
  ⟨(some 6), .call (.func n_interval_Valid) [(.tmp 5)], none, []⟩,
  ⟨(some 7), .mv (.tmp 6), none, []⟩,
  ⟨(some 8), .mv (.tmp 1), some ((some 7), true), []⟩,
  ⟨(some 9), .fieldAddr 0 (.tmp 2), some ((some 7), true), []⟩,
  ⟨(some 10), .load none (.tmp 9), some ((some 7), true), []⟩,
  ⟨(some 11), .bin .geq .no (.tmp 8) (.tmp 10), some ((some 7), true), []⟩,
  ⟨(some 12), .pick (.tmp 7) (.tmp 11) (.const (.bool false)), none, []⟩,
  ⟨(some 13), .mv (.tmp 12), none, []⟩,
  ⟨(some 14), .mv (.tmp 1), some ((some 13), true), []⟩,
  ⟨(some 15), .fieldAddr 1 (.tmp 2), some ((some 13), true), []⟩,
  ⟨(some 16), .load none (.tmp 15), some ((some 13), true), []⟩,
  ⟨(some 17), .bin .leq .no (.tmp 14) (.tmp 16), some ((some 13), true), []⟩,
  ⟨(some 18), .pick (.tmp 13) (.tmp 17) (.const (.bool false)), none, []⟩,
  ⟨(some 4), .mv (.tmp 18), none, []⟩]
def F_interval_Has : AFunc := ⟨(.seq (.region F_interval_Has.r0) (.seq (.region F_interval_Has.r1) .ret)),
  [.inl 4]⟩
/-! armplan/config.limits -/
def F_config_limits.r0 : List AOper := [
  ⟨(some 1), .box T_api_Joint (.tmp 0), none, []⟩,
  ⟨(some 2), .alloc T_api_Interval [(.int .i64 0), (.int .i64 0)], none, []⟩]
def F_config_limits.r1 : List AOper := [
  ⟨(some 3), .fieldAddr 6 (.tmp 1), none, []⟩,
  ⟨(some 4), .load none (.tmp 3), none, []⟩,
  ⟨(some 5), .fieldAddr 7 (.tmp 1), none, []⟩,
  ⟨(some 6), .load none (.tmp 5), none, []⟩,
  ⟨(some 7), .build [(.int .i64 0), (.int .i64 0)] [(0, 1, (.tmp 4)), (1, 1, (.tmp 6))], none, []⟩,
  ⟨none, .store 2 (.tmp 2) (.tmp 7), none, []⟩]
def F_config_limits : AFunc := ⟨(.seq (.region F_config_limits.r0) (.seq (.region F_config_limits.r1) .ret)),
  [.inr (2, (some 2))]⟩
/-! armplan/config.small -/
def F_config_small.r0 : List AOper := [
  ⟨(some 2), .mv (.const (.bool false)), none, []⟩]
def F_config_small.r1 : List AOper := [
  ⟨(some 3), .mv (.tmp 0), none, []⟩,
  ⟨(some 4), .call (.func n_slices_ContainsFunc_sl_int64_int64) [(.tmp 3), (.func n_config_small_1)], none, []⟩,
  ⟨(some 5), .un .not (.tmp 4), none, []⟩,
  ⟨(some 2), .mv (.tmp 5), none, []⟩]
def F_config_small : AFunc := ⟨(.seq (.region F_config_small.r0) (.seq (.region F_config_small.r1) .ret)),
  [.inl 2]⟩
/-! armplan/config.all[armplan/api.Joint,armplan/api.Interval] -/
def F_config_all_api_Joint_api_Interval.r0 : List AOper := [
  ⟨(some 6), .mv (.const (.bool false)), none, []⟩]
def F_config_all_api_Joint_api_Interval.r1 : List AOper := [
  ⟨(some 7), .mv (.const (.int .i64 0)), none, []⟩]
def F_config_all_api_Joint_api_Interval.r2 : List AOper := [
  ⟨(some 8), .mv (.tmp 0), none, []⟩,
  ⟨(some 9), .lenO false (.tmp 8), none, []⟩,
  ⟨(some 10), .mv (.tmp 1), none, []⟩,
  ⟨(some 11), .lenO false (.tmp 10), none, []⟩,
  ⟨(some 12), .bin .eql .no (.tmp 9) (.tmp 11), none, []⟩,
  ⟨(some 13), .mv (.tmp 12), none, []⟩,
  ⟨(some 14), .mv (.tmp 7), some ((some 13), true), []⟩,
  ⟨(some 15), .mv (.tmp 0), some ((some 13), true), []⟩,
  ⟨(some 16), .lenO false (.tmp 15), some ((some 13), true), []⟩,
  ⟨(some 17), .bin .lss .no (.tmp 14) (.tmp 16), some ((some 13), true), []⟩,
  ⟨(some 18), .pick (.tmp 13) (.tmp 17) (.const (.bool false)), none, []⟩]
def F_config_all_api_Joint_api_Interval.r3 : List AOper := [
  ⟨(some 21), .mv (.tmp 2), none, []⟩,
  ⟨(some 22), .mv (.tmp 0), none, []⟩,
  ⟨(some 23), .mv (.tmp 7), none, []⟩,
  ⟨(some 24), .idxAddr none 12 (.tmp 22) (.tmp 23), none, []⟩,
  ⟨(some 25), .load (some 12) (.tmp 24), none, []⟩,
  ⟨(some 26), .mv (.tmp 1), none, []⟩,
  ⟨(some 27), .mv (.tmp 7), none, []⟩,
  ⟨(some 28), .idxAddr none 2 (.tmp 26) (.tmp 27), none, []⟩,
  ⟨(some 29), .load (some 2) (.tmp 28), none, []⟩,
  ⟨(some 30), .call (.tmp 21) [(.tmp 25), (.tmp 29)], none, []⟩,
  ⟨(some 31), .un .not (.tmp 30), none, []⟩]
def F_config_all_api_Joint_api_Interval.r4 : List AOper := [
  ⟨(some 6), .mv (.const (.bool false)), none, []⟩]
def F_config_all_api_Joint_api_Interval.r5 : List AOper := [
  ⟨(some 19), .mv (.tmp 7), none, []⟩,
  ⟨(some 20), .bin .add .no (.tmp 19) (.const (.int .i64 1)), none, []⟩,
  ⟨(some 7), .mv (.tmp 20), none, []⟩]
def F_config_all_api_Joint_api_Interval.l0 : ACode := (.seq (.seq (.region F_config_all_api_Joint_api_Interval.r2) (.cond (.tmp 18) .skip (.exit 0))) (.seq (.block 1 (.seq (.dregion F_config_all_api_Joint_api_Interval.r3) (.cond (.tmp 31) (.seq (.region F_config_all_api_Joint_api_Interval.r4) .ret) .skip))) (.region F_config_all_api_Joint_api_Interval.r5)))
def F_config_all_api_Joint_api_Interval.r6 : List AOper := [
  ⟨(some 32), .mv (.tmp 0), none, []⟩,
  ⟨(some 33), .lenO false (.tmp 32), none, []⟩,
  ⟨(some 34), .mv (.tmp 1), none, []⟩,
  ⟨(some 35), .lenO false (.tmp 34), none, []⟩,
  ⟨(some 36), .bin .eql .no (.tmp 33) (.tmp 35), none, []⟩,
  ⟨(some 6), .mv (.tmp 36), none, []⟩]
def F_config_all_api_Joint_api_Interval : AFunc := ⟨(.seq (.region F_config_all_api_Joint_api_Interval.r0) (.seq (.seq (.region F_config_all_api_Joint_api_Interval.r1) (.block 0 (.loop F_config_all_api_Joint_api_Interval.l0))) (.seq (.region F_config_all_api_Joint_api_Interval.r6) .ret))),
  [.inl 6]⟩
/-! armplan/config.InsideBox$1 -/
def F_config_InsideBox_1.r0 : List AOper := [
  ⟨(some 2), .box T_api_Joint (.tmp 0), none, []⟩,
  ⟨(some 3), .box T_api_Interval (.tmp 1), none, []⟩,
  ⟨(some 4), .mv (.const (.bool false)), none, []⟩]
def F_config_InsideBox_1.r1 : List AOper := [
  ⟨(some 5), .load (some 2) (.tmp 3), none, [2]⟩,
  ⟨(some 6), .load (some 12) (.tmp 2), none, []⟩,
  ⟨(some 7), .call (.func n_config_limits) [(.tmp 6)], none, []⟩,
  ⟨(some 8), .call (.func n_interval_Within) [(.tmp 5), (.tmp 7)], none, []⟩,
  ⟨(some 4), .mv (.tmp 8), none, []⟩]
def F_config_InsideBox_1 : AFunc := ⟨(.seq (.region F_config_InsideBox_1.r0) (.seq (.dregion F_config_InsideBox_1.r1) .ret)),
  [.inl 4]⟩
/-! armplan/interval.Within -/
def F_interval_Within.r0 : List AOper := [
  ⟨(some 2), .box T_api_Interval (.tmp 0), none, []⟩,
  ⟨(some 3), .box T_api_Interval (.tmp 1), none, []⟩,
  ⟨(some 4), .mv (.const (.bool false)), none, []⟩]
def F_interval_Within.r1 : List AOper := [
  ⟨(some 5), .load (some 2) (.tmp 2), none, []⟩,
  ⟨(some 6), .load (some 2) (.tmp 3), none, []⟩,
  ⟨(some 7), .call (.func n_interval_both) [(.tmp 5), (.tmp 6)], none, []⟩,
  ⟨(some 8), .mv (.tmp 7), none, []⟩,
  ⟨(some 9), .fieldAddr 0 (.tmp 3), some ((some 8), true), []⟩,
  ⟨(some 10), .load none (.tmp 9), some ((some 8), true), []⟩,
  ⟨(some 11), .fieldAddr 0 (.tmp 2), some ((some 8), true), []⟩,
  ⟨(some 12), .load none (.tmp 11), some ((some 8), true), []⟩,
  ⟨(some 13), .bin .leq .no (.tmp 10) (.tmp 12), some ((some 8), true), []⟩,
  ⟨(some 14), .pick (.tmp 8) (.tmp 13) (.const (.bool false)), none, []⟩,
  ⟨(some 15), .mv (.tmp 14), none, []⟩,
  ⟨(some 16), .fieldAddr 1 (.tmp 2), some ((some 15), true), []⟩,
  ⟨(some 17), .load none (.tmp 16), some ((some 15), true), []⟩,
  ⟨(some 18), .fieldAddr 1 (.tmp 3), some ((some 15), true), []⟩,
  ⟨(some 19), .load none (.tmp 18), some ((some 15), true), []⟩,
  ⟨(some 20), .bin .leq .no (.tmp 17) (.tmp 19), some ((some 15), true), []⟩,
  ⟨(some 21), .pick (.tmp 15) (.tmp 20) (.const (.bool false)), none, []⟩,
  ⟨(some 4), .mv (.tmp 21), none, []⟩]
def F_interval_Within : AFunc := ⟨(.seq (.region F_interval_Within.r0) (.seq (.region F_interval_Within.r1) .ret)),
  [.inl 4]⟩
/-! armplan/kinematics.isBox -/
def F_kinematics_isBox.r0 : List AOper := [
  ⟨(some 2), .box T_api_Robot (.tmp 0), none, []⟩,
  ⟨(some 4), .mv (.const (.bool false)), none, []⟩]
def F_kinematics_isBox.r1 : List AOper := [
  ⟨(some 5), .mv (.tmp 1), none, []⟩,
  ⟨(some 6), .lenO false (.tmp 5), none, []⟩,
  ⟨(some 7), .fieldAddr 0 (.tmp 2), none, []⟩,
  ⟨(some 8), .load none (.tmp 7), none, []⟩,
  ⟨(some 9), .lenO false (.tmp 8), none, []⟩,
  ⟨(some 10), .bin .eql .no (.tmp 6) (.tmp 9), none, []⟩,
  ⟨(some 11), .mv (.tmp 10), none, []⟩,
  ⟨(some 12), .mv (.tmp 1), some ((some 11), true), []⟩,
  ⟨(some 13), .call (.func n_slices_ContainsFunc_sl_api_Interval_api_Interval) [(.tmp 12), (.func n_kinematics_isBox_1)], some ((some 11), true), []⟩,
  ⟨(some 14), .un .not (.tmp 13), some ((some 11), true), []⟩,
  ⟨(some 15), .pick (.tmp 11) (.tmp 14) (.const (.bool false)), none, []⟩,
  ⟨(some 4), .mv (.tmp 15), none, []⟩]
def F_kinematics_isBox : AFunc := ⟨(.seq (.region F_kinematics_isBox.r0) (.seq (.region F_kinematics_isBox.r1) .ret)),
  [.inl 4]⟩
/-! (*armplan/kinematics.tree).add -/
def F_kinematics_tree_add.r0 : List AOper := [
  ⟨(some 5), .mv (.tmp 0), none, []⟩,
  ⟨(some 6), .nilCheck (.tmp 5), none, []⟩,
  ⟨(some 7), .fieldAddr 3 (.tmp 6), none, []⟩,
  ⟨(some 8), .load none (.tmp 7), none, []⟩,
  ⟨(some 9), .lenO false (.tmp 8), none, []⟩,
  ⟨(some 2), .mv (.tmp 9), none, []⟩]
def F_kinematics_tree_add.r1 : List AOper := [
  ⟨(some 10), .mv (.tmp 0), none, []⟩,
  ⟨(some 11), .nilCheck (.tmp 10), none, []⟩,
  ⟨(some 12), .fieldAddr 0 (.tmp 11), none, []⟩,
  ⟨(some 13), .fieldAddr 0 (.tmp 12), none, []⟩,
  ⟨(some 14), .load none (.tmp 13), none, []⟩,
  ⟨(some 15), .mv (.tmp 2), none, []⟩,
  ⟨(some 16), .idxAddr none 12 (.tmp 14) (.tmp 15), none, []⟩,
  ⟨(some 17), .load (some 12) (.tmp 16), none, []⟩,
  ⟨(some 3), .alloc T_api_Joint [(.string (ByteArray.mk #[])), (.int .i64 0), (.int .i64 0), (.int .i64 0), (.int .i64 0), (.int .i64 0), (.int .i64 0), (.int .i64 0), (.int .i64 0), (.int .i64 0), (.int .i64 0), (.int .i64 0)], none, []⟩,
  ⟨none, .store 12 (.tmp 3) (.tmp 17), none, []⟩]
def F_kinematics_tree_add.r2 : List AOper := [
  ⟨(some 18), .load (some 12) (.tmp 3), none, []⟩,
  ⟨(some 19), .mv (.tmp 0), none, []⟩,
  ⟨(some 20), .nilCheck (.tmp 19), none, []⟩,
  ⟨(some 21), .fieldAddr 2 (.tmp 20), none, []⟩,
  ⟨(some 22), .load none (.tmp 21), none, []⟩,
  ⟨(some 23), .mv (.tmp 2), none, []⟩,
  ⟨(some 24), .idxAddr none 2 (.tmp 22) (.tmp 23), none, []⟩,
  ⟨(some 25), .load (some 2) (.tmp 24), none, []⟩,
  ⟨(some 26), .call (.func n_kinematics_Joint) [(.tmp 18), (.tmp 25)], none, []⟩,
  ⟨(some 4), .alloc T_api_Pose [(.int .i64 0), (.int .i64 0), (.int .i64 0), (.int .i64 0), (.int .i64 0), (.int .i64 0), (.int .i64 0), (.int .i64 0), (.int .i64 0), (.int .i64 0), (.int .i64 0), (.int .i64 0), (.int .i64 0), (.int .i64 0), (.int .i64 0), (.int .i64 0), (.int .i64 0), (.int .i64 0), (.int .i64 0), (.int .i64 0), (.int .i64 0), (.int .i64 0), (.int .i64 0), (.int .i64 0)], none, []⟩,
  ⟨none, .store 24 (.tmp 4) (.tmp 26), none, []⟩]
def F_kinematics_tree_add.r3 : List AOper := [
  ⟨(some 27), .fieldAddr 2 (.tmp 3), none, []⟩,
  ⟨(some 28), .load none (.tmp 27), none, []⟩,
  ⟨(some 29), .bin .neq .no (.tmp 28) (.const (.int .i64 (-1))), none, []⟩]
def F_kinematics_tree_add.r4 : List AOper := [
  ⟨(some 30), .mv (.tmp 0), none, []⟩,
  ⟨(some 31), .nilCheck (.tmp 30), none, []⟩,
  ⟨(some 32), .fieldAddr 3 (.tmp 31), none, []⟩,
  ⟨(some 33), .load none (.tmp 32), none, []⟩,
  ⟨(some 34), .fieldAddr 2 (.tmp 3), none, []⟩,
  ⟨(some 35), .load none (.tmp 34), none, []⟩,
  ⟨(some 36), .idxAddr none 24 (.tmp 33) (.tmp 35), none, []⟩,
  ⟨(some 37), .load (some 24) (.tmp 36), none, []⟩,
  ⟨(some 38), .load (some 24) (.tmp 4), none, []⟩,
  ⟨(some 39), .call (.func n_pose_Compose) [(.tmp 37), (.tmp 38)], none, []⟩,
  ⟨none, .store 24 (.tmp 4) (.tmp 39), none, []⟩]
def F_kinematics_tree_add.r5 : List AOper := [
  ⟨(some 40), .mv (.tmp 0), none, []⟩,
  ⟨(some 41), .mv (.tmp 0), none, []⟩,
  ⟨(some 42), .nilCheck (.tmp 41), none, []⟩,
  ⟨(some 43), .fieldAddr 3 (.tmp 42), none, []⟩,
  ⟨(some 44), .load none (.tmp 43), none, []⟩,
  ⟨(some 45), .load (some 24) (.tmp 4), none, []⟩,
  ⟨(some 46), .buildSlice T_api_Pose [(.int .i64 0), (.int .i64 0), (.int .i64 0), (.int .i64 0), (.int .i64 0), (.int .i64 0), (.int .i64 0), (.int .i64 0), (.int .i64 0), (.int .i64 0), (.int .i64 0), (.int .i64 0), (.int .i64 0), (.int .i64 0), (.int .i64 0), (.int .i64 0), (.int .i64 0), (.int .i64 0), (.int .i64 0), (.int .i64 0), (.int .i64 0), (.int .i64 0), (.int .i64 0), (.int .i64 0)] 1 [(0, 24, (.tmp 45))], none, []⟩,
  ⟨(some 47), .append T_api_Pose 24 192 (.tmp 44) (.tmp 46), none, []⟩,
  ⟨(some 48), .nilCheck (.tmp 40), none, []⟩,
  ⟨(some 49), .fieldAddr 3 (.tmp 48), none, []⟩,
  ⟨none, .store 1 (.tmp 49) (.tmp 47), none, []⟩]
def F_kinematics_tree_add : AFunc := ⟨(.seq (.region F_kinematics_tree_add.r0) (.seq (.region F_kinematics_tree_add.r1) (.seq (.dregion F_kinematics_tree_add.r2) (.seq (.seq (.region F_kinematics_tree_add.r3) (.cond (.tmp 29) (.dregion F_kinematics_tree_add.r4) .skip)) (.dregion F_kinematics_tree_add.r5))))),
  []⟩
/-! armplan/pose.motion -/
def F_pose_motion.r0 : List AOper := [
  ⟨(some 1), .box T_api_Pose (.tmp 0), none, []⟩,
  ⟨(some 2), .mv (.const .nilFunc), none, []⟩]
def F_pose_motion.r1 : List AOper := [
  ⟨(some 3), .mkF n_pose_motion_1 [] [(.tmp 1)], none, []⟩,
  ⟨(some 2), .mv (.tmp 3), none, []⟩]
def F_pose_motion : AFunc := ⟨(.seq (.region F_pose_motion.r0) (.seq (.region F_pose_motion.r1) .ret)),
  [.inl 2]⟩
/-! armplan/interval.Of -/
def F_interval_Of.r0 : List AOper := [
  ⟨(some 2), .alloc T_api_Interval [(.int .i64 0), (.int .i64 0)], none, []⟩]
def F_interval_Of.r1 : List AOper := [
  ⟨(some 3), .mv (.tmp 0), none, []⟩,
  ⟨(some 4), .mv (.tmp 0), none, []⟩,
  ⟨(some 5), .call (.func n_interval_limit) [(.tmp 3), (.tmp 4)], none, []⟩,
  ⟨none, .store 2 (.tmp 2) (.tmp 5), none, []⟩]
def F_interval_Of : AFunc := ⟨(.seq (.region F_interval_Of.r0) (.seq (.region F_interval_Of.r1) .ret)),
  [.inr (2, (some 2))]⟩
/-! armplan/robot.isLink -/
def F_robot_isLink.r0 : List AOper := [
  ⟨(some 2), .box T_api_Robot (.tmp 0), none, []⟩,
  ⟨(some 4), .mv (.const (.bool false)), none, []⟩]
def F_robot_isLink.r1 : List AOper := [
  ⟨(some 5), .mv (.tmp 1), none, []⟩,
  ⟨(some 6), .bin .geq .no (.tmp 5) (.const (.int .i64 (-1))), none, []⟩,
  ⟨(some 7), .mv (.tmp 6), none, []⟩,
  ⟨(some 8), .mv (.tmp 1), some ((some 7), true), []⟩,
  ⟨(some 9), .fieldAddr 0 (.tmp 2), some ((some 7), true), []⟩,
  ⟨(some 10), .load none (.tmp 9), some ((some 7), true), []⟩,
  ⟨(some 11), .lenO false (.tmp 10), some ((some 7), true), []⟩,
  ⟨(some 12), .bin .lss .no (.tmp 8) (.tmp 11), some ((some 7), true), []⟩,
  ⟨(some 13), .pick (.tmp 7) (.tmp 12) (.const (.bool false)), none, []⟩,
  ⟨(some 14), .mv (.tmp 13), none, []⟩,
  ⟨(some 15), .load (some 2) (.tmp 2), some ((some 14), true), []⟩,
  ⟨(some 16), .call (.func n_robot_Check) [(.tmp 15)], some ((some 14), true), []⟩,
  ⟨(some 17), .bin .eql .no (.tmp 16) (.const (.int .i64 0)), some ((some 14), true), []⟩,
  ⟨(some 18), .pick (.tmp 14) (.tmp 17) (.const (.bool false)), none, []⟩,
  ⟨(some 4), .mv (.tmp 18), none, []⟩]
def F_robot_isLink : AFunc := ⟨(.seq (.region F_robot_isLink.r0) (.seq (.region F_robot_isLink.r1) .ret)),
  [.inl 4]⟩
/-! math/bits.Mul64 -/
def F_math_bits_Mul64.r0 : List AOper := [
  ⟨(some 4), .mv (.const (.int .u64 0)), none, []⟩,
  ⟨(some 5), .mv (.const (.int .u64 0)), none, []⟩]
def F_math_bits_Mul64.r1 : List AOper := [
  ⟨(some 14), .mv (.tmp 0), none, []⟩,
  ⟨(some 15), .bin .and .no (.tmp 14) (.const (.int .u64 4294967295)), none, []⟩,
  ⟨(some 6), .mv (.tmp 15), none, []⟩]
def F_math_bits_Mul64.r2 : List AOper := [
  ⟨(some 16), .mv (.tmp 0), none, []⟩,
  ⟨(some 17), .bin .shr .no (.tmp 16) (.const (.int .u64 32)), none, []⟩,
  ⟨(some 7), .mv (.tmp 17), none, []⟩]
def F_math_bits_Mul64.r3 : List AOper := [
  ⟨(some 18), .mv (.tmp 1), none, []⟩,
  ⟨(some 19), .bin .and .no (.tmp 18) (.const (.int .u64 4294967295)), none, []⟩,
  ⟨(some 8), .mv (.tmp 19), none, []⟩]
def F_math_bits_Mul64.r4 : List AOper := [
  ⟨(some 20), .mv (.tmp 1), none, []⟩,
  ⟨(some 21), .bin .shr .no (.tmp 20) (.const (.int .u64 32)), none, []⟩,
  ⟨(some 9), .mv (.tmp 21), none, []⟩]
def F_math_bits_Mul64.r5 : List AOper := [
  ⟨(some 22), .mv (.tmp 6), none, []⟩,
  ⟨(some 23), .mv (.tmp 8), none, []⟩,
  ⟨(some 24), .bin .mul .no (.tmp 22) (.tmp 23), none, []⟩,
  ⟨(some 10), .mv (.tmp 24), none, []⟩]
def F_math_bits_Mul64.r6 : List AOper := [
  ⟨(some 25), .mv (.tmp 7), none, []⟩,
  ⟨(some 26), .mv (.tmp 8), none, []⟩,
  ⟨(some 27), .bin .mul .no (.tmp 25) (.tmp 26), none, []⟩,
  ⟨(some 28), .mv (.tmp 10), none, []⟩,
  ⟨(some 29), .bin .shr .no (.tmp 28) (.const (.int .u64 32)), none, []⟩,
  ⟨(some 30), .bin .add .no (.tmp 27) (.tmp 29), none, []⟩,
  ⟨(some 11), .mv (.tmp 30), none, []⟩]
def F_math_bits_Mul64.r7 : List AOper := [
  ⟨(some 31), .mv (.tmp 11), none, []⟩,
  ⟨(some 32), .bin .and .no (.tmp 31) (.const (.int .u64 4294967295)), none, []⟩,
  ⟨(some 12), .mv (.tmp 32), none, []⟩]
def F_math_bits_Mul64.r8 : List AOper := [
  ⟨(some 33), .mv (.tmp 11), none, []⟩,
  ⟨(some 34), .bin .shr .no (.tmp 33) (.const (.int .u64 32)), none, []⟩,
  ⟨(some 13), .mv (.tmp 34), none, []⟩]
def F_math_bits_Mul64.r9 : List AOper := [
  ⟨(some 35), .mv (.tmp 12), none, []⟩,
  ⟨(some 36), .mv (.tmp 6), none, []⟩,
  ⟨(some 37), .mv (.tmp 9), none, []⟩,
  ⟨(some 38), .bin .mul .no (.tmp 36) (.tmp 37), none, []⟩,
  ⟨(some 39), .bin .add .no (.tmp 35) (.tmp 38), none, []⟩,
  ⟨(some 12), .mv (.tmp 39), none, []⟩]
def F_math_bits_Mul64.r10 : List AOper := [
  ⟨(some 40), .mv (.tmp 7), none, []⟩,
  ⟨(some 41), .mv (.tmp 9), none, []⟩,
  ⟨(some 42), .bin .mul .no (.tmp 40) (.tmp 41), none, []⟩,
  ⟨(some 43), .mv (.tmp 13), none, []⟩,
  ⟨(some 44), .bin .add .no (.tmp 42) (.tmp 43), none, []⟩,
  ⟨(some 45), .mv (.tmp 12), none, []⟩,
  ⟨(some 46), .bin .shr .no (.tmp 45) (.const (.int .u64 32)), none, []⟩,
  ⟨(some 47), .bin .add .no (.tmp 44) (.tmp 46), none, []⟩,
  ⟨(some 4), .mv (.tmp 47), none, []⟩]
def F_math_bits_Mul64.r11 : List AOper := [
  ⟨(some 48), .mv (.tmp 0), none, []⟩,
  ⟨(some 49), .mv (.tmp 1), none, []⟩,
  ⟨(some 50), .bin .mul .no (.tmp 48) (.tmp 49), none, []⟩,
  ⟨(some 5), .mv (.tmp 50), none, []⟩]
def F_math_bits_Mul64 : AFunc := ⟨(.seq (.region F_math_bits_Mul64.r0) (.seq (.region F_math_bits_Mul64.r1) (.seq (.region F_math_bits_Mul64.r2) (.seq (.region F_math_bits_Mul64.r3) (.seq (.region F_math_bits_Mul64.r4) (.seq (.region F_math_bits_Mul64.r5) (.seq (.region F_math_bits_Mul64.r6) (.seq (.region F_math_bits_Mul64.r7) (.seq (.region F_math_bits_Mul64.r8) (.seq (.region F_math_bits_Mul64.r9) (.seq (.region F_math_bits_Mul64.r10) (.seq (.region F_math_bits_Mul64.r11) .ret)))))))))))),
  [.inl 4, .inl 5]⟩
/-! armplan/armplanref6.Name -/
def F_armplanref6_Name.r0 : List AOper := [
  ⟨(some 2), .mv (.const (.bool false)), none, []⟩]
def F_armplanref6_Name.r1 : List AOper := [
  ⟨(some 5), .mv (.tmp 0), none, []⟩,
  ⟨(some 6), .lenO true (.tmp 5), none, []⟩,
  ⟨(some 7), .bin .lss .no (.tmp 6) (.const (.int .i64 1)), none, []⟩,
  ⟨(some 8), .mv (.tmp 7), none, []⟩,
  ⟨(some 9), .mv (.tmp 0), some ((some 8), false), []⟩,
  ⟨(some 10), .lenO true (.tmp 9), some ((some 8), false), []⟩,
  ⟨(some 11), .bin .gtr .no (.tmp 10) (.const (.int .i64 16)), some ((some 8), false), []⟩,
  ⟨(some 12), .pick (.tmp 8) (.const (.bool true)) (.tmp 11), none, []⟩,
  ⟨(some 13), .mv (.tmp 12), none, []⟩,
  ⟨(some 14), .mv (.tmp 0), some ((some 13), false), []⟩,
  ⟨(some 15), .bin .eql .no (.tmp 14) (.const (.string (ByteArray.mk #[119, 111, 114, 108, 100]))), some ((some 13), false), []⟩,
  ⟨(some 16), .pick (.tmp 13) (.const (.bool true)) (.tmp 15), none, []⟩]
def F_armplanref6_Name.r2 : List AOper := [
  ⟨(some 2), .mv (.const (.bool false)), none, []⟩]
def F_armplanref6_Name.r3 : List AOper := [
  ⟨(some 3), .mv (.const (.int .i64 0)), none, []⟩]
def F_armplanref6_Name.r4 : List AOper := [
  ⟨(some 17), .mv (.tmp 3), none, []⟩,
  ⟨(some 18), .mv (.tmp 0), none, []⟩,
  ⟨(some 19), .lenO true (.tmp 18), none, []⟩,
  ⟨(some 20), .bin .lss .no (.tmp 17) (.tmp 19), none, []⟩]
def F_armplanref6_Name.r5 : List AOper := [
  ⟨(some 23), .mv (.tmp 0), none, []⟩,
  ⟨(some 24), .mv (.tmp 3), none, []⟩,
  ⟨(some 25), .idxS (.tmp 23) (.tmp 24), none, []⟩,
  ⟨(some 26), .bin .geq .no (.tmp 25) (.const (.int .u8 97)), none, []⟩,
  ⟨(some 27), .mv (.tmp 26), none, []⟩,
  ⟨(some 28), .mv (.tmp 0), some ((some 27), true), []⟩,
  ⟨(some 29), .mv (.tmp 3), some ((some 27), true), []⟩,
  ⟨(some 30), .idxS (.tmp 28) (.tmp 29), some ((some 27), true), []⟩,
  ⟨(some 31), .bin .leq .no (.tmp 30) (.const (.int .u8 122)), some ((some 27), true), []⟩,
  ⟨(some 32), .pick (.tmp 27) (.tmp 31) (.const (.bool false)), none, []⟩,
  ⟨(some 4), .mv (.tmp 32), none, []⟩]
def F_armplanref6_Name.r6 : List AOper := [
  ⟨(some 33), .mv (.tmp 4), none, []⟩,
  ⟨(some 34), .un .not (.tmp 33), none, []⟩,
  ⟨(some 35), .mv (.tmp 34), none, []⟩,
  ⟨(some 36), .mv (.tmp 3), some ((some 35), true), []⟩,
  ⟨(some 37), .bin .eql .no (.tmp 36) (.const (.int .i64 0)), some ((some 35), true), []⟩,
  ⟨(some 38), .mv (.tmp 37), some ((some 35), true), []⟩,
  ⟨(some 39), .mv (.tmp 0), some ((some 38), false), []⟩,
  ⟨(some 40), .mv (.tmp 3), some ((some 38), false), []⟩,
  ⟨(some 41), .idxS (.tmp 39) (.tmp 40), some ((some 38), false), []⟩,
  ⟨(some 42), .bin .neq .no (.tmp 41) (.const (.int .u8 95)), some ((some 38), false), []⟩,
  ⟨(some 43), .mv (.tmp 42), some ((some 38), false), []⟩,
  ⟨(some 44), .mv (.tmp 0), some ((some 43), true), []⟩,
  ⟨(some 45), .mv (.tmp 3), some ((some 43), true), []⟩,
  ⟨(some 46), .idxS (.tmp 44) (.tmp 45), some ((some 43), true), []⟩,
  ⟨(some 47), .bin .lss .no (.tmp 46) (.const (.int .u8 48)), some ((some 43), true), []⟩,
  ⟨(some 48), .mv (.tmp 47), some ((some 43), true), []⟩,
  ⟨(some 49), .mv (.tmp 0), some ((some 48), false), []⟩,
  ⟨(some 50), .mv (.tmp 3), some ((some 48), false), []⟩,
  ⟨(some 51), .idxS (.tmp 49) (.tmp 50), some ((some 48), false), []⟩,
  ⟨(some 52), .bin .gtr .no (.tmp 51) (.const (.int .u8 57)), some ((some 48), false), []⟩,
  ⟨(some 53), .pick (.tmp 48) (.const (.bool true)) (.tmp 52), some ((some 43), true), []⟩,
  ⟨(some 54), .pick (.tmp 43) (.tmp 53) (.const (.bool false)), some ((some 38), false), []⟩,
  ⟨(some 55), .pick (.tmp 38) (.const (.bool true)) (.tmp 54), some ((some 35), true), []⟩,
  ⟨(some 56), .pick (.tmp 35) (.tmp 55) (.const (.bool false)), none, []⟩]
def F_armplanref6_Name.r7 : List AOper := [
  ⟨(some 2), .mv (.const (.bool false)), none, []⟩]
def F_armplanref6_Name.r8 : List AOper := [
  ⟨(some 21), .mv (.tmp 3), none, []⟩,
  ⟨(some 22), .bin .add .no (.tmp 21) (.const (.int .i64 1)), none, []⟩,
  ⟨(some 3), .mv (.tmp 22), none, []⟩]
def F_armplanref6_Name.l0 : ACode := (.seq (.seq (.region F_armplanref6_Name.r4) (.cond (.tmp 20) .skip (.exit 0))) (.seq (.block 1 (.seq (.region F_armplanref6_Name.r5) (.seq (.region F_armplanref6_Name.r6) (.cond (.tmp 56) (.seq (.region F_armplanref6_Name.r7) .ret) .skip)))) (.region F_armplanref6_Name.r8)))
def F_armplanref6_Name.r9 : List AOper := [
  ⟨(some 2), .mv (.const (.bool true)), none, []⟩]
def F_armplanref6_Name : AFunc := ⟨(.seq (.region F_armplanref6_Name.r0) (.seq (.seq (.region F_armplanref6_Name.r1) (.cond (.tmp 16) (.seq (.region F_armplanref6_Name.r2) .ret) .skip)) (.seq (.seq (.region F_armplanref6_Name.r3) (.block 0 (.loop F_armplanref6_Name.l0))) (.seq (.region F_armplanref6_Name.r9) .ret)))),
  [.inl 2]⟩
/-! armplan/armplanref6.reach -/
def F_armplanref6_reach.r0 : List AOper := [
  ⟨(some 2), .mv (.const (.int .i64 0)), none, []⟩]
def F_armplanref6_reach.r1 : List AOper := [
  ⟨(some 3), .mv (.tmp 0), none, []⟩]
def F_armplanref6_reach.r2 : List AOper := [
  ⟨(some 5), .bin .eql .no (.tmp 3) (.const (.int .i64 0)), none, []⟩,
  ⟨(some 4), .mv (.tmp 5), none, []⟩]
def F_armplanref6_reach.r3 : List AOper := [
  ⟨(some 2), .mv (.const (.int .i64 0)), none, []⟩]
def F_armplanref6_reach.r4 : List AOper := [
  ⟨(some 7), .bin .eql .no (.tmp 3) (.const (.int .i64 1)), none, []⟩,
  ⟨(some 6), .mv (.tmp 7), none, []⟩]
def F_armplanref6_reach.r5 : List AOper := [
  ⟨(some 8), .bin .eql .no (.tmp 3) (.const (.int .i64 2)), none, []⟩,
  ⟨(some 6), .mv (.tmp 8), none, []⟩]
def F_armplanref6_reach.r6 : List AOper := [
  ⟨(some 9), .bin .eql .no (.tmp 3) (.const (.int .i64 3)), none, []⟩,
  ⟨(some 6), .mv (.tmp 9), none, []⟩]
def F_armplanref6_reach.r7 : List AOper := [
  ⟨(some 2), .mv (.const (.int .i64 524288)), none, []⟩]
def F_armplanref6_reach.r8 : List AOper := [
  ⟨(some 2), .mv (.const (.int .i64 4194304)), none, []⟩]
def F_armplanref6_reach : AFunc := ⟨(.seq (.region F_armplanref6_reach.r0) (.seq (.seq (.region F_armplanref6_reach.r1) (.block 0 (.seq (.region F_armplanref6_reach.r2) (.cond (.tmp 4) (.seq (.region F_armplanref6_reach.r3) .ret) (.seq (.seq (.region F_armplanref6_reach.r4) (.cond (.tmp 6) .skip (.seq (.region F_armplanref6_reach.r5) (.cond (.tmp 6) .skip (.region F_armplanref6_reach.r6))))) (.cond (.tmp 6) (.seq (.region F_armplanref6_reach.r7) .ret) .skip)))))) (.seq (.region F_armplanref6_reach.r8) .ret))),
  [.inl 2]⟩
/-! armplan/armplanref40.magnitude -/
def F_armplanref40_magnitude.r0 : List AOper := [
  ⟨(some 2), .mv (.const (.int .u64 0)), none, []⟩]
def F_armplanref40_magnitude.r1 : List AOper := [
  ⟨(some 3), .mv (.tmp 0), none, []⟩,
  ⟨(some 4), .bin .lss .no (.tmp 3) (.const (.int .i64 0)), none, []⟩]
def F_armplanref40_magnitude.r2 : List AOper := [
  ⟨(some 5), .mv (.tmp 0), none, []⟩,
  ⟨(some 6), .conv .u64 (.tmp 5), none, []⟩,
  ⟨(some 7), .un .neg (.tmp 6), none, []⟩,
  ⟨(some 2), .mv (.tmp 7), none, []⟩]
def F_armplanref40_magnitude.r3 : List AOper := [
  ⟨(some 8), .mv (.tmp 0), none, []⟩,
  ⟨(some 9), .conv .u64 (.tmp 8), none, []⟩,
  ⟨(some 2), .mv (.tmp 9), none, []⟩]
def F_armplanref40_magnitude : AFunc := ⟨(.seq (.region F_armplanref40_magnitude.r0) (.seq (.seq (.region F_armplanref40_magnitude.r1) (.cond (.tmp 4) (.seq (.region F_armplanref40_magnitude.r2) .ret) .skip)) (.seq (.region F_armplanref40_magnitude.r3) .ret))),
  [.inl 2]⟩
/-! math/bits.Div64 -/
def F_math_bits_Div64.r0 : List AOper := [
  ⟨(some 6), .mv (.const (.int .u64 0)), none, []⟩,
  ⟨(some 7), .mv (.const (.int .u64 0)), none, []⟩]
def F_math_bits_Div64.r1 : List AOper := [
  ⟨(some 19), .mv (.tmp 2), none, []⟩,
  ⟨(some 20), .bin .eql .no (.tmp 19) (.const (.int .u64 0)), none, []⟩]
def F_math_bits_Div64.r2 : List AOper := [
  ⟨(some 22), .mv (.tmp 2), none, []⟩,
  ⟨(some 23), .mv (.tmp 0), none, []⟩,
  ⟨(some 24), .bin .leq .no (.tmp 22) (.tmp 23), none, []⟩]
def F_math_bits_Div64.r3 : List AOper := [
  ⟨(some 26), .mv (.tmp 0), none, []⟩,
  ⟨(some 27), .bin .eql .no (.tmp 26) (.const (.int .u64 0)), none, []⟩]
def F_math_bits_Div64.r4 : List AOper := [
  ⟨(some 28), .mv (.tmp 1), none, []⟩,
  ⟨(some 29), .mv (.tmp 2), none, []⟩,
  ⟨(some 30), .bin .quo .no (.tmp 28) (.tmp 29), none, []⟩,
  ⟨(some 31), .mv (.tmp 1), none, []⟩,
  ⟨(some 32), .mv (.tmp 2), none, []⟩,
  ⟨(some 33), .bin .rem .no (.tmp 31) (.tmp 32), none, []⟩,
  ⟨(some 6), .mv (.tmp 30), none, []⟩,
  ⟨(some 7), .mv (.tmp 33), none, []⟩]
def F_math_bits_Div64.r5 : List AOper := [
  ⟨(some 34), .mv (.tmp 2), none, []⟩,
  ⟨(some 35), .call (.func n_math_bits_LeadingZeros64) [(.tmp 34)], none, []⟩,
  ⟨(some 36), .conv .u64 (.tmp 35), none, []⟩,
  ⟨(some 8), .mv (.tmp 36), none, []⟩]
def F_math_bits_Div64.r6 : List AOper := [
  ⟨(some 37), .mv (.tmp 2), none, []⟩,
  ⟨(some 38), .mv (.tmp 8), none, []⟩,
  ⟨(some 39), .bin .shl .no (.tmp 37) (.tmp 38), none, []⟩,
  ⟨(some 2), .mv (.tmp 39), none, []⟩]
def F_math_bits_Div64.r7 : List AOper := [
  ⟨(some 40), .mv (.tmp 2), none, []⟩,
  ⟨(some 41), .bin .shr .no (.tmp 40) (.const (.int .u64 32)), none, []⟩,
  ⟨(some 9), .mv (.tmp 41), none, []⟩]
def F_math_bits_Div64.r8 : List AOper := [
  ⟨(some 42), .mv (.tmp 2), none, []⟩,
  ⟨(some 43), .bin .and .no (.tmp 42) (.const (.int .u64 4294967295)), none, []⟩,
  ⟨(some 10), .mv (.tmp 43), none, []⟩]
def F_math_bits_Div64.r9 : List AOper := [
  ⟨(some 44), .mv (.tmp 0), none, []⟩,
  ⟨(some 45), .mv (.tmp 8), none, []⟩,
  ⟨(some 46), .bin .shl .no (.tmp 44) (.tmp 45), none, []⟩,
  ⟨(some 47), .mv (.tmp 1), none, []⟩,
  ⟨(some 48), .mv (.tmp 8), none, []⟩,
  ⟨(some 49), .bin .sub .no (.const (.int .u64 64)) (.tmp 48), none, []⟩,
  ⟨(some 50), .bin .shr .no (.tmp 47) (.tmp 49), none, []⟩,
  ⟨(some 51), .bin .or .no (.tmp 46) (.tmp 50), none, []⟩,
  ⟨(some 11), .mv (.tmp 51), none, []⟩]
def F_math_bits_Div64.r10 : List AOper := [
  ⟨(some 52), .mv (.tmp 1), none, []⟩,
  ⟨(some 53), .mv (.tmp 8), none, []⟩,
  ⟨(some 54), .bin .shl .no (.tmp 52) (.tmp 53), none, []⟩,
  ⟨(some 12), .mv (.tmp 54), none, []⟩]
def F_math_bits_Div64.r11 : List AOper := [
  ⟨(some 55), .mv (.tmp 12), none, []⟩,
  ⟨(some 56), .bin .shr .no (.tmp 55) (.const (.int .u64 32)), none, []⟩,
  ⟨(some 13), .mv (.tmp 56), none, []⟩]
def F_math_bits_Div64.r12 : List AOper := [
  ⟨(some 57), .mv (.tmp 12), none, []⟩,
  ⟨(some 58), .bin .and .no (.tmp 57) (.const (.int .u64 4294967295)), none, []⟩,
  ⟨(some 14), .mv (.tmp 58), none, []⟩]
def F_math_bits_Div64.r13 : List AOper := [
  ⟨(some 59), .mv (.tmp 11), none, []⟩,
  ⟨(some 60), .mv (.tmp 9), none, []⟩,
  ⟨(some 61), .bin .quo .no (.tmp 59) (.tmp 60), none, []⟩,
  ⟨(some 15), .mv (.tmp 61), none, []⟩]
def F_math_bits_Div64.r14 : List AOper := [
  ⟨(some 62), .mv (.tmp 11), none, []⟩,
  ⟨(some 63), .mv (.tmp 15), none, []⟩,
  ⟨(some 64), .mv (.tmp 9), none, []⟩,
  ⟨(some 65), .bin .mul .no (.tmp 63) (.tmp 64), none, []⟩,
  ⟨(some 66), .bin .sub .no (.tmp 62) (.tmp 65), none, []⟩,
  ⟨(some 16), .mv (.tmp 66), none, []⟩]
def F_math_bits_Div64.r15 : List AOper := [
  ⟨(some 67), .mv (.tmp 15), none, []⟩,
  ⟨(some 68), .bin .geq .no (.tmp 67) (.const (.int .u64 4294967296)), none, []⟩,
  ⟨(some 69), .mv (.tmp 68), none, []⟩,
  ⟨(some 70), .mv (.tmp 15), some ((some 69), false), []⟩,
  ⟨(some 71), .mv (.tmp 10), some ((some 69), false), []⟩,
  ⟨(some 72), .bin .mul .no (.tmp 70) (.tmp 71), some ((some 69), false), []⟩,
  ⟨(some 73), .mv (.tmp 16), some ((some 69), false), []⟩,
  ⟨(some 74), .bin .mul .no (.const (.int .u64 4294967296)) (.tmp 73), some ((some 69), false), []⟩,
  ⟨(some 75), .mv (.tmp 13), some ((some 69), false), []⟩,
  ⟨(some 76), .bin .add .no (.tmp 74) (.tmp 75), some ((some 69), false), []⟩,
  ⟨(some 77), .bin .gtr .no (.tmp 72) (.tmp 76), some ((some 69), false), []⟩,
  ⟨(some 78), .pick (.tmp 69) (.const (.bool true)) (.tmp 77), none, []⟩]
def F_math_bits_Div64.r16 : List AOper := [
  ⟨(some 79), .mv (.tmp 15), none, []⟩,
  ⟨(some 80), .bin .sub .no (.tmp 79) (.const (.int .u64 1)), none, []⟩,
  ⟨(some 15), .mv (.tmp 80), none, []⟩]
def F_math_bits_Div64.r17 : List AOper := [
  ⟨(some 81), .mv (.tmp 16), none, []⟩,
  ⟨(some 82), .mv (.tmp 9), none, []⟩,
  ⟨(some 83), .bin .add .no (.tmp 81) (.tmp 82), none, []⟩,
  ⟨(some 16), .mv (.tmp 83), none, []⟩]
def F_math_bits_Div64.r18 : List AOper := [
  ⟨(some 84), .mv (.tmp 16), none, []⟩,
  ⟨(some 85), .bin .geq .no (.tmp 84) (.const (.int .u64 4294967296)), none, []⟩]
def F_math_bits_Div64.l0 : ACode := (.seq (.seq (.region F_math_bits_Div64.r15) (.cond (.tmp 78) .skip (.exit 0))) (.block 1 (.seq (.region F_math_bits_Div64.r16) (.seq (.region F_math_bits_Div64.r17) (.seq (.region F_math_bits_Div64.r18) (.cond (.tmp 85) (.exit 0) .skip))))))
def F_math_bits_Div64.r19 : List AOper := [
  ⟨(some 86), .mv (.tmp 11), none, []⟩,
  ⟨(some 87), .bin .mul .no (.tmp 86) (.const (.int .u64 4294967296)), none, []⟩,
  ⟨(some 88), .mv (.tmp 13), none, []⟩,
  ⟨(some 89), .bin .add .no (.tmp 87) (.tmp 88), none, []⟩,
  ⟨(some 90), .mv (.tmp 15), none, []⟩,
  ⟨(some 91), .mv (.tmp 2), none, []⟩,
  ⟨(some 92), .bin .mul .no (.tmp 90) (.tmp 91), none, []⟩,
  ⟨(some 93), .bin .sub .no (.tmp 89) (.tmp 92), none, []⟩,
  ⟨(some 17), .mv (.tmp 93), none, []⟩]
def F_math_bits_Div64.r20 : List AOper := [
  ⟨(some 94), .mv (.tmp 17), none, []⟩,
  ⟨(some 95), .mv (.tmp 9), none, []⟩,
  ⟨(some 96), .bin .quo .no (.tmp 94) (.tmp 95), none, []⟩,
  ⟨(some 18), .mv (.tmp 96), none, []⟩]
def F_math_bits_Div64.r21 : List AOper := [
  ⟨(some 97), .mv (.tmp 17), none, []⟩,
  ⟨(some 98), .mv (.tmp 18), none, []⟩,
  ⟨(some 99), .mv (.tmp 9), none, []⟩,
  ⟨(some 100), .bin .mul .no (.tmp 98) (.tmp 99), none, []⟩,
  ⟨(some 101), .bin .sub .no (.tmp 97) (.tmp 100), none, []⟩,
  ⟨(some 16), .mv (.tmp 101), none, []⟩]
def F_math_bits_Div64.r22 : List AOper := [
  ⟨(some 102), .mv (.tmp 18), none, []⟩,
  ⟨(some 103), .bin .geq .no (.tmp 102) (.const (.int .u64 4294967296)), none, []⟩,
  ⟨(some 104), .mv (.tmp 103), none, []⟩,
  ⟨(some 105), .mv (.tmp 18), some ((some 104), false), []⟩,
  ⟨(some 106), .mv (.tmp 10), some ((some 104), false), []⟩,
  ⟨(some 107), .bin .mul .no (.tmp 105) (.tmp 106), some ((some 104), false), []⟩,
  ⟨(some 108), .mv (.tmp 16), some ((some 104), false), []⟩,
  ⟨(some 109), .bin .mul .no (.const (.int .u64 4294967296)) (.tmp 108), some ((some 104), false), []⟩,
  ⟨(some 110), .mv (.tmp 14), some ((some 104), false), []⟩,
  ⟨(some 111), .bin .add .no (.tmp 109) (.tmp 110), some ((some 104), false), []⟩,
  ⟨(some 112), .bin .gtr .no (.tmp 107) (.tmp 111), some ((some 104), false), []⟩,
  ⟨(some 113), .pick (.tmp 104) (.const (.bool true)) (.tmp 112), none, []⟩]
def F_math_bits_Div64.r23 : List AOper := [
  ⟨(some 114), .mv (.tmp 18), none, []⟩,
  ⟨(some 115), .bin .sub .no (.tmp 114) (.const (.int .u64 1)), none, []⟩,
  ⟨(some 18), .mv (.tmp 115), none, []⟩]
def F_math_bits_Div64.r24 : List AOper := [
  ⟨(some 116), .mv (.tmp 16), none, []⟩,
  ⟨(some 117), .mv (.tmp 9), none, []⟩,
  ⟨(some 118), .bin .add .no (.tmp 116) (.tmp 117), none, []⟩,
  ⟨(some 16), .mv (.tmp 118), none, []⟩]
def F_math_bits_Div64.r25 : List AOper := [
  ⟨(some 119), .mv (.tmp 16), none, []⟩,
  ⟨(some 120), .bin .geq .no (.tmp 119) (.const (.int .u64 4294967296)), none, []⟩]
def F_math_bits_Div64.l1 : ACode := (.seq (.seq (.region F_math_bits_Div64.r22) (.cond (.tmp 113) .skip (.exit 2))) (.block 3 (.seq (.region F_math_bits_Div64.r23) (.seq (.region F_math_bits_Div64.r24) (.seq (.region F_math_bits_Div64.r25) (.cond (.tmp 120) (.exit 2) .skip))))))
def F_math_bits_Div64.r26 : List AOper := [
  ⟨(some 121), .mv (.tmp 15), none, []⟩,
  ⟨(some 122), .bin .mul .no (.tmp 121) (.const (.int .u64 4294967296)), none, []⟩,
  ⟨(some 123), .mv (.tmp 18), none, []⟩,
  ⟨(some 124), .bin .add .no (.tmp 122) (.tmp 123), none, []⟩,
  ⟨(some 125), .mv (.tmp 17), none, []⟩,
  ⟨(some 126), .bin .mul .no (.tmp 125) (.const (.int .u64 4294967296)), none, []⟩,
  ⟨(some 127), .mv (.tmp 14), none, []⟩,
  ⟨(some 128), .bin .add .no (.tmp 126) (.tmp 127), none, []⟩,
  ⟨(some 129), .mv (.tmp 18), none, []⟩,
  ⟨(some 130), .mv (.tmp 2), none, []⟩,
  ⟨(some 131), .bin .mul .no (.tmp 129) (.tmp 130), none, []⟩,
  ⟨(some 132), .bin .sub .no (.tmp 128) (.tmp 131), none, []⟩,
  ⟨(some 133), .mv (.tmp 8), none, []⟩,
  ⟨(some 134), .bin .shr .no (.tmp 132) (.tmp 133), none, []⟩,
  ⟨(some 6), .mv (.tmp 124), none, []⟩,
  ⟨(some 7), .mv (.tmp 134), none, []⟩]
def F_math_bits_Div64 : AFunc := ⟨(.seq (.region F_math_bits_Div64.r0) (.seq (.seq (.region F_math_bits_Div64.r1) (.cond (.tmp 20) .fail .skip)) (.seq (.seq (.region F_math_bits_Div64.r2) (.cond (.tmp 24) .fail .skip)) (.seq (.seq (.region F_math_bits_Div64.r3) (.cond (.tmp 27) (.seq (.dregion F_math_bits_Div64.r4) .ret) .skip)) (.seq (.region F_math_bits_Div64.r5) (.seq (.region F_math_bits_Div64.r6) (.seq (.region F_math_bits_Div64.r7) (.seq (.region F_math_bits_Div64.r8) (.seq (.region F_math_bits_Div64.r9) (.seq (.region F_math_bits_Div64.r10) (.seq (.region F_math_bits_Div64.r11) (.seq (.region F_math_bits_Div64.r12) (.seq (.region F_math_bits_Div64.r13) (.seq (.region F_math_bits_Div64.r14) (.seq (.block 0 (.loop F_math_bits_Div64.l0)) (.seq (.region F_math_bits_Div64.r19) (.seq (.region F_math_bits_Div64.r20) (.seq (.region F_math_bits_Div64.r21) (.seq (.block 2 (.loop F_math_bits_Div64.l1)) (.seq (.region F_math_bits_Div64.r26) .ret)))))))))))))))))))),
  [.inl 6, .inl 7]⟩
/-! armplan/robot.checkJoint -/
def F_robot_checkJoint.r0 : List AOper := [
  ⟨(some 3), .box T_api_Joint (.tmp 1), none, []⟩,
  ⟨(some 4), .mv (.const (.int .i64 0)), none, []⟩]
def F_robot_checkJoint.r1 : List AOper := [
  ⟨(some 6), .fieldAddr 1 (.tmp 3), none, []⟩,
  ⟨(some 7), .load none (.tmp 6), none, []⟩,
  ⟨(some 8), .call (.func n_robot_bound) [(.tmp 7)], none, []⟩,
  ⟨(some 5), .mv (.tmp 8), none, []⟩]
def F_robot_checkJoint.r2 : List AOper := [
  ⟨(some 10), .fieldAddr 0 (.tmp 3), none, []⟩,
  ⟨(some 11), .load none (.tmp 10), none, []⟩,
  ⟨(some 12), .call (.func n_token_Name) [(.tmp 11)], none, []⟩,
  ⟨(some 13), .un .not (.tmp 12), none, []⟩,
  ⟨(some 14), .mv (.tmp 13), none, []⟩,
  ⟨(some 15), .mv (.tmp 0), some ((some 14), false), []⟩,
  ⟨(some 16), .fieldAddr 0 (.tmp 3), some ((some 14), false), []⟩,
  ⟨(some 17), .load none (.tmp 16), some ((some 14), false), []⟩,
  ⟨(some 18), .call (.func n_robot_place) [(.tmp 15), (.tmp 17)], some ((some 14), false), []⟩,
  ⟨(some 19), .bin .geq .no (.tmp 18) (.const (.int .i64 0)), some ((some 14), false), []⟩,
  ⟨(some 20), .pick (.tmp 14) (.const (.bool true)) (.tmp 19), none, []⟩,
  ⟨(some 9), .mv (.tmp 20), none, []⟩]
def F_robot_checkJoint.r3 : List AOper := [
  ⟨(some 4), .mv (.const (.int .i64 802)), none, []⟩]
def F_robot_checkJoint.r4 : List AOper := [
  ⟨(some 22), .fieldAddr 1 (.tmp 3), none, []⟩,
  ⟨(some 23), .load none (.tmp 22), none, []⟩,
  ⟨(some 24), .bin .lss .no (.tmp 23) (.const (.int .i64 0)), none, []⟩,
  ⟨(some 25), .mv (.tmp 24), none, []⟩,
  ⟨(some 26), .fieldAddr 1 (.tmp 3), some ((some 25), false), []⟩,
  ⟨(some 27), .load none (.tmp 26), some ((some 25), false), []⟩,
  ⟨(some 28), .bin .gtr .no (.tmp 27) (.const (.int .i64 6)), some ((some 25), false), []⟩,
  ⟨(some 29), .pick (.tmp 25) (.const (.bool true)) (.tmp 28), none, []⟩,
  ⟨(some 21), .mv (.tmp 29), none, []⟩]
def F_robot_checkJoint.r5 : List AOper := [
  ⟨(some 4), .mv (.const (.int .i64 803)), none, []⟩]
def F_robot_checkJoint.r6 : List AOper := [
  ⟨(some 31), .fieldAddr 2 (.tmp 3), none, []⟩,
  ⟨(some 32), .load none (.tmp 31), none, []⟩,
  ⟨(some 33), .bin .lss .no (.tmp 32) (.const (.int .i64 (-1))), none, []⟩,
  ⟨(some 34), .mv (.tmp 33), none, []⟩,
  ⟨(some 35), .fieldAddr 2 (.tmp 3), some ((some 34), false), []⟩,
  ⟨(some 36), .load none (.tmp 35), some ((some 34), false), []⟩,
  ⟨(some 37), .mv (.tmp 0), some ((some 34), false), []⟩,
  ⟨(some 38), .lenO false (.tmp 37), some ((some 34), false), []⟩,
  ⟨(some 39), .bin .geq .no (.tmp 36) (.tmp 38), some ((some 34), false), []⟩,
  ⟨(some 40), .pick (.tmp 34) (.const (.bool true)) (.tmp 39), none, []⟩,
  ⟨(some 30), .mv (.tmp 40), none, []⟩]
def F_robot_checkJoint.r7 : List AOper := [
  ⟨(some 4), .mv (.const (.int .i64 804)), none, []⟩]
def F_robot_checkJoint.r8 : List AOper := [
  ⟨(some 42), .fieldAddr 3 (.tmp 3), none, []⟩,
  ⟨(some 43), .load (some 3) (.tmp 42), none, []⟩,
  ⟨(some 44), .call (.func n_robot_long) [(.tmp 43)], none, []⟩,
  ⟨(some 41), .mv (.tmp 44), none, []⟩]
def F_robot_checkJoint.r9 : List AOper := [
  ⟨(some 4), .mv (.const (.int .i64 805)), none, []⟩]
def F_robot_checkJoint.r10 : List AOper := [
  ⟨(some 46), .fieldAddr 6 (.tmp 3), none, []⟩,
  ⟨(some 47), .load none (.tmp 46), none, []⟩,
  ⟨(some 48), .fieldAddr 7 (.tmp 3), none, []⟩,
  ⟨(some 49), .load none (.tmp 48), none, []⟩,
  ⟨(some 50), .bin .gtr .no (.tmp 47) (.tmp 49), none, []⟩,
  ⟨(some 51), .mv (.tmp 50), none, []⟩,
  ⟨(some 52), .fieldAddr 6 (.tmp 3), some ((some 51), false), []⟩,
  ⟨(some 53), .load none (.tmp 52), some ((some 51), false), []⟩,
  ⟨(some 54), .mv (.tmp 5), some ((some 51), false), []⟩,
  ⟨(some 55), .un .neg (.tmp 54), some ((some 51), false), []⟩,
  ⟨(some 56), .bin .lss .no (.tmp 53) (.tmp 55), some ((some 51), false), []⟩,
  ⟨(some 57), .pick (.tmp 51) (.const (.bool true)) (.tmp 56), none, []⟩,
  ⟨(some 58), .mv (.tmp 57), none, []⟩,
  ⟨(some 59), .fieldAddr 7 (.tmp 3), some ((some 58), false), []⟩,
  ⟨(some 60), .load none (.tmp 59), some ((some 58), false), []⟩,
  ⟨(some 61), .mv (.tmp 5), some ((some 58), false), []⟩,
  ⟨(some 62), .bin .gtr .no (.tmp 60) (.tmp 61), some ((some 58), false), []⟩,
  ⟨(some 63), .pick (.tmp 58) (.const (.bool true)) (.tmp 62), none, []⟩,
  ⟨(some 45), .mv (.tmp 63), none, []⟩]
def F_robot_checkJoint.r11 : List AOper := [
  ⟨(some 4), .mv (.const (.int .i64 806)), none, []⟩]
def F_robot_checkJoint.r12 : List AOper := [
  ⟨(some 65), .fieldAddr 8 (.tmp 3), none, []⟩,
  ⟨(some 66), .load none (.tmp 65), none, []⟩,
  ⟨(some 67), .call (.func n_robot_between) [(.const (.int .i64 1)), (.tmp 66), (.const (.int .i64 1024))], none, []⟩,
  ⟨(some 68), .un .not (.tmp 67), none, []⟩,
  ⟨(some 69), .mv (.tmp 68), none, []⟩,
  ⟨(some 70), .fieldAddr 9 (.tmp 3), some ((some 69), false), []⟩,
  ⟨(some 71), .load none (.tmp 70), some ((some 69), false), []⟩,
  ⟨(some 72), .call (.func n_robot_between) [(.const (.int .i64 1)), (.tmp 71), (.const (.int .i64 1048576))], some ((some 69), false), []⟩,
  ⟨(some 73), .un .not (.tmp 72), some ((some 69), false), []⟩,
  ⟨(some 74), .pick (.tmp 69) (.const (.bool true)) (.tmp 73), none, []⟩,
  ⟨(some 75), .mv (.tmp 74), none, []⟩,
  ⟨(some 76), .fieldAddr 10 (.tmp 3), some ((some 75), false), []⟩,
  ⟨(some 77), .load none (.tmp 76), some ((some 75), false), []⟩,
  ⟨(some 78), .call (.func n_robot_between) [(.const (.int .i64 1)), (.tmp 77), (.const (.int .i64 1048576))], some ((some 75), false), []⟩,
  ⟨(some 79), .un .not (.tmp 78), some ((some 75), false), []⟩,
  ⟨(some 80), .pick (.tmp 75) (.const (.bool true)) (.tmp 79), none, []⟩,
  ⟨(some 81), .mv (.tmp 80), none, []⟩,
  ⟨(some 82), .fieldAddr 11 (.tmp 3), some ((some 81), false), []⟩,
  ⟨(some 83), .load none (.tmp 82), some ((some 81), false), []⟩,
  ⟨(some 84), .call (.func n_robot_between) [(.const (.int .i64 1)), (.tmp 83), (.const (.int .i64 1099511627776))], some ((some 81), false), []⟩,
  ⟨(some 85), .un .not (.tmp 84), some ((some 81), false), []⟩,
  ⟨(some 86), .pick (.tmp 81) (.const (.bool true)) (.tmp 85), none, []⟩,
  ⟨(some 64), .mv (.tmp 86), none, []⟩]
def F_robot_checkJoint.r13 : List AOper := [
  ⟨(some 4), .mv (.const (.int .i64 807)), none, []⟩]
def F_robot_checkJoint.r14 : List AOper := [
  ⟨(some 4), .mv (.const (.int .i64 0)), none, []⟩]
def F_robot_checkJoint : AFunc := ⟨(.seq (.region F_robot_checkJoint.r0) (.seq (.seq (.region F_robot_checkJoint.r1) (.block 0 (.seq (.region F_robot_checkJoint.r2) (.cond (.tmp 9) (.seq (.region F_robot_checkJoint.r3) .ret) (.seq (.region F_robot_checkJoint.r4) (.cond (.tmp 21) (.seq (.region F_robot_checkJoint.r5) .ret) (.seq (.region F_robot_checkJoint.r6) (.cond (.tmp 30) (.seq (.region F_robot_checkJoint.r7) .ret) (.seq (.region F_robot_checkJoint.r8) (.cond (.tmp 41) (.seq (.region F_robot_checkJoint.r9) .ret) (.seq (.region F_robot_checkJoint.r10) (.cond (.tmp 45) (.seq (.region F_robot_checkJoint.r11) .ret) (.seq (.region F_robot_checkJoint.r12) (.cond (.tmp 64) (.seq (.region F_robot_checkJoint.r13) .ret) .skip)))))))))))))) (.seq (.region F_robot_checkJoint.r14) .ret))),
  [.inl 4]⟩
/-! armplan/robot.between -/
def F_robot_between.r0 : List AOper := [
  ⟨(some 6), .mv (.const (.bool false)), none, []⟩]
def F_robot_between.r1 : List AOper := [
  ⟨(some 7), .mv (.tmp 0), none, []⟩,
  ⟨(some 8), .mv (.tmp 1), none, []⟩,
  ⟨(some 9), .bin .leq .no (.tmp 7) (.tmp 8), none, []⟩,
  ⟨(some 10), .mv (.tmp 9), none, []⟩,
  ⟨(some 11), .mv (.tmp 1), some ((some 10), true), []⟩,
  ⟨(some 12), .mv (.tmp 2), some ((some 10), true), []⟩,
  ⟨(some 13), .bin .leq .no (.tmp 11) (.tmp 12), some ((some 10), true), []⟩,
  ⟨(some 14), .pick (.tmp 10) (.tmp 13) (.const (.bool false)), none, []⟩,
  ⟨(some 6), .mv (.tmp 14), none, []⟩]
def F_robot_between : AFunc := ⟨(.seq (.region F_robot_between.r0) (.seq (.region F_robot_between.r1) .ret)),
  [.inl 6]⟩
/-! armplan/robot.long -/
def F_robot_long.r0 : List AOper := [
  ⟨(some 1), .box T_api_Vec (.tmp 0), none, []⟩,
  ⟨(some 2), .mv (.const (.bool false)), none, []⟩]
def F_robot_long.r1 : List AOper := [
  ⟨(some 5), .load (some 3) (.tmp 1), none, []⟩,
  ⟨(some 6), .mv (.const (.int .i64 0)), none, []⟩]
def F_robot_long.r2 : List AOper := [
  ⟨(some 7), .bin .lss .no (.tmp 6) (.const (.int .i64 3)), none, []⟩]
def F_robot_long.r3 : List AOper := [
  ⟨(some 8), .idx 3 1 none (.tmp 5) (.tmp 6), none, []⟩,
  ⟨(some 4), .mv (.tmp 8), none, []⟩]
def F_robot_long.r4 : List AOper := [
  ⟨(some 9), .mv (.tmp 4), none, []⟩,
  ⟨(some 10), .bin .lss .no (.tmp 9) (.const (.int .i64 (-4194304))), none, []⟩,
  ⟨(some 11), .mv (.tmp 10), none, []⟩,
  ⟨(some 12), .mv (.tmp 4), some ((some 11), false), []⟩,
  ⟨(some 13), .bin .gtr .no (.tmp 12) (.const (.int .i64 4194304)), some ((some 11), false), []⟩,
  ⟨(some 14), .pick (.tmp 11) (.const (.bool true)) (.tmp 13), none, []⟩]
def F_robot_long.r5 : List AOper := [
  ⟨(some 2), .mv (.const (.bool true)), none, []⟩]
def F_robot_long.r6 : List AOper := [
  ⟨(some 15), .bin .add .no (.tmp 6) (.const (.int .i64 1)), none, []⟩,
  ⟨(some 6), .mv (.tmp 15), none, []⟩]
def F_robot_long.l0 : ACode := (.seq (.region F_robot_long.r2) (.seq (.cond (.tmp 7) .skip (.exit 0)) (.seq (.block 1 (.seq (.region F_robot_long.r3) (.seq (.region F_robot_long.r4) (.cond (.tmp 14) (.seq (.region F_robot_long.r5) .ret) .skip)))) (.region F_robot_long.r6))))
def F_robot_long.r7 : List AOper := [
  ⟨(some 2), .mv (.const (.bool false)), none, []⟩]
def F_robot_long : AFunc := ⟨(.seq (.region F_robot_long.r0) (.seq (.seq (.region F_robot_long.r1) (.block 0 (.loop F_robot_long.l0))) (.seq (.region F_robot_long.r7) .ret))),
  [.inl 2]⟩
/-! armplan/interval.Valid -/
def F_interval_Valid.r0 : List AOper := [
  ⟨(some 1), .box T_api_Interval (.tmp 0), none, []⟩,
  ⟨(some 2), .mv (.const (.bool false)), none, []⟩]
def F_interval_Valid.r1 : List AOper := [
  ⟨(some 3), .fieldAddr 0 (.tmp 1), none, []⟩,
  ⟨(some 4), .load none (.tmp 3), none, []⟩,
  ⟨(some 5), .bin .geq .no (.tmp 4) (.const (.int .i64 (-2147483648))), none, []⟩,
  ⟨(some 6), .mv (.tmp 5), none, []⟩,
  ⟨(some 7), .fieldAddr 0 (.tmp 1), some ((some 6), true), []⟩,
  ⟨(some 8), .load none (.tmp 7), some ((some 6), true), []⟩,
  ⟨(some 9), .fieldAddr 1 (.tmp 1), some ((some 6), true), []⟩,
  ⟨(some 10), .load none (.tmp 9), some ((some 6), true), []⟩,
  ⟨(some 11), .bin .leq .no (.tmp 8) (.tmp 10), some ((some 6), true), []⟩,
  ⟨(some 12), .pick (.tmp 6) (.tmp 11) (.const (.bool false)), none, []⟩,
  ⟨(some 13), .mv (.tmp 12), none, []⟩,
  ⟨(some 14), .fieldAddr 1 (.tmp 1), some ((some 13), true), []⟩,
  ⟨(some 15), .load none (.tmp 14), some ((some 13), true), []⟩,
  ⟨(some 16), .bin .leq .no (.tmp 15) (.const (.int .i64 2147483648)), some ((some 13), true), []⟩,
  ⟨(some 17), .pick (.tmp 13) (.tmp 16) (.const (.bool false)), none, []⟩,
  ⟨(some 2), .mv (.tmp 17), none, []⟩]
def F_interval_Valid : AFunc := ⟨(.seq (.region F_interval_Valid.r0) (.seq (.region F_interval_Valid.r1) .ret)),
  [.inl 2]⟩
/-! slices.ContainsFunc[[]int64,int64] -/
def F_slices_ContainsFunc_sl_int64_int64.r0 : List AOper := [
  ⟨(some 4), .mv (.const (.bool false)), none, []⟩]
def F_slices_ContainsFunc_sl_int64_int64.r1 : List AOper := [
  ⟨(some 5), .mv (.tmp 0), none, []⟩,
  ⟨(some 6), .mv (.tmp 1), none, []⟩,
  ⟨(some 7), .call (.func n_slices_IndexFunc_sl_int64_int64) [(.tmp 5), (.tmp 6)], none, []⟩,
  ⟨(some 8), .bin .geq .no (.tmp 7) (.const (.int .i64 0)), none, []⟩,
  ⟨(some 4), .mv (.tmp 8), none, []⟩]
def F_slices_ContainsFunc_sl_int64_int64 : AFunc := ⟨(.seq (.region F_slices_ContainsFunc_sl_int64_int64.r0) (.seq (.region F_slices_ContainsFunc_sl_int64_int64.r1) .ret)),
  [.inl 4]⟩
/-! armplan/config.small$1 -/
def F_config_small_1.r0 : List AOper := [
  ⟨(some 2), .mv (.const (.bool false)), none, []⟩]
def F_config_small_1.r1 : List AOper := [
  ⟨(some 3), .mv (.tmp 0), none, []⟩,
  ⟨(some 4), .bin .lss .no (.tmp 3) (.const (.int .i64 (-2147483648))), none, []⟩,
  ⟨(some 5), .mv (.tmp 4), none, []⟩,
  ⟨(some 6), .mv (.tmp 0), some ((some 5), false), []⟩,
  ⟨(some 7), .bin .gtr .no (.tmp 6) (.const (.int .i64 2147483648)), some ((some 5), false), []⟩,
  ⟨(some 8), .pick (.tmp 5) (.const (.bool true)) (.tmp 7), none, []⟩,
  ⟨(some 2), .mv (.tmp 8), none, []⟩]
def F_config_small_1 : AFunc := ⟨(.seq (.region F_config_small_1.r0) (.seq (.region F_config_small_1.r1) .ret)),
  [.inl 2]⟩
/-! armplan/interval.both -/
def F_interval_both.r0 : List AOper := [
  ⟨(some 2), .box T_api_Interval (.tmp 0), none, []⟩,
  ⟨(some 3), .box T_api_Interval (.tmp 1), none, []⟩,
  ⟨(some 4), .mv (.const (.bool false)), none, []⟩]
def F_interval_both.r1 : List AOper := [
  ⟨(some 5), .load (some 2) (.tmp 2), none, []⟩,
  ⟨(some 6), .call (.func n_interval_Valid) [(.tmp 5)], none, []⟩,
  ⟨(some 7), .mv (.tmp 6), none, []⟩,
  ⟨(some 8), .load (some 2) (.tmp 3), some ((some 7), true), []⟩,
  ⟨(some 9), .call (.func n_interval_Valid) [(.tmp 8)], some ((some 7), true), []⟩,
  ⟨(some 10), .pick (.tmp 7) (.tmp 9) (.const (.bool false)), none, []⟩,
  ⟨(some 4), .mv (.tmp 10), none, []⟩]
def F_interval_both : AFunc := ⟨(.seq (.region F_interval_both.r0) (.seq (.region F_interval_both.r1) .ret)),
  [.inl 4]⟩
/-! slices.ContainsFunc[[]armplan/api.Interval,armplan/api.Interval] -/
def F_slices_ContainsFunc_sl_api_Interval_api_Interval.r0 : List AOper := [
  ⟨(some 4), .mv (.const (.bool false)), none, []⟩]
def F_slices_ContainsFunc_sl_api_Interval_api_Interval.r1 : List AOper := [
  ⟨(some 5), .mv (.tmp 0), none, []⟩,
  ⟨(some 6), .mv (.tmp 1), none, []⟩,
  ⟨(some 7), .call (.func n_slices_IndexFunc_sl_api_Interval_api_Interval) [(.tmp 5), (.tmp 6)], none, []⟩,
  ⟨(some 8), .bin .geq .no (.tmp 7) (.const (.int .i64 0)), none, []⟩,
  ⟨(some 4), .mv (.tmp 8), none, []⟩]
def F_slices_ContainsFunc_sl_api_Interval_api_Interval : AFunc := ⟨(.seq (.region F_slices_ContainsFunc_sl_api_Interval_api_Interval.r0) (.seq (.region F_slices_ContainsFunc_sl_api_Interval_api_Interval.r1) .ret)),
  [.inl 4]⟩
/-! armplan/kinematics.isBox$1 -/
def F_kinematics_isBox_1.r0 : List AOper := [
  ⟨(some 1), .box T_api_Interval (.tmp 0), none, []⟩,
  ⟨(some 2), .mv (.const (.bool false)), none, []⟩]
def F_kinematics_isBox_1.r1 : List AOper := [
  ⟨(some 3), .load (some 2) (.tmp 1), none, []⟩,
  ⟨(some 4), .call (.func n_interval_Valid) [(.tmp 3)], none, []⟩,
  ⟨(some 5), .un .not (.tmp 4), none, []⟩,
  ⟨(some 2), .mv (.tmp 5), none, []⟩]
def F_kinematics_isBox_1 : AFunc := ⟨(.seq (.region F_kinematics_isBox_1.r0) (.seq (.region F_kinematics_isBox_1.r1) .ret)),
  [.inl 2]⟩
/-! armplan/kinematics.Joint -/
def F_kinematics_Joint.r0 : List AOper := [
  ⟨(some 2), .box T_api_Joint (.tmp 0), none, []⟩,
  ⟨(some 3), .box T_api_Interval (.tmp 1), none, []⟩,
  ⟨(some 4), .alloc T_api_Pose [(.int .i64 0), (.int .i64 0), (.int .i64 0), (.int .i64 0), (.int .i64 0), (.int .i64 0), (.int .i64 0), (.int .i64 0), (.int .i64 0), (.int .i64 0), (.int .i64 0), (.int .i64 0), (.int .i64 0), (.int .i64 0), (.int .i64 0), (.int .i64 0), (.int .i64 0), (.int .i64 0), (.int .i64 0), (.int .i64 0), (.int .i64 0), (.int .i64 0), (.int .i64 0), (.int .i64 0)], none, []⟩]
def F_kinematics_Joint.r1 : List AOper := [
  ⟨(some 6), .fieldAddr 1 (.tmp 2), none, []⟩,
  ⟨(some 7), .load none (.tmp 6), none, []⟩,
  ⟨(some 8), .call (.func n_kinematics_motionOf) [(.tmp 7)], none, []⟩,
  ⟨(some 5), .alloc T_kinematics_motion [(.int .i64 0), .nilFunc], none, []⟩,
  ⟨none, .store 2 (.tmp 5) (.tmp 8), none, []⟩]
def F_kinematics_Joint.r2 : List AOper := [
  ⟨(some 9), .fieldAddr 3 (.tmp 2), none, []⟩,
  ⟨(some 10), .load (some 3) (.tmp 9), none, []⟩,
  ⟨(some 11), .call (.func n_matrix_Point) [(.tmp 10)], none, []⟩,
  ⟨(some 12), .call (.func n_pose_Shift) [(.tmp 11)], none, []⟩,
  ⟨(some 13), .fieldAddr 1 (.tmp 5), none, []⟩,
  ⟨(some 14), .load none (.tmp 13), none, [2, 3]⟩,
  ⟨(some 15), .fieldAddr 0 (.tmp 5), none, []⟩,
  ⟨(some 16), .load none (.tmp 15), none, [2, 3]⟩,
  ⟨(some 17), .load (some 2) (.tmp 3), none, [2, 3]⟩,
  ⟨(some 18), .call (.tmp 14) [(.tmp 16), (.tmp 17)], none, []⟩,
  ⟨(some 19), .call (.func n_pose_Compose) [(.tmp 12), (.tmp 18)], none, []⟩,
  ⟨none, .store 24 (.tmp 4) (.tmp 19), none, []⟩]
def F_kinematics_Joint : AFunc := ⟨(.seq (.region F_kinematics_Joint.r0) (.seq (.region F_kinematics_Joint.r1) (.seq (.dregion F_kinematics_Joint.r2) .ret))),
  [.inr (4, (some 24))]⟩
/-! armplan/pose.Compose -/
def F_pose_Compose.r0 : List AOper := [
  ⟨(some 2), .box T_api_Pose (.tmp 0), none, []⟩,
  ⟨(some 3), .box T_api_Pose (.tmp 1), none, []⟩,
  ⟨(some 4), .alloc T_api_Pose [(.int .i64 0), (.int .i64 0), (.int .i64 0), (.int .i64 0), (.int .i64 0), (.int .i64 0), (.int .i64 0), (.int .i64 0), (.int .i64 0), (.int .i64 0), (.int .i64 0), (.int .i64 0), (.int .i64 0), (.int .i64 0), (.int .i64 0), (.int .i64 0), (.int .i64 0), (.int .i64 0), (.int .i64 0), (.int .i64 0), (.int .i64 0), (.int .i64 0), (.int .i64 0), (.int .i64 0)], none, []⟩]
def F_pose_Compose.r1 : List AOper := [
  ⟨(some 6), .load (some 24) (.tmp 2), none, []⟩,
  ⟨(some 7), .call (.func n_pose_motion) [(.tmp 6)], none, []⟩,
  ⟨(some 5), .mv (.tmp 7), none, []⟩]
def F_pose_Compose.r2 : List AOper := [
  ⟨(some 8), .fieldAddr 0 (.tmp 2), none, []⟩,
  ⟨(some 9), .load (some 18) (.tmp 8), none, []⟩,
  ⟨(some 10), .fieldAddr 0 (.tmp 3), none, []⟩,
  ⟨(some 11), .load (some 18) (.tmp 10), none, []⟩,
  ⟨(some 12), .call (.func n_matrix_Compose) [(.tmp 9), (.tmp 11)], none, []⟩,
  ⟨(some 13), .mv (.tmp 5), none, []⟩,
  ⟨(some 14), .fieldAddr 18 (.tmp 3), none, []⟩,
  ⟨(some 15), .load (some 6) (.tmp 14), none, [4]⟩,
  ⟨(some 16), .call (.tmp 13) [(.tmp 15)], none, []⟩,
  ⟨(some 17), .build [(.int .i64 0), (.int .i64 0), (.int .i64 0), (.int .i64 0), (.int .i64 0), (.int .i64 0), (.int .i64 0), (.int .i64 0), (.int .i64 0), (.int .i64 0), (.int .i64 0), (.int .i64 0), (.int .i64 0), (.int .i64 0), (.int .i64 0), (.int .i64 0), (.int .i64 0), (.int .i64 0), (.int .i64 0), (.int .i64 0), (.int .i64 0), (.int .i64 0), (.int .i64 0), (.int .i64 0)] [(0, 18, (.tmp 12)), (18, 6, (.tmp 16))], none, []⟩,
  ⟨none, .store 24 (.tmp 4) (.tmp 17), none, []⟩]
def F_pose_Compose : AFunc := ⟨(.seq (.region F_pose_Compose.r0) (.seq (.region F_pose_Compose.r1) (.seq (.dregion F_pose_Compose.r2) .ret))),
  [.inr (4, (some 24))]⟩
/-! armplan/pose.motion$1 -/
def F_pose_motion_1.r0 : List AOper := [
  ⟨(some 2), .box T_api_IVec (.tmp 0), none, []⟩,
  ⟨(some 3), .alloc T_api_IVec [(.int .i64 0), (.int .i64 0), (.int .i64 0), (.int .i64 0), (.int .i64 0), (.int .i64 0)], none, []⟩]
def F_pose_motion_1.r1 : List AOper := [
  ⟨(some 4), .fieldAddr 18 (.tmp 1), none, []⟩,
  ⟨(some 5), .load (some 6) (.tmp 4), none, [5]⟩,
  ⟨(some 6), .fieldAddr 0 (.tmp 1), none, []⟩,
  ⟨(some 7), .load (some 18) (.tmp 6), none, []⟩,
  ⟨(some 8), .load (some 6) (.tmp 2), none, []⟩,
  ⟨(some 9), .call (.func n_matrix_Apply) [(.tmp 7), (.tmp 8)], none, []⟩,
  ⟨(some 10), .call (.func n_matrix_Add) [(.tmp 5), (.tmp 9)], none, []⟩,
  ⟨none, .store 6 (.tmp 3) (.tmp 10), none, []⟩]
def F_pose_motion_1 : AFunc := ⟨(.seq (.region F_pose_motion_1.r0) (.seq (.dregion F_pose_motion_1.r1) .ret)),
  [.inr (3, (some 6))]⟩
/-! armplan/matrix.Add -/
def F_matrix_Add.r0 : List AOper := [
  ⟨(some 2), .box T_api_IVec (.tmp 0), none, []⟩,
  ⟨(some 3), .box T_api_IVec (.tmp 1), none, []⟩,
  ⟨(some 4), .alloc T_api_IVec [(.int .i64 0), (.int .i64 0), (.int .i64 0), (.int .i64 0), (.int .i64 0), (.int .i64 0)], none, []⟩]
def F_matrix_Add.r1 : List AOper := [
  ⟨(some 6), .mv (.const (.int .i64 0)), none, []⟩]
def F_matrix_Add.r2 : List AOper := [
  ⟨(some 7), .bin .lss .no (.tmp 6) (.const (.int .i64 3)), none, []⟩]
def F_matrix_Add.r3 : List AOper := [
  ⟨(some 8), .mv (.tmp 6), none, []⟩,
  ⟨(some 5), .mv (.tmp 8), none, []⟩]
def F_matrix_Add.r4 : List AOper := [
  ⟨(some 9), .mv (.tmp 5), none, []⟩,
  ⟨(some 10), .mv (.tmp 5), none, []⟩,
  ⟨(some 11), .idxAddr (some 3) 2 (.tmp 2) (.tmp 10), none, []⟩,
  ⟨(some 12), .load (some 2) (.tmp 11), none, []⟩,
  ⟨(some 13), .mv (.tmp 5), none, []⟩,
  ⟨(some 14), .idxAddr (some 3) 2 (.tmp 3) (.tmp 13), none, []⟩,
  ⟨(some 15), .load (some 2) (.tmp 14), none, []⟩,
  ⟨(some 16), .call (.func n_interval_Add) [(.tmp 12), (.tmp 15)], none, []⟩,
  ⟨(some 17), .idxAddr (some 3) 2 (.tmp 2) (.tmp 9), none, []⟩,
  ⟨none, .store 2 (.tmp 17) (.tmp 16), none, []⟩]
def F_matrix_Add.r5 : List AOper := [
  ⟨(some 18), .bin .add .no (.tmp 6) (.const (.int .i64 1)), none, []⟩,
  ⟨(some 6), .mv (.tmp 18), none, []⟩]
def F_matrix_Add.l0 : ACode := (.seq (.region F_matrix_Add.r2) (.seq (.cond (.tmp 7) .skip (.exit 0)) (.seq (.block 1 (.seq (.region F_matrix_Add.r3) (.dregion F_matrix_Add.r4))) (.region F_matrix_Add.r5))))
def F_matrix_Add.r6 : List AOper := [
  ⟨(some 19), .load (some 6) (.tmp 2), none, []⟩,
  ⟨none, .store 6 (.tmp 4) (.tmp 19), none, []⟩]
def F_matrix_Add : AFunc := ⟨(.seq (.region F_matrix_Add.r0) (.seq (.seq (.region F_matrix_Add.r1) (.block 0 (.loop F_matrix_Add.l0))) (.seq (.region F_matrix_Add.r6) .ret))),
  [.inr (4, (some 6))]⟩
/-! armplan/matrix.Apply -/
def F_matrix_Apply.r0 : List AOper := [
  ⟨(some 2), .box T_api_IMat (.tmp 0), none, []⟩,
  ⟨(some 3), .box T_api_IVec (.tmp 1), none, []⟩,
  ⟨(some 4), .alloc T_api_IVec [(.int .i64 0), (.int .i64 0), (.int .i64 0), (.int .i64 0), (.int .i64 0), (.int .i64 0)], none, []⟩]
def F_matrix_Apply.r1 : List AOper := [
  ⟨(some 5), .alloc T_api_IVec [(.int .i64 0), (.int .i64 0), (.int .i64 0), (.int .i64 0), (.int .i64 0), (.int .i64 0)], none, []⟩]
def F_matrix_Apply.r2 : List AOper := [
  ⟨(some 7), .mv (.const (.int .i64 0)), none, []⟩]
def F_matrix_Apply.r3 : List AOper := [
  ⟨(some 8), .bin .lss .no (.tmp 7) (.const (.int .i64 3)), none, []⟩]
def F_matrix_Apply.r4 : List AOper := [
  ⟨(some 9), .mv (.tmp 7), none, []⟩,
  ⟨(some 6), .mv (.tmp 9), none, []⟩]
def F_matrix_Apply.r5 : List AOper := [
  ⟨(some 10), .mv (.tmp 6), none, []⟩,
  ⟨(some 11), .mv (.tmp 6), none, []⟩,
  ⟨(some 12), .idxAddr (some 3) 6 (.tmp 2) (.tmp 11), none, []⟩,
  ⟨(some 13), .load (some 6) (.tmp 12), none, []⟩,
  ⟨(some 14), .load (some 6) (.tmp 3), none, []⟩,
  ⟨(some 15), .call (.func n_matrix_sum) [(.tmp 13), (.tmp 14)], none, []⟩,
  ⟨(some 16), .idxAddr (some 3) 2 (.tmp 5) (.tmp 10), none, []⟩,
  ⟨none, .store 2 (.tmp 16) (.tmp 15), none, []⟩]
def F_matrix_Apply.r6 : List AOper := [
  ⟨(some 17), .bin .add .no (.tmp 7) (.const (.int .i64 1)), none, []⟩,
  ⟨(some 7), .mv (.tmp 17), none, []⟩]
def F_matrix_Apply.l0 : ACode := (.seq (.region F_matrix_Apply.r3) (.seq (.cond (.tmp 8) .skip (.exit 0)) (.seq (.block 1 (.seq (.region F_matrix_Apply.r4) (.dregion F_matrix_Apply.r5))) (.region F_matrix_Apply.r6))))
def F_matrix_Apply.r7 : List AOper := [
  ⟨(some 18), .load (some 6) (.tmp 5), none, []⟩,
  ⟨none, .store 6 (.tmp 4) (.tmp 18), none, []⟩]
def F_matrix_Apply : AFunc := ⟨(.seq (.region F_matrix_Apply.r0) (.seq (.region F_matrix_Apply.r1) (.seq (.seq (.region F_matrix_Apply.r2) (.block 0 (.loop F_matrix_Apply.l0))) (.seq (.region F_matrix_Apply.r7) .ret)))),
  [.inr (4, (some 6))]⟩
/-! armplan/interval.limit -/
def F_interval_limit.r0 : List AOper := [
  ⟨(some 4), .alloc T_api_Interval [(.int .i64 0), (.int .i64 0)], none, []⟩]
def F_interval_limit.r1 : List AOper := [
  ⟨(some 5), .mv (.tmp 0), none, []⟩,
  ⟨(some 6), .call (.func n_fixed_Clamp) [(.tmp 5)], none, []⟩,
  ⟨(some 7), .mv (.tmp 1), none, []⟩,
  ⟨(some 8), .call (.func n_fixed_Clamp) [(.tmp 7)], none, []⟩,
  ⟨(some 9), .build [(.int .i64 0), (.int .i64 0)] [(0, 1, (.tmp 6)), (1, 1, (.tmp 8))], none, []⟩,
  ⟨none, .store 2 (.tmp 4) (.tmp 9), none, []⟩]
def F_interval_limit : AFunc := ⟨(.seq (.region F_interval_limit.r0) (.seq (.region F_interval_limit.r1) .ret)),
  [.inr (4, (some 2))]⟩
/-! math/bits.LeadingZeros64 -/
def F_math_bits_LeadingZeros64.r0 : List AOper := [
  ⟨(some 2), .mv (.const (.int .i64 0)), none, []⟩]
def F_math_bits_LeadingZeros64.r1 : List AOper := [
  ⟨(some 3), .mv (.tmp 0), none, []⟩,
  ⟨(some 4), .call (.func n_math_bits_Len64) [(.tmp 3)], none, []⟩,
  ⟨(some 5), .bin .sub .no (.const (.int .i64 64)) (.tmp 4), none, []⟩,
  ⟨(some 2), .mv (.tmp 5), none, []⟩]
def F_math_bits_LeadingZeros64 : AFunc := ⟨(.seq (.region F_math_bits_LeadingZeros64.r0) (.seq (.region F_math_bits_LeadingZeros64.r1) .ret)),
  [.inl 2]⟩
/-! armplan/robot.bound -/
def F_robot_bound.r0 : List AOper := [
  ⟨(some 2), .mv (.const (.int .i64 0)), none, []⟩]
def F_robot_bound.r1 : List AOper := [
  ⟨(some 3), .mv (.tmp 0), none, []⟩]
def F_robot_bound.r2 : List AOper := [
  ⟨(some 5), .bin .eql .no (.tmp 3) (.const (.int .i64 0)), none, []⟩,
  ⟨(some 4), .mv (.tmp 5), none, []⟩]
def F_robot_bound.r3 : List AOper := [
  ⟨(some 2), .mv (.const (.int .i64 0)), none, []⟩]
def F_robot_bound.r4 : List AOper := [
  ⟨(some 7), .bin .eql .no (.tmp 3) (.const (.int .i64 1)), none, []⟩,
  ⟨(some 6), .mv (.tmp 7), none, []⟩]
def F_robot_bound.r5 : List AOper := [
  ⟨(some 8), .bin .eql .no (.tmp 3) (.const (.int .i64 2)), none, []⟩,
  ⟨(some 6), .mv (.tmp 8), none, []⟩]
def F_robot_bound.r6 : List AOper := [
  ⟨(some 9), .bin .eql .no (.tmp 3) (.const (.int .i64 3)), none, []⟩,
  ⟨(some 6), .mv (.tmp 9), none, []⟩]
def F_robot_bound.r7 : List AOper := [
  ⟨(some 2), .mv (.const (.int .i64 524288)), none, []⟩]
def F_robot_bound.r8 : List AOper := [
  ⟨(some 2), .mv (.const (.int .i64 4194304)), none, []⟩]
def F_robot_bound : AFunc := ⟨(.seq (.region F_robot_bound.r0) (.seq (.seq (.region F_robot_bound.r1) (.block 0 (.seq (.region F_robot_bound.r2) (.cond (.tmp 4) (.seq (.region F_robot_bound.r3) .ret) (.seq (.seq (.region F_robot_bound.r4) (.cond (.tmp 6) .skip (.seq (.region F_robot_bound.r5) (.cond (.tmp 6) .skip (.region F_robot_bound.r6))))) (.cond (.tmp 6) (.seq (.region F_robot_bound.r7) .ret) .skip)))))) (.seq (.region F_robot_bound.r8) .ret))),
  [.inl 2]⟩
/-! armplan/token.Name -/
def F_token_Name.r0 : List AOper := [
  ⟨(some 2), .mv (.const (.bool false)), none, []⟩]
def F_token_Name.r1 : List AOper := [
  ⟨(some 10), .ext (.tmp 8) 1, none, []⟩,
  ⟨(some 11), .ext (.tmp 8) 2, none, []⟩,
  ⟨(some 3), .mv (.tmp 10), none, []⟩,
  ⟨(some 4), .mv (.tmp 11), none, []⟩]
def F_token_Name.r2 : List AOper := [
  ⟨(some 12), .mv (.tmp 4), none, []⟩,
  ⟨(some 13), .bin .geq .no (.tmp 12) (.const (.int .i32 97)), none, []⟩,
  ⟨(some 14), .mv (.tmp 13), none, []⟩,
  ⟨(some 15), .mv (.tmp 4), some ((some 14), true), []⟩,
  ⟨(some 16), .bin .leq .no (.tmp 15) (.const (.int .i32 122)), some ((some 14), true), []⟩,
  ⟨(some 17), .pick (.tmp 14) (.tmp 16) (.const (.bool false)), none, []⟩,
  ⟨(some 5), .mv (.tmp 17), none, []⟩]
def F_token_Name.r3 : List AOper := [
  ⟨(some 18), .mv (.tmp 5), none, []⟩,
  ⟨(some 19), .un .not (.tmp 18), none, []⟩,
  ⟨(some 20), .mv (.tmp 19), none, []⟩,
  ⟨(some 21), .mv (.tmp 3), some ((some 20), true), []⟩,
  ⟨(some 22), .bin .eql .no (.tmp 21) (.const (.int .i64 0)), some ((some 20), true), []⟩,
  ⟨(some 23), .mv (.tmp 22), some ((some 20), true), []⟩,
  ⟨(some 24), .mv (.tmp 4), some ((some 23), false), []⟩,
  ⟨(some 25), .bin .neq .no (.tmp 24) (.const (.int .i32 95)), some ((some 23), false), []⟩,
  ⟨(some 26), .mv (.tmp 25), some ((some 23), false), []⟩,
  ⟨(some 27), .mv (.tmp 4), some ((some 26), true), []⟩,
  ⟨(some 28), .bin .lss .no (.tmp 27) (.const (.int .i32 48)), some ((some 26), true), []⟩,
  ⟨(some 29), .mv (.tmp 28), some ((some 26), true), []⟩,
  ⟨(some 30), .mv (.tmp 4), some ((some 29), false), []⟩,
  ⟨(some 31), .bin .gtr .no (.tmp 30) (.const (.int .i32 57)), some ((some 29), false), []⟩,
  ⟨(some 32), .pick (.tmp 29) (.const (.bool true)) (.tmp 31), some ((some 26), true), []⟩,
  ⟨(some 33), .pick (.tmp 26) (.tmp 32) (.const (.bool false)), some ((some 23), false), []⟩,
  ⟨(some 34), .pick (.tmp 23) (.const (.bool true)) (.tmp 33), some ((some 20), true), []⟩,
  ⟨(some 35), .pick (.tmp 20) (.tmp 34) (.const (.bool false)), none, []⟩]
def F_token_Name.r4 : List AOper := [
  ⟨(some 2), .mv (.const (.bool false)), none, []⟩]
def F_token_Name.r5 : List AOper := [
  ⟨(some 6), .mv (.tmp 0), none, []⟩]
def F_token_Name.r6 : List AOper := [
  ⟨(some 9), .ext (.tmp 8) 0, none, []⟩]
def F_token_Name.l0 : ACode := (.seq (.cond (.tmp 9) .skip (.exit 0)) (.block 1 (.seq (.region F_token_Name.r1) (.seq (.region F_token_Name.r2) (.seq (.region F_token_Name.r3) (.cond (.tmp 35) (.seq (.region F_token_Name.r4) .ret) .skip))))))
def F_token_Name.r7 : List AOper := [
  ⟨(some 36), .mv (.tmp 0), none, []⟩,
  ⟨(some 37), .lenO true (.tmp 36), none, []⟩,
  ⟨(some 38), .bin .geq .no (.tmp 37) (.const (.int .i64 1)), none, []⟩,
  ⟨(some 39), .mv (.tmp 38), none, []⟩,
  ⟨(some 40), .mv (.tmp 0), some ((some 39), true), []⟩,
  ⟨(some 41), .lenO true (.tmp 40), some ((some 39), true), []⟩,
  ⟨(some 42), .bin .leq .no (.tmp 41) (.const (.int .i64 16)), some ((some 39), true), []⟩,
  ⟨(some 43), .pick (.tmp 39) (.tmp 42) (.const (.bool false)), none, []⟩,
  ⟨(some 44), .mv (.tmp 43), none, []⟩,
  ⟨(some 45), .mv (.tmp 0), some ((some 44), true), []⟩,
  ⟨(some 46), .bin .neq .no (.tmp 45) (.const (.string (ByteArray.mk #[119, 111, 114, 108, 100]))), some ((some 44), true), []⟩,
  ⟨(some 47), .pick (.tmp 44) (.tmp 46) (.const (.bool false)), none, []⟩,
  ⟨(some 2), .mv (.tmp 47), none, []⟩]
def F_token_Name : AFunc := ⟨(.seq (.region F_token_Name.r0) (.seq (.strRange F_token_Name.r5 (.tmp 6) 7 8 0 F_token_Name.r6 F_token_Name.l0) (.seq (.region F_token_Name.r7) .ret))),
  [.inl 2]⟩
/-! armplan/robot.place -/
def F_robot_place.r0 : List AOper := [
  ⟨(some 3), .box T_string (.tmp 1), none, []⟩,
  ⟨(some 4), .mv (.const (.int .i64 0)), none, []⟩]
def F_robot_place.r1 : List AOper := [
  ⟨(some 5), .mv (.tmp 0), none, []⟩,
  ⟨(some 6), .mkF n_robot_place_1 [] [(.tmp 3)], none, []⟩,
  ⟨(some 7), .call (.func n_slices_IndexFunc_sl_api_Joint_api_Joint) [(.tmp 5), (.tmp 6)], none, []⟩,
  ⟨(some 4), .mv (.tmp 7), none, []⟩]
def F_robot_place : AFunc := ⟨(.seq (.region F_robot_place.r0) (.seq (.region F_robot_place.r1) .ret)),
  [.inl 4]⟩
/-! slices.IndexFunc[[]int64,int64] -/
def F_slices_IndexFunc_sl_int64_int64.r0 : List AOper := [
  ⟨(some 4), .mv (.const (.int .i64 0)), none, []⟩]
def F_slices_IndexFunc_sl_int64_int64.r1 : List AOper := [
  ⟨(some 6), .mv (.tmp 0), none, []⟩,
  ⟨(some 7), .lenO false (.tmp 6), none, []⟩,
  ⟨(some 8), .mv (.const (.int .i64 0)), none, []⟩]
def F_slices_IndexFunc_sl_int64_int64.r2 : List AOper := [
  ⟨(some 9), .bin .lss .no (.tmp 8) (.tmp 7), none, []⟩]
def F_slices_IndexFunc_sl_int64_int64.r3 : List AOper := [
  ⟨(some 10), .mv (.tmp 8), none, []⟩,
  ⟨(some 5), .mv (.tmp 10), none, []⟩]
def F_slices_IndexFunc_sl_int64_int64.r4 : List AOper := [
  ⟨(some 11), .mv (.tmp 1), none, []⟩,
  ⟨(some 12), .mv (.tmp 0), none, []⟩,
  ⟨(some 13), .mv (.tmp 5), none, []⟩,
  ⟨(some 14), .idxAddr none 1 (.tmp 12) (.tmp 13), none, []⟩,
  ⟨(some 15), .load none (.tmp 14), none, []⟩,
  ⟨(some 16), .call (.tmp 11) [(.tmp 15)], none, []⟩]
def F_slices_IndexFunc_sl_int64_int64.r5 : List AOper := [
  ⟨(some 17), .mv (.tmp 5), none, []⟩,
  ⟨(some 4), .mv (.tmp 17), none, []⟩]
def F_slices_IndexFunc_sl_int64_int64.r6 : List AOper := [
  ⟨(some 18), .bin .add .no (.tmp 8) (.const (.int .i64 1)), none, []⟩,
  ⟨(some 8), .mv (.tmp 18), none, []⟩]
def F_slices_IndexFunc_sl_int64_int64.l0 : ACode := (.seq (.region F_slices_IndexFunc_sl_int64_int64.r2) (.seq (.cond (.tmp 9) .skip (.exit 0)) (.seq (.block 1 (.seq (.region F_slices_IndexFunc_sl_int64_int64.r3) (.seq (.region F_slices_IndexFunc_sl_int64_int64.r4) (.cond (.tmp 16) (.seq (.region F_slices_IndexFunc_sl_int64_int64.r5) .ret) .skip)))) (.region F_slices_IndexFunc_sl_int64_int64.r6))))
def F_slices_IndexFunc_sl_int64_int64.r7 : List AOper := [
  ⟨(some 4), .mv (.const (.int .i64 (-1))), none, []⟩]
def F_slices_IndexFunc_sl_int64_int64 : AFunc := ⟨(.seq (.region F_slices_IndexFunc_sl_int64_int64.r0) (.seq (.seq (.region F_slices_IndexFunc_sl_int64_int64.r1) (.block 0 (.loop F_slices_IndexFunc_sl_int64_int64.l0))) (.seq (.region F_slices_IndexFunc_sl_int64_int64.r7) .ret))),
  [.inl 4]⟩
/-! slices.IndexFunc[[]armplan/api.Interval,armplan/api.Interval] -/
def F_slices_IndexFunc_sl_api_Interval_api_Interval.r0 : List AOper := [
  ⟨(some 4), .mv (.const (.int .i64 0)), none, []⟩]
def F_slices_IndexFunc_sl_api_Interval_api_Interval.r1 : List AOper := [
  ⟨(some 6), .mv (.tmp 0), none, []⟩,
  ⟨(some 7), .lenO false (.tmp 6), none, []⟩,
  ⟨(some 8), .mv (.const (.int .i64 0)), none, []⟩]
def F_slices_IndexFunc_sl_api_Interval_api_Interval.r2 : List AOper := [
  ⟨(some 9), .bin .lss .no (.tmp 8) (.tmp 7), none, []⟩]
def F_slices_IndexFunc_sl_api_Interval_api_Interval.r3 : List AOper := [
  ⟨(some 10), .mv (.tmp 8), none, []⟩,
  ⟨(some 5), .mv (.tmp 10), none, []⟩]
def F_slices_IndexFunc_sl_api_Interval_api_Interval.r4 : List AOper := [
  ⟨(some 11), .mv (.tmp 1), none, []⟩,
  ⟨(some 12), .mv (.tmp 0), none, []⟩,
  ⟨(some 13), .mv (.tmp 5), none, []⟩,
  ⟨(some 14), .idxAddr none 2 (.tmp 12) (.tmp 13), none, []⟩,
  ⟨(some 15), .load (some 2) (.tmp 14), none, []⟩,
  ⟨(some 16), .call (.tmp 11) [(.tmp 15)], none, []⟩]
def F_slices_IndexFunc_sl_api_Interval_api_Interval.r5 : List AOper := [
  ⟨(some 17), .mv (.tmp 5), none, []⟩,
  ⟨(some 4), .mv (.tmp 17), none, []⟩]
def F_slices_IndexFunc_sl_api_Interval_api_Interval.r6 : List AOper := [
  ⟨(some 18), .bin .add .no (.tmp 8) (.const (.int .i64 1)), none, []⟩,
  ⟨(some 8), .mv (.tmp 18), none, []⟩]
def F_slices_IndexFunc_sl_api_Interval_api_Interval.l0 : ACode := (.seq (.region F_slices_IndexFunc_sl_api_Interval_api_Interval.r2) (.seq (.cond (.tmp 9) .skip (.exit 0)) (.seq (.block 1 (.seq (.region F_slices_IndexFunc_sl_api_Interval_api_Interval.r3) (.seq (.region F_slices_IndexFunc_sl_api_Interval_api_Interval.r4) (.cond (.tmp 16) (.seq (.region F_slices_IndexFunc_sl_api_Interval_api_Interval.r5) .ret) .skip)))) (.region F_slices_IndexFunc_sl_api_Interval_api_Interval.r6))))
def F_slices_IndexFunc_sl_api_Interval_api_Interval.r7 : List AOper := [
  ⟨(some 4), .mv (.const (.int .i64 (-1))), none, []⟩]
def F_slices_IndexFunc_sl_api_Interval_api_Interval : AFunc := ⟨(.seq (.region F_slices_IndexFunc_sl_api_Interval_api_Interval.r0) (.seq (.seq (.region F_slices_IndexFunc_sl_api_Interval_api_Interval.r1) (.block 0 (.loop F_slices_IndexFunc_sl_api_Interval_api_Interval.l0))) (.seq (.region F_slices_IndexFunc_sl_api_Interval_api_Interval.r7) .ret))),
  [.inl 4]⟩
/-! armplan/kinematics.motionOf -/
def F_kinematics_motionOf.r0 : List AOper := [
  ⟨(some 2), .alloc T_kinematics_motion [(.int .i64 0), .nilFunc], none, []⟩]
def F_kinematics_motionOf.r1 : List AOper := [
  ⟨(some 3), .mv (.tmp 0), none, []⟩]
def F_kinematics_motionOf.r2 : List AOper := [
  ⟨(some 5), .bin .eql .no (.tmp 3) (.const (.int .i64 1)), none, []⟩,
  ⟨(some 4), .mv (.tmp 5), none, []⟩]
def F_kinematics_motionOf.r3 : List AOper := [
  ⟨(some 6), .bin .eql .no (.tmp 3) (.const (.int .i64 2)), none, []⟩,
  ⟨(some 4), .mv (.tmp 6), none, []⟩]
def F_kinematics_motionOf.r4 : List AOper := [
  ⟨(some 7), .bin .eql .no (.tmp 3) (.const (.int .i64 3)), none, []⟩,
  ⟨(some 4), .mv (.tmp 7), none, []⟩]
def F_kinematics_motionOf.r5 : List AOper := [
  ⟨(some 8), .mv (.tmp 0), none, []⟩,
  ⟨(some 9), .bin .sub .no (.tmp 8) (.const (.int .i64 1)), none, []⟩,
  ⟨(some 10), .build [(.int .i64 0), .nilFunc] [(0, 1, (.tmp 9)), (1, 1, (.func n_pose_Turn))], none, []⟩,
  ⟨none, .store 2 (.tmp 2) (.tmp 10), none, []⟩]
def F_kinematics_motionOf.r6 : List AOper := [
  ⟨(some 12), .bin .eql .no (.tmp 3) (.const (.int .i64 4)), none, []⟩,
  ⟨(some 11), .mv (.tmp 12), none, []⟩]
def F_kinematics_motionOf.r7 : List AOper := [
  ⟨(some 13), .bin .eql .no (.tmp 3) (.const (.int .i64 5)), none, []⟩,
  ⟨(some 11), .mv (.tmp 13), none, []⟩]
def F_kinematics_motionOf.r8 : List AOper := [
  ⟨(some 14), .bin .eql .no (.tmp 3) (.const (.int .i64 6)), none, []⟩,
  ⟨(some 11), .mv (.tmp 14), none, []⟩]
def F_kinematics_motionOf.r9 : List AOper := [
  ⟨(some 15), .mv (.tmp 0), none, []⟩,
  ⟨(some 16), .bin .sub .no (.tmp 15) (.const (.int .i64 4)), none, []⟩,
  ⟨(some 17), .build [(.int .i64 0), .nilFunc] [(0, 1, (.tmp 16)), (1, 1, (.func n_kinematics_slide))], none, []⟩,
  ⟨none, .store 2 (.tmp 2) (.tmp 17), none, []⟩]
def F_kinematics_motionOf.r10 : List AOper := [
  ⟨(some 18), .build [(.int .i64 0), .nilFunc] [(0, 1, (.const (.int .i64 0))), (1, 1, (.func n_kinematics_rest))], none, []⟩,
  ⟨none, .store 2 (.tmp 2) (.tmp 18), none, []⟩]
def F_kinematics_motionOf : AFunc := ⟨(.seq (.region F_kinematics_motionOf.r0) (.seq (.seq (.region F_kinematics_motionOf.r1) (.block 0 (.seq (.seq (.region F_kinematics_motionOf.r2) (.cond (.tmp 4) .skip (.seq (.region F_kinematics_motionOf.r3) (.cond (.tmp 4) .skip (.region F_kinematics_motionOf.r4))))) (.cond (.tmp 4) (.seq (.region F_kinematics_motionOf.r5) .ret) (.seq (.seq (.region F_kinematics_motionOf.r6) (.cond (.tmp 11) .skip (.seq (.region F_kinematics_motionOf.r7) (.cond (.tmp 11) .skip (.region F_kinematics_motionOf.r8))))) (.cond (.tmp 11) (.seq (.region F_kinematics_motionOf.r9) .ret) .skip)))))) (.seq (.region F_kinematics_motionOf.r10) .ret))),
  [.inr (2, (some 2))]⟩
/-! armplan/pose.Shift -/
def F_pose_Shift.r0 : List AOper := [
  ⟨(some 1), .box T_api_IVec (.tmp 0), none, []⟩,
  ⟨(some 2), .alloc T_api_Pose [(.int .i64 0), (.int .i64 0), (.int .i64 0), (.int .i64 0), (.int .i64 0), (.int .i64 0), (.int .i64 0), (.int .i64 0), (.int .i64 0), (.int .i64 0), (.int .i64 0), (.int .i64 0), (.int .i64 0), (.int .i64 0), (.int .i64 0), (.int .i64 0), (.int .i64 0), (.int .i64 0), (.int .i64 0), (.int .i64 0), (.int .i64 0), (.int .i64 0), (.int .i64 0), (.int .i64 0)], none, []⟩]
def F_pose_Shift.r1 : List AOper := [
  ⟨(some 3), .call (.func n_matrix_Identity) [], none, []⟩,
  ⟨(some 4), .load (some 6) (.tmp 1), none, [0]⟩,
  ⟨(some 5), .build [(.int .i64 0), (.int .i64 0), (.int .i64 0), (.int .i64 0), (.int .i64 0), (.int .i64 0), (.int .i64 0), (.int .i64 0), (.int .i64 0), (.int .i64 0), (.int .i64 0), (.int .i64 0), (.int .i64 0), (.int .i64 0), (.int .i64 0), (.int .i64 0), (.int .i64 0), (.int .i64 0), (.int .i64 0), (.int .i64 0), (.int .i64 0), (.int .i64 0), (.int .i64 0), (.int .i64 0)] [(0, 18, (.tmp 3)), (18, 6, (.tmp 4))], none, []⟩,
  ⟨none, .store 24 (.tmp 2) (.tmp 5), none, []⟩]
def F_pose_Shift : AFunc := ⟨(.seq (.region F_pose_Shift.r0) (.seq (.dregion F_pose_Shift.r1) .ret)),
  [.inr (2, (some 24))]⟩
/-! armplan/matrix.Compose -/
def F_matrix_Compose.r0 : List AOper := [
  ⟨(some 2), .box T_api_IMat (.tmp 0), none, []⟩,
  ⟨(some 3), .box T_api_IMat (.tmp 1), none, []⟩,
  ⟨(some 4), .alloc T_api_IMat [(.int .i64 0), (.int .i64 0), (.int .i64 0), (.int .i64 0), (.int .i64 0), (.int .i64 0), (.int .i64 0), (.int .i64 0), (.int .i64 0), (.int .i64 0), (.int .i64 0), (.int .i64 0), (.int .i64 0), (.int .i64 0), (.int .i64 0), (.int .i64 0), (.int .i64 0), (.int .i64 0)], none, []⟩]
def F_matrix_Compose.r1 : List AOper := [
  ⟨(some 9), .load (some 18) (.tmp 3), none, []⟩,
  ⟨(some 10), .call (.func n_matrix_Transpose) [(.tmp 9)], none, []⟩,
  ⟨(some 5), .alloc T_api_IMat [(.int .i64 0), (.int .i64 0), (.int .i64 0), (.int .i64 0), (.int .i64 0), (.int .i64 0), (.int .i64 0), (.int .i64 0), (.int .i64 0), (.int .i64 0), (.int .i64 0), (.int .i64 0), (.int .i64 0), (.int .i64 0), (.int .i64 0), (.int .i64 0), (.int .i64 0), (.int .i64 0)], none, []⟩,
  ⟨none, .store 18 (.tmp 5) (.tmp 10), none, []⟩]
def F_matrix_Compose.r2 : List AOper := [
  ⟨(some 6), .alloc T_api_IMat [(.int .i64 0), (.int .i64 0), (.int .i64 0), (.int .i64 0), (.int .i64 0), (.int .i64 0), (.int .i64 0), (.int .i64 0), (.int .i64 0), (.int .i64 0), (.int .i64 0), (.int .i64 0), (.int .i64 0), (.int .i64 0), (.int .i64 0), (.int .i64 0), (.int .i64 0), (.int .i64 0)], none, []⟩]
def F_matrix_Compose.r3 : List AOper := [
  ⟨(some 11), .mv (.const (.int .i64 0)), none, []⟩]
def F_matrix_Compose.r4 : List AOper := [
  ⟨(some 12), .bin .lss .no (.tmp 11) (.const (.int .i64 3)), none, []⟩]
def F_matrix_Compose.r5 : List AOper := [
  ⟨(some 13), .mv (.tmp 11), none, []⟩,
  ⟨(some 7), .mv (.tmp 13), none, []⟩]
def F_matrix_Compose.r6 : List AOper := [
  ⟨(some 14), .mv (.const (.int .i64 0)), none, []⟩]
def F_matrix_Compose.r7 : List AOper := [
  ⟨(some 15), .bin .lss .no (.tmp 14) (.const (.int .i64 3)), none, []⟩]
def F_matrix_Compose.r8 : List AOper := [
  ⟨(some 16), .mv (.tmp 14), none, []⟩,
  ⟨(some 8), .mv (.tmp 16), none, []⟩]
def F_matrix_Compose.r9 : List AOper := [
  ⟨(some 17), .mv (.tmp 7), none, []⟩,
  ⟨(some 18), .mv (.tmp 8), none, []⟩,
  ⟨(some 19), .mv (.tmp 7), none, []⟩,
  ⟨(some 20), .idxAddr (some 3) 6 (.tmp 2) (.tmp 19), none, []⟩,
  ⟨(some 21), .load (some 6) (.tmp 20), none, []⟩,
  ⟨(some 22), .mv (.tmp 8), none, []⟩,
  ⟨(some 23), .idxAddr (some 3) 6 (.tmp 5) (.tmp 22), none, []⟩,
  ⟨(some 24), .load (some 6) (.tmp 23), none, []⟩,
  ⟨(some 25), .call (.func n_matrix_sum) [(.tmp 21), (.tmp 24)], none, []⟩,
  ⟨(some 26), .call (.func n_matrix_limit) [(.tmp 25)], none, []⟩,
  ⟨(some 27), .idxAddr (some 3) 6 (.tmp 6) (.tmp 17), none, []⟩,
  ⟨(some 28), .idxAddr (some 3) 2 (.tmp 27) (.tmp 18), none, []⟩,
  ⟨none, .store 2 (.tmp 28) (.tmp 26), none, []⟩]
def F_matrix_Compose.r10 : List AOper := [
  ⟨(some 29), .bin .add .no (.tmp 14) (.const (.int .i64 1)), none, []⟩,
  ⟨(some 14), .mv (.tmp 29), none, []⟩]
def F_matrix_Compose.l0 : ACode := (.seq (.region F_matrix_Compose.r7) (.seq (.cond (.tmp 15) .skip (.exit 2)) (.seq (.block 3 (.seq (.region F_matrix_Compose.r8) (.dregion F_matrix_Compose.r9))) (.region F_matrix_Compose.r10))))
def F_matrix_Compose.r11 : List AOper := [
  ⟨(some 30), .bin .add .no (.tmp 11) (.const (.int .i64 1)), none, []⟩,
  ⟨(some 11), .mv (.tmp 30), none, []⟩]
def F_matrix_Compose.l1 : ACode := (.seq (.region F_matrix_Compose.r4) (.seq (.cond (.tmp 12) .skip (.exit 0)) (.seq (.block 1 (.seq (.region F_matrix_Compose.r5) (.seq (.region F_matrix_Compose.r6) (.block 2 (.loop F_matrix_Compose.l0))))) (.region F_matrix_Compose.r11))))
def F_matrix_Compose.r12 : List AOper := [
  ⟨(some 31), .load (some 18) (.tmp 6), none, []⟩,
  ⟨none, .store 18 (.tmp 4) (.tmp 31), none, []⟩]
def F_matrix_Compose : AFunc := ⟨(.seq (.region F_matrix_Compose.r0) (.seq (.region F_matrix_Compose.r1) (.seq (.region F_matrix_Compose.r2) (.seq (.seq (.region F_matrix_Compose.r3) (.block 0 (.loop F_matrix_Compose.l1))) (.seq (.region F_matrix_Compose.r12) .ret))))),
  [.inr (4, (some 18))]⟩
/-! armplan/interval.Add -/
def F_interval_Add.r0 : List AOper := [
  ⟨(some 2), .box T_api_Interval (.tmp 0), none, []⟩,
  ⟨(some 3), .box T_api_Interval (.tmp 1), none, []⟩,
  ⟨(some 4), .alloc T_api_Interval [(.int .i64 0), (.int .i64 0)], none, []⟩]
def F_interval_Add.r1 : List AOper := [
  ⟨(some 5), .load (some 2) (.tmp 2), none, []⟩,
  ⟨(some 6), .load (some 2) (.tmp 3), none, []⟩,
  ⟨(some 7), .call (.func n_interval_both) [(.tmp 5), (.tmp 6)], none, []⟩,
  ⟨(some 8), .un .not (.tmp 7), none, []⟩]
def F_interval_Add.r2 : List AOper := [
  ⟨(some 9), .build [(.int .i64 0), (.int .i64 0)] [], none, []⟩,
  ⟨none, .store 2 (.tmp 4) (.tmp 9), none, []⟩]
def F_interval_Add.r3 : List AOper := [
  ⟨(some 10), .fieldAddr 0 (.tmp 2), none, []⟩,
  ⟨(some 11), .load none (.tmp 10), none, []⟩,
  ⟨(some 12), .fieldAddr 0 (.tmp 3), none, []⟩,
  ⟨(some 13), .load none (.tmp 12), none, []⟩,
  ⟨(some 14), .bin .add .no (.tmp 11) (.tmp 13), none, []⟩,
  ⟨(some 15), .fieldAddr 1 (.tmp 2), none, []⟩,
  ⟨(some 16), .load none (.tmp 15), none, []⟩,
  ⟨(some 17), .fieldAddr 1 (.tmp 3), none, []⟩,
  ⟨(some 18), .load none (.tmp 17), none, []⟩,
  ⟨(some 19), .bin .add .no (.tmp 16) (.tmp 18), none, []⟩,
  ⟨(some 20), .call (.func n_interval_limit) [(.tmp 14), (.tmp 19)], none, []⟩,
  ⟨none, .store 2 (.tmp 4) (.tmp 20), none, []⟩]
def F_interval_Add : AFunc := ⟨(.seq (.region F_interval_Add.r0) (.seq (.seq (.region F_interval_Add.r1) (.cond (.tmp 8) (.seq (.region F_interval_Add.r2) .ret) .skip)) (.seq (.region F_interval_Add.r3) .ret))),
  [.inr (4, (some 2))]⟩
/-! armplan/matrix.sum -/
def F_matrix_sum.r0 : List AOper := [
  ⟨(some 2), .box T_3_api_Interval (.tmp 0), none, []⟩,
  ⟨(some 3), .box T_3_api_Interval (.tmp 1), none, []⟩,
  ⟨(some 4), .alloc T_api_Interval [(.int .i64 0), (.int .i64 0)], none, []⟩]
def F_matrix_sum.r1 : List AOper := [
  ⟨(some 7), .idxAddr (some 3) 2 (.tmp 2) (.const (.int .i64 0)), none, []⟩,
  ⟨(some 8), .load (some 2) (.tmp 7), none, []⟩,
  ⟨(some 9), .idxAddr (some 3) 2 (.tmp 3) (.const (.int .i64 0)), none, []⟩,
  ⟨(some 10), .load (some 2) (.tmp 9), none, []⟩,
  ⟨(some 11), .call (.func n_interval_Mul) [(.tmp 8), (.tmp 10)], none, []⟩,
  ⟨(some 5), .alloc T_api_Interval [(.int .i64 0), (.int .i64 0)], none, []⟩,
  ⟨none, .store 2 (.tmp 5) (.tmp 11), none, []⟩]
def F_matrix_sum.r2 : List AOper := [
  ⟨(some 6), .mv (.const (.int .i64 1)), none, []⟩]
def F_matrix_sum.r3 : List AOper := [
  ⟨(some 12), .mv (.tmp 6), none, []⟩,
  ⟨(some 13), .bin .lss .no (.tmp 12) (.const (.int .i64 3)), none, []⟩]
def F_matrix_sum.r4 : List AOper := [
  ⟨(some 16), .load (some 2) (.tmp 5), none, [7]⟩,
  ⟨(some 17), .mv (.tmp 6), none, []⟩,
  ⟨(some 18), .idxAddr (some 3) 2 (.tmp 2) (.tmp 17), none, []⟩,
  ⟨(some 19), .load (some 2) (.tmp 18), none, []⟩,
  ⟨(some 20), .mv (.tmp 6), none, []⟩,
  ⟨(some 21), .idxAddr (some 3) 2 (.tmp 3) (.tmp 20), none, []⟩,
  ⟨(some 22), .load (some 2) (.tmp 21), none, []⟩,
  ⟨(some 23), .call (.func n_interval_Mul) [(.tmp 19), (.tmp 22)], none, []⟩,
  ⟨(some 24), .call (.func n_interval_Add) [(.tmp 16), (.tmp 23)], none, []⟩,
  ⟨none, .store 2 (.tmp 5) (.tmp 24), none, []⟩]
def F_matrix_sum.r5 : List AOper := [
  ⟨(some 14), .mv (.tmp 6), none, []⟩,
  ⟨(some 15), .bin .add .no (.tmp 14) (.const (.int .i64 1)), none, []⟩,
  ⟨(some 6), .mv (.tmp 15), none, []⟩]
def F_matrix_sum.l0 : ACode := (.seq (.seq (.region F_matrix_sum.r3) (.cond (.tmp 13) .skip (.exit 0))) (.seq (.block 1 (.dregion F_matrix_sum.r4)) (.region F_matrix_sum.r5)))
def F_matrix_sum.r6 : List AOper := [
  ⟨(some 25), .load (some 2) (.tmp 5), none, []⟩,
  ⟨none, .store 2 (.tmp 4) (.tmp 25), none, []⟩]
def F_matrix_sum : AFunc := ⟨(.seq (.region F_matrix_sum.r0) (.seq (.region F_matrix_sum.r1) (.seq (.seq (.region F_matrix_sum.r2) (.block 0 (.loop F_matrix_sum.l0))) (.seq (.region F_matrix_sum.r6) .ret)))),
  [.inr (4, (some 2))]⟩
/-! armplan/fixed.Clamp -/
def F_fixed_Clamp.r0 : List AOper := [
  ⟨(some 2), .mv (.const (.int .i64 0)), none, []⟩]
def F_fixed_Clamp.r1 : List AOper := [
  ⟨(some 3), .mv (.tmp 0), none, []⟩,
  ⟨(some 4), .minmax true [(.tmp 3), (.const (.int .i64 (-2147483648)))], none, []⟩,
  ⟨(some 5), .minmax false [(.tmp 4), (.const (.int .i64 2147483648))], none, []⟩,
  ⟨(some 2), .mv (.tmp 5), none, []⟩]
def F_fixed_Clamp : AFunc := ⟨(.seq (.region F_fixed_Clamp.r0) (.seq (.region F_fixed_Clamp.r1) .ret)),
  [.inl 2]⟩
/-! math/bits.Len64 -/
def F_math_bits_Len64.r0 : List AOper := [
  ⟨(some 2), .mv (.const (.int .i64 0)), none, []⟩]
def F_math_bits_Len64.r1 : List AOper := [
  ⟨(some 3), .mv (.tmp 0), none, []⟩,
  ⟨(some 4), .bin .geq .no (.tmp 3) (.const (.int .u64 4294967296)), none, []⟩]
def F_math_bits_Len64.r2 : List AOper := [
  ⟨(some 5), .mv (.tmp 0), none, []⟩,
  ⟨(some 6), .bin .shr .no (.tmp 5) (.const (.int .u64 32)), none, []⟩,
  ⟨(some 0), .mv (.tmp 6), none, []⟩]
def F_math_bits_Len64.r3 : List AOper := [
  ⟨(some 2), .mv (.const (.int .i64 32)), none, []⟩]
def F_math_bits_Len64.r4 : List AOper := [
  ⟨(some 7), .mv (.tmp 0), none, []⟩,
  ⟨(some 8), .bin .geq .no (.tmp 7) (.const (.int .u64 65536)), none, []⟩]
def F_math_bits_Len64.r5 : List AOper := [
  ⟨(some 9), .mv (.tmp 0), none, []⟩,
  ⟨(some 10), .bin .shr .no (.tmp 9) (.const (.int .u64 16)), none, []⟩,
  ⟨(some 0), .mv (.tmp 10), none, []⟩]
def F_math_bits_Len64.r6 : List AOper := [
  ⟨(some 11), .mv (.tmp 2), none, []⟩,
  ⟨(some 12), .bin .add .no (.tmp 11) (.const (.int .i64 16)), none, []⟩,
  ⟨(some 2), .mv (.tmp 12), none, []⟩]
def F_math_bits_Len64.r7 : List AOper := [
  ⟨(some 13), .mv (.tmp 0), none, []⟩,
  ⟨(some 14), .bin .geq .no (.tmp 13) (.const (.int .u64 256)), none, []⟩]
def F_math_bits_Len64.r8 : List AOper := [
  ⟨(some 15), .mv (.tmp 0), none, []⟩,
  ⟨(some 16), .bin .shr .no (.tmp 15) (.const (.int .u64 8)), none, []⟩,
  ⟨(some 0), .mv (.tmp 16), none, []⟩]
def F_math_bits_Len64.r9 : List AOper := [
  ⟨(some 17), .mv (.tmp 2), none, []⟩,
  ⟨(some 18), .bin .add .no (.tmp 17) (.const (.int .i64 8)), none, []⟩,
  ⟨(some 2), .mv (.tmp 18), none, []⟩]
def F_math_bits_Len64.r10 : List AOper := [
  ⟨(some 19), .mv (.tmp 2), none, []⟩,
  ⟨(some 20), .mv (.tmp 0), none, []⟩,
  ⟨(some 21), .conv .u8 (.tmp 20), none, []⟩,
  ⟨(some 22), .idxS (.const (.string (ByteArray.mk #[0, 1, 2, 2, 3, 3, 3, 3, 4, 4, 4, 4, 4, 4, 4, 4, 5, 5, 5, 5, 5, 5, 5, 5, 5, 5, 5, 5, 5, 5, 5, 5, 6, 6, 6, 6, 6, 6, 6, 6, 6, 6, 6, 6, 6, 6, 6, 6, 6, 6, 6, 6, 6, 6, 6, 6, 6, 6, 6, 6, 6, 6, 6, 6, 7, 7, 7, 7, 7, 7, 7, 7, 7, 7, 7, 7, 7, 7, 7, 7, 7, 7, 7, 7, 7, 7, 7, 7, 7, 7, 7, 7, 7, 7, 7, 7, 7, 7, 7, 7, 7, 7, 7, 7, 7, 7, 7, 7, 7, 7, 7, 7, 7, 7, 7, 7, 7, 7, 7, 7, 7, 7, 7, 7, 7, 7, 7, 7, 8, 8, 8, 8, 8, 8, 8, 8, 8, 8, 8, 8, 8, 8, 8, 8, 8, 8, 8, 8, 8, 8, 8, 8, 8, 8, 8, 8, 8, 8, 8, 8, 8, 8, 8, 8, 8, 8, 8, 8, 8, 8, 8, 8, 8, 8, 8, 8, 8, 8, 8, 8, 8, 8, 8, 8, 8, 8, 8, 8, 8, 8, 8, 8, 8, 8, 8, 8, 8, 8, 8, 8, 8, 8, 8, 8, 8, 8, 8, 8, 8, 8, 8, 8, 8, 8, 8, 8, 8, 8, 8, 8, 8, 8, 8, 8, 8, 8, 8, 8, 8, 8, 8, 8, 8, 8, 8, 8, 8, 8, 8, 8, 8, 8, 8, 8, 8, 8, 8, 8, 8, 8, 8, 8, 8, 8, 8, 8]))) (.tmp 21), none, []⟩,
  ⟨(some 23), .conv .i64 (.tmp 22), none, []⟩,
  ⟨(some 24), .bin .add .no (.tmp 19) (.tmp 23), none, []⟩,
  ⟨(some 2), .mv (.tmp 24), none, []⟩]
def F_math_bits_Len64 : AFunc := ⟨(.seq (.region F_math_bits_Len64.r0) (.seq (.seq (.region F_math_bits_Len64.r1) (.cond (.tmp 4) (.seq (.region F_math_bits_Len64.r2) (.region F_math_bits_Len64.r3)) .skip)) (.seq (.seq (.region F_math_bits_Len64.r4) (.cond (.tmp 8) (.seq (.region F_math_bits_Len64.r5) (.region F_math_bits_Len64.r6)) .skip)) (.seq (.seq (.region F_math_bits_Len64.r7) (.cond (.tmp 14) (.seq (.region F_math_bits_Len64.r8) (.region F_math_bits_Len64.r9)) .skip)) (.seq (.region F_math_bits_Len64.r10) .ret))))),
  [.inl 2]⟩
/-! slices.IndexFunc[[]armplan/api.Joint,armplan/api.Joint] -/
def F_slices_IndexFunc_sl_api_Joint_api_Joint.r0 : List AOper := [
  ⟨(some 4), .mv (.const (.int .i64 0)), none, []⟩]
def F_slices_IndexFunc_sl_api_Joint_api_Joint.r1 : List AOper := [
  ⟨(some 6), .mv (.tmp 0), none, []⟩,
  ⟨(some 7), .lenO false (.tmp 6), none, []⟩,
  ⟨(some 8), .mv (.const (.int .i64 0)), none, []⟩]
def F_slices_IndexFunc_sl_api_Joint_api_Joint.r2 : List AOper := [
  ⟨(some 9), .bin .lss .no (.tmp 8) (.tmp 7), none, []⟩]
def F_slices_IndexFunc_sl_api_Joint_api_Joint.r3 : List AOper := [
  ⟨(some 10), .mv (.tmp 8), none, []⟩,
  ⟨(some 5), .mv (.tmp 10), none, []⟩]
def F_slices_IndexFunc_sl_api_Joint_api_Joint.r4 : List AOper := [
  ⟨(some 11), .mv (.tmp 1), none, []⟩,
  ⟨(some 12), .mv (.tmp 0), none, []⟩,
  ⟨(some 13), .mv (.tmp 5), none, []⟩,
  ⟨(some 14), .idxAddr none 12 (.tmp 12) (.tmp 13), none, []⟩,
  ⟨(some 15), .load (some 12) (.tmp 14), none, []⟩,
  ⟨(some 16), .call (.tmp 11) [(.tmp 15)], none, []⟩]
def F_slices_IndexFunc_sl_api_Joint_api_Joint.r5 : List AOper := [
  ⟨(some 17), .mv (.tmp 5), none, []⟩,
  ⟨(some 4), .mv (.tmp 17), none, []⟩]
def F_slices_IndexFunc_sl_api_Joint_api_Joint.r6 : List AOper := [
  ⟨(some 18), .bin .add .no (.tmp 8) (.const (.int .i64 1)), none, []⟩,
  ⟨(some 8), .mv (.tmp 18), none, []⟩]
def F_slices_IndexFunc_sl_api_Joint_api_Joint.l0 : ACode := (.seq (.region F_slices_IndexFunc_sl_api_Joint_api_Joint.r2) (.seq (.cond (.tmp 9) .skip (.exit 0)) (.seq (.block 1 (.seq (.region F_slices_IndexFunc_sl_api_Joint_api_Joint.r3) (.seq (.region F_slices_IndexFunc_sl_api_Joint_api_Joint.r4) (.cond (.tmp 16) (.seq (.region F_slices_IndexFunc_sl_api_Joint_api_Joint.r5) .ret) .skip)))) (.region F_slices_IndexFunc_sl_api_Joint_api_Joint.r6))))
def F_slices_IndexFunc_sl_api_Joint_api_Joint.r7 : List AOper := [
  ⟨(some 4), .mv (.const (.int .i64 (-1))), none, []⟩]
def F_slices_IndexFunc_sl_api_Joint_api_Joint : AFunc := ⟨(.seq (.region F_slices_IndexFunc_sl_api_Joint_api_Joint.r0) (.seq (.seq (.region F_slices_IndexFunc_sl_api_Joint_api_Joint.r1) (.block 0 (.loop F_slices_IndexFunc_sl_api_Joint_api_Joint.l0))) (.seq (.region F_slices_IndexFunc_sl_api_Joint_api_Joint.r7) .ret))),
  [.inl 4]⟩
/-! armplan/robot.place$1 -/
def F_robot_place_1.r0 : List AOper := [
  ⟨(some 2), .box T_api_Joint (.tmp 0), none, []⟩,
  ⟨(some 3), .mv (.const (.bool false)), none, []⟩]
def F_robot_place_1.r1 : List AOper := [
  ⟨(some 4), .fieldAddr 0 (.tmp 2), none, []⟩,
  ⟨(some 5), .load none (.tmp 4), none, []⟩,
  ⟨(some 6), .load none (.tmp 1), none, []⟩,
  ⟨(some 7), .bin .eql .no (.tmp 5) (.tmp 6), none, []⟩,
  ⟨(some 3), .mv (.tmp 7), none, []⟩]
def F_robot_place_1 : AFunc := ⟨(.seq (.region F_robot_place_1.r0) (.seq (.region F_robot_place_1.r1) .ret)),
  [.inl 3]⟩
/-! armplan/pose.Turn -/
def F_pose_Turn.r0 : List AOper := [
  ⟨(some 3), .box T_api_Interval (.tmp 1), none, []⟩,
  ⟨(some 4), .alloc T_api_Pose [(.int .i64 0), (.int .i64 0), (.int .i64 0), (.int .i64 0), (.int .i64 0), (.int .i64 0), (.int .i64 0), (.int .i64 0), (.int .i64 0), (.int .i64 0), (.int .i64 0), (.int .i64 0), (.int .i64 0), (.int .i64 0), (.int .i64 0), (.int .i64 0), (.int .i64 0), (.int .i64 0), (.int .i64 0), (.int .i64 0), (.int .i64 0), (.int .i64 0), (.int .i64 0), (.int .i64 0)], none, []⟩]
def F_pose_Turn.r1 : List AOper := [
  ⟨(some 5), .mv (.tmp 0), none, []⟩,
  ⟨(some 6), .load (some 2) (.tmp 3), none, []⟩,
  ⟨(some 7), .call (.func n_matrix_Turn) [(.tmp 5), (.tmp 6)], none, []⟩,
  ⟨(some 8), .build [(.int .i64 0), (.int .i64 0), (.int .i64 0), (.int .i64 0), (.int .i64 0), (.int .i64 0), (.int .i64 0), (.int .i64 0), (.int .i64 0), (.int .i64 0), (.int .i64 0), (.int .i64 0), (.int .i64 0), (.int .i64 0), (.int .i64 0), (.int .i64 0), (.int .i64 0), (.int .i64 0), (.int .i64 0), (.int .i64 0), (.int .i64 0), (.int .i64 0), (.int .i64 0), (.int .i64 0)] [(0, 18, (.tmp 7))], none, []⟩,
  ⟨none, .store 24 (.tmp 4) (.tmp 8), none, []⟩]
def F_pose_Turn : AFunc := ⟨(.seq (.region F_pose_Turn.r0) (.seq (.region F_pose_Turn.r1) .ret)),
  [.inr (4, (some 24))]⟩
/-! armplan/kinematics.slide -/
def F_kinematics_slide.r0 : List AOper := [
  ⟨(some 3), .box T_api_Interval (.tmp 1), none, []⟩,
  ⟨(some 4), .alloc T_api_Pose [(.int .i64 0), (.int .i64 0), (.int .i64 0), (.int .i64 0), (.int .i64 0), (.int .i64 0), (.int .i64 0), (.int .i64 0), (.int .i64 0), (.int .i64 0), (.int .i64 0), (.int .i64 0), (.int .i64 0), (.int .i64 0), (.int .i64 0), (.int .i64 0), (.int .i64 0), (.int .i64 0), (.int .i64 0), (.int .i64 0), (.int .i64 0), (.int .i64 0), (.int .i64 0), (.int .i64 0)], none, []⟩]
def F_kinematics_slide.r1 : List AOper := [
  ⟨(some 5), .alloc T_api_IVec [(.int .i64 0), (.int .i64 0), (.int .i64 0), (.int .i64 0), (.int .i64 0), (.int .i64 0)], none, []⟩]
def F_kinematics_slide.r2 : List AOper := [
  ⟨(some 6), .mv (.tmp 0), none, []⟩,
  ⟨(some 7), .load (some 2) (.tmp 3), none, []⟩,
  ⟨(some 8), .idxAddr (some 3) 2 (.tmp 5) (.tmp 6), none, []⟩,
  ⟨none, .store 2 (.tmp 8) (.tmp 7), none, []⟩]
def F_kinematics_slide.r3 : List AOper := [
  ⟨(some 9), .load (some 6) (.tmp 5), none, []⟩,
  ⟨(some 10), .call (.func n_pose_Shift) [(.tmp 9)], none, []⟩,
  ⟨none, .store 24 (.tmp 4) (.tmp 10), none, []⟩]
def F_kinematics_slide : AFunc := ⟨(.seq (.region F_kinematics_slide.r0) (.seq (.region F_kinematics_slide.r1) (.seq (.region F_kinematics_slide.r2) (.seq (.region F_kinematics_slide.r3) .ret)))),
  [.inr (4, (some 24))]⟩
/-! armplan/kinematics.rest -/
def F_kinematics_rest.r0 : List AOper := [
  ⟨(some 3), .box T_api_Interval (.tmp 1), none, []⟩,
  ⟨(some 4), .alloc T_api_Pose [(.int .i64 0), (.int .i64 0), (.int .i64 0), (.int .i64 0), (.int .i64 0), (.int .i64 0), (.int .i64 0), (.int .i64 0), (.int .i64 0), (.int .i64 0), (.int .i64 0), (.int .i64 0), (.int .i64 0), (.int .i64 0), (.int .i64 0), (.int .i64 0), (.int .i64 0), (.int .i64 0), (.int .i64 0), (.int .i64 0), (.int .i64 0), (.int .i64 0), (.int .i64 0), (.int .i64 0)], none, []⟩]
def F_kinematics_rest.r1 : List AOper := [
  ⟨(some 5), .call (.func n_pose_Identity) [], none, []⟩,
  ⟨none, .store 24 (.tmp 4) (.tmp 5), none, []⟩]
def F_kinematics_rest : AFunc := ⟨(.seq (.region F_kinematics_rest.r0) (.seq (.region F_kinematics_rest.r1) .ret)),
  [.inr (4, (some 24))]⟩
/-! armplan/matrix.Identity -/
def F_matrix_Identity.r0 : List AOper := [
  ⟨(some 0), .alloc T_api_IMat [(.int .i64 0), (.int .i64 0), (.int .i64 0), (.int .i64 0), (.int .i64 0), (.int .i64 0), (.int .i64 0), (.int .i64 0), (.int .i64 0), (.int .i64 0), (.int .i64 0), (.int .i64 0), (.int .i64 0), (.int .i64 0), (.int .i64 0), (.int .i64 0), (.int .i64 0), (.int .i64 0)], none, []⟩]
def F_matrix_Identity.r1 : List AOper := [
  ⟨(some 1), .alloc T_api_IMat [(.int .i64 0), (.int .i64 0), (.int .i64 0), (.int .i64 0), (.int .i64 0), (.int .i64 0), (.int .i64 0), (.int .i64 0), (.int .i64 0), (.int .i64 0), (.int .i64 0), (.int .i64 0), (.int .i64 0), (.int .i64 0), (.int .i64 0), (.int .i64 0), (.int .i64 0), (.int .i64 0)], none, []⟩]
def F_matrix_Identity.r2 : List AOper := [
  ⟨(some 3), .mv (.const (.int .i64 0)), none, []⟩]
def F_matrix_Identity.r3 : List AOper := [
  ⟨(some 4), .bin .lss .no (.tmp 3) (.const (.int .i64 3)), none, []⟩]
def F_matrix_Identity.r4 : List AOper := [
  ⟨(some 5), .mv (.tmp 3), none, []⟩,
  ⟨(some 2), .mv (.tmp 5), none, []⟩]
def F_matrix_Identity.r5 : List AOper := [
  ⟨(some 6), .mv (.tmp 2), none, []⟩,
  ⟨(some 7), .mv (.tmp 2), none, []⟩,
  ⟨(some 8), .call (.func n_matrix_one) [], none, []⟩,
  ⟨(some 9), .idxAddr (some 3) 6 (.tmp 1) (.tmp 6), none, []⟩,
  ⟨(some 10), .idxAddr (some 3) 2 (.tmp 9) (.tmp 7), none, []⟩,
  ⟨none, .store 2 (.tmp 10) (.tmp 8), none, []⟩]
def F_matrix_Identity.r6 : List AOper := [
  ⟨(some 11), .bin .add .no (.tmp 3) (.const (.int .i64 1)), none, []⟩,
  ⟨(some 3), .mv (.tmp 11), none, []⟩]
def F_matrix_Identity.l0 : ACode := (.seq (.region F_matrix_Identity.r3) (.seq (.cond (.tmp 4) .skip (.exit 0)) (.seq (.block 1 (.seq (.region F_matrix_Identity.r4) (.dregion F_matrix_Identity.r5))) (.region F_matrix_Identity.r6))))
def F_matrix_Identity.r7 : List AOper := [
  ⟨(some 12), .load (some 18) (.tmp 1), none, []⟩,
  ⟨none, .store 18 (.tmp 0) (.tmp 12), none, []⟩]
def F_matrix_Identity : AFunc := ⟨(.seq (.region F_matrix_Identity.r0) (.seq (.region F_matrix_Identity.r1) (.seq (.seq (.region F_matrix_Identity.r2) (.block 0 (.loop F_matrix_Identity.l0))) (.seq (.region F_matrix_Identity.r7) .ret)))),
  [.inr (0, (some 18))]⟩
/-! armplan/matrix.Transpose -/
def F_matrix_Transpose.r0 : List AOper := [
  ⟨(some 1), .box T_api_IMat (.tmp 0), none, []⟩,
  ⟨(some 2), .alloc T_api_IMat [(.int .i64 0), (.int .i64 0), (.int .i64 0), (.int .i64 0), (.int .i64 0), (.int .i64 0), (.int .i64 0), (.int .i64 0), (.int .i64 0), (.int .i64 0), (.int .i64 0), (.int .i64 0), (.int .i64 0), (.int .i64 0), (.int .i64 0), (.int .i64 0), (.int .i64 0), (.int .i64 0)], none, []⟩]
def F_matrix_Transpose.r1 : List AOper := [
  ⟨(some 3), .alloc T_api_IMat [(.int .i64 0), (.int .i64 0), (.int .i64 0), (.int .i64 0), (.int .i64 0), (.int .i64 0), (.int .i64 0), (.int .i64 0), (.int .i64 0), (.int .i64 0), (.int .i64 0), (.int .i64 0), (.int .i64 0), (.int .i64 0), (.int .i64 0), (.int .i64 0), (.int .i64 0), (.int .i64 0)], none, []⟩]
def F_matrix_Transpose.r2 : List AOper := [
  ⟨(some 6), .mv (.const (.int .i64 0)), none, []⟩]
def F_matrix_Transpose.r3 : List AOper := [
  ⟨(some 7), .bin .lss .no (.tmp 6) (.const (.int .i64 3)), none, []⟩]
def F_matrix_Transpose.r4 : List AOper := [
  ⟨(some 8), .mv (.tmp 6), none, []⟩,
  ⟨(some 4), .mv (.tmp 8), none, []⟩]
def F_matrix_Transpose.r5 : List AOper := [
  ⟨(some 9), .mv (.const (.int .i64 0)), none, []⟩]
def F_matrix_Transpose.r6 : List AOper := [
  ⟨(some 10), .bin .lss .no (.tmp 9) (.const (.int .i64 3)), none, []⟩]
def F_matrix_Transpose.r7 : List AOper := [
  ⟨(some 11), .mv (.tmp 9), none, []⟩,
  ⟨(some 5), .mv (.tmp 11), none, []⟩]
def F_matrix_Transpose.r8 : List AOper := [
  ⟨(some 12), .mv (.tmp 4), none, []⟩,
  ⟨(some 13), .mv (.tmp 5), none, []⟩,
  ⟨(some 14), .mv (.tmp 5), none, []⟩,
  ⟨(some 15), .mv (.tmp 4), none, []⟩,
  ⟨(some 16), .idxAddr (some 3) 6 (.tmp 1) (.tmp 14), none, []⟩,
  ⟨(some 17), .idxAddr (some 3) 2 (.tmp 16) (.tmp 15), none, []⟩,
  ⟨(some 18), .load (some 2) (.tmp 17), none, []⟩,
  ⟨(some 19), .idxAddr (some 3) 6 (.tmp 3) (.tmp 12), none, []⟩,
  ⟨(some 20), .idxAddr (some 3) 2 (.tmp 19) (.tmp 13), none, []⟩,
  ⟨none, .store 2 (.tmp 20) (.tmp 18), none, []⟩]
def F_matrix_Transpose.r9 : List AOper := [
  ⟨(some 21), .bin .add .no (.tmp 9) (.const (.int .i64 1)), none, []⟩,
  ⟨(some 9), .mv (.tmp 21), none, []⟩]
def F_matrix_Transpose.l0 : ACode := (.seq (.region F_matrix_Transpose.r6) (.seq (.cond (.tmp 10) .skip (.exit 2)) (.seq (.block 3 (.seq (.region F_matrix_Transpose.r7) (.dregion F_matrix_Transpose.r8))) (.region F_matrix_Transpose.r9))))
def F_matrix_Transpose.r10 : List AOper := [
  ⟨(some 22), .bin .add .no (.tmp 6) (.const (.int .i64 1)), none, []⟩,
  ⟨(some 6), .mv (.tmp 22), none, []⟩]
def F_matrix_Transpose.l1 : ACode := (.seq (.region F_matrix_Transpose.r3) (.seq (.cond (.tmp 7) .skip (.exit 0)) (.seq (.block 1 (.seq (.region F_matrix_Transpose.r4) (.seq (.region F_matrix_Transpose.r5) (.block 2 (.loop F_matrix_Transpose.l0))))) (.region F_matrix_Transpose.r10))))
def F_matrix_Transpose.r11 : List AOper := [
  ⟨(some 23), .load (some 18) (.tmp 3), none, []⟩,
  ⟨none, .store 18 (.tmp 2) (.tmp 23), none, []⟩]
def F_matrix_Transpose : AFunc := ⟨(.seq (.region F_matrix_Transpose.r0) (.seq (.region F_matrix_Transpose.r1) (.seq (.seq (.region F_matrix_Transpose.r2) (.block 0 (.loop F_matrix_Transpose.l1))) (.seq (.region F_matrix_Transpose.r11) .ret)))),
  [.inr (2, (some 18))]⟩
/-! armplan/matrix.limit -/
def F_matrix_limit.r0 : List AOper := [
  ⟨(some 1), .box T_api_Interval (.tmp 0), none, []⟩,
  ⟨(some 2), .alloc T_api_Interval [(.int .i64 0), (.int .i64 0)], none, []⟩]
def F_matrix_limit.r1 : List AOper := [
  ⟨(some 3), .fieldAddr 0 (.tmp 1), none, []⟩,
  ⟨(some 4), .load none (.tmp 3), none, []⟩,
  ⟨(some 5), .minmax true [(.tmp 4), (.const (.int .i64 (-65536)))], none, []⟩,
  ⟨(some 6), .minmax false [(.tmp 5), (.const (.int .i64 65536))], none, []⟩,
  ⟨(some 7), .fieldAddr 1 (.tmp 1), none, []⟩,
  ⟨(some 8), .load none (.tmp 7), none, []⟩,
  ⟨(some 9), .minmax true [(.tmp 8), (.const (.int .i64 (-65536)))], none, []⟩,
  ⟨(some 10), .minmax false [(.tmp 9), (.const (.int .i64 65536))], none, []⟩,
  ⟨(some 11), .build [(.int .i64 0), (.int .i64 0)] [(0, 1, (.tmp 6)), (1, 1, (.tmp 10))], none, []⟩,
  ⟨none, .store 2 (.tmp 2) (.tmp 11), none, []⟩]
def F_matrix_limit : AFunc := ⟨(.seq (.region F_matrix_limit.r0) (.seq (.region F_matrix_limit.r1) .ret)),
  [.inr (2, (some 2))]⟩
/-! armplan/interval.Mul -/
def F_interval_Mul.r0 : List AOper := [
  ⟨(some 2), .box T_api_Interval (.tmp 0), none, []⟩,
  ⟨(some 3), .box T_api_Interval (.tmp 1), none, []⟩,
  ⟨(some 4), .alloc T_api_Interval [(.int .i64 0), (.int .i64 0)], none, []⟩]
def F_interval_Mul.r1 : List AOper := [
  ⟨(some 10), .load (some 2) (.tmp 2), none, []⟩,
  ⟨(some 11), .load (some 2) (.tmp 3), none, []⟩,
  ⟨(some 12), .call (.func n_interval_both) [(.tmp 10), (.tmp 11)], none, []⟩,
  ⟨(some 13), .un .not (.tmp 12), none, []⟩]
def F_interval_Mul.r2 : List AOper := [
  ⟨(some 14), .build [(.int .i64 0), (.int .i64 0)] [], none, []⟩,
  ⟨none, .store 2 (.tmp 4) (.tmp 14), none, []⟩]
def F_interval_Mul.r3 : List AOper := [
  ⟨(some 15), .fieldAddr 0 (.tmp 2), none, []⟩,
  ⟨(some 16), .load none (.tmp 15), none, []⟩,
  ⟨(some 17), .fieldAddr 0 (.tmp 3), none, []⟩,
  ⟨(some 18), .load none (.tmp 17), none, []⟩,
  ⟨(some 19), .bin .mul .no (.tmp 16) (.tmp 18), none, []⟩,
  ⟨(some 20), .fieldAddr 0 (.tmp 2), none, []⟩,
  ⟨(some 21), .load none (.tmp 20), none, []⟩,
  ⟨(some 22), .fieldAddr 1 (.tmp 3), none, []⟩,
  ⟨(some 23), .load none (.tmp 22), none, []⟩,
  ⟨(some 24), .bin .mul .no (.tmp 21) (.tmp 23), none, []⟩,
  ⟨(some 25), .fieldAddr 1 (.tmp 2), none, []⟩,
  ⟨(some 26), .load none (.tmp 25), none, []⟩,
  ⟨(some 27), .fieldAddr 0 (.tmp 3), none, []⟩,
  ⟨(some 28), .load none (.tmp 27), none, []⟩,
  ⟨(some 29), .bin .mul .no (.tmp 26) (.tmp 28), none, []⟩,
  ⟨(some 30), .fieldAddr 1 (.tmp 2), none, []⟩,
  ⟨(some 31), .load none (.tmp 30), none, []⟩,
  ⟨(some 32), .fieldAddr 1 (.tmp 3), none, []⟩,
  ⟨(some 33), .load none (.tmp 32), none, []⟩,
  ⟨(some 34), .bin .mul .no (.tmp 31) (.tmp 33), none, []⟩,
  ⟨(some 35), .build [(.int .i64 0), (.int .i64 0), (.int .i64 0), (.int .i64 0)] [(0, 1, (.tmp 19)), (1, 1, (.tmp 24)), (2, 1, (.tmp 29)), (3, 1, (.tmp 34))], none, []⟩,
  ⟨(some 5), .alloc T_4_int64 [(.int .i64 0), (.int .i64 0), (.int .i64 0), (.int .i64 0)], none, []⟩,
  ⟨none, .store 4 (.tmp 5) (.tmp 35), none, []⟩]
def F_interval_Mul.r4 : List AOper := [
  ⟨(some 36), .idxAddr (some 4) 1 (.tmp 5) (.const (.int .i64 0)), none, []⟩,
  ⟨(some 37), .load none (.tmp 36), none, []⟩,
  ⟨(some 38), .idxAddr (some 4) 1 (.tmp 5) (.const (.int .i64 0)), none, []⟩,
  ⟨(some 39), .load none (.tmp 38), none, []⟩,
  ⟨(some 6), .mv (.tmp 37), none, []⟩,
  ⟨(some 7), .mv (.tmp 39), none, []⟩]
def F_interval_Mul.r5 : List AOper := [
  ⟨(some 40), .load (some 4) (.tmp 5), none, []⟩,
  ⟨(some 41), .mv (.const (.int .i64 0)), none, []⟩]
def F_interval_Mul.r6 : List AOper := [
  ⟨(some 42), .bin .lss .no (.tmp 41) (.const (.int .i64 4)), none, []⟩]
def F_interval_Mul.r7 : List AOper := [
  ⟨(some 43), .idx 4 1 none (.tmp 40) (.tmp 41), none, []⟩,
  ⟨(some 9), .mv (.tmp 43), none, []⟩]
def F_interval_Mul.r8 : List AOper := [
  ⟨(some 44), .mv (.tmp 6), none, []⟩,
  ⟨(some 45), .mv (.tmp 9), none, []⟩,
  ⟨(some 46), .minmax false [(.tmp 44), (.tmp 45)], none, []⟩,
  ⟨(some 47), .mv (.tmp 7), none, []⟩,
  ⟨(some 48), .mv (.tmp 9), none, []⟩,
  ⟨(some 49), .minmax true [(.tmp 47), (.tmp 48)], none, []⟩,
  ⟨(some 6), .mv (.tmp 46), none, []⟩,
  ⟨(some 7), .mv (.tmp 49), none, []⟩]
def F_interval_Mul.r9 : List AOper := [
  ⟨(some 50), .bin .add .no (.tmp 41) (.const (.int .i64 1)), none, []⟩,
  ⟨(some 41), .mv (.tmp 50), none, []⟩]
def F_interval_Mul.l0 : ACode := (.seq (.region F_interval_Mul.r6) (.seq (.cond (.tmp 42) .skip (.exit 0)) (.seq (.block 1 (.seq (.region F_interval_Mul.r7) (.region F_interval_Mul.r8))) (.region F_interval_Mul.r9))))
def F_interval_Mul.r10 : List AOper := [
  ⟨(some 51), .mv (.tmp 6), none, []⟩,
  ⟨(some 52), .mv (.tmp 7), none, []⟩,
  ⟨(some 53), .call (.func n_interval_outward) [(.tmp 51), (.tmp 52)], none, []⟩,
  ⟨none, .store 2 (.tmp 4) (.tmp 53), none, []⟩]
def F_interval_Mul : AFunc := ⟨(.seq (.region F_interval_Mul.r0) (.seq (.seq (.region F_interval_Mul.r1) (.cond (.tmp 13) (.seq (.region F_interval_Mul.r2) .ret) .skip)) (.seq (.region F_interval_Mul.r3) (.seq (.dregion F_interval_Mul.r4) (.seq (.seq (.region F_interval_Mul.r5) (.block 0 (.loop F_interval_Mul.l0))) (.seq (.region F_interval_Mul.r10) .ret)))))),
  [.inr (4, (some 2))]⟩
/-! armplan/matrix.Turn -/
def F_matrix_Turn.r0 : List AOper := [
  ⟨(some 3), .box T_api_Interval (.tmp 1), none, []⟩,
  ⟨(some 4), .alloc T_api_IMat [(.int .i64 0), (.int .i64 0), (.int .i64 0), (.int .i64 0), (.int .i64 0), (.int .i64 0), (.int .i64 0), (.int .i64 0), (.int .i64 0), (.int .i64 0), (.int .i64 0), (.int .i64 0), (.int .i64 0), (.int .i64 0), (.int .i64 0), (.int .i64 0), (.int .i64 0), (.int .i64 0)], none, []⟩]
def F_matrix_Turn.r1 : List AOper := [
  ⟨(some 10), .mv (.tmp 0), none, []⟩,
  ⟨(some 11), .bin .lss .no (.tmp 10) (.const (.int .i64 0)), none, []⟩,
  ⟨(some 12), .mv (.tmp 11), none, []⟩,
  ⟨(some 13), .mv (.tmp 0), some ((some 12), false), []⟩,
  ⟨(some 14), .bin .gtr .no (.tmp 13) (.const (.int .i64 2)), some ((some 12), false), []⟩,
  ⟨(some 15), .pick (.tmp 12) (.const (.bool true)) (.tmp 14), none, []⟩,
  ⟨(some 16), .mv (.tmp 15), none, []⟩,
  ⟨(some 17), .load (some 2) (.tmp 3), some ((some 16), false), []⟩,
  ⟨(some 18), .call (.func n_interval_Valid) [(.tmp 17)], some ((some 16), false), []⟩,
  ⟨(some 19), .un .not (.tmp 18), some ((some 16), false), []⟩,
  ⟨(some 20), .pick (.tmp 16) (.const (.bool true)) (.tmp 19), none, []⟩]
def F_matrix_Turn.r2 : List AOper := [
  ⟨(some 21), .build [(.int .i64 0), (.int .i64 0), (.int .i64 0), (.int .i64 0), (.int .i64 0), (.int .i64 0), (.int .i64 0), (.int .i64 0), (.int .i64 0), (.int .i64 0), (.int .i64 0), (.int .i64 0), (.int .i64 0), (.int .i64 0), (.int .i64 0), (.int .i64 0), (.int .i64 0), (.int .i64 0)] [], none, []⟩,
  ⟨none, .store 18 (.tmp 4) (.tmp 21), none, []⟩]
def F_matrix_Turn.r3 : List AOper := [
  ⟨(some 22), .load (some 2) (.tmp 3), none, []⟩,
  ⟨(some 23), .call (.func n_angle_CosOver) [(.tmp 22)], none, []⟩,
  ⟨(some 24), .load (some 2) (.tmp 3), none, [1]⟩,
  ⟨(some 25), .call (.func n_angle_SinOver) [(.tmp 24)], none, []⟩,
  ⟨(some 5), .alloc T_api_Interval [(.int .i64 0), (.int .i64 0)], none, []⟩,
  ⟨(some 6), .alloc T_api_Interval [(.int .i64 0), (.int .i64 0)], none, []⟩,
  ⟨none, .store 2 (.tmp 5) (.tmp 23), none, []⟩,
  ⟨none, .store 2 (.tmp 6) (.tmp 25), none, []⟩]
def F_matrix_Turn.r4 : List AOper := [
  ⟨(some 26), .mv (.tmp 0), none, []⟩,
  ⟨(some 27), .bin .add .no (.tmp 26) (.const (.int .i64 1)), none, []⟩,
  ⟨(some 28), .bin .rem .no (.tmp 27) (.const (.int .i64 3)), none, []⟩,
  ⟨(some 29), .mv (.tmp 0), none, []⟩,
  ⟨(some 30), .bin .add .no (.tmp 29) (.const (.int .i64 2)), none, []⟩,
  ⟨(some 31), .bin .rem .no (.tmp 30) (.const (.int .i64 3)), none, []⟩,
  ⟨(some 7), .mv (.tmp 28), none, []⟩,
  ⟨(some 8), .mv (.tmp 31), none, []⟩]
def F_matrix_Turn.r5 : List AOper := [
  ⟨(some 9), .alloc T_api_IMat [(.int .i64 0), (.int .i64 0), (.int .i64 0), (.int .i64 0), (.int .i64 0), (.int .i64 0), (.int .i64 0), (.int .i64 0), (.int .i64 0), (.int .i64 0), (.int .i64 0), (.int .i64 0), (.int .i64 0), (.int .i64 0), (.int .i64 0), (.int .i64 0), (.int .i64 0), (.int .i64 0)], none, []⟩]
def F_matrix_Turn.r6 : List AOper := [
  ⟨(some 32), .mv (.tmp 0), none, []⟩,
  ⟨(some 33), .mv (.tmp 0), none, []⟩,
  ⟨(some 34), .call (.func n_matrix_one) [], none, []⟩,
  ⟨(some 35), .idxAddr (some 3) 6 (.tmp 9) (.tmp 32), none, []⟩,
  ⟨(some 36), .idxAddr (some 3) 2 (.tmp 35) (.tmp 33), none, []⟩,
  ⟨none, .store 2 (.tmp 36) (.tmp 34), none, []⟩]
def F_matrix_Turn.r7 : List AOper := [
  ⟨(some 37), .mv (.tmp 7), none, []⟩,
  ⟨(some 38), .mv (.tmp 7), none, []⟩,
  ⟨(some 39), .mv (.tmp 8), none, []⟩,
  ⟨(some 40), .mv (.tmp 8), none, []⟩,
  ⟨(some 41), .load (some 2) (.tmp 5), none, []⟩,
  ⟨(some 42), .load (some 2) (.tmp 5), none, [8]⟩,
  ⟨(some 43), .idxAddr (some 3) 6 (.tmp 9) (.tmp 37), none, []⟩,
  ⟨(some 44), .idxAddr (some 3) 2 (.tmp 43) (.tmp 38), none, []⟩,
  ⟨none, .store 2 (.tmp 44) (.tmp 41), none, []⟩,
  ⟨(some 45), .idxAddr (some 3) 6 (.tmp 9) (.tmp 39), none, []⟩,
  ⟨(some 46), .idxAddr (some 3) 2 (.tmp 45) (.tmp 40), none, []⟩,
  ⟨none, .store 2 (.tmp 46) (.tmp 42), none, []⟩]
def F_matrix_Turn.r8 : List AOper := [
  ⟨(some 47), .mv (.tmp 8), none, []⟩,
  ⟨(some 48), .mv (.tmp 7), none, []⟩,
  ⟨(some 49), .mv (.tmp 7), none, []⟩,
  ⟨(some 50), .mv (.tmp 8), none, []⟩,
  ⟨(some 51), .load (some 2) (.tmp 6), none, [6]⟩,
  ⟨(some 52), .load (some 2) (.tmp 6), none, []⟩,
  ⟨(some 53), .call (.func n_interval_Neg) [(.tmp 52)], none, []⟩,
  ⟨(some 54), .idxAddr (some 3) 6 (.tmp 9) (.tmp 47), none, []⟩,
  ⟨(some 55), .idxAddr (some 3) 2 (.tmp 54) (.tmp 48), none, []⟩,
  ⟨none, .store 2 (.tmp 55) (.tmp 51), none, []⟩,
  ⟨(some 56), .idxAddr (some 3) 6 (.tmp 9) (.tmp 49), none, []⟩,
  ⟨(some 57), .idxAddr (some 3) 2 (.tmp 56) (.tmp 50), none, []⟩,
  ⟨none, .store 2 (.tmp 57) (.tmp 53), none, []⟩]
def F_matrix_Turn.r9 : List AOper := [
  ⟨(some 58), .load (some 18) (.tmp 9), none, []⟩,
  ⟨none, .store 18 (.tmp 4) (.tmp 58), none, []⟩]
def F_matrix_Turn : AFunc := ⟨(.seq (.region F_matrix_Turn.r0) (.seq (.seq (.region F_matrix_Turn.r1) (.cond (.tmp 20) (.seq (.region F_matrix_Turn.r2) .ret) .skip)) (.seq (.dregion F_matrix_Turn.r3) (.seq (.region F_matrix_Turn.r4) (.seq (.region F_matrix_Turn.r5) (.seq (.dregion F_matrix_Turn.r6) (.seq (.dregion F_matrix_Turn.r7) (.seq (.dregion F_matrix_Turn.r8) (.seq (.region F_matrix_Turn.r9) .ret))))))))),
  [.inr (4, (some 18))]⟩
/-! armplan/pose.Identity -/
def F_pose_Identity.r0 : List AOper := [
  ⟨(some 0), .alloc T_api_Pose [(.int .i64 0), (.int .i64 0), (.int .i64 0), (.int .i64 0), (.int .i64 0), (.int .i64 0), (.int .i64 0), (.int .i64 0), (.int .i64 0), (.int .i64 0), (.int .i64 0), (.int .i64 0), (.int .i64 0), (.int .i64 0), (.int .i64 0), (.int .i64 0), (.int .i64 0), (.int .i64 0), (.int .i64 0), (.int .i64 0), (.int .i64 0), (.int .i64 0), (.int .i64 0), (.int .i64 0)], none, []⟩]
def F_pose_Identity.r1 : List AOper := [
  ⟨(some 1), .call (.func n_matrix_Identity) [], none, []⟩,
  ⟨(some 2), .build [(.int .i64 0), (.int .i64 0), (.int .i64 0), (.int .i64 0), (.int .i64 0), (.int .i64 0), (.int .i64 0), (.int .i64 0), (.int .i64 0), (.int .i64 0), (.int .i64 0), (.int .i64 0), (.int .i64 0), (.int .i64 0), (.int .i64 0), (.int .i64 0), (.int .i64 0), (.int .i64 0), (.int .i64 0), (.int .i64 0), (.int .i64 0), (.int .i64 0), (.int .i64 0), (.int .i64 0)] [(0, 18, (.tmp 1))], none, []⟩,
  ⟨none, .store 24 (.tmp 0) (.tmp 2), none, []⟩]
def F_pose_Identity : AFunc := ⟨(.seq (.region F_pose_Identity.r0) (.seq (.region F_pose_Identity.r1) .ret)),
  [.inr (0, (some 24))]⟩
/-! armplan/matrix.one -/
def F_matrix_one.r0 : List AOper := [
  ⟨(some 0), .alloc T_api_Interval [(.int .i64 0), (.int .i64 0)], none, []⟩]
def F_matrix_one.r1 : List AOper := [
  ⟨(some 1), .call (.func n_interval_Of) [(.const (.int .i64 65536))], none, []⟩,
  ⟨none, .store 2 (.tmp 0) (.tmp 1), none, []⟩]
def F_matrix_one : AFunc := ⟨(.seq (.region F_matrix_one.r0) (.seq (.region F_matrix_one.r1) .ret)),
  [.inr (0, (some 2))]⟩
/-! armplan/interval.outward -/
def F_interval_outward.r0 : List AOper := [
  ⟨(some 4), .alloc T_api_Interval [(.int .i64 0), (.int .i64 0)], none, []⟩]
def F_interval_outward.r1 : List AOper := [
  ⟨(some 5), .mv (.tmp 0), none, []⟩,
  ⟨(some 6), .call (.func n_fixed_ShiftDown) [(.tmp 5), (.const (.int .i64 16))], none, []⟩,
  ⟨(some 7), .mv (.tmp 1), none, []⟩,
  ⟨(some 8), .call (.func n_fixed_ShiftUp) [(.tmp 7), (.const (.int .i64 16))], none, []⟩,
  ⟨(some 9), .call (.func n_interval_limit) [(.tmp 6), (.tmp 8)], none, []⟩,
  ⟨none, .store 2 (.tmp 4) (.tmp 9), none, []⟩]
def F_interval_outward : AFunc := ⟨(.seq (.region F_interval_outward.r0) (.seq (.region F_interval_outward.r1) .ret)),
  [.inr (4, (some 2))]⟩
/-! armplan/angle.CosOver -/
def F_angle_CosOver.r0 : List AOper := [
  ⟨(some 1), .box T_api_Interval (.tmp 0), none, []⟩,
  ⟨(some 2), .alloc T_api_Interval [(.int .i64 0), (.int .i64 0)], none, []⟩]
def F_angle_CosOver.r1 : List AOper := [
  ⟨(some 3), .load (some 2) (.tmp 1), none, []⟩,
  ⟨(some 4), .call (.func n_angle_over) [(.tmp 3), (.func n_angle_Cos), (.const (.int .i64 0))], none, []⟩,
  ⟨none, .store 2 (.tmp 2) (.tmp 4), none, []⟩]
def F_angle_CosOver : AFunc := ⟨(.seq (.region F_angle_CosOver.r0) (.seq (.region F_angle_CosOver.r1) .ret)),
  [.inr (2, (some 2))]⟩
/-! armplan/angle.SinOver -/
def F_angle_SinOver.r0 : List AOper := [
  ⟨(some 1), .box T_api_Interval (.tmp 0), none, []⟩,
  ⟨(some 2), .alloc T_api_Interval [(.int .i64 0), (.int .i64 0)], none, []⟩]
def F_angle_SinOver.r1 : List AOper := [
  ⟨(some 3), .load (some 2) (.tmp 1), none, []⟩,
  ⟨(some 4), .call (.func n_angle_over) [(.tmp 3), (.func n_angle_Sin), (.const (.int .i64 16384))], none, []⟩,
  ⟨none, .store 2 (.tmp 2) (.tmp 4), none, []⟩]
def F_angle_SinOver : AFunc := ⟨(.seq (.region F_angle_SinOver.r0) (.seq (.region F_angle_SinOver.r1) .ret)),
  [.inr (2, (some 2))]⟩
/-! armplan/interval.Neg -/
def F_interval_Neg.r0 : List AOper := [
  ⟨(some 1), .box T_api_Interval (.tmp 0), none, []⟩,
  ⟨(some 2), .alloc T_api_Interval [(.int .i64 0), (.int .i64 0)], none, []⟩]
def F_interval_Neg.r1 : List AOper := [
  ⟨(some 3), .load (some 2) (.tmp 1), none, []⟩,
  ⟨(some 4), .call (.func n_interval_Valid) [(.tmp 3)], none, []⟩,
  ⟨(some 5), .un .not (.tmp 4), none, []⟩]
def F_interval_Neg.r2 : List AOper := [
  ⟨(some 6), .build [(.int .i64 0), (.int .i64 0)] [], none, []⟩,
  ⟨none, .store 2 (.tmp 2) (.tmp 6), none, []⟩]
def F_interval_Neg.r3 : List AOper := [
  ⟨(some 7), .fieldAddr 1 (.tmp 1), none, []⟩,
  ⟨(some 8), .load none (.tmp 7), none, []⟩,
  ⟨(some 9), .un .neg (.tmp 8), none, []⟩,
  ⟨(some 10), .fieldAddr 0 (.tmp 1), none, []⟩,
  ⟨(some 11), .load none (.tmp 10), none, []⟩,
  ⟨(some 12), .un .neg (.tmp 11), none, []⟩,
  ⟨(some 13), .build [(.int .i64 0), (.int .i64 0)] [(0, 1, (.tmp 9)), (1, 1, (.tmp 12))], none, []⟩,
  ⟨none, .store 2 (.tmp 2) (.tmp 13), none, []⟩]
def F_interval_Neg : AFunc := ⟨(.seq (.region F_interval_Neg.r0) (.seq (.seq (.region F_interval_Neg.r1) (.cond (.tmp 5) (.seq (.region F_interval_Neg.r2) .ret) .skip)) (.seq (.region F_interval_Neg.r3) .ret))),
  [.inr (2, (some 2))]⟩
/-! armplan/fixed.ShiftDown -/
def F_fixed_ShiftDown.r0 : List AOper := [
  ⟨(some 4), .mv (.const (.int .i64 0)), none, []⟩]
def F_fixed_ShiftDown.r1 : List AOper := [
  ⟨(some 5), .mv (.tmp 1), none, []⟩,
  ⟨(some 6), .bin .lss .no (.tmp 5) (.const (.int .i64 0)), none, []⟩]
def F_fixed_ShiftDown.r2 : List AOper := [
  ⟨(some 7), .mv (.tmp 0), none, []⟩,
  ⟨(some 4), .mv (.tmp 7), none, []⟩]
def F_fixed_ShiftDown.r3 : List AOper := [
  ⟨(some 8), .mv (.tmp 0), none, []⟩,
  ⟨(some 9), .mv (.tmp 1), none, []⟩,
  ⟨(some 10), .bin .shr .no (.tmp 8) (.tmp 9), none, []⟩,
  ⟨(some 4), .mv (.tmp 10), none, []⟩]
def F_fixed_ShiftDown : AFunc := ⟨(.seq (.region F_fixed_ShiftDown.r0) (.seq (.seq (.region F_fixed_ShiftDown.r1) (.cond (.tmp 6) (.seq (.region F_fixed_ShiftDown.r2) .ret) .skip)) (.seq (.region F_fixed_ShiftDown.r3) .ret))),
  [.inl 4]⟩
/-! armplan/fixed.ShiftUp -/
def F_fixed_ShiftUp.r0 : List AOper := [
  ⟨(some 4), .mv (.const (.int .i64 0)), none, []⟩]
def F_fixed_ShiftUp.r1 : List AOper := [
  ⟨(some 6), .mv (.tmp 0), none, []⟩,
  ⟨(some 7), .mv (.tmp 1), none, []⟩,
  ⟨(some 8), .call (.func n_fixed_ShiftDown) [(.tmp 6), (.tmp 7)], none, []⟩,
  ⟨(some 5), .mv (.tmp 8), none, []⟩]
def F_fixed_ShiftUp.r2 : List AOper := [
  ⟨(some 9), .mv (.tmp 1), none, []⟩,
  ⟨(some 10), .bin .geq .no (.tmp 9) (.const (.int .i64 0)), none, []⟩,
  ⟨(some 11), .mv (.tmp 10), none, []⟩,
  ⟨(some 12), .mv (.tmp 5), some ((some 11), true), []⟩,
  ⟨(some 13), .mv (.tmp 1), some ((some 11), true), []⟩,
  ⟨(some 14), .bin .shl .no (.tmp 12) (.tmp 13), some ((some 11), true), []⟩,
  ⟨(some 15), .mv (.tmp 0), some ((some 11), true), []⟩,
  ⟨(some 16), .bin .neq .no (.tmp 14) (.tmp 15), some ((some 11), true), []⟩,
  ⟨(some 17), .pick (.tmp 11) (.tmp 16) (.const (.bool false)), none, []⟩]
def F_fixed_ShiftUp.r3 : List AOper := [
  ⟨(some 18), .mv (.tmp 5), none, []⟩,
  ⟨(some 19), .bin .add .no (.tmp 18) (.const (.int .i64 1)), none, []⟩,
  ⟨(some 5), .mv (.tmp 19), none, []⟩]
def F_fixed_ShiftUp.r4 : List AOper := [
  ⟨(some 20), .mv (.tmp 5), none, []⟩,
  ⟨(some 4), .mv (.tmp 20), none, []⟩]
def F_fixed_ShiftUp : AFunc := ⟨(.seq (.region F_fixed_ShiftUp.r0) (.seq (.region F_fixed_ShiftUp.r1) (.seq (.seq (.region F_fixed_ShiftUp.r2) (.cond (.tmp 17) (.region F_fixed_ShiftUp.r3) .skip)) (.seq (.region F_fixed_ShiftUp.r4) .ret)))),
  [.inl 4]⟩
/-! armplan/angle.over -/
def F_angle_over.r0 : List AOper := [
  ⟨(some 3), .box T_api_Interval (.tmp 0), none, []⟩,
  ⟨(some 6), .alloc T_api_Interval [(.int .i64 0), (.int .i64 0)], none, []⟩]
def F_angle_over.r1 : List AOper := [
  ⟨(some 9), .load (some 2) (.tmp 3), none, []⟩,
  ⟨(some 10), .call (.func n_interval_Valid) [(.tmp 9)], none, []⟩,
  ⟨(some 11), .un .not (.tmp 10), none, []⟩,
  ⟨(some 8), .mv (.tmp 11), none, []⟩]
def F_angle_over.r2 : List AOper := [
  ⟨(some 12), .build [(.int .i64 0), (.int .i64 0)] [], none, []⟩,
  ⟨none, .store 2 (.tmp 6) (.tmp 12), none, []⟩]
def F_angle_over.r3 : List AOper := [
  ⟨(some 14), .load (some 2) (.tmp 3), none, []⟩,
  ⟨(some 15), .call (.func n_interval_Width) [(.tmp 14)], none, []⟩,
  ⟨(some 16), .bin .geq .no (.tmp 15) (.const (.int .i64 65536)), none, []⟩,
  ⟨(some 13), .mv (.tmp 16), none, []⟩]
def F_angle_over.r4 : List AOper := [
  ⟨(some 17), .build [(.int .i64 0), (.int .i64 0)] [(0, 1, (.const (.int .i64 (-65536)))), (1, 1, (.const (.int .i64 65536)))], none, []⟩,
  ⟨none, .store 2 (.tmp 6) (.tmp 17), none, []⟩]
def F_angle_over.r5 : List AOper := [
  ⟨(some 18), .mv (.tmp 1), none, []⟩,
  ⟨(some 19), .fieldAddr 0 (.tmp 3), none, []⟩,
  ⟨(some 20), .load none (.tmp 19), none, []⟩,
  ⟨(some 21), .call (.tmp 18) [(.tmp 20)], none, []⟩,
  ⟨(some 22), .mv (.tmp 1), none, []⟩,
  ⟨(some 23), .fieldAddr 1 (.tmp 3), none, []⟩,
  ⟨(some 24), .load none (.tmp 23), none, [3]⟩,
  ⟨(some 25), .call (.tmp 22) [(.tmp 24)], none, []⟩,
  ⟨(some 26), .call (.func n_interval_Hull) [(.tmp 21), (.tmp 25)], none, []⟩,
  ⟨(some 7), .alloc T_api_Interval [(.int .i64 0), (.int .i64 0)], none, []⟩,
  ⟨none, .store 2 (.tmp 7) (.tmp 26), none, []⟩]
def F_angle_over.r6 : List AOper := [
  ⟨(some 27), .load (some 2) (.tmp 3), none, []⟩,
  ⟨(some 28), .mv (.tmp 2), none, []⟩,
  ⟨(some 29), .call (.func n_angle_meets) [(.tmp 27), (.tmp 28)], none, []⟩]
def F_angle_over.r7 : List AOper := [
  ⟨(some 30), .fieldAddr 1 (.tmp 7), none, []⟩,
  ⟨none, .store 1 (.tmp 30) (.const (.int .i64 65536)), none, []⟩]
def F_angle_over.r8 : List AOper := [
  ⟨(some 31), .load (some 2) (.tmp 3), none, []⟩,
  ⟨(some 32), .mv (.tmp 2), none, []⟩,
  ⟨(some 33), .bin .add .no (.tmp 32) (.const (.int .i64 32768)), none, []⟩,
  ⟨(some 34), .call (.func n_angle_meets) [(.tmp 31), (.tmp 33)], none, []⟩]
def F_angle_over.r9 : List AOper := [
  ⟨(some 35), .fieldAddr 0 (.tmp 7), none, []⟩,
  ⟨none, .store 1 (.tmp 35) (.const (.int .i64 (-65536))), none, []⟩]
def F_angle_over.r10 : List AOper := [
  ⟨(some 36), .load (some 2) (.tmp 7), none, []⟩,
  ⟨none, .store 2 (.tmp 6) (.tmp 36), none, []⟩]
def F_angle_over : AFunc := ⟨(.seq (.region F_angle_over.r0) (.seq (.block 0 (.seq (.region F_angle_over.r1) (.cond (.tmp 8) (.seq (.region F_angle_over.r2) .ret) (.seq (.region F_angle_over.r3) (.cond (.tmp 13) (.seq (.region F_angle_over.r4) .ret) .skip))))) (.seq (.dregion F_angle_over.r5) (.seq (.seq (.region F_angle_over.r6) (.cond (.tmp 29) (.region F_angle_over.r7) .skip)) (.seq (.seq (.region F_angle_over.r8) (.cond (.tmp 34) (.region F_angle_over.r9) .skip)) (.seq (.region F_angle_over.r10) .ret)))))),
  [.inr (6, (some 2))]⟩
/-! armplan/angle.Cos -/
def F_angle_Cos.r0 : List AOper := [
  ⟨(some 2), .alloc T_api_Interval [(.int .i64 0), (.int .i64 0)], none, []⟩]
def F_angle_Cos.r1 : List AOper := [
  ⟨(some 3), .mv (.tmp 0), none, []⟩,
  ⟨(some 4), .call (.func n_angle_mod) [(.tmp 3)], none, []⟩,
  ⟨(some 5), .bin .add .no (.tmp 4) (.const (.int .i64 16384)), none, []⟩,
  ⟨(some 6), .call (.func n_angle_Sin) [(.tmp 5)], none, []⟩,
  ⟨none, .store 2 (.tmp 2) (.tmp 6), none, []⟩]
def F_angle_Cos : AFunc := ⟨(.seq (.region F_angle_Cos.r0) (.seq (.region F_angle_Cos.r1) .ret)),
  [.inr (2, (some 2))]⟩
/-! armplan/angle.Sin -/
def F_angle_Sin.r0 : List AOper := [
  ⟨(some 2), .alloc T_api_Interval [(.int .i64 0), (.int .i64 0)], none, []⟩]
def F_angle_Sin.r1 : List AOper := [
  ⟨(some 5), .mv (.tmp 0), none, []⟩,
  ⟨(some 6), .call (.func n_angle_mod) [(.tmp 5)], none, []⟩,
  ⟨(some 3), .mv (.tmp 6), none, []⟩]
def F_angle_Sin.r2 : List AOper := [
  ⟨(some 7), .mv (.tmp 3), none, []⟩,
  ⟨(some 8), .bin .rem .no (.tmp 7) (.const (.int .i64 16384)), none, []⟩,
  ⟨(some 4), .mv (.tmp 8), none, []⟩]
def F_angle_Sin.r3 : List AOper := [
  ⟨(some 9), .mv (.tmp 3), none, []⟩,
  ⟨(some 10), .bin .quo .no (.tmp 9) (.const (.int .i64 16384)), none, []⟩]
def F_angle_Sin.r4 : List AOper := [
  ⟨(some 12), .bin .eql .no (.tmp 10) (.const (.int .i64 0)), none, []⟩,
  ⟨(some 11), .mv (.tmp 12), none, []⟩]
def F_angle_Sin.r5 : List AOper := [
  ⟨(some 13), .mv (.tmp 4), none, []⟩,
  ⟨(some 14), .call (.func n_angle_rising) [(.tmp 13)], none, []⟩,
  ⟨none, .store 2 (.tmp 2) (.tmp 14), none, []⟩]
def F_angle_Sin.r6 : List AOper := [
  ⟨(some 16), .bin .eql .no (.tmp 10) (.const (.int .i64 1)), none, []⟩,
  ⟨(some 15), .mv (.tmp 16), none, []⟩]
def F_angle_Sin.r7 : List AOper := [
  ⟨(some 17), .mv (.tmp 4), none, []⟩,
  ⟨(some 18), .bin .sub .no (.const (.int .i64 16384)) (.tmp 17), none, []⟩,
  ⟨(some 19), .call (.func n_angle_rising) [(.tmp 18)], none, []⟩,
  ⟨none, .store 2 (.tmp 2) (.tmp 19), none, []⟩]
def F_angle_Sin.r8 : List AOper := [
  ⟨(some 21), .bin .eql .no (.tmp 10) (.const (.int .i64 2)), none, []⟩,
  ⟨(some 20), .mv (.tmp 21), none, []⟩]
def F_angle_Sin.r9 : List AOper := [
  ⟨(some 22), .mv (.tmp 4), none, []⟩,
  ⟨(some 23), .call (.func n_angle_rising) [(.tmp 22)], none, []⟩,
  ⟨(some 24), .call (.func n_interval_Neg) [(.tmp 23)], none, []⟩,
  ⟨none, .store 2 (.tmp 2) (.tmp 24), none, []⟩]
def F_angle_Sin.r10 : List AOper := [
  ⟨(some 25), .mv (.tmp 4), none, []⟩,
  ⟨(some 26), .bin .sub .no (.const (.int .i64 16384)) (.tmp 25), none, []⟩,
  ⟨(some 27), .call (.func n_angle_rising) [(.tmp 26)], none, []⟩,
  ⟨(some 28), .call (.func n_interval_Neg) [(.tmp 27)], none, []⟩,
  ⟨none, .store 2 (.tmp 2) (.tmp 28), none, []⟩]
def F_angle_Sin : AFunc := ⟨(.seq (.region F_angle_Sin.r0) (.seq (.region F_angle_Sin.r1) (.seq (.region F_angle_Sin.r2) (.seq (.seq (.region F_angle_Sin.r3) (.block 0 (.seq (.region F_angle_Sin.r4) (.cond (.tmp 11) (.seq (.region F_angle_Sin.r5) .ret) (.seq (.region F_angle_Sin.r6) (.cond (.tmp 15) (.seq (.region F_angle_Sin.r7) .ret) (.seq (.region F_angle_Sin.r8) (.cond (.tmp 20) (.seq (.region F_angle_Sin.r9) .ret) .skip)))))))) (.seq (.region F_angle_Sin.r10) .ret))))),
  [.inr (2, (some 2))]⟩
/-! armplan/interval.Width -/
def F_interval_Width.r0 : List AOper := [
  ⟨(some 1), .box T_api_Interval (.tmp 0), none, []⟩,
  ⟨(some 2), .mv (.const (.int .i64 0)), none, []⟩]
def F_interval_Width.r1 : List AOper := [
  ⟨(some 3), .load (some 2) (.tmp 1), none, []⟩,
  ⟨(some 4), .call (.func n_interval_Valid) [(.tmp 3)], none, []⟩,
  ⟨(some 5), .un .not (.tmp 4), none, []⟩]
def F_interval_Width.r2 : List AOper := [
  ⟨(some 2), .mv (.const (.int .i64 0)), none, []⟩]
def F_interval_Width.r3 : List AOper := [
  ⟨(some 6), .fieldAddr 1 (.tmp 1), none, []⟩,
  ⟨(some 7), .load none (.tmp 6), none, []⟩,
  ⟨(some 8), .fieldAddr 0 (.tmp 1), none, []⟩,
  ⟨(some 9), .load none (.tmp 8), none, []⟩,
  ⟨(some 10), .bin .sub .no (.tmp 7) (.tmp 9), none, []⟩,
  ⟨(some 2), .mv (.tmp 10), none, []⟩]
def F_interval_Width : AFunc := ⟨(.seq (.region F_interval_Width.r0) (.seq (.seq (.region F_interval_Width.r1) (.cond (.tmp 5) (.seq (.region F_interval_Width.r2) .ret) .skip)) (.seq (.region F_interval_Width.r3) .ret))),
  [.inl 2]⟩
/-! armplan/interval.Hull -/
def F_interval_Hull.r0 : List AOper := [
  ⟨(some 2), .box T_api_Interval (.tmp 0), none, []⟩,
  ⟨(some 3), .box T_api_Interval (.tmp 1), none, []⟩,
  ⟨(some 4), .alloc T_api_Interval [(.int .i64 0), (.int .i64 0)], none, []⟩]
def F_interval_Hull.r1 : List AOper := [
  ⟨(some 5), .load (some 2) (.tmp 2), none, []⟩,
  ⟨(some 6), .load (some 2) (.tmp 3), none, []⟩,
  ⟨(some 7), .call (.func n_interval_both) [(.tmp 5), (.tmp 6)], none, []⟩,
  ⟨(some 8), .un .not (.tmp 7), none, []⟩]
def F_interval_Hull.r2 : List AOper := [
  ⟨(some 9), .build [(.int .i64 0), (.int .i64 0)] [], none, []⟩,
  ⟨none, .store 2 (.tmp 4) (.tmp 9), none, []⟩]
def F_interval_Hull.r3 : List AOper := [
  ⟨(some 10), .fieldAddr 0 (.tmp 2), none, []⟩,
  ⟨(some 11), .load none (.tmp 10), none, []⟩,
  ⟨(some 12), .fieldAddr 0 (.tmp 3), none, []⟩,
  ⟨(some 13), .load none (.tmp 12), none, []⟩,
  ⟨(some 14), .minmax false [(.tmp 11), (.tmp 13)], none, []⟩,
  ⟨(some 15), .fieldAddr 1 (.tmp 2), none, []⟩,
  ⟨(some 16), .load none (.tmp 15), none, []⟩,
  ⟨(some 17), .fieldAddr 1 (.tmp 3), none, []⟩,
  ⟨(some 18), .load none (.tmp 17), none, []⟩,
  ⟨(some 19), .minmax true [(.tmp 16), (.tmp 18)], none, []⟩,
  ⟨(some 20), .build [(.int .i64 0), (.int .i64 0)] [(0, 1, (.tmp 14)), (1, 1, (.tmp 19))], none, []⟩,
  ⟨none, .store 2 (.tmp 4) (.tmp 20), none, []⟩]
def F_interval_Hull : AFunc := ⟨(.seq (.region F_interval_Hull.r0) (.seq (.seq (.region F_interval_Hull.r1) (.cond (.tmp 8) (.seq (.region F_interval_Hull.r2) .ret) .skip)) (.seq (.region F_interval_Hull.r3) .ret))),
  [.inr (4, (some 2))]⟩
/-! armplan/angle.meets -/
def F_angle_meets.r0 : List AOper := [
  ⟨(some 2), .box T_api_Interval (.tmp 0), none, []⟩,
  ⟨(some 4), .mv (.const (.bool false)), none, []⟩]
def F_angle_meets.r1 : List AOper := [
  ⟨(some 5), .fieldAddr 0 (.tmp 2), none, []⟩,
  ⟨(some 6), .load none (.tmp 5), none, [6]⟩,
  ⟨(some 7), .mv (.tmp 1), none, []⟩,
  ⟨(some 8), .fieldAddr 0 (.tmp 2), none, []⟩,
  ⟨(some 9), .load none (.tmp 8), none, []⟩,
  ⟨(some 10), .bin .sub .no (.tmp 7) (.tmp 9), none, []⟩,
  ⟨(some 11), .call (.func n_angle_mod) [(.tmp 10)], none, []⟩,
  ⟨(some 12), .bin .add .no (.tmp 6) (.tmp 11), none, []⟩,
  ⟨(some 13), .fieldAddr 1 (.tmp 2), none, []⟩,
  ⟨(some 14), .load none (.tmp 13), none, [6]⟩,
  ⟨(some 15), .bin .leq .no (.tmp 12) (.tmp 14), none, []⟩,
  ⟨(some 4), .mv (.tmp 15), none, []⟩]
def F_angle_meets : AFunc := ⟨(.seq (.region F_angle_meets.r0) (.seq (.dregion F_angle_meets.r1) .ret)),
  [.inl 4]⟩
/-! armplan/angle.mod -/
def F_angle_mod.r0 : List AOper := [
  ⟨(some 2), .mv (.const (.int .i64 0)), none, []⟩]
def F_angle_mod.r1 : List AOper := [
  ⟨(some 4), .mv (.tmp 0), none, []⟩,
  ⟨(some 5), .bin .rem .no (.tmp 4) (.const (.int .i64 65536)), none, []⟩,
  ⟨(some 3), .mv (.tmp 5), none, []⟩]
def F_angle_mod.r2 : List AOper := [
  ⟨(some 6), .mv (.tmp 3), none, []⟩,
  ⟨(some 7), .bin .lss .no (.tmp 6) (.const (.int .i64 0)), none, []⟩]
def F_angle_mod.r3 : List AOper := [
  ⟨(some 8), .mv (.tmp 3), none, []⟩,
  ⟨(some 9), .bin .add .no (.tmp 8) (.const (.int .i64 65536)), none, []⟩,
  ⟨(some 3), .mv (.tmp 9), none, []⟩]
def F_angle_mod.r4 : List AOper := [
  ⟨(some 10), .mv (.tmp 3), none, []⟩,
  ⟨(some 2), .mv (.tmp 10), none, []⟩]
def F_angle_mod : AFunc := ⟨(.seq (.region F_angle_mod.r0) (.seq (.region F_angle_mod.r1) (.seq (.seq (.region F_angle_mod.r2) (.cond (.tmp 7) (.region F_angle_mod.r3) .skip)) (.seq (.region F_angle_mod.r4) .ret)))),
  [.inl 2]⟩
/-! armplan/angle.rising -/
def F_angle_rising.r0 : List AOper := [
  ⟨(some 2), .alloc T_api_Interval [(.int .i64 0), (.int .i64 0)], none, []⟩]
def F_angle_rising.r1 : List AOper := [
  ⟨(some 3), .mv (.tmp 0), none, []⟩,
  ⟨(some 4), .bin .leq .no (.tmp 3) (.const (.int .i64 8192)), none, []⟩]
def F_angle_rising.r2 : List AOper := [
  ⟨(some 5), .mv (.tmp 0), none, []⟩,
  ⟨(some 6), .call (.func n_angle_sine) [(.tmp 5)], none, []⟩,
  ⟨none, .store 2 (.tmp 2) (.tmp 6), none, []⟩]
def F_angle_rising.r3 : List AOper := [
  ⟨(some 7), .mv (.tmp 0), none, []⟩,
  ⟨(some 8), .bin .sub .no (.const (.int .i64 16384)) (.tmp 7), none, []⟩,
  ⟨(some 9), .call (.func n_angle_cosine) [(.tmp 8)], none, []⟩,
  ⟨none, .store 2 (.tmp 2) (.tmp 9), none, []⟩]
def F_angle_rising : AFunc := ⟨(.seq (.region F_angle_rising.r0) (.seq (.seq (.region F_angle_rising.r1) (.cond (.tmp 4) (.seq (.region F_angle_rising.r2) .ret) .skip)) (.seq (.region F_angle_rising.r3) .ret))),
  [.inr (2, (some 2))]⟩
/-! armplan/angle.sine -/
def F_angle_sine.r0 : List AOper := [
  ⟨(some 2), .alloc T_api_Interval [(.int .i64 0), (.int .i64 0)], none, []⟩]
def F_angle_sine.r1 : List AOper := [
  ⟨(some 8), .mv (.tmp 0), none, []⟩,
  ⟨(some 9), .call (.func n_angle_powersOf) [(.tmp 8)], none, []⟩,
  ⟨(some 3), .alloc T_angle_powers [(.int .i64 0), (.int .i64 0), (.int .i64 0), (.int .i64 0), (.int .i64 0), (.int .i64 0), (.int .i64 0), (.int .i64 0), (.int .i64 0), (.int .i64 0), (.int .i64 0), (.int .i64 0), (.int .i64 0), (.int .i64 0), (.int .i64 0), (.int .i64 0), (.int .i64 0), (.int .i64 0), (.int .i64 0), (.int .i64 0), (.int .i64 0), (.int .i64 0)], none, []⟩,
  ⟨none, .store 22 (.tmp 3) (.tmp 9), none, []⟩]
def F_angle_sine.r2 : List AOper := [
  ⟨(some 10), .fieldAddr 0 (.tmp 3), none, []⟩,
  ⟨(some 11), .load (some 11) (.tmp 10), none, []⟩,
  ⟨(some 12), .fieldAddr 11 (.tmp 3), none, []⟩,
  ⟨(some 13), .load (some 11) (.tmp 12), none, [6]⟩,
  ⟨(some 4), .alloc T_11_int64 [(.int .i64 0), (.int .i64 0), (.int .i64 0), (.int .i64 0), (.int .i64 0), (.int .i64 0), (.int .i64 0), (.int .i64 0), (.int .i64 0), (.int .i64 0), (.int .i64 0)], none, []⟩,
  ⟨(some 5), .alloc T_11_int64 [(.int .i64 0), (.int .i64 0), (.int .i64 0), (.int .i64 0), (.int .i64 0), (.int .i64 0), (.int .i64 0), (.int .i64 0), (.int .i64 0), (.int .i64 0), (.int .i64 0)], none, []⟩,
  ⟨none, .store 11 (.tmp 4) (.tmp 11), none, []⟩,
  ⟨none, .store 11 (.tmp 5) (.tmp 13), none, []⟩]
def F_angle_sine.r3 : List AOper := [
  ⟨(some 14), .idxAddr (some 11) 1 (.tmp 4) (.const (.int .i64 1)), none, []⟩,
  ⟨(some 15), .load none (.tmp 14), none, [4, 11]⟩,
  ⟨(some 16), .idxAddr (some 11) 1 (.tmp 5) (.const (.int .i64 3)), none, []⟩,
  ⟨(some 17), .load none (.tmp 16), none, []⟩,
  ⟨(some 18), .call (.func n_angle_up) [(.tmp 17), (.const (.int .i64 6))], none, []⟩,
  ⟨(some 19), .un .neg (.tmp 18), none, []⟩,
  ⟨(some 20), .idxAddr (some 11) 1 (.tmp 4) (.const (.int .i64 5)), none, []⟩,
  ⟨(some 21), .load none (.tmp 20), none, [4, 11]⟩,
  ⟨(some 22), .bin .quo .no (.tmp 21) (.const (.int .i64 120)), none, []⟩,
  ⟨(some 23), .idxAddr (some 11) 1 (.tmp 5) (.const (.int .i64 7)), none, []⟩,
  ⟨(some 24), .load none (.tmp 23), none, [4]⟩,
  ⟨(some 25), .call (.func n_angle_up) [(.tmp 24), (.const (.int .i64 5040))], none, []⟩,
  ⟨(some 26), .un .neg (.tmp 25), none, []⟩,
  ⟨(some 27), .buildSlice T_int64 [(.int .i64 0), (.int .i64 0), (.int .i64 0), (.int .i64 0)] 4 [(0, 1, (.tmp 15)), (1, 1, (.tmp 19)), (2, 1, (.tmp 22)), (3, 1, (.tmp 26))], none, []⟩,
  ⟨(some 28), .call (.func n_angle_total) [(.tmp 27)], none, []⟩,
  ⟨(some 6), .mv (.tmp 28), none, []⟩]
def F_angle_sine.r4 : List AOper := [
  ⟨(some 29), .idxAddr (some 11) 1 (.tmp 5) (.const (.int .i64 1)), none, []⟩,
  ⟨(some 30), .load none (.tmp 29), none, [8, 15]⟩,
  ⟨(some 31), .idxAddr (some 11) 1 (.tmp 4) (.const (.int .i64 3)), none, []⟩,
  ⟨(some 32), .load none (.tmp 31), none, [8, 15]⟩,
  ⟨(some 33), .bin .quo .no (.tmp 32) (.const (.int .i64 6)), none, []⟩,
  ⟨(some 34), .un .neg (.tmp 33), none, []⟩,
  ⟨(some 35), .idxAddr (some 11) 1 (.tmp 5) (.const (.int .i64 5)), none, []⟩,
  ⟨(some 36), .load none (.tmp 35), none, []⟩,
  ⟨(some 37), .call (.func n_angle_up) [(.tmp 36), (.const (.int .i64 120))], none, []⟩,
  ⟨(some 38), .idxAddr (some 11) 1 (.tmp 4) (.const (.int .i64 7)), none, []⟩,
  ⟨(some 39), .load none (.tmp 38), none, [8, 15]⟩,
  ⟨(some 40), .bin .quo .no (.tmp 39) (.const (.int .i64 5040)), none, []⟩,
  ⟨(some 41), .un .neg (.tmp 40), none, []⟩,
  ⟨(some 42), .idxAddr (some 11) 1 (.tmp 5) (.const (.int .i64 9)), none, []⟩,
  ⟨(some 43), .load none (.tmp 42), none, [8]⟩,
  ⟨(some 44), .call (.func n_angle_up) [(.tmp 43), (.const (.int .i64 362880))], none, []⟩,
  ⟨(some 45), .buildSlice T_int64 [(.int .i64 0), (.int .i64 0), (.int .i64 0), (.int .i64 0), (.int .i64 0)] 5 [(0, 1, (.tmp 30)), (1, 1, (.tmp 34)), (2, 1, (.tmp 37)), (3, 1, (.tmp 41)), (4, 1, (.tmp 44))], none, []⟩,
  ⟨(some 46), .call (.func n_angle_total) [(.tmp 45)], none, []⟩,
  ⟨(some 7), .mv (.tmp 46), none, []⟩]
def F_angle_sine.r5 : List AOper := [
  ⟨(some 47), .mv (.tmp 6), none, []⟩,
  ⟨(some 48), .mv (.tmp 7), none, []⟩,
  ⟨(some 49), .call (.func n_angle_enclosure) [(.tmp 47), (.tmp 48)], none, []⟩,
  ⟨none, .store 2 (.tmp 2) (.tmp 49), none, []⟩]
def F_angle_sine : AFunc := ⟨(.seq (.region F_angle_sine.r0) (.seq (.region F_angle_sine.r1) (.seq (.dregion F_angle_sine.r2) (.seq (.dregion F_angle_sine.r3) (.seq (.dregion F_angle_sine.r4) (.seq (.region F_angle_sine.r5) .ret)))))),
  [.inr (2, (some 2))]⟩
/-! armplan/angle.cosine -/
def F_angle_cosine.r0 : List AOper := [
  ⟨(some 2), .alloc T_api_Interval [(.int .i64 0), (.int .i64 0)], none, []⟩]
def F_angle_cosine.r1 : List AOper := [
  ⟨(some 8), .mv (.tmp 0), none, []⟩,
  ⟨(some 9), .call (.func n_angle_powersOf) [(.tmp 8)], none, []⟩,
  ⟨(some 3), .alloc T_angle_powers [(.int .i64 0), (.int .i64 0), (.int .i64 0), (.int .i64 0), (.int .i64 0), (.int .i64 0), (.int .i64 0), (.int .i64 0), (.int .i64 0), (.int .i64 0), (.int .i64 0), (.int .i64 0), (.int .i64 0), (.int .i64 0), (.int .i64 0), (.int .i64 0), (.int .i64 0), (.int .i64 0), (.int .i64 0), (.int .i64 0), (.int .i64 0), (.int .i64 0)], none, []⟩,
  ⟨none, .store 22 (.tmp 3) (.tmp 9), none, []⟩]
def F_angle_cosine.r2 : List AOper := [
  ⟨(some 10), .fieldAddr 0 (.tmp 3), none, []⟩,
  ⟨(some 11), .load (some 11) (.tmp 10), none, []⟩,
  ⟨(some 12), .fieldAddr 11 (.tmp 3), none, []⟩,
  ⟨(some 13), .load (some 11) (.tmp 12), none, [6]⟩,
  ⟨(some 4), .alloc T_11_int64 [(.int .i64 0), (.int .i64 0), (.int .i64 0), (.int .i64 0), (.int .i64 0), (.int .i64 0), (.int .i64 0), (.int .i64 0), (.int .i64 0), (.int .i64 0), (.int .i64 0)], none, []⟩,
  ⟨(some 5), .alloc T_11_int64 [(.int .i64 0), (.int .i64 0), (.int .i64 0), (.int .i64 0), (.int .i64 0), (.int .i64 0), (.int .i64 0), (.int .i64 0), (.int .i64 0), (.int .i64 0), (.int .i64 0)], none, []⟩,
  ⟨none, .store 11 (.tmp 4) (.tmp 11), none, []⟩,
  ⟨none, .store 11 (.tmp 5) (.tmp 13), none, []⟩]
def F_angle_cosine.r3 : List AOper := [
  ⟨(some 14), .idxAddr (some 11) 1 (.tmp 5) (.const (.int .i64 2)), none, []⟩,
  ⟨(some 15), .load none (.tmp 14), none, []⟩,
  ⟨(some 16), .call (.func n_angle_up) [(.tmp 15), (.const (.int .i64 2))], none, []⟩,
  ⟨(some 17), .un .neg (.tmp 16), none, []⟩,
  ⟨(some 18), .idxAddr (some 11) 1 (.tmp 4) (.const (.int .i64 4)), none, []⟩,
  ⟨(some 19), .load none (.tmp 18), none, [2, 9, 16]⟩,
  ⟨(some 20), .bin .quo .no (.tmp 19) (.const (.int .i64 24)), none, []⟩,
  ⟨(some 21), .idxAddr (some 11) 1 (.tmp 5) (.const (.int .i64 6)), none, []⟩,
  ⟨(some 22), .load none (.tmp 21), none, [2]⟩,
  ⟨(some 23), .call (.func n_angle_up) [(.tmp 22), (.const (.int .i64 720))], none, []⟩,
  ⟨(some 24), .un .neg (.tmp 23), none, []⟩,
  ⟨(some 25), .idxAddr (some 11) 1 (.tmp 4) (.const (.int .i64 8)), none, []⟩,
  ⟨(some 26), .load none (.tmp 25), none, [2, 9, 16]⟩,
  ⟨(some 27), .bin .quo .no (.tmp 26) (.const (.int .i64 40320)), none, []⟩,
  ⟨(some 28), .idxAddr (some 11) 1 (.tmp 5) (.const (.int .i64 10)), none, []⟩,
  ⟨(some 29), .load none (.tmp 28), none, [2, 9]⟩,
  ⟨(some 30), .call (.func n_angle_up) [(.tmp 29), (.const (.int .i64 3628800))], none, []⟩,
  ⟨(some 31), .un .neg (.tmp 30), none, []⟩,
  ⟨(some 32), .buildSlice T_int64 [(.int .i64 0), (.int .i64 0), (.int .i64 0), (.int .i64 0), (.int .i64 0), (.int .i64 0)] 6 [(0, 1, (.const (.int .i64 1073741824))), (1, 1, (.tmp 17)), (2, 1, (.tmp 20)), (3, 1, (.tmp 24)), (4, 1, (.tmp 27)), (5, 1, (.tmp 31))], none, []⟩,
  ⟨(some 33), .call (.func n_angle_total) [(.tmp 32)], none, []⟩,
  ⟨(some 6), .mv (.tmp 33), none, []⟩]
def F_angle_cosine.r4 : List AOper := [
  ⟨(some 34), .idxAddr (some 11) 1 (.tmp 4) (.const (.int .i64 2)), none, []⟩,
  ⟨(some 35), .load none (.tmp 34), none, [6, 13]⟩,
  ⟨(some 36), .bin .quo .no (.tmp 35) (.const (.int .i64 2)), none, []⟩,
  ⟨(some 37), .un .neg (.tmp 36), none, []⟩,
  ⟨(some 38), .idxAddr (some 11) 1 (.tmp 5) (.const (.int .i64 4)), none, []⟩,
  ⟨(some 39), .load none (.tmp 38), none, []⟩,
  ⟨(some 40), .call (.func n_angle_up) [(.tmp 39), (.const (.int .i64 24))], none, []⟩,
  ⟨(some 41), .idxAddr (some 11) 1 (.tmp 4) (.const (.int .i64 6)), none, []⟩,
  ⟨(some 42), .load none (.tmp 41), none, [6, 13]⟩,
  ⟨(some 43), .bin .quo .no (.tmp 42) (.const (.int .i64 720)), none, []⟩,
  ⟨(some 44), .un .neg (.tmp 43), none, []⟩,
  ⟨(some 45), .idxAddr (some 11) 1 (.tmp 5) (.const (.int .i64 8)), none, []⟩,
  ⟨(some 46), .load none (.tmp 45), none, [6]⟩,
  ⟨(some 47), .call (.func n_angle_up) [(.tmp 46), (.const (.int .i64 40320))], none, []⟩,
  ⟨(some 48), .buildSlice T_int64 [(.int .i64 0), (.int .i64 0), (.int .i64 0), (.int .i64 0), (.int .i64 0)] 5 [(0, 1, (.const (.int .i64 1073741824))), (1, 1, (.tmp 37)), (2, 1, (.tmp 40)), (3, 1, (.tmp 44)), (4, 1, (.tmp 47))], none, []⟩,
  ⟨(some 49), .call (.func n_angle_total) [(.tmp 48)], none, []⟩,
  ⟨(some 7), .mv (.tmp 49), none, []⟩]
def F_angle_cosine.r5 : List AOper := [
  ⟨(some 50), .mv (.tmp 6), none, []⟩,
  ⟨(some 51), .mv (.tmp 7), none, []⟩,
  ⟨(some 52), .call (.func n_angle_enclosure) [(.tmp 50), (.tmp 51)], none, []⟩,
  ⟨none, .store 2 (.tmp 2) (.tmp 52), none, []⟩]
def F_angle_cosine : AFunc := ⟨(.seq (.region F_angle_cosine.r0) (.seq (.region F_angle_cosine.r1) (.seq (.dregion F_angle_cosine.r2) (.seq (.dregion F_angle_cosine.r3) (.seq (.dregion F_angle_cosine.r4) (.seq (.region F_angle_cosine.r5) .ret)))))),
  [.inr (2, (some 2))]⟩
/-! armplan/angle.powersOf -/
def F_angle_powersOf.r0 : List AOper := [
  ⟨(some 2), .alloc T_angle_powers [(.int .i64 0), (.int .i64 0), (.int .i64 0), (.int .i64 0), (.int .i64 0), (.int .i64 0), (.int .i64 0), (.int .i64 0), (.int .i64 0), (.int .i64 0), (.int .i64 0), (.int .i64 0), (.int .i64 0), (.int .i64 0), (.int .i64 0), (.int .i64 0), (.int .i64 0), (.int .i64 0), (.int .i64 0), (.int .i64 0), (.int .i64 0), (.int .i64 0)], none, []⟩]
def F_angle_powersOf.r1 : List AOper := [
  ⟨(some 3), .alloc T_angle_powers [(.int .i64 0), (.int .i64 0), (.int .i64 0), (.int .i64 0), (.int .i64 0), (.int .i64 0), (.int .i64 0), (.int .i64 0), (.int .i64 0), (.int .i64 0), (.int .i64 0), (.int .i64 0), (.int .i64 0), (.int .i64 0), (.int .i64 0), (.int .i64 0), (.int .i64 0), (.int .i64 0), (.int .i64 0), (.int .i64 0), (.int .i64 0), (.int .i64 0)], none, []⟩]
def F_angle_powersOf.r2 : List AOper := [
  ⟨(some 5), .mv (.tmp 0), none, []⟩,
  ⟨(some 6), .bin .mul .no (.tmp 5) (.const (.int .i64 6746518852)), none, []⟩,
  ⟨(some 7), .bin .quo .no (.tmp 6) (.const (.int .i64 65536)), none, []⟩,
  ⟨(some 8), .mv (.tmp 0), none, []⟩,
  ⟨(some 9), .bin .mul .no (.tmp 8) (.const (.int .i64 6746518853)), none, []⟩,
  ⟨(some 10), .call (.func n_angle_up) [(.tmp 9), (.const (.int .i64 65536))], none, []⟩,
  ⟨(some 11), .fieldAddr 0 (.tmp 3), none, []⟩,
  ⟨(some 12), .idxAddr (some 11) 1 (.tmp 11) (.const (.int .i64 1)), none, []⟩,
  ⟨none, .store 1 (.tmp 12) (.tmp 7), none, []⟩,
  ⟨(some 13), .fieldAddr 11 (.tmp 3), none, []⟩,
  ⟨(some 14), .idxAddr (some 11) 1 (.tmp 13) (.const (.int .i64 1)), none, []⟩,
  ⟨none, .store 1 (.tmp 14) (.tmp 10), none, []⟩]
def F_angle_powersOf.r3 : List AOper := [
  ⟨(some 4), .mv (.const (.int .i64 2)), none, []⟩]
def F_angle_powersOf.r4 : List AOper := [
  ⟨(some 15), .mv (.tmp 4), none, []⟩,
  ⟨(some 16), .bin .leq .no (.tmp 15) (.const (.int .i64 10)), none, []⟩]
def F_angle_powersOf.r5 : List AOper := [
  ⟨(some 19), .mv (.tmp 4), none, []⟩,
  ⟨(some 20), .mv (.tmp 4), none, []⟩,
  ⟨(some 21), .mv (.tmp 4), none, []⟩,
  ⟨(some 22), .bin .sub .no (.tmp 21) (.const (.int .i64 1)), none, []⟩,
  ⟨(some 23), .fieldAddr 0 (.tmp 3), none, []⟩,
  ⟨(some 24), .idxAddr (some 11) 1 (.tmp 23) (.tmp 22), none, []⟩,
  ⟨(some 25), .load none (.tmp 24), none, [21]⟩,
  ⟨(some 26), .fieldAddr 0 (.tmp 3), none, []⟩,
  ⟨(some 27), .idxAddr (some 11) 1 (.tmp 26) (.const (.int .i64 1)), none, []⟩,
  ⟨(some 28), .load none (.tmp 27), none, [21]⟩,
  ⟨(some 29), .bin .mul .no (.tmp 25) (.tmp 28), none, []⟩,
  ⟨(some 30), .bin .quo .no (.tmp 29) (.const (.int .i64 1073741824)), none, []⟩,
  ⟨(some 31), .mv (.tmp 4), none, []⟩,
  ⟨(some 32), .bin .sub .no (.tmp 31) (.const (.int .i64 1)), none, []⟩,
  ⟨(some 33), .fieldAddr 11 (.tmp 3), none, []⟩,
  ⟨(some 34), .idxAddr (some 11) 1 (.tmp 33) (.tmp 32), none, []⟩,
  ⟨(some 35), .load none (.tmp 34), none, []⟩,
  ⟨(some 36), .fieldAddr 11 (.tmp 3), none, []⟩,
  ⟨(some 37), .idxAddr (some 11) 1 (.tmp 36) (.const (.int .i64 1)), none, []⟩,
  ⟨(some 38), .load none (.tmp 37), none, []⟩,
  ⟨(some 39), .bin .mul .no (.tmp 35) (.tmp 38), none, []⟩,
  ⟨(some 40), .call (.func n_angle_up) [(.tmp 39), (.const (.int .i64 1073741824))], none, []⟩,
  ⟨(some 41), .fieldAddr 0 (.tmp 3), none, []⟩,
  ⟨(some 42), .idxAddr (some 11) 1 (.tmp 41) (.tmp 19), none, []⟩,
  ⟨none, .store 1 (.tmp 42) (.tmp 30), none, []⟩,
  ⟨(some 43), .fieldAddr 11 (.tmp 3), none, []⟩,
  ⟨(some 44), .idxAddr (some 11) 1 (.tmp 43) (.tmp 20), none, []⟩,
  ⟨none, .store 1 (.tmp 44) (.tmp 40), none, []⟩]
def F_angle_powersOf.r6 : List AOper := [
  ⟨(some 17), .mv (.tmp 4), none, []⟩,
  ⟨(some 18), .bin .add .no (.tmp 17) (.const (.int .i64 1)), none, []⟩,
  ⟨(some 4), .mv (.tmp 18), none, []⟩]
def F_angle_powersOf.l0 : ACode := (.seq (.seq (.region F_angle_powersOf.r4) (.cond (.tmp 16) .skip (.exit 0))) (.seq (.block 1 (.dregion F_angle_powersOf.r5)) (.region F_angle_powersOf.r6)))
def F_angle_powersOf.r7 : List AOper := [
  ⟨(some 45), .load (some 22) (.tmp 3), none, []⟩,
  ⟨none, .store 22 (.tmp 2) (.tmp 45), none, []⟩]
def F_angle_powersOf : AFunc := ⟨(.seq (.region F_angle_powersOf.r0) (.seq (.region F_angle_powersOf.r1) (.seq (.region F_angle_powersOf.r2) (.seq (.seq (.region F_angle_powersOf.r3) (.block 0 (.loop F_angle_powersOf.l0))) (.seq (.region F_angle_powersOf.r7) .ret))))),
  [.inr (2, (some 22))]⟩
/-! armplan/angle.total -/
def F_angle_total.r0 : List AOper := [
  ⟨(some 2), .mv (.const (.int .i64 0)), none, []⟩]
def F_angle_total.r1 : List AOper := [
  ⟨(some 3), .mv (.const (.int .i64 0)), none, []⟩]
def F_angle_total.r2 : List AOper := [
  ⟨(some 6), .mv (.tmp 0), none, []⟩,
  ⟨(some 7), .lenO false (.tmp 6), none, []⟩,
  ⟨(some 8), .mv (.const (.int .i64 0)), none, []⟩]
def F_angle_total.r3 : List AOper := [
  ⟨(some 9), .bin .lss .no (.tmp 8) (.tmp 7), none, []⟩]
def F_angle_total.r4 : List AOper := [
  ⟨(some 10), .idxAddr none 1 (.tmp 6) (.tmp 8), none, []⟩,
  ⟨(some 11), .load none (.tmp 10), none, []⟩,
  ⟨(some 5), .mv (.tmp 11), none, []⟩]
def F_angle_total.r5 : List AOper := [
  ⟨(some 12), .mv (.tmp 3), none, []⟩,
  ⟨(some 13), .mv (.tmp 5), none, []⟩,
  ⟨(some 14), .bin .add .no (.tmp 12) (.tmp 13), none, []⟩,
  ⟨(some 3), .mv (.tmp 14), none, []⟩]
def F_angle_total.r6 : List AOper := [
  ⟨(some 15), .bin .add .no (.tmp 8) (.const (.int .i64 1)), none, []⟩,
  ⟨(some 8), .mv (.tmp 15), none, []⟩]
def F_angle_total.l0 : ACode := (.seq (.region F_angle_total.r3) (.seq (.cond (.tmp 9) .skip (.exit 0)) (.seq (.block 1 (.seq (.region F_angle_total.r4) (.region F_angle_total.r5))) (.region F_angle_total.r6))))
def F_angle_total.r7 : List AOper := [
  ⟨(some 16), .mv (.tmp 3), none, []⟩,
  ⟨(some 2), .mv (.tmp 16), none, []⟩]
def F_angle_total : AFunc := ⟨(.seq (.region F_angle_total.r0) (.seq (.region F_angle_total.r1) (.seq (.seq (.region F_angle_total.r2) (.block 0 (.loop F_angle_total.l0))) (.seq (.region F_angle_total.r7) .ret)))),
  [.inl 2]⟩
/-! armplan/angle.up -/
def F_angle_up.r0 : List AOper := [
  ⟨(some 4), .mv (.const (.int .i64 0)), none, []⟩]
def F_angle_up.r1 : List AOper := [
  ⟨(some 5), .mv (.tmp 0), none, []⟩,
  ⟨(some 6), .mv (.tmp 1), none, []⟩,
  ⟨(some 7), .bin .add .no (.tmp 5) (.tmp 6), none, []⟩,
  ⟨(some 8), .bin .sub .no (.tmp 7) (.const (.int .i64 1)), none, []⟩,
  ⟨(some 9), .mv (.tmp 1), none, []⟩,
  ⟨(some 10), .bin .quo .no (.tmp 8) (.tmp 9), none, []⟩,
  ⟨(some 4), .mv (.tmp 10), none, []⟩]
def F_angle_up : AFunc := ⟨(.seq (.region F_angle_up.r0) (.seq (.region F_angle_up.r1) .ret)),
  [.inl 4]⟩
/-! armplan/angle.enclosure -/
def F_angle_enclosure.r0 : List AOper := [
  ⟨(some 4), .alloc T_api_Interval [(.int .i64 0), (.int .i64 0)], none, []⟩]
def F_angle_enclosure.r1 : List AOper := [
  ⟨(some 5), .mv (.tmp 0), none, []⟩,
  ⟨(some 6), .call (.func n_fixed_ShiftDown) [(.tmp 5), (.const (.int .i64 14))], none, []⟩,
  ⟨(some 7), .minmax true [(.const (.int .i64 0)), (.tmp 6)], none, []⟩,
  ⟨(some 8), .mv (.tmp 1), none, []⟩,
  ⟨(some 9), .call (.func n_fixed_ShiftUp) [(.tmp 8), (.const (.int .i64 14))], none, []⟩,
  ⟨(some 10), .minmax false [(.const (.int .i64 65536)), (.tmp 9)], none, []⟩,
  ⟨(some 11), .build [(.int .i64 0), (.int .i64 0)] [(0, 1, (.tmp 7)), (1, 1, (.tmp 10))], none, []⟩,
  ⟨none, .store 2 (.tmp 4) (.tmp 11), none, []⟩]
def F_angle_enclosure : AFunc := ⟨(.seq (.region F_angle_enclosure.r0) (.seq (.region F_angle_enclosure.r1) .ret)),
  [.inr (4, (some 2))]⟩

def A : AProg := fun f => (bif Nat.blt f 67 then (bif Nat.blt f 34 then (bif Nat.blt f 18 then (bif Nat.blt f 10 then (bif Nat.blt f 6 then (bif Nat.blt f 4 then (bif Nat.blt f 3 then (bif Nat.beq f 2 then some F_gosem_cut_init else none) else (bif Nat.beq f 3 then some F_armplanlaw40_DynamicsSliders else none)) else (bif Nat.blt f 5 then (bif Nat.beq f 4 then some F_armplanlaw40_DynamicsRanges else none) else (bif Nat.beq f 5 then some F_armplanmake_Slider else none))) else (bif Nat.blt f 8 then (bif Nat.blt f 7 then (bif Nat.beq f 6 then some F_armplanmake_Round else none) else (bif Nat.beq f 7 then some F_dynamics_Torques else none)) else (bif Nat.blt f 9 then (bif Nat.beq f 8 then some F_armplanlaw40_awake else none) else (bif Nat.beq f 9 then some F_armplanref10_Inside else none)))) else (bif Nat.blt f 14 then (bif Nat.blt f 12 then (bif Nat.blt f 11 then (bif Nat.beq f 10 then some F_armplanlaw40_some else none) else (bif Nat.beq f 11 then some F_armplanlaw40_ranges else none)) else (bif Nat.blt f 13 then (bif Nat.beq f 12 then some F_armplanmake_letter else none) else (bif Nat.beq f 13 then some F_dynamics_Rates else none))) else (bif Nat.blt f 16 then (bif Nat.blt f 15 then (bif Nat.beq f 14 then some F_config_Piece else none) else (bif Nat.beq f 15 then some F_dynamics_usable else none)) else (bif Nat.blt f 17 then (bif Nat.beq f 16 then some F_dynamics_newModel else none) else (bif Nat.beq f 17 then some F_dynamics_model_rest else none))))) else (bif Nat.blt f 26 then (bif Nat.blt f 22 then (bif Nat.blt f 20 then (bif Nat.blt f 19 then (bif Nat.beq f 18 then some F_dynamics_model_derivatives else none) else (bif Nat.beq f 19 then some F_dynamics_calculator_add else none)) else (bif Nat.blt f 21 then (bif Nat.beq f 20 then some F_dynamics_calculator_times else none) else (bif Nat.beq f 21 then some F_dynamics_calculator_dot else none))) else (bif Nat.blt f 24 then (bif Nat.blt f 23 then (bif Nat.beq f 22 then some F_armplanlaw40_arm else none) else (bif Nat.beq f 23 then some F_dynamics_Mul else none)) else (bif Nat.blt f 25 then (bif Nat.beq f 24 then some F_armplanref6_CheckRobot else none) else (bif Nat.beq f 25 then some F_armplanmake_Interval else none)))) else (bif Nat.blt f 30 then (bif Nat.blt f 28 then (bif Nat.blt f 27 then (bif Nat.beq f 26 then some F_dynamics_Add else none) else (bif Nat.beq f 27 then some F_armplanref40_AddRange else none)) else (bif Nat.blt f 29 then (bif Nat.beq f 28 then some F_armplanref40_MulRange else none) else (bif Nat.beq f 29 then some F_config_Inside else none))) else (bif Nat.blt f 32 then (bif Nat.blt f 31 then (bif Nat.beq f 30 then some F_dynamics_turns else none) else (bif Nat.beq f 31 then some F_config_straight else none)) else (bif Nat.blt f 33 then (bif Nat.beq f 32 then some F_config_InsideBox else none) else (bif Nat.beq f 33 then some F_kinematics_Links else none)))))) else (bif Nat.blt f 50 then (bif Nat.blt f 42 then (bif Nat.blt f 38 then (bif Nat.blt f 36 then (bif Nat.blt f 35 then (bif Nat.beq f 34 then some F_dynamics_ranges else none) else (bif Nat.beq f 35 then some F_pose_Apply else none)) else (bif Nat.blt f 37 then (bif Nat.beq f 36 then some F_matrix_Point else none) else (bif Nat.beq f 37 then some F_robot_Chain else none))) else (bif Nat.blt f 40 then (bif Nat.blt f 39 then (bif Nat.beq f 38 then some F_dynamics_axis else none) else (bif Nat.beq f 39 then some F_dynamics_negated else none)) else (bif Nat.blt f 41 then (bif Nat.beq f 40 then some F_dynamics_calculator_cross else none) else (bif Nat.beq f 41 then some F_dynamics_calculator_plus else none)))) else (bif Nat.blt f 46 then (bif Nat.blt f 44 then (bif Nat.blt f 43 then (bif Nat.beq f 42 then some F_dynamics_calculator_mul else none) else (bif Nat.beq f 43 then some F_dynamics_calculator_keep else none)) else (bif Nat.blt f 45 then (bif Nat.beq f 44 then some F_dynamics_isSmall else none) else (bif Nat.beq f 45 then some F_dynamics_product else none))) else (bif Nat.blt f 48 then (bif Nat.blt f 47 then (bif Nat.beq f 46 then some F_armplanref6_checkJoint else none) else (bif Nat.beq f 47 then some F_armplanref6_between else none)) else (bif Nat.blt f 49 then (bif Nat.beq f 48 then some F_armplanref6_Near else none) else (bif Nat.beq f 49 then some F_armplanref1_Clamp else none))))) else (bif Nat.blt f 58 then (bif Nat.blt f 54 then (bif Nat.blt f 52 then (bif Nat.blt f 51 then (bif Nat.beq f 50 then some F_armplanref40_Small else none) else (bif Nat.beq f 51 then some F_armplanref40_Times else none)) else (bif Nat.blt f 53 then (bif Nat.beq f 52 then some F_armplanref40_Wide_Over else none) else (bif Nat.beq f 53 then some F_armplanref40_Wide_Int else none))) else (bif Nat.blt f 56 then (bif Nat.blt f 55 then (bif Nat.beq f 54 then some F_robot_Check else none) else (bif Nat.beq f 55 then some F_config_all_api_Joint_int64 else none)) else (bif Nat.blt f 57 then (bif Nat.beq f 56 then some F_config_Inside_1 else none) else (bif Nat.beq f 57 then some F_interval_Has else none)))) else (bif Nat.blt f 62 then (bif Nat.blt f 60 then (bif Nat.blt f 59 then (bif Nat.beq f 58 then some F_config_limits else none) else (bif Nat.beq f 59 then some F_config_small else none)) else (bif Nat.blt f 61 then (bif Nat.beq f 60 then some F_config_all_api_Joint_api_Interval else none) else (bif Nat.beq f 61 then some F_config_InsideBox_1 else none))) else (bif Nat.blt f 64 then (bif Nat.blt f 63 then (bif Nat.beq f 62 then some F_interval_Within else none) else (bif Nat.beq f 63 then some F_kinematics_isBox else none)) else (bif Nat.blt f 65 then (bif Nat.beq f 64 then some F_kinematics_tree_add else none) else (bif Nat.blt f 66 then (bif Nat.beq f 65 then some F_pose_motion else none) else (bif Nat.beq f 66 then some F_interval_Of else none)))))))) else (bif Nat.blt f 101 then (bif Nat.blt f 84 then (bif Nat.blt f 76 then (bif Nat.blt f 71 then (bif Nat.blt f 69 then (bif Nat.blt f 68 then (bif Nat.beq f 67 then some F_robot_isLink else none) else (bif Nat.beq f 68 then some F_math_bits_Mul64 else none)) else (bif Nat.blt f 70 then (bif Nat.beq f 69 then some F_armplanref6_Name else none) else (bif Nat.beq f 70 then some F_armplanref6_reach else none))) else (bif Nat.blt f 74 then (bif Nat.blt f 72 then (bif Nat.beq f 71 then some F_armplanref40_magnitude else none) else (bif Nat.beq f 72 then some F_math_bits_Div64 else none)) else (bif Nat.blt f 75 then (bif Nat.beq f 74 then some F_robot_checkJoint else none) else (bif Nat.beq f 75 then some F_robot_between else none)))) else (bif Nat.blt f 80 then (bif Nat.blt f 78 then (bif Nat.blt f 77 then (bif Nat.beq f 76 then some F_robot_long else none) else (bif Nat.beq f 77 then some F_interval_Valid else none)) else (bif Nat.blt f 79 then (bif Nat.beq f 78 then some F_slices_ContainsFunc_sl_int64_int64 else none) else (bif Nat.beq f 79 then some F_config_small_1 else none))) else (bif Nat.blt f 82 then (bif Nat.blt f 81 then (bif Nat.beq f 80 then some F_interval_both else none) else (bif Nat.beq f 81 then some F_slices_ContainsFunc_sl_api_Interval_api_Interval else none)) else (bif Nat.blt f 83 then (bif Nat.beq f 82 then some F_kinematics_isBox_1 else none) else (bif Nat.beq f 83 then some F_kinematics_Joint else none))))) else (bif Nat.blt f 92 then (bif Nat.blt f 88 then (bif Nat.blt f 86 then (bif Nat.blt f 85 then (bif Nat.beq f 84 then some F_pose_Compose else none) else (bif Nat.beq f 85 then some F_pose_motion_1 else none)) else (bif Nat.blt f 87 then (bif Nat.beq f 86 then some F_matrix_Add else none) else (bif Nat.beq f 87 then some F_matrix_Apply else none))) else (bif Nat.blt f 90 then (bif Nat.blt f 89 then (bif Nat.beq f 88 then some F_interval_limit else none) else (bif Nat.beq f 89 then some F_math_bits_LeadingZeros64 else none)) else (bif Nat.blt f 91 then (bif Nat.beq f 90 then some F_robot_bound else none) else (bif Nat.beq f 91 then some F_token_Name else none)))) else (bif Nat.blt f 96 then (bif Nat.blt f 94 then (bif Nat.blt f 93 then (bif Nat.beq f 92 then some F_robot_place else none) else (bif Nat.beq f 93 then some F_slices_IndexFunc_sl_int64_int64 else none)) else (bif Nat.blt f 95 then (bif Nat.beq f 94 then some F_slices_IndexFunc_sl_api_Interval_api_Interval else none) else (bif Nat.beq f 95 then some F_kinematics_motionOf else none))) else (bif Nat.blt f 98 then (bif Nat.blt f 97 then (bif Nat.beq f 96 then some F_pose_Shift else none) else (bif Nat.beq f 97 then some F_matrix_Compose else none)) else (bif Nat.blt f 99 then (bif Nat.beq f 98 then some F_interval_Add else none) else (bif Nat.blt f 100 then (bif Nat.beq f 99 then some F_matrix_sum else none) else (bif Nat.beq f 100 then some F_fixed_Clamp else none))))))) else (bif Nat.blt f 117 then (bif Nat.blt f 109 then (bif Nat.blt f 105 then (bif Nat.blt f 103 then (bif Nat.blt f 102 then (bif Nat.beq f 101 then some F_math_bits_Len64 else none) else (bif Nat.beq f 102 then some F_slices_IndexFunc_sl_api_Joint_api_Joint else none)) else (bif Nat.blt f 104 then (bif Nat.beq f 103 then some F_robot_place_1 else none) else (bif Nat.beq f 104 then some F_pose_Turn else none))) else (bif Nat.blt f 107 then (bif Nat.blt f 106 then (bif Nat.beq f 105 then some F_kinematics_slide else none) else (bif Nat.beq f 106 then some F_kinematics_rest else none)) else (bif Nat.blt f 108 then (bif Nat.beq f 107 then some F_matrix_Identity else none) else (bif Nat.beq f 108 then some F_matrix_Transpose else none)))) else (bif Nat.blt f 113 then (bif Nat.blt f 111 then (bif Nat.blt f 110 then (bif Nat.beq f 109 then some F_matrix_limit else none) else (bif Nat.beq f 110 then some F_interval_Mul else none)) else (bif Nat.blt f 112 then (bif Nat.beq f 111 then some F_matrix_Turn else none) else (bif Nat.beq f 112 then some F_pose_Identity else none))) else (bif Nat.blt f 115 then (bif Nat.blt f 114 then (bif Nat.beq f 113 then some F_matrix_one else none) else (bif Nat.beq f 114 then some F_interval_outward else none)) else (bif Nat.blt f 116 then (bif Nat.beq f 115 then some F_angle_CosOver else none) else (bif Nat.beq f 116 then some F_angle_SinOver else none))))) else (bif Nat.blt f 125 then (bif Nat.blt f 121 then (bif Nat.blt f 119 then (bif Nat.blt f 118 then (bif Nat.beq f 117 then some F_interval_Neg else none) else (bif Nat.beq f 118 then some F_fixed_ShiftDown else none)) else (bif Nat.blt f 120 then (bif Nat.beq f 119 then some F_fixed_ShiftUp else none) else (bif Nat.beq f 120 then some F_angle_over else none))) else (bif Nat.blt f 123 then (bif Nat.blt f 122 then (bif Nat.beq f 121 then some F_angle_Cos else none) else (bif Nat.beq f 122 then some F_angle_Sin else none)) else (bif Nat.blt f 124 then (bif Nat.beq f 123 then some F_interval_Width else none) else (bif Nat.beq f 124 then some F_interval_Hull else none)))) else (bif Nat.blt f 129 then (bif Nat.blt f 127 then (bif Nat.blt f 126 then (bif Nat.beq f 125 then some F_angle_meets else none) else (bif Nat.beq f 126 then some F_angle_mod else none)) else (bif Nat.blt f 128 then (bif Nat.beq f 127 then some F_angle_rising else none) else (bif Nat.beq f 128 then some F_angle_sine else none))) else (bif Nat.blt f 131 then (bif Nat.blt f 130 then (bif Nat.beq f 129 then some F_angle_cosine else none) else (bif Nat.beq f 130 then some F_angle_powersOf else none)) else (bif Nat.blt f 132 then (bif Nat.beq f 131 then some F_angle_total else none) else (bif Nat.blt f 133 then (bif Nat.beq f 132 then some F_angle_up else none) else (bif Nat.beq f 133 then some F_angle_enclosure else none)))))))))
/-- What is asked of the program. -/
structure Good (P : Program) : Prop where
  m : P.follows .mixedOrders = true
  ok : Ok P A
theorem Good.c_gosem_cut_init {P : Program} (h : Good P) : compF P n_gosem_cut_init = some F_gosem_cut_init := h.ok _ _ (by kernel_rfl)
theorem Good.c_armplanlaw40_DynamicsSliders {P : Program} (h : Good P) : compF P n_armplanlaw40_DynamicsSliders = some F_armplanlaw40_DynamicsSliders := h.ok _ _ (by kernel_rfl)
theorem Good.c_armplanlaw40_DynamicsRanges {P : Program} (h : Good P) : compF P n_armplanlaw40_DynamicsRanges = some F_armplanlaw40_DynamicsRanges := h.ok _ _ (by kernel_rfl)
theorem Good.c_armplanmake_Slider {P : Program} (h : Good P) : compF P n_armplanmake_Slider = some F_armplanmake_Slider := h.ok _ _ (by kernel_rfl)
theorem Good.c_armplanmake_Round {P : Program} (h : Good P) : compF P n_armplanmake_Round = some F_armplanmake_Round := h.ok _ _ (by kernel_rfl)
theorem Good.c_dynamics_Torques {P : Program} (h : Good P) : compF P n_dynamics_Torques = some F_dynamics_Torques := h.ok _ _ (by kernel_rfl)
theorem Good.c_armplanlaw40_awake {P : Program} (h : Good P) : compF P n_armplanlaw40_awake = some F_armplanlaw40_awake := h.ok _ _ (by kernel_rfl)
theorem Good.c_armplanref10_Inside {P : Program} (h : Good P) : compF P n_armplanref10_Inside = some F_armplanref10_Inside := h.ok _ _ (by kernel_rfl)
theorem Good.c_armplanlaw40_some {P : Program} (h : Good P) : compF P n_armplanlaw40_some = some F_armplanlaw40_some := h.ok _ _ (by kernel_rfl)
theorem Good.c_armplanlaw40_ranges {P : Program} (h : Good P) : compF P n_armplanlaw40_ranges = some F_armplanlaw40_ranges := h.ok _ _ (by kernel_rfl)
theorem Good.c_armplanmake_letter {P : Program} (h : Good P) : compF P n_armplanmake_letter = some F_armplanmake_letter := h.ok _ _ (by kernel_rfl)
theorem Good.c_dynamics_Rates {P : Program} (h : Good P) : compF P n_dynamics_Rates = some F_dynamics_Rates := h.ok _ _ (by kernel_rfl)
theorem Good.c_config_Piece {P : Program} (h : Good P) : compF P n_config_Piece = some F_config_Piece := h.ok _ _ (by kernel_rfl)
theorem Good.c_dynamics_usable {P : Program} (h : Good P) : compF P n_dynamics_usable = some F_dynamics_usable := h.ok _ _ (by kernel_rfl)
theorem Good.c_dynamics_newModel {P : Program} (h : Good P) : compF P n_dynamics_newModel = some F_dynamics_newModel := h.ok _ _ (by kernel_rfl)
theorem Good.c_dynamics_model_rest {P : Program} (h : Good P) : compF P n_dynamics_model_rest = some F_dynamics_model_rest := h.ok _ _ (by kernel_rfl)
theorem Good.c_dynamics_model_derivatives {P : Program} (h : Good P) : compF P n_dynamics_model_derivatives = some F_dynamics_model_derivatives := h.ok _ _ (by kernel_rfl)
theorem Good.c_dynamics_calculator_add {P : Program} (h : Good P) : compF P n_dynamics_calculator_add = some F_dynamics_calculator_add := h.ok _ _ (by kernel_rfl)
theorem Good.c_dynamics_calculator_times {P : Program} (h : Good P) : compF P n_dynamics_calculator_times = some F_dynamics_calculator_times := h.ok _ _ (by kernel_rfl)
theorem Good.c_dynamics_calculator_dot {P : Program} (h : Good P) : compF P n_dynamics_calculator_dot = some F_dynamics_calculator_dot := h.ok _ _ (by kernel_rfl)
theorem Good.c_armplanlaw40_arm {P : Program} (h : Good P) : compF P n_armplanlaw40_arm = some F_armplanlaw40_arm := h.ok _ _ (by kernel_rfl)
theorem Good.c_dynamics_Mul {P : Program} (h : Good P) : compF P n_dynamics_Mul = some F_dynamics_Mul := h.ok _ _ (by kernel_rfl)
theorem Good.c_armplanref6_CheckRobot {P : Program} (h : Good P) : compF P n_armplanref6_CheckRobot = some F_armplanref6_CheckRobot := h.ok _ _ (by kernel_rfl)
theorem Good.c_armplanmake_Interval {P : Program} (h : Good P) : compF P n_armplanmake_Interval = some F_armplanmake_Interval := h.ok _ _ (by kernel_rfl)
theorem Good.c_dynamics_Add {P : Program} (h : Good P) : compF P n_dynamics_Add = some F_dynamics_Add := h.ok _ _ (by kernel_rfl)
theorem Good.c_armplanref40_AddRange {P : Program} (h : Good P) : compF P n_armplanref40_AddRange = some F_armplanref40_AddRange := h.ok _ _ (by kernel_rfl)
theorem Good.c_armplanref40_MulRange {P : Program} (h : Good P) : compF P n_armplanref40_MulRange = some F_armplanref40_MulRange := h.ok _ _ (by kernel_rfl)
theorem Good.c_config_Inside {P : Program} (h : Good P) : compF P n_config_Inside = some F_config_Inside := h.ok _ _ (by kernel_rfl)
theorem Good.c_dynamics_turns {P : Program} (h : Good P) : compF P n_dynamics_turns = some F_dynamics_turns := h.ok _ _ (by kernel_rfl)
theorem Good.c_config_straight {P : Program} (h : Good P) : compF P n_config_straight = some F_config_straight := h.ok _ _ (by kernel_rfl)
theorem Good.c_config_InsideBox {P : Program} (h : Good P) : compF P n_config_InsideBox = some F_config_InsideBox := h.ok _ _ (by kernel_rfl)
theorem Good.c_kinematics_Links {P : Program} (h : Good P) : compF P n_kinematics_Links = some F_kinematics_Links := h.ok _ _ (by kernel_rfl)
theorem Good.c_dynamics_ranges {P : Program} (h : Good P) : compF P n_dynamics_ranges = some F_dynamics_ranges := h.ok _ _ (by kernel_rfl)
theorem Good.c_pose_Apply {P : Program} (h : Good P) : compF P n_pose_Apply = some F_pose_Apply := h.ok _ _ (by kernel_rfl)
theorem Good.c_matrix_Point {P : Program} (h : Good P) : compF P n_matrix_Point = some F_matrix_Point := h.ok _ _ (by kernel_rfl)
theorem Good.c_robot_Chain {P : Program} (h : Good P) : compF P n_robot_Chain = some F_robot_Chain := h.ok _ _ (by kernel_rfl)
theorem Good.c_dynamics_axis {P : Program} (h : Good P) : compF P n_dynamics_axis = some F_dynamics_axis := h.ok _ _ (by kernel_rfl)
theorem Good.c_dynamics_negated {P : Program} (h : Good P) : compF P n_dynamics_negated = some F_dynamics_negated := h.ok _ _ (by kernel_rfl)
theorem Good.c_dynamics_calculator_cross {P : Program} (h : Good P) : compF P n_dynamics_calculator_cross = some F_dynamics_calculator_cross := h.ok _ _ (by kernel_rfl)
theorem Good.c_dynamics_calculator_plus {P : Program} (h : Good P) : compF P n_dynamics_calculator_plus = some F_dynamics_calculator_plus := h.ok _ _ (by kernel_rfl)
theorem Good.c_dynamics_calculator_mul {P : Program} (h : Good P) : compF P n_dynamics_calculator_mul = some F_dynamics_calculator_mul := h.ok _ _ (by kernel_rfl)
theorem Good.c_dynamics_calculator_keep {P : Program} (h : Good P) : compF P n_dynamics_calculator_keep = some F_dynamics_calculator_keep := h.ok _ _ (by kernel_rfl)
theorem Good.c_dynamics_isSmall {P : Program} (h : Good P) : compF P n_dynamics_isSmall = some F_dynamics_isSmall := h.ok _ _ (by kernel_rfl)
theorem Good.c_dynamics_product {P : Program} (h : Good P) : compF P n_dynamics_product = some F_dynamics_product := h.ok _ _ (by kernel_rfl)
theorem Good.c_armplanref6_checkJoint {P : Program} (h : Good P) : compF P n_armplanref6_checkJoint = some F_armplanref6_checkJoint := h.ok _ _ (by kernel_rfl)
theorem Good.c_armplanref6_between {P : Program} (h : Good P) : compF P n_armplanref6_between = some F_armplanref6_between := h.ok _ _ (by kernel_rfl)
theorem Good.c_armplanref6_Near {P : Program} (h : Good P) : compF P n_armplanref6_Near = some F_armplanref6_Near := h.ok _ _ (by kernel_rfl)
theorem Good.c_armplanref1_Clamp {P : Program} (h : Good P) : compF P n_armplanref1_Clamp = some F_armplanref1_Clamp := h.ok _ _ (by kernel_rfl)
theorem Good.c_armplanref40_Small {P : Program} (h : Good P) : compF P n_armplanref40_Small = some F_armplanref40_Small := h.ok _ _ (by kernel_rfl)
theorem Good.c_armplanref40_Times {P : Program} (h : Good P) : compF P n_armplanref40_Times = some F_armplanref40_Times := h.ok _ _ (by kernel_rfl)
theorem Good.c_armplanref40_Wide_Over {P : Program} (h : Good P) : compF P n_armplanref40_Wide_Over = some F_armplanref40_Wide_Over := h.ok _ _ (by kernel_rfl)
theorem Good.c_armplanref40_Wide_Int {P : Program} (h : Good P) : compF P n_armplanref40_Wide_Int = some F_armplanref40_Wide_Int := h.ok _ _ (by kernel_rfl)
theorem Good.c_robot_Check {P : Program} (h : Good P) : compF P n_robot_Check = some F_robot_Check := h.ok _ _ (by kernel_rfl)
theorem Good.c_config_all_api_Joint_int64 {P : Program} (h : Good P) : compF P n_config_all_api_Joint_int64 = some F_config_all_api_Joint_int64 := h.ok _ _ (by kernel_rfl)
theorem Good.c_config_Inside_1 {P : Program} (h : Good P) : compF P n_config_Inside_1 = some F_config_Inside_1 := h.ok _ _ (by kernel_rfl)
theorem Good.c_interval_Has {P : Program} (h : Good P) : compF P n_interval_Has = some F_interval_Has := h.ok _ _ (by kernel_rfl)
theorem Good.c_config_limits {P : Program} (h : Good P) : compF P n_config_limits = some F_config_limits := h.ok _ _ (by kernel_rfl)
theorem Good.c_config_small {P : Program} (h : Good P) : compF P n_config_small = some F_config_small := h.ok _ _ (by kernel_rfl)
theorem Good.c_config_all_api_Joint_api_Interval {P : Program} (h : Good P) : compF P n_config_all_api_Joint_api_Interval = some F_config_all_api_Joint_api_Interval := h.ok _ _ (by kernel_rfl)
theorem Good.c_config_InsideBox_1 {P : Program} (h : Good P) : compF P n_config_InsideBox_1 = some F_config_InsideBox_1 := h.ok _ _ (by kernel_rfl)
theorem Good.c_interval_Within {P : Program} (h : Good P) : compF P n_interval_Within = some F_interval_Within := h.ok _ _ (by kernel_rfl)
theorem Good.c_kinematics_isBox {P : Program} (h : Good P) : compF P n_kinematics_isBox = some F_kinematics_isBox := h.ok _ _ (by kernel_rfl)
theorem Good.c_kinematics_tree_add {P : Program} (h : Good P) : compF P n_kinematics_tree_add = some F_kinematics_tree_add := h.ok _ _ (by kernel_rfl)
theorem Good.c_pose_motion {P : Program} (h : Good P) : compF P n_pose_motion = some F_pose_motion := h.ok _ _ (by kernel_rfl)
theorem Good.c_interval_Of {P : Program} (h : Good P) : compF P n_interval_Of = some F_interval_Of := h.ok _ _ (by kernel_rfl)
theorem Good.c_robot_isLink {P : Program} (h : Good P) : compF P n_robot_isLink = some F_robot_isLink := h.ok _ _ (by kernel_rfl)
theorem Good.c_math_bits_Mul64 {P : Program} (h : Good P) : compF P n_math_bits_Mul64 = some F_math_bits_Mul64 := h.ok _ _ (by kernel_rfl)
theorem Good.c_armplanref6_Name {P : Program} (h : Good P) : compF P n_armplanref6_Name = some F_armplanref6_Name := h.ok _ _ (by kernel_rfl)
theorem Good.c_armplanref6_reach {P : Program} (h : Good P) : compF P n_armplanref6_reach = some F_armplanref6_reach := h.ok _ _ (by kernel_rfl)
theorem Good.c_armplanref40_magnitude {P : Program} (h : Good P) : compF P n_armplanref40_magnitude = some F_armplanref40_magnitude := h.ok _ _ (by kernel_rfl)
theorem Good.c_math_bits_Div64 {P : Program} (h : Good P) : compF P n_math_bits_Div64 = some F_math_bits_Div64 := h.ok _ _ (by kernel_rfl)
theorem Good.c_robot_checkJoint {P : Program} (h : Good P) : compF P n_robot_checkJoint = some F_robot_checkJoint := h.ok _ _ (by kernel_rfl)
theorem Good.c_robot_between {P : Program} (h : Good P) : compF P n_robot_between = some F_robot_between := h.ok _ _ (by kernel_rfl)
theorem Good.c_robot_long {P : Program} (h : Good P) : compF P n_robot_long = some F_robot_long := h.ok _ _ (by kernel_rfl)
theorem Good.c_interval_Valid {P : Program} (h : Good P) : compF P n_interval_Valid = some F_interval_Valid := h.ok _ _ (by kernel_rfl)
theorem Good.c_slices_ContainsFunc_sl_int64_int64 {P : Program} (h : Good P) : compF P n_slices_ContainsFunc_sl_int64_int64 = some F_slices_ContainsFunc_sl_int64_int64 := h.ok _ _ (by kernel_rfl)
theorem Good.c_config_small_1 {P : Program} (h : Good P) : compF P n_config_small_1 = some F_config_small_1 := h.ok _ _ (by kernel_rfl)
theorem Good.c_interval_both {P : Program} (h : Good P) : compF P n_interval_both = some F_interval_both := h.ok _ _ (by kernel_rfl)
theorem Good.c_slices_ContainsFunc_sl_api_Interval_api_Interval {P : Program} (h : Good P) : compF P n_slices_ContainsFunc_sl_api_Interval_api_Interval = some F_slices_ContainsFunc_sl_api_Interval_api_Interval := h.ok _ _ (by kernel_rfl)
theorem Good.c_kinematics_isBox_1 {P : Program} (h : Good P) : compF P n_kinematics_isBox_1 = some F_kinematics_isBox_1 := h.ok _ _ (by kernel_rfl)
theorem Good.c_kinematics_Joint {P : Program} (h : Good P) : compF P n_kinematics_Joint = some F_kinematics_Joint := h.ok _ _ (by kernel_rfl)
theorem Good.c_pose_Compose {P : Program} (h : Good P) : compF P n_pose_Compose = some F_pose_Compose := h.ok _ _ (by kernel_rfl)
theorem Good.c_pose_motion_1 {P : Program} (h : Good P) : compF P n_pose_motion_1 = some F_pose_motion_1 := h.ok _ _ (by kernel_rfl)
theorem Good.c_matrix_Add {P : Program} (h : Good P) : compF P n_matrix_Add = some F_matrix_Add := h.ok _ _ (by kernel_rfl)
theorem Good.c_matrix_Apply {P : Program} (h : Good P) : compF P n_matrix_Apply = some F_matrix_Apply := h.ok _ _ (by kernel_rfl)
theorem Good.c_interval_limit {P : Program} (h : Good P) : compF P n_interval_limit = some F_interval_limit := h.ok _ _ (by kernel_rfl)
theorem Good.c_math_bits_LeadingZeros64 {P : Program} (h : Good P) : compF P n_math_bits_LeadingZeros64 = some F_math_bits_LeadingZeros64 := h.ok _ _ (by kernel_rfl)
theorem Good.c_robot_bound {P : Program} (h : Good P) : compF P n_robot_bound = some F_robot_bound := h.ok _ _ (by kernel_rfl)
theorem Good.c_token_Name {P : Program} (h : Good P) : compF P n_token_Name = some F_token_Name := h.ok _ _ (by kernel_rfl)
theorem Good.c_robot_place {P : Program} (h : Good P) : compF P n_robot_place = some F_robot_place := h.ok _ _ (by kernel_rfl)
theorem Good.c_slices_IndexFunc_sl_int64_int64 {P : Program} (h : Good P) : compF P n_slices_IndexFunc_sl_int64_int64 = some F_slices_IndexFunc_sl_int64_int64 := h.ok _ _ (by kernel_rfl)
theorem Good.c_slices_IndexFunc_sl_api_Interval_api_Interval {P : Program} (h : Good P) : compF P n_slices_IndexFunc_sl_api_Interval_api_Interval = some F_slices_IndexFunc_sl_api_Interval_api_Interval := h.ok _ _ (by kernel_rfl)
theorem Good.c_kinematics_motionOf {P : Program} (h : Good P) : compF P n_kinematics_motionOf = some F_kinematics_motionOf := h.ok _ _ (by kernel_rfl)
theorem Good.c_pose_Shift {P : Program} (h : Good P) : compF P n_pose_Shift = some F_pose_Shift := h.ok _ _ (by kernel_rfl)
theorem Good.c_matrix_Compose {P : Program} (h : Good P) : compF P n_matrix_Compose = some F_matrix_Compose := h.ok _ _ (by kernel_rfl)
theorem Good.c_interval_Add {P : Program} (h : Good P) : compF P n_interval_Add = some F_interval_Add := h.ok _ _ (by kernel_rfl)
theorem Good.c_matrix_sum {P : Program} (h : Good P) : compF P n_matrix_sum = some F_matrix_sum := h.ok _ _ (by kernel_rfl)
theorem Good.c_fixed_Clamp {P : Program} (h : Good P) : compF P n_fixed_Clamp = some F_fixed_Clamp := h.ok _ _ (by kernel_rfl)
theorem Good.c_math_bits_Len64 {P : Program} (h : Good P) : compF P n_math_bits_Len64 = some F_math_bits_Len64 := h.ok _ _ (by kernel_rfl)
theorem Good.c_slices_IndexFunc_sl_api_Joint_api_Joint {P : Program} (h : Good P) : compF P n_slices_IndexFunc_sl_api_Joint_api_Joint = some F_slices_IndexFunc_sl_api_Joint_api_Joint := h.ok _ _ (by kernel_rfl)
theorem Good.c_robot_place_1 {P : Program} (h : Good P) : compF P n_robot_place_1 = some F_robot_place_1 := h.ok _ _ (by kernel_rfl)
theorem Good.c_pose_Turn {P : Program} (h : Good P) : compF P n_pose_Turn = some F_pose_Turn := h.ok _ _ (by kernel_rfl)
theorem Good.c_kinematics_slide {P : Program} (h : Good P) : compF P n_kinematics_slide = some F_kinematics_slide := h.ok _ _ (by kernel_rfl)
theorem Good.c_kinematics_rest {P : Program} (h : Good P) : compF P n_kinematics_rest = some F_kinematics_rest := h.ok _ _ (by kernel_rfl)
theorem Good.c_matrix_Identity {P : Program} (h : Good P) : compF P n_matrix_Identity = some F_matrix_Identity := h.ok _ _ (by kernel_rfl)
theorem Good.c_matrix_Transpose {P : Program} (h : Good P) : compF P n_matrix_Transpose = some F_matrix_Transpose := h.ok _ _ (by kernel_rfl)
theorem Good.c_matrix_limit {P : Program} (h : Good P) : compF P n_matrix_limit = some F_matrix_limit := h.ok _ _ (by kernel_rfl)
theorem Good.c_interval_Mul {P : Program} (h : Good P) : compF P n_interval_Mul = some F_interval_Mul := h.ok _ _ (by kernel_rfl)
theorem Good.c_matrix_Turn {P : Program} (h : Good P) : compF P n_matrix_Turn = some F_matrix_Turn := h.ok _ _ (by kernel_rfl)
theorem Good.c_pose_Identity {P : Program} (h : Good P) : compF P n_pose_Identity = some F_pose_Identity := h.ok _ _ (by kernel_rfl)
theorem Good.c_matrix_one {P : Program} (h : Good P) : compF P n_matrix_one = some F_matrix_one := h.ok _ _ (by kernel_rfl)
theorem Good.c_interval_outward {P : Program} (h : Good P) : compF P n_interval_outward = some F_interval_outward := h.ok _ _ (by kernel_rfl)
theorem Good.c_angle_CosOver {P : Program} (h : Good P) : compF P n_angle_CosOver = some F_angle_CosOver := h.ok _ _ (by kernel_rfl)
theorem Good.c_angle_SinOver {P : Program} (h : Good P) : compF P n_angle_SinOver = some F_angle_SinOver := h.ok _ _ (by kernel_rfl)
theorem Good.c_interval_Neg {P : Program} (h : Good P) : compF P n_interval_Neg = some F_interval_Neg := h.ok _ _ (by kernel_rfl)
theorem Good.c_fixed_ShiftDown {P : Program} (h : Good P) : compF P n_fixed_ShiftDown = some F_fixed_ShiftDown := h.ok _ _ (by kernel_rfl)
theorem Good.c_fixed_ShiftUp {P : Program} (h : Good P) : compF P n_fixed_ShiftUp = some F_fixed_ShiftUp := h.ok _ _ (by kernel_rfl)
theorem Good.c_angle_over {P : Program} (h : Good P) : compF P n_angle_over = some F_angle_over := h.ok _ _ (by kernel_rfl)
theorem Good.c_angle_Cos {P : Program} (h : Good P) : compF P n_angle_Cos = some F_angle_Cos := h.ok _ _ (by kernel_rfl)
theorem Good.c_angle_Sin {P : Program} (h : Good P) : compF P n_angle_Sin = some F_angle_Sin := h.ok _ _ (by kernel_rfl)
theorem Good.c_interval_Width {P : Program} (h : Good P) : compF P n_interval_Width = some F_interval_Width := h.ok _ _ (by kernel_rfl)
theorem Good.c_interval_Hull {P : Program} (h : Good P) : compF P n_interval_Hull = some F_interval_Hull := h.ok _ _ (by kernel_rfl)
theorem Good.c_angle_meets {P : Program} (h : Good P) : compF P n_angle_meets = some F_angle_meets := h.ok _ _ (by kernel_rfl)
theorem Good.c_angle_mod {P : Program} (h : Good P) : compF P n_angle_mod = some F_angle_mod := h.ok _ _ (by kernel_rfl)
theorem Good.c_angle_rising {P : Program} (h : Good P) : compF P n_angle_rising = some F_angle_rising := h.ok _ _ (by kernel_rfl)
theorem Good.c_angle_sine {P : Program} (h : Good P) : compF P n_angle_sine = some F_angle_sine := h.ok _ _ (by kernel_rfl)
theorem Good.c_angle_cosine {P : Program} (h : Good P) : compF P n_angle_cosine = some F_angle_cosine := h.ok _ _ (by kernel_rfl)
theorem Good.c_angle_powersOf {P : Program} (h : Good P) : compF P n_angle_powersOf = some F_angle_powersOf := h.ok _ _ (by kernel_rfl)
theorem Good.c_angle_total {P : Program} (h : Good P) : compF P n_angle_total = some F_angle_total := h.ok _ _ (by kernel_rfl)
theorem Good.c_angle_up {P : Program} (h : Good P) : compF P n_angle_up = some F_angle_up := h.ok _ _ (by kernel_rfl)
theorem Good.c_angle_enclosure {P : Program} (h : Good P) : compF P n_angle_enclosure = some F_angle_enclosure := h.ok _ _ (by kernel_rfl)
end Go.Bx.S

