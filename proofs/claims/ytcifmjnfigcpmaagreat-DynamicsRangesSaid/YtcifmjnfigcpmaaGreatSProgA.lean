/-
  The functions of the program, as the interpreter reads them (printed by a program of ours).
-/
import Derived.Test.YtcifmjnfigcpmaaGreatBxF
import Derived.KernelRfl
set_option linter.unusedSimpArgs false
set_option linter.unusedVariables false
set_option linter.unusedSectionVars false
namespace Go.Bx.S
open Go Go.Bx
abbrev n_main_main : Nat := 0
abbrev n_gosem_cut : Nat := 1
abbrev n_gosem_cut_init : Nat := 2
abbrev n_armplanlaw40_DynamicsSliders : Nat := 3
abbrev n_armplanlaw40_DynamicsRanges : Nat := 4
abbrev n_armplanmake_Slider : Nat := 5
abbrev n_armplanmake_Round : Nat := 6
abbrev n_dynamics_Torques : Nat := 7
abbrev n_armplanlaw40_awake : Nat := 8
abbrev n_armplanref10_Inside : Nat := 9
abbrev n_armplanlaw40_some : Nat := 10
abbrev n_armplanlaw40_ranges : Nat := 11
abbrev n_armplanmake_letter : Nat := 12
abbrev n_dynamics_Rates : Nat := 13
abbrev n_config_Piece : Nat := 14
abbrev n_dynamics_usable : Nat := 15
abbrev n_dynamics_newModel : Nat := 16
abbrev n_dynamics_model_rest : Nat := 17
abbrev n_dynamics_model_derivatives : Nat := 18
abbrev n_dynamics_calculator_add : Nat := 19
abbrev n_dynamics_calculator_times : Nat := 20
abbrev n_dynamics_calculator_dot : Nat := 21
abbrev n_armplanlaw40_arm : Nat := 22
abbrev n_dynamics_Mul : Nat := 23
abbrev n_armplanref6_CheckRobot : Nat := 24
abbrev n_armplanmake_Interval : Nat := 25
abbrev n_dynamics_Add : Nat := 26
abbrev n_armplanref40_AddRange : Nat := 27
abbrev n_armplanref40_MulRange : Nat := 28
abbrev n_config_Inside : Nat := 29
abbrev n_dynamics_turns : Nat := 30
abbrev n_config_straight : Nat := 31
abbrev n_config_InsideBox : Nat := 32
abbrev n_kinematics_Links : Nat := 33
abbrev n_dynamics_ranges : Nat := 34
abbrev n_pose_Apply : Nat := 35
abbrev n_matrix_Point : Nat := 36
abbrev n_robot_Chain : Nat := 37
abbrev n_dynamics_axis : Nat := 38
abbrev n_dynamics_negated : Nat := 39
abbrev n_dynamics_calculator_cross : Nat := 40
abbrev n_dynamics_calculator_plus : Nat := 41
abbrev n_dynamics_calculator_mul : Nat := 42
abbrev n_dynamics_calculator_keep : Nat := 43
abbrev n_dynamics_isSmall : Nat := 44
abbrev n_dynamics_product : Nat := 45
abbrev n_armplanref6_checkJoint : Nat := 46
abbrev n_armplanref6_between : Nat := 47
abbrev n_armplanref6_Near : Nat := 48
abbrev n_armplanref1_Clamp : Nat := 49
abbrev n_armplanref40_Small : Nat := 50
abbrev n_armplanref40_Times : Nat := 51
abbrev n_armplanref40_Wide_Over : Nat := 52
abbrev n_armplanref40_Wide_Int : Nat := 53
abbrev n_robot_Check : Nat := 54
abbrev n_config_all_api_Joint_int64 : Nat := 55
abbrev n_config_Inside_1 : Nat := 56
abbrev n_interval_Has : Nat := 57
abbrev n_config_limits : Nat := 58
abbrev n_config_small : Nat := 59
abbrev n_config_all_api_Joint_api_Interval : Nat := 60
abbrev n_config_InsideBox_1 : Nat := 61
abbrev n_interval_Within : Nat := 62
abbrev n_kinematics_isBox : Nat := 63
abbrev n_kinematics_tree_add : Nat := 64
abbrev n_pose_motion : Nat := 65
abbrev n_interval_Of : Nat := 66
abbrev n_robot_isLink : Nat := 67
abbrev n_math_bits_Mul64 : Nat := 68
abbrev n_armplanref6_Name : Nat := 69
abbrev n_armplanref6_reach : Nat := 70
abbrev n_armplanref40_magnitude : Nat := 71
abbrev n_math_bits_Div64 : Nat := 72
abbrev n_math_bits_Add64 : Nat := 73
abbrev n_robot_checkJoint : Nat := 74
abbrev n_robot_between : Nat := 75
abbrev n_robot_long : Nat := 76
abbrev n_interval_Valid : Nat := 77
abbrev n_slices_ContainsFunc_sl_int64_int64 : Nat := 78
abbrev n_config_small_1 : Nat := 79
abbrev n_interval_both : Nat := 80
abbrev n_slices_ContainsFunc_sl_api_Interval_api_Interval : Nat := 81
abbrev n_kinematics_isBox_1 : Nat := 82
abbrev n_kinematics_Joint : Nat := 83
abbrev n_pose_Compose : Nat := 84
abbrev n_pose_motion_1 : Nat := 85
abbrev n_matrix_Add : Nat := 86
abbrev n_matrix_Apply : Nat := 87
abbrev n_interval_limit : Nat := 88
abbrev n_math_bits_LeadingZeros64 : Nat := 89
abbrev n_robot_bound : Nat := 90
abbrev n_token_Name : Nat := 91
abbrev n_robot_place : Nat := 92
abbrev n_slices_IndexFunc_sl_int64_int64 : Nat := 93
abbrev n_slices_IndexFunc_sl_api_Interval_api_Interval : Nat := 94
abbrev n_kinematics_motionOf : Nat := 95
abbrev n_pose_Shift : Nat := 96
abbrev n_matrix_Compose : Nat := 97
abbrev n_interval_Add : Nat := 98
abbrev n_matrix_sum : Nat := 99
abbrev n_fixed_Clamp : Nat := 100
abbrev n_math_bits_Len64 : Nat := 101
abbrev n_slices_IndexFunc_sl_api_Joint_api_Joint : Nat := 102
abbrev n_robot_place_1 : Nat := 103
abbrev n_pose_Turn : Nat := 104
abbrev n_kinematics_slide : Nat := 105
abbrev n_kinematics_rest : Nat := 106
abbrev n_matrix_Identity : Nat := 107
abbrev n_matrix_Transpose : Nat := 108
abbrev n_matrix_limit : Nat := 109
abbrev n_interval_Mul : Nat := 110
abbrev n_matrix_Turn : Nat := 111
abbrev n_pose_Identity : Nat := 112
abbrev n_matrix_one : Nat := 113
abbrev n_interval_outward : Nat := 114
abbrev n_angle_CosOver : Nat := 115
abbrev n_angle_SinOver : Nat := 116
abbrev n_interval_Neg : Nat := 117
abbrev n_fixed_ShiftDown : Nat := 118
abbrev n_fixed_ShiftUp : Nat := 119
abbrev n_angle_over : Nat := 120
abbrev n_angle_Cos : Nat := 121
abbrev n_angle_Sin : Nat := 122
abbrev n_interval_Width : Nat := 123
abbrev n_interval_Hull : Nat := 124
abbrev n_angle_meets : Nat := 125
abbrev n_angle_mod : Nat := 126
abbrev n_angle_rising : Nat := 127
abbrev n_angle_sine : Nat := 128
abbrev n_angle_cosine : Nat := 129
abbrev n_angle_powersOf : Nat := 130
abbrev n_angle_total : Nat := 131
abbrev n_angle_up : Nat := 132
abbrev n_angle_enclosure : Nat := 133
abbrev n_runtime_boundsError_Error : Nat := 134
abbrev n_runtime_boundsError_RuntimeError : Nat := 135
abbrev n_runtime_errorString_Error : Nat := 136
abbrev n_runtime_errorString_RuntimeError : Nat := 137
abbrev n_runtime_plainError_Error : Nat := 138
abbrev n_runtime_plainError_RuntimeError : Nat := 139
abbrev n_runtime_errorAddressString_Error : Nat := 140
abbrev n_runtime_errorAddressString_RuntimeError : Nat := 141
abbrev n_runtime_TypeAssertionError_Error : Nat := 142
abbrev n_runtime_TypeAssertionError_RuntimeError : Nat := 143
abbrev n_runtime_PanicNilError_Error : Nat := 144
abbrev n_runtime_PanicNilError_RuntimeError : Nat := 145
abbrev n_internal_abi_Type_Align : Nat := 146
abbrev n_internal_runtime_maps_unhashableTypeError_Error : Nat := 147
abbrev n_internal_runtime_maps_unhashableTypeError_RuntimeError : Nat := 148
abbrev n_errors_errorString_Error : Nat := 149
abbrev n_internal_abi_Kind_String : Nat := 150
abbrev T_api_Robot : Nat := 25
abbrev T_api_Mass : Nat := 31
abbrev T_int64 : Nat := 2
abbrev T_api_Range : Nat := 38
abbrev T_api_Joint : Nat := 48
abbrev T_api_Vec : Nat := 29
abbrev T_api_Torque : Nat := 40
abbrev T_dynamics_vector : Nat := 66
abbrev T_dynamics_lever : Nat := 70
abbrev T_api_Interval : Nat := 80
abbrev T_sl_dynamics_lever : Nat := 64
abbrev T_dynamics_model : Nat := 63
abbrev T_2_int64 : Nat := 106
abbrev T_armplanref40_Wide : Nat := 116
abbrev T_kinematics_tree : Nat := 130
abbrev T_api_IVec : Nat := 90
abbrev T_api_Pose : Nat := 95
abbrev T_int : Nat := 3
abbrev T_kinematics_motion : Nat := 161
abbrev T_api_IMat : Nat := 93
abbrev T_string : Nat := 9
abbrev T_3_api_Interval : Nat := 89
abbrev T_4_int64 : Nat := 174
abbrev T_angle_powers : Nat := 180
abbrev T_11_int64 : Nat := 178
/-! gosem.cut.init -/
def F_gosem_cut_init.r0 : List AOper := [
  ⟨(some 0), .call (.func n_gosem_cut) [], none, []⟩]
def F_gosem_cut_init : AFunc := ⟨(.region F_gosem_cut_init.r0),
  []⟩
/-! armplan/armplanlaw40.DynamicsSliders -/
def F_armplanlaw40_DynamicsSliders.r0 : List AOper := [
  ⟨(some 8), .mv (.const (.bool false)), none, []⟩]
def F_armplanlaw40_DynamicsSliders.r1 : List AOper := [
  ⟨(some 17), .call (.func n_armplanmake_Slider) [(.const (.int .i64 1)), (.const (.int .i64 1048576))], none, []⟩,
  ⟨(some 9), .alloc T_api_Robot [(.slice none 0 0), (.slice none 0 0)], none, []⟩,
  ⟨none, .store 2 (.tmp 9) (.tmp 17), none, []⟩]
def F_armplanlaw40_DynamicsSliders.r2 : List AOper := [
  ⟨(some 18), .mv (.tmp 2), none, []⟩,
  ⟨(some 19), .call (.func n_armplanmake_Round) [(.tmp 18), (.const (.int .i64 60000))], none, []⟩,
  ⟨(some 20), .bin .add .no (.const (.int .i64 1)) (.tmp 19), none, []⟩,
  ⟨(some 10), .mv (.tmp 20), none, []⟩]
def F_armplanlaw40_DynamicsSliders.r3 : List AOper := [
  ⟨(some 21), .mv (.tmp 10), none, []⟩,
  ⟨(some 22), .build [(.int .i64 0), (.int .i64 0), (.int .i64 0)] [(0, 1, (.const (.int .i64 5))), (1, 1, (.const (.int .i64 6))), (2, 1, (.const (.int .i64 7)))], none, []⟩,
  ⟨(some 23), .build [(.int .i64 0), (.int .i64 0), (.int .i64 0), (.int .i64 0), (.int .i64 0)] [(1, 1, (.tmp 21)), (2, 3, (.tmp 22))], none, []⟩,
  ⟨(some 24), .buildSlice T_api_Mass [(.int .i64 0), (.int .i64 0), (.int .i64 0), (.int .i64 0), (.int .i64 0)] 1 [(0, 5, (.tmp 23))], none, []⟩,
  ⟨(some 25), .fieldAddr 1 (.tmp 9), none, []⟩,
  ⟨none, .store 1 (.tmp 25) (.tmp 24), none, []⟩]
def F_armplanlaw40_DynamicsSliders.r4 : List AOper := [
  ⟨(some 26), .mv (.tmp 0), none, []⟩,
  ⟨(some 27), .call (.func n_armplanmake_Round) [(.tmp 26), (.const (.int .i64 1048576))], none, []⟩,
  ⟨(some 28), .buildSlice T_int64 [(.int .i64 0)] 1 [(0, 1, (.tmp 27))], none, []⟩,
  ⟨(some 29), .mv (.tmp 1), none, []⟩,
  ⟨(some 30), .call (.func n_armplanmake_Round) [(.tmp 29), (.const (.int .i64 1048576))], none, []⟩,
  ⟨(some 31), .buildSlice T_int64 [(.int .i64 0)] 1 [(0, 1, (.tmp 30))], none, []⟩,
  ⟨(some 11), .mv (.tmp 28), none, []⟩,
  ⟨(some 12), .mv (.tmp 31), none, []⟩]
def F_armplanlaw40_DynamicsSliders.r5 : List AOper := [
  ⟨(some 32), .mv (.tmp 3), none, []⟩,
  ⟨(some 33), .call (.func n_armplanmake_Round) [(.tmp 32), (.const (.int .i64 1048576))], none, []⟩,
  ⟨(some 34), .bin .sub .no (.tmp 33) (.const (.int .i64 524288)), none, []⟩,
  ⟨(some 13), .mv (.tmp 34), none, []⟩]
def F_armplanlaw40_DynamicsSliders.r6 : List AOper := [
  ⟨(some 36), .load (some 2) (.tmp 9), none, []⟩,
  ⟨(some 37), .mv (.tmp 13), none, []⟩,
  ⟨(some 38), .build [(.int .i64 0), (.int .i64 0), (.int .i64 0)] [(0, 1, (.tmp 37)), (1, 1, (.const (.int .i64 3))), (2, 1, (.const (.int .i64 4)))], none, []⟩,
  ⟨(some 39), .mv (.tmp 11), none, []⟩,
  ⟨(some 40), .mv (.tmp 12), none, []⟩,
  ⟨(some 41), .call (.func n_dynamics_Torques) [(.tmp 36), (.tmp 38), (.tmp 39), (.tmp 40), (.const (.int .i64 4)), (.const (.int .i64 5))], none, []⟩,
  ⟨(some 35), .mv (.tmp 41), none, []⟩,
  ⟨(some 42), .ext (.tmp 35) 0, none, []⟩,
  ⟨(some 43), .ext (.tmp 35) 1, none, []⟩,
  ⟨(some 14), .mv (.tmp 42), none, []⟩,
  ⟨(some 15), .mv (.tmp 43), none, []⟩]
def F_armplanlaw40_DynamicsSliders.r7 : List AOper := [
  ⟨(some 44), .mv (.tmp 10), none, []⟩,
  ⟨(some 45), .mv (.tmp 12), none, []⟩,
  ⟨(some 46), .idxAddr none 1 (.tmp 45) (.const (.int .i64 0)), none, []⟩,
  ⟨(some 47), .load none (.tmp 46), none, []⟩,
  ⟨(some 48), .mv (.tmp 11), none, []⟩,
  ⟨(some 49), .idxAddr none 1 (.tmp 48) (.const (.int .i64 0)), none, []⟩,
  ⟨(some 50), .load none (.tmp 49), none, []⟩,
  ⟨(some 51), .bin .sub .no (.tmp 47) (.tmp 50), none, []⟩,
  ⟨(some 52), .bin .mul .no (.tmp 44) (.tmp 51), none, []⟩,
  ⟨(some 16), .mv (.tmp 52), none, []⟩]
def F_armplanlaw40_DynamicsSliders.r8 : List AOper := [
  ⟨(some 53), .call (.func n_armplanlaw40_awake) [], none, []⟩,
  ⟨(some 54), .mv (.tmp 53), none, []⟩,
  ⟨(some 55), .mv (.tmp 15), some ((some 54), true), []⟩,
  ⟨(some 56), .pick (.tmp 54) (.tmp 55) (.const (.bool false)), none, []⟩,
  ⟨(some 57), .mv (.tmp 56), none, []⟩,
  ⟨(some 58), .mv (.tmp 14), some ((some 57), true), []⟩,
  ⟨(some 59), .lenO false (.tmp 58), some ((some 57), true), []⟩,
  ⟨(some 60), .bin .eql .no (.tmp 59) (.const (.int .i64 1)), some ((some 57), true), []⟩,
  ⟨(some 61), .pick (.tmp 57) (.tmp 60) (.const (.bool false)), none, []⟩,
  ⟨(some 62), .mv (.tmp 61), none, []⟩,
  ⟨(some 63), .mv (.tmp 14), some ((some 62), true), []⟩,
  ⟨(some 64), .idxAddr none 6 (.tmp 63) (.const (.int .i64 0)), some ((some 62), true), []⟩,
  ⟨(some 65), .fieldAddr 0 (.tmp 64), some ((some 62), true), []⟩,
  ⟨(some 66), .load (some 2) (.tmp 65), some ((some 62), true), []⟩,
  ⟨(some 67), .mv (.tmp 16), some ((some 62), true), []⟩,
  ⟨(some 68), .mv (.tmp 16), some ((some 62), true), []⟩,
  ⟨(some 69), .build [(.int .i64 0), (.int .i64 0)] [(0, 1, (.tmp 67)), (1, 1, (.tmp 68))], some ((some 62), true), []⟩,
  ⟨(some 70), .bin .eql (.flat [.int, .int]) (.tmp 66) (.tmp 69), some ((some 62), true), []⟩,
  ⟨(some 71), .pick (.tmp 62) (.tmp 70) (.const (.bool false)), none, []⟩,
  ⟨(some 72), .mv (.tmp 71), none, []⟩,
  ⟨(some 73), .mv (.tmp 14), some ((some 72), true), []⟩,
  ⟨(some 74), .idxAddr none 6 (.tmp 73) (.const (.int .i64 0)), some ((some 72), true), []⟩,
  ⟨(some 75), .fieldAddr 2 (.tmp 74), some ((some 72), true), []⟩,
  ⟨(some 76), .load (some 2) (.tmp 75), some ((some 72), true), []⟩,
  ⟨(some 77), .build [(.int .i64 0), (.int .i64 0)] [], some ((some 72), true), []⟩,
  ⟨(some 78), .bin .eql (.flat [.int, .int]) (.tmp 76) (.tmp 77), some ((some 72), true), []⟩,
  ⟨(some 79), .pick (.tmp 72) (.tmp 78) (.const (.bool false)), none, []⟩,
  ⟨(some 80), .mv (.tmp 79), none, []⟩,
  ⟨(some 81), .mv (.tmp 14), some ((some 80), true), []⟩,
  ⟨(some 82), .idxAddr none 6 (.tmp 81) (.const (.int .i64 0)), some ((some 80), true), []⟩,
  ⟨(some 83), .fieldAddr 4 (.tmp 82), some ((some 80), true), []⟩,
  ⟨(some 84), .load (some 2) (.tmp 83), some ((some 80), true), []⟩,
  ⟨(some 85), .mv (.tmp 10), some ((some 80), true), []⟩,
  ⟨(some 86), .un .neg (.tmp 85), some ((some 80), true), []⟩,
  ⟨(some 87), .mv (.tmp 13), some ((some 80), true), []⟩,
  ⟨(some 88), .bin .mul .no (.tmp 86) (.tmp 87), some ((some 80), true), []⟩,
  ⟨(some 89), .mv (.tmp 10), some ((some 80), true), []⟩,
  ⟨(some 90), .un .neg (.tmp 89), some ((some 80), true), []⟩,
  ⟨(some 91), .mv (.tmp 13), some ((some 80), true), []⟩,
  ⟨(some 92), .bin .mul .no (.tmp 90) (.tmp 91), some ((some 80), true), []⟩,
  ⟨(some 93), .build [(.int .i64 0), (.int .i64 0)] [(0, 1, (.tmp 88)), (1, 1, (.tmp 92))], some ((some 80), true), []⟩,
  ⟨(some 94), .bin .eql (.flat [.int, .int]) (.tmp 84) (.tmp 93), some ((some 80), true), []⟩,
  ⟨(some 95), .pick (.tmp 80) (.tmp 94) (.const (.bool false)), none, []⟩,
  ⟨(some 96), .mv (.tmp 95), none, []⟩,
  ⟨(some 97), .load (some 2) (.tmp 9), some ((some 96), true), []⟩,
  ⟨(some 98), .mv (.tmp 11), some ((some 96), true), []⟩,
  ⟨(some 99), .call (.func n_armplanref10_Inside) [(.tmp 97), (.tmp 98)], some ((some 96), true), []⟩,
  ⟨(some 100), .pick (.tmp 96) (.tmp 99) (.const (.bool false)), none, []⟩,
  ⟨(some 8), .mv (.tmp 100), none, []⟩]
def F_armplanlaw40_DynamicsSliders : AFunc := ⟨(.seq (.region F_armplanlaw40_DynamicsSliders.r0) (.seq (.region F_armplanlaw40_DynamicsSliders.r1) (.seq (.region F_armplanlaw40_DynamicsSliders.r2) (.seq (.region F_armplanlaw40_DynamicsSliders.r3) (.seq (.region F_armplanlaw40_DynamicsSliders.r4) (.seq (.region F_armplanlaw40_DynamicsSliders.r5) (.seq (.region F_armplanlaw40_DynamicsSliders.r6) (.seq (.dregion F_armplanlaw40_DynamicsSliders.r7) (.seq (.region F_armplanlaw40_DynamicsSliders.r8) .ret))))))))),
  [.inl 8]⟩
/-! armplan/armplanlaw40.DynamicsRanges -/
def F_armplanlaw40_DynamicsRanges.r0 : List AOper := [
  ⟨(some 8), .box T_api_Range (.tmp 0), none, []⟩,
  ⟨(some 9), .box T_api_Range (.tmp 1), none, []⟩,
  ⟨(some 16), .mv (.const (.bool false)), none, []⟩]
def F_armplanlaw40_DynamicsRanges.r1 : List AOper := [
  ⟨(some 19), .mv (.tmp 2), none, []⟩,
  ⟨(some 20), .mv (.tmp 3), none, []⟩,
  ⟨(some 21), .mv (.tmp 6), none, []⟩,
  ⟨(some 22), .call (.func n_armplanlaw40_some) [(.tmp 19), (.tmp 20), (.tmp 21)], none, []⟩,
  ⟨(some 23), .mv (.tmp 4), none, []⟩,
  ⟨(some 24), .mv (.tmp 5), none, []⟩,
  ⟨(some 25), .mv (.tmp 7), none, []⟩,
  ⟨(some 26), .call (.func n_armplanlaw40_some) [(.tmp 23), (.tmp 24), (.tmp 25)], none, []⟩,
  ⟨(some 17), .alloc T_api_Range [(.int .i64 0), (.int .i64 0)], none, []⟩,
  ⟨(some 18), .alloc T_api_Range [(.int .i64 0), (.int .i64 0)], none, []⟩,
  ⟨none, .store 2 (.tmp 17) (.tmp 22), none, []⟩,
  ⟨none, .store 2 (.tmp 18) (.tmp 26), none, []⟩]
def F_armplanlaw40_DynamicsRanges.r2 : List AOper := [
  ⟨(some 27), .call (.func n_armplanlaw40_awake) [], none, []⟩,
  ⟨(some 28), .mv (.tmp 27), none, []⟩,
  ⟨(some 29), .load (some 2) (.tmp 8), some ((some 28), true), []⟩,
  ⟨(some 30), .load (some 2) (.tmp 9), some ((some 28), true), []⟩,
  ⟨(some 31), .call (.func n_armplanlaw40_ranges) [(.tmp 29), (.tmp 30)], some ((some 28), true), []⟩,
  ⟨(some 32), .pick (.tmp 28) (.tmp 31) (.const (.bool false)), none, []⟩,
  ⟨(some 33), .mv (.tmp 32), none, []⟩,
  ⟨(some 34), .load (some 2) (.tmp 17), some ((some 33), true), []⟩,
  ⟨(some 35), .load (some 2) (.tmp 18), some ((some 33), true), []⟩,
  ⟨(some 36), .call (.func n_armplanlaw40_ranges) [(.tmp 34), (.tmp 35)], some ((some 33), true), []⟩,
  ⟨(some 37), .pick (.tmp 33) (.tmp 36) (.const (.bool false)), none, []⟩,
  ⟨(some 38), .mv (.tmp 37), none, []⟩,
  ⟨(some 39), .load (some 2) (.tmp 17), some ((some 38), true), []⟩,
  ⟨(some 40), .load (some 2) (.tmp 9), some ((some 38), true), []⟩,
  ⟨(some 41), .call (.func n_armplanlaw40_ranges) [(.tmp 39), (.tmp 40)], some ((some 38), true), []⟩,
  ⟨(some 42), .pick (.tmp 38) (.tmp 41) (.const (.bool false)), none, []⟩,
  ⟨(some 43), .mv (.tmp 42), none, []⟩,
  ⟨(some 44), .load (some 2) (.tmp 18), some ((some 43), true), []⟩,
  ⟨(some 45), .load (some 2) (.tmp 18), some ((some 43), true), []⟩,
  ⟨(some 46), .call (.func n_armplanlaw40_ranges) [(.tmp 44), (.tmp 45)], some ((some 43), true), []⟩,
  ⟨(some 47), .pick (.tmp 43) (.tmp 46) (.const (.bool false)), none, []⟩,
  ⟨(some 16), .mv (.tmp 47), none, []⟩]
def F_armplanlaw40_DynamicsRanges : AFunc := ⟨(.seq (.region F_armplanlaw40_DynamicsRanges.r0) (.seq (.region F_armplanlaw40_DynamicsRanges.r1) (.seq (.region F_armplanlaw40_DynamicsRanges.r2) .ret))),
  [.inl 16]⟩
/-! armplan/armplanmake.Slider -/
def F_armplanmake_Slider.r0 : List AOper := [
  ⟨(some 4), .alloc T_api_Robot [(.slice none 0 0), (.slice none 0 0)], none, []⟩]
def F_armplanmake_Slider.r1 : List AOper := [
  ⟨(some 5), .alloc T_api_Robot [(.slice none 0 0), (.slice none 0 0)], none, []⟩]
def F_armplanmake_Slider.r2 : List AOper := [
  ⟨(some 6), .mv (.const (.int .i64 0)), none, []⟩]
def F_armplanmake_Slider.r3 : List AOper := [
  ⟨(some 7), .mv (.tmp 6), none, []⟩,
  ⟨(some 8), .mv (.tmp 0), none, []⟩,
  ⟨(some 9), .bin .lss .no (.tmp 7) (.tmp 8), none, []⟩]
def F_armplanmake_Slider.r4 : List AOper := [
  ⟨(some 12), .fieldAddr 0 (.tmp 5), none, []⟩,
  ⟨(some 13), .load none (.tmp 12), none, [3]⟩,
  ⟨(some 14), .mv (.tmp 6), none, []⟩,
  ⟨(some 15), .call (.func n_armplanmake_letter) [(.tmp 14)], none, []⟩,
  ⟨(some 16), .mv (.tmp 6), none, []⟩,
  ⟨(some 17), .bin .rem .no (.tmp 16) (.const (.int .i64 2)), none, []⟩,
  ⟨(some 18), .bin .add .no (.const (.int .i64 4)) (.tmp 17), none, []⟩,
  ⟨(some 19), .mv (.tmp 6), none, []⟩,
  ⟨(some 20), .bin .sub .no (.tmp 19) (.const (.int .i64 1)), none, []⟩,
  ⟨(some 21), .mv (.tmp 1), none, []⟩,
  ⟨(some 22), .build [(.string (ByteArray.mk #[])), (.int .i64 0), (.int .i64 0), (.int .i64 0), (.int .i64 0), (.int .i64 0), (.int .i64 0), (.int .i64 0), (.int .i64 0), (.int .i64 0), (.int .i64 0), (.int .i64 0)] [(0, 1, (.tmp 15)), (1, 1, (.tmp 18)), (2, 1, (.tmp 20)), (7, 1, (.tmp 21)), (8, 1, (.const (.int .i64 1))), (9, 1, (.const (.int .i64 65536))), (10, 1, (.const (.int .i64 65536))), (11, 1, (.const (.int .i64 65536)))], none, []⟩,
  ⟨(some 23), .buildSlice T_api_Joint [(.string (ByteArray.mk #[])), (.int .i64 0), (.int .i64 0), (.int .i64 0), (.int .i64 0), (.int .i64 0), (.int .i64 0), (.int .i64 0), (.int .i64 0), (.int .i64 0), (.int .i64 0), (.int .i64 0)] 1 [(0, 12, (.tmp 22))], none, []⟩,
  ⟨(some 24), .append T_api_Joint 12 104 (.tmp 13) (.tmp 23), none, []⟩,
  ⟨(some 25), .fieldAddr 0 (.tmp 5), none, []⟩,
  ⟨none, .store 1 (.tmp 25) (.tmp 24), none, []⟩]
def F_armplanmake_Slider.r5 : List AOper := [
  ⟨(some 10), .mv (.tmp 6), none, []⟩,
  ⟨(some 11), .bin .add .no (.tmp 10) (.const (.int .i64 1)), none, []⟩,
  ⟨(some 6), .mv (.tmp 11), none, []⟩]
def F_armplanmake_Slider.l0 : ACode := (.seq (.seq (.region F_armplanmake_Slider.r3) (.cond (.tmp 9) .skip (.exit 0))) (.seq (.block 1 (.dregion F_armplanmake_Slider.r4)) (.region F_armplanmake_Slider.r5)))
def F_armplanmake_Slider.r6 : List AOper := [
  ⟨(some 26), .load (some 2) (.tmp 5), none, []⟩,
  ⟨none, .store 2 (.tmp 4) (.tmp 26), none, []⟩]
def F_armplanmake_Slider : AFunc := ⟨(.seq (.region F_armplanmake_Slider.r0) (.seq (.region F_armplanmake_Slider.r1) (.seq (.seq (.region F_armplanmake_Slider.r2) (.block 0 (.loop F_armplanmake_Slider.l0))) (.seq (.region F_armplanmake_Slider.r6) .ret)))),
  [.inr (4, (some 2))]⟩
/-! armplan/armplanmake.Round -/
def F_armplanmake_Round.r0 : List AOper := [
  ⟨(some 4), .mv (.const (.int .i64 0)), none, []⟩]
def F_armplanmake_Round.r1 : List AOper := [
  ⟨(some 6), .mv (.tmp 0), none, []⟩,
  ⟨(some 7), .mv (.tmp 1), none, []⟩,
  ⟨(some 8), .bin .rem .no (.tmp 6) (.tmp 7), none, []⟩,
  ⟨(some 5), .mv (.tmp 8), none, []⟩]
def F_armplanmake_Round.r2 : List AOper := [
  ⟨(some 9), .mv (.tmp 5), none, []⟩,
  ⟨(some 10), .bin .lss .no (.tmp 9) (.const (.int .i64 0)), none, []⟩]
def F_armplanmake_Round.r3 : List AOper := [
  ⟨(some 11), .mv (.tmp 5), none, []⟩,
  ⟨(some 12), .mv (.tmp 1), none, []⟩,
  ⟨(some 13), .bin .add .no (.tmp 11) (.tmp 12), none, []⟩,
  ⟨(some 5), .mv (.tmp 13), none, []⟩]
def F_armplanmake_Round.r4 : List AOper := [
  ⟨(some 14), .mv (.tmp 5), none, []⟩,
  ⟨(some 4), .mv (.tmp 14), none, []⟩]
def F_armplanmake_Round : AFunc := ⟨(.seq (.region F_armplanmake_Round.r0) (.seq (.region F_armplanmake_Round.r1) (.seq (.seq (.region F_armplanmake_Round.r2) (.cond (.tmp 10) (.region F_armplanmake_Round.r3) .skip)) (.seq (.region F_armplanmake_Round.r4) .ret)))),
  [.inl 4]⟩
/-! armplan/dynamics.Torques -/
def F_dynamics_Torques.r0 : List AOper := [
  ⟨(some 6), .box T_api_Robot (.tmp 0), none, []⟩,
  ⟨(some 7), .box T_api_Vec (.tmp 1), none, []⟩,
  ⟨(some 12), .mv (.const (.slice none 0 0)), none, []⟩,
  ⟨(some 13), .mv (.const (.bool false)), none, []⟩]
def F_dynamics_Torques.r1 : List AOper := [
  ⟨(some 29), .load (some 2) (.tmp 6), none, []⟩,
  ⟨(some 30), .mv (.tmp 2), none, []⟩,
  ⟨(some 31), .mv (.tmp 3), none, []⟩,
  ⟨(some 32), .call (.func n_dynamics_Rates) [(.tmp 29), (.tmp 30), (.tmp 31)], none, []⟩,
  ⟨(some 28), .mv (.tmp 32), none, []⟩,
  ⟨(some 33), .ext (.tmp 28) 0, none, []⟩,
  ⟨(some 34), .ext (.tmp 28) 1, none, []⟩,
  ⟨(some 14), .mv (.tmp 33), none, []⟩,
  ⟨(some 15), .mv (.tmp 34), none, []⟩]
def F_dynamics_Torques.r2 : List AOper := [
  ⟨(some 35), .mv (.tmp 15), none, []⟩,
  ⟨(some 36), .un .not (.tmp 35), none, []⟩]
def F_dynamics_Torques.r3 : List AOper := [
  ⟨(some 12), .mv (.const (.slice none 0 0)), none, []⟩,
  ⟨(some 13), .mv (.const (.bool false)), none, []⟩]
def F_dynamics_Torques.r4 : List AOper := [
  ⟨(some 38), .mv (.tmp 2), none, []⟩,
  ⟨(some 39), .mv (.tmp 3), none, []⟩,
  ⟨(some 40), .mv (.tmp 4), none, []⟩,
  ⟨(some 41), .mv (.tmp 5), none, []⟩,
  ⟨(some 42), .call (.func n_config_Piece) [(.tmp 38), (.tmp 39), (.tmp 40), (.tmp 41)], none, []⟩,
  ⟨(some 37), .mv (.tmp 42), none, []⟩,
  ⟨(some 43), .ext (.tmp 37) 0, none, []⟩,
  ⟨(some 44), .ext (.tmp 37) 1, none, []⟩,
  ⟨(some 16), .mv (.tmp 43), none, []⟩,
  ⟨(some 15), .mv (.tmp 44), none, []⟩]
def F_dynamics_Torques.r5 : List AOper := [
  ⟨(some 45), .mv (.tmp 15), none, []⟩,
  ⟨(some 46), .un .not (.tmp 45), none, []⟩,
  ⟨(some 47), .mv (.tmp 46), none, []⟩,
  ⟨(some 48), .load (some 2) (.tmp 6), some ((some 47), false), []⟩,
  ⟨(some 49), .load (some 3) (.tmp 7), some ((some 47), false), []⟩,
  ⟨(some 50), .mv (.tmp 16), some ((some 47), false), []⟩,
  ⟨(some 51), .call (.func n_dynamics_usable) [(.tmp 48), (.tmp 49), (.tmp 50)], some ((some 47), false), []⟩,
  ⟨(some 52), .un .not (.tmp 51), some ((some 47), false), []⟩,
  ⟨(some 53), .pick (.tmp 47) (.const (.bool true)) (.tmp 52), none, []⟩]
def F_dynamics_Torques.r6 : List AOper := [
  ⟨(some 12), .mv (.const (.slice none 0 0)), none, []⟩,
  ⟨(some 13), .mv (.const (.bool false)), none, []⟩]
def F_dynamics_Torques.r7 : List AOper := [
  ⟨(some 54), .load (some 2) (.tmp 6), none, []⟩,
  ⟨(some 55), .mv (.tmp 16), none, []⟩,
  ⟨(some 56), .call (.func n_dynamics_newModel) [(.tmp 54), (.tmp 55)], none, []⟩,
  ⟨(some 17), .mv (.tmp 56), none, []⟩]
def F_dynamics_Torques.r8 : List AOper := [
  ⟨(some 57), .fieldAddr 0 (.tmp 6), none, []⟩,
  ⟨(some 58), .load none (.tmp 57), none, []⟩,
  ⟨(some 59), .lenO false (.tmp 58), none, []⟩,
  ⟨(some 60), .makeSlice T_api_Torque [(.int .i64 0), (.int .i64 0), (.int .i64 0), (.int .i64 0), (.int .i64 0), (.int .i64 0)] 48 (.tmp 59) (.tmp 59), none, []⟩,
  ⟨(some 18), .mv (.tmp 60), none, []⟩]
def F_dynamics_Torques.r9 : List AOper := [
  ⟨(some 61), .mv (.tmp 17), none, []⟩,
  ⟨(some 62), .load (some 3) (.tmp 7), none, []⟩,
  ⟨(some 63), .call (.func n_dynamics_model_rest) [(.tmp 61), (.tmp 62)], none, []⟩,
  ⟨(some 64), .lenO false (.tmp 63), none, []⟩,
  ⟨(some 65), .mv (.const (.int .i64 0)), none, []⟩]
def F_dynamics_Torques.r10 : List AOper := [
  ⟨(some 66), .bin .lss .no (.tmp 65) (.tmp 64), none, []⟩]
def F_dynamics_Torques.r11 : List AOper := [
  ⟨(some 67), .mv (.tmp 65), none, []⟩,
  ⟨(some 68), .idxAddr none 2 (.tmp 63) (.tmp 65), none, []⟩,
  ⟨(some 69), .load (some 2) (.tmp 68), none, []⟩,
  ⟨(some 20), .alloc T_api_Range [(.int .i64 0), (.int .i64 0)], none, []⟩,
  ⟨(some 19), .mv (.tmp 67), none, []⟩,
  ⟨none, .store 2 (.tmp 20) (.tmp 69), none, []⟩]
def F_dynamics_Torques.r12 : List AOper := [
  ⟨(some 70), .mv (.tmp 18), none, []⟩,
  ⟨(some 71), .mv (.tmp 19), none, []⟩,
  ⟨(some 72), .load (some 2) (.tmp 20), none, []⟩,
  ⟨(some 73), .idxAddr none 6 (.tmp 70) (.tmp 71), none, []⟩,
  ⟨(some 74), .fieldAddr 4 (.tmp 73), none, []⟩,
  ⟨none, .store 2 (.tmp 74) (.tmp 72), none, []⟩]
def F_dynamics_Torques.r13 : List AOper := [
  ⟨(some 75), .bin .add .no (.tmp 65) (.const (.int .i64 1)), none, []⟩,
  ⟨(some 65), .mv (.tmp 75), none, []⟩]
def F_dynamics_Torques.l0 : ACode := (.seq (.region F_dynamics_Torques.r10) (.seq (.cond (.tmp 66) .skip (.exit 0)) (.seq (.block 1 (.seq (.region F_dynamics_Torques.r11) (.region F_dynamics_Torques.r12))) (.region F_dynamics_Torques.r13))))
def F_dynamics_Torques.r14 : List AOper := [
  ⟨(some 76), .mv (.tmp 17), none, []⟩,
  ⟨(some 77), .nilCheck (.tmp 76), none, []⟩,
  ⟨(some 78), .fieldAddr 3 (.tmp 77), none, []⟩,
  ⟨(some 79), .load none (.tmp 78), none, []⟩,
  ⟨(some 80), .lenO false (.tmp 79), none, []⟩,
  ⟨(some 81), .mv (.const (.int .i64 0)), none, []⟩]
def F_dynamics_Torques.r15 : List AOper := [
  ⟨(some 82), .bin .lss .no (.tmp 81) (.tmp 80), none, []⟩]
def F_dynamics_Torques.r16 : List AOper := [
  ⟨(some 83), .mv (.tmp 81), none, []⟩,
  ⟨(some 84), .idxAddr none 1 (.tmp 79) (.tmp 81), none, []⟩,
  ⟨(some 85), .load none (.tmp 84), none, []⟩,
  ⟨(some 21), .mv (.tmp 83), none, []⟩,
  ⟨(some 22), .mv (.tmp 85), none, []⟩]
def F_dynamics_Torques.r17 : List AOper := [
  ⟨(some 87), .mv (.tmp 17), none, []⟩,
  ⟨(some 88), .mv (.tmp 22), none, []⟩,
  ⟨(some 89), .mv (.tmp 14), none, []⟩,
  ⟨(some 90), .call (.func n_dynamics_model_derivatives) [(.tmp 87), (.tmp 88), (.tmp 89)], none, []⟩,
  ⟨(some 86), .mv (.tmp 90), none, []⟩,
  ⟨(some 91), .ext (.tmp 86) 0, none, []⟩,
  ⟨(some 92), .ext (.tmp 86) 1, none, []⟩,
  ⟨(some 23), .alloc T_dynamics_vector [(.int .i64 0), (.int .i64 0), (.int .i64 0), (.int .i64 0), (.int .i64 0), (.int .i64 0)], none, []⟩,
  ⟨(some 24), .alloc T_dynamics_vector [(.int .i64 0), (.int .i64 0), (.int .i64 0), (.int .i64 0), (.int .i64 0), (.int .i64 0)], none, []⟩,
  ⟨none, .store 6 (.tmp 23) (.tmp 91), none, []⟩,
  ⟨none, .store 6 (.tmp 24) (.tmp 92), none, []⟩]
def F_dynamics_Torques.r18 : List AOper := [
  ⟨(some 93), .mv (.tmp 22), none, []⟩,
  ⟨(some 94), .lenO false (.tmp 93), none, []⟩,
  ⟨(some 95), .mv (.const (.int .i64 0)), none, []⟩]
def F_dynamics_Torques.r19 : List AOper := [
  ⟨(some 96), .bin .lss .no (.tmp 95) (.tmp 94), none, []⟩]
def F_dynamics_Torques.r20 : List AOper := [
  ⟨(some 97), .idxAddr none 14 (.tmp 93) (.tmp 95), none, []⟩,
  ⟨(some 98), .load (some 14) (.tmp 97), none, []⟩,
  ⟨(some 26), .alloc T_dynamics_lever [(.int .i64 0), (.bool false), (.int .i64 0), (.int .i64 0), (.int .i64 0), (.int .i64 0), (.int .i64 0), (.int .i64 0), (.int .i64 0), (.int .i64 0), (.int .i64 0), (.int .i64 0), (.int .i64 0), (.int .i64 0)], none, []⟩,
  ⟨none, .store 14 (.tmp 26) (.tmp 98), none, []⟩]
def F_dynamics_Torques.r21 : List AOper := [
  ⟨(some 99), .mv (.tmp 18), none, []⟩,
  ⟨(some 100), .fieldAddr 0 (.tmp 26), none, []⟩,
  ⟨(some 101), .load none (.tmp 100), none, []⟩,
  ⟨(some 102), .idxAddr none 6 (.tmp 99) (.tmp 101), none, []⟩,
  ⟨(some 27), .mv (.tmp 102), none, []⟩]
def F_dynamics_Torques.r22 : List AOper := [
  ⟨(some 103), .mv (.tmp 27), none, []⟩,
  ⟨(some 104), .mv (.tmp 17), none, []⟩,
  ⟨(some 105), .nilCheck (.tmp 104), none, []⟩,
  ⟨(some 106), .fieldAddr 0 (.tmp 105), none, []⟩,
  ⟨(some 107), .mv (.tmp 27), none, []⟩,
  ⟨(some 108), .nilCheck (.tmp 107), none, []⟩,
  ⟨(some 109), .fieldAddr 0 (.tmp 108), none, []⟩,
  ⟨(some 110), .load (some 2) (.tmp 109), none, [23, 24]⟩,
  ⟨(some 111), .mv (.tmp 17), none, []⟩,
  ⟨(some 112), .nilCheck (.tmp 111), none, []⟩,
  ⟨(some 113), .fieldAddr 0 (.tmp 112), none, []⟩,
  ⟨(some 114), .fieldAddr 1 (.tmp 6), none, []⟩,
  ⟨(some 115), .load none (.tmp 114), none, [23]⟩,
  ⟨(some 116), .mv (.tmp 21), none, []⟩,
  ⟨(some 117), .idxAddr none 5 (.tmp 115) (.tmp 116), none, []⟩,
  ⟨(some 118), .fieldAddr 1 (.tmp 117), none, []⟩,
  ⟨(some 119), .load none (.tmp 118), none, [23]⟩,
  ⟨(some 120), .mv (.tmp 17), none, []⟩,
  ⟨(some 121), .nilCheck (.tmp 120), none, []⟩,
  ⟨(some 122), .fieldAddr 0 (.tmp 121), none, []⟩,
  ⟨(some 123), .fieldAddr 8 (.tmp 26), none, []⟩,
  ⟨(some 124), .load (some 6) (.tmp 123), none, []⟩,
  ⟨(some 125), .load (some 6) (.tmp 23), none, []⟩,
  ⟨(some 126), .call (.func n_dynamics_calculator_dot) [(.tmp 122), (.tmp 124), (.tmp 125)], none, []⟩,
  ⟨(some 127), .call (.func n_dynamics_calculator_times) [(.tmp 113), (.tmp 119), (.tmp 126)], none, []⟩,
  ⟨(some 128), .call (.func n_dynamics_calculator_add) [(.tmp 106), (.tmp 110), (.tmp 127)], none, []⟩,
  ⟨(some 129), .nilCheck (.tmp 103), none, []⟩,
  ⟨(some 130), .fieldAddr 0 (.tmp 129), none, []⟩,
  ⟨none, .store 2 (.tmp 130) (.tmp 128), none, []⟩]
def F_dynamics_Torques.r23 : List AOper := [
  ⟨(some 131), .mv (.tmp 27), none, []⟩,
  ⟨(some 132), .mv (.tmp 17), none, []⟩,
  ⟨(some 133), .nilCheck (.tmp 132), none, []⟩,
  ⟨(some 134), .fieldAddr 0 (.tmp 133), none, []⟩,
  ⟨(some 135), .mv (.tmp 27), none, []⟩,
  ⟨(some 136), .nilCheck (.tmp 135), none, []⟩,
  ⟨(some 137), .fieldAddr 2 (.tmp 136), none, []⟩,
  ⟨(some 138), .load (some 2) (.tmp 137), none, [23, 24]⟩,
  ⟨(some 139), .mv (.tmp 17), none, []⟩,
  ⟨(some 140), .nilCheck (.tmp 139), none, []⟩,
  ⟨(some 141), .fieldAddr 0 (.tmp 140), none, []⟩,
  ⟨(some 142), .fieldAddr 1 (.tmp 6), none, []⟩,
  ⟨(some 143), .load none (.tmp 142), none, [23]⟩,
  ⟨(some 144), .mv (.tmp 21), none, []⟩,
  ⟨(some 145), .idxAddr none 5 (.tmp 143) (.tmp 144), none, []⟩,
  ⟨(some 146), .fieldAddr 1 (.tmp 145), none, []⟩,
  ⟨(some 147), .load none (.tmp 146), none, [23]⟩,
  ⟨(some 148), .mv (.tmp 17), none, []⟩,
  ⟨(some 149), .nilCheck (.tmp 148), none, []⟩,
  ⟨(some 150), .fieldAddr 0 (.tmp 149), none, []⟩,
  ⟨(some 151), .fieldAddr 8 (.tmp 26), none, []⟩,
  ⟨(some 152), .load (some 6) (.tmp 151), none, []⟩,
  ⟨(some 153), .load (some 6) (.tmp 24), none, []⟩,
  ⟨(some 154), .call (.func n_dynamics_calculator_dot) [(.tmp 150), (.tmp 152), (.tmp 153)], none, []⟩,
  ⟨(some 155), .call (.func n_dynamics_calculator_times) [(.tmp 141), (.tmp 147), (.tmp 154)], none, []⟩,
  ⟨(some 156), .call (.func n_dynamics_calculator_add) [(.tmp 134), (.tmp 138), (.tmp 155)], none, []⟩,
  ⟨(some 157), .nilCheck (.tmp 131), none, []⟩,
  ⟨(some 158), .fieldAddr 2 (.tmp 157), none, []⟩,
  ⟨none, .store 2 (.tmp 158) (.tmp 156), none, []⟩]
def F_dynamics_Torques.r24 : List AOper := [
  ⟨(some 159), .bin .add .no (.tmp 95) (.const (.int .i64 1)), none, []⟩,
  ⟨(some 95), .mv (.tmp 159), none, []⟩]
def F_dynamics_Torques.l1 : ACode := (.seq (.region F_dynamics_Torques.r19) (.seq (.cond (.tmp 96) .skip (.exit 4)) (.seq (.block 5 (.seq (.region F_dynamics_Torques.r20) (.seq (.region F_dynamics_Torques.r21) (.seq (.dregion F_dynamics_Torques.r22) (.dregion F_dynamics_Torques.r23))))) (.region F_dynamics_Torques.r24))))
def F_dynamics_Torques.r25 : List AOper := [
  ⟨(some 160), .bin .add .no (.tmp 81) (.const (.int .i64 1)), none, []⟩,
  ⟨(some 81), .mv (.tmp 160), none, []⟩]
def F_dynamics_Torques.l2 : ACode := (.seq (.region F_dynamics_Torques.r15) (.seq (.cond (.tmp 82) .skip (.exit 2)) (.seq (.block 3 (.seq (.region F_dynamics_Torques.r16) (.seq (.region F_dynamics_Torques.r17) (.seq (.region F_dynamics_Torques.r18) (.block 4 (.loop F_dynamics_Torques.l1)))))) (.region F_dynamics_Torques.r25))))
def F_dynamics_Torques.r26 : List AOper := [
  ⟨(some 161), .mv (.tmp 17), none, []⟩,
  ⟨(some 162), .nilCheck (.tmp 161), none, []⟩,
  ⟨(some 163), .fieldAddr 0 (.tmp 162), none, []⟩,
  ⟨(some 164), .fieldAddr 0 (.tmp 163), none, []⟩,
  ⟨(some 165), .load none (.tmp 164), none, []⟩]
def F_dynamics_Torques.r27 : List AOper := [
  ⟨(some 12), .mv (.const (.slice none 0 0)), none, []⟩,
  ⟨(some 13), .mv (.const (.bool false)), none, []⟩]
def F_dynamics_Torques.r28 : List AOper := [
  ⟨(some 166), .mv (.tmp 18), none, []⟩,
  ⟨(some 12), .mv (.tmp 166), none, []⟩,
  ⟨(some 13), .mv (.const (.bool true)), none, []⟩]
def F_dynamics_Torques : AFunc := ⟨(.seq (.region F_dynamics_Torques.r0) (.seq (.region F_dynamics_Torques.r1) (.seq (.seq (.region F_dynamics_Torques.r2) (.cond (.tmp 36) (.seq (.region F_dynamics_Torques.r3) .ret) .skip)) (.seq (.region F_dynamics_Torques.r4) (.seq (.seq (.region F_dynamics_Torques.r5) (.cond (.tmp 53) (.seq (.region F_dynamics_Torques.r6) .ret) .skip)) (.seq (.region F_dynamics_Torques.r7) (.seq (.region F_dynamics_Torques.r8) (.seq (.seq (.region F_dynamics_Torques.r9) (.block 0 (.loop F_dynamics_Torques.l0))) (.seq (.seq (.region F_dynamics_Torques.r14) (.block 2 (.loop F_dynamics_Torques.l2))) (.seq (.seq (.region F_dynamics_Torques.r26) (.cond (.tmp 165) (.seq (.region F_dynamics_Torques.r27) .ret) .skip)) (.seq (.region F_dynamics_Torques.r28) .ret))))))))))),
  [.inl 12, .inl 13]⟩
/-! armplan/armplanlaw40.awake -/
def F_armplanlaw40_awake.r0 : List AOper := [
  ⟨(some 0), .mv (.const (.bool false)), none, []⟩]
def F_armplanlaw40_awake.r1 : List AOper := [
  ⟨(some 6), .call (.func n_armplanlaw40_arm) [(.const (.int .i64 2))], none, []⟩,
  ⟨(some 7), .build [(.int .i64 0), (.int .i64 0), (.int .i64 0)] [], none, []⟩,
  ⟨(some 8), .buildSlice T_int64 [(.int .i64 0)] 1 [(0, 1, (.const (.int .i64 0)))], none, []⟩,
  ⟨(some 9), .buildSlice T_int64 [(.int .i64 0)] 1 [(0, 1, (.const (.int .i64 65536)))], none, []⟩,
  ⟨(some 10), .call (.func n_dynamics_Torques) [(.tmp 6), (.tmp 7), (.tmp 8), (.tmp 9), (.const (.int .i64 6)), (.const (.int .i64 0))], none, []⟩,
  ⟨(some 5), .mv (.tmp 10), none, []⟩,
  ⟨(some 11), .ext (.tmp 5) 0, none, []⟩,
  ⟨(some 12), .ext (.tmp 5) 1, none, []⟩,
  ⟨(some 1), .mv (.tmp 11), none, []⟩,
  ⟨(some 2), .mv (.tmp 12), none, []⟩]
def F_armplanlaw40_awake.r2 : List AOper := [
  ⟨(some 14), .build [(.int .i64 0), (.int .i64 0)] [(0, 1, (.const (.int .i64 (-3)))), (1, 1, (.const (.int .i64 2)))], none, []⟩,
  ⟨(some 15), .build [(.int .i64 0), (.int .i64 0)] [(0, 1, (.const (.int .i64 65536))), (1, 1, (.const (.int .i64 131072)))], none, []⟩,
  ⟨(some 16), .call (.func n_dynamics_Mul) [(.tmp 14), (.tmp 15)], none, []⟩,
  ⟨(some 13), .mv (.tmp 16), none, []⟩,
  ⟨(some 17), .ext (.tmp 13) 0, none, []⟩,
  ⟨(some 18), .ext (.tmp 13) 1, none, []⟩,
  ⟨(some 3), .alloc T_api_Range [(.int .i64 0), (.int .i64 0)], none, []⟩,
  ⟨none, .store 2 (.tmp 3) (.tmp 17), none, []⟩,
  ⟨(some 4), .mv (.tmp 18), none, []⟩]
def F_armplanlaw40_awake.r3 : List AOper := [
  ⟨(some 19), .mv (.tmp 2), none, []⟩,
  ⟨(some 20), .mv (.tmp 19), none, []⟩,
  ⟨(some 21), .mv (.tmp 4), some ((some 20), true), []⟩,
  ⟨(some 22), .pick (.tmp 20) (.tmp 21) (.const (.bool false)), none, []⟩,
  ⟨(some 23), .mv (.tmp 22), none, []⟩,
  ⟨(some 24), .mv (.tmp 1), some ((some 23), true), []⟩,
  ⟨(some 25), .lenO false (.tmp 24), some ((some 23), true), []⟩,
  ⟨(some 26), .bin .eql .no (.tmp 25) (.const (.int .i64 1)), some ((some 23), true), []⟩,
  ⟨(some 27), .pick (.tmp 23) (.tmp 26) (.const (.bool false)), none, []⟩,
  ⟨(some 28), .mv (.tmp 27), none, []⟩,
  ⟨(some 29), .mv (.tmp 1), some ((some 28), true), []⟩,
  ⟨(some 30), .idxAddr none 6 (.tmp 29) (.const (.int .i64 0)), some ((some 28), true), []⟩,
  ⟨(some 31), .fieldAddr 0 (.tmp 30), some ((some 28), true), []⟩,
  ⟨(some 32), .fieldAddr 0 (.tmp 31), some ((some 28), true), []⟩,
  ⟨(some 33), .load none (.tmp 32), some ((some 28), true), []⟩,
  ⟨(some 34), .bin .lss .no (.tmp 33) (.const (.int .i64 823549)), some ((some 28), true), []⟩,
  ⟨(some 35), .pick (.tmp 28) (.tmp 34) (.const (.bool false)), none, []⟩,
  ⟨(some 36), .mv (.tmp 35), none, []⟩,
  ⟨(some 37), .mv (.tmp 1), some ((some 36), true), []⟩,
  ⟨(some 38), .idxAddr none 6 (.tmp 37) (.const (.int .i64 0)), some ((some 36), true), []⟩,
  ⟨(some 39), .fieldAddr 0 (.tmp 38), some ((some 36), true), []⟩,
  ⟨(some 40), .fieldAddr 1 (.tmp 39), some ((some 36), true), []⟩,
  ⟨(some 41), .load none (.tmp 40), some ((some 36), true), []⟩,
  ⟨(some 42), .bin .gtr .no (.tmp 41) (.const (.int .i64 823540)), some ((some 36), true), []⟩,
  ⟨(some 43), .pick (.tmp 36) (.tmp 42) (.const (.bool false)), none, []⟩,
  ⟨(some 44), .mv (.tmp 43), none, []⟩,
  ⟨(some 45), .load (some 2) (.tmp 3), some ((some 44), true), []⟩,
  ⟨(some 46), .build [(.int .i64 0), (.int .i64 0)] [(0, 1, (.const (.int .i64 (-6)))), (1, 1, (.const (.int .i64 4)))], some ((some 44), true), []⟩,
  ⟨(some 47), .bin .eql (.flat [.int, .int]) (.tmp 45) (.tmp 46), some ((some 44), true), []⟩,
  ⟨(some 48), .pick (.tmp 44) (.tmp 47) (.const (.bool false)), none, []⟩,
  ⟨(some 0), .mv (.tmp 48), none, []⟩]
def F_armplanlaw40_awake : AFunc := ⟨(.seq (.region F_armplanlaw40_awake.r0) (.seq (.region F_armplanlaw40_awake.r1) (.seq (.region F_armplanlaw40_awake.r2) (.seq (.region F_armplanlaw40_awake.r3) .ret)))),
  [.inl 0]⟩
/-! armplan/armplanref10.Inside -/
def F_armplanref10_Inside.r0 : List AOper := [
  ⟨(some 2), .box T_api_Robot (.tmp 0), none, []⟩,
  ⟨(some 4), .mv (.const (.bool false)), none, []⟩]
def F_armplanref10_Inside.r1 : List AOper := [
  ⟨(some 6), .load (some 2) (.tmp 2), none, []⟩,
  ⟨(some 7), .call (.func n_armplanref6_CheckRobot) [(.tmp 6)], none, []⟩,
  ⟨(some 8), .bin .neq .no (.tmp 7) (.const (.int .i64 0)), none, []⟩,
  ⟨(some 9), .mv (.tmp 8), none, []⟩,
  ⟨(some 10), .mv (.tmp 1), some ((some 9), false), []⟩,
  ⟨(some 11), .lenO false (.tmp 10), some ((some 9), false), []⟩,
  ⟨(some 12), .fieldAddr 0 (.tmp 2), some ((some 9), false), []⟩,
  ⟨(some 13), .load none (.tmp 12), some ((some 9), false), []⟩,
  ⟨(some 14), .lenO false (.tmp 13), some ((some 9), false), []⟩,
  ⟨(some 15), .bin .neq .no (.tmp 11) (.tmp 14), some ((some 9), false), []⟩,
  ⟨(some 16), .pick (.tmp 9) (.const (.bool true)) (.tmp 15), none, []⟩]
def F_armplanref10_Inside.r2 : List AOper := [
  ⟨(some 4), .mv (.const (.bool false)), none, []⟩]
def F_armplanref10_Inside.r3 : List AOper := [
  ⟨(some 5), .mv (.const (.int .i64 0)), none, []⟩]
def F_armplanref10_Inside.r4 : List AOper := [
  ⟨(some 17), .mv (.tmp 5), none, []⟩,
  ⟨(some 18), .mv (.tmp 1), none, []⟩,
  ⟨(some 19), .lenO false (.tmp 18), none, []⟩,
  ⟨(some 20), .bin .lss .no (.tmp 17) (.tmp 19), none, []⟩]
def F_armplanref10_Inside.r5 : List AOper := [
  ⟨(some 23), .mv (.tmp 1), none, []⟩,
  ⟨(some 24), .mv (.tmp 5), none, []⟩,
  ⟨(some 25), .idxAddr none 1 (.tmp 23) (.tmp 24), none, []⟩,
  ⟨(some 26), .load none (.tmp 25), none, []⟩,
  ⟨(some 27), .fieldAddr 0 (.tmp 2), none, []⟩,
  ⟨(some 28), .load none (.tmp 27), none, []⟩,
  ⟨(some 29), .mv (.tmp 5), none, []⟩,
  ⟨(some 30), .idxAddr none 12 (.tmp 28) (.tmp 29), none, []⟩,
  ⟨(some 31), .fieldAddr 6 (.tmp 30), none, []⟩,
  ⟨(some 32), .load none (.tmp 31), none, []⟩,
  ⟨(some 33), .bin .lss .no (.tmp 26) (.tmp 32), none, []⟩,
  ⟨(some 34), .mv (.tmp 33), none, []⟩,
  ⟨(some 35), .mv (.tmp 1), some ((some 34), false), []⟩,
  ⟨(some 36), .mv (.tmp 5), some ((some 34), false), []⟩,
  ⟨(some 37), .idxAddr none 1 (.tmp 35) (.tmp 36), some ((some 34), false), []⟩,
  ⟨(some 38), .load none (.tmp 37), some ((some 34), false), []⟩,
  ⟨(some 39), .fieldAddr 0 (.tmp 2), some ((some 34), false), []⟩,
  ⟨(some 40), .load none (.tmp 39), some ((some 34), false), []⟩,
  ⟨(some 41), .mv (.tmp 5), some ((some 34), false), []⟩,
  ⟨(some 42), .idxAddr none 12 (.tmp 40) (.tmp 41), some ((some 34), false), []⟩,
  ⟨(some 43), .fieldAddr 7 (.tmp 42), some ((some 34), false), []⟩,
  ⟨(some 44), .load none (.tmp 43), some ((some 34), false), []⟩,
  ⟨(some 45), .bin .gtr .no (.tmp 38) (.tmp 44), some ((some 34), false), []⟩,
  ⟨(some 46), .pick (.tmp 34) (.const (.bool true)) (.tmp 45), none, []⟩]
def F_armplanref10_Inside.r6 : List AOper := [
  ⟨(some 4), .mv (.const (.bool false)), none, []⟩]
def F_armplanref10_Inside.r7 : List AOper := [
  ⟨(some 21), .mv (.tmp 5), none, []⟩,
  ⟨(some 22), .bin .add .no (.tmp 21) (.const (.int .i64 1)), none, []⟩,
  ⟨(some 5), .mv (.tmp 22), none, []⟩]
def F_armplanref10_Inside.l0 : ACode := (.seq (.seq (.region F_armplanref10_Inside.r4) (.cond (.tmp 20) .skip (.exit 0))) (.seq (.block 1 (.seq (.dregion F_armplanref10_Inside.r5) (.cond (.tmp 46) (.seq (.region F_armplanref10_Inside.r6) .ret) .skip))) (.region F_armplanref10_Inside.r7)))
def F_armplanref10_Inside.r8 : List AOper := [
  ⟨(some 4), .mv (.const (.bool true)), none, []⟩]
def F_armplanref10_Inside : AFunc := ⟨(.seq (.region F_armplanref10_Inside.r0) (.seq (.seq (.region F_armplanref10_Inside.r1) (.cond (.tmp 16) (.seq (.region F_armplanref10_Inside.r2) .ret) .skip)) (.seq (.seq (.region F_armplanref10_Inside.r3) (.block 0 (.loop F_armplanref10_Inside.l0))) (.seq (.region F_armplanref10_Inside.r8) .ret)))),
  [.inl 4]⟩
/-! armplan/armplanlaw40.some -/
def F_armplanlaw40_some.r0 : List AOper := [
  ⟨(some 6), .alloc T_api_Range [(.int .i64 0), (.int .i64 0)], none, []⟩]
def F_armplanlaw40_some.r1 : List AOper := [
  ⟨(some 9), .mv (.tmp 0), none, []⟩,
  ⟨(some 10), .mv (.tmp 1), none, []⟩,
  ⟨(some 11), .call (.func n_armplanmake_Interval) [(.tmp 9), (.tmp 10)], none, []⟩,
  ⟨(some 7), .alloc T_api_Interval [(.int .i64 0), (.int .i64 0)], none, []⟩,
  ⟨none, .store 2 (.tmp 7) (.tmp 11), none, []⟩]
def F_armplanlaw40_some.r2 : List AOper := [
  ⟨(some 12), .mv (.tmp 2), none, []⟩,
  ⟨(some 13), .call (.func n_armplanmake_Round) [(.tmp 12), (.const (.int .i64 30))], none, []⟩,
  ⟨(some 14), .conv .u64 (.tmp 13), none, []⟩,
  ⟨(some 8), .mv (.tmp 14), none, []⟩]
def F_armplanlaw40_some.r3 : List AOper := [
  ⟨(some 15), .fieldAddr 0 (.tmp 7), none, []⟩,
  ⟨(some 16), .load none (.tmp 15), none, [10]⟩,
  ⟨(some 17), .mv (.tmp 8), none, []⟩,
  ⟨(some 18), .bin .shl .no (.tmp 16) (.tmp 17), none, []⟩,
  ⟨(some 19), .fieldAddr 1 (.tmp 7), none, []⟩,
  ⟨(some 20), .load none (.tmp 19), none, [10]⟩,
  ⟨(some 21), .mv (.tmp 8), none, []⟩,
  ⟨(some 22), .bin .shl .no (.tmp 20) (.tmp 21), none, []⟩,
  ⟨(some 23), .mv (.tmp 2), none, []⟩,
  ⟨(some 24), .bin .shr .no (.tmp 23) (.const (.int .u64 5)), none, []⟩,
  ⟨(some 25), .call (.func n_armplanmake_Round) [(.tmp 24), (.const (.int .i64 9))], none, []⟩,
  ⟨(some 26), .bin .add .no (.tmp 22) (.tmp 25), none, []⟩,
  ⟨(some 27), .build [(.int .i64 0), (.int .i64 0)] [(0, 1, (.tmp 18)), (1, 1, (.tmp 26))], none, []⟩,
  ⟨none, .store 2 (.tmp 6) (.tmp 27), none, []⟩]
def F_armplanlaw40_some : AFunc := ⟨(.seq (.region F_armplanlaw40_some.r0) (.seq (.region F_armplanlaw40_some.r1) (.seq (.region F_armplanlaw40_some.r2) (.seq (.dregion F_armplanlaw40_some.r3) .ret)))),
  [.inr (6, (some 2))]⟩
/-! armplan/armplanlaw40.ranges -/
def F_armplanlaw40_ranges.r0 : List AOper := [
  ⟨(some 2), .box T_api_Range (.tmp 0), none, []⟩,
  ⟨(some 3), .box T_api_Range (.tmp 1), none, []⟩,
  ⟨(some 4), .mv (.const (.bool false)), none, []⟩]
def F_armplanlaw40_ranges.r1 : List AOper := [
  ⟨(some 14), .load (some 2) (.tmp 2), none, []⟩,
  ⟨(some 15), .load (some 2) (.tmp 3), none, []⟩,
  ⟨(some 16), .call (.func n_dynamics_Add) [(.tmp 14), (.tmp 15)], none, []⟩,
  ⟨(some 13), .mv (.tmp 16), none, []⟩,
  ⟨(some 17), .ext (.tmp 13) 0, none, []⟩,
  ⟨(some 18), .ext (.tmp 13) 1, none, []⟩,
  ⟨(some 5), .alloc T_api_Range [(.int .i64 0), (.int .i64 0)], none, []⟩,
  ⟨none, .store 2 (.tmp 5) (.tmp 17), none, []⟩,
  ⟨(some 6), .mv (.tmp 18), none, []⟩]
def F_armplanlaw40_ranges.r2 : List AOper := [
  ⟨(some 20), .load (some 2) (.tmp 2), none, []⟩,
  ⟨(some 21), .load (some 2) (.tmp 3), none, []⟩,
  ⟨(some 22), .call (.func n_armplanref40_AddRange) [(.tmp 20), (.tmp 21)], none, []⟩,
  ⟨(some 19), .mv (.tmp 22), none, []⟩,
  ⟨(some 23), .ext (.tmp 19) 0, none, []⟩,
  ⟨(some 24), .ext (.tmp 19) 1, none, []⟩,
  ⟨(some 7), .alloc T_api_Range [(.int .i64 0), (.int .i64 0)], none, []⟩,
  ⟨none, .store 2 (.tmp 7) (.tmp 23), none, []⟩,
  ⟨(some 8), .mv (.tmp 24), none, []⟩]
def F_armplanlaw40_ranges.r3 : List AOper := [
  ⟨(some 26), .load (some 2) (.tmp 2), none, []⟩,
  ⟨(some 27), .load (some 2) (.tmp 3), none, []⟩,
  ⟨(some 28), .call (.func n_dynamics_Mul) [(.tmp 26), (.tmp 27)], none, []⟩,
  ⟨(some 25), .mv (.tmp 28), none, []⟩,
  ⟨(some 29), .ext (.tmp 25) 0, none, []⟩,
  ⟨(some 30), .ext (.tmp 25) 1, none, []⟩,
  ⟨(some 9), .alloc T_api_Range [(.int .i64 0), (.int .i64 0)], none, []⟩,
  ⟨none, .store 2 (.tmp 9) (.tmp 29), none, []⟩,
  ⟨(some 10), .mv (.tmp 30), none, []⟩]
def F_armplanlaw40_ranges.r4 : List AOper := [
  ⟨(some 32), .load (some 2) (.tmp 2), none, []⟩,
  ⟨(some 33), .load (some 2) (.tmp 3), none, []⟩,
  ⟨(some 34), .call (.func n_armplanref40_MulRange) [(.tmp 32), (.tmp 33)], none, []⟩,
  ⟨(some 31), .mv (.tmp 34), none, []⟩,
  ⟨(some 35), .ext (.tmp 31) 0, none, []⟩,
  ⟨(some 36), .ext (.tmp 31) 1, none, []⟩,
  ⟨(some 11), .alloc T_api_Range [(.int .i64 0), (.int .i64 0)], none, []⟩,
  ⟨none, .store 2 (.tmp 11) (.tmp 35), none, []⟩,
  ⟨(some 12), .mv (.tmp 36), none, []⟩]
def F_armplanlaw40_ranges.r5 : List AOper := [
  ⟨(some 37), .load (some 2) (.tmp 5), none, []⟩,
  ⟨(some 38), .load (some 2) (.tmp 7), none, []⟩,
  ⟨(some 39), .bin .eql (.flat [.int, .int]) (.tmp 37) (.tmp 38), none, []⟩,
  ⟨(some 40), .mv (.tmp 39), none, []⟩,
  ⟨(some 41), .mv (.tmp 6), some ((some 40), true), []⟩,
  ⟨(some 42), .mv (.tmp 8), some ((some 40), true), []⟩,
  ⟨(some 43), .bin .eql .bool (.tmp 41) (.tmp 42), some ((some 40), true), []⟩,
  ⟨(some 44), .pick (.tmp 40) (.tmp 43) (.const (.bool false)), none, []⟩,
  ⟨(some 45), .mv (.tmp 44), none, []⟩,
  ⟨(some 46), .load (some 2) (.tmp 9), some ((some 45), true), []⟩,
  ⟨(some 47), .load (some 2) (.tmp 11), some ((some 45), true), []⟩,
  ⟨(some 48), .bin .eql (.flat [.int, .int]) (.tmp 46) (.tmp 47), some ((some 45), true), []⟩,
  ⟨(some 49), .pick (.tmp 45) (.tmp 48) (.const (.bool false)), none, []⟩,
  ⟨(some 50), .mv (.tmp 49), none, []⟩,
  ⟨(some 51), .mv (.tmp 10), some ((some 50), true), []⟩,
  ⟨(some 52), .mv (.tmp 12), some ((some 50), true), []⟩,
  ⟨(some 53), .bin .eql .bool (.tmp 51) (.tmp 52), some ((some 50), true), []⟩,
  ⟨(some 54), .pick (.tmp 50) (.tmp 53) (.const (.bool false)), none, []⟩,
  ⟨(some 4), .mv (.tmp 54), none, []⟩]
def F_armplanlaw40_ranges : AFunc := ⟨(.seq (.region F_armplanlaw40_ranges.r0) (.seq (.region F_armplanlaw40_ranges.r1) (.seq (.region F_armplanlaw40_ranges.r2) (.seq (.region F_armplanlaw40_ranges.r3) (.seq (.region F_armplanlaw40_ranges.r4) (.seq (.region F_armplanlaw40_ranges.r5) .ret)))))),
  [.inl 4]⟩
/-! armplan/armplanmake.letter -/
def F_armplanmake_letter.r0 : List AOper := [
  ⟨(some 2), .mv (.const (.string (ByteArray.mk #[]))), none, []⟩]
def F_armplanmake_letter.r1 : List AOper := [
  ⟨(some 3), .mv (.tmp 0), none, []⟩,
  ⟨(some 4), .mv (.tmp 0), none, []⟩,
  ⟨(some 5), .bin .add .no (.tmp 4) (.const (.int .i64 1)), none, []⟩,
  ⟨(some 6), .slcS (.const (.string (ByteArray.mk #[97, 98, 99, 100, 101, 102, 103, 104, 105, 106]))) (some (.tmp 3)) (some (.tmp 5)), none, []⟩,
  ⟨(some 2), .mv (.tmp 6), none, []⟩]
def F_armplanmake_letter : AFunc := ⟨(.seq (.region F_armplanmake_letter.r0) (.seq (.region F_armplanmake_letter.r1) .ret)),
  [.inl 2]⟩
/-! armplan/dynamics.Rates -/
def F_dynamics_Rates.r0 : List AOper := [
  ⟨(some 3), .box T_api_Robot (.tmp 0), none, []⟩,
  ⟨(some 6), .mv (.const (.slice none 0 0)), none, []⟩,
  ⟨(some 7), .mv (.const (.bool false)), none, []⟩]
def F_dynamics_Rates.r1 : List AOper := [
  ⟨(some 12), .load (some 2) (.tmp 3), none, []⟩,
  ⟨(some 13), .mv (.tmp 1), none, []⟩,
  ⟨(some 14), .call (.func n_config_Inside) [(.tmp 12), (.tmp 13)], none, []⟩,
  ⟨(some 15), .un .not (.tmp 14), none, []⟩,
  ⟨(some 16), .mv (.tmp 15), none, []⟩,
  ⟨(some 17), .load (some 2) (.tmp 3), some ((some 16), false), []⟩,
  ⟨(some 18), .mv (.tmp 2), some ((some 16), false), []⟩,
  ⟨(some 19), .call (.func n_config_Inside) [(.tmp 17), (.tmp 18)], some ((some 16), false), []⟩,
  ⟨(some 20), .un .not (.tmp 19), some ((some 16), false), []⟩,
  ⟨(some 21), .pick (.tmp 16) (.const (.bool true)) (.tmp 20), none, []⟩]
def F_dynamics_Rates.r2 : List AOper := [
  ⟨(some 6), .mv (.const (.slice none 0 0)), none, []⟩,
  ⟨(some 7), .mv (.const (.bool false)), none, []⟩]
def F_dynamics_Rates.r3 : List AOper := [
  ⟨(some 22), .mv (.tmp 1), none, []⟩,
  ⟨(some 23), .lenO false (.tmp 22), none, []⟩,
  ⟨(some 24), .makeSlice T_api_Range [(.int .i64 0), (.int .i64 0)] 16 (.tmp 23) (.tmp 23), none, []⟩,
  ⟨(some 8), .mv (.tmp 24), none, []⟩]
def F_dynamics_Rates.r4 : List AOper := [
  ⟨(some 25), .fieldAddr 0 (.tmp 3), none, []⟩,
  ⟨(some 26), .load none (.tmp 25), none, []⟩,
  ⟨(some 27), .lenO false (.tmp 26), none, []⟩,
  ⟨(some 28), .mv (.const (.int .i64 0)), none, []⟩]
def F_dynamics_Rates.r5 : List AOper := [
  ⟨(some 29), .bin .lss .no (.tmp 28) (.tmp 27), none, []⟩]
def F_dynamics_Rates.r6 : List AOper := [
  ⟨(some 30), .mv (.tmp 28), none, []⟩,
  ⟨(some 31), .idxAddr none 12 (.tmp 26) (.tmp 28), none, []⟩,
  ⟨(some 32), .load (some 12) (.tmp 31), none, []⟩,
  ⟨(some 10), .alloc T_api_Joint [(.string (ByteArray.mk #[])), (.int .i64 0), (.int .i64 0), (.int .i64 0), (.int .i64 0), (.int .i64 0), (.int .i64 0), (.int .i64 0), (.int .i64 0), (.int .i64 0), (.int .i64 0), (.int .i64 0)], none, []⟩,
  ⟨(some 9), .mv (.tmp 30), none, []⟩,
  ⟨none, .store 12 (.tmp 10) (.tmp 32), none, []⟩]
def F_dynamics_Rates.r7 : List AOper := [
  ⟨(some 33), .mv (.tmp 2), none, []⟩,
  ⟨(some 34), .mv (.tmp 9), none, []⟩,
  ⟨(some 35), .idxAddr none 1 (.tmp 33) (.tmp 34), none, []⟩,
  ⟨(some 36), .load none (.tmp 35), none, []⟩,
  ⟨(some 37), .mv (.tmp 1), none, []⟩,
  ⟨(some 38), .mv (.tmp 9), none, []⟩,
  ⟨(some 39), .idxAddr none 1 (.tmp 37) (.tmp 38), none, []⟩,
  ⟨(some 40), .load none (.tmp 39), none, []⟩,
  ⟨(some 41), .bin .sub .no (.tmp 36) (.tmp 40), none, []⟩,
  ⟨(some 42), .mv (.tmp 2), none, []⟩,
  ⟨(some 43), .mv (.tmp 9), none, []⟩,
  ⟨(some 44), .idxAddr none 1 (.tmp 42) (.tmp 43), none, []⟩,
  ⟨(some 45), .load none (.tmp 44), none, []⟩,
  ⟨(some 46), .mv (.tmp 1), none, []⟩,
  ⟨(some 47), .mv (.tmp 9), none, []⟩,
  ⟨(some 48), .idxAddr none 1 (.tmp 46) (.tmp 47), none, []⟩,
  ⟨(some 49), .load none (.tmp 48), none, []⟩,
  ⟨(some 50), .bin .sub .no (.tmp 45) (.tmp 49), none, []⟩,
  ⟨(some 51), .build [(.int .i64 0), (.int .i64 0)] [(0, 1, (.tmp 41)), (1, 1, (.tmp 50))], none, []⟩,
  ⟨(some 11), .alloc T_api_Range [(.int .i64 0), (.int .i64 0)], none, []⟩,
  ⟨none, .store 2 (.tmp 11) (.tmp 51), none, []⟩]
def F_dynamics_Rates.r8 : List AOper := [
  ⟨(some 52), .load (some 12) (.tmp 10), none, []⟩,
  ⟨(some 53), .call (.func n_dynamics_turns) [(.tmp 52)], none, []⟩]
def F_dynamics_Rates.r9 : List AOper := [
  ⟨(some 55), .load (some 2) (.tmp 11), none, []⟩,
  ⟨(some 56), .build [(.int .i64 0), (.int .i64 0)] [(0, 1, (.const (.int .i64 411774))), (1, 1, (.const (.int .i64 411775)))], none, []⟩,
  ⟨(some 57), .call (.func n_dynamics_Mul) [(.tmp 55), (.tmp 56)], none, []⟩,
  ⟨(some 54), .mv (.tmp 57), none, []⟩,
  ⟨(some 58), .ext (.tmp 54) 0, none, []⟩,
  ⟨(some 59), .ext (.tmp 54) 1, none, []⟩,
  ⟨none, .store 2 (.tmp 11) (.tmp 58), none, []⟩]
def F_dynamics_Rates.r10 : List AOper := [
  ⟨(some 60), .mv (.tmp 8), none, []⟩,
  ⟨(some 61), .mv (.tmp 9), none, []⟩,
  ⟨(some 62), .load (some 2) (.tmp 11), none, []⟩,
  ⟨(some 63), .idxAddr none 2 (.tmp 60) (.tmp 61), none, []⟩,
  ⟨none, .store 2 (.tmp 63) (.tmp 62), none, []⟩]
def F_dynamics_Rates.r11 : List AOper := [
  ⟨(some 64), .bin .add .no (.tmp 28) (.const (.int .i64 1)), none, []⟩,
  ⟨(some 28), .mv (.tmp 64), none, []⟩]
def F_dynamics_Rates.l0 : ACode := (.seq (.region F_dynamics_Rates.r5) (.seq (.cond (.tmp 29) .skip (.exit 0)) (.seq (.block 1 (.seq (.region F_dynamics_Rates.r6) (.seq (.dregion F_dynamics_Rates.r7) (.seq (.seq (.region F_dynamics_Rates.r8) (.cond (.tmp 53) (.region F_dynamics_Rates.r9) .skip)) (.region F_dynamics_Rates.r10))))) (.region F_dynamics_Rates.r11))))
def F_dynamics_Rates.r12 : List AOper := [
  ⟨(some 65), .mv (.tmp 8), none, []⟩,
  ⟨(some 6), .mv (.tmp 65), none, []⟩,
  ⟨(some 7), .mv (.const (.bool true)), none, []⟩]
def F_dynamics_Rates : AFunc := ⟨(.seq (.region F_dynamics_Rates.r0) (.seq (.seq (.region F_dynamics_Rates.r1) (.cond (.tmp 21) (.seq (.region F_dynamics_Rates.r2) .ret) .skip)) (.seq (.region F_dynamics_Rates.r3) (.seq (.seq (.region F_dynamics_Rates.r4) (.block 0 (.loop F_dynamics_Rates.l0))) (.seq (.region F_dynamics_Rates.r12) .ret))))),
  [.inl 6, .inl 7]⟩
/-! armplan/config.Piece -/
def F_config_Piece.r0 : List AOper := [
  ⟨(some 8), .mv (.const (.slice none 0 0)), none, []⟩,
  ⟨(some 9), .mv (.const (.bool false)), none, []⟩]
def F_config_Piece.r1 : List AOper := [
  ⟨(some 15), .mv (.tmp 0), none, []⟩,
  ⟨(some 16), .mv (.tmp 1), none, []⟩,
  ⟨(some 17), .mv (.tmp 2), none, []⟩,
  ⟨(some 18), .call (.func n_config_straight) [(.tmp 15), (.tmp 16), (.tmp 17)], none, []⟩,
  ⟨(some 19), .un .not (.tmp 18), none, []⟩,
  ⟨(some 20), .mv (.tmp 19), none, []⟩,
  ⟨(some 21), .mv (.tmp 3), some ((some 20), false), []⟩,
  ⟨(some 22), .bin .lss .no (.tmp 21) (.const (.int .i64 0)), some ((some 20), false), []⟩,
  ⟨(some 23), .pick (.tmp 20) (.const (.bool true)) (.tmp 22), none, []⟩,
  ⟨(some 24), .mv (.tmp 23), none, []⟩,
  ⟨(some 25), .mv (.tmp 3), some ((some 24), false), []⟩,
  ⟨(some 26), .mv (.tmp 2), some ((some 24), false), []⟩,
  ⟨(some 27), .bin .shl .no (.const (.int .i64 1)) (.tmp 26), some ((some 24), false), []⟩,
  ⟨(some 28), .bin .geq .no (.tmp 25) (.tmp 27), some ((some 24), false), []⟩,
  ⟨(some 29), .pick (.tmp 24) (.const (.bool true)) (.tmp 28), none, []⟩]
def F_config_Piece.r2 : List AOper := [
  ⟨(some 8), .mv (.const (.slice none 0 0)), none, []⟩,
  ⟨(some 9), .mv (.const (.bool false)), none, []⟩]
def F_config_Piece.r3 : List AOper := [
  ⟨(some 30), .mv (.tmp 0), none, []⟩,
  ⟨(some 31), .lenO false (.tmp 30), none, []⟩,
  ⟨(some 32), .makeSlice T_api_Interval [(.int .i64 0), (.int .i64 0)] 16 (.tmp 31) (.tmp 31), none, []⟩,
  ⟨(some 10), .mv (.tmp 32), none, []⟩]
def F_config_Piece.r4 : List AOper := [
  ⟨(some 33), .mv (.tmp 0), none, []⟩,
  ⟨(some 34), .lenO false (.tmp 33), none, []⟩,
  ⟨(some 35), .mv (.const (.int .i64 0)), none, []⟩]
def F_config_Piece.r5 : List AOper := [
  ⟨(some 36), .bin .lss .no (.tmp 35) (.tmp 34), none, []⟩]
def F_config_Piece.r6 : List AOper := [
  ⟨(some 37), .mv (.tmp 35), none, []⟩,
  ⟨(some 11), .mv (.tmp 37), none, []⟩]
def F_config_Piece.r7 : List AOper := [
  ⟨(some 38), .mv (.tmp 1), none, []⟩,
  ⟨(some 39), .mv (.tmp 11), none, []⟩,
  ⟨(some 40), .idxAddr none 1 (.tmp 38) (.tmp 39), none, []⟩,
  ⟨(some 41), .load none (.tmp 40), none, []⟩,
  ⟨(some 42), .mv (.tmp 0), none, []⟩,
  ⟨(some 43), .mv (.tmp 11), none, []⟩,
  ⟨(some 44), .idxAddr none 1 (.tmp 42) (.tmp 43), none, []⟩,
  ⟨(some 45), .load none (.tmp 44), none, []⟩,
  ⟨(some 46), .bin .sub .no (.tmp 41) (.tmp 45), none, []⟩,
  ⟨(some 12), .mv (.tmp 46), none, []⟩]
def F_config_Piece.r8 : List AOper := [
  ⟨(some 47), .mv (.tmp 3), none, []⟩,
  ⟨(some 48), .mv (.tmp 12), none, []⟩,
  ⟨(some 49), .bin .mul .no (.tmp 47) (.tmp 48), none, []⟩,
  ⟨(some 50), .mv (.tmp 3), none, []⟩,
  ⟨(some 51), .bin .add .no (.tmp 50) (.const (.int .i64 1)), none, []⟩,
  ⟨(some 52), .mv (.tmp 12), none, []⟩,
  ⟨(some 53), .bin .mul .no (.tmp 51) (.tmp 52), none, []⟩,
  ⟨(some 54), .minmax false [(.tmp 49), (.tmp 53)], none, []⟩,
  ⟨(some 55), .mv (.tmp 3), none, []⟩,
  ⟨(some 56), .mv (.tmp 12), none, []⟩,
  ⟨(some 57), .bin .mul .no (.tmp 55) (.tmp 56), none, []⟩,
  ⟨(some 58), .mv (.tmp 3), none, []⟩,
  ⟨(some 59), .bin .add .no (.tmp 58) (.const (.int .i64 1)), none, []⟩,
  ⟨(some 60), .mv (.tmp 12), none, []⟩,
  ⟨(some 61), .bin .mul .no (.tmp 59) (.tmp 60), none, []⟩,
  ⟨(some 62), .minmax true [(.tmp 57), (.tmp 61)], none, []⟩,
  ⟨(some 13), .mv (.tmp 54), none, []⟩,
  ⟨(some 14), .mv (.tmp 62), none, []⟩]
def F_config_Piece.r9 : List AOper := [
  ⟨(some 63), .mv (.tmp 10), none, []⟩,
  ⟨(some 64), .mv (.tmp 11), none, []⟩,
  ⟨(some 65), .mv (.tmp 0), none, []⟩,
  ⟨(some 66), .mv (.tmp 11), none, []⟩,
  ⟨(some 67), .idxAddr none 1 (.tmp 65) (.tmp 66), none, []⟩,
  ⟨(some 68), .load none (.tmp 67), none, []⟩,
  ⟨(some 69), .mv (.tmp 13), none, []⟩,
  ⟨(some 70), .mv (.tmp 2), none, []⟩,
  ⟨(some 71), .bin .shr .no (.tmp 69) (.tmp 70), none, []⟩,
  ⟨(some 72), .bin .add .no (.tmp 68) (.tmp 71), none, []⟩,
  ⟨(some 73), .mv (.tmp 0), none, []⟩,
  ⟨(some 74), .mv (.tmp 11), none, []⟩,
  ⟨(some 75), .idxAddr none 1 (.tmp 73) (.tmp 74), none, []⟩,
  ⟨(some 76), .load none (.tmp 75), none, []⟩,
  ⟨(some 77), .mv (.tmp 14), none, []⟩,
  ⟨(some 78), .un .neg (.tmp 77), none, []⟩,
  ⟨(some 79), .mv (.tmp 2), none, []⟩,
  ⟨(some 80), .bin .shr .no (.tmp 78) (.tmp 79), none, []⟩,
  ⟨(some 81), .bin .sub .no (.tmp 76) (.tmp 80), none, []⟩,
  ⟨(some 82), .build [(.int .i64 0), (.int .i64 0)] [(0, 1, (.tmp 72)), (1, 1, (.tmp 81))], none, []⟩,
  ⟨(some 83), .idxAddr none 2 (.tmp 63) (.tmp 64), none, []⟩,
  ⟨none, .store 2 (.tmp 83) (.tmp 82), none, []⟩]
def F_config_Piece.r10 : List AOper := [
  ⟨(some 84), .bin .add .no (.tmp 35) (.const (.int .i64 1)), none, []⟩,
  ⟨(some 35), .mv (.tmp 84), none, []⟩]
def F_config_Piece.l0 : ACode := (.seq (.region F_config_Piece.r5) (.seq (.cond (.tmp 36) .skip (.exit 0)) (.seq (.block 1 (.seq (.region F_config_Piece.r6) (.seq (.dregion F_config_Piece.r7) (.seq (.region F_config_Piece.r8) (.dregion F_config_Piece.r9))))) (.region F_config_Piece.r10))))
def F_config_Piece.r11 : List AOper := [
  ⟨(some 85), .mv (.tmp 10), none, []⟩,
  ⟨(some 8), .mv (.tmp 85), none, []⟩,
  ⟨(some 9), .mv (.const (.bool true)), none, []⟩]
def F_config_Piece : AFunc := ⟨(.seq (.region F_config_Piece.r0) (.seq (.seq (.region F_config_Piece.r1) (.cond (.tmp 29) (.seq (.region F_config_Piece.r2) .ret) .skip)) (.seq (.region F_config_Piece.r3) (.seq (.seq (.region F_config_Piece.r4) (.block 0 (.loop F_config_Piece.l0))) (.seq (.region F_config_Piece.r11) .ret))))),
  [.inl 8, .inl 9]⟩
/-! armplan/dynamics.usable -/
def F_dynamics_usable.r0 : List AOper := [
  ⟨(some 3), .box T_api_Robot (.tmp 0), none, []⟩,
  ⟨(some 4), .box T_api_Vec (.tmp 1), none, []⟩,
  ⟨(some 6), .mv (.const (.bool false)), none, []⟩]
def F_dynamics_usable.r1 : List AOper := [
  ⟨(some 9), .load (some 3) (.tmp 4), none, []⟩,
  ⟨(some 10), .mv (.const (.int .i64 0)), none, []⟩]
def F_dynamics_usable.r2 : List AOper := [
  ⟨(some 11), .bin .lss .no (.tmp 10) (.const (.int .i64 3)), none, []⟩]
def F_dynamics_usable.r3 : List AOper := [
  ⟨(some 12), .idx 3 1 none (.tmp 9) (.tmp 10), none, []⟩,
  ⟨(some 8), .mv (.tmp 12), none, []⟩]
def F_dynamics_usable.r4 : List AOper := [
  ⟨(some 13), .mv (.tmp 8), none, []⟩,
  ⟨(some 14), .bin .lss .no (.tmp 13) (.const (.int .i64 (-16777216))), none, []⟩,
  ⟨(some 15), .mv (.tmp 14), none, []⟩,
  ⟨(some 16), .mv (.tmp 8), some ((some 15), false), []⟩,
  ⟨(some 17), .bin .gtr .no (.tmp 16) (.const (.int .i64 16777216)), some ((some 15), false), []⟩,
  ⟨(some 18), .pick (.tmp 15) (.const (.bool true)) (.tmp 17), none, []⟩]
def F_dynamics_usable.r5 : List AOper := [
  ⟨(some 6), .mv (.const (.bool false)), none, []⟩]
def F_dynamics_usable.r6 : List AOper := [
  ⟨(some 19), .bin .add .no (.tmp 10) (.const (.int .i64 1)), none, []⟩,
  ⟨(some 10), .mv (.tmp 19), none, []⟩]
def F_dynamics_usable.l0 : ACode := (.seq (.region F_dynamics_usable.r2) (.seq (.cond (.tmp 11) .skip (.exit 0)) (.seq (.block 1 (.seq (.region F_dynamics_usable.r3) (.seq (.region F_dynamics_usable.r4) (.cond (.tmp 18) (.seq (.region F_dynamics_usable.r5) .ret) .skip)))) (.region F_dynamics_usable.r6))))
def F_dynamics_usable.r7 : List AOper := [
  ⟨(some 20), .load (some 2) (.tmp 3), none, []⟩,
  ⟨(some 21), .mv (.tmp 2), none, []⟩,
  ⟨(some 22), .call (.func n_config_InsideBox) [(.tmp 20), (.tmp 21)], none, []⟩,
  ⟨(some 6), .mv (.tmp 22), none, []⟩]
def F_dynamics_usable : AFunc := ⟨(.seq (.region F_dynamics_usable.r0) (.seq (.seq (.region F_dynamics_usable.r1) (.block 0 (.loop F_dynamics_usable.l0))) (.seq (.region F_dynamics_usable.r7) .ret))),
  [.inl 6]⟩
/-! armplan/dynamics.newModel -/
def F_dynamics_newModel.r0 : List AOper := [
  ⟨(some 2), .box T_api_Robot (.tmp 0), none, []⟩,
  ⟨(some 4), .mv (.const (.pointer none)), none, []⟩]
def F_dynamics_newModel.r1 : List AOper := [
  ⟨(some 16), .load (some 2) (.tmp 2), none, []⟩,
  ⟨(some 17), .fieldAddr 1 (.tmp 2), none, []⟩,
  ⟨(some 18), .load none (.tmp 17), none, []⟩,
  ⟨(some 19), .lenO false (.tmp 18), none, []⟩,
  ⟨(some 20), .makeSlice T_sl_dynamics_lever [(.slice none 0 0)] 24 (.tmp 19) (.tmp 19), none, []⟩,
  ⟨(some 21), .build [(.bool false), (.slice none 0 0), (.slice none 0 0), (.slice none 0 0)] [(1, 2, (.tmp 16)), (3, 1, (.tmp 20))], none, []⟩,
  ⟨(some 22), .box T_dynamics_model (.tmp 21), none, []⟩,
  ⟨(some 5), .mv (.tmp 22), none, []⟩]
def F_dynamics_newModel.r2 : List AOper := [
  ⟨(some 23), .load (some 2) (.tmp 2), none, []⟩,
  ⟨(some 24), .mv (.tmp 1), none, []⟩,
  ⟨(some 25), .call (.func n_kinematics_Links) [(.tmp 23), (.tmp 24)], none, []⟩,
  ⟨(some 6), .mv (.tmp 25), none, []⟩]
def F_dynamics_newModel.r3 : List AOper := [
  ⟨(some 26), .fieldAddr 1 (.tmp 2), none, []⟩,
  ⟨(some 27), .load none (.tmp 26), none, []⟩,
  ⟨(some 28), .lenO false (.tmp 27), none, []⟩,
  ⟨(some 29), .mv (.const (.int .i64 0)), none, []⟩]
def F_dynamics_newModel.r4 : List AOper := [
  ⟨(some 30), .bin .lss .no (.tmp 29) (.tmp 28), none, []⟩]
def F_dynamics_newModel.r5 : List AOper := [
  ⟨(some 31), .mv (.tmp 29), none, []⟩,
  ⟨(some 32), .idxAddr none 5 (.tmp 27) (.tmp 29), none, []⟩,
  ⟨(some 33), .load (some 5) (.tmp 32), none, []⟩,
  ⟨(some 8), .alloc T_api_Mass [(.int .i64 0), (.int .i64 0), (.int .i64 0), (.int .i64 0), (.int .i64 0)], none, []⟩,
  ⟨(some 7), .mv (.tmp 31), none, []⟩,
  ⟨none, .store 5 (.tmp 8) (.tmp 33), none, []⟩]
def F_dynamics_newModel.r6 : List AOper := [
  ⟨(some 34), .mv (.tmp 6), none, []⟩,
  ⟨(some 35), .fieldAddr 0 (.tmp 8), none, []⟩,
  ⟨(some 36), .load none (.tmp 35), none, [7]⟩,
  ⟨(some 37), .idxAddr none 24 (.tmp 34) (.tmp 36), none, []⟩,
  ⟨(some 38), .load (some 24) (.tmp 37), none, [7]⟩,
  ⟨(some 39), .fieldAddr 2 (.tmp 8), none, []⟩,
  ⟨(some 40), .load (some 3) (.tmp 39), none, []⟩,
  ⟨(some 41), .call (.func n_matrix_Point) [(.tmp 40)], none, []⟩,
  ⟨(some 42), .call (.func n_pose_Apply) [(.tmp 38), (.tmp 41)], none, []⟩,
  ⟨(some 43), .call (.func n_dynamics_ranges) [(.tmp 42)], none, []⟩,
  ⟨(some 9), .alloc T_dynamics_vector [(.int .i64 0), (.int .i64 0), (.int .i64 0), (.int .i64 0), (.int .i64 0), (.int .i64 0)], none, []⟩,
  ⟨none, .store 6 (.tmp 9) (.tmp 43), none, []⟩]
def F_dynamics_newModel.r7 : List AOper := [
  ⟨(some 44), .load (some 2) (.tmp 2), none, []⟩,
  ⟨(some 45), .fieldAddr 0 (.tmp 8), none, []⟩,
  ⟨(some 46), .load none (.tmp 45), none, []⟩,
  ⟨(some 47), .call (.func n_robot_Chain) [(.tmp 44), (.tmp 46)], none, []⟩,
  ⟨(some 48), .lenO false (.tmp 47), none, []⟩,
  ⟨(some 49), .mv (.const (.int .i64 0)), none, []⟩]
def F_dynamics_newModel.r8 : List AOper := [
  ⟨(some 50), .bin .lss .no (.tmp 49) (.tmp 48), none, []⟩]
def F_dynamics_newModel.r9 : List AOper := [
  ⟨(some 51), .idxAddr none 1 (.tmp 47) (.tmp 49), none, []⟩,
  ⟨(some 52), .load none (.tmp 51), none, []⟩,
  ⟨(some 11), .mv (.tmp 52), none, []⟩]
def F_dynamics_newModel.r10 : List AOper := [
  ⟨(some 53), .fieldAddr 0 (.tmp 2), none, []⟩,
  ⟨(some 54), .load none (.tmp 53), none, []⟩,
  ⟨(some 55), .mv (.tmp 11), none, []⟩,
  ⟨(some 56), .idxAddr none 12 (.tmp 54) (.tmp 55), none, []⟩,
  ⟨(some 57), .load (some 12) (.tmp 56), none, []⟩,
  ⟨(some 12), .alloc T_api_Joint [(.string (ByteArray.mk #[])), (.int .i64 0), (.int .i64 0), (.int .i64 0), (.int .i64 0), (.int .i64 0), (.int .i64 0), (.int .i64 0), (.int .i64 0), (.int .i64 0), (.int .i64 0), (.int .i64 0)], none, []⟩,
  ⟨none, .store 12 (.tmp 12) (.tmp 57), none, []⟩]
def F_dynamics_newModel.r11 : List AOper := [
  ⟨(some 58), .fieldAddr 1 (.tmp 12), none, []⟩,
  ⟨(some 59), .load none (.tmp 58), none, []⟩,
  ⟨(some 60), .bin .eql .no (.tmp 59) (.const (.int .i64 0)), none, []⟩]
def F_dynamics_newModel.r12 : List AOper := [
  ⟨(some 61), .mv (.tmp 11), none, []⟩,
  ⟨(some 62), .load (some 12) (.tmp 12), none, []⟩,
  ⟨(some 63), .call (.func n_dynamics_turns) [(.tmp 62)], none, []⟩,
  ⟨(some 64), .load (some 12) (.tmp 12), none, [2]⟩,
  ⟨(some 65), .mv (.tmp 6), none, []⟩,
  ⟨(some 66), .mv (.tmp 11), none, []⟩,
  ⟨(some 67), .idxAddr none 24 (.tmp 65) (.tmp 66), none, []⟩,
  ⟨(some 68), .load (some 24) (.tmp 67), none, [2]⟩,
  ⟨(some 69), .call (.func n_dynamics_axis) [(.tmp 64), (.tmp 68)], none, []⟩,
  ⟨(some 70), .build [(.int .i64 0), (.bool false), (.int .i64 0), (.int .i64 0), (.int .i64 0), (.int .i64 0), (.int .i64 0), (.int .i64 0), (.int .i64 0), (.int .i64 0), (.int .i64 0), (.int .i64 0), (.int .i64 0), (.int .i64 0)] [(0, 1, (.tmp 61)), (1, 1, (.tmp 63)), (2, 6, (.tmp 69))], none, []⟩,
  ⟨(some 13), .alloc T_dynamics_lever [(.int .i64 0), (.bool false), (.int .i64 0), (.int .i64 0), (.int .i64 0), (.int .i64 0), (.int .i64 0), (.int .i64 0), (.int .i64 0), (.int .i64 0), (.int .i64 0), (.int .i64 0), (.int .i64 0), (.int .i64 0)], none, []⟩,
  ⟨none, .store 14 (.tmp 13) (.tmp 70), none, []⟩]
def F_dynamics_newModel.r13 : List AOper := [
  ⟨(some 71), .fieldAddr 2 (.tmp 13), none, []⟩,
  ⟨(some 72), .load (some 6) (.tmp 71), none, []⟩,
  ⟨(some 73), .fieldAddr 8 (.tmp 13), none, []⟩,
  ⟨none, .store 6 (.tmp 73) (.tmp 72), none, []⟩]
def F_dynamics_newModel.r14 : List AOper := [
  ⟨(some 74), .fieldAddr 1 (.tmp 13), none, []⟩,
  ⟨(some 75), .load none (.tmp 74), none, []⟩]
def F_dynamics_newModel.r15 : List AOper := [
  ⟨(some 76), .mv (.tmp 6), none, []⟩,
  ⟨(some 77), .mv (.tmp 11), none, []⟩,
  ⟨(some 78), .idxAddr none 24 (.tmp 76) (.tmp 77), none, []⟩,
  ⟨(some 79), .fieldAddr 18 (.tmp 78), none, []⟩,
  ⟨(some 80), .load (some 6) (.tmp 79), none, []⟩,
  ⟨(some 81), .call (.func n_dynamics_ranges) [(.tmp 80)], none, []⟩,
  ⟨(some 14), .alloc T_dynamics_vector [(.int .i64 0), (.int .i64 0), (.int .i64 0), (.int .i64 0), (.int .i64 0), (.int .i64 0)], none, []⟩,
  ⟨none, .store 6 (.tmp 14) (.tmp 81), none, []⟩]
def F_dynamics_newModel.r16 : List AOper := [
  ⟨(some 82), .mv (.const (.int .i64 0)), none, []⟩]
def F_dynamics_newModel.r17 : List AOper := [
  ⟨(some 83), .bin .lss .no (.tmp 82) (.const (.int .i64 3)), none, []⟩]
def F_dynamics_newModel.r18 : List AOper := [
  ⟨(some 84), .mv (.tmp 82), none, []⟩,
  ⟨(some 15), .mv (.tmp 84), none, []⟩]
def F_dynamics_newModel.r19 : List AOper := [
  ⟨(some 85), .mv (.tmp 15), none, []⟩,
  ⟨(some 86), .mv (.tmp 5), none, []⟩,
  ⟨(some 87), .nilCheck (.tmp 86), none, []⟩,
  ⟨(some 88), .fieldAddr 0 (.tmp 87), none, []⟩,
  ⟨(some 89), .mv (.tmp 15), none, []⟩,
  ⟨(some 90), .idxAddr (some 3) 2 (.tmp 9) (.tmp 89), none, []⟩,
  ⟨(some 91), .load (some 2) (.tmp 90), none, [10]⟩,
  ⟨(some 92), .mv (.tmp 15), none, []⟩,
  ⟨(some 93), .idxAddr (some 3) 2 (.tmp 14) (.tmp 92), none, []⟩,
  ⟨(some 94), .load (some 2) (.tmp 93), none, []⟩,
  ⟨(some 95), .call (.func n_dynamics_negated) [(.tmp 94)], none, []⟩,
  ⟨(some 96), .call (.func n_dynamics_calculator_add) [(.tmp 88), (.tmp 91), (.tmp 95)], none, []⟩,
  ⟨(some 97), .idxAddr (some 3) 2 (.tmp 14) (.tmp 85), none, []⟩,
  ⟨none, .store 2 (.tmp 97) (.tmp 96), none, []⟩]
def F_dynamics_newModel.r20 : List AOper := [
  ⟨(some 98), .bin .add .no (.tmp 82) (.const (.int .i64 1)), none, []⟩,
  ⟨(some 82), .mv (.tmp 98), none, []⟩]
def F_dynamics_newModel.l0 : ACode := (.seq (.region F_dynamics_newModel.r17) (.seq (.cond (.tmp 83) .skip (.exit 4)) (.seq (.block 5 (.seq (.region F_dynamics_newModel.r18) (.dregion F_dynamics_newModel.r19))) (.region F_dynamics_newModel.r20))))
def F_dynamics_newModel.r21 : List AOper := [
  ⟨(some 99), .mv (.tmp 5), none, []⟩,
  ⟨(some 100), .nilCheck (.tmp 99), none, []⟩,
  ⟨(some 101), .fieldAddr 0 (.tmp 100), none, []⟩,
  ⟨(some 102), .fieldAddr 2 (.tmp 13), none, []⟩,
  ⟨(some 103), .load (some 6) (.tmp 102), none, []⟩,
  ⟨(some 104), .load (some 6) (.tmp 14), none, []⟩,
  ⟨(some 105), .call (.func n_dynamics_calculator_cross) [(.tmp 101), (.tmp 103), (.tmp 104)], none, []⟩,
  ⟨(some 106), .fieldAddr 8 (.tmp 13), none, []⟩,
  ⟨none, .store 6 (.tmp 106) (.tmp 105), none, []⟩]
def F_dynamics_newModel.r22 : List AOper := [
  ⟨(some 107), .mv (.tmp 5), none, []⟩,
  ⟨(some 108), .nilCheck (.tmp 107), none, []⟩,
  ⟨(some 109), .fieldAddr 3 (.tmp 108), none, []⟩,
  ⟨(some 110), .load none (.tmp 109), none, [14]⟩,
  ⟨(some 111), .mv (.tmp 7), none, []⟩,
  ⟨(some 112), .mv (.tmp 5), none, []⟩,
  ⟨(some 113), .nilCheck (.tmp 112), none, []⟩,
  ⟨(some 114), .fieldAddr 3 (.tmp 113), none, []⟩,
  ⟨(some 115), .load none (.tmp 114), none, []⟩,
  ⟨(some 116), .mv (.tmp 7), none, []⟩,
  ⟨(some 117), .idxAddr none 1 (.tmp 115) (.tmp 116), none, []⟩,
  ⟨(some 118), .load none (.tmp 117), none, []⟩,
  ⟨(some 119), .load (some 14) (.tmp 13), none, []⟩,
  ⟨(some 120), .buildSlice T_dynamics_lever [(.int .i64 0), (.bool false), (.int .i64 0), (.int .i64 0), (.int .i64 0), (.int .i64 0), (.int .i64 0), (.int .i64 0), (.int .i64 0), (.int .i64 0), (.int .i64 0), (.int .i64 0), (.int .i64 0), (.int .i64 0)] 1 [(0, 14, (.tmp 119))], none, []⟩,
  ⟨(some 121), .append T_dynamics_lever 14 112 (.tmp 118) (.tmp 120), none, []⟩,
  ⟨(some 122), .idxAddr none 1 (.tmp 110) (.tmp 111), none, []⟩,
  ⟨none, .store 1 (.tmp 122) (.tmp 121), none, []⟩]
def F_dynamics_newModel.r23 : List AOper := [
  ⟨(some 123), .bin .add .no (.tmp 49) (.const (.int .i64 1)), none, []⟩,
  ⟨(some 49), .mv (.tmp 123), none, []⟩]
def F_dynamics_newModel.l1 : ACode := (.seq (.region F_dynamics_newModel.r8) (.seq (.cond (.tmp 50) .skip (.exit 2)) (.seq (.block 3 (.seq (.region F_dynamics_newModel.r9) (.seq (.region F_dynamics_newModel.r10) (.seq (.seq (.region F_dynamics_newModel.r11) (.cond (.tmp 60) (.exit 3) .skip)) (.seq (.dregion F_dynamics_newModel.r12) (.seq (.region F_dynamics_newModel.r13) (.seq (.seq (.region F_dynamics_newModel.r14) (.cond (.tmp 75) (.seq (.region F_dynamics_newModel.r15) (.seq (.seq (.region F_dynamics_newModel.r16) (.block 4 (.loop F_dynamics_newModel.l0))) (.dregion F_dynamics_newModel.r21))) .skip)) (.dregion F_dynamics_newModel.r22)))))))) (.region F_dynamics_newModel.r23))))
def F_dynamics_newModel.r24 : List AOper := [
  ⟨(some 124), .bin .add .no (.tmp 29) (.const (.int .i64 1)), none, []⟩,
  ⟨(some 29), .mv (.tmp 124), none, []⟩]
def F_dynamics_newModel.l2 : ACode := (.seq (.region F_dynamics_newModel.r4) (.seq (.cond (.tmp 30) .skip (.exit 0)) (.seq (.block 1 (.seq (.region F_dynamics_newModel.r5) (.seq (.dregion F_dynamics_newModel.r6) (.seq (.region F_dynamics_newModel.r7) (.block 2 (.loop F_dynamics_newModel.l1)))))) (.region F_dynamics_newModel.r24))))
def F_dynamics_newModel.r25 : List AOper := [
  ⟨(some 125), .mv (.tmp 5), none, []⟩,
  ⟨(some 4), .mv (.tmp 125), none, []⟩]
def F_dynamics_newModel : AFunc := ⟨(.seq (.region F_dynamics_newModel.r0) (.seq (.dregion F_dynamics_newModel.r1) (.seq (.region F_dynamics_newModel.r2) (.seq (.seq (.region F_dynamics_newModel.r3) (.block 0 (.loop F_dynamics_newModel.l2))) (.seq (.region F_dynamics_newModel.r25) .ret))))),
  [.inl 4]⟩
/-! (*armplan/dynamics.model).rest -/
def F_dynamics_model_rest.r0 : List AOper := [
  ⟨(some 3), .box T_api_Vec (.tmp 1), none, []⟩,
  ⟨(some 4), .mv (.const (.slice none 0 0)), none, []⟩]
def F_dynamics_model_rest.r1 : List AOper := [
  ⟨(some 12), .idxAddr (some 3) 1 (.tmp 3) (.const (.int .i64 0)), none, []⟩,
  ⟨(some 13), .load none (.tmp 12), none, []⟩,
  ⟨(some 14), .idxAddr (some 3) 1 (.tmp 3) (.const (.int .i64 0)), none, []⟩,
  ⟨(some 15), .load none (.tmp 14), none, []⟩,
  ⟨(some 16), .build [(.int .i64 0), (.int .i64 0)] [(0, 1, (.tmp 13)), (1, 1, (.tmp 15))], none, []⟩,
  ⟨(some 17), .idxAddr (some 3) 1 (.tmp 3) (.const (.int .i64 1)), none, []⟩,
  ⟨(some 18), .load none (.tmp 17), none, []⟩,
  ⟨(some 19), .idxAddr (some 3) 1 (.tmp 3) (.const (.int .i64 1)), none, []⟩,
  ⟨(some 20), .load none (.tmp 19), none, []⟩,
  ⟨(some 21), .build [(.int .i64 0), (.int .i64 0)] [(0, 1, (.tmp 18)), (1, 1, (.tmp 20))], none, []⟩,
  ⟨(some 22), .idxAddr (some 3) 1 (.tmp 3) (.const (.int .i64 2)), none, []⟩,
  ⟨(some 23), .load none (.tmp 22), none, []⟩,
  ⟨(some 24), .idxAddr (some 3) 1 (.tmp 3) (.const (.int .i64 2)), none, []⟩,
  ⟨(some 25), .load none (.tmp 24), none, []⟩,
  ⟨(some 26), .build [(.int .i64 0), (.int .i64 0)] [(0, 1, (.tmp 23)), (1, 1, (.tmp 25))], none, []⟩,
  ⟨(some 27), .build [(.int .i64 0), (.int .i64 0), (.int .i64 0), (.int .i64 0), (.int .i64 0), (.int .i64 0)] [(0, 2, (.tmp 16)), (2, 2, (.tmp 21)), (4, 2, (.tmp 26))], none, []⟩,
  ⟨(some 5), .alloc T_dynamics_vector [(.int .i64 0), (.int .i64 0), (.int .i64 0), (.int .i64 0), (.int .i64 0), (.int .i64 0)], none, []⟩,
  ⟨none, .store 6 (.tmp 5) (.tmp 27), none, []⟩]
def F_dynamics_model_rest.r2 : List AOper := [
  ⟨(some 28), .mv (.tmp 0), none, []⟩,
  ⟨(some 29), .nilCheck (.tmp 28), none, []⟩,
  ⟨(some 30), .fieldAddr 1 (.tmp 29), none, []⟩,
  ⟨(some 31), .fieldAddr 0 (.tmp 30), none, []⟩,
  ⟨(some 32), .load none (.tmp 31), none, []⟩,
  ⟨(some 33), .lenO false (.tmp 32), none, []⟩,
  ⟨(some 34), .makeSlice T_api_Range [(.int .i64 0), (.int .i64 0)] 16 (.tmp 33) (.tmp 33), none, []⟩,
  ⟨(some 6), .mv (.tmp 34), none, []⟩]
def F_dynamics_model_rest.r3 : List AOper := [
  ⟨(some 35), .mv (.tmp 0), none, []⟩,
  ⟨(some 36), .nilCheck (.tmp 35), none, []⟩,
  ⟨(some 37), .fieldAddr 3 (.tmp 36), none, []⟩,
  ⟨(some 38), .load none (.tmp 37), none, []⟩,
  ⟨(some 39), .lenO false (.tmp 38), none, []⟩,
  ⟨(some 40), .mv (.const (.int .i64 0)), none, []⟩]
def F_dynamics_model_rest.r4 : List AOper := [
  ⟨(some 41), .bin .lss .no (.tmp 40) (.tmp 39), none, []⟩]
def F_dynamics_model_rest.r5 : List AOper := [
  ⟨(some 42), .mv (.tmp 40), none, []⟩,
  ⟨(some 43), .idxAddr none 1 (.tmp 38) (.tmp 40), none, []⟩,
  ⟨(some 44), .load none (.tmp 43), none, []⟩,
  ⟨(some 7), .mv (.tmp 42), none, []⟩,
  ⟨(some 8), .mv (.tmp 44), none, []⟩]
def F_dynamics_model_rest.r6 : List AOper := [
  ⟨(some 45), .mv (.tmp 8), none, []⟩,
  ⟨(some 46), .lenO false (.tmp 45), none, []⟩,
  ⟨(some 47), .mv (.const (.int .i64 0)), none, []⟩]
def F_dynamics_model_rest.r7 : List AOper := [
  ⟨(some 48), .bin .lss .no (.tmp 47) (.tmp 46), none, []⟩]
def F_dynamics_model_rest.r8 : List AOper := [
  ⟨(some 49), .idxAddr none 14 (.tmp 45) (.tmp 47), none, []⟩,
  ⟨(some 50), .load (some 14) (.tmp 49), none, []⟩,
  ⟨(some 10), .alloc T_dynamics_lever [(.int .i64 0), (.bool false), (.int .i64 0), (.int .i64 0), (.int .i64 0), (.int .i64 0), (.int .i64 0), (.int .i64 0), (.int .i64 0), (.int .i64 0), (.int .i64 0), (.int .i64 0), (.int .i64 0), (.int .i64 0)], none, []⟩,
  ⟨none, .store 14 (.tmp 10) (.tmp 50), none, []⟩]
def F_dynamics_model_rest.r9 : List AOper := [
  ⟨(some 51), .mv (.tmp 6), none, []⟩,
  ⟨(some 52), .fieldAddr 0 (.tmp 10), none, []⟩,
  ⟨(some 53), .load none (.tmp 52), none, [29, 30, 31]⟩,
  ⟨(some 54), .mv (.tmp 0), none, []⟩,
  ⟨(some 55), .nilCheck (.tmp 54), none, []⟩,
  ⟨(some 56), .fieldAddr 0 (.tmp 55), none, []⟩,
  ⟨(some 57), .mv (.tmp 6), none, []⟩,
  ⟨(some 58), .fieldAddr 0 (.tmp 10), none, []⟩,
  ⟨(some 59), .load none (.tmp 58), none, [29, 30]⟩,
  ⟨(some 60), .idxAddr none 2 (.tmp 57) (.tmp 59), none, []⟩,
  ⟨(some 61), .load (some 2) (.tmp 60), none, [29, 30]⟩,
  ⟨(some 62), .mv (.tmp 0), none, []⟩,
  ⟨(some 63), .nilCheck (.tmp 62), none, []⟩,
  ⟨(some 64), .fieldAddr 0 (.tmp 63), none, []⟩,
  ⟨(some 65), .mv (.tmp 0), none, []⟩,
  ⟨(some 66), .nilCheck (.tmp 65), none, []⟩,
  ⟨(some 67), .fieldAddr 1 (.tmp 66), none, []⟩,
  ⟨(some 68), .fieldAddr 1 (.tmp 67), none, []⟩,
  ⟨(some 69), .load none (.tmp 68), none, [29]⟩,
  ⟨(some 70), .mv (.tmp 7), none, []⟩,
  ⟨(some 71), .idxAddr none 5 (.tmp 69) (.tmp 70), none, []⟩,
  ⟨(some 72), .fieldAddr 1 (.tmp 71), none, []⟩,
  ⟨(some 73), .load none (.tmp 72), none, [29]⟩,
  ⟨(some 74), .mv (.tmp 0), none, []⟩,
  ⟨(some 75), .nilCheck (.tmp 74), none, []⟩,
  ⟨(some 76), .fieldAddr 0 (.tmp 75), none, []⟩,
  ⟨(some 77), .fieldAddr 8 (.tmp 10), none, []⟩,
  ⟨(some 78), .load (some 6) (.tmp 77), none, []⟩,
  ⟨(some 79), .load (some 6) (.tmp 5), none, []⟩,
  ⟨(some 80), .call (.func n_dynamics_calculator_dot) [(.tmp 76), (.tmp 78), (.tmp 79)], none, []⟩,
  ⟨(some 81), .call (.func n_dynamics_calculator_times) [(.tmp 64), (.tmp 73), (.tmp 80)], none, []⟩,
  ⟨(some 82), .call (.func n_dynamics_calculator_add) [(.tmp 56), (.tmp 61), (.tmp 81)], none, []⟩,
  ⟨(some 83), .idxAddr none 2 (.tmp 51) (.tmp 53), none, []⟩,
  ⟨none, .store 2 (.tmp 83) (.tmp 82), none, []⟩]
def F_dynamics_model_rest.r10 : List AOper := [
  ⟨(some 84), .bin .add .no (.tmp 47) (.const (.int .i64 1)), none, []⟩,
  ⟨(some 47), .mv (.tmp 84), none, []⟩]
def F_dynamics_model_rest.l0 : ACode := (.seq (.region F_dynamics_model_rest.r7) (.seq (.cond (.tmp 48) .skip (.exit 2)) (.seq (.block 3 (.seq (.region F_dynamics_model_rest.r8) (.dregion F_dynamics_model_rest.r9))) (.region F_dynamics_model_rest.r10))))
def F_dynamics_model_rest.r11 : List AOper := [
  ⟨(some 85), .bin .add .no (.tmp 40) (.const (.int .i64 1)), none, []⟩,
  ⟨(some 40), .mv (.tmp 85), none, []⟩]
def F_dynamics_model_rest.l1 : ACode := (.seq (.region F_dynamics_model_rest.r4) (.seq (.cond (.tmp 41) .skip (.exit 0)) (.seq (.block 1 (.seq (.region F_dynamics_model_rest.r5) (.seq (.region F_dynamics_model_rest.r6) (.block 2 (.loop F_dynamics_model_rest.l0))))) (.region F_dynamics_model_rest.r11))))
def F_dynamics_model_rest.r12 : List AOper := [
  ⟨(some 86), .mv (.tmp 6), none, []⟩,
  ⟨(some 87), .lenO false (.tmp 86), none, []⟩,
  ⟨(some 88), .mv (.const (.int .i64 0)), none, []⟩]
def F_dynamics_model_rest.r13 : List AOper := [
  ⟨(some 89), .bin .lss .no (.tmp 88) (.tmp 87), none, []⟩]
def F_dynamics_model_rest.r14 : List AOper := [
  ⟨(some 90), .mv (.tmp 88), none, []⟩,
  ⟨(some 11), .mv (.tmp 90), none, []⟩]
def F_dynamics_model_rest.r15 : List AOper := [
  ⟨(some 91), .mv (.tmp 6), none, []⟩,
  ⟨(some 92), .mv (.tmp 11), none, []⟩,
  ⟨(some 93), .mv (.tmp 6), none, []⟩,
  ⟨(some 94), .mv (.tmp 11), none, []⟩,
  ⟨(some 95), .idxAddr none 2 (.tmp 93) (.tmp 94), none, []⟩,
  ⟨(some 96), .load (some 2) (.tmp 95), none, []⟩,
  ⟨(some 97), .call (.func n_dynamics_negated) [(.tmp 96)], none, []⟩,
  ⟨(some 98), .idxAddr none 2 (.tmp 91) (.tmp 92), none, []⟩,
  ⟨none, .store 2 (.tmp 98) (.tmp 97), none, []⟩]
def F_dynamics_model_rest.r16 : List AOper := [
  ⟨(some 99), .bin .add .no (.tmp 88) (.const (.int .i64 1)), none, []⟩,
  ⟨(some 88), .mv (.tmp 99), none, []⟩]
def F_dynamics_model_rest.l2 : ACode := (.seq (.region F_dynamics_model_rest.r13) (.seq (.cond (.tmp 89) .skip (.exit 4)) (.seq (.block 5 (.seq (.region F_dynamics_model_rest.r14) (.region F_dynamics_model_rest.r15))) (.region F_dynamics_model_rest.r16))))
def F_dynamics_model_rest.r17 : List AOper := [
  ⟨(some 100), .mv (.tmp 6), none, []⟩,
  ⟨(some 4), .mv (.tmp 100), none, []⟩]
def F_dynamics_model_rest : AFunc := ⟨(.seq (.region F_dynamics_model_rest.r0) (.seq (.region F_dynamics_model_rest.r1) (.seq (.region F_dynamics_model_rest.r2) (.seq (.seq (.region F_dynamics_model_rest.r3) (.block 0 (.loop F_dynamics_model_rest.l1))) (.seq (.seq (.region F_dynamics_model_rest.r12) (.block 4 (.loop F_dynamics_model_rest.l2))) (.seq (.region F_dynamics_model_rest.r17) .ret)))))),
  [.inl 4]⟩
/-! (*armplan/dynamics.model).derivatives -/
def F_dynamics_model_derivatives.r0 : List AOper := [
  ⟨(some 6), .alloc T_dynamics_vector [(.int .i64 0), (.int .i64 0), (.int .i64 0), (.int .i64 0), (.int .i64 0), (.int .i64 0)], none, []⟩,
  ⟨(some 7), .alloc T_dynamics_vector [(.int .i64 0), (.int .i64 0), (.int .i64 0), (.int .i64 0), (.int .i64 0), (.int .i64 0)], none, []⟩]
def F_dynamics_model_derivatives.r1 : List AOper := [
  ⟨(some 13), .mv (.tmp 1), none, []⟩,
  ⟨(some 14), .lenO false (.tmp 13), none, []⟩,
  ⟨(some 15), .mv (.const (.int .i64 0)), none, []⟩]
def F_dynamics_model_derivatives.r2 : List AOper := [
  ⟨(some 16), .bin .lss .no (.tmp 15) (.tmp 14), none, []⟩]
def F_dynamics_model_derivatives.r3 : List AOper := [
  ⟨(some 17), .mv (.tmp 15), none, []⟩,
  ⟨(some 18), .idxAddr none 14 (.tmp 13) (.tmp 15), none, []⟩,
  ⟨(some 19), .load (some 14) (.tmp 18), none, []⟩,
  ⟨(some 9), .alloc T_dynamics_lever [(.int .i64 0), (.bool false), (.int .i64 0), (.int .i64 0), (.int .i64 0), (.int .i64 0), (.int .i64 0), (.int .i64 0), (.int .i64 0), (.int .i64 0), (.int .i64 0), (.int .i64 0), (.int .i64 0), (.int .i64 0)], none, []⟩,
  ⟨(some 8), .mv (.tmp 17), none, []⟩,
  ⟨none, .store 14 (.tmp 9) (.tmp 19), none, []⟩]
def F_dynamics_model_derivatives.r4 : List AOper := [
  ⟨(some 20), .mv (.tmp 0), none, []⟩,
  ⟨(some 21), .nilCheck (.tmp 20), none, []⟩,
  ⟨(some 22), .fieldAddr 0 (.tmp 21), none, []⟩,
  ⟨(some 23), .load (some 6) (.tmp 6), none, []⟩,
  ⟨(some 24), .fieldAddr 8 (.tmp 9), none, []⟩,
  ⟨(some 25), .load (some 6) (.tmp 24), none, []⟩,
  ⟨(some 26), .mv (.tmp 2), none, []⟩,
  ⟨(some 27), .fieldAddr 0 (.tmp 9), none, []⟩,
  ⟨(some 28), .load none (.tmp 27), none, []⟩,
  ⟨(some 29), .idxAddr none 2 (.tmp 26) (.tmp 28), none, []⟩,
  ⟨(some 30), .load (some 2) (.tmp 29), none, []⟩,
  ⟨(some 31), .call (.func n_dynamics_calculator_plus) [(.tmp 22), (.tmp 23), (.tmp 25), (.tmp 30)], none, []⟩,
  ⟨none, .store 6 (.tmp 6) (.tmp 31), none, []⟩]
def F_dynamics_model_derivatives.r5 : List AOper := [
  ⟨(some 32), .mv (.tmp 1), none, []⟩,
  ⟨(some 33), .mv (.tmp 8), none, []⟩,
  ⟨(some 34), .bin .add .no (.tmp 33) (.const (.int .i64 1)), none, []⟩,
  ⟨(some 35), .slc 14 (.tmp 32) none (some (.tmp 34)), none, []⟩,
  ⟨(some 36), .lenO false (.tmp 35), none, []⟩,
  ⟨(some 37), .mv (.const (.int .i64 0)), none, []⟩]
def F_dynamics_model_derivatives.r6 : List AOper := [
  ⟨(some 38), .bin .lss .no (.tmp 37) (.tmp 36), none, []⟩]
def F_dynamics_model_derivatives.r7 : List AOper := [
  ⟨(some 39), .mv (.tmp 37), none, []⟩,
  ⟨(some 40), .idxAddr none 14 (.tmp 35) (.tmp 37), none, []⟩,
  ⟨(some 41), .load (some 14) (.tmp 40), none, []⟩,
  ⟨(some 11), .alloc T_dynamics_lever [(.int .i64 0), (.bool false), (.int .i64 0), (.int .i64 0), (.int .i64 0), (.int .i64 0), (.int .i64 0), (.int .i64 0), (.int .i64 0), (.int .i64 0), (.int .i64 0), (.int .i64 0), (.int .i64 0), (.int .i64 0)], none, []⟩,
  ⟨(some 10), .mv (.tmp 39), none, []⟩,
  ⟨none, .store 14 (.tmp 11) (.tmp 41), none, []⟩]
def F_dynamics_model_derivatives.r8 : List AOper := [
  ⟨(some 42), .mv (.tmp 0), none, []⟩,
  ⟨(some 43), .nilCheck (.tmp 42), none, []⟩,
  ⟨(some 44), .fieldAddr 0 (.tmp 43), none, []⟩,
  ⟨(some 45), .mv (.tmp 2), none, []⟩,
  ⟨(some 46), .fieldAddr 0 (.tmp 11), none, []⟩,
  ⟨(some 47), .load none (.tmp 46), none, []⟩,
  ⟨(some 48), .idxAddr none 2 (.tmp 45) (.tmp 47), none, []⟩,
  ⟨(some 49), .load (some 2) (.tmp 48), none, []⟩,
  ⟨(some 50), .mv (.tmp 2), none, []⟩,
  ⟨(some 51), .fieldAddr 0 (.tmp 9), none, []⟩,
  ⟨(some 52), .load none (.tmp 51), none, []⟩,
  ⟨(some 53), .idxAddr none 2 (.tmp 50) (.tmp 52), none, []⟩,
  ⟨(some 54), .load (some 2) (.tmp 53), none, []⟩,
  ⟨(some 55), .call (.func n_dynamics_calculator_mul) [(.tmp 44), (.tmp 49), (.tmp 54)], none, []⟩,
  ⟨(some 12), .alloc T_api_Range [(.int .i64 0), (.int .i64 0)], none, []⟩,
  ⟨none, .store 2 (.tmp 12) (.tmp 55), none, []⟩]
def F_dynamics_model_derivatives.r9 : List AOper := [
  ⟨(some 56), .mv (.tmp 10), none, []⟩,
  ⟨(some 57), .mv (.tmp 8), none, []⟩,
  ⟨(some 58), .bin .lss .no (.tmp 56) (.tmp 57), none, []⟩]
def F_dynamics_model_derivatives.r10 : List AOper := [
  ⟨(some 59), .mv (.tmp 0), none, []⟩,
  ⟨(some 60), .nilCheck (.tmp 59), none, []⟩,
  ⟨(some 61), .fieldAddr 0 (.tmp 60), none, []⟩,
  ⟨(some 62), .load (some 2) (.tmp 12), none, []⟩,
  ⟨(some 63), .load (some 2) (.tmp 12), none, []⟩,
  ⟨(some 64), .call (.func n_dynamics_calculator_add) [(.tmp 61), (.tmp 62), (.tmp 63)], none, []⟩,
  ⟨none, .store 2 (.tmp 12) (.tmp 64), none, []⟩]
def F_dynamics_model_derivatives.r11 : List AOper := [
  ⟨(some 65), .fieldAddr 1 (.tmp 11), none, []⟩,
  ⟨(some 66), .load none (.tmp 65), none, []⟩]
def F_dynamics_model_derivatives.r12 : List AOper := [
  ⟨(some 67), .mv (.tmp 0), none, []⟩,
  ⟨(some 68), .nilCheck (.tmp 67), none, []⟩,
  ⟨(some 69), .fieldAddr 0 (.tmp 68), none, []⟩,
  ⟨(some 70), .load (some 6) (.tmp 7), none, [11]⟩,
  ⟨(some 71), .mv (.tmp 0), none, []⟩,
  ⟨(some 72), .nilCheck (.tmp 71), none, []⟩,
  ⟨(some 73), .fieldAddr 0 (.tmp 72), none, []⟩,
  ⟨(some 74), .fieldAddr 2 (.tmp 11), none, []⟩,
  ⟨(some 75), .load (some 6) (.tmp 74), none, []⟩,
  ⟨(some 76), .fieldAddr 8 (.tmp 9), none, []⟩,
  ⟨(some 77), .load (some 6) (.tmp 76), none, []⟩,
  ⟨(some 78), .call (.func n_dynamics_calculator_cross) [(.tmp 73), (.tmp 75), (.tmp 77)], none, []⟩,
  ⟨(some 79), .load (some 2) (.tmp 12), none, [11]⟩,
  ⟨(some 80), .call (.func n_dynamics_calculator_plus) [(.tmp 69), (.tmp 70), (.tmp 78), (.tmp 79)], none, []⟩,
  ⟨none, .store 6 (.tmp 7) (.tmp 80), none, []⟩]
def F_dynamics_model_derivatives.r13 : List AOper := [
  ⟨(some 81), .bin .add .no (.tmp 37) (.const (.int .i64 1)), none, []⟩,
  ⟨(some 37), .mv (.tmp 81), none, []⟩]
def F_dynamics_model_derivatives.l0 : ACode := (.seq (.region F_dynamics_model_derivatives.r6) (.seq (.cond (.tmp 38) .skip (.exit 2)) (.seq (.block 3 (.seq (.region F_dynamics_model_derivatives.r7) (.seq (.dregion F_dynamics_model_derivatives.r8) (.seq (.seq (.region F_dynamics_model_derivatives.r9) (.cond (.tmp 58) (.dregion F_dynamics_model_derivatives.r10) .skip)) (.seq (.region F_dynamics_model_derivatives.r11) (.cond (.tmp 66) (.dregion F_dynamics_model_derivatives.r12) .skip)))))) (.region F_dynamics_model_derivatives.r13))))
def F_dynamics_model_derivatives.r14 : List AOper := [
  ⟨(some 82), .bin .add .no (.tmp 15) (.const (.int .i64 1)), none, []⟩,
  ⟨(some 15), .mv (.tmp 82), none, []⟩]
def F_dynamics_model_derivatives.l1 : ACode := (.seq (.region F_dynamics_model_derivatives.r2) (.seq (.cond (.tmp 16) .skip (.exit 0)) (.seq (.block 1 (.seq (.region F_dynamics_model_derivatives.r3) (.seq (.dregion F_dynamics_model_derivatives.r4) (.seq (.region F_dynamics_model_derivatives.r5) (.block 2 (.loop F_dynamics_model_derivatives.l0)))))) (.region F_dynamics_model_derivatives.r14))))
def F_dynamics_model_derivatives.r15 : List AOper := [
  ⟨(some 83), .load (some 6) (.tmp 6), none, []⟩,
  ⟨(some 84), .load (some 6) (.tmp 7), none, [2]⟩,
  ⟨none, .store 6 (.tmp 6) (.tmp 83), none, []⟩,
  ⟨none, .store 6 (.tmp 7) (.tmp 84), none, []⟩]
def F_dynamics_model_derivatives : AFunc := ⟨(.seq (.region F_dynamics_model_derivatives.r0) (.seq (.seq (.region F_dynamics_model_derivatives.r1) (.block 0 (.loop F_dynamics_model_derivatives.l1))) (.seq (.dregion F_dynamics_model_derivatives.r15) .ret))),
  [.inr (6, (some 6)), .inr (7, (some 6))]⟩
/-! (*armplan/dynamics.calculator).add -/
def F_dynamics_calculator_add.r0 : List AOper := [
  ⟨(some 4), .box T_api_Range (.tmp 1), none, []⟩,
  ⟨(some 5), .box T_api_Range (.tmp 2), none, []⟩,
  ⟨(some 6), .alloc T_api_Range [(.int .i64 0), (.int .i64 0)], none, []⟩]
def F_dynamics_calculator_add.r1 : List AOper := [
  ⟨(some 7), .mv (.tmp 0), none, []⟩,
  ⟨(some 8), .load (some 2) (.tmp 4), none, []⟩,
  ⟨(some 9), .load (some 2) (.tmp 5), none, []⟩,
  ⟨(some 10), .call (.func n_dynamics_Add) [(.tmp 8), (.tmp 9)], none, []⟩,
  ⟨(some 11), .ext (.tmp 10) 0, none, []⟩,
  ⟨(some 12), .ext (.tmp 10) 1, none, []⟩,
  ⟨(some 13), .call (.func n_dynamics_calculator_keep) [(.tmp 7), (.tmp 11), (.tmp 12)], none, []⟩,
  ⟨none, .store 2 (.tmp 6) (.tmp 13), none, []⟩]
def F_dynamics_calculator_add : AFunc := ⟨(.seq (.region F_dynamics_calculator_add.r0) (.seq (.region F_dynamics_calculator_add.r1) .ret)),
  [.inr (6, (some 2))]⟩
/-! (*armplan/dynamics.calculator).times -/
def F_dynamics_calculator_times.r0 : List AOper := [
  ⟨(some 5), .box T_api_Range (.tmp 2), none, []⟩,
  ⟨(some 6), .alloc T_api_Range [(.int .i64 0), (.int .i64 0)], none, []⟩]
def F_dynamics_calculator_times.r1 : List AOper := [
  ⟨(some 8), .mv (.tmp 1), none, []⟩,
  ⟨(some 9), .bin .quo .no (.const (.int .i64 1152921504606846976)) (.tmp 8), none, []⟩,
  ⟨(some 7), .mv (.tmp 9), none, []⟩]
def F_dynamics_calculator_times.r2 : List AOper := [
  ⟨(some 10), .fieldAddr 0 (.tmp 5), none, []⟩,
  ⟨(some 11), .load none (.tmp 10), none, []⟩,
  ⟨(some 12), .mv (.tmp 7), none, []⟩,
  ⟨(some 13), .un .neg (.tmp 12), none, []⟩,
  ⟨(some 14), .bin .lss .no (.tmp 11) (.tmp 13), none, []⟩,
  ⟨(some 15), .mv (.tmp 14), none, []⟩,
  ⟨(some 16), .fieldAddr 1 (.tmp 5), some ((some 15), false), []⟩,
  ⟨(some 17), .load none (.tmp 16), some ((some 15), false), []⟩,
  ⟨(some 18), .mv (.tmp 7), some ((some 15), false), []⟩,
  ⟨(some 19), .bin .gtr .no (.tmp 17) (.tmp 18), some ((some 15), false), []⟩,
  ⟨(some 20), .pick (.tmp 15) (.const (.bool true)) (.tmp 19), none, []⟩]
def F_dynamics_calculator_times.r3 : List AOper := [
  ⟨(some 21), .mv (.tmp 0), none, []⟩,
  ⟨(some 22), .build [(.int .i64 0), (.int .i64 0)] [], none, []⟩,
  ⟨(some 23), .call (.func n_dynamics_calculator_keep) [(.tmp 21), (.tmp 22), (.const (.bool false))], none, []⟩,
  ⟨none, .store 2 (.tmp 6) (.tmp 23), none, []⟩]
def F_dynamics_calculator_times.r4 : List AOper := [
  ⟨(some 24), .mv (.tmp 1), none, []⟩,
  ⟨(some 25), .fieldAddr 0 (.tmp 5), none, []⟩,
  ⟨(some 26), .load none (.tmp 25), none, []⟩,
  ⟨(some 27), .bin .mul .no (.tmp 24) (.tmp 26), none, []⟩,
  ⟨(some 28), .mv (.tmp 1), none, []⟩,
  ⟨(some 29), .fieldAddr 1 (.tmp 5), none, []⟩,
  ⟨(some 30), .load none (.tmp 29), none, []⟩,
  ⟨(some 31), .bin .mul .no (.tmp 28) (.tmp 30), none, []⟩,
  ⟨(some 32), .build [(.int .i64 0), (.int .i64 0)] [(0, 1, (.tmp 27)), (1, 1, (.tmp 31))], none, []⟩,
  ⟨none, .store 2 (.tmp 6) (.tmp 32), none, []⟩]
def F_dynamics_calculator_times : AFunc := ⟨(.seq (.region F_dynamics_calculator_times.r0) (.seq (.region F_dynamics_calculator_times.r1) (.seq (.seq (.region F_dynamics_calculator_times.r2) (.cond (.tmp 20) (.seq (.region F_dynamics_calculator_times.r3) .ret) .skip)) (.seq (.region F_dynamics_calculator_times.r4) .ret)))),
  [.inr (6, (some 2))]⟩
/-! (*armplan/dynamics.calculator).dot -/
def F_dynamics_calculator_dot.r0 : List AOper := [
  ⟨(some 4), .box T_dynamics_vector (.tmp 1), none, []⟩,
  ⟨(some 5), .box T_dynamics_vector (.tmp 2), none, []⟩,
  ⟨(some 6), .alloc T_api_Range [(.int .i64 0), (.int .i64 0)], none, []⟩]
def F_dynamics_calculator_dot.r1 : List AOper := [
  ⟨(some 7), .mv (.tmp 0), none, []⟩,
  ⟨(some 8), .mv (.tmp 0), none, []⟩,
  ⟨(some 9), .mv (.tmp 0), none, []⟩,
  ⟨(some 10), .idxAddr (some 3) 2 (.tmp 4) (.const (.int .i64 0)), none, []⟩,
  ⟨(some 11), .load (some 2) (.tmp 10), none, []⟩,
  ⟨(some 12), .idxAddr (some 3) 2 (.tmp 5) (.const (.int .i64 0)), none, []⟩,
  ⟨(some 13), .load (some 2) (.tmp 12), none, []⟩,
  ⟨(some 14), .call (.func n_dynamics_calculator_mul) [(.tmp 9), (.tmp 11), (.tmp 13)], none, []⟩,
  ⟨(some 15), .mv (.tmp 0), none, []⟩,
  ⟨(some 16), .idxAddr (some 3) 2 (.tmp 4) (.const (.int .i64 1)), none, []⟩,
  ⟨(some 17), .load (some 2) (.tmp 16), none, [7]⟩,
  ⟨(some 18), .idxAddr (some 3) 2 (.tmp 5) (.const (.int .i64 1)), none, []⟩,
  ⟨(some 19), .load (some 2) (.tmp 18), none, [7]⟩,
  ⟨(some 20), .call (.func n_dynamics_calculator_mul) [(.tmp 15), (.tmp 17), (.tmp 19)], none, []⟩,
  ⟨(some 21), .call (.func n_dynamics_calculator_add) [(.tmp 8), (.tmp 14), (.tmp 20)], none, []⟩,
  ⟨(some 22), .mv (.tmp 0), none, []⟩,
  ⟨(some 23), .idxAddr (some 3) 2 (.tmp 4) (.const (.int .i64 2)), none, []⟩,
  ⟨(some 24), .load (some 2) (.tmp 23), none, [7, 13, 14]⟩,
  ⟨(some 25), .idxAddr (some 3) 2 (.tmp 5) (.const (.int .i64 2)), none, []⟩,
  ⟨(some 26), .load (some 2) (.tmp 25), none, [7, 13, 14]⟩,
  ⟨(some 27), .call (.func n_dynamics_calculator_mul) [(.tmp 22), (.tmp 24), (.tmp 26)], none, []⟩,
  ⟨(some 28), .call (.func n_dynamics_calculator_add) [(.tmp 7), (.tmp 21), (.tmp 27)], none, []⟩,
  ⟨none, .store 2 (.tmp 6) (.tmp 28), none, []⟩]
def F_dynamics_calculator_dot : AFunc := ⟨(.seq (.region F_dynamics_calculator_dot.r0) (.seq (.dregion F_dynamics_calculator_dot.r1) .ret)),
  [.inr (6, (some 2))]⟩
/-! armplan/armplanlaw40.arm -/
def F_armplanlaw40_arm.r0 : List AOper := [
  ⟨(some 2), .alloc T_api_Robot [(.slice none 0 0), (.slice none 0 0)], none, []⟩]
def F_armplanlaw40_arm.r1 : List AOper := [
  ⟨(some 4), .build [(.string (ByteArray.mk #[])), (.int .i64 0), (.int .i64 0), (.int .i64 0), (.int .i64 0), (.int .i64 0), (.int .i64 0), (.int .i64 0), (.int .i64 0), (.int .i64 0), (.int .i64 0), (.int .i64 0)] [(0, 1, (.const (.string (ByteArray.mk #[97])))), (1, 1, (.const (.int .i64 3))), (2, 1, (.const (.int .i64 (-1)))), (7, 1, (.const (.int .i64 65536))), (8, 1, (.const (.int .i64 1))), (9, 1, (.const (.int .i64 65536))), (10, 1, (.const (.int .i64 65536))), (11, 1, (.const (.int .i64 65536)))], none, []⟩,
  ⟨(some 5), .buildSlice T_api_Joint [(.string (ByteArray.mk #[])), (.int .i64 0), (.int .i64 0), (.int .i64 0), (.int .i64 0), (.int .i64 0), (.int .i64 0), (.int .i64 0), (.int .i64 0), (.int .i64 0), (.int .i64 0), (.int .i64 0)] 1 [(0, 12, (.tmp 4))], none, []⟩,
  ⟨(some 6), .build [(.slice none 0 0), (.slice none 0 0)] [(0, 1, (.tmp 5))], none, []⟩,
  ⟨(some 3), .alloc T_api_Robot [(.slice none 0 0), (.slice none 0 0)], none, []⟩,
  ⟨none, .store 2 (.tmp 3) (.tmp 6), none, []⟩]
def F_armplanlaw40_arm.r2 : List AOper := [
  ⟨(some 7), .mv (.tmp 0), none, []⟩,
  ⟨(some 8), .build [(.int .i64 0), (.int .i64 0), (.int .i64 0)] [(0, 1, (.const (.int .i64 65536)))], none, []⟩,
  ⟨(some 9), .build [(.int .i64 0), (.int .i64 0), (.int .i64 0), (.int .i64 0), (.int .i64 0)] [(1, 1, (.tmp 7)), (2, 3, (.tmp 8))], none, []⟩,
  ⟨(some 10), .buildSlice T_api_Mass [(.int .i64 0), (.int .i64 0), (.int .i64 0), (.int .i64 0), (.int .i64 0)] 1 [(0, 5, (.tmp 9))], none, []⟩,
  ⟨(some 11), .fieldAddr 1 (.tmp 3), none, []⟩,
  ⟨none, .store 1 (.tmp 11) (.tmp 10), none, []⟩]
def F_armplanlaw40_arm.r3 : List AOper := [
  ⟨(some 12), .load (some 2) (.tmp 3), none, []⟩,
  ⟨none, .store 2 (.tmp 2) (.tmp 12), none, []⟩]
def F_armplanlaw40_arm : AFunc := ⟨(.seq (.region F_armplanlaw40_arm.r0) (.seq (.region F_armplanlaw40_arm.r1) (.seq (.region F_armplanlaw40_arm.r2) (.seq (.region F_armplanlaw40_arm.r3) .ret)))),
  [.inr (2, (some 2))]⟩
/-! armplan/dynamics.Mul -/
def F_dynamics_Mul.r0 : List AOper := [
  ⟨(some 2), .box T_api_Range (.tmp 0), none, []⟩,
  ⟨(some 3), .box T_api_Range (.tmp 1), none, []⟩,
  ⟨(some 4), .alloc T_api_Range [(.int .i64 0), (.int .i64 0)], none, []⟩,
  ⟨(some 5), .mv (.const (.bool false)), none, []⟩]
def F_dynamics_Mul.r1 : List AOper := [
  ⟨(some 12), .load (some 2) (.tmp 2), none, []⟩,
  ⟨(some 13), .call (.func n_dynamics_isSmall) [(.tmp 12)], none, []⟩,
  ⟨(some 14), .un .not (.tmp 13), none, []⟩,
  ⟨(some 15), .mv (.tmp 14), none, []⟩,
  ⟨(some 16), .load (some 2) (.tmp 3), some ((some 15), false), []⟩,
  ⟨(some 17), .call (.func n_dynamics_isSmall) [(.tmp 16)], some ((some 15), false), []⟩,
  ⟨(some 18), .un .not (.tmp 17), some ((some 15), false), []⟩,
  ⟨(some 19), .pick (.tmp 15) (.const (.bool true)) (.tmp 18), none, []⟩]
def F_dynamics_Mul.r2 : List AOper := [
  ⟨(some 20), .build [(.int .i64 0), (.int .i64 0)] [], none, []⟩,
  ⟨none, .store 2 (.tmp 4) (.tmp 20), none, []⟩,
  ⟨(some 5), .mv (.const (.bool false)), none, []⟩]
def F_dynamics_Mul.r3 : List AOper := [
  ⟨(some 6), .alloc T_api_Range [(.int .i64 0), (.int .i64 0)], none, []⟩]
def F_dynamics_Mul.r4 : List AOper := [
  ⟨(some 21), .fieldAddr 0 (.tmp 2), none, []⟩,
  ⟨(some 22), .load none (.tmp 21), none, []⟩,
  ⟨(some 23), .fieldAddr 0 (.tmp 3), none, []⟩,
  ⟨(some 24), .load none (.tmp 23), none, []⟩,
  ⟨(some 25), .build [(.int .i64 0), (.int .i64 0)] [(0, 1, (.tmp 22)), (1, 1, (.tmp 24))], none, []⟩,
  ⟨(some 26), .fieldAddr 0 (.tmp 2), none, []⟩,
  ⟨(some 27), .load none (.tmp 26), none, []⟩,
  ⟨(some 28), .fieldAddr 1 (.tmp 3), none, []⟩,
  ⟨(some 29), .load none (.tmp 28), none, []⟩,
  ⟨(some 30), .build [(.int .i64 0), (.int .i64 0)] [(0, 1, (.tmp 27)), (1, 1, (.tmp 29))], none, []⟩,
  ⟨(some 31), .fieldAddr 1 (.tmp 2), none, []⟩,
  ⟨(some 32), .load none (.tmp 31), none, []⟩,
  ⟨(some 33), .fieldAddr 0 (.tmp 3), none, []⟩,
  ⟨(some 34), .load none (.tmp 33), none, []⟩,
  ⟨(some 35), .build [(.int .i64 0), (.int .i64 0)] [(0, 1, (.tmp 32)), (1, 1, (.tmp 34))], none, []⟩,
  ⟨(some 36), .fieldAddr 1 (.tmp 2), none, []⟩,
  ⟨(some 37), .load none (.tmp 36), none, []⟩,
  ⟨(some 38), .fieldAddr 1 (.tmp 3), none, []⟩,
  ⟨(some 39), .load none (.tmp 38), none, []⟩,
  ⟨(some 40), .build [(.int .i64 0), (.int .i64 0)] [(0, 1, (.tmp 37)), (1, 1, (.tmp 39))], none, []⟩,
  ⟨(some 41), .build [(.int .i64 0), (.int .i64 0), (.int .i64 0), (.int .i64 0), (.int .i64 0), (.int .i64 0), (.int .i64 0), (.int .i64 0)] [(0, 2, (.tmp 25)), (2, 2, (.tmp 30)), (4, 2, (.tmp 35)), (6, 2, (.tmp 40))], none, []⟩,
  ⟨(some 42), .mv (.const (.int .i64 0)), none, []⟩]
def F_dynamics_Mul.r5 : List AOper := [
  ⟨(some 43), .bin .lss .no (.tmp 42) (.const (.int .i64 4)), none, []⟩]
def F_dynamics_Mul.r6 : List AOper := [
  ⟨(some 44), .mv (.tmp 42), none, []⟩,
  ⟨(some 45), .idx 4 2 (some 2) (.tmp 41) (.tmp 42), none, []⟩,
  ⟨(some 8), .alloc T_2_int64 [(.int .i64 0), (.int .i64 0)], none, []⟩,
  ⟨(some 7), .mv (.tmp 44), none, []⟩,
  ⟨none, .store 2 (.tmp 8) (.tmp 45), none, []⟩]
def F_dynamics_Mul.r7 : List AOper := [
  ⟨(some 47), .idxAddr (some 2) 1 (.tmp 8) (.const (.int .i64 0)), none, []⟩,
  ⟨(some 48), .load none (.tmp 47), none, []⟩,
  ⟨(some 49), .idxAddr (some 2) 1 (.tmp 8) (.const (.int .i64 1)), none, []⟩,
  ⟨(some 50), .load none (.tmp 49), none, []⟩,
  ⟨(some 51), .call (.func n_dynamics_product) [(.tmp 48), (.tmp 50)], none, []⟩,
  ⟨(some 46), .mv (.tmp 51), none, []⟩,
  ⟨(some 52), .ext (.tmp 46) 0, none, []⟩,
  ⟨(some 53), .ext (.tmp 46) 1, none, []⟩,
  ⟨(some 54), .ext (.tmp 46) 2, none, []⟩,
  ⟨(some 9), .mv (.tmp 52), none, []⟩,
  ⟨(some 10), .mv (.tmp 53), none, []⟩,
  ⟨(some 11), .mv (.tmp 54), none, []⟩]
def F_dynamics_Mul.r8 : List AOper := [
  ⟨(some 55), .mv (.tmp 11), none, []⟩,
  ⟨(some 56), .un .not (.tmp 55), none, []⟩]
def F_dynamics_Mul.r9 : List AOper := [
  ⟨(some 57), .build [(.int .i64 0), (.int .i64 0)] [], none, []⟩,
  ⟨none, .store 2 (.tmp 4) (.tmp 57), none, []⟩,
  ⟨(some 5), .mv (.const (.bool false)), none, []⟩]
def F_dynamics_Mul.r10 : List AOper := [
  ⟨(some 58), .mv (.tmp 7), none, []⟩,
  ⟨(some 59), .bin .eql .no (.tmp 58) (.const (.int .i64 0)), none, []⟩]
def F_dynamics_Mul.r11 : List AOper := [
  ⟨(some 60), .mv (.tmp 9), none, []⟩,
  ⟨(some 61), .mv (.tmp 10), none, []⟩,
  ⟨(some 62), .build [(.int .i64 0), (.int .i64 0)] [(0, 1, (.tmp 60)), (1, 1, (.tmp 61))], none, []⟩,
  ⟨none, .store 2 (.tmp 6) (.tmp 62), none, []⟩]
def F_dynamics_Mul.r12 : List AOper := [
  ⟨(some 63), .fieldAddr 0 (.tmp 6), none, []⟩,
  ⟨(some 64), .load none (.tmp 63), none, []⟩,
  ⟨(some 65), .mv (.tmp 9), none, []⟩,
  ⟨(some 66), .minmax false [(.tmp 64), (.tmp 65)], none, []⟩,
  ⟨(some 67), .fieldAddr 1 (.tmp 6), none, []⟩,
  ⟨(some 68), .load none (.tmp 67), none, []⟩,
  ⟨(some 69), .mv (.tmp 10), none, []⟩,
  ⟨(some 70), .minmax true [(.tmp 68), (.tmp 69)], none, []⟩,
  ⟨(some 71), .fieldAddr 0 (.tmp 6), none, []⟩,
  ⟨none, .store 1 (.tmp 71) (.tmp 66), none, []⟩,
  ⟨(some 72), .fieldAddr 1 (.tmp 6), none, []⟩,
  ⟨none, .store 1 (.tmp 72) (.tmp 70), none, []⟩]
def F_dynamics_Mul.r13 : List AOper := [
  ⟨(some 73), .bin .add .no (.tmp 42) (.const (.int .i64 1)), none, []⟩,
  ⟨(some 42), .mv (.tmp 73), none, []⟩]
def F_dynamics_Mul.l0 : ACode := (.seq (.region F_dynamics_Mul.r5) (.seq (.cond (.tmp 43) .skip (.exit 0)) (.seq (.block 1 (.seq (.region F_dynamics_Mul.r6) (.seq (.region F_dynamics_Mul.r7) (.seq (.seq (.region F_dynamics_Mul.r8) (.cond (.tmp 56) (.seq (.region F_dynamics_Mul.r9) .ret) .skip)) (.seq (.seq (.region F_dynamics_Mul.r10) (.cond (.tmp 59) (.region F_dynamics_Mul.r11) .skip)) (.region F_dynamics_Mul.r12)))))) (.region F_dynamics_Mul.r13))))
def F_dynamics_Mul.r14 : List AOper := [
  ⟨(some 74), .load (some 2) (.tmp 6), none, []⟩,
  ⟨(some 75), .call (.func n_dynamics_isSmall) [(.tmp 74)], none, []⟩,
  ⟨(some 76), .un .not (.tmp 75), none, []⟩]
def F_dynamics_Mul.r15 : List AOper := [
  ⟨(some 77), .build [(.int .i64 0), (.int .i64 0)] [], none, []⟩,
  ⟨none, .store 2 (.tmp 4) (.tmp 77), none, []⟩,
  ⟨(some 5), .mv (.const (.bool false)), none, []⟩]
def F_dynamics_Mul.r16 : List AOper := [
  ⟨(some 78), .load (some 2) (.tmp 6), none, []⟩,
  ⟨none, .store 2 (.tmp 4) (.tmp 78), none, []⟩,
  ⟨(some 5), .mv (.const (.bool true)), none, []⟩]
def F_dynamics_Mul : AFunc := ⟨(.seq (.region F_dynamics_Mul.r0) (.seq (.seq (.region F_dynamics_Mul.r1) (.cond (.tmp 19) (.seq (.region F_dynamics_Mul.r2) .ret) .skip)) (.seq (.region F_dynamics_Mul.r3) (.seq (.seq (.region F_dynamics_Mul.r4) (.block 0 (.loop F_dynamics_Mul.l0))) (.seq (.seq (.region F_dynamics_Mul.r14) (.cond (.tmp 76) (.seq (.region F_dynamics_Mul.r15) .ret) .skip)) (.seq (.region F_dynamics_Mul.r16) .ret)))))),
  [.inr (4, (some 2)), .inl 5]⟩
/-! armplan/armplanref6.CheckRobot -/
def F_armplanref6_CheckRobot.r0 : List AOper := [
  ⟨(some 1), .box T_api_Robot (.tmp 0), none, []⟩,
  ⟨(some 2), .mv (.const (.int .i64 0)), none, []⟩]
def F_armplanref6_CheckRobot.r1 : List AOper := [
  ⟨(some 7), .fieldAddr 0 (.tmp 1), none, []⟩,
  ⟨(some 8), .load none (.tmp 7), none, []⟩,
  ⟨(some 9), .lenO false (.tmp 8), none, []⟩,
  ⟨(some 10), .bin .lss .no (.tmp 9) (.const (.int .i64 1)), none, []⟩,
  ⟨(some 11), .mv (.tmp 10), none, []⟩,
  ⟨(some 12), .fieldAddr 0 (.tmp 1), some ((some 11), false), []⟩,
  ⟨(some 13), .load none (.tmp 12), some ((some 11), false), []⟩,
  ⟨(some 14), .lenO false (.tmp 13), some ((some 11), false), []⟩,
  ⟨(some 15), .bin .gtr .no (.tmp 14) (.const (.int .i64 10)), some ((some 11), false), []⟩,
  ⟨(some 16), .pick (.tmp 11) (.const (.bool true)) (.tmp 15), none, []⟩]
def F_armplanref6_CheckRobot.r2 : List AOper := [
  ⟨(some 2), .mv (.const (.int .i64 801)), none, []⟩]
def F_armplanref6_CheckRobot.r3 : List AOper := [
  ⟨(some 3), .mv (.const (.int .i64 0)), none, []⟩]
def F_armplanref6_CheckRobot.r4 : List AOper := [
  ⟨(some 17), .mv (.tmp 3), none, []⟩,
  ⟨(some 18), .fieldAddr 0 (.tmp 1), none, []⟩,
  ⟨(some 19), .load none (.tmp 18), none, []⟩,
  ⟨(some 20), .lenO false (.tmp 19), none, []⟩,
  ⟨(some 21), .bin .lss .no (.tmp 17) (.tmp 20), none, []⟩]
def F_armplanref6_CheckRobot.r5 : List AOper := [
  ⟨(some 24), .fieldAddr 0 (.tmp 1), none, []⟩,
  ⟨(some 25), .load none (.tmp 24), none, []⟩,
  ⟨(some 26), .mv (.tmp 3), none, []⟩,
  ⟨(some 27), .call (.func n_armplanref6_checkJoint) [(.tmp 25), (.tmp 26)], none, []⟩,
  ⟨(some 4), .mv (.tmp 27), none, []⟩]
def F_armplanref6_CheckRobot.r6 : List AOper := [
  ⟨(some 28), .mv (.tmp 4), none, []⟩,
  ⟨(some 29), .bin .neq .no (.tmp 28) (.const (.int .i64 0)), none, []⟩]
def F_armplanref6_CheckRobot.r7 : List AOper := [
  ⟨(some 30), .mv (.tmp 4), none, []⟩,
  ⟨(some 2), .mv (.tmp 30), none, []⟩]
def F_armplanref6_CheckRobot.r8 : List AOper := [
  ⟨(some 22), .mv (.tmp 3), none, []⟩,
  ⟨(some 23), .bin .add .no (.tmp 22) (.const (.int .i64 1)), none, []⟩,
  ⟨(some 3), .mv (.tmp 23), none, []⟩]
def F_armplanref6_CheckRobot.l0 : ACode := (.seq (.seq (.region F_armplanref6_CheckRobot.r4) (.cond (.tmp 21) .skip (.exit 0))) (.seq (.block 1 (.seq (.region F_armplanref6_CheckRobot.r5) (.seq (.region F_armplanref6_CheckRobot.r6) (.cond (.tmp 29) (.seq (.region F_armplanref6_CheckRobot.r7) .ret) .skip)))) (.region F_armplanref6_CheckRobot.r8)))
def F_armplanref6_CheckRobot.r9 : List AOper := [
  ⟨(some 31), .fieldAddr 1 (.tmp 1), none, []⟩,
  ⟨(some 32), .load none (.tmp 31), none, []⟩,
  ⟨(some 33), .lenO false (.tmp 32), none, []⟩,
  ⟨(some 34), .bin .gtr .no (.tmp 33) (.const (.int .i64 32)), none, []⟩]
def F_armplanref6_CheckRobot.r10 : List AOper := [
  ⟨(some 2), .mv (.const (.int .i64 808)), none, []⟩]
def F_armplanref6_CheckRobot.r11 : List AOper := [
  ⟨(some 5), .mv (.const (.int .i64 0)), none, []⟩]
def F_armplanref6_CheckRobot.r12 : List AOper := [
  ⟨(some 35), .mv (.tmp 5), none, []⟩,
  ⟨(some 36), .fieldAddr 1 (.tmp 1), none, []⟩,
  ⟨(some 37), .load none (.tmp 36), none, []⟩,
  ⟨(some 38), .lenO false (.tmp 37), none, []⟩,
  ⟨(some 39), .bin .lss .no (.tmp 35) (.tmp 38), none, []⟩]
def F_armplanref6_CheckRobot.r13 : List AOper := [
  ⟨(some 42), .fieldAddr 1 (.tmp 1), none, []⟩,
  ⟨(some 43), .load none (.tmp 42), none, []⟩,
  ⟨(some 44), .mv (.tmp 5), none, []⟩,
  ⟨(some 45), .idxAddr none 5 (.tmp 43) (.tmp 44), none, []⟩,
  ⟨(some 46), .load (some 5) (.tmp 45), none, []⟩,
  ⟨(some 6), .alloc T_api_Mass [(.int .i64 0), (.int .i64 0), (.int .i64 0), (.int .i64 0), (.int .i64 0)], none, []⟩,
  ⟨none, .store 5 (.tmp 6) (.tmp 46), none, []⟩]
def F_armplanref6_CheckRobot.r14 : List AOper := [
  ⟨(some 47), .fieldAddr 0 (.tmp 6), none, []⟩,
  ⟨(some 48), .load none (.tmp 47), none, []⟩,
  ⟨(some 49), .bin .lss .no (.tmp 48) (.const (.int .i64 0)), none, []⟩,
  ⟨(some 50), .mv (.tmp 49), none, []⟩,
  ⟨(some 51), .fieldAddr 0 (.tmp 6), some ((some 50), false), []⟩,
  ⟨(some 52), .load none (.tmp 51), some ((some 50), false), []⟩,
  ⟨(some 53), .fieldAddr 0 (.tmp 1), some ((some 50), false), []⟩,
  ⟨(some 54), .load none (.tmp 53), some ((some 50), false), []⟩,
  ⟨(some 55), .lenO false (.tmp 54), some ((some 50), false), []⟩,
  ⟨(some 56), .bin .geq .no (.tmp 52) (.tmp 55), some ((some 50), false), []⟩,
  ⟨(some 57), .pick (.tmp 50) (.const (.bool true)) (.tmp 56), none, []⟩,
  ⟨(some 58), .mv (.tmp 57), none, []⟩,
  ⟨(some 59), .fieldAddr 1 (.tmp 6), some ((some 58), false), []⟩,
  ⟨(some 60), .load none (.tmp 59), some ((some 58), false), []⟩,
  ⟨(some 61), .call (.func n_armplanref6_between) [(.tmp 60), (.const (.int .i64 1)), (.const (.int .i64 65536))], some ((some 58), false), []⟩,
  ⟨(some 62), .un .not (.tmp 61), some ((some 58), false), []⟩,
  ⟨(some 63), .pick (.tmp 58) (.const (.bool true)) (.tmp 62), none, []⟩,
  ⟨(some 64), .mv (.tmp 63), none, []⟩,
  ⟨(some 65), .fieldAddr 2 (.tmp 6), some ((some 64), false), []⟩,
  ⟨(some 66), .load (some 3) (.tmp 65), some ((some 64), false), []⟩,
  ⟨(some 67), .call (.func n_armplanref6_Near) [(.tmp 66), (.const (.int .i64 4194304))], some ((some 64), false), []⟩,
  ⟨(some 68), .un .not (.tmp 67), some ((some 64), false), []⟩,
  ⟨(some 69), .pick (.tmp 64) (.const (.bool true)) (.tmp 68), none, []⟩]
def F_armplanref6_CheckRobot.r15 : List AOper := [
  ⟨(some 2), .mv (.const (.int .i64 808)), none, []⟩]
def F_armplanref6_CheckRobot.r16 : List AOper := [
  ⟨(some 40), .mv (.tmp 5), none, []⟩,
  ⟨(some 41), .bin .add .no (.tmp 40) (.const (.int .i64 1)), none, []⟩,
  ⟨(some 5), .mv (.tmp 41), none, []⟩]
def F_armplanref6_CheckRobot.l1 : ACode := (.seq (.seq (.region F_armplanref6_CheckRobot.r12) (.cond (.tmp 39) .skip (.exit 2))) (.seq (.block 3 (.seq (.region F_armplanref6_CheckRobot.r13) (.seq (.region F_armplanref6_CheckRobot.r14) (.cond (.tmp 69) (.seq (.region F_armplanref6_CheckRobot.r15) .ret) .skip)))) (.region F_armplanref6_CheckRobot.r16)))
def F_armplanref6_CheckRobot.r17 : List AOper := [
  ⟨(some 2), .mv (.const (.int .i64 0)), none, []⟩]
def F_armplanref6_CheckRobot : AFunc := ⟨(.seq (.region F_armplanref6_CheckRobot.r0) (.seq (.seq (.region F_armplanref6_CheckRobot.r1) (.cond (.tmp 16) (.seq (.region F_armplanref6_CheckRobot.r2) .ret) .skip)) (.seq (.seq (.region F_armplanref6_CheckRobot.r3) (.block 0 (.loop F_armplanref6_CheckRobot.l0))) (.seq (.seq (.region F_armplanref6_CheckRobot.r9) (.cond (.tmp 34) (.seq (.region F_armplanref6_CheckRobot.r10) .ret) .skip)) (.seq (.seq (.region F_armplanref6_CheckRobot.r11) (.block 2 (.loop F_armplanref6_CheckRobot.l1))) (.seq (.region F_armplanref6_CheckRobot.r17) .ret)))))),
  [.inl 2]⟩
/-! armplan/armplanmake.Interval -/
def F_armplanmake_Interval.r0 : List AOper := [
  ⟨(some 4), .alloc T_api_Interval [(.int .i64 0), (.int .i64 0)], none, []⟩]
def F_armplanmake_Interval.r1 : List AOper := [
  ⟨(some 8), .mv (.tmp 0), none, []⟩,
  ⟨(some 9), .bin .shr .no (.tmp 8) (.const (.int .u64 3)), none, []⟩,
  ⟨(some 10), .call (.func n_armplanmake_Round) [(.tmp 9), (.const (.int .i64 27))], none, []⟩,
  ⟨(some 11), .bin .add .no (.const (.int .i64 4)) (.tmp 10), none, []⟩,
  ⟨(some 12), .conv .u64 (.tmp 11), none, []⟩,
  ⟨(some 13), .bin .shl .no (.const (.int .i64 1)) (.tmp 12), none, []⟩,
  ⟨(some 5), .mv (.tmp 13), none, []⟩]
def F_armplanmake_Interval.r2 : List AOper := [
  ⟨(some 14), .mv (.tmp 0), none, []⟩,
  ⟨(some 15), .mv (.tmp 5), none, []⟩,
  ⟨(some 16), .bin .mul .no (.const (.int .i64 2)) (.tmp 15), none, []⟩,
  ⟨(some 17), .bin .add .no (.tmp 16) (.const (.int .i64 1)), none, []⟩,
  ⟨(some 18), .call (.func n_armplanmake_Round) [(.tmp 14), (.tmp 17)], none, []⟩,
  ⟨(some 19), .mv (.tmp 5), none, []⟩,
  ⟨(some 20), .bin .sub .no (.tmp 18) (.tmp 19), none, []⟩,
  ⟨(some 21), .mv (.tmp 1), none, []⟩,
  ⟨(some 22), .mv (.tmp 5), none, []⟩,
  ⟨(some 23), .bin .mul .no (.const (.int .i64 2)) (.tmp 22), none, []⟩,
  ⟨(some 24), .bin .add .no (.tmp 23) (.const (.int .i64 1)), none, []⟩,
  ⟨(some 25), .call (.func n_armplanmake_Round) [(.tmp 21), (.tmp 24)], none, []⟩,
  ⟨(some 26), .mv (.tmp 5), none, []⟩,
  ⟨(some 27), .bin .sub .no (.tmp 25) (.tmp 26), none, []⟩,
  ⟨(some 6), .mv (.tmp 20), none, []⟩,
  ⟨(some 7), .mv (.tmp 27), none, []⟩]
def F_armplanmake_Interval.r3 : List AOper := [
  ⟨(some 28), .mv (.tmp 1), none, []⟩,
  ⟨(some 29), .bin .and .no (.tmp 28) (.const (.int .i64 1)), none, []⟩,
  ⟨(some 30), .bin .eql .no (.tmp 29) (.const (.int .i64 0)), none, []⟩]
def F_armplanmake_Interval.r4 : List AOper := [
  ⟨(some 31), .mv (.tmp 6), none, []⟩,
  ⟨(some 32), .mv (.tmp 1), none, []⟩,
  ⟨(some 33), .bin .shr .no (.tmp 32) (.const (.int .u64 1)), none, []⟩,
  ⟨(some 34), .mv (.tmp 5), none, []⟩,
  ⟨(some 35), .bin .quo .no (.tmp 34) (.const (.int .i64 8)), none, []⟩,
  ⟨(some 36), .bin .add .no (.const (.int .i64 1)) (.tmp 35), none, []⟩,
  ⟨(some 37), .call (.func n_armplanmake_Round) [(.tmp 33), (.tmp 36)], none, []⟩,
  ⟨(some 38), .bin .add .no (.tmp 31) (.tmp 37), none, []⟩,
  ⟨(some 7), .mv (.tmp 38), none, []⟩]
def F_armplanmake_Interval.r5 : List AOper := [
  ⟨(some 39), .mv (.tmp 6), none, []⟩,
  ⟨(some 40), .call (.func n_armplanref1_Clamp) [(.tmp 39)], none, []⟩,
  ⟨(some 41), .mv (.tmp 7), none, []⟩,
  ⟨(some 42), .call (.func n_armplanref1_Clamp) [(.tmp 41)], none, []⟩,
  ⟨(some 43), .minmax false [(.tmp 40), (.tmp 42)], none, []⟩,
  ⟨(some 44), .mv (.tmp 6), none, []⟩,
  ⟨(some 45), .call (.func n_armplanref1_Clamp) [(.tmp 44)], none, []⟩,
  ⟨(some 46), .mv (.tmp 7), none, []⟩,
  ⟨(some 47), .call (.func n_armplanref1_Clamp) [(.tmp 46)], none, []⟩,
  ⟨(some 48), .minmax true [(.tmp 45), (.tmp 47)], none, []⟩,
  ⟨(some 49), .build [(.int .i64 0), (.int .i64 0)] [(0, 1, (.tmp 43)), (1, 1, (.tmp 48))], none, []⟩,
  ⟨none, .store 2 (.tmp 4) (.tmp 49), none, []⟩]
def F_armplanmake_Interval : AFunc := ⟨(.seq (.region F_armplanmake_Interval.r0) (.seq (.region F_armplanmake_Interval.r1) (.seq (.region F_armplanmake_Interval.r2) (.seq (.seq (.region F_armplanmake_Interval.r3) (.cond (.tmp 30) (.region F_armplanmake_Interval.r4) .skip)) (.seq (.region F_armplanmake_Interval.r5) .ret))))),
  [.inr (4, (some 2))]⟩
/-! armplan/dynamics.Add -/
def F_dynamics_Add.r0 : List AOper := [
  ⟨(some 2), .box T_api_Range (.tmp 0), none, []⟩,
  ⟨(some 3), .box T_api_Range (.tmp 1), none, []⟩,
  ⟨(some 4), .alloc T_api_Range [(.int .i64 0), (.int .i64 0)], none, []⟩,
  ⟨(some 5), .mv (.const (.bool false)), none, []⟩]
def F_dynamics_Add.r1 : List AOper := [
  ⟨(some 7), .load (some 2) (.tmp 2), none, []⟩,
  ⟨(some 8), .call (.func n_dynamics_isSmall) [(.tmp 7)], none, []⟩,
  ⟨(some 9), .un .not (.tmp 8), none, []⟩,
  ⟨(some 10), .mv (.tmp 9), none, []⟩,
  ⟨(some 11), .load (some 2) (.tmp 3), some ((some 10), false), []⟩,
  ⟨(some 12), .call (.func n_dynamics_isSmall) [(.tmp 11)], some ((some 10), false), []⟩,
  ⟨(some 13), .un .not (.tmp 12), some ((some 10), false), []⟩,
  ⟨(some 14), .pick (.tmp 10) (.const (.bool true)) (.tmp 13), none, []⟩]
def F_dynamics_Add.r2 : List AOper := [
  ⟨(some 15), .build [(.int .i64 0), (.int .i64 0)] [], none, []⟩,
  ⟨none, .store 2 (.tmp 4) (.tmp 15), none, []⟩,
  ⟨(some 5), .mv (.const (.bool false)), none, []⟩]
def F_dynamics_Add.r3 : List AOper := [
  ⟨(some 16), .fieldAddr 0 (.tmp 2), none, []⟩,
  ⟨(some 17), .load none (.tmp 16), none, []⟩,
  ⟨(some 18), .fieldAddr 0 (.tmp 3), none, []⟩,
  ⟨(some 19), .load none (.tmp 18), none, []⟩,
  ⟨(some 20), .bin .add .no (.tmp 17) (.tmp 19), none, []⟩,
  ⟨(some 21), .fieldAddr 1 (.tmp 2), none, []⟩,
  ⟨(some 22), .load none (.tmp 21), none, []⟩,
  ⟨(some 23), .fieldAddr 1 (.tmp 3), none, []⟩,
  ⟨(some 24), .load none (.tmp 23), none, []⟩,
  ⟨(some 25), .bin .add .no (.tmp 22) (.tmp 24), none, []⟩,
  ⟨(some 26), .build [(.int .i64 0), (.int .i64 0)] [(0, 1, (.tmp 20)), (1, 1, (.tmp 25))], none, []⟩,
  ⟨(some 6), .alloc T_api_Range [(.int .i64 0), (.int .i64 0)], none, []⟩,
  ⟨none, .store 2 (.tmp 6) (.tmp 26), none, []⟩]
def F_dynamics_Add.r4 : List AOper := [
  ⟨(some 27), .load (some 2) (.tmp 6), none, []⟩,
  ⟨(some 28), .call (.func n_dynamics_isSmall) [(.tmp 27)], none, []⟩,
  ⟨(some 29), .un .not (.tmp 28), none, []⟩]
def F_dynamics_Add.r5 : List AOper := [
  ⟨(some 30), .build [(.int .i64 0), (.int .i64 0)] [], none, []⟩,
  ⟨none, .store 2 (.tmp 4) (.tmp 30), none, []⟩,
  ⟨(some 5), .mv (.const (.bool false)), none, []⟩]
def F_dynamics_Add.r6 : List AOper := [
  ⟨(some 31), .load (some 2) (.tmp 6), none, []⟩,
  ⟨none, .store 2 (.tmp 4) (.tmp 31), none, []⟩,
  ⟨(some 5), .mv (.const (.bool true)), none, []⟩]
def F_dynamics_Add : AFunc := ⟨(.seq (.region F_dynamics_Add.r0) (.seq (.seq (.region F_dynamics_Add.r1) (.cond (.tmp 14) (.seq (.region F_dynamics_Add.r2) .ret) .skip)) (.seq (.region F_dynamics_Add.r3) (.seq (.seq (.region F_dynamics_Add.r4) (.cond (.tmp 29) (.seq (.region F_dynamics_Add.r5) .ret) .skip)) (.seq (.region F_dynamics_Add.r6) .ret))))),
  [.inr (4, (some 2)), .inl 5]⟩
/-! armplan/armplanref40.AddRange -/
def F_armplanref40_AddRange.r0 : List AOper := [
  ⟨(some 2), .box T_api_Range (.tmp 0), none, []⟩,
  ⟨(some 3), .box T_api_Range (.tmp 1), none, []⟩,
  ⟨(some 4), .alloc T_api_Range [(.int .i64 0), (.int .i64 0)], none, []⟩,
  ⟨(some 5), .mv (.const (.bool false)), none, []⟩]
def F_armplanref40_AddRange.r1 : List AOper := [
  ⟨(some 7), .load (some 2) (.tmp 2), none, []⟩,
  ⟨(some 8), .call (.func n_armplanref40_Small) [(.tmp 7)], none, []⟩,
  ⟨(some 9), .un .not (.tmp 8), none, []⟩,
  ⟨(some 10), .mv (.tmp 9), none, []⟩,
  ⟨(some 11), .load (some 2) (.tmp 3), some ((some 10), false), []⟩,
  ⟨(some 12), .call (.func n_armplanref40_Small) [(.tmp 11)], some ((some 10), false), []⟩,
  ⟨(some 13), .un .not (.tmp 12), some ((some 10), false), []⟩,
  ⟨(some 14), .pick (.tmp 10) (.const (.bool true)) (.tmp 13), none, []⟩]
def F_armplanref40_AddRange.r2 : List AOper := [
  ⟨(some 15), .build [(.int .i64 0), (.int .i64 0)] [], none, []⟩,
  ⟨none, .store 2 (.tmp 4) (.tmp 15), none, []⟩,
  ⟨(some 5), .mv (.const (.bool false)), none, []⟩]
def F_armplanref40_AddRange.r3 : List AOper := [
  ⟨(some 16), .fieldAddr 0 (.tmp 2), none, []⟩,
  ⟨(some 17), .load none (.tmp 16), none, []⟩,
  ⟨(some 18), .fieldAddr 0 (.tmp 3), none, []⟩,
  ⟨(some 19), .load none (.tmp 18), none, []⟩,
  ⟨(some 20), .bin .add .no (.tmp 17) (.tmp 19), none, []⟩,
  ⟨(some 21), .fieldAddr 1 (.tmp 2), none, []⟩,
  ⟨(some 22), .load none (.tmp 21), none, []⟩,
  ⟨(some 23), .fieldAddr 1 (.tmp 3), none, []⟩,
  ⟨(some 24), .load none (.tmp 23), none, []⟩,
  ⟨(some 25), .bin .add .no (.tmp 22) (.tmp 24), none, []⟩,
  ⟨(some 26), .build [(.int .i64 0), (.int .i64 0)] [(0, 1, (.tmp 20)), (1, 1, (.tmp 25))], none, []⟩,
  ⟨(some 6), .alloc T_api_Range [(.int .i64 0), (.int .i64 0)], none, []⟩,
  ⟨none, .store 2 (.tmp 6) (.tmp 26), none, []⟩]
def F_armplanref40_AddRange.r4 : List AOper := [
  ⟨(some 27), .load (some 2) (.tmp 6), none, []⟩,
  ⟨(some 28), .call (.func n_armplanref40_Small) [(.tmp 27)], none, []⟩,
  ⟨(some 29), .un .not (.tmp 28), none, []⟩]
def F_armplanref40_AddRange.r5 : List AOper := [
  ⟨(some 30), .build [(.int .i64 0), (.int .i64 0)] [], none, []⟩,
  ⟨none, .store 2 (.tmp 4) (.tmp 30), none, []⟩,
  ⟨(some 5), .mv (.const (.bool false)), none, []⟩]
def F_armplanref40_AddRange.r6 : List AOper := [
  ⟨(some 31), .load (some 2) (.tmp 6), none, []⟩,
  ⟨none, .store 2 (.tmp 4) (.tmp 31), none, []⟩,
  ⟨(some 5), .mv (.const (.bool true)), none, []⟩]
def F_armplanref40_AddRange : AFunc := ⟨(.seq (.region F_armplanref40_AddRange.r0) (.seq (.seq (.region F_armplanref40_AddRange.r1) (.cond (.tmp 14) (.seq (.region F_armplanref40_AddRange.r2) .ret) .skip)) (.seq (.region F_armplanref40_AddRange.r3) (.seq (.seq (.region F_armplanref40_AddRange.r4) (.cond (.tmp 29) (.seq (.region F_armplanref40_AddRange.r5) .ret) .skip)) (.seq (.region F_armplanref40_AddRange.r6) .ret))))),
  [.inr (4, (some 2)), .inl 5]⟩
/-! armplan/armplanref40.MulRange -/
def F_armplanref40_MulRange.r0 : List AOper := [
  ⟨(some 2), .box T_api_Range (.tmp 0), none, []⟩,
  ⟨(some 3), .box T_api_Range (.tmp 1), none, []⟩,
  ⟨(some 4), .alloc T_api_Range [(.int .i64 0), (.int .i64 0)], none, []⟩,
  ⟨(some 5), .mv (.const (.bool false)), none, []⟩]
def F_armplanref40_MulRange.r1 : List AOper := [
  ⟨(some 17), .load (some 2) (.tmp 2), none, []⟩,
  ⟨(some 18), .call (.func n_armplanref40_Small) [(.tmp 17)], none, []⟩,
  ⟨(some 19), .un .not (.tmp 18), none, []⟩,
  ⟨(some 20), .mv (.tmp 19), none, []⟩,
  ⟨(some 21), .load (some 2) (.tmp 3), some ((some 20), false), []⟩,
  ⟨(some 22), .call (.func n_armplanref40_Small) [(.tmp 21)], some ((some 20), false), []⟩,
  ⟨(some 23), .un .not (.tmp 22), some ((some 20), false), []⟩,
  ⟨(some 24), .pick (.tmp 20) (.const (.bool true)) (.tmp 23), none, []⟩]
def F_armplanref40_MulRange.r2 : List AOper := [
  ⟨(some 25), .build [(.int .i64 0), (.int .i64 0)] [], none, []⟩,
  ⟨none, .store 2 (.tmp 4) (.tmp 25), none, []⟩,
  ⟨(some 5), .mv (.const (.bool false)), none, []⟩]
def F_armplanref40_MulRange.r3 : List AOper := [
  ⟨(some 6), .alloc T_api_Range [(.int .i64 0), (.int .i64 0)], none, []⟩]
def F_armplanref40_MulRange.r4 : List AOper := [
  ⟨(some 7), .mv (.const (.bool true)), none, []⟩]
def F_armplanref40_MulRange.r5 : List AOper := [
  ⟨(some 26), .fieldAddr 0 (.tmp 2), none, []⟩,
  ⟨(some 27), .load none (.tmp 26), none, []⟩,
  ⟨(some 28), .fieldAddr 1 (.tmp 2), none, []⟩,
  ⟨(some 29), .load none (.tmp 28), none, []⟩,
  ⟨(some 30), .build [(.int .i64 0), (.int .i64 0)] [(0, 1, (.tmp 27)), (1, 1, (.tmp 29))], none, []⟩,
  ⟨(some 31), .mv (.const (.int .i64 0)), none, []⟩]
def F_armplanref40_MulRange.r6 : List AOper := [
  ⟨(some 32), .bin .lss .no (.tmp 31) (.const (.int .i64 2)), none, []⟩]
def F_armplanref40_MulRange.r7 : List AOper := [
  ⟨(some 33), .idx 2 1 none (.tmp 30) (.tmp 31), none, []⟩,
  ⟨(some 9), .mv (.tmp 33), none, []⟩]
def F_armplanref40_MulRange.r8 : List AOper := [
  ⟨(some 34), .fieldAddr 0 (.tmp 3), none, []⟩,
  ⟨(some 35), .load none (.tmp 34), none, []⟩,
  ⟨(some 36), .fieldAddr 1 (.tmp 3), none, []⟩,
  ⟨(some 37), .load none (.tmp 36), none, []⟩,
  ⟨(some 38), .build [(.int .i64 0), (.int .i64 0)] [(0, 1, (.tmp 35)), (1, 1, (.tmp 37))], none, []⟩,
  ⟨(some 39), .mv (.const (.int .i64 0)), none, []⟩]
def F_armplanref40_MulRange.r9 : List AOper := [
  ⟨(some 40), .bin .lss .no (.tmp 39) (.const (.int .i64 2)), none, []⟩]
def F_armplanref40_MulRange.r10 : List AOper := [
  ⟨(some 41), .idx 2 1 none (.tmp 38) (.tmp 39), none, []⟩,
  ⟨(some 11), .mv (.tmp 41), none, []⟩]
def F_armplanref40_MulRange.r11 : List AOper := [
  ⟨(some 42), .mv (.tmp 9), none, []⟩,
  ⟨(some 43), .mv (.tmp 11), none, []⟩,
  ⟨(some 44), .call (.func n_armplanref40_Times) [(.tmp 42), (.tmp 43)], none, []⟩,
  ⟨(some 12), .alloc T_armplanref40_Wide [(.bool false), (.int .u64 0), (.int .u64 0)], none, []⟩,
  ⟨none, .store 3 (.tmp 12) (.tmp 44), none, []⟩]
def F_armplanref40_MulRange.r12 : List AOper := [
  ⟨(some 46), .load (some 3) (.tmp 12), none, []⟩,
  ⟨(some 47), .call (.func n_armplanref40_Wide_Over) [(.tmp 46), (.const (.int .u64 65536)), (.const (.bool false))], none, []⟩,
  ⟨(some 48), .call (.func n_armplanref40_Wide_Int) [(.tmp 47)], none, []⟩,
  ⟨(some 45), .mv (.tmp 48), none, []⟩,
  ⟨(some 49), .ext (.tmp 45) 0, none, []⟩,
  ⟨(some 50), .ext (.tmp 45) 1, none, []⟩,
  ⟨(some 13), .mv (.tmp 49), none, []⟩,
  ⟨(some 14), .mv (.tmp 50), none, []⟩]
def F_armplanref40_MulRange.r13 : List AOper := [
  ⟨(some 52), .load (some 3) (.tmp 12), none, []⟩,
  ⟨(some 53), .call (.func n_armplanref40_Wide_Over) [(.tmp 52), (.const (.int .u64 65536)), (.const (.bool true))], none, []⟩,
  ⟨(some 54), .call (.func n_armplanref40_Wide_Int) [(.tmp 53)], none, []⟩,
  ⟨(some 51), .mv (.tmp 54), none, []⟩,
  ⟨(some 55), .ext (.tmp 51) 0, none, []⟩,
  ⟨(some 56), .ext (.tmp 51) 1, none, []⟩,
  ⟨(some 15), .mv (.tmp 55), none, []⟩,
  ⟨(some 16), .mv (.tmp 56), none, []⟩]
def F_armplanref40_MulRange.r14 : List AOper := [
  ⟨(some 57), .mv (.tmp 14), none, []⟩,
  ⟨(some 58), .un .not (.tmp 57), none, []⟩,
  ⟨(some 59), .mv (.tmp 58), none, []⟩,
  ⟨(some 60), .mv (.tmp 16), some ((some 59), false), []⟩,
  ⟨(some 61), .un .not (.tmp 60), some ((some 59), false), []⟩,
  ⟨(some 62), .pick (.tmp 59) (.const (.bool true)) (.tmp 61), none, []⟩]
def F_armplanref40_MulRange.r15 : List AOper := [
  ⟨(some 63), .build [(.int .i64 0), (.int .i64 0)] [], none, []⟩,
  ⟨none, .store 2 (.tmp 4) (.tmp 63), none, []⟩,
  ⟨(some 5), .mv (.const (.bool false)), none, []⟩]
def F_armplanref40_MulRange.r16 : List AOper := [
  ⟨(some 64), .mv (.tmp 7), none, []⟩,
  ⟨(some 65), .mv (.tmp 64), none, []⟩,
  ⟨(some 66), .mv (.tmp 13), some ((some 65), false), []⟩,
  ⟨(some 67), .fieldAddr 0 (.tmp 6), some ((some 65), false), []⟩,
  ⟨(some 68), .load none (.tmp 67), some ((some 65), false), []⟩,
  ⟨(some 69), .bin .lss .no (.tmp 66) (.tmp 68), some ((some 65), false), []⟩,
  ⟨(some 70), .pick (.tmp 65) (.const (.bool true)) (.tmp 69), none, []⟩]
def F_armplanref40_MulRange.r17 : List AOper := [
  ⟨(some 71), .mv (.tmp 13), none, []⟩,
  ⟨(some 72), .fieldAddr 0 (.tmp 6), none, []⟩,
  ⟨none, .store 1 (.tmp 72) (.tmp 71), none, []⟩]
def F_armplanref40_MulRange.r18 : List AOper := [
  ⟨(some 73), .mv (.tmp 7), none, []⟩,
  ⟨(some 74), .mv (.tmp 73), none, []⟩,
  ⟨(some 75), .mv (.tmp 15), some ((some 74), false), []⟩,
  ⟨(some 76), .fieldAddr 1 (.tmp 6), some ((some 74), false), []⟩,
  ⟨(some 77), .load none (.tmp 76), some ((some 74), false), []⟩,
  ⟨(some 78), .bin .gtr .no (.tmp 75) (.tmp 77), some ((some 74), false), []⟩,
  ⟨(some 79), .pick (.tmp 74) (.const (.bool true)) (.tmp 78), none, []⟩]
def F_armplanref40_MulRange.r19 : List AOper := [
  ⟨(some 80), .mv (.tmp 15), none, []⟩,
  ⟨(some 81), .fieldAddr 1 (.tmp 6), none, []⟩,
  ⟨none, .store 1 (.tmp 81) (.tmp 80), none, []⟩]
def F_armplanref40_MulRange.r20 : List AOper := [
  ⟨(some 7), .mv (.const (.bool false)), none, []⟩]
def F_armplanref40_MulRange.r21 : List AOper := [
  ⟨(some 82), .bin .add .no (.tmp 39) (.const (.int .i64 1)), none, []⟩,
  ⟨(some 39), .mv (.tmp 82), none, []⟩]
def F_armplanref40_MulRange.l0 : ACode := (.seq (.region F_armplanref40_MulRange.r9) (.seq (.cond (.tmp 40) .skip (.exit 2)) (.seq (.block 3 (.seq (.region F_armplanref40_MulRange.r10) (.seq (.region F_armplanref40_MulRange.r11) (.seq (.region F_armplanref40_MulRange.r12) (.seq (.region F_armplanref40_MulRange.r13) (.seq (.seq (.region F_armplanref40_MulRange.r14) (.cond (.tmp 62) (.seq (.region F_armplanref40_MulRange.r15) .ret) .skip)) (.seq (.seq (.region F_armplanref40_MulRange.r16) (.cond (.tmp 70) (.region F_armplanref40_MulRange.r17) .skip)) (.seq (.seq (.region F_armplanref40_MulRange.r18) (.cond (.tmp 79) (.region F_armplanref40_MulRange.r19) .skip)) (.region F_armplanref40_MulRange.r20))))))))) (.region F_armplanref40_MulRange.r21))))
def F_armplanref40_MulRange.r22 : List AOper := [
  ⟨(some 83), .bin .add .no (.tmp 31) (.const (.int .i64 1)), none, []⟩,
  ⟨(some 31), .mv (.tmp 83), none, []⟩]
def F_armplanref40_MulRange.l1 : ACode := (.seq (.region F_armplanref40_MulRange.r6) (.seq (.cond (.tmp 32) .skip (.exit 0)) (.seq (.block 1 (.seq (.region F_armplanref40_MulRange.r7) (.seq (.region F_armplanref40_MulRange.r8) (.block 2 (.loop F_armplanref40_MulRange.l0))))) (.region F_armplanref40_MulRange.r22))))
def F_armplanref40_MulRange.r23 : List AOper := [
  ⟨(some 84), .load (some 2) (.tmp 6), none, []⟩,
  ⟨(some 85), .call (.func n_armplanref40_Small) [(.tmp 84)], none, []⟩,
  ⟨(some 86), .un .not (.tmp 85), none, []⟩]
def F_armplanref40_MulRange.r24 : List AOper := [
  ⟨(some 87), .build [(.int .i64 0), (.int .i64 0)] [], none, []⟩,
  ⟨none, .store 2 (.tmp 4) (.tmp 87), none, []⟩,
  ⟨(some 5), .mv (.const (.bool false)), none, []⟩]
def F_armplanref40_MulRange.r25 : List AOper := [
  ⟨(some 88), .load (some 2) (.tmp 6), none, []⟩,
  ⟨none, .store 2 (.tmp 4) (.tmp 88), none, []⟩,
  ⟨(some 5), .mv (.const (.bool true)), none, []⟩]
def F_armplanref40_MulRange : AFunc := ⟨(.seq (.region F_armplanref40_MulRange.r0) (.seq (.seq (.region F_armplanref40_MulRange.r1) (.cond (.tmp 24) (.seq (.region F_armplanref40_MulRange.r2) .ret) .skip)) (.seq (.region F_armplanref40_MulRange.r3) (.seq (.region F_armplanref40_MulRange.r4) (.seq (.seq (.region F_armplanref40_MulRange.r5) (.block 0 (.loop F_armplanref40_MulRange.l1))) (.seq (.seq (.region F_armplanref40_MulRange.r23) (.cond (.tmp 86) (.seq (.region F_armplanref40_MulRange.r24) .ret) .skip)) (.seq (.region F_armplanref40_MulRange.r25) .ret))))))),
  [.inr (4, (some 2)), .inl 5]⟩
/-! armplan/config.Inside -/
def F_config_Inside.r0 : List AOper := [
  ⟨(some 2), .box T_api_Robot (.tmp 0), none, []⟩,
  ⟨(some 4), .mv (.const (.bool false)), none, []⟩]
def F_config_Inside.r1 : List AOper := [
  ⟨(some 5), .load (some 2) (.tmp 2), none, []⟩,
  ⟨(some 6), .call (.func n_robot_Check) [(.tmp 5)], none, []⟩,
  ⟨(some 7), .bin .eql .no (.tmp 6) (.const (.int .i64 0)), none, []⟩,
  ⟨(some 8), .mv (.tmp 7), none, []⟩,
  ⟨(some 9), .fieldAddr 0 (.tmp 2), some ((some 8), true), []⟩,
  ⟨(some 10), .load none (.tmp 9), some ((some 8), true), []⟩,
  ⟨(some 11), .mv (.tmp 1), some ((some 8), true), []⟩,
  ⟨(some 12), .call (.func n_config_all_api_Joint_int64) [(.tmp 10), (.tmp 11), (.func n_config_Inside_1)], some ((some 8), true), []⟩,
  ⟨(some 13), .pick (.tmp 8) (.tmp 12) (.const (.bool false)), none, []⟩,
  ⟨(some 4), .mv (.tmp 13), none, []⟩]
def F_config_Inside : AFunc := ⟨(.seq (.region F_config_Inside.r0) (.seq (.region F_config_Inside.r1) .ret)),
  [.inl 4]⟩
/-! armplan/dynamics.turns -/
def F_dynamics_turns.r0 : List AOper := [
  ⟨(some 1), .box T_api_Joint (.tmp 0), none, []⟩,
  ⟨(some 2), .mv (.const (.bool false)), none, []⟩]
def F_dynamics_turns.r1 : List AOper := [
  ⟨(some 3), .fieldAddr 1 (.tmp 1), none, []⟩,
  ⟨(some 4), .load none (.tmp 3), none, []⟩,
  ⟨(some 5), .bin .geq .no (.tmp 4) (.const (.int .i64 1)), none, []⟩,
  ⟨(some 6), .mv (.tmp 5), none, []⟩,
  ⟨(some 7), .fieldAddr 1 (.tmp 1), some ((some 6), true), []⟩,
  ⟨(some 8), .load none (.tmp 7), some ((some 6), true), []⟩,
  ⟨(some 9), .bin .leq .no (.tmp 8) (.const (.int .i64 3)), some ((some 6), true), []⟩,
  ⟨(some 10), .pick (.tmp 6) (.tmp 9) (.const (.bool false)), none, []⟩,
  ⟨(some 2), .mv (.tmp 10), none, []⟩]
def F_dynamics_turns : AFunc := ⟨(.seq (.region F_dynamics_turns.r0) (.seq (.region F_dynamics_turns.r1) .ret)),
  [.inl 2]⟩
/-! armplan/config.straight -/
def F_config_straight.r0 : List AOper := [
  ⟨(some 6), .mv (.const (.bool false)), none, []⟩]
def F_config_straight.r1 : List AOper := [
  ⟨(some 7), .mv (.tmp 0), none, []⟩,
  ⟨(some 8), .call (.func n_config_small) [(.tmp 7)], none, []⟩,
  ⟨(some 9), .mv (.tmp 8), none, []⟩,
  ⟨(some 10), .mv (.tmp 1), some ((some 9), true), []⟩,
  ⟨(some 11), .call (.func n_config_small) [(.tmp 10)], some ((some 9), true), []⟩,
  ⟨(some 12), .pick (.tmp 9) (.tmp 11) (.const (.bool false)), none, []⟩,
  ⟨(some 13), .mv (.tmp 12), none, []⟩,
  ⟨(some 14), .mv (.tmp 0), some ((some 13), true), []⟩,
  ⟨(some 15), .lenO false (.tmp 14), some ((some 13), true), []⟩,
  ⟨(some 16), .mv (.tmp 1), some ((some 13), true), []⟩,
  ⟨(some 17), .lenO false (.tmp 16), some ((some 13), true), []⟩,
  ⟨(some 18), .bin .eql .no (.tmp 15) (.tmp 17), some ((some 13), true), []⟩,
  ⟨(some 19), .pick (.tmp 13) (.tmp 18) (.const (.bool false)), none, []⟩,
  ⟨(some 20), .mv (.tmp 19), none, []⟩,
  ⟨(some 21), .mv (.tmp 2), some ((some 20), true), []⟩,
  ⟨(some 22), .bin .geq .no (.tmp 21) (.const (.int .i64 0)), some ((some 20), true), []⟩,
  ⟨(some 23), .pick (.tmp 20) (.tmp 22) (.const (.bool false)), none, []⟩,
  ⟨(some 24), .mv (.tmp 23), none, []⟩,
  ⟨(some 25), .mv (.tmp 2), some ((some 24), true), []⟩,
  ⟨(some 26), .bin .leq .no (.tmp 25) (.const (.int .i64 20)), some ((some 24), true), []⟩,
  ⟨(some 27), .pick (.tmp 24) (.tmp 26) (.const (.bool false)), none, []⟩,
  ⟨(some 6), .mv (.tmp 27), none, []⟩]
def F_config_straight : AFunc := ⟨(.seq (.region F_config_straight.r0) (.seq (.region F_config_straight.r1) .ret)),
  [.inl 6]⟩
/-! armplan/config.InsideBox -/
def F_config_InsideBox.r0 : List AOper := [
  ⟨(some 2), .box T_api_Robot (.tmp 0), none, []⟩,
  ⟨(some 4), .mv (.const (.bool false)), none, []⟩]
def F_config_InsideBox.r1 : List AOper := [
  ⟨(some 5), .load (some 2) (.tmp 2), none, []⟩,
  ⟨(some 6), .call (.func n_robot_Check) [(.tmp 5)], none, []⟩,
  ⟨(some 7), .bin .eql .no (.tmp 6) (.const (.int .i64 0)), none, []⟩,
  ⟨(some 8), .mv (.tmp 7), none, []⟩,
  ⟨(some 9), .fieldAddr 0 (.tmp 2), some ((some 8), true), []⟩,
  ⟨(some 10), .load none (.tmp 9), some ((some 8), true), []⟩,
  ⟨(some 11), .mv (.tmp 1), some ((some 8), true), []⟩,
  ⟨(some 12), .call (.func n_config_all_api_Joint_api_Interval) [(.tmp 10), (.tmp 11), (.func n_config_InsideBox_1)], some ((some 8), true), []⟩,
  ⟨(some 13), .pick (.tmp 8) (.tmp 12) (.const (.bool false)), none, []⟩,
  ⟨(some 4), .mv (.tmp 13), none, []⟩]
def F_config_InsideBox : AFunc := ⟨(.seq (.region F_config_InsideBox.r0) (.seq (.region F_config_InsideBox.r1) .ret)),
  [.inl 4]⟩
/-! armplan/kinematics.Links -/
def F_kinematics_Links.r0 : List AOper := [
  ⟨(some 2), .box T_api_Robot (.tmp 0), none, []⟩,
  ⟨(some 4), .mv (.const (.slice none 0 0)), none, []⟩]
def F_kinematics_Links.r1 : List AOper := [
  ⟨(some 7), .load (some 2) (.tmp 2), none, []⟩,
  ⟨(some 8), .call (.func n_robot_Check) [(.tmp 7)], none, []⟩,
  ⟨(some 9), .bin .neq .no (.tmp 8) (.const (.int .i64 0)), none, []⟩,
  ⟨(some 10), .mv (.tmp 9), none, []⟩,
  ⟨(some 11), .load (some 2) (.tmp 2), some ((some 10), false), []⟩,
  ⟨(some 12), .mv (.tmp 1), some ((some 10), false), []⟩,
  ⟨(some 13), .call (.func n_kinematics_isBox) [(.tmp 11), (.tmp 12)], some ((some 10), false), []⟩,
  ⟨(some 14), .un .not (.tmp 13), some ((some 10), false), []⟩,
  ⟨(some 15), .pick (.tmp 10) (.const (.bool true)) (.tmp 14), none, []⟩]
def F_kinematics_Links.r2 : List AOper := [
  ⟨(some 4), .mv (.const (.slice none 0 0)), none, []⟩]
def F_kinematics_Links.r3 : List AOper := [
  ⟨(some 16), .load (some 2) (.tmp 2), none, []⟩,
  ⟨(some 17), .mv (.tmp 1), none, []⟩,
  ⟨(some 18), .build [(.slice none 0 0), (.slice none 0 0), (.slice none 0 0), (.slice none 0 0)] [(0, 2, (.tmp 16)), (2, 1, (.tmp 17))], none, []⟩,
  ⟨(some 5), .alloc T_kinematics_tree [(.slice none 0 0), (.slice none 0 0), (.slice none 0 0), (.slice none 0 0)], none, []⟩,
  ⟨none, .store 4 (.tmp 5) (.tmp 18), none, []⟩]
def F_kinematics_Links.r4 : List AOper := [
  ⟨(some 19), .mkF n_kinematics_tree_add [(.tmp 5)] [], none, []⟩,
  ⟨(some 6), .mv (.tmp 19), none, []⟩]
def F_kinematics_Links.r5 : List AOper := [
  ⟨(some 20), .fieldAddr 0 (.tmp 2), none, []⟩,
  ⟨(some 21), .load none (.tmp 20), none, []⟩,
  ⟨(some 22), .lenO false (.tmp 21), none, []⟩,
  ⟨(some 23), .mv (.const (.int .i64 0)), none, []⟩]
def F_kinematics_Links.r6 : List AOper := [
  ⟨(some 24), .bin .lss .no (.tmp 23) (.tmp 22), none, []⟩]
def F_kinematics_Links.r7 : List AOper := [
  ⟨(some 25), .mv (.tmp 6), none, []⟩,
  ⟨(some 26), .call (.tmp 25) [], none, []⟩]
def F_kinematics_Links.r8 : List AOper := [
  ⟨(some 27), .bin .add .no (.tmp 23) (.const (.int .i64 1)), none, []⟩,
  ⟨(some 23), .mv (.tmp 27), none, []⟩]
def F_kinematics_Links.l0 : ACode := (.seq (.region F_kinematics_Links.r6) (.seq (.cond (.tmp 24) .skip (.exit 0)) (.seq (.block 1 (.region F_kinematics_Links.r7)) (.region F_kinematics_Links.r8))))
def F_kinematics_Links.r9 : List AOper := [
  ⟨(some 28), .fieldAddr 3 (.tmp 5), none, []⟩,
  ⟨(some 29), .load none (.tmp 28), none, []⟩,
  ⟨(some 4), .mv (.tmp 29), none, []⟩]
def F_kinematics_Links : AFunc := ⟨(.seq (.region F_kinematics_Links.r0) (.seq (.seq (.region F_kinematics_Links.r1) (.cond (.tmp 15) (.seq (.region F_kinematics_Links.r2) .ret) .skip)) (.seq (.region F_kinematics_Links.r3) (.seq (.region F_kinematics_Links.r4) (.seq (.seq (.region F_kinematics_Links.r5) (.block 0 (.loop F_kinematics_Links.l0))) (.seq (.region F_kinematics_Links.r9) .ret)))))),
  [.inl 4]⟩
/-! armplan/dynamics.ranges -/
def F_dynamics_ranges.r0 : List AOper := [
  ⟨(some 1), .box T_api_IVec (.tmp 0), none, []⟩,
  ⟨(some 2), .alloc T_dynamics_vector [(.int .i64 0), (.int .i64 0), (.int .i64 0), (.int .i64 0), (.int .i64 0), (.int .i64 0)], none, []⟩]
def F_dynamics_ranges.r1 : List AOper := [
  ⟨(some 3), .alloc T_dynamics_vector [(.int .i64 0), (.int .i64 0), (.int .i64 0), (.int .i64 0), (.int .i64 0), (.int .i64 0)], none, []⟩]
def F_dynamics_ranges.r2 : List AOper := [
  ⟨(some 6), .load (some 6) (.tmp 1), none, []⟩,
  ⟨(some 7), .mv (.const (.int .i64 0)), none, []⟩]
def F_dynamics_ranges.r3 : List AOper := [
  ⟨(some 8), .bin .lss .no (.tmp 7) (.const (.int .i64 3)), none, []⟩]
def F_dynamics_ranges.r4 : List AOper := [
  ⟨(some 9), .mv (.tmp 7), none, []⟩,
  ⟨(some 10), .idx 3 2 (some 2) (.tmp 6) (.tmp 7), none, []⟩,
  ⟨(some 5), .alloc T_api_Interval [(.int .i64 0), (.int .i64 0)], none, []⟩,
  ⟨(some 4), .mv (.tmp 9), none, []⟩,
  ⟨none, .store 2 (.tmp 5) (.tmp 10), none, []⟩]
def F_dynamics_ranges.r5 : List AOper := [
  ⟨(some 11), .mv (.tmp 4), none, []⟩,
  ⟨(some 12), .load (some 2) (.tmp 5), none, []⟩,
  ⟨(some 13), .idxAddr (some 3) 2 (.tmp 3) (.tmp 11), none, []⟩,
  ⟨none, .store 2 (.tmp 13) (.tmp 12), none, []⟩]
def F_dynamics_ranges.r6 : List AOper := [
  ⟨(some 14), .bin .add .no (.tmp 7) (.const (.int .i64 1)), none, []⟩,
  ⟨(some 7), .mv (.tmp 14), none, []⟩]
def F_dynamics_ranges.l0 : ACode := (.seq (.region F_dynamics_ranges.r3) (.seq (.cond (.tmp 8) .skip (.exit 0)) (.seq (.block 1 (.seq (.region F_dynamics_ranges.r4) (.region F_dynamics_ranges.r5))) (.region F_dynamics_ranges.r6))))
def F_dynamics_ranges.r7 : List AOper := [
  ⟨(some 15), .load (some 6) (.tmp 3), none, []⟩,
  ⟨none, .store 6 (.tmp 2) (.tmp 15), none, []⟩]
def F_dynamics_ranges : AFunc := ⟨(.seq (.region F_dynamics_ranges.r0) (.seq (.region F_dynamics_ranges.r1) (.seq (.seq (.region F_dynamics_ranges.r2) (.block 0 (.loop F_dynamics_ranges.l0))) (.seq (.region F_dynamics_ranges.r7) .ret)))),
  [.inr (2, (some 6))]⟩
/-! armplan/pose.Apply -/
def F_pose_Apply.r0 : List AOper := [
  ⟨(some 2), .box T_api_Pose (.tmp 0), none, []⟩,
  ⟨(some 3), .box T_api_IVec (.tmp 1), none, []⟩,
  ⟨(some 4), .alloc T_api_IVec [(.int .i64 0), (.int .i64 0), (.int .i64 0), (.int .i64 0), (.int .i64 0), (.int .i64 0)], none, []⟩]
def F_pose_Apply.r1 : List AOper := [
  ⟨(some 6), .load (some 24) (.tmp 2), none, []⟩,
  ⟨(some 7), .call (.func n_pose_motion) [(.tmp 6)], none, []⟩,
  ⟨(some 5), .mv (.tmp 7), none, []⟩]
def F_pose_Apply.r2 : List AOper := [
  ⟨(some 8), .mv (.tmp 5), none, []⟩,
  ⟨(some 9), .load (some 6) (.tmp 3), none, []⟩,
  ⟨(some 10), .call (.tmp 8) [(.tmp 9)], none, []⟩,
  ⟨none, .store 6 (.tmp 4) (.tmp 10), none, []⟩]
def F_pose_Apply : AFunc := ⟨(.seq (.region F_pose_Apply.r0) (.seq (.region F_pose_Apply.r1) (.seq (.region F_pose_Apply.r2) .ret))),
  [.inr (4, (some 6))]⟩
/-! armplan/matrix.Point -/
def F_matrix_Point.r0 : List AOper := [
  ⟨(some 1), .box T_api_Vec (.tmp 0), none, []⟩,
  ⟨(some 2), .alloc T_api_IVec [(.int .i64 0), (.int .i64 0), (.int .i64 0), (.int .i64 0), (.int .i64 0), (.int .i64 0)], none, []⟩]
def F_matrix_Point.r1 : List AOper := [
  ⟨(some 3), .alloc T_api_IVec [(.int .i64 0), (.int .i64 0), (.int .i64 0), (.int .i64 0), (.int .i64 0), (.int .i64 0)], none, []⟩]
def F_matrix_Point.r2 : List AOper := [
  ⟨(some 5), .mv (.const (.int .i64 0)), none, []⟩]
def F_matrix_Point.r3 : List AOper := [
  ⟨(some 6), .bin .lss .no (.tmp 5) (.const (.int .i64 3)), none, []⟩]
def F_matrix_Point.r4 : List AOper := [
  ⟨(some 7), .mv (.tmp 5), none, []⟩,
  ⟨(some 4), .mv (.tmp 7), none, []⟩]
def F_matrix_Point.r5 : List AOper := [
  ⟨(some 8), .mv (.tmp 4), none, []⟩,
  ⟨(some 9), .mv (.tmp 4), none, []⟩,
  ⟨(some 10), .idxAddr (some 3) 1 (.tmp 1) (.tmp 9), none, []⟩,
  ⟨(some 11), .load none (.tmp 10), none, []⟩,
  ⟨(some 12), .call (.func n_interval_Of) [(.tmp 11)], none, []⟩,
  ⟨(some 13), .idxAddr (some 3) 2 (.tmp 3) (.tmp 8), none, []⟩,
  ⟨none, .store 2 (.tmp 13) (.tmp 12), none, []⟩]
def F_matrix_Point.r6 : List AOper := [
  ⟨(some 14), .bin .add .no (.tmp 5) (.const (.int .i64 1)), none, []⟩,
  ⟨(some 5), .mv (.tmp 14), none, []⟩]
def F_matrix_Point.l0 : ACode := (.seq (.region F_matrix_Point.r3) (.seq (.cond (.tmp 6) .skip (.exit 0)) (.seq (.block 1 (.seq (.region F_matrix_Point.r4) (.region F_matrix_Point.r5))) (.region F_matrix_Point.r6))))
def F_matrix_Point.r7 : List AOper := [
  ⟨(some 15), .load (some 6) (.tmp 3), none, []⟩,
  ⟨none, .store 6 (.tmp 2) (.tmp 15), none, []⟩]
def F_matrix_Point : AFunc := ⟨(.seq (.region F_matrix_Point.r0) (.seq (.region F_matrix_Point.r1) (.seq (.seq (.region F_matrix_Point.r2) (.block 0 (.loop F_matrix_Point.l0))) (.seq (.region F_matrix_Point.r7) .ret)))),
  [.inr (2, (some 6))]⟩
/-! armplan/robot.Chain -/
def F_robot_Chain.r0 : List AOper := [
  ⟨(some 2), .box T_api_Robot (.tmp 0), none, []⟩,
  ⟨(some 4), .mv (.const (.slice none 0 0)), none, []⟩]
def F_robot_Chain.r1 : List AOper := [
  ⟨(some 6), .load (some 2) (.tmp 2), none, []⟩,
  ⟨(some 7), .mv (.tmp 1), none, []⟩,
  ⟨(some 8), .call (.func n_robot_isLink) [(.tmp 6), (.tmp 7)], none, []⟩,
  ⟨(some 9), .un .not (.tmp 8), none, []⟩]
def F_robot_Chain.r2 : List AOper := [
  ⟨(some 4), .mv (.const (.slice none 0 0)), none, []⟩]
def F_robot_Chain.r3 : List AOper := [
  ⟨(some 5), .mv (.const (.slice none 0 0)), none, []⟩]
def F_robot_Chain.r4 : List AOper := [
  ⟨(some 10), .mv (.tmp 1), none, []⟩,
  ⟨(some 11), .bin .neq .no (.tmp 10) (.const (.int .i64 (-1))), none, []⟩]
def F_robot_Chain.r5 : List AOper := [
  ⟨(some 12), .mv (.tmp 5), none, []⟩,
  ⟨(some 13), .buildSlice T_int [(.int .i64 0)] 1 [(0, 1, (.const (.int .i64 0)))], none, []⟩,
  ⟨(some 14), .append T_int 1 8 (.tmp 12) (.tmp 13), none, []⟩,
  ⟨(some 5), .mv (.tmp 14), none, []⟩]
def F_robot_Chain.r6 : List AOper := [
  ⟨(some 15), .mv (.tmp 5), none, []⟩,
  ⟨(some 16), .slc 1 (.tmp 15) (some (.const (.int .i64 1))) none, none, []⟩,
  ⟨(some 17), .mv (.tmp 5), none, []⟩,
  ⟨(some 18), .copy 1 (.tmp 16) (.tmp 17), none, []⟩]
def F_robot_Chain.r7 : List AOper := [
  ⟨(some 19), .mv (.tmp 5), none, []⟩,
  ⟨(some 20), .mv (.tmp 1), none, []⟩,
  ⟨(some 21), .idxAddr none 1 (.tmp 19) (.const (.int .i64 0)), none, []⟩,
  ⟨none, .store 1 (.tmp 21) (.tmp 20), none, []⟩]
def F_robot_Chain.r8 : List AOper := [
  ⟨(some 22), .fieldAddr 0 (.tmp 2), none, []⟩,
  ⟨(some 23), .load none (.tmp 22), none, []⟩,
  ⟨(some 24), .mv (.tmp 1), none, []⟩,
  ⟨(some 25), .idxAddr none 12 (.tmp 23) (.tmp 24), none, []⟩,
  ⟨(some 26), .fieldAddr 2 (.tmp 25), none, []⟩,
  ⟨(some 27), .load none (.tmp 26), none, []⟩,
  ⟨(some 1), .mv (.tmp 27), none, []⟩]
def F_robot_Chain.l0 : ACode := (.seq (.seq (.region F_robot_Chain.r4) (.cond (.tmp 11) .skip (.exit 0))) (.block 1 (.seq (.region F_robot_Chain.r5) (.seq (.region F_robot_Chain.r6) (.seq (.region F_robot_Chain.r7) (.region F_robot_Chain.r8))))))
def F_robot_Chain.r9 : List AOper := [
  ⟨(some 28), .mv (.tmp 5), none, []⟩,
  ⟨(some 4), .mv (.tmp 28), none, []⟩]
def F_robot_Chain : AFunc := ⟨(.seq (.region F_robot_Chain.r0) (.seq (.seq (.region F_robot_Chain.r1) (.cond (.tmp 9) (.seq (.region F_robot_Chain.r2) .ret) .skip)) (.seq (.region F_robot_Chain.r3) (.seq (.block 0 (.loop F_robot_Chain.l0)) (.seq (.region F_robot_Chain.r9) .ret))))),
  [.inl 4]⟩
/-! armplan/dynamics.axis -/
def F_dynamics_axis.r0 : List AOper := [
  ⟨(some 2), .box T_api_Joint (.tmp 0), none, []⟩,
  ⟨(some 3), .box T_api_Pose (.tmp 1), none, []⟩,
  ⟨(some 4), .alloc T_dynamics_vector [(.int .i64 0), (.int .i64 0), (.int .i64 0), (.int .i64 0), (.int .i64 0), (.int .i64 0)], none, []⟩]
def F_dynamics_axis.r1 : List AOper := [
  ⟨(some 6), .fieldAddr 1 (.tmp 2), none, []⟩,
  ⟨(some 7), .load none (.tmp 6), none, []⟩,
  ⟨(some 8), .bin .sub .no (.tmp 7) (.const (.int .i64 1)), none, []⟩,
  ⟨(some 5), .mv (.tmp 8), none, []⟩]
def F_dynamics_axis.r2 : List AOper := [
  ⟨(some 9), .fieldAddr 1 (.tmp 2), none, []⟩,
  ⟨(some 10), .load none (.tmp 9), none, []⟩,
  ⟨(some 11), .bin .geq .no (.tmp 10) (.const (.int .i64 4)), none, []⟩]
def F_dynamics_axis.r3 : List AOper := [
  ⟨(some 12), .fieldAddr 1 (.tmp 2), none, []⟩,
  ⟨(some 13), .load none (.tmp 12), none, []⟩,
  ⟨(some 14), .bin .sub .no (.tmp 13) (.const (.int .i64 4)), none, []⟩,
  ⟨(some 5), .mv (.tmp 14), none, []⟩]
def F_dynamics_axis.r4 : List AOper := [
  ⟨(some 15), .mv (.tmp 5), none, []⟩,
  ⟨(some 16), .fieldAddr 0 (.tmp 3), none, []⟩,
  ⟨(some 17), .idxAddr (some 3) 6 (.tmp 16) (.const (.int .i64 0)), none, []⟩,
  ⟨(some 18), .idxAddr (some 3) 2 (.tmp 17) (.tmp 15), none, []⟩,
  ⟨(some 19), .load (some 2) (.tmp 18), none, []⟩,
  ⟨(some 20), .mv (.tmp 5), none, []⟩,
  ⟨(some 21), .fieldAddr 0 (.tmp 3), none, []⟩,
  ⟨(some 22), .idxAddr (some 3) 6 (.tmp 21) (.const (.int .i64 1)), none, []⟩,
  ⟨(some 23), .idxAddr (some 3) 2 (.tmp 22) (.tmp 20), none, []⟩,
  ⟨(some 24), .load (some 2) (.tmp 23), none, []⟩,
  ⟨(some 25), .mv (.tmp 5), none, []⟩,
  ⟨(some 26), .fieldAddr 0 (.tmp 3), none, []⟩,
  ⟨(some 27), .idxAddr (some 3) 6 (.tmp 26) (.const (.int .i64 2)), none, []⟩,
  ⟨(some 28), .idxAddr (some 3) 2 (.tmp 27) (.tmp 25), none, []⟩,
  ⟨(some 29), .load (some 2) (.tmp 28), none, []⟩,
  ⟨(some 30), .build [(.int .i64 0), (.int .i64 0), (.int .i64 0), (.int .i64 0), (.int .i64 0), (.int .i64 0)] [(0, 2, (.tmp 19)), (2, 2, (.tmp 24)), (4, 2, (.tmp 29))], none, []⟩,
  ⟨(some 31), .call (.func n_dynamics_ranges) [(.tmp 30)], none, []⟩,
  ⟨none, .store 6 (.tmp 4) (.tmp 31), none, []⟩]
def F_dynamics_axis : AFunc := ⟨(.seq (.region F_dynamics_axis.r0) (.seq (.region F_dynamics_axis.r1) (.seq (.seq (.region F_dynamics_axis.r2) (.cond (.tmp 11) (.region F_dynamics_axis.r3) .skip)) (.seq (.dregion F_dynamics_axis.r4) .ret)))),
  [.inr (4, (some 6))]⟩
/-! armplan/dynamics.negated -/
def F_dynamics_negated.r0 : List AOper := [
  ⟨(some 1), .box T_api_Range (.tmp 0), none, []⟩,
  ⟨(some 2), .alloc T_api_Range [(.int .i64 0), (.int .i64 0)], none, []⟩]
def F_dynamics_negated.r1 : List AOper := [
  ⟨(some 3), .fieldAddr 1 (.tmp 1), none, []⟩,
  ⟨(some 4), .load none (.tmp 3), none, []⟩,
  ⟨(some 5), .un .neg (.tmp 4), none, []⟩,
  ⟨(some 6), .fieldAddr 0 (.tmp 1), none, []⟩,
  ⟨(some 7), .load none (.tmp 6), none, []⟩,
  ⟨(some 8), .un .neg (.tmp 7), none, []⟩,
  ⟨(some 9), .build [(.int .i64 0), (.int .i64 0)] [(0, 1, (.tmp 5)), (1, 1, (.tmp 8))], none, []⟩,
  ⟨none, .store 2 (.tmp 2) (.tmp 9), none, []⟩]
def F_dynamics_negated : AFunc := ⟨(.seq (.region F_dynamics_negated.r0) (.seq (.region F_dynamics_negated.r1) .ret)),
  [.inr (2, (some 2))]⟩
/-! (*armplan/dynamics.calculator).cross -/
def F_dynamics_calculator_cross.r0 : List AOper := [
  ⟨(some 4), .box T_dynamics_vector (.tmp 1), none, []⟩,
  ⟨(some 5), .box T_dynamics_vector (.tmp 2), none, []⟩,
  ⟨(some 6), .alloc T_dynamics_vector [(.int .i64 0), (.int .i64 0), (.int .i64 0), (.int .i64 0), (.int .i64 0), (.int .i64 0)], none, []⟩]
def F_dynamics_calculator_cross.r1 : List AOper := [
  ⟨(some 7), .alloc T_dynamics_vector [(.int .i64 0), (.int .i64 0), (.int .i64 0), (.int .i64 0), (.int .i64 0), (.int .i64 0)], none, []⟩]
def F_dynamics_calculator_cross.r2 : List AOper := [
  ⟨(some 11), .mv (.const (.int .i64 0)), none, []⟩]
def F_dynamics_calculator_cross.r3 : List AOper := [
  ⟨(some 12), .bin .lss .no (.tmp 11) (.const (.int .i64 3)), none, []⟩]
def F_dynamics_calculator_cross.r4 : List AOper := [
  ⟨(some 13), .mv (.tmp 11), none, []⟩,
  ⟨(some 8), .mv (.tmp 13), none, []⟩]
def F_dynamics_calculator_cross.r5 : List AOper := [
  ⟨(some 14), .mv (.tmp 8), none, []⟩,
  ⟨(some 15), .bin .add .no (.tmp 14) (.const (.int .i64 1)), none, []⟩,
  ⟨(some 16), .bin .rem .no (.tmp 15) (.const (.int .i64 3)), none, []⟩,
  ⟨(some 17), .mv (.tmp 8), none, []⟩,
  ⟨(some 18), .bin .add .no (.tmp 17) (.const (.int .i64 2)), none, []⟩,
  ⟨(some 19), .bin .rem .no (.tmp 18) (.const (.int .i64 3)), none, []⟩,
  ⟨(some 9), .mv (.tmp 16), none, []⟩,
  ⟨(some 10), .mv (.tmp 19), none, []⟩]
def F_dynamics_calculator_cross.r6 : List AOper := [
  ⟨(some 20), .mv (.tmp 8), none, []⟩,
  ⟨(some 21), .mv (.tmp 0), none, []⟩,
  ⟨(some 22), .mv (.tmp 0), none, []⟩,
  ⟨(some 23), .mv (.tmp 9), none, []⟩,
  ⟨(some 24), .idxAddr (some 3) 2 (.tmp 4) (.tmp 23), none, []⟩,
  ⟨(some 25), .load (some 2) (.tmp 24), none, []⟩,
  ⟨(some 26), .mv (.tmp 10), none, []⟩,
  ⟨(some 27), .idxAddr (some 3) 2 (.tmp 5) (.tmp 26), none, []⟩,
  ⟨(some 28), .load (some 2) (.tmp 27), none, []⟩,
  ⟨(some 29), .call (.func n_dynamics_calculator_mul) [(.tmp 22), (.tmp 25), (.tmp 28)], none, []⟩,
  ⟨(some 30), .mv (.tmp 0), none, []⟩,
  ⟨(some 31), .mv (.tmp 10), none, []⟩,
  ⟨(some 32), .idxAddr (some 3) 2 (.tmp 4) (.tmp 31), none, []⟩,
  ⟨(some 33), .load (some 2) (.tmp 32), none, [9]⟩,
  ⟨(some 34), .mv (.tmp 9), none, []⟩,
  ⟨(some 35), .idxAddr (some 3) 2 (.tmp 5) (.tmp 34), none, []⟩,
  ⟨(some 36), .load (some 2) (.tmp 35), none, [9]⟩,
  ⟨(some 37), .call (.func n_dynamics_calculator_mul) [(.tmp 30), (.tmp 33), (.tmp 36)], none, []⟩,
  ⟨(some 38), .call (.func n_dynamics_negated) [(.tmp 37)], none, []⟩,
  ⟨(some 39), .call (.func n_dynamics_calculator_add) [(.tmp 21), (.tmp 29), (.tmp 38)], none, []⟩,
  ⟨(some 40), .idxAddr (some 3) 2 (.tmp 7) (.tmp 20), none, []⟩,
  ⟨none, .store 2 (.tmp 40) (.tmp 39), none, []⟩]
def F_dynamics_calculator_cross.r7 : List AOper := [
  ⟨(some 41), .bin .add .no (.tmp 11) (.const (.int .i64 1)), none, []⟩,
  ⟨(some 11), .mv (.tmp 41), none, []⟩]
def F_dynamics_calculator_cross.l0 : ACode := (.seq (.region F_dynamics_calculator_cross.r3) (.seq (.cond (.tmp 12) .skip (.exit 0)) (.seq (.block 1 (.seq (.region F_dynamics_calculator_cross.r4) (.seq (.region F_dynamics_calculator_cross.r5) (.dregion F_dynamics_calculator_cross.r6)))) (.region F_dynamics_calculator_cross.r7))))
def F_dynamics_calculator_cross.r8 : List AOper := [
  ⟨(some 42), .load (some 6) (.tmp 7), none, []⟩,
  ⟨none, .store 6 (.tmp 6) (.tmp 42), none, []⟩]
def F_dynamics_calculator_cross : AFunc := ⟨(.seq (.region F_dynamics_calculator_cross.r0) (.seq (.region F_dynamics_calculator_cross.r1) (.seq (.seq (.region F_dynamics_calculator_cross.r2) (.block 0 (.loop F_dynamics_calculator_cross.l0))) (.seq (.region F_dynamics_calculator_cross.r8) .ret)))),
  [.inr (6, (some 6))]⟩
/-! (*armplan/dynamics.calculator).plus -/
def F_dynamics_calculator_plus.r0 : List AOper := [
  ⟨(some 5), .box T_dynamics_vector (.tmp 1), none, []⟩,
  ⟨(some 6), .box T_dynamics_vector (.tmp 2), none, []⟩,
  ⟨(some 7), .box T_api_Range (.tmp 3), none, []⟩,
  ⟨(some 8), .alloc T_dynamics_vector [(.int .i64 0), (.int .i64 0), (.int .i64 0), (.int .i64 0), (.int .i64 0), (.int .i64 0)], none, []⟩]
def F_dynamics_calculator_plus.r1 : List AOper := [
  ⟨(some 10), .mv (.const (.int .i64 0)), none, []⟩]
def F_dynamics_calculator_plus.r2 : List AOper := [
  ⟨(some 11), .bin .lss .no (.tmp 10) (.const (.int .i64 3)), none, []⟩]
def F_dynamics_calculator_plus.r3 : List AOper := [
  ⟨(some 12), .mv (.tmp 10), none, []⟩,
  ⟨(some 9), .mv (.tmp 12), none, []⟩]
def F_dynamics_calculator_plus.r4 : List AOper := [
  ⟨(some 13), .mv (.tmp 9), none, []⟩,
  ⟨(some 14), .mv (.tmp 0), none, []⟩,
  ⟨(some 15), .mv (.tmp 9), none, []⟩,
  ⟨(some 16), .idxAddr (some 3) 2 (.tmp 5) (.tmp 15), none, []⟩,
  ⟨(some 17), .load (some 2) (.tmp 16), none, [10]⟩,
  ⟨(some 18), .mv (.tmp 0), none, []⟩,
  ⟨(some 19), .mv (.tmp 9), none, []⟩,
  ⟨(some 20), .idxAddr (some 3) 2 (.tmp 6) (.tmp 19), none, []⟩,
  ⟨(some 21), .load (some 2) (.tmp 20), none, []⟩,
  ⟨(some 22), .load (some 2) (.tmp 7), none, []⟩,
  ⟨(some 23), .call (.func n_dynamics_calculator_mul) [(.tmp 18), (.tmp 21), (.tmp 22)], none, []⟩,
  ⟨(some 24), .call (.func n_dynamics_calculator_add) [(.tmp 14), (.tmp 17), (.tmp 23)], none, []⟩,
  ⟨(some 25), .idxAddr (some 3) 2 (.tmp 5) (.tmp 13), none, []⟩,
  ⟨none, .store 2 (.tmp 25) (.tmp 24), none, []⟩]
def F_dynamics_calculator_plus.r5 : List AOper := [
  ⟨(some 26), .bin .add .no (.tmp 10) (.const (.int .i64 1)), none, []⟩,
  ⟨(some 10), .mv (.tmp 26), none, []⟩]
def F_dynamics_calculator_plus.l0 : ACode := (.seq (.region F_dynamics_calculator_plus.r2) (.seq (.cond (.tmp 11) .skip (.exit 0)) (.seq (.block 1 (.seq (.region F_dynamics_calculator_plus.r3) (.dregion F_dynamics_calculator_plus.r4))) (.region F_dynamics_calculator_plus.r5))))
def F_dynamics_calculator_plus.r6 : List AOper := [
  ⟨(some 27), .load (some 6) (.tmp 5), none, []⟩,
  ⟨none, .store 6 (.tmp 8) (.tmp 27), none, []⟩]
def F_dynamics_calculator_plus : AFunc := ⟨(.seq (.region F_dynamics_calculator_plus.r0) (.seq (.seq (.region F_dynamics_calculator_plus.r1) (.block 0 (.loop F_dynamics_calculator_plus.l0))) (.seq (.region F_dynamics_calculator_plus.r6) .ret))),
  [.inr (8, (some 6))]⟩
/-! (*armplan/dynamics.calculator).mul -/
def F_dynamics_calculator_mul.r0 : List AOper := [
  ⟨(some 4), .box T_api_Range (.tmp 1), none, []⟩,
  ⟨(some 5), .box T_api_Range (.tmp 2), none, []⟩,
  ⟨(some 6), .alloc T_api_Range [(.int .i64 0), (.int .i64 0)], none, []⟩]
def F_dynamics_calculator_mul.r1 : List AOper := [
  ⟨(some 7), .mv (.tmp 0), none, []⟩,
  ⟨(some 8), .load (some 2) (.tmp 4), none, []⟩,
  ⟨(some 9), .load (some 2) (.tmp 5), none, []⟩,
  ⟨(some 10), .call (.func n_dynamics_Mul) [(.tmp 8), (.tmp 9)], none, []⟩,
  ⟨(some 11), .ext (.tmp 10) 0, none, []⟩,
  ⟨(some 12), .ext (.tmp 10) 1, none, []⟩,
  ⟨(some 13), .call (.func n_dynamics_calculator_keep) [(.tmp 7), (.tmp 11), (.tmp 12)], none, []⟩,
  ⟨none, .store 2 (.tmp 6) (.tmp 13), none, []⟩]
def F_dynamics_calculator_mul : AFunc := ⟨(.seq (.region F_dynamics_calculator_mul.r0) (.seq (.region F_dynamics_calculator_mul.r1) .ret)),
  [.inr (6, (some 2))]⟩
/-! (*armplan/dynamics.calculator).keep -/
def F_dynamics_calculator_keep.r0 : List AOper := [
  ⟨(some 4), .box T_api_Range (.tmp 1), none, []⟩,
  ⟨(some 6), .alloc T_api_Range [(.int .i64 0), (.int .i64 0)], none, []⟩]
def F_dynamics_calculator_keep.r1 : List AOper := [
  ⟨(some 7), .mv (.tmp 0), none, []⟩,
  ⟨(some 8), .mv (.tmp 0), none, []⟩,
  ⟨(some 9), .nilCheck (.tmp 8), none, []⟩,
  ⟨(some 10), .fieldAddr 0 (.tmp 9), none, []⟩,
  ⟨(some 11), .load none (.tmp 10), none, []⟩,
  ⟨(some 12), .mv (.tmp 11), none, []⟩,
  ⟨(some 13), .mv (.tmp 2), some ((some 12), false), []⟩,
  ⟨(some 14), .un .not (.tmp 13), some ((some 12), false), []⟩,
  ⟨(some 15), .pick (.tmp 12) (.const (.bool true)) (.tmp 14), none, []⟩,
  ⟨(some 16), .nilCheck (.tmp 7), none, []⟩,
  ⟨(some 17), .fieldAddr 0 (.tmp 16), none, []⟩,
  ⟨none, .store 1 (.tmp 17) (.tmp 15), none, []⟩]
def F_dynamics_calculator_keep.r2 : List AOper := [
  ⟨(some 18), .load (some 2) (.tmp 4), none, []⟩,
  ⟨none, .store 2 (.tmp 6) (.tmp 18), none, []⟩]
def F_dynamics_calculator_keep : AFunc := ⟨(.seq (.region F_dynamics_calculator_keep.r0) (.seq (.region F_dynamics_calculator_keep.r1) (.seq (.region F_dynamics_calculator_keep.r2) .ret))),
  [.inr (6, (some 2))]⟩
/-! armplan/dynamics.isSmall -/
def F_dynamics_isSmall.r0 : List AOper := [
  ⟨(some 1), .box T_api_Range (.tmp 0), none, []⟩,
  ⟨(some 2), .mv (.const (.bool false)), none, []⟩]
def F_dynamics_isSmall.r1 : List AOper := [
  ⟨(some 3), .fieldAddr 0 (.tmp 1), none, []⟩,
  ⟨(some 4), .load none (.tmp 3), none, []⟩,
  ⟨(some 5), .bin .leq .no (.const (.int .i64 (-1152921504606846976))) (.tmp 4), none, []⟩,
  ⟨(some 6), .mv (.tmp 5), none, []⟩,
  ⟨(some 7), .fieldAddr 0 (.tmp 1), some ((some 6), true), []⟩,
  ⟨(some 8), .load none (.tmp 7), some ((some 6), true), []⟩,
  ⟨(some 9), .fieldAddr 1 (.tmp 1), some ((some 6), true), []⟩,
  ⟨(some 10), .load none (.tmp 9), some ((some 6), true), []⟩,
  ⟨(some 11), .bin .leq .no (.tmp 8) (.tmp 10), some ((some 6), true), []⟩,
  ⟨(some 12), .pick (.tmp 6) (.tmp 11) (.const (.bool false)), none, []⟩,
  ⟨(some 13), .mv (.tmp 12), none, []⟩,
  ⟨(some 14), .fieldAddr 1 (.tmp 1), some ((some 13), true), []⟩,
  ⟨(some 15), .load none (.tmp 14), some ((some 13), true), []⟩,
  ⟨(some 16), .bin .leq .no (.tmp 15) (.const (.int .i64 1152921504606846976)), some ((some 13), true), []⟩,
  ⟨(some 17), .pick (.tmp 13) (.tmp 16) (.const (.bool false)), none, []⟩,
  ⟨(some 2), .mv (.tmp 17), none, []⟩]
def F_dynamics_isSmall : AFunc := ⟨(.seq (.region F_dynamics_isSmall.r0) (.seq (.region F_dynamics_isSmall.r1) .ret)),
  [.inl 2]⟩
/-! armplan/dynamics.product -/
def F_dynamics_product.r0 : List AOper := [
  ⟨(some 4), .mv (.const (.int .i64 0)), none, []⟩,
  ⟨(some 5), .mv (.const (.int .i64 0)), none, []⟩,
  ⟨(some 6), .mv (.const (.bool false)), none, []⟩]
def F_dynamics_product.r1 : List AOper := [
  ⟨(some 11), .mv (.tmp 0), none, []⟩,
  ⟨(some 12), .mv (.tmp 0), none, []⟩,
  ⟨(some 13), .un .neg (.tmp 12), none, []⟩,
  ⟨(some 14), .minmax true [(.tmp 11), (.tmp 13)], none, []⟩,
  ⟨(some 15), .conv .u64 (.tmp 14), none, []⟩,
  ⟨(some 16), .mv (.tmp 1), none, []⟩,
  ⟨(some 17), .mv (.tmp 1), none, []⟩,
  ⟨(some 18), .un .neg (.tmp 17), none, []⟩,
  ⟨(some 19), .minmax true [(.tmp 16), (.tmp 18)], none, []⟩,
  ⟨(some 20), .conv .u64 (.tmp 19), none, []⟩,
  ⟨(some 21), .call (.func n_math_bits_Mul64) [(.tmp 15), (.tmp 20)], none, []⟩,
  ⟨(some 10), .mv (.tmp 21), none, []⟩,
  ⟨(some 22), .ext (.tmp 10) 0, none, []⟩,
  ⟨(some 23), .ext (.tmp 10) 1, none, []⟩,
  ⟨(some 7), .mv (.tmp 22), none, []⟩,
  ⟨(some 8), .mv (.tmp 23), none, []⟩]
def F_dynamics_product.r2 : List AOper := [
  ⟨(some 24), .mv (.tmp 7), none, []⟩,
  ⟨(some 25), .bin .shl .no (.tmp 24) (.const (.int .u64 48)), none, []⟩,
  ⟨(some 26), .mv (.tmp 8), none, []⟩,
  ⟨(some 27), .bin .shr .no (.tmp 26) (.const (.int .u64 16)), none, []⟩,
  ⟨(some 28), .bin .or .no (.tmp 25) (.tmp 27), none, []⟩,
  ⟨(some 9), .mv (.tmp 28), none, []⟩]
def F_dynamics_product.r3 : List AOper := [
  ⟨(some 29), .mv (.tmp 7), none, []⟩,
  ⟨(some 30), .bin .shr .no (.tmp 29) (.const (.int .u64 16)), none, []⟩,
  ⟨(some 31), .bin .neq .no (.tmp 30) (.const (.int .u64 0)), none, []⟩,
  ⟨(some 32), .mv (.tmp 31), none, []⟩,
  ⟨(some 33), .mv (.tmp 9), some ((some 32), false), []⟩,
  ⟨(some 34), .bin .gtr .no (.tmp 33) (.const (.int .u64 1152921504606846976)), some ((some 32), false), []⟩,
  ⟨(some 35), .pick (.tmp 32) (.const (.bool true)) (.tmp 34), none, []⟩]
def F_dynamics_product.r4 : List AOper := [
  ⟨(some 4), .mv (.const (.int .i64 0)), none, []⟩,
  ⟨(some 5), .mv (.const (.int .i64 0)), none, []⟩,
  ⟨(some 6), .mv (.const (.bool false)), none, []⟩]
def F_dynamics_product.r5 : List AOper := [
  ⟨(some 36), .mv (.tmp 9), none, []⟩,
  ⟨(some 37), .conv .i64 (.tmp 36), none, []⟩,
  ⟨(some 38), .mv (.tmp 9), none, []⟩,
  ⟨(some 39), .conv .i64 (.tmp 38), none, []⟩,
  ⟨(some 4), .mv (.tmp 37), none, []⟩,
  ⟨(some 5), .mv (.tmp 39), none, []⟩]
def F_dynamics_product.r6 : List AOper := [
  ⟨(some 40), .mv (.tmp 8), none, []⟩,
  ⟨(some 41), .bin .and .no (.tmp 40) (.const (.int .u64 65535)), none, []⟩,
  ⟨(some 42), .bin .neq .no (.tmp 41) (.const (.int .u64 0)), none, []⟩]
def F_dynamics_product.r7 : List AOper := [
  ⟨(some 43), .mv (.tmp 5), none, []⟩,
  ⟨(some 44), .bin .add .no (.tmp 43) (.const (.int .i64 1)), none, []⟩,
  ⟨(some 5), .mv (.tmp 44), none, []⟩]
def F_dynamics_product.r8 : List AOper := [
  ⟨(some 45), .mv (.tmp 0), none, []⟩,
  ⟨(some 46), .bin .lss .no (.tmp 45) (.const (.int .i64 0)), none, []⟩,
  ⟨(some 47), .mv (.tmp 1), none, []⟩,
  ⟨(some 48), .bin .lss .no (.tmp 47) (.const (.int .i64 0)), none, []⟩,
  ⟨(some 49), .bin .neq .bool (.tmp 46) (.tmp 48), none, []⟩]
def F_dynamics_product.r9 : List AOper := [
  ⟨(some 50), .mv (.tmp 5), none, []⟩,
  ⟨(some 51), .un .neg (.tmp 50), none, []⟩,
  ⟨(some 52), .mv (.tmp 4), none, []⟩,
  ⟨(some 53), .un .neg (.tmp 52), none, []⟩,
  ⟨(some 4), .mv (.tmp 51), none, []⟩,
  ⟨(some 5), .mv (.tmp 53), none, []⟩]
def F_dynamics_product.r10 : List AOper := [
  ⟨(some 54), .mv (.tmp 4), none, []⟩,
  ⟨(some 55), .mv (.tmp 5), none, []⟩,
  ⟨(some 4), .mv (.tmp 54), none, []⟩,
  ⟨(some 5), .mv (.tmp 55), none, []⟩,
  ⟨(some 6), .mv (.const (.bool true)), none, []⟩]
def F_dynamics_product : AFunc := ⟨(.seq (.region F_dynamics_product.r0) (.seq (.region F_dynamics_product.r1) (.seq (.region F_dynamics_product.r2) (.seq (.seq (.region F_dynamics_product.r3) (.cond (.tmp 35) (.seq (.region F_dynamics_product.r4) .ret) .skip)) (.seq (.region F_dynamics_product.r5) (.seq (.seq (.region F_dynamics_product.r6) (.cond (.tmp 42) (.region F_dynamics_product.r7) .skip)) (.seq (.seq (.region F_dynamics_product.r8) (.cond (.tmp 49) (.region F_dynamics_product.r9) .skip)) (.seq (.region F_dynamics_product.r10) .ret)))))))),
  [.inl 4, .inl 5, .inl 6]⟩
/-! armplan/armplanref6.checkJoint -/
def F_armplanref6_checkJoint.r0 : List AOper := [
  ⟨(some 4), .mv (.const (.int .i64 0)), none, []⟩]
def F_armplanref6_checkJoint.r1 : List AOper := [
  ⟨(some 8), .mv (.tmp 0), none, []⟩,
  ⟨(some 9), .mv (.tmp 1), none, []⟩,
  ⟨(some 10), .idxAddr none 12 (.tmp 8) (.tmp 9), none, []⟩,
  ⟨(some 11), .load (some 12) (.tmp 10), none, []⟩,
  ⟨(some 5), .alloc T_api_Joint [(.string (ByteArray.mk #[])), (.int .i64 0), (.int .i64 0), (.int .i64 0), (.int .i64 0), (.int .i64 0), (.int .i64 0), (.int .i64 0), (.int .i64 0), (.int .i64 0), (.int .i64 0), (.int .i64 0)], none, []⟩,
  ⟨none, .store 12 (.tmp 5) (.tmp 11), none, []⟩]
def F_armplanref6_checkJoint.r2 : List AOper := [
  ⟨(some 12), .fieldAddr 0 (.tmp 5), none, []⟩,
  ⟨(some 13), .load none (.tmp 12), none, []⟩,
  ⟨(some 14), .call (.func n_armplanref6_Name) [(.tmp 13)], none, []⟩,
  ⟨(some 15), .un .not (.tmp 14), none, []⟩]
def F_armplanref6_checkJoint.r3 : List AOper := [
  ⟨(some 4), .mv (.const (.int .i64 802)), none, []⟩]
def F_armplanref6_checkJoint.r4 : List AOper := [
  ⟨(some 6), .mv (.const (.int .i64 0)), none, []⟩]
def F_armplanref6_checkJoint.r5 : List AOper := [
  ⟨(some 16), .mv (.tmp 6), none, []⟩,
  ⟨(some 17), .mv (.tmp 1), none, []⟩,
  ⟨(some 18), .bin .lss .no (.tmp 16) (.tmp 17), none, []⟩]
def F_armplanref6_checkJoint.r6 : List AOper := [
  ⟨(some 21), .mv (.tmp 0), none, []⟩,
  ⟨(some 22), .mv (.tmp 6), none, []⟩,
  ⟨(some 23), .idxAddr none 12 (.tmp 21) (.tmp 22), none, []⟩,
  ⟨(some 24), .fieldAddr 0 (.tmp 23), none, []⟩,
  ⟨(some 25), .load none (.tmp 24), none, []⟩,
  ⟨(some 26), .fieldAddr 0 (.tmp 5), none, []⟩,
  ⟨(some 27), .load none (.tmp 26), none, []⟩,
  ⟨(some 28), .bin .eql .no (.tmp 25) (.tmp 27), none, []⟩]
def F_armplanref6_checkJoint.r7 : List AOper := [
  ⟨(some 4), .mv (.const (.int .i64 802)), none, []⟩]
def F_armplanref6_checkJoint.r8 : List AOper := [
  ⟨(some 19), .mv (.tmp 6), none, []⟩,
  ⟨(some 20), .bin .add .no (.tmp 19) (.const (.int .i64 1)), none, []⟩,
  ⟨(some 6), .mv (.tmp 20), none, []⟩]
def F_armplanref6_checkJoint.l0 : ACode := (.seq (.seq (.region F_armplanref6_checkJoint.r5) (.cond (.tmp 18) .skip (.exit 0))) (.seq (.block 1 (.seq (.dregion F_armplanref6_checkJoint.r6) (.cond (.tmp 28) (.seq (.region F_armplanref6_checkJoint.r7) .ret) .skip))) (.region F_armplanref6_checkJoint.r8)))
def F_armplanref6_checkJoint.r9 : List AOper := [
  ⟨(some 29), .fieldAddr 1 (.tmp 5), none, []⟩,
  ⟨(some 30), .load none (.tmp 29), none, []⟩,
  ⟨(some 31), .bin .lss .no (.tmp 30) (.const (.int .i64 0)), none, []⟩,
  ⟨(some 32), .mv (.tmp 31), none, []⟩,
  ⟨(some 33), .fieldAddr 1 (.tmp 5), some ((some 32), false), []⟩,
  ⟨(some 34), .load none (.tmp 33), some ((some 32), false), []⟩,
  ⟨(some 35), .bin .gtr .no (.tmp 34) (.const (.int .i64 6)), some ((some 32), false), []⟩,
  ⟨(some 36), .pick (.tmp 32) (.const (.bool true)) (.tmp 35), none, []⟩]
def F_armplanref6_checkJoint.r10 : List AOper := [
  ⟨(some 4), .mv (.const (.int .i64 803)), none, []⟩]
def F_armplanref6_checkJoint.r11 : List AOper := [
  ⟨(some 37), .fieldAddr 2 (.tmp 5), none, []⟩,
  ⟨(some 38), .load none (.tmp 37), none, []⟩,
  ⟨(some 39), .bin .lss .no (.tmp 38) (.const (.int .i64 (-1))), none, []⟩,
  ⟨(some 40), .mv (.tmp 39), none, []⟩,
  ⟨(some 41), .fieldAddr 2 (.tmp 5), some ((some 40), false), []⟩,
  ⟨(some 42), .load none (.tmp 41), some ((some 40), false), []⟩,
  ⟨(some 43), .mv (.tmp 1), some ((some 40), false), []⟩,
  ⟨(some 44), .bin .geq .no (.tmp 42) (.tmp 43), some ((some 40), false), []⟩,
  ⟨(some 45), .pick (.tmp 40) (.const (.bool true)) (.tmp 44), none, []⟩]
def F_armplanref6_checkJoint.r12 : List AOper := [
  ⟨(some 4), .mv (.const (.int .i64 804)), none, []⟩]
def F_armplanref6_checkJoint.r13 : List AOper := [
  ⟨(some 46), .fieldAddr 3 (.tmp 5), none, []⟩,
  ⟨(some 47), .load (some 3) (.tmp 46), none, []⟩,
  ⟨(some 48), .call (.func n_armplanref6_Near) [(.tmp 47), (.const (.int .i64 4194304))], none, []⟩,
  ⟨(some 49), .un .not (.tmp 48), none, []⟩]
def F_armplanref6_checkJoint.r14 : List AOper := [
  ⟨(some 4), .mv (.const (.int .i64 805)), none, []⟩]
def F_armplanref6_checkJoint.r15 : List AOper := [
  ⟨(some 50), .fieldAddr 1 (.tmp 5), none, []⟩,
  ⟨(some 51), .load none (.tmp 50), none, []⟩,
  ⟨(some 52), .call (.func n_armplanref6_reach) [(.tmp 51)], none, []⟩,
  ⟨(some 7), .mv (.tmp 52), none, []⟩]
def F_armplanref6_checkJoint.r16 : List AOper := [
  ⟨(some 53), .fieldAddr 6 (.tmp 5), none, []⟩,
  ⟨(some 54), .load none (.tmp 53), none, []⟩,
  ⟨(some 55), .fieldAddr 7 (.tmp 5), none, []⟩,
  ⟨(some 56), .load none (.tmp 55), none, []⟩,
  ⟨(some 57), .bin .gtr .no (.tmp 54) (.tmp 56), none, []⟩,
  ⟨(some 58), .mv (.tmp 57), none, []⟩,
  ⟨(some 59), .fieldAddr 6 (.tmp 5), some ((some 58), false), []⟩,
  ⟨(some 60), .load none (.tmp 59), some ((some 58), false), []⟩,
  ⟨(some 61), .mv (.tmp 7), some ((some 58), false), []⟩,
  ⟨(some 62), .un .neg (.tmp 61), some ((some 58), false), []⟩,
  ⟨(some 63), .bin .lss .no (.tmp 60) (.tmp 62), some ((some 58), false), []⟩,
  ⟨(some 64), .pick (.tmp 58) (.const (.bool true)) (.tmp 63), none, []⟩,
  ⟨(some 65), .mv (.tmp 64), none, []⟩,
  ⟨(some 66), .fieldAddr 7 (.tmp 5), some ((some 65), false), []⟩,
  ⟨(some 67), .load none (.tmp 66), some ((some 65), false), []⟩,
  ⟨(some 68), .mv (.tmp 7), some ((some 65), false), []⟩,
  ⟨(some 69), .bin .gtr .no (.tmp 67) (.tmp 68), some ((some 65), false), []⟩,
  ⟨(some 70), .pick (.tmp 65) (.const (.bool true)) (.tmp 69), none, []⟩]
def F_armplanref6_checkJoint.r17 : List AOper := [
  ⟨(some 4), .mv (.const (.int .i64 806)), none, []⟩]
def F_armplanref6_checkJoint.r18 : List AOper := [
  ⟨(some 71), .fieldAddr 8 (.tmp 5), none, []⟩,
  ⟨(some 72), .load none (.tmp 71), none, []⟩,
  ⟨(some 73), .call (.func n_armplanref6_between) [(.tmp 72), (.const (.int .i64 1)), (.const (.int .i64 1024))], none, []⟩,
  ⟨(some 74), .un .not (.tmp 73), none, []⟩,
  ⟨(some 75), .mv (.tmp 74), none, []⟩,
  ⟨(some 76), .fieldAddr 9 (.tmp 5), some ((some 75), false), []⟩,
  ⟨(some 77), .load none (.tmp 76), some ((some 75), false), []⟩,
  ⟨(some 78), .call (.func n_armplanref6_between) [(.tmp 77), (.const (.int .i64 1)), (.const (.int .i64 1048576))], some ((some 75), false), []⟩,
  ⟨(some 79), .un .not (.tmp 78), some ((some 75), false), []⟩,
  ⟨(some 80), .pick (.tmp 75) (.const (.bool true)) (.tmp 79), none, []⟩,
  ⟨(some 81), .mv (.tmp 80), none, []⟩,
  ⟨(some 82), .fieldAddr 10 (.tmp 5), some ((some 81), false), []⟩,
  ⟨(some 83), .load none (.tmp 82), some ((some 81), false), []⟩,
  ⟨(some 84), .call (.func n_armplanref6_between) [(.tmp 83), (.const (.int .i64 1)), (.const (.int .i64 1048576))], some ((some 81), false), []⟩,
  ⟨(some 85), .un .not (.tmp 84), some ((some 81), false), []⟩,
  ⟨(some 86), .pick (.tmp 81) (.const (.bool true)) (.tmp 85), none, []⟩,
  ⟨(some 87), .mv (.tmp 86), none, []⟩,
  ⟨(some 88), .fieldAddr 11 (.tmp 5), some ((some 87), false), []⟩,
  ⟨(some 89), .load none (.tmp 88), some ((some 87), false), []⟩,
  ⟨(some 90), .call (.func n_armplanref6_between) [(.tmp 89), (.const (.int .i64 1)), (.const (.int .i64 1099511627776))], some ((some 87), false), []⟩,
  ⟨(some 91), .un .not (.tmp 90), some ((some 87), false), []⟩,
  ⟨(some 92), .pick (.tmp 87) (.const (.bool true)) (.tmp 91), none, []⟩]
def F_armplanref6_checkJoint.r19 : List AOper := [
  ⟨(some 4), .mv (.const (.int .i64 807)), none, []⟩]
def F_armplanref6_checkJoint.r20 : List AOper := [
  ⟨(some 4), .mv (.const (.int .i64 0)), none, []⟩]
def F_armplanref6_checkJoint : AFunc := ⟨(.seq (.region F_armplanref6_checkJoint.r0) (.seq (.region F_armplanref6_checkJoint.r1) (.seq (.seq (.region F_armplanref6_checkJoint.r2) (.cond (.tmp 15) (.seq (.region F_armplanref6_checkJoint.r3) .ret) .skip)) (.seq (.seq (.region F_armplanref6_checkJoint.r4) (.block 0 (.loop F_armplanref6_checkJoint.l0))) (.seq (.seq (.region F_armplanref6_checkJoint.r9) (.cond (.tmp 36) (.seq (.region F_armplanref6_checkJoint.r10) .ret) .skip)) (.seq (.seq (.region F_armplanref6_checkJoint.r11) (.cond (.tmp 45) (.seq (.region F_armplanref6_checkJoint.r12) .ret) .skip)) (.seq (.seq (.region F_armplanref6_checkJoint.r13) (.cond (.tmp 49) (.seq (.region F_armplanref6_checkJoint.r14) .ret) .skip)) (.seq (.seq (.region F_armplanref6_checkJoint.r15) (.seq (.region F_armplanref6_checkJoint.r16) (.cond (.tmp 70) (.seq (.region F_armplanref6_checkJoint.r17) .ret) .skip))) (.seq (.seq (.region F_armplanref6_checkJoint.r18) (.cond (.tmp 92) (.seq (.region F_armplanref6_checkJoint.r19) .ret) .skip)) (.seq (.region F_armplanref6_checkJoint.r20) .ret)))))))))),
  [.inl 4]⟩
/-! armplan/armplanref6.between -/
def F_armplanref6_between.r0 : List AOper := [
  ⟨(some 6), .mv (.const (.bool false)), none, []⟩]
def F_armplanref6_between.r1 : List AOper := [
  ⟨(some 7), .mv (.tmp 1), none, []⟩,
  ⟨(some 8), .mv (.tmp 0), none, []⟩,
  ⟨(some 9), .bin .leq .no (.tmp 7) (.tmp 8), none, []⟩,
  ⟨(some 10), .mv (.tmp 9), none, []⟩,
  ⟨(some 11), .mv (.tmp 0), some ((some 10), true), []⟩,
  ⟨(some 12), .mv (.tmp 2), some ((some 10), true), []⟩,
  ⟨(some 13), .bin .leq .no (.tmp 11) (.tmp 12), some ((some 10), true), []⟩,
  ⟨(some 14), .pick (.tmp 10) (.tmp 13) (.const (.bool false)), none, []⟩,
  ⟨(some 6), .mv (.tmp 14), none, []⟩]
def F_armplanref6_between : AFunc := ⟨(.seq (.region F_armplanref6_between.r0) (.seq (.region F_armplanref6_between.r1) .ret)),
  [.inl 6]⟩
/-! armplan/armplanref6.Near -/
def F_armplanref6_Near.r0 : List AOper := [
  ⟨(some 2), .box T_api_Vec (.tmp 0), none, []⟩,
  ⟨(some 4), .mv (.const (.bool false)), none, []⟩]
def F_armplanref6_Near.r1 : List AOper := [
  ⟨(some 5), .mv (.const (.int .i64 0)), none, []⟩]
def F_armplanref6_Near.r2 : List AOper := [
  ⟨(some 6), .mv (.tmp 5), none, []⟩,
  ⟨(some 7), .bin .lss .no (.tmp 6) (.const (.int .i64 3)), none, []⟩]
def F_armplanref6_Near.r3 : List AOper := [
  ⟨(some 10), .mv (.tmp 5), none, []⟩,
  ⟨(some 11), .idxAddr (some 3) 1 (.tmp 2) (.tmp 10), none, []⟩,
  ⟨(some 12), .load none (.tmp 11), none, []⟩,
  ⟨(some 13), .mv (.tmp 1), none, []⟩,
  ⟨(some 14), .un .neg (.tmp 13), none, []⟩,
  ⟨(some 15), .bin .lss .no (.tmp 12) (.tmp 14), none, []⟩,
  ⟨(some 16), .mv (.tmp 15), none, []⟩,
  ⟨(some 17), .mv (.tmp 5), some ((some 16), false), []⟩,
  ⟨(some 18), .idxAddr (some 3) 1 (.tmp 2) (.tmp 17), some ((some 16), false), []⟩,
  ⟨(some 19), .load none (.tmp 18), some ((some 16), false), []⟩,
  ⟨(some 20), .mv (.tmp 1), some ((some 16), false), []⟩,
  ⟨(some 21), .bin .gtr .no (.tmp 19) (.tmp 20), some ((some 16), false), []⟩,
  ⟨(some 22), .pick (.tmp 16) (.const (.bool true)) (.tmp 21), none, []⟩]
def F_armplanref6_Near.r4 : List AOper := [
  ⟨(some 4), .mv (.const (.bool false)), none, []⟩]
def F_armplanref6_Near.r5 : List AOper := [
  ⟨(some 8), .mv (.tmp 5), none, []⟩,
  ⟨(some 9), .bin .add .no (.tmp 8) (.const (.int .i64 1)), none, []⟩,
  ⟨(some 5), .mv (.tmp 9), none, []⟩]
def F_armplanref6_Near.l0 : ACode := (.seq (.seq (.region F_armplanref6_Near.r2) (.cond (.tmp 7) .skip (.exit 0))) (.seq (.block 1 (.seq (.region F_armplanref6_Near.r3) (.cond (.tmp 22) (.seq (.region F_armplanref6_Near.r4) .ret) .skip))) (.region F_armplanref6_Near.r5)))
def F_armplanref6_Near.r6 : List AOper := [
  ⟨(some 4), .mv (.const (.bool true)), none, []⟩]
def F_armplanref6_Near : AFunc := ⟨(.seq (.region F_armplanref6_Near.r0) (.seq (.seq (.region F_armplanref6_Near.r1) (.block 0 (.loop F_armplanref6_Near.l0))) (.seq (.region F_armplanref6_Near.r6) .ret))),
  [.inl 4]⟩
/-! armplan/armplanref1.Clamp -/
def F_armplanref1_Clamp.r0 : List AOper := [
  ⟨(some 2), .mv (.const (.int .i64 0)), none, []⟩]
def F_armplanref1_Clamp.r1 : List AOper := [
  ⟨(some 3), .mv (.tmp 0), none, []⟩,
  ⟨(some 4), .minmax false [(.tmp 3), (.const (.int .i64 2147483648))], none, []⟩,
  ⟨(some 5), .minmax true [(.const (.int .i64 (-2147483648))), (.tmp 4)], none, []⟩,
  ⟨(some 2), .mv (.tmp 5), none, []⟩]
def F_armplanref1_Clamp : AFunc := ⟨(.seq (.region F_armplanref1_Clamp.r0) (.seq (.region F_armplanref1_Clamp.r1) .ret)),
  [.inl 2]⟩
/-! armplan/armplanref40.Small -/
def F_armplanref40_Small.r0 : List AOper := [
  ⟨(some 1), .box T_api_Range (.tmp 0), none, []⟩,
  ⟨(some 2), .mv (.const (.bool false)), none, []⟩]
def F_armplanref40_Small.r1 : List AOper := [
  ⟨(some 3), .fieldAddr 0 (.tmp 1), none, []⟩,
  ⟨(some 4), .load none (.tmp 3), none, []⟩,
  ⟨(some 5), .bin .leq .no (.const (.int .i64 (-1152921504606846976))) (.tmp 4), none, []⟩,
  ⟨(some 6), .mv (.tmp 5), none, []⟩,
  ⟨(some 7), .fieldAddr 0 (.tmp 1), some ((some 6), true), []⟩,
  ⟨(some 8), .load none (.tmp 7), some ((some 6), true), []⟩,
  ⟨(some 9), .fieldAddr 1 (.tmp 1), some ((some 6), true), []⟩,
  ⟨(some 10), .load none (.tmp 9), some ((some 6), true), []⟩,
  ⟨(some 11), .bin .leq .no (.tmp 8) (.tmp 10), some ((some 6), true), []⟩,
  ⟨(some 12), .pick (.tmp 6) (.tmp 11) (.const (.bool false)), none, []⟩,
  ⟨(some 13), .mv (.tmp 12), none, []⟩,
  ⟨(some 14), .fieldAddr 1 (.tmp 1), some ((some 13), true), []⟩,
  ⟨(some 15), .load none (.tmp 14), some ((some 13), true), []⟩,
  ⟨(some 16), .bin .leq .no (.tmp 15) (.const (.int .i64 1152921504606846976)), some ((some 13), true), []⟩,
  ⟨(some 17), .pick (.tmp 13) (.tmp 16) (.const (.bool false)), none, []⟩,
  ⟨(some 2), .mv (.tmp 17), none, []⟩]
def F_armplanref40_Small : AFunc := ⟨(.seq (.region F_armplanref40_Small.r0) (.seq (.region F_armplanref40_Small.r1) .ret)),
  [.inl 2]⟩
/-! armplan/armplanref40.Times -/
def F_armplanref40_Times.r0 : List AOper := [
  ⟨(some 4), .alloc T_armplanref40_Wide [(.bool false), (.int .u64 0), (.int .u64 0)], none, []⟩]
def F_armplanref40_Times.r1 : List AOper := [
  ⟨(some 8), .mv (.tmp 0), none, []⟩,
  ⟨(some 9), .call (.func n_armplanref40_magnitude) [(.tmp 8)], none, []⟩,
  ⟨(some 10), .mv (.tmp 1), none, []⟩,
  ⟨(some 11), .call (.func n_armplanref40_magnitude) [(.tmp 10)], none, []⟩,
  ⟨(some 12), .call (.func n_math_bits_Mul64) [(.tmp 9), (.tmp 11)], none, []⟩,
  ⟨(some 7), .mv (.tmp 12), none, []⟩,
  ⟨(some 13), .ext (.tmp 7) 0, none, []⟩,
  ⟨(some 14), .ext (.tmp 7) 1, none, []⟩,
  ⟨(some 5), .mv (.tmp 13), none, []⟩,
  ⟨(some 6), .mv (.tmp 14), none, []⟩]
def F_armplanref40_Times.r2 : List AOper := [
  ⟨(some 15), .mv (.tmp 0), none, []⟩,
  ⟨(some 16), .bin .lss .no (.tmp 15) (.const (.int .i64 0)), none, []⟩,
  ⟨(some 17), .mv (.tmp 1), none, []⟩,
  ⟨(some 18), .bin .lss .no (.tmp 17) (.const (.int .i64 0)), none, []⟩,
  ⟨(some 19), .bin .neq .bool (.tmp 16) (.tmp 18), none, []⟩,
  ⟨(some 20), .mv (.tmp 19), none, []⟩,
  ⟨(some 21), .mv (.tmp 5), some ((some 20), true), []⟩,
  ⟨(some 22), .mv (.tmp 6), some ((some 20), true), []⟩,
  ⟨(some 23), .bin .or .no (.tmp 21) (.tmp 22), some ((some 20), true), []⟩,
  ⟨(some 24), .bin .gtr .no (.tmp 23) (.const (.int .u64 0)), some ((some 20), true), []⟩,
  ⟨(some 25), .pick (.tmp 20) (.tmp 24) (.const (.bool false)), none, []⟩,
  ⟨(some 26), .mv (.tmp 5), none, []⟩,
  ⟨(some 27), .mv (.tmp 6), none, []⟩,
  ⟨(some 28), .build [(.bool false), (.int .u64 0), (.int .u64 0)] [(0, 1, (.tmp 25)), (1, 1, (.tmp 26)), (2, 1, (.tmp 27))], none, []⟩,
  ⟨none, .store 3 (.tmp 4) (.tmp 28), none, []⟩]
def F_armplanref40_Times : AFunc := ⟨(.seq (.region F_armplanref40_Times.r0) (.seq (.region F_armplanref40_Times.r1) (.seq (.region F_armplanref40_Times.r2) .ret))),
  [.inr (4, (some 3))]⟩
/-! (armplan/armplanref40.Wide).Over -/
def F_armplanref40_Wide_Over.r0 : List AOper := [
  ⟨(some 3), .box T_armplanref40_Wide (.tmp 0), none, []⟩,
  ⟨(some 6), .alloc T_armplanref40_Wide [(.bool false), (.int .u64 0), (.int .u64 0)], none, []⟩]
def F_armplanref40_Wide_Over.r1 : List AOper := [
  ⟨(some 11), .fieldAddr 1 (.tmp 3), none, []⟩,
  ⟨(some 12), .load none (.tmp 11), none, []⟩,
  ⟨(some 13), .mv (.tmp 1), none, []⟩,
  ⟨(some 14), .bin .quo .no (.tmp 12) (.tmp 13), none, []⟩,
  ⟨(some 7), .mv (.tmp 14), none, []⟩]
def F_armplanref40_Wide_Over.r2 : List AOper := [
  ⟨(some 16), .fieldAddr 1 (.tmp 3), none, []⟩,
  ⟨(some 17), .load none (.tmp 16), none, []⟩,
  ⟨(some 18), .mv (.tmp 1), none, []⟩,
  ⟨(some 19), .bin .rem .no (.tmp 17) (.tmp 18), none, []⟩,
  ⟨(some 20), .fieldAddr 2 (.tmp 3), none, []⟩,
  ⟨(some 21), .load none (.tmp 20), none, []⟩,
  ⟨(some 22), .mv (.tmp 1), none, []⟩,
  ⟨(some 23), .call (.func n_math_bits_Div64) [(.tmp 19), (.tmp 21), (.tmp 22)], none, []⟩,
  ⟨(some 15), .mv (.tmp 23), none, []⟩,
  ⟨(some 24), .ext (.tmp 15) 0, none, []⟩,
  ⟨(some 25), .ext (.tmp 15) 1, none, []⟩,
  ⟨(some 8), .mv (.tmp 24), none, []⟩,
  ⟨(some 9), .mv (.tmp 25), none, []⟩]
def F_armplanref40_Wide_Over.r3 : List AOper := [
  ⟨(some 26), .mv (.tmp 9), none, []⟩,
  ⟨(some 27), .bin .gtr .no (.tmp 26) (.const (.int .u64 0)), none, []⟩,
  ⟨(some 28), .mv (.tmp 27), none, []⟩,
  ⟨(some 29), .mv (.tmp 2), some ((some 28), true), []⟩,
  ⟨(some 30), .fieldAddr 0 (.tmp 3), some ((some 28), true), []⟩,
  ⟨(some 31), .load none (.tmp 30), some ((some 28), true), []⟩,
  ⟨(some 32), .bin .neq .bool (.tmp 29) (.tmp 31), some ((some 28), true), []⟩,
  ⟨(some 33), .pick (.tmp 28) (.tmp 32) (.const (.bool false)), none, []⟩]
def F_armplanref40_Wide_Over.r4 : List AOper := [
  ⟨(some 10), .mv (.const (.int .u64 0)), none, []⟩]
def F_armplanref40_Wide_Over.r5 : List AOper := [
  ⟨(some 35), .mv (.tmp 8), none, []⟩,
  ⟨(some 36), .call (.func n_math_bits_Add64) [(.tmp 35), (.const (.int .u64 1)), (.const (.int .u64 0))], none, []⟩,
  ⟨(some 34), .mv (.tmp 36), none, []⟩,
  ⟨(some 37), .ext (.tmp 34) 0, none, []⟩,
  ⟨(some 38), .ext (.tmp 34) 1, none, []⟩,
  ⟨(some 8), .mv (.tmp 37), none, []⟩,
  ⟨(some 10), .mv (.tmp 38), none, []⟩]
def F_armplanref40_Wide_Over.r6 : List AOper := [
  ⟨(some 39), .mv (.tmp 7), none, []⟩,
  ⟨(some 40), .mv (.tmp 10), none, []⟩,
  ⟨(some 41), .bin .add .no (.tmp 39) (.tmp 40), none, []⟩,
  ⟨(some 7), .mv (.tmp 41), none, []⟩]
def F_armplanref40_Wide_Over.r7 : List AOper := [
  ⟨(some 42), .fieldAddr 0 (.tmp 3), none, []⟩,
  ⟨(some 43), .load none (.tmp 42), none, []⟩,
  ⟨(some 44), .mv (.tmp 43), none, []⟩,
  ⟨(some 45), .mv (.tmp 7), some ((some 44), true), []⟩,
  ⟨(some 46), .mv (.tmp 8), some ((some 44), true), []⟩,
  ⟨(some 47), .bin .or .no (.tmp 45) (.tmp 46), some ((some 44), true), []⟩,
  ⟨(some 48), .bin .gtr .no (.tmp 47) (.const (.int .u64 0)), some ((some 44), true), []⟩,
  ⟨(some 49), .pick (.tmp 44) (.tmp 48) (.const (.bool false)), none, []⟩,
  ⟨(some 50), .mv (.tmp 7), none, []⟩,
  ⟨(some 51), .mv (.tmp 8), none, []⟩,
  ⟨(some 52), .build [(.bool false), (.int .u64 0), (.int .u64 0)] [(0, 1, (.tmp 49)), (1, 1, (.tmp 50)), (2, 1, (.tmp 51))], none, []⟩,
  ⟨none, .store 3 (.tmp 6) (.tmp 52), none, []⟩]
def F_armplanref40_Wide_Over : AFunc := ⟨(.seq (.region F_armplanref40_Wide_Over.r0) (.seq (.region F_armplanref40_Wide_Over.r1) (.seq (.dregion F_armplanref40_Wide_Over.r2) (.seq (.seq (.region F_armplanref40_Wide_Over.r3) (.cond (.tmp 33) (.seq (.region F_armplanref40_Wide_Over.r4) (.seq (.region F_armplanref40_Wide_Over.r5) (.region F_armplanref40_Wide_Over.r6))) .skip)) (.seq (.region F_armplanref40_Wide_Over.r7) .ret))))),
  [.inr (6, (some 3))]⟩
/-! (armplan/armplanref40.Wide).Int -/
def F_armplanref40_Wide_Int.r0 : List AOper := [
  ⟨(some 1), .box T_armplanref40_Wide (.tmp 0), none, []⟩,
  ⟨(some 2), .mv (.const (.int .i64 0)), none, []⟩,
  ⟨(some 3), .mv (.const (.bool false)), none, []⟩]
def F_armplanref40_Wide_Int.r1 : List AOper := [
  ⟨(some 4), .fieldAddr 1 (.tmp 1), none, []⟩,
  ⟨(some 5), .load none (.tmp 4), none, []⟩,
  ⟨(some 6), .bin .gtr .no (.tmp 5) (.const (.int .u64 0)), none, []⟩,
  ⟨(some 7), .mv (.tmp 6), none, []⟩,
  ⟨(some 8), .fieldAddr 2 (.tmp 1), some ((some 7), false), []⟩,
  ⟨(some 9), .load none (.tmp 8), some ((some 7), false), []⟩,
  ⟨(some 10), .bin .gtr .no (.tmp 9) (.const (.int .u64 4611686018427387904)), some ((some 7), false), []⟩,
  ⟨(some 11), .pick (.tmp 7) (.const (.bool true)) (.tmp 10), none, []⟩]
def F_armplanref40_Wide_Int.r2 : List AOper := [
  ⟨(some 2), .mv (.const (.int .i64 0)), none, []⟩,
  ⟨(some 3), .mv (.const (.bool false)), none, []⟩]
def F_armplanref40_Wide_Int.r3 : List AOper := [
  ⟨(some 12), .fieldAddr 0 (.tmp 1), none, []⟩,
  ⟨(some 13), .load none (.tmp 12), none, []⟩]
def F_armplanref40_Wide_Int.r4 : List AOper := [
  ⟨(some 14), .fieldAddr 2 (.tmp 1), none, []⟩,
  ⟨(some 15), .load none (.tmp 14), none, []⟩,
  ⟨(some 16), .conv .i64 (.tmp 15), none, []⟩,
  ⟨(some 17), .un .neg (.tmp 16), none, []⟩,
  ⟨(some 2), .mv (.tmp 17), none, []⟩,
  ⟨(some 3), .mv (.const (.bool true)), none, []⟩]
def F_armplanref40_Wide_Int.r5 : List AOper := [
  ⟨(some 18), .fieldAddr 2 (.tmp 1), none, []⟩,
  ⟨(some 19), .load none (.tmp 18), none, []⟩,
  ⟨(some 20), .conv .i64 (.tmp 19), none, []⟩,
  ⟨(some 2), .mv (.tmp 20), none, []⟩,
  ⟨(some 3), .mv (.const (.bool true)), none, []⟩]
def F_armplanref40_Wide_Int : AFunc := ⟨(.seq (.region F_armplanref40_Wide_Int.r0) (.seq (.seq (.region F_armplanref40_Wide_Int.r1) (.cond (.tmp 11) (.seq (.region F_armplanref40_Wide_Int.r2) .ret) .skip)) (.seq (.seq (.region F_armplanref40_Wide_Int.r3) (.cond (.tmp 13) (.seq (.region F_armplanref40_Wide_Int.r4) .ret) .skip)) (.seq (.region F_armplanref40_Wide_Int.r5) .ret)))),
  [.inl 2, .inl 3]⟩
end Go.Bx.S
