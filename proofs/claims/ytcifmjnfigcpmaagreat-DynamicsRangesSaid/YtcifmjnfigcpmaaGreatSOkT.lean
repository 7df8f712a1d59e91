/-
  The printed functions are the program's.
-/
import Derived.Test.YtcifmjnfigcpmaaGreatProg
import Derived.KernelRfl
import Derived.Test.YtcifmjnfigcpmaaGreatSProg
set_option linter.unusedSimpArgs false
set_option linter.unusedVariables false
set_option linter.unusedSectionVars false
namespace Go.Bx.S
open Go Go.Bx Go.Proofs
theorem c_gosem_cut_init : compF Tryz.prog n_gosem_cut_init = some F_gosem_cut_init := by kernel_rfl
theorem c_armplanlaw40_DynamicsSliders : compF Tryz.prog n_armplanlaw40_DynamicsSliders = some F_armplanlaw40_DynamicsSliders := by kernel_rfl
theorem c_armplanlaw40_DynamicsRanges : compF Tryz.prog n_armplanlaw40_DynamicsRanges = some F_armplanlaw40_DynamicsRanges := by kernel_rfl
theorem c_armplanmake_Slider : compF Tryz.prog n_armplanmake_Slider = some F_armplanmake_Slider := by kernel_rfl
theorem c_armplanmake_Round : compF Tryz.prog n_armplanmake_Round = some F_armplanmake_Round := by kernel_rfl
theorem c_dynamics_Torques : compF Tryz.prog n_dynamics_Torques = some F_dynamics_Torques := by kernel_rfl
theorem c_armplanlaw40_awake : compF Tryz.prog n_armplanlaw40_awake = some F_armplanlaw40_awake := by kernel_rfl
theorem c_armplanref10_Inside : compF Tryz.prog n_armplanref10_Inside = some F_armplanref10_Inside := by kernel_rfl
theorem c_armplanlaw40_some : compF Tryz.prog n_armplanlaw40_some = some F_armplanlaw40_some := by kernel_rfl
theorem c_armplanlaw40_ranges : compF Tryz.prog n_armplanlaw40_ranges = some F_armplanlaw40_ranges := by kernel_rfl
theorem c_armplanmake_letter : compF Tryz.prog n_armplanmake_letter = some F_armplanmake_letter := by kernel_rfl
theorem c_dynamics_Rates : compF Tryz.prog n_dynamics_Rates = some F_dynamics_Rates := by kernel_rfl
theorem c_config_Piece : compF Tryz.prog n_config_Piece = some F_config_Piece := by kernel_rfl
theorem c_dynamics_usable : compF Tryz.prog n_dynamics_usable = some F_dynamics_usable := by kernel_rfl
theorem c_dynamics_newModel : compF Tryz.prog n_dynamics_newModel = some F_dynamics_newModel := by kernel_rfl
theorem c_dynamics_model_rest : compF Tryz.prog n_dynamics_model_rest = some F_dynamics_model_rest := by kernel_rfl
theorem c_dynamics_model_derivatives : compF Tryz.prog n_dynamics_model_derivatives = some F_dynamics_model_derivatives := by kernel_rfl
theorem c_dynamics_calculator_add : compF Tryz.prog n_dynamics_calculator_add = some F_dynamics_calculator_add := by kernel_rfl
theorem c_dynamics_calculator_times : compF Tryz.prog n_dynamics_calculator_times = some F_dynamics_calculator_times := by kernel_rfl
theorem c_dynamics_calculator_dot : compF Tryz.prog n_dynamics_calculator_dot = some F_dynamics_calculator_dot := by kernel_rfl
theorem c_armplanlaw40_arm : compF Tryz.prog n_armplanlaw40_arm = some F_armplanlaw40_arm := by kernel_rfl
theorem c_dynamics_Mul : compF Tryz.prog n_dynamics_Mul = some F_dynamics_Mul := by kernel_rfl
theorem c_armplanref6_CheckRobot : compF Tryz.prog n_armplanref6_CheckRobot = some F_armplanref6_CheckRobot := by kernel_rfl
theorem c_armplanmake_Interval : compF Tryz.prog n_armplanmake_Interval = some F_armplanmake_Interval := by kernel_rfl
theorem c_dynamics_Add : compF Tryz.prog n_dynamics_Add = some F_dynamics_Add := by kernel_rfl
theorem c_armplanref40_AddRange : compF Tryz.prog n_armplanref40_AddRange = some F_armplanref40_AddRange := by kernel_rfl
theorem c_armplanref40_MulRange : compF Tryz.prog n_armplanref40_MulRange = some F_armplanref40_MulRange := by kernel_rfl
theorem c_config_Inside : compF Tryz.prog n_config_Inside = some F_config_Inside := by kernel_rfl
theorem c_dynamics_turns : compF Tryz.prog n_dynamics_turns = some F_dynamics_turns := by kernel_rfl
theorem c_config_straight : compF Tryz.prog n_config_straight = some F_config_straight := by kernel_rfl
theorem c_config_InsideBox : compF Tryz.prog n_config_InsideBox = some F_config_InsideBox := by kernel_rfl
theorem c_kinematics_Links : compF Tryz.prog n_kinematics_Links = some F_kinematics_Links := by kernel_rfl
theorem c_dynamics_ranges : compF Tryz.prog n_dynamics_ranges = some F_dynamics_ranges := by kernel_rfl
theorem c_pose_Apply : compF Tryz.prog n_pose_Apply = some F_pose_Apply := by kernel_rfl
theorem c_matrix_Point : compF Tryz.prog n_matrix_Point = some F_matrix_Point := by kernel_rfl
theorem c_robot_Chain : compF Tryz.prog n_robot_Chain = some F_robot_Chain := by kernel_rfl
theorem c_dynamics_axis : compF Tryz.prog n_dynamics_axis = some F_dynamics_axis := by kernel_rfl
theorem c_dynamics_negated : compF Tryz.prog n_dynamics_negated = some F_dynamics_negated := by kernel_rfl
theorem c_dynamics_calculator_cross : compF Tryz.prog n_dynamics_calculator_cross = some F_dynamics_calculator_cross := by kernel_rfl
theorem c_dynamics_calculator_plus : compF Tryz.prog n_dynamics_calculator_plus = some F_dynamics_calculator_plus := by kernel_rfl
theorem c_dynamics_calculator_mul : compF Tryz.prog n_dynamics_calculator_mul = some F_dynamics_calculator_mul := by kernel_rfl
theorem c_dynamics_calculator_keep : compF Tryz.prog n_dynamics_calculator_keep = some F_dynamics_calculator_keep := by kernel_rfl
theorem c_dynamics_isSmall : compF Tryz.prog n_dynamics_isSmall = some F_dynamics_isSmall := by kernel_rfl
theorem c_dynamics_product : compF Tryz.prog n_dynamics_product = some F_dynamics_product := by kernel_rfl
theorem c_armplanref6_checkJoint : compF Tryz.prog n_armplanref6_checkJoint = some F_armplanref6_checkJoint := by kernel_rfl
theorem c_armplanref6_between : compF Tryz.prog n_armplanref6_between = some F_armplanref6_between := by kernel_rfl
theorem c_armplanref6_Near : compF Tryz.prog n_armplanref6_Near = some F_armplanref6_Near := by kernel_rfl
theorem c_armplanref1_Clamp : compF Tryz.prog n_armplanref1_Clamp = some F_armplanref1_Clamp := by kernel_rfl
theorem c_armplanref40_Small : compF Tryz.prog n_armplanref40_Small = some F_armplanref40_Small := by kernel_rfl
theorem c_armplanref40_Times : compF Tryz.prog n_armplanref40_Times = some F_armplanref40_Times := by kernel_rfl
theorem c_armplanref40_Wide_Over : compF Tryz.prog n_armplanref40_Wide_Over = some F_armplanref40_Wide_Over := by kernel_rfl
theorem c_armplanref40_Wide_Int : compF Tryz.prog n_armplanref40_Wide_Int = some F_armplanref40_Wide_Int := by kernel_rfl
theorem c_robot_Check : compF Tryz.prog n_robot_Check = some F_robot_Check := by kernel_rfl
theorem c_config_all_api_Joint_int64 : compF Tryz.prog n_config_all_api_Joint_int64 = some F_config_all_api_Joint_int64 := by kernel_rfl
theorem c_config_Inside_1 : compF Tryz.prog n_config_Inside_1 = some F_config_Inside_1 := by kernel_rfl
theorem c_interval_Has : compF Tryz.prog n_interval_Has = some F_interval_Has := by kernel_rfl
theorem c_config_limits : compF Tryz.prog n_config_limits = some F_config_limits := by kernel_rfl
theorem c_config_small : compF Tryz.prog n_config_small = some F_config_small := by kernel_rfl
theorem c_config_all_api_Joint_api_Interval : compF Tryz.prog n_config_all_api_Joint_api_Interval = some F_config_all_api_Joint_api_Interval := by kernel_rfl
theorem c_config_InsideBox_1 : compF Tryz.prog n_config_InsideBox_1 = some F_config_InsideBox_1 := by kernel_rfl
theorem c_interval_Within : compF Tryz.prog n_interval_Within = some F_interval_Within := by kernel_rfl
theorem c_kinematics_isBox : compF Tryz.prog n_kinematics_isBox = some F_kinematics_isBox := by kernel_rfl
theorem c_kinematics_tree_add : compF Tryz.prog n_kinematics_tree_add = some F_kinematics_tree_add := by kernel_rfl
theorem c_pose_motion : compF Tryz.prog n_pose_motion = some F_pose_motion := by kernel_rfl
theorem c_interval_Of : compF Tryz.prog n_interval_Of = some F_interval_Of := by kernel_rfl
theorem c_robot_isLink : compF Tryz.prog n_robot_isLink = some F_robot_isLink := by kernel_rfl
theorem c_math_bits_Mul64 : compF Tryz.prog n_math_bits_Mul64 = some F_math_bits_Mul64 := by kernel_rfl
theorem c_armplanref6_Name : compF Tryz.prog n_armplanref6_Name = some F_armplanref6_Name := by kernel_rfl
theorem c_armplanref6_reach : compF Tryz.prog n_armplanref6_reach = some F_armplanref6_reach := by kernel_rfl
theorem c_armplanref40_magnitude : compF Tryz.prog n_armplanref40_magnitude = some F_armplanref40_magnitude := by kernel_rfl
theorem c_math_bits_Div64 : compF Tryz.prog n_math_bits_Div64 = some F_math_bits_Div64 := by kernel_rfl
theorem c_robot_checkJoint : compF Tryz.prog n_robot_checkJoint = some F_robot_checkJoint := by kernel_rfl
theorem c_robot_between : compF Tryz.prog n_robot_between = some F_robot_between := by kernel_rfl
theorem c_robot_long : compF Tryz.prog n_robot_long = some F_robot_long := by kernel_rfl
theorem c_interval_Valid : compF Tryz.prog n_interval_Valid = some F_interval_Valid := by kernel_rfl
theorem c_slices_ContainsFunc_sl_int64_int64 : compF Tryz.prog n_slices_ContainsFunc_sl_int64_int64 = some F_slices_ContainsFunc_sl_int64_int64 := by kernel_rfl
theorem c_config_small_1 : compF Tryz.prog n_config_small_1 = some F_config_small_1 := by kernel_rfl
theorem c_interval_both : compF Tryz.prog n_interval_both = some F_interval_both := by kernel_rfl
theorem c_slices_ContainsFunc_sl_api_Interval_api_Interval : compF Tryz.prog n_slices_ContainsFunc_sl_api_Interval_api_Interval = some F_slices_ContainsFunc_sl_api_Interval_api_Interval := by kernel_rfl
theorem c_kinematics_isBox_1 : compF Tryz.prog n_kinematics_isBox_1 = some F_kinematics_isBox_1 := by kernel_rfl
theorem c_kinematics_Joint : compF Tryz.prog n_kinematics_Joint = some F_kinematics_Joint := by kernel_rfl
theorem c_pose_Compose : compF Tryz.prog n_pose_Compose = some F_pose_Compose := by kernel_rfl
theorem c_pose_motion_1 : compF Tryz.prog n_pose_motion_1 = some F_pose_motion_1 := by kernel_rfl
theorem c_matrix_Add : compF Tryz.prog n_matrix_Add = some F_matrix_Add := by kernel_rfl
theorem c_matrix_Apply : compF Tryz.prog n_matrix_Apply = some F_matrix_Apply := by kernel_rfl
theorem c_interval_limit : compF Tryz.prog n_interval_limit = some F_interval_limit := by kernel_rfl
theorem c_math_bits_LeadingZeros64 : compF Tryz.prog n_math_bits_LeadingZeros64 = some F_math_bits_LeadingZeros64 := by kernel_rfl
theorem c_robot_bound : compF Tryz.prog n_robot_bound = some F_robot_bound := by kernel_rfl
theorem c_token_Name : compF Tryz.prog n_token_Name = some F_token_Name := by kernel_rfl
theorem c_robot_place : compF Tryz.prog n_robot_place = some F_robot_place := by kernel_rfl
theorem c_slices_IndexFunc_sl_int64_int64 : compF Tryz.prog n_slices_IndexFunc_sl_int64_int64 = some F_slices_IndexFunc_sl_int64_int64 := by kernel_rfl
theorem c_slices_IndexFunc_sl_api_Interval_api_Interval : compF Tryz.prog n_slices_IndexFunc_sl_api_Interval_api_Interval = some F_slices_IndexFunc_sl_api_Interval_api_Interval := by kernel_rfl
theorem c_kinematics_motionOf : compF Tryz.prog n_kinematics_motionOf = some F_kinematics_motionOf := by kernel_rfl
theorem c_pose_Shift : compF Tryz.prog n_pose_Shift = some F_pose_Shift := by kernel_rfl
theorem c_matrix_Compose : compF Tryz.prog n_matrix_Compose = some F_matrix_Compose := by kernel_rfl
theorem c_interval_Add : compF Tryz.prog n_interval_Add = some F_interval_Add := by kernel_rfl
theorem c_matrix_sum : compF Tryz.prog n_matrix_sum = some F_matrix_sum := by kernel_rfl
theorem c_fixed_Clamp : compF Tryz.prog n_fixed_Clamp = some F_fixed_Clamp := by kernel_rfl
theorem c_math_bits_Len64 : compF Tryz.prog n_math_bits_Len64 = some F_math_bits_Len64 := by kernel_rfl
theorem c_slices_IndexFunc_sl_api_Joint_api_Joint : compF Tryz.prog n_slices_IndexFunc_sl_api_Joint_api_Joint = some F_slices_IndexFunc_sl_api_Joint_api_Joint := by kernel_rfl
theorem c_robot_place_1 : compF Tryz.prog n_robot_place_1 = some F_robot_place_1 := by kernel_rfl
theorem c_pose_Turn : compF Tryz.prog n_pose_Turn = some F_pose_Turn := by kernel_rfl
theorem c_kinematics_slide : compF Tryz.prog n_kinematics_slide = some F_kinematics_slide := by kernel_rfl
theorem c_kinematics_rest : compF Tryz.prog n_kinematics_rest = some F_kinematics_rest := by kernel_rfl
theorem c_matrix_Identity : compF Tryz.prog n_matrix_Identity = some F_matrix_Identity := by kernel_rfl
theorem c_matrix_Transpose : compF Tryz.prog n_matrix_Transpose = some F_matrix_Transpose := by kernel_rfl
theorem c_matrix_limit : compF Tryz.prog n_matrix_limit = some F_matrix_limit := by kernel_rfl
theorem c_interval_Mul : compF Tryz.prog n_interval_Mul = some F_interval_Mul := by kernel_rfl
theorem c_matrix_Turn : compF Tryz.prog n_matrix_Turn = some F_matrix_Turn := by kernel_rfl
theorem c_pose_Identity : compF Tryz.prog n_pose_Identity = some F_pose_Identity := by kernel_rfl
theorem c_matrix_one : compF Tryz.prog n_matrix_one = some F_matrix_one := by kernel_rfl
theorem c_interval_outward : compF Tryz.prog n_interval_outward = some F_interval_outward := by kernel_rfl
theorem c_angle_CosOver : compF Tryz.prog n_angle_CosOver = some F_angle_CosOver := by kernel_rfl
theorem c_angle_SinOver : compF Tryz.prog n_angle_SinOver = some F_angle_SinOver := by kernel_rfl
theorem c_interval_Neg : compF Tryz.prog n_interval_Neg = some F_interval_Neg := by kernel_rfl
theorem c_fixed_ShiftDown : compF Tryz.prog n_fixed_ShiftDown = some F_fixed_ShiftDown := by kernel_rfl
theorem c_fixed_ShiftUp : compF Tryz.prog n_fixed_ShiftUp = some F_fixed_ShiftUp := by kernel_rfl
theorem c_angle_over : compF Tryz.prog n_angle_over = some F_angle_over := by kernel_rfl
theorem c_angle_Cos : compF Tryz.prog n_angle_Cos = some F_angle_Cos := by kernel_rfl
theorem c_angle_Sin : compF Tryz.prog n_angle_Sin = some F_angle_Sin := by kernel_rfl
theorem c_interval_Width : compF Tryz.prog n_interval_Width = some F_interval_Width := by kernel_rfl
theorem c_interval_Hull : compF Tryz.prog n_interval_Hull = some F_interval_Hull := by kernel_rfl
theorem c_angle_meets : compF Tryz.prog n_angle_meets = some F_angle_meets := by kernel_rfl
theorem c_angle_mod : compF Tryz.prog n_angle_mod = some F_angle_mod := by kernel_rfl
theorem c_angle_rising : compF Tryz.prog n_angle_rising = some F_angle_rising := by kernel_rfl
theorem c_angle_sine : compF Tryz.prog n_angle_sine = some F_angle_sine := by kernel_rfl
theorem c_angle_cosine : compF Tryz.prog n_angle_cosine = some F_angle_cosine := by kernel_rfl
theorem c_angle_powersOf : compF Tryz.prog n_angle_powersOf = some F_angle_powersOf := by kernel_rfl
theorem c_angle_total : compF Tryz.prog n_angle_total = some F_angle_total := by kernel_rfl
theorem c_angle_up : compF Tryz.prog n_angle_up = some F_angle_up := by kernel_rfl
theorem c_angle_enclosure : compF Tryz.prog n_angle_enclosure = some F_angle_enclosure := by kernel_rfl
theorem ok : Ok Tryz.prog A := fun f => (ok_lt (ok_lt (ok_lt (ok_lt (ok_lt (ok_lt (ok_lt (ok_leaf c_gosem_cut_init) (ok_leaf c_armplanlaw40_DynamicsSliders)) (ok_lt (ok_leaf c_armplanlaw40_DynamicsRanges) (ok_leaf c_armplanmake_Slider))) (ok_lt (ok_lt (ok_leaf c_armplanmake_Round) (ok_leaf c_dynamics_Torques)) (ok_lt (ok_leaf c_armplanlaw40_awake) (ok_leaf c_armplanref10_Inside)))) (ok_lt (ok_lt (ok_lt (ok_leaf c_armplanlaw40_some) (ok_leaf c_armplanlaw40_ranges)) (ok_lt (ok_leaf c_armplanmake_letter) (ok_leaf c_dynamics_Rates))) (ok_lt (ok_lt (ok_leaf c_config_Piece) (ok_leaf c_dynamics_usable)) (ok_lt (ok_leaf c_dynamics_newModel) (ok_leaf c_dynamics_model_rest))))) (ok_lt (ok_lt (ok_lt (ok_lt (ok_leaf c_dynamics_model_derivatives) (ok_leaf c_dynamics_calculator_add)) (ok_lt (ok_leaf c_dynamics_calculator_times) (ok_leaf c_dynamics_calculator_dot))) (ok_lt (ok_lt (ok_leaf c_armplanlaw40_arm) (ok_leaf c_dynamics_Mul)) (ok_lt (ok_leaf c_armplanref6_CheckRobot) (ok_leaf c_armplanmake_Interval)))) (ok_lt (ok_lt (ok_lt (ok_leaf c_dynamics_Add) (ok_leaf c_armplanref40_AddRange)) (ok_lt (ok_leaf c_armplanref40_MulRange) (ok_leaf c_config_Inside))) (ok_lt (ok_lt (ok_leaf c_dynamics_turns) (ok_leaf c_config_straight)) (ok_lt (ok_leaf c_config_InsideBox) (ok_leaf c_kinematics_Links)))))) (ok_lt (ok_lt (ok_lt (ok_lt (ok_lt (ok_leaf c_dynamics_ranges) (ok_leaf c_pose_Apply)) (ok_lt (ok_leaf c_matrix_Point) (ok_leaf c_robot_Chain))) (ok_lt (ok_lt (ok_leaf c_dynamics_axis) (ok_leaf c_dynamics_negated)) (ok_lt (ok_leaf c_dynamics_calculator_cross) (ok_leaf c_dynamics_calculator_plus)))) (ok_lt (ok_lt (ok_lt (ok_leaf c_dynamics_calculator_mul) (ok_leaf c_dynamics_calculator_keep)) (ok_lt (ok_leaf c_dynamics_isSmall) (ok_leaf c_dynamics_product))) (ok_lt (ok_lt (ok_leaf c_armplanref6_checkJoint) (ok_leaf c_armplanref6_between)) (ok_lt (ok_leaf c_armplanref6_Near) (ok_leaf c_armplanref1_Clamp))))) (ok_lt (ok_lt (ok_lt (ok_lt (ok_leaf c_armplanref40_Small) (ok_leaf c_armplanref40_Times)) (ok_lt (ok_leaf c_armplanref40_Wide_Over) (ok_leaf c_armplanref40_Wide_Int))) (ok_lt (ok_lt (ok_leaf c_robot_Check) (ok_leaf c_config_all_api_Joint_int64)) (ok_lt (ok_leaf c_config_Inside_1) (ok_leaf c_interval_Has)))) (ok_lt (ok_lt (ok_lt (ok_leaf c_config_limits) (ok_leaf c_config_small)) (ok_lt (ok_leaf c_config_all_api_Joint_api_Interval) (ok_leaf c_config_InsideBox_1))) (ok_lt (ok_lt (ok_leaf c_interval_Within) (ok_leaf c_kinematics_isBox)) (ok_lt (ok_leaf c_kinematics_tree_add) (ok_lt (ok_leaf c_pose_motion) (ok_leaf c_interval_Of)))))))) (ok_lt (ok_lt (ok_lt (ok_lt (ok_lt (ok_lt (ok_leaf c_robot_isLink) (ok_leaf c_math_bits_Mul64)) (ok_lt (ok_leaf c_armplanref6_Name) (ok_leaf c_armplanref6_reach))) (ok_lt (ok_lt (ok_leaf c_armplanref40_magnitude) (ok_leaf c_math_bits_Div64)) (ok_lt (ok_leaf c_robot_checkJoint) (ok_leaf c_robot_between)))) (ok_lt (ok_lt (ok_lt (ok_leaf c_robot_long) (ok_leaf c_interval_Valid)) (ok_lt (ok_leaf c_slices_ContainsFunc_sl_int64_int64) (ok_leaf c_config_small_1))) (ok_lt (ok_lt (ok_leaf c_interval_both) (ok_leaf c_slices_ContainsFunc_sl_api_Interval_api_Interval)) (ok_lt (ok_leaf c_kinematics_isBox_1) (ok_leaf c_kinematics_Joint))))) (ok_lt (ok_lt (ok_lt (ok_lt (ok_leaf c_pose_Compose) (ok_leaf c_pose_motion_1)) (ok_lt (ok_leaf c_matrix_Add) (ok_leaf c_matrix_Apply))) (ok_lt (ok_lt (ok_leaf c_interval_limit) (ok_leaf c_math_bits_LeadingZeros64)) (ok_lt (ok_leaf c_robot_bound) (ok_leaf c_token_Name)))) (ok_lt (ok_lt (ok_lt (ok_leaf c_robot_place) (ok_leaf c_slices_IndexFunc_sl_int64_int64)) (ok_lt (ok_leaf c_slices_IndexFunc_sl_api_Interval_api_Interval) (ok_leaf c_kinematics_motionOf))) (ok_lt (ok_lt (ok_leaf c_pose_Shift) (ok_leaf c_matrix_Compose)) (ok_lt (ok_leaf c_interval_Add) (ok_lt (ok_leaf c_matrix_sum) (ok_leaf c_fixed_Clamp))))))) (ok_lt (ok_lt (ok_lt (ok_lt (ok_lt (ok_leaf c_math_bits_Len64) (ok_leaf c_slices_IndexFunc_sl_api_Joint_api_Joint)) (ok_lt (ok_leaf c_robot_place_1) (ok_leaf c_pose_Turn))) (ok_lt (ok_lt (ok_leaf c_kinematics_slide) (ok_leaf c_kinematics_rest)) (ok_lt (ok_leaf c_matrix_Identity) (ok_leaf c_matrix_Transpose)))) (ok_lt (ok_lt (ok_lt (ok_leaf c_matrix_limit) (ok_leaf c_interval_Mul)) (ok_lt (ok_leaf c_matrix_Turn) (ok_leaf c_pose_Identity))) (ok_lt (ok_lt (ok_leaf c_matrix_one) (ok_leaf c_interval_outward)) (ok_lt (ok_leaf c_angle_CosOver) (ok_leaf c_angle_SinOver))))) (ok_lt (ok_lt (ok_lt (ok_lt (ok_leaf c_interval_Neg) (ok_leaf c_fixed_ShiftDown)) (ok_lt (ok_leaf c_fixed_ShiftUp) (ok_leaf c_angle_over))) (ok_lt (ok_lt (ok_leaf c_angle_Cos) (ok_leaf c_angle_Sin)) (ok_lt (ok_leaf c_interval_Width) (ok_leaf c_interval_Hull)))) (ok_lt (ok_lt (ok_lt (ok_leaf c_angle_meets) (ok_leaf c_angle_mod)) (ok_lt (ok_leaf c_angle_rising) (ok_leaf c_angle_sine))) (ok_lt (ok_lt (ok_leaf c_angle_cosine) (ok_leaf c_angle_powersOf)) (ok_lt (ok_leaf c_angle_total) (ok_lt (ok_leaf c_angle_up) (ok_leaf c_angle_enclosure)))))))))
theorem good : Good Tryz.prog := ⟨by kernel_rfl, ok⟩
end Go.Bx.S

