/-
  A part of the proof: Dy Prog.
-/
import Derived.Test.YtklmapfmilefhaaGreatAxComp
import Derived.KernelRfl
set_option linter.unusedSimpArgs false
set_option linter.unusedVariables false
set_option linter.unusedSectionVars false
namespace Go.Ax.Dy
open Go Go.Ax
set_option maxRecDepth 100000
/-! function 2: gosem.cut.init -/
def F2.r0 : List AOper := [
  ⟨(some 0), .call (.func 1) [], none, []⟩]
def F2 : AFunc := ⟨(.region F2.r0),
  []⟩
/-! function 3: armplan/armplanlaw40.DynamicsEncloses -/
def F3.r0 : List AOper := [
  ⟨(some 16), .mv (.const (.bool false)), none, []⟩]
def F3.r1 : List AOper := [
  ⟨(some 29), .mv (.tmp 0), none, []⟩,
  ⟨(some 30), .mv (.tmp 1), none, []⟩,
  ⟨(some 31), .mv (.tmp 6), none, []⟩,
  ⟨(some 32), .call (.func 5) [(.tmp 29), (.tmp 30), (.tmp 31)], none, []⟩,
  ⟨(some 33), .mv (.tmp 2), none, []⟩,
  ⟨(some 34), .mv (.tmp 3), none, []⟩,
  ⟨(some 35), .mv (.tmp 7), none, []⟩,
  ⟨(some 36), .call (.func 5) [(.tmp 33), (.tmp 34), (.tmp 35)], none, []⟩,
  ⟨(some 17), .alloc 23 [(.int .i64 0), (.int .i64 0)], none, []⟩,
  ⟨(some 18), .alloc 23 [(.int .i64 0), (.int .i64 0)], none, []⟩,
  ⟨none, .store 2 (.tmp 17) (.tmp 32), none, []⟩,
  ⟨none, .store 2 (.tmp 18) (.tmp 36), none, []⟩]
def F3.r2 : List AOper := [
  ⟨(some 38), .load (some 2) (.tmp 17), none, []⟩,
  ⟨(some 39), .load (some 2) (.tmp 18), none, []⟩,
  ⟨(some 40), .call (.func 6) [(.tmp 38), (.tmp 39)], none, []⟩,
  ⟨(some 37), .mv (.tmp 40), none, []⟩,
  ⟨(some 41), .ext (.tmp 37) 0, none, []⟩,
  ⟨(some 42), .ext (.tmp 37) 1, none, []⟩,
  ⟨(some 19), .alloc 23 [(.int .i64 0), (.int .i64 0)], none, []⟩,
  ⟨none, .store 2 (.tmp 19) (.tmp 41), none, []⟩,
  ⟨(some 20), .mv (.tmp 42), none, []⟩]
def F3.r3 : List AOper := [
  ⟨(some 44), .load (some 2) (.tmp 17), none, []⟩,
  ⟨(some 45), .load (some 2) (.tmp 18), none, []⟩,
  ⟨(some 46), .call (.func 7) [(.tmp 44), (.tmp 45)], none, []⟩,
  ⟨(some 43), .mv (.tmp 46), none, []⟩,
  ⟨(some 47), .ext (.tmp 43) 0, none, []⟩,
  ⟨(some 48), .ext (.tmp 43) 1, none, []⟩,
  ⟨(some 21), .alloc 23 [(.int .i64 0), (.int .i64 0)], none, []⟩,
  ⟨none, .store 2 (.tmp 21) (.tmp 47), none, []⟩,
  ⟨(some 22), .mv (.tmp 48), none, []⟩]
def F3.r4 : List AOper := [
  ⟨(some 49), .fieldAddr 0 (.tmp 17), none, []⟩,
  ⟨(some 50), .load none (.tmp 49), none, [3, 15]⟩,
  ⟨(some 51), .mv (.tmp 4), none, []⟩,
  ⟨(some 52), .call (.func 8) [(.tmp 51), (.const (.int .i64 1073741824))], none, []⟩,
  ⟨(some 53), .fieldAddr 1 (.tmp 17), none, []⟩,
  ⟨(some 54), .load none (.tmp 53), none, [3, 15]⟩,
  ⟨(some 55), .fieldAddr 0 (.tmp 17), none, []⟩,
  ⟨(some 56), .load none (.tmp 55), none, [3, 15]⟩,
  ⟨(some 57), .bin .sub .no (.tmp 54) (.tmp 56), none, []⟩,
  ⟨(some 58), .bin .add .no (.tmp 57) (.const (.int .i64 1)), none, []⟩,
  ⟨(some 59), .bin .rem .no (.tmp 52) (.tmp 58), none, []⟩,
  ⟨(some 60), .bin .add .no (.tmp 50) (.tmp 59), none, []⟩,
  ⟨(some 61), .fieldAddr 0 (.tmp 18), none, []⟩,
  ⟨(some 62), .load none (.tmp 61), none, [3, 15]⟩,
  ⟨(some 63), .mv (.tmp 5), none, []⟩,
  ⟨(some 64), .call (.func 8) [(.tmp 63), (.const (.int .i64 1073741824))], none, []⟩,
  ⟨(some 65), .fieldAddr 1 (.tmp 18), none, []⟩,
  ⟨(some 66), .load none (.tmp 65), none, [3, 15]⟩,
  ⟨(some 67), .fieldAddr 0 (.tmp 18), none, []⟩,
  ⟨(some 68), .load none (.tmp 67), none, [3, 15]⟩,
  ⟨(some 69), .bin .sub .no (.tmp 66) (.tmp 68), none, []⟩,
  ⟨(some 70), .bin .add .no (.tmp 69) (.const (.int .i64 1)), none, []⟩,
  ⟨(some 71), .bin .rem .no (.tmp 64) (.tmp 70), none, []⟩,
  ⟨(some 72), .bin .add .no (.tmp 62) (.tmp 71), none, []⟩,
  ⟨(some 23), .mv (.tmp 60), none, []⟩,
  ⟨(some 24), .mv (.tmp 72), none, []⟩]
def F3.r5 : List AOper := [
  ⟨(some 73), .mv (.tmp 23), none, []⟩,
  ⟨(some 74), .mv (.tmp 23), none, []⟩,
  ⟨(some 75), .build [(.int .i64 0), (.int .i64 0)] [(0, 1, (.tmp 73)), (1, 1, (.tmp 74))], none, []⟩,
  ⟨(some 25), .alloc 23 [(.int .i64 0), (.int .i64 0)], none, []⟩,
  ⟨none, .store 2 (.tmp 25) (.tmp 75), none, []⟩]
def F3.r6 : List AOper := [
  ⟨(some 76), .mv (.tmp 24), none, []⟩,
  ⟨(some 77), .mv (.tmp 24), none, []⟩,
  ⟨(some 78), .build [(.int .i64 0), (.int .i64 0)] [(0, 1, (.tmp 76)), (1, 1, (.tmp 77))], none, []⟩,
  ⟨(some 26), .alloc 23 [(.int .i64 0), (.int .i64 0)], none, []⟩,
  ⟨none, .store 2 (.tmp 26) (.tmp 78), none, []⟩]
def F3.r7 : List AOper := [
  ⟨(some 80), .load (some 2) (.tmp 25), none, []⟩,
  ⟨(some 81), .load (some 2) (.tmp 26), none, []⟩,
  ⟨(some 82), .call (.func 6) [(.tmp 80), (.tmp 81)], none, []⟩,
  ⟨(some 79), .mv (.tmp 82), none, []⟩,
  ⟨(some 83), .ext (.tmp 79) 0, none, []⟩,
  ⟨(some 84), .ext (.tmp 79) 1, none, []⟩,
  ⟨(some 27), .alloc 23 [(.int .i64 0), (.int .i64 0)], none, []⟩,
  ⟨none, .store 2 (.tmp 27) (.tmp 83), none, []⟩,
  ⟨(some 28), .mv (.tmp 84), none, []⟩]
def F3.r8 : List AOper := [
  ⟨(some 85), .mv (.tmp 20), none, []⟩,
  ⟨(some 86), .mv (.tmp 85), none, []⟩,
  ⟨(some 87), .mv (.tmp 28), some ((some 86), true), []⟩,
  ⟨(some 88), .un .not (.tmp 87), some ((some 86), true), []⟩,
  ⟨(some 89), .mv (.tmp 88), some ((some 86), true), []⟩,
  ⟨(some 90), .load (some 2) (.tmp 27), some ((some 89), false), []⟩,
  ⟨(some 91), .load (some 2) (.tmp 19), some ((some 89), false), []⟩,
  ⟨(some 92), .call (.func 9) [(.tmp 90), (.tmp 91)], some ((some 89), false), []⟩,
  ⟨(some 93), .un .not (.tmp 92), some ((some 89), false), []⟩,
  ⟨(some 94), .pick (.tmp 89) (.const (.bool true)) (.tmp 93), some ((some 86), true), []⟩,
  ⟨(some 95), .mv (.tmp 94), some ((some 86), true), []⟩,
  ⟨(some 96), .fieldAddr 1 (.tmp 27), some ((some 95), false), []⟩,
  ⟨(some 97), .load none (.tmp 96), some ((some 95), false), []⟩,
  ⟨(some 98), .fieldAddr 0 (.tmp 27), some ((some 95), false), []⟩,
  ⟨(some 99), .load none (.tmp 98), some ((some 95), false), []⟩,
  ⟨(some 100), .bin .sub .no (.tmp 97) (.tmp 99), some ((some 95), false), []⟩,
  ⟨(some 101), .bin .gtr .no (.tmp 100) (.const (.int .i64 1)), some ((some 95), false), []⟩,
  ⟨(some 102), .pick (.tmp 95) (.const (.bool true)) (.tmp 101), some ((some 86), true), []⟩,
  ⟨(some 103), .pick (.tmp 86) (.tmp 102) (.const (.bool false)), none, []⟩]
def F3.r9 : List AOper := [
  ⟨(some 16), .mv (.const (.bool false)), none, []⟩]
def F3.r10 : List AOper := [
  ⟨(some 104), .call (.func 10) [], none, []⟩,
  ⟨(some 105), .mv (.tmp 104), none, []⟩,
  ⟨(some 106), .mv (.tmp 22), some ((some 105), true), []⟩,
  ⟨(some 107), .un .not (.tmp 106), some ((some 105), true), []⟩,
  ⟨(some 108), .mv (.tmp 107), some ((some 105), true), []⟩,
  ⟨(some 109), .fieldAddr 0 (.tmp 21), some ((some 108), false), []⟩,
  ⟨(some 110), .load none (.tmp 109), some ((some 108), false), []⟩,
  ⟨(some 111), .mv (.tmp 23), some ((some 108), false), []⟩,
  ⟨(some 112), .mv (.tmp 24), some ((some 108), false), []⟩,
  ⟨(some 113), .bin .add .no (.tmp 111) (.tmp 112), some ((some 108), false), []⟩,
  ⟨(some 114), .bin .leq .no (.tmp 110) (.tmp 113), some ((some 108), false), []⟩,
  ⟨(some 115), .mv (.tmp 114), some ((some 108), false), []⟩,
  ⟨(some 116), .mv (.tmp 23), some ((some 115), true), []⟩,
  ⟨(some 117), .mv (.tmp 24), some ((some 115), true), []⟩,
  ⟨(some 118), .bin .add .no (.tmp 116) (.tmp 117), some ((some 115), true), []⟩,
  ⟨(some 119), .fieldAddr 1 (.tmp 21), some ((some 115), true), []⟩,
  ⟨(some 120), .load none (.tmp 119), some ((some 115), true), []⟩,
  ⟨(some 121), .bin .leq .no (.tmp 118) (.tmp 120), some ((some 115), true), []⟩,
  ⟨(some 122), .pick (.tmp 115) (.tmp 121) (.const (.bool false)), some ((some 108), false), []⟩,
  ⟨(some 123), .pick (.tmp 108) (.const (.bool true)) (.tmp 122), some ((some 105), true), []⟩,
  ⟨(some 124), .pick (.tmp 105) (.tmp 123) (.const (.bool false)), none, []⟩,
  ⟨(some 16), .mv (.tmp 124), none, []⟩]
def F3 : AFunc := ⟨(.seq (.region F3.r0) (.seq (.region F3.r1) (.seq (.region F3.r2) (.seq (.region F3.r3) (.seq (.dregion F3.r4) (.seq (.region F3.r5) (.seq (.region F3.r6) (.seq (.region F3.r7) (.seq (.seq (.region F3.r8) (.cond (.tmp 103) (.seq (.region F3.r9) .ret) .skip)) (.seq (.region F3.r10) .ret)))))))))),
  [.inl 16]⟩
/-! function 4: armplan/armplanlaw40.DynamicsMonotone -/
def F4.r0 : List AOper := [
  ⟨(some 18), .mv (.const (.bool false)), none, []⟩]
def F4.r1 : List AOper := [
  ⟨(some 31), .mv (.tmp 0), none, []⟩,
  ⟨(some 32), .call (.func 11) [(.tmp 31)], none, []⟩,
  ⟨(some 19), .alloc 35 [(.slice none 0 0), (.slice none 0 0)], none, []⟩,
  ⟨none, .store 2 (.tmp 19) (.tmp 32), none, []⟩]
def F4.r2 : List AOper := [
  ⟨(some 33), .load (some 2) (.tmp 19), none, []⟩,
  ⟨(some 34), .mv (.tmp 1), none, []⟩,
  ⟨(some 35), .call (.func 12) [(.tmp 33), (.tmp 34)], none, []⟩,
  ⟨(some 36), .load (some 2) (.tmp 19), none, [2]⟩,
  ⟨(some 37), .mv (.tmp 2), none, []⟩,
  ⟨(some 38), .call (.func 12) [(.tmp 36), (.tmp 37)], none, []⟩,
  ⟨(some 39), .mv (.tmp 3), none, []⟩,
  ⟨(some 40), .mv (.tmp 4), none, []⟩,
  ⟨(some 41), .mv (.tmp 5), none, []⟩,
  ⟨(some 42), .call (.func 13) [(.tmp 39), (.tmp 40), (.tmp 41)], none, []⟩,
  ⟨(some 22), .alloc 40 [(.int .i64 0), (.int .i64 0), (.int .i64 0)], none, []⟩,
  ⟨(some 20), .mv (.tmp 35), none, []⟩,
  ⟨(some 21), .mv (.tmp 38), none, []⟩,
  ⟨none, .store 3 (.tmp 22) (.tmp 42), none, []⟩]
def F4.r3 : List AOper := [
  ⟨(some 43), .mv (.tmp 6), none, []⟩,
  ⟨(some 44), .call (.func 8) [(.tmp 43), (.const (.int .i64 5))], none, []⟩,
  ⟨(some 45), .mv (.tmp 7), none, []⟩,
  ⟨(some 46), .call (.func 8) [(.tmp 45), (.const (.int .i64 5))], none, []⟩,
  ⟨(some 23), .mv (.tmp 44), none, []⟩,
  ⟨(some 24), .mv (.tmp 46), none, []⟩]
def F4.r4 : List AOper := [
  ⟨(some 47), .mv (.tmp 8), none, []⟩,
  ⟨(some 48), .mv (.tmp 23), none, []⟩,
  ⟨(some 49), .mv (.tmp 24), none, []⟩,
  ⟨(some 50), .bin .add .no (.tmp 48) (.tmp 49), none, []⟩,
  ⟨(some 51), .conv .u64 (.tmp 50), none, []⟩,
  ⟨(some 52), .bin .shl .no (.const (.int .i64 1)) (.tmp 51), none, []⟩,
  ⟨(some 53), .call (.func 8) [(.tmp 47), (.tmp 52)], none, []⟩,
  ⟨(some 25), .mv (.tmp 53), none, []⟩]
def F4.r5 : List AOper := [
  ⟨(some 55), .load (some 2) (.tmp 19), none, []⟩,
  ⟨(some 56), .load (some 3) (.tmp 22), none, []⟩,
  ⟨(some 57), .mv (.tmp 20), none, []⟩,
  ⟨(some 58), .mv (.tmp 21), none, []⟩,
  ⟨(some 59), .mv (.tmp 23), none, []⟩,
  ⟨(some 60), .mv (.tmp 25), none, []⟩,
  ⟨(some 61), .mv (.tmp 24), none, []⟩,
  ⟨(some 62), .conv .u64 (.tmp 61), none, []⟩,
  ⟨(some 63), .bin .shr .no (.tmp 60) (.tmp 62), none, []⟩,
  ⟨(some 64), .call (.func 14) [(.tmp 55), (.tmp 56), (.tmp 57), (.tmp 58), (.tmp 59), (.tmp 63)], none, []⟩,
  ⟨(some 54), .mv (.tmp 64), none, []⟩,
  ⟨(some 65), .ext (.tmp 54) 0, none, []⟩,
  ⟨(some 66), .ext (.tmp 54) 1, none, []⟩,
  ⟨(some 26), .mv (.tmp 65), none, []⟩,
  ⟨(some 27), .mv (.tmp 66), none, []⟩]
def F4.r6 : List AOper := [
  ⟨(some 68), .load (some 2) (.tmp 19), none, []⟩,
  ⟨(some 69), .load (some 3) (.tmp 22), none, []⟩,
  ⟨(some 70), .mv (.tmp 20), none, []⟩,
  ⟨(some 71), .mv (.tmp 21), none, []⟩,
  ⟨(some 72), .mv (.tmp 23), none, []⟩,
  ⟨(some 73), .mv (.tmp 24), none, []⟩,
  ⟨(some 74), .bin .add .no (.tmp 72) (.tmp 73), none, []⟩,
  ⟨(some 75), .mv (.tmp 25), none, []⟩,
  ⟨(some 76), .call (.func 14) [(.tmp 68), (.tmp 69), (.tmp 70), (.tmp 71), (.tmp 74), (.tmp 75)], none, []⟩,
  ⟨(some 67), .mv (.tmp 76), none, []⟩,
  ⟨(some 77), .ext (.tmp 67) 0, none, []⟩,
  ⟨(some 78), .ext (.tmp 67) 1, none, []⟩,
  ⟨(some 28), .mv (.tmp 77), none, []⟩,
  ⟨(some 29), .mv (.tmp 78), none, []⟩]
def F4.r7 : List AOper := [
  ⟨(some 79), .mv (.tmp 27), none, []⟩,
  ⟨(some 80), .un .not (.tmp 79), none, []⟩]
def F4.r8 : List AOper := [
  ⟨(some 81), .call (.func 10) [], none, []⟩,
  ⟨(some 18), .mv (.tmp 81), none, []⟩]
def F4.r9 : List AOper := [
  ⟨(some 82), .mv (.tmp 29), none, []⟩,
  ⟨(some 83), .un .not (.tmp 82), none, []⟩,
  ⟨(some 84), .mv (.tmp 83), none, []⟩,
  ⟨(some 85), .mv (.tmp 26), some ((some 84), false), []⟩,
  ⟨(some 86), .lenO false (.tmp 85), some ((some 84), false), []⟩,
  ⟨(some 87), .mv (.tmp 20), some ((some 84), false), []⟩,
  ⟨(some 88), .lenO false (.tmp 87), some ((some 84), false), []⟩,
  ⟨(some 89), .bin .neq .no (.tmp 86) (.tmp 88), some ((some 84), false), []⟩,
  ⟨(some 90), .pick (.tmp 84) (.const (.bool true)) (.tmp 89), none, []⟩,
  ⟨(some 91), .mv (.tmp 90), none, []⟩,
  ⟨(some 92), .mv (.tmp 28), some ((some 91), false), []⟩,
  ⟨(some 93), .lenO false (.tmp 92), some ((some 91), false), []⟩,
  ⟨(some 94), .mv (.tmp 20), some ((some 91), false), []⟩,
  ⟨(some 95), .lenO false (.tmp 94), some ((some 91), false), []⟩,
  ⟨(some 96), .bin .neq .no (.tmp 93) (.tmp 95), some ((some 91), false), []⟩,
  ⟨(some 97), .pick (.tmp 91) (.const (.bool true)) (.tmp 96), none, []⟩]
def F4.r10 : List AOper := [
  ⟨(some 18), .mv (.const (.bool false)), none, []⟩]
def F4.r11 : List AOper := [
  ⟨(some 30), .mv (.const (.int .i64 0)), none, []⟩]
def F4.r12 : List AOper := [
  ⟨(some 98), .mv (.tmp 30), none, []⟩,
  ⟨(some 99), .mv (.tmp 20), none, []⟩,
  ⟨(some 100), .lenO false (.tmp 99), none, []⟩,
  ⟨(some 101), .bin .lss .no (.tmp 98) (.tmp 100), none, []⟩]
def F4.r13 : List AOper := [
  ⟨(some 104), .mv (.tmp 28), none, []⟩,
  ⟨(some 105), .mv (.tmp 30), none, []⟩,
  ⟨(some 106), .idxAddr none 6 (.tmp 104) (.tmp 105), none, []⟩,
  ⟨(some 107), .fieldAddr 0 (.tmp 106), none, []⟩,
  ⟨(some 108), .load (some 2) (.tmp 107), none, []⟩,
  ⟨(some 109), .mv (.tmp 26), none, []⟩,
  ⟨(some 110), .mv (.tmp 30), none, []⟩,
  ⟨(some 111), .idxAddr none 6 (.tmp 109) (.tmp 110), none, []⟩,
  ⟨(some 112), .fieldAddr 0 (.tmp 111), none, []⟩,
  ⟨(some 113), .load (some 2) (.tmp 112), none, []⟩,
  ⟨(some 114), .call (.func 9) [(.tmp 108), (.tmp 113)], none, []⟩,
  ⟨(some 115), .un .not (.tmp 114), none, []⟩,
  ⟨(some 116), .mv (.tmp 115), none, []⟩,
  ⟨(some 117), .mv (.tmp 28), some ((some 116), false), []⟩,
  ⟨(some 118), .mv (.tmp 30), some ((some 116), false), []⟩,
  ⟨(some 119), .idxAddr none 6 (.tmp 117) (.tmp 118), some ((some 116), false), []⟩,
  ⟨(some 120), .fieldAddr 2 (.tmp 119), some ((some 116), false), []⟩,
  ⟨(some 121), .load (some 2) (.tmp 120), some ((some 116), false), []⟩,
  ⟨(some 122), .mv (.tmp 26), some ((some 116), false), []⟩,
  ⟨(some 123), .mv (.tmp 30), some ((some 116), false), []⟩,
  ⟨(some 124), .idxAddr none 6 (.tmp 122) (.tmp 123), some ((some 116), false), []⟩,
  ⟨(some 125), .fieldAddr 2 (.tmp 124), some ((some 116), false), []⟩,
  ⟨(some 126), .load (some 2) (.tmp 125), some ((some 116), false), []⟩,
  ⟨(some 127), .call (.func 9) [(.tmp 121), (.tmp 126)], some ((some 116), false), []⟩,
  ⟨(some 128), .un .not (.tmp 127), some ((some 116), false), []⟩,
  ⟨(some 129), .pick (.tmp 116) (.const (.bool true)) (.tmp 128), none, []⟩,
  ⟨(some 130), .mv (.tmp 129), none, []⟩,
  ⟨(some 131), .mv (.tmp 28), some ((some 130), false), []⟩,
  ⟨(some 132), .mv (.tmp 30), some ((some 130), false), []⟩,
  ⟨(some 133), .idxAddr none 6 (.tmp 131) (.tmp 132), some ((some 130), false), []⟩,
  ⟨(some 134), .fieldAddr 4 (.tmp 133), some ((some 130), false), []⟩,
  ⟨(some 135), .load (some 2) (.tmp 134), some ((some 130), false), []⟩,
  ⟨(some 136), .mv (.tmp 26), some ((some 130), false), []⟩,
  ⟨(some 137), .mv (.tmp 30), some ((some 130), false), []⟩,
  ⟨(some 138), .idxAddr none 6 (.tmp 136) (.tmp 137), some ((some 130), false), []⟩,
  ⟨(some 139), .fieldAddr 4 (.tmp 138), some ((some 130), false), []⟩,
  ⟨(some 140), .load (some 2) (.tmp 139), some ((some 130), false), []⟩,
  ⟨(some 141), .call (.func 9) [(.tmp 135), (.tmp 140)], some ((some 130), false), []⟩,
  ⟨(some 142), .un .not (.tmp 141), some ((some 130), false), []⟩,
  ⟨(some 143), .pick (.tmp 130) (.const (.bool true)) (.tmp 142), none, []⟩]
def F4.r14 : List AOper := [
  ⟨(some 18), .mv (.const (.bool false)), none, []⟩]
def F4.r15 : List AOper := [
  ⟨(some 102), .mv (.tmp 30), none, []⟩,
  ⟨(some 103), .bin .add .no (.tmp 102) (.const (.int .i64 1)), none, []⟩,
  ⟨(some 30), .mv (.tmp 103), none, []⟩]
def F4.l0 : ACode := (.seq (.seq (.region F4.r12) (.cond (.tmp 101) .skip (.exit 0))) (.seq (.block 1 (.seq (.dregion F4.r13) (.cond (.tmp 143) (.seq (.region F4.r14) .ret) .skip))) (.region F4.r15)))
def F4.r16 : List AOper := [
  ⟨(some 144), .call (.func 10) [], none, []⟩,
  ⟨(some 18), .mv (.tmp 144), none, []⟩]
def F4 : AFunc := ⟨(.seq (.region F4.r0) (.seq (.region F4.r1) (.seq (.dregion F4.r2) (.seq (.region F4.r3) (.seq (.region F4.r4) (.seq (.region F4.r5) (.seq (.region F4.r6) (.seq (.seq (.region F4.r7) (.cond (.tmp 80) (.seq (.region F4.r8) .ret) .skip)) (.seq (.seq (.region F4.r9) (.cond (.tmp 97) (.seq (.region F4.r10) .ret) .skip)) (.seq (.seq (.region F4.r11) (.block 0 (.loop F4.l0))) (.seq (.region F4.r16) .ret))))))))))),
  [.inl 18]⟩
/-! function 5: armplan/armplanlaw40.some -/
def F5.r0 : List AOper := [
  ⟨(some 6), .alloc 23 [(.int .i64 0), (.int .i64 0)], none, []⟩]
def F5.r1 : List AOper := [
  ⟨(some 9), .mv (.tmp 0), none, []⟩,
  ⟨(some 10), .mv (.tmp 1), none, []⟩,
  ⟨(some 11), .call (.func 15) [(.tmp 9), (.tmp 10)], none, []⟩,
  ⟨(some 7), .alloc 49 [(.int .i64 0), (.int .i64 0)], none, []⟩,
  ⟨none, .store 2 (.tmp 7) (.tmp 11), none, []⟩]
def F5.r2 : List AOper := [
  ⟨(some 12), .mv (.tmp 2), none, []⟩,
  ⟨(some 13), .call (.func 8) [(.tmp 12), (.const (.int .i64 30))], none, []⟩,
  ⟨(some 14), .conv .u64 (.tmp 13), none, []⟩,
  ⟨(some 8), .mv (.tmp 14), none, []⟩]
def F5.r3 : List AOper := [
  ⟨(some 15), .fieldAddr 0 (.tmp 7), none, []⟩,
  ⟨(some 16), .load none (.tmp 15), none, [10]⟩,
  ⟨(some 17), .mv (.tmp 8), none, []⟩,
  ⟨(some 18), .bin .shl .no (.tmp 16) (.tmp 17), none, []⟩,
  ⟨(some 19), .fieldAddr 1 (.tmp 7), none, []⟩,
  ⟨(some 20), .load none (.tmp 19), none, [10]⟩,
  ⟨(some 21), .mv (.tmp 8), none, []⟩,
  ⟨(some 22), .bin .shl .no (.tmp 20) (.tmp 21), none, []⟩,
  ⟨(some 23), .mv (.tmp 2), none, []⟩,
  ⟨(some 24), .bin .shr .no (.tmp 23) (.const (.int .u64 5)), none, []⟩,
  ⟨(some 25), .call (.func 8) [(.tmp 24), (.const (.int .i64 9))], none, []⟩,
  ⟨(some 26), .bin .add .no (.tmp 22) (.tmp 25), none, []⟩,
  ⟨(some 27), .build [(.int .i64 0), (.int .i64 0)] [(0, 1, (.tmp 18)), (1, 1, (.tmp 26))], none, []⟩,
  ⟨none, .store 2 (.tmp 6) (.tmp 27), none, []⟩]
def F5 : AFunc := ⟨(.seq (.region F5.r0) (.seq (.region F5.r1) (.seq (.region F5.r2) (.seq (.dregion F5.r3) .ret)))),
  [.inr (6, (some 2))]⟩
/-! function 6: armplan/dynamics.Mul -/
def F6.r0 : List AOper := [
  ⟨(some 2), .box 23 (.tmp 0), none, []⟩,
  ⟨(some 3), .box 23 (.tmp 1), none, []⟩,
  ⟨(some 4), .alloc 23 [(.int .i64 0), (.int .i64 0)], none, []⟩,
  ⟨(some 5), .mv (.const (.bool false)), none, []⟩]
def F6.r1 : List AOper := [
  ⟨(some 12), .load (some 2) (.tmp 2), none, []⟩,
  ⟨(some 13), .call (.func 16) [(.tmp 12)], none, []⟩,
  ⟨(some 14), .un .not (.tmp 13), none, []⟩,
  ⟨(some 15), .mv (.tmp 14), none, []⟩,
  ⟨(some 16), .load (some 2) (.tmp 3), some ((some 15), false), []⟩,
  ⟨(some 17), .call (.func 16) [(.tmp 16)], some ((some 15), false), []⟩,
  ⟨(some 18), .un .not (.tmp 17), some ((some 15), false), []⟩,
  ⟨(some 19), .pick (.tmp 15) (.const (.bool true)) (.tmp 18), none, []⟩]
def F6.r2 : List AOper := [
  ⟨(some 20), .build [(.int .i64 0), (.int .i64 0)] [], none, []⟩,
  ⟨none, .store 2 (.tmp 4) (.tmp 20), none, []⟩,
  ⟨(some 5), .mv (.const (.bool false)), none, []⟩]
def F6.r3 : List AOper := [
  ⟨(some 6), .alloc 23 [(.int .i64 0), (.int .i64 0)], none, []⟩]
def F6.r4 : List AOper := [
  ⟨(some 21), .fieldAddr 0 (.tmp 2), none, []⟩,
  ⟨(some 22), .load none (.tmp 21), none, []⟩,
  ⟨(some 23), .fieldAddr 0 (.tmp 3), none, []⟩,
  ⟨(some 24), .load none (.tmp 23), none, []⟩,
  ⟨(some 25), .build [(.int .i64 0), (.int .i64 0)] [(0, 1, (.tmp 22)), (1, 1, (.tmp 24))], none, []⟩,
  ⟨(some 26), .fieldAddr 0 (.tmp 2), none, []⟩,
  ⟨(some 27), .load none (.tmp 26), none, []⟩,
  ⟨(some 28), .fieldAddr 1 (.tmp 3), none, []⟩,
  ⟨(some 29), .load none (.tmp 28), none, []⟩,
  ⟨(some 30), .build [(.int .i64 0), (.int .i64 0)] [(0, 1, (.tmp 27)), (1, 1, (.tmp 29))], none, []⟩,
  ⟨(some 31), .fieldAddr 1 (.tmp 2), none, []⟩,
  ⟨(some 32), .load none (.tmp 31), none, []⟩,
  ⟨(some 33), .fieldAddr 0 (.tmp 3), none, []⟩,
  ⟨(some 34), .load none (.tmp 33), none, []⟩,
  ⟨(some 35), .build [(.int .i64 0), (.int .i64 0)] [(0, 1, (.tmp 32)), (1, 1, (.tmp 34))], none, []⟩,
  ⟨(some 36), .fieldAddr 1 (.tmp 2), none, []⟩,
  ⟨(some 37), .load none (.tmp 36), none, []⟩,
  ⟨(some 38), .fieldAddr 1 (.tmp 3), none, []⟩,
  ⟨(some 39), .load none (.tmp 38), none, []⟩,
  ⟨(some 40), .build [(.int .i64 0), (.int .i64 0)] [(0, 1, (.tmp 37)), (1, 1, (.tmp 39))], none, []⟩,
  ⟨(some 41), .build [(.int .i64 0), (.int .i64 0), (.int .i64 0), (.int .i64 0), (.int .i64 0), (.int .i64 0), (.int .i64 0), (.int .i64 0)] [(0, 2, (.tmp 25)), (2, 2, (.tmp 30)), (4, 2, (.tmp 35)), (6, 2, (.tmp 40))], none, []⟩,
  ⟨(some 42), .mv (.const (.int .i64 0)), none, []⟩]
def F6.r5 : List AOper := [
  ⟨(some 43), .bin .lss .no (.tmp 42) (.const (.int .i64 4)), none, []⟩]
def F6.r6 : List AOper := [
  ⟨(some 44), .mv (.tmp 42), none, []⟩,
  ⟨(some 45), .idx 4 2 (some 2) (.tmp 41) (.tmp 42), none, []⟩,
  ⟨(some 8), .alloc 52 [(.int .i64 0), (.int .i64 0)], none, []⟩,
  ⟨(some 7), .mv (.tmp 44), none, []⟩,
  ⟨none, .store 2 (.tmp 8) (.tmp 45), none, []⟩]
def F6.r7 : List AOper := [
  ⟨(some 47), .idxAddr (some 2) 1 (.tmp 8) (.const (.int .i64 0)), none, []⟩,
  ⟨(some 48), .load none (.tmp 47), none, []⟩,
  ⟨(some 49), .idxAddr (some 2) 1 (.tmp 8) (.const (.int .i64 1)), none, []⟩,
  ⟨(some 50), .load none (.tmp 49), none, []⟩,
  ⟨(some 51), .call (.func 17) [(.tmp 48), (.tmp 50)], none, []⟩,
  ⟨(some 46), .mv (.tmp 51), none, []⟩,
  ⟨(some 52), .ext (.tmp 46) 0, none, []⟩,
  ⟨(some 53), .ext (.tmp 46) 1, none, []⟩,
  ⟨(some 54), .ext (.tmp 46) 2, none, []⟩,
  ⟨(some 9), .mv (.tmp 52), none, []⟩,
  ⟨(some 10), .mv (.tmp 53), none, []⟩,
  ⟨(some 11), .mv (.tmp 54), none, []⟩]
def F6.r8 : List AOper := [
  ⟨(some 55), .mv (.tmp 11), none, []⟩,
  ⟨(some 56), .un .not (.tmp 55), none, []⟩]
def F6.r9 : List AOper := [
  ⟨(some 57), .build [(.int .i64 0), (.int .i64 0)] [], none, []⟩,
  ⟨none, .store 2 (.tmp 4) (.tmp 57), none, []⟩,
  ⟨(some 5), .mv (.const (.bool false)), none, []⟩]
def F6.r10 : List AOper := [
  ⟨(some 58), .mv (.tmp 7), none, []⟩,
  ⟨(some 59), .bin .eql .no (.tmp 58) (.const (.int .i64 0)), none, []⟩]
def F6.r11 : List AOper := [
  ⟨(some 60), .mv (.tmp 9), none, []⟩,
  ⟨(some 61), .mv (.tmp 10), none, []⟩,
  ⟨(some 62), .build [(.int .i64 0), (.int .i64 0)] [(0, 1, (.tmp 60)), (1, 1, (.tmp 61))], none, []⟩,
  ⟨none, .store 2 (.tmp 6) (.tmp 62), none, []⟩]
def F6.r12 : List AOper := [
  ⟨(some 63), .fieldAddr 0 (.tmp 6), none, []⟩,
  ⟨(some 64), .load none (.tmp 63), none, []⟩,
  ⟨(some 65), .mv (.tmp 9), none, []⟩,
  ⟨(some 66), .minmax false [(.tmp 64), (.tmp 65)], none, []⟩,
  ⟨(some 67), .fieldAddr 1 (.tmp 6), none, []⟩,
  ⟨(some 68), .load none (.tmp 67), none, []⟩,
  ⟨(some 69), .mv (.tmp 10), none, []⟩,
  ⟨(some 70), .minmax true [(.tmp 68), (.tmp 69)], none, []⟩,
  ⟨(some 71), .fieldAddr 0 (.tmp 6), none, []⟩,
  ⟨none, .store 1 (.tmp 71) (.tmp 66), none, []⟩,
  ⟨(some 72), .fieldAddr 1 (.tmp 6), none, []⟩,
  ⟨none, .store 1 (.tmp 72) (.tmp 70), none, []⟩]
def F6.r13 : List AOper := [
  ⟨(some 73), .bin .add .no (.tmp 42) (.const (.int .i64 1)), none, []⟩,
  ⟨(some 42), .mv (.tmp 73), none, []⟩]
def F6.l0 : ACode := (.seq (.region F6.r5) (.seq (.cond (.tmp 43) .skip (.exit 0)) (.seq (.block 1 (.seq (.region F6.r6) (.seq (.region F6.r7) (.seq (.seq (.region F6.r8) (.cond (.tmp 56) (.seq (.region F6.r9) .ret) .skip)) (.seq (.seq (.region F6.r10) (.cond (.tmp 59) (.region F6.r11) .skip)) (.region F6.r12)))))) (.region F6.r13))))
def F6.r14 : List AOper := [
  ⟨(some 74), .load (some 2) (.tmp 6), none, []⟩,
  ⟨(some 75), .call (.func 16) [(.tmp 74)], none, []⟩,
  ⟨(some 76), .un .not (.tmp 75), none, []⟩]
def F6.r15 : List AOper := [
  ⟨(some 77), .build [(.int .i64 0), (.int .i64 0)] [], none, []⟩,
  ⟨none, .store 2 (.tmp 4) (.tmp 77), none, []⟩,
  ⟨(some 5), .mv (.const (.bool false)), none, []⟩]
def F6.r16 : List AOper := [
  ⟨(some 78), .load (some 2) (.tmp 6), none, []⟩,
  ⟨none, .store 2 (.tmp 4) (.tmp 78), none, []⟩,
  ⟨(some 5), .mv (.const (.bool true)), none, []⟩]
def F6 : AFunc := ⟨(.seq (.region F6.r0) (.seq (.seq (.region F6.r1) (.cond (.tmp 19) (.seq (.region F6.r2) .ret) .skip)) (.seq (.region F6.r3) (.seq (.seq (.region F6.r4) (.block 0 (.loop F6.l0))) (.seq (.seq (.region F6.r14) (.cond (.tmp 76) (.seq (.region F6.r15) .ret) .skip)) (.seq (.region F6.r16) .ret)))))),
  [.inr (4, (some 2)), .inl 5]⟩
/-! function 7: armplan/dynamics.Add -/
def F7.r0 : List AOper := [
  ⟨(some 2), .box 23 (.tmp 0), none, []⟩,
  ⟨(some 3), .box 23 (.tmp 1), none, []⟩,
  ⟨(some 4), .alloc 23 [(.int .i64 0), (.int .i64 0)], none, []⟩,
  ⟨(some 5), .mv (.const (.bool false)), none, []⟩]
def F7.r1 : List AOper := [
  ⟨(some 7), .load (some 2) (.tmp 2), none, []⟩,
  ⟨(some 8), .call (.func 16) [(.tmp 7)], none, []⟩,
  ⟨(some 9), .un .not (.tmp 8), none, []⟩,
  ⟨(some 10), .mv (.tmp 9), none, []⟩,
  ⟨(some 11), .load (some 2) (.tmp 3), some ((some 10), false), []⟩,
  ⟨(some 12), .call (.func 16) [(.tmp 11)], some ((some 10), false), []⟩,
  ⟨(some 13), .un .not (.tmp 12), some ((some 10), false), []⟩,
  ⟨(some 14), .pick (.tmp 10) (.const (.bool true)) (.tmp 13), none, []⟩]
def F7.r2 : List AOper := [
  ⟨(some 15), .build [(.int .i64 0), (.int .i64 0)] [], none, []⟩,
  ⟨none, .store 2 (.tmp 4) (.tmp 15), none, []⟩,
  ⟨(some 5), .mv (.const (.bool false)), none, []⟩]
def F7.r3 : List AOper := [
  ⟨(some 16), .fieldAddr 0 (.tmp 2), none, []⟩,
  ⟨(some 17), .load none (.tmp 16), none, []⟩,
  ⟨(some 18), .fieldAddr 0 (.tmp 3), none, []⟩,
  ⟨(some 19), .load none (.tmp 18), none, []⟩,
  ⟨(some 20), .bin .add .no (.tmp 17) (.tmp 19), none, []⟩,
  ⟨(some 21), .fieldAddr 1 (.tmp 2), none, []⟩,
  ⟨(some 22), .load none (.tmp 21), none, []⟩,
  ⟨(some 23), .fieldAddr 1 (.tmp 3), none, []⟩,
  ⟨(some 24), .load none (.tmp 23), none, []⟩,
  ⟨(some 25), .bin .add .no (.tmp 22) (.tmp 24), none, []⟩,
  ⟨(some 26), .build [(.int .i64 0), (.int .i64 0)] [(0, 1, (.tmp 20)), (1, 1, (.tmp 25))], none, []⟩,
  ⟨(some 6), .alloc 23 [(.int .i64 0), (.int .i64 0)], none, []⟩,
  ⟨none, .store 2 (.tmp 6) (.tmp 26), none, []⟩]
def F7.r4 : List AOper := [
  ⟨(some 27), .load (some 2) (.tmp 6), none, []⟩,
  ⟨(some 28), .call (.func 16) [(.tmp 27)], none, []⟩,
  ⟨(some 29), .un .not (.tmp 28), none, []⟩]
def F7.r5 : List AOper := [
  ⟨(some 30), .build [(.int .i64 0), (.int .i64 0)] [], none, []⟩,
  ⟨none, .store 2 (.tmp 4) (.tmp 30), none, []⟩,
  ⟨(some 5), .mv (.const (.bool false)), none, []⟩]
def F7.r6 : List AOper := [
  ⟨(some 31), .load (some 2) (.tmp 6), none, []⟩,
  ⟨none, .store 2 (.tmp 4) (.tmp 31), none, []⟩,
  ⟨(some 5), .mv (.const (.bool true)), none, []⟩]
def F7 : AFunc := ⟨(.seq (.region F7.r0) (.seq (.seq (.region F7.r1) (.cond (.tmp 14) (.seq (.region F7.r2) .ret) .skip)) (.seq (.region F7.r3) (.seq (.seq (.region F7.r4) (.cond (.tmp 29) (.seq (.region F7.r5) .ret) .skip)) (.seq (.region F7.r6) .ret))))),
  [.inr (4, (some 2)), .inl 5]⟩
/-! function 8: armplan/armplanmake.Round -/
def F8.r0 : List AOper := [
  ⟨(some 4), .mv (.const (.int .i64 0)), none, []⟩]
def F8.r1 : List AOper := [
  ⟨(some 6), .mv (.tmp 0), none, []⟩,
  ⟨(some 7), .mv (.tmp 1), none, []⟩,
  ⟨(some 8), .bin .rem .no (.tmp 6) (.tmp 7), none, []⟩,
  ⟨(some 5), .mv (.tmp 8), none, []⟩]
def F8.r2 : List AOper := [
  ⟨(some 9), .mv (.tmp 5), none, []⟩,
  ⟨(some 10), .bin .lss .no (.tmp 9) (.const (.int .i64 0)), none, []⟩]
def F8.r3 : List AOper := [
  ⟨(some 11), .mv (.tmp 5), none, []⟩,
  ⟨(some 12), .mv (.tmp 1), none, []⟩,
  ⟨(some 13), .bin .add .no (.tmp 11) (.tmp 12), none, []⟩,
  ⟨(some 5), .mv (.tmp 13), none, []⟩]
def F8.r4 : List AOper := [
  ⟨(some 14), .mv (.tmp 5), none, []⟩,
  ⟨(some 4), .mv (.tmp 14), none, []⟩]
def F8 : AFunc := ⟨(.seq (.region F8.r0) (.seq (.region F8.r1) (.seq (.seq (.region F8.r2) (.cond (.tmp 10) (.region F8.r3) .skip)) (.seq (.region F8.r4) .ret)))),
  [.inl 4]⟩
/-! function 9: armplan/armplanlaw40.within -/
def F9.r0 : List AOper := [
  ⟨(some 2), .box 23 (.tmp 0), none, []⟩,
  ⟨(some 3), .box 23 (.tmp 1), none, []⟩,
  ⟨(some 4), .mv (.const (.bool false)), none, []⟩]
def F9.r1 : List AOper := [
  ⟨(some 5), .fieldAddr 0 (.tmp 3), none, []⟩,
  ⟨(some 6), .load none (.tmp 5), none, []⟩,
  ⟨(some 7), .fieldAddr 0 (.tmp 2), none, []⟩,
  ⟨(some 8), .load none (.tmp 7), none, []⟩,
  ⟨(some 9), .bin .leq .no (.tmp 6) (.tmp 8), none, []⟩,
  ⟨(some 10), .mv (.tmp 9), none, []⟩,
  ⟨(some 11), .fieldAddr 0 (.tmp 2), some ((some 10), true), []⟩,
  ⟨(some 12), .load none (.tmp 11), some ((some 10), true), []⟩,
  ⟨(some 13), .fieldAddr 1 (.tmp 2), some ((some 10), true), []⟩,
  ⟨(some 14), .load none (.tmp 13), some ((some 10), true), []⟩,
  ⟨(some 15), .bin .leq .no (.tmp 12) (.tmp 14), some ((some 10), true), []⟩,
  ⟨(some 16), .pick (.tmp 10) (.tmp 15) (.const (.bool false)), none, []⟩,
  ⟨(some 17), .mv (.tmp 16), none, []⟩,
  ⟨(some 18), .fieldAddr 1 (.tmp 2), some ((some 17), true), []⟩,
  ⟨(some 19), .load none (.tmp 18), some ((some 17), true), []⟩,
  ⟨(some 20), .fieldAddr 1 (.tmp 3), some ((some 17), true), []⟩,
  ⟨(some 21), .load none (.tmp 20), some ((some 17), true), []⟩,
  ⟨(some 22), .bin .leq .no (.tmp 19) (.tmp 21), some ((some 17), true), []⟩,
  ⟨(some 23), .pick (.tmp 17) (.tmp 22) (.const (.bool false)), none, []⟩,
  ⟨(some 4), .mv (.tmp 23), none, []⟩]
def F9 : AFunc := ⟨(.seq (.region F9.r0) (.seq (.region F9.r1) .ret)),
  [.inl 4]⟩
/-! function 10: armplan/armplanlaw40.awake -/
def F10.r0 : List AOper := [
  ⟨(some 0), .mv (.const (.bool false)), none, []⟩]
def F10.r1 : List AOper := [
  ⟨(some 6), .call (.func 18) [(.const (.int .i64 2))], none, []⟩,
  ⟨(some 7), .build [(.int .i64 0), (.int .i64 0), (.int .i64 0)] [], none, []⟩,
  ⟨(some 8), .buildSlice 2 [(.int .i64 0)] 1 [(0, 1, (.const (.int .i64 0)))], none, []⟩,
  ⟨(some 9), .buildSlice 2 [(.int .i64 0)] 1 [(0, 1, (.const (.int .i64 65536)))], none, []⟩,
  ⟨(some 10), .call (.func 14) [(.tmp 6), (.tmp 7), (.tmp 8), (.tmp 9), (.const (.int .i64 6)), (.const (.int .i64 0))], none, []⟩,
  ⟨(some 5), .mv (.tmp 10), none, []⟩,
  ⟨(some 11), .ext (.tmp 5) 0, none, []⟩,
  ⟨(some 12), .ext (.tmp 5) 1, none, []⟩,
  ⟨(some 1), .mv (.tmp 11), none, []⟩,
  ⟨(some 2), .mv (.tmp 12), none, []⟩]
def F10.r2 : List AOper := [
  ⟨(some 14), .build [(.int .i64 0), (.int .i64 0)] [(0, 1, (.const (.int .i64 (-3)))), (1, 1, (.const (.int .i64 2)))], none, []⟩,
  ⟨(some 15), .build [(.int .i64 0), (.int .i64 0)] [(0, 1, (.const (.int .i64 65536))), (1, 1, (.const (.int .i64 131072)))], none, []⟩,
  ⟨(some 16), .call (.func 6) [(.tmp 14), (.tmp 15)], none, []⟩,
  ⟨(some 13), .mv (.tmp 16), none, []⟩,
  ⟨(some 17), .ext (.tmp 13) 0, none, []⟩,
  ⟨(some 18), .ext (.tmp 13) 1, none, []⟩,
  ⟨(some 3), .alloc 23 [(.int .i64 0), (.int .i64 0)], none, []⟩,
  ⟨none, .store 2 (.tmp 3) (.tmp 17), none, []⟩,
  ⟨(some 4), .mv (.tmp 18), none, []⟩]
def F10.r3 : List AOper := [
  ⟨(some 19), .mv (.tmp 2), none, []⟩,
  ⟨(some 20), .mv (.tmp 19), none, []⟩,
  ⟨(some 21), .mv (.tmp 4), some ((some 20), true), []⟩,
  ⟨(some 22), .pick (.tmp 20) (.tmp 21) (.const (.bool false)), none, []⟩,
  ⟨(some 23), .mv (.tmp 22), none, []⟩,
  ⟨(some 24), .mv (.tmp 1), some ((some 23), true), []⟩,
  ⟨(some 25), .lenO false (.tmp 24), some ((some 23), true), []⟩,
  ⟨(some 26), .bin .eql .no (.tmp 25) (.const (.int .i64 1)), some ((some 23), true), []⟩,
  ⟨(some 27), .pick (.tmp 23) (.tmp 26) (.const (.bool false)), none, []⟩,
  ⟨(some 28), .mv (.tmp 27), none, []⟩,
  ⟨(some 29), .mv (.tmp 1), some ((some 28), true), []⟩,
  ⟨(some 30), .idxAddr none 6 (.tmp 29) (.const (.int .i64 0)), some ((some 28), true), []⟩,
  ⟨(some 31), .fieldAddr 0 (.tmp 30), some ((some 28), true), []⟩,
  ⟨(some 32), .fieldAddr 0 (.tmp 31), some ((some 28), true), []⟩,
  ⟨(some 33), .load none (.tmp 32), some ((some 28), true), []⟩,
  ⟨(some 34), .bin .lss .no (.tmp 33) (.const (.int .i64 823549)), some ((some 28), true), []⟩,
  ⟨(some 35), .pick (.tmp 28) (.tmp 34) (.const (.bool false)), none, []⟩,
  ⟨(some 36), .mv (.tmp 35), none, []⟩,
  ⟨(some 37), .mv (.tmp 1), some ((some 36), true), []⟩,
  ⟨(some 38), .idxAddr none 6 (.tmp 37) (.const (.int .i64 0)), some ((some 36), true), []⟩,
  ⟨(some 39), .fieldAddr 0 (.tmp 38), some ((some 36), true), []⟩,
  ⟨(some 40), .fieldAddr 1 (.tmp 39), some ((some 36), true), []⟩,
  ⟨(some 41), .load none (.tmp 40), some ((some 36), true), []⟩,
  ⟨(some 42), .bin .gtr .no (.tmp 41) (.const (.int .i64 823540)), some ((some 36), true), []⟩,
  ⟨(some 43), .pick (.tmp 36) (.tmp 42) (.const (.bool false)), none, []⟩,
  ⟨(some 44), .mv (.tmp 43), none, []⟩,
  ⟨(some 45), .load (some 2) (.tmp 3), some ((some 44), true), []⟩,
  ⟨(some 46), .build [(.int .i64 0), (.int .i64 0)] [(0, 1, (.const (.int .i64 (-6)))), (1, 1, (.const (.int .i64 4)))], some ((some 44), true), []⟩,
  ⟨(some 47), .bin .eql (.flat [.int, .int]) (.tmp 45) (.tmp 46), some ((some 44), true), []⟩,
  ⟨(some 48), .pick (.tmp 44) (.tmp 47) (.const (.bool false)), none, []⟩,
  ⟨(some 0), .mv (.tmp 48), none, []⟩]
def F10 : AFunc := ⟨(.seq (.region F10.r0) (.seq (.region F10.r1) (.seq (.region F10.r2) (.seq (.region F10.r3) .ret)))),
  [.inl 0]⟩
/-! function 11: armplan/armplanmake.Robot -/
def F11.r0 : List AOper := [
  ⟨(some 2), .alloc 35 [(.slice none 0 0), (.slice none 0 0)], none, []⟩]
def F11.r1 : List AOper := [
  ⟨(some 3), .mv (.tmp 0), none, []⟩,
  ⟨(some 4), .call (.func 20) [(.tmp 3)], none, []⟩,
  ⟨(some 5), .call (.func 19) [(.tmp 4)], none, []⟩,
  ⟨none, .store 2 (.tmp 2) (.tmp 5), none, []⟩]
def F11 : AFunc := ⟨(.seq (.region F11.r0) (.seq (.region F11.r1) .ret)),
  [.inr (2, (some 2))]⟩
/-! function 12: armplan/armplanmake.Config -/
def F12.r0 : List AOper := [
  ⟨(some 2), .box 35 (.tmp 0), none, []⟩,
  ⟨(some 4), .mv (.const (.slice none 0 0)), none, []⟩]
def F12.r1 : List AOper := [
  ⟨(some 10), .mv (.tmp 1), none, []⟩,
  ⟨(some 11), .call (.func 20) [(.tmp 10)], none, []⟩,
  ⟨(some 5), .mv (.tmp 11), none, []⟩]
def F12.r2 : List AOper := [
  ⟨(some 6), .mv (.const (.slice none 0 0)), none, []⟩]
def F12.r3 : List AOper := [
  ⟨(some 7), .mv (.const (.int .i64 0)), none, []⟩]
def F12.r4 : List AOper := [
  ⟨(some 12), .mv (.tmp 7), none, []⟩,
  ⟨(some 13), .fieldAddr 0 (.tmp 2), none, []⟩,
  ⟨(some 14), .load none (.tmp 13), none, []⟩,
  ⟨(some 15), .lenO false (.tmp 14), none, []⟩,
  ⟨(some 16), .bin .lss .no (.tmp 12) (.tmp 15), none, []⟩]
def F12.r5 : List AOper := [
  ⟨(some 19), .fieldAddr 0 (.tmp 2), none, []⟩,
  ⟨(some 20), .load none (.tmp 19), none, []⟩,
  ⟨(some 21), .mv (.tmp 7), none, []⟩,
  ⟨(some 22), .idxAddr none 12 (.tmp 20) (.tmp 21), none, []⟩,
  ⟨(some 23), .fieldAddr 6 (.tmp 22), none, []⟩,
  ⟨(some 24), .load none (.tmp 23), none, []⟩,
  ⟨(some 25), .fieldAddr 0 (.tmp 2), none, []⟩,
  ⟨(some 26), .load none (.tmp 25), none, []⟩,
  ⟨(some 27), .mv (.tmp 7), none, []⟩,
  ⟨(some 28), .idxAddr none 12 (.tmp 26) (.tmp 27), none, []⟩,
  ⟨(some 29), .fieldAddr 7 (.tmp 28), none, []⟩,
  ⟨(some 30), .load none (.tmp 29), none, []⟩,
  ⟨(some 8), .mv (.tmp 24), none, []⟩,
  ⟨(some 9), .mv (.tmp 30), none, []⟩]
def F12.r6 : List AOper := [
  ⟨(some 31), .mv (.tmp 5), none, []⟩,
  ⟨(some 32), .call (.func 21) [(.tmp 31), (.const (.int .i64 6))], none, []⟩]
def F12.r7 : List AOper := [
  ⟨(some 45), .bin .eql .no (.tmp 32) (.const (.int .i64 0)), none, []⟩,
  ⟨(some 44), .mv (.tmp 45), none, []⟩]
def F12.r8 : List AOper := [
  ⟨(some 46), .mv (.tmp 6), none, []⟩,
  ⟨(some 47), .mv (.tmp 8), none, []⟩,
  ⟨(some 48), .buildSlice 2 [(.int .i64 0)] 1 [(0, 1, (.tmp 47))], none, []⟩,
  ⟨(some 49), .append 2 1 8 (.tmp 46) (.tmp 48), none, []⟩,
  ⟨(some 6), .mv (.tmp 49), none, []⟩]
def F12.r9 : List AOper := [
  ⟨(some 51), .bin .eql .no (.tmp 32) (.const (.int .i64 1)), none, []⟩,
  ⟨(some 50), .mv (.tmp 51), none, []⟩]
def F12.r10 : List AOper := [
  ⟨(some 52), .mv (.tmp 6), none, []⟩,
  ⟨(some 53), .mv (.tmp 9), none, []⟩,
  ⟨(some 54), .buildSlice 2 [(.int .i64 0)] 1 [(0, 1, (.tmp 53))], none, []⟩,
  ⟨(some 55), .append 2 1 8 (.tmp 52) (.tmp 54), none, []⟩,
  ⟨(some 6), .mv (.tmp 55), none, []⟩]
def F12.r11 : List AOper := [
  ⟨(some 33), .mv (.tmp 6), none, []⟩,
  ⟨(some 34), .mv (.tmp 8), none, []⟩,
  ⟨(some 35), .mv (.tmp 5), none, []⟩,
  ⟨(some 36), .mv (.tmp 9), none, []⟩,
  ⟨(some 37), .mv (.tmp 8), none, []⟩,
  ⟨(some 38), .bin .sub .no (.tmp 36) (.tmp 37), none, []⟩,
  ⟨(some 39), .bin .add .no (.tmp 38) (.const (.int .i64 1)), none, []⟩,
  ⟨(some 40), .call (.func 21) [(.tmp 35), (.tmp 39)], none, []⟩,
  ⟨(some 41), .bin .add .no (.tmp 34) (.tmp 40), none, []⟩,
  ⟨(some 42), .buildSlice 2 [(.int .i64 0)] 1 [(0, 1, (.tmp 41))], none, []⟩,
  ⟨(some 43), .append 2 1 8 (.tmp 33) (.tmp 42), none, []⟩,
  ⟨(some 6), .mv (.tmp 43), none, []⟩]
def F12.r12 : List AOper := [
  ⟨(some 17), .mv (.tmp 7), none, []⟩,
  ⟨(some 18), .bin .add .no (.tmp 17) (.const (.int .i64 1)), none, []⟩,
  ⟨(some 7), .mv (.tmp 18), none, []⟩]
def F12.l0 : ACode := (.seq (.seq (.region F12.r4) (.cond (.tmp 16) .skip (.exit 0))) (.seq (.block 1 (.seq (.dregion F12.r5) (.seq (.region F12.r6) (.block 2 (.seq (.region F12.r7) (.cond (.tmp 44) (.region F12.r8) (.seq (.region F12.r9) (.cond (.tmp 50) (.region F12.r10) (.region F12.r11))))))))) (.region F12.r12)))
def F12.r13 : List AOper := [
  ⟨(some 56), .mv (.tmp 6), none, []⟩,
  ⟨(some 4), .mv (.tmp 56), none, []⟩]
def F12 : AFunc := ⟨(.seq (.region F12.r0) (.seq (.region F12.r1) (.seq (.region F12.r2) (.seq (.seq (.region F12.r3) (.block 0 (.loop F12.l0))) (.seq (.region F12.r13) .ret))))),
  [.inl 4]⟩
/-! function 13: armplan/armplanlaw40.Gravity -/
def F13.r0 : List AOper := [
  ⟨(some 6), .alloc 40 [(.int .i64 0), (.int .i64 0), (.int .i64 0)], none, []⟩]
def F13.r1 : List AOper := [
  ⟨(some 7), .mv (.tmp 0), none, []⟩,
  ⟨(some 8), .call (.func 8) [(.tmp 7), (.const (.int .i64 40001))], none, []⟩,
  ⟨(some 9), .bin .sub .no (.tmp 8) (.const (.int .i64 20000)), none, []⟩,
  ⟨(some 10), .mv (.tmp 1), none, []⟩,
  ⟨(some 11), .call (.func 8) [(.tmp 10), (.const (.int .i64 40001))], none, []⟩,
  ⟨(some 12), .bin .sub .no (.tmp 11) (.const (.int .i64 20000)), none, []⟩,
  ⟨(some 13), .mv (.tmp 2), none, []⟩,
  ⟨(some 14), .call (.func 8) [(.tmp 13), (.const (.int .i64 2097152))], none, []⟩,
  ⟨(some 15), .bin .sub .no (.tmp 14) (.const (.int .i64 1048576)), none, []⟩,
  ⟨(some 16), .build [(.int .i64 0), (.int .i64 0), (.int .i64 0)] [(0, 1, (.tmp 9)), (1, 1, (.tmp 12)), (2, 1, (.tmp 15))], none, []⟩,
  ⟨none, .store 3 (.tmp 6) (.tmp 16), none, []⟩]
def F13 : AFunc := ⟨(.seq (.region F13.r0) (.seq (.region F13.r1) .ret)),
  [.inr (6, (some 3))]⟩
/-! function 14: armplan/dynamics.Torques -/
def F14.r0 : List AOper := [
  ⟨(some 6), .box 35 (.tmp 0), none, []⟩,
  ⟨(some 7), .box 40 (.tmp 1), none, []⟩,
  ⟨(some 12), .mv (.const (.slice none 0 0)), none, []⟩,
  ⟨(some 13), .mv (.const (.bool false)), none, []⟩]
def F14.r1 : List AOper := [
  ⟨(some 29), .load (some 2) (.tmp 6), none, []⟩,
  ⟨(some 30), .mv (.tmp 2), none, []⟩,
  ⟨(some 31), .mv (.tmp 3), none, []⟩,
  ⟨(some 32), .call (.func 22) [(.tmp 29), (.tmp 30), (.tmp 31)], none, []⟩,
  ⟨(some 28), .mv (.tmp 32), none, []⟩,
  ⟨(some 33), .ext (.tmp 28) 0, none, []⟩,
  ⟨(some 34), .ext (.tmp 28) 1, none, []⟩,
  ⟨(some 14), .mv (.tmp 33), none, []⟩,
  ⟨(some 15), .mv (.tmp 34), none, []⟩]
def F14.r2 : List AOper := [
  ⟨(some 35), .mv (.tmp 15), none, []⟩,
  ⟨(some 36), .un .not (.tmp 35), none, []⟩]
def F14.r3 : List AOper := [
  ⟨(some 12), .mv (.const (.slice none 0 0)), none, []⟩,
  ⟨(some 13), .mv (.const (.bool false)), none, []⟩]
def F14.r4 : List AOper := [
  ⟨(some 38), .mv (.tmp 2), none, []⟩,
  ⟨(some 39), .mv (.tmp 3), none, []⟩,
  ⟨(some 40), .mv (.tmp 4), none, []⟩,
  ⟨(some 41), .mv (.tmp 5), none, []⟩,
  ⟨(some 42), .call (.func 23) [(.tmp 38), (.tmp 39), (.tmp 40), (.tmp 41)], none, []⟩,
  ⟨(some 37), .mv (.tmp 42), none, []⟩,
  ⟨(some 43), .ext (.tmp 37) 0, none, []⟩,
  ⟨(some 44), .ext (.tmp 37) 1, none, []⟩,
  ⟨(some 16), .mv (.tmp 43), none, []⟩,
  ⟨(some 15), .mv (.tmp 44), none, []⟩]
def F14.r5 : List AOper := [
  ⟨(some 45), .mv (.tmp 15), none, []⟩,
  ⟨(some 46), .un .not (.tmp 45), none, []⟩,
  ⟨(some 47), .mv (.tmp 46), none, []⟩,
  ⟨(some 48), .load (some 2) (.tmp 6), some ((some 47), false), []⟩,
  ⟨(some 49), .load (some 3) (.tmp 7), some ((some 47), false), []⟩,
  ⟨(some 50), .mv (.tmp 16), some ((some 47), false), []⟩,
  ⟨(some 51), .call (.func 24) [(.tmp 48), (.tmp 49), (.tmp 50)], some ((some 47), false), []⟩,
  ⟨(some 52), .un .not (.tmp 51), some ((some 47), false), []⟩,
  ⟨(some 53), .pick (.tmp 47) (.const (.bool true)) (.tmp 52), none, []⟩]
def F14.r6 : List AOper := [
  ⟨(some 12), .mv (.const (.slice none 0 0)), none, []⟩,
  ⟨(some 13), .mv (.const (.bool false)), none, []⟩]
def F14.r7 : List AOper := [
  ⟨(some 54), .load (some 2) (.tmp 6), none, []⟩,
  ⟨(some 55), .mv (.tmp 16), none, []⟩,
  ⟨(some 56), .call (.func 25) [(.tmp 54), (.tmp 55)], none, []⟩,
  ⟨(some 17), .mv (.tmp 56), none, []⟩]
def F14.r8 : List AOper := [
  ⟨(some 57), .fieldAddr 0 (.tmp 6), none, []⟩,
  ⟨(some 58), .load none (.tmp 57), none, []⟩,
  ⟨(some 59), .lenO false (.tmp 58), none, []⟩,
  ⟨(some 60), .makeSlice 47 [(.int .i64 0), (.int .i64 0), (.int .i64 0), (.int .i64 0), (.int .i64 0), (.int .i64 0)] 48 (.tmp 59) (.tmp 59), none, []⟩,
  ⟨(some 18), .mv (.tmp 60), none, []⟩]
def F14.r9 : List AOper := [
  ⟨(some 61), .mv (.tmp 17), none, []⟩,
  ⟨(some 62), .load (some 3) (.tmp 7), none, []⟩,
  ⟨(some 63), .call (.func 26) [(.tmp 61), (.tmp 62)], none, []⟩,
  ⟨(some 64), .lenO false (.tmp 63), none, []⟩,
  ⟨(some 65), .mv (.const (.int .i64 0)), none, []⟩]
def F14.r10 : List AOper := [
  ⟨(some 66), .bin .lss .no (.tmp 65) (.tmp 64), none, []⟩]
def F14.r11 : List AOper := [
  ⟨(some 67), .mv (.tmp 65), none, []⟩,
  ⟨(some 68), .idxAddr none 2 (.tmp 63) (.tmp 65), none, []⟩,
  ⟨(some 69), .load (some 2) (.tmp 68), none, []⟩,
  ⟨(some 20), .alloc 23 [(.int .i64 0), (.int .i64 0)], none, []⟩,
  ⟨(some 19), .mv (.tmp 67), none, []⟩,
  ⟨none, .store 2 (.tmp 20) (.tmp 69), none, []⟩]
def F14.r12 : List AOper := [
  ⟨(some 70), .mv (.tmp 18), none, []⟩,
  ⟨(some 71), .mv (.tmp 19), none, []⟩,
  ⟨(some 72), .load (some 2) (.tmp 20), none, []⟩,
  ⟨(some 73), .idxAddr none 6 (.tmp 70) (.tmp 71), none, []⟩,
  ⟨(some 74), .fieldAddr 4 (.tmp 73), none, []⟩,
  ⟨none, .store 2 (.tmp 74) (.tmp 72), none, []⟩]
def F14.r13 : List AOper := [
  ⟨(some 75), .bin .add .no (.tmp 65) (.const (.int .i64 1)), none, []⟩,
  ⟨(some 65), .mv (.tmp 75), none, []⟩]
def F14.l0 : ACode := (.seq (.region F14.r10) (.seq (.cond (.tmp 66) .skip (.exit 0)) (.seq (.block 1 (.seq (.region F14.r11) (.region F14.r12))) (.region F14.r13))))
def F14.r14 : List AOper := [
  ⟨(some 76), .mv (.tmp 17), none, []⟩,
  ⟨(some 77), .nilCheck (.tmp 76), none, []⟩,
  ⟨(some 78), .fieldAddr 3 (.tmp 77), none, []⟩,
  ⟨(some 79), .load none (.tmp 78), none, []⟩,
  ⟨(some 80), .lenO false (.tmp 79), none, []⟩,
  ⟨(some 81), .mv (.const (.int .i64 0)), none, []⟩]
def F14.r15 : List AOper := [
  ⟨(some 82), .bin .lss .no (.tmp 81) (.tmp 80), none, []⟩]
def F14.r16 : List AOper := [
  ⟨(some 83), .mv (.tmp 81), none, []⟩,
  ⟨(some 84), .idxAddr none 1 (.tmp 79) (.tmp 81), none, []⟩,
  ⟨(some 85), .load none (.tmp 84), none, []⟩,
  ⟨(some 21), .mv (.tmp 83), none, []⟩,
  ⟨(some 22), .mv (.tmp 85), none, []⟩]
def F14.r17 : List AOper := [
  ⟨(some 87), .mv (.tmp 17), none, []⟩,
  ⟨(some 88), .mv (.tmp 22), none, []⟩,
  ⟨(some 89), .mv (.tmp 14), none, []⟩,
  ⟨(some 90), .call (.func 27) [(.tmp 87), (.tmp 88), (.tmp 89)], none, []⟩,
  ⟨(some 86), .mv (.tmp 90), none, []⟩,
  ⟨(some 91), .ext (.tmp 86) 0, none, []⟩,
  ⟨(some 92), .ext (.tmp 86) 1, none, []⟩,
  ⟨(some 23), .alloc 80 [(.int .i64 0), (.int .i64 0), (.int .i64 0), (.int .i64 0), (.int .i64 0), (.int .i64 0)], none, []⟩,
  ⟨(some 24), .alloc 80 [(.int .i64 0), (.int .i64 0), (.int .i64 0), (.int .i64 0), (.int .i64 0), (.int .i64 0)], none, []⟩,
  ⟨none, .store 6 (.tmp 23) (.tmp 91), none, []⟩,
  ⟨none, .store 6 (.tmp 24) (.tmp 92), none, []⟩]
def F14.r18 : List AOper := [
  ⟨(some 93), .mv (.tmp 22), none, []⟩,
  ⟨(some 94), .lenO false (.tmp 93), none, []⟩,
  ⟨(some 95), .mv (.const (.int .i64 0)), none, []⟩]
def F14.r19 : List AOper := [
  ⟨(some 96), .bin .lss .no (.tmp 95) (.tmp 94), none, []⟩]
def F14.r20 : List AOper := [
  ⟨(some 97), .idxAddr none 14 (.tmp 93) (.tmp 95), none, []⟩,
  ⟨(some 98), .load (some 14) (.tmp 97), none, []⟩,
  ⟨(some 26), .alloc 84 [(.int .i64 0), (.bool false), (.int .i64 0), (.int .i64 0), (.int .i64 0), (.int .i64 0), (.int .i64 0), (.int .i64 0), (.int .i64 0), (.int .i64 0), (.int .i64 0), (.int .i64 0), (.int .i64 0), (.int .i64 0)], none, []⟩,
  ⟨none, .store 14 (.tmp 26) (.tmp 98), none, []⟩]
def F14.r21 : List AOper := [
  ⟨(some 99), .mv (.tmp 18), none, []⟩,
  ⟨(some 100), .fieldAddr 0 (.tmp 26), none, []⟩,
  ⟨(some 101), .load none (.tmp 100), none, []⟩,
  ⟨(some 102), .idxAddr none 6 (.tmp 99) (.tmp 101), none, []⟩,
  ⟨(some 27), .mv (.tmp 102), none, []⟩]
def F14.r22 : List AOper := [
  ⟨(some 103), .mv (.tmp 27), none, []⟩,
  ⟨(some 104), .mv (.tmp 17), none, []⟩,
  ⟨(some 105), .nilCheck (.tmp 104), none, []⟩,
  ⟨(some 106), .fieldAddr 0 (.tmp 105), none, []⟩,
  ⟨(some 107), .mv (.tmp 27), none, []⟩,
  ⟨(some 108), .nilCheck (.tmp 107), none, []⟩,
  ⟨(some 109), .fieldAddr 0 (.tmp 108), none, []⟩,
  ⟨(some 110), .load (some 2) (.tmp 109), none, [23, 24]⟩,
  ⟨(some 111), .mv (.tmp 17), none, []⟩,
  ⟨(some 112), .nilCheck (.tmp 111), none, []⟩,
  ⟨(some 113), .fieldAddr 0 (.tmp 112), none, []⟩,
  ⟨(some 114), .fieldAddr 1 (.tmp 6), none, []⟩,
  ⟨(some 115), .load none (.tmp 114), none, [23]⟩,
  ⟨(some 116), .mv (.tmp 21), none, []⟩,
  ⟨(some 117), .idxAddr none 5 (.tmp 115) (.tmp 116), none, []⟩,
  ⟨(some 118), .fieldAddr 1 (.tmp 117), none, []⟩,
  ⟨(some 119), .load none (.tmp 118), none, [23]⟩,
  ⟨(some 120), .mv (.tmp 17), none, []⟩,
  ⟨(some 121), .nilCheck (.tmp 120), none, []⟩,
  ⟨(some 122), .fieldAddr 0 (.tmp 121), none, []⟩,
  ⟨(some 123), .fieldAddr 8 (.tmp 26), none, []⟩,
  ⟨(some 124), .load (some 6) (.tmp 123), none, []⟩,
  ⟨(some 125), .load (some 6) (.tmp 23), none, []⟩,
  ⟨(some 126), .call (.func 30) [(.tmp 122), (.tmp 124), (.tmp 125)], none, []⟩,
  ⟨(some 127), .call (.func 29) [(.tmp 113), (.tmp 119), (.tmp 126)], none, []⟩,
  ⟨(some 128), .call (.func 28) [(.tmp 106), (.tmp 110), (.tmp 127)], none, []⟩,
  ⟨(some 129), .nilCheck (.tmp 103), none, []⟩,
  ⟨(some 130), .fieldAddr 0 (.tmp 129), none, []⟩,
  ⟨none, .store 2 (.tmp 130) (.tmp 128), none, []⟩]
def F14.r23 : List AOper := [
  ⟨(some 131), .mv (.tmp 27), none, []⟩,
  ⟨(some 132), .mv (.tmp 17), none, []⟩,
  ⟨(some 133), .nilCheck (.tmp 132), none, []⟩,
  ⟨(some 134), .fieldAddr 0 (.tmp 133), none, []⟩,
  ⟨(some 135), .mv (.tmp 27), none, []⟩,
  ⟨(some 136), .nilCheck (.tmp 135), none, []⟩,
  ⟨(some 137), .fieldAddr 2 (.tmp 136), none, []⟩,
  ⟨(some 138), .load (some 2) (.tmp 137), none, [23, 24]⟩,
  ⟨(some 139), .mv (.tmp 17), none, []⟩,
  ⟨(some 140), .nilCheck (.tmp 139), none, []⟩,
  ⟨(some 141), .fieldAddr 0 (.tmp 140), none, []⟩,
  ⟨(some 142), .fieldAddr 1 (.tmp 6), none, []⟩,
  ⟨(some 143), .load none (.tmp 142), none, [23]⟩,
  ⟨(some 144), .mv (.tmp 21), none, []⟩,
  ⟨(some 145), .idxAddr none 5 (.tmp 143) (.tmp 144), none, []⟩,
  ⟨(some 146), .fieldAddr 1 (.tmp 145), none, []⟩,
  ⟨(some 147), .load none (.tmp 146), none, [23]⟩,
  ⟨(some 148), .mv (.tmp 17), none, []⟩,
  ⟨(some 149), .nilCheck (.tmp 148), none, []⟩,
  ⟨(some 150), .fieldAddr 0 (.tmp 149), none, []⟩,
  ⟨(some 151), .fieldAddr 8 (.tmp 26), none, []⟩,
  ⟨(some 152), .load (some 6) (.tmp 151), none, []⟩,
  ⟨(some 153), .load (some 6) (.tmp 24), none, []⟩,
  ⟨(some 154), .call (.func 30) [(.tmp 150), (.tmp 152), (.tmp 153)], none, []⟩,
  ⟨(some 155), .call (.func 29) [(.tmp 141), (.tmp 147), (.tmp 154)], none, []⟩,
  ⟨(some 156), .call (.func 28) [(.tmp 134), (.tmp 138), (.tmp 155)], none, []⟩,
  ⟨(some 157), .nilCheck (.tmp 131), none, []⟩,
  ⟨(some 158), .fieldAddr 2 (.tmp 157), none, []⟩,
  ⟨none, .store 2 (.tmp 158) (.tmp 156), none, []⟩]
def F14.r24 : List AOper := [
  ⟨(some 159), .bin .add .no (.tmp 95) (.const (.int .i64 1)), none, []⟩,
  ⟨(some 95), .mv (.tmp 159), none, []⟩]
def F14.l1 : ACode := (.seq (.region F14.r19) (.seq (.cond (.tmp 96) .skip (.exit 4)) (.seq (.block 5 (.seq (.region F14.r20) (.seq (.region F14.r21) (.seq (.dregion F14.r22) (.dregion F14.r23))))) (.region F14.r24))))
def F14.r25 : List AOper := [
  ⟨(some 160), .bin .add .no (.tmp 81) (.const (.int .i64 1)), none, []⟩,
  ⟨(some 81), .mv (.tmp 160), none, []⟩]
def F14.l2 : ACode := (.seq (.region F14.r15) (.seq (.cond (.tmp 82) .skip (.exit 2)) (.seq (.block 3 (.seq (.region F14.r16) (.seq (.region F14.r17) (.seq (.region F14.r18) (.block 4 (.loop F14.l1)))))) (.region F14.r25))))
def F14.r26 : List AOper := [
  ⟨(some 161), .mv (.tmp 17), none, []⟩,
  ⟨(some 162), .nilCheck (.tmp 161), none, []⟩,
  ⟨(some 163), .fieldAddr 0 (.tmp 162), none, []⟩,
  ⟨(some 164), .fieldAddr 0 (.tmp 163), none, []⟩,
  ⟨(some 165), .load none (.tmp 164), none, []⟩]
def F14.r27 : List AOper := [
  ⟨(some 12), .mv (.const (.slice none 0 0)), none, []⟩,
  ⟨(some 13), .mv (.const (.bool false)), none, []⟩]
def F14.r28 : List AOper := [
  ⟨(some 166), .mv (.tmp 18), none, []⟩,
  ⟨(some 12), .mv (.tmp 166), none, []⟩,
  ⟨(some 13), .mv (.const (.bool true)), none, []⟩]
def F14 : AFunc := ⟨(.seq (.region F14.r0) (.seq (.region F14.r1) (.seq (.seq (.region F14.r2) (.cond (.tmp 36) (.seq (.region F14.r3) .ret) .skip)) (.seq (.region F14.r4) (.seq (.seq (.region F14.r5) (.cond (.tmp 53) (.seq (.region F14.r6) .ret) .skip)) (.seq (.region F14.r7) (.seq (.region F14.r8) (.seq (.seq (.region F14.r9) (.block 0 (.loop F14.l0))) (.seq (.seq (.region F14.r14) (.block 2 (.loop F14.l2))) (.seq (.seq (.region F14.r26) (.cond (.tmp 165) (.seq (.region F14.r27) .ret) .skip)) (.seq (.region F14.r28) .ret))))))))))),
  [.inl 12, .inl 13]⟩
/-! function 15: armplan/armplanmake.Interval -/
def F15.r0 : List AOper := [
  ⟨(some 4), .alloc 49 [(.int .i64 0), (.int .i64 0)], none, []⟩]
def F15.r1 : List AOper := [
  ⟨(some 8), .mv (.tmp 0), none, []⟩,
  ⟨(some 9), .bin .shr .no (.tmp 8) (.const (.int .u64 3)), none, []⟩,
  ⟨(some 10), .call (.func 8) [(.tmp 9), (.const (.int .i64 27))], none, []⟩,
  ⟨(some 11), .bin .add .no (.const (.int .i64 4)) (.tmp 10), none, []⟩,
  ⟨(some 12), .conv .u64 (.tmp 11), none, []⟩,
  ⟨(some 13), .bin .shl .no (.const (.int .i64 1)) (.tmp 12), none, []⟩,
  ⟨(some 5), .mv (.tmp 13), none, []⟩]
def F15.r2 : List AOper := [
  ⟨(some 14), .mv (.tmp 0), none, []⟩,
  ⟨(some 15), .mv (.tmp 5), none, []⟩,
  ⟨(some 16), .bin .mul .no (.const (.int .i64 2)) (.tmp 15), none, []⟩,
  ⟨(some 17), .bin .add .no (.tmp 16) (.const (.int .i64 1)), none, []⟩,
  ⟨(some 18), .call (.func 8) [(.tmp 14), (.tmp 17)], none, []⟩,
  ⟨(some 19), .mv (.tmp 5), none, []⟩,
  ⟨(some 20), .bin .sub .no (.tmp 18) (.tmp 19), none, []⟩,
  ⟨(some 21), .mv (.tmp 1), none, []⟩,
  ⟨(some 22), .mv (.tmp 5), none, []⟩,
  ⟨(some 23), .bin .mul .no (.const (.int .i64 2)) (.tmp 22), none, []⟩,
  ⟨(some 24), .bin .add .no (.tmp 23) (.const (.int .i64 1)), none, []⟩,
  ⟨(some 25), .call (.func 8) [(.tmp 21), (.tmp 24)], none, []⟩,
  ⟨(some 26), .mv (.tmp 5), none, []⟩,
  ⟨(some 27), .bin .sub .no (.tmp 25) (.tmp 26), none, []⟩,
  ⟨(some 6), .mv (.tmp 20), none, []⟩,
  ⟨(some 7), .mv (.tmp 27), none, []⟩]
def F15.r3 : List AOper := [
  ⟨(some 28), .mv (.tmp 1), none, []⟩,
  ⟨(some 29), .bin .and .no (.tmp 28) (.const (.int .i64 1)), none, []⟩,
  ⟨(some 30), .bin .eql .no (.tmp 29) (.const (.int .i64 0)), none, []⟩]
def F15.r4 : List AOper := [
  ⟨(some 31), .mv (.tmp 6), none, []⟩,
  ⟨(some 32), .mv (.tmp 1), none, []⟩,
  ⟨(some 33), .bin .shr .no (.tmp 32) (.const (.int .u64 1)), none, []⟩,
  ⟨(some 34), .mv (.tmp 5), none, []⟩,
  ⟨(some 35), .bin .quo .no (.tmp 34) (.const (.int .i64 8)), none, []⟩,
  ⟨(some 36), .bin .add .no (.const (.int .i64 1)) (.tmp 35), none, []⟩,
  ⟨(some 37), .call (.func 8) [(.tmp 33), (.tmp 36)], none, []⟩,
  ⟨(some 38), .bin .add .no (.tmp 31) (.tmp 37), none, []⟩,
  ⟨(some 7), .mv (.tmp 38), none, []⟩]
def F15.r5 : List AOper := [
  ⟨(some 39), .mv (.tmp 6), none, []⟩,
  ⟨(some 40), .call (.func 31) [(.tmp 39)], none, []⟩,
  ⟨(some 41), .mv (.tmp 7), none, []⟩,
  ⟨(some 42), .call (.func 31) [(.tmp 41)], none, []⟩,
  ⟨(some 43), .minmax false [(.tmp 40), (.tmp 42)], none, []⟩,
  ⟨(some 44), .mv (.tmp 6), none, []⟩,
  ⟨(some 45), .call (.func 31) [(.tmp 44)], none, []⟩,
  ⟨(some 46), .mv (.tmp 7), none, []⟩,
  ⟨(some 47), .call (.func 31) [(.tmp 46)], none, []⟩,
  ⟨(some 48), .minmax true [(.tmp 45), (.tmp 47)], none, []⟩,
  ⟨(some 49), .build [(.int .i64 0), (.int .i64 0)] [(0, 1, (.tmp 43)), (1, 1, (.tmp 48))], none, []⟩,
  ⟨none, .store 2 (.tmp 4) (.tmp 49), none, []⟩]
def F15 : AFunc := ⟨(.seq (.region F15.r0) (.seq (.region F15.r1) (.seq (.region F15.r2) (.seq (.seq (.region F15.r3) (.cond (.tmp 30) (.region F15.r4) .skip)) (.seq (.region F15.r5) .ret))))),
  [.inr (4, (some 2))]⟩
/-! function 16: armplan/dynamics.isSmall -/
def F16.r0 : List AOper := [
  ⟨(some 1), .box 23 (.tmp 0), none, []⟩,
  ⟨(some 2), .mv (.const (.bool false)), none, []⟩]
def F16.r1 : List AOper := [
  ⟨(some 3), .fieldAddr 0 (.tmp 1), none, []⟩,
  ⟨(some 4), .load none (.tmp 3), none, []⟩,
  ⟨(some 5), .bin .leq .no (.const (.int .i64 (-1152921504606846976))) (.tmp 4), none, []⟩,
  ⟨(some 6), .mv (.tmp 5), none, []⟩,
  ⟨(some 7), .fieldAddr 0 (.tmp 1), some ((some 6), true), []⟩,
  ⟨(some 8), .load none (.tmp 7), some ((some 6), true), []⟩,
  ⟨(some 9), .fieldAddr 1 (.tmp 1), some ((some 6), true), []⟩,
  ⟨(some 10), .load none (.tmp 9), some ((some 6), true), []⟩,
  ⟨(some 11), .bin .leq .no (.tmp 8) (.tmp 10), some ((some 6), true), []⟩,
  ⟨(some 12), .pick (.tmp 6) (.tmp 11) (.const (.bool false)), none, []⟩,
  ⟨(some 13), .mv (.tmp 12), none, []⟩,
  ⟨(some 14), .fieldAddr 1 (.tmp 1), some ((some 13), true), []⟩,
  ⟨(some 15), .load none (.tmp 14), some ((some 13), true), []⟩,
  ⟨(some 16), .bin .leq .no (.tmp 15) (.const (.int .i64 1152921504606846976)), some ((some 13), true), []⟩,
  ⟨(some 17), .pick (.tmp 13) (.tmp 16) (.const (.bool false)), none, []⟩,
  ⟨(some 2), .mv (.tmp 17), none, []⟩]
def F16 : AFunc := ⟨(.seq (.region F16.r0) (.seq (.region F16.r1) .ret)),
  [.inl 2]⟩
/-! function 17: armplan/dynamics.product -/
def F17.r0 : List AOper := [
  ⟨(some 4), .mv (.const (.int .i64 0)), none, []⟩,
  ⟨(some 5), .mv (.const (.int .i64 0)), none, []⟩,
  ⟨(some 6), .mv (.const (.bool false)), none, []⟩]
def F17.r1 : List AOper := [
  ⟨(some 11), .mv (.tmp 0), none, []⟩,
  ⟨(some 12), .mv (.tmp 0), none, []⟩,
  ⟨(some 13), .un .neg (.tmp 12), none, []⟩,
  ⟨(some 14), .minmax true [(.tmp 11), (.tmp 13)], none, []⟩,
  ⟨(some 15), .conv .u64 (.tmp 14), none, []⟩,
  ⟨(some 16), .mv (.tmp 1), none, []⟩,
  ⟨(some 17), .mv (.tmp 1), none, []⟩,
  ⟨(some 18), .un .neg (.tmp 17), none, []⟩,
  ⟨(some 19), .minmax true [(.tmp 16), (.tmp 18)], none, []⟩,
  ⟨(some 20), .conv .u64 (.tmp 19), none, []⟩,
  ⟨(some 21), .call (.func 32) [(.tmp 15), (.tmp 20)], none, []⟩,
  ⟨(some 10), .mv (.tmp 21), none, []⟩,
  ⟨(some 22), .ext (.tmp 10) 0, none, []⟩,
  ⟨(some 23), .ext (.tmp 10) 1, none, []⟩,
  ⟨(some 7), .mv (.tmp 22), none, []⟩,
  ⟨(some 8), .mv (.tmp 23), none, []⟩]
def F17.r2 : List AOper := [
  ⟨(some 24), .mv (.tmp 7), none, []⟩,
  ⟨(some 25), .bin .shl .no (.tmp 24) (.const (.int .u64 48)), none, []⟩,
  ⟨(some 26), .mv (.tmp 8), none, []⟩,
  ⟨(some 27), .bin .shr .no (.tmp 26) (.const (.int .u64 16)), none, []⟩,
  ⟨(some 28), .bin .or .no (.tmp 25) (.tmp 27), none, []⟩,
  ⟨(some 9), .mv (.tmp 28), none, []⟩]
def F17.r3 : List AOper := [
  ⟨(some 29), .mv (.tmp 7), none, []⟩,
  ⟨(some 30), .bin .shr .no (.tmp 29) (.const (.int .u64 16)), none, []⟩,
  ⟨(some 31), .bin .neq .no (.tmp 30) (.const (.int .u64 0)), none, []⟩,
  ⟨(some 32), .mv (.tmp 31), none, []⟩,
  ⟨(some 33), .mv (.tmp 9), some ((some 32), false), []⟩,
  ⟨(some 34), .bin .gtr .no (.tmp 33) (.const (.int .u64 1152921504606846976)), some ((some 32), false), []⟩,
  ⟨(some 35), .pick (.tmp 32) (.const (.bool true)) (.tmp 34), none, []⟩]
def F17.r4 : List AOper := [
  ⟨(some 4), .mv (.const (.int .i64 0)), none, []⟩,
  ⟨(some 5), .mv (.const (.int .i64 0)), none, []⟩,
  ⟨(some 6), .mv (.const (.bool false)), none, []⟩]
def F17.r5 : List AOper := [
  ⟨(some 36), .mv (.tmp 9), none, []⟩,
  ⟨(some 37), .conv .i64 (.tmp 36), none, []⟩,
  ⟨(some 38), .mv (.tmp 9), none, []⟩,
  ⟨(some 39), .conv .i64 (.tmp 38), none, []⟩,
  ⟨(some 4), .mv (.tmp 37), none, []⟩,
  ⟨(some 5), .mv (.tmp 39), none, []⟩]
def F17.r6 : List AOper := [
  ⟨(some 40), .mv (.tmp 8), none, []⟩,
  ⟨(some 41), .bin .and .no (.tmp 40) (.const (.int .u64 65535)), none, []⟩,
  ⟨(some 42), .bin .neq .no (.tmp 41) (.const (.int .u64 0)), none, []⟩]
def F17.r7 : List AOper := [
  ⟨(some 43), .mv (.tmp 5), none, []⟩,
  ⟨(some 44), .bin .add .no (.tmp 43) (.const (.int .i64 1)), none, []⟩,
  ⟨(some 5), .mv (.tmp 44), none, []⟩]
def F17.r8 : List AOper := [
  ⟨(some 45), .mv (.tmp 0), none, []⟩,
  ⟨(some 46), .bin .lss .no (.tmp 45) (.const (.int .i64 0)), none, []⟩,
  ⟨(some 47), .mv (.tmp 1), none, []⟩,
  ⟨(some 48), .bin .lss .no (.tmp 47) (.const (.int .i64 0)), none, []⟩,
  ⟨(some 49), .bin .neq .bool (.tmp 46) (.tmp 48), none, []⟩]
def F17.r9 : List AOper := [
  ⟨(some 50), .mv (.tmp 5), none, []⟩,
  ⟨(some 51), .un .neg (.tmp 50), none, []⟩,
  ⟨(some 52), .mv (.tmp 4), none, []⟩,
  ⟨(some 53), .un .neg (.tmp 52), none, []⟩,
  ⟨(some 4), .mv (.tmp 51), none, []⟩,
  ⟨(some 5), .mv (.tmp 53), none, []⟩]
def F17.r10 : List AOper := [
  ⟨(some 54), .mv (.tmp 4), none, []⟩,
  ⟨(some 55), .mv (.tmp 5), none, []⟩,
  ⟨(some 4), .mv (.tmp 54), none, []⟩,
  ⟨(some 5), .mv (.tmp 55), none, []⟩,
  ⟨(some 6), .mv (.const (.bool true)), none, []⟩]
def F17 : AFunc := ⟨(.seq (.region F17.r0) (.seq (.region F17.r1) (.seq (.region F17.r2) (.seq (.seq (.region F17.r3) (.cond (.tmp 35) (.seq (.region F17.r4) .ret) .skip)) (.seq (.region F17.r5) (.seq (.seq (.region F17.r6) (.cond (.tmp 42) (.region F17.r7) .skip)) (.seq (.seq (.region F17.r8) (.cond (.tmp 49) (.region F17.r9) .skip)) (.seq (.region F17.r10) .ret)))))))),
  [.inl 4, .inl 5, .inl 6]⟩
/-! function 18: armplan/armplanlaw40.arm -/
def F18.r0 : List AOper := [
  ⟨(some 2), .alloc 35 [(.slice none 0 0), (.slice none 0 0)], none, []⟩]
def F18.r1 : List AOper := [
  ⟨(some 4), .build [(.string (ByteArray.mk #[])), (.int .i64 0), (.int .i64 0), (.int .i64 0), (.int .i64 0), (.int .i64 0), (.int .i64 0), (.int .i64 0), (.int .i64 0), (.int .i64 0), (.int .i64 0), (.int .i64 0)] [(0, 1, (.const (.string (ByteArray.mk #[97])))), (1, 1, (.const (.int .i64 3))), (2, 1, (.const (.int .i64 (-1)))), (7, 1, (.const (.int .i64 65536))), (8, 1, (.const (.int .i64 1))), (9, 1, (.const (.int .i64 65536))), (10, 1, (.const (.int .i64 65536))), (11, 1, (.const (.int .i64 65536)))], none, []⟩,
  ⟨(some 5), .buildSlice 61 [(.string (ByteArray.mk #[])), (.int .i64 0), (.int .i64 0), (.int .i64 0), (.int .i64 0), (.int .i64 0), (.int .i64 0), (.int .i64 0), (.int .i64 0), (.int .i64 0), (.int .i64 0), (.int .i64 0)] 1 [(0, 12, (.tmp 4))], none, []⟩,
  ⟨(some 6), .build [(.slice none 0 0), (.slice none 0 0)] [(0, 1, (.tmp 5))], none, []⟩,
  ⟨(some 3), .alloc 35 [(.slice none 0 0), (.slice none 0 0)], none, []⟩,
  ⟨none, .store 2 (.tmp 3) (.tmp 6), none, []⟩]
def F18.r2 : List AOper := [
  ⟨(some 7), .mv (.tmp 0), none, []⟩,
  ⟨(some 8), .build [(.int .i64 0), (.int .i64 0), (.int .i64 0)] [(0, 1, (.const (.int .i64 65536)))], none, []⟩,
  ⟨(some 9), .build [(.int .i64 0), (.int .i64 0), (.int .i64 0), (.int .i64 0), (.int .i64 0)] [(1, 1, (.tmp 7)), (2, 3, (.tmp 8))], none, []⟩,
  ⟨(some 10), .buildSlice 89 [(.int .i64 0), (.int .i64 0), (.int .i64 0), (.int .i64 0), (.int .i64 0)] 1 [(0, 5, (.tmp 9))], none, []⟩,
  ⟨(some 11), .fieldAddr 1 (.tmp 3), none, []⟩,
  ⟨none, .store 1 (.tmp 11) (.tmp 10), none, []⟩]
def F18.r3 : List AOper := [
  ⟨(some 12), .load (some 2) (.tmp 3), none, []⟩,
  ⟨none, .store 2 (.tmp 2) (.tmp 12), none, []⟩]
def F18 : AFunc := ⟨(.seq (.region F18.r0) (.seq (.region F18.r1) (.seq (.region F18.r2) (.seq (.region F18.r3) .ret)))),
  [.inr (2, (some 2))]⟩
/-! function 19: armplan/armplanmake.robot -/
def F19.r0 : List AOper := [
  ⟨(some 2), .alloc 35 [(.slice none 0 0), (.slice none 0 0)], none, []⟩]
def F19.r1 : List AOper := [
  ⟨(some 3), .alloc 35 [(.slice none 0 0), (.slice none 0 0)], none, []⟩]
def F19.r2 : List AOper := [
  ⟨(some 7), .mv (.tmp 0), none, []⟩,
  ⟨(some 8), .call (.func 21) [(.tmp 7), (.const (.int .i64 3))], none, []⟩,
  ⟨(some 9), .bin .add .no (.const (.int .i64 1)) (.tmp 8), none, []⟩,
  ⟨(some 4), .mv (.tmp 9), none, []⟩]
def F19.r3 : List AOper := [
  ⟨(some 5), .mv (.const (.int .i64 0)), none, []⟩]
def F19.r4 : List AOper := [
  ⟨(some 10), .mv (.tmp 5), none, []⟩,
  ⟨(some 11), .mv (.tmp 4), none, []⟩,
  ⟨(some 12), .bin .lss .no (.tmp 10) (.tmp 11), none, []⟩]
def F19.r5 : List AOper := [
  ⟨(some 15), .fieldAddr 0 (.tmp 3), none, []⟩,
  ⟨(some 16), .load none (.tmp 15), none, [4]⟩,
  ⟨(some 17), .mv (.tmp 0), none, []⟩,
  ⟨(some 18), .mv (.tmp 5), none, []⟩,
  ⟨(some 19), .call (.func 33) [(.tmp 17), (.tmp 18)], none, []⟩,
  ⟨(some 20), .buildSlice 61 [(.string (ByteArray.mk #[])), (.int .i64 0), (.int .i64 0), (.int .i64 0), (.int .i64 0), (.int .i64 0), (.int .i64 0), (.int .i64 0), (.int .i64 0), (.int .i64 0), (.int .i64 0), (.int .i64 0)] 1 [(0, 12, (.tmp 19))], none, []⟩,
  ⟨(some 21), .append 61 12 104 (.tmp 16) (.tmp 20), none, []⟩,
  ⟨(some 22), .fieldAddr 0 (.tmp 3), none, []⟩,
  ⟨none, .store 1 (.tmp 22) (.tmp 21), none, []⟩]
def F19.r6 : List AOper := [
  ⟨(some 13), .mv (.tmp 5), none, []⟩,
  ⟨(some 14), .bin .add .no (.tmp 13) (.const (.int .i64 1)), none, []⟩,
  ⟨(some 5), .mv (.tmp 14), none, []⟩]
def F19.l0 : ACode := (.seq (.seq (.region F19.r4) (.cond (.tmp 12) .skip (.exit 0))) (.seq (.block 1 (.dregion F19.r5)) (.region F19.r6)))
def F19.r7 : List AOper := [
  ⟨(some 23), .mv (.tmp 0), none, []⟩,
  ⟨(some 24), .call (.func 21) [(.tmp 23), (.const (.int .i64 3))], none, []⟩,
  ⟨(some 6), .mv (.tmp 24), none, []⟩]
def F19.r8 : List AOper := [
  ⟨(some 25), .mv (.tmp 6), none, []⟩,
  ⟨(some 26), .bin .gtr .no (.tmp 25) (.const (.int .i64 0)), none, []⟩]
def F19.r9 : List AOper := [
  ⟨(some 29), .fieldAddr 1 (.tmp 3), none, []⟩,
  ⟨(some 30), .load none (.tmp 29), none, [4, 6, 9, 12]⟩,
  ⟨(some 31), .mv (.tmp 0), none, []⟩,
  ⟨(some 32), .mv (.tmp 4), none, []⟩,
  ⟨(some 33), .call (.func 21) [(.tmp 31), (.tmp 32)], none, []⟩,
  ⟨(some 34), .mv (.tmp 0), none, []⟩,
  ⟨(some 35), .call (.func 21) [(.tmp 34), (.const (.int .i64 9000))], none, []⟩,
  ⟨(some 36), .bin .add .no (.const (.int .i64 1)) (.tmp 35), none, []⟩,
  ⟨(some 37), .mv (.tmp 0), none, []⟩,
  ⟨(some 38), .call (.func 34) [(.tmp 37), (.const (.int .i64 3))], none, []⟩,
  ⟨(some 39), .bin .mul .no (.tmp 38) (.const (.int .i64 32768)), none, []⟩,
  ⟨(some 40), .mv (.tmp 0), none, []⟩,
  ⟨(some 41), .call (.func 34) [(.tmp 40), (.const (.int .i64 2))], none, []⟩,
  ⟨(some 42), .bin .mul .no (.tmp 41) (.const (.int .i64 32768)), none, []⟩,
  ⟨(some 43), .build [(.int .i64 0), (.int .i64 0), (.int .i64 0)] [(0, 1, (.tmp 39)), (1, 1, (.const (.int .i64 0))), (2, 1, (.tmp 42))], none, []⟩,
  ⟨(some 44), .build [(.int .i64 0), (.int .i64 0), (.int .i64 0), (.int .i64 0), (.int .i64 0)] [(0, 1, (.tmp 33)), (1, 1, (.tmp 36)), (2, 3, (.tmp 43))], none, []⟩,
  ⟨(some 45), .buildSlice 89 [(.int .i64 0), (.int .i64 0), (.int .i64 0), (.int .i64 0), (.int .i64 0)] 1 [(0, 5, (.tmp 44))], none, []⟩,
  ⟨(some 46), .append 89 5 40 (.tmp 30) (.tmp 45), none, []⟩,
  ⟨(some 47), .fieldAddr 1 (.tmp 3), none, []⟩,
  ⟨none, .store 1 (.tmp 47) (.tmp 46), none, []⟩]
def F19.r10 : List AOper := [
  ⟨(some 27), .mv (.tmp 6), none, []⟩,
  ⟨(some 28), .bin .sub .no (.tmp 27) (.const (.int .i64 1)), none, []⟩,
  ⟨(some 6), .mv (.tmp 28), none, []⟩]
def F19.l1 : ACode := (.seq (.seq (.region F19.r8) (.cond (.tmp 26) .skip (.exit 2))) (.seq (.block 3 (.dregion F19.r9)) (.region F19.r10)))
def F19.r11 : List AOper := [
  ⟨(some 48), .load (some 2) (.tmp 3), none, []⟩,
  ⟨none, .store 2 (.tmp 2) (.tmp 48), none, []⟩]
def F19 : AFunc := ⟨(.seq (.region F19.r0) (.seq (.region F19.r1) (.seq (.region F19.r2) (.seq (.seq (.region F19.r3) (.block 0 (.loop F19.l0))) (.seq (.seq (.region F19.r7) (.block 2 (.loop F19.l1))) (.seq (.region F19.r11) .ret)))))),
  [.inr (2, (some 2))]⟩
/-! function 20: armplan/armplanmake.From -/
def F20.r0 : List AOper := [
  ⟨(some 2), .mv (.const (.pointer none)), none, []⟩]
def F20.r1 : List AOper := [
  ⟨(some 3), .mv (.tmp 0), none, []⟩,
  ⟨(some 4), .build [(.slice none 0 0), (.int .i64 0)] [(0, 1, (.tmp 3))], none, []⟩,
  ⟨(some 5), .box 98 (.tmp 4), none, []⟩,
  ⟨(some 2), .mv (.tmp 5), none, []⟩]
def F20 : AFunc := ⟨(.seq (.region F20.r0) (.seq (.region F20.r1) .ret)),
  [.inl 2]⟩
/-! function 21: (*armplan/armplanmake.Source).Next -/
def F21.r0 : List AOper := [
  ⟨(some 4), .mv (.const (.int .i64 0)), none, []⟩]
def F21.r1 : List AOper := [
  ⟨(some 5), .mv (.tmp 0), none, []⟩,
  ⟨(some 6), .nilCheck (.tmp 5), none, []⟩,
  ⟨(some 7), .fieldAddr 1 (.tmp 6), none, []⟩,
  ⟨(some 8), .load none (.tmp 7), none, []⟩,
  ⟨(some 9), .mv (.tmp 0), none, []⟩,
  ⟨(some 10), .nilCheck (.tmp 9), none, []⟩,
  ⟨(some 11), .fieldAddr 0 (.tmp 10), none, []⟩,
  ⟨(some 12), .load none (.tmp 11), none, []⟩,
  ⟨(some 13), .lenO false (.tmp 12), none, []⟩,
  ⟨(some 14), .bin .geq .no (.tmp 8) (.tmp 13), none, []⟩]
def F21.r2 : List AOper := [
  ⟨(some 4), .mv (.const (.int .i64 0)), none, []⟩]
def F21.r3 : List AOper := [
  ⟨(some 15), .mv (.tmp 0), none, []⟩,
  ⟨(some 16), .nilCheck (.tmp 15), none, []⟩,
  ⟨(some 17), .fieldAddr 1 (.tmp 16), none, []⟩,
  ⟨(some 18), .load none (.tmp 17), none, []⟩,
  ⟨(some 19), .bin .add .no (.tmp 18) (.const (.int .i64 1)), none, []⟩,
  ⟨(some 20), .nilCheck (.tmp 15), none, []⟩,
  ⟨(some 21), .fieldAddr 1 (.tmp 20), none, []⟩,
  ⟨none, .store 1 (.tmp 21) (.tmp 19), none, []⟩]
def F21.r4 : List AOper := [
  ⟨(some 22), .mv (.tmp 0), none, []⟩,
  ⟨(some 23), .nilCheck (.tmp 22), none, []⟩,
  ⟨(some 24), .fieldAddr 0 (.tmp 23), none, []⟩,
  ⟨(some 25), .load none (.tmp 24), none, []⟩,
  ⟨(some 26), .mv (.tmp 0), none, []⟩,
  ⟨(some 27), .nilCheck (.tmp 26), none, []⟩,
  ⟨(some 28), .fieldAddr 1 (.tmp 27), none, []⟩,
  ⟨(some 29), .load none (.tmp 28), none, []⟩,
  ⟨(some 30), .bin .sub .no (.tmp 29) (.const (.int .i64 1)), none, []⟩,
  ⟨(some 31), .idxAddr none 1 (.tmp 25) (.tmp 30), none, []⟩,
  ⟨(some 32), .load none (.tmp 31), none, []⟩,
  ⟨(some 33), .mv (.tmp 1), none, []⟩,
  ⟨(some 34), .call (.func 8) [(.tmp 32), (.tmp 33)], none, []⟩,
  ⟨(some 4), .mv (.tmp 34), none, []⟩]
def F21 : AFunc := ⟨(.seq (.region F21.r0) (.seq (.seq (.dregion F21.r1) (.cond (.tmp 14) (.seq (.region F21.r2) .ret) .skip)) (.seq (.region F21.r3) (.seq (.dregion F21.r4) .ret)))),
  [.inl 4]⟩
/-! function 22: armplan/dynamics.Rates -/
def F22.r0 : List AOper := [
  ⟨(some 3), .box 35 (.tmp 0), none, []⟩,
  ⟨(some 6), .mv (.const (.slice none 0 0)), none, []⟩,
  ⟨(some 7), .mv (.const (.bool false)), none, []⟩]
def F22.r1 : List AOper := [
  ⟨(some 12), .load (some 2) (.tmp 3), none, []⟩,
  ⟨(some 13), .mv (.tmp 1), none, []⟩,
  ⟨(some 14), .call (.func 35) [(.tmp 12), (.tmp 13)], none, []⟩,
  ⟨(some 15), .un .not (.tmp 14), none, []⟩,
  ⟨(some 16), .mv (.tmp 15), none, []⟩,
  ⟨(some 17), .load (some 2) (.tmp 3), some ((some 16), false), []⟩,
  ⟨(some 18), .mv (.tmp 2), some ((some 16), false), []⟩,
  ⟨(some 19), .call (.func 35) [(.tmp 17), (.tmp 18)], some ((some 16), false), []⟩,
  ⟨(some 20), .un .not (.tmp 19), some ((some 16), false), []⟩,
  ⟨(some 21), .pick (.tmp 16) (.const (.bool true)) (.tmp 20), none, []⟩]
def F22.r2 : List AOper := [
  ⟨(some 6), .mv (.const (.slice none 0 0)), none, []⟩,
  ⟨(some 7), .mv (.const (.bool false)), none, []⟩]
def F22.r3 : List AOper := [
  ⟨(some 22), .mv (.tmp 1), none, []⟩,
  ⟨(some 23), .lenO false (.tmp 22), none, []⟩,
  ⟨(some 24), .makeSlice 23 [(.int .i64 0), (.int .i64 0)] 16 (.tmp 23) (.tmp 23), none, []⟩,
  ⟨(some 8), .mv (.tmp 24), none, []⟩]
def F22.r4 : List AOper := [
  ⟨(some 25), .fieldAddr 0 (.tmp 3), none, []⟩,
  ⟨(some 26), .load none (.tmp 25), none, []⟩,
  ⟨(some 27), .lenO false (.tmp 26), none, []⟩,
  ⟨(some 28), .mv (.const (.int .i64 0)), none, []⟩]
def F22.r5 : List AOper := [
  ⟨(some 29), .bin .lss .no (.tmp 28) (.tmp 27), none, []⟩]
def F22.r6 : List AOper := [
  ⟨(some 30), .mv (.tmp 28), none, []⟩,
  ⟨(some 31), .idxAddr none 12 (.tmp 26) (.tmp 28), none, []⟩,
  ⟨(some 32), .load (some 12) (.tmp 31), none, []⟩,
  ⟨(some 10), .alloc 61 [(.string (ByteArray.mk #[])), (.int .i64 0), (.int .i64 0), (.int .i64 0), (.int .i64 0), (.int .i64 0), (.int .i64 0), (.int .i64 0), (.int .i64 0), (.int .i64 0), (.int .i64 0), (.int .i64 0)], none, []⟩,
  ⟨(some 9), .mv (.tmp 30), none, []⟩,
  ⟨none, .store 12 (.tmp 10) (.tmp 32), none, []⟩]
def F22.r7 : List AOper := [
  ⟨(some 33), .mv (.tmp 2), none, []⟩,
  ⟨(some 34), .mv (.tmp 9), none, []⟩,
  ⟨(some 35), .idxAddr none 1 (.tmp 33) (.tmp 34), none, []⟩,
  ⟨(some 36), .load none (.tmp 35), none, []⟩,
  ⟨(some 37), .mv (.tmp 1), none, []⟩,
  ⟨(some 38), .mv (.tmp 9), none, []⟩,
  ⟨(some 39), .idxAddr none 1 (.tmp 37) (.tmp 38), none, []⟩,
  ⟨(some 40), .load none (.tmp 39), none, []⟩,
  ⟨(some 41), .bin .sub .no (.tmp 36) (.tmp 40), none, []⟩,
  ⟨(some 42), .mv (.tmp 2), none, []⟩,
  ⟨(some 43), .mv (.tmp 9), none, []⟩,
  ⟨(some 44), .idxAddr none 1 (.tmp 42) (.tmp 43), none, []⟩,
  ⟨(some 45), .load none (.tmp 44), none, []⟩,
  ⟨(some 46), .mv (.tmp 1), none, []⟩,
  ⟨(some 47), .mv (.tmp 9), none, []⟩,
  ⟨(some 48), .idxAddr none 1 (.tmp 46) (.tmp 47), none, []⟩,
  ⟨(some 49), .load none (.tmp 48), none, []⟩,
  ⟨(some 50), .bin .sub .no (.tmp 45) (.tmp 49), none, []⟩,
  ⟨(some 51), .build [(.int .i64 0), (.int .i64 0)] [(0, 1, (.tmp 41)), (1, 1, (.tmp 50))], none, []⟩,
  ⟨(some 11), .alloc 23 [(.int .i64 0), (.int .i64 0)], none, []⟩,
  ⟨none, .store 2 (.tmp 11) (.tmp 51), none, []⟩]
def F22.r8 : List AOper := [
  ⟨(some 52), .load (some 12) (.tmp 10), none, []⟩,
  ⟨(some 53), .call (.func 36) [(.tmp 52)], none, []⟩]
def F22.r9 : List AOper := [
  ⟨(some 55), .load (some 2) (.tmp 11), none, []⟩,
  ⟨(some 56), .build [(.int .i64 0), (.int .i64 0)] [(0, 1, (.const (.int .i64 411774))), (1, 1, (.const (.int .i64 411775)))], none, []⟩,
  ⟨(some 57), .call (.func 6) [(.tmp 55), (.tmp 56)], none, []⟩,
  ⟨(some 54), .mv (.tmp 57), none, []⟩,
  ⟨(some 58), .ext (.tmp 54) 0, none, []⟩,
  ⟨(some 59), .ext (.tmp 54) 1, none, []⟩,
  ⟨none, .store 2 (.tmp 11) (.tmp 58), none, []⟩]
def F22.r10 : List AOper := [
  ⟨(some 60), .mv (.tmp 8), none, []⟩,
  ⟨(some 61), .mv (.tmp 9), none, []⟩,
  ⟨(some 62), .load (some 2) (.tmp 11), none, []⟩,
  ⟨(some 63), .idxAddr none 2 (.tmp 60) (.tmp 61), none, []⟩,
  ⟨none, .store 2 (.tmp 63) (.tmp 62), none, []⟩]
def F22.r11 : List AOper := [
  ⟨(some 64), .bin .add .no (.tmp 28) (.const (.int .i64 1)), none, []⟩,
  ⟨(some 28), .mv (.tmp 64), none, []⟩]
def F22.l0 : ACode := (.seq (.region F22.r5) (.seq (.cond (.tmp 29) .skip (.exit 0)) (.seq (.block 1 (.seq (.region F22.r6) (.seq (.dregion F22.r7) (.seq (.seq (.region F22.r8) (.cond (.tmp 53) (.region F22.r9) .skip)) (.region F22.r10))))) (.region F22.r11))))
def F22.r12 : List AOper := [
  ⟨(some 65), .mv (.tmp 8), none, []⟩,
  ⟨(some 6), .mv (.tmp 65), none, []⟩,
  ⟨(some 7), .mv (.const (.bool true)), none, []⟩]
def F22 : AFunc := ⟨(.seq (.region F22.r0) (.seq (.seq (.region F22.r1) (.cond (.tmp 21) (.seq (.region F22.r2) .ret) .skip)) (.seq (.region F22.r3) (.seq (.seq (.region F22.r4) (.block 0 (.loop F22.l0))) (.seq (.region F22.r12) .ret))))),
  [.inl 6, .inl 7]⟩
/-! function 23: armplan/config.Piece -/
def F23.r0 : List AOper := [
  ⟨(some 8), .mv (.const (.slice none 0 0)), none, []⟩,
  ⟨(some 9), .mv (.const (.bool false)), none, []⟩]
def F23.r1 : List AOper := [
  ⟨(some 15), .mv (.tmp 0), none, []⟩,
  ⟨(some 16), .mv (.tmp 1), none, []⟩,
  ⟨(some 17), .mv (.tmp 2), none, []⟩,
  ⟨(some 18), .call (.func 37) [(.tmp 15), (.tmp 16), (.tmp 17)], none, []⟩,
  ⟨(some 19), .un .not (.tmp 18), none, []⟩,
  ⟨(some 20), .mv (.tmp 19), none, []⟩,
  ⟨(some 21), .mv (.tmp 3), some ((some 20), false), []⟩,
  ⟨(some 22), .bin .lss .no (.tmp 21) (.const (.int .i64 0)), some ((some 20), false), []⟩,
  ⟨(some 23), .pick (.tmp 20) (.const (.bool true)) (.tmp 22), none, []⟩,
  ⟨(some 24), .mv (.tmp 23), none, []⟩,
  ⟨(some 25), .mv (.tmp 3), some ((some 24), false), []⟩,
  ⟨(some 26), .mv (.tmp 2), some ((some 24), false), []⟩,
  ⟨(some 27), .bin .shl .no (.const (.int .i64 1)) (.tmp 26), some ((some 24), false), []⟩,
  ⟨(some 28), .bin .geq .no (.tmp 25) (.tmp 27), some ((some 24), false), []⟩,
  ⟨(some 29), .pick (.tmp 24) (.const (.bool true)) (.tmp 28), none, []⟩]
def F23.r2 : List AOper := [
  ⟨(some 8), .mv (.const (.slice none 0 0)), none, []⟩,
  ⟨(some 9), .mv (.const (.bool false)), none, []⟩]
def F23.r3 : List AOper := [
  ⟨(some 30), .mv (.tmp 0), none, []⟩,
  ⟨(some 31), .lenO false (.tmp 30), none, []⟩,
  ⟨(some 32), .makeSlice 49 [(.int .i64 0), (.int .i64 0)] 16 (.tmp 31) (.tmp 31), none, []⟩,
  ⟨(some 10), .mv (.tmp 32), none, []⟩]
def F23.r4 : List AOper := [
  ⟨(some 33), .mv (.tmp 0), none, []⟩,
  ⟨(some 34), .lenO false (.tmp 33), none, []⟩,
  ⟨(some 35), .mv (.const (.int .i64 0)), none, []⟩]
def F23.r5 : List AOper := [
  ⟨(some 36), .bin .lss .no (.tmp 35) (.tmp 34), none, []⟩]
def F23.r6 : List AOper := [
  ⟨(some 37), .mv (.tmp 35), none, []⟩,
  ⟨(some 11), .mv (.tmp 37), none, []⟩]
def F23.r7 : List AOper := [
  ⟨(some 38), .mv (.tmp 1), none, []⟩,
  ⟨(some 39), .mv (.tmp 11), none, []⟩,
  ⟨(some 40), .idxAddr none 1 (.tmp 38) (.tmp 39), none, []⟩,
  ⟨(some 41), .load none (.tmp 40), none, []⟩,
  ⟨(some 42), .mv (.tmp 0), none, []⟩,
  ⟨(some 43), .mv (.tmp 11), none, []⟩,
  ⟨(some 44), .idxAddr none 1 (.tmp 42) (.tmp 43), none, []⟩,
  ⟨(some 45), .load none (.tmp 44), none, []⟩,
  ⟨(some 46), .bin .sub .no (.tmp 41) (.tmp 45), none, []⟩,
  ⟨(some 12), .mv (.tmp 46), none, []⟩]
def F23.r8 : List AOper := [
  ⟨(some 47), .mv (.tmp 3), none, []⟩,
  ⟨(some 48), .mv (.tmp 12), none, []⟩,
  ⟨(some 49), .bin .mul .no (.tmp 47) (.tmp 48), none, []⟩,
  ⟨(some 50), .mv (.tmp 3), none, []⟩,
  ⟨(some 51), .bin .add .no (.tmp 50) (.const (.int .i64 1)), none, []⟩,
  ⟨(some 52), .mv (.tmp 12), none, []⟩,
  ⟨(some 53), .bin .mul .no (.tmp 51) (.tmp 52), none, []⟩,
  ⟨(some 54), .minmax false [(.tmp 49), (.tmp 53)], none, []⟩,
  ⟨(some 55), .mv (.tmp 3), none, []⟩,
  ⟨(some 56), .mv (.tmp 12), none, []⟩,
  ⟨(some 57), .bin .mul .no (.tmp 55) (.tmp 56), none, []⟩,
  ⟨(some 58), .mv (.tmp 3), none, []⟩,
  ⟨(some 59), .bin .add .no (.tmp 58) (.const (.int .i64 1)), none, []⟩,
  ⟨(some 60), .mv (.tmp 12), none, []⟩,
  ⟨(some 61), .bin .mul .no (.tmp 59) (.tmp 60), none, []⟩,
  ⟨(some 62), .minmax true [(.tmp 57), (.tmp 61)], none, []⟩,
  ⟨(some 13), .mv (.tmp 54), none, []⟩,
  ⟨(some 14), .mv (.tmp 62), none, []⟩]
def F23.r9 : List AOper := [
  ⟨(some 63), .mv (.tmp 10), none, []⟩,
  ⟨(some 64), .mv (.tmp 11), none, []⟩,
  ⟨(some 65), .mv (.tmp 0), none, []⟩,
  ⟨(some 66), .mv (.tmp 11), none, []⟩,
  ⟨(some 67), .idxAddr none 1 (.tmp 65) (.tmp 66), none, []⟩,
  ⟨(some 68), .load none (.tmp 67), none, []⟩,
  ⟨(some 69), .mv (.tmp 13), none, []⟩,
  ⟨(some 70), .mv (.tmp 2), none, []⟩,
  ⟨(some 71), .bin .shr .no (.tmp 69) (.tmp 70), none, []⟩,
  ⟨(some 72), .bin .add .no (.tmp 68) (.tmp 71), none, []⟩,
  ⟨(some 73), .mv (.tmp 0), none, []⟩,
  ⟨(some 74), .mv (.tmp 11), none, []⟩,
  ⟨(some 75), .idxAddr none 1 (.tmp 73) (.tmp 74), none, []⟩,
  ⟨(some 76), .load none (.tmp 75), none, []⟩,
  ⟨(some 77), .mv (.tmp 14), none, []⟩,
  ⟨(some 78), .un .neg (.tmp 77), none, []⟩,
  ⟨(some 79), .mv (.tmp 2), none, []⟩,
  ⟨(some 80), .bin .shr .no (.tmp 78) (.tmp 79), none, []⟩,
  ⟨(some 81), .bin .sub .no (.tmp 76) (.tmp 80), none, []⟩,
  ⟨(some 82), .build [(.int .i64 0), (.int .i64 0)] [(0, 1, (.tmp 72)), (1, 1, (.tmp 81))], none, []⟩,
  ⟨(some 83), .idxAddr none 2 (.tmp 63) (.tmp 64), none, []⟩,
  ⟨none, .store 2 (.tmp 83) (.tmp 82), none, []⟩]
def F23.r10 : List AOper := [
  ⟨(some 84), .bin .add .no (.tmp 35) (.const (.int .i64 1)), none, []⟩,
  ⟨(some 35), .mv (.tmp 84), none, []⟩]
def F23.l0 : ACode := (.seq (.region F23.r5) (.seq (.cond (.tmp 36) .skip (.exit 0)) (.seq (.block 1 (.seq (.region F23.r6) (.seq (.dregion F23.r7) (.seq (.region F23.r8) (.dregion F23.r9))))) (.region F23.r10))))
def F23.r11 : List AOper := [
  ⟨(some 85), .mv (.tmp 10), none, []⟩,
  ⟨(some 8), .mv (.tmp 85), none, []⟩,
  ⟨(some 9), .mv (.const (.bool true)), none, []⟩]
def F23 : AFunc := ⟨(.seq (.region F23.r0) (.seq (.seq (.region F23.r1) (.cond (.tmp 29) (.seq (.region F23.r2) .ret) .skip)) (.seq (.region F23.r3) (.seq (.seq (.region F23.r4) (.block 0 (.loop F23.l0))) (.seq (.region F23.r11) .ret))))),
  [.inl 8, .inl 9]⟩
/-! function 24: armplan/dynamics.usable -/
def F24.r0 : List AOper := [
  ⟨(some 3), .box 35 (.tmp 0), none, []⟩,
  ⟨(some 4), .box 40 (.tmp 1), none, []⟩,
  ⟨(some 6), .mv (.const (.bool false)), none, []⟩]
def F24.r1 : List AOper := [
  ⟨(some 9), .load (some 3) (.tmp 4), none, []⟩,
  ⟨(some 10), .mv (.const (.int .i64 0)), none, []⟩]
def F24.r2 : List AOper := [
  ⟨(some 11), .bin .lss .no (.tmp 10) (.const (.int .i64 3)), none, []⟩]
def F24.r3 : List AOper := [
  ⟨(some 12), .idx 3 1 none (.tmp 9) (.tmp 10), none, []⟩,
  ⟨(some 8), .mv (.tmp 12), none, []⟩]
def F24.r4 : List AOper := [
  ⟨(some 13), .mv (.tmp 8), none, []⟩,
  ⟨(some 14), .bin .lss .no (.tmp 13) (.const (.int .i64 (-16777216))), none, []⟩,
  ⟨(some 15), .mv (.tmp 14), none, []⟩,
  ⟨(some 16), .mv (.tmp 8), some ((some 15), false), []⟩,
  ⟨(some 17), .bin .gtr .no (.tmp 16) (.const (.int .i64 16777216)), some ((some 15), false), []⟩,
  ⟨(some 18), .pick (.tmp 15) (.const (.bool true)) (.tmp 17), none, []⟩]
def F24.r5 : List AOper := [
  ⟨(some 6), .mv (.const (.bool false)), none, []⟩]
def F24.r6 : List AOper := [
  ⟨(some 19), .bin .add .no (.tmp 10) (.const (.int .i64 1)), none, []⟩,
  ⟨(some 10), .mv (.tmp 19), none, []⟩]
def F24.l0 : ACode := (.seq (.region F24.r2) (.seq (.cond (.tmp 11) .skip (.exit 0)) (.seq (.block 1 (.seq (.region F24.r3) (.seq (.region F24.r4) (.cond (.tmp 18) (.seq (.region F24.r5) .ret) .skip)))) (.region F24.r6))))
def F24.r7 : List AOper := [
  ⟨(some 20), .load (some 2) (.tmp 3), none, []⟩,
  ⟨(some 21), .mv (.tmp 2), none, []⟩,
  ⟨(some 22), .call (.func 38) [(.tmp 20), (.tmp 21)], none, []⟩,
  ⟨(some 6), .mv (.tmp 22), none, []⟩]
def F24 : AFunc := ⟨(.seq (.region F24.r0) (.seq (.seq (.region F24.r1) (.block 0 (.loop F24.l0))) (.seq (.region F24.r7) .ret))),
  [.inl 6]⟩
/-! function 25: armplan/dynamics.newModel -/
def F25.r0 : List AOper := [
  ⟨(some 2), .box 35 (.tmp 0), none, []⟩,
  ⟨(some 4), .mv (.const (.pointer none)), none, []⟩]
def F25.r1 : List AOper := [
  ⟨(some 16), .load (some 2) (.tmp 2), none, []⟩,
  ⟨(some 17), .fieldAddr 1 (.tmp 2), none, []⟩,
  ⟨(some 18), .load none (.tmp 17), none, []⟩,
  ⟨(some 19), .lenO false (.tmp 18), none, []⟩,
  ⟨(some 20), .makeSlice 78 [(.slice none 0 0)] 24 (.tmp 19) (.tmp 19), none, []⟩,
  ⟨(some 21), .build [(.bool false), (.slice none 0 0), (.slice none 0 0), (.slice none 0 0)] [(1, 2, (.tmp 16)), (3, 1, (.tmp 20))], none, []⟩,
  ⟨(some 22), .box 77 (.tmp 21), none, []⟩,
  ⟨(some 5), .mv (.tmp 22), none, []⟩]
def F25.r2 : List AOper := [
  ⟨(some 23), .load (some 2) (.tmp 2), none, []⟩,
  ⟨(some 24), .mv (.tmp 1), none, []⟩,
  ⟨(some 25), .call (.func 39) [(.tmp 23), (.tmp 24)], none, []⟩,
  ⟨(some 6), .mv (.tmp 25), none, []⟩]
def F25.r3 : List AOper := [
  ⟨(some 26), .fieldAddr 1 (.tmp 2), none, []⟩,
  ⟨(some 27), .load none (.tmp 26), none, []⟩,
  ⟨(some 28), .lenO false (.tmp 27), none, []⟩,
  ⟨(some 29), .mv (.const (.int .i64 0)), none, []⟩]
def F25.r4 : List AOper := [
  ⟨(some 30), .bin .lss .no (.tmp 29) (.tmp 28), none, []⟩]
def F25.r5 : List AOper := [
  ⟨(some 31), .mv (.tmp 29), none, []⟩,
  ⟨(some 32), .idxAddr none 5 (.tmp 27) (.tmp 29), none, []⟩,
  ⟨(some 33), .load (some 5) (.tmp 32), none, []⟩,
  ⟨(some 8), .alloc 89 [(.int .i64 0), (.int .i64 0), (.int .i64 0), (.int .i64 0), (.int .i64 0)], none, []⟩,
  ⟨(some 7), .mv (.tmp 31), none, []⟩,
  ⟨none, .store 5 (.tmp 8) (.tmp 33), none, []⟩]
def F25.r6 : List AOper := [
  ⟨(some 34), .mv (.tmp 6), none, []⟩,
  ⟨(some 35), .fieldAddr 0 (.tmp 8), none, []⟩,
  ⟨(some 36), .load none (.tmp 35), none, [7]⟩,
  ⟨(some 37), .idxAddr none 24 (.tmp 34) (.tmp 36), none, []⟩,
  ⟨(some 38), .load (some 24) (.tmp 37), none, [7]⟩,
  ⟨(some 39), .fieldAddr 2 (.tmp 8), none, []⟩,
  ⟨(some 40), .load (some 3) (.tmp 39), none, []⟩,
  ⟨(some 41), .call (.func 42) [(.tmp 40)], none, []⟩,
  ⟨(some 42), .call (.func 41) [(.tmp 38), (.tmp 41)], none, []⟩,
  ⟨(some 43), .call (.func 40) [(.tmp 42)], none, []⟩,
  ⟨(some 9), .alloc 80 [(.int .i64 0), (.int .i64 0), (.int .i64 0), (.int .i64 0), (.int .i64 0), (.int .i64 0)], none, []⟩,
  ⟨none, .store 6 (.tmp 9) (.tmp 43), none, []⟩]
def F25.r7 : List AOper := [
  ⟨(some 44), .load (some 2) (.tmp 2), none, []⟩,
  ⟨(some 45), .fieldAddr 0 (.tmp 8), none, []⟩,
  ⟨(some 46), .load none (.tmp 45), none, []⟩,
  ⟨(some 47), .call (.func 43) [(.tmp 44), (.tmp 46)], none, []⟩,
  ⟨(some 48), .lenO false (.tmp 47), none, []⟩,
  ⟨(some 49), .mv (.const (.int .i64 0)), none, []⟩]
def F25.r8 : List AOper := [
  ⟨(some 50), .bin .lss .no (.tmp 49) (.tmp 48), none, []⟩]
def F25.r9 : List AOper := [
  ⟨(some 51), .idxAddr none 1 (.tmp 47) (.tmp 49), none, []⟩,
  ⟨(some 52), .load none (.tmp 51), none, []⟩,
  ⟨(some 11), .mv (.tmp 52), none, []⟩]
def F25.r10 : List AOper := [
  ⟨(some 53), .fieldAddr 0 (.tmp 2), none, []⟩,
  ⟨(some 54), .load none (.tmp 53), none, []⟩,
  ⟨(some 55), .mv (.tmp 11), none, []⟩,
  ⟨(some 56), .idxAddr none 12 (.tmp 54) (.tmp 55), none, []⟩,
  ⟨(some 57), .load (some 12) (.tmp 56), none, []⟩,
  ⟨(some 12), .alloc 61 [(.string (ByteArray.mk #[])), (.int .i64 0), (.int .i64 0), (.int .i64 0), (.int .i64 0), (.int .i64 0), (.int .i64 0), (.int .i64 0), (.int .i64 0), (.int .i64 0), (.int .i64 0), (.int .i64 0)], none, []⟩,
  ⟨none, .store 12 (.tmp 12) (.tmp 57), none, []⟩]
def F25.r11 : List AOper := [
  ⟨(some 58), .fieldAddr 1 (.tmp 12), none, []⟩,
  ⟨(some 59), .load none (.tmp 58), none, []⟩,
  ⟨(some 60), .bin .eql .no (.tmp 59) (.const (.int .i64 0)), none, []⟩]
def F25.r12 : List AOper := [
  ⟨(some 61), .mv (.tmp 11), none, []⟩,
  ⟨(some 62), .load (some 12) (.tmp 12), none, []⟩,
  ⟨(some 63), .call (.func 36) [(.tmp 62)], none, []⟩,
  ⟨(some 64), .load (some 12) (.tmp 12), none, [2]⟩,
  ⟨(some 65), .mv (.tmp 6), none, []⟩,
  ⟨(some 66), .mv (.tmp 11), none, []⟩,
  ⟨(some 67), .idxAddr none 24 (.tmp 65) (.tmp 66), none, []⟩,
  ⟨(some 68), .load (some 24) (.tmp 67), none, [2]⟩,
  ⟨(some 69), .call (.func 44) [(.tmp 64), (.tmp 68)], none, []⟩,
  ⟨(some 70), .build [(.int .i64 0), (.bool false), (.int .i64 0), (.int .i64 0), (.int .i64 0), (.int .i64 0), (.int .i64 0), (.int .i64 0), (.int .i64 0), (.int .i64 0), (.int .i64 0), (.int .i64 0), (.int .i64 0), (.int .i64 0)] [(0, 1, (.tmp 61)), (1, 1, (.tmp 63)), (2, 6, (.tmp 69))], none, []⟩,
  ⟨(some 13), .alloc 84 [(.int .i64 0), (.bool false), (.int .i64 0), (.int .i64 0), (.int .i64 0), (.int .i64 0), (.int .i64 0), (.int .i64 0), (.int .i64 0), (.int .i64 0), (.int .i64 0), (.int .i64 0), (.int .i64 0), (.int .i64 0)], none, []⟩,
  ⟨none, .store 14 (.tmp 13) (.tmp 70), none, []⟩]
def F25.r13 : List AOper := [
  ⟨(some 71), .fieldAddr 2 (.tmp 13), none, []⟩,
  ⟨(some 72), .load (some 6) (.tmp 71), none, []⟩,
  ⟨(some 73), .fieldAddr 8 (.tmp 13), none, []⟩,
  ⟨none, .store 6 (.tmp 73) (.tmp 72), none, []⟩]
def F25.r14 : List AOper := [
  ⟨(some 74), .fieldAddr 1 (.tmp 13), none, []⟩,
  ⟨(some 75), .load none (.tmp 74), none, []⟩]
def F25.r15 : List AOper := [
  ⟨(some 76), .mv (.tmp 6), none, []⟩,
  ⟨(some 77), .mv (.tmp 11), none, []⟩,
  ⟨(some 78), .idxAddr none 24 (.tmp 76) (.tmp 77), none, []⟩,
  ⟨(some 79), .fieldAddr 18 (.tmp 78), none, []⟩,
  ⟨(some 80), .load (some 6) (.tmp 79), none, []⟩,
  ⟨(some 81), .call (.func 40) [(.tmp 80)], none, []⟩,
  ⟨(some 14), .alloc 80 [(.int .i64 0), (.int .i64 0), (.int .i64 0), (.int .i64 0), (.int .i64 0), (.int .i64 0)], none, []⟩,
  ⟨none, .store 6 (.tmp 14) (.tmp 81), none, []⟩]
def F25.r16 : List AOper := [
  ⟨(some 82), .mv (.const (.int .i64 0)), none, []⟩]
def F25.r17 : List AOper := [
  ⟨(some 83), .bin .lss .no (.tmp 82) (.const (.int .i64 3)), none, []⟩]
def F25.r18 : List AOper := [
  ⟨(some 84), .mv (.tmp 82), none, []⟩,
  ⟨(some 15), .mv (.tmp 84), none, []⟩]
def F25.r19 : List AOper := [
  ⟨(some 85), .mv (.tmp 15), none, []⟩,
  ⟨(some 86), .mv (.tmp 5), none, []⟩,
  ⟨(some 87), .nilCheck (.tmp 86), none, []⟩,
  ⟨(some 88), .fieldAddr 0 (.tmp 87), none, []⟩,
  ⟨(some 89), .mv (.tmp 15), none, []⟩,
  ⟨(some 90), .idxAddr (some 3) 2 (.tmp 9) (.tmp 89), none, []⟩,
  ⟨(some 91), .load (some 2) (.tmp 90), none, [10]⟩,
  ⟨(some 92), .mv (.tmp 15), none, []⟩,
  ⟨(some 93), .idxAddr (some 3) 2 (.tmp 14) (.tmp 92), none, []⟩,
  ⟨(some 94), .load (some 2) (.tmp 93), none, []⟩,
  ⟨(some 95), .call (.func 45) [(.tmp 94)], none, []⟩,
  ⟨(some 96), .call (.func 28) [(.tmp 88), (.tmp 91), (.tmp 95)], none, []⟩,
  ⟨(some 97), .idxAddr (some 3) 2 (.tmp 14) (.tmp 85), none, []⟩,
  ⟨none, .store 2 (.tmp 97) (.tmp 96), none, []⟩]
def F25.r20 : List AOper := [
  ⟨(some 98), .bin .add .no (.tmp 82) (.const (.int .i64 1)), none, []⟩,
  ⟨(some 82), .mv (.tmp 98), none, []⟩]
def F25.l0 : ACode := (.seq (.region F25.r17) (.seq (.cond (.tmp 83) .skip (.exit 4)) (.seq (.block 5 (.seq (.region F25.r18) (.dregion F25.r19))) (.region F25.r20))))
def F25.r21 : List AOper := [
  ⟨(some 99), .mv (.tmp 5), none, []⟩,
  ⟨(some 100), .nilCheck (.tmp 99), none, []⟩,
  ⟨(some 101), .fieldAddr 0 (.tmp 100), none, []⟩,
  ⟨(some 102), .fieldAddr 2 (.tmp 13), none, []⟩,
  ⟨(some 103), .load (some 6) (.tmp 102), none, []⟩,
  ⟨(some 104), .load (some 6) (.tmp 14), none, []⟩,
  ⟨(some 105), .call (.func 46) [(.tmp 101), (.tmp 103), (.tmp 104)], none, []⟩,
  ⟨(some 106), .fieldAddr 8 (.tmp 13), none, []⟩,
  ⟨none, .store 6 (.tmp 106) (.tmp 105), none, []⟩]
def F25.r22 : List AOper := [
  ⟨(some 107), .mv (.tmp 5), none, []⟩,
  ⟨(some 108), .nilCheck (.tmp 107), none, []⟩,
  ⟨(some 109), .fieldAddr 3 (.tmp 108), none, []⟩,
  ⟨(some 110), .load none (.tmp 109), none, [14]⟩,
  ⟨(some 111), .mv (.tmp 7), none, []⟩,
  ⟨(some 112), .mv (.tmp 5), none, []⟩,
  ⟨(some 113), .nilCheck (.tmp 112), none, []⟩,
  ⟨(some 114), .fieldAddr 3 (.tmp 113), none, []⟩,
  ⟨(some 115), .load none (.tmp 114), none, []⟩,
  ⟨(some 116), .mv (.tmp 7), none, []⟩,
  ⟨(some 117), .idxAddr none 1 (.tmp 115) (.tmp 116), none, []⟩,
  ⟨(some 118), .load none (.tmp 117), none, []⟩,
  ⟨(some 119), .load (some 14) (.tmp 13), none, []⟩,
  ⟨(some 120), .buildSlice 84 [(.int .i64 0), (.bool false), (.int .i64 0), (.int .i64 0), (.int .i64 0), (.int .i64 0), (.int .i64 0), (.int .i64 0), (.int .i64 0), (.int .i64 0), (.int .i64 0), (.int .i64 0), (.int .i64 0), (.int .i64 0)] 1 [(0, 14, (.tmp 119))], none, []⟩,
  ⟨(some 121), .append 84 14 112 (.tmp 118) (.tmp 120), none, []⟩,
  ⟨(some 122), .idxAddr none 1 (.tmp 110) (.tmp 111), none, []⟩,
  ⟨none, .store 1 (.tmp 122) (.tmp 121), none, []⟩]
def F25.r23 : List AOper := [
  ⟨(some 123), .bin .add .no (.tmp 49) (.const (.int .i64 1)), none, []⟩,
  ⟨(some 49), .mv (.tmp 123), none, []⟩]
def F25.l1 : ACode := (.seq (.region F25.r8) (.seq (.cond (.tmp 50) .skip (.exit 2)) (.seq (.block 3 (.seq (.region F25.r9) (.seq (.region F25.r10) (.seq (.seq (.region F25.r11) (.cond (.tmp 60) (.exit 3) .skip)) (.seq (.dregion F25.r12) (.seq (.region F25.r13) (.seq (.seq (.region F25.r14) (.cond (.tmp 75) (.seq (.region F25.r15) (.seq (.seq (.region F25.r16) (.block 4 (.loop F25.l0))) (.dregion F25.r21))) .skip)) (.dregion F25.r22)))))))) (.region F25.r23))))
def F25.r24 : List AOper := [
  ⟨(some 124), .bin .add .no (.tmp 29) (.const (.int .i64 1)), none, []⟩,
  ⟨(some 29), .mv (.tmp 124), none, []⟩]
def F25.l2 : ACode := (.seq (.region F25.r4) (.seq (.cond (.tmp 30) .skip (.exit 0)) (.seq (.block 1 (.seq (.region F25.r5) (.seq (.dregion F25.r6) (.seq (.region F25.r7) (.block 2 (.loop F25.l1)))))) (.region F25.r24))))
def F25.r25 : List AOper := [
  ⟨(some 125), .mv (.tmp 5), none, []⟩,
  ⟨(some 4), .mv (.tmp 125), none, []⟩]
def F25 : AFunc := ⟨(.seq (.region F25.r0) (.seq (.dregion F25.r1) (.seq (.region F25.r2) (.seq (.seq (.region F25.r3) (.block 0 (.loop F25.l2))) (.seq (.region F25.r25) .ret))))),
  [.inl 4]⟩
/-! function 26: (*armplan/dynamics.model).rest -/
def F26.r0 : List AOper := [
  ⟨(some 3), .box 40 (.tmp 1), none, []⟩,
  ⟨(some 4), .mv (.const (.slice none 0 0)), none, []⟩]
def F26.r1 : List AOper := [
  ⟨(some 12), .idxAddr (some 3) 1 (.tmp 3) (.const (.int .i64 0)), none, []⟩,
  ⟨(some 13), .load none (.tmp 12), none, []⟩,
  ⟨(some 14), .idxAddr (some 3) 1 (.tmp 3) (.const (.int .i64 0)), none, []⟩,
  ⟨(some 15), .load none (.tmp 14), none, []⟩,
  ⟨(some 16), .build [(.int .i64 0), (.int .i64 0)] [(0, 1, (.tmp 13)), (1, 1, (.tmp 15))], none, []⟩,
  ⟨(some 17), .idxAddr (some 3) 1 (.tmp 3) (.const (.int .i64 1)), none, []⟩,
  ⟨(some 18), .load none (.tmp 17), none, []⟩,
  ⟨(some 19), .idxAddr (some 3) 1 (.tmp 3) (.const (.int .i64 1)), none, []⟩,
  ⟨(some 20), .load none (.tmp 19), none, []⟩,
  ⟨(some 21), .build [(.int .i64 0), (.int .i64 0)] [(0, 1, (.tmp 18)), (1, 1, (.tmp 20))], none, []⟩,
  ⟨(some 22), .idxAddr (some 3) 1 (.tmp 3) (.const (.int .i64 2)), none, []⟩,
  ⟨(some 23), .load none (.tmp 22), none, []⟩,
  ⟨(some 24), .idxAddr (some 3) 1 (.tmp 3) (.const (.int .i64 2)), none, []⟩,
  ⟨(some 25), .load none (.tmp 24), none, []⟩,
  ⟨(some 26), .build [(.int .i64 0), (.int .i64 0)] [(0, 1, (.tmp 23)), (1, 1, (.tmp 25))], none, []⟩,
  ⟨(some 27), .build [(.int .i64 0), (.int .i64 0), (.int .i64 0), (.int .i64 0), (.int .i64 0), (.int .i64 0)] [(0, 2, (.tmp 16)), (2, 2, (.tmp 21)), (4, 2, (.tmp 26))], none, []⟩,
  ⟨(some 5), .alloc 80 [(.int .i64 0), (.int .i64 0), (.int .i64 0), (.int .i64 0), (.int .i64 0), (.int .i64 0)], none, []⟩,
  ⟨none, .store 6 (.tmp 5) (.tmp 27), none, []⟩]
def F26.r2 : List AOper := [
  ⟨(some 28), .mv (.tmp 0), none, []⟩,
  ⟨(some 29), .nilCheck (.tmp 28), none, []⟩,
  ⟨(some 30), .fieldAddr 1 (.tmp 29), none, []⟩,
  ⟨(some 31), .fieldAddr 0 (.tmp 30), none, []⟩,
  ⟨(some 32), .load none (.tmp 31), none, []⟩,
  ⟨(some 33), .lenO false (.tmp 32), none, []⟩,
  ⟨(some 34), .makeSlice 23 [(.int .i64 0), (.int .i64 0)] 16 (.tmp 33) (.tmp 33), none, []⟩,
  ⟨(some 6), .mv (.tmp 34), none, []⟩]
def F26.r3 : List AOper := [
  ⟨(some 35), .mv (.tmp 0), none, []⟩,
  ⟨(some 36), .nilCheck (.tmp 35), none, []⟩,
  ⟨(some 37), .fieldAddr 3 (.tmp 36), none, []⟩,
  ⟨(some 38), .load none (.tmp 37), none, []⟩,
  ⟨(some 39), .lenO false (.tmp 38), none, []⟩,
  ⟨(some 40), .mv (.const (.int .i64 0)), none, []⟩]
def F26.r4 : List AOper := [
  ⟨(some 41), .bin .lss .no (.tmp 40) (.tmp 39), none, []⟩]
def F26.r5 : List AOper := [
  ⟨(some 42), .mv (.tmp 40), none, []⟩,
  ⟨(some 43), .idxAddr none 1 (.tmp 38) (.tmp 40), none, []⟩,
  ⟨(some 44), .load none (.tmp 43), none, []⟩,
  ⟨(some 7), .mv (.tmp 42), none, []⟩,
  ⟨(some 8), .mv (.tmp 44), none, []⟩]
def F26.r6 : List AOper := [
  ⟨(some 45), .mv (.tmp 8), none, []⟩,
  ⟨(some 46), .lenO false (.tmp 45), none, []⟩,
  ⟨(some 47), .mv (.const (.int .i64 0)), none, []⟩]
def F26.r7 : List AOper := [
  ⟨(some 48), .bin .lss .no (.tmp 47) (.tmp 46), none, []⟩]
def F26.r8 : List AOper := [
  ⟨(some 49), .idxAddr none 14 (.tmp 45) (.tmp 47), none, []⟩,
  ⟨(some 50), .load (some 14) (.tmp 49), none, []⟩,
  ⟨(some 10), .alloc 84 [(.int .i64 0), (.bool false), (.int .i64 0), (.int .i64 0), (.int .i64 0), (.int .i64 0), (.int .i64 0), (.int .i64 0), (.int .i64 0), (.int .i64 0), (.int .i64 0), (.int .i64 0), (.int .i64 0), (.int .i64 0)], none, []⟩,
  ⟨none, .store 14 (.tmp 10) (.tmp 50), none, []⟩]
def F26.r9 : List AOper := [
  ⟨(some 51), .mv (.tmp 6), none, []⟩,
  ⟨(some 52), .fieldAddr 0 (.tmp 10), none, []⟩,
  ⟨(some 53), .load none (.tmp 52), none, [29, 30, 31]⟩,
  ⟨(some 54), .mv (.tmp 0), none, []⟩,
  ⟨(some 55), .nilCheck (.tmp 54), none, []⟩,
  ⟨(some 56), .fieldAddr 0 (.tmp 55), none, []⟩,
  ⟨(some 57), .mv (.tmp 6), none, []⟩,
  ⟨(some 58), .fieldAddr 0 (.tmp 10), none, []⟩,
  ⟨(some 59), .load none (.tmp 58), none, [29, 30]⟩,
  ⟨(some 60), .idxAddr none 2 (.tmp 57) (.tmp 59), none, []⟩,
  ⟨(some 61), .load (some 2) (.tmp 60), none, [29, 30]⟩,
  ⟨(some 62), .mv (.tmp 0), none, []⟩,
  ⟨(some 63), .nilCheck (.tmp 62), none, []⟩,
  ⟨(some 64), .fieldAddr 0 (.tmp 63), none, []⟩,
  ⟨(some 65), .mv (.tmp 0), none, []⟩,
  ⟨(some 66), .nilCheck (.tmp 65), none, []⟩,
  ⟨(some 67), .fieldAddr 1 (.tmp 66), none, []⟩,
  ⟨(some 68), .fieldAddr 1 (.tmp 67), none, []⟩,
  ⟨(some 69), .load none (.tmp 68), none, [29]⟩,
  ⟨(some 70), .mv (.tmp 7), none, []⟩,
  ⟨(some 71), .idxAddr none 5 (.tmp 69) (.tmp 70), none, []⟩,
  ⟨(some 72), .fieldAddr 1 (.tmp 71), none, []⟩,
  ⟨(some 73), .load none (.tmp 72), none, [29]⟩,
  ⟨(some 74), .mv (.tmp 0), none, []⟩,
  ⟨(some 75), .nilCheck (.tmp 74), none, []⟩,
  ⟨(some 76), .fieldAddr 0 (.tmp 75), none, []⟩,
  ⟨(some 77), .fieldAddr 8 (.tmp 10), none, []⟩,
  ⟨(some 78), .load (some 6) (.tmp 77), none, []⟩,
  ⟨(some 79), .load (some 6) (.tmp 5), none, []⟩,
  ⟨(some 80), .call (.func 30) [(.tmp 76), (.tmp 78), (.tmp 79)], none, []⟩,
  ⟨(some 81), .call (.func 29) [(.tmp 64), (.tmp 73), (.tmp 80)], none, []⟩,
  ⟨(some 82), .call (.func 28) [(.tmp 56), (.tmp 61), (.tmp 81)], none, []⟩,
  ⟨(some 83), .idxAddr none 2 (.tmp 51) (.tmp 53), none, []⟩,
  ⟨none, .store 2 (.tmp 83) (.tmp 82), none, []⟩]
def F26.r10 : List AOper := [
  ⟨(some 84), .bin .add .no (.tmp 47) (.const (.int .i64 1)), none, []⟩,
  ⟨(some 47), .mv (.tmp 84), none, []⟩]
def F26.l0 : ACode := (.seq (.region F26.r7) (.seq (.cond (.tmp 48) .skip (.exit 2)) (.seq (.block 3 (.seq (.region F26.r8) (.dregion F26.r9))) (.region F26.r10))))
def F26.r11 : List AOper := [
  ⟨(some 85), .bin .add .no (.tmp 40) (.const (.int .i64 1)), none, []⟩,
  ⟨(some 40), .mv (.tmp 85), none, []⟩]
def F26.l1 : ACode := (.seq (.region F26.r4) (.seq (.cond (.tmp 41) .skip (.exit 0)) (.seq (.block 1 (.seq (.region F26.r5) (.seq (.region F26.r6) (.block 2 (.loop F26.l0))))) (.region F26.r11))))
def F26.r12 : List AOper := [
  ⟨(some 86), .mv (.tmp 6), none, []⟩,
  ⟨(some 87), .lenO false (.tmp 86), none, []⟩,
  ⟨(some 88), .mv (.const (.int .i64 0)), none, []⟩]
def F26.r13 : List AOper := [
  ⟨(some 89), .bin .lss .no (.tmp 88) (.tmp 87), none, []⟩]
def F26.r14 : List AOper := [
  ⟨(some 90), .mv (.tmp 88), none, []⟩,
  ⟨(some 11), .mv (.tmp 90), none, []⟩]
def F26.r15 : List AOper := [
  ⟨(some 91), .mv (.tmp 6), none, []⟩,
  ⟨(some 92), .mv (.tmp 11), none, []⟩,
  ⟨(some 93), .mv (.tmp 6), none, []⟩,
  ⟨(some 94), .mv (.tmp 11), none, []⟩,
  ⟨(some 95), .idxAddr none 2 (.tmp 93) (.tmp 94), none, []⟩,
  ⟨(some 96), .load (some 2) (.tmp 95), none, []⟩,
  ⟨(some 97), .call (.func 45) [(.tmp 96)], none, []⟩,
  ⟨(some 98), .idxAddr none 2 (.tmp 91) (.tmp 92), none, []⟩,
  ⟨none, .store 2 (.tmp 98) (.tmp 97), none, []⟩]
def F26.r16 : List AOper := [
  ⟨(some 99), .bin .add .no (.tmp 88) (.const (.int .i64 1)), none, []⟩,
  ⟨(some 88), .mv (.tmp 99), none, []⟩]
def F26.l2 : ACode := (.seq (.region F26.r13) (.seq (.cond (.tmp 89) .skip (.exit 4)) (.seq (.block 5 (.seq (.region F26.r14) (.region F26.r15))) (.region F26.r16))))
def F26.r17 : List AOper := [
  ⟨(some 100), .mv (.tmp 6), none, []⟩,
  ⟨(some 4), .mv (.tmp 100), none, []⟩]
def F26 : AFunc := ⟨(.seq (.region F26.r0) (.seq (.region F26.r1) (.seq (.region F26.r2) (.seq (.seq (.region F26.r3) (.block 0 (.loop F26.l1))) (.seq (.seq (.region F26.r12) (.block 4 (.loop F26.l2))) (.seq (.region F26.r17) .ret)))))),
  [.inl 4]⟩
/-! function 27: (*armplan/dynamics.model).derivatives -/
def F27.r0 : List AOper := [
  ⟨(some 6), .alloc 80 [(.int .i64 0), (.int .i64 0), (.int .i64 0), (.int .i64 0), (.int .i64 0), (.int .i64 0)], none, []⟩,
  ⟨(some 7), .alloc 80 [(.int .i64 0), (.int .i64 0), (.int .i64 0), (.int .i64 0), (.int .i64 0), (.int .i64 0)], none, []⟩]
def F27.r1 : List AOper := [
  ⟨(some 13), .mv (.tmp 1), none, []⟩,
  ⟨(some 14), .lenO false (.tmp 13), none, []⟩,
  ⟨(some 15), .mv (.const (.int .i64 0)), none, []⟩]
def F27.r2 : List AOper := [
  ⟨(some 16), .bin .lss .no (.tmp 15) (.tmp 14), none, []⟩]
def F27.r3 : List AOper := [
  ⟨(some 17), .mv (.tmp 15), none, []⟩,
  ⟨(some 18), .idxAddr none 14 (.tmp 13) (.tmp 15), none, []⟩,
  ⟨(some 19), .load (some 14) (.tmp 18), none, []⟩,
  ⟨(some 9), .alloc 84 [(.int .i64 0), (.bool false), (.int .i64 0), (.int .i64 0), (.int .i64 0), (.int .i64 0), (.int .i64 0), (.int .i64 0), (.int .i64 0), (.int .i64 0), (.int .i64 0), (.int .i64 0), (.int .i64 0), (.int .i64 0)], none, []⟩,
  ⟨(some 8), .mv (.tmp 17), none, []⟩,
  ⟨none, .store 14 (.tmp 9) (.tmp 19), none, []⟩]
def F27.r4 : List AOper := [
  ⟨(some 20), .mv (.tmp 0), none, []⟩,
  ⟨(some 21), .nilCheck (.tmp 20), none, []⟩,
  ⟨(some 22), .fieldAddr 0 (.tmp 21), none, []⟩,
  ⟨(some 23), .load (some 6) (.tmp 6), none, []⟩,
  ⟨(some 24), .fieldAddr 8 (.tmp 9), none, []⟩,
  ⟨(some 25), .load (some 6) (.tmp 24), none, []⟩,
  ⟨(some 26), .mv (.tmp 2), none, []⟩,
  ⟨(some 27), .fieldAddr 0 (.tmp 9), none, []⟩,
  ⟨(some 28), .load none (.tmp 27), none, []⟩,
  ⟨(some 29), .idxAddr none 2 (.tmp 26) (.tmp 28), none, []⟩,
  ⟨(some 30), .load (some 2) (.tmp 29), none, []⟩,
  ⟨(some 31), .call (.func 47) [(.tmp 22), (.tmp 23), (.tmp 25), (.tmp 30)], none, []⟩,
  ⟨none, .store 6 (.tmp 6) (.tmp 31), none, []⟩]
def F27.r5 : List AOper := [
  ⟨(some 32), .mv (.tmp 1), none, []⟩,
  ⟨(some 33), .mv (.tmp 8), none, []⟩,
  ⟨(some 34), .bin .add .no (.tmp 33) (.const (.int .i64 1)), none, []⟩,
  ⟨(some 35), .slc 14 (.tmp 32) none (some (.tmp 34)), none, []⟩,
  ⟨(some 36), .lenO false (.tmp 35), none, []⟩,
  ⟨(some 37), .mv (.const (.int .i64 0)), none, []⟩]
def F27.r6 : List AOper := [
  ⟨(some 38), .bin .lss .no (.tmp 37) (.tmp 36), none, []⟩]
def F27.r7 : List AOper := [
  ⟨(some 39), .mv (.tmp 37), none, []⟩,
  ⟨(some 40), .idxAddr none 14 (.tmp 35) (.tmp 37), none, []⟩,
  ⟨(some 41), .load (some 14) (.tmp 40), none, []⟩,
  ⟨(some 11), .alloc 84 [(.int .i64 0), (.bool false), (.int .i64 0), (.int .i64 0), (.int .i64 0), (.int .i64 0), (.int .i64 0), (.int .i64 0), (.int .i64 0), (.int .i64 0), (.int .i64 0), (.int .i64 0), (.int .i64 0), (.int .i64 0)], none, []⟩,
  ⟨(some 10), .mv (.tmp 39), none, []⟩,
  ⟨none, .store 14 (.tmp 11) (.tmp 41), none, []⟩]
def F27.r8 : List AOper := [
  ⟨(some 42), .mv (.tmp 0), none, []⟩,
  ⟨(some 43), .nilCheck (.tmp 42), none, []⟩,
  ⟨(some 44), .fieldAddr 0 (.tmp 43), none, []⟩,
  ⟨(some 45), .mv (.tmp 2), none, []⟩,
  ⟨(some 46), .fieldAddr 0 (.tmp 11), none, []⟩,
  ⟨(some 47), .load none (.tmp 46), none, []⟩,
  ⟨(some 48), .idxAddr none 2 (.tmp 45) (.tmp 47), none, []⟩,
  ⟨(some 49), .load (some 2) (.tmp 48), none, []⟩,
  ⟨(some 50), .mv (.tmp 2), none, []⟩,
  ⟨(some 51), .fieldAddr 0 (.tmp 9), none, []⟩,
  ⟨(some 52), .load none (.tmp 51), none, []⟩,
  ⟨(some 53), .idxAddr none 2 (.tmp 50) (.tmp 52), none, []⟩,
  ⟨(some 54), .load (some 2) (.tmp 53), none, []⟩,
  ⟨(some 55), .call (.func 48) [(.tmp 44), (.tmp 49), (.tmp 54)], none, []⟩,
  ⟨(some 12), .alloc 23 [(.int .i64 0), (.int .i64 0)], none, []⟩,
  ⟨none, .store 2 (.tmp 12) (.tmp 55), none, []⟩]
def F27.r9 : List AOper := [
  ⟨(some 56), .mv (.tmp 10), none, []⟩,
  ⟨(some 57), .mv (.tmp 8), none, []⟩,
  ⟨(some 58), .bin .lss .no (.tmp 56) (.tmp 57), none, []⟩]
def F27.r10 : List AOper := [
  ⟨(some 59), .mv (.tmp 0), none, []⟩,
  ⟨(some 60), .nilCheck (.tmp 59), none, []⟩,
  ⟨(some 61), .fieldAddr 0 (.tmp 60), none, []⟩,
  ⟨(some 62), .load (some 2) (.tmp 12), none, []⟩,
  ⟨(some 63), .load (some 2) (.tmp 12), none, []⟩,
  ⟨(some 64), .call (.func 28) [(.tmp 61), (.tmp 62), (.tmp 63)], none, []⟩,
  ⟨none, .store 2 (.tmp 12) (.tmp 64), none, []⟩]
def F27.r11 : List AOper := [
  ⟨(some 65), .fieldAddr 1 (.tmp 11), none, []⟩,
  ⟨(some 66), .load none (.tmp 65), none, []⟩]
def F27.r12 : List AOper := [
  ⟨(some 67), .mv (.tmp 0), none, []⟩,
  ⟨(some 68), .nilCheck (.tmp 67), none, []⟩,
  ⟨(some 69), .fieldAddr 0 (.tmp 68), none, []⟩,
  ⟨(some 70), .load (some 6) (.tmp 7), none, [11]⟩,
  ⟨(some 71), .mv (.tmp 0), none, []⟩,
  ⟨(some 72), .nilCheck (.tmp 71), none, []⟩,
  ⟨(some 73), .fieldAddr 0 (.tmp 72), none, []⟩,
  ⟨(some 74), .fieldAddr 2 (.tmp 11), none, []⟩,
  ⟨(some 75), .load (some 6) (.tmp 74), none, []⟩,
  ⟨(some 76), .fieldAddr 8 (.tmp 9), none, []⟩,
  ⟨(some 77), .load (some 6) (.tmp 76), none, []⟩,
  ⟨(some 78), .call (.func 46) [(.tmp 73), (.tmp 75), (.tmp 77)], none, []⟩,
  ⟨(some 79), .load (some 2) (.tmp 12), none, [11]⟩,
  ⟨(some 80), .call (.func 47) [(.tmp 69), (.tmp 70), (.tmp 78), (.tmp 79)], none, []⟩,
  ⟨none, .store 6 (.tmp 7) (.tmp 80), none, []⟩]
def F27.r13 : List AOper := [
  ⟨(some 81), .bin .add .no (.tmp 37) (.const (.int .i64 1)), none, []⟩,
  ⟨(some 37), .mv (.tmp 81), none, []⟩]
def F27.l0 : ACode := (.seq (.region F27.r6) (.seq (.cond (.tmp 38) .skip (.exit 2)) (.seq (.block 3 (.seq (.region F27.r7) (.seq (.dregion F27.r8) (.seq (.seq (.region F27.r9) (.cond (.tmp 58) (.dregion F27.r10) .skip)) (.seq (.region F27.r11) (.cond (.tmp 66) (.dregion F27.r12) .skip)))))) (.region F27.r13))))
def F27.r14 : List AOper := [
  ⟨(some 82), .bin .add .no (.tmp 15) (.const (.int .i64 1)), none, []⟩,
  ⟨(some 15), .mv (.tmp 82), none, []⟩]
def F27.l1 : ACode := (.seq (.region F27.r2) (.seq (.cond (.tmp 16) .skip (.exit 0)) (.seq (.block 1 (.seq (.region F27.r3) (.seq (.dregion F27.r4) (.seq (.region F27.r5) (.block 2 (.loop F27.l0)))))) (.region F27.r14))))
def F27.r15 : List AOper := [
  ⟨(some 83), .load (some 6) (.tmp 6), none, []⟩,
  ⟨(some 84), .load (some 6) (.tmp 7), none, [2]⟩,
  ⟨none, .store 6 (.tmp 6) (.tmp 83), none, []⟩,
  ⟨none, .store 6 (.tmp 7) (.tmp 84), none, []⟩]
def F27 : AFunc := ⟨(.seq (.region F27.r0) (.seq (.seq (.region F27.r1) (.block 0 (.loop F27.l1))) (.seq (.dregion F27.r15) .ret))),
  [.inr (6, (some 6)), .inr (7, (some 6))]⟩
/-! function 28: (*armplan/dynamics.calculator).add -/
def F28.r0 : List AOper := [
  ⟨(some 4), .box 23 (.tmp 1), none, []⟩,
  ⟨(some 5), .box 23 (.tmp 2), none, []⟩,
  ⟨(some 6), .alloc 23 [(.int .i64 0), (.int .i64 0)], none, []⟩]
def F28.r1 : List AOper := [
  ⟨(some 7), .mv (.tmp 0), none, []⟩,
  ⟨(some 8), .load (some 2) (.tmp 4), none, []⟩,
  ⟨(some 9), .load (some 2) (.tmp 5), none, []⟩,
  ⟨(some 10), .call (.func 7) [(.tmp 8), (.tmp 9)], none, []⟩,
  ⟨(some 11), .ext (.tmp 10) 0, none, []⟩,
  ⟨(some 12), .ext (.tmp 10) 1, none, []⟩,
  ⟨(some 13), .call (.func 49) [(.tmp 7), (.tmp 11), (.tmp 12)], none, []⟩,
  ⟨none, .store 2 (.tmp 6) (.tmp 13), none, []⟩]
def F28 : AFunc := ⟨(.seq (.region F28.r0) (.seq (.region F28.r1) .ret)),
  [.inr (6, (some 2))]⟩
/-! function 29: (*armplan/dynamics.calculator).times -/
def F29.r0 : List AOper := [
  ⟨(some 5), .box 23 (.tmp 2), none, []⟩,
  ⟨(some 6), .alloc 23 [(.int .i64 0), (.int .i64 0)], none, []⟩]
def F29.r1 : List AOper := [
  ⟨(some 8), .mv (.tmp 1), none, []⟩,
  ⟨(some 9), .bin .quo .no (.const (.int .i64 1152921504606846976)) (.tmp 8), none, []⟩,
  ⟨(some 7), .mv (.tmp 9), none, []⟩]
def F29.r2 : List AOper := [
  ⟨(some 10), .fieldAddr 0 (.tmp 5), none, []⟩,
  ⟨(some 11), .load none (.tmp 10), none, []⟩,
  ⟨(some 12), .mv (.tmp 7), none, []⟩,
  ⟨(some 13), .un .neg (.tmp 12), none, []⟩,
  ⟨(some 14), .bin .lss .no (.tmp 11) (.tmp 13), none, []⟩,
  ⟨(some 15), .mv (.tmp 14), none, []⟩,
  ⟨(some 16), .fieldAddr 1 (.tmp 5), some ((some 15), false), []⟩,
  ⟨(some 17), .load none (.tmp 16), some ((some 15), false), []⟩,
  ⟨(some 18), .mv (.tmp 7), some ((some 15), false), []⟩,
  ⟨(some 19), .bin .gtr .no (.tmp 17) (.tmp 18), some ((some 15), false), []⟩,
  ⟨(some 20), .pick (.tmp 15) (.const (.bool true)) (.tmp 19), none, []⟩]
def F29.r3 : List AOper := [
  ⟨(some 21), .mv (.tmp 0), none, []⟩,
  ⟨(some 22), .build [(.int .i64 0), (.int .i64 0)] [], none, []⟩,
  ⟨(some 23), .call (.func 49) [(.tmp 21), (.tmp 22), (.const (.bool false))], none, []⟩,
  ⟨none, .store 2 (.tmp 6) (.tmp 23), none, []⟩]
def F29.r4 : List AOper := [
  ⟨(some 24), .mv (.tmp 1), none, []⟩,
  ⟨(some 25), .fieldAddr 0 (.tmp 5), none, []⟩,
  ⟨(some 26), .load none (.tmp 25), none, []⟩,
  ⟨(some 27), .bin .mul .no (.tmp 24) (.tmp 26), none, []⟩,
  ⟨(some 28), .mv (.tmp 1), none, []⟩,
  ⟨(some 29), .fieldAddr 1 (.tmp 5), none, []⟩,
  ⟨(some 30), .load none (.tmp 29), none, []⟩,
  ⟨(some 31), .bin .mul .no (.tmp 28) (.tmp 30), none, []⟩,
  ⟨(some 32), .build [(.int .i64 0), (.int .i64 0)] [(0, 1, (.tmp 27)), (1, 1, (.tmp 31))], none, []⟩,
  ⟨none, .store 2 (.tmp 6) (.tmp 32), none, []⟩]
def F29 : AFunc := ⟨(.seq (.region F29.r0) (.seq (.region F29.r1) (.seq (.seq (.region F29.r2) (.cond (.tmp 20) (.seq (.region F29.r3) .ret) .skip)) (.seq (.region F29.r4) .ret)))),
  [.inr (6, (some 2))]⟩
/-! function 30: (*armplan/dynamics.calculator).dot -/
def F30.r0 : List AOper := [
  ⟨(some 4), .box 80 (.tmp 1), none, []⟩,
  ⟨(some 5), .box 80 (.tmp 2), none, []⟩,
  ⟨(some 6), .alloc 23 [(.int .i64 0), (.int .i64 0)], none, []⟩]
def F30.r1 : List AOper := [
  ⟨(some 7), .mv (.tmp 0), none, []⟩,
  ⟨(some 8), .mv (.tmp 0), none, []⟩,
  ⟨(some 9), .mv (.tmp 0), none, []⟩,
  ⟨(some 10), .idxAddr (some 3) 2 (.tmp 4) (.const (.int .i64 0)), none, []⟩,
  ⟨(some 11), .load (some 2) (.tmp 10), none, []⟩,
  ⟨(some 12), .idxAddr (some 3) 2 (.tmp 5) (.const (.int .i64 0)), none, []⟩,
  ⟨(some 13), .load (some 2) (.tmp 12), none, []⟩,
  ⟨(some 14), .call (.func 48) [(.tmp 9), (.tmp 11), (.tmp 13)], none, []⟩,
  ⟨(some 15), .mv (.tmp 0), none, []⟩,
  ⟨(some 16), .idxAddr (some 3) 2 (.tmp 4) (.const (.int .i64 1)), none, []⟩,
  ⟨(some 17), .load (some 2) (.tmp 16), none, [7]⟩,
  ⟨(some 18), .idxAddr (some 3) 2 (.tmp 5) (.const (.int .i64 1)), none, []⟩,
  ⟨(some 19), .load (some 2) (.tmp 18), none, [7]⟩,
  ⟨(some 20), .call (.func 48) [(.tmp 15), (.tmp 17), (.tmp 19)], none, []⟩,
  ⟨(some 21), .call (.func 28) [(.tmp 8), (.tmp 14), (.tmp 20)], none, []⟩,
  ⟨(some 22), .mv (.tmp 0), none, []⟩,
  ⟨(some 23), .idxAddr (some 3) 2 (.tmp 4) (.const (.int .i64 2)), none, []⟩,
  ⟨(some 24), .load (some 2) (.tmp 23), none, [7, 13, 14]⟩,
  ⟨(some 25), .idxAddr (some 3) 2 (.tmp 5) (.const (.int .i64 2)), none, []⟩,
  ⟨(some 26), .load (some 2) (.tmp 25), none, [7, 13, 14]⟩,
  ⟨(some 27), .call (.func 48) [(.tmp 22), (.tmp 24), (.tmp 26)], none, []⟩,
  ⟨(some 28), .call (.func 28) [(.tmp 7), (.tmp 21), (.tmp 27)], none, []⟩,
  ⟨none, .store 2 (.tmp 6) (.tmp 28), none, []⟩]
def F30 : AFunc := ⟨(.seq (.region F30.r0) (.seq (.dregion F30.r1) .ret)),
  [.inr (6, (some 2))]⟩
/-! function 31: armplan/armplanref1.Clamp -/
def F31.r0 : List AOper := [
  ⟨(some 2), .mv (.const (.int .i64 0)), none, []⟩]
def F31.r1 : List AOper := [
  ⟨(some 3), .mv (.tmp 0), none, []⟩,
  ⟨(some 4), .minmax false [(.tmp 3), (.const (.int .i64 2147483648))], none, []⟩,
  ⟨(some 5), .minmax true [(.const (.int .i64 (-2147483648))), (.tmp 4)], none, []⟩,
  ⟨(some 2), .mv (.tmp 5), none, []⟩]
def F31 : AFunc := ⟨(.seq (.region F31.r0) (.seq (.region F31.r1) .ret)),
  [.inl 2]⟩
/-! function 32: math/bits.Mul64 -/
def F32.r0 : List AOper := [
  ⟨(some 4), .mv (.const (.int .u64 0)), none, []⟩,
  ⟨(some 5), .mv (.const (.int .u64 0)), none, []⟩]
def F32.r1 : List AOper := [
  ⟨(some 14), .mv (.tmp 0), none, []⟩,
  ⟨(some 15), .bin .and .no (.tmp 14) (.const (.int .u64 4294967295)), none, []⟩,
  ⟨(some 6), .mv (.tmp 15), none, []⟩]
def F32.r2 : List AOper := [
  ⟨(some 16), .mv (.tmp 0), none, []⟩,
  ⟨(some 17), .bin .shr .no (.tmp 16) (.const (.int .u64 32)), none, []⟩,
  ⟨(some 7), .mv (.tmp 17), none, []⟩]
def F32.r3 : List AOper := [
  ⟨(some 18), .mv (.tmp 1), none, []⟩,
  ⟨(some 19), .bin .and .no (.tmp 18) (.const (.int .u64 4294967295)), none, []⟩,
  ⟨(some 8), .mv (.tmp 19), none, []⟩]
def F32.r4 : List AOper := [
  ⟨(some 20), .mv (.tmp 1), none, []⟩,
  ⟨(some 21), .bin .shr .no (.tmp 20) (.const (.int .u64 32)), none, []⟩,
  ⟨(some 9), .mv (.tmp 21), none, []⟩]
def F32.r5 : List AOper := [
  ⟨(some 22), .mv (.tmp 6), none, []⟩,
  ⟨(some 23), .mv (.tmp 8), none, []⟩,
  ⟨(some 24), .bin .mul .no (.tmp 22) (.tmp 23), none, []⟩,
  ⟨(some 10), .mv (.tmp 24), none, []⟩]
def F32.r6 : List AOper := [
  ⟨(some 25), .mv (.tmp 7), none, []⟩,
  ⟨(some 26), .mv (.tmp 8), none, []⟩,
  ⟨(some 27), .bin .mul .no (.tmp 25) (.tmp 26), none, []⟩,
  ⟨(some 28), .mv (.tmp 10), none, []⟩,
  ⟨(some 29), .bin .shr .no (.tmp 28) (.const (.int .u64 32)), none, []⟩,
  ⟨(some 30), .bin .add .no (.tmp 27) (.tmp 29), none, []⟩,
  ⟨(some 11), .mv (.tmp 30), none, []⟩]
def F32.r7 : List AOper := [
  ⟨(some 31), .mv (.tmp 11), none, []⟩,
  ⟨(some 32), .bin .and .no (.tmp 31) (.const (.int .u64 4294967295)), none, []⟩,
  ⟨(some 12), .mv (.tmp 32), none, []⟩]
def F32.r8 : List AOper := [
  ⟨(some 33), .mv (.tmp 11), none, []⟩,
  ⟨(some 34), .bin .shr .no (.tmp 33) (.const (.int .u64 32)), none, []⟩,
  ⟨(some 13), .mv (.tmp 34), none, []⟩]
def F32.r9 : List AOper := [
  ⟨(some 35), .mv (.tmp 12), none, []⟩,
  ⟨(some 36), .mv (.tmp 6), none, []⟩,
  ⟨(some 37), .mv (.tmp 9), none, []⟩,
  ⟨(some 38), .bin .mul .no (.tmp 36) (.tmp 37), none, []⟩,
  ⟨(some 39), .bin .add .no (.tmp 35) (.tmp 38), none, []⟩,
  ⟨(some 12), .mv (.tmp 39), none, []⟩]
def F32.r10 : List AOper := [
  ⟨(some 40), .mv (.tmp 7), none, []⟩,
  ⟨(some 41), .mv (.tmp 9), none, []⟩,
  ⟨(some 42), .bin .mul .no (.tmp 40) (.tmp 41), none, []⟩,
  ⟨(some 43), .mv (.tmp 13), none, []⟩,
  ⟨(some 44), .bin .add .no (.tmp 42) (.tmp 43), none, []⟩,
  ⟨(some 45), .mv (.tmp 12), none, []⟩,
  ⟨(some 46), .bin .shr .no (.tmp 45) (.const (.int .u64 32)), none, []⟩,
  ⟨(some 47), .bin .add .no (.tmp 44) (.tmp 46), none, []⟩,
  ⟨(some 4), .mv (.tmp 47), none, []⟩]
def F32.r11 : List AOper := [
  ⟨(some 48), .mv (.tmp 0), none, []⟩,
  ⟨(some 49), .mv (.tmp 1), none, []⟩,
  ⟨(some 50), .bin .mul .no (.tmp 48) (.tmp 49), none, []⟩,
  ⟨(some 5), .mv (.tmp 50), none, []⟩]
def F32 : AFunc := ⟨(.seq (.region F32.r0) (.seq (.region F32.r1) (.seq (.region F32.r2) (.seq (.region F32.r3) (.seq (.region F32.r4) (.seq (.region F32.r5) (.seq (.region F32.r6) (.seq (.region F32.r7) (.seq (.region F32.r8) (.seq (.region F32.r9) (.seq (.region F32.r10) (.seq (.region F32.r11) .ret)))))))))))),
  [.inl 4, .inl 5]⟩
/-! function 33: armplan/armplanmake.joint -/
def F33.r0 : List AOper := [
  ⟨(some 4), .alloc 61 [(.string (ByteArray.mk #[])), (.int .i64 0), (.int .i64 0), (.int .i64 0), (.int .i64 0), (.int .i64 0), (.int .i64 0), (.int .i64 0), (.int .i64 0), (.int .i64 0), (.int .i64 0), (.int .i64 0)], none, []⟩]
def F33.r1 : List AOper := [
  ⟨(some 6), .mv (.tmp 1), none, []⟩,
  ⟨(some 7), .call (.func 50) [(.tmp 6)], none, []⟩,
  ⟨(some 8), .mv (.tmp 1), none, []⟩,
  ⟨(some 9), .bin .sub .no (.tmp 8) (.const (.int .i64 1)), none, []⟩,
  ⟨(some 10), .mv (.tmp 0), none, []⟩,
  ⟨(some 11), .call (.func 21) [(.tmp 10), (.const (.int .i64 4))], none, []⟩,
  ⟨(some 12), .bin .add .no (.const (.int .i64 1)) (.tmp 11), none, []⟩,
  ⟨(some 13), .mv (.tmp 0), none, []⟩,
  ⟨(some 14), .call (.func 21) [(.tmp 13), (.const (.int .i64 3))], none, []⟩,
  ⟨(some 15), .bin .add .no (.const (.int .i64 65536)) (.tmp 14), none, []⟩,
  ⟨(some 16), .build [(.string (ByteArray.mk #[])), (.int .i64 0), (.int .i64 0), (.int .i64 0), (.int .i64 0), (.int .i64 0), (.int .i64 0), (.int .i64 0), (.int .i64 0), (.int .i64 0), (.int .i64 0), (.int .i64 0)] [(0, 1, (.tmp 7)), (2, 1, (.tmp 9)), (8, 1, (.tmp 12)), (9, 1, (.const (.int .i64 65536))), (10, 1, (.tmp 15)), (11, 1, (.const (.int .i64 327680)))], none, []⟩,
  ⟨(some 5), .alloc 61 [(.string (ByteArray.mk #[])), (.int .i64 0), (.int .i64 0), (.int .i64 0), (.int .i64 0), (.int .i64 0), (.int .i64 0), (.int .i64 0), (.int .i64 0), (.int .i64 0), (.int .i64 0), (.int .i64 0)], none, []⟩,
  ⟨none, .store 12 (.tmp 5) (.tmp 16), none, []⟩]
def F33.r2 : List AOper := [
  ⟨(some 17), .build [(.int .i64 0), (.int .i64 0), (.int .i64 0), (.int .i64 0), (.int .i64 0), (.int .i64 0), (.int .i64 0), (.int .i64 0)] [(0, 1, (.const (.int .i64 3))), (1, 1, (.const (.int .i64 3))), (2, 1, (.const (.int .i64 1))), (3, 1, (.const (.int .i64 2))), (4, 1, (.const (.int .i64 4))), (5, 1, (.const (.int .i64 5))), (6, 1, (.const (.int .i64 3))), (7, 1, (.const (.int .i64 0)))], none, []⟩,
  ⟨(some 18), .mv (.tmp 0), none, []⟩,
  ⟨(some 19), .call (.func 21) [(.tmp 18), (.const (.int .i64 8))], none, []⟩,
  ⟨(some 20), .idx 8 1 none (.tmp 17) (.tmp 19), none, []⟩,
  ⟨(some 21), .fieldAddr 1 (.tmp 5), none, []⟩,
  ⟨none, .store 1 (.tmp 21) (.tmp 20), none, []⟩]
def F33.r3 : List AOper := [
  ⟨(some 22), .mv (.tmp 0), none, []⟩,
  ⟨(some 23), .call (.func 21) [(.tmp 22), (.const (.int .i64 4))], none, []⟩,
  ⟨(some 24), .bin .eql .no (.tmp 23) (.const (.int .i64 1)), none, []⟩]
def F33.r4 : List AOper := [
  ⟨(some 25), .fieldAddr 2 (.tmp 5), none, []⟩,
  ⟨none, .store 1 (.tmp 25) (.const (.int .i64 (-1))), none, []⟩]
def F33.r5 : List AOper := [
  ⟨(some 26), .mv (.tmp 1), none, []⟩,
  ⟨(some 27), .bin .gtr .no (.tmp 26) (.const (.int .i64 0)), none, []⟩]
def F33.r6 : List AOper := [
  ⟨(some 28), .mv (.tmp 0), none, []⟩,
  ⟨(some 29), .call (.func 34) [(.tmp 28), (.const (.int .i64 2))], none, []⟩,
  ⟨(some 30), .bin .mul .no (.tmp 29) (.const (.int .i64 32768)), none, []⟩,
  ⟨(some 31), .mv (.tmp 0), none, []⟩,
  ⟨(some 32), .call (.func 34) [(.tmp 31), (.const (.int .i64 1))], none, []⟩,
  ⟨(some 33), .bin .mul .no (.tmp 32) (.const (.int .i64 32768)), none, []⟩,
  ⟨(some 34), .build [(.int .i64 0), (.int .i64 0), (.int .i64 0)] [(0, 1, (.const (.int .i64 131072))), (1, 1, (.tmp 30)), (2, 1, (.tmp 33))], none, []⟩,
  ⟨(some 35), .fieldAddr 3 (.tmp 5), none, []⟩,
  ⟨none, .store 3 (.tmp 35) (.tmp 34), none, []⟩]
def F33.r7 : List AOper := [
  ⟨(some 36), .fieldAddr 1 (.tmp 5), none, []⟩,
  ⟨(some 37), .load none (.tmp 36), none, []⟩]
def F33.r8 : List AOper := [
  ⟨(some 54), .bin .eql .no (.tmp 37) (.const (.int .i64 0)), none, []⟩,
  ⟨(some 53), .mv (.tmp 54), none, []⟩]
def F33.r9 : List AOper := [
  ⟨(some 56), .bin .eql .no (.tmp 37) (.const (.int .i64 4)), none, []⟩,
  ⟨(some 55), .mv (.tmp 56), none, []⟩]
def F33.r10 : List AOper := [
  ⟨(some 57), .bin .eql .no (.tmp 37) (.const (.int .i64 5)), none, []⟩,
  ⟨(some 55), .mv (.tmp 57), none, []⟩]
def F33.r11 : List AOper := [
  ⟨(some 58), .mv (.tmp 0), none, []⟩,
  ⟨(some 59), .call (.func 21) [(.tmp 58), (.const (.int .i64 3))], none, []⟩,
  ⟨(some 60), .un .neg (.tmp 59), none, []⟩,
  ⟨(some 61), .bin .mul .no (.tmp 60) (.const (.int .i64 65536)), none, []⟩,
  ⟨(some 62), .mv (.tmp 0), none, []⟩,
  ⟨(some 63), .call (.func 21) [(.tmp 62), (.const (.int .i64 4))], none, []⟩,
  ⟨(some 64), .bin .mul .no (.tmp 63) (.const (.int .i64 32768)), none, []⟩,
  ⟨(some 65), .fieldAddr 6 (.tmp 5), none, []⟩,
  ⟨none, .store 1 (.tmp 65) (.tmp 61), none, []⟩,
  ⟨(some 66), .fieldAddr 7 (.tmp 5), none, []⟩,
  ⟨none, .store 1 (.tmp 66) (.tmp 64), none, []⟩]
def F33.r12 : List AOper := [
  ⟨(some 38), .mv (.tmp 0), none, []⟩,
  ⟨(some 39), .call (.func 21) [(.tmp 38), (.const (.int .i64 5))], none, []⟩,
  ⟨(some 40), .un .neg (.tmp 39), none, []⟩,
  ⟨(some 41), .bin .mul .no (.tmp 40) (.const (.int .i64 65536)), none, []⟩,
  ⟨(some 42), .bin .quo .no (.tmp 41) (.const (.int .i64 8)), none, []⟩,
  ⟨(some 43), .mv (.tmp 0), none, []⟩,
  ⟨(some 44), .call (.func 21) [(.tmp 43), (.const (.int .i64 4))], none, []⟩,
  ⟨(some 45), .bin .add .no (.const (.int .i64 1)) (.tmp 44), none, []⟩,
  ⟨(some 46), .bin .mul .no (.tmp 45) (.const (.int .i64 65536)), none, []⟩,
  ⟨(some 47), .bin .quo .no (.tmp 46) (.const (.int .i64 8)), none, []⟩,
  ⟨(some 48), .mv (.tmp 0), none, []⟩,
  ⟨(some 49), .call (.func 21) [(.tmp 48), (.const (.int .i64 3))], none, []⟩,
  ⟨(some 50), .bin .add .no (.tmp 47) (.tmp 49), none, []⟩,
  ⟨(some 51), .fieldAddr 6 (.tmp 5), none, []⟩,
  ⟨none, .store 1 (.tmp 51) (.tmp 42), none, []⟩,
  ⟨(some 52), .fieldAddr 7 (.tmp 5), none, []⟩,
  ⟨none, .store 1 (.tmp 52) (.tmp 50), none, []⟩]
def F33.r13 : List AOper := [
  ⟨(some 67), .load (some 12) (.tmp 5), none, []⟩,
  ⟨none, .store 12 (.tmp 4) (.tmp 67), none, []⟩]
def F33 : AFunc := ⟨(.seq (.region F33.r0) (.seq (.region F33.r1) (.seq (.region F33.r2) (.seq (.seq (.region F33.r3) (.cond (.tmp 24) (.region F33.r4) .skip)) (.seq (.seq (.region F33.r5) (.cond (.tmp 27) (.region F33.r6) .skip)) (.seq (.seq (.region F33.r7) (.block 0 (.seq (.region F33.r8) (.cond (.tmp 53) .skip (.seq (.seq (.region F33.r9) (.cond (.tmp 55) .skip (.region F33.r10))) (.cond (.tmp 55) (.region F33.r11) (.region F33.r12))))))) (.seq (.region F33.r13) .ret))))))),
  [.inr (4, (some 12))]⟩
/-! function 34: (*armplan/armplanmake.Source).Signed -/
def F34.r0 : List AOper := [
  ⟨(some 4), .mv (.const (.int .i64 0)), none, []⟩]
def F34.r1 : List AOper := [
  ⟨(some 5), .mv (.tmp 0), none, []⟩,
  ⟨(some 6), .mv (.tmp 1), none, []⟩,
  ⟨(some 7), .bin .mul .no (.const (.int .i64 2)) (.tmp 6), none, []⟩,
  ⟨(some 8), .bin .add .no (.tmp 7) (.const (.int .i64 1)), none, []⟩,
  ⟨(some 9), .call (.func 21) [(.tmp 5), (.tmp 8)], none, []⟩,
  ⟨(some 10), .mv (.tmp 1), none, []⟩,
  ⟨(some 11), .bin .sub .no (.tmp 9) (.tmp 10), none, []⟩,
  ⟨(some 4), .mv (.tmp 11), none, []⟩]
def F34 : AFunc := ⟨(.seq (.region F34.r0) (.seq (.region F34.r1) .ret)),
  [.inl 4]⟩
/-! function 35: armplan/config.Inside -/
def F35.r0 : List AOper := [
  ⟨(some 2), .box 35 (.tmp 0), none, []⟩,
  ⟨(some 4), .mv (.const (.bool false)), none, []⟩]
def F35.r1 : List AOper := [
  ⟨(some 5), .load (some 2) (.tmp 2), none, []⟩,
  ⟨(some 6), .call (.func 51) [(.tmp 5)], none, []⟩,
  ⟨(some 7), .bin .eql .no (.tmp 6) (.const (.int .i64 0)), none, []⟩,
  ⟨(some 8), .mv (.tmp 7), none, []⟩,
  ⟨(some 9), .fieldAddr 0 (.tmp 2), some ((some 8), true), []⟩,
  ⟨(some 10), .load none (.tmp 9), some ((some 8), true), []⟩,
  ⟨(some 11), .mv (.tmp 1), some ((some 8), true), []⟩,
  ⟨(some 12), .call (.func 52) [(.tmp 10), (.tmp 11), (.func 53)], some ((some 8), true), []⟩,
  ⟨(some 13), .pick (.tmp 8) (.tmp 12) (.const (.bool false)), none, []⟩,
  ⟨(some 4), .mv (.tmp 13), none, []⟩]
def F35 : AFunc := ⟨(.seq (.region F35.r0) (.seq (.region F35.r1) .ret)),
  [.inl 4]⟩
/-! function 36: armplan/dynamics.turns -/
def F36.r0 : List AOper := [
  ⟨(some 1), .box 61 (.tmp 0), none, []⟩,
  ⟨(some 2), .mv (.const (.bool false)), none, []⟩]
def F36.r1 : List AOper := [
  ⟨(some 3), .fieldAddr 1 (.tmp 1), none, []⟩,
  ⟨(some 4), .load none (.tmp 3), none, []⟩,
  ⟨(some 5), .bin .geq .no (.tmp 4) (.const (.int .i64 1)), none, []⟩,
  ⟨(some 6), .mv (.tmp 5), none, []⟩,
  ⟨(some 7), .fieldAddr 1 (.tmp 1), some ((some 6), true), []⟩,
  ⟨(some 8), .load none (.tmp 7), some ((some 6), true), []⟩,
  ⟨(some 9), .bin .leq .no (.tmp 8) (.const (.int .i64 3)), some ((some 6), true), []⟩,
  ⟨(some 10), .pick (.tmp 6) (.tmp 9) (.const (.bool false)), none, []⟩,
  ⟨(some 2), .mv (.tmp 10), none, []⟩]
def F36 : AFunc := ⟨(.seq (.region F36.r0) (.seq (.region F36.r1) .ret)),
  [.inl 2]⟩
/-! function 37: armplan/config.straight -/
def F37.r0 : List AOper := [
  ⟨(some 6), .mv (.const (.bool false)), none, []⟩]
def F37.r1 : List AOper := [
  ⟨(some 7), .mv (.tmp 0), none, []⟩,
  ⟨(some 8), .call (.func 56) [(.tmp 7)], none, []⟩,
  ⟨(some 9), .mv (.tmp 8), none, []⟩,
  ⟨(some 10), .mv (.tmp 1), some ((some 9), true), []⟩,
  ⟨(some 11), .call (.func 56) [(.tmp 10)], some ((some 9), true), []⟩,
  ⟨(some 12), .pick (.tmp 9) (.tmp 11) (.const (.bool false)), none, []⟩,
  ⟨(some 13), .mv (.tmp 12), none, []⟩,
  ⟨(some 14), .mv (.tmp 0), some ((some 13), true), []⟩,
  ⟨(some 15), .lenO false (.tmp 14), some ((some 13), true), []⟩,
  ⟨(some 16), .mv (.tmp 1), some ((some 13), true), []⟩,
  ⟨(some 17), .lenO false (.tmp 16), some ((some 13), true), []⟩,
  ⟨(some 18), .bin .eql .no (.tmp 15) (.tmp 17), some ((some 13), true), []⟩,
  ⟨(some 19), .pick (.tmp 13) (.tmp 18) (.const (.bool false)), none, []⟩,
  ⟨(some 20), .mv (.tmp 19), none, []⟩,
  ⟨(some 21), .mv (.tmp 2), some ((some 20), true), []⟩,
  ⟨(some 22), .bin .geq .no (.tmp 21) (.const (.int .i64 0)), some ((some 20), true), []⟩,
  ⟨(some 23), .pick (.tmp 20) (.tmp 22) (.const (.bool false)), none, []⟩,
  ⟨(some 24), .mv (.tmp 23), none, []⟩,
  ⟨(some 25), .mv (.tmp 2), some ((some 24), true), []⟩,
  ⟨(some 26), .bin .leq .no (.tmp 25) (.const (.int .i64 20)), some ((some 24), true), []⟩,
  ⟨(some 27), .pick (.tmp 24) (.tmp 26) (.const (.bool false)), none, []⟩,
  ⟨(some 6), .mv (.tmp 27), none, []⟩]
def F37 : AFunc := ⟨(.seq (.region F37.r0) (.seq (.region F37.r1) .ret)),
  [.inl 6]⟩
/-! function 38: armplan/config.InsideBox -/
def F38.r0 : List AOper := [
  ⟨(some 2), .box 35 (.tmp 0), none, []⟩,
  ⟨(some 4), .mv (.const (.bool false)), none, []⟩]
def F38.r1 : List AOper := [
  ⟨(some 5), .load (some 2) (.tmp 2), none, []⟩,
  ⟨(some 6), .call (.func 51) [(.tmp 5)], none, []⟩,
  ⟨(some 7), .bin .eql .no (.tmp 6) (.const (.int .i64 0)), none, []⟩,
  ⟨(some 8), .mv (.tmp 7), none, []⟩,
  ⟨(some 9), .fieldAddr 0 (.tmp 2), some ((some 8), true), []⟩,
  ⟨(some 10), .load none (.tmp 9), some ((some 8), true), []⟩,
  ⟨(some 11), .mv (.tmp 1), some ((some 8), true), []⟩,
  ⟨(some 12), .call (.func 57) [(.tmp 10), (.tmp 11), (.func 58)], some ((some 8), true), []⟩,
  ⟨(some 13), .pick (.tmp 8) (.tmp 12) (.const (.bool false)), none, []⟩,
  ⟨(some 4), .mv (.tmp 13), none, []⟩]
def F38 : AFunc := ⟨(.seq (.region F38.r0) (.seq (.region F38.r1) .ret)),
  [.inl 4]⟩
/-! function 39: armplan/kinematics.Links -/
def F39.r0 : List AOper := [
  ⟨(some 2), .box 35 (.tmp 0), none, []⟩,
  ⟨(some 4), .mv (.const (.slice none 0 0)), none, []⟩]
def F39.r1 : List AOper := [
  ⟨(some 7), .load (some 2) (.tmp 2), none, []⟩,
  ⟨(some 8), .call (.func 51) [(.tmp 7)], none, []⟩,
  ⟨(some 9), .bin .neq .no (.tmp 8) (.const (.int .i64 0)), none, []⟩,
  ⟨(some 10), .mv (.tmp 9), none, []⟩,
  ⟨(some 11), .load (some 2) (.tmp 2), some ((some 10), false), []⟩,
  ⟨(some 12), .mv (.tmp 1), some ((some 10), false), []⟩,
  ⟨(some 13), .call (.func 60) [(.tmp 11), (.tmp 12)], some ((some 10), false), []⟩,
  ⟨(some 14), .un .not (.tmp 13), some ((some 10), false), []⟩,
  ⟨(some 15), .pick (.tmp 10) (.const (.bool true)) (.tmp 14), none, []⟩]
def F39.r2 : List AOper := [
  ⟨(some 4), .mv (.const (.slice none 0 0)), none, []⟩]
def F39.r3 : List AOper := [
  ⟨(some 16), .load (some 2) (.tmp 2), none, []⟩,
  ⟨(some 17), .mv (.tmp 1), none, []⟩,
  ⟨(some 18), .build [(.slice none 0 0), (.slice none 0 0), (.slice none 0 0), (.slice none 0 0)] [(0, 2, (.tmp 16)), (2, 1, (.tmp 17))], none, []⟩,
  ⟨(some 5), .alloc 134 [(.slice none 0 0), (.slice none 0 0), (.slice none 0 0), (.slice none 0 0)], none, []⟩,
  ⟨none, .store 4 (.tmp 5) (.tmp 18), none, []⟩]
def F39.r4 : List AOper := [
  ⟨(some 19), .mkF 61 [(.tmp 5)] [], none, []⟩,
  ⟨(some 6), .mv (.tmp 19), none, []⟩]
def F39.r5 : List AOper := [
  ⟨(some 20), .fieldAddr 0 (.tmp 2), none, []⟩,
  ⟨(some 21), .load none (.tmp 20), none, []⟩,
  ⟨(some 22), .lenO false (.tmp 21), none, []⟩,
  ⟨(some 23), .mv (.const (.int .i64 0)), none, []⟩]
def F39.r6 : List AOper := [
  ⟨(some 24), .bin .lss .no (.tmp 23) (.tmp 22), none, []⟩]
def F39.r7 : List AOper := [
  ⟨(some 25), .mv (.tmp 6), none, []⟩,
  ⟨(some 26), .call (.tmp 25) [], none, []⟩]
def F39.r8 : List AOper := [
  ⟨(some 27), .bin .add .no (.tmp 23) (.const (.int .i64 1)), none, []⟩,
  ⟨(some 23), .mv (.tmp 27), none, []⟩]
def F39.l0 : ACode := (.seq (.region F39.r6) (.seq (.cond (.tmp 24) .skip (.exit 0)) (.seq (.block 1 (.region F39.r7)) (.region F39.r8))))
def F39.r9 : List AOper := [
  ⟨(some 28), .fieldAddr 3 (.tmp 5), none, []⟩,
  ⟨(some 29), .load none (.tmp 28), none, []⟩,
  ⟨(some 4), .mv (.tmp 29), none, []⟩]
def F39 : AFunc := ⟨(.seq (.region F39.r0) (.seq (.seq (.region F39.r1) (.cond (.tmp 15) (.seq (.region F39.r2) .ret) .skip)) (.seq (.region F39.r3) (.seq (.region F39.r4) (.seq (.seq (.region F39.r5) (.block 0 (.loop F39.l0))) (.seq (.region F39.r9) .ret)))))),
  [.inl 4]⟩
/-! function 40: armplan/dynamics.ranges -/
def F40.r0 : List AOper := [
  ⟨(some 1), .box 107 (.tmp 0), none, []⟩,
  ⟨(some 2), .alloc 80 [(.int .i64 0), (.int .i64 0), (.int .i64 0), (.int .i64 0), (.int .i64 0), (.int .i64 0)], none, []⟩]
def F40.r1 : List AOper := [
  ⟨(some 3), .alloc 80 [(.int .i64 0), (.int .i64 0), (.int .i64 0), (.int .i64 0), (.int .i64 0), (.int .i64 0)], none, []⟩]
def F40.r2 : List AOper := [
  ⟨(some 6), .load (some 6) (.tmp 1), none, []⟩,
  ⟨(some 7), .mv (.const (.int .i64 0)), none, []⟩]
def F40.r3 : List AOper := [
  ⟨(some 8), .bin .lss .no (.tmp 7) (.const (.int .i64 3)), none, []⟩]
def F40.r4 : List AOper := [
  ⟨(some 9), .mv (.tmp 7), none, []⟩,
  ⟨(some 10), .idx 3 2 (some 2) (.tmp 6) (.tmp 7), none, []⟩,
  ⟨(some 5), .alloc 49 [(.int .i64 0), (.int .i64 0)], none, []⟩,
  ⟨(some 4), .mv (.tmp 9), none, []⟩,
  ⟨none, .store 2 (.tmp 5) (.tmp 10), none, []⟩]
def F40.r5 : List AOper := [
  ⟨(some 11), .mv (.tmp 4), none, []⟩,
  ⟨(some 12), .load (some 2) (.tmp 5), none, []⟩,
  ⟨(some 13), .idxAddr (some 3) 2 (.tmp 3) (.tmp 11), none, []⟩,
  ⟨none, .store 2 (.tmp 13) (.tmp 12), none, []⟩]
def F40.r6 : List AOper := [
  ⟨(some 14), .bin .add .no (.tmp 7) (.const (.int .i64 1)), none, []⟩,
  ⟨(some 7), .mv (.tmp 14), none, []⟩]
def F40.l0 : ACode := (.seq (.region F40.r3) (.seq (.cond (.tmp 8) .skip (.exit 0)) (.seq (.block 1 (.seq (.region F40.r4) (.region F40.r5))) (.region F40.r6))))
def F40.r7 : List AOper := [
  ⟨(some 15), .load (some 6) (.tmp 3), none, []⟩,
  ⟨none, .store 6 (.tmp 2) (.tmp 15), none, []⟩]
def F40 : AFunc := ⟨(.seq (.region F40.r0) (.seq (.region F40.r1) (.seq (.seq (.region F40.r2) (.block 0 (.loop F40.l0))) (.seq (.region F40.r7) .ret)))),
  [.inr (2, (some 6))]⟩
/-! function 41: armplan/pose.Apply -/
def F41.r0 : List AOper := [
  ⟨(some 2), .box 112 (.tmp 0), none, []⟩,
  ⟨(some 3), .box 107 (.tmp 1), none, []⟩,
  ⟨(some 4), .alloc 107 [(.int .i64 0), (.int .i64 0), (.int .i64 0), (.int .i64 0), (.int .i64 0), (.int .i64 0)], none, []⟩]
def F41.r1 : List AOper := [
  ⟨(some 6), .load (some 24) (.tmp 2), none, []⟩,
  ⟨(some 7), .call (.func 62) [(.tmp 6)], none, []⟩,
  ⟨(some 5), .mv (.tmp 7), none, []⟩]
def F41.r2 : List AOper := [
  ⟨(some 8), .mv (.tmp 5), none, []⟩,
  ⟨(some 9), .load (some 6) (.tmp 3), none, []⟩,
  ⟨(some 10), .call (.tmp 8) [(.tmp 9)], none, []⟩,
  ⟨none, .store 6 (.tmp 4) (.tmp 10), none, []⟩]
def F41 : AFunc := ⟨(.seq (.region F41.r0) (.seq (.region F41.r1) (.seq (.region F41.r2) .ret))),
  [.inr (4, (some 6))]⟩
/-! function 42: armplan/matrix.Point -/
def F42.r0 : List AOper := [
  ⟨(some 1), .box 40 (.tmp 0), none, []⟩,
  ⟨(some 2), .alloc 107 [(.int .i64 0), (.int .i64 0), (.int .i64 0), (.int .i64 0), (.int .i64 0), (.int .i64 0)], none, []⟩]
def F42.r1 : List AOper := [
  ⟨(some 3), .alloc 107 [(.int .i64 0), (.int .i64 0), (.int .i64 0), (.int .i64 0), (.int .i64 0), (.int .i64 0)], none, []⟩]
def F42.r2 : List AOper := [
  ⟨(some 5), .mv (.const (.int .i64 0)), none, []⟩]
def F42.r3 : List AOper := [
  ⟨(some 6), .bin .lss .no (.tmp 5) (.const (.int .i64 3)), none, []⟩]
def F42.r4 : List AOper := [
  ⟨(some 7), .mv (.tmp 5), none, []⟩,
  ⟨(some 4), .mv (.tmp 7), none, []⟩]
def F42.r5 : List AOper := [
  ⟨(some 8), .mv (.tmp 4), none, []⟩,
  ⟨(some 9), .mv (.tmp 4), none, []⟩,
  ⟨(some 10), .idxAddr (some 3) 1 (.tmp 1) (.tmp 9), none, []⟩,
  ⟨(some 11), .load none (.tmp 10), none, []⟩,
  ⟨(some 12), .call (.func 63) [(.tmp 11)], none, []⟩,
  ⟨(some 13), .idxAddr (some 3) 2 (.tmp 3) (.tmp 8), none, []⟩,
  ⟨none, .store 2 (.tmp 13) (.tmp 12), none, []⟩]
def F42.r6 : List AOper := [
  ⟨(some 14), .bin .add .no (.tmp 5) (.const (.int .i64 1)), none, []⟩,
  ⟨(some 5), .mv (.tmp 14), none, []⟩]
def F42.l0 : ACode := (.seq (.region F42.r3) (.seq (.cond (.tmp 6) .skip (.exit 0)) (.seq (.block 1 (.seq (.region F42.r4) (.region F42.r5))) (.region F42.r6))))
def F42.r7 : List AOper := [
  ⟨(some 15), .load (some 6) (.tmp 3), none, []⟩,
  ⟨none, .store 6 (.tmp 2) (.tmp 15), none, []⟩]
def F42 : AFunc := ⟨(.seq (.region F42.r0) (.seq (.region F42.r1) (.seq (.seq (.region F42.r2) (.block 0 (.loop F42.l0))) (.seq (.region F42.r7) .ret)))),
  [.inr (2, (some 6))]⟩
/-! function 43: armplan/robot.Chain -/
def F43.r0 : List AOper := [
  ⟨(some 2), .box 35 (.tmp 0), none, []⟩,
  ⟨(some 4), .mv (.const (.slice none 0 0)), none, []⟩]
def F43.r1 : List AOper := [
  ⟨(some 6), .load (some 2) (.tmp 2), none, []⟩,
  ⟨(some 7), .mv (.tmp 1), none, []⟩,
  ⟨(some 8), .call (.func 64) [(.tmp 6), (.tmp 7)], none, []⟩,
  ⟨(some 9), .un .not (.tmp 8), none, []⟩]
def F43.r2 : List AOper := [
  ⟨(some 4), .mv (.const (.slice none 0 0)), none, []⟩]
def F43.r3 : List AOper := [
  ⟨(some 5), .mv (.const (.slice none 0 0)), none, []⟩]
def F43.r4 : List AOper := [
  ⟨(some 10), .mv (.tmp 1), none, []⟩,
  ⟨(some 11), .bin .neq .no (.tmp 10) (.const (.int .i64 (-1))), none, []⟩]
def F43.r5 : List AOper := [
  ⟨(some 12), .mv (.tmp 5), none, []⟩,
  ⟨(some 13), .buildSlice 3 [(.int .i64 0)] 1 [(0, 1, (.const (.int .i64 0)))], none, []⟩,
  ⟨(some 14), .append 3 1 8 (.tmp 12) (.tmp 13), none, []⟩,
  ⟨(some 5), .mv (.tmp 14), none, []⟩]
def F43.r6 : List AOper := [
  ⟨(some 15), .mv (.tmp 5), none, []⟩,
  ⟨(some 16), .slc 1 (.tmp 15) (some (.const (.int .i64 1))) none, none, []⟩,
  ⟨(some 17), .mv (.tmp 5), none, []⟩,
  ⟨(some 18), .copy 1 (.tmp 16) (.tmp 17), none, []⟩]
def F43.r7 : List AOper := [
  ⟨(some 19), .mv (.tmp 5), none, []⟩,
  ⟨(some 20), .mv (.tmp 1), none, []⟩,
  ⟨(some 21), .idxAddr none 1 (.tmp 19) (.const (.int .i64 0)), none, []⟩,
  ⟨none, .store 1 (.tmp 21) (.tmp 20), none, []⟩]
def F43.r8 : List AOper := [
  ⟨(some 22), .fieldAddr 0 (.tmp 2), none, []⟩,
  ⟨(some 23), .load none (.tmp 22), none, []⟩,
  ⟨(some 24), .mv (.tmp 1), none, []⟩,
  ⟨(some 25), .idxAddr none 12 (.tmp 23) (.tmp 24), none, []⟩,
  ⟨(some 26), .fieldAddr 2 (.tmp 25), none, []⟩,
  ⟨(some 27), .load none (.tmp 26), none, []⟩,
  ⟨(some 1), .mv (.tmp 27), none, []⟩]
def F43.l0 : ACode := (.seq (.seq (.region F43.r4) (.cond (.tmp 11) .skip (.exit 0))) (.block 1 (.seq (.region F43.r5) (.seq (.region F43.r6) (.seq (.region F43.r7) (.region F43.r8))))))
def F43.r9 : List AOper := [
  ⟨(some 28), .mv (.tmp 5), none, []⟩,
  ⟨(some 4), .mv (.tmp 28), none, []⟩]
def F43 : AFunc := ⟨(.seq (.region F43.r0) (.seq (.seq (.region F43.r1) (.cond (.tmp 9) (.seq (.region F43.r2) .ret) .skip)) (.seq (.region F43.r3) (.seq (.block 0 (.loop F43.l0)) (.seq (.region F43.r9) .ret))))),
  [.inl 4]⟩
/-! function 44: armplan/dynamics.axis -/
def F44.r0 : List AOper := [
  ⟨(some 2), .box 61 (.tmp 0), none, []⟩,
  ⟨(some 3), .box 112 (.tmp 1), none, []⟩,
  ⟨(some 4), .alloc 80 [(.int .i64 0), (.int .i64 0), (.int .i64 0), (.int .i64 0), (.int .i64 0), (.int .i64 0)], none, []⟩]
def F44.r1 : List AOper := [
  ⟨(some 6), .fieldAddr 1 (.tmp 2), none, []⟩,
  ⟨(some 7), .load none (.tmp 6), none, []⟩,
  ⟨(some 8), .bin .sub .no (.tmp 7) (.const (.int .i64 1)), none, []⟩,
  ⟨(some 5), .mv (.tmp 8), none, []⟩]
def F44.r2 : List AOper := [
  ⟨(some 9), .fieldAddr 1 (.tmp 2), none, []⟩,
  ⟨(some 10), .load none (.tmp 9), none, []⟩,
  ⟨(some 11), .bin .geq .no (.tmp 10) (.const (.int .i64 4)), none, []⟩]
def F44.r3 : List AOper := [
  ⟨(some 12), .fieldAddr 1 (.tmp 2), none, []⟩,
  ⟨(some 13), .load none (.tmp 12), none, []⟩,
  ⟨(some 14), .bin .sub .no (.tmp 13) (.const (.int .i64 4)), none, []⟩,
  ⟨(some 5), .mv (.tmp 14), none, []⟩]
def F44.r4 : List AOper := [
  ⟨(some 15), .mv (.tmp 5), none, []⟩,
  ⟨(some 16), .fieldAddr 0 (.tmp 3), none, []⟩,
  ⟨(some 17), .idxAddr (some 3) 6 (.tmp 16) (.const (.int .i64 0)), none, []⟩,
  ⟨(some 18), .idxAddr (some 3) 2 (.tmp 17) (.tmp 15), none, []⟩,
  ⟨(some 19), .load (some 2) (.tmp 18), none, []⟩,
  ⟨(some 20), .mv (.tmp 5), none, []⟩,
  ⟨(some 21), .fieldAddr 0 (.tmp 3), none, []⟩,
  ⟨(some 22), .idxAddr (some 3) 6 (.tmp 21) (.const (.int .i64 1)), none, []⟩,
  ⟨(some 23), .idxAddr (some 3) 2 (.tmp 22) (.tmp 20), none, []⟩,
  ⟨(some 24), .load (some 2) (.tmp 23), none, []⟩,
  ⟨(some 25), .mv (.tmp 5), none, []⟩,
  ⟨(some 26), .fieldAddr 0 (.tmp 3), none, []⟩,
  ⟨(some 27), .idxAddr (some 3) 6 (.tmp 26) (.const (.int .i64 2)), none, []⟩,
  ⟨(some 28), .idxAddr (some 3) 2 (.tmp 27) (.tmp 25), none, []⟩,
  ⟨(some 29), .load (some 2) (.tmp 28), none, []⟩,
  ⟨(some 30), .build [(.int .i64 0), (.int .i64 0), (.int .i64 0), (.int .i64 0), (.int .i64 0), (.int .i64 0)] [(0, 2, (.tmp 19)), (2, 2, (.tmp 24)), (4, 2, (.tmp 29))], none, []⟩,
  ⟨(some 31), .call (.func 40) [(.tmp 30)], none, []⟩,
  ⟨none, .store 6 (.tmp 4) (.tmp 31), none, []⟩]
def F44 : AFunc := ⟨(.seq (.region F44.r0) (.seq (.region F44.r1) (.seq (.seq (.region F44.r2) (.cond (.tmp 11) (.region F44.r3) .skip)) (.seq (.dregion F44.r4) .ret)))),
  [.inr (4, (some 6))]⟩
/-! function 45: armplan/dynamics.negated -/
def F45.r0 : List AOper := [
  ⟨(some 1), .box 23 (.tmp 0), none, []⟩,
  ⟨(some 2), .alloc 23 [(.int .i64 0), (.int .i64 0)], none, []⟩]
def F45.r1 : List AOper := [
  ⟨(some 3), .fieldAddr 1 (.tmp 1), none, []⟩,
  ⟨(some 4), .load none (.tmp 3), none, []⟩,
  ⟨(some 5), .un .neg (.tmp 4), none, []⟩,
  ⟨(some 6), .fieldAddr 0 (.tmp 1), none, []⟩,
  ⟨(some 7), .load none (.tmp 6), none, []⟩,
  ⟨(some 8), .un .neg (.tmp 7), none, []⟩,
  ⟨(some 9), .build [(.int .i64 0), (.int .i64 0)] [(0, 1, (.tmp 5)), (1, 1, (.tmp 8))], none, []⟩,
  ⟨none, .store 2 (.tmp 2) (.tmp 9), none, []⟩]
def F45 : AFunc := ⟨(.seq (.region F45.r0) (.seq (.region F45.r1) .ret)),
  [.inr (2, (some 2))]⟩
/-! function 46: (*armplan/dynamics.calculator).cross -/
def F46.r0 : List AOper := [
  ⟨(some 4), .box 80 (.tmp 1), none, []⟩,
  ⟨(some 5), .box 80 (.tmp 2), none, []⟩,
  ⟨(some 6), .alloc 80 [(.int .i64 0), (.int .i64 0), (.int .i64 0), (.int .i64 0), (.int .i64 0), (.int .i64 0)], none, []⟩]
def F46.r1 : List AOper := [
  ⟨(some 7), .alloc 80 [(.int .i64 0), (.int .i64 0), (.int .i64 0), (.int .i64 0), (.int .i64 0), (.int .i64 0)], none, []⟩]
def F46.r2 : List AOper := [
  ⟨(some 11), .mv (.const (.int .i64 0)), none, []⟩]
def F46.r3 : List AOper := [
  ⟨(some 12), .bin .lss .no (.tmp 11) (.const (.int .i64 3)), none, []⟩]
def F46.r4 : List AOper := [
  ⟨(some 13), .mv (.tmp 11), none, []⟩,
  ⟨(some 8), .mv (.tmp 13), none, []⟩]
def F46.r5 : List AOper := [
  ⟨(some 14), .mv (.tmp 8), none, []⟩,
  ⟨(some 15), .bin .add .no (.tmp 14) (.const (.int .i64 1)), none, []⟩,
  ⟨(some 16), .bin .rem .no (.tmp 15) (.const (.int .i64 3)), none, []⟩,
  ⟨(some 17), .mv (.tmp 8), none, []⟩,
  ⟨(some 18), .bin .add .no (.tmp 17) (.const (.int .i64 2)), none, []⟩,
  ⟨(some 19), .bin .rem .no (.tmp 18) (.const (.int .i64 3)), none, []⟩,
  ⟨(some 9), .mv (.tmp 16), none, []⟩,
  ⟨(some 10), .mv (.tmp 19), none, []⟩]
def F46.r6 : List AOper := [
  ⟨(some 20), .mv (.tmp 8), none, []⟩,
  ⟨(some 21), .mv (.tmp 0), none, []⟩,
  ⟨(some 22), .mv (.tmp 0), none, []⟩,
  ⟨(some 23), .mv (.tmp 9), none, []⟩,
  ⟨(some 24), .idxAddr (some 3) 2 (.tmp 4) (.tmp 23), none, []⟩,
  ⟨(some 25), .load (some 2) (.tmp 24), none, []⟩,
  ⟨(some 26), .mv (.tmp 10), none, []⟩,
  ⟨(some 27), .idxAddr (some 3) 2 (.tmp 5) (.tmp 26), none, []⟩,
  ⟨(some 28), .load (some 2) (.tmp 27), none, []⟩,
  ⟨(some 29), .call (.func 48) [(.tmp 22), (.tmp 25), (.tmp 28)], none, []⟩,
  ⟨(some 30), .mv (.tmp 0), none, []⟩,
  ⟨(some 31), .mv (.tmp 10), none, []⟩,
  ⟨(some 32), .idxAddr (some 3) 2 (.tmp 4) (.tmp 31), none, []⟩,
  ⟨(some 33), .load (some 2) (.tmp 32), none, [9]⟩,
  ⟨(some 34), .mv (.tmp 9), none, []⟩,
  ⟨(some 35), .idxAddr (some 3) 2 (.tmp 5) (.tmp 34), none, []⟩,
  ⟨(some 36), .load (some 2) (.tmp 35), none, [9]⟩,
  ⟨(some 37), .call (.func 48) [(.tmp 30), (.tmp 33), (.tmp 36)], none, []⟩,
  ⟨(some 38), .call (.func 45) [(.tmp 37)], none, []⟩,
  ⟨(some 39), .call (.func 28) [(.tmp 21), (.tmp 29), (.tmp 38)], none, []⟩,
  ⟨(some 40), .idxAddr (some 3) 2 (.tmp 7) (.tmp 20), none, []⟩,
  ⟨none, .store 2 (.tmp 40) (.tmp 39), none, []⟩]
def F46.r7 : List AOper := [
  ⟨(some 41), .bin .add .no (.tmp 11) (.const (.int .i64 1)), none, []⟩,
  ⟨(some 11), .mv (.tmp 41), none, []⟩]
def F46.l0 : ACode := (.seq (.region F46.r3) (.seq (.cond (.tmp 12) .skip (.exit 0)) (.seq (.block 1 (.seq (.region F46.r4) (.seq (.region F46.r5) (.dregion F46.r6)))) (.region F46.r7))))
def F46.r8 : List AOper := [
  ⟨(some 42), .load (some 6) (.tmp 7), none, []⟩,
  ⟨none, .store 6 (.tmp 6) (.tmp 42), none, []⟩]
def F46 : AFunc := ⟨(.seq (.region F46.r0) (.seq (.region F46.r1) (.seq (.seq (.region F46.r2) (.block 0 (.loop F46.l0))) (.seq (.region F46.r8) .ret)))),
  [.inr (6, (some 6))]⟩
/-! function 47: (*armplan/dynamics.calculator).plus -/
def F47.r0 : List AOper := [
  ⟨(some 5), .box 80 (.tmp 1), none, []⟩,
  ⟨(some 6), .box 80 (.tmp 2), none, []⟩,
  ⟨(some 7), .box 23 (.tmp 3), none, []⟩,
  ⟨(some 8), .alloc 80 [(.int .i64 0), (.int .i64 0), (.int .i64 0), (.int .i64 0), (.int .i64 0), (.int .i64 0)], none, []⟩]
def F47.r1 : List AOper := [
  ⟨(some 10), .mv (.const (.int .i64 0)), none, []⟩]
def F47.r2 : List AOper := [
  ⟨(some 11), .bin .lss .no (.tmp 10) (.const (.int .i64 3)), none, []⟩]
def F47.r3 : List AOper := [
  ⟨(some 12), .mv (.tmp 10), none, []⟩,
  ⟨(some 9), .mv (.tmp 12), none, []⟩]
def F47.r4 : List AOper := [
  ⟨(some 13), .mv (.tmp 9), none, []⟩,
  ⟨(some 14), .mv (.tmp 0), none, []⟩,
  ⟨(some 15), .mv (.tmp 9), none, []⟩,
  ⟨(some 16), .idxAddr (some 3) 2 (.tmp 5) (.tmp 15), none, []⟩,
  ⟨(some 17), .load (some 2) (.tmp 16), none, [10]⟩,
  ⟨(some 18), .mv (.tmp 0), none, []⟩,
  ⟨(some 19), .mv (.tmp 9), none, []⟩,
  ⟨(some 20), .idxAddr (some 3) 2 (.tmp 6) (.tmp 19), none, []⟩,
  ⟨(some 21), .load (some 2) (.tmp 20), none, []⟩,
  ⟨(some 22), .load (some 2) (.tmp 7), none, []⟩,
  ⟨(some 23), .call (.func 48) [(.tmp 18), (.tmp 21), (.tmp 22)], none, []⟩,
  ⟨(some 24), .call (.func 28) [(.tmp 14), (.tmp 17), (.tmp 23)], none, []⟩,
  ⟨(some 25), .idxAddr (some 3) 2 (.tmp 5) (.tmp 13), none, []⟩,
  ⟨none, .store 2 (.tmp 25) (.tmp 24), none, []⟩]
def F47.r5 : List AOper := [
  ⟨(some 26), .bin .add .no (.tmp 10) (.const (.int .i64 1)), none, []⟩,
  ⟨(some 10), .mv (.tmp 26), none, []⟩]
def F47.l0 : ACode := (.seq (.region F47.r2) (.seq (.cond (.tmp 11) .skip (.exit 0)) (.seq (.block 1 (.seq (.region F47.r3) (.dregion F47.r4))) (.region F47.r5))))
def F47.r6 : List AOper := [
  ⟨(some 27), .load (some 6) (.tmp 5), none, []⟩,
  ⟨none, .store 6 (.tmp 8) (.tmp 27), none, []⟩]
def F47 : AFunc := ⟨(.seq (.region F47.r0) (.seq (.seq (.region F47.r1) (.block 0 (.loop F47.l0))) (.seq (.region F47.r6) .ret))),
  [.inr (8, (some 6))]⟩
/-! function 48: (*armplan/dynamics.calculator).mul -/
def F48.r0 : List AOper := [
  ⟨(some 4), .box 23 (.tmp 1), none, []⟩,
  ⟨(some 5), .box 23 (.tmp 2), none, []⟩,
  ⟨(some 6), .alloc 23 [(.int .i64 0), (.int .i64 0)], none, []⟩]
def F48.r1 : List AOper := [
  ⟨(some 7), .mv (.tmp 0), none, []⟩,
  ⟨(some 8), .load (some 2) (.tmp 4), none, []⟩,
  ⟨(some 9), .load (some 2) (.tmp 5), none, []⟩,
  ⟨(some 10), .call (.func 6) [(.tmp 8), (.tmp 9)], none, []⟩,
  ⟨(some 11), .ext (.tmp 10) 0, none, []⟩,
  ⟨(some 12), .ext (.tmp 10) 1, none, []⟩,
  ⟨(some 13), .call (.func 49) [(.tmp 7), (.tmp 11), (.tmp 12)], none, []⟩,
  ⟨none, .store 2 (.tmp 6) (.tmp 13), none, []⟩]
def F48 : AFunc := ⟨(.seq (.region F48.r0) (.seq (.region F48.r1) .ret)),
  [.inr (6, (some 2))]⟩
/-! function 49: (*armplan/dynamics.calculator).keep -/
def F49.r0 : List AOper := [
  ⟨(some 4), .box 23 (.tmp 1), none, []⟩,
  ⟨(some 6), .alloc 23 [(.int .i64 0), (.int .i64 0)], none, []⟩]
def F49.r1 : List AOper := [
  ⟨(some 7), .mv (.tmp 0), none, []⟩,
  ⟨(some 8), .mv (.tmp 0), none, []⟩,
  ⟨(some 9), .nilCheck (.tmp 8), none, []⟩,
  ⟨(some 10), .fieldAddr 0 (.tmp 9), none, []⟩,
  ⟨(some 11), .load none (.tmp 10), none, []⟩,
  ⟨(some 12), .mv (.tmp 11), none, []⟩,
  ⟨(some 13), .mv (.tmp 2), some ((some 12), false), []⟩,
  ⟨(some 14), .un .not (.tmp 13), some ((some 12), false), []⟩,
  ⟨(some 15), .pick (.tmp 12) (.const (.bool true)) (.tmp 14), none, []⟩,
  ⟨(some 16), .nilCheck (.tmp 7), none, []⟩,
  ⟨(some 17), .fieldAddr 0 (.tmp 16), none, []⟩,
  ⟨none, .store 1 (.tmp 17) (.tmp 15), none, []⟩]
def F49.r2 : List AOper := [
  ⟨(some 18), .load (some 2) (.tmp 4), none, []⟩,
  ⟨none, .store 2 (.tmp 6) (.tmp 18), none, []⟩]
def F49 : AFunc := ⟨(.seq (.region F49.r0) (.seq (.region F49.r1) (.seq (.region F49.r2) .ret))),
  [.inr (6, (some 2))]⟩
/-! function 50: armplan/armplanmake.letter -/
def F50.r0 : List AOper := [
  ⟨(some 2), .mv (.const (.string (ByteArray.mk #[]))), none, []⟩]
def F50.r1 : List AOper := [
  ⟨(some 3), .mv (.tmp 0), none, []⟩,
  ⟨(some 4), .mv (.tmp 0), none, []⟩,
  ⟨(some 5), .bin .add .no (.tmp 4) (.const (.int .i64 1)), none, []⟩,
  ⟨(some 6), .slcS (.const (.string (ByteArray.mk #[97, 98, 99, 100, 101, 102, 103, 104, 105, 106]))) (some (.tmp 3)) (some (.tmp 5)), none, []⟩,
  ⟨(some 2), .mv (.tmp 6), none, []⟩]
def F50 : AFunc := ⟨(.seq (.region F50.r0) (.seq (.region F50.r1) .ret)),
  [.inl 2]⟩
/-! function 51: armplan/robot.Check -/
def F51.r0 : List AOper := [
  ⟨(some 1), .box 35 (.tmp 0), none, []⟩,
  ⟨(some 2), .mv (.const (.int .i64 0)), none, []⟩]
def F51.r1 : List AOper := [
  ⟨(some 8), .fieldAddr 0 (.tmp 1), none, []⟩,
  ⟨(some 9), .load none (.tmp 8), none, []⟩,
  ⟨(some 10), .lenO false (.tmp 9), none, []⟩,
  ⟨(some 11), .bin .lss .no (.tmp 10) (.const (.int .i64 1)), none, []⟩,
  ⟨(some 12), .mv (.tmp 11), none, []⟩,
  ⟨(some 13), .fieldAddr 0 (.tmp 1), some ((some 12), false), []⟩,
  ⟨(some 14), .load none (.tmp 13), some ((some 12), false), []⟩,
  ⟨(some 15), .lenO false (.tmp 14), some ((some 12), false), []⟩,
  ⟨(some 16), .bin .gtr .no (.tmp 15) (.const (.int .i64 10)), some ((some 12), false), []⟩,
  ⟨(some 17), .pick (.tmp 12) (.const (.bool true)) (.tmp 16), none, []⟩]
def F51.r2 : List AOper := [
  ⟨(some 2), .mv (.const (.int .i64 801)), none, []⟩]
def F51.r3 : List AOper := [
  ⟨(some 18), .fieldAddr 0 (.tmp 1), none, []⟩,
  ⟨(some 19), .load none (.tmp 18), none, []⟩,
  ⟨(some 20), .lenO false (.tmp 19), none, []⟩,
  ⟨(some 21), .mv (.const (.int .i64 0)), none, []⟩]
def F51.r4 : List AOper := [
  ⟨(some 22), .bin .lss .no (.tmp 21) (.tmp 20), none, []⟩]
def F51.r5 : List AOper := [
  ⟨(some 23), .mv (.tmp 21), none, []⟩,
  ⟨(some 24), .idxAddr none 12 (.tmp 19) (.tmp 21), none, []⟩,
  ⟨(some 25), .load (some 12) (.tmp 24), none, []⟩,
  ⟨(some 4), .alloc 61 [(.string (ByteArray.mk #[])), (.int .i64 0), (.int .i64 0), (.int .i64 0), (.int .i64 0), (.int .i64 0), (.int .i64 0), (.int .i64 0), (.int .i64 0), (.int .i64 0), (.int .i64 0), (.int .i64 0)], none, []⟩,
  ⟨(some 3), .mv (.tmp 23), none, []⟩,
  ⟨none, .store 12 (.tmp 4) (.tmp 25), none, []⟩]
def F51.r6 : List AOper := [
  ⟨(some 26), .fieldAddr 0 (.tmp 1), none, []⟩,
  ⟨(some 27), .load none (.tmp 26), none, []⟩,
  ⟨(some 28), .mv (.tmp 3), none, []⟩,
  ⟨(some 29), .slc 12 (.tmp 27) none (some (.tmp 28)), none, []⟩,
  ⟨(some 30), .load (some 12) (.tmp 4), none, []⟩,
  ⟨(some 31), .call (.func 65) [(.tmp 29), (.tmp 30)], none, []⟩,
  ⟨(some 5), .mv (.tmp 31), none, []⟩]
def F51.r7 : List AOper := [
  ⟨(some 32), .mv (.tmp 5), none, []⟩,
  ⟨(some 33), .bin .neq .no (.tmp 32) (.const (.int .i64 0)), none, []⟩]
def F51.r8 : List AOper := [
  ⟨(some 34), .mv (.tmp 5), none, []⟩,
  ⟨(some 2), .mv (.tmp 34), none, []⟩]
def F51.r9 : List AOper := [
  ⟨(some 35), .bin .add .no (.tmp 21) (.const (.int .i64 1)), none, []⟩,
  ⟨(some 21), .mv (.tmp 35), none, []⟩]
def F51.l0 : ACode := (.seq (.region F51.r4) (.seq (.cond (.tmp 22) .skip (.exit 0)) (.seq (.block 1 (.seq (.region F51.r5) (.seq (.dregion F51.r6) (.seq (.region F51.r7) (.cond (.tmp 33) (.seq (.region F51.r8) .ret) .skip))))) (.region F51.r9))))
def F51.r10 : List AOper := [
  ⟨(some 36), .fieldAddr 1 (.tmp 1), none, []⟩,
  ⟨(some 37), .load none (.tmp 36), none, []⟩,
  ⟨(some 38), .lenO false (.tmp 37), none, []⟩,
  ⟨(some 39), .bin .gtr .no (.tmp 38) (.const (.int .i64 32)), none, []⟩]
def F51.r11 : List AOper := [
  ⟨(some 2), .mv (.const (.int .i64 808)), none, []⟩]
def F51.r12 : List AOper := [
  ⟨(some 40), .fieldAddr 1 (.tmp 1), none, []⟩,
  ⟨(some 41), .load none (.tmp 40), none, []⟩,
  ⟨(some 42), .lenO false (.tmp 41), none, []⟩,
  ⟨(some 43), .mv (.const (.int .i64 0)), none, []⟩]
def F51.r13 : List AOper := [
  ⟨(some 44), .bin .lss .no (.tmp 43) (.tmp 42), none, []⟩]
def F51.r14 : List AOper := [
  ⟨(some 45), .idxAddr none 5 (.tmp 41) (.tmp 43), none, []⟩,
  ⟨(some 46), .load (some 5) (.tmp 45), none, []⟩,
  ⟨(some 7), .alloc 89 [(.int .i64 0), (.int .i64 0), (.int .i64 0), (.int .i64 0), (.int .i64 0)], none, []⟩,
  ⟨none, .store 5 (.tmp 7) (.tmp 46), none, []⟩]
def F51.r15 : List AOper := [
  ⟨(some 47), .fieldAddr 0 (.tmp 7), none, []⟩,
  ⟨(some 48), .load none (.tmp 47), none, []⟩,
  ⟨(some 49), .bin .lss .no (.tmp 48) (.const (.int .i64 0)), none, []⟩,
  ⟨(some 50), .mv (.tmp 49), none, []⟩,
  ⟨(some 51), .fieldAddr 0 (.tmp 7), some ((some 50), false), []⟩,
  ⟨(some 52), .load none (.tmp 51), some ((some 50), false), []⟩,
  ⟨(some 53), .fieldAddr 0 (.tmp 1), some ((some 50), false), []⟩,
  ⟨(some 54), .load none (.tmp 53), some ((some 50), false), []⟩,
  ⟨(some 55), .lenO false (.tmp 54), some ((some 50), false), []⟩,
  ⟨(some 56), .bin .geq .no (.tmp 52) (.tmp 55), some ((some 50), false), []⟩,
  ⟨(some 57), .pick (.tmp 50) (.const (.bool true)) (.tmp 56), none, []⟩,
  ⟨(some 58), .mv (.tmp 57), none, []⟩,
  ⟨(some 59), .fieldAddr 1 (.tmp 7), some ((some 58), false), []⟩,
  ⟨(some 60), .load none (.tmp 59), some ((some 58), false), []⟩,
  ⟨(some 61), .call (.func 66) [(.const (.int .i64 1)), (.tmp 60), (.const (.int .i64 65536))], some ((some 58), false), []⟩,
  ⟨(some 62), .un .not (.tmp 61), some ((some 58), false), []⟩,
  ⟨(some 63), .pick (.tmp 58) (.const (.bool true)) (.tmp 62), none, []⟩,
  ⟨(some 64), .mv (.tmp 63), none, []⟩,
  ⟨(some 65), .fieldAddr 2 (.tmp 7), some ((some 64), false), []⟩,
  ⟨(some 66), .load (some 3) (.tmp 65), some ((some 64), false), []⟩,
  ⟨(some 67), .call (.func 67) [(.tmp 66)], some ((some 64), false), []⟩,
  ⟨(some 68), .pick (.tmp 64) (.const (.bool true)) (.tmp 67), none, []⟩]
def F51.r16 : List AOper := [
  ⟨(some 2), .mv (.const (.int .i64 808)), none, []⟩]
def F51.r17 : List AOper := [
  ⟨(some 69), .bin .add .no (.tmp 43) (.const (.int .i64 1)), none, []⟩,
  ⟨(some 43), .mv (.tmp 69), none, []⟩]
def F51.l1 : ACode := (.seq (.region F51.r13) (.seq (.cond (.tmp 44) .skip (.exit 2)) (.seq (.block 3 (.seq (.region F51.r14) (.seq (.region F51.r15) (.cond (.tmp 68) (.seq (.region F51.r16) .ret) .skip)))) (.region F51.r17))))
def F51.r18 : List AOper := [
  ⟨(some 2), .mv (.const (.int .i64 0)), none, []⟩]
def F51 : AFunc := ⟨(.seq (.region F51.r0) (.seq (.seq (.region F51.r1) (.cond (.tmp 17) (.seq (.region F51.r2) .ret) .skip)) (.seq (.seq (.region F51.r3) (.block 0 (.loop F51.l0))) (.seq (.seq (.region F51.r10) (.cond (.tmp 39) (.seq (.region F51.r11) .ret) .skip)) (.seq (.seq (.region F51.r12) (.block 2 (.loop F51.l1))) (.seq (.region F51.r18) .ret)))))),
  [.inl 2]⟩
/-! function 52: armplan/config.all[armplan/api.Joint,int64] -/
def F52.r0 : List AOper := [
  ⟨(some 6), .mv (.const (.bool false)), none, []⟩]
def F52.r1 : List AOper := [
  ⟨(some 7), .mv (.const (.int .i64 0)), none, []⟩]
def F52.r2 : List AOper := [
  ⟨(some 8), .mv (.tmp 0), none, []⟩,
  ⟨(some 9), .lenO false (.tmp 8), none, []⟩,
  ⟨(some 10), .mv (.tmp 1), none, []⟩,
  ⟨(some 11), .lenO false (.tmp 10), none, []⟩,
  ⟨(some 12), .bin .eql .no (.tmp 9) (.tmp 11), none, []⟩,
  ⟨(some 13), .mv (.tmp 12), none, []⟩,
  ⟨(some 14), .mv (.tmp 7), some ((some 13), true), []⟩,
  ⟨(some 15), .mv (.tmp 0), some ((some 13), true), []⟩,
  ⟨(some 16), .lenO false (.tmp 15), some ((some 13), true), []⟩,
  ⟨(some 17), .bin .lss .no (.tmp 14) (.tmp 16), some ((some 13), true), []⟩,
  ⟨(some 18), .pick (.tmp 13) (.tmp 17) (.const (.bool false)), none, []⟩]
def F52.r3 : List AOper := [
  ⟨(some 21), .mv (.tmp 2), none, []⟩,
  ⟨(some 22), .mv (.tmp 0), none, []⟩,
  ⟨(some 23), .mv (.tmp 7), none, []⟩,
  ⟨(some 24), .idxAddr none 12 (.tmp 22) (.tmp 23), none, []⟩,
  ⟨(some 25), .load (some 12) (.tmp 24), none, []⟩,
  ⟨(some 26), .mv (.tmp 1), none, []⟩,
  ⟨(some 27), .mv (.tmp 7), none, []⟩,
  ⟨(some 28), .idxAddr none 1 (.tmp 26) (.tmp 27), none, []⟩,
  ⟨(some 29), .load none (.tmp 28), none, []⟩,
  ⟨(some 30), .call (.tmp 21) [(.tmp 25), (.tmp 29)], none, []⟩,
  ⟨(some 31), .un .not (.tmp 30), none, []⟩]
def F52.r4 : List AOper := [
  ⟨(some 6), .mv (.const (.bool false)), none, []⟩]
def F52.r5 : List AOper := [
  ⟨(some 19), .mv (.tmp 7), none, []⟩,
  ⟨(some 20), .bin .add .no (.tmp 19) (.const (.int .i64 1)), none, []⟩,
  ⟨(some 7), .mv (.tmp 20), none, []⟩]
def F52.l0 : ACode := (.seq (.seq (.region F52.r2) (.cond (.tmp 18) .skip (.exit 0))) (.seq (.block 1 (.seq (.dregion F52.r3) (.cond (.tmp 31) (.seq (.region F52.r4) .ret) .skip))) (.region F52.r5)))
def F52.r6 : List AOper := [
  ⟨(some 32), .mv (.tmp 0), none, []⟩,
  ⟨(some 33), .lenO false (.tmp 32), none, []⟩,
  ⟨(some 34), .mv (.tmp 1), none, []⟩,
  ⟨(some 35), .lenO false (.tmp 34), none, []⟩,
  ⟨(some 36), .bin .eql .no (.tmp 33) (.tmp 35), none, []⟩,
  ⟨(some 6), .mv (.tmp 36), none, []⟩]
def F52 : AFunc := ⟨(.seq (.region F52.r0) (.seq (.seq (.region F52.r1) (.block 0 (.loop F52.l0))) (.seq (.region F52.r6) .ret))),
  [.inl 6]⟩
/-! function 53: armplan/config.Inside$1 -/
def F53.r0 : List AOper := [
  ⟨(some 2), .box 61 (.tmp 0), none, []⟩,
  ⟨(some 4), .mv (.const (.bool false)), none, []⟩]
def F53.r1 : List AOper := [
  ⟨(some 5), .load (some 12) (.tmp 2), none, []⟩,
  ⟨(some 6), .call (.func 55) [(.tmp 5)], none, []⟩,
  ⟨(some 7), .mv (.tmp 1), none, []⟩,
  ⟨(some 8), .call (.func 54) [(.tmp 6), (.tmp 7)], none, []⟩,
  ⟨(some 4), .mv (.tmp 8), none, []⟩]
def F53 : AFunc := ⟨(.seq (.region F53.r0) (.seq (.region F53.r1) .ret)),
  [.inl 4]⟩
/-! function 54: armplan/interval.Has -/
def F54.r0 : List AOper := [
  ⟨(some 2), .box 49 (.tmp 0), none, []⟩,
  ⟨(some 4), .mv (.const (.bool false)), none, []⟩]
def F54.r1 : List AOper := [
  ⟨(some 5), .load (some 2) (.tmp 2), none, []⟩,
  ⟨(some 6), .call (.func 68) [(.tmp 5)], none, []⟩,
  ⟨(some 7), .mv (.tmp 6), none, []⟩,
  ⟨(some 8), .mv (.tmp 1), some ((some 7), true), []⟩,
  ⟨(some 9), .fieldAddr 0 (.tmp 2), some ((some 7), true), []⟩,
  ⟨(some 10), .load none (.tmp 9), some ((some 7), true), []⟩,
  ⟨(some 11), .bin .geq .no (.tmp 8) (.tmp 10), some ((some 7), true), []⟩,
  ⟨(some 12), .pick (.tmp 7) (.tmp 11) (.const (.bool false)), none, []⟩,
  ⟨(some 13), .mv (.tmp 12), none, []⟩,
  ⟨(some 14), .mv (.tmp 1), some ((some 13), true), []⟩,
  ⟨(some 15), .fieldAddr 1 (.tmp 2), some ((some 13), true), []⟩,
  ⟨(some 16), .load none (.tmp 15), some ((some 13), true), []⟩,
  ⟨(some 17), .bin .leq .no (.tmp 14) (.tmp 16), some ((some 13), true), []⟩,
  ⟨(some 18), .pick (.tmp 13) (.tmp 17) (.const (.bool false)), none, []⟩,
  ⟨(some 4), .mv (.tmp 18), none, []⟩]
def F54 : AFunc := ⟨(.seq (.region F54.r0) (.seq (.region F54.r1) .ret)),
  [.inl 4]⟩
/-! function 55: armplan/config.limits -/
def F55.r0 : List AOper := [
  ⟨(some 1), .box 61 (.tmp 0), none, []⟩,
  ⟨(some 2), .alloc 49 [(.int .i64 0), (.int .i64 0)], none, []⟩]
def F55.r1 : List AOper := [
  ⟨(some 3), .fieldAddr 6 (.tmp 1), none, []⟩,
  ⟨(some 4), .load none (.tmp 3), none, []⟩,
  ⟨(some 5), .fieldAddr 7 (.tmp 1), none, []⟩,
  ⟨(some 6), .load none (.tmp 5), none, []⟩,
  ⟨(some 7), .build [(.int .i64 0), (.int .i64 0)] [(0, 1, (.tmp 4)), (1, 1, (.tmp 6))], none, []⟩,
  ⟨none, .store 2 (.tmp 2) (.tmp 7), none, []⟩]
def F55 : AFunc := ⟨(.seq (.region F55.r0) (.seq (.region F55.r1) .ret)),
  [.inr (2, (some 2))]⟩
/-! function 56: armplan/config.small -/
def F56.r0 : List AOper := [
  ⟨(some 2), .mv (.const (.bool false)), none, []⟩]
def F56.r1 : List AOper := [
  ⟨(some 3), .mv (.tmp 0), none, []⟩,
  ⟨(some 4), .call (.func 69) [(.tmp 3), (.func 70)], none, []⟩,
  ⟨(some 5), .un .not (.tmp 4), none, []⟩,
  ⟨(some 2), .mv (.tmp 5), none, []⟩]
def F56 : AFunc := ⟨(.seq (.region F56.r0) (.seq (.region F56.r1) .ret)),
  [.inl 2]⟩
/-! function 57: armplan/config.all[armplan/api.Joint,armplan/api.Interval] -/
def F57.r0 : List AOper := [
  ⟨(some 6), .mv (.const (.bool false)), none, []⟩]
def F57.r1 : List AOper := [
  ⟨(some 7), .mv (.const (.int .i64 0)), none, []⟩]
def F57.r2 : List AOper := [
  ⟨(some 8), .mv (.tmp 0), none, []⟩,
  ⟨(some 9), .lenO false (.tmp 8), none, []⟩,
  ⟨(some 10), .mv (.tmp 1), none, []⟩,
  ⟨(some 11), .lenO false (.tmp 10), none, []⟩,
  ⟨(some 12), .bin .eql .no (.tmp 9) (.tmp 11), none, []⟩,
  ⟨(some 13), .mv (.tmp 12), none, []⟩,
  ⟨(some 14), .mv (.tmp 7), some ((some 13), true), []⟩,
  ⟨(some 15), .mv (.tmp 0), some ((some 13), true), []⟩,
  ⟨(some 16), .lenO false (.tmp 15), some ((some 13), true), []⟩,
  ⟨(some 17), .bin .lss .no (.tmp 14) (.tmp 16), some ((some 13), true), []⟩,
  ⟨(some 18), .pick (.tmp 13) (.tmp 17) (.const (.bool false)), none, []⟩]
def F57.r3 : List AOper := [
  ⟨(some 21), .mv (.tmp 2), none, []⟩,
  ⟨(some 22), .mv (.tmp 0), none, []⟩,
  ⟨(some 23), .mv (.tmp 7), none, []⟩,
  ⟨(some 24), .idxAddr none 12 (.tmp 22) (.tmp 23), none, []⟩,
  ⟨(some 25), .load (some 12) (.tmp 24), none, []⟩,
  ⟨(some 26), .mv (.tmp 1), none, []⟩,
  ⟨(some 27), .mv (.tmp 7), none, []⟩,
  ⟨(some 28), .idxAddr none 2 (.tmp 26) (.tmp 27), none, []⟩,
  ⟨(some 29), .load (some 2) (.tmp 28), none, []⟩,
  ⟨(some 30), .call (.tmp 21) [(.tmp 25), (.tmp 29)], none, []⟩,
  ⟨(some 31), .un .not (.tmp 30), none, []⟩]
def F57.r4 : List AOper := [
  ⟨(some 6), .mv (.const (.bool false)), none, []⟩]
def F57.r5 : List AOper := [
  ⟨(some 19), .mv (.tmp 7), none, []⟩,
  ⟨(some 20), .bin .add .no (.tmp 19) (.const (.int .i64 1)), none, []⟩,
  ⟨(some 7), .mv (.tmp 20), none, []⟩]
def F57.l0 : ACode := (.seq (.seq (.region F57.r2) (.cond (.tmp 18) .skip (.exit 0))) (.seq (.block 1 (.seq (.dregion F57.r3) (.cond (.tmp 31) (.seq (.region F57.r4) .ret) .skip))) (.region F57.r5)))
def F57.r6 : List AOper := [
  ⟨(some 32), .mv (.tmp 0), none, []⟩,
  ⟨(some 33), .lenO false (.tmp 32), none, []⟩,
  ⟨(some 34), .mv (.tmp 1), none, []⟩,
  ⟨(some 35), .lenO false (.tmp 34), none, []⟩,
  ⟨(some 36), .bin .eql .no (.tmp 33) (.tmp 35), none, []⟩,
  ⟨(some 6), .mv (.tmp 36), none, []⟩]
def F57 : AFunc := ⟨(.seq (.region F57.r0) (.seq (.seq (.region F57.r1) (.block 0 (.loop F57.l0))) (.seq (.region F57.r6) .ret))),
  [.inl 6]⟩
/-! function 58: armplan/config.InsideBox$1 -/
def F58.r0 : List AOper := [
  ⟨(some 2), .box 61 (.tmp 0), none, []⟩,
  ⟨(some 3), .box 49 (.tmp 1), none, []⟩,
  ⟨(some 4), .mv (.const (.bool false)), none, []⟩]
def F58.r1 : List AOper := [
  ⟨(some 5), .load (some 2) (.tmp 3), none, [2]⟩,
  ⟨(some 6), .load (some 12) (.tmp 2), none, []⟩,
  ⟨(some 7), .call (.func 55) [(.tmp 6)], none, []⟩,
  ⟨(some 8), .call (.func 59) [(.tmp 5), (.tmp 7)], none, []⟩,
  ⟨(some 4), .mv (.tmp 8), none, []⟩]
def F58 : AFunc := ⟨(.seq (.region F58.r0) (.seq (.dregion F58.r1) .ret)),
  [.inl 4]⟩
/-! function 59: armplan/interval.Within -/
def F59.r0 : List AOper := [
  ⟨(some 2), .box 49 (.tmp 0), none, []⟩,
  ⟨(some 3), .box 49 (.tmp 1), none, []⟩,
  ⟨(some 4), .mv (.const (.bool false)), none, []⟩]
def F59.r1 : List AOper := [
  ⟨(some 5), .load (some 2) (.tmp 2), none, []⟩,
  ⟨(some 6), .load (some 2) (.tmp 3), none, []⟩,
  ⟨(some 7), .call (.func 71) [(.tmp 5), (.tmp 6)], none, []⟩,
  ⟨(some 8), .mv (.tmp 7), none, []⟩,
  ⟨(some 9), .fieldAddr 0 (.tmp 3), some ((some 8), true), []⟩,
  ⟨(some 10), .load none (.tmp 9), some ((some 8), true), []⟩,
  ⟨(some 11), .fieldAddr 0 (.tmp 2), some ((some 8), true), []⟩,
  ⟨(some 12), .load none (.tmp 11), some ((some 8), true), []⟩,
  ⟨(some 13), .bin .leq .no (.tmp 10) (.tmp 12), some ((some 8), true), []⟩,
  ⟨(some 14), .pick (.tmp 8) (.tmp 13) (.const (.bool false)), none, []⟩,
  ⟨(some 15), .mv (.tmp 14), none, []⟩,
  ⟨(some 16), .fieldAddr 1 (.tmp 2), some ((some 15), true), []⟩,
  ⟨(some 17), .load none (.tmp 16), some ((some 15), true), []⟩,
  ⟨(some 18), .fieldAddr 1 (.tmp 3), some ((some 15), true), []⟩,
  ⟨(some 19), .load none (.tmp 18), some ((some 15), true), []⟩,
  ⟨(some 20), .bin .leq .no (.tmp 17) (.tmp 19), some ((some 15), true), []⟩,
  ⟨(some 21), .pick (.tmp 15) (.tmp 20) (.const (.bool false)), none, []⟩,
  ⟨(some 4), .mv (.tmp 21), none, []⟩]
def F59 : AFunc := ⟨(.seq (.region F59.r0) (.seq (.region F59.r1) .ret)),
  [.inl 4]⟩
/-! function 60: armplan/kinematics.isBox -/
def F60.r0 : List AOper := [
  ⟨(some 2), .box 35 (.tmp 0), none, []⟩,
  ⟨(some 4), .mv (.const (.bool false)), none, []⟩]
def F60.r1 : List AOper := [
  ⟨(some 5), .mv (.tmp 1), none, []⟩,
  ⟨(some 6), .lenO false (.tmp 5), none, []⟩,
  ⟨(some 7), .fieldAddr 0 (.tmp 2), none, []⟩,
  ⟨(some 8), .load none (.tmp 7), none, []⟩,
  ⟨(some 9), .lenO false (.tmp 8), none, []⟩,
  ⟨(some 10), .bin .eql .no (.tmp 6) (.tmp 9), none, []⟩,
  ⟨(some 11), .mv (.tmp 10), none, []⟩,
  ⟨(some 12), .mv (.tmp 1), some ((some 11), true), []⟩,
  ⟨(some 13), .call (.func 72) [(.tmp 12), (.func 73)], some ((some 11), true), []⟩,
  ⟨(some 14), .un .not (.tmp 13), some ((some 11), true), []⟩,
  ⟨(some 15), .pick (.tmp 11) (.tmp 14) (.const (.bool false)), none, []⟩,
  ⟨(some 4), .mv (.tmp 15), none, []⟩]
def F60 : AFunc := ⟨(.seq (.region F60.r0) (.seq (.region F60.r1) .ret)),
  [.inl 4]⟩
/-! function 61: (*armplan/kinematics.tree).add -/
def F61.r0 : List AOper := [
  ⟨(some 5), .mv (.tmp 0), none, []⟩,
  ⟨(some 6), .nilCheck (.tmp 5), none, []⟩,
  ⟨(some 7), .fieldAddr 3 (.tmp 6), none, []⟩,
  ⟨(some 8), .load none (.tmp 7), none, []⟩,
  ⟨(some 9), .lenO false (.tmp 8), none, []⟩,
  ⟨(some 2), .mv (.tmp 9), none, []⟩]
def F61.r1 : List AOper := [
  ⟨(some 10), .mv (.tmp 0), none, []⟩,
  ⟨(some 11), .nilCheck (.tmp 10), none, []⟩,
  ⟨(some 12), .fieldAddr 0 (.tmp 11), none, []⟩,
  ⟨(some 13), .fieldAddr 0 (.tmp 12), none, []⟩,
  ⟨(some 14), .load none (.tmp 13), none, []⟩,
  ⟨(some 15), .mv (.tmp 2), none, []⟩,
  ⟨(some 16), .idxAddr none 12 (.tmp 14) (.tmp 15), none, []⟩,
  ⟨(some 17), .load (some 12) (.tmp 16), none, []⟩,
  ⟨(some 3), .alloc 61 [(.string (ByteArray.mk #[])), (.int .i64 0), (.int .i64 0), (.int .i64 0), (.int .i64 0), (.int .i64 0), (.int .i64 0), (.int .i64 0), (.int .i64 0), (.int .i64 0), (.int .i64 0), (.int .i64 0)], none, []⟩,
  ⟨none, .store 12 (.tmp 3) (.tmp 17), none, []⟩]
def F61.r2 : List AOper := [
  ⟨(some 18), .load (some 12) (.tmp 3), none, []⟩,
  ⟨(some 19), .mv (.tmp 0), none, []⟩,
  ⟨(some 20), .nilCheck (.tmp 19), none, []⟩,
  ⟨(some 21), .fieldAddr 2 (.tmp 20), none, []⟩,
  ⟨(some 22), .load none (.tmp 21), none, []⟩,
  ⟨(some 23), .mv (.tmp 2), none, []⟩,
  ⟨(some 24), .idxAddr none 2 (.tmp 22) (.tmp 23), none, []⟩,
  ⟨(some 25), .load (some 2) (.tmp 24), none, []⟩,
  ⟨(some 26), .call (.func 74) [(.tmp 18), (.tmp 25)], none, []⟩,
  ⟨(some 4), .alloc 112 [(.int .i64 0), (.int .i64 0), (.int .i64 0), (.int .i64 0), (.int .i64 0), (.int .i64 0), (.int .i64 0), (.int .i64 0), (.int .i64 0), (.int .i64 0), (.int .i64 0), (.int .i64 0), (.int .i64 0), (.int .i64 0), (.int .i64 0), (.int .i64 0), (.int .i64 0), (.int .i64 0), (.int .i64 0), (.int .i64 0), (.int .i64 0), (.int .i64 0), (.int .i64 0), (.int .i64 0)], none, []⟩,
  ⟨none, .store 24 (.tmp 4) (.tmp 26), none, []⟩]
def F61.r3 : List AOper := [
  ⟨(some 27), .fieldAddr 2 (.tmp 3), none, []⟩,
  ⟨(some 28), .load none (.tmp 27), none, []⟩,
  ⟨(some 29), .bin .neq .no (.tmp 28) (.const (.int .i64 (-1))), none, []⟩]
def F61.r4 : List AOper := [
  ⟨(some 30), .mv (.tmp 0), none, []⟩,
  ⟨(some 31), .nilCheck (.tmp 30), none, []⟩,
  ⟨(some 32), .fieldAddr 3 (.tmp 31), none, []⟩,
  ⟨(some 33), .load none (.tmp 32), none, []⟩,
  ⟨(some 34), .fieldAddr 2 (.tmp 3), none, []⟩,
  ⟨(some 35), .load none (.tmp 34), none, []⟩,
  ⟨(some 36), .idxAddr none 24 (.tmp 33) (.tmp 35), none, []⟩,
  ⟨(some 37), .load (some 24) (.tmp 36), none, []⟩,
  ⟨(some 38), .load (some 24) (.tmp 4), none, []⟩,
  ⟨(some 39), .call (.func 75) [(.tmp 37), (.tmp 38)], none, []⟩,
  ⟨none, .store 24 (.tmp 4) (.tmp 39), none, []⟩]
def F61.r5 : List AOper := [
  ⟨(some 40), .mv (.tmp 0), none, []⟩,
  ⟨(some 41), .mv (.tmp 0), none, []⟩,
  ⟨(some 42), .nilCheck (.tmp 41), none, []⟩,
  ⟨(some 43), .fieldAddr 3 (.tmp 42), none, []⟩,
  ⟨(some 44), .load none (.tmp 43), none, []⟩,
  ⟨(some 45), .load (some 24) (.tmp 4), none, []⟩,
  ⟨(some 46), .buildSlice 112 [(.int .i64 0), (.int .i64 0), (.int .i64 0), (.int .i64 0), (.int .i64 0), (.int .i64 0), (.int .i64 0), (.int .i64 0), (.int .i64 0), (.int .i64 0), (.int .i64 0), (.int .i64 0), (.int .i64 0), (.int .i64 0), (.int .i64 0), (.int .i64 0), (.int .i64 0), (.int .i64 0), (.int .i64 0), (.int .i64 0), (.int .i64 0), (.int .i64 0), (.int .i64 0), (.int .i64 0)] 1 [(0, 24, (.tmp 45))], none, []⟩,
  ⟨(some 47), .append 112 24 192 (.tmp 44) (.tmp 46), none, []⟩,
  ⟨(some 48), .nilCheck (.tmp 40), none, []⟩,
  ⟨(some 49), .fieldAddr 3 (.tmp 48), none, []⟩,
  ⟨none, .store 1 (.tmp 49) (.tmp 47), none, []⟩]
def F61 : AFunc := ⟨(.seq (.region F61.r0) (.seq (.region F61.r1) (.seq (.dregion F61.r2) (.seq (.seq (.region F61.r3) (.cond (.tmp 29) (.dregion F61.r4) .skip)) (.dregion F61.r5))))),
  []⟩
/-! function 62: armplan/pose.motion -/
def F62.r0 : List AOper := [
  ⟨(some 1), .box 112 (.tmp 0), none, []⟩,
  ⟨(some 2), .mv (.const .nilFunc), none, []⟩]
def F62.r1 : List AOper := [
  ⟨(some 3), .mkF 76 [] [(.tmp 1)], none, []⟩,
  ⟨(some 2), .mv (.tmp 3), none, []⟩]
def F62 : AFunc := ⟨(.seq (.region F62.r0) (.seq (.region F62.r1) .ret)),
  [.inl 2]⟩
/-! function 63: armplan/interval.Of -/
def F63.r0 : List AOper := [
  ⟨(some 2), .alloc 49 [(.int .i64 0), (.int .i64 0)], none, []⟩]
def F63.r1 : List AOper := [
  ⟨(some 3), .mv (.tmp 0), none, []⟩,
  ⟨(some 4), .mv (.tmp 0), none, []⟩,
  ⟨(some 5), .call (.func 79) [(.tmp 3), (.tmp 4)], none, []⟩,
  ⟨none, .store 2 (.tmp 2) (.tmp 5), none, []⟩]
def F63 : AFunc := ⟨(.seq (.region F63.r0) (.seq (.region F63.r1) .ret)),
  [.inr (2, (some 2))]⟩
/-! function 64: armplan/robot.isLink -/
def F64.r0 : List AOper := [
  ⟨(some 2), .box 35 (.tmp 0), none, []⟩,
  ⟨(some 4), .mv (.const (.bool false)), none, []⟩]
def F64.r1 : List AOper := [
  ⟨(some 5), .mv (.tmp 1), none, []⟩,
  ⟨(some 6), .bin .geq .no (.tmp 5) (.const (.int .i64 (-1))), none, []⟩,
  ⟨(some 7), .mv (.tmp 6), none, []⟩,
  ⟨(some 8), .mv (.tmp 1), some ((some 7), true), []⟩,
  ⟨(some 9), .fieldAddr 0 (.tmp 2), some ((some 7), true), []⟩,
  ⟨(some 10), .load none (.tmp 9), some ((some 7), true), []⟩,
  ⟨(some 11), .lenO false (.tmp 10), some ((some 7), true), []⟩,
  ⟨(some 12), .bin .lss .no (.tmp 8) (.tmp 11), some ((some 7), true), []⟩,
  ⟨(some 13), .pick (.tmp 7) (.tmp 12) (.const (.bool false)), none, []⟩,
  ⟨(some 14), .mv (.tmp 13), none, []⟩,
  ⟨(some 15), .load (some 2) (.tmp 2), some ((some 14), true), []⟩,
  ⟨(some 16), .call (.func 51) [(.tmp 15)], some ((some 14), true), []⟩,
  ⟨(some 17), .bin .eql .no (.tmp 16) (.const (.int .i64 0)), some ((some 14), true), []⟩,
  ⟨(some 18), .pick (.tmp 14) (.tmp 17) (.const (.bool false)), none, []⟩,
  ⟨(some 4), .mv (.tmp 18), none, []⟩]
def F64 : AFunc := ⟨(.seq (.region F64.r0) (.seq (.region F64.r1) .ret)),
  [.inl 4]⟩
/-! function 65: armplan/robot.checkJoint -/
def F65.r0 : List AOper := [
  ⟨(some 3), .box 61 (.tmp 1), none, []⟩,
  ⟨(some 4), .mv (.const (.int .i64 0)), none, []⟩]
def F65.r1 : List AOper := [
  ⟨(some 6), .fieldAddr 1 (.tmp 3), none, []⟩,
  ⟨(some 7), .load none (.tmp 6), none, []⟩,
  ⟨(some 8), .call (.func 80) [(.tmp 7)], none, []⟩,
  ⟨(some 5), .mv (.tmp 8), none, []⟩]
def F65.r2 : List AOper := [
  ⟨(some 10), .fieldAddr 0 (.tmp 3), none, []⟩,
  ⟨(some 11), .load none (.tmp 10), none, []⟩,
  ⟨(some 12), .call (.func 81) [(.tmp 11)], none, []⟩,
  ⟨(some 13), .un .not (.tmp 12), none, []⟩,
  ⟨(some 14), .mv (.tmp 13), none, []⟩,
  ⟨(some 15), .mv (.tmp 0), some ((some 14), false), []⟩,
  ⟨(some 16), .fieldAddr 0 (.tmp 3), some ((some 14), false), []⟩,
  ⟨(some 17), .load none (.tmp 16), some ((some 14), false), []⟩,
  ⟨(some 18), .call (.func 82) [(.tmp 15), (.tmp 17)], some ((some 14), false), []⟩,
  ⟨(some 19), .bin .geq .no (.tmp 18) (.const (.int .i64 0)), some ((some 14), false), []⟩,
  ⟨(some 20), .pick (.tmp 14) (.const (.bool true)) (.tmp 19), none, []⟩,
  ⟨(some 9), .mv (.tmp 20), none, []⟩]
def F65.r3 : List AOper := [
  ⟨(some 4), .mv (.const (.int .i64 802)), none, []⟩]
def F65.r4 : List AOper := [
  ⟨(some 22), .fieldAddr 1 (.tmp 3), none, []⟩,
  ⟨(some 23), .load none (.tmp 22), none, []⟩,
  ⟨(some 24), .bin .lss .no (.tmp 23) (.const (.int .i64 0)), none, []⟩,
  ⟨(some 25), .mv (.tmp 24), none, []⟩,
  ⟨(some 26), .fieldAddr 1 (.tmp 3), some ((some 25), false), []⟩,
  ⟨(some 27), .load none (.tmp 26), some ((some 25), false), []⟩,
  ⟨(some 28), .bin .gtr .no (.tmp 27) (.const (.int .i64 6)), some ((some 25), false), []⟩,
  ⟨(some 29), .pick (.tmp 25) (.const (.bool true)) (.tmp 28), none, []⟩,
  ⟨(some 21), .mv (.tmp 29), none, []⟩]
def F65.r5 : List AOper := [
  ⟨(some 4), .mv (.const (.int .i64 803)), none, []⟩]
def F65.r6 : List AOper := [
  ⟨(some 31), .fieldAddr 2 (.tmp 3), none, []⟩,
  ⟨(some 32), .load none (.tmp 31), none, []⟩,
  ⟨(some 33), .bin .lss .no (.tmp 32) (.const (.int .i64 (-1))), none, []⟩,
  ⟨(some 34), .mv (.tmp 33), none, []⟩,
  ⟨(some 35), .fieldAddr 2 (.tmp 3), some ((some 34), false), []⟩,
  ⟨(some 36), .load none (.tmp 35), some ((some 34), false), []⟩,
  ⟨(some 37), .mv (.tmp 0), some ((some 34), false), []⟩,
  ⟨(some 38), .lenO false (.tmp 37), some ((some 34), false), []⟩,
  ⟨(some 39), .bin .geq .no (.tmp 36) (.tmp 38), some ((some 34), false), []⟩,
  ⟨(some 40), .pick (.tmp 34) (.const (.bool true)) (.tmp 39), none, []⟩,
  ⟨(some 30), .mv (.tmp 40), none, []⟩]
def F65.r7 : List AOper := [
  ⟨(some 4), .mv (.const (.int .i64 804)), none, []⟩]
def F65.r8 : List AOper := [
  ⟨(some 42), .fieldAddr 3 (.tmp 3), none, []⟩,
  ⟨(some 43), .load (some 3) (.tmp 42), none, []⟩,
  ⟨(some 44), .call (.func 67) [(.tmp 43)], none, []⟩,
  ⟨(some 41), .mv (.tmp 44), none, []⟩]
def F65.r9 : List AOper := [
  ⟨(some 4), .mv (.const (.int .i64 805)), none, []⟩]
def F65.r10 : List AOper := [
  ⟨(some 46), .fieldAddr 6 (.tmp 3), none, []⟩,
  ⟨(some 47), .load none (.tmp 46), none, []⟩,
  ⟨(some 48), .fieldAddr 7 (.tmp 3), none, []⟩,
  ⟨(some 49), .load none (.tmp 48), none, []⟩,
  ⟨(some 50), .bin .gtr .no (.tmp 47) (.tmp 49), none, []⟩,
  ⟨(some 51), .mv (.tmp 50), none, []⟩,
  ⟨(some 52), .fieldAddr 6 (.tmp 3), some ((some 51), false), []⟩,
  ⟨(some 53), .load none (.tmp 52), some ((some 51), false), []⟩,
  ⟨(some 54), .mv (.tmp 5), some ((some 51), false), []⟩,
  ⟨(some 55), .un .neg (.tmp 54), some ((some 51), false), []⟩,
  ⟨(some 56), .bin .lss .no (.tmp 53) (.tmp 55), some ((some 51), false), []⟩,
  ⟨(some 57), .pick (.tmp 51) (.const (.bool true)) (.tmp 56), none, []⟩,
  ⟨(some 58), .mv (.tmp 57), none, []⟩,
  ⟨(some 59), .fieldAddr 7 (.tmp 3), some ((some 58), false), []⟩,
  ⟨(some 60), .load none (.tmp 59), some ((some 58), false), []⟩,
  ⟨(some 61), .mv (.tmp 5), some ((some 58), false), []⟩,
  ⟨(some 62), .bin .gtr .no (.tmp 60) (.tmp 61), some ((some 58), false), []⟩,
  ⟨(some 63), .pick (.tmp 58) (.const (.bool true)) (.tmp 62), none, []⟩,
  ⟨(some 45), .mv (.tmp 63), none, []⟩]
def F65.r11 : List AOper := [
  ⟨(some 4), .mv (.const (.int .i64 806)), none, []⟩]
def F65.r12 : List AOper := [
  ⟨(some 65), .fieldAddr 8 (.tmp 3), none, []⟩,
  ⟨(some 66), .load none (.tmp 65), none, []⟩,
  ⟨(some 67), .call (.func 66) [(.const (.int .i64 1)), (.tmp 66), (.const (.int .i64 1024))], none, []⟩,
  ⟨(some 68), .un .not (.tmp 67), none, []⟩,
  ⟨(some 69), .mv (.tmp 68), none, []⟩,
  ⟨(some 70), .fieldAddr 9 (.tmp 3), some ((some 69), false), []⟩,
  ⟨(some 71), .load none (.tmp 70), some ((some 69), false), []⟩,
  ⟨(some 72), .call (.func 66) [(.const (.int .i64 1)), (.tmp 71), (.const (.int .i64 1048576))], some ((some 69), false), []⟩,
  ⟨(some 73), .un .not (.tmp 72), some ((some 69), false), []⟩,
  ⟨(some 74), .pick (.tmp 69) (.const (.bool true)) (.tmp 73), none, []⟩,
  ⟨(some 75), .mv (.tmp 74), none, []⟩,
  ⟨(some 76), .fieldAddr 10 (.tmp 3), some ((some 75), false), []⟩,
  ⟨(some 77), .load none (.tmp 76), some ((some 75), false), []⟩,
  ⟨(some 78), .call (.func 66) [(.const (.int .i64 1)), (.tmp 77), (.const (.int .i64 1048576))], some ((some 75), false), []⟩,
  ⟨(some 79), .un .not (.tmp 78), some ((some 75), false), []⟩,
  ⟨(some 80), .pick (.tmp 75) (.const (.bool true)) (.tmp 79), none, []⟩,
  ⟨(some 81), .mv (.tmp 80), none, []⟩,
  ⟨(some 82), .fieldAddr 11 (.tmp 3), some ((some 81), false), []⟩,
  ⟨(some 83), .load none (.tmp 82), some ((some 81), false), []⟩,
  ⟨(some 84), .call (.func 66) [(.const (.int .i64 1)), (.tmp 83), (.const (.int .i64 1099511627776))], some ((some 81), false), []⟩,
  ⟨(some 85), .un .not (.tmp 84), some ((some 81), false), []⟩,
  ⟨(some 86), .pick (.tmp 81) (.const (.bool true)) (.tmp 85), none, []⟩,
  ⟨(some 64), .mv (.tmp 86), none, []⟩]
def F65.r13 : List AOper := [
  ⟨(some 4), .mv (.const (.int .i64 807)), none, []⟩]
def F65.r14 : List AOper := [
  ⟨(some 4), .mv (.const (.int .i64 0)), none, []⟩]
def F65 : AFunc := ⟨(.seq (.region F65.r0) (.seq (.seq (.region F65.r1) (.block 0 (.seq (.region F65.r2) (.cond (.tmp 9) (.seq (.region F65.r3) .ret) (.seq (.region F65.r4) (.cond (.tmp 21) (.seq (.region F65.r5) .ret) (.seq (.region F65.r6) (.cond (.tmp 30) (.seq (.region F65.r7) .ret) (.seq (.region F65.r8) (.cond (.tmp 41) (.seq (.region F65.r9) .ret) (.seq (.region F65.r10) (.cond (.tmp 45) (.seq (.region F65.r11) .ret) (.seq (.region F65.r12) (.cond (.tmp 64) (.seq (.region F65.r13) .ret) .skip)))))))))))))) (.seq (.region F65.r14) .ret))),
  [.inl 4]⟩
/-! function 66: armplan/robot.between -/
def F66.r0 : List AOper := [
  ⟨(some 6), .mv (.const (.bool false)), none, []⟩]
def F66.r1 : List AOper := [
  ⟨(some 7), .mv (.tmp 0), none, []⟩,
  ⟨(some 8), .mv (.tmp 1), none, []⟩,
  ⟨(some 9), .bin .leq .no (.tmp 7) (.tmp 8), none, []⟩,
  ⟨(some 10), .mv (.tmp 9), none, []⟩,
  ⟨(some 11), .mv (.tmp 1), some ((some 10), true), []⟩,
  ⟨(some 12), .mv (.tmp 2), some ((some 10), true), []⟩,
  ⟨(some 13), .bin .leq .no (.tmp 11) (.tmp 12), some ((some 10), true), []⟩,
  ⟨(some 14), .pick (.tmp 10) (.tmp 13) (.const (.bool false)), none, []⟩,
  ⟨(some 6), .mv (.tmp 14), none, []⟩]
def F66 : AFunc := ⟨(.seq (.region F66.r0) (.seq (.region F66.r1) .ret)),
  [.inl 6]⟩
/-! function 67: armplan/robot.long -/
def F67.r0 : List AOper := [
  ⟨(some 1), .box 40 (.tmp 0), none, []⟩,
  ⟨(some 2), .mv (.const (.bool false)), none, []⟩]
def F67.r1 : List AOper := [
  ⟨(some 5), .load (some 3) (.tmp 1), none, []⟩,
  ⟨(some 6), .mv (.const (.int .i64 0)), none, []⟩]
def F67.r2 : List AOper := [
  ⟨(some 7), .bin .lss .no (.tmp 6) (.const (.int .i64 3)), none, []⟩]
def F67.r3 : List AOper := [
  ⟨(some 8), .idx 3 1 none (.tmp 5) (.tmp 6), none, []⟩,
  ⟨(some 4), .mv (.tmp 8), none, []⟩]
def F67.r4 : List AOper := [
  ⟨(some 9), .mv (.tmp 4), none, []⟩,
  ⟨(some 10), .bin .lss .no (.tmp 9) (.const (.int .i64 (-4194304))), none, []⟩,
  ⟨(some 11), .mv (.tmp 10), none, []⟩,
  ⟨(some 12), .mv (.tmp 4), some ((some 11), false), []⟩,
  ⟨(some 13), .bin .gtr .no (.tmp 12) (.const (.int .i64 4194304)), some ((some 11), false), []⟩,
  ⟨(some 14), .pick (.tmp 11) (.const (.bool true)) (.tmp 13), none, []⟩]
def F67.r5 : List AOper := [
  ⟨(some 2), .mv (.const (.bool true)), none, []⟩]
def F67.r6 : List AOper := [
  ⟨(some 15), .bin .add .no (.tmp 6) (.const (.int .i64 1)), none, []⟩,
  ⟨(some 6), .mv (.tmp 15), none, []⟩]
def F67.l0 : ACode := (.seq (.region F67.r2) (.seq (.cond (.tmp 7) .skip (.exit 0)) (.seq (.block 1 (.seq (.region F67.r3) (.seq (.region F67.r4) (.cond (.tmp 14) (.seq (.region F67.r5) .ret) .skip)))) (.region F67.r6))))
def F67.r7 : List AOper := [
  ⟨(some 2), .mv (.const (.bool false)), none, []⟩]
def F67 : AFunc := ⟨(.seq (.region F67.r0) (.seq (.seq (.region F67.r1) (.block 0 (.loop F67.l0))) (.seq (.region F67.r7) .ret))),
  [.inl 2]⟩
/-! function 68: armplan/interval.Valid -/
def F68.r0 : List AOper := [
  ⟨(some 1), .box 49 (.tmp 0), none, []⟩,
  ⟨(some 2), .mv (.const (.bool false)), none, []⟩]
def F68.r1 : List AOper := [
  ⟨(some 3), .fieldAddr 0 (.tmp 1), none, []⟩,
  ⟨(some 4), .load none (.tmp 3), none, []⟩,
  ⟨(some 5), .bin .geq .no (.tmp 4) (.const (.int .i64 (-2147483648))), none, []⟩,
  ⟨(some 6), .mv (.tmp 5), none, []⟩,
  ⟨(some 7), .fieldAddr 0 (.tmp 1), some ((some 6), true), []⟩,
  ⟨(some 8), .load none (.tmp 7), some ((some 6), true), []⟩,
  ⟨(some 9), .fieldAddr 1 (.tmp 1), some ((some 6), true), []⟩,
  ⟨(some 10), .load none (.tmp 9), some ((some 6), true), []⟩,
  ⟨(some 11), .bin .leq .no (.tmp 8) (.tmp 10), some ((some 6), true), []⟩,
  ⟨(some 12), .pick (.tmp 6) (.tmp 11) (.const (.bool false)), none, []⟩,
  ⟨(some 13), .mv (.tmp 12), none, []⟩,
  ⟨(some 14), .fieldAddr 1 (.tmp 1), some ((some 13), true), []⟩,
  ⟨(some 15), .load none (.tmp 14), some ((some 13), true), []⟩,
  ⟨(some 16), .bin .leq .no (.tmp 15) (.const (.int .i64 2147483648)), some ((some 13), true), []⟩,
  ⟨(some 17), .pick (.tmp 13) (.tmp 16) (.const (.bool false)), none, []⟩,
  ⟨(some 2), .mv (.tmp 17), none, []⟩]
def F68 : AFunc := ⟨(.seq (.region F68.r0) (.seq (.region F68.r1) .ret)),
  [.inl 2]⟩
/-! function 69: slices.ContainsFunc[[]int64,int64] -/
def F69.r0 : List AOper := [
  ⟨(some 4), .mv (.const (.bool false)), none, []⟩]
def F69.r1 : List AOper := [
  ⟨(some 5), .mv (.tmp 0), none, []⟩,
  ⟨(some 6), .mv (.tmp 1), none, []⟩,
  ⟨(some 7), .call (.func 83) [(.tmp 5), (.tmp 6)], none, []⟩,
  ⟨(some 8), .bin .geq .no (.tmp 7) (.const (.int .i64 0)), none, []⟩,
  ⟨(some 4), .mv (.tmp 8), none, []⟩]
def F69 : AFunc := ⟨(.seq (.region F69.r0) (.seq (.region F69.r1) .ret)),
  [.inl 4]⟩
/-! function 70: armplan/config.small$1 -/
def F70.r0 : List AOper := [
  ⟨(some 2), .mv (.const (.bool false)), none, []⟩]
def F70.r1 : List AOper := [
  ⟨(some 3), .mv (.tmp 0), none, []⟩,
  ⟨(some 4), .bin .lss .no (.tmp 3) (.const (.int .i64 (-2147483648))), none, []⟩,
  ⟨(some 5), .mv (.tmp 4), none, []⟩,
  ⟨(some 6), .mv (.tmp 0), some ((some 5), false), []⟩,
  ⟨(some 7), .bin .gtr .no (.tmp 6) (.const (.int .i64 2147483648)), some ((some 5), false), []⟩,
  ⟨(some 8), .pick (.tmp 5) (.const (.bool true)) (.tmp 7), none, []⟩,
  ⟨(some 2), .mv (.tmp 8), none, []⟩]
def F70 : AFunc := ⟨(.seq (.region F70.r0) (.seq (.region F70.r1) .ret)),
  [.inl 2]⟩
/-! function 71: armplan/interval.both -/
def F71.r0 : List AOper := [
  ⟨(some 2), .box 49 (.tmp 0), none, []⟩,
  ⟨(some 3), .box 49 (.tmp 1), none, []⟩,
  ⟨(some 4), .mv (.const (.bool false)), none, []⟩]
def F71.r1 : List AOper := [
  ⟨(some 5), .load (some 2) (.tmp 2), none, []⟩,
  ⟨(some 6), .call (.func 68) [(.tmp 5)], none, []⟩,
  ⟨(some 7), .mv (.tmp 6), none, []⟩,
  ⟨(some 8), .load (some 2) (.tmp 3), some ((some 7), true), []⟩,
  ⟨(some 9), .call (.func 68) [(.tmp 8)], some ((some 7), true), []⟩,
  ⟨(some 10), .pick (.tmp 7) (.tmp 9) (.const (.bool false)), none, []⟩,
  ⟨(some 4), .mv (.tmp 10), none, []⟩]
def F71 : AFunc := ⟨(.seq (.region F71.r0) (.seq (.region F71.r1) .ret)),
  [.inl 4]⟩
/-! function 72: slices.ContainsFunc[[]armplan/api.Interval,armplan/api.Interval] -/
def F72.r0 : List AOper := [
  ⟨(some 4), .mv (.const (.bool false)), none, []⟩]
def F72.r1 : List AOper := [
  ⟨(some 5), .mv (.tmp 0), none, []⟩,
  ⟨(some 6), .mv (.tmp 1), none, []⟩,
  ⟨(some 7), .call (.func 84) [(.tmp 5), (.tmp 6)], none, []⟩,
  ⟨(some 8), .bin .geq .no (.tmp 7) (.const (.int .i64 0)), none, []⟩,
  ⟨(some 4), .mv (.tmp 8), none, []⟩]
def F72 : AFunc := ⟨(.seq (.region F72.r0) (.seq (.region F72.r1) .ret)),
  [.inl 4]⟩
/-! function 73: armplan/kinematics.isBox$1 -/
def F73.r0 : List AOper := [
  ⟨(some 1), .box 49 (.tmp 0), none, []⟩,
  ⟨(some 2), .mv (.const (.bool false)), none, []⟩]
def F73.r1 : List AOper := [
  ⟨(some 3), .load (some 2) (.tmp 1), none, []⟩,
  ⟨(some 4), .call (.func 68) [(.tmp 3)], none, []⟩,
  ⟨(some 5), .un .not (.tmp 4), none, []⟩,
  ⟨(some 2), .mv (.tmp 5), none, []⟩]
def F73 : AFunc := ⟨(.seq (.region F73.r0) (.seq (.region F73.r1) .ret)),
  [.inl 2]⟩
/-! function 74: armplan/kinematics.Joint -/
def F74.r0 : List AOper := [
  ⟨(some 2), .box 61 (.tmp 0), none, []⟩,
  ⟨(some 3), .box 49 (.tmp 1), none, []⟩,
  ⟨(some 4), .alloc 112 [(.int .i64 0), (.int .i64 0), (.int .i64 0), (.int .i64 0), (.int .i64 0), (.int .i64 0), (.int .i64 0), (.int .i64 0), (.int .i64 0), (.int .i64 0), (.int .i64 0), (.int .i64 0), (.int .i64 0), (.int .i64 0), (.int .i64 0), (.int .i64 0), (.int .i64 0), (.int .i64 0), (.int .i64 0), (.int .i64 0), (.int .i64 0), (.int .i64 0), (.int .i64 0), (.int .i64 0)], none, []⟩]
def F74.r1 : List AOper := [
  ⟨(some 6), .fieldAddr 1 (.tmp 2), none, []⟩,
  ⟨(some 7), .load none (.tmp 6), none, []⟩,
  ⟨(some 8), .call (.func 85) [(.tmp 7)], none, []⟩,
  ⟨(some 5), .alloc 158 [(.int .i64 0), .nilFunc], none, []⟩,
  ⟨none, .store 2 (.tmp 5) (.tmp 8), none, []⟩]
def F74.r2 : List AOper := [
  ⟨(some 9), .fieldAddr 3 (.tmp 2), none, []⟩,
  ⟨(some 10), .load (some 3) (.tmp 9), none, []⟩,
  ⟨(some 11), .call (.func 42) [(.tmp 10)], none, []⟩,
  ⟨(some 12), .call (.func 86) [(.tmp 11)], none, []⟩,
  ⟨(some 13), .fieldAddr 1 (.tmp 5), none, []⟩,
  ⟨(some 14), .load none (.tmp 13), none, [2, 3]⟩,
  ⟨(some 15), .fieldAddr 0 (.tmp 5), none, []⟩,
  ⟨(some 16), .load none (.tmp 15), none, [2, 3]⟩,
  ⟨(some 17), .load (some 2) (.tmp 3), none, [2, 3]⟩,
  ⟨(some 18), .call (.tmp 14) [(.tmp 16), (.tmp 17)], none, []⟩,
  ⟨(some 19), .call (.func 75) [(.tmp 12), (.tmp 18)], none, []⟩,
  ⟨none, .store 24 (.tmp 4) (.tmp 19), none, []⟩]
def F74 : AFunc := ⟨(.seq (.region F74.r0) (.seq (.region F74.r1) (.seq (.dregion F74.r2) .ret))),
  [.inr (4, (some 24))]⟩
/-! function 75: armplan/pose.Compose -/
def F75.r0 : List AOper := [
  ⟨(some 2), .box 112 (.tmp 0), none, []⟩,
  ⟨(some 3), .box 112 (.tmp 1), none, []⟩,
  ⟨(some 4), .alloc 112 [(.int .i64 0), (.int .i64 0), (.int .i64 0), (.int .i64 0), (.int .i64 0), (.int .i64 0), (.int .i64 0), (.int .i64 0), (.int .i64 0), (.int .i64 0), (.int .i64 0), (.int .i64 0), (.int .i64 0), (.int .i64 0), (.int .i64 0), (.int .i64 0), (.int .i64 0), (.int .i64 0), (.int .i64 0), (.int .i64 0), (.int .i64 0), (.int .i64 0), (.int .i64 0), (.int .i64 0)], none, []⟩]
def F75.r1 : List AOper := [
  ⟨(some 6), .load (some 24) (.tmp 2), none, []⟩,
  ⟨(some 7), .call (.func 62) [(.tmp 6)], none, []⟩,
  ⟨(some 5), .mv (.tmp 7), none, []⟩]
def F75.r2 : List AOper := [
  ⟨(some 8), .fieldAddr 0 (.tmp 2), none, []⟩,
  ⟨(some 9), .load (some 18) (.tmp 8), none, []⟩,
  ⟨(some 10), .fieldAddr 0 (.tmp 3), none, []⟩,
  ⟨(some 11), .load (some 18) (.tmp 10), none, []⟩,
  ⟨(some 12), .call (.func 87) [(.tmp 9), (.tmp 11)], none, []⟩,
  ⟨(some 13), .mv (.tmp 5), none, []⟩,
  ⟨(some 14), .fieldAddr 18 (.tmp 3), none, []⟩,
  ⟨(some 15), .load (some 6) (.tmp 14), none, [4]⟩,
  ⟨(some 16), .call (.tmp 13) [(.tmp 15)], none, []⟩,
  ⟨(some 17), .build [(.int .i64 0), (.int .i64 0), (.int .i64 0), (.int .i64 0), (.int .i64 0), (.int .i64 0), (.int .i64 0), (.int .i64 0), (.int .i64 0), (.int .i64 0), (.int .i64 0), (.int .i64 0), (.int .i64 0), (.int .i64 0), (.int .i64 0), (.int .i64 0), (.int .i64 0), (.int .i64 0), (.int .i64 0), (.int .i64 0), (.int .i64 0), (.int .i64 0), (.int .i64 0), (.int .i64 0)] [(0, 18, (.tmp 12)), (18, 6, (.tmp 16))], none, []⟩,
  ⟨none, .store 24 (.tmp 4) (.tmp 17), none, []⟩]
def F75 : AFunc := ⟨(.seq (.region F75.r0) (.seq (.region F75.r1) (.seq (.dregion F75.r2) .ret))),
  [.inr (4, (some 24))]⟩
/-! function 76: armplan/pose.motion$1 -/
def F76.r0 : List AOper := [
  ⟨(some 2), .box 107 (.tmp 0), none, []⟩,
  ⟨(some 3), .alloc 107 [(.int .i64 0), (.int .i64 0), (.int .i64 0), (.int .i64 0), (.int .i64 0), (.int .i64 0)], none, []⟩]
def F76.r1 : List AOper := [
  ⟨(some 4), .fieldAddr 18 (.tmp 1), none, []⟩,
  ⟨(some 5), .load (some 6) (.tmp 4), none, [5]⟩,
  ⟨(some 6), .fieldAddr 0 (.tmp 1), none, []⟩,
  ⟨(some 7), .load (some 18) (.tmp 6), none, []⟩,
  ⟨(some 8), .load (some 6) (.tmp 2), none, []⟩,
  ⟨(some 9), .call (.func 78) [(.tmp 7), (.tmp 8)], none, []⟩,
  ⟨(some 10), .call (.func 77) [(.tmp 5), (.tmp 9)], none, []⟩,
  ⟨none, .store 6 (.tmp 3) (.tmp 10), none, []⟩]
def F76 : AFunc := ⟨(.seq (.region F76.r0) (.seq (.dregion F76.r1) .ret)),
  [.inr (3, (some 6))]⟩
/-! function 77: armplan/matrix.Add -/
def F77.r0 : List AOper := [
  ⟨(some 2), .box 107 (.tmp 0), none, []⟩,
  ⟨(some 3), .box 107 (.tmp 1), none, []⟩,
  ⟨(some 4), .alloc 107 [(.int .i64 0), (.int .i64 0), (.int .i64 0), (.int .i64 0), (.int .i64 0), (.int .i64 0)], none, []⟩]
def F77.r1 : List AOper := [
  ⟨(some 6), .mv (.const (.int .i64 0)), none, []⟩]
def F77.r2 : List AOper := [
  ⟨(some 7), .bin .lss .no (.tmp 6) (.const (.int .i64 3)), none, []⟩]
def F77.r3 : List AOper := [
  ⟨(some 8), .mv (.tmp 6), none, []⟩,
  ⟨(some 5), .mv (.tmp 8), none, []⟩]
def F77.r4 : List AOper := [
  ⟨(some 9), .mv (.tmp 5), none, []⟩,
  ⟨(some 10), .mv (.tmp 5), none, []⟩,
  ⟨(some 11), .idxAddr (some 3) 2 (.tmp 2) (.tmp 10), none, []⟩,
  ⟨(some 12), .load (some 2) (.tmp 11), none, []⟩,
  ⟨(some 13), .mv (.tmp 5), none, []⟩,
  ⟨(some 14), .idxAddr (some 3) 2 (.tmp 3) (.tmp 13), none, []⟩,
  ⟨(some 15), .load (some 2) (.tmp 14), none, []⟩,
  ⟨(some 16), .call (.func 88) [(.tmp 12), (.tmp 15)], none, []⟩,
  ⟨(some 17), .idxAddr (some 3) 2 (.tmp 2) (.tmp 9), none, []⟩,
  ⟨none, .store 2 (.tmp 17) (.tmp 16), none, []⟩]
def F77.r5 : List AOper := [
  ⟨(some 18), .bin .add .no (.tmp 6) (.const (.int .i64 1)), none, []⟩,
  ⟨(some 6), .mv (.tmp 18), none, []⟩]
def F77.l0 : ACode := (.seq (.region F77.r2) (.seq (.cond (.tmp 7) .skip (.exit 0)) (.seq (.block 1 (.seq (.region F77.r3) (.dregion F77.r4))) (.region F77.r5))))
def F77.r6 : List AOper := [
  ⟨(some 19), .load (some 6) (.tmp 2), none, []⟩,
  ⟨none, .store 6 (.tmp 4) (.tmp 19), none, []⟩]
def F77 : AFunc := ⟨(.seq (.region F77.r0) (.seq (.seq (.region F77.r1) (.block 0 (.loop F77.l0))) (.seq (.region F77.r6) .ret))),
  [.inr (4, (some 6))]⟩
/-! function 78: armplan/matrix.Apply -/
def F78.r0 : List AOper := [
  ⟨(some 2), .box 110 (.tmp 0), none, []⟩,
  ⟨(some 3), .box 107 (.tmp 1), none, []⟩,
  ⟨(some 4), .alloc 107 [(.int .i64 0), (.int .i64 0), (.int .i64 0), (.int .i64 0), (.int .i64 0), (.int .i64 0)], none, []⟩]
def F78.r1 : List AOper := [
  ⟨(some 5), .alloc 107 [(.int .i64 0), (.int .i64 0), (.int .i64 0), (.int .i64 0), (.int .i64 0), (.int .i64 0)], none, []⟩]
def F78.r2 : List AOper := [
  ⟨(some 7), .mv (.const (.int .i64 0)), none, []⟩]
def F78.r3 : List AOper := [
  ⟨(some 8), .bin .lss .no (.tmp 7) (.const (.int .i64 3)), none, []⟩]
def F78.r4 : List AOper := [
  ⟨(some 9), .mv (.tmp 7), none, []⟩,
  ⟨(some 6), .mv (.tmp 9), none, []⟩]
def F78.r5 : List AOper := [
  ⟨(some 10), .mv (.tmp 6), none, []⟩,
  ⟨(some 11), .mv (.tmp 6), none, []⟩,
  ⟨(some 12), .idxAddr (some 3) 6 (.tmp 2) (.tmp 11), none, []⟩,
  ⟨(some 13), .load (some 6) (.tmp 12), none, []⟩,
  ⟨(some 14), .load (some 6) (.tmp 3), none, []⟩,
  ⟨(some 15), .call (.func 89) [(.tmp 13), (.tmp 14)], none, []⟩,
  ⟨(some 16), .idxAddr (some 3) 2 (.tmp 5) (.tmp 10), none, []⟩,
  ⟨none, .store 2 (.tmp 16) (.tmp 15), none, []⟩]
def F78.r6 : List AOper := [
  ⟨(some 17), .bin .add .no (.tmp 7) (.const (.int .i64 1)), none, []⟩,
  ⟨(some 7), .mv (.tmp 17), none, []⟩]
def F78.l0 : ACode := (.seq (.region F78.r3) (.seq (.cond (.tmp 8) .skip (.exit 0)) (.seq (.block 1 (.seq (.region F78.r4) (.dregion F78.r5))) (.region F78.r6))))
def F78.r7 : List AOper := [
  ⟨(some 18), .load (some 6) (.tmp 5), none, []⟩,
  ⟨none, .store 6 (.tmp 4) (.tmp 18), none, []⟩]
def F78 : AFunc := ⟨(.seq (.region F78.r0) (.seq (.region F78.r1) (.seq (.seq (.region F78.r2) (.block 0 (.loop F78.l0))) (.seq (.region F78.r7) .ret)))),
  [.inr (4, (some 6))]⟩
/-! function 79: armplan/interval.limit -/
def F79.r0 : List AOper := [
  ⟨(some 4), .alloc 49 [(.int .i64 0), (.int .i64 0)], none, []⟩]
def F79.r1 : List AOper := [
  ⟨(some 5), .mv (.tmp 0), none, []⟩,
  ⟨(some 6), .call (.func 90) [(.tmp 5)], none, []⟩,
  ⟨(some 7), .mv (.tmp 1), none, []⟩,
  ⟨(some 8), .call (.func 90) [(.tmp 7)], none, []⟩,
  ⟨(some 9), .build [(.int .i64 0), (.int .i64 0)] [(0, 1, (.tmp 6)), (1, 1, (.tmp 8))], none, []⟩,
  ⟨none, .store 2 (.tmp 4) (.tmp 9), none, []⟩]
def F79 : AFunc := ⟨(.seq (.region F79.r0) (.seq (.region F79.r1) .ret)),
  [.inr (4, (some 2))]⟩
/-! function 80: armplan/robot.bound -/
def F80.r0 : List AOper := [
  ⟨(some 2), .mv (.const (.int .i64 0)), none, []⟩]
def F80.r1 : List AOper := [
  ⟨(some 3), .mv (.tmp 0), none, []⟩]
def F80.r2 : List AOper := [
  ⟨(some 5), .bin .eql .no (.tmp 3) (.const (.int .i64 0)), none, []⟩,
  ⟨(some 4), .mv (.tmp 5), none, []⟩]
def F80.r3 : List AOper := [
  ⟨(some 2), .mv (.const (.int .i64 0)), none, []⟩]
def F80.r4 : List AOper := [
  ⟨(some 7), .bin .eql .no (.tmp 3) (.const (.int .i64 1)), none, []⟩,
  ⟨(some 6), .mv (.tmp 7), none, []⟩]
def F80.r5 : List AOper := [
  ⟨(some 8), .bin .eql .no (.tmp 3) (.const (.int .i64 2)), none, []⟩,
  ⟨(some 6), .mv (.tmp 8), none, []⟩]
def F80.r6 : List AOper := [
  ⟨(some 9), .bin .eql .no (.tmp 3) (.const (.int .i64 3)), none, []⟩,
  ⟨(some 6), .mv (.tmp 9), none, []⟩]
def F80.r7 : List AOper := [
  ⟨(some 2), .mv (.const (.int .i64 524288)), none, []⟩]
def F80.r8 : List AOper := [
  ⟨(some 2), .mv (.const (.int .i64 4194304)), none, []⟩]
def F80 : AFunc := ⟨(.seq (.region F80.r0) (.seq (.seq (.region F80.r1) (.block 0 (.seq (.region F80.r2) (.cond (.tmp 4) (.seq (.region F80.r3) .ret) (.seq (.seq (.region F80.r4) (.cond (.tmp 6) .skip (.seq (.region F80.r5) (.cond (.tmp 6) .skip (.region F80.r6))))) (.cond (.tmp 6) (.seq (.region F80.r7) .ret) .skip)))))) (.seq (.region F80.r8) .ret))),
  [.inl 2]⟩
/-! function 81: armplan/token.Name -/
def F81.r0 : List AOper := [
  ⟨(some 2), .mv (.const (.bool false)), none, []⟩]
def F81.r1 : List AOper := [
  ⟨(some 10), .ext (.tmp 8) 1, none, []⟩,
  ⟨(some 11), .ext (.tmp 8) 2, none, []⟩,
  ⟨(some 3), .mv (.tmp 10), none, []⟩,
  ⟨(some 4), .mv (.tmp 11), none, []⟩]
def F81.r2 : List AOper := [
  ⟨(some 12), .mv (.tmp 4), none, []⟩,
  ⟨(some 13), .bin .geq .no (.tmp 12) (.const (.int .i32 97)), none, []⟩,
  ⟨(some 14), .mv (.tmp 13), none, []⟩,
  ⟨(some 15), .mv (.tmp 4), some ((some 14), true), []⟩,
  ⟨(some 16), .bin .leq .no (.tmp 15) (.const (.int .i32 122)), some ((some 14), true), []⟩,
  ⟨(some 17), .pick (.tmp 14) (.tmp 16) (.const (.bool false)), none, []⟩,
  ⟨(some 5), .mv (.tmp 17), none, []⟩]
def F81.r3 : List AOper := [
  ⟨(some 18), .mv (.tmp 5), none, []⟩,
  ⟨(some 19), .un .not (.tmp 18), none, []⟩,
  ⟨(some 20), .mv (.tmp 19), none, []⟩,
  ⟨(some 21), .mv (.tmp 3), some ((some 20), true), []⟩,
  ⟨(some 22), .bin .eql .no (.tmp 21) (.const (.int .i64 0)), some ((some 20), true), []⟩,
  ⟨(some 23), .mv (.tmp 22), some ((some 20), true), []⟩,
  ⟨(some 24), .mv (.tmp 4), some ((some 23), false), []⟩,
  ⟨(some 25), .bin .neq .no (.tmp 24) (.const (.int .i32 95)), some ((some 23), false), []⟩,
  ⟨(some 26), .mv (.tmp 25), some ((some 23), false), []⟩,
  ⟨(some 27), .mv (.tmp 4), some ((some 26), true), []⟩,
  ⟨(some 28), .bin .lss .no (.tmp 27) (.const (.int .i32 48)), some ((some 26), true), []⟩,
  ⟨(some 29), .mv (.tmp 28), some ((some 26), true), []⟩,
  ⟨(some 30), .mv (.tmp 4), some ((some 29), false), []⟩,
  ⟨(some 31), .bin .gtr .no (.tmp 30) (.const (.int .i32 57)), some ((some 29), false), []⟩,
  ⟨(some 32), .pick (.tmp 29) (.const (.bool true)) (.tmp 31), some ((some 26), true), []⟩,
  ⟨(some 33), .pick (.tmp 26) (.tmp 32) (.const (.bool false)), some ((some 23), false), []⟩,
  ⟨(some 34), .pick (.tmp 23) (.const (.bool true)) (.tmp 33), some ((some 20), true), []⟩,
  ⟨(some 35), .pick (.tmp 20) (.tmp 34) (.const (.bool false)), none, []⟩]
def F81.r4 : List AOper := [
  ⟨(some 2), .mv (.const (.bool false)), none, []⟩]
def F81.r5 : List AOper := [
  ⟨(some 6), .mv (.tmp 0), none, []⟩]
def F81.r6 : List AOper := [
  ⟨(some 9), .ext (.tmp 8) 0, none, []⟩]
def F81.l0 : ACode := (.seq (.cond (.tmp 9) .skip (.exit 0)) (.block 1 (.seq (.region F81.r1) (.seq (.region F81.r2) (.seq (.region F81.r3) (.cond (.tmp 35) (.seq (.region F81.r4) .ret) .skip))))))
def F81.r7 : List AOper := [
  ⟨(some 36), .mv (.tmp 0), none, []⟩,
  ⟨(some 37), .lenO true (.tmp 36), none, []⟩,
  ⟨(some 38), .bin .geq .no (.tmp 37) (.const (.int .i64 1)), none, []⟩,
  ⟨(some 39), .mv (.tmp 38), none, []⟩,
  ⟨(some 40), .mv (.tmp 0), some ((some 39), true), []⟩,
  ⟨(some 41), .lenO true (.tmp 40), some ((some 39), true), []⟩,
  ⟨(some 42), .bin .leq .no (.tmp 41) (.const (.int .i64 16)), some ((some 39), true), []⟩,
  ⟨(some 43), .pick (.tmp 39) (.tmp 42) (.const (.bool false)), none, []⟩,
  ⟨(some 44), .mv (.tmp 43), none, []⟩,
  ⟨(some 45), .mv (.tmp 0), some ((some 44), true), []⟩,
  ⟨(some 46), .bin .neq .no (.tmp 45) (.const (.string (ByteArray.mk #[119, 111, 114, 108, 100]))), some ((some 44), true), []⟩,
  ⟨(some 47), .pick (.tmp 44) (.tmp 46) (.const (.bool false)), none, []⟩,
  ⟨(some 2), .mv (.tmp 47), none, []⟩]
def F81 : AFunc := ⟨(.seq (.region F81.r0) (.seq (.strRange F81.r5 (.tmp 6) 7 8 0 F81.r6 F81.l0) (.seq (.region F81.r7) .ret))),
  [.inl 2]⟩
/-! function 82: armplan/robot.place -/
def F82.r0 : List AOper := [
  ⟨(some 3), .box 9 (.tmp 1), none, []⟩,
  ⟨(some 4), .mv (.const (.int .i64 0)), none, []⟩]
def F82.r1 : List AOper := [
  ⟨(some 5), .mv (.tmp 0), none, []⟩,
  ⟨(some 6), .mkF 92 [] [(.tmp 3)], none, []⟩,
  ⟨(some 7), .call (.func 91) [(.tmp 5), (.tmp 6)], none, []⟩,
  ⟨(some 4), .mv (.tmp 7), none, []⟩]
def F82 : AFunc := ⟨(.seq (.region F82.r0) (.seq (.region F82.r1) .ret)),
  [.inl 4]⟩
/-! function 83: slices.IndexFunc[[]int64,int64] -/
def F83.r0 : List AOper := [
  ⟨(some 4), .mv (.const (.int .i64 0)), none, []⟩]
def F83.r1 : List AOper := [
  ⟨(some 6), .mv (.tmp 0), none, []⟩,
  ⟨(some 7), .lenO false (.tmp 6), none, []⟩,
  ⟨(some 8), .mv (.const (.int .i64 0)), none, []⟩]
def F83.r2 : List AOper := [
  ⟨(some 9), .bin .lss .no (.tmp 8) (.tmp 7), none, []⟩]
def F83.r3 : List AOper := [
  ⟨(some 10), .mv (.tmp 8), none, []⟩,
  ⟨(some 5), .mv (.tmp 10), none, []⟩]
def F83.r4 : List AOper := [
  ⟨(some 11), .mv (.tmp 1), none, []⟩,
  ⟨(some 12), .mv (.tmp 0), none, []⟩,
  ⟨(some 13), .mv (.tmp 5), none, []⟩,
  ⟨(some 14), .idxAddr none 1 (.tmp 12) (.tmp 13), none, []⟩,
  ⟨(some 15), .load none (.tmp 14), none, []⟩,
  ⟨(some 16), .call (.tmp 11) [(.tmp 15)], none, []⟩]
def F83.r5 : List AOper := [
  ⟨(some 17), .mv (.tmp 5), none, []⟩,
  ⟨(some 4), .mv (.tmp 17), none, []⟩]
def F83.r6 : List AOper := [
  ⟨(some 18), .bin .add .no (.tmp 8) (.const (.int .i64 1)), none, []⟩,
  ⟨(some 8), .mv (.tmp 18), none, []⟩]
def F83.l0 : ACode := (.seq (.region F83.r2) (.seq (.cond (.tmp 9) .skip (.exit 0)) (.seq (.block 1 (.seq (.region F83.r3) (.seq (.region F83.r4) (.cond (.tmp 16) (.seq (.region F83.r5) .ret) .skip)))) (.region F83.r6))))
def F83.r7 : List AOper := [
  ⟨(some 4), .mv (.const (.int .i64 (-1))), none, []⟩]
def F83 : AFunc := ⟨(.seq (.region F83.r0) (.seq (.seq (.region F83.r1) (.block 0 (.loop F83.l0))) (.seq (.region F83.r7) .ret))),
  [.inl 4]⟩
/-! function 84: slices.IndexFunc[[]armplan/api.Interval,armplan/api.Interval] -/
def F84.r0 : List AOper := [
  ⟨(some 4), .mv (.const (.int .i64 0)), none, []⟩]
def F84.r1 : List AOper := [
  ⟨(some 6), .mv (.tmp 0), none, []⟩,
  ⟨(some 7), .lenO false (.tmp 6), none, []⟩,
  ⟨(some 8), .mv (.const (.int .i64 0)), none, []⟩]
def F84.r2 : List AOper := [
  ⟨(some 9), .bin .lss .no (.tmp 8) (.tmp 7), none, []⟩]
def F84.r3 : List AOper := [
  ⟨(some 10), .mv (.tmp 8), none, []⟩,
  ⟨(some 5), .mv (.tmp 10), none, []⟩]
def F84.r4 : List AOper := [
  ⟨(some 11), .mv (.tmp 1), none, []⟩,
  ⟨(some 12), .mv (.tmp 0), none, []⟩,
  ⟨(some 13), .mv (.tmp 5), none, []⟩,
  ⟨(some 14), .idxAddr none 2 (.tmp 12) (.tmp 13), none, []⟩,
  ⟨(some 15), .load (some 2) (.tmp 14), none, []⟩,
  ⟨(some 16), .call (.tmp 11) [(.tmp 15)], none, []⟩]
def F84.r5 : List AOper := [
  ⟨(some 17), .mv (.tmp 5), none, []⟩,
  ⟨(some 4), .mv (.tmp 17), none, []⟩]
def F84.r6 : List AOper := [
  ⟨(some 18), .bin .add .no (.tmp 8) (.const (.int .i64 1)), none, []⟩,
  ⟨(some 8), .mv (.tmp 18), none, []⟩]
def F84.l0 : ACode := (.seq (.region F84.r2) (.seq (.cond (.tmp 9) .skip (.exit 0)) (.seq (.block 1 (.seq (.region F84.r3) (.seq (.region F84.r4) (.cond (.tmp 16) (.seq (.region F84.r5) .ret) .skip)))) (.region F84.r6))))
def F84.r7 : List AOper := [
  ⟨(some 4), .mv (.const (.int .i64 (-1))), none, []⟩]
def F84 : AFunc := ⟨(.seq (.region F84.r0) (.seq (.seq (.region F84.r1) (.block 0 (.loop F84.l0))) (.seq (.region F84.r7) .ret))),
  [.inl 4]⟩
/-! function 85: armplan/kinematics.motionOf -/
def F85.r0 : List AOper := [
  ⟨(some 2), .alloc 158 [(.int .i64 0), .nilFunc], none, []⟩]
def F85.r1 : List AOper := [
  ⟨(some 3), .mv (.tmp 0), none, []⟩]
def F85.r2 : List AOper := [
  ⟨(some 5), .bin .eql .no (.tmp 3) (.const (.int .i64 1)), none, []⟩,
  ⟨(some 4), .mv (.tmp 5), none, []⟩]
def F85.r3 : List AOper := [
  ⟨(some 6), .bin .eql .no (.tmp 3) (.const (.int .i64 2)), none, []⟩,
  ⟨(some 4), .mv (.tmp 6), none, []⟩]
def F85.r4 : List AOper := [
  ⟨(some 7), .bin .eql .no (.tmp 3) (.const (.int .i64 3)), none, []⟩,
  ⟨(some 4), .mv (.tmp 7), none, []⟩]
def F85.r5 : List AOper := [
  ⟨(some 8), .mv (.tmp 0), none, []⟩,
  ⟨(some 9), .bin .sub .no (.tmp 8) (.const (.int .i64 1)), none, []⟩,
  ⟨(some 10), .build [(.int .i64 0), .nilFunc] [(0, 1, (.tmp 9)), (1, 1, (.func 93))], none, []⟩,
  ⟨none, .store 2 (.tmp 2) (.tmp 10), none, []⟩]
def F85.r6 : List AOper := [
  ⟨(some 12), .bin .eql .no (.tmp 3) (.const (.int .i64 4)), none, []⟩,
  ⟨(some 11), .mv (.tmp 12), none, []⟩]
def F85.r7 : List AOper := [
  ⟨(some 13), .bin .eql .no (.tmp 3) (.const (.int .i64 5)), none, []⟩,
  ⟨(some 11), .mv (.tmp 13), none, []⟩]
def F85.r8 : List AOper := [
  ⟨(some 14), .bin .eql .no (.tmp 3) (.const (.int .i64 6)), none, []⟩,
  ⟨(some 11), .mv (.tmp 14), none, []⟩]
def F85.r9 : List AOper := [
  ⟨(some 15), .mv (.tmp 0), none, []⟩,
  ⟨(some 16), .bin .sub .no (.tmp 15) (.const (.int .i64 4)), none, []⟩,
  ⟨(some 17), .build [(.int .i64 0), .nilFunc] [(0, 1, (.tmp 16)), (1, 1, (.func 94))], none, []⟩,
  ⟨none, .store 2 (.tmp 2) (.tmp 17), none, []⟩]
def F85.r10 : List AOper := [
  ⟨(some 18), .build [(.int .i64 0), .nilFunc] [(0, 1, (.const (.int .i64 0))), (1, 1, (.func 95))], none, []⟩,
  ⟨none, .store 2 (.tmp 2) (.tmp 18), none, []⟩]
def F85 : AFunc := ⟨(.seq (.region F85.r0) (.seq (.seq (.region F85.r1) (.block 0 (.seq (.seq (.region F85.r2) (.cond (.tmp 4) .skip (.seq (.region F85.r3) (.cond (.tmp 4) .skip (.region F85.r4))))) (.cond (.tmp 4) (.seq (.region F85.r5) .ret) (.seq (.seq (.region F85.r6) (.cond (.tmp 11) .skip (.seq (.region F85.r7) (.cond (.tmp 11) .skip (.region F85.r8))))) (.cond (.tmp 11) (.seq (.region F85.r9) .ret) .skip)))))) (.seq (.region F85.r10) .ret))),
  [.inr (2, (some 2))]⟩
/-! function 86: armplan/pose.Shift -/
def F86.r0 : List AOper := [
  ⟨(some 1), .box 107 (.tmp 0), none, []⟩,
  ⟨(some 2), .alloc 112 [(.int .i64 0), (.int .i64 0), (.int .i64 0), (.int .i64 0), (.int .i64 0), (.int .i64 0), (.int .i64 0), (.int .i64 0), (.int .i64 0), (.int .i64 0), (.int .i64 0), (.int .i64 0), (.int .i64 0), (.int .i64 0), (.int .i64 0), (.int .i64 0), (.int .i64 0), (.int .i64 0), (.int .i64 0), (.int .i64 0), (.int .i64 0), (.int .i64 0), (.int .i64 0), (.int .i64 0)], none, []⟩]
def F86.r1 : List AOper := [
  ⟨(some 3), .call (.func 96) [], none, []⟩,
  ⟨(some 4), .load (some 6) (.tmp 1), none, [0]⟩,
  ⟨(some 5), .build [(.int .i64 0), (.int .i64 0), (.int .i64 0), (.int .i64 0), (.int .i64 0), (.int .i64 0), (.int .i64 0), (.int .i64 0), (.int .i64 0), (.int .i64 0), (.int .i64 0), (.int .i64 0), (.int .i64 0), (.int .i64 0), (.int .i64 0), (.int .i64 0), (.int .i64 0), (.int .i64 0), (.int .i64 0), (.int .i64 0), (.int .i64 0), (.int .i64 0), (.int .i64 0), (.int .i64 0)] [(0, 18, (.tmp 3)), (18, 6, (.tmp 4))], none, []⟩,
  ⟨none, .store 24 (.tmp 2) (.tmp 5), none, []⟩]
def F86 : AFunc := ⟨(.seq (.region F86.r0) (.seq (.dregion F86.r1) .ret)),
  [.inr (2, (some 24))]⟩
/-! function 87: armplan/matrix.Compose -/
def F87.r0 : List AOper := [
  ⟨(some 2), .box 110 (.tmp 0), none, []⟩,
  ⟨(some 3), .box 110 (.tmp 1), none, []⟩,
  ⟨(some 4), .alloc 110 [(.int .i64 0), (.int .i64 0), (.int .i64 0), (.int .i64 0), (.int .i64 0), (.int .i64 0), (.int .i64 0), (.int .i64 0), (.int .i64 0), (.int .i64 0), (.int .i64 0), (.int .i64 0), (.int .i64 0), (.int .i64 0), (.int .i64 0), (.int .i64 0), (.int .i64 0), (.int .i64 0)], none, []⟩]
def F87.r1 : List AOper := [
  ⟨(some 9), .load (some 18) (.tmp 3), none, []⟩,
  ⟨(some 10), .call (.func 97) [(.tmp 9)], none, []⟩,
  ⟨(some 5), .alloc 110 [(.int .i64 0), (.int .i64 0), (.int .i64 0), (.int .i64 0), (.int .i64 0), (.int .i64 0), (.int .i64 0), (.int .i64 0), (.int .i64 0), (.int .i64 0), (.int .i64 0), (.int .i64 0), (.int .i64 0), (.int .i64 0), (.int .i64 0), (.int .i64 0), (.int .i64 0), (.int .i64 0)], none, []⟩,
  ⟨none, .store 18 (.tmp 5) (.tmp 10), none, []⟩]
def F87.r2 : List AOper := [
  ⟨(some 6), .alloc 110 [(.int .i64 0), (.int .i64 0), (.int .i64 0), (.int .i64 0), (.int .i64 0), (.int .i64 0), (.int .i64 0), (.int .i64 0), (.int .i64 0), (.int .i64 0), (.int .i64 0), (.int .i64 0), (.int .i64 0), (.int .i64 0), (.int .i64 0), (.int .i64 0), (.int .i64 0), (.int .i64 0)], none, []⟩]
def F87.r3 : List AOper := [
  ⟨(some 11), .mv (.const (.int .i64 0)), none, []⟩]
def F87.r4 : List AOper := [
  ⟨(some 12), .bin .lss .no (.tmp 11) (.const (.int .i64 3)), none, []⟩]
def F87.r5 : List AOper := [
  ⟨(some 13), .mv (.tmp 11), none, []⟩,
  ⟨(some 7), .mv (.tmp 13), none, []⟩]
def F87.r6 : List AOper := [
  ⟨(some 14), .mv (.const (.int .i64 0)), none, []⟩]
def F87.r7 : List AOper := [
  ⟨(some 15), .bin .lss .no (.tmp 14) (.const (.int .i64 3)), none, []⟩]
def F87.r8 : List AOper := [
  ⟨(some 16), .mv (.tmp 14), none, []⟩,
  ⟨(some 8), .mv (.tmp 16), none, []⟩]
def F87.r9 : List AOper := [
  ⟨(some 17), .mv (.tmp 7), none, []⟩,
  ⟨(some 18), .mv (.tmp 8), none, []⟩,
  ⟨(some 19), .mv (.tmp 7), none, []⟩,
  ⟨(some 20), .idxAddr (some 3) 6 (.tmp 2) (.tmp 19), none, []⟩,
  ⟨(some 21), .load (some 6) (.tmp 20), none, []⟩,
  ⟨(some 22), .mv (.tmp 8), none, []⟩,
  ⟨(some 23), .idxAddr (some 3) 6 (.tmp 5) (.tmp 22), none, []⟩,
  ⟨(some 24), .load (some 6) (.tmp 23), none, []⟩,
  ⟨(some 25), .call (.func 89) [(.tmp 21), (.tmp 24)], none, []⟩,
  ⟨(some 26), .call (.func 98) [(.tmp 25)], none, []⟩,
  ⟨(some 27), .idxAddr (some 3) 6 (.tmp 6) (.tmp 17), none, []⟩,
  ⟨(some 28), .idxAddr (some 3) 2 (.tmp 27) (.tmp 18), none, []⟩,
  ⟨none, .store 2 (.tmp 28) (.tmp 26), none, []⟩]
def F87.r10 : List AOper := [
  ⟨(some 29), .bin .add .no (.tmp 14) (.const (.int .i64 1)), none, []⟩,
  ⟨(some 14), .mv (.tmp 29), none, []⟩]
def F87.l0 : ACode := (.seq (.region F87.r7) (.seq (.cond (.tmp 15) .skip (.exit 2)) (.seq (.block 3 (.seq (.region F87.r8) (.dregion F87.r9))) (.region F87.r10))))
def F87.r11 : List AOper := [
  ⟨(some 30), .bin .add .no (.tmp 11) (.const (.int .i64 1)), none, []⟩,
  ⟨(some 11), .mv (.tmp 30), none, []⟩]
def F87.l1 : ACode := (.seq (.region F87.r4) (.seq (.cond (.tmp 12) .skip (.exit 0)) (.seq (.block 1 (.seq (.region F87.r5) (.seq (.region F87.r6) (.block 2 (.loop F87.l0))))) (.region F87.r11))))
def F87.r12 : List AOper := [
  ⟨(some 31), .load (some 18) (.tmp 6), none, []⟩,
  ⟨none, .store 18 (.tmp 4) (.tmp 31), none, []⟩]
def F87 : AFunc := ⟨(.seq (.region F87.r0) (.seq (.region F87.r1) (.seq (.region F87.r2) (.seq (.seq (.region F87.r3) (.block 0 (.loop F87.l1))) (.seq (.region F87.r12) .ret))))),
  [.inr (4, (some 18))]⟩
/-! function 88: armplan/interval.Add -/
def F88.r0 : List AOper := [
  ⟨(some 2), .box 49 (.tmp 0), none, []⟩,
  ⟨(some 3), .box 49 (.tmp 1), none, []⟩,
  ⟨(some 4), .alloc 49 [(.int .i64 0), (.int .i64 0)], none, []⟩]
def F88.r1 : List AOper := [
  ⟨(some 5), .load (some 2) (.tmp 2), none, []⟩,
  ⟨(some 6), .load (some 2) (.tmp 3), none, []⟩,
  ⟨(some 7), .call (.func 71) [(.tmp 5), (.tmp 6)], none, []⟩,
  ⟨(some 8), .un .not (.tmp 7), none, []⟩]
def F88.r2 : List AOper := [
  ⟨(some 9), .build [(.int .i64 0), (.int .i64 0)] [], none, []⟩,
  ⟨none, .store 2 (.tmp 4) (.tmp 9), none, []⟩]
def F88.r3 : List AOper := [
  ⟨(some 10), .fieldAddr 0 (.tmp 2), none, []⟩,
  ⟨(some 11), .load none (.tmp 10), none, []⟩,
  ⟨(some 12), .fieldAddr 0 (.tmp 3), none, []⟩,
  ⟨(some 13), .load none (.tmp 12), none, []⟩,
  ⟨(some 14), .bin .add .no (.tmp 11) (.tmp 13), none, []⟩,
  ⟨(some 15), .fieldAddr 1 (.tmp 2), none, []⟩,
  ⟨(some 16), .load none (.tmp 15), none, []⟩,
  ⟨(some 17), .fieldAddr 1 (.tmp 3), none, []⟩,
  ⟨(some 18), .load none (.tmp 17), none, []⟩,
  ⟨(some 19), .bin .add .no (.tmp 16) (.tmp 18), none, []⟩,
  ⟨(some 20), .call (.func 79) [(.tmp 14), (.tmp 19)], none, []⟩,
  ⟨none, .store 2 (.tmp 4) (.tmp 20), none, []⟩]
def F88 : AFunc := ⟨(.seq (.region F88.r0) (.seq (.seq (.region F88.r1) (.cond (.tmp 8) (.seq (.region F88.r2) .ret) .skip)) (.seq (.region F88.r3) .ret))),
  [.inr (4, (some 2))]⟩
/-! function 89: armplan/matrix.sum -/
def F89.r0 : List AOper := [
  ⟨(some 2), .box 106 (.tmp 0), none, []⟩,
  ⟨(some 3), .box 106 (.tmp 1), none, []⟩,
  ⟨(some 4), .alloc 49 [(.int .i64 0), (.int .i64 0)], none, []⟩]
def F89.r1 : List AOper := [
  ⟨(some 7), .idxAddr (some 3) 2 (.tmp 2) (.const (.int .i64 0)), none, []⟩,
  ⟨(some 8), .load (some 2) (.tmp 7), none, []⟩,
  ⟨(some 9), .idxAddr (some 3) 2 (.tmp 3) (.const (.int .i64 0)), none, []⟩,
  ⟨(some 10), .load (some 2) (.tmp 9), none, []⟩,
  ⟨(some 11), .call (.func 99) [(.tmp 8), (.tmp 10)], none, []⟩,
  ⟨(some 5), .alloc 49 [(.int .i64 0), (.int .i64 0)], none, []⟩,
  ⟨none, .store 2 (.tmp 5) (.tmp 11), none, []⟩]
def F89.r2 : List AOper := [
  ⟨(some 6), .mv (.const (.int .i64 1)), none, []⟩]
def F89.r3 : List AOper := [
  ⟨(some 12), .mv (.tmp 6), none, []⟩,
  ⟨(some 13), .bin .lss .no (.tmp 12) (.const (.int .i64 3)), none, []⟩]
def F89.r4 : List AOper := [
  ⟨(some 16), .load (some 2) (.tmp 5), none, [7]⟩,
  ⟨(some 17), .mv (.tmp 6), none, []⟩,
  ⟨(some 18), .idxAddr (some 3) 2 (.tmp 2) (.tmp 17), none, []⟩,
  ⟨(some 19), .load (some 2) (.tmp 18), none, []⟩,
  ⟨(some 20), .mv (.tmp 6), none, []⟩,
  ⟨(some 21), .idxAddr (some 3) 2 (.tmp 3) (.tmp 20), none, []⟩,
  ⟨(some 22), .load (some 2) (.tmp 21), none, []⟩,
  ⟨(some 23), .call (.func 99) [(.tmp 19), (.tmp 22)], none, []⟩,
  ⟨(some 24), .call (.func 88) [(.tmp 16), (.tmp 23)], none, []⟩,
  ⟨none, .store 2 (.tmp 5) (.tmp 24), none, []⟩]
def F89.r5 : List AOper := [
  ⟨(some 14), .mv (.tmp 6), none, []⟩,
  ⟨(some 15), .bin .add .no (.tmp 14) (.const (.int .i64 1)), none, []⟩,
  ⟨(some 6), .mv (.tmp 15), none, []⟩]
def F89.l0 : ACode := (.seq (.seq (.region F89.r3) (.cond (.tmp 13) .skip (.exit 0))) (.seq (.block 1 (.dregion F89.r4)) (.region F89.r5)))
def F89.r6 : List AOper := [
  ⟨(some 25), .load (some 2) (.tmp 5), none, []⟩,
  ⟨none, .store 2 (.tmp 4) (.tmp 25), none, []⟩]
def F89 : AFunc := ⟨(.seq (.region F89.r0) (.seq (.region F89.r1) (.seq (.seq (.region F89.r2) (.block 0 (.loop F89.l0))) (.seq (.region F89.r6) .ret)))),
  [.inr (4, (some 2))]⟩
/-! function 90: armplan/fixed.Clamp -/
def F90.r0 : List AOper := [
  ⟨(some 2), .mv (.const (.int .i64 0)), none, []⟩]
def F90.r1 : List AOper := [
  ⟨(some 3), .mv (.tmp 0), none, []⟩,
  ⟨(some 4), .minmax true [(.tmp 3), (.const (.int .i64 (-2147483648)))], none, []⟩,
  ⟨(some 5), .minmax false [(.tmp 4), (.const (.int .i64 2147483648))], none, []⟩,
  ⟨(some 2), .mv (.tmp 5), none, []⟩]
def F90 : AFunc := ⟨(.seq (.region F90.r0) (.seq (.region F90.r1) .ret)),
  [.inl 2]⟩
/-! function 91: slices.IndexFunc[[]armplan/api.Joint,armplan/api.Joint] -/
def F91.r0 : List AOper := [
  ⟨(some 4), .mv (.const (.int .i64 0)), none, []⟩]
def F91.r1 : List AOper := [
  ⟨(some 6), .mv (.tmp 0), none, []⟩,
  ⟨(some 7), .lenO false (.tmp 6), none, []⟩,
  ⟨(some 8), .mv (.const (.int .i64 0)), none, []⟩]
def F91.r2 : List AOper := [
  ⟨(some 9), .bin .lss .no (.tmp 8) (.tmp 7), none, []⟩]
def F91.r3 : List AOper := [
  ⟨(some 10), .mv (.tmp 8), none, []⟩,
  ⟨(some 5), .mv (.tmp 10), none, []⟩]
def F91.r4 : List AOper := [
  ⟨(some 11), .mv (.tmp 1), none, []⟩,
  ⟨(some 12), .mv (.tmp 0), none, []⟩,
  ⟨(some 13), .mv (.tmp 5), none, []⟩,
  ⟨(some 14), .idxAddr none 12 (.tmp 12) (.tmp 13), none, []⟩,
  ⟨(some 15), .load (some 12) (.tmp 14), none, []⟩,
  ⟨(some 16), .call (.tmp 11) [(.tmp 15)], none, []⟩]
def F91.r5 : List AOper := [
  ⟨(some 17), .mv (.tmp 5), none, []⟩,
  ⟨(some 4), .mv (.tmp 17), none, []⟩]
def F91.r6 : List AOper := [
  ⟨(some 18), .bin .add .no (.tmp 8) (.const (.int .i64 1)), none, []⟩,
  ⟨(some 8), .mv (.tmp 18), none, []⟩]
def F91.l0 : ACode := (.seq (.region F91.r2) (.seq (.cond (.tmp 9) .skip (.exit 0)) (.seq (.block 1 (.seq (.region F91.r3) (.seq (.region F91.r4) (.cond (.tmp 16) (.seq (.region F91.r5) .ret) .skip)))) (.region F91.r6))))
def F91.r7 : List AOper := [
  ⟨(some 4), .mv (.const (.int .i64 (-1))), none, []⟩]
def F91 : AFunc := ⟨(.seq (.region F91.r0) (.seq (.seq (.region F91.r1) (.block 0 (.loop F91.l0))) (.seq (.region F91.r7) .ret))),
  [.inl 4]⟩
/-! function 92: armplan/robot.place$1 -/
def F92.r0 : List AOper := [
  ⟨(some 2), .box 61 (.tmp 0), none, []⟩,
  ⟨(some 3), .mv (.const (.bool false)), none, []⟩]
def F92.r1 : List AOper := [
  ⟨(some 4), .fieldAddr 0 (.tmp 2), none, []⟩,
  ⟨(some 5), .load none (.tmp 4), none, []⟩,
  ⟨(some 6), .load none (.tmp 1), none, []⟩,
  ⟨(some 7), .bin .eql .no (.tmp 5) (.tmp 6), none, []⟩,
  ⟨(some 3), .mv (.tmp 7), none, []⟩]
def F92 : AFunc := ⟨(.seq (.region F92.r0) (.seq (.region F92.r1) .ret)),
  [.inl 3]⟩
/-! function 93: armplan/pose.Turn -/
def F93.r0 : List AOper := [
  ⟨(some 3), .box 49 (.tmp 1), none, []⟩,
  ⟨(some 4), .alloc 112 [(.int .i64 0), (.int .i64 0), (.int .i64 0), (.int .i64 0), (.int .i64 0), (.int .i64 0), (.int .i64 0), (.int .i64 0), (.int .i64 0), (.int .i64 0), (.int .i64 0), (.int .i64 0), (.int .i64 0), (.int .i64 0), (.int .i64 0), (.int .i64 0), (.int .i64 0), (.int .i64 0), (.int .i64 0), (.int .i64 0), (.int .i64 0), (.int .i64 0), (.int .i64 0), (.int .i64 0)], none, []⟩]
def F93.r1 : List AOper := [
  ⟨(some 5), .mv (.tmp 0), none, []⟩,
  ⟨(some 6), .load (some 2) (.tmp 3), none, []⟩,
  ⟨(some 7), .call (.func 100) [(.tmp 5), (.tmp 6)], none, []⟩,
  ⟨(some 8), .build [(.int .i64 0), (.int .i64 0), (.int .i64 0), (.int .i64 0), (.int .i64 0), (.int .i64 0), (.int .i64 0), (.int .i64 0), (.int .i64 0), (.int .i64 0), (.int .i64 0), (.int .i64 0), (.int .i64 0), (.int .i64 0), (.int .i64 0), (.int .i64 0), (.int .i64 0), (.int .i64 0), (.int .i64 0), (.int .i64 0), (.int .i64 0), (.int .i64 0), (.int .i64 0), (.int .i64 0)] [(0, 18, (.tmp 7))], none, []⟩,
  ⟨none, .store 24 (.tmp 4) (.tmp 8), none, []⟩]
def F93 : AFunc := ⟨(.seq (.region F93.r0) (.seq (.region F93.r1) .ret)),
  [.inr (4, (some 24))]⟩
/-! function 94: armplan/kinematics.slide -/
def F94.r0 : List AOper := [
  ⟨(some 3), .box 49 (.tmp 1), none, []⟩,
  ⟨(some 4), .alloc 112 [(.int .i64 0), (.int .i64 0), (.int .i64 0), (.int .i64 0), (.int .i64 0), (.int .i64 0), (.int .i64 0), (.int .i64 0), (.int .i64 0), (.int .i64 0), (.int .i64 0), (.int .i64 0), (.int .i64 0), (.int .i64 0), (.int .i64 0), (.int .i64 0), (.int .i64 0), (.int .i64 0), (.int .i64 0), (.int .i64 0), (.int .i64 0), (.int .i64 0), (.int .i64 0), (.int .i64 0)], none, []⟩]
def F94.r1 : List AOper := [
  ⟨(some 5), .alloc 107 [(.int .i64 0), (.int .i64 0), (.int .i64 0), (.int .i64 0), (.int .i64 0), (.int .i64 0)], none, []⟩]
def F94.r2 : List AOper := [
  ⟨(some 6), .mv (.tmp 0), none, []⟩,
  ⟨(some 7), .load (some 2) (.tmp 3), none, []⟩,
  ⟨(some 8), .idxAddr (some 3) 2 (.tmp 5) (.tmp 6), none, []⟩,
  ⟨none, .store 2 (.tmp 8) (.tmp 7), none, []⟩]
def F94.r3 : List AOper := [
  ⟨(some 9), .load (some 6) (.tmp 5), none, []⟩,
  ⟨(some 10), .call (.func 86) [(.tmp 9)], none, []⟩,
  ⟨none, .store 24 (.tmp 4) (.tmp 10), none, []⟩]
def F94 : AFunc := ⟨(.seq (.region F94.r0) (.seq (.region F94.r1) (.seq (.region F94.r2) (.seq (.region F94.r3) .ret)))),
  [.inr (4, (some 24))]⟩
/-! function 95: armplan/kinematics.rest -/
def F95.r0 : List AOper := [
  ⟨(some 3), .box 49 (.tmp 1), none, []⟩,
  ⟨(some 4), .alloc 112 [(.int .i64 0), (.int .i64 0), (.int .i64 0), (.int .i64 0), (.int .i64 0), (.int .i64 0), (.int .i64 0), (.int .i64 0), (.int .i64 0), (.int .i64 0), (.int .i64 0), (.int .i64 0), (.int .i64 0), (.int .i64 0), (.int .i64 0), (.int .i64 0), (.int .i64 0), (.int .i64 0), (.int .i64 0), (.int .i64 0), (.int .i64 0), (.int .i64 0), (.int .i64 0), (.int .i64 0)], none, []⟩]
def F95.r1 : List AOper := [
  ⟨(some 5), .call (.func 101) [], none, []⟩,
  ⟨none, .store 24 (.tmp 4) (.tmp 5), none, []⟩]
def F95 : AFunc := ⟨(.seq (.region F95.r0) (.seq (.region F95.r1) .ret)),
  [.inr (4, (some 24))]⟩
/-! function 96: armplan/matrix.Identity -/
def F96.r0 : List AOper := [
  ⟨(some 0), .alloc 110 [(.int .i64 0), (.int .i64 0), (.int .i64 0), (.int .i64 0), (.int .i64 0), (.int .i64 0), (.int .i64 0), (.int .i64 0), (.int .i64 0), (.int .i64 0), (.int .i64 0), (.int .i64 0), (.int .i64 0), (.int .i64 0), (.int .i64 0), (.int .i64 0), (.int .i64 0), (.int .i64 0)], none, []⟩]
def F96.r1 : List AOper := [
  ⟨(some 1), .alloc 110 [(.int .i64 0), (.int .i64 0), (.int .i64 0), (.int .i64 0), (.int .i64 0), (.int .i64 0), (.int .i64 0), (.int .i64 0), (.int .i64 0), (.int .i64 0), (.int .i64 0), (.int .i64 0), (.int .i64 0), (.int .i64 0), (.int .i64 0), (.int .i64 0), (.int .i64 0), (.int .i64 0)], none, []⟩]
def F96.r2 : List AOper := [
  ⟨(some 3), .mv (.const (.int .i64 0)), none, []⟩]
def F96.r3 : List AOper := [
  ⟨(some 4), .bin .lss .no (.tmp 3) (.const (.int .i64 3)), none, []⟩]
def F96.r4 : List AOper := [
  ⟨(some 5), .mv (.tmp 3), none, []⟩,
  ⟨(some 2), .mv (.tmp 5), none, []⟩]
def F96.r5 : List AOper := [
  ⟨(some 6), .mv (.tmp 2), none, []⟩,
  ⟨(some 7), .mv (.tmp 2), none, []⟩,
  ⟨(some 8), .call (.func 102) [], none, []⟩,
  ⟨(some 9), .idxAddr (some 3) 6 (.tmp 1) (.tmp 6), none, []⟩,
  ⟨(some 10), .idxAddr (some 3) 2 (.tmp 9) (.tmp 7), none, []⟩,
  ⟨none, .store 2 (.tmp 10) (.tmp 8), none, []⟩]
def F96.r6 : List AOper := [
  ⟨(some 11), .bin .add .no (.tmp 3) (.const (.int .i64 1)), none, []⟩,
  ⟨(some 3), .mv (.tmp 11), none, []⟩]
def F96.l0 : ACode := (.seq (.region F96.r3) (.seq (.cond (.tmp 4) .skip (.exit 0)) (.seq (.block 1 (.seq (.region F96.r4) (.dregion F96.r5))) (.region F96.r6))))
def F96.r7 : List AOper := [
  ⟨(some 12), .load (some 18) (.tmp 1), none, []⟩,
  ⟨none, .store 18 (.tmp 0) (.tmp 12), none, []⟩]
def F96 : AFunc := ⟨(.seq (.region F96.r0) (.seq (.region F96.r1) (.seq (.seq (.region F96.r2) (.block 0 (.loop F96.l0))) (.seq (.region F96.r7) .ret)))),
  [.inr (0, (some 18))]⟩
/-! function 97: armplan/matrix.Transpose -/
def F97.r0 : List AOper := [
  ⟨(some 1), .box 110 (.tmp 0), none, []⟩,
  ⟨(some 2), .alloc 110 [(.int .i64 0), (.int .i64 0), (.int .i64 0), (.int .i64 0), (.int .i64 0), (.int .i64 0), (.int .i64 0), (.int .i64 0), (.int .i64 0), (.int .i64 0), (.int .i64 0), (.int .i64 0), (.int .i64 0), (.int .i64 0), (.int .i64 0), (.int .i64 0), (.int .i64 0), (.int .i64 0)], none, []⟩]
def F97.r1 : List AOper := [
  ⟨(some 3), .alloc 110 [(.int .i64 0), (.int .i64 0), (.int .i64 0), (.int .i64 0), (.int .i64 0), (.int .i64 0), (.int .i64 0), (.int .i64 0), (.int .i64 0), (.int .i64 0), (.int .i64 0), (.int .i64 0), (.int .i64 0), (.int .i64 0), (.int .i64 0), (.int .i64 0), (.int .i64 0), (.int .i64 0)], none, []⟩]
def F97.r2 : List AOper := [
  ⟨(some 6), .mv (.const (.int .i64 0)), none, []⟩]
def F97.r3 : List AOper := [
  ⟨(some 7), .bin .lss .no (.tmp 6) (.const (.int .i64 3)), none, []⟩]
def F97.r4 : List AOper := [
  ⟨(some 8), .mv (.tmp 6), none, []⟩,
  ⟨(some 4), .mv (.tmp 8), none, []⟩]
def F97.r5 : List AOper := [
  ⟨(some 9), .mv (.const (.int .i64 0)), none, []⟩]
def F97.r6 : List AOper := [
  ⟨(some 10), .bin .lss .no (.tmp 9) (.const (.int .i64 3)), none, []⟩]
def F97.r7 : List AOper := [
  ⟨(some 11), .mv (.tmp 9), none, []⟩,
  ⟨(some 5), .mv (.tmp 11), none, []⟩]
def F97.r8 : List AOper := [
  ⟨(some 12), .mv (.tmp 4), none, []⟩,
  ⟨(some 13), .mv (.tmp 5), none, []⟩,
  ⟨(some 14), .mv (.tmp 5), none, []⟩,
  ⟨(some 15), .mv (.tmp 4), none, []⟩,
  ⟨(some 16), .idxAddr (some 3) 6 (.tmp 1) (.tmp 14), none, []⟩,
  ⟨(some 17), .idxAddr (some 3) 2 (.tmp 16) (.tmp 15), none, []⟩,
  ⟨(some 18), .load (some 2) (.tmp 17), none, []⟩,
  ⟨(some 19), .idxAddr (some 3) 6 (.tmp 3) (.tmp 12), none, []⟩,
  ⟨(some 20), .idxAddr (some 3) 2 (.tmp 19) (.tmp 13), none, []⟩,
  ⟨none, .store 2 (.tmp 20) (.tmp 18), none, []⟩]
def F97.r9 : List AOper := [
  ⟨(some 21), .bin .add .no (.tmp 9) (.const (.int .i64 1)), none, []⟩,
  ⟨(some 9), .mv (.tmp 21), none, []⟩]
def F97.l0 : ACode := (.seq (.region F97.r6) (.seq (.cond (.tmp 10) .skip (.exit 2)) (.seq (.block 3 (.seq (.region F97.r7) (.dregion F97.r8))) (.region F97.r9))))
def F97.r10 : List AOper := [
  ⟨(some 22), .bin .add .no (.tmp 6) (.const (.int .i64 1)), none, []⟩,
  ⟨(some 6), .mv (.tmp 22), none, []⟩]
def F97.l1 : ACode := (.seq (.region F97.r3) (.seq (.cond (.tmp 7) .skip (.exit 0)) (.seq (.block 1 (.seq (.region F97.r4) (.seq (.region F97.r5) (.block 2 (.loop F97.l0))))) (.region F97.r10))))
def F97.r11 : List AOper := [
  ⟨(some 23), .load (some 18) (.tmp 3), none, []⟩,
  ⟨none, .store 18 (.tmp 2) (.tmp 23), none, []⟩]
def F97 : AFunc := ⟨(.seq (.region F97.r0) (.seq (.region F97.r1) (.seq (.seq (.region F97.r2) (.block 0 (.loop F97.l1))) (.seq (.region F97.r11) .ret)))),
  [.inr (2, (some 18))]⟩
/-! function 98: armplan/matrix.limit -/
def F98.r0 : List AOper := [
  ⟨(some 1), .box 49 (.tmp 0), none, []⟩,
  ⟨(some 2), .alloc 49 [(.int .i64 0), (.int .i64 0)], none, []⟩]
def F98.r1 : List AOper := [
  ⟨(some 3), .fieldAddr 0 (.tmp 1), none, []⟩,
  ⟨(some 4), .load none (.tmp 3), none, []⟩,
  ⟨(some 5), .minmax true [(.tmp 4), (.const (.int .i64 (-65536)))], none, []⟩,
  ⟨(some 6), .minmax false [(.tmp 5), (.const (.int .i64 65536))], none, []⟩,
  ⟨(some 7), .fieldAddr 1 (.tmp 1), none, []⟩,
  ⟨(some 8), .load none (.tmp 7), none, []⟩,
  ⟨(some 9), .minmax true [(.tmp 8), (.const (.int .i64 (-65536)))], none, []⟩,
  ⟨(some 10), .minmax false [(.tmp 9), (.const (.int .i64 65536))], none, []⟩,
  ⟨(some 11), .build [(.int .i64 0), (.int .i64 0)] [(0, 1, (.tmp 6)), (1, 1, (.tmp 10))], none, []⟩,
  ⟨none, .store 2 (.tmp 2) (.tmp 11), none, []⟩]
def F98 : AFunc := ⟨(.seq (.region F98.r0) (.seq (.region F98.r1) .ret)),
  [.inr (2, (some 2))]⟩
/-! function 99: armplan/interval.Mul -/
def F99.r0 : List AOper := [
  ⟨(some 2), .box 49 (.tmp 0), none, []⟩,
  ⟨(some 3), .box 49 (.tmp 1), none, []⟩,
  ⟨(some 4), .alloc 49 [(.int .i64 0), (.int .i64 0)], none, []⟩]
def F99.r1 : List AOper := [
  ⟨(some 10), .load (some 2) (.tmp 2), none, []⟩,
  ⟨(some 11), .load (some 2) (.tmp 3), none, []⟩,
  ⟨(some 12), .call (.func 71) [(.tmp 10), (.tmp 11)], none, []⟩,
  ⟨(some 13), .un .not (.tmp 12), none, []⟩]
def F99.r2 : List AOper := [
  ⟨(some 14), .build [(.int .i64 0), (.int .i64 0)] [], none, []⟩,
  ⟨none, .store 2 (.tmp 4) (.tmp 14), none, []⟩]
def F99.r3 : List AOper := [
  ⟨(some 15), .fieldAddr 0 (.tmp 2), none, []⟩,
  ⟨(some 16), .load none (.tmp 15), none, []⟩,
  ⟨(some 17), .fieldAddr 0 (.tmp 3), none, []⟩,
  ⟨(some 18), .load none (.tmp 17), none, []⟩,
  ⟨(some 19), .bin .mul .no (.tmp 16) (.tmp 18), none, []⟩,
  ⟨(some 20), .fieldAddr 0 (.tmp 2), none, []⟩,
  ⟨(some 21), .load none (.tmp 20), none, []⟩,
  ⟨(some 22), .fieldAddr 1 (.tmp 3), none, []⟩,
  ⟨(some 23), .load none (.tmp 22), none, []⟩,
  ⟨(some 24), .bin .mul .no (.tmp 21) (.tmp 23), none, []⟩,
  ⟨(some 25), .fieldAddr 1 (.tmp 2), none, []⟩,
  ⟨(some 26), .load none (.tmp 25), none, []⟩,
  ⟨(some 27), .fieldAddr 0 (.tmp 3), none, []⟩,
  ⟨(some 28), .load none (.tmp 27), none, []⟩,
  ⟨(some 29), .bin .mul .no (.tmp 26) (.tmp 28), none, []⟩,
  ⟨(some 30), .fieldAddr 1 (.tmp 2), none, []⟩,
  ⟨(some 31), .load none (.tmp 30), none, []⟩,
  ⟨(some 32), .fieldAddr 1 (.tmp 3), none, []⟩,
  ⟨(some 33), .load none (.tmp 32), none, []⟩,
  ⟨(some 34), .bin .mul .no (.tmp 31) (.tmp 33), none, []⟩,
  ⟨(some 35), .build [(.int .i64 0), (.int .i64 0), (.int .i64 0), (.int .i64 0)] [(0, 1, (.tmp 19)), (1, 1, (.tmp 24)), (2, 1, (.tmp 29)), (3, 1, (.tmp 34))], none, []⟩,
  ⟨(some 5), .alloc 171 [(.int .i64 0), (.int .i64 0), (.int .i64 0), (.int .i64 0)], none, []⟩,
  ⟨none, .store 4 (.tmp 5) (.tmp 35), none, []⟩]
def F99.r4 : List AOper := [
  ⟨(some 36), .idxAddr (some 4) 1 (.tmp 5) (.const (.int .i64 0)), none, []⟩,
  ⟨(some 37), .load none (.tmp 36), none, []⟩,
  ⟨(some 38), .idxAddr (some 4) 1 (.tmp 5) (.const (.int .i64 0)), none, []⟩,
  ⟨(some 39), .load none (.tmp 38), none, []⟩,
  ⟨(some 6), .mv (.tmp 37), none, []⟩,
  ⟨(some 7), .mv (.tmp 39), none, []⟩]
def F99.r5 : List AOper := [
  ⟨(some 40), .load (some 4) (.tmp 5), none, []⟩,
  ⟨(some 41), .mv (.const (.int .i64 0)), none, []⟩]
def F99.r6 : List AOper := [
  ⟨(some 42), .bin .lss .no (.tmp 41) (.const (.int .i64 4)), none, []⟩]
def F99.r7 : List AOper := [
  ⟨(some 43), .idx 4 1 none (.tmp 40) (.tmp 41), none, []⟩,
  ⟨(some 9), .mv (.tmp 43), none, []⟩]
def F99.r8 : List AOper := [
  ⟨(some 44), .mv (.tmp 6), none, []⟩,
  ⟨(some 45), .mv (.tmp 9), none, []⟩,
  ⟨(some 46), .minmax false [(.tmp 44), (.tmp 45)], none, []⟩,
  ⟨(some 47), .mv (.tmp 7), none, []⟩,
  ⟨(some 48), .mv (.tmp 9), none, []⟩,
  ⟨(some 49), .minmax true [(.tmp 47), (.tmp 48)], none, []⟩,
  ⟨(some 6), .mv (.tmp 46), none, []⟩,
  ⟨(some 7), .mv (.tmp 49), none, []⟩]
def F99.r9 : List AOper := [
  ⟨(some 50), .bin .add .no (.tmp 41) (.const (.int .i64 1)), none, []⟩,
  ⟨(some 41), .mv (.tmp 50), none, []⟩]
def F99.l0 : ACode := (.seq (.region F99.r6) (.seq (.cond (.tmp 42) .skip (.exit 0)) (.seq (.block 1 (.seq (.region F99.r7) (.region F99.r8))) (.region F99.r9))))
def F99.r10 : List AOper := [
  ⟨(some 51), .mv (.tmp 6), none, []⟩,
  ⟨(some 52), .mv (.tmp 7), none, []⟩,
  ⟨(some 53), .call (.func 103) [(.tmp 51), (.tmp 52)], none, []⟩,
  ⟨none, .store 2 (.tmp 4) (.tmp 53), none, []⟩]
def F99 : AFunc := ⟨(.seq (.region F99.r0) (.seq (.seq (.region F99.r1) (.cond (.tmp 13) (.seq (.region F99.r2) .ret) .skip)) (.seq (.region F99.r3) (.seq (.dregion F99.r4) (.seq (.seq (.region F99.r5) (.block 0 (.loop F99.l0))) (.seq (.region F99.r10) .ret)))))),
  [.inr (4, (some 2))]⟩
/-! function 100: armplan/matrix.Turn -/
def F100.r0 : List AOper := [
  ⟨(some 3), .box 49 (.tmp 1), none, []⟩,
  ⟨(some 4), .alloc 110 [(.int .i64 0), (.int .i64 0), (.int .i64 0), (.int .i64 0), (.int .i64 0), (.int .i64 0), (.int .i64 0), (.int .i64 0), (.int .i64 0), (.int .i64 0), (.int .i64 0), (.int .i64 0), (.int .i64 0), (.int .i64 0), (.int .i64 0), (.int .i64 0), (.int .i64 0), (.int .i64 0)], none, []⟩]
def F100.r1 : List AOper := [
  ⟨(some 10), .mv (.tmp 0), none, []⟩,
  ⟨(some 11), .bin .lss .no (.tmp 10) (.const (.int .i64 0)), none, []⟩,
  ⟨(some 12), .mv (.tmp 11), none, []⟩,
  ⟨(some 13), .mv (.tmp 0), some ((some 12), false), []⟩,
  ⟨(some 14), .bin .gtr .no (.tmp 13) (.const (.int .i64 2)), some ((some 12), false), []⟩,
  ⟨(some 15), .pick (.tmp 12) (.const (.bool true)) (.tmp 14), none, []⟩,
  ⟨(some 16), .mv (.tmp 15), none, []⟩,
  ⟨(some 17), .load (some 2) (.tmp 3), some ((some 16), false), []⟩,
  ⟨(some 18), .call (.func 68) [(.tmp 17)], some ((some 16), false), []⟩,
  ⟨(some 19), .un .not (.tmp 18), some ((some 16), false), []⟩,
  ⟨(some 20), .pick (.tmp 16) (.const (.bool true)) (.tmp 19), none, []⟩]
def F100.r2 : List AOper := [
  ⟨(some 21), .build [(.int .i64 0), (.int .i64 0), (.int .i64 0), (.int .i64 0), (.int .i64 0), (.int .i64 0), (.int .i64 0), (.int .i64 0), (.int .i64 0), (.int .i64 0), (.int .i64 0), (.int .i64 0), (.int .i64 0), (.int .i64 0), (.int .i64 0), (.int .i64 0), (.int .i64 0), (.int .i64 0)] [], none, []⟩,
  ⟨none, .store 18 (.tmp 4) (.tmp 21), none, []⟩]
def F100.r3 : List AOper := [
  ⟨(some 22), .load (some 2) (.tmp 3), none, []⟩,
  ⟨(some 23), .call (.func 104) [(.tmp 22)], none, []⟩,
  ⟨(some 24), .load (some 2) (.tmp 3), none, [1]⟩,
  ⟨(some 25), .call (.func 105) [(.tmp 24)], none, []⟩,
  ⟨(some 5), .alloc 49 [(.int .i64 0), (.int .i64 0)], none, []⟩,
  ⟨(some 6), .alloc 49 [(.int .i64 0), (.int .i64 0)], none, []⟩,
  ⟨none, .store 2 (.tmp 5) (.tmp 23), none, []⟩,
  ⟨none, .store 2 (.tmp 6) (.tmp 25), none, []⟩]
def F100.r4 : List AOper := [
  ⟨(some 26), .mv (.tmp 0), none, []⟩,
  ⟨(some 27), .bin .add .no (.tmp 26) (.const (.int .i64 1)), none, []⟩,
  ⟨(some 28), .bin .rem .no (.tmp 27) (.const (.int .i64 3)), none, []⟩,
  ⟨(some 29), .mv (.tmp 0), none, []⟩,
  ⟨(some 30), .bin .add .no (.tmp 29) (.const (.int .i64 2)), none, []⟩,
  ⟨(some 31), .bin .rem .no (.tmp 30) (.const (.int .i64 3)), none, []⟩,
  ⟨(some 7), .mv (.tmp 28), none, []⟩,
  ⟨(some 8), .mv (.tmp 31), none, []⟩]
def F100.r5 : List AOper := [
  ⟨(some 9), .alloc 110 [(.int .i64 0), (.int .i64 0), (.int .i64 0), (.int .i64 0), (.int .i64 0), (.int .i64 0), (.int .i64 0), (.int .i64 0), (.int .i64 0), (.int .i64 0), (.int .i64 0), (.int .i64 0), (.int .i64 0), (.int .i64 0), (.int .i64 0), (.int .i64 0), (.int .i64 0), (.int .i64 0)], none, []⟩]
def F100.r6 : List AOper := [
  ⟨(some 32), .mv (.tmp 0), none, []⟩,
  ⟨(some 33), .mv (.tmp 0), none, []⟩,
  ⟨(some 34), .call (.func 102) [], none, []⟩,
  ⟨(some 35), .idxAddr (some 3) 6 (.tmp 9) (.tmp 32), none, []⟩,
  ⟨(some 36), .idxAddr (some 3) 2 (.tmp 35) (.tmp 33), none, []⟩,
  ⟨none, .store 2 (.tmp 36) (.tmp 34), none, []⟩]
def F100.r7 : List AOper := [
  ⟨(some 37), .mv (.tmp 7), none, []⟩,
  ⟨(some 38), .mv (.tmp 7), none, []⟩,
  ⟨(some 39), .mv (.tmp 8), none, []⟩,
  ⟨(some 40), .mv (.tmp 8), none, []⟩,
  ⟨(some 41), .load (some 2) (.tmp 5), none, []⟩,
  ⟨(some 42), .load (some 2) (.tmp 5), none, [8]⟩,
  ⟨(some 43), .idxAddr (some 3) 6 (.tmp 9) (.tmp 37), none, []⟩,
  ⟨(some 44), .idxAddr (some 3) 2 (.tmp 43) (.tmp 38), none, []⟩,
  ⟨none, .store 2 (.tmp 44) (.tmp 41), none, []⟩,
  ⟨(some 45), .idxAddr (some 3) 6 (.tmp 9) (.tmp 39), none, []⟩,
  ⟨(some 46), .idxAddr (some 3) 2 (.tmp 45) (.tmp 40), none, []⟩,
  ⟨none, .store 2 (.tmp 46) (.tmp 42), none, []⟩]
def F100.r8 : List AOper := [
  ⟨(some 47), .mv (.tmp 8), none, []⟩,
  ⟨(some 48), .mv (.tmp 7), none, []⟩,
  ⟨(some 49), .mv (.tmp 7), none, []⟩,
  ⟨(some 50), .mv (.tmp 8), none, []⟩,
  ⟨(some 51), .load (some 2) (.tmp 6), none, [6]⟩,
  ⟨(some 52), .load (some 2) (.tmp 6), none, []⟩,
  ⟨(some 53), .call (.func 106) [(.tmp 52)], none, []⟩,
  ⟨(some 54), .idxAddr (some 3) 6 (.tmp 9) (.tmp 47), none, []⟩,
  ⟨(some 55), .idxAddr (some 3) 2 (.tmp 54) (.tmp 48), none, []⟩,
  ⟨none, .store 2 (.tmp 55) (.tmp 51), none, []⟩,
  ⟨(some 56), .idxAddr (some 3) 6 (.tmp 9) (.tmp 49), none, []⟩,
  ⟨(some 57), .idxAddr (some 3) 2 (.tmp 56) (.tmp 50), none, []⟩,
  ⟨none, .store 2 (.tmp 57) (.tmp 53), none, []⟩]
def F100.r9 : List AOper := [
  ⟨(some 58), .load (some 18) (.tmp 9), none, []⟩,
  ⟨none, .store 18 (.tmp 4) (.tmp 58), none, []⟩]
def F100 : AFunc := ⟨(.seq (.region F100.r0) (.seq (.seq (.region F100.r1) (.cond (.tmp 20) (.seq (.region F100.r2) .ret) .skip)) (.seq (.dregion F100.r3) (.seq (.region F100.r4) (.seq (.region F100.r5) (.seq (.dregion F100.r6) (.seq (.dregion F100.r7) (.seq (.dregion F100.r8) (.seq (.region F100.r9) .ret))))))))),
  [.inr (4, (some 18))]⟩
/-! function 101: armplan/pose.Identity -/
def F101.r0 : List AOper := [
  ⟨(some 0), .alloc 112 [(.int .i64 0), (.int .i64 0), (.int .i64 0), (.int .i64 0), (.int .i64 0), (.int .i64 0), (.int .i64 0), (.int .i64 0), (.int .i64 0), (.int .i64 0), (.int .i64 0), (.int .i64 0), (.int .i64 0), (.int .i64 0), (.int .i64 0), (.int .i64 0), (.int .i64 0), (.int .i64 0), (.int .i64 0), (.int .i64 0), (.int .i64 0), (.int .i64 0), (.int .i64 0), (.int .i64 0)], none, []⟩]
def F101.r1 : List AOper := [
  ⟨(some 1), .call (.func 96) [], none, []⟩,
  ⟨(some 2), .build [(.int .i64 0), (.int .i64 0), (.int .i64 0), (.int .i64 0), (.int .i64 0), (.int .i64 0), (.int .i64 0), (.int .i64 0), (.int .i64 0), (.int .i64 0), (.int .i64 0), (.int .i64 0), (.int .i64 0), (.int .i64 0), (.int .i64 0), (.int .i64 0), (.int .i64 0), (.int .i64 0), (.int .i64 0), (.int .i64 0), (.int .i64 0), (.int .i64 0), (.int .i64 0), (.int .i64 0)] [(0, 18, (.tmp 1))], none, []⟩,
  ⟨none, .store 24 (.tmp 0) (.tmp 2), none, []⟩]
def F101 : AFunc := ⟨(.seq (.region F101.r0) (.seq (.region F101.r1) .ret)),
  [.inr (0, (some 24))]⟩
/-! function 102: armplan/matrix.one -/
def F102.r0 : List AOper := [
  ⟨(some 0), .alloc 49 [(.int .i64 0), (.int .i64 0)], none, []⟩]
def F102.r1 : List AOper := [
  ⟨(some 1), .call (.func 63) [(.const (.int .i64 65536))], none, []⟩,
  ⟨none, .store 2 (.tmp 0) (.tmp 1), none, []⟩]
def F102 : AFunc := ⟨(.seq (.region F102.r0) (.seq (.region F102.r1) .ret)),
  [.inr (0, (some 2))]⟩
/-! function 103: armplan/interval.outward -/
def F103.r0 : List AOper := [
  ⟨(some 4), .alloc 49 [(.int .i64 0), (.int .i64 0)], none, []⟩]
def F103.r1 : List AOper := [
  ⟨(some 5), .mv (.tmp 0), none, []⟩,
  ⟨(some 6), .call (.func 107) [(.tmp 5), (.const (.int .i64 16))], none, []⟩,
  ⟨(some 7), .mv (.tmp 1), none, []⟩,
  ⟨(some 8), .call (.func 108) [(.tmp 7), (.const (.int .i64 16))], none, []⟩,
  ⟨(some 9), .call (.func 79) [(.tmp 6), (.tmp 8)], none, []⟩,
  ⟨none, .store 2 (.tmp 4) (.tmp 9), none, []⟩]
def F103 : AFunc := ⟨(.seq (.region F103.r0) (.seq (.region F103.r1) .ret)),
  [.inr (4, (some 2))]⟩
/-! function 104: armplan/angle.CosOver -/
def F104.r0 : List AOper := [
  ⟨(some 1), .box 49 (.tmp 0), none, []⟩,
  ⟨(some 2), .alloc 49 [(.int .i64 0), (.int .i64 0)], none, []⟩]
def F104.r1 : List AOper := [
  ⟨(some 3), .load (some 2) (.tmp 1), none, []⟩,
  ⟨(some 4), .call (.func 109) [(.tmp 3), (.func 110), (.const (.int .i64 0))], none, []⟩,
  ⟨none, .store 2 (.tmp 2) (.tmp 4), none, []⟩]
def F104 : AFunc := ⟨(.seq (.region F104.r0) (.seq (.region F104.r1) .ret)),
  [.inr (2, (some 2))]⟩
/-! function 105: armplan/angle.SinOver -/
def F105.r0 : List AOper := [
  ⟨(some 1), .box 49 (.tmp 0), none, []⟩,
  ⟨(some 2), .alloc 49 [(.int .i64 0), (.int .i64 0)], none, []⟩]
def F105.r1 : List AOper := [
  ⟨(some 3), .load (some 2) (.tmp 1), none, []⟩,
  ⟨(some 4), .call (.func 109) [(.tmp 3), (.func 111), (.const (.int .i64 16384))], none, []⟩,
  ⟨none, .store 2 (.tmp 2) (.tmp 4), none, []⟩]
def F105 : AFunc := ⟨(.seq (.region F105.r0) (.seq (.region F105.r1) .ret)),
  [.inr (2, (some 2))]⟩
/-! function 106: armplan/interval.Neg -/
def F106.r0 : List AOper := [
  ⟨(some 1), .box 49 (.tmp 0), none, []⟩,
  ⟨(some 2), .alloc 49 [(.int .i64 0), (.int .i64 0)], none, []⟩]
def F106.r1 : List AOper := [
  ⟨(some 3), .load (some 2) (.tmp 1), none, []⟩,
  ⟨(some 4), .call (.func 68) [(.tmp 3)], none, []⟩,
  ⟨(some 5), .un .not (.tmp 4), none, []⟩]
def F106.r2 : List AOper := [
  ⟨(some 6), .build [(.int .i64 0), (.int .i64 0)] [], none, []⟩,
  ⟨none, .store 2 (.tmp 2) (.tmp 6), none, []⟩]
def F106.r3 : List AOper := [
  ⟨(some 7), .fieldAddr 1 (.tmp 1), none, []⟩,
  ⟨(some 8), .load none (.tmp 7), none, []⟩,
  ⟨(some 9), .un .neg (.tmp 8), none, []⟩,
  ⟨(some 10), .fieldAddr 0 (.tmp 1), none, []⟩,
  ⟨(some 11), .load none (.tmp 10), none, []⟩,
  ⟨(some 12), .un .neg (.tmp 11), none, []⟩,
  ⟨(some 13), .build [(.int .i64 0), (.int .i64 0)] [(0, 1, (.tmp 9)), (1, 1, (.tmp 12))], none, []⟩,
  ⟨none, .store 2 (.tmp 2) (.tmp 13), none, []⟩]
def F106 : AFunc := ⟨(.seq (.region F106.r0) (.seq (.seq (.region F106.r1) (.cond (.tmp 5) (.seq (.region F106.r2) .ret) .skip)) (.seq (.region F106.r3) .ret))),
  [.inr (2, (some 2))]⟩
/-! function 107: armplan/fixed.ShiftDown -/
def F107.r0 : List AOper := [
  ⟨(some 4), .mv (.const (.int .i64 0)), none, []⟩]
def F107.r1 : List AOper := [
  ⟨(some 5), .mv (.tmp 1), none, []⟩,
  ⟨(some 6), .bin .lss .no (.tmp 5) (.const (.int .i64 0)), none, []⟩]
def F107.r2 : List AOper := [
  ⟨(some 7), .mv (.tmp 0), none, []⟩,
  ⟨(some 4), .mv (.tmp 7), none, []⟩]
def F107.r3 : List AOper := [
  ⟨(some 8), .mv (.tmp 0), none, []⟩,
  ⟨(some 9), .mv (.tmp 1), none, []⟩,
  ⟨(some 10), .bin .shr .no (.tmp 8) (.tmp 9), none, []⟩,
  ⟨(some 4), .mv (.tmp 10), none, []⟩]
def F107 : AFunc := ⟨(.seq (.region F107.r0) (.seq (.seq (.region F107.r1) (.cond (.tmp 6) (.seq (.region F107.r2) .ret) .skip)) (.seq (.region F107.r3) .ret))),
  [.inl 4]⟩
/-! function 108: armplan/fixed.ShiftUp -/
def F108.r0 : List AOper := [
  ⟨(some 4), .mv (.const (.int .i64 0)), none, []⟩]
def F108.r1 : List AOper := [
  ⟨(some 6), .mv (.tmp 0), none, []⟩,
  ⟨(some 7), .mv (.tmp 1), none, []⟩,
  ⟨(some 8), .call (.func 107) [(.tmp 6), (.tmp 7)], none, []⟩,
  ⟨(some 5), .mv (.tmp 8), none, []⟩]
def F108.r2 : List AOper := [
  ⟨(some 9), .mv (.tmp 1), none, []⟩,
  ⟨(some 10), .bin .geq .no (.tmp 9) (.const (.int .i64 0)), none, []⟩,
  ⟨(some 11), .mv (.tmp 10), none, []⟩,
  ⟨(some 12), .mv (.tmp 5), some ((some 11), true), []⟩,
  ⟨(some 13), .mv (.tmp 1), some ((some 11), true), []⟩,
  ⟨(some 14), .bin .shl .no (.tmp 12) (.tmp 13), some ((some 11), true), []⟩,
  ⟨(some 15), .mv (.tmp 0), some ((some 11), true), []⟩,
  ⟨(some 16), .bin .neq .no (.tmp 14) (.tmp 15), some ((some 11), true), []⟩,
  ⟨(some 17), .pick (.tmp 11) (.tmp 16) (.const (.bool false)), none, []⟩]
def F108.r3 : List AOper := [
  ⟨(some 18), .mv (.tmp 5), none, []⟩,
  ⟨(some 19), .bin .add .no (.tmp 18) (.const (.int .i64 1)), none, []⟩,
  ⟨(some 5), .mv (.tmp 19), none, []⟩]
def F108.r4 : List AOper := [
  ⟨(some 20), .mv (.tmp 5), none, []⟩,
  ⟨(some 4), .mv (.tmp 20), none, []⟩]
def F108 : AFunc := ⟨(.seq (.region F108.r0) (.seq (.region F108.r1) (.seq (.seq (.region F108.r2) (.cond (.tmp 17) (.region F108.r3) .skip)) (.seq (.region F108.r4) .ret)))),
  [.inl 4]⟩
/-! function 109: armplan/angle.over -/
def F109.r0 : List AOper := [
  ⟨(some 3), .box 49 (.tmp 0), none, []⟩,
  ⟨(some 6), .alloc 49 [(.int .i64 0), (.int .i64 0)], none, []⟩]
def F109.r1 : List AOper := [
  ⟨(some 9), .load (some 2) (.tmp 3), none, []⟩,
  ⟨(some 10), .call (.func 68) [(.tmp 9)], none, []⟩,
  ⟨(some 11), .un .not (.tmp 10), none, []⟩,
  ⟨(some 8), .mv (.tmp 11), none, []⟩]
def F109.r2 : List AOper := [
  ⟨(some 12), .build [(.int .i64 0), (.int .i64 0)] [], none, []⟩,
  ⟨none, .store 2 (.tmp 6) (.tmp 12), none, []⟩]
def F109.r3 : List AOper := [
  ⟨(some 14), .load (some 2) (.tmp 3), none, []⟩,
  ⟨(some 15), .call (.func 112) [(.tmp 14)], none, []⟩,
  ⟨(some 16), .bin .geq .no (.tmp 15) (.const (.int .i64 65536)), none, []⟩,
  ⟨(some 13), .mv (.tmp 16), none, []⟩]
def F109.r4 : List AOper := [
  ⟨(some 17), .build [(.int .i64 0), (.int .i64 0)] [(0, 1, (.const (.int .i64 (-65536)))), (1, 1, (.const (.int .i64 65536)))], none, []⟩,
  ⟨none, .store 2 (.tmp 6) (.tmp 17), none, []⟩]
def F109.r5 : List AOper := [
  ⟨(some 18), .mv (.tmp 1), none, []⟩,
  ⟨(some 19), .fieldAddr 0 (.tmp 3), none, []⟩,
  ⟨(some 20), .load none (.tmp 19), none, []⟩,
  ⟨(some 21), .call (.tmp 18) [(.tmp 20)], none, []⟩,
  ⟨(some 22), .mv (.tmp 1), none, []⟩,
  ⟨(some 23), .fieldAddr 1 (.tmp 3), none, []⟩,
  ⟨(some 24), .load none (.tmp 23), none, [3]⟩,
  ⟨(some 25), .call (.tmp 22) [(.tmp 24)], none, []⟩,
  ⟨(some 26), .call (.func 113) [(.tmp 21), (.tmp 25)], none, []⟩,
  ⟨(some 7), .alloc 49 [(.int .i64 0), (.int .i64 0)], none, []⟩,
  ⟨none, .store 2 (.tmp 7) (.tmp 26), none, []⟩]
def F109.r6 : List AOper := [
  ⟨(some 27), .load (some 2) (.tmp 3), none, []⟩,
  ⟨(some 28), .mv (.tmp 2), none, []⟩,
  ⟨(some 29), .call (.func 114) [(.tmp 27), (.tmp 28)], none, []⟩]
def F109.r7 : List AOper := [
  ⟨(some 30), .fieldAddr 1 (.tmp 7), none, []⟩,
  ⟨none, .store 1 (.tmp 30) (.const (.int .i64 65536)), none, []⟩]
def F109.r8 : List AOper := [
  ⟨(some 31), .load (some 2) (.tmp 3), none, []⟩,
  ⟨(some 32), .mv (.tmp 2), none, []⟩,
  ⟨(some 33), .bin .add .no (.tmp 32) (.const (.int .i64 32768)), none, []⟩,
  ⟨(some 34), .call (.func 114) [(.tmp 31), (.tmp 33)], none, []⟩]
def F109.r9 : List AOper := [
  ⟨(some 35), .fieldAddr 0 (.tmp 7), none, []⟩,
  ⟨none, .store 1 (.tmp 35) (.const (.int .i64 (-65536))), none, []⟩]
def F109.r10 : List AOper := [
  ⟨(some 36), .load (some 2) (.tmp 7), none, []⟩,
  ⟨none, .store 2 (.tmp 6) (.tmp 36), none, []⟩]
def F109 : AFunc := ⟨(.seq (.region F109.r0) (.seq (.block 0 (.seq (.region F109.r1) (.cond (.tmp 8) (.seq (.region F109.r2) .ret) (.seq (.region F109.r3) (.cond (.tmp 13) (.seq (.region F109.r4) .ret) .skip))))) (.seq (.dregion F109.r5) (.seq (.seq (.region F109.r6) (.cond (.tmp 29) (.region F109.r7) .skip)) (.seq (.seq (.region F109.r8) (.cond (.tmp 34) (.region F109.r9) .skip)) (.seq (.region F109.r10) .ret)))))),
  [.inr (6, (some 2))]⟩
/-! function 110: armplan/angle.Cos -/
def F110.r0 : List AOper := [
  ⟨(some 2), .alloc 49 [(.int .i64 0), (.int .i64 0)], none, []⟩]
def F110.r1 : List AOper := [
  ⟨(some 3), .mv (.tmp 0), none, []⟩,
  ⟨(some 4), .call (.func 115) [(.tmp 3)], none, []⟩,
  ⟨(some 5), .bin .add .no (.tmp 4) (.const (.int .i64 16384)), none, []⟩,
  ⟨(some 6), .call (.func 111) [(.tmp 5)], none, []⟩,
  ⟨none, .store 2 (.tmp 2) (.tmp 6), none, []⟩]
def F110 : AFunc := ⟨(.seq (.region F110.r0) (.seq (.region F110.r1) .ret)),
  [.inr (2, (some 2))]⟩
/-! function 111: armplan/angle.Sin -/
def F111.r0 : List AOper := [
  ⟨(some 2), .alloc 49 [(.int .i64 0), (.int .i64 0)], none, []⟩]
def F111.r1 : List AOper := [
  ⟨(some 5), .mv (.tmp 0), none, []⟩,
  ⟨(some 6), .call (.func 115) [(.tmp 5)], none, []⟩,
  ⟨(some 3), .mv (.tmp 6), none, []⟩]
def F111.r2 : List AOper := [
  ⟨(some 7), .mv (.tmp 3), none, []⟩,
  ⟨(some 8), .bin .rem .no (.tmp 7) (.const (.int .i64 16384)), none, []⟩,
  ⟨(some 4), .mv (.tmp 8), none, []⟩]
def F111.r3 : List AOper := [
  ⟨(some 9), .mv (.tmp 3), none, []⟩,
  ⟨(some 10), .bin .quo .no (.tmp 9) (.const (.int .i64 16384)), none, []⟩]
def F111.r4 : List AOper := [
  ⟨(some 12), .bin .eql .no (.tmp 10) (.const (.int .i64 0)), none, []⟩,
  ⟨(some 11), .mv (.tmp 12), none, []⟩]
def F111.r5 : List AOper := [
  ⟨(some 13), .mv (.tmp 4), none, []⟩,
  ⟨(some 14), .call (.func 116) [(.tmp 13)], none, []⟩,
  ⟨none, .store 2 (.tmp 2) (.tmp 14), none, []⟩]
def F111.r6 : List AOper := [
  ⟨(some 16), .bin .eql .no (.tmp 10) (.const (.int .i64 1)), none, []⟩,
  ⟨(some 15), .mv (.tmp 16), none, []⟩]
def F111.r7 : List AOper := [
  ⟨(some 17), .mv (.tmp 4), none, []⟩,
  ⟨(some 18), .bin .sub .no (.const (.int .i64 16384)) (.tmp 17), none, []⟩,
  ⟨(some 19), .call (.func 116) [(.tmp 18)], none, []⟩,
  ⟨none, .store 2 (.tmp 2) (.tmp 19), none, []⟩]
def F111.r8 : List AOper := [
  ⟨(some 21), .bin .eql .no (.tmp 10) (.const (.int .i64 2)), none, []⟩,
  ⟨(some 20), .mv (.tmp 21), none, []⟩]
def F111.r9 : List AOper := [
  ⟨(some 22), .mv (.tmp 4), none, []⟩,
  ⟨(some 23), .call (.func 116) [(.tmp 22)], none, []⟩,
  ⟨(some 24), .call (.func 106) [(.tmp 23)], none, []⟩,
  ⟨none, .store 2 (.tmp 2) (.tmp 24), none, []⟩]
def F111.r10 : List AOper := [
  ⟨(some 25), .mv (.tmp 4), none, []⟩,
  ⟨(some 26), .bin .sub .no (.const (.int .i64 16384)) (.tmp 25), none, []⟩,
  ⟨(some 27), .call (.func 116) [(.tmp 26)], none, []⟩,
  ⟨(some 28), .call (.func 106) [(.tmp 27)], none, []⟩,
  ⟨none, .store 2 (.tmp 2) (.tmp 28), none, []⟩]
def F111 : AFunc := ⟨(.seq (.region F111.r0) (.seq (.region F111.r1) (.seq (.region F111.r2) (.seq (.seq (.region F111.r3) (.block 0 (.seq (.region F111.r4) (.cond (.tmp 11) (.seq (.region F111.r5) .ret) (.seq (.region F111.r6) (.cond (.tmp 15) (.seq (.region F111.r7) .ret) (.seq (.region F111.r8) (.cond (.tmp 20) (.seq (.region F111.r9) .ret) .skip)))))))) (.seq (.region F111.r10) .ret))))),
  [.inr (2, (some 2))]⟩
/-! function 112: armplan/interval.Width -/
def F112.r0 : List AOper := [
  ⟨(some 1), .box 49 (.tmp 0), none, []⟩,
  ⟨(some 2), .mv (.const (.int .i64 0)), none, []⟩]
def F112.r1 : List AOper := [
  ⟨(some 3), .load (some 2) (.tmp 1), none, []⟩,
  ⟨(some 4), .call (.func 68) [(.tmp 3)], none, []⟩,
  ⟨(some 5), .un .not (.tmp 4), none, []⟩]
def F112.r2 : List AOper := [
  ⟨(some 2), .mv (.const (.int .i64 0)), none, []⟩]
def F112.r3 : List AOper := [
  ⟨(some 6), .fieldAddr 1 (.tmp 1), none, []⟩,
  ⟨(some 7), .load none (.tmp 6), none, []⟩,
  ⟨(some 8), .fieldAddr 0 (.tmp 1), none, []⟩,
  ⟨(some 9), .load none (.tmp 8), none, []⟩,
  ⟨(some 10), .bin .sub .no (.tmp 7) (.tmp 9), none, []⟩,
  ⟨(some 2), .mv (.tmp 10), none, []⟩]
def F112 : AFunc := ⟨(.seq (.region F112.r0) (.seq (.seq (.region F112.r1) (.cond (.tmp 5) (.seq (.region F112.r2) .ret) .skip)) (.seq (.region F112.r3) .ret))),
  [.inl 2]⟩
/-! function 113: armplan/interval.Hull -/
def F113.r0 : List AOper := [
  ⟨(some 2), .box 49 (.tmp 0), none, []⟩,
  ⟨(some 3), .box 49 (.tmp 1), none, []⟩,
  ⟨(some 4), .alloc 49 [(.int .i64 0), (.int .i64 0)], none, []⟩]
def F113.r1 : List AOper := [
  ⟨(some 5), .load (some 2) (.tmp 2), none, []⟩,
  ⟨(some 6), .load (some 2) (.tmp 3), none, []⟩,
  ⟨(some 7), .call (.func 71) [(.tmp 5), (.tmp 6)], none, []⟩,
  ⟨(some 8), .un .not (.tmp 7), none, []⟩]
def F113.r2 : List AOper := [
  ⟨(some 9), .build [(.int .i64 0), (.int .i64 0)] [], none, []⟩,
  ⟨none, .store 2 (.tmp 4) (.tmp 9), none, []⟩]
def F113.r3 : List AOper := [
  ⟨(some 10), .fieldAddr 0 (.tmp 2), none, []⟩,
  ⟨(some 11), .load none (.tmp 10), none, []⟩,
  ⟨(some 12), .fieldAddr 0 (.tmp 3), none, []⟩,
  ⟨(some 13), .load none (.tmp 12), none, []⟩,
  ⟨(some 14), .minmax false [(.tmp 11), (.tmp 13)], none, []⟩,
  ⟨(some 15), .fieldAddr 1 (.tmp 2), none, []⟩,
  ⟨(some 16), .load none (.tmp 15), none, []⟩,
  ⟨(some 17), .fieldAddr 1 (.tmp 3), none, []⟩,
  ⟨(some 18), .load none (.tmp 17), none, []⟩,
  ⟨(some 19), .minmax true [(.tmp 16), (.tmp 18)], none, []⟩,
  ⟨(some 20), .build [(.int .i64 0), (.int .i64 0)] [(0, 1, (.tmp 14)), (1, 1, (.tmp 19))], none, []⟩,
  ⟨none, .store 2 (.tmp 4) (.tmp 20), none, []⟩]
def F113 : AFunc := ⟨(.seq (.region F113.r0) (.seq (.seq (.region F113.r1) (.cond (.tmp 8) (.seq (.region F113.r2) .ret) .skip)) (.seq (.region F113.r3) .ret))),
  [.inr (4, (some 2))]⟩
/-! function 114: armplan/angle.meets -/
def F114.r0 : List AOper := [
  ⟨(some 2), .box 49 (.tmp 0), none, []⟩,
  ⟨(some 4), .mv (.const (.bool false)), none, []⟩]
def F114.r1 : List AOper := [
  ⟨(some 5), .fieldAddr 0 (.tmp 2), none, []⟩,
  ⟨(some 6), .load none (.tmp 5), none, [6]⟩,
  ⟨(some 7), .mv (.tmp 1), none, []⟩,
  ⟨(some 8), .fieldAddr 0 (.tmp 2), none, []⟩,
  ⟨(some 9), .load none (.tmp 8), none, []⟩,
  ⟨(some 10), .bin .sub .no (.tmp 7) (.tmp 9), none, []⟩,
  ⟨(some 11), .call (.func 115) [(.tmp 10)], none, []⟩,
  ⟨(some 12), .bin .add .no (.tmp 6) (.tmp 11), none, []⟩,
  ⟨(some 13), .fieldAddr 1 (.tmp 2), none, []⟩,
  ⟨(some 14), .load none (.tmp 13), none, [6]⟩,
  ⟨(some 15), .bin .leq .no (.tmp 12) (.tmp 14), none, []⟩,
  ⟨(some 4), .mv (.tmp 15), none, []⟩]
def F114 : AFunc := ⟨(.seq (.region F114.r0) (.seq (.dregion F114.r1) .ret)),
  [.inl 4]⟩
/-! function 115: armplan/angle.mod -/
def F115.r0 : List AOper := [
  ⟨(some 2), .mv (.const (.int .i64 0)), none, []⟩]
def F115.r1 : List AOper := [
  ⟨(some 4), .mv (.tmp 0), none, []⟩,
  ⟨(some 5), .bin .rem .no (.tmp 4) (.const (.int .i64 65536)), none, []⟩,
  ⟨(some 3), .mv (.tmp 5), none, []⟩]
def F115.r2 : List AOper := [
  ⟨(some 6), .mv (.tmp 3), none, []⟩,
  ⟨(some 7), .bin .lss .no (.tmp 6) (.const (.int .i64 0)), none, []⟩]
def F115.r3 : List AOper := [
  ⟨(some 8), .mv (.tmp 3), none, []⟩,
  ⟨(some 9), .bin .add .no (.tmp 8) (.const (.int .i64 65536)), none, []⟩,
  ⟨(some 3), .mv (.tmp 9), none, []⟩]
def F115.r4 : List AOper := [
  ⟨(some 10), .mv (.tmp 3), none, []⟩,
  ⟨(some 2), .mv (.tmp 10), none, []⟩]
def F115 : AFunc := ⟨(.seq (.region F115.r0) (.seq (.region F115.r1) (.seq (.seq (.region F115.r2) (.cond (.tmp 7) (.region F115.r3) .skip)) (.seq (.region F115.r4) .ret)))),
  [.inl 2]⟩
/-! function 116: armplan/angle.rising -/
def F116.r0 : List AOper := [
  ⟨(some 2), .alloc 49 [(.int .i64 0), (.int .i64 0)], none, []⟩]
def F116.r1 : List AOper := [
  ⟨(some 3), .mv (.tmp 0), none, []⟩,
  ⟨(some 4), .bin .leq .no (.tmp 3) (.const (.int .i64 8192)), none, []⟩]
def F116.r2 : List AOper := [
  ⟨(some 5), .mv (.tmp 0), none, []⟩,
  ⟨(some 6), .call (.func 117) [(.tmp 5)], none, []⟩,
  ⟨none, .store 2 (.tmp 2) (.tmp 6), none, []⟩]
def F116.r3 : List AOper := [
  ⟨(some 7), .mv (.tmp 0), none, []⟩,
  ⟨(some 8), .bin .sub .no (.const (.int .i64 16384)) (.tmp 7), none, []⟩,
  ⟨(some 9), .call (.func 118) [(.tmp 8)], none, []⟩,
  ⟨none, .store 2 (.tmp 2) (.tmp 9), none, []⟩]
def F116 : AFunc := ⟨(.seq (.region F116.r0) (.seq (.seq (.region F116.r1) (.cond (.tmp 4) (.seq (.region F116.r2) .ret) .skip)) (.seq (.region F116.r3) .ret))),
  [.inr (2, (some 2))]⟩
/-! function 117: armplan/angle.sine -/
def F117.r0 : List AOper := [
  ⟨(some 2), .alloc 49 [(.int .i64 0), (.int .i64 0)], none, []⟩]
def F117.r1 : List AOper := [
  ⟨(some 8), .mv (.tmp 0), none, []⟩,
  ⟨(some 9), .call (.func 119) [(.tmp 8)], none, []⟩,
  ⟨(some 3), .alloc 177 [(.int .i64 0), (.int .i64 0), (.int .i64 0), (.int .i64 0), (.int .i64 0), (.int .i64 0), (.int .i64 0), (.int .i64 0), (.int .i64 0), (.int .i64 0), (.int .i64 0), (.int .i64 0), (.int .i64 0), (.int .i64 0), (.int .i64 0), (.int .i64 0), (.int .i64 0), (.int .i64 0), (.int .i64 0), (.int .i64 0), (.int .i64 0), (.int .i64 0)], none, []⟩,
  ⟨none, .store 22 (.tmp 3) (.tmp 9), none, []⟩]
def F117.r2 : List AOper := [
  ⟨(some 10), .fieldAddr 0 (.tmp 3), none, []⟩,
  ⟨(some 11), .load (some 11) (.tmp 10), none, []⟩,
  ⟨(some 12), .fieldAddr 11 (.tmp 3), none, []⟩,
  ⟨(some 13), .load (some 11) (.tmp 12), none, [6]⟩,
  ⟨(some 4), .alloc 175 [(.int .i64 0), (.int .i64 0), (.int .i64 0), (.int .i64 0), (.int .i64 0), (.int .i64 0), (.int .i64 0), (.int .i64 0), (.int .i64 0), (.int .i64 0), (.int .i64 0)], none, []⟩,
  ⟨(some 5), .alloc 175 [(.int .i64 0), (.int .i64 0), (.int .i64 0), (.int .i64 0), (.int .i64 0), (.int .i64 0), (.int .i64 0), (.int .i64 0), (.int .i64 0), (.int .i64 0), (.int .i64 0)], none, []⟩,
  ⟨none, .store 11 (.tmp 4) (.tmp 11), none, []⟩,
  ⟨none, .store 11 (.tmp 5) (.tmp 13), none, []⟩]
def F117.r3 : List AOper := [
  ⟨(some 14), .idxAddr (some 11) 1 (.tmp 4) (.const (.int .i64 1)), none, []⟩,
  ⟨(some 15), .load none (.tmp 14), none, [4, 11]⟩,
  ⟨(some 16), .idxAddr (some 11) 1 (.tmp 5) (.const (.int .i64 3)), none, []⟩,
  ⟨(some 17), .load none (.tmp 16), none, []⟩,
  ⟨(some 18), .call (.func 121) [(.tmp 17), (.const (.int .i64 6))], none, []⟩,
  ⟨(some 19), .un .neg (.tmp 18), none, []⟩,
  ⟨(some 20), .idxAddr (some 11) 1 (.tmp 4) (.const (.int .i64 5)), none, []⟩,
  ⟨(some 21), .load none (.tmp 20), none, [4, 11]⟩,
  ⟨(some 22), .bin .quo .no (.tmp 21) (.const (.int .i64 120)), none, []⟩,
  ⟨(some 23), .idxAddr (some 11) 1 (.tmp 5) (.const (.int .i64 7)), none, []⟩,
  ⟨(some 24), .load none (.tmp 23), none, [4]⟩,
  ⟨(some 25), .call (.func 121) [(.tmp 24), (.const (.int .i64 5040))], none, []⟩,
  ⟨(some 26), .un .neg (.tmp 25), none, []⟩,
  ⟨(some 27), .buildSlice 2 [(.int .i64 0), (.int .i64 0), (.int .i64 0), (.int .i64 0)] 4 [(0, 1, (.tmp 15)), (1, 1, (.tmp 19)), (2, 1, (.tmp 22)), (3, 1, (.tmp 26))], none, []⟩,
  ⟨(some 28), .call (.func 120) [(.tmp 27)], none, []⟩,
  ⟨(some 6), .mv (.tmp 28), none, []⟩]
def F117.r4 : List AOper := [
  ⟨(some 29), .idxAddr (some 11) 1 (.tmp 5) (.const (.int .i64 1)), none, []⟩,
  ⟨(some 30), .load none (.tmp 29), none, [8, 15]⟩,
  ⟨(some 31), .idxAddr (some 11) 1 (.tmp 4) (.const (.int .i64 3)), none, []⟩,
  ⟨(some 32), .load none (.tmp 31), none, [8, 15]⟩,
  ⟨(some 33), .bin .quo .no (.tmp 32) (.const (.int .i64 6)), none, []⟩,
  ⟨(some 34), .un .neg (.tmp 33), none, []⟩,
  ⟨(some 35), .idxAddr (some 11) 1 (.tmp 5) (.const (.int .i64 5)), none, []⟩,
  ⟨(some 36), .load none (.tmp 35), none, []⟩,
  ⟨(some 37), .call (.func 121) [(.tmp 36), (.const (.int .i64 120))], none, []⟩,
  ⟨(some 38), .idxAddr (some 11) 1 (.tmp 4) (.const (.int .i64 7)), none, []⟩,
  ⟨(some 39), .load none (.tmp 38), none, [8, 15]⟩,
  ⟨(some 40), .bin .quo .no (.tmp 39) (.const (.int .i64 5040)), none, []⟩,
  ⟨(some 41), .un .neg (.tmp 40), none, []⟩,
  ⟨(some 42), .idxAddr (some 11) 1 (.tmp 5) (.const (.int .i64 9)), none, []⟩,
  ⟨(some 43), .load none (.tmp 42), none, [8]⟩,
  ⟨(some 44), .call (.func 121) [(.tmp 43), (.const (.int .i64 362880))], none, []⟩,
  ⟨(some 45), .buildSlice 2 [(.int .i64 0), (.int .i64 0), (.int .i64 0), (.int .i64 0), (.int .i64 0)] 5 [(0, 1, (.tmp 30)), (1, 1, (.tmp 34)), (2, 1, (.tmp 37)), (3, 1, (.tmp 41)), (4, 1, (.tmp 44))], none, []⟩,
  ⟨(some 46), .call (.func 120) [(.tmp 45)], none, []⟩,
  ⟨(some 7), .mv (.tmp 46), none, []⟩]
def F117.r5 : List AOper := [
  ⟨(some 47), .mv (.tmp 6), none, []⟩,
  ⟨(some 48), .mv (.tmp 7), none, []⟩,
  ⟨(some 49), .call (.func 122) [(.tmp 47), (.tmp 48)], none, []⟩,
  ⟨none, .store 2 (.tmp 2) (.tmp 49), none, []⟩]
def F117 : AFunc := ⟨(.seq (.region F117.r0) (.seq (.region F117.r1) (.seq (.dregion F117.r2) (.seq (.dregion F117.r3) (.seq (.dregion F117.r4) (.seq (.region F117.r5) .ret)))))),
  [.inr (2, (some 2))]⟩
/-! function 118: armplan/angle.cosine -/
def F118.r0 : List AOper := [
  ⟨(some 2), .alloc 49 [(.int .i64 0), (.int .i64 0)], none, []⟩]
def F118.r1 : List AOper := [
  ⟨(some 8), .mv (.tmp 0), none, []⟩,
  ⟨(some 9), .call (.func 119) [(.tmp 8)], none, []⟩,
  ⟨(some 3), .alloc 177 [(.int .i64 0), (.int .i64 0), (.int .i64 0), (.int .i64 0), (.int .i64 0), (.int .i64 0), (.int .i64 0), (.int .i64 0), (.int .i64 0), (.int .i64 0), (.int .i64 0), (.int .i64 0), (.int .i64 0), (.int .i64 0), (.int .i64 0), (.int .i64 0), (.int .i64 0), (.int .i64 0), (.int .i64 0), (.int .i64 0), (.int .i64 0), (.int .i64 0)], none, []⟩,
  ⟨none, .store 22 (.tmp 3) (.tmp 9), none, []⟩]
def F118.r2 : List AOper := [
  ⟨(some 10), .fieldAddr 0 (.tmp 3), none, []⟩,
  ⟨(some 11), .load (some 11) (.tmp 10), none, []⟩,
  ⟨(some 12), .fieldAddr 11 (.tmp 3), none, []⟩,
  ⟨(some 13), .load (some 11) (.tmp 12), none, [6]⟩,
  ⟨(some 4), .alloc 175 [(.int .i64 0), (.int .i64 0), (.int .i64 0), (.int .i64 0), (.int .i64 0), (.int .i64 0), (.int .i64 0), (.int .i64 0), (.int .i64 0), (.int .i64 0), (.int .i64 0)], none, []⟩,
  ⟨(some 5), .alloc 175 [(.int .i64 0), (.int .i64 0), (.int .i64 0), (.int .i64 0), (.int .i64 0), (.int .i64 0), (.int .i64 0), (.int .i64 0), (.int .i64 0), (.int .i64 0), (.int .i64 0)], none, []⟩,
  ⟨none, .store 11 (.tmp 4) (.tmp 11), none, []⟩,
  ⟨none, .store 11 (.tmp 5) (.tmp 13), none, []⟩]
def F118.r3 : List AOper := [
  ⟨(some 14), .idxAddr (some 11) 1 (.tmp 5) (.const (.int .i64 2)), none, []⟩,
  ⟨(some 15), .load none (.tmp 14), none, []⟩,
  ⟨(some 16), .call (.func 121) [(.tmp 15), (.const (.int .i64 2))], none, []⟩,
  ⟨(some 17), .un .neg (.tmp 16), none, []⟩,
  ⟨(some 18), .idxAddr (some 11) 1 (.tmp 4) (.const (.int .i64 4)), none, []⟩,
  ⟨(some 19), .load none (.tmp 18), none, [2, 9, 16]⟩,
  ⟨(some 20), .bin .quo .no (.tmp 19) (.const (.int .i64 24)), none, []⟩,
  ⟨(some 21), .idxAddr (some 11) 1 (.tmp 5) (.const (.int .i64 6)), none, []⟩,
  ⟨(some 22), .load none (.tmp 21), none, [2]⟩,
  ⟨(some 23), .call (.func 121) [(.tmp 22), (.const (.int .i64 720))], none, []⟩,
  ⟨(some 24), .un .neg (.tmp 23), none, []⟩,
  ⟨(some 25), .idxAddr (some 11) 1 (.tmp 4) (.const (.int .i64 8)), none, []⟩,
  ⟨(some 26), .load none (.tmp 25), none, [2, 9, 16]⟩,
  ⟨(some 27), .bin .quo .no (.tmp 26) (.const (.int .i64 40320)), none, []⟩,
  ⟨(some 28), .idxAddr (some 11) 1 (.tmp 5) (.const (.int .i64 10)), none, []⟩,
  ⟨(some 29), .load none (.tmp 28), none, [2, 9]⟩,
  ⟨(some 30), .call (.func 121) [(.tmp 29), (.const (.int .i64 3628800))], none, []⟩,
  ⟨(some 31), .un .neg (.tmp 30), none, []⟩,
  ⟨(some 32), .buildSlice 2 [(.int .i64 0), (.int .i64 0), (.int .i64 0), (.int .i64 0), (.int .i64 0), (.int .i64 0)] 6 [(0, 1, (.const (.int .i64 1073741824))), (1, 1, (.tmp 17)), (2, 1, (.tmp 20)), (3, 1, (.tmp 24)), (4, 1, (.tmp 27)), (5, 1, (.tmp 31))], none, []⟩,
  ⟨(some 33), .call (.func 120) [(.tmp 32)], none, []⟩,
  ⟨(some 6), .mv (.tmp 33), none, []⟩]
def F118.r4 : List AOper := [
  ⟨(some 34), .idxAddr (some 11) 1 (.tmp 4) (.const (.int .i64 2)), none, []⟩,
  ⟨(some 35), .load none (.tmp 34), none, [6, 13]⟩,
  ⟨(some 36), .bin .quo .no (.tmp 35) (.const (.int .i64 2)), none, []⟩,
  ⟨(some 37), .un .neg (.tmp 36), none, []⟩,
  ⟨(some 38), .idxAddr (some 11) 1 (.tmp 5) (.const (.int .i64 4)), none, []⟩,
  ⟨(some 39), .load none (.tmp 38), none, []⟩,
  ⟨(some 40), .call (.func 121) [(.tmp 39), (.const (.int .i64 24))], none, []⟩,
  ⟨(some 41), .idxAddr (some 11) 1 (.tmp 4) (.const (.int .i64 6)), none, []⟩,
  ⟨(some 42), .load none (.tmp 41), none, [6, 13]⟩,
  ⟨(some 43), .bin .quo .no (.tmp 42) (.const (.int .i64 720)), none, []⟩,
  ⟨(some 44), .un .neg (.tmp 43), none, []⟩,
  ⟨(some 45), .idxAddr (some 11) 1 (.tmp 5) (.const (.int .i64 8)), none, []⟩,
  ⟨(some 46), .load none (.tmp 45), none, [6]⟩,
  ⟨(some 47), .call (.func 121) [(.tmp 46), (.const (.int .i64 40320))], none, []⟩,
  ⟨(some 48), .buildSlice 2 [(.int .i64 0), (.int .i64 0), (.int .i64 0), (.int .i64 0), (.int .i64 0)] 5 [(0, 1, (.const (.int .i64 1073741824))), (1, 1, (.tmp 37)), (2, 1, (.tmp 40)), (3, 1, (.tmp 44)), (4, 1, (.tmp 47))], none, []⟩,
  ⟨(some 49), .call (.func 120) [(.tmp 48)], none, []⟩,
  ⟨(some 7), .mv (.tmp 49), none, []⟩]
def F118.r5 : List AOper := [
  ⟨(some 50), .mv (.tmp 6), none, []⟩,
  ⟨(some 51), .mv (.tmp 7), none, []⟩,
  ⟨(some 52), .call (.func 122) [(.tmp 50), (.tmp 51)], none, []⟩,
  ⟨none, .store 2 (.tmp 2) (.tmp 52), none, []⟩]
def F118 : AFunc := ⟨(.seq (.region F118.r0) (.seq (.region F118.r1) (.seq (.dregion F118.r2) (.seq (.dregion F118.r3) (.seq (.dregion F118.r4) (.seq (.region F118.r5) .ret)))))),
  [.inr (2, (some 2))]⟩
/-! function 119: armplan/angle.powersOf -/
def F119.r0 : List AOper := [
  ⟨(some 2), .alloc 177 [(.int .i64 0), (.int .i64 0), (.int .i64 0), (.int .i64 0), (.int .i64 0), (.int .i64 0), (.int .i64 0), (.int .i64 0), (.int .i64 0), (.int .i64 0), (.int .i64 0), (.int .i64 0), (.int .i64 0), (.int .i64 0), (.int .i64 0), (.int .i64 0), (.int .i64 0), (.int .i64 0), (.int .i64 0), (.int .i64 0), (.int .i64 0), (.int .i64 0)], none, []⟩]
def F119.r1 : List AOper := [
  ⟨(some 3), .alloc 177 [(.int .i64 0), (.int .i64 0), (.int .i64 0), (.int .i64 0), (.int .i64 0), (.int .i64 0), (.int .i64 0), (.int .i64 0), (.int .i64 0), (.int .i64 0), (.int .i64 0), (.int .i64 0), (.int .i64 0), (.int .i64 0), (.int .i64 0), (.int .i64 0), (.int .i64 0), (.int .i64 0), (.int .i64 0), (.int .i64 0), (.int .i64 0), (.int .i64 0)], none, []⟩]
def F119.r2 : List AOper := [
  ⟨(some 5), .mv (.tmp 0), none, []⟩,
  ⟨(some 6), .bin .mul .no (.tmp 5) (.const (.int .i64 6746518852)), none, []⟩,
  ⟨(some 7), .bin .quo .no (.tmp 6) (.const (.int .i64 65536)), none, []⟩,
  ⟨(some 8), .mv (.tmp 0), none, []⟩,
  ⟨(some 9), .bin .mul .no (.tmp 8) (.const (.int .i64 6746518853)), none, []⟩,
  ⟨(some 10), .call (.func 121) [(.tmp 9), (.const (.int .i64 65536))], none, []⟩,
  ⟨(some 11), .fieldAddr 0 (.tmp 3), none, []⟩,
  ⟨(some 12), .idxAddr (some 11) 1 (.tmp 11) (.const (.int .i64 1)), none, []⟩,
  ⟨none, .store 1 (.tmp 12) (.tmp 7), none, []⟩,
  ⟨(some 13), .fieldAddr 11 (.tmp 3), none, []⟩,
  ⟨(some 14), .idxAddr (some 11) 1 (.tmp 13) (.const (.int .i64 1)), none, []⟩,
  ⟨none, .store 1 (.tmp 14) (.tmp 10), none, []⟩]
def F119.r3 : List AOper := [
  ⟨(some 4), .mv (.const (.int .i64 2)), none, []⟩]
def F119.r4 : List AOper := [
  ⟨(some 15), .mv (.tmp 4), none, []⟩,
  ⟨(some 16), .bin .leq .no (.tmp 15) (.const (.int .i64 10)), none, []⟩]
def F119.r5 : List AOper := [
  ⟨(some 19), .mv (.tmp 4), none, []⟩,
  ⟨(some 20), .mv (.tmp 4), none, []⟩,
  ⟨(some 21), .mv (.tmp 4), none, []⟩,
  ⟨(some 22), .bin .sub .no (.tmp 21) (.const (.int .i64 1)), none, []⟩,
  ⟨(some 23), .fieldAddr 0 (.tmp 3), none, []⟩,
  ⟨(some 24), .idxAddr (some 11) 1 (.tmp 23) (.tmp 22), none, []⟩,
  ⟨(some 25), .load none (.tmp 24), none, [21]⟩,
  ⟨(some 26), .fieldAddr 0 (.tmp 3), none, []⟩,
  ⟨(some 27), .idxAddr (some 11) 1 (.tmp 26) (.const (.int .i64 1)), none, []⟩,
  ⟨(some 28), .load none (.tmp 27), none, [21]⟩,
  ⟨(some 29), .bin .mul .no (.tmp 25) (.tmp 28), none, []⟩,
  ⟨(some 30), .bin .quo .no (.tmp 29) (.const (.int .i64 1073741824)), none, []⟩,
  ⟨(some 31), .mv (.tmp 4), none, []⟩,
  ⟨(some 32), .bin .sub .no (.tmp 31) (.const (.int .i64 1)), none, []⟩,
  ⟨(some 33), .fieldAddr 11 (.tmp 3), none, []⟩,
  ⟨(some 34), .idxAddr (some 11) 1 (.tmp 33) (.tmp 32), none, []⟩,
  ⟨(some 35), .load none (.tmp 34), none, []⟩,
  ⟨(some 36), .fieldAddr 11 (.tmp 3), none, []⟩,
  ⟨(some 37), .idxAddr (some 11) 1 (.tmp 36) (.const (.int .i64 1)), none, []⟩,
  ⟨(some 38), .load none (.tmp 37), none, []⟩,
  ⟨(some 39), .bin .mul .no (.tmp 35) (.tmp 38), none, []⟩,
  ⟨(some 40), .call (.func 121) [(.tmp 39), (.const (.int .i64 1073741824))], none, []⟩,
  ⟨(some 41), .fieldAddr 0 (.tmp 3), none, []⟩,
  ⟨(some 42), .idxAddr (some 11) 1 (.tmp 41) (.tmp 19), none, []⟩,
  ⟨none, .store 1 (.tmp 42) (.tmp 30), none, []⟩,
  ⟨(some 43), .fieldAddr 11 (.tmp 3), none, []⟩,
  ⟨(some 44), .idxAddr (some 11) 1 (.tmp 43) (.tmp 20), none, []⟩,
  ⟨none, .store 1 (.tmp 44) (.tmp 40), none, []⟩]
def F119.r6 : List AOper := [
  ⟨(some 17), .mv (.tmp 4), none, []⟩,
  ⟨(some 18), .bin .add .no (.tmp 17) (.const (.int .i64 1)), none, []⟩,
  ⟨(some 4), .mv (.tmp 18), none, []⟩]
def F119.l0 : ACode := (.seq (.seq (.region F119.r4) (.cond (.tmp 16) .skip (.exit 0))) (.seq (.block 1 (.dregion F119.r5)) (.region F119.r6)))
def F119.r7 : List AOper := [
  ⟨(some 45), .load (some 22) (.tmp 3), none, []⟩,
  ⟨none, .store 22 (.tmp 2) (.tmp 45), none, []⟩]
def F119 : AFunc := ⟨(.seq (.region F119.r0) (.seq (.region F119.r1) (.seq (.region F119.r2) (.seq (.seq (.region F119.r3) (.block 0 (.loop F119.l0))) (.seq (.region F119.r7) .ret))))),
  [.inr (2, (some 22))]⟩
/-! function 120: armplan/angle.total -/
def F120.r0 : List AOper := [
  ⟨(some 2), .mv (.const (.int .i64 0)), none, []⟩]
def F120.r1 : List AOper := [
  ⟨(some 3), .mv (.const (.int .i64 0)), none, []⟩]
def F120.r2 : List AOper := [
  ⟨(some 6), .mv (.tmp 0), none, []⟩,
  ⟨(some 7), .lenO false (.tmp 6), none, []⟩,
  ⟨(some 8), .mv (.const (.int .i64 0)), none, []⟩]
def F120.r3 : List AOper := [
  ⟨(some 9), .bin .lss .no (.tmp 8) (.tmp 7), none, []⟩]
def F120.r4 : List AOper := [
  ⟨(some 10), .idxAddr none 1 (.tmp 6) (.tmp 8), none, []⟩,
  ⟨(some 11), .load none (.tmp 10), none, []⟩,
  ⟨(some 5), .mv (.tmp 11), none, []⟩]
def F120.r5 : List AOper := [
  ⟨(some 12), .mv (.tmp 3), none, []⟩,
  ⟨(some 13), .mv (.tmp 5), none, []⟩,
  ⟨(some 14), .bin .add .no (.tmp 12) (.tmp 13), none, []⟩,
  ⟨(some 3), .mv (.tmp 14), none, []⟩]
def F120.r6 : List AOper := [
  ⟨(some 15), .bin .add .no (.tmp 8) (.const (.int .i64 1)), none, []⟩,
  ⟨(some 8), .mv (.tmp 15), none, []⟩]
def F120.l0 : ACode := (.seq (.region F120.r3) (.seq (.cond (.tmp 9) .skip (.exit 0)) (.seq (.block 1 (.seq (.region F120.r4) (.region F120.r5))) (.region F120.r6))))
def F120.r7 : List AOper := [
  ⟨(some 16), .mv (.tmp 3), none, []⟩,
  ⟨(some 2), .mv (.tmp 16), none, []⟩]
def F120 : AFunc := ⟨(.seq (.region F120.r0) (.seq (.region F120.r1) (.seq (.seq (.region F120.r2) (.block 0 (.loop F120.l0))) (.seq (.region F120.r7) .ret)))),
  [.inl 2]⟩
/-! function 121: armplan/angle.up -/
def F121.r0 : List AOper := [
  ⟨(some 4), .mv (.const (.int .i64 0)), none, []⟩]
def F121.r1 : List AOper := [
  ⟨(some 5), .mv (.tmp 0), none, []⟩,
  ⟨(some 6), .mv (.tmp 1), none, []⟩,
  ⟨(some 7), .bin .add .no (.tmp 5) (.tmp 6), none, []⟩,
  ⟨(some 8), .bin .sub .no (.tmp 7) (.const (.int .i64 1)), none, []⟩,
  ⟨(some 9), .mv (.tmp 1), none, []⟩,
  ⟨(some 10), .bin .quo .no (.tmp 8) (.tmp 9), none, []⟩,
  ⟨(some 4), .mv (.tmp 10), none, []⟩]
def F121 : AFunc := ⟨(.seq (.region F121.r0) (.seq (.region F121.r1) .ret)),
  [.inl 4]⟩
/-! function 122: armplan/angle.enclosure -/
def F122.r0 : List AOper := [
  ⟨(some 4), .alloc 49 [(.int .i64 0), (.int .i64 0)], none, []⟩]
def F122.r1 : List AOper := [
  ⟨(some 5), .mv (.tmp 0), none, []⟩,
  ⟨(some 6), .call (.func 107) [(.tmp 5), (.const (.int .i64 14))], none, []⟩,
  ⟨(some 7), .minmax true [(.const (.int .i64 0)), (.tmp 6)], none, []⟩,
  ⟨(some 8), .mv (.tmp 1), none, []⟩,
  ⟨(some 9), .call (.func 108) [(.tmp 8), (.const (.int .i64 14))], none, []⟩,
  ⟨(some 10), .minmax false [(.const (.int .i64 65536)), (.tmp 9)], none, []⟩,
  ⟨(some 11), .build [(.int .i64 0), (.int .i64 0)] [(0, 1, (.tmp 7)), (1, 1, (.tmp 10))], none, []⟩,
  ⟨none, .store 2 (.tmp 4) (.tmp 11), none, []⟩]
def F122 : AFunc := ⟨(.seq (.region F122.r0) (.seq (.region F122.r1) .ret)),
  [.inr (4, (some 2))]⟩
def A : AProg := fun f => (bif Nat.blt f 62 then (bif Nat.blt f 32 then (bif Nat.blt f 17 then (bif Nat.blt f 9 then (bif Nat.blt f 5 then (bif Nat.blt f 3 then (bif Nat.beq f 2 then some F2 else none) else (bif Nat.blt f 4 then (bif Nat.beq f 3 then some F3 else none) else (bif Nat.beq f 4 then some F4 else none))) else (bif Nat.blt f 7 then (bif Nat.blt f 6 then (bif Nat.beq f 5 then some F5 else none) else (bif Nat.beq f 6 then some F6 else none)) else (bif Nat.blt f 8 then (bif Nat.beq f 7 then some F7 else none) else (bif Nat.beq f 8 then some F8 else none)))) else (bif Nat.blt f 13 then (bif Nat.blt f 11 then (bif Nat.blt f 10 then (bif Nat.beq f 9 then some F9 else none) else (bif Nat.beq f 10 then some F10 else none)) else (bif Nat.blt f 12 then (bif Nat.beq f 11 then some F11 else none) else (bif Nat.beq f 12 then some F12 else none))) else (bif Nat.blt f 15 then (bif Nat.blt f 14 then (bif Nat.beq f 13 then some F13 else none) else (bif Nat.beq f 14 then some F14 else none)) else (bif Nat.blt f 16 then (bif Nat.beq f 15 then some F15 else none) else (bif Nat.beq f 16 then some F16 else none))))) else (bif Nat.blt f 24 then (bif Nat.blt f 20 then (bif Nat.blt f 18 then (bif Nat.beq f 17 then some F17 else none) else (bif Nat.blt f 19 then (bif Nat.beq f 18 then some F18 else none) else (bif Nat.beq f 19 then some F19 else none))) else (bif Nat.blt f 22 then (bif Nat.blt f 21 then (bif Nat.beq f 20 then some F20 else none) else (bif Nat.beq f 21 then some F21 else none)) else (bif Nat.blt f 23 then (bif Nat.beq f 22 then some F22 else none) else (bif Nat.beq f 23 then some F23 else none)))) else (bif Nat.blt f 28 then (bif Nat.blt f 26 then (bif Nat.blt f 25 then (bif Nat.beq f 24 then some F24 else none) else (bif Nat.beq f 25 then some F25 else none)) else (bif Nat.blt f 27 then (bif Nat.beq f 26 then some F26 else none) else (bif Nat.beq f 27 then some F27 else none))) else (bif Nat.blt f 30 then (bif Nat.blt f 29 then (bif Nat.beq f 28 then some F28 else none) else (bif Nat.beq f 29 then some F29 else none)) else (bif Nat.blt f 31 then (bif Nat.beq f 30 then some F30 else none) else (bif Nat.beq f 31 then some F31 else none)))))) else (bif Nat.blt f 47 then (bif Nat.blt f 39 then (bif Nat.blt f 35 then (bif Nat.blt f 33 then (bif Nat.beq f 32 then some F32 else none) else (bif Nat.blt f 34 then (bif Nat.beq f 33 then some F33 else none) else (bif Nat.beq f 34 then some F34 else none))) else (bif Nat.blt f 37 then (bif Nat.blt f 36 then (bif Nat.beq f 35 then some F35 else none) else (bif Nat.beq f 36 then some F36 else none)) else (bif Nat.blt f 38 then (bif Nat.beq f 37 then some F37 else none) else (bif Nat.beq f 38 then some F38 else none)))) else (bif Nat.blt f 43 then (bif Nat.blt f 41 then (bif Nat.blt f 40 then (bif Nat.beq f 39 then some F39 else none) else (bif Nat.beq f 40 then some F40 else none)) else (bif Nat.blt f 42 then (bif Nat.beq f 41 then some F41 else none) else (bif Nat.beq f 42 then some F42 else none))) else (bif Nat.blt f 45 then (bif Nat.blt f 44 then (bif Nat.beq f 43 then some F43 else none) else (bif Nat.beq f 44 then some F44 else none)) else (bif Nat.blt f 46 then (bif Nat.beq f 45 then some F45 else none) else (bif Nat.beq f 46 then some F46 else none))))) else (bif Nat.blt f 54 then (bif Nat.blt f 50 then (bif Nat.blt f 48 then (bif Nat.beq f 47 then some F47 else none) else (bif Nat.blt f 49 then (bif Nat.beq f 48 then some F48 else none) else (bif Nat.beq f 49 then some F49 else none))) else (bif Nat.blt f 52 then (bif Nat.blt f 51 then (bif Nat.beq f 50 then some F50 else none) else (bif Nat.beq f 51 then some F51 else none)) else (bif Nat.blt f 53 then (bif Nat.beq f 52 then some F52 else none) else (bif Nat.beq f 53 then some F53 else none)))) else (bif Nat.blt f 58 then (bif Nat.blt f 56 then (bif Nat.blt f 55 then (bif Nat.beq f 54 then some F54 else none) else (bif Nat.beq f 55 then some F55 else none)) else (bif Nat.blt f 57 then (bif Nat.beq f 56 then some F56 else none) else (bif Nat.beq f 57 then some F57 else none))) else (bif Nat.blt f 60 then (bif Nat.blt f 59 then (bif Nat.beq f 58 then some F58 else none) else (bif Nat.beq f 59 then some F59 else none)) else (bif Nat.blt f 61 then (bif Nat.beq f 60 then some F60 else none) else (bif Nat.beq f 61 then some F61 else none))))))) else (bif Nat.blt f 92 then (bif Nat.blt f 77 then (bif Nat.blt f 69 then (bif Nat.blt f 65 then (bif Nat.blt f 63 then (bif Nat.beq f 62 then some F62 else none) else (bif Nat.blt f 64 then (bif Nat.beq f 63 then some F63 else none) else (bif Nat.beq f 64 then some F64 else none))) else (bif Nat.blt f 67 then (bif Nat.blt f 66 then (bif Nat.beq f 65 then some F65 else none) else (bif Nat.beq f 66 then some F66 else none)) else (bif Nat.blt f 68 then (bif Nat.beq f 67 then some F67 else none) else (bif Nat.beq f 68 then some F68 else none)))) else (bif Nat.blt f 73 then (bif Nat.blt f 71 then (bif Nat.blt f 70 then (bif Nat.beq f 69 then some F69 else none) else (bif Nat.beq f 70 then some F70 else none)) else (bif Nat.blt f 72 then (bif Nat.beq f 71 then some F71 else none) else (bif Nat.beq f 72 then some F72 else none))) else (bif Nat.blt f 75 then (bif Nat.blt f 74 then (bif Nat.beq f 73 then some F73 else none) else (bif Nat.beq f 74 then some F74 else none)) else (bif Nat.blt f 76 then (bif Nat.beq f 75 then some F75 else none) else (bif Nat.beq f 76 then some F76 else none))))) else (bif Nat.blt f 84 then (bif Nat.blt f 80 then (bif Nat.blt f 78 then (bif Nat.beq f 77 then some F77 else none) else (bif Nat.blt f 79 then (bif Nat.beq f 78 then some F78 else none) else (bif Nat.beq f 79 then some F79 else none))) else (bif Nat.blt f 82 then (bif Nat.blt f 81 then (bif Nat.beq f 80 then some F80 else none) else (bif Nat.beq f 81 then some F81 else none)) else (bif Nat.blt f 83 then (bif Nat.beq f 82 then some F82 else none) else (bif Nat.beq f 83 then some F83 else none)))) else (bif Nat.blt f 88 then (bif Nat.blt f 86 then (bif Nat.blt f 85 then (bif Nat.beq f 84 then some F84 else none) else (bif Nat.beq f 85 then some F85 else none)) else (bif Nat.blt f 87 then (bif Nat.beq f 86 then some F86 else none) else (bif Nat.beq f 87 then some F87 else none))) else (bif Nat.blt f 90 then (bif Nat.blt f 89 then (bif Nat.beq f 88 then some F88 else none) else (bif Nat.beq f 89 then some F89 else none)) else (bif Nat.blt f 91 then (bif Nat.beq f 90 then some F90 else none) else (bif Nat.beq f 91 then some F91 else none)))))) else (bif Nat.blt f 107 then (bif Nat.blt f 99 then (bif Nat.blt f 95 then (bif Nat.blt f 93 then (bif Nat.beq f 92 then some F92 else none) else (bif Nat.blt f 94 then (bif Nat.beq f 93 then some F93 else none) else (bif Nat.beq f 94 then some F94 else none))) else (bif Nat.blt f 97 then (bif Nat.blt f 96 then (bif Nat.beq f 95 then some F95 else none) else (bif Nat.beq f 96 then some F96 else none)) else (bif Nat.blt f 98 then (bif Nat.beq f 97 then some F97 else none) else (bif Nat.beq f 98 then some F98 else none)))) else (bif Nat.blt f 103 then (bif Nat.blt f 101 then (bif Nat.blt f 100 then (bif Nat.beq f 99 then some F99 else none) else (bif Nat.beq f 100 then some F100 else none)) else (bif Nat.blt f 102 then (bif Nat.beq f 101 then some F101 else none) else (bif Nat.beq f 102 then some F102 else none))) else (bif Nat.blt f 105 then (bif Nat.blt f 104 then (bif Nat.beq f 103 then some F103 else none) else (bif Nat.beq f 104 then some F104 else none)) else (bif Nat.blt f 106 then (bif Nat.beq f 105 then some F105 else none) else (bif Nat.beq f 106 then some F106 else none))))) else (bif Nat.blt f 115 then (bif Nat.blt f 111 then (bif Nat.blt f 109 then (bif Nat.blt f 108 then (bif Nat.beq f 107 then some F107 else none) else (bif Nat.beq f 108 then some F108 else none)) else (bif Nat.blt f 110 then (bif Nat.beq f 109 then some F109 else none) else (bif Nat.beq f 110 then some F110 else none))) else (bif Nat.blt f 113 then (bif Nat.blt f 112 then (bif Nat.beq f 111 then some F111 else none) else (bif Nat.beq f 112 then some F112 else none)) else (bif Nat.blt f 114 then (bif Nat.beq f 113 then some F113 else none) else (bif Nat.beq f 114 then some F114 else none)))) else (bif Nat.blt f 119 then (bif Nat.blt f 117 then (bif Nat.blt f 116 then (bif Nat.beq f 115 then some F115 else none) else (bif Nat.beq f 116 then some F116 else none)) else (bif Nat.blt f 118 then (bif Nat.beq f 117 then some F117 else none) else (bif Nat.beq f 118 then some F118 else none))) else (bif Nat.blt f 121 then (bif Nat.blt f 120 then (bif Nat.beq f 119 then some F119 else none) else (bif Nat.beq f 120 then some F120 else none)) else (bif Nat.blt f 122 then (bif Nat.beq f 121 then some F121 else none) else (bif Nat.beq f 122 then some F122 else none))))))))

end Go.Ax.Dy
