/-
  A part of the proof: Dy OkT.
-/
import Derived.Test.YtklmapfmilefhaaGreatDyProg
import Derived.Test.YtklmapfmilefhaaGreatAxOkTree
import Derived.Test.YtklmapfmilefhaaGreatProg
import Derived.KernelRfl
set_option linter.unusedSimpArgs false
set_option linter.unusedVariables false
set_option linter.unusedSectionVars false
namespace Go.Ax.Dy
open Go Go.Ax Go.Proofs
set_option maxRecDepth 100000
theorem c2 : compF Tryz.prog 2 = some F2 := by kernel_rfl
theorem c3 : compF Tryz.prog 3 = some F3 := by kernel_rfl
theorem c4 : compF Tryz.prog 4 = some F4 := by kernel_rfl
theorem c5 : compF Tryz.prog 5 = some F5 := by kernel_rfl
theorem c6 : compF Tryz.prog 6 = some F6 := by kernel_rfl
theorem c7 : compF Tryz.prog 7 = some F7 := by kernel_rfl
theorem c8 : compF Tryz.prog 8 = some F8 := by kernel_rfl
theorem c9 : compF Tryz.prog 9 = some F9 := by kernel_rfl
theorem c10 : compF Tryz.prog 10 = some F10 := by kernel_rfl
theorem c11 : compF Tryz.prog 11 = some F11 := by kernel_rfl
theorem c12 : compF Tryz.prog 12 = some F12 := by kernel_rfl
theorem c13 : compF Tryz.prog 13 = some F13 := by kernel_rfl
theorem c14 : compF Tryz.prog 14 = some F14 := by kernel_rfl
theorem c15 : compF Tryz.prog 15 = some F15 := by kernel_rfl
theorem c16 : compF Tryz.prog 16 = some F16 := by kernel_rfl
theorem c17 : compF Tryz.prog 17 = some F17 := by kernel_rfl
theorem c18 : compF Tryz.prog 18 = some F18 := by kernel_rfl
theorem c19 : compF Tryz.prog 19 = some F19 := by kernel_rfl
theorem c20 : compF Tryz.prog 20 = some F20 := by kernel_rfl
theorem c21 : compF Tryz.prog 21 = some F21 := by kernel_rfl
theorem c22 : compF Tryz.prog 22 = some F22 := by kernel_rfl
theorem c23 : compF Tryz.prog 23 = some F23 := by kernel_rfl
theorem c24 : compF Tryz.prog 24 = some F24 := by kernel_rfl
theorem c25 : compF Tryz.prog 25 = some F25 := by kernel_rfl
theorem c26 : compF Tryz.prog 26 = some F26 := by kernel_rfl
theorem c27 : compF Tryz.prog 27 = some F27 := by kernel_rfl
theorem c28 : compF Tryz.prog 28 = some F28 := by kernel_rfl
theorem c29 : compF Tryz.prog 29 = some F29 := by kernel_rfl
theorem c30 : compF Tryz.prog 30 = some F30 := by kernel_rfl
theorem c31 : compF Tryz.prog 31 = some F31 := by kernel_rfl
theorem c32 : compF Tryz.prog 32 = some F32 := by kernel_rfl
theorem c33 : compF Tryz.prog 33 = some F33 := by kernel_rfl
theorem c34 : compF Tryz.prog 34 = some F34 := by kernel_rfl
theorem c35 : compF Tryz.prog 35 = some F35 := by kernel_rfl
theorem c36 : compF Tryz.prog 36 = some F36 := by kernel_rfl
theorem c37 : compF Tryz.prog 37 = some F37 := by kernel_rfl
theorem c38 : compF Tryz.prog 38 = some F38 := by kernel_rfl
theorem c39 : compF Tryz.prog 39 = some F39 := by kernel_rfl
theorem c40 : compF Tryz.prog 40 = some F40 := by kernel_rfl
theorem c41 : compF Tryz.prog 41 = some F41 := by kernel_rfl
theorem c42 : compF Tryz.prog 42 = some F42 := by kernel_rfl
theorem c43 : compF Tryz.prog 43 = some F43 := by kernel_rfl
theorem c44 : compF Tryz.prog 44 = some F44 := by kernel_rfl
theorem c45 : compF Tryz.prog 45 = some F45 := by kernel_rfl
theorem c46 : compF Tryz.prog 46 = some F46 := by kernel_rfl
theorem c47 : compF Tryz.prog 47 = some F47 := by kernel_rfl
theorem c48 : compF Tryz.prog 48 = some F48 := by kernel_rfl
theorem c49 : compF Tryz.prog 49 = some F49 := by kernel_rfl
theorem c50 : compF Tryz.prog 50 = some F50 := by kernel_rfl
theorem c51 : compF Tryz.prog 51 = some F51 := by kernel_rfl
theorem c52 : compF Tryz.prog 52 = some F52 := by kernel_rfl
theorem c53 : compF Tryz.prog 53 = some F53 := by kernel_rfl
theorem c54 : compF Tryz.prog 54 = some F54 := by kernel_rfl
theorem c55 : compF Tryz.prog 55 = some F55 := by kernel_rfl
theorem c56 : compF Tryz.prog 56 = some F56 := by kernel_rfl
theorem c57 : compF Tryz.prog 57 = some F57 := by kernel_rfl
theorem c58 : compF Tryz.prog 58 = some F58 := by kernel_rfl
theorem c59 : compF Tryz.prog 59 = some F59 := by kernel_rfl
theorem c60 : compF Tryz.prog 60 = some F60 := by kernel_rfl
theorem c61 : compF Tryz.prog 61 = some F61 := by kernel_rfl
theorem c62 : compF Tryz.prog 62 = some F62 := by kernel_rfl
theorem c63 : compF Tryz.prog 63 = some F63 := by kernel_rfl
theorem c64 : compF Tryz.prog 64 = some F64 := by kernel_rfl
theorem c65 : compF Tryz.prog 65 = some F65 := by kernel_rfl
theorem c66 : compF Tryz.prog 66 = some F66 := by kernel_rfl
theorem c67 : compF Tryz.prog 67 = some F67 := by kernel_rfl
theorem c68 : compF Tryz.prog 68 = some F68 := by kernel_rfl
theorem c69 : compF Tryz.prog 69 = some F69 := by kernel_rfl
theorem c70 : compF Tryz.prog 70 = some F70 := by kernel_rfl
theorem c71 : compF Tryz.prog 71 = some F71 := by kernel_rfl
theorem c72 : compF Tryz.prog 72 = some F72 := by kernel_rfl
theorem c73 : compF Tryz.prog 73 = some F73 := by kernel_rfl
theorem c74 : compF Tryz.prog 74 = some F74 := by kernel_rfl
theorem c75 : compF Tryz.prog 75 = some F75 := by kernel_rfl
theorem c76 : compF Tryz.prog 76 = some F76 := by kernel_rfl
theorem c77 : compF Tryz.prog 77 = some F77 := by kernel_rfl
theorem c78 : compF Tryz.prog 78 = some F78 := by kernel_rfl
theorem c79 : compF Tryz.prog 79 = some F79 := by kernel_rfl
theorem c80 : compF Tryz.prog 80 = some F80 := by kernel_rfl
theorem c81 : compF Tryz.prog 81 = some F81 := by kernel_rfl
theorem c82 : compF Tryz.prog 82 = some F82 := by kernel_rfl
theorem c83 : compF Tryz.prog 83 = some F83 := by kernel_rfl
theorem c84 : compF Tryz.prog 84 = some F84 := by kernel_rfl
theorem c85 : compF Tryz.prog 85 = some F85 := by kernel_rfl
theorem c86 : compF Tryz.prog 86 = some F86 := by kernel_rfl
theorem c87 : compF Tryz.prog 87 = some F87 := by kernel_rfl
theorem c88 : compF Tryz.prog 88 = some F88 := by kernel_rfl
theorem c89 : compF Tryz.prog 89 = some F89 := by kernel_rfl
theorem c90 : compF Tryz.prog 90 = some F90 := by kernel_rfl
theorem c91 : compF Tryz.prog 91 = some F91 := by kernel_rfl
theorem c92 : compF Tryz.prog 92 = some F92 := by kernel_rfl
theorem c93 : compF Tryz.prog 93 = some F93 := by kernel_rfl
theorem c94 : compF Tryz.prog 94 = some F94 := by kernel_rfl
theorem c95 : compF Tryz.prog 95 = some F95 := by kernel_rfl
theorem c96 : compF Tryz.prog 96 = some F96 := by kernel_rfl
theorem c97 : compF Tryz.prog 97 = some F97 := by kernel_rfl
theorem c98 : compF Tryz.prog 98 = some F98 := by kernel_rfl
theorem c99 : compF Tryz.prog 99 = some F99 := by kernel_rfl
theorem c100 : compF Tryz.prog 100 = some F100 := by kernel_rfl
theorem c101 : compF Tryz.prog 101 = some F101 := by kernel_rfl
theorem c102 : compF Tryz.prog 102 = some F102 := by kernel_rfl
theorem c103 : compF Tryz.prog 103 = some F103 := by kernel_rfl
theorem c104 : compF Tryz.prog 104 = some F104 := by kernel_rfl
theorem c105 : compF Tryz.prog 105 = some F105 := by kernel_rfl
theorem c106 : compF Tryz.prog 106 = some F106 := by kernel_rfl
theorem c107 : compF Tryz.prog 107 = some F107 := by kernel_rfl
theorem c108 : compF Tryz.prog 108 = some F108 := by kernel_rfl
theorem c109 : compF Tryz.prog 109 = some F109 := by kernel_rfl
theorem c110 : compF Tryz.prog 110 = some F110 := by kernel_rfl
theorem c111 : compF Tryz.prog 111 = some F111 := by kernel_rfl
theorem c112 : compF Tryz.prog 112 = some F112 := by kernel_rfl
theorem c113 : compF Tryz.prog 113 = some F113 := by kernel_rfl
theorem c114 : compF Tryz.prog 114 = some F114 := by kernel_rfl
theorem c115 : compF Tryz.prog 115 = some F115 := by kernel_rfl
theorem c116 : compF Tryz.prog 116 = some F116 := by kernel_rfl
theorem c117 : compF Tryz.prog 117 = some F117 := by kernel_rfl
theorem c118 : compF Tryz.prog 118 = some F118 := by kernel_rfl
theorem c119 : compF Tryz.prog 119 = some F119 := by kernel_rfl
theorem c120 : compF Tryz.prog 120 = some F120 := by kernel_rfl
theorem c121 : compF Tryz.prog 121 = some F121 := by kernel_rfl
theorem c122 : compF Tryz.prog 122 = some F122 := by kernel_rfl
theorem ok : Ok Tryz.prog A := fun f => (ok_lt (ok_lt (ok_lt (ok_lt (ok_lt (ok_lt (ok_leaf c2) (ok_lt (ok_leaf c3) (ok_leaf c4))) (ok_lt (ok_lt (ok_leaf c5) (ok_leaf c6)) (ok_lt (ok_leaf c7) (ok_leaf c8)))) (ok_lt (ok_lt (ok_lt (ok_leaf c9) (ok_leaf c10)) (ok_lt (ok_leaf c11) (ok_leaf c12))) (ok_lt (ok_lt (ok_leaf c13) (ok_leaf c14)) (ok_lt (ok_leaf c15) (ok_leaf c16))))) (ok_lt (ok_lt (ok_lt (ok_leaf c17) (ok_lt (ok_leaf c18) (ok_leaf c19))) (ok_lt (ok_lt (ok_leaf c20) (ok_leaf c21)) (ok_lt (ok_leaf c22) (ok_leaf c23)))) (ok_lt (ok_lt (ok_lt (ok_leaf c24) (ok_leaf c25)) (ok_lt (ok_leaf c26) (ok_leaf c27))) (ok_lt (ok_lt (ok_leaf c28) (ok_leaf c29)) (ok_lt (ok_leaf c30) (ok_leaf c31)))))) (ok_lt (ok_lt (ok_lt (ok_lt (ok_leaf c32) (ok_lt (ok_leaf c33) (ok_leaf c34))) (ok_lt (ok_lt (ok_leaf c35) (ok_leaf c36)) (ok_lt (ok_leaf c37) (ok_leaf c38)))) (ok_lt (ok_lt (ok_lt (ok_leaf c39) (ok_leaf c40)) (ok_lt (ok_leaf c41) (ok_leaf c42))) (ok_lt (ok_lt (ok_leaf c43) (ok_leaf c44)) (ok_lt (ok_leaf c45) (ok_leaf c46))))) (ok_lt (ok_lt (ok_lt (ok_leaf c47) (ok_lt (ok_leaf c48) (ok_leaf c49))) (ok_lt (ok_lt (ok_leaf c50) (ok_leaf c51)) (ok_lt (ok_leaf c52) (ok_leaf c53)))) (ok_lt (ok_lt (ok_lt (ok_leaf c54) (ok_leaf c55)) (ok_lt (ok_leaf c56) (ok_leaf c57))) (ok_lt (ok_lt (ok_leaf c58) (ok_leaf c59)) (ok_lt (ok_leaf c60) (ok_leaf c61))))))) (ok_lt (ok_lt (ok_lt (ok_lt (ok_lt (ok_leaf c62) (ok_lt (ok_leaf c63) (ok_leaf c64))) (ok_lt (ok_lt (ok_leaf c65) (ok_leaf c66)) (ok_lt (ok_leaf c67) (ok_leaf c68)))) (ok_lt (ok_lt (ok_lt (ok_leaf c69) (ok_leaf c70)) (ok_lt (ok_leaf c71) (ok_leaf c72))) (ok_lt (ok_lt (ok_leaf c73) (ok_leaf c74)) (ok_lt (ok_leaf c75) (ok_leaf c76))))) (ok_lt (ok_lt (ok_lt (ok_leaf c77) (ok_lt (ok_leaf c78) (ok_leaf c79))) (ok_lt (ok_lt (ok_leaf c80) (ok_leaf c81)) (ok_lt (ok_leaf c82) (ok_leaf c83)))) (ok_lt (ok_lt (ok_lt (ok_leaf c84) (ok_leaf c85)) (ok_lt (ok_leaf c86) (ok_leaf c87))) (ok_lt (ok_lt (ok_leaf c88) (ok_leaf c89)) (ok_lt (ok_leaf c90) (ok_leaf c91)))))) (ok_lt (ok_lt (ok_lt (ok_lt (ok_leaf c92) (ok_lt (ok_leaf c93) (ok_leaf c94))) (ok_lt (ok_lt (ok_leaf c95) (ok_leaf c96)) (ok_lt (ok_leaf c97) (ok_leaf c98)))) (ok_lt (ok_lt (ok_lt (ok_leaf c99) (ok_leaf c100)) (ok_lt (ok_leaf c101) (ok_leaf c102))) (ok_lt (ok_lt (ok_leaf c103) (ok_leaf c104)) (ok_lt (ok_leaf c105) (ok_leaf c106))))) (ok_lt (ok_lt (ok_lt (ok_lt (ok_leaf c107) (ok_leaf c108)) (ok_lt (ok_leaf c109) (ok_leaf c110))) (ok_lt (ok_lt (ok_leaf c111) (ok_leaf c112)) (ok_lt (ok_leaf c113) (ok_leaf c114)))) (ok_lt (ok_lt (ok_lt (ok_leaf c115) (ok_leaf c116)) (ok_lt (ok_leaf c117) (ok_leaf c118))) (ok_lt (ok_lt (ok_leaf c119) (ok_leaf c120)) (ok_lt (ok_leaf c121) (ok_leaf c122))))))))
end Go.Ax.Dy
