/-
  AX: the program's functions along the tree of the printed ones.
-/
import Derived.Test.YtklmapfmilefhaaGreatAxCode
set_option linter.unusedSimpArgs false
set_option linter.unusedVariables false
set_option linter.unusedSectionVars false
namespace Go.Ax
variable {P : Program}
theorem ok_lt {f n : Nat} {x y : Option AFunc} (h1 : ∀ F, x = some F → compF P f = some F) (h2 : ∀ F, y = some F → compF P f = some F) : ∀ F, (bif Nat.blt f n then x else y) = some F → compF P f = some F := by
  intro F h
  cases hb : Nat.blt f n with
  | true => rw [hb] at h; exact h1 F h
  | false => rw [hb] at h; exact h2 F h
theorem ok_leaf {f k : Nat} {G : AFunc} (h : compF P k = some G) : ∀ F, (bif Nat.beq f k then some G else none) = some F → compF P f = some F := by
  intro F hF
  cases hb : Nat.beq f k with
  | true =>
    rw [hb] at hF
    cases hF
    rw [Nat.eq_of_beq_eq_true hb]
    exact h
  | false => rw [hb] at hF; cases hF
end Go.Ax
