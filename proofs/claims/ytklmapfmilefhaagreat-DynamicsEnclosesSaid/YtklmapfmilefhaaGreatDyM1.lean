/-
  A part of the proof: Dy M1.
-/
import Derived.Test.YtklmapfmilefhaaGreatDyS5
set_option linter.unusedSimpArgs false
set_option linter.unusedVariables false
set_option linter.unusedSectionVars false
namespace Go.Ax.Dy
open Go Go.Ax

theorem low_corner {a b c d m n : Int} (h1 : a ≤ m) (h2 : m ≤ b) (h3 : c ≤ n) (h4 : n ≤ d) : a * c ≤ m * n ∨ a * d ≤ m * n ∨ b * c ≤ m * n ∨ b * d ≤ m * n := by
  by_cases hm : 0 ≤ m
  · have k1 : m * c ≤ m * n := Int.mul_le_mul_of_nonneg_left h3 hm
    by_cases hc : 0 ≤ c
    · exact .inl (Int.le_trans (Int.mul_le_mul_of_nonneg_right h1 hc) k1)
    · exact .inr (.inr (.inl (Int.le_trans (Int.mul_le_mul_of_nonpos_right h2 (by omega)) k1)))
  · have k1 : m * d ≤ m * n := Int.mul_le_mul_of_nonpos_left (by omega) h4
    by_cases hd : 0 ≤ d
    · exact .inr (.inl (Int.le_trans (Int.mul_le_mul_of_nonneg_right h1 hd) k1))
    · exact .inr (.inr (.inr (Int.le_trans (Int.mul_le_mul_of_nonpos_right h2 (by omega)) k1)))

theorem high_corner {a b c d m n : Int} (h1 : a ≤ m) (h2 : m ≤ b) (h3 : c ≤ n) (h4 : n ≤ d) : m * n ≤ a * c ∨ m * n ≤ a * d ∨ m * n ≤ b * c ∨ m * n ≤ b * d := by
  by_cases hm : 0 ≤ m
  · have k1 : m * n ≤ m * d := Int.mul_le_mul_of_nonneg_left h4 hm
    by_cases hd : 0 ≤ d
    · exact .inr (.inr (.inr (Int.le_trans k1 (Int.mul_le_mul_of_nonneg_right h2 hd))))
    · exact .inr (.inl (Int.le_trans k1 (Int.mul_le_mul_of_nonpos_right h1 (by omega))))
  · have k1 : m * n ≤ m * c := Int.mul_le_mul_of_nonpos_left (by omega) h3
    by_cases hc : 0 ≤ c
    · exact .inr (.inr (.inl (Int.le_trans k1 (Int.mul_le_mul_of_nonneg_right h2 hc))))
    · exact .inl (Int.le_trans k1 (Int.mul_le_mul_of_nonpos_right h1 (by omega)))

theorem mn_le (a b : Int) : mn a b ≤ a ∧ mn a b ≤ b := by unfold mn; split <;> omega
theorem le_mx (a b : Int) : a ≤ mx a b ∧ b ≤ mx a b := by unfold mx; split <;> omega
theorem mn_self' (a : Int) : mn a a = a := by unfold mn; split <;> rfl
theorem mx_self' (a : Int) : mx a a = a := by unfold mx; split <;> rfl

theorem mul_point {a b c d m n : Int} (h1 : a ≤ m) (h2 : m ≤ b) (h3 : c ≤ n) (h4 : n ≤ d) (h : mulB a b c d = true) :
    mulB m m n n = true ∧ mulLo m m n n = dn m n ∧ mulHi m m n n = up m n ∧ mulLo a b c d ≤ dn m n ∧ dn m n ≤ up m n ∧ up m n ≤ mulHi a b c d ∧ up m n - dn m n ≤ 1 := by
  have e1 : mulLo m m n n = dn m n := by unfold mulLo; simp only [mn_self']
  have e2 : mulHi m m n n = up m n := by unfold mulHi; simp only [mx_self']
  simp only [mulB, smallB, prodB, Bool.and_eq_true, decide_eq_true_eq] at h
  obtain ⟨⟨⟨⟨⟨⟨⟨⟨s1, s2⟩, s3⟩, ⟨s4, s5⟩, s6⟩, p1⟩, p2⟩, p3⟩, p4⟩, ⟨s7, s8⟩, s9⟩ := h
  have l1 : mulLo a b c d ≤ dn a c ∧ mulLo a b c d ≤ dn a d ∧ mulLo a b c d ≤ dn b c ∧ mulLo a b c d ≤ dn b d := by
    unfold mulLo
    have q1 := mn_le (dn a c) (dn a d)
    have q2 := mn_le (mn (dn a c) (dn a d)) (dn b c)
    have q3 := mn_le (mn (mn (dn a c) (dn a d)) (dn b c)) (dn b d)
    omega
  have l2 : up a c ≤ mulHi a b c d ∧ up a d ≤ mulHi a b c d ∧ up b c ≤ mulHi a b c d ∧ up b d ≤ mulHi a b c d := by
    unfold mulHi
    have q1 := le_mx (up a c) (up a d)
    have q2 := le_mx (mx (up a c) (up a d)) (up b c)
    have q3 := le_mx (mx (mx (up a c) (up a d)) (up b c)) (up b d)
    omega
  have hlo := low_corner h1 h2 h3 h4
  have hhi := high_corner h1 h2 h3 h4
  have e3 : mulLo a b c d ≤ dn m n := by
    unfold dn at *
    rcases hlo with k | k | k | k <;> omega
  have e4 : up m n ≤ mulHi a b c d := by
    unfold up at *
    rcases hhi with k | k | k | k <;> omega
  have e5 : dn m n ≤ up m n ∧ up m n - dn m n ≤ 1 := by unfold dn up; omega
  refine ⟨?_, e1, e2, e3, e5.1, e4, e5.2⟩
  have pm : (m * n).natAbs / 65536 ≤ 1152921504606846976 := by
    rcases hlo with k | k | k | k <;> rcases hhi with k' | k' | k' | k' <;> omega
  unfold mulB
  rw [e1, e2]
  simp only [smallB, prodB, Bool.and_eq_true, decide_eq_true_eq]
  refine ⟨⟨⟨⟨⟨⟨⟨⟨?_, ?_⟩, ?_⟩, ⟨?_, ?_⟩, ?_⟩, pm⟩, pm⟩, pm⟩, pm⟩, ⟨?_, ?_⟩, ?_⟩ <;> omega
end Go.Ax.Dy
